/- The operations that turn no memory, one by one. -/
import Derived.Test.YthfbefjmenddkaaDoorA5
namespace Go.Proofs.YthfbefjmenddkaaDoorA
open Go

variable {P : Program} {Z : Base} {ρ : Ren} {h h' : Heap} {w : World} {a : Act} {e : List V} {v : V} {cf : ACall}

def fits : EqKind → TypeDesc → Bool
  | .bool, .bool => true
  | .ptr, .pointer _ => true
  | .slice, .slice _ => true
  | .iface, .interface _ => true
  | .func, .func _ _ _ => true
  | _, _ => false

theorem run_eqv {k : EqKind} {x y : V} {p q : Value} {b : Bool} {t : TypeId} {d : TypeDesc} (ht : P.underlying t = some d) (hf : fits k d = true) (hp : VR ρ x p) (hq : VR ρ y q) (hb : eqv k x y = some b) :
    (Op.equal t p q).run P w = .ok b w := by
  have hu : ∀ w, (underlying t).run P w = .ok d w := run_underlying ht
  have h0 : ∃ m, Op.equal t p q = Op.equalIn (m + 1) t p q := ⟨9999, rfl⟩
  obtain ⟨m, h0⟩ := h0
  unfold eqv at hb
  split at hb <;> first
    | (cases hb; done)
    | (have hb := Option.some.inj hb
       subst hb
       cases d <;> simp only [fits] at hf <;> first
         | (cases hf; done)
         | (simp only [VR] at hp hq
            first
              | (subst hp; subst hq; rw [h0]; simp [Op.equalIn, hu]; done)
              | (subst hp; obtain ⟨_, _, rfl⟩ := hq; rw [h0]; simp [Op.equalIn, hu]; done)
              | (obtain ⟨_, _, rfl⟩ := hp; subst hq; rw [h0]; simp [Op.equalIn, hu]; done)
              | (subst hp; obtain ⟨_, rfl, _⟩ := hq; rw [h0]; simp [Op.equalIn, hu]; done)
              | (obtain ⟨_, rfl, _⟩ := hp; subst hq; rw [h0]; simp [Op.equalIn, hu]; done)
              | (subst hp; obtain ⟨_, _, rfl, _⟩ := hq; rw [h0]; simp [Op.equalIn, hu]; done)
              | (obtain ⟨_, _, rfl, _⟩ := hp; subst hq; rw [h0]; simp [Op.equalIn, hu]; done))
         | (first
              | (simp only [VR] at hp; subst hp; have hq' := hq.slice_inv; obtain ⟨_, _, _, _, _, _, _, _, rfl⟩ := hq'; rw [h0]; simp [Op.equalIn, hu]; done)
              | (simp only [VR] at hq; subst hq; have hp' := hp.slice_inv; obtain ⟨_, _, _, _, _, _, _, _, rfl⟩ := hp'; rw [h0]; simp [Op.equalIn, hu]; done)))

theorem eqKindA_fits {t : TypeId} {X Y : Operand} {k : EqKind} (hk : eqKindA P t X Y = some k) : ∃ d, P.underlying t = some d ∧ fits k d = true ∧ (k = .iface → (Region.isConst X || Region.isConst Y) = true) := by
  unfold eqKindA at hk
  split at hk <;> rename_i hu <;> first
    | (have hk := Option.some.inj hk; subst hk; exact ⟨_, hu, rfl, fun hh => by cases hh⟩)
    | (split at hk
       · rename_i hc
         have hk := Option.some.inj hk; subst hk; exact ⟨_, hu, rfl, fun _ => hc⟩
       · cases hk)
    | cases hk

theorem run_eqGuard_eq {op : BinOp} {k : EqKind} {x y : V} {p q : Value} {b : Bool} (t : TypeId) (X Y : Operand) (hc : k = .iface → (Region.isConst X || Region.isConst Y) = true)
    (hp : VR ρ x p) (hq : VR ρ y q) (hb : eqv k x y = some b) : (eqGuard op t X Y p q).run P w = .ok () w := by
  have key : ∀ op, (op = .eql ∨ op = .neq) → (eqGuard op t X Y p q).run P w = .ok () w := by
    intro op hop
    unfold eqv at hb
    split at hb <;> first
      | (cases hb; done)
      | (simp only [VR] at hp hq
         first
           | (subst hp; subst hq; rcases hop with rfl | rfl <;> rfl)
           | (subst hp; subst hq
              have hc := hc rfl
              rcases hop with rfl | rfl <;> cases X <;> cases Y <;> first
                | rfl
                | (simp [Region.isConst] at hc; done))
           | (subst hp; obtain ⟨_, _, rfl⟩ := hq; rcases hop with rfl | rfl <;> rfl)
           | (obtain ⟨_, _, rfl⟩ := hp; subst hq; rcases hop with rfl | rfl <;> rfl)
           | (subst hp; obtain ⟨_, rfl, _⟩ := hq; rcases hop with rfl | rfl <;> rfl)
           | (obtain ⟨_, rfl, _⟩ := hp; subst hq; rcases hop with rfl | rfl <;> rfl)
           | (subst hp; obtain ⟨_, _, rfl, _⟩ := hq; rcases hop with rfl | rfl <;> rfl)
           | (obtain ⟨_, _, rfl, _⟩ := hp; subst hq; rcases hop with rfl | rfl <;> rfl))
      | (first
           | (simp only [VR] at hp; subst hp; have hq' := hq.slice_inv; obtain ⟨_, _, _, _, _, _, _, _, rfl⟩ := hq'; rcases hop with rfl | rfl <;> rfl)
           | (simp only [VR] at hq; subst hq; have hp' := hp.slice_inv; obtain ⟨_, _, _, _, _, _, _, _, rfl⟩ := hp'; rcases hop with rfl | rfl <;> rfl))
  cases op <;> first
    | exact key _ (.inl rfl)
    | exact key _ (.inr rfl)
    | rfl

theorem run_un {op : UnOp} {x v : V} {p : Value} (hp : VR ρ x p) (hb : un op x = some v) : ∃ u, (Op.unary op p).run P w = .ok u w ∧ VR ρ v u := by
  unfold un at hb
  split at hb
  · have e1 := hp.int_inv
    subst e1
    rw [wrapF_eq] at hb
    have hb := Option.some.inj hb
    subst hb
    exact ⟨_, by simp [Op.unary, Op.intArith], VR.mk_int⟩
  · have e1 := hp.int_inv
    subst e1
    rename_i k n
    simp only [binInt, wrapF_eq, ← modK_eq] at hb
    have hb := Option.some.inj hb
    subst hb
    exact ⟨_, by simp [Op.unary, Op.intBits], VR.mk_int⟩
  · have e1 := hp.bool_inv
    subst e1
    have hb := Option.some.inj hb
    subst hb
    exact ⟨_, by simp [Op.unary], VR.mk_bool⟩
  · cases hb

theorem run_minmax (m : Bool) : ∀ {vs : List V} {x v : V} {p : Value} {us : List Value}, VR ρ x p → VRL ρ vs us → minmax m x vs = some v →
    ∃ u, (us.foldlM (if m then Builtin.max2 else Builtin.min2) p).run P w = .ok u w ∧ VR ρ v u
  | [], x, v, p, us, hp, hus, hb => by
    simp only [VRL] at hus
    subst hus
    cases x <;> simp only [minmax] at hb <;> first
      | (cases hb; done)
      | (have hb := Option.some.inj hb; subst hb; exact ⟨p, rfl, hp⟩)
  | y :: vs, x, v, p, us, hp, hus, hb => by
    simp only [VRL] at hus
    obtain ⟨q, qs, rfl, hq, hqs⟩ := hus
    cases x <;> cases y <;> simp only [minmax] at hb <;> first
      | (cases hb; done)
      | (rename_i k n k' n'
         split at hb
         · rename_i hk
           subst hk
           have e1 := hp.int_inv
           have e2 := hq.int_inv
           subst e1; subst e2
           obtain ⟨u, h1, h2⟩ := run_minmax m VR.mk_int hqs hb
           refine ⟨u, ?_, h2⟩
           cases m <;> simp [List.foldlM, Builtin.max2, Builtin.min2] at h1 ⊢ <;> exact h1
         · cases hb)

/-! ### Cutting -/

theorem run_bound {x : V} {p : Value} {y n : Nat} (c : BoundsCode) (hp : VR ρ x p) (hb : bound x y = some n) : (Instr.sliceBound p y c).run P w = .ok n w ∧ n ≤ y := by
  unfold bound at hb
  split at hb
  · have e1 := hp.int_inv
    subst e1
    split at hb
    · rename_i i hi
      have hb := Option.some.inj hb
      subst hb
      exact ⟨by simp [Instr.sliceBound, asIntOf, hi], by omega⟩
    · cases hb
  · cases hb

theorem bound_mono {x : V} {y y' n : Nat} (hb : bound x y = some n) (hy : y ≤ y') : bound x y' = some n := by
  unfold bound at hb ⊢
  split at hb
  · split at hb
    · rename_i i hi
      rw [if_pos (by omega)]
      exact hb
    · cases hb
  · cases hb

def VRO (ρ : Ren) : Option V → Option Value → Prop
  | none, none => True
  | some v, some u => VR ρ v u
  | _, _ => False

/-- The bounds, in the model: 'cap' is what the slice truly holds. -/
theorem run_bounds {lo hi mx : Option V} {plo phi pmx : Option Value} {len cap : Nat} {c : Option Nat} {l r : Nat} {m : Option Nat} (s : Bool) (hlo : VRO ρ lo plo) (hhi : VRO ρ hi phi) (hmx : VRO ρ mx pmx)
    (hc : ∀ c', c = some c' → cap = c') (hlen : len ≤ cap) (hb : bounds len c lo hi mx = some (l, r, m)) :
    ∃ m', (Instr.sliceBounds s len cap plo phi pmx).run P w = .ok (l, r, m') w ∧ l ≤ r ∧ r ≤ m' ∧ m' ≤ cap ∧ (∀ m0, m = some m0 → m' = m0) ∧ (m = none → m' = cap ∧ c = none ∧ r ≤ len) := by
  obtain ⟨m1, hm1, r1, hr1, l1, hl1, e1, e2, e3⟩ : ∃ m1, maxOf len c mx = some m1 ∧ ∃ r1, highOf len m1 hi mx = some r1 ∧ ∃ l1, lowOf r1 lo = some l1 ∧ l1 = l ∧ r1 = r ∧ m1 = m := by
    unfold bounds at hb
    split at hb
    · cases hb
    · rename_i m1 h1
      split at hb
      · cases hb
      · rename_i r1 h2
        split at hb
        · cases hb
        · rename_i l1 h3
          simp only [Option.some.injEq, Prod.mk.injEq] at hb
          exact ⟨m1, h1, r1, h2, l1, h3, hb.1, hb.2.1, hb.2.2⟩
  subst e1; subst e2; subst e3
  unfold maxOf at hm1
  unfold highOf at hr1
  unfold lowOf at hl1
  -- the max
  have hM : ∃ m', (match pmx with
      | some v => Instr.sliceBound v cap (if s then .slice3Acap else .slice3Alen)
      | none => Pure.pure cap).run P w = .ok m' w ∧ m' ≤ cap ∧ (∀ m0, m1 = some m0 → m' = m0) ∧ (m1 = none → m' = cap ∧ c = none ∧ pmx = none) := by
    cases mx with
    | none =>
      cases pmx with
      | some _ => exact hmx.elim
      | none =>
        simp only [Option.some.injEq] at hm1
        subst hm1
        exact ⟨cap, rfl, Nat.le_refl _, fun m0 hm => hc m0 hm, fun hn => ⟨rfl, hn, rfl⟩⟩
    | some x =>
      cases pmx with
      | none => exact hmx.elim
      | some p =>
        cases c with
        | some c' =>
          simp only [Option.map_eq_some_iff] at hm1
          obtain ⟨n, hn, rfl⟩ := hm1
          have := hc c' rfl
          subst this
          obtain ⟨h1, h2⟩ := run_bound (P := P) (w := w) (if s then .slice3Acap else .slice3Alen) hmx hn
          exact ⟨n, h1, h2, fun m0 hm => Option.some.inj hm, fun hn => by cases hn⟩
        | none =>
          simp only [Option.map_eq_some_iff] at hm1
          obtain ⟨n, hn, rfl⟩ := hm1
          obtain ⟨h1, h2⟩ := run_bound (P := P) (w := w) (if s then .slice3Acap else .slice3Alen) hmx (bound_mono hn hlen)
          exact ⟨n, h1, h2, fun m0 hm => Option.some.inj hm, fun hn => by cases hn⟩
  obtain ⟨m', hm', hmle, hms, hmn⟩ := hM
  have hH : (match phi, pmx with
      | some v, some _ => Instr.sliceBound v m' .slice3B
      | some v, none => Instr.sliceBound v m' (if s then .sliceAcap else .sliceAlen)
      | none, none => Pure.pure len
      | none, some _ => stuck "Slice: max without high").run P w = .ok r1 w ∧ r1 ≤ m' ∧ (m1 = none → r1 ≤ len) := by
    cases hi with
    | none =>
      cases phi with
      | some _ => exact hhi.elim
      | none =>
        cases mx with
        | some _ => simp at hr1
        | none =>
          cases pmx with
          | some _ => exact hmx.elim
          | none =>
            simp only [Option.isSome_none, Bool.false_eq_true, if_false, Option.some.injEq] at hr1
            subst hr1
            refine ⟨rfl, ?_, fun _ => Nat.le_refl _⟩
            cases m1 with
            | none => have := (hmn rfl).1; omega
            | some m0 =>
              simp only [Option.some.injEq] at hm1
              have h1 := hms m0 rfl
              have h2 := hc m0 hm1
              omega
    | some x =>
      cases phi with
      | none => exact hhi.elim
      | some p =>
        cases m1 with
        | some m0 =>
          have h1 := hms m0 rfl
          subst h1
          obtain ⟨k1, k2⟩ := run_bound (P := P) (w := w) .slice3B hhi hr1
          obtain ⟨k3, _⟩ := run_bound (P := P) (w := w) (if s then .sliceAcap else .sliceAlen) hhi hr1
          cases pmx with
          | none => exact ⟨k3, k2, fun hn => by cases hn⟩
          | some _ => exact ⟨k1, k2, fun hn => by cases hn⟩
        | none =>
          obtain ⟨h1, h2, h3⟩ := hmn rfl
          subst h1; subst h3
          obtain ⟨k1, k2⟩ := run_bound (P := P) (w := w) (if s then .sliceAcap else .sliceAlen) hhi (bound_mono hr1 hlen)
          obtain ⟨_, k3⟩ := run_bound (P := P) (w := w) .slice3B hhi hr1
          exact ⟨k1, k2, fun _ => k3⟩
  obtain ⟨hH1, hH2, hH3⟩ := hH
  have hL : (match plo with
      | some v => Instr.sliceBound v r1 (if pmx.isSome then .slice3C else .sliceB)
      | none => Pure.pure 0).run P w = .ok l1 w ∧ l1 ≤ r1 := by
    cases lo with
    | none =>
      cases plo with
      | some _ => exact hlo.elim
      | none => simp only [Option.some.injEq] at hl1; subst hl1; exact ⟨rfl, Nat.zero_le _⟩
    | some x =>
      cases plo with
      | none => exact hlo.elim
      | some p => exact run_bound _ hlo hl1
  refine ⟨m', ?_, hL.2, hH2, hmle, hms, fun hn => ⟨(hmn hn).1, (hmn hn).2.1, hH3 hn⟩⟩
  obtain ⟨hL1, _⟩ := hL
  unfold Instr.sliceBounds
  cases pmx <;> cases phi <;> cases plo <;> dsimp only [Option.isSome] at hm' hH1 hL1 ⊢ <;> first
    | (rw [Sem.run_bind, hm', Result.andThen_ok, Sem.run_bind, hH1, Result.andThen_ok, Sem.run_bind, hL1, Result.andThen_ok]; rfl)
    | (simp only [run_stuck] at hH1; cases hH1)

end Go.Proofs.YthfbefjmenddkaaDoorA
