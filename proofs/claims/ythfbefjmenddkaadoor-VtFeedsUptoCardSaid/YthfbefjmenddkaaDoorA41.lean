/- Rows whose order is not fixed, with blocks that may be made at several places: the walk. -/
import Derived.Test.YthfbefjmenddkaaDoorA23
import Derived.Test.YthfbefjmenddkaaDoorA40
namespace Go.Proofs.YthfbefjmenddkaaDoorA
open Go

variable {P : Program} {Z : Base} {ρ : Ren} {h h' h2 : Heap} {w : World} {a : Act} {e e' e2 : Env} {v : V} {cf : ACall}

theorem comp_noFl {op : Op} {ao : AOp} (hc : compOp P op = some ao) : isF ao = false := by
  unfold compOp at hc
  split at hc <;> (repeat' split at hc) <;> first
    | (cases hc; done)
    | (simp only [Option.map_eq_some_iff] at hc; obtain ⟨_, _, rfl⟩ := hc; rfl)
    | (simp only [Option.some.injEq] at hc; subst hc; rfl)

theorem compOper_noFl {ops : List Oper} {o : Oper} {x : AOper} (hc : compOper P ops o = some x) : isF x.op = false := by
  unfold compOper at hc
  split at hc
  · rename_i op g h1 h2
    have hc := Option.some.inj hc
    subst hc
    exact comp_noFl h1
  · cases hc

theorem floatL_length (f : Nat → AOper → Option Nat) : ∀ (l : List AOper) (i : Nat), (floatL f i l).length = l.length
  | [], _ => rfl
  | o :: os, i => by simp only [floatL, List.length_cons, floatL_length f os]

theorem floatL_at (f : Nat → AOper → Option Nat) : ∀ (l : List AOper) (k i : Nat) (x : AOper), (floatL f k l)[i]? = some x →
    ∃ x0, l[i]? = some x0 ∧ (x = x0 ∨ ∃ k, x = { x0 with op := .float k x0.op })
  | [], _, _, _, hx => by simp [floatL] at hx
  | o :: os, k, 0, x, hx => by
    simp only [floatL, List.getElem?_cons_zero, Option.some.injEq] at hx
    refine ⟨o, by simp, ?_⟩
    split at hx
    · exact .inr ⟨_, hx.symm⟩
    · exact .inl hx.symm
  | o :: os, k, i + 1, x, hx => by
    simp only [floatL, List.getElem?_cons_succ] at hx
    obtain ⟨x0, h1, h2⟩ := floatL_at f os (k + 1) i x hx
    exact ⟨x0, by simpa using h1, h2⟩

theorem actH_congr {n0 : Nat} {d d2 : List It} : ∀ {is : List Nat} {h : Heap}, (∀ i ∈ is, d[i]? = d2[i]?) → actH n0 d is h = actH n0 d2 is h
  | [], _, _ => rfl
  | i :: is, h, hd => by
    simp only [actH]
    rw [hd i (by simp)]
    exact actH_congr fun j hj => hd j (by simp [hj])

theorem traceF_ok {n0 : Nat} {acts : List (List Nat)} : ∀ {os : List AOper} {done : List It} {e : Env} {h : Heap} {l : List It}, traceF cf n0 acts done os e h = some l →
    ∃ r, l = done ++ r ∧ r.map (·.o) = os ∧ ∀ i x, r[i]? = some x →
      stepF cf (n0 + (done.length + i)) (done ++ r.take i) x.o (envL (fun j => decide (j < done.length + i)) done.length r e) (actH n0 (done ++ r.take i) (acts.getD (done.length + i) []) (heapL (fun j => decide (j < done.length + i)) done.length r h)) = some (x.v, x.h)
  | [], done, e, h, l, ht => by
    simp only [traceF, Option.some.injEq] at ht
    subst ht
    exact ⟨[], by simp, rfl, fun i x hi => by simp at hi⟩
  | o :: os, done, e, h, l, ht => by
    simp only [traceF] at ht
    split at ht
    · cases ht
    · rename_i v1 h1 hs
      obtain ⟨r, rfl, hr, hat⟩ := traceF_ok ht
      refine ⟨⟨o, v1, h1⟩ :: r, by simp, by simp [hr], fun i x hi => ?_⟩
      cases i with
      | zero =>
        simp only [List.getElem?_cons_zero, Option.some.injEq] at hi
        subst hi
        simp only [Nat.add_zero, List.take_zero, List.append_nil]
        rw [envL_none _ _ _ (fun j hj => by simp; omega), heapL_none _ _ _ (fun j hj => by simp; omega)]
        exact hs
      | succ i =>
        have ih := hat i x (by simpa using hi)
        simp only [List.length_append, List.length_cons, List.length_nil, Nat.zero_add] at ih
        rw [show done.length + (i + 1) = done.length + 1 + i by omega]
        simp only [envL, heapL, List.take_succ_cons]
        have hk : decide (done.length < done.length + 1 + i) = true := by simp; omega
        simp only [hk, if_true, Bool.true_and]
        rw [show done ++ ⟨o, v1, h1⟩ :: r.take i = done ++ [⟨o, v1, h1⟩] ++ r.take i by simp]
        exact ih

/-- The block that the i-th makes. -/
noncomputable def blkOf (n0 : Nat) (l : List It) (i : Nat) : Option Blk := match l[i]? with
  | some x => x.h.get (n0 + i)
  | none => none

theorem actH_cons (n0 : Nat) (l : List It) (i : Nat) (is : List Nat) (h : Heap) : actH n0 l (i :: is) h = actH n0 l is (match blkOf n0 l i with | some B => h.set (n0 + i) (some B) | none => h) := by
  simp only [actH, blkOf]
  cases l[i]? <;> rfl

/-- A block that stands in the world, and is not known yet. -/
def HidOk (Z Z' : Base) (ρ : Ren) (n : Nat) (L : Loc) (B : Blk) : Prop :=
  Z.K L.block = none ∧ Z'.H L.block = true ∧ ρ n = some L ∧ ∃ us elem fz cs esz, Z'.K L.block = some (.cells us elem fz) ∧ B = .cells cs elem esz true ∧ cs.length ≤ L.room ∧ L.off + L.room ≤ us.size ∧ L.esz = esz ∧
    (fz.1 = fz.2 ∨ us.size ≤ fz.1) ∧ ∀ i v, cs[i]? = some v → ∃ u, us[L.off + i]? = some u ∧ VR ρ v u

theorem HidOk.mono {Z' : Base} {ρ' : Ren} {n : Nat} {L : Loc} {B : Blk} (hb : HidOk Z Z' ρ n L B) (hle : ρ.le ρ') : HidOk Z Z' ρ' n L B := by
  obtain ⟨h1, h2, h3, us, elem, fz, cs, esz, h4, h5, h6, h7, h8, h9, h10⟩ := hb
  exact ⟨h1, h2, hle _ _ h3, us, elem, fz, cs, esz, h4, h5, h6, h7, h8, h9, fun i v hi => by obtain ⟨u, k1, k2⟩ := h10 i v hi; exact ⟨u, k1, k2.mono hle _ _⟩⟩

/-- The state on the way: fr: those that have not been made; pd: those that stand hidden. -/
def FSt (Z : Base) (ρ₀ : Ren) (n0 : Nat) (blk : Nat → Option Blk) (fr pd : Nat → Prop) (e : Env) (h : Heap) (a : Act) (w : World) : Prop :=
  (∃ (Z' : Base) (ρ : Ren) (loc : Nat → Loc), ρ₀.le ρ ∧ Rel Z' ρ h w ∧ ER ρ e a.tmps ∧ Z'.W = Z.W ∧ Z'.G = Z.G ∧ (∀ k o, Z.K k = some o → Z'.K k = some o) ∧ (∀ k, Z.H k = true → Z'.H k = true) ∧ (∀ b, Z.R b = true → Z'.R b = true) ∧
    (∀ i, fr i → Z'.R (n0 + i) = true ∧ Z.R (n0 + i) = false) ∧ (∀ i B, pd i → blk i = some B → HidOk Z Z' ρ (n0 + i) (loc i) B) ∧
    (∀ i j, pd i → pd j → blk i ≠ none → blk j ≠ none → i ≠ j → (loc i).block ≠ (loc j).block)) ∧ a.defers = []

variable {ρ₀ : Ren} {n0 : Nat} {blk : Nat → Option Blk} {fr pd fr' pd' : Nat → Prop}

theorem FSt.less (hs : FSt Z ρ₀ n0 blk fr pd e h a w) (h1 : ∀ i, fr' i → fr i) (h2 : ∀ i, pd' i → pd i) : FSt Z ρ₀ n0 blk fr' pd' e h a w := by
  obtain ⟨⟨Z', ρ, loc, k1, k2, k3, k4, k5, k6, k7, k8, k9, k10, k11⟩, hd⟩ := hs
  exact ⟨⟨Z', ρ, loc, k1, k2, k3, k4, k5, k6, k7, k8, fun i hi => k9 i (h1 i hi), fun i B hi => k10 i B (h2 i hi), fun i j hi hj => k11 i j (h2 i hi) (h2 j hj)⟩, hd⟩

theorem FSt.like (hs : FSt Z ρ₀ n0 blk fr pd e h a w) (hl : e.like e2) : FSt Z ρ₀ n0 blk fr pd e2 h a w := by
  obtain ⟨⟨Z', ρ, loc, k1, k2, k3, k4⟩, hd⟩ := hs
  exact ⟨⟨Z', ρ, loc, k1, k2, k3.like hl, k4⟩, hd⟩

theorem FSt.st (hs : FSt Z ρ₀ n0 blk fr pd e h a w) : St Z ρ₀ e h a w := by
  obtain ⟨⟨Z', ρ, loc, k1, k2, k3, k4, k5, k6, k7, k8, _⟩, hd⟩ := hs
  exact ⟨⟨ρ, k1, k2.less k4.symm k5.symm k6 k7 k8, k3⟩, hd⟩

theorem FSt.show1 (hs : FSt Z ρ₀ n0 blk fr pd e h a w) {i : Nat} (hi : pd i) : FSt Z ρ₀ n0 blk fr (fun j => pd j ∧ j ≠ i) e (match blk i with | some B => h.set (n0 + i) (some B) | none => h) a w := by
  obtain ⟨⟨Z', ρ, loc, k1, k2, k3, k4, k5, k6, k7, k8, k9, k10, k11⟩, hd⟩ := hs
  cases hb : blk i with
  | none => exact ⟨⟨Z', ρ, loc, k1, k2, k3, k4, k5, k6, k7, k8, k9, fun j B hj => k10 j B hj.1, fun j k hj hk => k11 j k hj.1 hk.1⟩, hd⟩
  | some B =>
    obtain ⟨q1, q2, q3, us, elem, fz, cs, esz, q4, rfl, q6, q7, q8, q9, q10⟩ := k10 i B hi hb
    refine ⟨⟨_, ρ, loc, k1, k2.show q4 q2 q3 q6 q7 q8 q9 q10, k3, k4, k5, fun k o hk => ?_, k7, k8, k9, fun j B' hj hb' => ?_, fun j k hj hk => k11 j k hj.1 hk.1⟩, hd⟩
    · simp only
      rw [if_neg (fun e => by subst e; rw [q1] at hk; cases hk)]
      exact k6 k o hk
    · obtain ⟨p1, p2, p3, us', elem', fz', cs', esz', p4, p5⟩ := k10 j B' hj.1 hb'
      refine ⟨p1, p2, p3, us', elem', fz', cs', esz', ?_, p5⟩
      simp only
      rw [if_neg (k11 j i hj.1 hi (by rw [hb']; simp) (by rw [hb]; simp) hj.2)]
      exact p4

theorem FSt.shows {l : List It} : ∀ {is : List Nat} {pd : Nat → Prop} {h : Heap}, is.Nodup → (∀ i ∈ is, pd i) → FSt Z ρ₀ n0 (blkOf n0 l) fr pd e h a w → FSt Z ρ₀ n0 (blkOf n0 l) fr (fun j => pd j ∧ j ∉ is) e (actH n0 l is h) a w
  | [], pd, h, _, _, hs => hs.less (fun _ h => h) (fun _ h => h.1)
  | i :: is, pd, h, hn, hp, hs => by
    rw [actH_cons]
    obtain ⟨h1, h2⟩ := List.nodup_cons.1 hn
    refine (FSt.shows h2 (fun j hj => ⟨hp j (by simp [hj]), fun e => h1 (e ▸ hj)⟩) (hs.show1 (hp i (by simp)))).less (fun _ h => h) (fun j hj => ?_)
    obtain ⟨k1, k2⟩ := hj
    simp only [List.mem_cons, not_or] at k2
    exact ⟨⟨k1, k2.1⟩, k2.2⟩

theorem FSt.drew (hs : FSt Z ρ₀ n0 blk fr pd e h a w) (n : Nat) : FSt Z ρ₀ n0 blk fr pd e h a { w with drawn := n } := by
  obtain ⟨⟨Z', ρ, loc, k1, k2, k3⟩, hd⟩ := hs
  exact ⟨⟨Z', ρ, loc, k1, k2.drew n, k3⟩, hd⟩

theorem FSt.step {ops : Array Oper} {o : Oper} {ao : AOper} (hG : P.globals.size ≤ Z.G) (hcf : Answers P cf) (hc : compOper P ops.toList o = some ao) (hs : stepA cf ao e h = some (e', h')) (hst : FSt Z ρ₀ n0 blk fr pd e h a w)
    {K : Act → World → Prop} {Q : Exit → Act → World → Prop} (hK : ∀ a' w', FSt Z ρ₀ n0 blk fr pd e' h' a' w' → K a' w') :
    if Region.wanted o (yielded ops a.tmps) then o.wp P a w K Q else K (a.put o.dst undef) w := by
  obtain ⟨⟨Z', ρ, loc, k1, k2, k3, k4, k5, k6, k7, k8, k9, k10, k11⟩, hd⟩ := hst
  refine step_wp (Z := Z') (ρ₀ := ρ) (by rw [k5]; exact hG) hcf hc hs ⟨⟨ρ, Ren.le_refl ρ, k2, k3⟩, hd⟩ (fun a' w' hst' => hK a' w' ?_)
  obtain ⟨⟨ρ', q1, q2, q3⟩, hd'⟩ := hst'
  exact ⟨⟨Z', ρ', loc, Ren.le_trans k1 q1, q2, q3, k4, k5, k6, k7, k8, k9, fun i B hi hb => (k10 i B hi hb).mono q1, k11⟩, hd'⟩

theorem FSt.float {ops : Array Oper} {o : Oper} {ao : AOper} {i : Nat} {h1 : Heap} (hG : P.globals.size ≤ Z.G) (hc : compOper P ops.toList o = some ao) (hal : isAlloc ao.op = true) (hs : stepV cf ao e (bare0 (n0 + i)) = some (v, h1)) (hst : FSt Z ρ₀ n0 blk fr pd e h a w)
    (hfr : fr i) (hpd : ¬ pd i) (hb : blk i = h1.get (n0 + i)) {K : Act → World → Prop} {Q : Exit → Act → World → Prop} (hK : ∀ a' w', FSt Z ρ₀ n0 blk (fun j => fr j ∧ j ≠ i) (fun j => pd j ∨ j = i) (put e o.dst v) h a' w' → K a' w') :
    if Region.wanted o (yielded ops a.tmps) then o.wp P a w K Q else K (a.put o.dst undef) w := by
  obtain ⟨⟨Z', ρ, loc, k1, k2, k3, k4, k5, k6, k7, k8, k9, k10, k11⟩, hd⟩ := hst
  unfold compOper at hc
  split at hc
  · rename_i op g hop hg
    have hc := Option.some.inj hc
    subst hc
    rw [wanted_ok hg k3]
    rw [stepV_eq] at hs
    simp only at hs hal
    split at hs
    · rename_i hw
      rw [if_pos hw]
      obtain ⟨cs, elem, esz, x, rfl, rfl, us, rest, fz, d, u, q1, q2, q3, q4⟩ := doesB_op (by rw [k5]; exact hG) hop hal hs k2 k3
      have hB : blk i = some (.cells cs elem esz true) := by
        rw [hb, Heap.get_new]
        exact if_pos rfl
      have hr := k2.hide (us := us) (rest := rest) elem esz fz d (n0 + i) (k9 i hfr).1
      have hle : ρ.le (ρ.upd (n0 + i) ⟨w.heap.size, 0, us.length + rest.length, esz⟩) := Ren.le_upd (k2.res _ (k9 i hfr).1).2 _
      unfold Oper.wp
      rw [q2]
      refine hK _ _ ?_
      have hZK : Z.K w.heap.size = none := by
        cases hz : Z.K w.heap.size with
        | none => rfl
        | some ob => exact absurd (Array.getElem?_eq_some_iff.1 (k2.keep _ _ (k6 _ _ hz))).1 (Nat.lt_irrefl _)
      have hvr : VR (ρ.upd (n0 + i) ⟨w.heap.size, 0, us.length + rest.length, esz⟩) (x (bare0 (n0 + i)).next) u := q4 _ _ (by simp [Ren.upd, bare0])
      have hnew : ∀ j B, pd j → blk j = some B → (loc j).block ≠ w.heap.size := fun j B hj hbj he => by
        obtain ⟨p1, p2, p3, us', elem', fz', cs', esz', p4, p5⟩ := k10 j B hj hbj
        exact absurd (Array.getElem?_eq_some_iff.1 (k2.keep _ _ p4)).1 (by rw [he]; exact Nat.lt_irrefl _)
      obtain ⟨⟨ρ2, e1, e2, e3⟩, e4⟩ := put_ok (dst := o.dst) (Ren.le_refl _) hr (k3.mono hle) hd hvr
      have hne : ∀ j, pd j → j ≠ i := fun j hj e => hpd (e ▸ hj)
      refine ⟨⟨_, ρ2, fun j => if j = i then ⟨w.heap.size, 0, us.length + rest.length, esz⟩ else loc j, Ren.le_trans k1 (Ren.le_trans hle e1), e2, e3, k4, k5, fun k ob hk => ?_, fun k hk => ?_, fun b hb2 => ?_, fun j hj => ?_, fun j B hj hbj => ?_, fun j k hj hk hbj hbk hjk => ?_⟩, e4⟩
      · simp only
        rw [if_neg (fun e => by subst e; rw [hZK] at hk; cases hk)]
        exact k6 k ob hk
      · simp only [Bool.or_eq_true]
        exact .inr (k7 k hk)
      · simp only [Bool.and_eq_true, Bool.not_eq_true', decide_eq_false_iff_not]
        exact ⟨k8 b hb2, fun e => by subst e; rw [(k9 i hfr).2] at hb2; cases hb2⟩
      · obtain ⟨g1, g2⟩ := hj
        simp only [Bool.and_eq_true, Bool.not_eq_true', decide_eq_false_iff_not]
        exact ⟨⟨(k9 j g1).1, by omega⟩, (k9 j g1).2⟩
      · by_cases hji : j = i
        · subst hji
          rw [hB] at hbj
          have hbj := Option.some.inj hbj
          subst hbj
          simp only [if_true]
          refine ⟨hZK, by simp, e1 _ _ (by simp [Ren.upd]), (us ++ rest).toArray, elem, fz, cs, esz, by simp, rfl, ?_, by simp, rfl, by simpa using q3, fun k vv hk => ?_⟩
          · simp only
            rw [q1.length]; omega
          · obtain ⟨uu, g1, g2⟩ := q1.get hk
            refine ⟨uu, ?_, g2.mono (Ren.le_trans hle e1) _ _⟩
            have hlt : k < us.length := by
              rcases Nat.lt_or_ge k us.length with h' | h'
              · exact h'
              · rw [List.getElem?_eq_none h'] at g1; cases g1
            simp [List.getElem?_append_left hlt, g1]
        · have hj' : pd j := hj.resolve_right hji
          simp only [if_neg hji]
          obtain ⟨p1, p2, p3, us', elem', fz', cs', esz', p4, p5⟩ := (k10 j B hj' hbj).mono (Ren.le_trans hle e1)
          refine ⟨p1, by simp [p2], p3, us', elem', fz', cs', esz', ?_, p5⟩
          simp only
          rw [if_neg (hnew j B hj' hbj)]
          exact p4
      · by_cases hji : j = i
        · have hk' : pd k := hk.resolve_right (fun e => hjk (by rw [hji, e]))
          have hki : k ≠ i := fun e => hjk (by rw [hji, e])
          simp only [if_pos hji, if_neg hki]
          cases hbk' : blk k with
          | none => exact absurd hbk' hbk
          | some B => exact fun e => hnew k B hk' hbk' e.symm
        · have hj' : pd j := hj.resolve_right hji
          by_cases hki : k = i
          · simp only [if_neg hji, if_pos hki]
            cases hbj' : blk j with
            | none => exact absurd hbj' hbj
            | some B => exact hnew j B hj' hbj'
          · simp only [if_neg hji, if_neg hki]
            exact k11 j k hj' (hk.resolve_right hki) hbj hbk hjk
    · rename_i hw
      rw [if_neg hw]
      simp only [Option.some.injEq, Prod.mk.injEq] at hs
      obtain ⟨rfl, rfl⟩ := hs
      refine hK _ _ ?_
      have hnone : blk i = none := by rw [hb]; rfl
      obtain ⟨⟨ρ2, e1, e2, e3⟩, e4⟩ := put_ok (dst := o.dst) (Ren.le_refl _) k2 k3 hd VR.undef
      refine ⟨⟨Z', ρ2, loc, Ren.le_trans k1 e1, e2, e3, k4, k5, k6, k7, k8, fun j hj => k9 j hj.1, fun j B hj hbj => ?_, fun j k hj hk hbj hbk hjk => ?_⟩, e4⟩
      · rcases hj with hj | rfl
        · exact (k10 j B hj hbj).mono e1
        · rw [hnone] at hbj; cases hbj
      · rcases hj with hj | rfl
        · rcases hk with hk | rfl
          · exact k11 j k hj hk hbj hbk hjk
          · exact absurd hnone hbk
        · exact absurd hnone hbj
  · cases hc

/-- A live block, hidden again. -/
theorem Rel.hide2 {H : Heap} {cs : List V} {elem esz n : Nat} {L : Loc} (r : Rel Z ρ H w) (hn : H.get n = some (.cells cs elem esz true)) (hρ : ρ n = some L) (hnext : h.next = H.next) (hsub : ∀ b B, h.get b = some B → H.get b = some B ∧ b ≠ n) :
    ∃ us fz, cs.length ≤ L.room ∧ L.off + L.room ≤ us.size ∧ L.esz = esz ∧ (fz.1 = fz.2 ∨ us.size ≤ fz.1) ∧ (∀ i v, cs[i]? = some v → ∃ u, us[L.off + i]? = some u ∧ VR ρ v u) ∧
      Rel { Z with K := fun k => if k = L.block then some (.cells us elem fz) else Z.K k } ρ h w := by
  obtain ⟨L', hL', us, fz, k1, k2, k3, k4, k5, k6⟩ := r.live n _ hn
  have e1 : L' = L := Option.some.inj (hL'.symm.trans hρ)
  subst e1
  refine ⟨us, fz, k2, k3, k4, (k5 rfl).2, k6, r.os, r.tape, r.output, fun k o hk => ?_, fun b L hb => by rw [hnext]; exact r.dom b L hb, fun b B hb => ?_, fun b b' B B' L1 L2 hb hb' => r.inj b b' B B' L1 L2 (hsub b B hb).1 (hsub b' B' hb').1, r.glob, fun b B L hb => r.hid b B L (hsub b B hb).1, fun b hb => by rw [hnext]; exact r.res b hb⟩
  · simp only at hk
    split at hk
    · rename_i e
      rw [e, ← hk]
      exact k1
    · exact r.keep k o hk
  · obtain ⟨g1, g2⟩ := hsub b B hb
    obtain ⟨L1, q1, q2⟩ := r.live b B g1
    refine ⟨L1, q1, ?_⟩
    have hne : L1.block ≠ L'.block := fun he => g2 (r.inj1 g1 hn q1 hL' he rfl)
    cases B with
    | cells c t z own =>
      obtain ⟨us0, fz0, p1, p2, p3, p4, p5, p6⟩ := q2
      exact ⟨us0, fz0, p1, p2, p3, p4, fun ho => ⟨by simp only; rw [if_neg hne]; exact (p5 ho).1, (p5 ho).2⟩, p6⟩
    | iter s p =>
      obtain ⟨bs, p1, p2, p3, p4⟩ := q2
      exact ⟨bs, p1, p2, p3, by simp only; rw [if_neg hne]; exact p4⟩

/-- One that looks at a hidden block, and may turn its mark. -/
theorem FSt.view {ops : Array Oper} {o : Oper} {ao : AOper} {k : Nat} {B : Blk} (hG : P.globals.size ≤ Z.G) (hcf : Answers P cf) (hc : compOper P ops.toList o = some ao) (hst : FSt Z ρ₀ n0 blk fr pd e h a w) (hk : pd k) (hB : blk k = some B)
    (hs : stepA cf ao e (h.set (n0 + k) (some B)) = some (e', h.set (n0 + k) (some B))) {K : Act → World → Prop} {Q : Exit → Act → World → Prop} (hK : ∀ a' w', FSt Z ρ₀ n0 blk fr pd e' h a' w' → K a' w') :
    if Region.wanted o (yielded ops a.tmps) then o.wp P a w K Q else K (a.put o.dst undef) w := by
  obtain ⟨⟨Z', ρ, loc, k1, k2, k3, k4, k5, k6, k7, k8, k9, k10, k11⟩, hd⟩ := hst
  obtain ⟨q1, q2, q3, us, elem, fz, cs, esz, q4, rfl, q6, q7, q8, q9, q10⟩ := k10 k B hk hB
  have hnone : h.get (n0 + k) = none := by
    cases hg : h.get (n0 + k) with
    | none => rfl
    | some B' =>
      exfalso
      obtain ⟨L1, p1, p2⟩ := k2.live _ _ hg
      have e1 : L1 = loc k := Option.some.inj (p1.symm.trans q3)
      subst e1
      cases B' with
      | cells c t z own =>
        cases own with
        | false =>
          have := k2.hid _ _ _ hg rfl p1
          rw [q2] at this
          cases this
        | true =>
          obtain ⟨us, fz, _, _, _, _, p3, _⟩ := p2
          have := (p3 rfl).1
          rw [q4] at this
          cases this
      | iter s p =>
        obtain ⟨bs, _, _, _, p3⟩ := p2
        rw [q4] at p3
        cases p3
  refine step_wp (Z := { Z' with K := fun b => if b = (loc k).block then none else Z'.K b }) (ρ₀ := ρ) (by simp only; rw [k5]; exact hG) hcf hc hs ⟨⟨ρ, Ren.le_refl ρ, k2.show q4 q2 q3 q6 q7 q8 q9 q10, k3⟩, hd⟩ (fun a' w' hst' => hK a' w' ?_)
  obtain ⟨⟨ρ', p1, p2, p3⟩, hd'⟩ := hst'
  obtain ⟨us', fz', g1, g2, g3, g4, g5, g6⟩ := p2.hide2 (h := h) (n := n0 + k) (by rw [Heap.get_set]; exact if_pos rfl) (p1 _ _ q3) rfl (fun b B hb => by
    have hne : b ≠ n0 + k := fun e => by subst e; rw [hnone] at hb; cases hb
    exact ⟨by rw [Heap.get_set, if_neg hne]; exact hb, hne⟩)
  refine ⟨⟨_, ρ', loc, Ren.le_trans k1 p1, g6, p3, k4, k5, fun b ob hb => ?_, k7, k8, k9, fun j B hj hbj => ?_, k11⟩, hd'⟩
  · have hne : b ≠ (loc k).block := fun e => by subst e; rw [q1] at hb; cases hb
    simp only
    rw [if_neg hne, if_neg hne]
    exact k6 b ob hb
  · by_cases hjk : j = k
    · subst hjk
      rw [hB] at hbj
      have hbj := Option.some.inj hbj
      subst hbj
      exact ⟨q1, q2, p1 _ _ q3, us', elem, fz', cs, esz, if_pos rfl, rfl, g1, g2, g3, g4, g5⟩
    · obtain ⟨t1, t2, t3, us1, elem1, fz1, cs1, esz1, t4, t5⟩ := (k10 j B hj hbj).mono p1
      have hne := k11 j k hj hk (by rw [hbj]; simp) (by rw [hB]; simp) hjk
      refine ⟨t1, t2, t3, us1, elem1, fz1, cs1, esz1, ?_, t5⟩
      simp only
      rw [if_neg hne, if_neg hne]
      exact t4

theorem Heap.read_sub {h1 h2 : Heap} (hs : ∀ b B, h1.get b = some B → h2.get b = some B) {b o n : Nat} {cs : List V} (hr : h1.read b o n = some cs) : h2.read b o n = some cs := by
  unfold Heap.read at hr ⊢
  by_cases hn : n = 0
  · rw [if_pos hn] at hr ⊢; exact hr
  · rw [if_neg hn] at hr ⊢
    cases hb : h1.get b with
    | none => rw [hb] at hr; cases hr
    | some B => rw [hb] at hr; rw [hs b B hb]; exact hr

/-- What looks at memory sees as much where there is more of it. -/
theorem reader_mono {op : AOp} {h1 h2 : Heap} (hrd : isReader op = true) (hs : ∀ b B, h1.get b = some B → h2.get b = some B) (ha : aop cf op e h1 = some (v, h')) : aop cf op e h2 = some (v, h2) := by
  cases op <;> simp only [isReader, Bool.false_eq_true] at hrd
  case load x =>
    simp only [aop] at ha ⊢
    split at ha
    · split at ha
      · rename_i hg
        rw [hs _ _ hg]
        simp only
        split at ha
        · simp only [Option.some.injEq, Prod.mk.injEq] at ha; rw [ha.1]
        · cases ha
      · cases ha
    · cases ha
  case loadn n x =>
    simp only [aop] at ha ⊢
    split at ha
    · simp only [Option.map_eq_some_iff, Prod.mk.injEq] at ha
      obtain ⟨cs, hr, rfl, _⟩ := ha
      rw [Heap.read_sub hs hr]; rfl
    · cases ha
  case bytesStr x =>
    simp only [aop] at ha ⊢
    split at ha
    · simp only [Option.some.injEq, Prod.mk.injEq] at ha; rw [ha.1]
    · split at ha
      · rename_i hr
        rw [Heap.read_sub hs hr]
        simp only [Option.map_eq_some_iff, Prod.mk.injEq] at ha ⊢
        obtain ⟨s, h1, h2, _⟩ := ha
        exact ⟨s, h1, h2, trivial⟩
      · cases ha
    · cases ha
  case runesStr x =>
    simp only [aop] at ha ⊢
    split at ha
    · simp only [Option.some.injEq, Prod.mk.injEq] at ha; rw [ha.1]
    · split at ha
      · rename_i hr
        rw [Heap.read_sub hs hr]
        simp only [Option.map_eq_some_iff, Prod.mk.injEq] at ha ⊢
        obtain ⟨s, h1, h2, _⟩ := ha
        exact ⟨s, h1, h2, trivial⟩
      · cases ha
    · cases ha
  case convSame x =>
    simp only [aop] at ha ⊢
    split at ha
    · split at ha
      · cases ha
      · split at ha
        · rename_i hn _ _ _ _ hg
          rw [if_neg hn, hs _ _ hg]
          simp only [Option.some.injEq, Prod.mk.injEq] at ha ⊢
          exact ⟨ha.1, trivial⟩
        · cases ha
    · cases ha
  case sliceSl z x lo hi mx =>
    simp only [aop, Option.map_eq_some_iff, Prod.mk.injEq] at ha ⊢
    obtain ⟨v', h1, rfl, _⟩ := ha
    refine ⟨v', ?_, rfl, trivial⟩
    unfold sliceV at h1 ⊢
    split at h1
    · exact h1
    · exact h1
    · split at h1
      · rename_i hn
        rw [if_pos hn]
        exact h1
      · rename_i hn
        rw [if_neg hn]
        split at h1
        · rename_i hg
          rw [hs _ _ hg]
          exact h1
        · cases h1
    · cases h1

/-- What makes a block makes just that. -/
theorem aop_alloc_new {op : AOp} (hal : isAlloc op = true) (ha : aop cf op e h = some (v, h')) : ∃ B, h' = h.new B := by
  cases op <;> simp only [isAlloc, Bool.false_eq_true] at hal <;> simp only [aop] at ha <;> (repeat' split at ha) <;> first
    | (cases ha; done)
    | (simp only [Option.some.injEq, Prod.mk.injEq] at ha; exact ⟨_, ha.2.symm⟩)

end Go.Proofs.YthfbefjmenddkaaDoorA
