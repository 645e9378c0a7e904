/- Texts, bytes and runes; arrays that are compared; copy. -/
import Derived.Test.YthfbefjmenddkaaDoorA10
import Derived.Laws.BytesString
import Derived.Laws.Cover4
import Derived.Lib.OthersKept
import Derived.ChangeKeysEq
namespace Go.Proofs.YthfbefjmenddkaaDoorA
open Go

variable {P : Program} {Z : Base} {ρ : Ren} {h h' : Heap} {w : World} {a : Act} {e : List V} {v : V} {cf : ACall}

/-! ### Arrays of integers -/

theorem eqItems_ok {el : TypeId} {k0 : IntKind} (d : Nat) (hu : P.underlying el = some (.int k0)) (hg : aggA P el = some false) : ∀ (xs ys : List V) (i : Nat) (X Y : Array Value) (b : Bool),
    (∀ (j : Nat) (v : V), xs[j]? = some v → ∃ u, X[i + j]? = some u ∧ VR ρ v u) → (∀ (j : Nat) (v : V), ys[j]? = some v → ∃ u, Y[i + j]? = some u ∧ VR ρ v u) → eqInts xs ys = some b →
    (Op.eqItems (d + 1) el 1 X Y (List.range' i xs.length)).run P w = .ok b w
  | [], ys, i, X, Y, b, _, _, hb => by
    cases ys with
    | nil => simp only [eqInts, Option.some.injEq] at hb; subst hb; rfl
    | cons y ys => simp [eqInts] at hb
  | x :: xs, [], i, X, Y, b, _, _, hb => by cases x <;> simp [eqInts] at hb
  | x :: xs, y :: ys, i, X, Y, b, hx, hy, hb => by
    obtain ⟨p, p1, p2⟩ := hx 0 x (by simp)
    obtain ⟨q, q1, q2⟩ := hy 0 y (by simp)
    cases x <;> cases y <;> simp only [eqInts, reduceCtorEq] at hb
    rename_i k n k' n'
    have e1 := p2.int_inv
    have e2 := q2.int_inv
    subst e1; subst e2
    split at hb
    · rename_i hk
      subst hk
      simp only [Nat.add_zero] at p1 q1
      have hp : ∀ (X : Array Value) (u : Value), X[i]? = some u → (part el X (i * 1)).run P w = .ok u w := by
        intro X u hX
        unfold part
        simp only [Sem.run_bind, run_aggA hg, Result.andThen_ok, Bool.false_eq_true, if_false, Nat.mul_one, hX, Sem.run_pure]
      rw [List.length_cons, List.range'_succ]
      unfold Op.eqItems
      simp only [Sem.run_bind, hp X _ p1, hp Y _ q1, Result.andThen_ok, run_equalIn_int w d el k k0 n n' hu]
      by_cases hn : n = n'
      · rw [if_pos hn] at hb
        subst hn
        simp only [beq_self_eq_true, Bool.not_true, Bool.false_eq_true, if_false]
        exact eqItems_ok d hu hg xs ys (i + 1) X Y b (fun j v hj => by
          obtain ⟨u, h1, h2⟩ := hx (j + 1) v (by simpa using hj)
          exact ⟨u, by rw [← h1]; congr 1; omega, h2⟩) (fun j v hj => by
          obtain ⟨u, h1, h2⟩ := hy (j + 1) v (by simpa using hj)
          exact ⟨u, by rw [← h1]; congr 1; omega, h2⟩) hb
      · rw [if_neg hn] at hb
        have hb := Option.some.inj hb
        subst hb
        have : (n == n') = false := by simpa using hn
        simp [this]
    · cases hb

theorem run_eqArr {t : TypeId} {n : Nat} {xs ys : List V} {p q : Value} {b : Bool} (ht : arrA P t = some n) (hp : VR ρ (.agg xs) p) (hq : VR ρ (.agg ys) q) (hx : xs.length = n) (hb : eqInts xs ys = some b) :
    (Op.equal t p q).run P w = .ok b w ∧ ∀ op X Y, (eqGuard op t X Y p q).run P w = .ok () w := by
  obtain ⟨X, rfl, hX⟩ := hp.agg_inv
  obtain ⟨Y, rfl, hY⟩ := hq.agg_inv
  unfold arrA at ht
  split at ht
  · rename_i m el hu
    split at ht
    · rename_i k0 hue hse
      split at ht
      · cases ht
      · rename_i hgd
        have ht := Option.some.inj ht
        subst ht
        have hag : aggA P el = some false := by unfold aggA; rw [hue]
        refine ⟨?_, fun op A B => ?_⟩
        · have h0 : ∃ m, Op.equal t (.agg X) (.agg Y) = Op.equalIn (m + 1 + 1) t (.agg X) (.agg Y) := ⟨9998, rfl⟩
          obtain ⟨d, h0⟩ := h0
          unfold sizeA at hse
          cases hi : P.info? el with
          | none => simp [hi] at hse
          | some i =>
            have hcell : P.cellsOf el = 1 := by unfold Program.cellsOf; exact congrArg (·.getD 0) hse
            rw [h0, run_equalIn_array w (d + 1) X Y hu hi, hcell, ← hx, List.range_eq_range']
            exact eqItems_ok d hue hag xs ys 0 X Y b (fun j v hj => by
              obtain ⟨u, h1, h2⟩ := hX.get hj
              exact ⟨u, by rw [Nat.zero_add]; simpa using h1, h2⟩) (fun j v hj => by
              obtain ⟨u, h1, h2⟩ := hY.get hj
              exact ⟨u, by rw [Nat.zero_add]; simpa using h1, h2⟩) hb
        · have hgf : P.eqGuardType P.depth t = false := by simpa using hgd
          cases op <;> first
            | rfl
            | (unfold eqGuard; simp [hgf])
    · cases ht
  · cases ht

/-! ### Texts -/

theorem utfEnc_ok (r : Int) : (Utf8.encode r).data.toList.map UInt8.toNat = utfEnc r := by
  unfold Utf8.encode utfEnc
  have hc : ∀ c : Nat, c < 0x110000 → ∀ k, k ≤ c → True := fun _ _ _ _ => trivial
  have hle : (if Utf8.valid r = true then r.toNat else Utf8.runeError) < 0x110000 := by
    split
    · rename_i hv
      unfold Utf8.valid at hv
      simp only [Bool.or_eq_true, Bool.and_eq_true, decide_eq_true_eq] at hv
      omega
    · decide
  generalize (if Utf8.valid r = true then r.toNat else Utf8.runeError) = c at hle
  simp only
  split
  · simp; omega
  · split
    · simp; omega
    · split
      · simp; omega
      · simp; omega

theorem strOf_ok : ∀ {cs : List V} {us : List Value} {s : List Nat}, VRL ρ cs us → strOf cs = some s → ∃ ns : List Int, us = ns.map (Value.int .u8) ∧ s = ns.map fun n => (UInt8.ofNat n.toNat).toNat
  | [], us, s, hv, hs => by
    simp only [VRL] at hv
    simp only [strOf, Option.some.injEq] at hs
    subst hv; subst hs
    exact ⟨[], rfl, rfl⟩
  | c :: cs, us, s, hv, hs => by
    simp only [VRL] at hv
    obtain ⟨u, us', rfl, h1, h2⟩ := hv
    cases c <;> try (simp [strOf] at hs; done)
    rename_i k n
    cases k <;> try (simp [strOf] at hs; done)
    simp only [strOf, Option.map_eq_some_iff] at hs
    obtain ⟨s', hs', rfl⟩ := hs
    obtain ⟨ns, rfl, rfl⟩ := strOf_ok h2 hs'
    have e1 := h1.int_inv
    subst e1
    exact ⟨n :: ns, rfl, by simp⟩

theorem foldl_push (ns : List Int) : ∀ s : ByteArray, (ns.foldl (fun r n => r.push (UInt8.ofNat n.toNat)) s).data.toList = s.data.toList ++ ns.map fun n => UInt8.ofNat n.toNat := by
  induction ns with
  | nil => intro s; simp
  | cons n ns ih => intro s; rw [List.foldl_cons, ih]; simp [ByteArray.push]

theorem runesEnc_ok : ∀ {cs : List V} {us : List Value} {s : List Nat}, VRL ρ cs us → runesEnc cs = some s → ∃ ns : List Int, us = ns.map (Value.int .i32) ∧ s = ns.flatMap utfEnc
  | [], us, s, hv, hs => by
    simp only [VRL] at hv
    simp only [runesEnc, Option.some.injEq] at hs
    subst hv; subst hs
    exact ⟨[], rfl, rfl⟩
  | c :: cs, us, s, hv, hs => by
    simp only [VRL] at hv
    obtain ⟨u, us', rfl, h1, h2⟩ := hv
    cases c <;> try (simp [runesEnc] at hs; done)
    rename_i k n
    cases k <;> try (simp [runesEnc] at hs; done)
    simp only [runesEnc, Option.map_eq_some_iff] at hs
    obtain ⟨s', hs', rfl⟩ := hs
    obtain ⟨ns, rfl, rfl⟩ := runesEnc_ok h2 hs'
    have e1 := h1.int_inv
    subst e1
    exact ⟨n :: ns, rfl, by simp⟩

theorem foldl_enc (ns : List Int) : ∀ s : ByteArray, (ns.foldl (fun r n => r ++ Utf8.encode n) s).data.toList.map UInt8.toNat = s.data.toList.map UInt8.toNat ++ ns.flatMap utfEnc := by
  induction ns with
  | nil => intro s; simp
  | cons n ns ih =>
    intro s
    rw [List.foldl_cons, ih, List.flatMap_cons, ← List.append_assoc]
    congr 1
    rw [← utfEnc_ok n]
    simp

theorem does_bytesStr {x : V} {p : Value} {v : V} (r : Rel Z ρ h w) (hp : VR ρ x p)
    (hx : (x = .nilslice ∧ v = .str []) ∨ ∃ b o n c cs s, x = .slice b o n c ∧ h.read b o n = some cs ∧ strOf cs = some s ∧ v = .str s) : Does P Z ρ (Conv.bytesToString p) w v h := by
  rcases hx with ⟨rfl, rfl⟩ | ⟨b, o, n, c, cs, s, rfl, hr, hs, rfl⟩
  · simp only [VR] at hp
    subst hp
    exact Does.pure (u := .string .empty) rfl r (VR.mk_str rfl)
  · obtain ⟨hl, us, h1, h2⟩ := first_slice (P := P) (z := 1) r hp n (Nat.le_refl _) (by rw [Nat.mul_one]; exact hr)
    obtain ⟨ns, e1, rfl⟩ := strOf_ok h1 hs
    obtain ⟨L, ad, cap, hL, hn, ho, _, _, rfl⟩ := hp.slice_inv
    have h2 := h2 w.drawn
    have h3 : (loadCells ad n).run P w = .ok (ns.map (Value.int .u8)).toArray w := by
      unfold Builtin.firstCells at h2
      rw [Nat.mul_one] at h2
      have e2 : us = (ns.map (Value.int .u8)).toArray := by rw [← e1]
      rw [← e2]
      exact h2
    refine Does.pure (run_bytesToString w _ n cap ns h3) r (VR.mk_str ?_)
    rw [foldl_push]
    simp

theorem does_runesStr {x : V} {p : Value} {v : V} (r : Rel Z ρ h w) (hp : VR ρ x p)
    (hx : (x = .nilslice ∧ v = .str []) ∨ ∃ b o n c cs s, x = .slice b o n c ∧ h.read b o n = some cs ∧ runesEnc cs = some s ∧ v = .str s) : Does P Z ρ (Conv.runesToString p) w v h := by
  rcases hx with ⟨rfl, rfl⟩ | ⟨b, o, n, c, cs, s, rfl, hr, hs, rfl⟩
  · simp only [VR] at hp
    subst hp
    exact Does.pure (u := .string .empty) rfl r (VR.mk_str rfl)
  · obtain ⟨hl, us, h1, h2⟩ := first_slice (P := P) (z := 1) r hp n (Nat.le_refl _) (by rw [Nat.mul_one]; exact hr)
    obtain ⟨ns, e1, rfl⟩ := runesEnc_ok h1 hs
    obtain ⟨L, ad, cap, hL, hn, ho, _, _, rfl⟩ := hp.slice_inv
    have h2 := h2 w.drawn
    have h3 : (loadCells ad n).run P w = .ok (ns.map (Value.int .i32)).toArray w := by
      unfold Builtin.firstCells at h2
      rw [Nat.mul_one] at h2
      have e2 : us = (ns.map (Value.int .i32)).toArray := by rw [← e1]
      rw [← e2]
      exact h2
    refine Does.pure (run_runesToString w _ n cap ns h3) r (VR.mk_str ?_)
    unfold runesBytes
    rw [foldl_enc]
    simp

theorem utfDec_ok (bs : ByteArray) (i : Nat) (hi : i < bs.size) : Utf8.decode bs i = utfDec ((bs.data.toList.map UInt8.toNat).drop i) := by
  have hg : ∀ k, i + k < bs.size → (bs.get! (i + k)).toNat = ((bs.data.toList.map UInt8.toNat).drop i).getD k 0 := by
    intro k hk
    rw [List.getD_eq_getElem?_getD, List.getElem?_drop, List.getElem?_map]
    have hk' : i + k < bs.data.size := hk
    rw [Array.getElem?_toList, Array.getElem?_eq_getElem hk']
    show (bs.data[i + k]!).toNat = _
    rw [getElem!_pos bs.data (i + k) hk']
    rfl
  have hl : ((bs.data.toList.map UInt8.toNat).drop i).length = bs.size - i := by rw [List.length_drop, List.length_map, ← ba_size]
  unfold Utf8.decode utfDec
  have hc : ∀ k, (decide (i + k < bs.size) && (bs.get! (i + k)).toNat / 64 == 2) = (decide (k < ((bs.data.toList.map UInt8.toNat).drop i).length) && ((bs.data.toList.map UInt8.toNat).drop i).getD k 0 / 64 == 2) := by
    intro k
    rw [hl]
    by_cases hk : i + k < bs.size
    · rw [hg k hk]
      have : k < bs.size - i := by omega
      simp [hk, this]
    · have : ¬ k < bs.size - i := by omega
      simp [hk, this]
  have h0 := hg 0 (by omega)
  simp only [Nat.add_zero] at h0
  simp only [hc, Nat.add_zero, h0]
  generalize (bs.data.toList.map UInt8.toNat).drop i = S at hg hl hc h0
  by_cases h1 : i + 1 < bs.size
  · have g1 := hg 1 h1
    simp only [g1]
    by_cases h2 : i + 2 < bs.size
    · have g2 := hg 2 h2
      simp only [g2]
      by_cases h3 : i + 3 < bs.size
      · have g3 := hg 3 h3
        simp only [g3]
      · have f3 : decide (3 < S.length) = false := by simp; omega
        simp only [f3, Bool.false_and, Bool.and_false, Bool.false_eq_true, if_false]
    · have f2 : decide (2 < S.length) = false := by simp; omega
      simp only [f2, Bool.false_and, Bool.and_false, Bool.false_eq_true, if_false]
  · have f1 : decide (1 < S.length) = false := by simp; omega
    simp only [f1, Bool.false_and, Bool.and_false, Bool.false_eq_true, if_false]

end Go.Proofs.YthfbefjmenddkaaDoorA
