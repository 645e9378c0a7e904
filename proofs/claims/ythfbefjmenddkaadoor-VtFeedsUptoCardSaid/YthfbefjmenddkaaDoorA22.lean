/- Rows whose order is not fixed: whatever the order, the end is the same. -/
import Derived.Test.YthfbefjmenddkaaDoorA21
namespace Go.Proofs.YthfbefjmenddkaaDoorA
open Go

variable {P : Program} {Z : Base} {ρ : Ren} {h h' h2 : Heap} {w : World} {a : Act} {e e' e2 : Env} {v : V} {cf : ACall}

theorem heapL_congr {s s2 : Nat → Bool} : ∀ (l : List It) (k : Nat) (h : Heap), (∀ j x, l[j]? = some x → isWriter x.o.op = true → s (k + j) = s2 (k + j)) → heapL s k l h = heapL s2 k l h
  | [], _, _, _ => rfl
  | x :: r, k, h, hd => by
    simp only [heapL]
    have h0 := hd 0 x (by simp)
    simp only [Nat.add_zero] at h0
    have hrest := fun h => heapL_congr (s := s) (s2 := s2) r (k + 1) h (fun j y hj hw => by
      have := hd (j + 1) y (by simpa using hj) hw
      rwa [show k + (j + 1) = k + 1 + j by omega] at this)
    by_cases hw : isWriter x.o.op = true
    · rw [h0 hw, hrest]
    · simp only [hw, Bool.and_false, Bool.false_eq_true, if_false]; exact hrest _

theorem heapL_last {s : Nat → Bool} (L : List It) (h0 : Heap) : ∀ (r : List It) (k b : Nat) (h : Heap), (∀ j x, r[j]? = some x → L[k + j]? = some x) → h = heapB L h0 b → heapL s k r h = heapB L h0 (lastB s k (r.map (·.o)) b)
  | [], _, _, _, _, hb => hb
  | x :: r, k, b, h, hL, hb => by
    simp only [heapL, List.map_cons, lastB]
    have hx := hL 0 x (by simp)
    simp only [Nat.add_zero] at hx
    refine heapL_last L h0 r (k + 1) _ _ (fun j y hj => by
      have := hL (j + 1) y (by simpa using hj)
      rwa [show k + (j + 1) = k + 1 + j by omega] at this) ?_
    by_cases hc : (s k && isWriter x.o.op) = true
    · rw [if_pos hc, if_pos hc]; simp [heapB, hx]
    · rw [if_neg hc, if_neg hc]; exact hb

theorem lastB_spec {s : Nat → Bool} : ∀ (r : List AOper) (k b0 : Nat),
    (lastB s k r b0 = b0 ∧ ∀ i o, r[i]? = some o → isWriter o.op = true → s (k + i) = false) ∨
    (∃ i o, r[i]? = some o ∧ lastB s k r b0 = k + i + 1 ∧ isWriter o.op = true ∧ s (k + i) = true ∧ ∀ i' o', r[i']? = some o' → isWriter o'.op = true → s (k + i') = true → i' ≤ i)
  | [], _, _ => .inl ⟨rfl, fun i o hi => by simp at hi⟩
  | o :: r, k, b0 => by
    simp only [lastB]
    rcases lastB_spec (s := s) r (k + 1) (if s k && isWriter o.op then k + 1 else b0) with ⟨h1, h2⟩ | ⟨i, o', h1, h2, h3, h4, h5⟩
    · by_cases hc : (s k && isWriter o.op) = true
      · rw [if_pos hc] at h1 ⊢
        simp only [Bool.and_eq_true] at hc
        refine .inr ⟨0, o, by simp, by rw [h1], hc.2, by simpa using hc.1, fun i' o' hi hw hs => ?_⟩
        cases i' with
        | zero => exact Nat.le_refl _
        | succ i' =>
          have := h2 i' o' (by simpa using hi) hw
          rw [show k + (i' + 1) = k + 1 + i' by omega, this] at hs
          cases hs
      · rw [if_neg hc] at h1 ⊢
        refine .inl ⟨h1, fun i o' hi hw => ?_⟩
        cases i with
        | zero =>
          simp only [List.getElem?_cons_zero, Option.some.injEq] at hi
          subst hi
          simp only [hw, Bool.and_true] at hc
          simpa using hc
        | succ i =>
          have := h2 i o' (by simpa using hi) hw
          rwa [show k + (i + 1) = k + 1 + i by omega]
    · refine .inr ⟨i + 1, o', by simpa using h1, by rw [h2]; omega, h3, by rw [show k + (i + 1) = k + 1 + i by omega]; exact h4, fun i' o2 hi hw hs => ?_⟩
      cases i' with
      | zero => omega
      | succ i' =>
        have := h5 i' o2 (by simpa using hi) hw (by rwa [show k + (i' + 1) = k + 1 + i' by omega] at hs)
        omega

theorem envL_none {s : Nat → Bool} : ∀ (l : List It) (k : Nat) (e : Env), (∀ j, k ≤ j → s j = false) → envL s k l e = e
  | [], _, _, _ => rfl
  | x :: r, k, e, hs => by
    simp only [envL, hs k (Nat.le_refl _), Bool.false_eq_true, if_false]
    exact envL_none r (k + 1) e (fun j hj => hs j (by omega))

theorem heapL_none {s : Nat → Bool} : ∀ (l : List It) (k : Nat) (h : Heap), (∀ j, k ≤ j → s j = false) → heapL s k l h = h
  | [], _, _, _ => rfl
  | x :: r, k, h, hs => by
    simp only [heapL, hs k (Nat.le_refl _), Bool.false_and, Bool.false_eq_true, if_false]
    exact heapL_none r (k + 1) h (fun j hj => hs j (by omega))

theorem trace_ops : ∀ {ops : List AOper} {e : Env} {h : Heap} {l : List It}, traceA cf ops e h = some l → l.map (·.o) = ops
  | [], e, h, l, ht => by simp only [traceA, Option.some.injEq] at ht; subst ht; rfl
  | o :: os, e, h, l, ht => by
    simp only [traceA] at ht
    split at ht
    · cases ht
    · split at ht
      · cases ht
      · rename_i l' hl
        have ht := Option.some.inj ht
        subst ht
        rw [List.map_cons, trace_ops hl]

theorem trace_at : ∀ {ops : List AOper} {e : Env} {h : Heap} {l : List It} (k : Nat), traceA cf ops e h = some l → ∀ {i : Nat} {x : It}, l[i]? = some x →
    stepV cf x.o (envL (fun j => decide (j < k + i)) k l e) (heapL (fun j => decide (j < k + i)) k l h) = some (x.v, x.h)
  | [], e, h, l, k, ht, i, x, hi => by simp only [traceA, Option.some.injEq] at ht; subst ht; simp at hi
  | o :: os, e, h, l, k, ht, i, x, hi => by
    simp only [traceA] at ht
    split at ht
    · cases ht
    · rename_i v1 h1 hs
      split at ht
      · cases ht
      · rename_i l' hl
        have ht := Option.some.inj ht
        subst ht
        cases i with
        | zero =>
          simp only [List.getElem?_cons_zero, Option.some.injEq] at hi
          subst hi
          simp only [Nat.add_zero]
          rw [envL_none _ _ _ (fun j hj => by simp; omega), heapL_none _ _ _ (fun j hj => by simp; omega)]
          exact hs
        | succ i =>
          have ih := trace_at (k + 1) hl (i := i) (x := x) (by simpa using hi)
          rw [show k + (i + 1) = k + 1 + i by omega]
          simp only [envL, heapL]
          have hk : decide (k < k + 1 + i) = true := by simp; omega
          simp only [hk, if_true, Bool.true_and]
          by_cases hw : isWriter o.op = true
          · simp only [hw, if_true]; exact ih
          · have : h1 = h := stepV_still (by simpa using hw) hs
            subst this
            simp only [hw, Bool.false_eq_true, if_false]; exact ih

/-! ### What comes ahead -/

theorem maskOf_bit {acc : List Nat} : ∀ {d : List Nat} {x : Nat}, (maskOf acc d).testBit x = true ↔ ∃ y ∈ d, x = y ∨ (acc.getD y 0).testBit x = true
  | [], x => by simp [maskOf]
  | y :: d, x => by
    simp only [maskOf, Nat.testBit_or, Bool.or_eq_true, Nat.testBit_two_pow, decide_eq_true_eq, maskOf_bit (d := d), List.mem_cons, exists_eq_or_imp]
    constructor
    · rintro ((h | h) | h)
      · exact .inl (.inl h.symm)
      · exact .inl (.inr h)
      · exact .inr h
    · rintro ((h | h) | h)
      · exact .inl (.inl h.symm)
      · exact .inl (.inr h)
      · exact .inr h

theorem ancs_prefix : ∀ (ds : List (List Nat)) (acc : List Nat) (j : Nat), j < acc.length → (ancs acc ds).getD j 0 = acc.getD j 0
  | [], _, _, _ => rfl
  | d :: ds, acc, j, hj => by
    simp only [ancs]
    rw [ancs_prefix ds _ j (by simp; omega)]
    simp only [List.getD_eq_getElem?_getD]
    rw [List.getElem?_append_left hj]

theorem ancs_at : ∀ (ds : List (List Nat)) (acc : List Nat) (i : Nat) (d : List Nat) (x : Nat), ds[i]? = some d → (∀ y ∈ d, y < acc.length + i) →
    (((ancs acc ds).getD (acc.length + i) 0).testBit x = true ↔ ∃ y ∈ d, x = y ∨ ((ancs acc ds).getD y 0).testBit x = true)
  | [], _, i, _, _, hd, _ => by simp at hd
  | d0 :: ds, acc, 0, d, x, hd, hy => by
    simp only [List.getElem?_cons_zero, Option.some.injEq] at hd
    subst hd
    simp only [ancs, Nat.add_zero] at hy ⊢
    rw [ancs_prefix ds _ acc.length (by simp)]
    have e1 : (acc ++ [maskOf acc d0]).getD acc.length 0 = maskOf acc d0 := by
      simp [List.getD_eq_getElem?_getD]
    rw [e1, maskOf_bit]
    have e2 : ∀ y ∈ d0, (ancs (acc ++ [maskOf acc d0]) ds).getD y 0 = acc.getD y 0 := fun y hym => by
      rw [ancs_prefix ds _ y (by have := hy y hym; simp; omega)]
      simp only [List.getD_eq_getElem?_getD]
      rw [List.getElem?_append_left (by have := hy y hym; omega)]
    constructor
    · rintro ⟨y, h1, h2⟩
      exact ⟨y, h1, by rw [e2 y h1]; exact h2⟩
    · rintro ⟨y, h1, h2⟩
      exact ⟨y, h1, by rw [e2 y h1] at h2; exact h2⟩
  | d0 :: ds, acc, i + 1, d, x, hd, hy => by
    simp only [ancs]
    have := ancs_at ds (acc ++ [maskOf acc d0]) i d x (by simpa using hd) (fun y hm => by have := hy y hm; simp; omega)
    rw [show acc.length + (i + 1) = (acc ++ [maskOf acc d0]).length + i by simp; omega]
    exact this

theorem ancs_in {dep : List (List Nat)} (h1 : ∀ j, j < dep.length → ∀ y ∈ dep.getD j [], y < j) {s : Nat → Bool} (hcl : ∀ j, j < dep.length → s j = true → ∀ y ∈ dep.getD j [], s y = true) :
    ∀ (i : Nat), i < dep.length → (∀ y ∈ dep.getD i [], s y = true) → ∀ x, ((ancs [] dep).getD i 0).testBit x = true → s x = true := by
  intro i
  induction i using Nat.strongRecOn with
  | _ i ih =>
    intro hi hy x hx
    have hd : dep[i]? = some (dep.getD i []) := by
      rw [List.getD_eq_getElem?_getD, List.getElem?_eq_getElem hi]; rfl
    have e1 := ancs_at dep [] i (dep.getD i []) x hd (fun y hm => by have := h1 i hi y hm; simpa using this)
    simp only [List.length_nil, Nat.zero_add] at e1
    obtain ⟨y, hym, hxy⟩ := e1.1 hx
    rcases hxy with rfl | hxy
    · exact hy x hym
    · have hlt := h1 i hi y hym
      exact ih y hlt (by omega) (hcl y (by omega) (hy y hym)) x hxy

end Go.Proofs.YthfbefjmenddkaaDoorA
