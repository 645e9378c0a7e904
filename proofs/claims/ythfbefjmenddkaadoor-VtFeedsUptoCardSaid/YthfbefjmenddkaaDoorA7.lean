/- Laws on rows of cells: zeros, parts, pieces. -/
import Derived.Test.YthfbefjmenddkaaDoorA6
namespace Go.Proofs.YthfbefjmenddkaaDoorA
open Go

variable {P : Program} {Z : Base} {ρ : Ren} {h h' : Heap} {w : World} {a : Act} {e : List V} {v : V} {cf : ACall}

theorem zeros_get {α : Type} (l : List α) : ∀ (c i : Nat), l ≠ [] → ((List.replicate c l).flatten)[i]? = if i < c * l.length then l[i % l.length]? else none
  | 0, i, _ => by simp
  | c + 1, i, hl => by
    have h0 : 0 < l.length := List.length_pos_iff.2 hl
    rw [List.replicate_succ, List.flatten_cons]
    by_cases h1 : i < l.length
    · rw [List.getElem?_append_left h1, if_pos (by rw [Nat.succ_mul]; omega), Nat.mod_eq_of_lt h1]
    · rw [List.getElem?_append_right (by omega), zeros_get l c (i - l.length) hl]
      have e : i % l.length = (i - l.length) % l.length := by
        rw [Nat.mod_eq_sub_mod (by omega)]
      rw [e, Nat.succ_mul]
      by_cases h2 : i - l.length < c * l.length
      · rw [if_pos h2, if_pos (by omega)]
      · rw [if_neg h2, if_neg (by omega)]

theorem zeroRow (zero : Array Value) (c : Nat) (hz : zero.size ≠ 0) : ((Array.range (c * zero.size)).map (zero[· % zero.size]!)).toList = (List.replicate c zero.toList).flatten := by
  apply List.ext_getElem?
  intro i
  have hl : zero.toList ≠ [] := by
    intro hn
    apply hz
    rw [← Array.length_toList, hn]; rfl
  rw [zeros_get _ _ _ hl]
  simp only [Array.toList_map, List.getElem?_map, Array.length_toList]
  by_cases h1 : i < c * zero.size
  · rw [if_pos h1]
    have : i % zero.size < zero.size := Nat.mod_lt _ (by omega)
    simp [h1, this]
  · rw [if_neg h1]
    simp [h1]

theorem VRL.flatten_replicate {z : List V} {us : List Value} (hz : VRL ρ z us) : ∀ c : Nat, VRL ρ (List.replicate c z).flatten (List.replicate c us).flatten
  | 0 => by simp [VRL]
  | c + 1 => by
    rw [List.replicate_succ, List.replicate_succ, List.flatten_cons, List.flatten_cons]
    exact hz.append (VRL.flatten_replicate hz c)

/-- Laying cells over a row, one by one. -/
theorem lay_cells : ∀ (vs : List Value) (k off : Nat) (cells : Array Value), off + k + vs.length ≤ cells.size →
    ((vs.zipIdx k).foldl (fun (cs : Array Value) (x : Value × Nat) => cs.setIfInBounds (off + x.2) x.1) cells).toList = cells.toList.take (off + k) ++ vs ++ cells.toList.drop (off + k + vs.length)
  | [], k, off, cells, _ => by simp
  | v :: vs, k, off, cells, hl => by
    rw [List.zipIdx_cons, List.foldl_cons]
    have hl' : off + k < cells.size := by simp at hl; omega
    rw [lay_cells vs (k + 1) off (cells.setIfInBounds (off + k) v) (by simp at hl ⊢; omega)]
    have es := list_seg_step cells.toList (off + k) v vs (by simp at hl ⊢; omega)
    simpa [Array.toList_setIfInBounds, Nat.add_assoc] using es

theorem fill_ok : ∀ {ps : List (Nat × Nat × V)} {qs : List (Nat × Value)} {place : Nat → Option (Nat × Nat)} {cs cs' : List V} {us : Array Value},
    ps.length = qs.length → (∀ (j o n : Nat) (v : V) (i : Nat) (u : Value), ps[j]? = some (o, n, v) → qs[j]? = some (i, u) → place i = some (o, n) ∧ VR ρ v u) → VRL ρ cs us.toList → fillV cs ps = some cs' →
    ∃ us', Instr.fill place us qs = some us' ∧ VRL ρ cs' us'.toList
  | [], [], _, cs, cs', us, _, _, hc, hf => by
    simp only [fillV] at hf
    have hf := Option.some.inj hf
    subst hf
    exact ⟨us, rfl, hc⟩
  | [], _ :: _, _, _, _, _, hl, _, _, _ => by simp at hl
  | _ :: _, [], _, _, _, _, hl, _, _, _ => by simp at hl
  | (o, n, v) :: ps, (i, u) :: qs, place, cs, cs', us, hl, hp, hc, hf => by
    obtain ⟨h1, h2⟩ := hp 0 o n v i u (by simp) (by simp)
    simp only [fillV] at hf
    split at hf
    · rename_i hh
      obtain ⟨hn, hle⟩ := hh
      have hcl := h2.cells
      have hlen := hcl.length
      have hus := hc.length
      simp only [Array.length_toList] at hlen hus
      have hlay := lay_cells u.cells.toList 0 o us (by simp; omega)
      have hfold : (u.cells.zipIdx.foldl (fun cs (x : Value × Nat) => match x with | (c, j) => cs.setIfInBounds (o + j) c) us).toList = us.toList.take o ++ u.cells.toList ++ us.toList.drop (o + u.cells.size) := by
        simp only [Nat.add_zero, Array.length_toList] at hlay
        rw [← hlay, ← Array.foldl_toList]
        simp [Array.toList_zipIdx]
      obtain ⟨us', k1, k2⟩ := fill_ok (ps := ps) (qs := qs) (place := place) (cs := over cs o v.cells) (cs' := cs')
        (us := u.cells.zipIdx.foldl (fun cs (x : Value × Nat) => match x with | (c, j) => cs.setIfInBounds (o + j) c) us) (by simpa using hl)
        (fun j o n v i u h3 h4 => hp (j + 1) o n v i u (by simpa using h3) (by simpa using h4)) (by
          rw [hfold]
          unfold over
          have e : u.cells.size = v.cells.length := hlen
          rw [e]
          exact ((hc.take o).append hcl).append (hc.drop _)) hf
      refine ⟨us', ?_, k2⟩
      unfold Instr.fill
      rw [h1]
      simp only
      rw [if_neg (by simp only [Bool.or_eq_true, decide_eq_true_eq, ne_eq]; omega)]
      exact k1
    · cases hf

theorem run_sizeA {t : TypeId} {n : Nat} (hs : sizeA P t = some n) (w : World) : (sizeOf t).run P w = .ok n w := by
  unfold sizeA at hs
  cases hi : P.info? t with
  | none => simp [hi] at hs
  | some i => simp [hi] at hs; simp [sizeOf, typeInfo, hi, hs]

theorem run_bytesA {t : TypeId} {n : Nat} (hs : bytesA P t = some n) (w : World) : ∃ i, (typeInfo t).run P w = .ok i w ∧ i.bytes = n := by
  unfold bytesA at hs
  cases hi : P.info? t with
  | none => simp [hi] at hs
  | some i => simp [hi] at hs; exact ⟨i, by simp [typeInfo, hi], hs⟩

theorem run_aggA {t : TypeId} {b : Bool} (hs : aggA P t = some b) (w : World) : (isAgg t).run P w = .ok b w := by
  unfold aggA at hs
  unfold isAgg
  split at hs <;> first
    | (rename_i hu
       have hs := Option.some.inj hs
       subst hs
       simp [run_underlying hu]; done)
    | (rename_i d h1 h2 hu
       have hs := Option.some.inj hs
       subst hs
       simp only [Sem.run_bind, run_underlying hu, Result.andThen_ok]
       cases d <;> first
         | rfl
         | exact absurd rfl (h1 _)
         | exact absurd rfl (h2 _ _)
         | exact absurd hu (h1 _)
         | exact absurd hu (h2 _ _))
    | cases hs

theorem run_zeroA {t : TypeId} {z : List V} (hz : zeroA P t = some z) (w : World) : ∃ u, (zeroValue t).run P w = .ok u w ∧ VRL ρ z u.cells.toList := by
  unfold zeroA at hz
  cases hi : P.info? t with
  | none => simp [hi] at hz
  | some i =>
    simp only [hi] at hz
    cases hzz : i.zero with
    | none => simp [hzz] at hz
    | some u =>
      simp only [hzz] at hz
      exact ⟨u, by simp [zeroValue, typeInfo, hi, hzz], absL_ok hz⟩

end Go.Proofs.YthfbefjmenddkaaDoorA
