/- Writing and making blocks: the abstract heap and the world go together. -/
import Derived.Test.YthfbefjmenddkaaDoorA2
import Derived.Lib.FrozenHead
namespace Go.Proofs.YthfbefjmenddkaaDoorA
open Go

theorem run_cells_out (P : Program) (g o : Nat) (t : TypeId) (fz : Nat × Nat) : ∀ (vs : List Value) (i : Nat) (cur : Array Value) (w : World), w.heap[g]? = some (.cells cur t fz) →
    (∀ j, o + i ≤ j → j < o + i + vs.length → ¬(fz.1 ≤ j ∧ j < fz.2)) → o + i + vs.length ≤ cur.size → (∀ v ∈ vs, v.oneCell' = true) →
    (storeCells ⟨g, o, none⟩ vs i).run P w = .ok () (w.setRow g (cur.toList.take (o + i) ++ vs ++ cur.toList.drop (o + i + vs.length)).toArray)
  | [], i, cur, w, hg, _, _, _ => by
    simp only [storeCells, List.append_nil, List.length_nil, Nat.add_zero, List.take_append_drop, Array.toArray_toList]
    rw [setRow_self w g cur t fz hg]
    rfl
  | v :: rest, i, cur, w, hg, hfz, hl, h1 => by
    have hi : o + i < cur.size := by simp at hl; omega
    have hcell : w.cell? ⟨g, o + i, none⟩ = some cur[o + i] := by simp [World.cell?, hg, hi]
    have hfro : w.frozen? ⟨g, o + i, none⟩ = false := by
      have := hfz (o + i) (Nat.le_refl _) (by simp)
      obtain ⟨lo, hi'⟩ := fz
      simp only [World.frozen?, hg]
      simpa using this
    have hst : (store ((⟨g, o, none⟩ : Addr).add i) v).run P w = .ok () (w.setRow g (cur.setIfInBounds (o + i) v)) := by
      rw [addr_add, run_store P w _ v _ (h1 v (by simp)), hcell]
      simp [hfro, setCell_eq_setRow w g (o + i) cur t fz v hg]
    have ih := run_cells_out P g o t fz rest (i + 1) (cur.setIfInBounds (o + i) v) (w.setRow g (cur.setIfInBounds (o + i) v)) (setRow_heap w g cur _ t _ hg) (fun j h2 h3 => hfz j (by omega) (by simp at h3 ⊢; omega)) (by simp at hl ⊢; omega) (fun x hx => h1 x (by simp [hx]))
    simp only [storeCells, Sem.run_bind, hst, Result.andThen_ok, ih, setRow_setRow]
    congr 3
    have e := list_seg_step cur.toList (o + i) v rest (by simp at hl ⊢; omega)
    simpa [Array.toList_setIfInBounds, Nat.add_assoc] using e

section rel
variable {Z : Base} {ρ : Ren} {h : Heap} {w : World}

theorem over_length {cs : List V} {o : Nat} {vs : List V} (hl : o + vs.length ≤ cs.length) : (over cs o vs).length = cs.length := by
  unfold over; simp; omega

theorem get_over {α : Type} (cs : List α) (o : Nat) (vs : List α) (i : Nat) (hl : o + vs.length ≤ cs.length) :
    (cs.take o ++ vs ++ cs.drop (o + vs.length))[i]? = if i < o then cs[i]? else if i < o + vs.length then vs[i - o]? else cs[i]? := by
  by_cases h1 : i < o
  · rw [if_pos h1, List.append_assoc, List.getElem?_append_left (by simp; omega), List.getElem?_take_of_lt h1]
  · rw [if_neg h1, List.append_assoc, List.getElem?_append_right (by simp; omega)]
    have e : (cs.take o).length = o := by simp; omega
    rw [e]
    by_cases h2 : i < o + vs.length
    · rw [if_pos h2, List.getElem?_append_left (by omega)]
    · rw [if_neg h2, List.getElem?_append_right (by omega), List.getElem?_drop]
      congr 1
      omega

/-- A world with a row turned: what was in other blocks stays. -/
theorem BR.other {L : Loc} {B : Blk} {g : Nat} {cs : Array Value} (hb : BR Z ρ w L B) (hne : L.block ≠ g) : BR Z ρ (w.setRow g cs) L B := by
  cases B with
  | cells c t z own => obtain ⟨us, fz, h1, h2⟩ := hb; exact ⟨us, fz, by rw [setRow_other w g L.block cs hne]; exact h1, h2⟩
  | iter s p => obtain ⟨bs, h1, h2⟩ := hb; exact ⟨bs, by rw [setRow_other w g L.block cs hne]; exact h1, h2⟩

theorem Rel.write {P : Program} (r : Rel Z ρ h w) {b o : Nat} {vs : List V} {us : List Value} {h' : Heap} (hw : h.write b o vs = some h') (hvs : VRL ρ vs us) :
    ∃ L, ρ b = some L ∧ ∃ w', (storeCells ⟨L.block, L.off + o, none⟩ us).run P w = .ok () w' ∧ Rel Z ρ h' w' := by
  rw [Heap.write_eq] at hw
  unfold Heap.writeG at hw
  cases hb : h.get b with
  | none => simp [hb] at hw
  | some B =>
    cases B with
    | iter s p => simp [hb] at hw
    | cells cs t z own =>
      cases own with
      | false => simp [hb] at hw
      | true =>
        simp only [hb] at hw
        by_cases hc : o + vs.length ≤ cs.length ∧ (vs.all V.one) = true
        · rw [if_pos hc] at hw
          have hw := Option.some.inj hw
          subst hw
          obtain ⟨hl, hone⟩ := hc
          obtain ⟨L, hL, cur, fz, hu, hroom, hsz, hez, hown, hcs⟩ := r.live b _ hb
          have hlen := hvs.length
          have hrun := run_cells_out P L.block (L.off + o) t fz us 0 cur w hu (fun j h1 h2 => frozen_out (hown rfl).2 (by omega)) (by omega) (by
            intro u hu'
            obtain ⟨i, hi⟩ := List.mem_iff_getElem?.1 hu'
            cases hv : vs[i]? with
            | none =>
              have := List.getElem?_eq_none_iff.1 hv
              rw [List.getElem?_eq_none (by omega)] at hi; cases hi
            | some v =>
              obtain ⟨u', h1, h2⟩ := hvs.get hv
              have e : u' = u := Option.some.inj (h1.symm.trans hi)
              subst e
              exact h2.oneCell (List.all_eq_true.1 hone v (List.mem_of_getElem? hv)))
          refine ⟨L, hL, _, hrun, ?_⟩
          simp only [Nat.add_zero]
          have hLb : Z.K L.block = none := (hown rfl).1
          refine ⟨r.os, r.tape, r.output, fun k o hk => ?_, r.dom, ?_, ?_, r.glob, fun i B L1 hi hro hL1 => ?_, r.res⟩
          · rw [setRow_other w L.block k _ (fun e => by subst e; rw [hLb] at hk; cases hk)]
            exact r.keep k o hk
          · intro i B hi
            rw [Heap.get_set] at hi
            by_cases e : i = b
            · rw [if_pos e] at hi
              have hi := Option.some.inj hi
              subst hi
              subst e
              refine ⟨L, hL, _, fz, setRow_heap w L.block cur _ t fz hu, by rw [over_length hl]; exact hroom, by simp; omega, hez, fun ho => ⟨(hown ho).1, by have := (hown ho).2; simp; omega⟩, ?_⟩
              intro j v hj
              unfold over at hj
              rw [get_over cs o vs j hl] at hj
              rw [List.getElem?_toArray, get_over cur.toList (L.off + o) us (L.off + j) (by simp; omega)]
              by_cases h1 : j < o
              · rw [if_pos h1] at hj
                rw [if_pos (by omega)]
                obtain ⟨u, hu1, hu2⟩ := hcs j v hj
                exact ⟨u, by simpa using hu1, hu2⟩
              · rw [if_neg h1] at hj
                rw [if_neg (by omega)]
                by_cases h2 : j < o + vs.length
                · rw [if_pos h2] at hj
                  rw [if_pos (by omega)]
                  obtain ⟨u, hu1, hu2⟩ := hvs.get hj
                  exact ⟨u, by rw [← hu1]; congr 1; omega, hu2⟩
                · rw [if_neg h2] at hj
                  rw [if_neg (by omega)]
                  obtain ⟨u, hu1, hu2⟩ := hcs j v hj
                  exact ⟨u, by simpa using hu1, hu2⟩
            · rw [if_neg e] at hi
              obtain ⟨L', h1, h2⟩ := r.live i B hi
              exact ⟨L', h1, h2.other (fun e' => e (r.inj1 hi hb h1 hL e' rfl))⟩
          · intro i j B B' L1 L2 hi hj
            rw [Heap.get_set] at hi hj
            have hi' : ∃ B0, h.get i = some B0 ∧ B0.ro = B.ro := by
              by_cases e : i = b
              · rw [if_pos e] at hi
                have hi := Option.some.inj hi
                subst hi
                exact ⟨.cells cs t z true, by rw [e]; exact hb, rfl⟩
              · rw [if_neg e] at hi; exact ⟨_, hi, rfl⟩
            have hj' : ∃ B0, h.get j = some B0 ∧ B0.ro = B'.ro := by
              by_cases e : j = b
              · rw [if_pos e] at hj
                have hj := Option.some.inj hj
                subst hj
                exact ⟨.cells cs t z true, by rw [e]; exact hb, rfl⟩
              · rw [if_neg e] at hj; exact ⟨_, hj, rfl⟩
            obtain ⟨_, hi', ri⟩ := hi'
            obtain ⟨_, hj', rj⟩ := hj'
            rw [← ri, ← rj]
            exact r.inj i j _ _ L1 L2 hi' hj'
          · rw [Heap.get_set] at hi
            by_cases e : i = b
            · rw [if_pos e] at hi
              have hi := Option.some.inj hi
              subst hi
              cases hro
            · rw [if_neg e] at hi
              exact r.hid i B L1 hi hro hL1
        · rw [if_neg hc] at hw; cases hw

def Ren.upd (ρ : Ren) (b : Nat) (L : Loc) : Ren := fun i => if i = b then some L else ρ i

theorem Ren.le_upd {b : Nat} (hb : ρ b = none) (L : Loc) : ρ.le (ρ.upd b L) := fun i L' hi => by
  unfold Ren.upd
  rw [if_neg (fun e => by subst e; rw [hb] at hi; cases hi)]
  exact hi

theorem Rel.fresh (r : Rel Z ρ h w) : ρ h.next = none := by
  cases hn : ρ h.next with
  | none => rfl
  | some L => exact absurd (r.dom _ _ hn) (Nat.lt_irrefl _)

theorem BR.mono {ρ' : Ren} (hle : ρ.le ρ') {L : Loc} {B : Blk} (hb : BR Z ρ w L B) : BR Z ρ' w L B := by
  cases B with
  | cells c t z own =>
    obtain ⟨us, fz, h1, h2, h3, h4, h5, h6⟩ := hb
    exact ⟨us, fz, h1, h2, h3, h4, h5, fun i v hi => by obtain ⟨u, k1, k2⟩ := h6 i v hi; exact ⟨u, k1, k2.mono hle _ _⟩⟩
  | iter s p => exact hb

/-- A block number that is new, laid at L: whatever the world's step, if it keeps the blocks that lie elsewhere. -/
theorem Rel.add {w' : World} {L : Loc} {B : Blk} (r : Rel Z ρ h w) (hos : w'.os = w.os) (htape : w'.tape = w.tape) (hout : w'.output = w.output) (hold : ∀ k o, Z.K k = some o → w'.heap[k]? = some o) (hkeep : ∀ k, k ≠ L.block → k < w.heap.size → w'.heap[k]? = w.heap[k]?)
    (hfree : ∀ b B L', h.get b = some B → ρ b = some L' → L'.block ≠ L.block) (hB : BR Z (ρ.upd h.next L) w' L B) (hro : B.ro = false := by rfl) : Rel Z (ρ.upd h.next L) (h.new B) w' := by
  have hle : ρ.le (ρ.upd h.next L) := Ren.le_upd r.fresh L
  have hlt : ∀ {L' : Loc} {B' : Blk}, BR Z ρ w L' B' → L'.block < w.heap.size := by
    intro L' B' hb
    cases B' with
    | cells c t z own => obtain ⟨us, fz, h1, _⟩ := hb; exact (Array.getElem?_eq_some_iff.1 h1).1
    | iter s p => obtain ⟨bs, h1, _⟩ := hb; exact (Array.getElem?_eq_some_iff.1 h1).1
  refine ⟨hos.trans r.os, htape.trans r.tape, hout.trans r.output, hold, ?_, ?_, ?_, fun g hg => by obtain ⟨L', h1, h2⟩ := r.glob g hg; exact ⟨L', hle _ _ h1, h2⟩, fun b B' L' hb hr hL' => ?_, fun b hb => ?_⟩
  · intro b L' hb
    unfold Ren.upd at hb
    by_cases e : b = h.next
    · simp [e]
    · rw [if_neg e] at hb
      have := r.dom b L' hb
      simp; omega
  · intro b B' hb
    rw [Heap.get_new] at hb
    by_cases e : b = h.next
    · rw [if_pos e] at hb
      have hb := Option.some.inj hb
      subst hb
      exact ⟨L, by simp [Ren.upd, e], hB⟩
    · rw [if_neg e] at hb
      obtain ⟨L', h1, h2⟩ := r.live b B' hb
      refine ⟨L', hle _ _ h1, ?_⟩
      have h3 := hkeep L'.block (hfree b B' L' hb h1) (hlt h2)
      have h2 := h2.mono hle
      cases B' with
      | cells c t z own => obtain ⟨us, fz, k1, k2⟩ := h2; exact ⟨us, fz, h3.trans k1, k2⟩
      | iter s p => obtain ⟨bs, k1, k2⟩ := h2; exact ⟨bs, h3.trans k1, k2⟩
  · intro b b' B1 B2 L1 L2 hb hb' h1 h2 hE
    rw [Heap.get_new] at hb hb'
    unfold Ren.upd at h1 h2
    by_cases e : b = h.next
    · by_cases e' : b' = h.next
      · exact .inl (by rw [e, e'])
      · rw [if_pos e] at h1
        rw [if_neg e'] at h2 hb'
        have h1 := Option.some.inj h1
        subst h1
        exact absurd hE.symm (hfree b' B2 L2 hb' h2)
    · by_cases e' : b' = h.next
      · rw [if_neg e] at h1 hb
        rw [if_pos e'] at h2
        have h2 := Option.some.inj h2
        subst h2
        exact absurd hE (hfree b B1 L1 hb h1)
      · rw [if_neg e] at h1 hb
        rw [if_neg e'] at h2 hb'
        exact r.inj b b' B1 B2 L1 L2 hb hb' h1 h2 hE
  · rw [Heap.get_new] at hb
    unfold Ren.upd at hL'
    by_cases e : b = h.next
    · rw [if_pos e] at hb
      have hb := Option.some.inj hb
      subst hb
      rw [hro] at hr
      cases hr
    · rw [if_neg e] at hb hL'
      exact r.hid b B' L' hb hr hL'
  · obtain ⟨h1, h2⟩ := r.res b hb
    exact ⟨by simp; omega, by unfold Ren.upd; rw [if_neg (by omega)]; exact h2⟩

theorem Rel.lt (r : Rel Z ρ h w) {b : Nat} {B : Blk} {L : Loc} (hb : h.get b = some B) (hL : ρ b = some L) : L.block < w.heap.size := by
  obtain ⟨L', h1, h2⟩ := r.live b B hb
  have e : L' = L := Option.some.inj (h1.symm.trans hL)
  subst e
  cases B with
  | cells c t z own => obtain ⟨us, fz, h1, _⟩ := h2; exact (Array.getElem?_eq_some_iff.1 h1).1
  | iter s p => obtain ⟨bs, h1, _⟩ := h2; exact (Array.getElem?_eq_some_iff.1 h1).1

theorem Rel.new_none (r : Rel Z ρ h w) : Z.K w.heap.size = none := by
  cases hk : Z.K w.heap.size with
  | none => rfl
  | some o => exact absurd (Array.getElem?_eq_some_iff.1 (r.keep _ o hk)).1 (Nat.lt_irrefl _)

/-- A new row of cells. -/
theorem Rel.new (r : Rel Z ρ h w) {cs : List V} {us rest : List Value} (elem esz : Nat) (hcs : VRL ρ cs us) (fz : Nat × Nat) (hfz : fz.1 = fz.2 ∨ us.length + rest.length ≤ fz.1) (n : Nat) :
    Rel Z (ρ.upd h.next ⟨w.heap.size, 0, us.length + rest.length, esz⟩) (h.new (.cells cs elem esz true)) { w with heap := w.heap.push (.cells (us ++ rest).toArray elem fz), drawn := n } := by
  refine r.add rfl rfl rfl ?_ ?_ ?_ ?_
  · intro k o hk
    have h1 := r.keep k o hk
    have h2 := (Array.getElem?_eq_some_iff.1 h1).1
    simp only
    rw [Array.getElem?_push, if_neg (by omega)]
    exact h1
  · intro k hk hlt
    simp only
    rw [Array.getElem?_push, if_neg (by omega)]
  · intro b B L' hb hL
    have := r.lt hb hL
    simp only; omega
  · refine ⟨(us ++ rest).toArray, fz, by simp, (show cs.length ≤ us.length + rest.length by rw [hcs.length]; omega), by simp, rfl, fun _ => ⟨r.new_none, by simpa using hfz⟩, ?_⟩
    intro i v hi
    obtain ⟨u, h1, h2⟩ := hcs.get hi
    refine ⟨u, ?_, h2.mono (Ren.le_upd r.fresh _) _ _⟩
    have hlt : i < us.length := by
      rcases Nat.lt_or_ge i us.length with h' | h'
      · exact h'
      · rw [List.getElem?_eq_none h'] at h1; cases h1
    simp [List.getElem?_append_left hlt, h1]

end rel
end Go.Proofs.YthfbefjmenddkaaDoorA
