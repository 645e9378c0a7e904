/- Laws with parameters: the arguments' memory, as blocks that are only looked at. -/
import Derived.Test.YthfbefjmenddkaaDoorA24
namespace Go.Proofs.YthfbefjmenddkaaDoorA
open Go

variable {P : Program} {Z : Base} {ρ : Ren} {h h' : Heap} {w W : World} {cf : ACall}

/-- A row of integers, as the readings of arguments give it. -/
def RowOf (k : IntKind) (w : World) (a : Option Addr) (len cap : Nat) (zs : List Int) : Prop :=
  (a = none ∧ len = 0 ∧ cap = 0 ∧ zs = []) ∨
  ∃ x, a = some x ∧ len ≤ cap ∧ zs.length = cap ∧ ∀ i, i < zs.length → w.cell? (x.add i) = some (.int k (zs.getD i 0))

/-- An abstract value that is a slice of these integers. -/
def IsInts (h : Heap) (k : IntKind) (v : V) (xs : List Int) : Prop :=
  (v = .nilslice ∧ xs = []) ∨ ∃ b o c, v = .slice b o xs.length c ∧ h.read b o xs.length = some (xs.map (V.int k))

def Heap.le (h h' : Heap) : Prop := h.next ≤ h'.next ∧ ∀ b B, h.get b = some B → h'.get b = some B

theorem Heap.le_refl (h : Heap) : h.le h := ⟨Nat.le_refl _, fun _ _ hb => hb⟩
theorem Heap.le_trans {a b c : Heap} (h1 : a.le b) (h2 : b.le c) : a.le c := ⟨Nat.le_trans h1.1 h2.1, fun x B hx => h2.2 x B (h1.2 x B hx)⟩

theorem Heap.read_le {b o n : Nat} {cs : List V} (hle : h.le h') (hr : h.read b o n = some cs) : h'.read b o n = some cs := by
  unfold Heap.read at hr ⊢
  split at hr
  · rename_i h0; rw [if_pos h0]; exact hr
  · rename_i h0
    rw [if_neg h0]
    cases hb : h.get b with
    | none => rw [hb] at hr; cases hr
    | some B => rw [hb] at hr; rw [hle.2 b B hb]; exact hr

theorem IsInts.le {k : IntKind} {v : V} {xs : List Int} (hi : IsInts h k v xs) (hle : h.le h') : IsInts h' k v xs := by
  rcases hi with h1 | ⟨b, o, c, h1, h2⟩
  · exact .inl h1
  · exact .inr ⟨b, o, c, h1, Heap.read_le hle h2⟩

/-- One more number, no block. -/
def Heap.skip (h : Heap) : Heap := { h with next := h.next + 1 }

theorem Rel.skip (r : Rel Z ρ h w) (L : Loc) : Rel Z (ρ.upd h.next L) h.skip w := by
  have hle : ρ.le (ρ.upd h.next L) := Ren.le_upd r.fresh L
  refine ⟨r.os, r.tape, r.output, r.keep, fun b L' hb => ?_, fun b B hb => ?_, fun b b' B B' L1 L2 hb hb' h1 h2 => ?_, fun g hg => ?_, fun b B L' hb hro hL' => ?_, fun b hb => ?_⟩
  · unfold Ren.upd at hb
    unfold Heap.skip
    by_cases e : b = h.next
    · simp [e]
    · rw [if_neg e] at hb
      have := r.dom b L' hb
      simp only; omega
  · obtain ⟨L', h1, h2⟩ := r.live b B hb
    exact ⟨L', hle _ _ h1, h2.mono hle⟩
  · obtain ⟨L1', k1, _⟩ := r.live b B hb
    obtain ⟨L2', k2, _⟩ := r.live b' B' hb'
    have e1 : L1' = L1 := Option.some.inj ((hle _ _ k1).symm.trans h1)
    have e2 : L2' = L2 := Option.some.inj ((hle _ _ k2).symm.trans h2)
    subst e1; subst e2
    exact r.inj b b' B B' L1' L2' hb hb' k1 k2
  · obtain ⟨L', k1, k2⟩ := r.glob g hg
    exact ⟨L', hle _ _ k1, k2⟩
  · obtain ⟨L1, k1, _⟩ := r.live b B hb
    have e1 : L1 = L' := Option.some.inj ((hle _ _ k1).symm.trans hL')
    subst e1
    exact r.hid b B L1 hb hro k1
  · obtain ⟨k1, k2⟩ := r.res b hb
    exact ⟨by unfold Heap.skip; simp only; omega, by unfold Ren.upd; rw [if_neg (by omega)]; exact k2⟩

/-- A block that was there, to be looked at. -/
theorem Rel.addRo {cs : List V} {t z : Nat} {L : Loc} (r : Rel Z ρ h w) (hK : Z.K L.block ≠ none) (hH : Z.H L.block = false) (hB : BR Z (ρ.upd h.next L) w L (.cells cs t z false)) : Rel Z (ρ.upd h.next L) (h.new (.cells cs t z false)) w := by
  have hle : ρ.le (ρ.upd h.next L) := Ren.le_upd r.fresh L
  have hro : ∀ {b : Nat} {B : Blk} {L' : Loc}, h.get b = some B → ρ b = some L' → L'.block = L.block → B.ro = true := by
    intro b B L' hb hL he
    obtain ⟨L2, k1, k2⟩ := r.live b B hb
    have e1 : L2 = L' := Option.some.inj (k1.symm.trans hL)
    subst e1
    cases B with
    | cells c t z own =>
      cases own with
      | false => rfl
      | true =>
        obtain ⟨us, fz, _, _, _, _, k3, _⟩ := k2
        exact absurd (he ▸ (k3 rfl).1) hK
    | iter s p => obtain ⟨bs, _, _, _, k3⟩ := k2; exact absurd (he ▸ k3) hK
  refine ⟨r.os, r.tape, r.output, r.keep, fun b L' hb => ?_, fun b B hb => ?_, fun b b' B1 B2 L1 L2 hb hb' h1 h2 hE => ?_, fun g hg => ?_, fun b B L' hb hr hL' => ?_, fun b hb => ?_⟩
  · unfold Ren.upd at hb
    by_cases e : b = h.next
    · simp [e]
    · rw [if_neg e] at hb
      have := r.dom b L' hb
      simp; omega
  · rw [Heap.get_new] at hb
    by_cases e : b = h.next
    · rw [if_pos e] at hb
      have hb := Option.some.inj hb
      subst hb
      exact ⟨L, by simp [Ren.upd, e], hB⟩
    · rw [if_neg e] at hb
      obtain ⟨L', k1, k2⟩ := r.live b B hb
      exact ⟨L', hle _ _ k1, k2.mono hle⟩
  · rw [Heap.get_new] at hb hb'
    unfold Ren.upd at h1 h2
    by_cases e : b = h.next
    · by_cases e' : b' = h.next
      · exact .inl (by rw [e, e'])
      · rw [if_pos e] at h1 hb
        rw [if_neg e'] at h2 hb'
        have h1 := Option.some.inj h1
        have hb := Option.some.inj hb
        subst h1; subst hb
        exact .inr ⟨rfl, hro hb' h2 hE.symm⟩
    · by_cases e' : b' = h.next
      · rw [if_neg e] at h1 hb
        rw [if_pos e'] at h2 hb'
        have h2 := Option.some.inj h2
        have hb' := Option.some.inj hb'
        subst h2; subst hb'
        exact .inr ⟨hro hb h1 hE, rfl⟩
      · rw [if_neg e] at h1 hb
        rw [if_neg e'] at h2 hb'
        exact r.inj b b' B1 B2 L1 L2 hb hb' h1 h2 hE
  · obtain ⟨L', k1, k2⟩ := r.glob g hg
    exact ⟨L', hle _ _ k1, k2⟩
  · rw [Heap.get_new] at hb
    unfold Ren.upd at hL'
    by_cases e : b = h.next
    · rw [if_pos e] at hL'
      have hL' := Option.some.inj hL'
      subst hL'
      exact hH
    · rw [if_neg e] at hb hL'
      exact r.hid b B L' hb hr hL'
  · obtain ⟨k1, k2⟩ := r.res b hb
    exact ⟨by simp; omega, by unfold Ren.upd; rw [if_neg (by omega)]; exact k2⟩

theorem Heap.le_new (h : Heap) (B : Blk) (hn : h.get h.next = none) : h.le (h.new B) := by
  refine ⟨by simp, fun b B' hb => ?_⟩
  rw [Heap.get_new]
  by_cases e : b = h.next
  · rw [e, hn] at hb; cases hb
  · rw [if_neg e]; exact hb

theorem Rel.get_next (r : Rel Z ρ h w) : h.get h.next = none := by
  cases hg : h.get h.next with
  | none => rfl
  | some B =>
    obtain ⟨L, h1, _⟩ := r.live _ B hg
    exact absurd (r.dom _ _ h1) (Nat.lt_irrefl _)

/-- An argument that is a row of integers. -/
theorem Rel.arg {k : IntKind} {a : Option Addr} {len cap : Nat} {zs : List Int} (r : Rel (base0 P W) ρ h W) (hrow : RowOf k W a len cap zs) :
    ∃ ρ' h' v, ρ.le ρ' ∧ h.le h' ∧ Rel (base0 P W) ρ' h' W ∧ VR ρ' v (.slice a len cap) ∧ IsInts h' k v (zs.take len) := by
  rcases hrow with ⟨rfl, rfl, rfl, rfl⟩ | ⟨x, rfl, hl, hz, hc⟩
  · exact ⟨ρ, h, .nilslice, Ren.le_refl ρ, Heap.le_refl h, r, by simp only [VR], .inl ⟨rfl, rfl⟩⟩
  · by_cases h0 : cap = 0
    · subst h0
      have hl0 : len = 0 := by omega
      subst hl0
      refine ⟨ρ.upd h.next ⟨x.block, 0, 0, 1⟩, h.skip, .slice h.next 0 0 none, Ren.le_upd r.fresh _, ⟨by simp [Heap.skip], fun b B hb => hb⟩, r.skip _, ?_, .inr ⟨h.next, 0, none, by simp, ?_⟩⟩
      · simp only [VR]
        exact ⟨⟨x.block, 0, 0, 1⟩, x, 0, by simp [Ren.upd], Nat.le_refl _, .inl rfl, rfl⟩
      · simp [Heap.read]
    · have hx0 := hc 0 (by omega)
      have hcell : ∀ i, i < cap → ∃ us t fz, W.heap[x.block]? = some (.cells us t fz) ∧ us[x.off + i]? = some (.int k (zs.getD i 0)) ∧ (i ≠ 0 ∨ x.spot = none) := by
        intro i hi
        have := hc i (by omega)
        unfold World.cell? Addr.add at this
        split at this
        · rename_i us t fz hb
          refine ⟨us, t, fz, ?_, ?_, ?_⟩
          · split at hb <;> exact hb
          · by_cases hi0 : i = 0
            · subst hi0; simp at this ⊢; exact this.2
            · simp [hi0] at this ⊢; exact this
          · by_cases hi0 : i = 0
            · subst hi0
              simp at this
              exact .inr this.1
            · exact .inl hi0
        · cases this
      obtain ⟨us, t, fz, hb, _, hsp⟩ := hcell 0 (by omega)
      have hspot : x.spot = none := hsp.resolve_left (by simp)
      have hcells : ∀ i, i < cap → us[x.off + i]? = some (.int k (zs.getD i 0)) := by
        intro i hi
        obtain ⟨us', t', fz', hb', h2, _⟩ := hcell i hi
        have := hb.symm.trans hb'
        simp only [Option.some.injEq, Obj.cells.injEq] at this
        obtain ⟨rfl, _, _⟩ := this
        exact h2
      have hsize : x.off + cap ≤ us.size := by
        have := hcells (cap - 1) (by omega)
        have := (Array.getElem?_eq_some_iff.1 this).1
        omega
      let L : Loc := ⟨x.block, x.off, cap, 1⟩
      have hlen : ((zs.take len).map (V.int k)).length = len := by simp; omega
      have hB : BR (base0 P W) (ρ.upd h.next L) W L (.cells ((zs.take len).map (V.int k)) t 1 false) := by
        refine ⟨us, fz, hb, by rw [hlen]; exact hl, hsize, rfl, fun hh => (by cases hh), fun i v hi => ?_⟩
        have hil : i < len := by
          rcases Nat.lt_or_ge i len with h' | h'
          · exact h'
          · rw [List.getElem?_eq_none (by rw [hlen]; exact h')] at hi; cases hi
        rw [List.getElem?_map, List.getElem?_take_of_lt hil, Option.map_eq_some_iff] at hi
        obtain ⟨y, hy, rfl⟩ := hi
        refine ⟨.int k y, ?_, VR.mk_int⟩
        have := hcells i (by omega)
        rw [List.getD_eq_getElem?_getD, hy] at this
        exact this
      have hr2 := r.addRo (L := L) (by simp [base0, L, hb]) rfl hB
      refine ⟨ρ.upd h.next L, h.new (.cells ((zs.take len).map (V.int k)) t 1 false), .slice h.next 0 len none, Ren.le_upd r.fresh _, Heap.le_new h _ r.get_next, hr2, ?_, .inr ⟨h.next, 0, none, ?_, ?_⟩⟩
      · simp only [VR]
        refine ⟨L, x, cap, by simp [Ren.upd], hl, .inr ⟨?_, by simp [L]⟩, rfl⟩
        cases x
        simp only at hspot
        subst hspot
        simp [L]
      · rw [List.length_take, hz, Nat.min_eq_left hl]
      · unfold Heap.read
        have hmin : (zs.take len).length = len := by rw [List.length_take, hz, Nat.min_eq_left hl]
        rw [hmin, Heap.get_new, if_pos rfl]
        simp only
        rw [hlen]
        by_cases hl0 : len = 0
        · subst hl0; simp
        · rw [if_neg hl0, if_pos (by omega)]
          simp only [List.drop_zero]
          rw [List.take_of_length_le (by omega)]

/-- A law: if the abstract machine answers true, the call does, and memory is as it was. -/
theorem law_calls {tab : Nat → Option AFn} {N n f : Nat} {vs : List V} {us : Array Value} (hm : P.follows .mixedOrders = true) (ht : Holds P tab) (r : Rel (base0 P W) ρ h W) (hv : VRL ρ vs us.toList)
    (hr : ∃ h', runA tab N n f vs h = some (.bool true, h')) : Calls P f us W fun e W' => e = .returned (.bool true) ∧ RowKit.Below W.heap.size W W' := by
  obtain ⟨h', hrun⟩ := hr
  obtain ⟨_, hc⟩ := answers_run hm ht n f vs _ _ _ hrun (base0 P W) _ W us (Nat.le_refl _) r hv
  refine hc.mono ?_
  rintro e W' ⟨u, ρ', rfl, _, r', hv'⟩
  exact ⟨by rw [hv'.bool_inv], r'.below rfl rfl⟩

end Go.Proofs.YthfbefjmenddkaaDoorA
