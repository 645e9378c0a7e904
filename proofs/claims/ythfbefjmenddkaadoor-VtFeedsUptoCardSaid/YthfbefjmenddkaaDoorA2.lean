/- The abstract machine and the model: how their values and memories stand to one another. -/
import Derived.Test.YthfbefjmenddkaaDoorA1
import Derived.Laws.Cells
import Derived.Laws.Tables
import Derived.Laws.CopyRow
import Derived.OneCell
namespace Go.Proofs.YthfbefjmenddkaaDoorA
open Go

/-- Where an abstract block lies: the block, its first cell, the cells behind that which are its own, the cells of an element. -/
structure Loc where
  block : Nat
  off : Nat
  room : Nat
  esz : Nat

abbrev Ren := Nat → Option Loc

mutual
def VR (ρ : Ren) : V → Value → Prop
  | .bool b, u => u = .bool b
  | .int k n, u => u = .int k n
  | .str s, u => ∃ bs : ByteArray, u = .string bs ∧ bs.data.toList.map UInt8.toNat = s
  | .nilptr, u => u = .pointer none
  | .ptr b o, u => ∃ L, ρ b = some L ∧ u = .pointer (some ⟨L.block, L.off + o, none⟩)
  | .nilslice, u => u = .slice none 0 0
  | .slice b o n (some c), u => ∃ L, ρ b = some L ∧ n ≤ c ∧ u = .slice (some ⟨L.block, L.off + o, none⟩) n c
  | .slice b o n none, u => ∃ L ad cap, ρ b = some L ∧ n ≤ cap ∧ (cap = 0 ∨ (ad = (⟨L.block, L.off + o, none⟩ : Addr) ∧ o + cap * L.esz ≤ L.room)) ∧ u = .slice (some ad) n cap
  | .func f pre post, u => ∃ ps qs : Array Value, u = .func (.func f) ps qs ∧ VRL ρ pre ps.toList ∧ VRL ρ post qs.toList
  | .nilfunc, u => u = .nilFunc
  | .iface t v, u => ∃ x, u = .iface t x ∧ VR ρ v x
  | .niliface, u => u = .nilIface
  | .agg cs, u => ∃ xs : Array Value, u = .agg xs ∧ VRL ρ cs xs.toList
  | .tuple cs, u => ∃ xs : Array Value, u = .tuple xs ∧ VRL ρ cs xs.toList
def VRL (ρ : Ren) : List V → List Value → Prop
  | [], us => us = []
  | v :: vs, us => ∃ x xs, us = x :: xs ∧ VR ρ v x ∧ VRL ρ vs xs
end

def Ren.le (ρ ρ' : Ren) : Prop := ∀ b L, ρ b = some L → ρ' b = some L

theorem Ren.le_refl (ρ : Ren) : ρ.le ρ := fun _ _ h => h
theorem Ren.le_trans {a b c : Ren} (h : a.le b) (k : b.le c) : a.le c := fun i L hi => k i L (h i L hi)

mutual
theorem VR.mono {ρ ρ' : Ren} (hle : ρ.le ρ') : ∀ (v : V) (u : Value), VR ρ v u → VR ρ' v u
  | .bool _, _, h => by simpa [VR] using h
  | .int _ _, _, h => by simpa [VR] using h
  | .str _, _, h => by simpa [VR] using h
  | .nilptr, _, h => by simpa [VR] using h
  | .ptr _ _, _, h => by simp only [VR] at h ⊢; obtain ⟨L, h1, h2⟩ := h; exact ⟨L, hle _ _ h1, h2⟩
  | .nilslice, _, h => by simpa [VR] using h
  | .slice _ _ _ (some _), _, h => by simp only [VR] at h ⊢; obtain ⟨L, h1, h2⟩ := h; exact ⟨L, hle _ _ h1, h2⟩
  | .slice _ _ _ none, _, h => by simp only [VR] at h ⊢; obtain ⟨L, o, c, h1, h2⟩ := h; exact ⟨L, o, c, hle _ _ h1, h2⟩
  | .func _ pre post, _, h => by simp only [VR] at h ⊢; obtain ⟨p, q, h1, h2, h3⟩ := h; exact ⟨p, q, h1, VRL.mono hle pre _ h2, VRL.mono hle post _ h3⟩
  | .nilfunc, _, h => by simpa [VR] using h
  | .iface _ v, _, h => by simp only [VR] at h ⊢; obtain ⟨x, h1, h2⟩ := h; exact ⟨x, h1, VR.mono hle v _ h2⟩
  | .niliface, _, h => by simpa [VR] using h
  | .agg cs, _, h => by simp only [VR] at h ⊢; obtain ⟨x, h1, h2⟩ := h; exact ⟨x, h1, VRL.mono hle cs _ h2⟩
  | .tuple cs, _, h => by simp only [VR] at h ⊢; obtain ⟨x, h1, h2⟩ := h; exact ⟨x, h1, VRL.mono hle cs _ h2⟩
theorem VRL.mono {ρ ρ' : Ren} (hle : ρ.le ρ') : ∀ (vs : List V) (us : List Value), VRL ρ vs us → VRL ρ' vs us
  | [], _, h => by simpa [VRL] using h
  | v :: vs, _, h => by simp only [VRL] at h ⊢; obtain ⟨x, xs, h1, h2, h3⟩ := h; exact ⟨x, xs, h1, VR.mono hle v _ h2, VRL.mono hle vs _ h3⟩
end

section lists
variable {ρ : Ren}

theorem VRL.nil : VRL ρ [] [] := by simp [VRL]
theorem VRL.cons {v : V} {u : Value} {vs : List V} {us : List Value} (h : VR ρ v u) (k : VRL ρ vs us) : VRL ρ (v :: vs) (u :: us) := by simp only [VRL]; exact ⟨u, us, rfl, h, k⟩

theorem VRL.length : ∀ {vs : List V} {us : List Value}, VRL ρ vs us → us.length = vs.length
  | [], _, h => by simp only [VRL] at h; subst h; rfl
  | _ :: vs, _, h => by simp only [VRL] at h; obtain ⟨x, xs, rfl, _, h3⟩ := h; simp [VRL.length h3]

theorem VRL.get : ∀ {vs : List V} {us : List Value}, VRL ρ vs us → ∀ {i : Nat} {v : V}, vs[i]? = some v → ∃ u, us[i]? = some u ∧ VR ρ v u
  | [], _, _, _, _, hi => by simp at hi
  | w :: vs, _, h, i, v, hi => by
    simp only [VRL] at h
    obtain ⟨x, xs, rfl, h2, h3⟩ := h
    cases i with
    | zero => simp at hi; subst hi; exact ⟨x, by simp, h2⟩
    | succ i => simp at hi; obtain ⟨u, hu, hv⟩ := VRL.get h3 hi; exact ⟨u, by simpa using hu, hv⟩

theorem VRL.of_get : ∀ {vs : List V} {us : List Value}, us.length = vs.length → (∀ (i : Nat) (v : V) (u : Value), vs[i]? = some v → us[i]? = some u → VR ρ v u) → VRL ρ vs us
  | [], [], _, _ => VRL.nil
  | [], _ :: _, hl, _ => by simp at hl
  | _ :: _, [], hl, _ => by simp at hl
  | v :: vs, u :: us, hl, h => VRL.cons (h 0 v u (by simp) (by simp)) (VRL.of_get (by simpa using hl) fun i v u hv hu => h (i + 1) v u (by simpa using hv) (by simpa using hu))

theorem VRL.append : ∀ {vs vs' : List V} {us us' : List Value}, VRL ρ vs us → VRL ρ vs' us' → VRL ρ (vs ++ vs') (us ++ us')
  | [], _, _, _, h, k => by simp only [VRL] at h; subst h; simpa using k
  | _ :: vs, _, _, _, h, k => by simp only [VRL] at h; obtain ⟨x, xs, rfl, h2, h3⟩ := h; exact VRL.cons h2 (VRL.append h3 k)

theorem VRL.take : ∀ {vs : List V} {us : List Value} (n : Nat), VRL ρ vs us → VRL ρ (vs.take n) (us.take n)
  | _, _, 0, _ => by simp [VRL]
  | [], _, n + 1, h => by simp only [VRL] at h; subst h; simp [VRL]
  | _ :: vs, _, n + 1, h => by simp only [VRL] at h; obtain ⟨x, xs, rfl, h2, h3⟩ := h; exact VRL.cons h2 (VRL.take n h3)

theorem VRL.drop : ∀ {vs : List V} {us : List Value} (n : Nat), VRL ρ vs us → VRL ρ (vs.drop n) (us.drop n)
  | _, _, 0, h => by simpa using h
  | [], _, n + 1, h => by simp only [VRL] at h; subst h; simp [VRL]
  | _ :: vs, _, n + 1, h => by simp only [VRL] at h; obtain ⟨x, xs, rfl, h2, h3⟩ := h; simpa using VRL.drop n h3

theorem VRL.set {v : V} {u : Value} (hv : VR ρ v u) : ∀ {vs : List V} {us : List Value} (n : Nat), VRL ρ vs us → VRL ρ (vs.set n v) (us.set n u)
  | [], _, _, h => by simp only [VRL] at h; subst h; simp [VRL]
  | _ :: vs, _, 0, h => by simp only [VRL] at h; obtain ⟨x, xs, rfl, h2, h3⟩ := h; exact VRL.cons hv h3
  | _ :: vs, _, n + 1, h => by simp only [VRL] at h; obtain ⟨x, xs, rfl, h2, h3⟩ := h; exact VRL.cons h2 (VRL.set hv n h3)

theorem VRL.replicate {v : V} {u : Value} (hv : VR ρ v u) : ∀ n : Nat, VRL ρ (List.replicate n v) (List.replicate n u)
  | 0 => VRL.nil
  | n + 1 => VRL.cons hv (VRL.replicate hv n)

theorem VR.undef : VR ρ .undef Go.undef := by simp only [V.undef, VR]; exact ⟨#[], rfl, VRL.nil⟩

theorem VRL.getD {vs : List V} {us : List Value} (h : VRL ρ vs us) (i : Nat) : VR ρ (vs.getD i .undef) (us.getD i Go.undef) := by
  rw [List.getD_eq_getElem?_getD, List.getD_eq_getElem?_getD]
  cases hi : vs[i]? with
  | some v => obtain ⟨u, hu, hv⟩ := h.get hi; simpa [hu] using hv
  | none =>
    have : us[i]? = none := by
      rw [List.getElem?_eq_none_iff] at hi ⊢
      rw [h.length]; exact hi
    simpa [this] using VR.undef

theorem VR.oneCell {v : V} {u : Value} (h : VR ρ v u) (h1 : v.one = true) : u.oneCell' = true := by
  cases v with
  | agg _ => simp [V.one] at h1
  | tuple _ => simp [V.one] at h1
  | slice b o n c => cases c <;> simp only [VR] at h <;> (obtain ⟨L, hh⟩ := h; (first | (obtain ⟨_, _, rfl⟩ := hh; rfl) | (obtain ⟨_, _, _, _, _, rfl⟩ := hh; rfl)))
  | bool _ => simp only [VR] at h; subst h; rfl
  | int _ _ => simp only [VR] at h; subst h; rfl
  | str _ => simp only [VR] at h; obtain ⟨_, rfl, _⟩ := h; rfl
  | nilptr => simp only [VR] at h; subst h; rfl
  | ptr _ _ => simp only [VR] at h; obtain ⟨_, _, rfl⟩ := h; rfl
  | nilslice => simp only [VR] at h; subst h; rfl
  | func _ _ _ => simp only [VR] at h; obtain ⟨_, _, rfl, _⟩ := h; rfl
  | nilfunc => simp only [VR] at h; subst h; rfl
  | iface _ _ => simp only [VR] at h; obtain ⟨_, rfl, _⟩ := h; rfl
  | niliface => simp only [VR] at h; subst h; rfl

theorem VR.cells {v : V} {u : Value} (h : VR ρ v u) : VRL ρ v.cells u.cells.toList := by
  cases v with
  | agg cs => simp only [VR] at h; obtain ⟨xs, rfl, h2⟩ := h; exact h2
  | tuple _ => have h' := h; simp only [VR] at h; obtain ⟨_, rfl, _⟩ := h; exact VRL.cons h' VRL.nil
  | slice b o n c => cases c <;> (have h' := h; simp only [VR] at h; obtain ⟨L, hh⟩ := h; (first | (obtain ⟨_, _, rfl⟩ := hh; exact VRL.cons h' VRL.nil) | (obtain ⟨_, _, _, _, _, rfl⟩ := hh; exact VRL.cons h' VRL.nil)))
  | bool _ => have h' := h; simp only [VR] at h; subst h; exact VRL.cons h' VRL.nil
  | int _ _ => have h' := h; simp only [VR] at h; subst h; exact VRL.cons h' VRL.nil
  | str _ => have h' := h; simp only [VR] at h; obtain ⟨_, rfl, _⟩ := h; exact VRL.cons h' VRL.nil
  | nilptr => have h' := h; simp only [VR] at h; subst h; exact VRL.cons h' VRL.nil
  | ptr _ _ => have h' := h; simp only [VR] at h; obtain ⟨_, _, rfl⟩ := h; exact VRL.cons h' VRL.nil
  | nilslice => have h' := h; simp only [VR] at h; subst h; exact VRL.cons h' VRL.nil
  | func _ _ _ => have h' := h; simp only [VR] at h; obtain ⟨_, _, rfl, _⟩ := h; exact VRL.cons h' VRL.nil
  | nilfunc => have h' := h; simp only [VR] at h; subst h; exact VRL.cons h' VRL.nil
  | iface _ _ => have h' := h; simp only [VR] at h; obtain ⟨_, rfl, _⟩ := h; exact VRL.cons h' VRL.nil
  | niliface => have h' := h; simp only [VR] at h; subst h; exact VRL.cons h' VRL.nil
end lists

/-- What stays: the streams of the world in which the call began, the blocks that are not the run's own, the number of the package-level variables; H: blocks that no live block lies in; R: numbers that are kept free. -/
structure Base where
  W : World
  K : Nat → Option Obj
  G : Nat
  H : Nat → Bool := fun _ => false
  R : Nat → Bool := fun _ => false

theorem frozen_out {fz : Nat × Nat} {n : Nat} (hf : fz.1 = fz.2 ∨ n ≤ fz.1) {i : Nat} (hi : i < n) : ¬(fz.1 ≤ i ∧ i < fz.2) := by omega

/-- How a block lies in the world. -/
def BR (Z : Base) (ρ : Ren) (w : World) (L : Loc) : Blk → Prop
  | .cells cs elem esz own => ∃ us fz, w.heap[L.block]? = some (.cells us elem fz) ∧ cs.length ≤ L.room ∧ L.off + L.room ≤ us.size ∧ L.esz = esz ∧
      (own = true → Z.K L.block = none ∧ (fz.1 = fz.2 ∨ us.size ≤ fz.1)) ∧
      ∀ i v, cs[i]? = some v → ∃ u, us[L.off + i]? = some u ∧ VR ρ v u
  | .iter s pos => ∃ bs : ByteArray, w.heap[L.block]? = some (.stringIter bs pos) ∧ bs.data.toList.map UInt8.toNat = s ∧ L.off = 0 ∧ Z.K L.block = none

/-- Is it a block that the run only looks at? -/
def Blk.ro : Blk → Bool
  | .cells _ _ _ own => !own
  | .iter _ _ => false

structure Rel (Z : Base) (ρ : Ren) (h : Heap) (w : World) : Prop where
  os : w.os = Z.W.os
  tape : w.tape = Z.W.tape
  output : w.output = Z.W.output
  keep : ∀ k o, Z.K k = some o → w.heap[k]? = some o
  dom : ∀ b L, ρ b = some L → b < h.next
  live : ∀ b B, h.get b = some B → ∃ L, ρ b = some L ∧ BR Z ρ w L B
  inj : ∀ b b' B B' L L', h.get b = some B → h.get b' = some B' → ρ b = some L → ρ b' = some L' → L.block = L'.block → b = b' ∨ (B.ro = true ∧ B'.ro = true)
  glob : ∀ g, g < Z.G → ∃ L, ρ g = some L ∧ L.block = g ∧ L.off = 0
  hid : ∀ b B L, h.get b = some B → B.ro = true → ρ b = some L → Z.H L.block = false
  res : ∀ b, Z.R b = true → b < h.next ∧ ρ b = none

section rel
variable {Z : Base} {ρ : Ren} {h : Heap} {w : World}

theorem Rel.drew (r : Rel Z ρ h w) (n : Nat) : Rel Z ρ h { w with drawn := n } :=
  ⟨r.os, r.tape, r.output, r.keep, r.dom, fun b B hb => by
    obtain ⟨L, h1, h2⟩ := r.live b B hb
    exact ⟨L, h1, by cases B <;> exact h2⟩, r.inj, r.glob, r.hid, r.res⟩

theorem Rel.kill (r : Rel Z ρ h w) (b : Nat) : Rel Z ρ (h.set b none) w :=
  ⟨r.os, r.tape, r.output, r.keep, r.dom, fun i B hi => by
    rw [Heap.get_set] at hi
    by_cases e : i = b
    · rw [if_pos e] at hi; cases hi
    · rw [if_neg e] at hi; exact r.live i B hi,
   fun i j B B' L L' hi hj => by
    rw [Heap.get_set] at hi hj
    by_cases e : i = b
    · rw [if_pos e] at hi; cases hi
    · by_cases e' : j = b
      · rw [if_pos e'] at hj; cases hj
      · rw [if_neg e] at hi; rw [if_neg e'] at hj; exact r.inj i j B B' L L' hi hj, r.glob,
   fun i B L hi => by
    rw [Heap.get_set] at hi
    by_cases e : i = b
    · rw [if_pos e] at hi; cases hi
    · rw [if_neg e] at hi; exact r.hid i B L hi, r.res⟩

theorem Rel.inj1 (r : Rel Z ρ h w) {b b' : Nat} {B B' : Blk} {L L' : Loc} (hb : h.get b = some B) (hb' : h.get b' = some B') (h1 : ρ b = some L) (h2 : ρ b' = some L') (he : L.block = L'.block) (hro : B'.ro = false) : b = b' :=
  (r.inj b b' B B' L L' hb hb' h1 h2 he).resolve_right (fun hh => by rw [hro] at hh; cases hh.2)

/-- Cells that the abstract heap reads, in the world. -/
theorem Rel.read (r : Rel Z ρ h w) {b o n : Nat} {cs : List V} {L : Loc} (hL : ρ b = some L) (hr : h.read b o n = some cs) :
    ∃ us, us.length = n ∧ VRL ρ cs us ∧ ∀ j u, us[j]? = some u → w.cell? ⟨L.block, L.off + o + j, none⟩ = some u := by
  unfold Heap.read at hr
  by_cases hn0 : n = 0
  · rw [if_pos hn0] at hr
    have hr := Option.some.inj hr
    subst hr; subst hn0
    exact ⟨[], rfl, VRL.nil, fun j u hj => by simp at hj⟩
  rw [if_neg hn0] at hr
  cases hb : h.get b with
  | none => simp [hb] at hr
  | some B =>
    cases B with
    | iter s p => simp [hb] at hr
    | cells vs t z own =>
      simp only [hb] at hr
      by_cases hl : o + n ≤ vs.length
      · rw [if_pos hl] at hr
        have hr := Option.some.inj hr
        subst hr
        obtain ⟨L', hL', us, fz, hu, hroom, hsz, _, _, hc⟩ := r.live b _ hb
        have eL : L' = L := Option.some.inj (hL'.symm.trans hL)
        subst eL
        refine ⟨((us.toList.drop (L'.off + o)).take n), by simp; omega, VRL.of_get (by simp; omega) ?_, ?_⟩
        · intro i v u hv hu'
          have hi : i < n := by
            rcases Nat.lt_or_ge i n with h' | h'
            · exact h'
            · rw [List.getElem?_eq_none (by simp; omega)] at hv; cases hv
          rw [List.getElem?_take_of_lt hi, List.getElem?_drop] at hv hu'
          obtain ⟨u', h1, h2⟩ := hc (o + i) v hv
          have : u' = u := by
            have e : L'.off + (o + i) = L'.off + o + i := by omega
            rw [e] at h1
            rw [Array.getElem?_toList] at hu'
            exact Option.some.inj (h1.symm.trans hu')
          exact this ▸ h2
        · intro j u hj
          have hi : j < n := by
            rcases Nat.lt_or_ge j n with h' | h'
            · exact h'
            · rw [List.getElem?_eq_none (by simp; omega)] at hj; cases hj
          rw [List.getElem?_take_of_lt hi, List.getElem?_drop, Array.getElem?_toList] at hj
          simp [World.cell?, hu, hj]
      · rw [if_neg hl] at hr; cases hr

theorem addr_add (b o i : Nat) : (⟨b, o, none⟩ : Addr).add i = ⟨b, o + i, none⟩ := by unfold Addr.add; split <;> simp_all

theorem Rel.loadCells {P : Program} (r : Rel Z ρ h w) {b o n : Nat} {cs : List V} {L : Loc} (hL : ρ b = some L) (hr : h.read b o n = some cs) :
    ∃ us, us.length = n ∧ VRL ρ cs us ∧ (loadCells ⟨L.block, L.off + o, none⟩ n).run P w = .ok us.toArray w := by
  obtain ⟨us, h2, h3, h4⟩ := r.read hL hr
  refine ⟨us, h2, h3, ?_⟩
  have := run_loadCells_list (P := P) w ⟨L.block, L.off + o, none⟩ us (fun j v hv => by rw [addr_add]; exact h4 j v hv)
  rwa [h2] at this

theorem Rel.load {P : Program} (r : Rel Z ρ h w) {b o : Nat} {v : V} {L : Loc} (hL : ρ b = some L) (hr : h.read b o 1 = some [v]) :
    ∃ u, VR ρ v u ∧ (Go.load ⟨L.block, L.off + o, none⟩).run P w = .ok u w := by
  obtain ⟨us, h2, h3, h4⟩ := r.read hL hr
  match us, h2 with
  | [u], _ =>
    simp only [VRL] at h3
    obtain ⟨x, xs, e, hv, _⟩ := h3
    have e := (List.cons.inj e).1
    subst e
    refine ⟨u, hv, ?_⟩
    have := h4 0 u (by simp)
    simp only [Nat.add_zero] at this
    simp [Go.load, Sem.run, this]

end rel
end Go.Proofs.YthfbefjmenddkaaDoorA
