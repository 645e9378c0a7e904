/- Parts of slices, rows that are appended to, and summaries of functions that leave new blocks. -/
import Derived.Test.YthfbefjmenddkaaDoorA32
namespace Go.Proofs.YthfbefjmenddkaaDoorA
open Go
set_option linter.unusedVariables false
set_option linter.unusedSimpArgs false
noncomputable section

variable {h h' h2 : Heap} {z n : Nat} {v : V} {xs : List V} {s : List Nat}

theorem withSum_eq (cf : ACall) (f : Nat) (spec : List V → Heap → Option (V × Heap)) (args : List V) (h : Heap) : withSum cf f spec f args h = spec args h := if_pos rfl
theorem withSum_ne (cf : ACall) {f g : Nat} (spec : List V → Heap → Option (V × Heap)) (args : List V) (h : Heap) (hne : g ≠ f) : withSum cf f spec g args h = cf g args h := if_neg hne

/-! Heaps, by tests. -/
theorem Heap.set_newE (h : Heap) (B C : Blk) {b : Nat} (hb : b = h.next) : (h.new B).set b (some C) = h.new C := by subst hb; exact Heap.set_new h B C
theorem Heap.kill_newE (h : Heap) (B : Blk) {b : Nat} (hb : b = h.next) : (h.new B).set b none = h.gone := by subst hb; exact Heap.kill_new h B
theorem rd_selfE {cs : List V} {t b : Nat} {own : Bool} {c : Option Nat} {n : Nat} (hb : b = h.next) (hl : cs.length = n * z) : rd (h.new (.cells cs t z own)) z (.slice b 0 n c) = some cs := by subst hb; exact rd_self hl
theorem rdB_selfE {t b : Nat} {own : Bool} {c : Option Nat} {n : Nat} (hb : b = h.next) (hl : s.length = n) (hs : ∀ x ∈ s, x < 256) : rdB (h.new (.cells (bytesOf s) t 1 own)) (.slice b 0 n c) = some s := by subst hb; exact rdB_self hl hs
theorem rdK_selfE {k : IntKind} {l : List Int} {t b : Nat} {own : Bool} {c : Option Nat} {n : Nat} (hb : b = h.next) (hl : l.length = n) : rdK k (h.new (.cells (l.map (V.int k)) t 1 own)) (.slice b 0 n c) = some l := by subst hb; exact rdK_self hl

theorem addedE (hr : (rd h z v).isSome = true) : added h z v = (rd h z v).map fun xs => (xs, vlen v) := by
  cases hq : rd h z v with
  | none => rw [hq] at hr; cases hr
  | some xs => exact rd_added hq
theorem added_str (s : List Nat) : added h 1 (.str s) = some (bytesOf s, s.length) := rfl
theorem rd_of_rdB (hr : (rdB h v).isSome = true) : rd h 1 v = (rdB h v).map bytesOf := by
  cases hq : rdB h v with
  | none => rw [hq] at hr; cases hr
  | some s => exact (rdB_rd hq).1
theorem rd_of_rdK {k : IntKind} (hr : (rdK k h v).isSome = true) : rd h 1 v = (rdK k h v).map fun l => l.map (V.int k) := by
  cases hq : rdK k h v with
  | none => rw [hq] at hr; cases hr
  | some s => exact rdK_rd hq

/-! Parts. -/
theorem isS_of_rd (hr : rd h z v = some xs) (hz : 0 < z) (hc : ∀ b o n c, v = .slice b o n (some c) → n ≤ c) (hn : ∀ b o n c, v = .slice b o n c → n ≠ 0 → ∃ cs t own, h.get b = some (.cells cs t z own)) (h0 : ∀ b o c, v = .slice b o 0 (some c) → ∃ cs t own, h.get b = some (.cells cs t z own) ∧ o ≤ cs.length) :
    IsS h z v (vlen v) xs := by
  rcases rd_isS hr with ⟨rfl, rfl⟩ | ⟨b, o, n, c, rfl, h1, h2⟩
  · exact .inl ⟨rfl, rfl, rfl⟩
  · refine .inr ⟨b, o, c, rfl, fun m hm => by subst hm; exact hc _ _ _ _ rfl, h1, ?_⟩
    by_cases hn0 : n = 0
    · subst hn0
      cases c with
      | none => exact .inl ⟨rfl, rfl⟩
      | some c =>
        obtain ⟨cs, t, own, k1, k2⟩ := h0 b o c rfl
        refine .inr ⟨cs, t, own, k1, by simpa [vlen] using k2, ?_⟩
        have : xs = [] := List.length_eq_zero_iff.1 (by simpa using h1)
        simp [vlen, this]
    · obtain ⟨cs, t, own, k1⟩ := hn b o n c rfl hn0
      refine .inr ⟨cs, t, own, k1, ?_⟩
      unfold Heap.read at h2
      have : ¬ n * z = 0 := Nat.mul_ne_zero hn0 (by omega)
      rw [if_neg this, k1] at h2
      simp only at h2
      split at h2
      · rename_i hl; exact ⟨hl, Option.some.inj h2⟩
      · cases h2

/-- A slice whose capacity is not told (or that is nil). -/
def isFree : V → Bool
  | .nilslice => true
  | .slice _ _ _ none => true
  | _ => false

/-- Does the block hold elements of z cells? -/
def elemOk (h : Heap) (z : Nat) : V → Bool
  | .slice b _ _ _ => match h.get b with
    | some (.cells _ _ z' _) => z' == z
    | _ => false
  | _ => true

def cutF (z : Nat) (v : V) (l r : Nat) : V := match v with
  | .slice b o n none => if n = 0 then .slice b o 0 none else .slice b (o + l * z) (r - l) none
  | v => v

/-- The parts of a slice whose capacity is not told. -/
theorem free_cut {lo hi : Option V} {l r : Nat} (hfr : isFree v = true) (hr : rd h z v = some xs) (hz : 0 < z) (hel : elemOk h z v = true ∨ vlen v = 0) (hlr : l ≤ r) (hrn : r ≤ vlen v)
    (hlo : lo = none ∧ l = 0 ∨ ∃ k, lo = some (.int k (l : Int))) (hhi : hi = none ∧ r = vlen v ∨ ∃ k, hi = some (.int k (r : Int))) :
    sliceV h z v lo hi none = some (cutF z v l r) ∧ isFree (cutF z v l r) = true ∧ rd h z (cutF z v l r) = some ((xs.take (r * z)).drop (l * z)) ∧ vlen (cutF z v l r) = r - l ∧ (elemOk h z (cutF z v l r) = true ∨ r - l = 0) := by
  have hcut : isFree (cutF z v l r) = true := by
    cases v with
    | nilslice => rfl
    | slice b o n c =>
      cases c with
      | some c => cases hfr
      | none => simp only [cutF]; split <;> rfl
    | _ => simp [isFree] at hfr
  have hIs : ∀ b o n, v = .slice b o n none → n ≠ 0 → ∃ cs t own, h.get b = some (.cells cs t z own) := by
    intro b o n hv hn
    subst hv
    rcases hel with hel | hel
    · simp only [elemOk] at hel
      split at hel
      · rename_i cs t z' own hg
        have : z' = z := by simpa using hel
        subst this
        exact ⟨cs, t, own, hg⟩
      · cases hel
    · exact absurd hel hn
  have hS : IsS h z v (vlen v) xs := by
    refine isS_of_rd hr hz (fun b o n c hv => by subst hv; cases hfr) (fun b o n c hv hn => ?_) (fun b o c hv => by subst hv; cases hfr)
    subst hv
    cases c with
    | some c => cases hfr
    | none => exact hIs b o n rfl hn
  obtain ⟨k1, k2⟩ := hS.cut (lo := lo) (hi' := hi) hlr hrn hlo hhi
  have e : cutV z v l r = cutF z v l r := by
    cases v with
    | slice b o n c => cases c with
      | some c => cases hfr
      | none => rfl
    | _ => rfl
  rw [e] at k1 k2
  refine ⟨k1, hcut, ?_, k2.vlen, ?_⟩
  · rcases k2 with ⟨h1, h3, h4⟩ | ⟨b, o, c, h1, h3, h4, h5⟩
    · rw [h1, h4]; rfl
    · have hk : IsS h z (.slice b o (r - l) c) (r - l) ((xs.take (r * z)).drop (l * z)) := .inr ⟨b, o, c, rfl, h3, h4, h5⟩
      rw [h1]
      exact hk.read
  · cases v with
    | nilslice => exact .inl rfl
    | slice b o n c =>
      cases c with
      | some c => cases hfr
      | none =>
        by_cases hn : n = 0
        · right; simp only [vlen] at hrn; omega
        · left
          obtain ⟨cs, t, own, hg⟩ := hIs b o n rfl hn
          simp only [cutF, if_neg hn, elemOk, hg]
          simp
    | _ => simp [isFree] at hfr

/-! Rows that are appended to: Own (A30). -/

theorem Own.rd {h0 : Heap} {t : Nat} (ho : Own h0 h t z v n xs) : rd h z v = some xs := by
  rcases ho with ⟨rfl, rfl, rfl⟩ | ⟨b, c, rfl, _, _, _, h5, h6⟩
  · rfl
  · simp only [Go.Proofs.YthfbefjmenddkaaDoorA.rd]
    unfold Heap.read
    by_cases h0' : n * z = 0
    · rw [if_pos h0', List.length_eq_zero_iff.1 (by omega : xs.length = 0)]
    · rw [if_neg h0', h6]; simp only
      rw [if_pos (by omega), List.drop_zero, List.take_of_length_le (by omega)]
theorem Own.vlen {h0 : Heap} {t : Nat} (ho : Own h0 h t z v n xs) : vlen v = n := by
  rcases ho with ⟨rfl, rfl, rfl⟩ | ⟨b, c, rfl, _, _, _, h5, h6⟩ <;> rfl
theorem Own.isSl {h0 : Heap} {t : Nat} (ho : Own h0 h t z v n xs) : isSl v = true := by
  rcases ho with ⟨rfl, rfl, rfl⟩ | ⟨b, c, rfl, _, _, _, h5, h6⟩ <;> rfl
theorem Own.one {h0 : Heap} {t : Nat} (ho : Own h0 h t z v n xs) : v.one = true := by
  rcases ho with ⟨rfl, rfl, rfl⟩ | ⟨b, c, rfl, _, _, _, h5, h6⟩ <;> rfl

/-- The first of them: an empty slice that was just made. -/
theorem Own.start (h0 : Heap) (t z : Nat) : Own h0 (h0.new (.cells [] t z true)) t z (.slice h0.next 0 0 (some 0)) 0 [] :=
  .inr ⟨h0.next, some 0, rfl, .inr rfl, Nat.le_refl _, by simp, by simp, Heap.get_new_self _ _⟩
theorem Own.start_nil (h0 : Heap) (t z : Nat) : Own h0 h0 t z .nilslice 0 [] := .inl ⟨rfl, rfl, rfl⟩

theorem Ext.get {b : Nat} {B : Blk} (he : Ext h h2) (hf : Fresh h) (hb : h.get b = some B) : h2.get b = some B := by rw [he.2 b (hf.lt hb)]; exact hb
theorem Ext.rd (he : Ext h h2) (hf : Fresh h) (hr : rd h z v = some xs) : rd h2 z v = some xs := by
  cases v with
  | nilslice => exact hr
  | slice b o n c =>
    simp only [Go.Proofs.YthfbefjmenddkaaDoorA.rd] at hr ⊢
    unfold Heap.read at hr ⊢
    by_cases h0 : n * z = 0
    · rw [if_pos h0] at hr ⊢; exact hr
    · rw [if_neg h0] at hr ⊢
      cases hb : h.get b with
      | none => rw [hb] at hr; cases hr
      | some B => rw [hb] at hr; rw [he.get hf hb]; exact hr
  | _ => simp [Go.Proofs.YthfbefjmenddkaaDoorA.rd] at hr
theorem Ext.rdB (he : Ext h h2) (hf : Fresh h) (hr : rdB h v = some s) : rdB h2 v = some s := rdB_of (he.rd hf (rdB_rd hr).1) (rdB_rd hr).2
theorem Ext.rdK {k : IntKind} {l : List Int} (he : Ext h h2) (hf : Fresh h) (hr : rdK k h v = some l) : rdK k h2 v = some l := rdK_of (he.rd hf (rdK_rd hr))

/-! Summaries. -/

/-- Where the blocks that are told lie: the old ones where they were. -/
def moved (n0 : Nat) (τs : Nat → Nat × Nat) (b : Nat) : Nat × Nat := if b < n0 then (b, 0) else τs (b - n0)
theorem moved_old {n0 : Nat} {τs : Nat → Nat × Nat} {b : Nat} (hb : b < n0) : moved n0 τs b = (b, 0) := if_pos hb
theorem moved_add {n0 : Nat} {τs : Nat → Nat × Nat} (i : Nat) : moved n0 τs (n0 + i) = τs i := by unfold moved; rw [if_neg (by omega)]; congr 1; omega
theorem moved_at {n0 : Nat} {τs : Nat → Nat × Nat} : moved n0 τs n0 = τs 0 := by have := moved_add (n0 := n0) (τs := τs) 0; simpa using this

def newL (h : Heap) : List Blk → Heap
  | [] => h
  | B :: Bs => newL (h.new B) Bs

theorem newL_next : ∀ (Bs : List Blk) (h : Heap), (newL h Bs).next = h.next + Bs.length
  | [], h => rfl
  | B :: Bs, h => by rw [newL, newL_next Bs, Heap.next_new, List.length_cons]; omega
theorem newL_get : ∀ (Bs : List Blk) (h : Heap) (b : Nat), (newL h Bs).get b = if h.next ≤ b ∧ b < h.next + Bs.length then Bs[b - h.next]? else h.get b
  | [], h, b => by rw [if_neg (by simp only [List.length_nil]; omega)]; rfl
  | B :: Bs, h, b => by
    rw [newL, newL_get Bs, Heap.next_new, Heap.get_new]
    simp only [List.length_cons]
    by_cases h1 : b = h.next
    · subst h1
      rw [if_neg (by omega), if_pos rfl, if_pos (by omega), Nat.sub_self]; rfl
    · by_cases h3 : h.next + 1 ≤ b ∧ b < h.next + 1 + Bs.length
      · rw [if_pos h3, if_pos (by omega)]
        have : b - h.next = (b - (h.next + 1)) + 1 := by omega
        rw [this, List.getElem?_cons_succ]
      · rw [if_neg h3, if_neg h1, if_neg (by omega)]

theorem BC.refl {τ : Nat → Nat × Nat} {n0 n : Nat} (hτ : ∀ b, b < n0 → τ b = (b, 0)) (hn : n0 ≤ n) {B : Blk} (hB : ∀ cs t z own, B = .cells cs t z own → ltL n0 cs) : BC h2 τ n 0 B B := by
  cases B with
  | cells cs t z own =>
    refine ⟨rfl, rfl, rfl, by simp, fun i v hi => ⟨v, by simpa using hi, VC.refl hτ hn v ?_⟩⟩
    exact ltL_mem.1 (hB cs t z own rfl) v (List.mem_of_getElem? hi)
  | iter s p => exact ⟨rfl, rfl, rfl⟩

/-- The general form: base hb, which differs from h in old blocks alone; new blocks Bs, which the run has at τs. -/
theorem Canon.news {hb : Heap} {Bs : List Blk} {v v2 : V} {τs : Nat → Nat × Nat} (hn : hb.next = h.next) (hlt : ∀ b B, hb.get b = some B → b < h.next)
    (hold : ∀ b B, hb.get b = some B → ∃ B2, h2.get b = some B2 ∧ BC h2 (moved h.next τs) (h.next + Bs.length) 0 B B2)
    (hnew : ∀ i B, Bs[i]? = some B → h.next ≤ (τs i).1 ∧ (∀ j, j < Bs.length → (τs i).1 = (τs j).1 → i = j) ∧ ∃ B2, h2.get (τs i).1 = some B2 ∧ BC h2 (moved h.next τs) (h.next + Bs.length) (τs i).2 B B2)
    (hv : VC h2 (moved h.next τs) (h.next + Bs.length) v v2) : Canon h.next h2 v2 (newL hb Bs) v (moved h.next τs) := by
  have hnx : (newL hb Bs).next = h.next + Bs.length := by rw [newL_next, hn]
  have hcase : ∀ b B, (newL hb Bs).get b = some B → (b < h.next ∧ hb.get b = some B) ∨ ∃ i, b = h.next + i ∧ i < Bs.length ∧ Bs[i]? = some B := by
    intro b B hB
    rw [newL_get, hn] at hB
    split at hB
    · rename_i hc; exact .inr ⟨b - h.next, by omega, by omega, hB⟩
    · exact .inl ⟨hlt b B hB, hB⟩
  refine ⟨fun b hb => moved_old hb, by rw [hnx]; omega, fun b B hB => ?_, fun b b' B B' hB hB' he => ?_, by rw [hnx]; exact hv⟩
  · rw [hnx]
    rcases hcase b B hB with ⟨h1, h3⟩ | ⟨i, rfl, h1, h3⟩
    · refine ⟨by omega, ?_⟩
      rw [moved_old h1]
      exact hold b B h3
    · refine ⟨by omega, ?_⟩
      rw [moved_add]
      obtain ⟨_, _, k⟩ := hnew i B h3
      exact k
  · rcases hcase b B hB with ⟨h1, h3⟩ | ⟨i, rfl, h1, h3⟩
    · rcases hcase b' B' hB' with ⟨k1, k3⟩ | ⟨j, rfl, k1, k3⟩
      · rw [moved_old h1, moved_old k1] at he; exact he
      · rw [moved_old h1, moved_add] at he
        have := (hnew j B' k3).1
        simp only at he; omega
    · rcases hcase b' B' hB' with ⟨k1, k3⟩ | ⟨j, rfl, k1, k3⟩
      · rw [moved_old k1, moved_add] at he
        have := (hnew i B h3).1
        simp only at he; omega
      · rw [moved_add, moved_add] at he
        rw [(hnew i B h3).2.1 j k1 he]

theorem hold_of {τs : Nat → Nat × Nat} {m : Nat} (hsc : Scoped h) (hk : ∀ b B, h.get b = some B → h2.get b = some B) : ∀ b B, h.get b = some B → ∃ B2, h2.get b = some B2 ∧ BC h2 (moved h.next τs) (h.next + m) 0 B B2 :=
  fun b B hB => ⟨B, hk b B hB, BC.refl (fun _ hb => moved_old hb) (by omega) fun cs t z own he => hsc b cs t z own (he ▸ hB)⟩

/-- No new block; old ones as they were. -/
theorem Canon.none {v v2 : V} (hf : Fresh h) (hsc : Scoped h) (hk : ∀ b B, h.get b = some B → h2.get b = some B) (hv : VC h2 (moved h.next fun _ => (0, 0)) (h.next + 0) v v2) : Canon h.next h2 v2 h v (moved h.next fun _ => (0, 0)) :=
  Canon.news (hb := h) (Bs := []) rfl (fun b B hB => hf.lt hB) (hold_of hsc hk) (fun i B hi => by simp at hi) hv

/-- The same value, no new block. -/
theorem Canon.same {v : V} (hf : Fresh h) (hsc : Scoped h) (hk : ∀ b B, h.get b = some B → h2.get b = some B) (hv : V.lt h.next v) : ∃ τ, Canon h.next h2 v h v τ :=
  ⟨_, Canon.none hf hsc hk (VC.refl (fun _ hb => moved_old hb) (by omega) v hv)⟩

/-- One new block of plain cells; old ones as they were. -/
theorem Canon.one {v v2 : V} {cs cs2 : List V} {t z b2 δ : Nat} (hf : Fresh h) (hsc : Scoped h) (hk : ∀ b B, h.get b = some B → h2.get b = some B) (hb : h.next ≤ b2) (hg : h2.get b2 = some (.cells cs2 t z true))
    (hl : δ + cs.length ≤ cs2.length) (hcs : ∀ i v, cs[i]? = some v → cs2[δ + i]? = some v) (hfl : ltL 0 cs) (hv : VC h2 (moved h.next fun _ => (b2, δ)) (h.next + 1) v v2) :
    Canon h.next h2 v2 (h.new (.cells cs t z true)) v (moved h.next fun _ => (b2, δ)) :=
  Canon.news (hb := h) (Bs := [.cells cs t z true]) (τs := fun _ => (b2, δ)) rfl (fun b B hB => hf.lt hB) (hold_of hsc hk) (fun i B hi => by
    have hi0 : i = 0 := by
      rcases Nat.eq_zero_or_pos i with h0 | h0
      · exact h0
      · rw [List.getElem?_eq_none (by simp; omega)] at hi; cases hi
    subst hi0
    simp only [List.getElem?_cons_zero, Option.some.injEq] at hi
    subst hi
    refine ⟨hb, fun j hj _ => by simp at hj; omega, _, hg, rfl, rfl, rfl, hl, fun i v hi => ⟨v, hcs i v hi, VC.refl (n0 := 0) (fun b hb => by omega) (by omega) v ?_⟩⟩
    exact ltL_mem.1 hfl v (List.mem_of_getElem? hi)) hv

theorem flat_bytes (s : List Nat) : ltL 0 (bytesOf s) := by
  rw [ltL_mem]; intro v hv
  simp only [bytesOf, List.mem_map] at hv
  obtain ⟨x, _, rfl⟩ := hv
  simp only [V.lt]
theorem flat_ints (k : IntKind) (l : List Int) : ltL 0 (l.map (V.int k)) := by
  rw [ltL_mem]; intro v hv
  simp only [List.mem_map] at hv
  obtain ⟨x, _, rfl⟩ := hv
  simp only [V.lt]

/-- The slice of a new row, as it is told. -/
def newV (h : Heap) (n : Nat) : V := .slice h.next 0 n none

/-- A row of one's own, told as the next block. -/
theorem Own.canon {t z n : Nat} {v : V} {xs : List V} (hf : Fresh h) (hsc : Scoped h) (he : Ext h h2) (ho : Own h h2 t z v n xs) (hn : v ≠ .nilslice) (hfl : ltL 0 xs) :
    ∃ τ, Canon h.next h2 v (h.new (.cells xs t z true)) (newV h n) τ := by
  rcases ho with ⟨rfl, _⟩ | ⟨b, c, rfl, k2, k3, k4, k5, k6⟩
  · exact absurd rfl hn
  · refine ⟨_, Canon.one (δ := 0) hf hsc (fun b B hB => he.get hf hB) k3 k6 (by simp) (fun i v hi => by simpa using hi) hfl ?_⟩
    simp only [newV, VC, moved_at]
    refine ⟨by omega, c, by simp, fun m hm => ⟨xs, t, z, true, k6, ?_⟩⟩
    subst hm
    rcases k2 with k2 | k2
    · cases k2
    · cases k2; simp; omega

end
end Go.Proofs.YthfbefjmenddkaaDoorA
