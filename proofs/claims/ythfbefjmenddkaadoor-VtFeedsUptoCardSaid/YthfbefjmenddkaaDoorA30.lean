/- Slices whose elements are told as a list: what the operations do to them. -/
import Derived.Test.YthfbefjmenddkaaDoorA29
namespace Go.Proofs.YthfbefjmenddkaaDoorA
open Go
set_option linter.unusedVariables false
set_option linter.unusedSimpArgs false

noncomputable section

/-- Nothing lies behind the next number. -/
def Fresh (h : Heap) : Prop := ∀ b, h.next ≤ b → h.get b = none
/-- A later heap: what lay in the former one lies there still. -/
def Ext (h h' : Heap) : Prop := h.next ≤ h'.next ∧ ∀ b, b < h.next → h'.get b = h.get b

theorem Ext.refl (h : Heap) : Ext h h := ⟨Nat.le_refl _, fun _ _ => rfl⟩
theorem Ext.trans {a b c : Heap} (h1 : Ext a b) (h2 : Ext b c) : Ext a c := ⟨Nat.le_trans h1.1 h2.1, fun i hi => (h2.2 i (Nat.lt_of_lt_of_le hi h1.1)).trans (h1.2 i hi)⟩
theorem Ext.new (h : Heap) (B : Blk) : Ext h (h.new B) := ⟨Nat.le_succ _, fun b hb => by rw [Heap.get_new, if_neg (by omega)]⟩
theorem Ext.trans_new {a b : Heap} (h1 : Ext a b) (B : Blk) : Ext a (b.new B) := h1.trans (Ext.new b B)
theorem Ext.trans_set {a b : Heap} (h1 : Ext a b) {i : Nat} (hi : a.next ≤ i) (B : Option Blk) : Ext a (b.set i B) := ⟨h1.1, fun j hj => by rw [Heap.get_set, if_neg (by omega)]; exact h1.2 j hj⟩
theorem Fresh.new {h : Heap} (hf : Fresh h) (B : Blk) : Fresh (h.new B) := fun b hb => by
  simp only [Heap.next_new] at hb
  rw [Heap.get_new, if_neg (by omega)]; exact hf b (by omega)
theorem Fresh.set {h : Heap} (hf : Fresh h) {i : Nat} (hi : i < h.next) (B : Option Blk) : Fresh (h.set i B) := fun b hb => by
  simp only [Heap.next_set] at hb
  rw [Heap.get_set, if_neg (by omega)]; exact hf b hb
theorem Fresh.lt {h : Heap} (hf : Fresh h) {b : Nat} {B : Blk} (hb : h.get b = some B) : b < h.next := by
  rcases Nat.lt_or_ge b h.next with h1 | h1
  · exact h1
  · rw [hf b h1] at hb; cases hb
theorem Rel.fresh' {Z : Base} {ρ : Ren} {h : Heap} {w : World} (r : Rel Z ρ h w) : Fresh h := fun b hb => by
  cases hg : h.get b with
  | none => rfl
  | some B =>
    obtain ⟨L, h1, _⟩ := r.live b B hg
    exact absurd (r.dom b L h1) (by omega)

/-- The slice v holds n elements of z cells each, these cells. -/
def IsS (h : Heap) (z : Nat) (v : V) (n : Nat) (xs : List V) : Prop :=
  (v = .nilslice ∧ n = 0 ∧ xs = []) ∨ ∃ b o c, v = .slice b o n c ∧ (∀ m, c = some m → n ≤ m) ∧ xs.length = n * z ∧
    ((n = 0 ∧ c = none) ∨ ∃ cs t own, h.get b = some (.cells cs t z own) ∧ o + n * z ≤ cs.length ∧ (cs.drop o).take (n * z) = xs)

theorem IsS.isSl {h : Heap} {z n : Nat} {v : V} {xs : List V} (hi : IsS h z v n xs) : isSl v = true := by
  rcases hi with ⟨rfl, _⟩ | ⟨b, o, c, rfl, _⟩ <;> rfl
theorem IsS.vlen {h : Heap} {z n : Nat} {v : V} {xs : List V} (hi : IsS h z v n xs) : vlen v = n := by
  rcases hi with ⟨rfl, rfl, _⟩ | ⟨b, o, c, rfl, _⟩ <;> rfl
theorem IsS.one {h : Heap} {z n : Nat} {v : V} {xs : List V} (hi : IsS h z v n xs) : v.one = true := by
  rcases hi with ⟨rfl, rfl, _⟩ | ⟨b, o, c, rfl, _⟩ <;> rfl
theorem IsS.length {h : Heap} {z n : Nat} {v : V} {xs : List V} (hi : IsS h z v n xs) : xs.length = n * z := by
  rcases hi with ⟨rfl, rfl, rfl⟩ | ⟨b, o, c, rfl, _, hl, _⟩
  · simp
  · exact hl
theorem IsS.cells {h : Heap} {z n : Nat} {v : V} {xs : List V} (hi : IsS h z v n xs) : v.cells = [v] := by
  rcases hi with ⟨rfl, rfl, _⟩ | ⟨b, o, c, rfl, _⟩ <;> rfl

theorem IsS.ext {h h' : Heap} {z n : Nat} {v : V} {xs : List V} (hf : Fresh h) (he : Ext h h') (hi : IsS h z v n xs) : IsS h' z v n xs := by
  rcases hi with h1 | ⟨b, o, c, rfl, h2, h3, h4⟩
  · exact .inl h1
  · refine .inr ⟨b, o, c, rfl, h2, h3, ?_⟩
    rcases h4 with h4 | ⟨cs, t, own, h5, h6⟩
    · exact .inl h4
    · exact .inr ⟨cs, t, own, by rw [he.2 b (hf.lt h5)]; exact h5, h6⟩
theorem IsS.new {h : Heap} {z n : Nat} {v : V} {xs : List V} (hf : Fresh h) (B : Blk) (hi : IsS h z v n xs) : IsS (h.new B) z v n xs := hi.ext hf (Ext.new h B)

theorem IsS.read {h : Heap} {z n b o : Nat} {c : Option Nat} {xs : List V} (hi : IsS h z (.slice b o n c) n xs) : h.read b o (n * z) = some xs := by
  rcases hi with ⟨h1, _⟩ | ⟨b', o', c', h1, h2, h3, h4⟩
  · cases h1
  · cases h1
    rcases h4 with ⟨rfl, rfl⟩ | ⟨cs, t, own, h5, h6, h7⟩
    · have : xs = [] := by apply List.length_eq_zero_iff.1; omega
      subst this
      unfold Heap.read; rw [if_pos (by omega)]
    · unfold Heap.read
      by_cases h0 : n * z = 0
      · rw [if_pos h0]
        have : xs = [] := by apply List.length_eq_zero_iff.1; omega
        rw [this]
      · rw [if_neg h0, h5]
        simp only [if_pos h6, h7]

theorem IsS.added {h : Heap} {z n : Nat} {v : V} {xs : List V} (hi : IsS h z v n xs) : added h z v = some (xs, n) := by
  have hi' := hi
  rcases hi with ⟨rfl, rfl, rfl⟩ | ⟨b, o, c, rfl, h2, h3, h4⟩
  · rfl
  · simp only [Go.Proofs.YthfbefjmenddkaaDoorA.added, hi'.read, Option.map_some]

/-- Bytes, as cells. -/
theorem bytesOf_length (s : List Nat) : (bytesOf s).length = s.length := by simp [bytesOf]
theorem bytesOf_append (s t : List Nat) : bytesOf (s ++ t) = bytesOf s ++ bytesOf t := by simp [bytesOf]
theorem bytesOf_one (s : List Nat) : (bytesOf s).all V.one = true := by simp [bytesOf, V.one]
theorem bytesOf_get (s : List Nat) (i : Nat) : (bytesOf s)[i]? = s[i]?.map fun b => V.int .u8 (Int.ofNat b) := by simp [bytesOf]
theorem strOf_bytesOf : ∀ s : List Nat, (∀ x ∈ s, x < 256) → strOf (bytesOf s) = some s
  | [], _ => rfl
  | x :: s, h => by
    have ih := strOf_bytesOf s fun y hy => h y (by simp [hy])
    have hx := h x (by simp)
    show (strOf (bytesOf s)).map (fun s => ((Int.ofNat x).toNat % 256) :: s) = _
    rw [ih]
    simp only [Option.map_some, Option.some.injEq, List.cons.injEq, and_true]
    exact Nat.mod_eq_of_lt hx

abbrev IsB (h : Heap) (v : V) (s : List Nat) : Prop := IsS h 1 v s.length (bytesOf s)

theorem IsB.str {h : Heap} {v : V} {s : List Nat} (hs : ∀ x ∈ s, x < 256) (hi : IsB h v s) : bytesStrS v h = some (.str s, h) := by
  have hi' := hi
  rcases hi with ⟨rfl, h1, _⟩ | ⟨b, o, c, rfl, _⟩
  · have : s = [] := List.length_eq_zero_iff.1 h1
    subst this; rfl
  · have := hi'.read
    rw [Nat.mul_one] at this
    simp only [bytesStrS, this, strOfS, strOf_bytesOf s hs]

/-- The address of an element. -/
def atP (v : V) (i : Nat) : V := match v with
  | .slice b o _ _ => .ptr b (o + i)
  | _ => .undef

theorem IsS.index {h : Heap} {z n : Nat} {v : V} {xs : List V} (hi : IsS h z v n xs) (h' : Heap) (k : IntKind) {i : Int} (h0 : 0 ≤ i) (h1 : i < n) : indexAddrSS z v (.int k i) h' = some (atP v (i.toNat * z), h') := by
  rcases hi with ⟨rfl, rfl, _⟩ | ⟨b, o, c, rfl, _⟩
  · omega
  · rw [indexAddrSS_slice, if_pos ⟨h0, h1⟩]; rfl

theorem take_drop_get {α : Type} {cs xs : List α} {o n i : Nat} (h : (cs.drop o).take n = xs) (hi : i < n) : cs[o + i]? = xs[i]? := by
  rw [← h, List.getElem?_take_of_lt hi, List.getElem?_drop]

theorem IsS.load {h : Heap} {z n : Nat} {v : V} {xs : List V} (hi : IsS h z v n xs) {j : Nat} {x : V} (hx : xs[j]? = some x) : loadS (atP v j) h = some (x, h) := by
  have hl := hi.length
  have hj : j < n * z := by rw [← hl]; exact (List.getElem?_eq_some_iff.1 hx).1
  rcases hi with ⟨rfl, rfl, _⟩ | ⟨b, o, c, rfl, _, _, h4⟩
  · omega
  · rcases h4 with ⟨rfl, _⟩ | ⟨cs, t, own, h5, h6, h7⟩
    · omega
    · simp only [atP, loadS, h5, loadB, nth_eq, take_drop_get h7 hj, hx, loadC]

/-- A part of a slice. -/
def cutV (z : Nat) (v : V) (l r : Nat) : V := match v with
  | .slice b o _ (some c) => .slice b (if c = l then o else o + l * z) (r - l) (some (c - l))
  | .slice b o n none => if n = 0 then .slice b o 0 none else .slice b (o + l * z) (r - l) none
  | v => v

theorem IsS.cut {h : Heap} {z n : Nat} {v : V} {xs : List V} (hi : IsS h z v n xs) {lo hi' : Option V} {l r : Nat} (hlr : l ≤ r) (hr : r ≤ n)
    (hlo : lo = none ∧ l = 0 ∨ ∃ k, lo = some (.int k (l : Int))) (hhi : hi' = none ∧ r = n ∨ ∃ k, hi' = some (.int k (r : Int))) :
    sliceV h z v lo hi' none = some (cutV z v l r) ∧ IsS h z (cutV z v l r) (r - l) ((xs.take (r * z)).drop (l * z)) := by
  have hbnd : ∀ {k : IntKind} {a m : Nat}, a ≤ m → bound (.int k (a : Int)) m = some a := by
    intro _ a m ham
    simp only [bound]
    rw [if_pos ⟨by omega, by omega⟩]
    simp
  have hlow : ∀ m, l ≤ m → lowOf m lo = some l := by
    intro m hm
    rcases hlo with ⟨rfl, rfl⟩ | ⟨k, rfl⟩
    · rfl
    · exact hbnd (k := k) hm
  rcases hi with ⟨rfl, rfl, rfl⟩ | ⟨b, o, c, rfl, h2, h3, h4⟩
  · have hr0 : r = 0 := by omega
    have hl0 : l = 0 := by omega
    subst hr0; subst hl0
    refine ⟨?_, .inl ⟨rfl, rfl, by simp⟩⟩
    have hh : highOf 0 (some 0) hi' none = some 0 := by
      rcases hhi with ⟨rfl, _⟩ | ⟨k, rfl⟩
      · rfl
      · exact hbnd (k := k) (Nat.le_refl 0)
    simp only [sliceV, bounds, maxOf, hh, hlow 0 (Nat.le_refl 0), and_self, if_true, cutV]
  · have hbl : (xs.take (r * z)).length = r * z := by
      rw [List.length_take, h3]
      exact Nat.min_eq_left (Nat.mul_le_mul_right z hr)
    have hlz : l * z ≤ r * z := Nat.mul_le_mul_right z hlr
    have hlen : ((xs.take (r * z)).drop (l * z)).length = (r - l) * z := by
      rw [List.length_drop, hbl, Nat.sub_mul]
    have hmem : ∀ {cs : List V}, (cs.drop o).take (n * z) = xs → (cs.drop (o + l * z)).take ((r - l) * z) = (xs.take (r * z)).drop (l * z) := by
      intro cs h7
      rw [← h7, List.take_take, Nat.min_eq_left (Nat.mul_le_mul_right z hr), List.drop_take, List.drop_drop, Nat.sub_mul]
    cases c with
    | some c =>
      have hc := h2 c rfl
      have hh : highOf n (some c) hi' none = some r := by
        rcases hhi with ⟨rfl, rfl⟩ | ⟨k, rfl⟩
        · rfl
        · exact hbnd (k := k) (by omega)
      refine ⟨by simp only [sliceV, bounds, maxOf, hh, hlow r hlr, cutV], ?_⟩
      refine .inr ⟨b, if c = l then o else o + l * z, some (c - l), rfl, ?_, hlen, ?_⟩
      · intro m hm; cases hm; omega
      · rcases h4 with ⟨_, h5⟩ | ⟨cs, t, own, h5, h6, h7⟩
        · cases h5
        · refine .inr ⟨cs, t, own, h5, ?_⟩
          by_cases hcl : c = l
          · have : r - l = 0 := by omega
            rw [if_pos hcl]
            refine ⟨by rw [this]; omega, ?_⟩
            rw [this] at hlen ⊢
            simp only [Nat.zero_mul, List.take_zero]
            exact (List.length_eq_zero_iff.1 (by simpa using hlen)).symm
          · rw [if_neg hcl]
            refine ⟨?_, hmem h7⟩
            have := Nat.mul_le_mul_right z hr
            rw [Nat.sub_mul]
            omega
    | none =>
      by_cases hn : n = 0
      · subst hn
        have hr0 : r = 0 := by omega
        have hl0 : l = 0 := by omega
        subst hr0; subst hl0
        have hh : highOf 0 none hi' none = some 0 := by
          rcases hhi with ⟨rfl, _⟩ | ⟨k, rfl⟩
          · rfl
          · exact hbnd (k := k) (Nat.le_refl 0)
        refine ⟨by simp only [sliceV, if_true, bounds, maxOf, hh, hlow 0 (Nat.le_refl 0), cutV], ?_⟩
        exact .inr ⟨b, o, none, by simp only [cutV, if_true], fun m hm => (by cases hm), hlen, .inl ⟨rfl, rfl⟩⟩
      · rcases h4 with ⟨h5, _⟩ | ⟨cs, t, own, h5, h6, h7⟩
        · exact absurd h5 hn
        · have hh : highOf n none hi' none = some r := by
            rcases hhi with ⟨rfl, rfl⟩ | ⟨k, rfl⟩
            · rfl
            · exact hbnd (k := k) hr
          refine ⟨by simp only [sliceV, if_neg hn, h5, if_true, bounds, maxOf, hh, hlow r hlr, cutV], ?_⟩
          refine .inr ⟨b, o + l * z, none, by simp only [cutV, if_neg hn], fun m hm => (by cases hm), hlen, .inr ⟨cs, t, own, h5, ?_, hmem h7⟩⟩
          have := Nat.mul_le_mul_right z hr
          rw [Nat.sub_mul]
          omega

/-- A row that is being built: in a block of its own, from its beginning. -/
def Own (h0 h : Heap) (t z : Nat) (v : V) (n : Nat) (xs : List V) : Prop :=
  (v = .nilslice ∧ n = 0 ∧ xs = []) ∨ ∃ b c, v = .slice b 0 n c ∧ (c = none ∨ c = some n) ∧ h0.next ≤ b ∧ b < h.next ∧ xs.length = n * z ∧ h.get b = some (.cells xs t z true)

theorem Own.isS {h0 h : Heap} {t z n : Nat} {v : V} {xs : List V} (ho : Own h0 h t z v n xs) : IsS h z v n xs := by
  rcases ho with h1 | ⟨b, c, rfl, h2, h3, h4, h5, h6⟩
  · exact .inl h1
  · refine .inr ⟨b, 0, c, rfl, ?_, h5, .inr ⟨xs, t, true, h6, by omega, ?_⟩⟩
    · intro m hm
      subst hm
      rcases h2 with h2 | h2
      · cases h2
      · cases h2; exact Nat.le_refl _
    · rw [List.drop_zero, List.take_of_length_le (by omega)]

theorem Own.append {h0 h : Heap} {t z bytes n m : Nat} {v x : V} {xs ys : List V} (he : Ext h0 h) (hf : Fresh h) (ho : Own h0 h t z v n xs) (hx : added h z x = some (ys, m)) (hl : ys.length = m * z) (h1 : ys.all V.one = true)
    (hb : (n + m + 1024) * bytes ≤ most) (hm : n + m ≤ most) :
    ∃ v' h', appendV h t z bytes v x = some (v', h') ∧ Own h0 h' t z v' (n + m) (xs ++ ys) ∧ Ext h0 h' ∧ Fresh h' ∧ (∀ b, b < h.next → (∀ o c, v ≠ .slice b o n c) → h'.get b = h.get b) ∧ h.next ≤ h'.next := by
  simp only [appendV, hx]
  have hget : ∀ (B : Blk) (b : Nat), b < h.next → (h.new B).get b = h.get b := fun B b hb => by rw [Heap.get_new, if_neg (by omega)]
  rcases ho with ⟨rfl, rfl, rfl⟩ | ⟨b, c, rfl, h2, h3, h4, h5, h6⟩
  · by_cases hm0 : m = 0
    · subst hm0
      have : ys = [] := List.length_eq_zero_iff.1 (by omega)
      subst this
      exact ⟨.nilslice, h, by simp [appendXs], .inl ⟨rfl, rfl, rfl⟩, he, hf, fun _ _ _ => rfl, Nat.le_refl _⟩
    · refine ⟨.slice h.next 0 m none, h.new (.cells ys t z true), ?_, .inr ⟨h.next, none, by simp, .inl rfl, he.1, by simp, by simpa using hl, by simp [Heap.get_new]⟩, he.trans_new _, hf.new _, fun b hb _ => hget _ b hb, by simp⟩
      simp only [appendXs, if_neg hm0]
      rw [if_pos ⟨by simpa using hb, by simpa using hm⟩]
  · have hread : h.read b (0 + 0) (n * z) = some xs := by
      unfold Heap.read
      by_cases h0' : n * z = 0
      · rw [if_pos h0', List.length_eq_zero_iff.1 (by omega : xs.length = 0)]
      · rw [if_neg h0', h6]
        simp only
        rw [if_pos (by omega)]
        rw [Nat.add_zero, List.drop_zero, List.take_of_length_le (by omega)]
    by_cases hm0 : m = 0
    · subst hm0
      have : ys = [] := List.length_eq_zero_iff.1 (by omega)
      subst this
      refine ⟨.slice b 0 n c, h, ?_, .inr ⟨b, c, by simp, by simpa using h2, h3, h4, by simpa using h5, by simpa using h6⟩, he, hf, fun _ _ _ => rfl, Nat.le_refl _⟩
      rcases h2 with rfl | rfl <;> simp [appendXs]
    · rcases h2 with rfl | rfl
      · have hlt : b < h.next := h4
        refine ⟨.slice h.next 0 (n + m) none, (h.set b none).new (.cells (xs ++ ys) t z true), ?_, .inr ⟨h.next, none, rfl, .inl rfl, he.1, by simp, by rw [List.length_append, h5, hl, Nat.add_mul], ?_⟩, ?_, ?_, ?_, ?_⟩
        · simp only [appendXs, if_neg hm0]
          rw [if_pos ⟨hb, hm⟩, h6]
          have hread' : h.read b 0 (n * z) = some xs := hread
          simp only [hread']
          rw [if_pos ⟨trivial, trivial, h1, hl⟩]
        · rw [Heap.get_new, if_pos (by simp)]
        · exact (he.trans_set h3 none).trans_new _
        · exact (hf.set hlt none).new _
        · intro i hi hne
          rw [Heap.get_new, if_neg (by simp; omega), Heap.get_set, if_neg]
          intro e
          subst e
          exact hne 0 none rfl
        · simp
      · refine ⟨.slice h.next 0 (n + m) none, h.new (.cells (xs ++ ys) t z true), ?_, .inr ⟨h.next, none, rfl, .inl rfl, he.1, by simp, by rw [List.length_append, h5, hl, Nat.add_mul], by simp [Heap.get_new]⟩, he.trans_new _, hf.new _, fun b hb _ => hget _ b hb, by simp⟩
        simp only [appendXs]
        rw [if_neg (by omega), if_pos ⟨hb, hm⟩]
        have hread' : h.read b 0 (n * z) = some xs := hread
        simp only [hread']

theorem run_body {tab : Nat → Option AFn} {N n f : Nat} {fn : AFn} (ht : tab f = some fn) (args : List V) (h : Heap) : runA tab N (n + 1) f args h = bodyA (runA tab N n) N fn args h := by
  simp only [runA, ht, bodyA]
  split <;> simp_all

end
end Go.Proofs.YthfbefjmenddkaaDoorA
