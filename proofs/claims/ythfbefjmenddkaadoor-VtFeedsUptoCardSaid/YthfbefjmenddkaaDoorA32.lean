/- Heaps in one form: a new block's later contents stand in the place of its first ones. What slices hold, read out. Temporaries that a loop does not write. -/
import Derived.Test.YthfbefjmenddkaaDoorA31
namespace Go.Proofs.YthfbefjmenddkaaDoorA
open Go
set_option linter.unusedVariables false
set_option linter.unusedSimpArgs false
noncomputable section

theorem T.setF_same {α : Type} : ∀ (f : Nat) (t : T α) (n : Nat) (a b : Option α), n < f → T.setF f (T.setF f t n a) n b = T.setF f t n b
  | 0, _, n, _, _, h => by omega
  | f + 1, .nil, n, a, b, h => by
    by_cases h0 : n = 0
    · simp only [T.setF_nil, T.setF_node, h0, if_true]
    · by_cases h1 : n % 2 = 1
      · simp only [T.setF_nil, T.setF_node, h0, h1, if_true, if_false]
        rw [T.setF_same f .nil (n / 2) a b (by omega)]
      · simp only [T.setF_nil, T.setF_node, h0, h1, if_false]
        rw [T.setF_same f .nil (n / 2 - 1) a b (by omega)]
  | f + 1, .node v l r, n, a, b, h => by
    by_cases h0 : n = 0
    · simp only [T.setF_node, h0, if_true]
    · by_cases h1 : n % 2 = 1
      · simp only [T.setF_node, h0, h1, if_true, if_false]
        rw [T.setF_same f l (n / 2) a b (by omega)]
      · simp only [T.setF_node, h0, h1, if_false]
        rw [T.setF_same f r (n / 2 - 1) a b (by omega)]

theorem T.setF_comm {α : Type} : ∀ (f g : Nat) (t : T α) (n m : Nat) (a b : Option α), n < f → m < g → n ≠ m → T.setF f (T.setF g t m b) n a = T.setF g (T.setF f t n a) m b
  | 0, _, _, n, _, _, _, h, _, _ => by omega
  | _ + 1, 0, _, _, m, _, _, _, h, _ => by omega
  | f + 1, g + 1, .nil, n, m, a, b, hn, hm, hne => by
    by_cases n0 : n = 0
    · have m0 : ¬ m = 0 := by omega
      by_cases m1 : m % 2 = 1 <;> simp only [T.setF_nil, T.setF_node, n0, m0, m1, if_true, if_false]
    · by_cases m0 : m = 0
      · by_cases n1 : n % 2 = 1 <;> simp only [T.setF_nil, T.setF_node, n0, m0, n1, if_true, if_false]
      · by_cases n1 : n % 2 = 1
        · by_cases m1 : m % 2 = 1
          · simp only [T.setF_nil, T.setF_node, n0, m0, n1, m1, if_true, if_false]
            rw [T.setF_comm f g .nil (n / 2) (m / 2) a b (by omega) (by omega) (by omega)]
          · simp only [T.setF_nil, T.setF_node, n0, m0, n1, m1, if_true, if_false]
        · by_cases m1 : m % 2 = 1
          · simp only [T.setF_nil, T.setF_node, n0, m0, n1, m1, if_true, if_false]
          · simp only [T.setF_nil, T.setF_node, n0, m0, n1, m1, if_false]
            rw [T.setF_comm f g .nil (n / 2 - 1) (m / 2 - 1) a b (by omega) (by omega) (by omega)]
  | f + 1, g + 1, .node v l r, n, m, a, b, hn, hm, hne => by
    by_cases n0 : n = 0
    · have m0 : ¬ m = 0 := by omega
      by_cases m1 : m % 2 = 1 <;> simp only [T.setF_node, n0, m0, m1, if_true, if_false]
    · by_cases m0 : m = 0
      · by_cases n1 : n % 2 = 1 <;> simp only [T.setF_node, n0, m0, n1, if_true, if_false]
      · by_cases n1 : n % 2 = 1
        · by_cases m1 : m % 2 = 1
          · simp only [T.setF_node, n0, m0, n1, m1, if_true, if_false]
            rw [T.setF_comm f g l (n / 2) (m / 2) a b (by omega) (by omega) (by omega)]
          · simp only [T.setF_node, n0, m0, n1, m1, if_true, if_false]
        · by_cases m1 : m % 2 = 1
          · simp only [T.setF_node, n0, m0, n1, m1, if_true, if_false]
          · simp only [T.setF_node, n0, m0, n1, m1, if_false]
            rw [T.setF_comm f g r (n / 2 - 1) (m / 2 - 1) a b (by omega) (by omega) (by omega)]

/-- The next number, given to what is there or to nothing. -/
def Heap.gone (h : Heap) : Heap := { next := h.next + 1, t := T.setF (h.next + 1) h.t h.next none }

theorem Heap.set_new (h : Heap) (B C : Blk) : (h.new B).set h.next (some C) = h.new C := by
  simp only [Heap.set, Heap.new, Heap.mk.injEq, true_and]
  exact T.setF_same _ _ _ _ _ (Nat.lt_succ_self _)
theorem Heap.kill_new (h : Heap) (B : Blk) : (h.new B).set h.next none = h.gone := by
  simp only [Heap.set, Heap.new, Heap.gone, Heap.mk.injEq, true_and]
  exact T.setF_same _ _ _ _ _ (Nat.lt_succ_self _)
theorem Heap.set_new_ne (h : Heap) (B : Blk) {b : Nat} (x : Option Blk) (hb : ¬ b = h.next) : (h.new B).set b x = (h.set b x).new B := by
  simp only [Heap.set, Heap.new, Heap.mk.injEq, true_and]
  exact T.setF_comm _ _ _ _ _ _ _ (Nat.lt_succ_self _) (Nat.lt_succ_self _) hb
theorem Heap.set_gone_ne (h : Heap) {b : Nat} (x : Option Blk) (hb : ¬ b = h.next) : h.gone.set b x = (h.set b x).gone := by
  simp only [Heap.set, Heap.gone, Heap.mk.injEq, true_and]
  exact T.setF_comm _ _ _ _ _ _ _ (Nat.lt_succ_self _) (Nat.lt_succ_self _) hb
theorem Heap.set_set (h : Heap) (b : Nat) (x y : Option Blk) : (h.set b x).set b y = h.set b y := by
  simp only [Heap.set, Heap.mk.injEq, true_and]
  exact T.setF_same _ _ _ _ _ (Nat.lt_succ_self _)
theorem Heap.set_comm (h : Heap) {b c : Nat} (x y : Option Blk) (hb : c ≠ b) : (h.set b x).set c y = (h.set c y).set b x := by
  simp only [Heap.set, Heap.mk.injEq, true_and]
  exact T.setF_comm _ _ _ _ _ _ _ (Nat.lt_succ_self _) (Nat.lt_succ_self _) hb
theorem Heap.get_gone (h : Heap) (m : Nat) : h.gone.get m = if m = h.next then none else h.get m := T.get_setF none (h.next + 1) h.t h.next m (Nat.lt_succ_self _)
theorem Heap.next_gone (h : Heap) : h.gone.next = h.next + 1 := rfl
theorem Heap.get_new_self (h : Heap) (B : Blk) : (h.new B).get h.next = some B := by rw [Heap.get_new, if_pos rfl]

theorem Fresh.gone {h : Heap} (hf : Fresh h) : Fresh h.gone := fun b hb => by
  rw [Heap.next_gone] at hb
  rw [Heap.get_gone, if_neg (by omega)]; exact hf b (by omega)
theorem Fresh.setS {h : Heap} (hf : Fresh h) {i : Nat} {B B' : Blk} (hi : h.get i = some B') : Fresh (h.set i (some B)) := hf.set (hf.lt hi) _

/-! What a slice holds. -/

/-- The cells of a slice of elements of z cells each. -/
def rd (h : Heap) (z : Nat) : V → Option (List V)
  | .nilslice => some []
  | .slice b o n _ => h.read b o (n * z)
  | _ => none

/-- Integers of one kind, out of cells. -/
def asK (k : IntKind) : List V → Option (List Int)
  | [] => some []
  | .int k' n :: vs => if k' = k then (asK k vs).map (n :: ·) else none
  | _ => none

/-- Bytes, out of cells: told as they are. -/
def asB : List V → Option (List Nat)
  | [] => some []
  | .int .u8 n :: vs => if 0 ≤ n ∧ n < 256 then (asB vs).map (n.toNat :: ·) else none
  | _ => none

def rdK (k : IntKind) (h : Heap) (v : V) : Option (List Int) := (rd h 1 v).bind (asK k)
def rdB (h : Heap) (v : V) : Option (List Nat) := (rd h 1 v).bind asB

theorem asK_some {k : IntKind} : ∀ {cs : List V} {xs : List Int}, asK k cs = some xs ↔ cs = xs.map (V.int k)
  | [], xs => by cases xs <;> simp [asK]
  | v :: vs, xs => by
    cases v with
    | int k' n =>
      by_cases hk : k' = k
      · subst hk
        cases xs with
        | nil => simp [asK]
        | cons x xs =>
          have ih := asK_some (k := k') (cs := vs) (xs := xs)
          simp only [asK, if_true, Option.map_eq_some_iff, List.cons.injEq, List.map_cons, V.int.injEq, true_and]
          constructor
          · rintro ⟨a, h1, rfl, rfl⟩; exact ⟨rfl, ih.1 h1⟩
          · rintro ⟨rfl, h2⟩; exact ⟨xs, ih.2 h2, rfl, rfl⟩
      · cases xs with
        | nil => simp [asK, hk]
        | cons x xs => simp [asK, hk]
    | _ => cases xs <;> simp [asK]

theorem asB_some : ∀ {cs : List V} {s : List Nat}, asB cs = some s ↔ cs = bytesOf s ∧ ∀ x ∈ s, x < 256
  | [], s => by cases s <;> simp [asB, bytesOf]
  | v :: vs, s => by
    have ih : ∀ t, asB vs = some t ↔ vs = bytesOf t ∧ ∀ x ∈ t, x < 256 := fun t => asB_some (cs := vs) (s := t)
    cases v with
    | int k n =>
      by_cases hk : k = .u8
      · subst hk
        by_cases hn : 0 ≤ n ∧ n < 256
        · simp only [asB, if_pos hn, Option.map_eq_some_iff]
          constructor
          · rintro ⟨t, ht, rfl⟩
            obtain ⟨h1, h2⟩ := (ih t).1 ht
            refine ⟨?_, fun x hx => ?_⟩
            · rw [h1]; simp only [bytesOf, List.map_cons, List.cons.injEq, V.int.injEq, true_and, and_true]; simp only [Int.ofNat_eq_natCast]; omega
            · rcases List.mem_cons.1 hx with rfl | hx
              · omega
              · exact h2 x hx
          · rintro ⟨h1, h2⟩
            cases s with
            | nil => simp [bytesOf] at h1
            | cons x s =>
              simp only [bytesOf, List.map_cons, List.cons.injEq, V.int.injEq, true_and] at h1
              refine ⟨s, (ih s).2 ⟨h1.2, fun y hy => h2 y (by simp [hy])⟩, ?_⟩
              have := h1.1
              simp only [Int.ofNat_eq_natCast] at this
              simp only [List.cons.injEq, and_true]; omega
        · simp only [asB, if_neg hn]
          constructor
          · intro h; cases h
          · rintro ⟨h1, h2⟩
            cases s with
            | nil => simp [bytesOf] at h1
            | cons x s =>
              simp only [bytesOf, List.map_cons, List.cons.injEq, V.int.injEq, true_and, Int.ofNat_eq_natCast] at h1
              have := h2 x (by simp)
              exact absurd (by omega) hn
      · have : asB (.int k n :: vs) = none := by
          unfold asB
          split
          · rename_i h; cases h
          · rename_i h; cases h; exact absurd rfl hk
          · rfl
        rw [this]
        constructor
        · intro h; cases h
        · rintro ⟨h1, _⟩
          cases s with
          | nil => simp [bytesOf] at h1
          | cons x s => simp [bytesOf] at h1; exact absurd h1.1.1 hk
    | _ => cases s <;> simp [asB, bytesOf]

theorem asB_bytesOf {s : List Nat} (h : ∀ x ∈ s, x < 256) : asB (bytesOf s) = some s := asB_some.2 ⟨rfl, h⟩
theorem asK_map (k : IntKind) (xs : List Int) : asK k (xs.map (V.int k)) = some xs := asK_some.2 rfl

variable {h h' : Heap} {z n : Nat} {v : V} {xs : List V} {s : List Nat}

theorem rd_slice (b o n z : Nat) (c : Option Nat) : rd h z (.slice b o n c) = h.read b o (n * z) := rfl
theorem rd_nil (z : Nat) : rd h z .nilslice = some [] := rfl

/-- A slice whose number of cells is told. -/
theorem rd_isS (hr : rd h z v = some xs) : (v = .nilslice ∧ xs = []) ∨ ∃ b o n c, v = .slice b o n c ∧ xs.length = n * z ∧ h.read b o (n * z) = some xs := by
  cases v with
  | nilslice => simp only [rd, Option.some.injEq] at hr; exact .inl ⟨rfl, hr.symm⟩
  | slice b o n c =>
    refine .inr ⟨b, o, n, c, rfl, ?_, hr⟩
    simp only [rd] at hr
    unfold Heap.read at hr
    split at hr
    · rename_i h0; rw [h0, ← Option.some.inj hr]; rfl
    · split at hr
      · split at hr
        · rename_i hl
          rw [← Option.some.inj hr, List.length_take, List.length_drop]
          omega
        · cases hr
      · cases hr
  | _ => simp [rd] at hr

theorem rd_isSl (hr : rd h z v = some xs) : isSl v = true := by cases v <;> first | rfl | simp [rd] at hr
theorem rd_one (hr : rd h z v = some xs) : v.one = true := by cases v <;> first | rfl | simp [rd] at hr
theorem rd_cells (hr : rd h z v = some xs) : v.cells = [v] := by cases v <;> first | rfl | simp [rd] at hr
theorem rd_len (hr : rd h z v = some xs) : xs.length = vlen v * z := by
  cases v with
  | nilslice => simp only [rd, Option.some.injEq] at hr; subst hr; simp [vlen]
  | slice b o n c =>
    simp only [rd] at hr
    simp only [vlen]
    unfold Heap.read at hr
    split at hr
    · rename_i h0; rw [h0, ← Option.some.inj hr]; rfl
    · split at hr
      · split at hr
        · rename_i hl
          rw [← Option.some.inj hr, List.length_take, List.length_drop]
          omega
        · cases hr
      · cases hr
  | _ => simp [rd] at hr
theorem rd_vlen (hr : rd h 1 v = some xs) : vlen v = xs.length := by have := rd_len hr; omega

theorem rdB_rd (hr : rdB h v = some s) : rd h 1 v = some (bytesOf s) ∧ ∀ x ∈ s, x < 256 := by
  unfold rdB at hr
  obtain ⟨cs, h1, h2⟩ := Option.bind_eq_some_iff.1 hr
  obtain ⟨rfl, h3⟩ := asB_some.1 h2
  exact ⟨h1, h3⟩
theorem rdB_of (hr : rd h 1 v = some (bytesOf s)) (hs : ∀ x ∈ s, x < 256) : rdB h v = some s := by unfold rdB; rw [hr]; exact asB_bytesOf hs
theorem rdK_rd {k : IntKind} {l : List Int} (hr : rdK k h v = some l) : rd h 1 v = some (l.map (V.int k)) := by
  unfold rdK at hr
  obtain ⟨cs, h1, h2⟩ := Option.bind_eq_some_iff.1 hr
  rw [asK_some.1 h2] at h1
  exact h1
theorem rdK_of {k : IntKind} {l : List Int} (hr : rd h 1 v = some (l.map (V.int k))) : rdK k h v = some l := by unfold rdK; rw [hr]; exact asK_map k l
theorem rdB_isSl (hr : rdB h v = some s) : isSl v = true := rd_isSl (rdB_rd hr).1
theorem rdB_one (hr : rdB h v = some s) : v.one = true := rd_one (rdB_rd hr).1
theorem rdB_cells (hr : rdB h v = some s) : v.cells = [v] := rd_cells (rdB_rd hr).1
theorem rdB_vlen (hr : rdB h v = some s) : vlen v = s.length := by rw [rd_vlen (rdB_rd hr).1, bytesOf_length]

/-- A slice that can be read stays what it is when a block comes anew. -/
theorem read_new {b o m : Nat} (hf : h.get h.next = none) (B : Blk) (hr : (h.read b o m).isSome = true) : (h.new B).read b o m = h.read b o m := by
  unfold Heap.read at hr ⊢
  by_cases h0 : m = 0
  · rw [if_pos h0, if_pos h0]
  · rw [if_neg h0] at hr
    rw [if_neg h0, if_neg h0, Heap.get_new]
    by_cases e : b = h.next
    · subst e; rw [hf] at hr; cases hr
    · rw [if_neg e]
theorem read_gone {b o m : Nat} (hf : h.get h.next = none) (hr : (h.read b o m).isSome = true) : h.gone.read b o m = h.read b o m := by
  unfold Heap.read at hr ⊢
  by_cases h0 : m = 0
  · rw [if_pos h0, if_pos h0]
  · rw [if_neg h0] at hr
    rw [if_neg h0, if_neg h0, Heap.get_gone]
    by_cases e : b = h.next
    · subst e; rw [hf] at hr; cases hr
    · rw [if_neg e]
theorem rd_new (hf : Fresh h) (B : Blk) (hr : (rd h z v).isSome = true) : rd (h.new B) z v = rd h z v := by
  cases v <;> first | rfl | exact read_new (hf _ (Nat.le_refl _)) B hr
theorem rd_gone (hf : Fresh h) (hr : (rd h z v).isSome = true) : rd h.gone z v = rd h z v := by
  cases v <;> first | rfl | exact read_gone (hf _ (Nat.le_refl _)) hr
theorem rdB_new (hf : Fresh h) (B : Blk) (hr : (rdB h v).isSome = true) : rdB (h.new B) v = rdB h v := by
  unfold rdB at hr ⊢
  rw [rd_new hf B (by cases hq : rd h 1 v <;> simp_all)]
theorem rdB_gone (hf : Fresh h) (hr : (rdB h v).isSome = true) : rdB h.gone v = rdB h v := by
  unfold rdB at hr ⊢
  rw [rd_gone hf (by cases hq : rd h 1 v <;> simp_all)]
theorem rdK_new {k : IntKind} (hf : Fresh h) (B : Blk) (hr : (rdK k h v).isSome = true) : rdK k (h.new B) v = rdK k h v := by
  unfold rdK at hr ⊢
  rw [rd_new hf B (by cases hq : rd h 1 v <;> simp_all)]
theorem rdK_gone {k : IntKind} (hf : Fresh h) (hr : (rdK k h v).isSome = true) : rdK k h.gone v = rdK k h v := by
  unfold rdK at hr ⊢
  rw [rd_gone hf (by cases hq : rd h 1 v <;> simp_all)]

/-- The new block's own slice. -/
theorem read_self {cs : List V} {t o m : Nat} {own : Bool} (hl : o + m ≤ cs.length) : (h.new (.cells cs t z own)).read h.next o m = some ((cs.drop o).take m) := by
  unfold Heap.read
  split
  · rename_i h0; subst h0; simp
  · rw [Heap.get_new, if_pos rfl]; simp only; rw [if_pos hl]
theorem rd_self {cs : List V} {t : Nat} {own : Bool} {c : Option Nat} {n : Nat} (hl : cs.length = n * z) : rd (h.new (.cells cs t z own)) z (.slice h.next 0 n c) = some cs := by
  simp only [rd]
  rw [read_self (by omega), List.drop_zero, List.take_of_length_le (by omega)]
theorem rdB_self {t : Nat} {own : Bool} {c : Option Nat} {n : Nat} (hl : s.length = n) (hs : ∀ x ∈ s, x < 256) : rdB (h.new (.cells (bytesOf s) t 1 own)) (.slice h.next 0 n c) = some s :=
  rdB_of (rd_self (by rw [bytesOf_length]; omega)) hs
theorem rdK_self {k : IntKind} {l : List Int} {t : Nat} {own : Bool} {c : Option Nat} {n : Nat} (hl : l.length = n) : rdK k (h.new (.cells (l.map (V.int k)) t 1 own)) (.slice h.next 0 n c) = some l :=
  rdK_of (rd_self (by simpa using hl))

/-! The operations on a slice that is read. -/

theorem rd_added (hr : rd h z v = some xs) : added h z v = some (xs, vlen v) := by
  cases v with
  | nilslice => simp only [rd, Option.some.injEq] at hr; subst hr; rfl
  | slice b o n c => simp only [rd] at hr; simp only [added, hr, Option.map_some, vlen]
  | _ => simp [rd] at hr

theorem rdB_str (hr : rdB h v = some s) : bytesStrS v h = some (.str s, h) := by
  obtain ⟨h1, h2⟩ := rdB_rd hr
  cases v with
  | nilslice =>
    simp only [rd, Option.some.injEq] at h1
    have : s = [] := by cases s <;> simp [bytesOf] at h1 ⊢
    subst this; rfl
  | slice b o n c =>
    simp only [rd, Nat.mul_one] at h1
    simp only [bytesStrS, h1, strOfS, strOf_bytesOf s h2]
  | _ => simp [rd] at h1

/-- Where an element lies, and what lies there. -/
theorem rd_index (hr : rd h z v = some xs) (h' : Heap) (k : IntKind) {i : Int} (h0 : 0 ≤ i) (h1 : i < vlen v) : indexAddrSS z v (.int k i) h' = some (atP v (i.toNat * z), h') := by
  cases v with
  | nilslice => simp [vlen] at h1; omega
  | slice b o n c => rw [indexAddrSS_slice, if_pos ⟨h0, h1⟩]; rfl
  | _ => simp [rd] at hr
theorem rd_load (hr : rd h z v = some xs) {j : Nat} {x : V} (hx : xs[j]? = some x) : loadS (atP v j) h = some (x, h) := by
  have hj : j < xs.length := (List.getElem?_eq_some_iff.1 hx).1
  have hl := rd_len hr
  cases v with
  | nilslice => simp only [rd, Option.some.injEq] at hr; subst hr; simp at hj
  | slice b o n c =>
    simp only [rd] at hr
    simp only [vlen] at hl
    unfold Heap.read at hr
    rw [if_neg (by omega)] at hr
    split at hr
    · rename_i cs t z' own hg
      split at hr
      · have hr := Option.some.inj hr
        simp only [atP, loadS, hg, loadB, nth_eq]
        rw [← hr] at hx
        rw [take_drop_get (xs := (cs.drop o).take (n * z)) rfl (by omega), hx]
        rfl
      · cases hr
    · cases hr
  | _ => simp [rd] at hr
theorem rdB_load (hr : rdB h v = some s) {j : Nat} (hj : j < s.length) : loadS (atP v j) h = some (.int .u8 (s.getD j 0 : Nat), h) := by
  refine rd_load (rdB_rd hr).1 ?_
  rw [bytesOf_get, List.getElem?_eq_getElem hj, List.getD_eq_getElem?_getD, List.getElem?_eq_getElem hj]; rfl
theorem rdK_load {k : IntKind} {l : List Int} (hr : rdK k h v = some l) {j : Nat} (hj : j < l.length) : loadS (atP v j) h = some (.int k (l.getD j 0), h) := by
  refine rd_load (rdK_rd hr) ?_
  rw [List.getElem?_map, List.getElem?_eq_getElem hj, List.getD_eq_getElem?_getD, List.getElem?_eq_getElem hj]; rfl

/-! Temporaries that a piece of code does not write. -/

def opsWr (os : List AOper) : List Nat := os.filterMap (·.dst)

def ACode.wr : ACode → List Nat
  | .skip => []
  | .region os => opsWr os
  | .anyRegion os _ => opsWr os
  | .floatRegion os _ _ => opsWr os
  | .seq a b => a.wr ++ b.wr
  | .cond _ a b => a.wr ++ b.wr
  | .block _ b => b.wr
  | .loop b => b.wr
  | .exit _ => []
  | .ret => []

theorem put_keep {e : Env} {d : Option Nat} {v : V} {t : Nat} (h : d ≠ some t) : (put e d v).at t = e.at t ∧ (put e d v).n = e.n := by
  cases d with
  | none => exact ⟨rfl, rfl⟩
  | some d =>
    simp only [put]
    refine ⟨?_, Env.n_put e d v⟩
    rw [Env.at_put, if_neg]
    rintro ⟨rfl, _⟩
    exact h rfl

theorem put_n {e : Env} {d : Option Nat} {v : V} : (put e d v).n = e.n := by cases d <;> simp [put, Env.n_put]

theorem stepsA_n {cf : ACall} : ∀ {os : List AOper} {e e' : Env} {h h' : Heap}, stepsA cf os e h = some (e', h') → e'.n = e.n ∧ ∀ t, t ∉ opsWr os → e'.at t = e.at t
  | [], e, e', h, h', hs => by simp only [stepsA, Option.some.injEq, Prod.mk.injEq] at hs; obtain ⟨rfl, rfl⟩ := hs; exact ⟨rfl, fun _ _ => rfl⟩
  | o :: os, e, e', h, h', hs => by
    simp only [stepsA] at hs
    split at hs
    · rename_i e1 h1 hst
      obtain ⟨k1, k2⟩ := stepsA_n hs
      have : ∃ v, e1 = put e o.dst v := by
        unfold stepA at hst
        split at hst
        · split at hst
          · simp only [Option.some.injEq, Prod.mk.injEq] at hst; exact ⟨_, hst.1.symm⟩
          · cases hst
        · simp only [Option.some.injEq, Prod.mk.injEq] at hst; exact ⟨_, hst.1.symm⟩
      obtain ⟨v, rfl⟩ := this
      refine ⟨k1.trans put_n, fun t ht => ?_⟩
      have hsub : opsWr os ⊆ opsWr (o :: os) := by
        intro x hx
        simp only [opsWr, List.mem_filterMap] at hx ⊢
        obtain ⟨y, hy, hd⟩ := hx
        exact ⟨y, by simp [hy], hd⟩
      rw [k2 t (fun hh => ht (hsub hh))]
      refine (put_keep fun hd => ht ?_).1
      simp only [opsWr, List.mem_filterMap]
      exact ⟨o, by simp, hd⟩
    · cases hs

theorem traceA_wr {cf : ACall} : ∀ {os : List AOper} {e : Env} {h : Heap} {l : List It}, traceA cf os e h = some l → l.map (fun x => x.o) = os
  | [], e, h, l, hs => by simp only [traceA, Option.some.injEq] at hs; subst hs; rfl
  | o :: os, e, h, l, hs => by
    simp only [traceA] at hs
    split at hs
    · cases hs
    · split at hs
      · cases hs
      · rename_i l' hl
        simp only [Option.some.injEq] at hs
        subst hs
        simp [traceA_wr hl]

theorem envL_keep {s : Nat → Bool} {t : Nat} : ∀ {l : List It} {i : Nat} {e : Env}, (∀ x ∈ l, x.o.dst ≠ some t) → (envL s i l e).at t = e.at t
  | [], _, _, _ => rfl
  | x :: l, i, e, h => by
    simp only [envL]
    rw [envL_keep fun y hy => h y (by simp [hy])]
    split
    · exact (put_keep (h x (by simp))).1
    · rfl
theorem iter_keep {f : Env → Heap → Option (AExit × Env × Heap)} {K : Env → Env → Prop} (h0 : ∀ e, K e e) (ht : ∀ a b c, K a b → K b c → K a c) (hf : ∀ {e h x e' h'}, f e h = some (x, e', h') → K e e') :
    ∀ {n : Nat} {e : Env} {h : Heap} {x : AExit} {e' : Env} {h' : Heap}, iterA f n e h = some (x, e', h') → K e e'
  | 0, e, h, x, e', h', hi => by simp [iterA] at hi
  | n + 1, e, h, x, e', h', hi => by
    simp only [iterA] at hi
    split at hi
    · rename_i e1 h1 hfe
      exact ht _ _ _ (hf hfe) (iter_keep h0 ht hf hi)
    · exact hf hi

theorem exec_keep {cf : ACall} {N : Nat} : ∀ {c : ACode} {e : Env} {h : Heap} {x : AExit} {e' : Env} {h' : Heap}, execA cf N c e h = some (x, e', h') → e'.n = e.n ∧ ∀ t, t ∉ c.wr → e'.at t = e.at t
  | .skip, e, h, x, e', h', hs => by simp only [execA, Option.some.injEq, Prod.mk.injEq] at hs; obtain ⟨_, rfl, _⟩ := hs; exact ⟨rfl, fun _ _ => rfl⟩
  | .exit _, e, h, x, e', h', hs => by simp only [execA, Option.some.injEq, Prod.mk.injEq] at hs; obtain ⟨_, rfl, _⟩ := hs; exact ⟨rfl, fun _ _ => rfl⟩
  | .ret, e, h, x, e', h', hs => by simp only [execA, Option.some.injEq, Prod.mk.injEq] at hs; obtain ⟨_, rfl, _⟩ := hs; exact ⟨rfl, fun _ _ => rfl⟩
  | .region os, e, h, x, e', h', hs => by
    simp only [execA] at hs
    split at hs
    · rename_i e1 h1 hst
      simp only [Option.some.injEq, Prod.mk.injEq] at hs
      obtain ⟨_, rfl, _⟩ := hs
      exact stepsA_n hst
    · cases hs
  | .anyRegion os chk, e, h, x, e', h', hs => by
    simp only [execA] at hs
    split at hs
    · rename_i l hl
      split at hs
      · simp only [Option.some.injEq, Prod.mk.injEq] at hs
        obtain ⟨_, rfl, _⟩ := hs
        refine ⟨envL_n _ _ _ _, fun t ht => envL_keep fun y hy hd => ht ?_⟩
        have := traceA_wr hl
        simp only [ACode.wr, opsWr, List.mem_filterMap]
        exact ⟨y.o, by rw [← this]; exact List.mem_map.2 ⟨y, hy, rfl⟩, hd⟩
      · cases hs
    · cases hs
  | .floatRegion os acts chk, e, h, x, e', h', hs => by
    simp only [execA] at hs
    split at hs
    · rename_i l hl
      split at hs
      · simp only [Option.some.injEq, Prod.mk.injEq] at hs
        obtain ⟨_, rfl, _⟩ := hs
        refine ⟨envL_n _ _ _ _, fun t ht => envL_keep fun y hy hd => ht ?_⟩
        obtain ⟨r, hr, hops, _⟩ := traceF_ok hl
        simp only [List.nil_append] at hr
        subst hr
        simp only [ACode.wr, opsWr, List.mem_filterMap]
        exact ⟨y.o, by rw [← hops]; exact List.mem_map.2 ⟨y, hy, rfl⟩, hd⟩
      · cases hs
    · cases hs
  | .seq a b, e, h, x, e', h', hs => by
    simp only [execA] at hs
    split at hs
    · rename_i e1 h1 hst
      obtain ⟨k1, k2⟩ := exec_keep hst
      obtain ⟨q1, q2⟩ := exec_keep hs
      refine ⟨q1.trans k1, fun t ht => ?_⟩
      simp only [ACode.wr, List.mem_append, not_or] at ht
      rw [q2 t ht.2, k2 t ht.1]
    · obtain ⟨k1, k2⟩ := exec_keep hs
      refine ⟨k1, fun t ht => ?_⟩
      simp only [ACode.wr, List.mem_append, not_or] at ht
      exact k2 t ht.1
  | .cond c a b, e, h, x, e', h', hs => by
    simp only [execA] at hs
    split at hs
    · obtain ⟨k1, k2⟩ := exec_keep hs
      refine ⟨k1, fun t ht => ?_⟩
      simp only [ACode.wr, List.mem_append, not_or] at ht
      exact k2 t ht.1
    · obtain ⟨k1, k2⟩ := exec_keep hs
      refine ⟨k1, fun t ht => ?_⟩
      simp only [ACode.wr, List.mem_append, not_or] at ht
      exact k2 t ht.2
    · cases hs
  | .block id b, e, h, x, e', h', hs => by
    simp only [execA] at hs
    split at hs
    · rename_i id' e1 h1 hst
      obtain ⟨k1, k2⟩ := exec_keep hst
      split at hs
      · simp only [Option.some.injEq, Prod.mk.injEq] at hs
        obtain ⟨_, rfl, _⟩ := hs
        exact ⟨k1, k2⟩
      · simp only [Option.some.injEq, Prod.mk.injEq] at hs
        obtain ⟨_, rfl, _⟩ := hs
        exact ⟨k1, k2⟩
    · obtain ⟨k1, k2⟩ := exec_keep (c := b) hs
      exact ⟨k1, k2⟩
  | .loop b, e, h, x, e', h', hs => by
    simp only [execA] at hs
    exact iter_keep (K := fun a c => c.n = a.n ∧ ∀ t, t ∉ b.wr → c.at t = a.at t) (fun _ => ⟨rfl, fun _ _ => rfl⟩) (fun a c d k1 k2 => ⟨k2.1.trans k1.1, fun t ht => by rw [k2.2 t ht, k1.2 t ht]⟩) (fun hf => exec_keep hf) hs

/-- The temporaries behind a loop. -/
def loopE (cf : ACall) (N : Nat) (c : ACode) (e : Env) (h : Heap) : Env := match execA cf N (.loop c) e h with
  | some (_, e', _) => e'
  | none => e

theorem loopE_n (cf : ACall) (N : Nat) (c : ACode) (e : Env) (h : Heap) : (loopE cf N c e h).n = e.n := by
  unfold loopE
  cases hx : execA cf N (.loop c) e h with
  | none => rfl
  | some p => obtain ⟨x, e', h'⟩ := p; exact (exec_keep hx).1
theorem loopE_at (cf : ACall) (N : Nat) (c : ACode) (e : Env) (h : Heap) {t : Nat} (ht : t ∉ c.wr) : (loopE cf N c e h).at t = e.at t := by
  unfold loopE
  cases hx : execA cf N (.loop c) e h with
  | none => rfl
  | some p => obtain ⟨x, e', h'⟩ := p; exact (exec_keep hx).2 t ht
theorem loopE_of {cf : ACall} {N : Nat} {c : ACode} {e e' : Env} {h h' : Heap} {x : AExit} (hx : execA cf N (.loop c) e h = some (x, e', h')) : loopE cf N c e h = e' := by
  unfold loopE; rw [hx]

/-- A piece of code that ends so. -/
def Ends (r : Option (AExit × Env × Heap)) (Q : AExit → Env → Heap → Prop) : Prop := ∃ x e h, r = some (x, e, h) ∧ Q x e h
theorem Ends_some (x : AExit) (e : Env) (h : Heap) (Q : AExit → Env → Heap → Prop) : Ends (some (x, e, h)) Q ↔ Q x e h := by
  constructor
  · rintro ⟨_, _, _, he, hq⟩; cases he; exact hq
  · intro hq; exact ⟨_, _, _, rfl, hq⟩
theorem Ends_none (Q : AExit → Env → Heap → Prop) : Ends none Q ↔ False := by
  constructor
  · rintro ⟨_, _, _, he, hq⟩; cases he
  · exact False.elim
theorem Ends_bif (q : Bool) (x y : Option (AExit × Env × Heap)) (Q : AExit → Env → Heap → Prop) : Ends (bif q then x else y) Q ↔ if q = true then Ends x Q else Ends y Q := by cases q <;> rfl
theorem Ends.mono {r : Option (AExit × Env × Heap)} {Q R : AExit → Env → Heap → Prop} (h : Ends r Q) (hq : ∀ x e h, Q x e h → R x e h) : Ends r R := by
  obtain ⟨x, e, h', h1, h2⟩ := h
  exact ⟨x, e, h', h1, hq _ _ _ h2⟩

/-- A loop that counts: S holds at each turn's beginning; at the end, F. -/
theorem loop_count {cf : ACall} {N : Nat} {c : ACode} (m : Nat) (S : Nat → Env → Heap → Prop) (F : AExit → Env → Heap → Prop)
    (hstep : ∀ i e h, i < m → S i e h → Ends (execA cf N c e h) fun x e' h' => (x = .normal ∧ S (i + 1) e' h') ∨ (x ≠ .normal ∧ F x e' h'))
    (hend : ∀ e h, S m e h → Ends (execA cf N c e h) fun x e' h' => x ≠ .normal ∧ F x e' h') :
    ∀ i e h, i ≤ m → S i e h → m < N → Ends (execA cf N (.loop c) e h) F := by
  have key : ∀ k i e h n, i + k = m → S i e h → k < n → ∃ x e' h', iterA (execA cf N c) n e h = some (x, e', h') ∧ F x e' h' := by
    intro k
    induction k with
    | zero =>
      intro i e h n hi hS hn
      obtain rfl : i = m := by omega
      obtain ⟨x, e', h', h1, h2, h3⟩ := hend e h hS
      obtain ⟨n, rfl⟩ : ∃ q, n = q + 1 := ⟨n - 1, by omega⟩
      refine ⟨x, e', h', ?_, h3⟩
      simp only [iterA, h1]
      all_goals (cases x <;> first | exact absurd rfl h2 | rfl)
    | succ k ih =>
      intro i e h n hi hS hn
      obtain ⟨n, rfl⟩ : ∃ q, n = q + 1 := ⟨n - 1, by omega⟩
      obtain ⟨x, e', h', h1, h2⟩ := hstep i e h (by omega) hS
      rcases h2 with ⟨rfl, h2⟩ | ⟨h2, h3⟩
      · obtain ⟨x, e2, h2', k1, k2⟩ := ih (i + 1) e' h' n (by omega) h2 (by omega)
        exact ⟨x, e2, h2', by simp only [iterA, h1]; exact k1, k2⟩
      · refine ⟨x, e', h', ?_, h3⟩
        simp only [iterA, h1]
        all_goals (cases x <;> first | exact absurd rfl h2 | rfl)
  intro i e h hi hS hN
  have e1 : execA cf N (.loop c) e h = iterA (execA cf N c) N e h := by simp only [execA]
  unfold Ends
  rw [e1]
  exact key (m - i) i e h N (by omega) hS (by omega)

end
end Go.Proofs.YthfbefjmenddkaaDoorA
