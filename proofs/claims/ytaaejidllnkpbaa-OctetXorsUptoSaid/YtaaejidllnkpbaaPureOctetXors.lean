/- OctetXors, in the second form: xor, join, clone and the comparison of any two texts are as the document says, and what comes out is new memory. For all inputs of bulk at most 1048576. -/
import Derived.Test.YtaaejidllnkpbaaQOctetXorsx3
namespace Go.Proofs.Ytaaejidllnkpbaa.Pure
open Go.RowKit Go.Proofs.Ytaaejidllnkpbaa.QOctetXors Go.Proofs.YtaaejidllnkpbaaW.PrintWords Go.Proofs.YtaaejidllnkpbaaW.PrintLast Go.Proofs.YtaaejidllnkpbaaW.PrintMore
set_option linter.unusedVariables false
set_option linter.unusedSimpArgs false

namespace OctetXorsP
/-! ### numbers -/
theorem w64 {n : Int} (h1 : -9223372036854775808 ≤ n) (h2 : n ≤ 9223372036854775807) : wrap64 n = n := by unfold wrap64; omega
theorem wrap_u64 (n : Int) : IntKind.u64.wrap n = n % 18446744073709551616 := by simp [IntKind.wrap, IntKind.bits, IntKind.signed]
theorem wraps_u64 (n : Int) (h₀ : 0 ≤ n) (h₁ : n < 2 ^ 64) : IntKind.u64.wrap n = n := by rw [wrap_u64]; omega
theorem bits_or_comm (k : IntKind) (x y : Int) : Go.bits .or k x y = Go.bits .or k y x := by unfold Go.bits; simp only [BitVec.or_comm]
/-- What stands above a number's bits, joined to it. -/
theorem or_u64 (i : Nat) (hi : i ≤ 64) {x y : Int} (hx : 0 ≤ x) (hx1 : x < 2 ^ i) (hy : 0 ≤ y) (hy1 : y < 2 ^ 64) (hd : y % 2 ^ i = 0) : Go.bits .or .u64 x y = x + y := by
  have h : (2 : Int) ^ i ≤ 2 ^ 64 := by exact_mod_cast Nat.pow_le_pow_right (by decide) hi
  rw [bits_or_comm, Go.bits_join .u64 64 (by decide) wraps_u64 i y x hy hd hy1 hx hx1 (by omega), Int.add_comm]
theorem xor_u8 {x y : Int} (hx : 0 ≤ x) (hx1 : x < 256) (hy : 0 ≤ y) (hy1 : y < 256) : Go.bits .xor .u8 x y = ((x.toNat ^^^ y.toNat : Nat) : Int) := by
  obtain ⟨a, rfl⟩ := Int.eq_ofNat_of_zero_le hx
  obtain ⟨b, rfl⟩ := Int.eq_ofNat_of_zero_le hy
  have ha : a < 2 ^ 8 := by omega
  have hb : b < 2 ^ 8 := by omega
  have hx : a ^^^ b < 2 ^ 8 := Nat.xor_lt_two_pow ha hb
  have ha' : a % 2 ^ IntKind.u8.bits = a := Nat.mod_eq_of_lt ha
  have hb' : b % 2 ^ IntKind.u8.bits = b := Nat.mod_eq_of_lt hb
  simp only [Go.bits, BitVec.ofInt_natCast, BitVec.toNat_xor, BitVec.toNat_ofNat, ha', hb', Int.toNat_natCast]
  exact Go.wraps_u8 _ (by omega) (by omega)
theorem xor_lt {x y : Int} (hx : 0 ≤ x) (hx1 : x < 256) (hy : 0 ≤ y) (hy1 : y < 256) : 0 ≤ Go.bits .xor .u8 x y ∧ Go.bits .xor .u8 x y < 256 := by
  rw [xor_u8 hx hx1 hy hy1]
  have := Nat.xor_lt_two_pow (n := 8) (x := x.toNat) (y := y.toNat) (by omega) (by omega)
  omega
theorem xor_xor {x y : Int} (hx : 0 ≤ x) (hx1 : x < 256) (hy : 0 ≤ y) (hy1 : y < 256) : Go.bits .xor .u8 (Go.bits .xor .u8 x y) y = x := by
  have h := xor_lt hx hx1 hy hy1
  rw [xor_u8 h.1 h.2 hy hy1, xor_u8 hx hx1 hy hy1, Int.toNat_natCast, Nat.xor_assoc, Nat.xor_self, Nat.xor_zero]
  omega
theorem wf_u8 {x : Int} (h : (Lit.int .u8 x).wf = true) : 0 ≤ x ∧ x < 256 := by
  simp [Lit.wf, IntKind.min, IntKind.max, IntKind.signed, IntKind.bits] at h; omega
theorem wf_u32 {x : Int} (h : (Lit.int .u32 x).wf = true) : 0 ≤ x ∧ x < 4294967296 := by
  simp [Lit.wf, IntKind.min, IntKind.max, IntKind.signed, IntKind.bits] at h; omega
theorem wf_u64 {x : Int} (h : (Lit.int .u64 x).wf = true) : 0 ≤ x ∧ x < 18446744073709551616 := by
  simp [Lit.wf, IntKind.min, IntKind.max, IntKind.signed, IntKind.bits] at h; omega
theorem wf_i64 {x : Int} (h : (Lit.int .i64 x).wf = true) : -9223372036854775808 ≤ x ∧ x ≤ 9223372036854775807 := by
  simp [Lit.wf, IntKind.min, IntKind.max, IntKind.signed, IntKind.bits] at h; omega
/-- Numbers that are bytes. -/
def Bs (l : List Int) : Prop := ∀ x ∈ l, 0 ≤ x ∧ x < 256
theorem Bs.of {l : List Int} (h : ∀ x ∈ l, (Lit.int .u8 x).wf = true) : Bs l := fun x hx => wf_u8 (h x hx)
theorem Bs.rd {l : List Int} (h : Bs l) (i : Int) : 0 ≤ rd l i ∧ rd l i < 256 := by
  show 0 ≤ l.getD i.toNat 0 ∧ l.getD i.toNat 0 < 256
  rw [List.getD_eq_getElem?_getD]
  rcases hi : l[i.toNat]? with _ | x
  · simp
  · simpa using h x (List.mem_of_getElem? hi)
theorem Bs.append {l m : List Int} (h : Bs l) (k : Bs m) : Bs (l ++ m) := fun x hx => (List.mem_append.1 hx).elim (h x) (k x)
theorem Bs.take {l : List Int} (h : Bs l) (n : Nat) : Bs (l.take n) := fun x hx => h x (List.mem_of_mem_take hx)
theorem Bs.drop {l : List Int} (h : Bs l) (n : Nat) : Bs (l.drop n) := fun x hx => h x (List.mem_of_mem_drop hx)
theorem Bs.zeros (n : Nat) : Bs (List.replicate n 0) := fun x hx => by have := List.eq_of_mem_replicate hx; omega
/-- The text of bytes tells the bytes. -/
theorem strOfNums_inj {l m : List Int} (h : Bs l) (k : Bs m) (he : (strOfNums l).toList = (strOfNums m).toList) : l = m := by
  have hs : ∀ l : List Int, (strOfNums l).toList = l.map fun x => UInt8.ofNat x.toNat := by
    intro l; simp [strOfNums, ByteArray.toList_eq]
  rw [hs, hs] at he
  have : ∀ (l m : List Int), Bs l → Bs m → l.map (fun x => UInt8.ofNat x.toNat) = m.map (fun x => UInt8.ofNat x.toNat) → l = m := by
    intro l
    induction l with
    | nil => intro m _ _ he; cases m with | nil => rfl | cons => simp at he
    | cons a l ih =>
      intro m hl hm he
      cases m with
      | nil => simp at he
      | cons b m =>
        simp only [List.map_cons, List.cons.injEq] at he
        have ha := hl a (by simp)
        have hb := hm b (by simp)
        have e1 : a = b := by
          have := congrArg UInt8.toNat he.1
          simp at this
          omega
        rw [e1, ih m (fun x hx => hl x (by simp [hx])) (fun x hx => hm x (by simp [hx])) he.2]
  exact this l m h k he
theorem wraps_i64 (n : Int) (h₀ : 0 ≤ n) (h₁ : n < 2 ^ 63) : IntKind.i64.wrap n = n := by rw [Go.IntKind.wrap_i64]; omega
theorem or_i64 {x y : Int} (hx : 0 ≤ x) (hx1 : x < 256) (hy : 0 ≤ y) (hy1 : y < 256) : Go.bits .or .i64 (wrap64 (wrap64 x * 256)) (wrap64 y) = x * 256 + y := by
  rw [w64 (n := x) (by omega) (by omega), w64 (n := x * 256) (by omega) (by omega), w64 (n := y) (by omega) (by omega)]
  exact Go.bits_join .i64 63 (by decide) wraps_i64 8 (x * 256) y (by omega) (by omega) (by omega) hy (by omega) (by omega)
theorem or_u8 {x y : Int} (hx : 0 ≤ x) (hx1 : x < 256) (hy : 0 ≤ y) (hy1 : y < 256) : Go.bits .or .u8 x y = ((x.toNat ||| y.toNat : Nat) : Int) := by
  obtain ⟨a, rfl⟩ := Int.eq_ofNat_of_zero_le hx
  obtain ⟨b, rfl⟩ := Int.eq_ofNat_of_zero_le hy
  exact (Go.bits_nat .u8 8 (by decide) Go.wraps_u8 a b (by omega) (by omega)).2
theorem or_lt {x y : Int} (hx : 0 ≤ x) (hx1 : x < 256) (hy : 0 ≤ y) (hy1 : y < 256) : 0 ≤ Go.bits .or .u8 x y ∧ Go.bits .or .u8 x y < 256 := by
  rw [or_u8 hx hx1 hy hy1]
  have := Nat.or_lt_two_pow (n := 8) (x := x.toNat) (y := y.toNat) (by omega) (by omega)
  omega
theorem or_zero {x y : Int} (hx : 0 ≤ x) (hx1 : x < 256) (hy : 0 ≤ y) (hy1 : y < 256) : Go.bits .or .u8 x y = 0 ↔ x = 0 ∧ y = 0 := by
  rw [or_u8 hx hx1 hy hy1]
  constructor
  · intro h
    have h1 : x.toNat ||| y.toNat = 0 := by omega
    rw [Nat.or_eq_zero_iff] at h1
    omega
  · rintro ⟨rfl, rfl⟩; rfl
theorem xor_zero {x y : Int} (hx : 0 ≤ x) (hx1 : x < 256) (hy : 0 ≤ y) (hy1 : y < 256) : Go.bits .xor .u8 x y = 0 ↔ x = y := by
  rw [xor_u8 hx hx1 hy hy1]
  constructor
  · intro h
    have h1 : x.toNat ^^^ y.toNat = 0 := by omega
    have h2 : x.toNat ^^^ y.toNat ^^^ y.toNat = y.toNat := by rw [h1, Nat.zero_xor]
    rw [Nat.xor_assoc, Nat.xor_self, Nat.xor_zero] at h2
    omega
  · rintro rfl; rw [Nat.xor_self]; rfl
theorem rd_nat (l : List Int) (i : Nat) (h : i < l.length) : rd l (i : Int) = l[i] := by
  show l.getD _ 0 = _
  simp [List.getD_eq_getElem?_getD, h]
/-- A number brought within bounds. -/
def pickN (n m : Int) : Int := n % m
theorem pick_tmod (n m : Int) (hm : 0 < m) (hm2 : m ≤ 4611686018427387904) : (if Int.tmod n m < 0 then wrap64 (Int.tmod n m + m) else Int.tmod n m) = n % m := by
  have h0 : n % m ≥ 0 := Int.emod_nonneg _ (by omega)
  have h1 : n % m < m := Int.emod_lt_of_pos _ hm
  rcases Int.lt_or_le n 0 with hn | hn
  · have ht : Int.tmod n m = - ((-n) % m) := by
      have := Int.neg_tmod (-n) m
      rw [Int.neg_neg] at this
      rw [this, Int.tmod_eq_emod_of_nonneg (by omega)]
    have h2 : 0 ≤ (-n) % m := Int.emod_nonneg _ (by omega)
    have h3 : (-n) % m < m := Int.emod_lt_of_pos _ hm
    have h4 : ((-n) % m + n % m) % m = 0 := by rw [← Int.add_emod, Int.add_left_neg]; exact Int.zero_emod m
    have h5 : (-n) % m + n % m = 0 ∨ (-n) % m + n % m = m := by
      have h6 : 0 ≤ (-n) % m + n % m := by omega
      have h7 : (-n) % m + n % m < 2 * m := by omega
      generalize (-n) % m + n % m = z at *
      rcases Int.lt_or_le z m with h8 | h8
      · left; rw [Int.emod_eq_of_lt h6 h8] at h4; exact h4
      · right
        have h9 : (z - m) % m = 0 := by rw [Int.sub_emod_right]; exact h4
        rw [Int.emod_eq_of_lt (by omega) (by omega)] at h9
        omega
    rw [ht]
    split
    · rw [w64 (by omega) (by omega)]; omega
    · omega
  · rw [Int.tmod_eq_emod_of_nonneg hn, if_neg (by omega)]

/-! ### octet.Same, Clone, Join -/
theorem same_loop {l m : List Int} (hl : Bs l) (hm : Bs m) (he : l.length = m.length) (hs : l.length ≤ 140737488351232) : ∀ (d k i : Nat) (x : Int), i + d = l.length → d < k → 0 ≤ x → x < 256 →
    octet_Same.l0 k l m x l.length i = some (decide (x = 0) && decide (l.drop i = m.drop i))
  | 0, k, i, x, hi, hk, _, _ => by
    obtain ⟨k, rfl⟩ : ∃ m, k = m + 1 := ⟨k - 1, by omega⟩
    simp only [octet_Same.l0]
    rw [if_neg (by omega), List.drop_eq_nil_of_le (by omega), List.drop_eq_nil_of_le (by omega)]
    by_cases h : x = 0 <;> simp [h]
  | d + 1, k, i, x, hi, hk, h0, h1 => by
    obtain ⟨k, rfl⟩ : ∃ m, k = m + 1 := ⟨k - 1, by omega⟩
    have hli : i < l.length := by omega
    have hmi : i < m.length := by omega
    have hw : wrap64 ((i : Int) + 1) = ((i + 1 : Nat) : Int) := by rw [w64 (by omega) (by omega)]; omega
    have t1 : (i : Int) < l.length := by omega
    have t2 : (0 : Int) ≤ i := by omega
    have t3 : (i : Int) < m.length := by omega
    have t4 : i + 1 + d = l.length := by omega
    have t5 : d < k := by omega
    simp only [octet_Same.l0]
    rw [if_pos t1, if_pos t2, if_pos t1, if_pos t3, hw]
    have a := hl.rd i
    have b := hm.rd i
    have c := xor_lt a.1 a.2 b.1 b.2
    have e := or_lt h0 h1 c.1 c.2
    rw [same_loop hl hm he hs d k (i + 1) _ t4 t5 e.1 e.2]
    rw [List.drop_eq_getElem_cons hli, List.drop_eq_getElem_cons hmi]
    have hx : decide (Go.bits .or .u8 x (Go.bits .xor .u8 (rd l i) (rd m i)) = 0) = (decide (x = 0) && decide (l[i] = m[i])) := by
      rw [← rd_nat l i hli, ← rd_nat m i hmi]
      have := or_zero h0 h1 c.1 c.2
      rw [xor_zero a.1 a.2 b.1 b.2] at this
      by_cases h : Go.bits .or .u8 x (Go.bits .xor .u8 (rd l i) (rd m i)) = 0
      · have h' := this.1 h
        rw [decide_eq_true h, decide_eq_true h'.1, decide_eq_true h'.2]; rfl
      · rw [decide_eq_false h]
        by_cases h2 : x = 0
        · have : ¬ rd l i = rd m i := fun h3 => h (this.2 ⟨h2, h3⟩)
          rw [decide_eq_false this, Bool.and_false]
        · rw [decide_eq_false h2]; rfl
    rw [hx, Bool.and_assoc]
    by_cases h : l[i] = m[i]
    · simp only [List.cons.injEq, h, true_and, decide_true, Bool.true_and]
    · simp only [List.cons.injEq, h, false_and, decide_false, Bool.false_and, Bool.and_false]
theorem same_is {l m : List Int} (hl : Bs l) (hm : Bs m) (hs : l.length ≤ 140737488351232) (k : Nat) (hk : l.length < k) : octet_Same.f k l m = some (decide (l = m)) := by
  unfold octet_Same.f
  by_cases he : l.length = m.length
  · rw [if_pos (by omega)]
    have := same_loop hl hm he hs l.length k 0 0 (by omega) hk (by omega) (by omega)
    simpa using this
  · rw [if_neg (by omega)]
    have : l ≠ m := fun h => he (by rw [h])
    simp [this]
theorem clone_is {l : List Int} (h : l.length < 140737488355328) : octet_Clone.f l = some l := by
  unfold octet_Clone.f
  simp [h]

/-! ### octet.Join -/
theorem join_loop (ls : List (List Int)) (hn : ls.length ≤ 140737488351232) : ∀ (d k i : Nat) (x : List Int), i + d = ls.length → d < k → x.length + ((ls.drop i).map List.length).sum < 140737488355328 →
    octet_Join.l0 k x ls ls.length i = some (x ++ (ls.drop i).flatten)
  | 0, k, i, x, hi, hk, hs => by
    obtain ⟨k, rfl⟩ : ∃ m, k = m + 1 := ⟨k - 1, by omega⟩
    simp only [octet_Join.l0]
    rw [if_neg (by omega), List.drop_eq_nil_of_le (by omega)]
    simp
  | d + 1, k, i, x, hi, hk, hs => by
    obtain ⟨k, rfl⟩ : ∃ m, k = m + 1 := ⟨k - 1, by omega⟩
    have hli : i < ls.length := by omega
    have hw : wrap64 ((i : Int) + 1) = ((i + 1 : Nat) : Int) := by rw [w64 (by omega) (by omega)]; omega
    have hr : rd_L1 ls (i : Int) = ls[i] := by
      show ls.getD _ [] = _
      simp [List.getD_eq_getElem?_getD, hli]
    rw [List.drop_eq_getElem_cons hli] at hs ⊢
    simp only [List.map_cons, List.sum_cons] at hs
    simp only [octet_Join.l0]
    rw [if_pos (by omega), if_pos (by omega), if_pos (by omega), hr, if_pos (by omega), hw,
      join_loop ls hn d k (i + 1) _ (by omega) (by omega) (by rw [List.length_append]; omega)]
    rw [List.flatten_cons, List.append_assoc]
theorem join_is (ls : List (List Int)) (hn : ls.length ≤ 140737488351232) (k : Nat) (hk : ls.length < k) (hs : (ls.map List.length).sum < 140737488355328) : octet_Join.f k ls = some ls.flatten := by
  unfold octet_Join.f
  have := join_loop ls hn ls.length k 0 [] (by omega) hk (by simpa using hs)
  simpa using this

/-! ### portholehand.Few -/
theorem few_is (l : List Int) (n : Int) (h0 : 0 ≤ n) (h : l.length < 140737488355328) : portholehand_Few.f l n = some (l.take n.toNat) := by
  unfold portholehand_Few.f
  simp only [Option.bind_some]
  have hm : mn (l.length : Int) n = if n < l.length then n else l.length := rfl
  by_cases hn : n < (l.length : Int)
  · rw [if_pos hn] at hm
    rw [hm, if_pos h0, if_pos (by omega), if_pos (by simp; omega)]
    simp
  · rw [if_neg hn] at hm
    rw [hm, if_pos (by omega), if_pos (by omega), if_pos (by simp; omega)]
    have e : (l.length : Int).toNat = l.length := by omega
    rw [e, List.take_length, List.take_of_length_le (by omega)]
    simp
theorem few_all (l : List Int) (h : l.length < 140737488355328) : portholehand_Few.f l l.length = some l := by
  rw [few_is l l.length (by omega) h]
  simp

/-! ### octet.Xor -/
def xors (a b : List Int) : List Int := List.zipWith (Go.bits .xor .u8) a b
theorem xors_len (a b : List Int) : (xors a b).length = min a.length b.length := by simp [xors]
theorem xors_get {a b : List Int} {i : Nat} (h : i < (xors a b).length) : (xors a b)[i] = Go.bits .xor .u8 (rd a i) (rd b i) := by
  rw [xors_len] at h
  rw [rd_nat a i (by omega), rd_nat b i (by omega)]
  simp [xors]
theorem xors_bs {a b : List Int} (ha : Bs a) (hb : Bs b) : Bs (xors a b) := by
  intro x hx
  obtain ⟨i, hi, rfl⟩ := List.getElem_of_mem hx
  have h1 := ha.rd i
  have h2 := hb.rd i
  rw [xors_get hi]
  exact xor_lt h1.1 h1.2 h2.1 h2.2
theorem take_set_succ (x : List Int) (i : Nat) (z : Int) (h : i < x.length) : (x.set i z).take (i + 1) = x.take i ++ [z] := by
  rw [List.take_succ_eq_append_getElem (by simpa using h), List.take_set_of_le (Nat.le_refl _)]
  simp
theorem xor_loop (a b : List Int) (n : Nat) (hn : n = min a.length b.length) (hs : n ≤ 140737488351232) : ∀ (d k i : Nat) (x : List Int), i + d = n → d < k → x.length = n →
    octet_Xor.l0 k a b x n i = some (x.take i ++ (xors a b).drop i)
  | 0, k, i, x, hi, hk, hx => by
    obtain ⟨k, rfl⟩ : ∃ m, k = m + 1 := ⟨k - 1, by omega⟩
    simp only [octet_Xor.l0]
    rw [if_neg (by omega), List.take_of_length_le (by omega), List.drop_eq_nil_of_le (by rw [xors_len]; omega)]
    simp
  | d + 1, k, i, x, hi, hk, hx => by
    obtain ⟨k, rfl⟩ : ∃ m, k = m + 1 := ⟨k - 1, by omega⟩
    have hw : wrap64 ((i : Int) + 1) = ((i + 1 : Nat) : Int) := by rw [w64 (by omega) (by omega)]; omega
    have hli : i < (xors a b).length := by rw [xors_len]; omega
    have hi1 : i + 1 + d = n := by omega
    have hd : d < k := by omega
    have t1 : (i : Int) < n := by omega
    have t2 : (0 : Int) ≤ i := by omega
    have t3 : (i : Int) < a.length := by omega
    have t4 : (i : Int) < b.length := by omega
    have t5 : (i : Int) < x.length := by omega
    have t6 : i < x.length := by omega
    simp only [octet_Xor.l0]
    rw [if_pos t1, if_pos t2, if_pos t3, if_pos t4, if_pos t5, hw, xor_loop a b n hn hs d k (i + 1) _ hi1 hd (by simpa using hx)]
    rw [Int.toNat_natCast, take_set_succ _ _ _ t6, List.drop_eq_getElem_cons hli, xors_get hli]
    simp
theorem xor_is (a b : List Int) (hs : min a.length b.length ≤ 140737488351232) (k : Nat) (hk : min a.length b.length < k) : octet_Xor.f k a b = some (xors a b) := by
  unfold octet_Xor.f
  have hm : mn (a.length : Int) (b.length : Int) = ((min a.length b.length : Nat) : Int) := by unfold mn; split <;> omega
  rw [hm, if_pos (by omega), if_pos (by omega)]
  simp only [Option.bind_some, List.length_replicate]
  have e : ((min a.length b.length : Nat) : Int).toNat = min a.length b.length := by omega
  rw [e]
  have := xor_loop a b _ rfl hs (min a.length b.length) k 0 (List.replicate (min a.length b.length) 0) (by omega) hk (by simp)
  simpa using this

theorem refxor_loop (a b : List Int) (hs : min a.length b.length ≤ 140737488351232) : ∀ (d k i : Nat) (x : List Int), i + d = min a.length b.length → d < k → x.length = i →
    portholeref1_Xor.l0 k a b x i = some (x ++ (xors a b).drop i)
  | 0, k, i, x, hi, hk, hx => by
    obtain ⟨k, rfl⟩ : ∃ m, k = m + 1 := ⟨k - 1, by omega⟩
    have hd : (xors a b).drop i = [] := List.drop_eq_nil_of_le (by rw [xors_len]; omega)
    rw [hd, List.append_nil]
    simp only [portholeref1_Xor.l0]
    by_cases h : (i : Int) < a.length
    · rw [if_pos h, if_neg (by omega)]
    · rw [if_neg h]
  | d + 1, k, i, x, hi, hk, hx => by
    obtain ⟨k, rfl⟩ : ∃ m, k = m + 1 := ⟨k - 1, by omega⟩
    have hw : wrap64 ((i : Int) + 1) = ((i + 1 : Nat) : Int) := by rw [w64 (by omega) (by omega)]; omega
    have hli : i < (xors a b).length := by rw [xors_len]; omega
    have hi1 : i + 1 + d = min a.length b.length := by omega
    have hd : d < k := by omega
    have t1 : (i : Int) < a.length := by omega
    have t2 : (i : Int) < b.length := by omega
    have t3 : (0 : Int) ≤ i := by omega
    have t4 : x.length < 140737488355328 := by omega
    simp only [portholeref1_Xor.l0]
    rw [if_pos t1, if_pos t2, if_pos t3, if_pos t4, hw, refxor_loop a b hs d k (i + 1) _ hi1 hd (by simp [hx])]
    rw [List.drop_eq_getElem_cons hli, xors_get hli]
    simp
theorem refxor_is (a b : List Int) (hs : min a.length b.length ≤ 140737488351232) (k : Nat) (hk : min a.length b.length < k) : portholeref1_Xor.f k a b = some (xors a b) := by
  unfold portholeref1_Xor.f
  have := refxor_loop a b hs (min a.length b.length) k 0 [] (by omega) hk rfl
  simpa using this

end OctetXorsP
open OctetXorsP

namespace OctetXorsP
theorem l1_ends (a c : List Int) : ∀ (d k i : Nat) (x : List Int), i + d = x.length → d < k → x.length ≤ 140737488351232 →
    portholelaw1_OctetXors.l1 k a c x i = some ((strOfNums a).toList == (strOfNums c).toList)
  | 0, k, i, x, hi, hk, hs => by
    obtain ⟨k, rfl⟩ : ∃ m, k = m + 1 := ⟨k - 1, by omega⟩
    simp only [portholelaw1_OctetXors.l1]
    rw [if_neg (by omega)]
  | d + 1, k, i, x, hi, hk, hs => by
    obtain ⟨k, rfl⟩ : ∃ m, k = m + 1 := ⟨k - 1, by omega⟩
    have hw : wrap64 ((i : Int) + 1) = ((i + 1 : Nat) : Int) := by rw [w64 (by omega) (by omega)]; omega
    have t1 : (i : Int) < x.length := by omega
    have t2 : (0 : Int) ≤ i := by omega
    simp only [portholelaw1_OctetXors.l1]
    rw [if_pos t1, if_pos t2, hw]
    exact l1_ends a c d k (i + 1) _ (by simp; omega) (by omega) (by simpa using hs)
theorem l0_ends (a c x : List Int) (hxs : x.length ≤ 140737488351232) : ∀ (d k i : Nat) (j y : List Int), i + d = y.length → d + x.length + 1 < k → y.length ≤ 140737488351232 → y.length ≤ j.length →
    portholelaw1_OctetXors.l0 k a c x j y i = some ((strOfNums a).toList == (strOfNums c).toList)
  | 0, k, i, j, y, hi, hk, hs, hj => by
    obtain ⟨k, rfl⟩ : ∃ m, k = m + 1 := ⟨k - 1, by omega⟩
    simp only [portholelaw1_OctetXors.l0]
    rw [if_neg (by omega)]
    exact l1_ends a c x.length k 0 x (by omega) (by omega) hxs
  | d + 1, k, i, j, y, hi, hk, hs, hj => by
    obtain ⟨k, rfl⟩ : ∃ m, k = m + 1 := ⟨k - 1, by omega⟩
    have hw : wrap64 ((i : Int) + 1) = ((i + 1 : Nat) : Int) := by rw [w64 (by omega) (by omega)]; omega
    have t1 : (i : Int) < y.length := by omega
    have t2 : (0 : Int) ≤ i := by omega
    have t3 : (i : Int) < j.length := by omega
    simp only [portholelaw1_OctetXors.l0]
    rw [if_pos t1, if_pos t2, if_pos t3, hw]
    exact l0_ends a c x hxs d k (i + 1) _ _ (by simp; omega) (by omega) (by simpa using hs) (by simpa using hj)
theorem strOfNums_append (a b : List Int) : (strOfNums (a ++ b)).toList = ((strOfNums a) ++ (strOfNums b)).toList := by
  simp [strOfNums, ByteArray.toList_eq]
theorem strOfNums_size (a : List Int) : (strOfNums a).size = a.length := by
  simp [strOfNums, ByteArray.size]
theorem xors_twice {a b : List Int} (ha : Bs a) (hb : Bs b) : xors (xors a b) b = a.take (min a.length b.length) := by
  apply List.ext_getElem
  · simp [xors_len]
  · intro i h1 h2
    have hi : i < min a.length b.length := by simp [xors_len] at h1; omega
    have hli : i < (xors a b).length := by rw [xors_len]; exact hi
    rw [xors_get h1, rd_nat _ i hli, xors_get hli]
    have e1 := ha.rd i
    have e2 := hb.rd i
    rw [xor_xor e1.1 e1.2 e2.1 e2.2, rd_nat a i (by omega)]
    simp
theorem j0_ends {a b : List Int} (ha : Bs a) (hb : Bs b) (hs : a.length ≤ 1048576) (hs2 : b.length ≤ 1048576) (k : Nat) (hk : 2 * a.length + b.length + 30 < k) : portholelaw1_OctetXors.j0 k a b = some true := by
  obtain ⟨k, rfl⟩ : ∃ m, k = m + 1 := ⟨k - 1, by omega⟩
  have hx := xor_is a b (by omega) k (by omega)
  have hxl := xors_len a b
  have hx2 := xor_is (xors a b) b (by omega) k (by omega)
  rw [xors_twice ha hb] at hx2
  have hj := join_is [a, b] (by simp) k (by simp; omega) (by simp; omega)
  have hc := clone_is (l := a) (by omega)
  have hf := few_all a (by omega)
  have hr := refxor_is a b (by omega) k (by omega)
  have hsm := same_is ha hb (by omega) k (by omega)
  have kn : portholelaw1_known.f k = some true := at_rounds (g := fun k => portholelaw1_known.f k) (fun k => portholelaw1_known.mono k) (k := 20) (by omega) (by decide +kernel)
  have hm : mn (a.length : Int) (b.length : Int) = ((min a.length b.length : Nat) : Int) := by unfold mn; split <;> omega
  have fin : portholelaw1_OctetXors.j1 k a a (xors a b) ([a, b].flatten) a false = some true := by
    obtain ⟨k, rfl⟩ : ∃ m, k = m + 1 := ⟨k - 1, by omega⟩
    simp only [portholelaw1_OctetXors.j1]
    rw [if_neg (by decide)]
    have := l0_ends a a (xors a b) (by omega) a.length k 0 ([a, b].flatten) a (by omega) (by omega) (by omega) (by simp)
    simpa using this
  simp only [portholelaw1_OctetXors.j0]
  rw [hf]; simp only [Option.bind_some]
  rw [hx]; simp only [Option.bind_some]
  rw [hx2]; simp only [Option.bind_some]
  rw [hj]; simp only [Option.bind_some]
  rw [hc]; simp only [Option.bind_some]
  rw [kn]; simp only [Option.bind_some]
  rw [if_pos trivial, hr]; simp only [Option.bind_some]
  rw [if_pos trivial, hm, if_pos (by omega), if_pos (by omega)]
  have e : ((min a.length b.length : Nat) : Int).toNat = min a.length b.length := by omega
  rw [e, if_pos rfl, hsm]; simp only [Option.bind_some]
  have hq : (decide (a = b) != ((strOfNums a).toList == (strOfNums b).toList)) = false := by
    by_cases h : a = b
    · subst h; simp
    · have : ¬ (strOfNums a).toList = (strOfNums b).toList := fun h2 => h (strOfNums_inj ha hb h2)
      simp [h, this]
  rw [hq, if_neg (by decide), strOfNums_size, strOfNums_size, if_pos (by omega)]
  have hj2 : (strOfNums ([a, b].flatten)).toList = (strOfNums a ++ strOfNums b).toList := by
    rw [← strOfNums_append]; simp
  rw [if_pos hj2]
  simpa using fin
end OctetXorsP
open OctetXorsP
theorem OctetXorsU (l0 l1 : List Int) (a2 : Bool) (h0 : ∀ x ∈ l0, (Lit.int .u8 x).wf = true) (h1 : ∀ x ∈ l1, (Lit.int .u8 x).wf = true) (hs : l0.length + l1.length ≤ 1048576) :
    ∃ k, portholelaw1_OctetXors.f k l0 l1 a2 = some true := by
  have ha := Bs.of h0
  have hb := Bs.of h1
  refine ⟨2 * l0.length + l0.length + l1.length + 31, ?_⟩
  unfold portholelaw1_OctetXors.f
  cases a2 with
  | true =>
    rw [if_pos rfl, few_all l0 (by omega)]
    simp only [Option.bind_some]
    exact j0_ends ha ha (by omega) (by omega) _ (by omega)
  | false =>
    rw [if_neg (by decide)]
    exact j0_ends ha hb (by omega) (by omega) _ (by omega)

end Go.Proofs.Ytaaejidllnkpbaa.Pure
