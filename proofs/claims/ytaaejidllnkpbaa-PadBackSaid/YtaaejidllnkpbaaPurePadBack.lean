/- PadBack: what pad.Pad makes of a text of up to 3966 bytes, pad.Unpad reads back; the size is the bucket's and hangs on the length alone. For all ints. -/
import Derived.Test.YtaaejidllnkpbaaQPadBackx3
namespace Go.Proofs.Ytaaejidllnkpbaa.Pure
open Go.RowKit Go.Proofs.Ytaaejidllnkpbaa.QPadBack Go.Proofs.YtaaejidllnkpbaaW.PrintWords Go.Proofs.YtaaejidllnkpbaaW.PrintLast Go.Proofs.YtaaejidllnkpbaaW.PrintMore
set_option linter.unusedVariables false
set_option linter.unusedSimpArgs false

namespace PadBackP
/-! ### numbers -/
theorem w64 {n : Int} (h1 : -9223372036854775808 ≤ n) (h2 : n ≤ 9223372036854775807) : wrap64 n = n := by unfold wrap64; omega
theorem wrap_u64 (n : Int) : IntKind.u64.wrap n = n % 18446744073709551616 := by simp [IntKind.wrap, IntKind.bits, IntKind.signed]
theorem wraps_u64 (n : Int) (h₀ : 0 ≤ n) (h₁ : n < 2 ^ 64) : IntKind.u64.wrap n = n := by rw [wrap_u64]; omega
theorem bits_or_comm (k : IntKind) (x y : Int) : Go.bits .or k x y = Go.bits .or k y x := by unfold Go.bits; simp only [BitVec.or_comm]
/-- What stands above a number's bits, joined to it. -/
theorem or_u64 (i : Nat) (hi : i ≤ 64) {x y : Int} (hx : 0 ≤ x) (hx1 : x < 2 ^ i) (hy : 0 ≤ y) (hy1 : y < 2 ^ 64) (hd : y % 2 ^ i = 0) : Go.bits .or .u64 x y = x + y := by
  have h : (2 : Int) ^ i ≤ 2 ^ 64 := by exact_mod_cast Nat.pow_le_pow_right (by decide) hi
  rw [bits_or_comm, Go.bits_join .u64 64 (by decide) wraps_u64 i y x hy hd hy1 hx hx1 (by omega), Int.add_comm]
theorem xor_u8 {x y : Int} (hx : 0 ≤ x) (hx1 : x < 256) (hy : 0 ≤ y) (hy1 : y < 256) : Go.bits .xor .u8 x y = ((x.toNat ^^^ y.toNat : Nat) : Int) := by
  obtain ⟨a, rfl⟩ := Int.eq_ofNat_of_zero_le hx
  obtain ⟨b, rfl⟩ := Int.eq_ofNat_of_zero_le hy
  have ha : a < 2 ^ 8 := by omega
  have hb : b < 2 ^ 8 := by omega
  have hx : a ^^^ b < 2 ^ 8 := Nat.xor_lt_two_pow ha hb
  have ha' : a % 2 ^ IntKind.u8.bits = a := Nat.mod_eq_of_lt ha
  have hb' : b % 2 ^ IntKind.u8.bits = b := Nat.mod_eq_of_lt hb
  simp only [Go.bits, BitVec.ofInt_natCast, BitVec.toNat_xor, BitVec.toNat_ofNat, ha', hb', Int.toNat_natCast]
  exact Go.wraps_u8 _ (by omega) (by omega)
theorem xor_lt {x y : Int} (hx : 0 ≤ x) (hx1 : x < 256) (hy : 0 ≤ y) (hy1 : y < 256) : 0 ≤ Go.bits .xor .u8 x y ∧ Go.bits .xor .u8 x y < 256 := by
  rw [xor_u8 hx hx1 hy hy1]
  have := Nat.xor_lt_two_pow (n := 8) (x := x.toNat) (y := y.toNat) (by omega) (by omega)
  omega
theorem xor_xor {x y : Int} (hx : 0 ≤ x) (hx1 : x < 256) (hy : 0 ≤ y) (hy1 : y < 256) : Go.bits .xor .u8 (Go.bits .xor .u8 x y) y = x := by
  have h := xor_lt hx hx1 hy hy1
  rw [xor_u8 h.1 h.2 hy hy1, xor_u8 hx hx1 hy hy1, Int.toNat_natCast, Nat.xor_assoc, Nat.xor_self, Nat.xor_zero]
  omega
theorem wf_u8 {x : Int} (h : (Lit.int .u8 x).wf = true) : 0 ≤ x ∧ x < 256 := by
  simp [Lit.wf, IntKind.min, IntKind.max, IntKind.signed, IntKind.bits] at h; omega
theorem wf_u32 {x : Int} (h : (Lit.int .u32 x).wf = true) : 0 ≤ x ∧ x < 4294967296 := by
  simp [Lit.wf, IntKind.min, IntKind.max, IntKind.signed, IntKind.bits] at h; omega
theorem wf_u64 {x : Int} (h : (Lit.int .u64 x).wf = true) : 0 ≤ x ∧ x < 18446744073709551616 := by
  simp [Lit.wf, IntKind.min, IntKind.max, IntKind.signed, IntKind.bits] at h; omega
theorem wf_i64 {x : Int} (h : (Lit.int .i64 x).wf = true) : -9223372036854775808 ≤ x ∧ x ≤ 9223372036854775807 := by
  simp [Lit.wf, IntKind.min, IntKind.max, IntKind.signed, IntKind.bits] at h; omega
/-- Numbers that are bytes. -/
def Bs (l : List Int) : Prop := ∀ x ∈ l, 0 ≤ x ∧ x < 256
theorem Bs.of {l : List Int} (h : ∀ x ∈ l, (Lit.int .u8 x).wf = true) : Bs l := fun x hx => wf_u8 (h x hx)
theorem Bs.rd {l : List Int} (h : Bs l) (i : Int) : 0 ≤ rd l i ∧ rd l i < 256 := by
  show 0 ≤ l.getD i.toNat 0 ∧ l.getD i.toNat 0 < 256
  rw [List.getD_eq_getElem?_getD]
  rcases hi : l[i.toNat]? with _ | x
  · simp
  · simpa using h x (List.mem_of_getElem? hi)
theorem Bs.append {l m : List Int} (h : Bs l) (k : Bs m) : Bs (l ++ m) := fun x hx => (List.mem_append.1 hx).elim (h x) (k x)
theorem Bs.take {l : List Int} (h : Bs l) (n : Nat) : Bs (l.take n) := fun x hx => h x (List.mem_of_mem_take hx)
theorem Bs.drop {l : List Int} (h : Bs l) (n : Nat) : Bs (l.drop n) := fun x hx => h x (List.mem_of_mem_drop hx)
theorem Bs.zeros (n : Nat) : Bs (List.replicate n 0) := fun x hx => by have := List.eq_of_mem_replicate hx; omega
/-- The text of bytes tells the bytes. -/
theorem strOfNums_inj {l m : List Int} (h : Bs l) (k : Bs m) (he : (strOfNums l).toList = (strOfNums m).toList) : l = m := by
  have hs : ∀ l : List Int, (strOfNums l).toList = l.map fun x => UInt8.ofNat x.toNat := by
    intro l; simp [strOfNums, ByteArray.toList_eq]
  rw [hs, hs] at he
  have : ∀ (l m : List Int), Bs l → Bs m → l.map (fun x => UInt8.ofNat x.toNat) = m.map (fun x => UInt8.ofNat x.toNat) → l = m := by
    intro l
    induction l with
    | nil => intro m _ _ he; cases m with | nil => rfl | cons => simp at he
    | cons a l ih =>
      intro m hl hm he
      cases m with
      | nil => simp at he
      | cons b m =>
        simp only [List.map_cons, List.cons.injEq] at he
        have ha := hl a (by simp)
        have hb := hm b (by simp)
        have e1 : a = b := by
          have := congrArg UInt8.toNat he.1
          simp at this
          omega
        rw [e1, ih m (fun x hx => hl x (by simp [hx])) (fun x hx => hm x (by simp [hx])) he.2]
  exact this l m h k he
theorem wraps_i64 (n : Int) (h₀ : 0 ≤ n) (h₁ : n < 2 ^ 63) : IntKind.i64.wrap n = n := by rw [Go.IntKind.wrap_i64]; omega
theorem or_i64 {x y : Int} (hx : 0 ≤ x) (hx1 : x < 256) (hy : 0 ≤ y) (hy1 : y < 256) : Go.bits .or .i64 (wrap64 (wrap64 x * 256)) (wrap64 y) = x * 256 + y := by
  rw [w64 (n := x) (by omega) (by omega), w64 (n := x * 256) (by omega) (by omega), w64 (n := y) (by omega) (by omega)]
  exact Go.bits_join .i64 63 (by decide) wraps_i64 8 (x * 256) y (by omega) (by omega) (by omega) hy (by omega) (by omega)
theorem or_u8 {x y : Int} (hx : 0 ≤ x) (hx1 : x < 256) (hy : 0 ≤ y) (hy1 : y < 256) : Go.bits .or .u8 x y = ((x.toNat ||| y.toNat : Nat) : Int) := by
  obtain ⟨a, rfl⟩ := Int.eq_ofNat_of_zero_le hx
  obtain ⟨b, rfl⟩ := Int.eq_ofNat_of_zero_le hy
  exact (Go.bits_nat .u8 8 (by decide) Go.wraps_u8 a b (by omega) (by omega)).2
theorem or_lt {x y : Int} (hx : 0 ≤ x) (hx1 : x < 256) (hy : 0 ≤ y) (hy1 : y < 256) : 0 ≤ Go.bits .or .u8 x y ∧ Go.bits .or .u8 x y < 256 := by
  rw [or_u8 hx hx1 hy hy1]
  have := Nat.or_lt_two_pow (n := 8) (x := x.toNat) (y := y.toNat) (by omega) (by omega)
  omega
theorem or_zero {x y : Int} (hx : 0 ≤ x) (hx1 : x < 256) (hy : 0 ≤ y) (hy1 : y < 256) : Go.bits .or .u8 x y = 0 ↔ x = 0 ∧ y = 0 := by
  rw [or_u8 hx hx1 hy hy1]
  constructor
  · intro h
    have h1 : x.toNat ||| y.toNat = 0 := by omega
    rw [Nat.or_eq_zero_iff] at h1
    omega
  · rintro ⟨rfl, rfl⟩; rfl
theorem xor_zero {x y : Int} (hx : 0 ≤ x) (hx1 : x < 256) (hy : 0 ≤ y) (hy1 : y < 256) : Go.bits .xor .u8 x y = 0 ↔ x = y := by
  rw [xor_u8 hx hx1 hy hy1]
  constructor
  · intro h
    have h1 : x.toNat ^^^ y.toNat = 0 := by omega
    have h2 : x.toNat ^^^ y.toNat ^^^ y.toNat = y.toNat := by rw [h1, Nat.zero_xor]
    rw [Nat.xor_assoc, Nat.xor_self, Nat.xor_zero] at h2
    omega
  · rintro rfl; rw [Nat.xor_self]; rfl
theorem rd_nat (l : List Int) (i : Nat) (h : i < l.length) : rd l (i : Int) = l[i] := by
  show l.getD _ 0 = _
  simp [List.getD_eq_getElem?_getD, h]
/-- A number brought within bounds. -/
def pickN (n m : Int) : Int := n % m
theorem pick_tmod (n m : Int) (hm : 0 < m) (hm2 : m ≤ 4611686018427387904) : (if Int.tmod n m < 0 then wrap64 (Int.tmod n m + m) else Int.tmod n m) = n % m := by
  have h0 : n % m ≥ 0 := Int.emod_nonneg _ (by omega)
  have h1 : n % m < m := Int.emod_lt_of_pos _ hm
  rcases Int.lt_or_le n 0 with hn | hn
  · have ht : Int.tmod n m = - ((-n) % m) := by
      have := Int.neg_tmod (-n) m
      rw [Int.neg_neg] at this
      rw [this, Int.tmod_eq_emod_of_nonneg (by omega)]
    have h2 : 0 ≤ (-n) % m := Int.emod_nonneg _ (by omega)
    have h3 : (-n) % m < m := Int.emod_lt_of_pos _ hm
    have h4 : ((-n) % m + n % m) % m = 0 := by rw [← Int.add_emod, Int.add_left_neg]; exact Int.zero_emod m
    have h5 : (-n) % m + n % m = 0 ∨ (-n) % m + n % m = m := by
      have h6 : 0 ≤ (-n) % m + n % m := by omega
      have h7 : (-n) % m + n % m < 2 * m := by omega
      generalize (-n) % m + n % m = z at *
      rcases Int.lt_or_le z m with h8 | h8
      · left; rw [Int.emod_eq_of_lt h6 h8] at h4; exact h4
      · right
        have h9 : (z - m) % m = 0 := by rw [Int.sub_emod_right]; exact h4
        rw [Int.emod_eq_of_lt (by omega) (by omega)] at h9
        omega
    rw [ht]
    split
    · rw [w64 (by omega) (by omega)]; omega
    · omega
  · rw [Int.tmod_eq_emod_of_nonneg hn, if_neg (by omega)]

/-! ### octet.Same, Clone, Join -/
theorem same_loop {l m : List Int} (hl : Bs l) (hm : Bs m) (he : l.length = m.length) (hs : l.length ≤ 140737488351232) : ∀ (d k i : Nat) (x : Int), i + d = l.length → d < k → 0 ≤ x → x < 256 →
    octet_Same.l0 k l m x l.length i = some (decide (x = 0) && decide (l.drop i = m.drop i))
  | 0, k, i, x, hi, hk, _, _ => by
    obtain ⟨k, rfl⟩ : ∃ m, k = m + 1 := ⟨k - 1, by omega⟩
    simp only [octet_Same.l0]
    rw [if_neg (by omega), List.drop_eq_nil_of_le (by omega), List.drop_eq_nil_of_le (by omega)]
    by_cases h : x = 0 <;> simp [h]
  | d + 1, k, i, x, hi, hk, h0, h1 => by
    obtain ⟨k, rfl⟩ : ∃ m, k = m + 1 := ⟨k - 1, by omega⟩
    have hli : i < l.length := by omega
    have hmi : i < m.length := by omega
    have hw : wrap64 ((i : Int) + 1) = ((i + 1 : Nat) : Int) := by rw [w64 (by omega) (by omega)]; omega
    have t1 : (i : Int) < l.length := by omega
    have t2 : (0 : Int) ≤ i := by omega
    have t3 : (i : Int) < m.length := by omega
    have t4 : i + 1 + d = l.length := by omega
    have t5 : d < k := by omega
    simp only [octet_Same.l0]
    rw [if_pos t1, if_pos t2, if_pos t1, if_pos t3, hw]
    have a := hl.rd i
    have b := hm.rd i
    have c := xor_lt a.1 a.2 b.1 b.2
    have e := or_lt h0 h1 c.1 c.2
    rw [same_loop hl hm he hs d k (i + 1) _ t4 t5 e.1 e.2]
    rw [List.drop_eq_getElem_cons hli, List.drop_eq_getElem_cons hmi]
    have hx : decide (Go.bits .or .u8 x (Go.bits .xor .u8 (rd l i) (rd m i)) = 0) = (decide (x = 0) && decide (l[i] = m[i])) := by
      rw [← rd_nat l i hli, ← rd_nat m i hmi]
      have := or_zero h0 h1 c.1 c.2
      rw [xor_zero a.1 a.2 b.1 b.2] at this
      by_cases h : Go.bits .or .u8 x (Go.bits .xor .u8 (rd l i) (rd m i)) = 0
      · have h' := this.1 h
        rw [decide_eq_true h, decide_eq_true h'.1, decide_eq_true h'.2]; rfl
      · rw [decide_eq_false h]
        by_cases h2 : x = 0
        · have : ¬ rd l i = rd m i := fun h3 => h (this.2 ⟨h2, h3⟩)
          rw [decide_eq_false this, Bool.and_false]
        · rw [decide_eq_false h2]; rfl
    rw [hx, Bool.and_assoc]
    by_cases h : l[i] = m[i]
    · simp only [List.cons.injEq, h, true_and, decide_true, Bool.true_and]
    · simp only [List.cons.injEq, h, false_and, decide_false, Bool.false_and, Bool.and_false]
theorem same_is {l m : List Int} (hl : Bs l) (hm : Bs m) (hs : l.length ≤ 140737488351232) (k : Nat) (hk : l.length < k) : octet_Same.f k l m = some (decide (l = m)) := by
  unfold octet_Same.f
  by_cases he : l.length = m.length
  · rw [if_pos (by omega)]
    have := same_loop hl hm he hs l.length k 0 0 (by omega) hk (by omega) (by omega)
    simpa using this
  · rw [if_neg (by omega)]
    have : l ≠ m := fun h => he (by rw [h])
    simp [this]
theorem clone_is {l : List Int} (h : l.length < 140737488355328) : octet_Clone.f l = some l := by
  unfold octet_Clone.f
  simp [h]

/-! ### portholehand.Bytes, Pick -/
theorem bytes_loop (n : Nat) (hn : n ≤ 281474976710656) : ∀ (d k i : Nat) (l : List Int) (x : Int), i + d = n → d < k → l.length = n → Bs l →
    ∃ r, portholehand_Bytes.l0 k n l x i = some r ∧ r.length = n ∧ Bs r
  | 0, k, i, l, x, hi, hk, hl, hb => by
    obtain ⟨k, rfl⟩ : ∃ m, k = m + 1 := ⟨k - 1, by omega⟩
    refine ⟨l, ?_, hl, hb⟩
    simp only [portholehand_Bytes.l0]
    rw [if_neg (by omega)]
  | d + 1, k, i, l, x, hi, hk, hl, hb => by
    obtain ⟨k, rfl⟩ : ∃ m, k = m + 1 := ⟨k - 1, by omega⟩
    have hw : wrap64 ((i : Int) + 1) = ((i + 1 : Nat) : Int) := by rw [w64 (by omega) (by omega)]; omega
    simp only [portholehand_Bytes.l0]
    rw [if_pos (by omega), if_pos (by omega), if_pos (by omega), hw]
    exact bytes_loop n hn d k (i + 1) _ _ (by omega) (by omega) (by simpa using hl) (fun y hy => by
      rcases List.mem_or_eq_of_mem_set hy with h | h
      · exact hb y h
      · subst h; omega)
theorem bytes_is (n : Nat) (hn : n ≤ 281474976710656) (a : Int) (k : Nat) (hk : n < k) : ∃ r, portholehand_Bytes.f k n a = some r ∧ r.length = n ∧ Bs r := by
  unfold portholehand_Bytes.f
  rw [if_pos (by omega), if_pos (by omega)]
  exact bytes_loop n hn n k 0 _ _ (by omega) hk (by simp) (Bs.zeros _)
theorem pick_is (n m : Int) (hm : 0 < m) (hm2 : m ≤ 4611686018427387904) : portholehand_Pick.f n m = some (n % m) := by
  unfold portholehand_Pick.f
  rw [if_neg (by omega), ← pick_tmod n m hm hm2]
  split <;> rfl

/-! ### pad -/
def bucket (n : Int) : Int × Bool :=
  if n < 0 then (0, false) else if n ≤ 62 then (64, true) else if n ≤ 254 then (256, true) else if n ≤ 1022 then (1024, true) else if n ≤ 3966 then (3968, true) else (0, false)
theorem bucket_is (k : Nat) (n : Int) : pad_Bucket.f (k + 5) n = some (bucket n) := by
  unfold pad_Bucket.f pad_Sizes.f bucket
  simp only [Option.bind_some]
  by_cases h0 : n < 0
  · have h0' : ¬ (n ≥ 0) := by omega
    simp [pad_Bucket.l0, h0, h0', wrap64]
  · have h0' : n ≥ 0 := by omega
    by_cases h1 : n ≤ 62
    · simp [pad_Bucket.l0, h0, h0', h1, wrap64, rd]
    · by_cases h2 : n ≤ 254
      · simp [pad_Bucket.l0, h0, h0', h1, h2, wrap64, rd]
      · by_cases h3 : n ≤ 1022
        · simp [pad_Bucket.l0, h0, h0', h1, h2, h3, wrap64, rd]
        · by_cases h4 : n ≤ 3966
          · simp [pad_Bucket.l0, h0, h0', h1, h2, h3, h4, wrap64, rd]
          · simp [pad_Bucket.l0, h0, h0', h1, h2, h3, h4, wrap64, rd]
/-- What a bucket is: none, or one with room. -/
theorem bucket_cases (n : Int) : bucket n = (0, false) ∧ (n < 0 ∨ 3966 < n) ∨ ∃ z, bucket n = (z, true) ∧ 0 ≤ n ∧ n ≤ z - 2 ∧ 64 ≤ z ∧ z ≤ 3968 := by
  unfold bucket
  repeat' split
  all_goals first
    | exact .inl ⟨rfl, by omega⟩
    | exact .inr ⟨_, rfl, by omega, by omega, by omega, by omega⟩
theorem join_three (k : Nat) (a b c : List Int) (h : a.length + b.length + c.length < 140737488355328) :
    octet_Join.f (k + 5) [a, b, c] = some (a ++ b ++ c) := by
  have h1 : ([] : List Int).length + a.length < 140737488355328 := by simp; omega
  have h2 : a.length + b.length < 140737488355328 := by omega
  have h3 : (a ++ b).length + c.length < 140737488355328 := by simp; omega
  simp at h1 h3
  simp [octet_Join.f, octet_Join.l0, wrap64, rd_L2, h1, h2, h3]
/-- A text, padded to a size. -/
def padded (l : List Int) (z : Int) : List Int := [(l.length : Int) / 256 % 256, (l.length : Int) % 256] ++ l ++ List.replicate (z - 2 - l.length).toNat 0
theorem pad_is (k : Nat) (l : List Int) : pad_Pad.f (k + 5) l = some (if (bucket l.length).2 = true then (padded l (bucket l.length).1, 0) else ([], 6)) := by
  unfold pad_Pad.f
  rw [bucket_is]
  simp only [Option.bind_some]
  rcases bucket_cases l.length with ⟨hb, _⟩ | ⟨z, hb, h0, h1, h2, h3⟩
  · rw [hb]; simp
  · have e1 : wrap64 (z - 2) = z - 2 := w64 (by omega) (by omega)
    have e2 : wrap64 (z - 2 - (l.length : Int)) = z - 2 - (l.length : Int) := w64 (by omega) (by omega)
    rw [hb]
    simp only [e1, e2]
    rw [if_pos trivial, if_pos (by omega), if_pos (by omega), join_three k _ _ _ (by simp; omega)]
    rfl

theorem padded_len (l : List Int) {z : Int} (h : (l.length : Int) ≤ z - 2) : ((padded l z).length : Int) = z := by
  simp [padded]; omega
theorem padded_bs {l : List Int} (h : Bs l) (z : Int) : Bs (padded l z) := by
  refine Bs.append (Bs.append ?_ h) (Bs.zeros _)
  intro x hx; simp at hx; omega
/-- What a text that was padded is read as; in general: a length, a text, noughts. -/
def unpadded (b : List Int) : List Int × Int :=
  if b.length < 2 then ([], 5) else
    let n := rd b 0 * 256 + rd b 1
    if (bucket n).2 = true ∧ (bucket n).1 = b.length ∧ b.drop (2 + n).toNat = List.replicate (b.length - (2 + n).toNat) 0 then ((b.take (2 + n).toNat).drop 2, 0) else ([], 5)
theorem unpad_is (k : Nat) (b : List Int) (hb : Bs b) (hl : b.length ≤ 140737488351232) (hk : b.length + 6 < k) : pad_Unpad.f k b = some (unpadded b) := by
  obtain ⟨k, rfl⟩ : ∃ m, k = m + 1 + 5 := ⟨k - 6, by omega⟩
  unfold pad_Unpad.f unpadded
  by_cases h2 : b.length < 2
  · rw [if_pos (by omega), if_pos h2]
  · rw [if_neg (by omega), if_neg h2, if_pos (by omega), if_pos (by omega)]
    have r0 := hb.rd 0
    have r1 := hb.rd 1
    rw [or_i64 r0.1 r0.2 r1.1 r1.2]
    simp only
    generalize hn : rd b 0 * 256 + rd b 1 = n
    have hn0 : 0 ≤ n := by omega
    have hn1 : n < 65536 := by omega
    rw [show k + 1 + 5 = (k + 1) + 5 from rfl, bucket_is]
    simp only [Option.bind_some]
    rcases bucket_cases n with ⟨hbk, _⟩ | ⟨z, hbk, h0, h1, hz, hz3⟩
    · rw [hbk]
      simp [pad_Unpad.j0]
    · rw [hbk]
      by_cases he : z = (b.length : Int)
      · have e : wrap64 (2 + n) = 2 + n := w64 (by omega) (by omega)
        have hd : (b.drop (2 + n).toNat).length = b.length - (2 + n).toNat := by simp
        have hcl : ((b.take (2 + n).toNat).drop 2).length < 140737488355328 := by simp; omega
        have hs := same_is (hb.drop (2 + n).toNat) (Bs.zeros (b.length - (2 + n).toNat)) (by simp; omega) (k + 5) (by simp; omega)
        rw [if_pos rfl]
        rw [show ((z : Int) != (b.length : Int)) = false by simp [he]]
        simp only [pad_Unpad.j0]
        rw [if_neg (by decide), e, if_pos (by omega), if_pos (by omega), if_pos (by omega), if_pos (by omega), hd, if_pos (by omega)]
        have hcast : ((b.length - (2 + n).toNat : Nat) : Int).toNat = b.length - (2 + n).toNat := by omega
        rw [hcast, hs]
        simp only [Option.bind_some]
        by_cases hq : b.drop (2 + n).toNat = List.replicate (b.length - (2 + n).toNat) 0
        · rw [decide_eq_true hq, if_pos rfl, clone_is hcl, if_pos ⟨trivial, he, hq⟩]; rfl
        · rw [decide_eq_false hq, if_neg (by decide), if_neg (fun h => hq h.2.2)]
      · rw [if_pos rfl, if_neg (fun h => he h.2.1)]
        rw [show ((z : Int) != (b.length : Int)) = true by simpa using he]
        simp [pad_Unpad.j0]
theorem unpad_pad (l : List Int) {z : Int} (h : Bs l) (hb : bucket l.length = (z, true)) (h1 : (l.length : Int) ≤ z - 2) (h3 : z ≤ 3968) : unpadded (padded l z) = (l, 0) := by
  have hlen := padded_len l h1
  unfold unpadded
  have r0 : rd (padded l z) 0 = (l.length : Int) / 256 % 256 := rfl
  have r1 : rd (padded l z) 1 = (l.length : Int) % 256 := rfl
  rw [if_neg (by omega), r0, r1]
  simp only
  have e : (l.length : Int) / 256 % 256 * 256 + (l.length : Int) % 256 = l.length := by omega
  rw [e, hb]
  have e2 : (2 + (l.length : Int)).toNat = l.length + 2 := by omega
  rw [e2]
  have hd : (padded l z).drop (l.length + 2) = List.replicate ((padded l z).length - (l.length + 2)) 0 := by
    have : (padded l z).length - (l.length + 2) = (z - 2 - l.length).toNat := by omega
    rw [this]
    simp [padded]
  have ht : ((padded l z).take (l.length + 2)).drop 2 = l := by simp [padded]
  rw [if_pos ⟨rfl, by omega, hd⟩, ht]

end PadBackP
open PadBackP

theorem PadBack : portholelaw15_PadBack.Pure := by
  intro n a b _ _ _
  refine ⟨4000, ?_⟩
  have hp := pick_is n 3967 (by decide) (by decide)
  have h0 : 0 ≤ n % 3967 := by omega
  have h1 : n % 3967 < 3967 := by omega
  generalize n % 3967 = m at *
  obtain ⟨m, rfl⟩ := Int.eq_ofNat_of_zero_le h0
  obtain ⟨x, hx, hxl, hxb⟩ := bytes_is m (by omega) a 4000 (by omega)
  obtain ⟨y, hy, hyl, hyb⟩ := bytes_is m (by omega) b 4000 (by omega)
  rcases bucket_cases m with ⟨_, h⟩ | ⟨z, hb, _, hz, hz1, hz2⟩
  · omega
  have hbx : bucket x.length = (z, true) := by rw [hxl]; exact hb
  have hby : bucket y.length = (z, true) := by rw [hyl]; exact hb
  have px := pad_is 3995 x
  have py := pad_is 3995 y
  rw [hbx, if_pos rfl] at px
  rw [hby, if_pos rfl] at py
  have hlx := padded_len x (z := z) (by omega)
  have hly := padded_len y (z := z) (by omega)
  have ux := unpad_is 4000 (padded x z) (padded_bs hxb z) (by omega) (by omega)
  rw [unpad_pad x hxb hbx (by omega) hz2] at ux
  have kn : portholelaw15_known.f 4000 = some true := by
    unfold portholelaw15_known.f
    rw [bucket_is 3995, bucket_is 3995, bucket_is 3995]
    rfl
  unfold portholelaw15_PadBack.f
  rw [hp]; simp only [Option.bind_some]
  rw [hx]; simp only [Option.bind_some]
  rw [px]; simp only [Option.bind_some]
  rw [hy]; simp only [Option.bind_some]
  rw [py]; simp only [Option.bind_some]
  rw [ux]; simp only [Option.bind_some]
  rw [bucket_is 3995, hb]; simp only [Option.bind_some]
  rw [kn]; simp only [Option.bind_some]
  simp [hlx, hly]

end Go.Proofs.Ytaaejidllnkpbaa.Pure
