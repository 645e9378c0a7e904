/- OctetNumbers: what octet.Put32, Put64, Get32 and Get64 make of any numbers and any bytes is as the document's plain definitions have it. For every uint32, every uint64 and every slice of bytes. -/
import Derived.Test.YtaaejidllnkpbaaQOctetNumbersx3
namespace Go.Proofs.Ytaaejidllnkpbaa.Pure
open Go.RowKit Go.Proofs.Ytaaejidllnkpbaa.QOctetNumbers Go.Proofs.YtaaejidllnkpbaaW.PrintWords Go.Proofs.YtaaejidllnkpbaaW.PrintLast Go.Proofs.YtaaejidllnkpbaaW.PrintMore
set_option linter.unusedVariables false
set_option linter.unusedSimpArgs false

namespace OctetNumbersP
/-! ### numbers -/
theorem w64 {n : Int} (h1 : -9223372036854775808 ≤ n) (h2 : n ≤ 9223372036854775807) : wrap64 n = n := by unfold wrap64; omega
theorem wrap_u64 (n : Int) : IntKind.u64.wrap n = n % 18446744073709551616 := by simp [IntKind.wrap, IntKind.bits, IntKind.signed]
theorem wraps_u64 (n : Int) (h₀ : 0 ≤ n) (h₁ : n < 2 ^ 64) : IntKind.u64.wrap n = n := by rw [wrap_u64]; omega
theorem bits_or_comm (k : IntKind) (x y : Int) : Go.bits .or k x y = Go.bits .or k y x := by unfold Go.bits; simp only [BitVec.or_comm]
/-- What stands above a number's bits, joined to it. -/
theorem or_u64 (i : Nat) (hi : i ≤ 64) {x y : Int} (hx : 0 ≤ x) (hx1 : x < 2 ^ i) (hy : 0 ≤ y) (hy1 : y < 2 ^ 64) (hd : y % 2 ^ i = 0) : Go.bits .or .u64 x y = x + y := by
  have h : (2 : Int) ^ i ≤ 2 ^ 64 := by exact_mod_cast Nat.pow_le_pow_right (by decide) hi
  rw [bits_or_comm, Go.bits_join .u64 64 (by decide) wraps_u64 i y x hy hd hy1 hx hx1 (by omega), Int.add_comm]
theorem xor_u8 {x y : Int} (hx : 0 ≤ x) (hx1 : x < 256) (hy : 0 ≤ y) (hy1 : y < 256) : Go.bits .xor .u8 x y = ((x.toNat ^^^ y.toNat : Nat) : Int) := by
  obtain ⟨a, rfl⟩ := Int.eq_ofNat_of_zero_le hx
  obtain ⟨b, rfl⟩ := Int.eq_ofNat_of_zero_le hy
  have ha : a < 2 ^ 8 := by omega
  have hb : b < 2 ^ 8 := by omega
  have hx : a ^^^ b < 2 ^ 8 := Nat.xor_lt_two_pow ha hb
  have ha' : a % 2 ^ IntKind.u8.bits = a := Nat.mod_eq_of_lt ha
  have hb' : b % 2 ^ IntKind.u8.bits = b := Nat.mod_eq_of_lt hb
  simp only [Go.bits, BitVec.ofInt_natCast, BitVec.toNat_xor, BitVec.toNat_ofNat, ha', hb', Int.toNat_natCast]
  exact Go.wraps_u8 _ (by omega) (by omega)
theorem xor_lt {x y : Int} (hx : 0 ≤ x) (hx1 : x < 256) (hy : 0 ≤ y) (hy1 : y < 256) : 0 ≤ Go.bits .xor .u8 x y ∧ Go.bits .xor .u8 x y < 256 := by
  rw [xor_u8 hx hx1 hy hy1]
  have := Nat.xor_lt_two_pow (n := 8) (x := x.toNat) (y := y.toNat) (by omega) (by omega)
  omega
theorem xor_xor {x y : Int} (hx : 0 ≤ x) (hx1 : x < 256) (hy : 0 ≤ y) (hy1 : y < 256) : Go.bits .xor .u8 (Go.bits .xor .u8 x y) y = x := by
  have h := xor_lt hx hx1 hy hy1
  rw [xor_u8 h.1 h.2 hy hy1, xor_u8 hx hx1 hy hy1, Int.toNat_natCast, Nat.xor_assoc, Nat.xor_self, Nat.xor_zero]
  omega
theorem wf_u8 {x : Int} (h : (Lit.int .u8 x).wf = true) : 0 ≤ x ∧ x < 256 := by
  simp [Lit.wf, IntKind.min, IntKind.max, IntKind.signed, IntKind.bits] at h; omega
theorem wf_u32 {x : Int} (h : (Lit.int .u32 x).wf = true) : 0 ≤ x ∧ x < 4294967296 := by
  simp [Lit.wf, IntKind.min, IntKind.max, IntKind.signed, IntKind.bits] at h; omega
theorem wf_u64 {x : Int} (h : (Lit.int .u64 x).wf = true) : 0 ≤ x ∧ x < 18446744073709551616 := by
  simp [Lit.wf, IntKind.min, IntKind.max, IntKind.signed, IntKind.bits] at h; omega
theorem wf_i64 {x : Int} (h : (Lit.int .i64 x).wf = true) : -9223372036854775808 ≤ x ∧ x ≤ 9223372036854775807 := by
  simp [Lit.wf, IntKind.min, IntKind.max, IntKind.signed, IntKind.bits] at h; omega
/-- Numbers that are bytes. -/
def Bs (l : List Int) : Prop := ∀ x ∈ l, 0 ≤ x ∧ x < 256
theorem Bs.of {l : List Int} (h : ∀ x ∈ l, (Lit.int .u8 x).wf = true) : Bs l := fun x hx => wf_u8 (h x hx)
theorem Bs.rd {l : List Int} (h : Bs l) (i : Int) : 0 ≤ rd l i ∧ rd l i < 256 := by
  show 0 ≤ l.getD i.toNat 0 ∧ l.getD i.toNat 0 < 256
  rw [List.getD_eq_getElem?_getD]
  rcases hi : l[i.toNat]? with _ | x
  · simp
  · simpa using h x (List.mem_of_getElem? hi)
theorem Bs.append {l m : List Int} (h : Bs l) (k : Bs m) : Bs (l ++ m) := fun x hx => (List.mem_append.1 hx).elim (h x) (k x)
theorem Bs.take {l : List Int} (h : Bs l) (n : Nat) : Bs (l.take n) := fun x hx => h x (List.mem_of_mem_take hx)
theorem Bs.drop {l : List Int} (h : Bs l) (n : Nat) : Bs (l.drop n) := fun x hx => h x (List.mem_of_mem_drop hx)
theorem Bs.zeros (n : Nat) : Bs (List.replicate n 0) := fun x hx => by have := List.eq_of_mem_replicate hx; omega
/-- The text of bytes tells the bytes. -/
theorem strOfNums_inj {l m : List Int} (h : Bs l) (k : Bs m) (he : (strOfNums l).toList = (strOfNums m).toList) : l = m := by
  have hs : ∀ l : List Int, (strOfNums l).toList = l.map fun x => UInt8.ofNat x.toNat := by
    intro l; simp [strOfNums, ByteArray.toList_eq]
  rw [hs, hs] at he
  have : ∀ (l m : List Int), Bs l → Bs m → l.map (fun x => UInt8.ofNat x.toNat) = m.map (fun x => UInt8.ofNat x.toNat) → l = m := by
    intro l
    induction l with
    | nil => intro m _ _ he; cases m with | nil => rfl | cons => simp at he
    | cons a l ih =>
      intro m hl hm he
      cases m with
      | nil => simp at he
      | cons b m =>
        simp only [List.map_cons, List.cons.injEq] at he
        have ha := hl a (by simp)
        have hb := hm b (by simp)
        have e1 : a = b := by
          have := congrArg UInt8.toNat he.1
          simp at this
          omega
        rw [e1, ih m (fun x hx => hl x (by simp [hx])) (fun x hx => hm x (by simp [hx])) he.2]
  exact this l m h k he

/-! ### octet -/
theorem put4 (k : Nat) (v : Int) : octet_put.f (k + 5) v 4 = some [v % 256, v / 256 % 256, v / 65536 % 256, v / 16777216 % 256] := by
  simp [octet_put.f, octet_put.l0, wrap64, shr, IntKind.bits]
theorem put8 (k : Nat) (v : Int) : octet_put.f (k + 9) v 8 = some [v % 256, v / 256 % 256, v / 65536 % 256, v / 16777216 % 256, v / 4294967296 % 256, v / 1099511627776 % 256, v / 281474976710656 % 256, v / 72057594037927936 % 256] := by
  simp [octet_put.f, octet_put.l0, wrap64, shr, IntKind.bits]
/-- The number of the first i bytes. -/
def val (l : List Int) : Nat → Int
  | 0 => 0
  | i + 1 => val l i + rd l i * 2 ^ (8 * i)
theorem pow8 (i : Nat) : (2 : Int) ^ (8 * (i + 1)) = 256 * 2 ^ (8 * i) := by
  rw [Nat.mul_add, Int.pow_add]; omega
theorem val_lt {l : List Int} (h : Bs l) : ∀ i : Nat, 0 ≤ val l i ∧ val l i < 2 ^ (8 * i)
  | 0 => by simp [val]
  | i + 1 => by
    have ih := val_lt h i
    have hr := h.rd i
    have hp : (0 : Int) < 2 ^ (8 * i) := by exact_mod_cast Nat.two_pow_pos (8 * i)
    rw [pow8]
    simp only [val]
    generalize (2 : Int) ^ (8 * i) = p at *
    have h1 : rd l i * p ≤ 255 * p := Int.mul_le_mul_of_nonneg_right (by omega) (by omega)
    have h2 : 0 ≤ rd l i * p := Int.mul_nonneg hr.1 (by omega)
    omega
theorem get_loop {l : List Int} (h : Bs l) (n : Nat) (hn : n ≤ 8) (hl : n ≤ l.length) : ∀ (d k i : Nat), i + d = n → d < k →
    octet_get.l0 k l (val l i) n i = some (val l n, true)
  | 0, k, i, he, hk => by
    obtain ⟨k, rfl⟩ : ∃ m, k = m + 1 := ⟨k - 1, by omega⟩
    simp only [octet_get.l0]
    rw [if_neg (by omega)]
    obtain rfl : i = n := by omega
    rfl
  | d + 1, k, i, he, hk => by
    obtain ⟨k, rfl⟩ : ∃ m, k = m + 1 := ⟨k - 1, by omega⟩
    have hw : wrap64 (8 * (i : Int)) = ((8 * i : Nat) : Int) := by rw [w64 (by omega) (by omega)]; omega
    have hw1 : wrap64 ((i : Int) + 1) = ((i + 1 : Nat) : Int) := by rw [w64 (by omega) (by omega)]; omega
    have hr := h.rd i
    have hv := val_lt h i
    have hp : (0 : Int) < 2 ^ (8 * i) := by exact_mod_cast Nat.two_pow_pos (8 * i)
    have hp2 : (256 : Int) * 2 ^ (8 * i) ≤ 2 ^ 64 := by
      rw [← pow8]; exact_mod_cast Nat.pow_le_pow_right (by decide) (by omega)
    have hx : 0 ≤ rd l i * 2 ^ (8 * i) := Int.mul_nonneg hr.1 (by omega)
    have hx1 : rd l i * 2 ^ (8 * i) < 2 ^ 64 := by
      have : rd l i * 2 ^ (8 * i) ≤ 255 * 2 ^ (8 * i) := Int.mul_le_mul_of_nonneg_right (by omega) (by omega)
      omega
    have hs : shl .u64 (IntKind.u64.wrap (rd l i)) ((8 * i : Nat) : Int) = rd l i * 2 ^ (8 * i) := by
      unfold shl
      rw [wraps_u64 _ hr.1 (by omega), Int.toNat_natCast, Nat.min_eq_left (by simp [IntKind.bits]; omega)]
      exact wraps_u64 _ hx hx1
    simp only [octet_get.l0]
    rw [if_pos (by omega), if_pos (by omega), if_pos (by omega), hw, if_pos (by omega), hs, hw1,
      or_u64 (8 * i) (by omega) hv.1 hv.2 hx hx1 (by rw [Int.mul_emod_left])]
    exact get_loop h n hn hl d k (i + 1) (by omega) (by omega)
theorem get_is (k : Nat) {l : List Int} (h : Bs l) (n : Nat) (hn : n ≤ 8) : octet_get.f (k + 10) l n = if n ≤ l.length then some (val l n, true) else some (0, false) := by
  unfold octet_get.f
  by_cases hl : n ≤ l.length
  · rw [if_neg (by omega), if_pos hl]
    exact get_loop h n hn hl n (k + 10) 0 (by omega) (by omega)
  · rw [if_pos (by omega), if_neg hl]
theorem get4_is (k : Nat) {l : List Int} (h : Bs l) : octet_get.f (k + 10) l 4 = if 4 ≤ l.length then some (val l 4, true) else some (0, false) := get_is k h 4 (by decide)
theorem get8_is (k : Nat) {l : List Int} (h : Bs l) : octet_get.f (k + 10) l 8 = if 8 ≤ l.length then some (val l 8, true) else some (0, false) := get_is k h 8 (by decide)

end OctetNumbersP
open OctetNumbersP

theorem OctetNumbers : portholelaw1_OctetNumbers.Pure := by
  intro n m b hn hm hl _ hb
  have hn := wf_u32 hn
  have hm := wf_u64 hm
  have hb := Bs.of hb
  refine ⟨20, ?_⟩
  have p4 : octet_Put32.f 20 n = some [n % 256, n / 256 % 256, n / 65536 % 256, n / 16777216 % 256] := by
    unfold octet_Put32.f
    rw [wraps_u64 n hn.1 (by omega), put4 15 n]; rfl
  have p8 : octet_Put64.f 20 m = some [m % 256, m / 256 % 256, m / 65536 % 256, m / 16777216 % 256, m / 4294967296 % 256, m / 1099511627776 % 256, m / 281474976710656 % 256, m / 72057594037927936 % 256] := by
    unfold octet_Put64.f
    rw [put8 11 m]; rfl
  have b4 : Bs [n % 256, n / 256 % 256, n / 65536 % 256, n / 16777216 % 256] := by intro x hx; simp at hx; omega
  have b8 : Bs [m % 256, m / 256 % 256, m / 65536 % 256, m / 16777216 % 256, m / 4294967296 % 256, m / 1099511627776 % 256, m / 281474976710656 % 256, m / 72057594037927936 % 256] := by intro x hx; simp at hx; omega
  have g4 : octet_Get32.f 20 [n % 256, n / 256 % 256, n / 65536 % 256, n / 16777216 % 256] = some (n, true) := by
    unfold octet_Get32.f
    have := get4_is 10 b4
    rw [if_pos (by simp)] at this
    rw [this]
    simp [val, rd]; omega
  have g8 : octet_Get64.f 20 [m % 256, m / 256 % 256, m / 65536 % 256, m / 16777216 % 256, m / 4294967296 % 256, m / 1099511627776 % 256, m / 281474976710656 % 256, m / 72057594037927936 % 256] = some (m, true) := by
    unfold octet_Get64.f
    have := get8_is 10 b8
    rw [if_pos (by simp)] at this
    rw [this]
    simp [val, rd]; omega
  have gb : octet_Get32.f 20 b = if 4 ≤ b.length then some (val b 4 % 4294967296, true) else some (0, false) := by
    unfold octet_Get32.f
    have := get4_is 10 hb
    rw [this]
    split <;> rfl
  have r4 : portholeref1_Put32.f n = some [n % 256, n / 256 % 256, n / 65536 % 256, n / 16777216 % 256] := rfl
  have r8 : portholeref1_Put64.f m = some [m % 256, m / 256 % 256, m / 65536 % 256, m / 16777216 % 256, m / 4294967296 % 256, m / 1099511627776 % 256, m / 281474976710656 % 256, m / 72057594037927936 % 256] := by
    unfold portholeref1_Put64.f portholeref1_Put32.f
    simp only [Option.bind_some, List.length_cons, List.length_nil]
    rw [if_pos (by decide)]
    simp only [List.cons_append, List.nil_append, Option.some.injEq, List.cons.injEq, and_true]
    omega
  have kn : portholelaw1_known.f 19 = some true := by decide +kernel
  have fin : ∀ (t : Int) (p : Bool), octet_Get32.f 20 b = some (t, p) → p = decide ((b.length : Int) ≥ 4) → portholelaw1_OctetNumbers.j0 20 n m b n true m true t p t = some true := by
    intro t p _ hp
    simp only [portholelaw1_OctetNumbers.j0]
    have p4' : octet_Put32.f 19 n = some [n % 256, n / 256 % 256, n / 65536 % 256, n / 16777216 % 256] := by
      unfold octet_Put32.f
      rw [wraps_u64 n hn.1 (by omega), put4 14 n]; rfl
    have p8' : octet_Put64.f 19 m = some [m % 256, m / 256 % 256, m / 65536 % 256, m / 16777216 % 256, m / 4294967296 % 256, m / 1099511627776 % 256, m / 281474976710656 % 256, m / 72057594037927936 % 256] := by
      unfold octet_Put64.f
      rw [put8 10 m]; rfl
    rw [kn, p4', r4, p8', r8]
    simp [hp]
  unfold portholelaw1_OctetNumbers.f
  rw [p4]; simp only [Option.bind_some]
  rw [g4, p8]; simp only [Option.bind_some]
  rw [g8]; simp only [Option.bind_some]
  by_cases h4 : 4 ≤ b.length
  · rw [if_pos h4] at gb
    have hv := val_lt hb 4
    have rg : portholeref1_Get32.f (b.take 4) = some (val b 4 % 4294967296) := by
      have e : ∀ i : Nat, i < 4 → rd (b.take 4) i = rd b i := by
        intro i hi
        show (b.take 4).getD _ 0 = b.getD _ 0
        simp [List.getD_eq_getElem?_getD, List.getElem?_take, hi]
      have e0 := e 0 (by decide)
      have e1 := e 1 (by decide)
      have e2 := e 2 (by decide)
      have e3 := e 3 (by decide)
      have h0 := hb.rd 0
      have h1 := hb.rd 1
      have h2 := hb.rd 2
      have h3 := hb.rd 3
      have hlen : (b.take 4).length = 4 := by simp; omega
      unfold portholeref1_Get32.f
      rw [hlen, if_pos (by decide), if_pos (by decide), if_pos (by decide), if_pos (by decide)]
      simp [val] at e0 e1 e2 e3 ⊢
      rw [e0, e1, e2, e3]
      omega
    rw [gb]; simp only [Option.bind_some]
    rw [if_pos (by omega), if_pos (by omega), rg]; simp only [Option.bind_some]
    exact fin _ _ gb (by simp; omega)
  · rw [if_neg h4] at gb
    rw [gb]; simp only [Option.bind_some]
    rw [if_neg (by omega)]
    exact fin _ _ gb (by simp; omega)

end Go.Proofs.Ytaaejidllnkpbaa.Pure
