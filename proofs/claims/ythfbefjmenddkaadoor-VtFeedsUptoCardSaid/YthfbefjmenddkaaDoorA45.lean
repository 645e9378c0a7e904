/- The runes of a text, by its bytes: where a text may be cut. No condition. -/
import Derived.Test.YthfbefjmenddkaaDoorA44
namespace Go.Proofs.YthfbefjmenddkaaDoorA
open Go
set_option linter.unusedVariables false
noncomputable section

/-- So many bytes a rune takes that begins so; 0: a byte of its own, 1: none begins so. -/
def sz (c : Nat) : Nat := if c < 128 then 0 else if c < 194 then 1 else if c < 224 then 2 else if c < 240 then 3 else if c < 245 then 4 else 1
def lo (c : Nat) : Nat := if c = 224 then 160 else if c = 240 then 144 else 128
def hi (c : Nat) : Nat := if c = 237 then 159 else if c = 244 then 143 else 191
theorem sz_le (c : Nat) : sz c ≤ 4 := by unfold sz; repeat' split
                                         all_goals omega
theorem lo_ge (c : Nat) : 128 ≤ lo c := by unfold lo; repeat' split
                                           all_goals omega
theorem hi_le (c : Nat) : hi c ≤ 191 := by unfold hi; repeat' split
                                           all_goals omega
/-- The bytes behind the first are such as its rune has. -/
def okT (s : List Nat) : Prop := sz (s.getD 0 0) ≤ s.length ∧ lo (s.getD 0 0) ≤ s.getD 1 0 ∧ s.getD 1 0 ≤ hi (s.getD 0 0) ∧ (3 ≤ sz (s.getD 0 0) → 128 ≤ s.getD 2 0 ∧ s.getD 2 0 ≤ 191) ∧ (4 ≤ sz (s.getD 0 0) → 128 ≤ s.getD 3 0 ∧ s.getD 3 0 ≤ 191)
instance (s : List Nat) : Decidable (okT s) := by unfold okT; infer_instance
def runeV (s : List Nat) : Nat :=
  if sz (s.getD 0 0) = 2 then (s.getD 0 0 % 32) * 64 + s.getD 1 0 % 64
  else if sz (s.getD 0 0) = 3 then (s.getD 0 0 % 16) * 4096 + (s.getD 1 0 % 64) * 64 + s.getD 2 0 % 64
  else (s.getD 0 0 % 8) * 262144 + (s.getD 1 0 % 64) * 4096 + (s.getD 2 0 % 64) * 64 + s.getD 3 0 % 64
def dec2 (s : List Nat) : Nat × Nat :=
  if sz (s.getD 0 0) = 0 then (s.getD 0 0, 1) else if 2 ≤ sz (s.getD 0 0) ∧ okT s then (runeV s, sz (s.getD 0 0)) else (65533, 1)
/-- utfDec, by the bytes and the length. -/
def decN (a b c d n : Nat) : Nat × Nat :=
  if a < 0x80 then (a, 1)
  else if a / 32 == 6 && (1 < n && b / 64 == 2) then
    let c := (a % 32) * 64 + b % 64
    if c ≥ 0x80 then (c, 2) else (Utf8.runeError, 1)
  else if a / 16 == 14 && (1 < n && b / 64 == 2) && (2 < n && c / 64 == 2) then
    let c := (a % 16) * 4096 + (b % 64) * 64 + c % 64
    if c ≥ 0x800 && Utf8.valid c then (c, 3) else (Utf8.runeError, 1)
  else if a / 8 == 30 && (1 < n && b / 64 == 2) && (2 < n && c / 64 == 2) && (3 < n && d / 64 == 2) then
    let c := (a % 8) * 262144 + (b % 64) * 4096 + (c % 64) * 64 + d % 64
    if c ≥ 0x10000 && Utf8.valid c then (c, 4) else (Utf8.runeError, 1)
  else (Utf8.runeError, 1)
theorem utfDec_N (s : List Nat) : utfDec s = decN (s.getD 0 0) (s.getD 1 0) (s.getD 2 0) (s.getD 3 0) s.length := rfl
theorem valid_nat (x : Nat) : Utf8.valid (x : Int) = decide (x < 55296 ∨ 57344 ≤ x ∧ x ≤ 1114111) := by
  unfold Utf8.valid
  rw [Bool.eq_iff_iff]
  simp only [Bool.and_eq_true, Bool.or_eq_true, decide_eq_true_eq]
  omega
theorem decN_one {a b c d n : Nat} (ha : 128 ≤ a) (hb : a < 194 ∨ 245 ≤ a) (h : a < 256) : decN a b c d n = (65533, 1) := by
  unfold decN
  simp only [valid_nat, Bool.and_eq_true, beq_iff_eq, decide_eq_true_eq, show Utf8.runeError = 65533 from rfl]
  rw [if_neg (by omega)]
  repeat' split
  all_goals first | rfl | (exfalso; omega)
theorem decN_two {a b c d n : Nat} (ha : 194 ≤ a) (hb : a < 224) : decN a b c d n = if 2 ≤ n ∧ 128 ≤ b ∧ b ≤ 191 then ((a % 32) * 64 + b % 64, 2) else (65533, 1) := by
  unfold decN
  simp only [valid_nat, Bool.and_eq_true, beq_iff_eq, decide_eq_true_eq, show Utf8.runeError = 65533 from rfl]
  rw [if_neg (by omega)]
  by_cases hq : 2 ≤ n ∧ 128 ≤ b ∧ b ≤ 191
  · rw [if_pos hq, if_pos (by omega), if_pos (by omega)]
  · rw [if_neg hq, if_neg (by omega), if_neg (by omega), if_neg (by omega)]
theorem decN_three {a b c d n : Nat} (ha : 224 ≤ a) (hb : a < 240) : decN a b c d n = if 3 ≤ n ∧ lo a ≤ b ∧ b ≤ hi a ∧ 128 ≤ c ∧ c ≤ 191 then ((a % 16) * 4096 + (b % 64) * 64 + c % 64, 3) else (65533, 1) := by
  unfold decN
  simp only [valid_nat, Bool.and_eq_true, beq_iff_eq, decide_eq_true_eq, show Utf8.runeError = 65533 from rfl]
  by_cases e1 : a = 224
  · skip
    rw [show lo a = 160 from by unfold lo; (repeat' split) <;> omega, show hi a = 191 from by unfold hi; (repeat' split) <;> omega, if_neg (by omega), if_neg (by omega)]
    by_cases hc : 3 ≤ n ∧ 128 ≤ b ∧ b ≤ 191 ∧ 128 ≤ c ∧ c ≤ 191
    · rw [if_pos (by omega)]
      by_cases e3 : 160 ≤ b ∧ b ≤ 191
      · rw [if_pos (by omega), if_pos (by omega)]
      · rw [if_neg (by omega), if_neg (by omega)]
    · rw [if_neg (by omega), if_neg (by omega), if_neg (by omega)]
  by_cases e2 : a = 237
  · skip
    rw [show lo a = 128 from by unfold lo; (repeat' split) <;> omega, show hi a = 159 from by unfold hi; (repeat' split) <;> omega, if_neg (by omega), if_neg (by omega)]
    by_cases hc : 3 ≤ n ∧ 128 ≤ b ∧ b ≤ 191 ∧ 128 ≤ c ∧ c ≤ 191
    · rw [if_pos (by omega)]
      by_cases e3 : 128 ≤ b ∧ b ≤ 159
      · rw [if_pos (by omega), if_pos (by omega)]
      · rw [if_neg (by omega), if_neg (by omega)]
    · rw [if_neg (by omega), if_neg (by omega), if_neg (by omega)]
  · skip
    rw [show lo a = 128 from by unfold lo; (repeat' split) <;> omega, show hi a = 191 from by unfold hi; (repeat' split) <;> omega, if_neg (by omega), if_neg (by omega)]
    by_cases hc : 3 ≤ n ∧ 128 ≤ b ∧ b ≤ 191 ∧ 128 ≤ c ∧ c ≤ 191
    · rw [if_pos (by omega)]
      by_cases e3 : 128 ≤ b ∧ b ≤ 191
      · rw [if_pos (by omega), if_pos (by omega)]
      · rw [if_neg (by omega), if_neg (by omega)]
    · rw [if_neg (by omega), if_neg (by omega), if_neg (by omega)]
theorem decN_four {a b c d n : Nat} (ha : 240 ≤ a) (hb : a < 245) : decN a b c d n = if 4 ≤ n ∧ lo a ≤ b ∧ b ≤ hi a ∧ (128 ≤ c ∧ c ≤ 191) ∧ 128 ≤ d ∧ d ≤ 191 then ((a % 8) * 262144 + (b % 64) * 4096 + (c % 64) * 64 + d % 64, 4) else (65533, 1) := by
  unfold decN
  simp only [valid_nat, Bool.and_eq_true, beq_iff_eq, decide_eq_true_eq, show Utf8.runeError = 65533 from rfl]
  by_cases e1 : a = 240
  · skip
    rw [show lo a = 144 from by unfold lo; (repeat' split) <;> omega, show hi a = 191 from by unfold hi; (repeat' split) <;> omega, if_neg (by omega), if_neg (by omega), if_neg (by omega)]
    by_cases hc : 4 ≤ n ∧ 128 ≤ b ∧ b ≤ 191 ∧ 128 ≤ c ∧ c ≤ 191 ∧ 128 ≤ d ∧ d ≤ 191
    · rw [if_pos (by omega)]
      by_cases e3 : 144 ≤ b ∧ b ≤ 191
      · rw [if_pos (by omega), if_pos (by omega)]
      · rw [if_neg (by omega), if_neg (by omega)]
    · rw [if_neg (by omega), if_neg (by omega)]
  by_cases e2 : a = 244
  · skip
    rw [show lo a = 128 from by unfold lo; (repeat' split) <;> omega, show hi a = 143 from by unfold hi; (repeat' split) <;> omega, if_neg (by omega), if_neg (by omega), if_neg (by omega)]
    by_cases hc : 4 ≤ n ∧ 128 ≤ b ∧ b ≤ 191 ∧ 128 ≤ c ∧ c ≤ 191 ∧ 128 ≤ d ∧ d ≤ 191
    · rw [if_pos (by omega)]
      by_cases e3 : 128 ≤ b ∧ b ≤ 143
      · rw [if_pos (by omega), if_pos (by omega)]
      · rw [if_neg (by omega), if_neg (by omega)]
    · rw [if_neg (by omega), if_neg (by omega)]
  · skip
    rw [show lo a = 128 from by unfold lo; (repeat' split) <;> omega, show hi a = 191 from by unfold hi; (repeat' split) <;> omega, if_neg (by omega), if_neg (by omega), if_neg (by omega)]
    by_cases hc : 4 ≤ n ∧ 128 ≤ b ∧ b ≤ 191 ∧ 128 ≤ c ∧ c ≤ 191 ∧ 128 ≤ d ∧ d ≤ 191
    · rw [if_pos (by omega)]
      by_cases e3 : 128 ≤ b ∧ b ≤ 191
      · rw [if_pos (by omega), if_pos (by omega)]
      · rw [if_neg (by omega), if_neg (by omega)]
    · rw [if_neg (by omega), if_neg (by omega)]
theorem dec2_zero {s : List Nat} (hz : sz (s.getD 0 0) = 0) : dec2 s = (s.getD 0 0, 1) := if_pos hz
theorem dec2_ok {s : List Nat} (hz : 2 ≤ sz (s.getD 0 0)) (hk : okT s) : dec2 s = (runeV s, sz (s.getD 0 0)) := by
  unfold dec2; rw [if_neg (by omega), if_pos ⟨hz, hk⟩]
theorem dec2_bad {s : List Nat} (hz : sz (s.getD 0 0) ≠ 0) (hk : ¬ (2 ≤ sz (s.getD 0 0) ∧ okT s)) : dec2 s = (65533, 1) := by
  unfold dec2; rw [if_neg hz, if_neg hk]
theorem dec_eq (s : List Nat) (h : s.getD 0 0 < 256) : utfDec s = dec2 s := by
  rw [utfDec_N]
  by_cases h1 : s.getD 0 0 < 128
  · rw [dec2_zero (by unfold sz; rw [if_pos h1])]
    unfold decN
    rw [if_pos h1]
  by_cases h2 : s.getD 0 0 < 194
  · have hz : sz (s.getD 0 0) = 1 := by unfold sz; rw [if_neg h1, if_pos h2]
    rw [decN_one (by omega) (.inl h2) h, dec2_bad (by omega) (by omega)]
  by_cases h3 : s.getD 0 0 < 224
  · have hz : sz (s.getD 0 0) = 2 := by unfold sz; rw [if_neg h1, if_neg h2, if_pos h3]
    have hl : lo (s.getD 0 0) = 128 := by unfold lo; rw [if_neg (by omega), if_neg (by omega)]
    have hh : hi (s.getD 0 0) = 191 := by unfold hi; rw [if_neg (by omega), if_neg (by omega)]
    rw [decN_two (by omega) h3]
    by_cases hq : 2 ≤ s.length ∧ 128 ≤ s.getD 1 0 ∧ s.getD 1 0 ≤ 191
    · rw [if_pos hq, dec2_ok (by omega) ⟨by omega, by omega, by omega, fun h => by omega, fun h => by omega⟩, hz]
      unfold runeV
      rw [if_pos hz]
    · rw [if_neg hq, dec2_bad (by omega) (fun h => hq ⟨by have := h.2.1; omega, by have := h.2.2.1; omega, by have := h.2.2.2.1; omega⟩)]
  by_cases h4 : s.getD 0 0 < 240
  · have hz : sz (s.getD 0 0) = 3 := by unfold sz; rw [if_neg h1, if_neg h2, if_neg h3, if_pos h4]
    rw [decN_three (by omega) h4]
    by_cases hq : 3 ≤ s.length ∧ lo (s.getD 0 0) ≤ s.getD 1 0 ∧ s.getD 1 0 ≤ hi (s.getD 0 0) ∧ 128 ≤ s.getD 2 0 ∧ s.getD 2 0 ≤ 191
    · rw [if_pos hq, dec2_ok (by omega) ⟨by omega, hq.2.1, hq.2.2.1, fun _ => hq.2.2.2, fun h => by omega⟩, hz]
      unfold runeV
      rw [if_neg (by omega), if_pos hz]
    · rw [if_neg hq, dec2_bad (by omega) (fun h => hq ⟨by have := h.2.1; omega, h.2.2.1, h.2.2.2.1, h.2.2.2.2.1 (by omega)⟩)]
  by_cases h5 : s.getD 0 0 < 245
  · have hz : sz (s.getD 0 0) = 4 := by unfold sz; rw [if_neg h1, if_neg h2, if_neg h3, if_neg h4, if_pos h5]
    rw [decN_four (by omega) h5]
    by_cases hq : 4 ≤ s.length ∧ lo (s.getD 0 0) ≤ s.getD 1 0 ∧ s.getD 1 0 ≤ hi (s.getD 0 0) ∧ (128 ≤ s.getD 2 0 ∧ s.getD 2 0 ≤ 191) ∧ 128 ≤ s.getD 3 0 ∧ s.getD 3 0 ≤ 191
    · rw [if_pos hq, dec2_ok (by omega) ⟨by omega, hq.2.1, hq.2.2.1, fun _ => hq.2.2.2.1, fun _ => hq.2.2.2.2⟩, hz]
      unfold runeV
      rw [if_neg (by omega), if_neg (by omega)]
    · rw [if_neg hq, dec2_bad (by omega) (fun h => hq ⟨by have := h.2.1; omega, h.2.2.1, h.2.2.2.1, h.2.2.2.2.1 (by omega), h.2.2.2.2.2 (by omega)⟩)]
  · have hz : sz (s.getD 0 0) = 1 := by unfold sz; rw [if_neg h1, if_neg h2, if_neg h3, if_neg h4, if_neg h5]
    rw [decN_one (by omega) (.inr (by omega)) h, dec2_bad (by omega) (by omega)]
/-- Is it a whole rune, or none that may become one? -/
def fullP (s : List Nat) : Prop := 0 < s.length ∧ (sz (s.getD 0 0) ≤ s.length ∨ 1 < s.length ∧ (s.getD 1 0 < lo (s.getD 0 0) ∨ hi (s.getD 0 0) < s.getD 1 0) ∨ 2 < s.length ∧ (s.getD 2 0 < 128 ∨ 191 < s.getD 2 0))
/-- May a rune begin so? -/
def startP (c : Nat) : Prop := c < 128 ∨ 191 < c
theorem getD_app {s t : List Nat} {k : Nat} (h : k < s.length) : (s ++ t).getD k 0 = s.getD k 0 := by
  rw [List.getD_eq_getElem?_getD, List.getElem?_append_left h, List.getD_eq_getElem?_getD]
theorem fullP_app {s t : List Nat} (h : fullP s) : fullP (s ++ t) := by
  obtain ⟨h0, h⟩ := h
  refine ⟨by rw [List.length_append]; omega, ?_⟩
  rw [getD_app h0, List.length_append]
  rcases h with h | ⟨h1, h⟩ | ⟨h1, h⟩
  · exact .inl (by omega)
  · exact .inr (.inl ⟨by omega, by rw [getD_app h1]; exact h⟩)
  · exact .inr (.inr ⟨by omega, by rw [getD_app h1]; exact h⟩)
/-- A rune that is whole is the same whatever follows. -/
theorem dec_full {s t : List Nat} (hs : ∀ y ∈ s, y < 256) (h : fullP s) : utfDec (s ++ t) = utfDec s := by
  obtain ⟨h0, h⟩ := h
  have hb : s.getD 0 0 < 256 := hs _ (by rw [List.getD_eq_getElem?_getD, List.getElem?_eq_getElem h0]; exact List.getElem_mem _)
  have e0 : (s ++ t).getD 0 0 = s.getD 0 0 := getD_app h0
  rw [dec_eq s hb, dec_eq (s ++ t) (by rw [e0]; exact hb)]
  by_cases hz : sz (s.getD 0 0) = 0
  · rw [dec2_zero hz, dec2_zero (by rw [e0]; exact hz), e0]
  by_cases hn : sz (s.getD 0 0) < 2
  · rw [dec2_bad hz (fun h => by have := h.1; omega), dec2_bad (by rw [e0]; exact hz) (fun h => by have := h.1; rw [e0] at this; omega)]
  have hn : 2 ≤ sz (s.getD 0 0) := by omega
  by_cases hl : sz (s.getD 0 0) ≤ s.length
  · have e1 : (s ++ t).getD 1 0 = s.getD 1 0 := getD_app (by omega)
    have e2 : 3 ≤ sz (s.getD 0 0) → (s ++ t).getD 2 0 = s.getD 2 0 := fun h => getD_app (by omega)
    have e3 : 4 ≤ sz (s.getD 0 0) → (s ++ t).getD 3 0 = s.getD 3 0 := fun h => getD_app (by omega)
    have hiff : okT (s ++ t) ↔ okT s := by
      unfold okT
      rw [e0, e1, List.length_append]
      constructor
      · rintro ⟨a, b, c, d, e⟩
        exact ⟨hl, b, c, fun h => by rw [← e2 h]; exact d h, fun h => by rw [← e3 h]; exact e h⟩
      · rintro ⟨a, b, c, d, e⟩
        exact ⟨by omega, b, c, fun h => by rw [e2 h]; exact d h, fun h => by rw [e3 h]; exact e h⟩
    by_cases hk : okT s
    · rw [dec2_ok hn hk, dec2_ok (by rw [e0]; exact hn) (hiff.2 hk), e0]
      congr 1
      unfold runeV
      rw [e0, e1]
      by_cases q2 : sz (s.getD 0 0) = 2
      · rw [if_pos q2, if_pos q2]
      rw [if_neg q2, if_neg q2, e2 (by omega)]
      by_cases q3 : sz (s.getD 0 0) = 3
      · rw [if_pos q3, if_pos q3]
      have := sz_le (s.getD 0 0)
      rw [if_neg q3, if_neg q3, e3 (by omega)]
    · rw [dec2_bad hz (fun h => hk h.2), dec2_bad (by rw [e0]; exact hz) (fun h => hk (hiff.1 h.2))]
  · rw [dec2_bad hz (fun h => hl h.2.1), dec2_bad (by rw [e0]; exact hz)]
    rintro ⟨_, k0, k1, k2, k3, _⟩
    rw [e0] at k1 k2 k3
    rcases h with h | ⟨h1, h⟩ | ⟨h1, h⟩
    · exact hl h
    · rw [getD_app h1] at k1 k2; omega
    · have := k3 (by omega)
      rw [getD_app h1] at this; omega
/-- What stands ahead of a byte that begins a rune is the same with it and without. -/
theorem dec_start {s t : List Nat} (hs : ∀ y ∈ s, y < 256) (h0 : 0 < s.length) (ht : t = [] ∨ startP (t.getD 0 0)) : utfDec (s ++ t) = utfDec s := by
  have hb : s.getD 0 0 < 256 := hs _ (by rw [List.getD_eq_getElem?_getD, List.getElem?_eq_getElem h0]; exact List.getElem_mem _)
  rcases ht with rfl | ht
  · rw [List.append_nil]
  by_cases hl : sz (s.getD 0 0) ≤ s.length
  · exact dec_full hs ⟨h0, .inl hl⟩
  have e0 : (s ++ t).getD 0 0 = s.getD 0 0 := getD_app h0
  have hz : sz (s.getD 0 0) ≠ 0 := by omega
  rw [dec_eq s hb, dec_eq (s ++ t) (by rw [e0]; exact hb), dec2_bad hz (fun h => hl h.2.1), dec2_bad (by rw [e0]; exact hz)]
  rintro ⟨_, k0, k1, k2, k3, k4⟩
  rw [e0] at k0 k1 k2 k3 k4
  have h4 := sz_le (s.getD 0 0)
  have g : (s ++ t).getD s.length 0 = t.getD 0 0 := by
    rw [List.getD_eq_getElem?_getD, List.getElem?_append_right (Nat.le_refl _), Nat.sub_self, List.getD_eq_getElem?_getD]
  have l1 := lo_ge (s.getD 0 0)
  have l2 := hi_le (s.getD 0 0)
  unfold startP at ht
  have hc : s.length = 1 ∨ s.length = 2 ∨ s.length = 3 := by omega
  rcases hc with hc | hc | hc
  · rw [hc] at g; omega
  · rw [hc] at g; have := k3 (by omega); omega
  · rw [hc] at g; have := k4 (by omega); omega
/-- A byte that begins no rune is one of its own. -/
theorem dec_mid {s : List Nat} (h : ¬ startP (s.getD 0 0)) : utfDec s = (65533, 1) := by
  unfold startP at h
  have hz : sz (s.getD 0 0) = 1 := by unfold sz; rw [if_neg (by omega), if_pos (by omega)]
  rw [dec_eq s (by omega), dec2_bad (by omega) (by omega)]
theorem dec_width {s : List Nat} (h0 : 0 < s.length) (hb : s.getD 0 0 < 256) : (utfDec s).2 ≤ s.length := by
  rw [dec_eq s hb]
  unfold dec2
  split
  · show 1 ≤ _; omega
  · split
    · rename_i h; exact h.2.1
    · show 1 ≤ _; omega
/-- A rune that is not whole is bytes of their own. -/
theorem dec_held {s : List Nat} (hb : s.getD 0 0 < 256) (h0 : 0 < s.length) (h : ¬ fullP s) : utfDec s = (65533, 1) ∧ s.length < sz (s.getD 0 0) ∧ (1 < s.length → 128 ≤ s.getD 1 0 ∧ s.getD 1 0 ≤ 191) ∧ (2 < s.length → 128 ≤ s.getD 2 0 ∧ s.getD 2 0 ≤ 191) := by
  unfold fullP at h
  have hl : ¬ sz (s.getD 0 0) ≤ s.length := fun h1 => h ⟨h0, .inl h1⟩
  refine ⟨by rw [dec_eq s hb, dec2_bad (by omega) (fun h => hl h.2.1)], by omega, fun h1 => ?_, fun h1 => ?_⟩
  · have l1 := lo_ge (s.getD 0 0)
    have l2 := hi_le (s.getD 0 0)
    have : ¬ (s.getD 1 0 < lo (s.getD 0 0) ∨ hi (s.getD 0 0) < s.getD 1 0) := fun h2 => h ⟨h0, .inr (.inl ⟨h1, h2⟩)⟩
    omega
  · have : ¬ (s.getD 2 0 < 128 ∨ 191 < s.getD 2 0) := fun h2 => h ⟨h0, .inr (.inr ⟨h1, h2⟩)⟩
    omega

theorem runesL_cat {z : List Nat} : ∀ (n : Nat) (a : List Nat), a.length ≤ n → (∀ y ∈ a, y < 256) → (∀ i, i < a.length → utfDec (a.drop i ++ z) = utfDec (a.drop i)) → runesL (a ++ z) = runesL a ++ runesL z
  | 0, a, hn, _, _ => by
    have : a = [] := List.length_eq_zero_iff.1 (by omega)
    subst this; rfl
  | n + 1, a, hn, hb, h => by
    by_cases h0 : a.length = 0
    · have : a = [] := List.length_eq_zero_iff.1 h0
      subst this; rfl
    have hd := h 0 (by omega)
    rw [List.drop_zero] at hd
    have hb0 : a.getD 0 0 < 256 := hb _ (by rw [List.getD_eq_getElem?_getD, List.getElem?_eq_getElem (by omega)]; exact List.getElem_mem _)
    have hw := dec_width (by omega) hb0
    have hp := utfDec_pos a
    rw [runesL_cons (s := a ++ z) (by rw [List.length_append]; omega), runesL_cons (s := a) (by omega), hd]
    generalize (utfDec a).2 = w at *
    rw [List.drop_append_of_le_length hw, List.cons_append]
    congr 1
    refine runesL_cat n (a.drop w) (by rw [List.length_drop]; omega) (fun y hy => hb y (List.mem_of_mem_drop hy)) fun i hi => ?_
    rw [List.length_drop] at hi
    rw [List.drop_drop]
    exact h (w + i) (by omega)
theorem runesL_cat_start {a z : List Nat} (ha : ∀ y ∈ a, y < 256) (hz : z = [] ∨ startP (z.getD 0 0)) : runesL (a ++ z) = runesL a ++ runesL z :=
  runesL_cat _ a (Nat.le_refl _) ha fun i hi => dec_start (fun y hy => ha y (List.mem_of_mem_drop hy)) (by rw [List.length_drop]; omega) hz
theorem getD_drop (s : List Nat) (i j : Nat) : (s.drop i).getD j 0 = s.getD (i + j) 0 := by
  rw [List.getD_eq_getElem?_getD, List.getElem?_drop, List.getD_eq_getElem?_getD]
/-- A rune may begin there, and is not whole. -/
def heldP (s : List Nat) (k : Nat) : Prop := startP (s.getD k 0) ∧ ¬ fullP (s.drop k)
theorem runesL_cat_full {a z : List Nat} (ha : ∀ y ∈ a, y < 256) (h : ∀ j, a.length - 3 ≤ j → j < a.length → ¬ heldP a j) : runesL (a ++ z) = runesL a ++ runesL z := by
  refine runesL_cat _ a (Nat.le_refl _) ha fun i hi => ?_
  have hd : ∀ y ∈ a.drop i, y < 256 := fun y hy => ha y (List.mem_of_mem_drop hy)
  have hl : (a.drop i).length = a.length - i := List.length_drop
  by_cases h3 : a.length - 3 ≤ i
  · by_cases hs : startP (a.getD i 0)
    · by_cases hf : fullP (a.drop i)
      · exact dec_full hd hf
      · exact absurd ⟨hs, hf⟩ (h i h3 hi)
    · rw [dec_mid (s := a.drop i ++ z) (by rw [getD_app (by omega), getD_drop, Nat.add_zero]; exact hs), dec_mid (by rw [getD_drop, Nat.add_zero]; exact hs)]
  · exact dec_full hd ⟨by omega, .inl (by have := sz_le ((a.drop i).getD 0 0); omega)⟩
theorem runesL_mid : ∀ l : List Nat, (∀ y ∈ l, ¬ startP y) → runesL l = List.replicate l.length 65533
  | [], _ => rfl
  | y :: l, h => by
    have hd := dec_mid (s := y :: l) (h y (List.mem_cons_self ..))
    rw [runesL_cons (by simp), hd]
    show (65533 : Int) :: runesL l = _
    rw [runesL_mid l fun z hz => h z (List.mem_cons_of_mem _ hz)]
    rfl
theorem runesL_held {s : List Nat} (hb : ∀ y ∈ s, y < 256) (h0 : 0 < s.length) (h : ¬ fullP s) : runesL s = List.replicate s.length 65533 := by
  obtain ⟨y, l, rfl⟩ : ∃ y l, s = y :: l := by cases s with
    | nil => simp at h0
    | cons y l => exact ⟨y, l, rfl⟩
  have h4 := sz_le ((y :: l).getD 0 0)
  obtain ⟨hd, k1, k2, k3⟩ := dec_held (hb _ (List.mem_cons_self ..)) h0 h
  rw [runesL_cons h0, hd]
  show (65533 : Int) :: runesL l = _
  rw [runesL_mid l]
  · rfl
  · intro z hz
    obtain ⟨i, hi⟩ := List.mem_iff_getElem?.1 hz
    have hil := (List.getElem?_eq_some_iff.1 hi).1
    rw [List.length_cons] at k1 k2 k3
    unfold startP
    have hi2 : i = 0 ∨ i = 1 := by omega
    rcases hi2 with rfl | rfl
    · have := k2 (by omega)
      rw [List.getD_cons_succ, List.getD_eq_getElem?_getD, hi, Option.getD_some] at this
      omega
    · have := k3 (by omega)
      rw [List.getD_cons_succ, List.getD_eq_getElem?_getD, hi, Option.getD_some] at this
      omega
/-- What is told of a text, and what is held: where it is cut. -/
def isCut (s : List Nat) (c : Nat) : Prop := s.length - 3 ≤ c ∧ c ≤ s.length ∧ (∀ j, s.length - 3 ≤ j → j < c → ¬ heldP s j) ∧ (c < s.length → heldP s c)
theorem isCut_unique {s : List Nat} {c d : Nat} (hc : isCut s c) (hd : isCut s d) : c = d := by
  obtain ⟨a1, a2, a3, a4⟩ := hc
  obtain ⟨b1, b2, b3, b4⟩ := hd
  rcases Nat.lt_trichotomy c d with h | h | h
  · exact absurd (a4 (by omega)) (b3 c a1 h)
  · exact h
  · exact absurd (b4 (by omega)) (a3 d b1 h)
theorem isCut_step {q y : List Nat} {c d : Nat} (hc : isCut q c) (hd : isCut (q.drop c ++ y) d) : isCut (q ++ y) (c + d) := by
  obtain ⟨a1, a2, a3, a4⟩ := hc
  obtain ⟨b1, b2, b3, b4⟩ := hd
  have hl : (q.drop c ++ y).length + c = (q ++ y).length := by rw [List.length_append, List.length_append, List.length_drop]; omega
  have hdr : ∀ j, (q ++ y).drop (c + j) = (q.drop c ++ y).drop j := fun j => by rw [← List.drop_drop, List.drop_append_of_le_length a2]
  have hh : ∀ j, heldP (q ++ y) (c + j) ↔ heldP (q.drop c ++ y) j := fun j => by
    unfold heldP
    rw [hdr]
    have : (q ++ y).getD (c + j) 0 = (q.drop c ++ y).getD j 0 := by rw [← getD_drop, List.drop_append_of_le_length a2]
    rw [this]
  refine ⟨by omega, by omega, fun j h1 h2 => ?_, fun h => (hh d).2 (b4 (by omega))⟩
  by_cases hj : j < c
  · rintro ⟨k1, k2⟩
    have hjq : j < q.length := by omega
    rw [getD_app hjq] at k1
    rw [List.drop_append_of_le_length (by omega)] at k2
    refine a3 j (by rw [List.length_append] at h1; omega) hj ⟨k1, fun hf => k2 (fullP_app hf)⟩
  · obtain ⟨i, rfl⟩ : ∃ i, j = c + i := ⟨j - c, by omega⟩
    rw [hh]
    exact b3 i (by omega) (by omega)
theorem take_step (q y : List Nat) {c : Nat} (d : Nat) (hc : c ≤ q.length) : (q ++ y).take (c + d) = q.take c ++ (q.drop c ++ y).take d := by
  rw [List.take_add, List.take_append_of_le_length hc, List.drop_append_of_le_length hc]
theorem runes_step {q y : List Nat} {c d : Nat} (hq : ∀ x ∈ q, x < 256) (hc : isCut q c) : runesL ((q ++ y).take (c + d)) = runesL (q.take c) ++ runesL ((q.drop c ++ y).take d) := by
  obtain ⟨a1, a2, a3, a4⟩ := hc
  rw [take_step q y d a2]
  by_cases h : c < q.length
  · refine runesL_cat_start (fun x hx => hq x (List.mem_of_mem_take hx)) ?_
    cases d with
    | zero => left; rfl
    | succ d =>
      right
      have : ((q.drop c ++ y).take (d + 1)).getD 0 0 = q.getD c 0 := by
        rw [List.getD_eq_getElem?_getD, List.getElem?_take, if_pos (by omega), List.getElem?_append_left (by rw [List.length_drop]; omega), List.getElem?_drop, Nat.add_zero, List.getD_eq_getElem?_getD]
      rw [this]
      exact (a4 h).1
  · have e : c = q.length := by omega
    subst e
    rw [List.take_length]
    exact runesL_cat_full hq a3
theorem runes_all {s : List Nat} {c : Nat} (hs : ∀ x ∈ s, x < 256) (hc : isCut s c) : runesL s = runesL (s.take c) ++ List.replicate (s.length - c) 65533 := by
  obtain ⟨a1, a2, a3, a4⟩ := hc
  by_cases h : c < s.length
  · have h1 := runesL_cat_start (a := s.take c) (z := s.drop c) (fun x hx => hs x (List.mem_of_mem_take hx)) (.inr (by rw [getD_drop, Nat.add_zero]; exact (a4 h).1))
    rw [List.take_append_drop] at h1
    rw [h1, runesL_held (fun x hx => hs x (List.mem_of_mem_drop hx)) (by rw [List.length_drop]; omega) (a4 h).2, List.length_drop]
  · have e : c = s.length := by omega
    subst e
    rw [List.take_length, Nat.sub_self]; simp

end
end Go.Proofs.YthfbefjmenddkaaDoorA
