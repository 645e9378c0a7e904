/- PadLeast: the bucket that pad.Bucket tells is the least of the four sizes that has room for the text and its two bytes, and pad.Pad refuses just what is longer than the greatest size less two. For every int n. -/
import Derived.Test.YtaaejidllnkpbaaPPadLeastx1
namespace Go.Proofs.Ytaaejidllnkpbaa.Pure
open Go.RowKit Go.Proofs.Ytaaejidllnkpbaa.PPadLeast Go.Proofs.YtaaejidllnkpbaaW.PrintWords Go.Proofs.YtaaejidllnkpbaaW.PrintLast

namespace PadLeastP

def bucket (n : Int) : Int × Bool :=
  if n < 0 then (0, false) else if n ≤ 62 then (64, true) else if n ≤ 254 then (256, true) else if n ≤ 1022 then (1024, true) else if n ≤ 3966 then (3968, true) else (0, false)

theorem bucket_is (k : Nat) (n : Int) : pad_Bucket.f (k + 5) n = some (bucket n) := by
  unfold pad_Bucket.f pad_Sizes.f bucket
  simp only [Option.bind_some]
  by_cases h0 : n < 0
  · have h0' : ¬ (n ≥ 0) := by omega
    simp [pad_Bucket.l0, h0, h0', wrap64]
  · have h0' : n ≥ 0 := by omega
    by_cases h1 : n ≤ 62
    · simp [pad_Bucket.l0, h0, h0', h1, wrap64, rd]
    · by_cases h2 : n ≤ 254
      · simp [pad_Bucket.l0, h0, h0', h1, h2, wrap64, rd]
      · by_cases h3 : n ≤ 1022
        · simp [pad_Bucket.l0, h0, h0', h1, h2, h3, wrap64, rd]
        · by_cases h4 : n ≤ 3966
          · simp [pad_Bucket.l0, h0, h0', h1, h2, h3, h4, wrap64, rd]
          · simp [pad_Bucket.l0, h0, h0', h1, h2, h3, h4, wrap64, rd]

theorem known_is (k : Nat) : portholelaw15_known.f (k + 5) = some true := by
  unfold portholelaw15_known.f
  rw [bucket_is, bucket_is, bucket_is]
  rfl

theorem join_three (k : Nat) (a b c : List Int) (h : a.length + b.length + c.length < 140737488355328) :
    octet_Join.f (k + 5) [a, b, c] = some (a ++ b ++ c) := by
  have h1 : ([] : List Int).length + a.length < 140737488355328 := by simp; omega
  have h2 : a.length + b.length < 140737488355328 := by omega
  have h3 : (a ++ b).length + c.length < 140737488355328 := by simp; omega
  simp at h1 h3
  simp [octet_Join.f, octet_Join.l0, wrap64, rd_L2, h1, h2, h3]

theorem pad_is (k : Nat) (l : List Int) (hl : l.length ≤ 5000) :
    ∃ r, pad_Pad.f (k + 5) l = some (r, if (l.length : Int) ≤ 3966 then 0 else 6) := by
  unfold pad_Pad.f
  rw [bucket_is]
  simp only [Option.bind_some]
  have key : ∀ size : Int, (l.length : Int) ≤ size - 2 → 64 ≤ size → size ≤ 3968 → bucket l.length = (size, true) →
      ∃ r, (if (bucket l.length).2 = true then (if 0 ≤ (wrap64 ((wrap64 ((bucket l.length).1 - 2)) - (l.length : Int))) then (if (wrap64 ((wrap64 ((bucket l.length).1 - 2)) - (l.length : Int)) : Int).toNat ≤ 281474976710656 then ((octet_Join.f (k + 5) (([(([((l.length : Int) / 256) % 256, ((l.length : Int)) % 256] : List Int)), l, (List.replicate (wrap64 ((wrap64 ((bucket l.length).1 - 2)) - (l.length : Int)) : Int).toNat 0)] : List (List Int)))).bind fun t132 => (some (t132, (0 : Int)))) else (none)) else (none)) else (some (([] : List Int), 6))) = some (r, 0) := by
    intro size h1 h2 h3 hb
    have e1 : wrap64 (size - 2) = size - 2 := by unfold wrap64; omega
    have e2 : wrap64 (size - 2 - (l.length : Int)) = size - 2 - (l.length : Int) := by unfold wrap64; omega
    rw [hb]
    simp only [e1, e2]
    rw [if_pos trivial, if_pos (by omega), if_pos (by omega), join_three k _ _ _ (by simp; omega)]
    exact ⟨_, rfl⟩
  by_cases h1 : (l.length : Int) ≤ 62
  · rw [if_pos (show (l.length : Int) ≤ 3966 by omega)]
    exact key 64 (by omega) (by omega) (by omega) (by unfold bucket; rw [if_neg (by omega), if_pos h1])
  · by_cases h2 : (l.length : Int) ≤ 254
    · rw [if_pos (show (l.length : Int) ≤ 3966 by omega)]
      exact key 256 (by omega) (by omega) (by omega) (by unfold bucket; rw [if_neg (by omega), if_neg h1, if_pos h2])
    · by_cases h3 : (l.length : Int) ≤ 1022
      · rw [if_pos (show (l.length : Int) ≤ 3966 by omega)]
        exact key 1024 (by omega) (by omega) (by omega) (by unfold bucket; rw [if_neg (by omega), if_neg h1, if_neg h2, if_pos h3])
      · by_cases h4 : (l.length : Int) ≤ 3966
        · rw [if_pos (show (l.length : Int) ≤ 3966 by omega)]
          exact key 3968 (by omega) (by omega) (by omega) (by unfold bucket; rw [if_neg (by omega), if_neg h1, if_neg h2, if_neg h3, if_pos h4])
        · have hb : bucket l.length = (0, false) := by unfold bucket; rw [if_neg (by omega), if_neg h1, if_neg h2, if_neg h3, if_neg h4]
          rw [hb]
          exact ⟨[], by simp [h4]⟩

theorem pick_is (n : Int) : portholehand_Pick.f n 5000 = some (n % 5000) := by
  unfold portholehand_Pick.f
  rw [if_neg (by decide)]
  have ht : Int.tmod n 5000 = if 0 ≤ n then n % 5000 else - ((-n) % 5000) := by
    split
    · rename_i h; exact Int.tmod_eq_emod_of_nonneg h
    · rename_i h
      have := Int.neg_tmod (-n) 5000
      rw [Int.neg_neg] at this
      rw [this, Int.tmod_eq_emod_of_nonneg (by omega)]
  rw [ht]
  unfold wrap64
  by_cases h : 0 ≤ n
  · simp only [if_pos h]; rw [if_neg (by omega)]
  · simp only [if_neg h]; split
    · congr 1; omega
    · congr 1; omega

theorem round (k : Nat) (n x4 x6 i z : Int) (x5 : Bool) (hi : 0 ≤ i) (h3 : i ≤ 3) (hz : rd [64, 256, 1024, 3968] i = z) (h1 : 64 ≤ z) (h2 : z ≤ 3968) :
    portholelaw15_PadLeast.l0 (k + 1) n [64, 256, 1024, 3968] x4 x5 x6 i = portholelaw15_PadLeast.l0 k n [64, 256, 1024, 3968] x4 x5 (if 0 ≤ n ∧ n ≤ z - 2 then z else x6) (i - 1) := by
  have e1 : wrap64 (z - 2) = z - 2 := by unfold wrap64; omega
  have e2 : wrap64 (i - 1) = i - 1 := by unfold wrap64; omega
  simp only [portholelaw15_PadLeast.l0]
  rw [if_pos (by omega), hz, e1, e2]
  by_cases h0 : n ≥ 0
  · rw [if_pos h0, if_pos hi, if_pos (by simp; omega)]
    by_cases hc : n ≤ z - 2
    · rw [if_pos (by omega), if_pos ⟨h0, hc⟩]
    · rw [if_neg (by omega), if_neg (by omega)]
  · rw [if_neg h0, if_neg (by omega)]

end PadLeastP
open PadLeastP

theorem PadLeast : portholelaw15_PadLeast.Pure := by
  intro n _
  refine ⟨20, ?_⟩
  unfold portholelaw15_PadLeast.f
  rw [bucket_is 15 n, known_is 15]
  simp only [pad_Sizes.f, Option.bind_some]
  rw [if_pos trivial]
  have hm2 : (n % 5000).toNat ≤ 281474976710656 := by omega
  obtain ⟨r, hr⟩ := pad_is 9 (List.replicate (n % 5000).toNat 0) (by simp; omega)
  have hl : ((List.replicate (n % 5000).toNat (0 : Int)).length : Int) = n % 5000 := by simp; omega
  rw [hl] at hr
  simp only [portholelaw15_PadLeast.j0]
  rw [if_neg (by decide)]
  rw [round 18 n _ _ 3 3968 _ (by omega) (by omega) rfl (by omega) (by omega)]
  rw [round 17 n _ _ (3 - 1) 1024 _ (by omega) (by omega) rfl (by omega) (by omega)]
  rw [round 16 n _ _ (3 - 1 - 1) 256 _ (by omega) (by omega) rfl (by omega) (by omega)]
  rw [round 15 n _ _ (3 - 1 - 1 - 1) 64 _ (by omega) (by omega) rfl (by omega) (by omega)]
  simp only [portholelaw15_PadLeast.l0]
  rw [if_neg (by omega), pick_is]
  simp only [Option.bind_some]
  rw [if_pos (by omega), if_pos hm2, hr]
  simp only [Option.bind_some]
  have hw : (if 0 ≤ n ∧ n ≤ 64 - 2 then (64 : Int) else if 0 ≤ n ∧ n ≤ 256 - 2 then 256 else if 0 ≤ n ∧ n ≤ 1024 - 2 then 1024 else if 0 ≤ n ∧ n ≤ 3968 - 2 then 3968 else 0) = (bucket n).1 := by
    unfold bucket
    repeat' split
    all_goals first | rfl | omega
  have hw2 : (bucket n).2 = decide ((bucket n).1 > 0) := by
    unfold bucket
    repeat' split
    all_goals rfl
  rw [hw, if_pos (by rw [hw2]; simp), if_pos rfl, if_pos (by decide)]
  have e3 : wrap64 (rd [64, 256, 1024, 3968] 3 - 2) = 3966 := by decide +kernel
  rw [e3]
  split <;> simp_all

end Go.Proofs.Ytaaejidllnkpbaa.Pure
