-- Written by a program of this repo's session (wip/turn_print.py: the kit's print.py with a few rows turned).
import Derived.Test.YtaaejidllnkpbaaQOctetXorsx0
import Derived.Test.YtaaejidllnkpbaaQOctetXorsx1
import Derived.Test.YtaaejidllnkpbaaQOctetXorsx2
namespace Go.Proofs.Ytaaejidllnkpbaa.QOctetXors
open Go.RowKit Go.Proofs.YtaaejidllnkpbaaW.PrintWords Go.Proofs.YtaaejidllnkpbaaW.PrintLast Go.Proofs.YtaaejidllnkpbaaW.PrintMore
attribute [local go_sem] max2_int min2_int max_two min_two max_three min_three max_four min_four   -- for this text's walks alone
set_option linter.unusedVariables false
set_option linter.unusedSimpArgs false

/-! ### portholelaw1_OctetXors: function 6 -/
mutual
def portholelaw1_OctetXors.j0 : Nat → List Int → List Int → Option (Bool)
  | 0, _, _ => none
  | k + 1, x0, x1 => (portholehand_Few.f x0 (x0.length : Int)).bind fun t164 => ((octet_Xor.f k x0 x1).bind fun t167 => ((octet_Xor.f k t167 x1).bind fun t170 => ((octet_Join.f k (([x0, x1] : List (List Int)))).bind fun t176 => ((octet_Clone.f x0).bind fun t179 => ((portholelaw1_known.f k).bind fun t182 => (if t182 = true then ((portholeref1_Xor.f k x0 x1).bind fun t183 => (if (strOfNums t167).toList = (strOfNums t183).toList then (if 0 ≤ (mn (x0.length : Int) (x1.length : Int)) then (if (mn (x0.length : Int) (x1.length : Int)) ≤ (x0.length : Int) then (if (strOfNums t170).toList = (strOfNums (x0.take ((mn (x0.length : Int) (x1.length : Int)) : Int).toNat)).toList then ((octet_Same.f k x0 x1).bind fun t191 => (if (t191 != ((strOfNums x0).toList == (strOfNums x1).toList)) = true then (portholelaw1_OctetXors.j1 k x0 t164 t167 t176 t179 true) else (if (strOfNums x0).size + (strOfNums x1).size ≤ 9223372036854775807 then (if (strOfNums t176).toList = ((strOfNums x0) ++ (strOfNums x1)).toList then (portholelaw1_OctetXors.j1 k x0 t164 t167 t176 t179 ((strOfNums t179).toList != (strOfNums x0).toList)) else (portholelaw1_OctetXors.j1 k x0 t164 t167 t176 t179 true)) else (none)))) else (portholelaw1_OctetXors.j1 k x0 t164 t167 t176 t179 true)) else (none)) else (none)) else (portholelaw1_OctetXors.j1 k x0 t164 t167 t176 t179 true))) else (portholelaw1_OctetXors.j1 k x0 t164 t167 t176 t179 true)))))))
def portholelaw1_OctetXors.j1 : Nat → List Int → List Int → List Int → List Int → List Int → Bool → Option (Bool)
  | 0, _, _, _, _, _, _ => none
  | k + 1, x0, x7, x8, x11, x12, x88 => if x88 = true then (some false) else (portholelaw1_OctetXors.l0 k x0 x7 x8 x11 x12 0)
def portholelaw1_OctetXors.l0 : Nat → List Int → List Int → List Int → List Int → List Int → Int → Option (Bool)
  | 0, _, _, _, _, _, _ => none
  | k + 1, x0, x7, x8, x11, x12, x13 => if x13 < (x12.length : Int) then (if 0 ≤ x13 then (if x13 < (x11.length : Int) then (portholelaw1_OctetXors.l0 k x0 x7 x8 (x11.set (x13 : Int).toNat (Go.bits .xor .u8 (rd x11 x13) 1)) (x12.set (x13 : Int).toNat (Go.bits .xor .u8 (rd x12 x13) 1)) (wrap64 (x13 + 1))) else (none)) else (none)) else (portholelaw1_OctetXors.l1 k x0 x7 x8 0)
def portholelaw1_OctetXors.l1 : Nat → List Int → List Int → List Int → Int → Option (Bool)
  | 0, _, _, _, _ => none
  | k + 1, x0, x7, x8, x14 => if x14 < (x8.length : Int) then (if 0 ≤ x14 then (portholelaw1_OctetXors.l1 k x0 x7 (x8.set (x14 : Int).toNat (Go.bits .xor .u8 (rd x8 x14) 1)) (wrap64 (x14 + 1))) else (none)) else (some ((strOfNums x0).toList == (strOfNums x7).toList))
end
def portholelaw1_OctetXors.f (k : Nat) (l0 : List Int) (l1 : List Int) (a2 : Bool) : Option (Bool) := if a2 = true then ((portholehand_Few.f l0 (l0.length : Int)).bind fun t161 => (portholelaw1_OctetXors.j0 k l0 t161)) else (portholelaw1_OctetXors.j0 k l0 l1)
theorem portholelaw1_OctetXors.mono_l : ∀ k, (∀ y0 y1, LeO (portholelaw1_OctetXors.j0 k y0 y1) (portholelaw1_OctetXors.j0 (k + 1) y0 y1)) ∧ (∀ y0 y1 y2 y3 y4 y5, LeO (portholelaw1_OctetXors.j1 k y0 y1 y2 y3 y4 y5) (portholelaw1_OctetXors.j1 (k + 1) y0 y1 y2 y3 y4 y5)) ∧ (∀ y0 y1 y2 y3 y4 y5, LeO (portholelaw1_OctetXors.l0 k y0 y1 y2 y3 y4 y5) (portholelaw1_OctetXors.l0 (k + 1) y0 y1 y2 y3 y4 y5)) ∧ (∀ y0 y1 y2 y3, LeO (portholelaw1_OctetXors.l1 k y0 y1 y2 y3) (portholelaw1_OctetXors.l1 (k + 1) y0 y1 y2 y3))
  | 0 => ⟨fun _ _ r h => by simp [portholelaw1_OctetXors.j0] at h, fun _ _ _ _ _ _ r h => by simp [portholelaw1_OctetXors.j1] at h, fun _ _ _ _ _ _ r h => by simp [portholelaw1_OctetXors.l0] at h, fun _ _ _ _ r h => by simp [portholelaw1_OctetXors.l1] at h⟩
  | k + 1 => by
    obtain ⟨ih0, ih1, ih2, ih3⟩ := portholelaw1_OctetXors.mono_l k
    refine ⟨?_, ?_, ?_, ?_⟩
    · intro y0 y1
      unfold portholelaw1_OctetXors.j0
      repeat' first
      | (with_reducible exact ih0 _ _)
      | (with_reducible exact ih1 _ _ _ _ _ _)
      | (with_reducible exact ih2 _ _ _ _ _ _)
      | (with_reducible exact ih3 _ _ _ _)
      | (with_reducible exact octet_Join.mono _ _)
      | (with_reducible exact octet_Same.mono _ _ _)
      | (with_reducible exact octet_Xor.mono _ _ _)
      | (with_reducible exact portholelaw1_known.mono _)
      | (with_reducible exact portholeref1_Xor.mono _ _ _)
      | (with_reducible exact LeO.refl _)
      | (with_reducible exact LeO.none _)
      | (with_reducible refine LeO.ite ?_ ?_)
      | (with_reducible refine LeO.bind ?_ (fun _ => ?_))
      | exact ih0 _ _
      | exact ih1 _ _ _ _ _ _
      | exact ih2 _ _ _ _ _ _
      | exact ih3 _ _ _ _
      | exact octet_Join.mono _ _
      | exact octet_Same.mono _ _ _
      | exact octet_Xor.mono _ _ _
      | exact portholelaw1_known.mono _
      | exact portholeref1_Xor.mono _ _ _
      | exact LeO.none _
      | refine LeO.ite ?_ ?_
      | refine LeO.bind ?_ (fun _ => ?_)
    · intro y0 y1 y2 y3 y4 y5
      unfold portholelaw1_OctetXors.j1
      repeat' first
      | (with_reducible exact ih0 _ _)
      | (with_reducible exact ih1 _ _ _ _ _ _)
      | (with_reducible exact ih2 _ _ _ _ _ _)
      | (with_reducible exact ih3 _ _ _ _)
      | (with_reducible exact octet_Join.mono _ _)
      | (with_reducible exact octet_Same.mono _ _ _)
      | (with_reducible exact octet_Xor.mono _ _ _)
      | (with_reducible exact portholelaw1_known.mono _)
      | (with_reducible exact portholeref1_Xor.mono _ _ _)
      | (with_reducible exact LeO.refl _)
      | (with_reducible exact LeO.none _)
      | (with_reducible refine LeO.ite ?_ ?_)
      | (with_reducible refine LeO.bind ?_ (fun _ => ?_))
      | exact ih0 _ _
      | exact ih1 _ _ _ _ _ _
      | exact ih2 _ _ _ _ _ _
      | exact ih3 _ _ _ _
      | exact octet_Join.mono _ _
      | exact octet_Same.mono _ _ _
      | exact octet_Xor.mono _ _ _
      | exact portholelaw1_known.mono _
      | exact portholeref1_Xor.mono _ _ _
      | exact LeO.none _
      | refine LeO.ite ?_ ?_
      | refine LeO.bind ?_ (fun _ => ?_)
    · intro y0 y1 y2 y3 y4 y5
      unfold portholelaw1_OctetXors.l0
      repeat' first
      | (with_reducible exact ih0 _ _)
      | (with_reducible exact ih1 _ _ _ _ _ _)
      | (with_reducible exact ih2 _ _ _ _ _ _)
      | (with_reducible exact ih3 _ _ _ _)
      | (with_reducible exact octet_Join.mono _ _)
      | (with_reducible exact octet_Same.mono _ _ _)
      | (with_reducible exact octet_Xor.mono _ _ _)
      | (with_reducible exact portholelaw1_known.mono _)
      | (with_reducible exact portholeref1_Xor.mono _ _ _)
      | (with_reducible exact LeO.refl _)
      | (with_reducible exact LeO.none _)
      | (with_reducible refine LeO.ite ?_ ?_)
      | (with_reducible refine LeO.bind ?_ (fun _ => ?_))
      | exact ih0 _ _
      | exact ih1 _ _ _ _ _ _
      | exact ih2 _ _ _ _ _ _
      | exact ih3 _ _ _ _
      | exact octet_Join.mono _ _
      | exact octet_Same.mono _ _ _
      | exact octet_Xor.mono _ _ _
      | exact portholelaw1_known.mono _
      | exact portholeref1_Xor.mono _ _ _
      | exact LeO.none _
      | refine LeO.ite ?_ ?_
      | refine LeO.bind ?_ (fun _ => ?_)
    · intro y0 y1 y2 y3
      unfold portholelaw1_OctetXors.l1
      repeat' first
      | (with_reducible exact ih0 _ _)
      | (with_reducible exact ih1 _ _ _ _ _ _)
      | (with_reducible exact ih2 _ _ _ _ _ _)
      | (with_reducible exact ih3 _ _ _ _)
      | (with_reducible exact octet_Join.mono _ _)
      | (with_reducible exact octet_Same.mono _ _ _)
      | (with_reducible exact octet_Xor.mono _ _ _)
      | (with_reducible exact portholelaw1_known.mono _)
      | (with_reducible exact portholeref1_Xor.mono _ _ _)
      | (with_reducible exact LeO.refl _)
      | (with_reducible exact LeO.none _)
      | (with_reducible refine LeO.ite ?_ ?_)
      | (with_reducible refine LeO.bind ?_ (fun _ => ?_))
      | exact ih0 _ _
      | exact ih1 _ _ _ _ _ _
      | exact ih2 _ _ _ _ _ _
      | exact ih3 _ _ _ _
      | exact octet_Join.mono _ _
      | exact octet_Same.mono _ _ _
      | exact octet_Xor.mono _ _ _
      | exact portholelaw1_known.mono _
      | exact portholeref1_Xor.mono _ _ _
      | exact LeO.none _
      | refine LeO.ite ?_ ?_
      | refine LeO.bind ?_ (fun _ => ?_)
theorem portholelaw1_OctetXors.mono : ∀ a0 a1 a2 k, LeO (portholelaw1_OctetXors.f k a0 a1 a2) (portholelaw1_OctetXors.f (k + 1) a0 a1 a2) := by
  intro a0 a1 a2 k
  obtain ⟨ih0, ih1, ih2, ih3⟩ := portholelaw1_OctetXors.mono_l k
  unfold portholelaw1_OctetXors.f
  repeat' first
      | (with_reducible exact ih0 _ _)
      | (with_reducible exact ih1 _ _ _ _ _ _)
      | (with_reducible exact ih2 _ _ _ _ _ _)
      | (with_reducible exact ih3 _ _ _ _)
      | (with_reducible exact octet_Join.mono _ _)
      | (with_reducible exact octet_Same.mono _ _ _)
      | (with_reducible exact octet_Xor.mono _ _ _)
      | (with_reducible exact portholelaw1_known.mono _)
      | (with_reducible exact portholeref1_Xor.mono _ _ _)
      | (with_reducible exact LeO.refl _)
      | (with_reducible exact LeO.none _)
      | (with_reducible refine LeO.ite ?_ ?_)
      | (with_reducible refine LeO.bind ?_ (fun _ => ?_))
      | exact ih0 _ _
      | exact ih1 _ _ _ _ _ _
      | exact ih2 _ _ _ _ _ _
      | exact ih3 _ _ _ _
      | exact octet_Join.mono _ _
      | exact octet_Same.mono _ _ _
      | exact octet_Xor.mono _ _ _
      | exact portholelaw1_known.mono _
      | exact portholeref1_Xor.mono _ _ _
      | exact LeO.none _
      | refine LeO.ite ?_ ?_
      | refine LeO.bind ?_ (fun _ => ?_)
def portholelaw1_OctetXors.T9 : Bool × List (List Nat × List Nat) := (true, [([], []), ([0], [0]), ([1, 0], [1]), ([2], [2]), ([3, 2], [2, 3]), ([2], [2]), ([2], [2]), ([5, 6, 2, 2], [2, 5, 6]), ([7, 2], [2, 7]), ([4, 8, 2], [2, 4, 8]), ([2, 9], [2, 9]), ([10, 7], [10]), ([11], [11]), ([12, 11], [11, 12]), ([11], [11]), ([11], [11]), ([14, 15, 11], [11, 14, 15]), ([16, 11], [11, 16]), ([13, 17, 11], [11, 13, 17]), ([11, 18], [11, 18]), ([19, 11], [19]), ([20], [20]), ([20], [20]), ([21, 22, 20, 20], [20, 21, 22]), ([20], [20]), ([24, 20], [20, 24]), ([20], [20]), ([26, 20], [20, 26]), ([25, 27, 20], [20, 25, 27]), ([23, 28, 20], [20, 23, 28]), ([20, 29], [20, 29]), ([30, 23], [30]), ([31], [31]), ([32, 31], [31, 32]), ([31], [31]), ([34, 31], [31, 34]), ([31], [31]), ([36, 31], [31, 36]), ([35, 37, 31], [31, 35, 37]), ([33, 38, 31], [31, 33, 38]), ([31, 39], [31, 39]), ([40, 31], [40]), ([41], [41]), ([42, 41], [41, 42]), ([41], [41]), ([44, 41], [41, 44]), ([43, 45, 41], [41, 43, 45]), ([41, 46], [41, 46])])
def portholelaw1_OctetXors.B9 : List Nat := [0, 1, 3, 7, 15, 7, 7, 103, 231, 511, 1023, 2047, 4095, 8191, 4095, 4095, 53247, 118783, 262143, 524287, 1048575, 2097151, 2097151, 8388607, 2097151, 18874367, 2097151, 69206015, 253755391, 536870911, 1073741823, 2147483647, 4294967295, 8589934591, 4294967295, 21474836479, 4294967295, 73014444031, 261993005055, 549755813887, 1099511627775, 2199023255551, 4398046511103, 8796093022207, 4398046511103, 21990232555519, 70368744177663, 140737488355327]
theorem portholelaw1_OctetXors.tab9 : rtab .any (opsOf Try.f6 9) = portholelaw1_OctetXors.T9 := by kernel_rfl
theorem portholelaw1_OctetXors.bits9 : waitsOk portholelaw1_OctetXors.T9.2 portholelaw1_OctetXors.B9 = true := by kernel_rfl
set_option maxHeartbeats 16000000 in
set_option maxRecDepth 100000 in
theorem portholelaw1_OctetXors.calls (k : Nat) (P0_ : Nat → Prop) (A0 : Option Addr) (c0 : Nat) (l0 : List Int) (P1_ : Nat → Prop) (A1 : Option Addr) (c1 : Nat) (l1 : List Int) (a2 : Bool) (r : Bool) (w : World) (hs0 : Kd.V (Kd.int .u8) 5 w w.heap.size (fun k_ => P0_ k_) (.slice A0 l0.length c0) l0) (hs1 : Kd.V (Kd.int .u8) 5 w w.heap.size (fun k_ => P1_ k_) (.slice A1 l1.length c1) l1) (hlaw : Aside0 (r = true)) (h : portholelaw1_OctetXors.f k l0 l1 a2 = some r) :
    Calls Try.prog 6 #[.slice A0 l0.length c0, .slice A1 l1.length c1, .bool a2] w fun e w' => e = .returned (.bool r) ∧ Below w.heap.size w w' := by
  have HO0 := Aside0.mk (show Kd.V (Kd.int .u8) 5 w w.heap.size (fun k_ => ((P0_ k_ ∨ P1_ k_) ∨ w.heap.size ≤ k_)) (.slice A0 l0.length c0) l0 from Kd.V_mono hs0 (fun k_ hk => .inl (.inl hk)))
  have HO1 := Aside0.mk (show Kd.V (Kd.int .u8) 5 w w.heap.size (fun k_ => ((P0_ k_ ∨ P1_ k_) ∨ w.heap.size ≤ k_)) (.slice A1 l1.length c1) l1 from Kd.V_mono hs1 (fun k_ hk => .inl (.inr hk)))
  have HB := Aside0.mk (Below.refl w.heap.size w)
  have H : (if a2 = true then ((portholehand_Few.f l0 (l0.length : Int)).bind fun t161 => (portholelaw1_OctetXors.j0 k l0 t161)) else (portholelaw1_OctetXors.j0 k l0 l1)) = some r := h
  clear h
  have HC4 := Aside0.mk H
  clear H
  go_enter Try.func6, Try.ntmps6
  go_upto_if 15 with (fail)
  go_cut [1] (fun v1 wc => ∃ (kq : Nat) (x1_3 : List Int), Aside0 (portholelaw1_OctetXors.j0 kq l0 x1_3 = some r) ∧ Aside0 (kq ≤ k) ∧ Aside0 (Kd.V (Kd.int .u8) 5 wc w.heap.size (fun k_ => ((P0_ k_ ∨ P1_ k_) ∨ w.heap.size ≤ k_)) (.slice A0 l0.length c0) l0) ∧ Aside0 (Kd.V (Kd.int .u8) 5 wc w.heap.size (fun k_ => ((P0_ k_ ∨ P1_ k_) ∨ w.heap.size ≤ k_)) v1 x1_3) ∧ Aside0 (Below w.heap.size w wc))
  case first =>
    have H := HC4.out
    clear HC4
    by_cases c5 : a2 = true
    · subst c5
      have H1 : ((portholehand_Few.f l0 (l0.length : Int)).bind fun t161 => (portholelaw1_OctetXors.j0 k l0 t161)) = some r := by rw [if_pos rfl] at H; exact H
      clear H
      have H := H1
      clear H1
      replace H := Option.bind_eq_some_iff.mp H
      obtain ⟨t161, A60, H⟩ := H
      replace H : (portholelaw1_OctetXors.j0 k l0 t161) = some r := H
      have A6 := Aside0.mk A60
      clear A60
      have H' := Aside0.mk H
      clear H
      go_wp2_with (first | ((with_reducible refine gate_callee (f := 25) rfl ?_); refine goesL_ (some 19) rfl rfl Try.func25 (by kernel_rfl) rfl #[.slice A0 l0.length c0, .int .i64 (l0.length : Int)] rfl (by (try simp only [List.map_toArray, List.map_cons, List.map_nil]); first | done | rfl | (simp only [List.length_drop, List.length_take]; rfl) | (go_simp; done)) ?_; (with_reducible refine (portholehand_Few.calls _ _ l0 (l0.length : Int) t161 _ ?side1 ?side2 A6.out).mono ?_); (case side1 => repeat (first | exact (Kd.V_reads' HO0.out).2.2 | (with_reducible refine Kd.C_alloc ?_ _) | (with_reducible refine Kd.C_drewN ?_ _) | (with_reducible refine Kd.C_drew ?_))); (case side2 => exact (Kd.V_reads' HO0.out).2.1); rintro e w7 ⟨v162, rfl, ho0, hb⟩; refine ⟨_, rfl, ?_⟩; have n0_ := Aside0.mk (Kd.V_elder' (by (with_reducible repeat (first | apply Kd.V_alloc | apply Kd.V_drewN | apply Kd.V_drew)); exact HO0.out) (Kd.R_base ho0) hb); have n1_ := Aside0.mk (Kd.V_elder' (by (with_reducible repeat (first | apply Kd.V_alloc | apply Kd.V_drewN | apply Kd.V_drew)); exact HO1.out) (Kd.R_base ho0) hb); have n2_ := Aside0.mk (Kd.R_lower (Kd.R_newM (M := fun k_ => (w.heap.size ≤ k_)) ho0 (below_size (by repeat (first | (with_reducible first | exact HB.out | apply below_alloc | apply pw_below_drewN | apply below_drew1) | exact HB.out))) (fun k_ h_ => h_)) (below_size (by repeat (first | (with_reducible first | exact HB.out | apply below_alloc | apply pw_below_drewN | apply below_drew1) | exact HB.out)))); have n3_ := Aside0.mk (below_step (by repeat (first | (with_reducible first | exact HB.out | apply below_alloc | apply pw_below_drewN | apply below_drew1) | exact HB.out)) hb); clear HO0; clear HO1; clear HB; have HO0 := n0_; have HO1 := n1_; have HO163 := n2_; have HB := n3_; clear n0_ n1_ n2_ n3_; (try clear hb); (try clear hb2); (try clear hk); (try clear hi); (try clear ho0)))
      go_meet
      case rel => exact ⟨_, (t161), H', ⟨by first | omega | exact Nat.le_refl _⟩, ⟨by (with_reducible repeat (first | apply Kd.V_alloc | apply Kd.V_drewN | apply Kd.V_drew)); exact Kd.V_mono HO0.out (fun _ hk => hk.1)⟩, ⟨Kd.V_mono (Kd.R_V (by (with_reducible repeat (first | apply Kd.R_alloc | apply Kd.R_drewN | apply Kd.R_drew)); exact Kd.R_mono HO163.out (fun _ hk => hk.1))) (fun k_ hk => by first | exact ⟨(.inr (hk.1)), hk.2⟩ | exact (.inr (hk)))⟩, ⟨by repeat (first | (with_reducible first | exact HB.out | apply below_alloc | apply pw_below_drewN | apply below_drew1) | exact HB.out)⟩⟩
    · replace c5 := Bool.eq_false_iff.mpr c5
      subst c5
      have H1 : (portholelaw1_OctetXors.j0 k l0 l1) = some r := by rw [if_neg (show ¬ (false = true) by decide)] at H; exact H
      clear H
      have H := H1
      clear H1
      have H' := Aside0.mk H
      clear H
      go_wp2
      go_meet
      case rel => exact ⟨_, (l1), H', ⟨by first | omega | exact Nat.le_refl _⟩, ⟨by (with_reducible repeat (first | apply Kd.V_alloc | apply Kd.V_drewN | apply Kd.V_drew)); exact HO0.out⟩, ⟨by (with_reducible repeat (first | apply Kd.V_alloc | apply Kd.V_drewN | apply Kd.V_drew)); exact HO1.out⟩, ⟨by repeat (first | (with_reducible first | exact HB.out | apply below_alloc | apply pw_below_drewN | apply below_drew1) | exact HB.out)⟩⟩
  case rest =>
    clear HC4
    try clear c1
    try clear c2
    try clear p2
    try clear c5
    try clear c6
    obtain ⟨kq, x1_3, HA, HJ3, HO_0, HO_1, HB⟩ := hcut
    cases kq with
    | zero => exact absurd HA.out (by simp [portholelaw1_OctetXors.j0])
    | succ kj3 =>
      have H := HA.out
      clear HA
      simp only [portholelaw1_OctetXors.j0] at H
      replace H := Option.bind_eq_some_iff.mp H
      obtain ⟨t164, A80, H⟩ := H
      replace H : ((octet_Xor.f kj3 l0 x1_3).bind fun t167 => ((octet_Xor.f kj3 t167 x1_3).bind fun t170 => ((octet_Join.f kj3 (([l0, x1_3] : List (List Int)))).bind fun t176 => ((octet_Clone.f l0).bind fun t179 => ((portholelaw1_known.f kj3).bind fun t182 => (if t182 = true then ((portholeref1_Xor.f kj3 l0 x1_3).bind fun t183 => (if (strOfNums t167).toList = (strOfNums t183).toList then (if 0 ≤ (mn (l0.length : Int) (x1_3.length : Int)) then (if (mn (l0.length : Int) (x1_3.length : Int)) ≤ (l0.length : Int) then (if (strOfNums t170).toList = (strOfNums (l0.take ((mn (l0.length : Int) (x1_3.length : Int)) : Int).toNat)).toList then ((octet_Same.f kj3 l0 x1_3).bind fun t191 => (if (t191 != ((strOfNums l0).toList == (strOfNums x1_3).toList)) = true then (portholelaw1_OctetXors.j1 kj3 l0 t164 t167 t176 t179 true) else (if (strOfNums l0).size + (strOfNums x1_3).size ≤ 9223372036854775807 then (if (strOfNums t176).toList = ((strOfNums l0) ++ (strOfNums x1_3)).toList then (portholelaw1_OctetXors.j1 kj3 l0 t164 t167 t176 t179 ((strOfNums t179).toList != (strOfNums l0).toList)) else (portholelaw1_OctetXors.j1 kj3 l0 t164 t167 t176 t179 true)) else (none)))) else (portholelaw1_OctetXors.j1 kj3 l0 t164 t167 t176 t179 true)) else (none)) else (none)) else (portholelaw1_OctetXors.j1 kj3 l0 t164 t167 t176 t179 true))) else (portholelaw1_OctetXors.j1 kj3 l0 t164 t167 t176 t179 true))))))) = some r := H
      have A8 := Aside0.mk A80
      clear A80
      replace H := Option.bind_eq_some_iff.mp H
      obtain ⟨t167, A90, H⟩ := H
      replace H : ((octet_Xor.f kj3 t167 x1_3).bind fun t170 => ((octet_Join.f kj3 (([l0, x1_3] : List (List Int)))).bind fun t176 => ((octet_Clone.f l0).bind fun t179 => ((portholelaw1_known.f kj3).bind fun t182 => (if t182 = true then ((portholeref1_Xor.f kj3 l0 x1_3).bind fun t183 => (if (strOfNums t167).toList = (strOfNums t183).toList then (if 0 ≤ (mn (l0.length : Int) (x1_3.length : Int)) then (if (mn (l0.length : Int) (x1_3.length : Int)) ≤ (l0.length : Int) then (if (strOfNums t170).toList = (strOfNums (l0.take ((mn (l0.length : Int) (x1_3.length : Int)) : Int).toNat)).toList then ((octet_Same.f kj3 l0 x1_3).bind fun t191 => (if (t191 != ((strOfNums l0).toList == (strOfNums x1_3).toList)) = true then (portholelaw1_OctetXors.j1 kj3 l0 t164 t167 t176 t179 true) else (if (strOfNums l0).size + (strOfNums x1_3).size ≤ 9223372036854775807 then (if (strOfNums t176).toList = ((strOfNums l0) ++ (strOfNums x1_3)).toList then (portholelaw1_OctetXors.j1 kj3 l0 t164 t167 t176 t179 ((strOfNums t179).toList != (strOfNums l0).toList)) else (portholelaw1_OctetXors.j1 kj3 l0 t164 t167 t176 t179 true)) else (none)))) else (portholelaw1_OctetXors.j1 kj3 l0 t164 t167 t176 t179 true)) else (none)) else (none)) else (portholelaw1_OctetXors.j1 kj3 l0 t164 t167 t176 t179 true))) else (portholelaw1_OctetXors.j1 kj3 l0 t164 t167 t176 t179 true)))))) = some r := H
      have A9 := Aside0.mk A90
      clear A90
      replace H := Option.bind_eq_some_iff.mp H
      obtain ⟨t170, A100, H⟩ := H
      replace H : ((octet_Join.f kj3 (([l0, x1_3] : List (List Int)))).bind fun t176 => ((octet_Clone.f l0).bind fun t179 => ((portholelaw1_known.f kj3).bind fun t182 => (if t182 = true then ((portholeref1_Xor.f kj3 l0 x1_3).bind fun t183 => (if (strOfNums t167).toList = (strOfNums t183).toList then (if 0 ≤ (mn (l0.length : Int) (x1_3.length : Int)) then (if (mn (l0.length : Int) (x1_3.length : Int)) ≤ (l0.length : Int) then (if (strOfNums t170).toList = (strOfNums (l0.take ((mn (l0.length : Int) (x1_3.length : Int)) : Int).toNat)).toList then ((octet_Same.f kj3 l0 x1_3).bind fun t191 => (if (t191 != ((strOfNums l0).toList == (strOfNums x1_3).toList)) = true then (portholelaw1_OctetXors.j1 kj3 l0 t164 t167 t176 t179 true) else (if (strOfNums l0).size + (strOfNums x1_3).size ≤ 9223372036854775807 then (if (strOfNums t176).toList = ((strOfNums l0) ++ (strOfNums x1_3)).toList then (portholelaw1_OctetXors.j1 kj3 l0 t164 t167 t176 t179 ((strOfNums t179).toList != (strOfNums l0).toList)) else (portholelaw1_OctetXors.j1 kj3 l0 t164 t167 t176 t179 true)) else (none)))) else (portholelaw1_OctetXors.j1 kj3 l0 t164 t167 t176 t179 true)) else (none)) else (none)) else (portholelaw1_OctetXors.j1 kj3 l0 t164 t167 t176 t179 true))) else (portholelaw1_OctetXors.j1 kj3 l0 t164 t167 t176 t179 true))))) = some r := H
      have A10 := Aside0.mk A100
      clear A100
      obtain ⟨ji11, hji11⟩ : ∃ j_ : Int, (mn (l0.length : Int) (x1_3.length : Int)) = j_ := ⟨_, rfl⟩
      replace H : ((octet_Join.f kj3 (([l0, x1_3] : List (List Int)))).bind fun t176 => ((octet_Clone.f l0).bind fun t179 => ((portholelaw1_known.f kj3).bind fun t182 => (if t182 = true then ((portholeref1_Xor.f kj3 l0 x1_3).bind fun t183 => (if (strOfNums t167).toList = (strOfNums t183).toList then (if 0 ≤ (ji11) then (if (ji11) ≤ (l0.length : Int) then (if (strOfNums t170).toList = (strOfNums (l0.take ((ji11) : Int).toNat)).toList then ((octet_Same.f kj3 l0 x1_3).bind fun t191 => (if (t191 != ((strOfNums l0).toList == (strOfNums x1_3).toList)) = true then (portholelaw1_OctetXors.j1 kj3 l0 t164 t167 t176 t179 true) else (if (strOfNums l0).size + (strOfNums x1_3).size ≤ 9223372036854775807 then (if (strOfNums t176).toList = ((strOfNums l0) ++ (strOfNums x1_3)).toList then (portholelaw1_OctetXors.j1 kj3 l0 t164 t167 t176 t179 ((strOfNums t179).toList != (strOfNums l0).toList)) else (portholelaw1_OctetXors.j1 kj3 l0 t164 t167 t176 t179 true)) else (none)))) else (portholelaw1_OctetXors.j1 kj3 l0 t164 t167 t176 t179 true)) else (none)) else (none)) else (portholelaw1_OctetXors.j1 kj3 l0 t164 t167 t176 t179 true))) else (portholelaw1_OctetXors.j1 kj3 l0 t164 t167 t176 t179 true))))) = some r := by first | (rw [hji11] at H; exact H) | (simp only [hji11] at H ⊢; exact H)
      (try rw [hji11] at A8)
      (try rw [hji11] at A9)
      (try rw [hji11] at A10)
      have hji11_ : (if (x1_3.length : Int) < (l0.length : Int) then (x1_3.length : Int) else (l0.length : Int)) = ji11 := hji11
      (try (have hji11N : (if x1_3.length < l0.length then (x1_3.length : Int) else (l0.length : Int)) = ji11 := by (rw [← hji11]; unfold mn; (repeat' split) <;> omega)))
      obtain ⟨y173, hy173⟩ : ∃ y_ : List (List Int), y_ = (([l0, x1_3] : List (List Int))) := ⟨_, rfl⟩
      replace H : ((octet_Join.f kj3 y173).bind fun t176 => ((octet_Clone.f l0).bind fun t179 => ((portholelaw1_known.f kj3).bind fun t182 => (if t182 = true then ((portholeref1_Xor.f kj3 l0 x1_3).bind fun t183 => (if (strOfNums t167).toList = (strOfNums t183).toList then (if 0 ≤ (ji11) then (if (ji11) ≤ (l0.length : Int) then (if (strOfNums t170).toList = (strOfNums (l0.take ((ji11) : Int).toNat)).toList then ((octet_Same.f kj3 l0 x1_3).bind fun t191 => (if (t191 != ((strOfNums l0).toList == (strOfNums x1_3).toList)) = true then (portholelaw1_OctetXors.j1 kj3 l0 t164 t167 t176 t179 true) else (if (strOfNums l0).size + (strOfNums x1_3).size ≤ 9223372036854775807 then (if (strOfNums t176).toList = ((strOfNums l0) ++ (strOfNums x1_3)).toList then (portholelaw1_OctetXors.j1 kj3 l0 t164 t167 t176 t179 ((strOfNums t179).toList != (strOfNums l0).toList)) else (portholelaw1_OctetXors.j1 kj3 l0 t164 t167 t176 t179 true)) else (none)))) else (portholelaw1_OctetXors.j1 kj3 l0 t164 t167 t176 t179 true)) else (none)) else (none)) else (portholelaw1_OctetXors.j1 kj3 l0 t164 t167 t176 t179 true))) else (portholelaw1_OctetXors.j1 kj3 l0 t164 t167 t176 t179 true))))) = some r := by first | (rw [hy173]; with_reducible exact H) | (have H2_ := (Option.bind_some _ _).symm.trans H; rw [hy173]; with_reducible exact H2_) | (have H2_ := (Option.bind_some _ _).symm.trans H; with_reducible exact H2_) | with_reducible exact H | (rw [hy173]; exact H) | exact H
      have Ny173 := Aside0.mk hy173
      clear hy173
      replace H := Option.bind_eq_some_iff.mp H
      obtain ⟨t176, A120, H⟩ := H
      replace H : ((octet_Clone.f l0).bind fun t179 => ((portholelaw1_known.f kj3).bind fun t182 => (if t182 = true then ((portholeref1_Xor.f kj3 l0 x1_3).bind fun t183 => (if (strOfNums t167).toList = (strOfNums t183).toList then (if 0 ≤ (ji11) then (if (ji11) ≤ (l0.length : Int) then (if (strOfNums t170).toList = (strOfNums (l0.take ((ji11) : Int).toNat)).toList then ((octet_Same.f kj3 l0 x1_3).bind fun t191 => (if (t191 != ((strOfNums l0).toList == (strOfNums x1_3).toList)) = true then (portholelaw1_OctetXors.j1 kj3 l0 t164 t167 t176 t179 true) else (if (strOfNums l0).size + (strOfNums x1_3).size ≤ 9223372036854775807 then (if (strOfNums t176).toList = ((strOfNums l0) ++ (strOfNums x1_3)).toList then (portholelaw1_OctetXors.j1 kj3 l0 t164 t167 t176 t179 ((strOfNums t179).toList != (strOfNums l0).toList)) else (portholelaw1_OctetXors.j1 kj3 l0 t164 t167 t176 t179 true)) else (none)))) else (portholelaw1_OctetXors.j1 kj3 l0 t164 t167 t176 t179 true)) else (none)) else (none)) else (portholelaw1_OctetXors.j1 kj3 l0 t164 t167 t176 t179 true))) else (portholelaw1_OctetXors.j1 kj3 l0 t164 t167 t176 t179 true)))) = some r := H
      have A12 := Aside0.mk A120
      clear A120
      replace H := Option.bind_eq_some_iff.mp H
      obtain ⟨t179, A130, H⟩ := H
      replace H : ((portholelaw1_known.f kj3).bind fun t182 => (if t182 = true then ((portholeref1_Xor.f kj3 l0 x1_3).bind fun t183 => (if (strOfNums t167).toList = (strOfNums t183).toList then (if 0 ≤ (ji11) then (if (ji11) ≤ (l0.length : Int) then (if (strOfNums t170).toList = (strOfNums (l0.take ((ji11) : Int).toNat)).toList then ((octet_Same.f kj3 l0 x1_3).bind fun t191 => (if (t191 != ((strOfNums l0).toList == (strOfNums x1_3).toList)) = true then (portholelaw1_OctetXors.j1 kj3 l0 t164 t167 t176 t179 true) else (if (strOfNums l0).size + (strOfNums x1_3).size ≤ 9223372036854775807 then (if (strOfNums t176).toList = ((strOfNums l0) ++ (strOfNums x1_3)).toList then (portholelaw1_OctetXors.j1 kj3 l0 t164 t167 t176 t179 ((strOfNums t179).toList != (strOfNums l0).toList)) else (portholelaw1_OctetXors.j1 kj3 l0 t164 t167 t176 t179 true)) else (none)))) else (portholelaw1_OctetXors.j1 kj3 l0 t164 t167 t176 t179 true)) else (none)) else (none)) else (portholelaw1_OctetXors.j1 kj3 l0 t164 t167 t176 t179 true))) else (portholelaw1_OctetXors.j1 kj3 l0 t164 t167 t176 t179 true))) = some r := H
      have A13 := Aside0.mk A130
      clear A130
      have HC14 := Aside0.mk H
      clear H
      go_upto_region 9 with (first | ((with_reducible refine gate_callee (f := 25) rfl ?_); refine goesL_ (some 23) rfl rfl Try.func25 (by kernel_rfl) rfl #[.slice A0 l0.length c0, .int .i64 (l0.length : Int)] rfl (by (try simp only [List.map_toArray, List.map_cons, List.map_nil]); first | done | rfl | (simp only [List.length_drop, List.length_take]; rfl) | (go_simp; done)) ?_; (with_reducible refine (portholehand_Few.calls _ _ l0 (l0.length : Int) t164 _ ?side1 ?side2 A8.out).mono ?_); (case side1 => repeat (first | exact (Kd.V_reads' HO_0.out).2.2 | (with_reducible refine Kd.C_alloc ?_ _) | (with_reducible refine Kd.C_drewN ?_ _) | (with_reducible refine Kd.C_drew ?_))); (case side2 => exact (Kd.V_reads' HO_0.out).2.1); rintro e w15 ⟨v165, rfl, ho0, hb⟩; refine ⟨_, rfl, ?_⟩; have n0_ := Aside0.mk (Kd.V_elder' (by (with_reducible repeat (first | apply Kd.V_alloc | apply Kd.V_drewN | apply Kd.V_drew)); exact HO_0.out) (Kd.R_base ho0) hb); have n1_ := Aside0.mk (Kd.V_elder' (by (with_reducible repeat (first | apply Kd.V_alloc | apply Kd.V_drewN | apply Kd.V_drew)); exact HO_1.out) (Kd.R_base ho0) hb); have n2_ := Aside0.mk (Kd.R_lower (Kd.R_newM (M := fun k_ => (w.heap.size ≤ k_)) ho0 (below_size (by repeat (first | (with_reducible first | exact HB.out | apply below_alloc | apply pw_below_drewN | apply below_drew1) | exact HB.out))) (fun k_ h_ => h_)) (below_size (by repeat (first | (with_reducible first | exact HB.out | apply below_alloc | apply pw_below_drewN | apply below_drew1) | exact HB.out)))); have n3_ := Aside0.mk (below_step (by repeat (first | (with_reducible first | exact HB.out | apply below_alloc | apply pw_below_drewN | apply below_drew1) | exact HB.out)) hb); clear HO_0; clear HO_1; clear HB; have HO_0 := n0_; have HO_1 := n1_; have HO166 := n2_; have HB := n3_; clear n0_ n1_ n2_ n3_; (try clear hb); (try clear hb2); (try clear hk); (try clear hi); (try clear ho0); obtain ⟨Ao16, co16, eo16⟩ := Kd.V_slice HO_1.out; subst eo16) | ((with_reducible refine gate_callee (f := 26) rfl ?_); refine goesL_ (some 26) rfl rfl Try.func26 (by kernel_rfl) rfl #[.slice A0 l0.length c0, .slice Ao16 x1_3.length co16] rfl (by (try simp only [List.map_toArray, List.map_cons, List.map_nil]); first | done | rfl | (simp only [List.length_drop, List.length_take]; rfl) | (go_simp; done)) ?_; (with_reducible refine (octet_Xor.calls kj3 _ _ l0 _ _ x1_3 t167 _ ?side1 ?side2 ?side3 ?side4 A9.out).mono ?_); (case side1 => repeat (first | exact (Kd.V_reads' HO_0.out).2.2 | (with_reducible refine Kd.C_alloc ?_ _) | (with_reducible refine Kd.C_drewN ?_ _) | (with_reducible refine Kd.C_drew ?_))); (case side2 => exact (Kd.V_reads' HO_0.out).2.1); (case side3 => repeat (first | exact (Kd.V_reads' HO_1.out).2.2 | (with_reducible refine Kd.C_alloc ?_ _) | (with_reducible refine Kd.C_drewN ?_ _) | (with_reducible refine Kd.C_drew ?_))); (case side4 => exact (Kd.V_reads' HO_1.out).2.1); rintro e w17 ⟨v168, rfl, ho0, hb⟩; refine ⟨_, rfl, ?_⟩; have n0_ := Aside0.mk (Kd.V_elder' (by (with_reducible repeat (first | apply Kd.V_alloc | apply Kd.V_drewN | apply Kd.V_drew)); exact HO_0.out) (Kd.R_base ho0) hb); have n1_ := Aside0.mk (Kd.V_elder' (by (with_reducible repeat (first | apply Kd.V_alloc | apply Kd.V_drewN | apply Kd.V_drew)); exact HO_1.out) (Kd.R_base ho0) hb); have n2_ := Aside0.mk (Kd.R_elder' (by (with_reducible repeat (first | apply Kd.R_alloc | apply Kd.R_drewN | apply Kd.R_drew)); exact HO166.out) (Kd.R_base ho0) hb); have n3_ := Aside0.mk (Kd.R_lower (Kd.R_new' (Kd.R_newM (M := fun k_ => (w.heap.size ≤ k_)) ho0 (below_size (by repeat (first | (with_reducible first | exact HB.out | apply below_alloc | apply pw_below_drewN | apply below_drew1) | exact HB.out))) (fun k_ h_ => h_)) (Kd.R_lt (by (with_reducible repeat (first | apply Kd.R_alloc | apply Kd.R_drewN | apply Kd.R_drew)); exact HO166.out))) (below_size (by repeat (first | (with_reducible first | exact HB.out | apply below_alloc | apply pw_below_drewN | apply below_drew1) | exact HB.out)))); have n4_ := Aside0.mk (below_step (by repeat (first | (with_reducible first | exact HB.out | apply below_alloc | apply pw_below_drewN | apply below_drew1) | exact HB.out)) hb); clear HO_0; clear HO_1; clear HO166; clear HB; have HO_0 := n0_; have HO_1 := n1_; have HO166 := n2_; have HO169 := n3_; have HB := n4_; clear n0_ n1_ n2_ n3_ n4_; (try clear hb); (try clear hb2); (try clear hk); (try clear hi); (try clear ho0); obtain ⟨Ao18, co18, eo18⟩ := Kd.R_slice HO169.out; subst eo18) | ((with_reducible refine gate_callee (f := 26) rfl ?_); refine goesL_ (some 29) rfl rfl Try.func26 (by kernel_rfl) rfl #[.slice Ao18 t167.length co18, .slice Ao16 x1_3.length co16] rfl (by (try simp only [List.map_toArray, List.map_cons, List.map_nil]); first | done | rfl | (simp only [List.length_drop, List.length_take]; rfl) | (go_simp; done)) ?_; (with_reducible refine (octet_Xor.calls kj3 _ _ t167 _ _ x1_3 t170 _ ?side1 ?side2 ?side3 ?side4 A10.out).mono ?_); (case side1 => repeat (first | exact (Kd.R_reads' HO169.out).2.2 | (with_reducible refine Kd.C_alloc ?_ _) | (with_reducible refine Kd.C_drewN ?_ _) | (with_reducible refine Kd.C_drew ?_))); (case side2 => exact (Kd.R_reads' HO169.out).2.1); (case side3 => repeat (first | exact (Kd.V_reads' HO_1.out).2.2 | (with_reducible refine Kd.C_alloc ?_ _) | (with_reducible refine Kd.C_drewN ?_ _) | (with_reducible refine Kd.C_drew ?_))); (case side4 => exact (Kd.V_reads' HO_1.out).2.1); rintro e w19 ⟨v171, rfl, ho0, hb⟩; refine ⟨_, rfl, ?_⟩; have n0_ := Aside0.mk (Kd.V_elder' (by (with_reducible repeat (first | apply Kd.V_alloc | apply Kd.V_drewN | apply Kd.V_drew)); exact HO_0.out) (Kd.R_base ho0) hb); have n1_ := Aside0.mk (Kd.V_elder' (by (with_reducible repeat (first | apply Kd.V_alloc | apply Kd.V_drewN | apply Kd.V_drew)); exact HO_1.out) (Kd.R_base ho0) hb); have n2_ := Aside0.mk (Kd.R_elder' (by (with_reducible repeat (first | apply Kd.R_alloc | apply Kd.R_drewN | apply Kd.R_drew)); exact HO166.out) (Kd.R_base ho0) hb); have n3_ := Aside0.mk (Kd.R_elder' (by (with_reducible repeat (first | apply Kd.R_alloc | apply Kd.R_drewN | apply Kd.R_drew)); exact HO169.out) (Kd.R_base ho0) hb); have n4_ := Aside0.mk (Kd.R_lower (Kd.R_new' (Kd.R_new' (Kd.R_newM (M := fun k_ => (w.heap.size ≤ k_)) ho0 (below_size (by repeat (first | (with_reducible first | exact HB.out | apply below_alloc | apply pw_below_drewN | apply below_drew1) | exact HB.out))) (fun k_ h_ => h_)) (Kd.R_lt (by (with_reducible repeat (first | apply Kd.R_alloc | apply Kd.R_drewN | apply Kd.R_drew)); exact HO166.out))) (Kd.R_lt (by (with_reducible repeat (first | apply Kd.R_alloc | apply Kd.R_drewN | apply Kd.R_drew)); exact HO169.out))) (below_size (by repeat (first | (with_reducible first | exact HB.out | apply below_alloc | apply pw_below_drewN | apply below_drew1) | exact HB.out)))); have n5_ := Aside0.mk (below_step (by repeat (first | (with_reducible first | exact HB.out | apply below_alloc | apply pw_below_drewN | apply below_drew1) | exact HB.out)) hb); clear HO_0; clear HO_1; clear HO166; clear HO169; clear HB; have HO_0 := n0_; have HO_1 := n1_; have HO166 := n2_; have HO169 := n3_; have HO172 := n4_; have HB := n5_; clear n0_ n1_ n2_ n3_ n4_ n5_; (try clear hb); (try clear hb2); (try clear hk); (try clear hi); (try clear ho0)) | ((with_reducible refine gate_dst (N := 37) rfl ?_); refine Kd.N_lit (Kd.slice 5 (Kd.int .u8)) _ 28 ?hg (N' := 37) ?hd (xs := ([l0, x1_3] : List (List Int))) (inner := [.slice A0 l0.length c0, .slice Ao16 x1_3.length co16]) (ok := (fun k_ => ((P0_ k_ ∨ P1_ k_) ∨ w.heap.size ≤ k_) ∧ some k_ ≠ (v165 : Value).ownBlock ∧ some k_ ≠ (.slice Ao18 t167.length co18 : Value).ownBlock ∧ some k_ ≠ (v171 : Value).ownBlock)) (okp := (fun k_ => ((P0_ k_ ∨ P1_ k_) ∨ w.heap.size ≤ k_) ∧ some k_ ≠ (v165 : Value).ownBlock ∧ some k_ ≠ (.slice Ao18 t167.length co18 : Value).ownBlock ∧ some k_ ≠ (v171 : Value).ownBlock)) ?hr ?hp (fun _ hk => hk) ((show ∀ k_, w19.heap.size ≤ k_ → (fun k_ => ((P0_ k_ ∨ P1_ k_) ∨ w.heap.size ≤ k_) ∧ some k_ ≠ (v165 : Value).ownBlock ∧ some k_ ≠ (.slice Ao18 t167.length co18 : Value).ownBlock ∧ some k_ ≠ (v171 : Value).ownBlock) k_ from fun k_ hk => ⟨(.inr (Nat.le_trans (below_size (by repeat (first | (with_reducible first | exact HB.out | apply below_alloc | apply pw_below_drewN | apply below_drew1) | exact HB.out))) hk)), Kd.fresh' (Kd.R_lt (by (with_reducible repeat (first | apply Kd.R_alloc | apply Kd.R_drewN | apply Kd.R_drew)); exact HO166.out)) k_ hk, Kd.fresh' (Kd.R_lt (by (with_reducible repeat (first | apply Kd.R_alloc | apply Kd.R_drewN | apply Kd.R_drew)); exact HO169.out)) k_ hk, Kd.fresh' (Kd.R_lt (by (with_reducible repeat (first | apply Kd.R_alloc | apply Kd.R_drewN | apply Kd.R_drew)); exact HO172.out)) k_ hk⟩) _ (Nat.le_refl _)) (Below.refl _ _) (Nat.le_refl _) (by simp) ?_; (case hd => rfl); (case hg => rfl); (case hr => first | (go_simp; done) | (go_simp; rfl)); (case hp => exact (Reps.one (show Kd.FK (Kd.slice 5 (Kd.int .u8)) _ _ l0 [.slice A0 l0.length c0] from (Kd.FK_slice_mk (Kd.V_reads' (Kd.V_mono (ok' := (fun k_ => ((P0_ k_ ∨ P1_ k_) ∨ w.heap.size ≤ k_) ∧ some k_ ≠ (v165 : Value).ownBlock ∧ some k_ ≠ (.slice Ao18 t167.length co18 : Value).ownBlock ∧ some k_ ≠ (v171 : Value).ownBlock)) (HO_0.out) (fun k_ hk => ⟨hk.1.1.1, ⟨hk.1.1.2, ⟨hk.1.2, hk.2⟩⟩⟩))).2.1 (Kd.V_F (Kd.V_mono (ok' := (fun k_ => ((P0_ k_ ∨ P1_ k_) ∨ w.heap.size ≤ k_) ∧ some k_ ≠ (v165 : Value).ownBlock ∧ some k_ ≠ (.slice Ao18 t167.length co18 : Value).ownBlock ∧ some k_ ≠ (v171 : Value).ownBlock)) (HO_0.out) (fun k_ hk => ⟨hk.1.1.1, ⟨hk.1.1.2, ⟨hk.1.2, hk.2⟩⟩⟩))))) (Reps.one (show Kd.FK (Kd.slice 5 (Kd.int .u8)) _ _ x1_3 [.slice Ao16 x1_3.length co16] from (Kd.FK_slice_mk (Kd.V_reads' (Kd.V_mono (ok' := (fun k_ => ((P0_ k_ ∨ P1_ k_) ∨ w.heap.size ≤ k_) ∧ some k_ ≠ (v165 : Value).ownBlock ∧ some k_ ≠ (.slice Ao18 t167.length co18 : Value).ownBlock ∧ some k_ ≠ (v171 : Value).ownBlock)) (HO_1.out) (fun k_ hk => ⟨hk.1.1.1, ⟨hk.1.1.2, ⟨hk.1.2, hk.2⟩⟩⟩))).2.1 (Kd.V_F (Kd.V_mono (ok' := (fun k_ => ((P0_ k_ ∨ P1_ k_) ∨ w.heap.size ≤ k_) ∧ some k_ ≠ (v165 : Value).ownBlock ∧ some k_ ≠ (.slice Ao18 t167.length co18 : Value).ownBlock ∧ some k_ ≠ (v171 : Value).ownBlock)) (HO_1.out) (fun k_ hk => ⟨hk.1.1.1, ⟨hk.1.1.2, ⟨hk.1.2, hk.2⟩⟩⟩))))) (Reps.none _ _)))); intro v174 w20 ho21 hb hg_ hnew_; clear hg_ hnew_; (first | rw [← Ny173.out] at ho21 | (simp only [Int.reduceToNat] at ho21; rw [← Ny173.out] at ho21)); have n0_ := Aside0.mk (Kd.V_elder' (by (with_reducible repeat (first | apply Kd.V_alloc | apply Kd.V_drewN | apply Kd.V_drew)); exact HO_0.out) (Kd.N_base ho21) hb); have n1_ := Aside0.mk (Kd.V_elder' (by (with_reducible repeat (first | apply Kd.V_alloc | apply Kd.V_drewN | apply Kd.V_drew)); exact HO_1.out) (Kd.N_base ho21) hb); have n2_ := Aside0.mk (Kd.R_below (by (with_reducible repeat (first | apply Kd.R_alloc | apply Kd.R_drewN | apply Kd.R_drew)); exact HO166.out) hb); have n3_ := Aside0.mk (Kd.R_below (by (with_reducible repeat (first | apply Kd.R_alloc | apply Kd.R_drewN | apply Kd.R_drew)); exact HO169.out) hb); have n4_ := Aside0.mk (Kd.R_below (by (with_reducible repeat (first | apply Kd.R_alloc | apply Kd.R_drewN | apply Kd.R_drew)); exact HO172.out) hb); have n5_ := Aside0.mk (Kd.N_lower ho21 (below_size (by repeat (first | (with_reducible first | exact HB.out | apply below_alloc | apply pw_below_drewN | apply below_drew1) | exact HB.out)))); have n6_ := Aside0.mk (below_step (by repeat (first | (with_reducible first | exact HB.out | apply below_alloc | apply pw_below_drewN | apply below_drew1) | exact HB.out)) hb); clear HO_0; clear HO_1; clear HO166; clear HO169; clear HO172; clear HB; have HO_0 := n0_; have HO_1 := n1_; have HO166 := n2_; have HO169 := n3_; have HO172 := n4_; have HO175 := n5_; have HB := n6_; clear n0_ n1_ n2_ n3_ n4_ n5_ n6_; clear hb ho21; obtain ⟨Ao22, co22, eo22⟩ := Kd.N_slice HO175.out; subst eo22) | ((with_reducible refine gate_callee (f := 24) rfl ?_); refine goesL_ (some 38) rfl rfl Try.func24 (by kernel_rfl) rfl #[.slice Ao22 y173.length co22] rfl (by (try simp only [List.map_toArray, List.map_cons, List.map_nil]); first | done | rfl | (simp only [List.length_drop, List.length_take]; rfl) | (go_simp; done)) ?_; (with_reducible refine (octet_Join.calls kj3 _ _ y173 t176 _ ?side1 ?side2 A12.out).mono ?_); (case side1 => repeat (first | exact (Kd.N_reads' HO175.out).2.2 | (with_reducible refine Kd.C_alloc ?_ _) | (with_reducible refine Kd.C_drewN ?_ _) | (with_reducible refine Kd.C_drew ?_))); (case side2 => exact (Kd.N_reads' HO175.out).2.1); rintro e w23 ⟨v177, rfl, ho0, hb⟩; refine ⟨_, rfl, ?_⟩; have n0_ := Aside0.mk (Kd.V_elder' (by (with_reducible repeat (first | apply Kd.V_alloc | apply Kd.V_drewN | apply Kd.V_drew)); exact HO_0.out) (Kd.R_base ho0) hb); have n1_ := Aside0.mk (Kd.V_elder' (by (with_reducible repeat (first | apply Kd.V_alloc | apply Kd.V_drewN | apply Kd.V_drew)); exact HO_1.out) (Kd.R_base ho0) hb); have n2_ := Aside0.mk (Kd.R_elder' (by (with_reducible repeat (first | apply Kd.R_alloc | apply Kd.R_drewN | apply Kd.R_drew)); exact HO166.out) (Kd.R_base ho0) hb); have n3_ := Aside0.mk (Kd.R_elder' (by (with_reducible repeat (first | apply Kd.R_alloc | apply Kd.R_drewN | apply Kd.R_drew)); exact HO169.out) (Kd.R_base ho0) hb); have n4_ := Aside0.mk (Kd.R_elder' (by (with_reducible repeat (first | apply Kd.R_alloc | apply Kd.R_drewN | apply Kd.R_drew)); exact HO172.out) (Kd.R_base ho0) hb); have n5_ := Aside0.mk (Kd.N_elder' (by (with_reducible repeat (first | apply Kd.N_alloc | apply Kd.N_drewN | apply Kd.N_drew)); exact HO175.out) (Kd.R_base ho0) hb); have n6_ := Aside0.mk (Kd.R_lower (Kd.R_new' (Kd.R_new' (Kd.R_new' (Kd.R_newM (M := fun k_ => (w.heap.size ≤ k_)) ho0 (below_size (by repeat (first | (with_reducible first | exact HB.out | apply below_alloc | apply pw_below_drewN | apply below_drew1) | exact HB.out))) (fun k_ h_ => h_)) (Kd.R_lt (by (with_reducible repeat (first | apply Kd.R_alloc | apply Kd.R_drewN | apply Kd.R_drew)); exact HO166.out))) (Kd.R_lt (by (with_reducible repeat (first | apply Kd.R_alloc | apply Kd.R_drewN | apply Kd.R_drew)); exact HO169.out))) (Kd.R_lt (by (with_reducible repeat (first | apply Kd.R_alloc | apply Kd.R_drewN | apply Kd.R_drew)); exact HO172.out))) (below_size (by repeat (first | (with_reducible first | exact HB.out | apply below_alloc | apply pw_below_drewN | apply below_drew1) | exact HB.out)))); have n7_ := Aside0.mk (below_step (by repeat (first | (with_reducible first | exact HB.out | apply below_alloc | apply pw_below_drewN | apply below_drew1) | exact HB.out)) hb); clear HO_0; clear HO_1; clear HO166; clear HO169; clear HO172; clear HO175; clear HB; have HO_0 := n0_; have HO_1 := n1_; have HO166 := n2_; have HO169 := n3_; have HO172 := n4_; have HO175 := n5_; have HO178 := n6_; have HB := n7_; clear n0_ n1_ n2_ n3_ n4_ n5_ n6_ n7_; (try clear hb); (try clear hb2); (try clear hk); (try clear hi); (try clear ho0)) | ((with_reducible refine gate_callee (f := 27) rfl ?_); refine goesL_ (some 40) rfl rfl Try.func27 (by kernel_rfl) rfl #[.slice A0 l0.length c0] rfl (by (try simp only [List.map_toArray, List.map_cons, List.map_nil]); first | done | rfl | (simp only [List.length_drop, List.length_take]; rfl) | (go_simp; done)) ?_; (with_reducible refine (octet_Clone.calls _ _ l0 t179 _ ?side1 ?side2 A13.out).mono ?_); (case side1 => repeat (first | exact (Kd.V_reads' HO_0.out).2.2 | (with_reducible refine Kd.C_alloc ?_ _) | (with_reducible refine Kd.C_drewN ?_ _) | (with_reducible refine Kd.C_drew ?_))); (case side2 => exact (Kd.V_reads' HO_0.out).2.1); rintro e w24 ⟨v180, rfl, ho0, hb⟩; refine ⟨_, rfl, ?_⟩; have n0_ := Aside0.mk (Kd.V_elder' (by (with_reducible repeat (first | apply Kd.V_alloc | apply Kd.V_drewN | apply Kd.V_drew)); exact HO_0.out) (Kd.R_base ho0) hb); have n1_ := Aside0.mk (Kd.V_elder' (by (with_reducible repeat (first | apply Kd.V_alloc | apply Kd.V_drewN | apply Kd.V_drew)); exact HO_1.out) (Kd.R_base ho0) hb); have n2_ := Aside0.mk (Kd.R_elder' (by (with_reducible repeat (first | apply Kd.R_alloc | apply Kd.R_drewN | apply Kd.R_drew)); exact HO166.out) (Kd.R_base ho0) hb); have n3_ := Aside0.mk (Kd.R_elder' (by (with_reducible repeat (first | apply Kd.R_alloc | apply Kd.R_drewN | apply Kd.R_drew)); exact HO169.out) (Kd.R_base ho0) hb); have n4_ := Aside0.mk (Kd.R_elder' (by (with_reducible repeat (first | apply Kd.R_alloc | apply Kd.R_drewN | apply Kd.R_drew)); exact HO172.out) (Kd.R_base ho0) hb); have n5_ := Aside0.mk (Kd.N_elder' (by (with_reducible repeat (first | apply Kd.N_alloc | apply Kd.N_drewN | apply Kd.N_drew)); exact HO175.out) (Kd.R_base ho0) hb); have n6_ := Aside0.mk (Kd.R_elder' (by (with_reducible repeat (first | apply Kd.R_alloc | apply Kd.R_drewN | apply Kd.R_drew)); exact HO178.out) (Kd.R_base ho0) hb); have n7_ := Aside0.mk (Kd.R_lower (Kd.R_new' (Kd.R_new' (Kd.R_new' (Kd.R_new' (Kd.R_newM (M := fun k_ => (w.heap.size ≤ k_)) ho0 (below_size (by repeat (first | (with_reducible first | exact HB.out | apply below_alloc | apply pw_below_drewN | apply below_drew1) | exact HB.out))) (fun k_ h_ => h_)) (Kd.R_lt (by (with_reducible repeat (first | apply Kd.R_alloc | apply Kd.R_drewN | apply Kd.R_drew)); exact HO166.out))) (Kd.R_lt (by (with_reducible repeat (first | apply Kd.R_alloc | apply Kd.R_drewN | apply Kd.R_drew)); exact HO169.out))) (Kd.R_lt (by (with_reducible repeat (first | apply Kd.R_alloc | apply Kd.R_drewN | apply Kd.R_drew)); exact HO172.out))) (Kd.R_lt (by (with_reducible repeat (first | apply Kd.R_alloc | apply Kd.R_drewN | apply Kd.R_drew)); exact HO178.out))) (below_size (by repeat (first | (with_reducible first | exact HB.out | apply below_alloc | apply pw_below_drewN | apply below_drew1) | exact HB.out)))); have n8_ := Aside0.mk (below_step (by repeat (first | (with_reducible first | exact HB.out | apply below_alloc | apply pw_below_drewN | apply below_drew1) | exact HB.out)) hb); clear HO_0; clear HO_1; clear HO166; clear HO169; clear HO172; clear HO175; clear HO178; clear HB; have HO_0 := n0_; have HO_1 := n1_; have HO166 := n2_; have HO169 := n3_; have HO172 := n4_; have HO175 := n5_; have HO178 := n6_; have HO181 := n7_; have HB := n8_; clear n0_ n1_ n2_ n3_ n4_ n5_ n6_ n7_ n8_; (try clear hb); (try clear hb2); (try clear hk); (try clear hi); (try clear ho0)))
      (try simp only [Act.put, List.setIfInBounds_toArray, List.set_cons_zero, List.set_cons_succ])
      go_cut [88] (fun v88 wc => ∃ (kq : Nat) (x88_13 : Bool), v88 = .bool x88_13 ∧ Aside0 (portholelaw1_OctetXors.j1 kq l0 t164 t167 t176 t179 x88_13 = some r) ∧ Aside0 (kq ≤ kj3) ∧ Aside0 (Kd.V (Kd.int .u8) 5 wc w.heap.size (fun k_ => ((P0_ k_ ∨ P1_ k_) ∨ w.heap.size ≤ k_) ∧ some k_ ≠ (v165 : Value).ownBlock ∧ some k_ ≠ ((.slice Ao18 t167.length co18) : Value).ownBlock ∧ some k_ ≠ (v177 : Value).ownBlock ∧ some k_ ≠ (v180 : Value).ownBlock) (.slice A0 l0.length c0) l0) ∧ Aside0 (Kd.R (Kd.int .u8) 5 wc w.heap.size (fun k_ => (w.heap.size ≤ k_) ∧ some k_ ≠ ((.slice Ao18 t167.length co18) : Value).ownBlock ∧ some k_ ≠ (v177 : Value).ownBlock ∧ some k_ ≠ (v180 : Value).ownBlock) v165 t164) ∧ Aside0 (Kd.R (Kd.int .u8) 5 wc w.heap.size (fun k_ => (w.heap.size ≤ k_) ∧ some k_ ≠ (v165 : Value).ownBlock ∧ some k_ ≠ (v177 : Value).ownBlock ∧ some k_ ≠ (v180 : Value).ownBlock) (.slice Ao18 t167.length co18) t167) ∧ Aside0 (Kd.R (Kd.int .u8) 5 wc w.heap.size (fun k_ => (w.heap.size ≤ k_) ∧ some k_ ≠ (v165 : Value).ownBlock ∧ some k_ ≠ ((.slice Ao18 t167.length co18) : Value).ownBlock ∧ some k_ ≠ (v180 : Value).ownBlock) v177 t176) ∧ Aside0 (Kd.R (Kd.int .u8) 5 wc w.heap.size (fun k_ => (w.heap.size ≤ k_) ∧ some k_ ≠ (v165 : Value).ownBlock ∧ some k_ ≠ ((.slice Ao18 t167.length co18) : Value).ownBlock ∧ some k_ ≠ (v177 : Value).ownBlock) v180 t179) ∧ Aside0 (Below w.heap.size w wc))
      case first =>
        have H := HC14.out
        clear HC14
        replace H := Option.bind_eq_some_iff.mp H
        obtain ⟨t182, A250, H⟩ := H
        replace H : (if t182 = true then ((portholeref1_Xor.f kj3 l0 x1_3).bind fun t183 => (if (strOfNums t167).toList = (strOfNums t183).toList then (if 0 ≤ (ji11) then (if (ji11) ≤ (l0.length : Int) then (if (strOfNums t170).toList = (strOfNums (l0.take ((ji11) : Int).toNat)).toList then ((octet_Same.f kj3 l0 x1_3).bind fun t191 => (if (t191 != ((strOfNums l0).toList == (strOfNums x1_3).toList)) = true then (portholelaw1_OctetXors.j1 kj3 l0 t164 t167 t176 t179 true) else (if (strOfNums l0).size + (strOfNums x1_3).size ≤ 9223372036854775807 then (if (strOfNums t176).toList = ((strOfNums l0) ++ (strOfNums x1_3)).toList then (portholelaw1_OctetXors.j1 kj3 l0 t164 t167 t176 t179 ((strOfNums t179).toList != (strOfNums l0).toList)) else (portholelaw1_OctetXors.j1 kj3 l0 t164 t167 t176 t179 true)) else (none)))) else (portholelaw1_OctetXors.j1 kj3 l0 t164 t167 t176 t179 true)) else (none)) else (none)) else (portholelaw1_OctetXors.j1 kj3 l0 t164 t167 t176 t179 true))) else (portholelaw1_OctetXors.j1 kj3 l0 t164 t167 t176 t179 true)) = some r := H
        have A25 := Aside0.mk A250
        clear A250
        by_cases c26 : t182 = true
        · subst c26
          have H1 : ((portholeref1_Xor.f kj3 l0 x1_3).bind fun t183 => (if (strOfNums t167).toList = (strOfNums t183).toList then (if 0 ≤ (ji11) then (if (ji11) ≤ (l0.length : Int) then (if (strOfNums t170).toList = (strOfNums (l0.take ((ji11) : Int).toNat)).toList then ((octet_Same.f kj3 l0 x1_3).bind fun t191 => (if (t191 != ((strOfNums l0).toList == (strOfNums x1_3).toList)) = true then (portholelaw1_OctetXors.j1 kj3 l0 t164 t167 t176 t179 true) else (if (strOfNums l0).size + (strOfNums x1_3).size ≤ 9223372036854775807 then (if (strOfNums t176).toList = ((strOfNums l0) ++ (strOfNums x1_3)).toList then (portholelaw1_OctetXors.j1 kj3 l0 t164 t167 t176 t179 ((strOfNums t179).toList != (strOfNums l0).toList)) else (portholelaw1_OctetXors.j1 kj3 l0 t164 t167 t176 t179 true)) else (none)))) else (portholelaw1_OctetXors.j1 kj3 l0 t164 t167 t176 t179 true)) else (none)) else (none)) else (portholelaw1_OctetXors.j1 kj3 l0 t164 t167 t176 t179 true))) = some r := by rw [if_pos rfl] at H; exact H
          clear H
          have H := H1
          clear H1
          replace H := Option.bind_eq_some_iff.mp H
          obtain ⟨t183, A270, H⟩ := H
          replace H : (if (strOfNums t167).toList = (strOfNums t183).toList then (if 0 ≤ (ji11) then (if (ji11) ≤ (l0.length : Int) then (if (strOfNums t170).toList = (strOfNums (l0.take ((ji11) : Int).toNat)).toList then ((octet_Same.f kj3 l0 x1_3).bind fun t191 => (if (t191 != ((strOfNums l0).toList == (strOfNums x1_3).toList)) = true then (portholelaw1_OctetXors.j1 kj3 l0 t164 t167 t176 t179 true) else (if (strOfNums l0).size + (strOfNums x1_3).size ≤ 9223372036854775807 then (if (strOfNums t176).toList = ((strOfNums l0) ++ (strOfNums x1_3)).toList then (portholelaw1_OctetXors.j1 kj3 l0 t164 t167 t176 t179 ((strOfNums t179).toList != (strOfNums l0).toList)) else (portholelaw1_OctetXors.j1 kj3 l0 t164 t167 t176 t179 true)) else (none)))) else (portholelaw1_OctetXors.j1 kj3 l0 t164 t167 t176 t179 true)) else (none)) else (none)) else (portholelaw1_OctetXors.j1 kj3 l0 t164 t167 t176 t179 true)) = some r := H
          have A27 := Aside0.mk A270
          clear A270
          by_cases c28 : (strOfNums t167).toList = (strOfNums t183).toList
          · rw [if_pos c28] at H
            have c28b0 : ((strOfNums t167).toList == (strOfNums t183).toList) = true := beq_iff_eq.mpr c28
            have c28b1 : ((strOfNums t167).toList != (strOfNums t183).toList) = false := bne_eq_false_iff_eq.mpr c28
            clear c28
            (first | rw [c28b0] | (simp only [i64_w, i32_w]; rw [c28b0]) | skip)
            by_cases c29 : 0 ≤ (ji11)
            rotate_left
            · rw [if_neg c29] at H
              exact absurd H (by simp)
            rw [if_pos c29] at H
            have c29b0 := eq_true c29
            have c29b1 : decide (0 ≤ (ji11)) = true := decide_eq_true c29
            clear c29
            by_cases c30 : (ji11) ≤ (l0.length : Int)
            rotate_left
            · rw [if_neg c30] at H
              exact absurd H (by simp)
            rw [if_pos c30] at H
            have c30b0 := eq_true c30
            have c30b1 : decide ((ji11) ≤ (l0.length : Int)) = true := decide_eq_true c30
            clear c30
            obtain ⟨y186, hy186⟩ : ∃ y_ : List Int, y_ = (l0.take ((ji11) : Int).toNat) := ⟨_, rfl⟩
            replace H : (if (strOfNums t170).toList = (strOfNums y186).toList then ((octet_Same.f kj3 l0 x1_3).bind fun t191 => (if (t191 != ((strOfNums l0).toList == (strOfNums x1_3).toList)) = true then (portholelaw1_OctetXors.j1 kj3 l0 t164 t167 t176 t179 true) else (if (strOfNums l0).size + (strOfNums x1_3).size ≤ 9223372036854775807 then (if (strOfNums t176).toList = ((strOfNums l0) ++ (strOfNums x1_3)).toList then (portholelaw1_OctetXors.j1 kj3 l0 t164 t167 t176 t179 ((strOfNums t179).toList != (strOfNums l0).toList)) else (portholelaw1_OctetXors.j1 kj3 l0 t164 t167 t176 t179 true)) else (none)))) else (portholelaw1_OctetXors.j1 kj3 l0 t164 t167 t176 t179 true)) = some r := by first | (rw [hy186]; with_reducible exact H) | (have H2_ := (Option.bind_some _ _).symm.trans H; rw [hy186]; with_reducible exact H2_) | (have H2_ := (Option.bind_some _ _).symm.trans H; with_reducible exact H2_) | with_reducible exact H | (rw [hy186]; exact H) | exact H
            have Ny186 := Aside0.mk hy186
            clear hy186
            by_cases c31 : (strOfNums t170).toList = (strOfNums y186).toList
            · rw [if_pos c31] at H
              have c31b0 : ((strOfNums t170).toList == (strOfNums y186).toList) = true := beq_iff_eq.mpr c31
              have c31b1 : ((strOfNums t170).toList != (strOfNums y186).toList) = false := bne_eq_false_iff_eq.mpr c31
              clear c31
              replace H := Option.bind_eq_some_iff.mp H
              obtain ⟨t191, A320, H⟩ := H
              replace H : (if (t191 != ((strOfNums l0).toList == (strOfNums x1_3).toList)) = true then (portholelaw1_OctetXors.j1 kj3 l0 t164 t167 t176 t179 true) else (if (strOfNums l0).size + (strOfNums x1_3).size ≤ 9223372036854775807 then (if (strOfNums t176).toList = ((strOfNums l0) ++ (strOfNums x1_3)).toList then (portholelaw1_OctetXors.j1 kj3 l0 t164 t167 t176 t179 ((strOfNums t179).toList != (strOfNums l0).toList)) else (portholelaw1_OctetXors.j1 kj3 l0 t164 t167 t176 t179 true)) else (none))) = some r := H
              have A32 := Aside0.mk A320
              clear A320
              by_cases c33 : (t191 != ((strOfNums l0).toList == (strOfNums x1_3).toList)) = true
              · rw [if_pos c33] at H
                have c33b0 : (t191 != ((strOfNums l0).toList == (strOfNums x1_3).toList)) = true := c33
                (try (have c33b1 : decide (t191 = ((strOfNums l0).toList == (strOfNums x1_3).toList)) = false := by simpa using c33))
                (try (have c33b2 : (t191 == ((strOfNums l0).toList == (strOfNums x1_3).toList)) = false := by simpa using c33))
                (try (have c33b3 : ¬ (t191 = ((strOfNums l0).toList == (strOfNums x1_3).toList)) := by simpa using c33))
                clear c33
                obtain rfl := hlaw.out
                rcases kj3 with _ | kz34 <;> simp [portholelaw1_OctetXors.j1] at H
              · rw [if_neg c33] at H
                have c33b0 : (t191 != ((strOfNums l0).toList == (strOfNums x1_3).toList)) = false := by simpa using c33
                (try (have c33b1 : decide (t191 = ((strOfNums l0).toList == (strOfNums x1_3).toList)) = true := by simpa using c33))
                (try (have c33b2 : (t191 == ((strOfNums l0).toList == (strOfNums x1_3).toList)) = true := by simpa using c33))
                clear c33
                by_cases c35 : (strOfNums l0).size + (strOfNums x1_3).size ≤ 9223372036854775807
                rotate_left
                · rw [if_neg c35] at H
                  exact absurd H (by simp)
                rw [if_pos c35] at H
                have c35b0 := eq_true c35
                have c35b1 : decide ((strOfNums l0).size + (strOfNums x1_3).size ≤ 9223372036854775807) = true := decide_eq_true c35
                try have c35b2 : (9223372036854775807 < (strOfNums l0).size + (strOfNums x1_3).size) = False := eq_false (Nat.not_lt.2 c35)
                by_cases c36 : (strOfNums t176).toList = ((strOfNums l0) ++ (strOfNums x1_3)).toList
                · rw [if_pos c36] at H
                  have c36b0 : ((strOfNums t176).toList == ((strOfNums l0) ++ (strOfNums x1_3)).toList) = true := beq_iff_eq.mpr c36
                  have c36b1 : ((strOfNums t176).toList != ((strOfNums l0) ++ (strOfNums x1_3)).toList) = false := bne_eq_false_iff_eq.mpr c36
                  clear c36
                  have H' := Aside0.mk H
                  clear H
                  obtain ⟨Ao37, co37, eo37⟩ := Kd.R_slice HO181.out
                  subst eo37
                  obtain ⟨Ao38, co38, eo38⟩ := Kd.R_slice HO178.out
                  subst eo38
                  obtain ⟨Ao39, co39, eo39⟩ := Kd.R_slice HO172.out
                  subst eo39
                  try go_wp2
                  have n0_ := Aside0.mk (Kd.V_drew HO_0.out)
                  have n1_ := Aside0.mk (Kd.V_drew HO_1.out)
                  have n2_ := Aside0.mk (Kd.R_drew HO166.out)
                  have n3_ := Aside0.mk (Kd.R_drew HO169.out)
                  have n4_ := Aside0.mk (Kd.R_drew HO172.out)
                  have n5_ := Aside0.mk (Kd.N_drew HO175.out)
                  have n6_ := Aside0.mk (Kd.R_drew HO178.out)
                  have n7_ := Aside0.mk (Kd.R_drew HO181.out)
                  have n8_ := Aside0.mk (below_drew1 HB.out)
                  clear HO_0
                  clear HO_1
                  clear HO166
                  clear HO169
                  clear HO172
                  clear HO175
                  clear HO178
                  clear HO181
                  clear HB
                  have HO_0 := n0_
                  have HO_1 := n1_
                  have HO166 := n2_
                  have HO169 := n3_
                  have HO172 := n4_
                  have HO175 := n5_
                  have HO178 := n6_
                  have HO181 := n7_
                  have HB := n8_
                  clear n0_ n1_ n2_ n3_ n4_ n5_ n6_ n7_ n8_
                  refine start_ (n := 48) (S := fun w' => (convert 28 9 (.slice Ao18 t167.length co18)).run Try.prog w' = .ok (.string (strOfNums t167)) w' ∧ (convert 28 9 (.slice Ao39 t170.length co39)).run Try.prog w' = .ok (.string (strOfNums t170)) w' ∧ (convert 28 9 (.slice A0 l0.length c0)).run Try.prog w' = .ok (.string (strOfNums l0)) w' ∧ (convert 28 9 (.slice Ao16 x1_3.length co16)).run Try.prog w' = .ok (.string (strOfNums x1_3)) w' ∧ (convert 28 9 (.slice Ao38 t176.length co38)).run Try.prog w' = .ok (.string (strOfNums t176)) w' ∧ (convert 28 9 (.slice A0 l0.length c0)).run Try.prog w' = .ok (.string (strOfNums l0)) w' ∧ (convert 28 9 (.slice Ao16 x1_3.length co16)).run Try.prog w' = .ok (.string (strOfNums x1_3)) w' ∧ (convert 28 9 (.slice Ao37 t179.length co37)).run Try.prog w' = .ok (.string (strOfNums t179)) w' ∧ (convert 28 9 (.slice A0 l0.length c0)).run Try.prog w' = .ok (.string (strOfNums l0)) w') (ds := []) #[false, false, false, false, false, false, false, false, false, false, false, false, false, false, false, false, false, false, false, false, false, false, false, false, false, false, false, false, false, false, false, false, false, false, false, false, false, false, false, false, false, false, false, false, false, false, false, false] (by kernel_rfl) rfl rfl ⟨(own_string (P := Try.prog) Try.underlying28 Try.underlying5 Try.underlying9 (Kd.own_of_R (by (with_reducible repeat (first | apply Kd.R_alloc | apply Kd.R_drewN | apply Kd.R_drew)); exact HO169.out))), (own_string (P := Try.prog) Try.underlying28 Try.underlying5 Try.underlying9 (Kd.own_of_R (by (with_reducible repeat (first | apply Kd.R_alloc | apply Kd.R_drewN | apply Kd.R_drew)); exact HO172.out))), (Kd.C_string (P := Try.prog) (A := A0) (c := c0) Try.underlying28 Try.underlying5 Try.underlying9 ((Kd.V_reads' (e := 5) (base := w.heap.size) (by (with_reducible repeat (first | apply Kd.V_alloc | apply Kd.V_drewN | apply Kd.V_drew)); exact HO_0.out)).2.2)), (Kd.C_string (P := Try.prog) (A := Ao16) (c := co16) Try.underlying28 Try.underlying5 Try.underlying9 ((Kd.V_reads' (e := 5) (base := w.heap.size) (by (with_reducible repeat (first | apply Kd.V_alloc | apply Kd.V_drewN | apply Kd.V_drew)); exact HO_1.out)).2.2)), (own_string (P := Try.prog) Try.underlying28 Try.underlying5 Try.underlying9 (Kd.own_of_R (by (with_reducible repeat (first | apply Kd.R_alloc | apply Kd.R_drewN | apply Kd.R_drew)); exact HO178.out))), (Kd.C_string (P := Try.prog) (A := A0) (c := c0) Try.underlying28 Try.underlying5 Try.underlying9 ((Kd.V_reads' (e := 5) (base := w.heap.size) (by (with_reducible repeat (first | apply Kd.V_alloc | apply Kd.V_drewN | apply Kd.V_drew)); exact HO_0.out)).2.2)), (Kd.C_string (P := Try.prog) (A := Ao16) (c := co16) Try.underlying28 Try.underlying5 Try.underlying9 ((Kd.V_reads' (e := 5) (base := w.heap.size) (by (with_reducible repeat (first | apply Kd.V_alloc | apply Kd.V_drewN | apply Kd.V_drew)); exact HO_1.out)).2.2)), (own_string (P := Try.prog) Try.underlying28 Try.underlying5 Try.underlying9 (Kd.own_of_R (by (with_reducible repeat (first | apply Kd.R_alloc | apply Kd.R_drewN | apply Kd.R_drew)); exact HO181.out))), (Kd.C_string (P := Try.prog) (A := A0) (c := c0) Try.underlying28 Try.underlying5 Try.underlying9 ((Kd.V_reads' (e := 5) (base := w.heap.size) (by (with_reducible repeat (first | apply Kd.V_alloc | apply Kd.V_drewN | apply Kd.V_drew)); exact HO_0.out)).2.2))⟩ (fun hHeld => ?_); refine with_tabW portholelaw1_OctetXors.tab9 portholelaw1_OctetXors.bits9 (fun HT_ HW_ => ?_)
                  generalize w24.drew = w40 at HO_0 HO_1 HO166 HO169 HO172 HO175 HO178 HO181 HB hHeld ⊢
                  refine one_ (i := 0) (N := some 41) (bset 48 1) rfl rfl (one_of HT_.out (by kernel_rfl)) (by decide) (fun K hK => ?_)
                  refine goes_ Try.func20 (by kernel_rfl) rfl #[] (by rfl) rfl rfl (by (try simp only [List.map_toArray, List.map_cons, List.map_nil]); first | done | rfl | (simp only [List.length_drop, List.length_take]; rfl) | (go_simp; done)) ?_
                  with_reducible refine (portholelaw1_known.calls kj3  true _ A25.out).mono ?_
                  rintro e w41 ⟨rfl, hb⟩
                  refine ⟨_, rfl, ?_⟩
                  have n0_ := Aside0.mk (Kd.V_below (by (with_reducible repeat (first | apply Kd.V_alloc | apply Kd.V_drewN | apply Kd.V_drew)); exact HO_0.out) hb)
                  have n1_ := Aside0.mk (Kd.V_below (by (with_reducible repeat (first | apply Kd.V_alloc | apply Kd.V_drewN | apply Kd.V_drew)); exact HO_1.out) hb)
                  have n2_ := Aside0.mk (Kd.R_below (by (with_reducible repeat (first | apply Kd.R_alloc | apply Kd.R_drewN | apply Kd.R_drew)); exact HO166.out) hb)
                  have n3_ := Aside0.mk (Kd.R_below (by (with_reducible repeat (first | apply Kd.R_alloc | apply Kd.R_drewN | apply Kd.R_drew)); exact HO169.out) hb)
                  have n4_ := Aside0.mk (Kd.R_below (by (with_reducible repeat (first | apply Kd.R_alloc | apply Kd.R_drewN | apply Kd.R_drew)); exact HO172.out) hb)
                  have n5_ := Aside0.mk (Kd.N_below (by (with_reducible repeat (first | apply Kd.N_alloc | apply Kd.N_drewN | apply Kd.N_drew)); exact HO175.out) hb)
                  have n6_ := Aside0.mk (Kd.R_below (by (with_reducible repeat (first | apply Kd.R_alloc | apply Kd.R_drewN | apply Kd.R_drew)); exact HO178.out) hb)
                  have n7_ := Aside0.mk (Kd.R_below (by (with_reducible repeat (first | apply Kd.R_alloc | apply Kd.R_drewN | apply Kd.R_drew)); exact HO181.out) hb)
                  have n8_ := Aside0.mk (below_step (by repeat (first | (with_reducible first | exact HB.out | apply below_alloc | apply pw_below_drewN | apply below_drew1) | exact HB.out)) hb)
                  clear HO_0
                  clear HO_1
                  clear HO166
                  clear HO169
                  clear HO172
                  clear HO175
                  clear HO178
                  clear HO181
                  clear HB
                  have HO_0 := n0_
                  have HO_1 := n1_
                  have HO166 := n2_
                  have HO169 := n3_
                  have HO172 := n4_
                  have HO175 := n5_
                  have HO178 := n6_
                  have HO181 := n7_
                  have HB := n8_
                  clear n0_ n1_ n2_ n3_ n4_ n5_ n6_ n7_ n8_
                  (try clear hb)
                  (try clear hb2)
                  (try clear hk)
                  (try clear hi)
                  refine hK.out _ _ ⟨(own_string (P := Try.prog) Try.underlying28 Try.underlying5 Try.underlying9 (Kd.own_of_R (by (with_reducible repeat (first | apply Kd.R_alloc | apply Kd.R_drewN | apply Kd.R_drew)); exact HO169.out))), (own_string (P := Try.prog) Try.underlying28 Try.underlying5 Try.underlying9 (Kd.own_of_R (by (with_reducible repeat (first | apply Kd.R_alloc | apply Kd.R_drewN | apply Kd.R_drew)); exact HO172.out))), (Kd.C_string (P := Try.prog) (A := A0) (c := c0) Try.underlying28 Try.underlying5 Try.underlying9 ((Kd.V_reads' (e := 5) (base := w.heap.size) (by (with_reducible repeat (first | apply Kd.V_alloc | apply Kd.V_drewN | apply Kd.V_drew)); exact HO_0.out)).2.2)), (Kd.C_string (P := Try.prog) (A := Ao16) (c := co16) Try.underlying28 Try.underlying5 Try.underlying9 ((Kd.V_reads' (e := 5) (base := w.heap.size) (by (with_reducible repeat (first | apply Kd.V_alloc | apply Kd.V_drewN | apply Kd.V_drew)); exact HO_1.out)).2.2)), (own_string (P := Try.prog) Try.underlying28 Try.underlying5 Try.underlying9 (Kd.own_of_R (by (with_reducible repeat (first | apply Kd.R_alloc | apply Kd.R_drewN | apply Kd.R_drew)); exact HO178.out))), (Kd.C_string (P := Try.prog) (A := A0) (c := c0) Try.underlying28 Try.underlying5 Try.underlying9 ((Kd.V_reads' (e := 5) (base := w.heap.size) (by (with_reducible repeat (first | apply Kd.V_alloc | apply Kd.V_drewN | apply Kd.V_drew)); exact HO_0.out)).2.2)), (Kd.C_string (P := Try.prog) (A := Ao16) (c := co16) Try.underlying28 Try.underlying5 Try.underlying9 ((Kd.V_reads' (e := 5) (base := w.heap.size) (by (with_reducible repeat (first | apply Kd.V_alloc | apply Kd.V_drewN | apply Kd.V_drew)); exact HO_1.out)).2.2)), (own_string (P := Try.prog) Try.underlying28 Try.underlying5 Try.underlying9 (Kd.own_of_R (by (with_reducible repeat (first | apply Kd.R_alloc | apply Kd.R_drewN | apply Kd.R_drew)); exact HO181.out))), (Kd.C_string (P := Try.prog) (A := A0) (c := c0) Try.underlying28 Try.underlying5 Try.underlying9 ((Kd.V_reads' (e := 5) (base := w.heap.size) (by (with_reducible repeat (first | apply Kd.V_alloc | apply Kd.V_drewN | apply Kd.V_drew)); exact HO_0.out)).2.2))⟩ (fun hHeld => ?_)
                  clear hK K
                  refine norm_ (a' := ?_) ?_ ?_
                  rotate_left
                  · show Act.put _ (some 41) _ = _
                    simp only [Act.put, List.setIfInBounds_toArray, List.set_cons_zero, List.set_cons_succ, i64_w, i32_w]
                    rfl
                  refine pure_ (i := 1) (N := some 42) (v := ?_) (a' := ?_) (bset 48 3) rfl rfl (any_of HT_.out (by kernel_rfl)) (fun _ _ _ h => h) (Or.inl ⟨by rfl, ?_⟩) ?_ ?_; rotate_left; (focus intro w'; go_simp; with_reducible rfl); rotate_left; (focus simp only [Act.put, sA_, sZ_, sS_, i64_w, i32_w]; rfl)
                  refine pure_ (i := 2) (N := some 43) (v := ?_) (a' := ?_) (bset 48 7) rfl rfl (any_of HT_.out (by kernel_rfl)) (fun _ _ _ h => h) (Or.inl ⟨by rfl, ?_⟩) ?_ ?_; rotate_left; (focus intro w'; go_simp; with_reducible rfl); rotate_left; (focus simp only [Act.put, sA_, sZ_, sS_, i64_w, i32_w]; rfl)
                  refine pure_ (i := 3) (N := some 44) (v := ?_) (a' := ?_) (bset 48 15) rfl rfl (any_of HT_.out (by kernel_rfl)) (fun _ _ _ h => h) (Or.inl ⟨by rfl, ?_⟩) ?_ ?_; rotate_left; (focus intro w'; go_simp; with_reducible rfl); rotate_left; (focus simp only [Act.put, sA_, sZ_, sS_, i64_w, i32_w]; rfl)
                  refine pure_ (i := 5) (N := some 46) (v := ?_) (a' := ?_) (bset 48 47) rfl rfl (any_of HT_.out (by kernel_rfl)) (fun _ _ _ h => h) (Or.inl ⟨by rfl, ?_⟩) ?_ ?_; rotate_left; (focus intro w'; go_simp; with_reducible rfl); rotate_left; (focus simp only [Act.put, sA_, sZ_, sS_, i64_w, i32_w]; rfl)
                  refine pure_ (i := 6) (N := some 47) (v := ?_) (a' := ?_) (bset 48 111) rfl rfl (any_of HT_.out (by kernel_rfl)) (fun _ _ _ h => h) (Or.inl ⟨by rfl, ?_⟩) ?_ ?_; rotate_left; (focus intro w'; go_simp; with_reducible rfl); rotate_left; (focus simp only [Act.put, sA_, sZ_, sS_, i64_w, i32_w]; rfl)
                  refine take_ (i := 4) (N := some 45) (v := ?_) (a' := ?_) (bset 48 127) rfl rfl (take_ofW HT_.out HW_.out (by kernel_rfl)) (fun _ _ _ h => h) (Or.inl ⟨by rfl, ?_⟩) hHeld ?_ ?_; rotate_left; (focus rintro w' ⟨s0, s1, s2, s3, s4, s5, s6, s7, s8⟩; go_simp; with_reducible rfl); rotate_left; (focus simp only [Act.put, sA_, sZ_, sS_, i64_w, i32_w]; rfl)
                  refine one_ (i := 7) (N := some 48) (bset 48 255) rfl rfl (one_of HT_.out (by kernel_rfl)) (by decide) (fun K hK => ?_)
                  refine goes_ Try.func28 (by kernel_rfl) rfl #[.slice A0 l0.length c0, .slice Ao16 x1_3.length co16] (by rfl) rfl rfl (by (try simp only [List.map_toArray, List.map_cons, List.map_nil]); first | done | rfl | (simp only [List.length_drop, List.length_take]; rfl) | (go_simp; done)) ?_
                  with_reducible refine (portholeref1_Xor.calls kj3 _ _ l0 _ _ x1_3 t183 _ ?side1 ?side2 ?side3 ?side4 A27.out).mono ?_
                  (case side1 => repeat (first | exact (Kd.V_reads' HO_0.out).2.2 | (with_reducible refine Kd.C_alloc ?_ _) | (with_reducible refine Kd.C_drewN ?_ _) | (with_reducible refine Kd.C_drew ?_)))
                  (case side2 => exact (Kd.V_reads' HO_0.out).2.1)
                  (case side3 => repeat (first | exact (Kd.V_reads' HO_1.out).2.2 | (with_reducible refine Kd.C_alloc ?_ _) | (with_reducible refine Kd.C_drewN ?_ _) | (with_reducible refine Kd.C_drew ?_)))
                  (case side4 => exact (Kd.V_reads' HO_1.out).2.1)
                  rintro e w43 ⟨v184, rfl, ho0, hb⟩
                  refine ⟨_, rfl, ?_⟩
                  have n0_ := Aside0.mk (Kd.V_elder' (by (with_reducible repeat (first | apply Kd.V_alloc | apply Kd.V_drewN | apply Kd.V_drew)); exact HO_0.out) (Kd.R_base ho0) hb)
                  have n1_ := Aside0.mk (Kd.V_elder' (by (with_reducible repeat (first | apply Kd.V_alloc | apply Kd.V_drewN | apply Kd.V_drew)); exact HO_1.out) (Kd.R_base ho0) hb)
                  have n2_ := Aside0.mk (Kd.R_elder' (by (with_reducible repeat (first | apply Kd.R_alloc | apply Kd.R_drewN | apply Kd.R_drew)); exact HO166.out) (Kd.R_base ho0) hb)
                  have n3_ := Aside0.mk (Kd.R_elder' (by (with_reducible repeat (first | apply Kd.R_alloc | apply Kd.R_drewN | apply Kd.R_drew)); exact HO169.out) (Kd.R_base ho0) hb)
                  have n4_ := Aside0.mk (Kd.R_elder' (by (with_reducible repeat (first | apply Kd.R_alloc | apply Kd.R_drewN | apply Kd.R_drew)); exact HO172.out) (Kd.R_base ho0) hb)
                  have n5_ := Aside0.mk (Kd.N_elder' (by (with_reducible repeat (first | apply Kd.N_alloc | apply Kd.N_drewN | apply Kd.N_drew)); exact HO175.out) (Kd.R_base ho0) hb)
                  have n6_ := Aside0.mk (Kd.R_elder' (by (with_reducible repeat (first | apply Kd.R_alloc | apply Kd.R_drewN | apply Kd.R_drew)); exact HO178.out) (Kd.R_base ho0) hb)
                  have n7_ := Aside0.mk (Kd.R_elder' (by (with_reducible repeat (first | apply Kd.R_alloc | apply Kd.R_drewN | apply Kd.R_drew)); exact HO181.out) (Kd.R_base ho0) hb)
                  have n8_ := Aside0.mk (Kd.R_lower (Kd.R_new' (Kd.R_new' (Kd.R_new' (Kd.R_new' (Kd.R_new' (Kd.R_newM (M := fun k_ => (w.heap.size ≤ k_)) ho0 (below_size (by repeat (first | (with_reducible first | exact HB.out | apply below_alloc | apply pw_below_drewN | apply below_drew1) | exact HB.out))) (fun k_ h_ => h_)) (Kd.R_lt (by (with_reducible repeat (first | apply Kd.R_alloc | apply Kd.R_drewN | apply Kd.R_drew)); exact HO166.out))) (Kd.R_lt (by (with_reducible repeat (first | apply Kd.R_alloc | apply Kd.R_drewN | apply Kd.R_drew)); exact HO169.out))) (Kd.R_lt (by (with_reducible repeat (first | apply Kd.R_alloc | apply Kd.R_drewN | apply Kd.R_drew)); exact HO172.out))) (Kd.R_lt (by (with_reducible repeat (first | apply Kd.R_alloc | apply Kd.R_drewN | apply Kd.R_drew)); exact HO178.out))) (Kd.R_lt (by (with_reducible repeat (first | apply Kd.R_alloc | apply Kd.R_drewN | apply Kd.R_drew)); exact HO181.out))) (below_size (by repeat (first | (with_reducible first | exact HB.out | apply below_alloc | apply pw_below_drewN | apply below_drew1) | exact HB.out))))
                  have n9_ := Aside0.mk (below_step (by repeat (first | (with_reducible first | exact HB.out | apply below_alloc | apply pw_below_drewN | apply below_drew1) | exact HB.out)) hb)
                  clear HO_0
                  clear HO_1
                  clear HO166
                  clear HO169
                  clear HO172
                  clear HO175
                  clear HO178
                  clear HO181
                  clear HB
                  have HO_0 := n0_
                  have HO_1 := n1_
                  have HO166 := n2_
                  have HO169 := n3_
                  have HO172 := n4_
                  have HO175 := n5_
                  have HO178 := n6_
                  have HO181 := n7_
                  have HO185 := n8_
                  have HB := n9_
                  clear n0_ n1_ n2_ n3_ n4_ n5_ n6_ n7_ n8_ n9_
                  (try clear hb)
                  (try clear hb2)
                  (try clear hk)
                  (try clear hi)
                  (try clear ho0)
                  have q46 : ((ji11) : Int) ≤ ((l0.length : Int) : Int) := of_decide_eq_true (by first | (with_reducible assumption) | assumption)
                  obtain ⟨i046, hi046, _, hsz46, _⟩ := info_parts info5
                  have hroom46 : l0.length ≤ c0 := (Kd.V_reads' HO_0.out).2.1
                  have hC46 : Kd.F (Kd.int .u8) _ _ A0 l0.length l0 := (Kd.V_at (base := w.heap.size) HO_0.out).2.2
                  have hcut46 := cut_to (P := Try.prog) 28 5 .i64 Try.underlying28 hi046 A0 l0.length c0 (ji11) (of_decide_eq_true (by first | (with_reducible assumption) | assumption)) q46 hroom46
                  have hr46 := Kd.F_take (m := ((ji11) : Int).toNat) hC46 (by omega)
                  have hy46 : y186.length = ((ji11) : Int).toNat := (by rw [Ny186.out, List.length_take]; omega)
                  rw [← Ny186.out] at hr46
                  rw [← hy46] at hcut46
                  have HO190 := Aside0.mk (show Kd.V (Kd.int .u8) 5 _ w.heap.size _ (.slice A0 y186.length c0) y186 from Kd.V_mk (by omega) hr46)
                  have HC190 := Aside0.mk (show y186.length ≤ c0 from by omega)
                  clear hr46 hC46 hroom46 hi046 hsz46
                  have KY46 := Aside0.mk hy46
                  clear hy46
                  replace q46 := eq_true q46
                  refine hK.out _ _ ⟨(own_string (P := Try.prog) Try.underlying28 Try.underlying5 Try.underlying9 (Kd.own_of_R (by (with_reducible repeat (first | apply Kd.R_alloc | apply Kd.R_drewN | apply Kd.R_drew)); exact HO169.out))), (own_string (P := Try.prog) Try.underlying28 Try.underlying5 Try.underlying9 (Kd.own_of_R (by (with_reducible repeat (first | apply Kd.R_alloc | apply Kd.R_drewN | apply Kd.R_drew)); exact HO172.out))), (Kd.C_string (P := Try.prog) (A := A0) (c := c0) Try.underlying28 Try.underlying5 Try.underlying9 ((Kd.V_reads' (e := 5) (base := w.heap.size) (by (with_reducible repeat (first | apply Kd.V_alloc | apply Kd.V_drewN | apply Kd.V_drew)); exact HO_0.out)).2.2)), (Kd.C_string (P := Try.prog) (A := Ao16) (c := co16) Try.underlying28 Try.underlying5 Try.underlying9 ((Kd.V_reads' (e := 5) (base := w.heap.size) (by (with_reducible repeat (first | apply Kd.V_alloc | apply Kd.V_drewN | apply Kd.V_drew)); exact HO_1.out)).2.2)), (own_string (P := Try.prog) Try.underlying28 Try.underlying5 Try.underlying9 (Kd.own_of_R (by (with_reducible repeat (first | apply Kd.R_alloc | apply Kd.R_drewN | apply Kd.R_drew)); exact HO178.out))), (Kd.C_string (P := Try.prog) (A := A0) (c := c0) Try.underlying28 Try.underlying5 Try.underlying9 ((Kd.V_reads' (e := 5) (base := w.heap.size) (by (with_reducible repeat (first | apply Kd.V_alloc | apply Kd.V_drewN | apply Kd.V_drew)); exact HO_0.out)).2.2)), (Kd.C_string (P := Try.prog) (A := Ao16) (c := co16) Try.underlying28 Try.underlying5 Try.underlying9 ((Kd.V_reads' (e := 5) (base := w.heap.size) (by (with_reducible repeat (first | apply Kd.V_alloc | apply Kd.V_drewN | apply Kd.V_drew)); exact HO_1.out)).2.2)), (own_string (P := Try.prog) Try.underlying28 Try.underlying5 Try.underlying9 (Kd.own_of_R (by (with_reducible repeat (first | apply Kd.R_alloc | apply Kd.R_drewN | apply Kd.R_drew)); exact HO181.out))), (Kd.C_string (P := Try.prog) (A := A0) (c := c0) Try.underlying28 Try.underlying5 Try.underlying9 ((Kd.V_reads' (e := 5) (base := w.heap.size) (by (with_reducible repeat (first | apply Kd.V_alloc | apply Kd.V_drewN | apply Kd.V_drew)); exact HO_0.out)).2.2))⟩ (fun hHeld => ?_)
                  clear hK K
                  refine norm_ (a' := ?_) ?_ ?_
                  rotate_left
                  · show Act.put _ (some 48) _ = _
                    simp only [Act.put, List.setIfInBounds_toArray, List.set_cons_zero, List.set_cons_succ, i64_w, i32_w]
                    rfl
                  refine one_ (i := 8) (N := some 49) (bset 48 511) rfl rfl (one_of HT_.out (by kernel_rfl)) (by decide) (fun K hK => ?_)
                  have hcv44 := own_string (P := Try.prog) Try.underlying28 Try.underlying5 Try.underlying9 (Kd.own_of_R HO185.out)
                  refine value_ (w1 := ?_) (v := ?_) (by rfl) rfl ?_ ?_
                  rotate_left 2
                  · go_simp
                    constructor
                    · rfl
                    · rfl
                  clear hcv44
                  refine hK.out _ _ ⟨(own_string (P := Try.prog) Try.underlying28 Try.underlying5 Try.underlying9 (Kd.own_of_R (by (with_reducible repeat (first | apply Kd.R_alloc | apply Kd.R_drewN | apply Kd.R_drew)); exact HO169.out))), (own_string (P := Try.prog) Try.underlying28 Try.underlying5 Try.underlying9 (Kd.own_of_R (by (with_reducible repeat (first | apply Kd.R_alloc | apply Kd.R_drewN | apply Kd.R_drew)); exact HO172.out))), (Kd.C_string (P := Try.prog) (A := A0) (c := c0) Try.underlying28 Try.underlying5 Try.underlying9 ((Kd.V_reads' (e := 5) (base := w.heap.size) (by (with_reducible repeat (first | apply Kd.V_alloc | apply Kd.V_drewN | apply Kd.V_drew)); exact HO_0.out)).2.2)), (Kd.C_string (P := Try.prog) (A := Ao16) (c := co16) Try.underlying28 Try.underlying5 Try.underlying9 ((Kd.V_reads' (e := 5) (base := w.heap.size) (by (with_reducible repeat (first | apply Kd.V_alloc | apply Kd.V_drewN | apply Kd.V_drew)); exact HO_1.out)).2.2)), (own_string (P := Try.prog) Try.underlying28 Try.underlying5 Try.underlying9 (Kd.own_of_R (by (with_reducible repeat (first | apply Kd.R_alloc | apply Kd.R_drewN | apply Kd.R_drew)); exact HO178.out))), (Kd.C_string (P := Try.prog) (A := A0) (c := c0) Try.underlying28 Try.underlying5 Try.underlying9 ((Kd.V_reads' (e := 5) (base := w.heap.size) (by (with_reducible repeat (first | apply Kd.V_alloc | apply Kd.V_drewN | apply Kd.V_drew)); exact HO_0.out)).2.2)), (Kd.C_string (P := Try.prog) (A := Ao16) (c := co16) Try.underlying28 Try.underlying5 Try.underlying9 ((Kd.V_reads' (e := 5) (base := w.heap.size) (by (with_reducible repeat (first | apply Kd.V_alloc | apply Kd.V_drewN | apply Kd.V_drew)); exact HO_1.out)).2.2)), (own_string (P := Try.prog) Try.underlying28 Try.underlying5 Try.underlying9 (Kd.own_of_R (by (with_reducible repeat (first | apply Kd.R_alloc | apply Kd.R_drewN | apply Kd.R_drew)); exact HO181.out))), (Kd.C_string (P := Try.prog) (A := A0) (c := c0) Try.underlying28 Try.underlying5 Try.underlying9 ((Kd.V_reads' (e := 5) (base := w.heap.size) (by (with_reducible repeat (first | apply Kd.V_alloc | apply Kd.V_drewN | apply Kd.V_drew)); exact HO_0.out)).2.2))⟩ (fun hHeld => ?_)
                  clear hK K
                  refine norm_ (a' := ?_) ?_ ?_
                  rotate_left
                  · show Act.put _ (some 49) _ = _
                    simp only [Act.put, List.setIfInBounds_toArray, List.set_cons_zero, List.set_cons_succ, i64_w, i32_w]
                    rfl
                  refine pure_ (i := 9) (N := some 50) (v := ?_) (a' := ?_) (bset 48 1023) rfl rfl (any_of HT_.out (by kernel_rfl)) (fun _ _ _ h => h) (Or.inl ⟨by rfl, ?_⟩) ?_ ?_; rotate_left; (focus intro w'; go_simp; with_reducible rfl); rotate_left; (focus simp only [Act.put, sA_, sZ_, sS_, i64_w, i32_w]; rfl)
                  refine pure_ (i := 10) (N := some 51) (v := ?_) (a' := ?_) (bset 48 2047) rfl rfl (any_of HT_.out (by kernel_rfl)) (fun _ _ _ h => h) (Or.inl ⟨by rfl, ?_⟩) ?_ ?_; rotate_left; (focus intro w'; go_simp; with_reducible rfl); rotate_left; (focus simp only [Act.put, sA_, sZ_, sS_, i64_w, i32_w]; rfl)
                  refine pure_ (i := 11) (N := some 52) (v := ?_) (a' := ?_) (bset 48 4095) rfl rfl (any_of HT_.out (by kernel_rfl)) (fun _ _ _ h => h) (Or.inl ⟨by rfl, ?_⟩) ?_ ?_; rotate_left; (focus intro w'; go_simp; with_reducible rfl); rotate_left; (focus simp only [Act.put, sA_, sZ_, sS_, i64_w, i32_w]; rfl)
                  refine pure_ (i := 12) (N := some 53) (v := ?_) (a' := ?_) (bset 48 8191) rfl rfl (any_of HT_.out (by kernel_rfl)) (fun _ _ _ h => h) (Or.inl ⟨by rfl, ?_⟩) ?_ ?_; rotate_left; (focus intro w'; go_simp; with_reducible rfl); rotate_left; (focus simp only [Act.put, sA_, sZ_, sS_, i64_w, i32_w]; rfl)
                  refine pure_ (i := 14) (N := some 55) (v := ?_) (a' := ?_) (bset 48 24575) rfl rfl (any_of HT_.out (by kernel_rfl)) (fun _ _ _ h => h) (Or.inl ⟨by rfl, ?_⟩) ?_ ?_; rotate_left; (focus intro w'; go_simp; with_reducible rfl); rotate_left; (focus simp only [Act.put, sA_, sZ_, sS_, i64_w, i32_w]; rfl)
                  refine pure_ (i := 15) (N := some 56) (v := ?_) (a' := ?_) (bset 48 57343) rfl rfl (any_of HT_.out (by kernel_rfl)) (fun _ _ _ h => h) (Or.inl ⟨by rfl, ?_⟩) ?_ ?_; rotate_left; (focus intro w'; go_simp; with_reducible rfl); rotate_left; (focus simp only [Act.put, sA_, sZ_, sS_, i64_w, i32_w]; rfl)
                  refine pure_ (i := 16) (N := some 57) (v := ?_) (a' := ?_) (bset 48 122879) rfl rfl (any_of HT_.out (by kernel_rfl)) (fun _ _ _ h => h) (Or.inl ⟨by rfl, ?_⟩) ?_ ?_; rotate_left; (focus intro w'; go_simp; with_reducible rfl); rotate_left; (focus simp only [Act.put, sA_, sZ_, sS_, i64_w, i32_w]; rfl)
                  refine take_ (i := 13) (N := some 54) (v := ?_) (a' := ?_) (bset 48 131071) rfl rfl (take_ofW HT_.out HW_.out (by kernel_rfl)) (fun _ _ _ h => h) (Or.inl ⟨by rfl, ?_⟩) hHeld ?_ ?_; rotate_left; (focus rintro w' ⟨s0, s1, s2, s3, s4, s5, s6, s7, s8⟩; go_simp; with_reducible rfl); rotate_left; (focus simp only [Act.put, sA_, sZ_, sS_, i64_w, i32_w]; rfl)
                  refine one_ (i := 17) (N := some 58) (bset 48 262143) rfl rfl (one_of HT_.out (by kernel_rfl)) (by decide) (fun K hK => ?_)
                  have hcv47 := Kd.C_string (P := Try.prog) (A := A0) (c := c0) Try.underlying28 Try.underlying5 Try.underlying9 (Kd.V_reads' (e := 5) (base := w.heap.size) (HO190.out)).2.2
                  refine value_ (w1 := ?_) (v := ?_) (by rfl) rfl ?_ ?_
                  rotate_left 2
                  · go_simp
                    constructor
                    · rfl
                    · rfl
                  clear hcv47
                  refine hK.out _ _ ⟨(own_string (P := Try.prog) Try.underlying28 Try.underlying5 Try.underlying9 (Kd.own_of_R (by (with_reducible repeat (first | apply Kd.R_alloc | apply Kd.R_drewN | apply Kd.R_drew)); exact HO169.out))), (own_string (P := Try.prog) Try.underlying28 Try.underlying5 Try.underlying9 (Kd.own_of_R (by (with_reducible repeat (first | apply Kd.R_alloc | apply Kd.R_drewN | apply Kd.R_drew)); exact HO172.out))), (Kd.C_string (P := Try.prog) (A := A0) (c := c0) Try.underlying28 Try.underlying5 Try.underlying9 ((Kd.V_reads' (e := 5) (base := w.heap.size) (by (with_reducible repeat (first | apply Kd.V_alloc | apply Kd.V_drewN | apply Kd.V_drew)); exact HO_0.out)).2.2)), (Kd.C_string (P := Try.prog) (A := Ao16) (c := co16) Try.underlying28 Try.underlying5 Try.underlying9 ((Kd.V_reads' (e := 5) (base := w.heap.size) (by (with_reducible repeat (first | apply Kd.V_alloc | apply Kd.V_drewN | apply Kd.V_drew)); exact HO_1.out)).2.2)), (own_string (P := Try.prog) Try.underlying28 Try.underlying5 Try.underlying9 (Kd.own_of_R (by (with_reducible repeat (first | apply Kd.R_alloc | apply Kd.R_drewN | apply Kd.R_drew)); exact HO178.out))), (Kd.C_string (P := Try.prog) (A := A0) (c := c0) Try.underlying28 Try.underlying5 Try.underlying9 ((Kd.V_reads' (e := 5) (base := w.heap.size) (by (with_reducible repeat (first | apply Kd.V_alloc | apply Kd.V_drewN | apply Kd.V_drew)); exact HO_0.out)).2.2)), (Kd.C_string (P := Try.prog) (A := Ao16) (c := co16) Try.underlying28 Try.underlying5 Try.underlying9 ((Kd.V_reads' (e := 5) (base := w.heap.size) (by (with_reducible repeat (first | apply Kd.V_alloc | apply Kd.V_drewN | apply Kd.V_drew)); exact HO_1.out)).2.2)), (own_string (P := Try.prog) Try.underlying28 Try.underlying5 Try.underlying9 (Kd.own_of_R (by (with_reducible repeat (first | apply Kd.R_alloc | apply Kd.R_drewN | apply Kd.R_drew)); exact HO181.out))), (Kd.C_string (P := Try.prog) (A := A0) (c := c0) Try.underlying28 Try.underlying5 Try.underlying9 ((Kd.V_reads' (e := 5) (base := w.heap.size) (by (with_reducible repeat (first | apply Kd.V_alloc | apply Kd.V_drewN | apply Kd.V_drew)); exact HO_0.out)).2.2))⟩ (fun hHeld => ?_)
                  clear hK K
                  refine norm_ (a' := ?_) ?_ ?_
                  rotate_left
                  · show Act.put _ (some 58) _ = _
                    simp only [Act.put, List.setIfInBounds_toArray, List.set_cons_zero, List.set_cons_succ, i64_w, i32_w]
                    rfl
                  refine pure_ (i := 18) (N := some 59) (v := ?_) (a' := ?_) (bset 48 524287) rfl rfl (any_of HT_.out (by kernel_rfl)) (fun _ _ _ h => h) (Or.inl ⟨by rfl, ?_⟩) ?_ ?_; rotate_left; (focus intro w'; go_simp; with_reducible rfl); rotate_left; (focus simp only [Act.put, sA_, sZ_, sS_, i64_w, i32_w]; rfl)
                  refine pure_ (i := 19) (N := some 60) (v := ?_) (a' := ?_) (bset 48 1048575) rfl rfl (any_of HT_.out (by kernel_rfl)) (fun _ _ _ h => h) (Or.inl ⟨by rfl, ?_⟩) ?_ ?_; rotate_left; (focus intro w'; go_simp; with_reducible rfl); rotate_left; (focus simp only [Act.put, sA_, sZ_, sS_, i64_w, i32_w]; rfl)
                  refine pure_ (i := 20) (N := some 61) (v := ?_) (a' := ?_) (bset 48 2097151) rfl rfl (any_of HT_.out (by kernel_rfl)) (fun _ _ _ h => h) (Or.inl ⟨by rfl, ?_⟩) ?_ ?_; rotate_left; (focus intro w'; go_simp; with_reducible rfl); rotate_left; (focus simp only [Act.put, sA_, sZ_, sS_, i64_w, i32_w]; rfl)
                  refine pure_ (i := 21) (N := some 62) (v := ?_) (a' := ?_) (bset 48 4194303) rfl rfl (any_of HT_.out (by kernel_rfl)) (fun _ _ _ h => h) (Or.inl ⟨by rfl, ?_⟩) ?_ ?_; rotate_left; (focus intro w'; go_simp; with_reducible rfl); rotate_left; (focus simp only [Act.put, sA_, sZ_, sS_, i64_w, i32_w]; rfl)
                  refine pure_ (i := 22) (N := some 63) (v := ?_) (a' := ?_) (bset 48 8388607) rfl rfl (any_of HT_.out (by kernel_rfl)) (fun _ _ _ h => h) (Or.inl ⟨by rfl, ?_⟩) ?_ ?_; rotate_left; (focus intro w'; go_simp; with_reducible rfl); rotate_left; (focus simp only [Act.put, sA_, sZ_, sS_, i64_w, i32_w]; rfl)
                  refine pure_ (i := 24) (N := some 65) (v := ?_) (a' := ?_) (bset 48 25165823) rfl rfl (any_of HT_.out (by kernel_rfl)) (fun _ _ _ h => h) (Or.inl ⟨by rfl, ?_⟩) ?_ ?_; rotate_left; (focus intro w'; go_simp; with_reducible rfl); rotate_left; (focus simp only [Act.put, sA_, sZ_, sS_, i64_w, i32_w]; rfl)
                  refine pure_ (i := 26) (N := some 67) (v := ?_) (a' := ?_) (bset 48 92274687) rfl rfl (any_of HT_.out (by kernel_rfl)) (fun _ _ _ h => h) (Or.inl ⟨by rfl, ?_⟩) ?_ ?_; rotate_left; (focus intro w'; go_simp; with_reducible rfl); rotate_left; (focus simp only [Act.put, sA_, sZ_, sS_, i64_w, i32_w]; rfl)
                  refine take_ (i := 25) (N := some 66) (v := ?_) (a' := ?_) (bset 48 125829119) rfl rfl (take_ofW HT_.out HW_.out (by kernel_rfl)) (fun _ _ _ h => h) (Or.inl ⟨by rfl, ?_⟩) hHeld ?_ ?_; rotate_left; (focus rintro w' ⟨s0, s1, s2, s3, s4, s5, s6, s7, s8⟩; go_simp; with_reducible rfl); rotate_left; (focus simp only [Act.put, sA_, sZ_, sS_, i64_w, i32_w]; rfl)
                  refine take_ (i := 27) (N := some 68) (v := ?_) (a' := ?_) (bset 48 260046847) rfl rfl (take_ofW HT_.out HW_.out (by kernel_rfl)) (fun _ _ _ h => h) (Or.inl ⟨by rfl, ?_⟩) hHeld ?_ ?_; rotate_left; (focus rintro w' ⟨s0, s1, s2, s3, s4, s5, s6, s7, s8⟩; go_simp; with_reducible rfl); rotate_left; (focus simp only [Act.put, sA_, sZ_, sS_, i64_w, i32_w]; rfl)
                  refine pure_ (i := 28) (N := some 69) (v := ?_) (a' := ?_) (bset 48 528482303) rfl rfl (any_of HT_.out (by kernel_rfl)) (fun _ _ _ h => h) (Or.inl ⟨by rfl, ?_⟩) ?_ ?_; rotate_left; (focus intro w'; go_simp; with_reducible rfl); rotate_left; (focus simp only [Act.put, sA_, sZ_, sS_, i64_w, i32_w]; rfl)
                  refine one_ (i := 23) (N := some 64) (bset 48 536870911) rfl rfl (one_of HT_.out (by kernel_rfl)) (by decide) (fun K hK => ?_)
                  refine goes_ Try.func23 (by kernel_rfl) rfl #[.slice A0 l0.length c0, .slice Ao16 x1_3.length co16] (by rfl) rfl rfl (by (try simp only [List.map_toArray, List.map_cons, List.map_nil]); first | done | rfl | (simp only [List.length_drop, List.length_take]; rfl) | (go_simp; done)) ?_
                  with_reducible refine (octet_Same.calls kj3 _ _ l0 _ _ x1_3 t191 _ ?side1 ?side2 ?side3 ?side4 A32.out).mono ?_
                  (case side1 => repeat (first | exact (Kd.V_reads' HO_0.out).2.2 | (with_reducible refine Kd.C_alloc ?_ _) | (with_reducible refine Kd.C_drewN ?_ _) | (with_reducible refine Kd.C_drew ?_)))
                  (case side2 => exact (Kd.V_reads' HO_0.out).2.1)
                  (case side3 => repeat (first | exact (Kd.V_reads' HO_1.out).2.2 | (with_reducible refine Kd.C_alloc ?_ _) | (with_reducible refine Kd.C_drewN ?_ _) | (with_reducible refine Kd.C_drew ?_)))
                  (case side4 => exact (Kd.V_reads' HO_1.out).2.1)
                  rintro e w' ⟨rfl, ⟨nd, rfl⟩⟩
                  refine ⟨_, rfl, ?_⟩
                  refine hK.out _ _ ⟨(own_string (P := Try.prog) Try.underlying28 Try.underlying5 Try.underlying9 (Kd.own_of_R (by (with_reducible repeat (first | apply Kd.R_alloc | apply Kd.R_drewN | apply Kd.R_drew)); exact HO169.out))), (own_string (P := Try.prog) Try.underlying28 Try.underlying5 Try.underlying9 (Kd.own_of_R (by (with_reducible repeat (first | apply Kd.R_alloc | apply Kd.R_drewN | apply Kd.R_drew)); exact HO172.out))), (Kd.C_string (P := Try.prog) (A := A0) (c := c0) Try.underlying28 Try.underlying5 Try.underlying9 ((Kd.V_reads' (e := 5) (base := w.heap.size) (by (with_reducible repeat (first | apply Kd.V_alloc | apply Kd.V_drewN | apply Kd.V_drew)); exact HO_0.out)).2.2)), (Kd.C_string (P := Try.prog) (A := Ao16) (c := co16) Try.underlying28 Try.underlying5 Try.underlying9 ((Kd.V_reads' (e := 5) (base := w.heap.size) (by (with_reducible repeat (first | apply Kd.V_alloc | apply Kd.V_drewN | apply Kd.V_drew)); exact HO_1.out)).2.2)), (own_string (P := Try.prog) Try.underlying28 Try.underlying5 Try.underlying9 (Kd.own_of_R (by (with_reducible repeat (first | apply Kd.R_alloc | apply Kd.R_drewN | apply Kd.R_drew)); exact HO178.out))), (Kd.C_string (P := Try.prog) (A := A0) (c := c0) Try.underlying28 Try.underlying5 Try.underlying9 ((Kd.V_reads' (e := 5) (base := w.heap.size) (by (with_reducible repeat (first | apply Kd.V_alloc | apply Kd.V_drewN | apply Kd.V_drew)); exact HO_0.out)).2.2)), (Kd.C_string (P := Try.prog) (A := Ao16) (c := co16) Try.underlying28 Try.underlying5 Try.underlying9 ((Kd.V_reads' (e := 5) (base := w.heap.size) (by (with_reducible repeat (first | apply Kd.V_alloc | apply Kd.V_drewN | apply Kd.V_drew)); exact HO_1.out)).2.2)), (own_string (P := Try.prog) Try.underlying28 Try.underlying5 Try.underlying9 (Kd.own_of_R (by (with_reducible repeat (first | apply Kd.R_alloc | apply Kd.R_drewN | apply Kd.R_drew)); exact HO181.out))), (Kd.C_string (P := Try.prog) (A := A0) (c := c0) Try.underlying28 Try.underlying5 Try.underlying9 ((Kd.V_reads' (e := 5) (base := w.heap.size) (by (with_reducible repeat (first | apply Kd.V_alloc | apply Kd.V_drewN | apply Kd.V_drew)); exact HO_0.out)).2.2))⟩ (fun hHeld => ?_)
                  clear hK K
                  refine norm_ (a' := ?_) ?_ ?_
                  rotate_left
                  · show Act.put _ (some 64) _ = _
                    simp only [Act.put, List.setIfInBounds_toArray, List.set_cons_zero, List.set_cons_succ, i64_w, i32_w]
                    rfl
                  refine pure_ (i := 29) (N := some 70) (v := ?_) (a' := ?_) (bset 48 1073741823) rfl rfl (any_of HT_.out (by kernel_rfl)) (fun _ _ _ h => h) (Or.inl ⟨by rfl, ?_⟩) ?_ ?_; rotate_left; (focus intro w'; go_simp; with_reducible rfl); rotate_left; (focus simp only [Act.put, sA_, sZ_, sS_, i64_w, i32_w]; rfl)
                  refine pure_ (i := 30) (N := some 71) (v := ?_) (a' := ?_) (bset 48 2147483647) rfl rfl (any_of HT_.out (by kernel_rfl)) (fun _ _ _ h => h) (Or.inl ⟨by rfl, ?_⟩) ?_ ?_; rotate_left; (focus intro w'; go_simp; with_reducible rfl); rotate_left; (focus simp only [Act.put, sA_, sZ_, sS_, i64_w, i32_w]; rfl)
                  refine pure_ (i := 31) (N := some 72) (v := ?_) (a' := ?_) (bset 48 4294967295) rfl rfl (any_of HT_.out (by kernel_rfl)) (fun _ _ _ h => h) (Or.inl ⟨by rfl, ?_⟩) ?_ ?_; rotate_left; (focus intro w'; go_simp; with_reducible rfl); rotate_left; (focus simp only [Act.put, sA_, sZ_, sS_, i64_w, i32_w]; rfl)
                  refine pure_ (i := 32) (N := some 73) (v := ?_) (a' := ?_) (bset 48 8589934591) rfl rfl (any_of HT_.out (by kernel_rfl)) (fun _ _ _ h => h) (Or.inl ⟨by rfl, ?_⟩) ?_ ?_; rotate_left; (focus intro w'; go_simp; with_reducible rfl); rotate_left; (focus simp only [Act.put, sA_, sZ_, sS_, i64_w, i32_w]; rfl)
                  refine pure_ (i := 34) (N := some 75) (v := ?_) (a' := ?_) (bset 48 25769803775) rfl rfl (any_of HT_.out (by kernel_rfl)) (fun _ _ _ h => h) (Or.inl ⟨by rfl, ?_⟩) ?_ ?_; rotate_left; (focus intro w'; go_simp; with_reducible rfl); rotate_left; (focus simp only [Act.put, sA_, sZ_, sS_, i64_w, i32_w]; rfl)
                  refine pure_ (i := 36) (N := some 77) (v := ?_) (a' := ?_) (bset 48 94489280511) rfl rfl (any_of HT_.out (by kernel_rfl)) (fun _ _ _ h => h) (Or.inl ⟨by rfl, ?_⟩) ?_ ?_; rotate_left; (focus intro w'; go_simp; with_reducible rfl); rotate_left; (focus simp only [Act.put, sA_, sZ_, sS_, i64_w, i32_w]; rfl)
                  refine take_ (i := 33) (N := some 74) (v := ?_) (a' := ?_) (bset 48 103079215103) rfl rfl (take_ofW HT_.out HW_.out (by kernel_rfl)) (fun _ _ _ h => h) (Or.inl ⟨by rfl, ?_⟩) hHeld ?_ ?_; rotate_left; (focus rintro w' ⟨s0, s1, s2, s3, s4, s5, s6, s7, s8⟩; go_simp; with_reducible rfl); rotate_left; (focus simp only [Act.put, sA_, sZ_, sS_, i64_w, i32_w]; rfl)
                  refine take_ (i := 35) (N := some 76) (v := ?_) (a' := ?_) (bset 48 137438953471) rfl rfl (take_ofW HT_.out HW_.out (by kernel_rfl)) (fun _ _ _ h => h) (Or.inl ⟨by rfl, ?_⟩) hHeld ?_ ?_; rotate_left; (focus rintro w' ⟨s0, s1, s2, s3, s4, s5, s6, s7, s8⟩; go_simp; with_reducible rfl); rotate_left; (focus simp only [Act.put, sA_, sZ_, sS_, i64_w, i32_w]; rfl)
                  refine take_ (i := 37) (N := some 78) (v := ?_) (a' := ?_) (bset 48 274877906943) rfl rfl (take_ofW HT_.out HW_.out (by kernel_rfl)) (fun _ _ _ h => h) (Or.inl ⟨by rfl, ?_⟩) hHeld ?_ ?_; rotate_left; (focus rintro w' ⟨s0, s1, s2, s3, s4, s5, s6, s7, s8⟩; go_simp; with_reducible rfl); rotate_left; (focus simp only [Act.put, sA_, sZ_, sS_, i64_w, i32_w]; rfl)
                  refine pure_ (i := 38) (N := some 79) (v := ?_) (a' := ?_) (bset 48 549755813887) rfl rfl (any_of HT_.out (by kernel_rfl)) (fun _ _ _ h => h) (Or.inl ⟨by rfl, ?_⟩) ?_ ?_; rotate_left; (focus intro w'; go_simp; with_reducible rfl); rotate_left; (focus simp only [Act.put, sA_, sZ_, sS_, i64_w, i32_w]; rfl)
                  refine pure_ (i := 39) (N := some 80) (v := ?_) (a' := ?_) (bset 48 1099511627775) rfl rfl (any_of HT_.out (by kernel_rfl)) (fun _ _ _ h => h) (Or.inl ⟨by rfl, ?_⟩) ?_ ?_; rotate_left; (focus intro w'; go_simp; with_reducible rfl); rotate_left; (focus simp only [Act.put, sA_, sZ_, sS_, i64_w, i32_w]; rfl)
                  refine pure_ (i := 40) (N := some 81) (v := ?_) (a' := ?_) (bset 48 2199023255551) rfl rfl (any_of HT_.out (by kernel_rfl)) (fun _ _ _ h => h) (Or.inl ⟨by rfl, ?_⟩) ?_ ?_; rotate_left; (focus intro w'; go_simp; with_reducible rfl); rotate_left; (focus simp only [Act.put, sA_, sZ_, sS_, i64_w, i32_w]; rfl)
                  refine pure_ (i := 41) (N := some 82) (v := ?_) (a' := ?_) (bset 48 4398046511103) rfl rfl (any_of HT_.out (by kernel_rfl)) (fun _ _ _ h => h) (Or.inl ⟨by rfl, ?_⟩) ?_ ?_; rotate_left; (focus intro w'; go_simp; with_reducible rfl); rotate_left; (focus simp only [Act.put, sA_, sZ_, sS_, i64_w, i32_w]; rfl)
                  refine pure_ (i := 42) (N := some 83) (v := ?_) (a' := ?_) (bset 48 8796093022207) rfl rfl (any_of HT_.out (by kernel_rfl)) (fun _ _ _ h => h) (Or.inl ⟨by rfl, ?_⟩) ?_ ?_; rotate_left; (focus intro w'; go_simp; with_reducible rfl); rotate_left; (focus simp only [Act.put, sA_, sZ_, sS_, i64_w, i32_w]; rfl)
                  refine pure_ (i := 44) (N := some 85) (v := ?_) (a' := ?_) (bset 48 26388279066623) rfl rfl (any_of HT_.out (by kernel_rfl)) (fun _ _ _ h => h) (Or.inl ⟨by rfl, ?_⟩) ?_ ?_; rotate_left; (focus intro w'; go_simp; with_reducible rfl); rotate_left; (focus simp only [Act.put, sA_, sZ_, sS_, i64_w, i32_w]; rfl)
                  refine take_ (i := 43) (N := some 84) (v := ?_) (a' := ?_) (bset 48 35184372088831) rfl rfl (take_ofW HT_.out HW_.out (by kernel_rfl)) (fun _ _ _ h => h) (Or.inl ⟨by rfl, ?_⟩) hHeld ?_ ?_; rotate_left; (focus rintro w' ⟨s0, s1, s2, s3, s4, s5, s6, s7, s8⟩; go_simp; with_reducible rfl); rotate_left; (focus simp only [Act.put, sA_, sZ_, sS_, i64_w, i32_w]; rfl)
                  refine take_ (i := 45) (N := some 86) (v := ?_) (a' := ?_) (bset 48 70368744177663) rfl rfl (take_ofW HT_.out HW_.out (by kernel_rfl)) (fun _ _ _ h => h) (Or.inl ⟨by rfl, ?_⟩) hHeld ?_ ?_; rotate_left; (focus rintro w' ⟨s0, s1, s2, s3, s4, s5, s6, s7, s8⟩; go_simp; with_reducible rfl); rotate_left; (focus simp only [Act.put, sA_, sZ_, sS_, i64_w, i32_w]; rfl)
                  refine pure_ (i := 46) (N := some 87) (v := ?_) (a' := ?_) (bset 48 140737488355327) rfl rfl (any_of HT_.out (by kernel_rfl)) (fun _ _ _ h => h) (Or.inl ⟨by rfl, ?_⟩) ?_ ?_; rotate_left; (focus intro w'; go_simp; with_reducible rfl); rotate_left; (focus simp only [Act.put, sA_, sZ_, sS_, i64_w, i32_w]; rfl)
                  refine pure_ (i := 47) (N := some 88) (v := ?_) (a' := ?_) (bset 48 281474976710655) rfl rfl (any_of HT_.out (by kernel_rfl)) (fun _ _ _ h => h) (Or.inl ⟨by rfl, ?_⟩) ?_ ?_; rotate_left; (focus intro w'; go_simp; with_reducible rfl); rotate_left; (focus simp only [Act.put, sA_, sZ_, sS_, i64_w, i32_w]; rfl)
                  refine done_ (done_of HT_.out (by kernel_rfl)) ?_
                  try go_wp2
                  go_meet
                  case rel => exact ⟨_, (((strOfNums t179).toList != (strOfNums l0).toList)), (by first | rfl | (simp; done) | (simp [*]; done)), H', ⟨by have := HJ3.out; first | omega | exact Nat.le_refl _⟩, ⟨by (with_reducible repeat (first | apply Kd.V_alloc | apply Kd.V_drewN | apply Kd.V_drew)); exact Kd.V_mono HO_0.out (fun _ hk => ⟨hk.1.1.1.1.1.1.1, ⟨hk.1.1.1.1.1.1.2, ⟨hk.1.1.1.1.1.2, ⟨hk.1.1.2, hk.1.2⟩⟩⟩⟩)⟩, ⟨by (with_reducible repeat (first | apply Kd.R_alloc | apply Kd.R_drewN | apply Kd.R_drew)); exact Kd.R_mono HO166.out (fun _ hk => ⟨hk.1.1.1.1.1.1, ⟨hk.1.1.1.1.2, ⟨hk.1.1.2, hk.1.2⟩⟩⟩)⟩, ⟨by (with_reducible repeat (first | apply Kd.R_alloc | apply Kd.R_drewN | apply Kd.R_drew)); exact Kd.R_mono HO169.out (fun _ hk => ⟨hk.1.1.1.1.1.1, ⟨hk.1.1.1.1.2, ⟨hk.1.1.2, hk.1.2⟩⟩⟩)⟩, ⟨by (with_reducible repeat (first | apply Kd.R_alloc | apply Kd.R_drewN | apply Kd.R_drew)); exact Kd.R_mono HO178.out (fun _ hk => ⟨hk.1.1.1.1.1.1, ⟨hk.1.1.1.1.2, ⟨hk.1.1.1.2, hk.1.2⟩⟩⟩)⟩, ⟨by (with_reducible repeat (first | apply Kd.R_alloc | apply Kd.R_drewN | apply Kd.R_drew)); exact Kd.R_mono HO181.out (fun _ hk => ⟨hk.1.1.1.1.1.1, ⟨hk.1.1.1.1.2, ⟨hk.1.1.1.2, hk.1.2⟩⟩⟩)⟩, ⟨by repeat (first | (with_reducible first | exact HB.out | apply below_alloc | apply pw_below_drewN | apply below_drew1) | exact HB.out)⟩⟩
                · rw [if_neg c36] at H
                  have c36b0 : ((strOfNums t176).toList == ((strOfNums l0) ++ (strOfNums x1_3)).toList) = false := beq_eq_false_iff_ne.mpr c36
                  have c36b1 : ((strOfNums t176).toList != ((strOfNums l0) ++ (strOfNums x1_3)).toList) = true := bne_iff_ne.mpr c36
                  obtain rfl := hlaw.out
                  rcases kj3 with _ | kz55 <;> simp [portholelaw1_OctetXors.j1] at H
            · rw [if_neg c31] at H
              have c31b0 : ((strOfNums t170).toList == (strOfNums y186).toList) = false := beq_eq_false_iff_ne.mpr c31
              have c31b1 : ((strOfNums t170).toList != (strOfNums y186).toList) = true := bne_iff_ne.mpr c31
              obtain rfl := hlaw.out
              rcases kj3 with _ | kz56 <;> simp [portholelaw1_OctetXors.j1] at H
          · rw [if_neg c28] at H
            have c28b0 : ((strOfNums t167).toList == (strOfNums t183).toList) = false := beq_eq_false_iff_ne.mpr c28
            have c28b1 : ((strOfNums t167).toList != (strOfNums t183).toList) = true := bne_iff_ne.mpr c28
            (first | rw [c28b0] | (simp only [i64_w, i32_w]; rw [c28b0]) | skip)
            obtain rfl := hlaw.out
            rcases kj3 with _ | kz57 <;> simp [portholelaw1_OctetXors.j1] at H
        · replace c26 := Bool.eq_false_iff.mpr c26
          subst c26
          have H1 : (portholelaw1_OctetXors.j1 kj3 l0 t164 t167 t176 t179 true) = some r := by rw [if_neg (show ¬ (false = true) by decide)] at H; exact H
          clear H
          have H := H1
          clear H1
          obtain rfl := hlaw.out
          rcases kj3 with _ | kz58 <;> simp [portholelaw1_OctetXors.j1] at H
      case rest =>
        clear HC14
        try clear c2
        try clear p2
        try clear c3
        try clear q4
        try clear hcv4
        try clear c20
        try clear c23
        try clear c26
        try clear c28
        try clear c28b0
        try clear c28b1
        try clear c31
        try clear c31b0
        try clear c31b1
        try clear c33
        try clear c33b0
        try clear c33b1
        try clear c33b2
        try clear c35
        try clear c35b0
        try clear c35b1
        try clear c35b2
        try clear c36
        try clear c36b0
        try clear c36b1
        try clear hcv44
        try clear q46
        try clear hcv47
        try clear q46
        obtain ⟨kq, x88_13, rfl, HA, HJ13, HO_0, HO_7, HO_8, HO_11, HO_12, HB⟩ := hcut
        cases kq with
        | zero => exact absurd HA.out (by simp [portholelaw1_OctetXors.j1])
        | succ kj13 =>
          have H := HA.out
          clear HA
          simp only [portholelaw1_OctetXors.j1] at H
          by_cases c59 : x88_13 = true
          · subst c59
            have H1 : (some false) = some r := by rw [if_pos rfl] at H; exact H
            clear H
            have H := H1
            clear H1
            exact absurd ((Option.some.inj H).trans hlaw.out) (by decide)
          replace c59 := Bool.eq_false_iff.mpr c59
          subst c59
          have H1 : (portholelaw1_OctetXors.l0 kj13 l0 t164 t167 t176 t179 0) = some r := by rw [if_neg (show ¬ (false = true) by decide)] at H; exact H
          clear H
          have H := H1
          clear H1
          have H' := Aside0.mk H
          clear H
          go_wp2
          go_loopg [13] kj13 (fun kq v13 w' => ∃ (x11_3 : List Int) (x12_3 : List Int) (x13_3 : Int), v13 = .int .i64 x13_3 ∧ Aside0 (portholelaw1_OctetXors.l0 kq l0 t164 t167 x11_3 x12_3 x13_3 = some r) ∧ Aside0 (kq ≤ kj13) ∧ Aside0 (Kd.V (Kd.int .u8) 5 w' w.heap.size (fun k_ => ((P0_ k_ ∨ P1_ k_) ∨ w.heap.size ≤ k_) ∧ some k_ ≠ (v165 : Value).ownBlock ∧ some k_ ≠ ((.slice Ao18 t167.length co18) : Value).ownBlock ∧ some k_ ≠ (v177 : Value).ownBlock ∧ some k_ ≠ (v180 : Value).ownBlock) (.slice A0 l0.length c0) l0) ∧ Aside0 (Kd.R (Kd.int .u8) 5 w' w.heap.size (fun k_ => (w.heap.size ≤ k_) ∧ some k_ ≠ ((.slice Ao18 t167.length co18) : Value).ownBlock ∧ some k_ ≠ (v177 : Value).ownBlock ∧ some k_ ≠ (v180 : Value).ownBlock) v165 t164) ∧ Aside0 (Kd.R (Kd.int .u8) 5 w' w.heap.size (fun k_ => (w.heap.size ≤ k_) ∧ some k_ ≠ (v165 : Value).ownBlock ∧ some k_ ≠ (v177 : Value).ownBlock ∧ some k_ ≠ (v180 : Value).ownBlock) (.slice Ao18 t167.length co18) t167) ∧ Aside0 (Kd.R (Kd.int .u8) 5 w' w.heap.size (fun k_ => (w.heap.size ≤ k_) ∧ some k_ ≠ (v165 : Value).ownBlock ∧ some k_ ≠ ((.slice Ao18 t167.length co18) : Value).ownBlock ∧ some k_ ≠ (v180 : Value).ownBlock) v177 x11_3) ∧ Aside0 (Kd.R (Kd.int .u8) 5 w' w.heap.size (fun k_ => (w.heap.size ≤ k_) ∧ some k_ ≠ (v165 : Value).ownBlock ∧ some k_ ≠ ((.slice Ao18 t167.length co18) : Value).ownBlock ∧ some k_ ≠ (v177 : Value).ownBlock) v180 x12_3) ∧ Aside0 (Below w.heap.size w w'))
          case atStart => exact ⟨(t176), (t179), (0), (by first | rfl | (simp; done) | (simp [*]; done)), H', ⟨Nat.le_refl _⟩, ⟨by (with_reducible repeat (first | apply Kd.V_alloc | apply Kd.V_drewN | apply Kd.V_drew)); exact HO_0.out⟩, ⟨by (with_reducible repeat (first | apply Kd.R_alloc | apply Kd.R_drewN | apply Kd.R_drew)); exact HO_7.out⟩, ⟨by (with_reducible repeat (first | apply Kd.R_alloc | apply Kd.R_drewN | apply Kd.R_drew)); exact HO_8.out⟩, ⟨by (with_reducible repeat (first | apply Kd.R_alloc | apply Kd.R_drewN | apply Kd.R_drew)); exact HO_11.out⟩, ⟨by (with_reducible repeat (first | apply Kd.R_alloc | apply Kd.R_drewN | apply Kd.R_drew)); exact HO_12.out⟩, ⟨by repeat (first | (with_reducible first | exact HB.out | apply below_alloc | apply pw_below_drewN | apply below_drew1) | exact HB.out)⟩⟩
          case round =>
            clear H'
            try clear c2
            try clear p2
            try clear c3
            try clear q4
            try clear hcv4
            try clear c5
            try clear c20
            try clear c23
            try clear c26
            try clear c28
            try clear c28b0
            try clear c28b1
            try clear c31
            try clear c31b0
            try clear c31b1
            try clear c33
            try clear c33b0
            try clear c33b1
            try clear c33b2
            try clear c35
            try clear c35b0
            try clear c35b1
            try clear c35b2
            try clear c36
            try clear c36b0
            try clear c36b1
            try clear hcv44
            try clear q46
            try clear hcv47
            try clear c59
            try clear p2
            try clear q4
            try clear q46
            obtain ⟨x11_3, x12_3, x13_3, rfl, HA, HK3, HO_0, HO_7, HO_8, HO_11, HO_12, HB⟩ := hrel
            cases gk with
            | zero => exact absurd HA.out (by simp [portholelaw1_OctetXors.l0])
            | succ k3 =>
              have H := HA.out
              clear HA
              simp only [portholelaw1_OctetXors.l0] at H
              by_cases c60 : x13_3 < (x12_3.length : Int)
              · rw [if_pos c60] at H
                have c60b0 : decide (x13_3 < (x12_3.length : Int)) = true := decide_eq_true c60
                clear c60
                by_cases c61 : 0 ≤ x13_3
                rotate_left
                · rw [if_neg c61] at H
                  exact absurd H (by simp)
                rw [if_pos c61] at H
                have c61b0 : decide (0 ≤ x13_3) = true := decide_eq_true c61
                clear c61
                obtain ⟨y193, hy193⟩ : ∃ y_ : List Int, y_ = (x12_3.set (x13_3 : Int).toNat (Go.bits .xor .u8 (rd x12_3 x13_3) 1)) := ⟨_, rfl⟩
                replace H : (if x13_3 < (x11_3.length : Int) then (portholelaw1_OctetXors.l0 k3 l0 t164 t167 (x11_3.set (x13_3 : Int).toNat (Go.bits .xor .u8 (rd x11_3 x13_3) 1)) y193 (wrap64 (x13_3 + 1))) else (none)) = some r := by first | (rw [hy193]; with_reducible exact H) | (have H2_ := (Option.bind_some _ _).symm.trans H; rw [hy193]; with_reducible exact H2_) | (have H2_ := (Option.bind_some _ _).symm.trans H; with_reducible exact H2_) | with_reducible exact H | (rw [hy193]; exact H) | exact H
                have Ny193 := Aside0.mk hy193
                clear hy193
                by_cases c63 : x13_3 < (x11_3.length : Int)
                rotate_left
                · rw [if_neg c63] at H
                  exact absurd H (by simp)
                rw [if_pos c63] at H
                have c63b0 : decide (x13_3 < (x11_3.length : Int)) = true := decide_eq_true c63
                clear c63
                obtain ⟨y195, hy195⟩ : ∃ y_ : List Int, y_ = (x11_3.set (x13_3 : Int).toNat (Go.bits .xor .u8 (rd x11_3 x13_3) 1)) := ⟨_, rfl⟩
                replace H : (portholelaw1_OctetXors.l0 k3 l0 t164 t167 y195 y193 (wrap64 (x13_3 + 1))) = some r := by first | (rw [hy195]; with_reducible exact H) | (have H2_ := (Option.bind_some _ _).symm.trans H; rw [hy195]; with_reducible exact H2_) | (have H2_ := (Option.bind_some _ _).symm.trans H; with_reducible exact H2_) | with_reducible exact H | (rw [hy195]; exact H) | exact H
                have Ny195 := Aside0.mk hy195
                clear hy195
                have H' := Aside0.mk H
                clear H
                obtain ⟨Ao65, co65, eo65⟩ := Kd.R_slice HO_12.out
                subst eo65
                have p192 : 0 ≤ (x13_3 : Int) := of_decide_eq_true (by first | (with_reducible assumption) | assumption)
                have q192 : x13_3 < (x12_3.length : Int) := of_decide_eq_true (by first | (with_reducible assumption) | assumption)
                obtain ⟨ad192, e192, hx192_0⟩ := Kd.at_int (Kd.R_reads' HO_12.out).2.2 x13_3 p192 q192
                cases e192
                replace p192 := eq_true p192
                replace q192 := eq_true q192
                have p62 : 0 ≤ (x13_3 : Int) := of_decide_eq_true (by first | (with_reducible assumption) | assumption)
                have q62 : (x13_3 : Int) < ((x12_3.length : Int) : Int) := of_decide_eq_true (by first | (with_reducible assumption) | assumption)
                obtain ⟨go62, co62, eo62, gb62, gl62, cl62, HG62⟩ := Kd.R_form HO_12.out (by omega)
                (first | cases eo62 | (injection eo62 with ea_ en_ ec_; (first | subst ea_ | (injection ea_ with ea_; subst ea_)); subst ec_; clear en_))
                have GB62 := Aside0.mk gb62
                have GG62 := Aside0.mk HG62
                clear gb62 gl62 HG62
                (first | simp only [add_plain] at hx192_0 | skip)
                obtain ⟨hx62_0, hf62_0⟩ := Kd.R_celln 0 HO_12.out (x13_3 : Int) p62 q62
                replace p62 := eq_true p62
                replace q62 := eq_true q62
                have HP66 := Kd.R_putg HO_12.out (x13_3 : Int) (Go.bits .xor .u8 (rd x12_3 x13_3) 1)
                go_wp2_with (first | ((with_reducible refine gate_store (t := 5) (p := 102) rfl ?_); refine store_event (t := 5) (p := 102) (v := ?vo_w67) (w1 := (wr.setCell ⟨go62, (x13_3 : Int).toNat, none⟩ (.int .u8 (Go.bits .xor .u8 (rd x12_3 x13_3) 1)))) ?hg ?ho ?hn ?hr ?_; (case ho => rfl); (case hg => rfl); (case hn => rfl); (case hr => first | (go_simp; done) | (go_simp; rfl)); intro w67 hw; have hg : wr.grownBy w67 (some go62) := (by rw [hw]; exact HP66.2); have hp_ : Kd.R (Kd.int .u8) 5 w67 w.heap.size (fun k_ => (w.heap.size ≤ k_) ∧ some k_ ≠ (v165 : Value).ownBlock ∧ some k_ ≠ (.slice Ao18 t167.length co18 : Value).ownBlock ∧ some k_ ≠ (v177 : Value).ownBlock) (.slice (some ⟨go62, 0, none⟩) x12_3.length co65) y193 := (by rw [hw, Ny193.out]; exact HP66.1); clear HP66; have n0_ := Aside0.mk (Kd.V_afterv (v := (.slice (some ⟨go62, 0, none⟩) x12_3.length co65)) (v1 := (.slice (some ⟨go62, 0, none⟩) x12_3.length co65)) (ok := (fun k_ => ((P0_ k_ ∨ P1_ k_) ∨ w.heap.size ≤ k_) ∧ some k_ ≠ (v165 : Value).ownBlock ∧ some k_ ≠ (.slice Ao18 t167.length co18 : Value).ownBlock ∧ some k_ ≠ (v177 : Value).ownBlock)) (by (with_reducible repeat (first | apply Kd.V_alloc | apply Kd.V_drewN | apply Kd.V_drew)); exact Kd.V_mono HO_0.out (fun _ hk => ⟨⟨hk.1, ⟨hk.2.1, ⟨hk.2.2.1, hk.2.2.2.1⟩⟩⟩, hk.2.2.2.2⟩)) hg (.inl rfl)); have n1_ := Aside0.mk (Kd.R_after (v := (.slice (some ⟨go62, 0, none⟩) x12_3.length co65)) (v1 := (.slice (some ⟨go62, 0, none⟩) x12_3.length co65)) (ok := (fun k_ => (w.heap.size ≤ k_) ∧ some k_ ≠ (.slice Ao18 t167.length co18 : Value).ownBlock ∧ some k_ ≠ (v177 : Value).ownBlock)) (by (with_reducible repeat (first | apply Kd.R_alloc | apply Kd.R_drewN | apply Kd.R_drew)); exact Kd.R_mono HO_7.out (fun _ hk => ⟨⟨hk.1, ⟨hk.2.1, hk.2.2.1⟩⟩, hk.2.2.2⟩)) hg (.inl rfl)); have n2_ := Aside0.mk (Kd.R_after (v := (.slice (some ⟨go62, 0, none⟩) x12_3.length co65)) (v1 := (.slice (some ⟨go62, 0, none⟩) x12_3.length co65)) (ok := (fun k_ => (w.heap.size ≤ k_) ∧ some k_ ≠ (v165 : Value).ownBlock ∧ some k_ ≠ (v177 : Value).ownBlock)) (by (with_reducible repeat (first | apply Kd.R_alloc | apply Kd.R_drewN | apply Kd.R_drew)); exact Kd.R_mono HO_8.out (fun _ hk => ⟨⟨hk.1, ⟨hk.2.1, hk.2.2.1⟩⟩, hk.2.2.2⟩)) hg (.inl rfl)); have n3_ := Aside0.mk (Kd.R_after (v := (.slice (some ⟨go62, 0, none⟩) x12_3.length co65)) (v1 := (.slice (some ⟨go62, 0, none⟩) x12_3.length co65)) (ok := (fun k_ => (w.heap.size ≤ k_) ∧ some k_ ≠ (v165 : Value).ownBlock ∧ some k_ ≠ (.slice Ao18 t167.length co18 : Value).ownBlock)) (by (with_reducible repeat (first | apply Kd.R_alloc | apply Kd.R_drewN | apply Kd.R_drew)); exact Kd.R_mono HO_11.out (fun _ hk => ⟨⟨hk.1, ⟨hk.2.1, hk.2.2.1⟩⟩, hk.2.2.2⟩)) hg (.inl rfl)); have n4_ := Aside0.mk (hp_); have n5_ := Aside0.mk ((by rw [hw]; exact below_set (HB.out) GB62.out : Below w.heap.size w w67)); clear HO_0; clear HO_7; clear HO_8; clear HO_11; clear HO_12; clear HB; have HO_0 := n0_; have HO_7 := n1_; have HO_8 := n2_; have HO_11 := n3_; have HO_12 := n4_; have HB := n5_; clear n0_ n1_ n2_ n3_ n4_ n5_; clear hg hw hp_; obtain ⟨Ao68, co68, eo68⟩ := Kd.R_slice HO_11.out; subst eo68; have p194 : 0 ≤ (x13_3 : Int) := of_decide_eq_true (by first | (with_reducible assumption) | assumption); have q194 : x13_3 < (x11_3.length : Int) := of_decide_eq_true (by first | (with_reducible assumption) | assumption); obtain ⟨ad194, e194, hx194_0⟩ := Kd.at_int (Kd.R_reads' HO_11.out).2.2 x13_3 p194 q194; cases e194; replace p194 := eq_true p194; replace q194 := eq_true q194; have p64 : 0 ≤ (x13_3 : Int) := of_decide_eq_true (by first | (with_reducible assumption) | assumption); have q64 : (x13_3 : Int) < ((x11_3.length : Int) : Int) := of_decide_eq_true (by first | (with_reducible assumption) | assumption); obtain ⟨go64, co64, eo64, gb64, gl64, cl64, HG64⟩ := Kd.R_form HO_11.out (by omega); (first | cases eo64 | (injection eo64 with ea_ en_ ec_; (first | subst ea_ | (injection ea_ with ea_; subst ea_)); subst ec_; clear en_)); have GB64 := Aside0.mk gb64; have GG64 := Aside0.mk HG64; clear gb64 gl64 HG64; (first | simp only [add_plain] at hx194_0 | skip); obtain ⟨hx64_0, hf64_0⟩ := Kd.R_celln 0 HO_11.out (x13_3 : Int) p64 q64; replace p64 := eq_true p64; replace q64 := eq_true q64; have n_ := Aside0.mk (Kd.R_mono (ok' := (fun k_ => (w.heap.size ≤ k_) ∧ some k_ ≠ (v165 : Value).ownBlock ∧ some k_ ≠ (.slice Ao18 t167.length co18 : Value).ownBlock ∧ some k_ ≠ (.slice (some ⟨go62, 0, none⟩) x12_3.length co65 : Value).ownBlock)) HO_11.out (fun k_ hk => ⟨hk.1.1, ⟨hk.1.2.1, ⟨hk.1.2.2, hk.2⟩⟩⟩)); clear HO_11; have HO_11 := n_; clear n_; obtain ⟨hy69_, hz69_⟩ := Kd.R_celln 0 HO_11.out (x13_3 : Int) (of_decide_eq_true (by first | (with_reducible assumption) | assumption)) (of_decide_eq_true (by first | (with_reducible assumption) | assumption)); have HP69 := Kd.R_putg HO_11.out (x13_3 : Int) (Go.bits .xor .u8 (rd x11_3 x13_3) 1)) | ((with_reducible refine gate_store (t := 5) (p := 110) rfl ?_); refine store_event (t := 5) (p := 110) (v := ?vo_w70) (w1 := (w67.setCell ⟨go64, (x13_3 : Int).toNat, none⟩ (.int .u8 (Go.bits .xor .u8 (rd x11_3 x13_3) 1)))) ?hg ?ho ?hn ?hr ?_; (case ho => rfl); (case hg => rfl); (case hn => rfl); (case hr => first | (go_simp; done) | (go_simp; rfl)); intro w70 hw; have hg : w67.grownBy w70 (some go64) := (by rw [hw]; exact HP69.2); have hp_ : Kd.R (Kd.int .u8) 5 w70 w.heap.size (fun k_ => (w.heap.size ≤ k_) ∧ some k_ ≠ (v165 : Value).ownBlock ∧ some k_ ≠ (.slice Ao18 t167.length co18 : Value).ownBlock ∧ some k_ ≠ (.slice (some ⟨go62, 0, none⟩) x12_3.length co65 : Value).ownBlock) (.slice (some ⟨go64, 0, none⟩) x11_3.length co68) y195 := (by rw [hw, Ny195.out]; exact HP69.1); clear HP69; have n0_ := Aside0.mk (Kd.V_afterv (v := (.slice (some ⟨go64, 0, none⟩) x11_3.length co68)) (v1 := (.slice (some ⟨go64, 0, none⟩) x11_3.length co68)) (ok := (fun k_ => ((P0_ k_ ∨ P1_ k_) ∨ w.heap.size ≤ k_) ∧ some k_ ≠ (v165 : Value).ownBlock ∧ some k_ ≠ (.slice Ao18 t167.length co18 : Value).ownBlock ∧ some k_ ≠ (.slice (some ⟨go62, 0, none⟩) x12_3.length co65 : Value).ownBlock)) (by (with_reducible repeat (first | apply Kd.V_alloc | apply Kd.V_drewN | apply Kd.V_drew)); exact Kd.V_mono HO_0.out (fun _ hk => ⟨⟨hk.1.1, ⟨hk.1.2.1, ⟨hk.1.2.2.1, hk.2⟩⟩⟩, hk.1.2.2.2⟩)) hg (.inl rfl)); have n1_ := Aside0.mk (Kd.R_after (v := (.slice (some ⟨go64, 0, none⟩) x11_3.length co68)) (v1 := (.slice (some ⟨go64, 0, none⟩) x11_3.length co68)) (ok := (fun k_ => (w.heap.size ≤ k_) ∧ some k_ ≠ (.slice Ao18 t167.length co18 : Value).ownBlock ∧ some k_ ≠ (.slice (some ⟨go62, 0, none⟩) x12_3.length co65 : Value).ownBlock)) (by (with_reducible repeat (first | apply Kd.R_alloc | apply Kd.R_drewN | apply Kd.R_drew)); exact Kd.R_mono HO_7.out (fun _ hk => ⟨⟨hk.1.1, ⟨hk.1.2.1, hk.2⟩⟩, hk.1.2.2⟩)) hg (.inl rfl)); have n2_ := Aside0.mk (Kd.R_after (v := (.slice (some ⟨go64, 0, none⟩) x11_3.length co68)) (v1 := (.slice (some ⟨go64, 0, none⟩) x11_3.length co68)) (ok := (fun k_ => (w.heap.size ≤ k_) ∧ some k_ ≠ (v165 : Value).ownBlock ∧ some k_ ≠ (.slice (some ⟨go62, 0, none⟩) x12_3.length co65 : Value).ownBlock)) (by (with_reducible repeat (first | apply Kd.R_alloc | apply Kd.R_drewN | apply Kd.R_drew)); exact Kd.R_mono HO_8.out (fun _ hk => ⟨⟨hk.1.1, ⟨hk.1.2.1, hk.2⟩⟩, hk.1.2.2⟩)) hg (.inl rfl)); have n3_ := Aside0.mk (hp_); have n4_ := Aside0.mk (Kd.R_after (v := (.slice (some ⟨go64, 0, none⟩) x11_3.length co68)) (v1 := (.slice (some ⟨go64, 0, none⟩) x11_3.length co68)) (ok := (fun k_ => (w.heap.size ≤ k_) ∧ some k_ ≠ (v165 : Value).ownBlock ∧ some k_ ≠ (.slice Ao18 t167.length co18 : Value).ownBlock)) (by (with_reducible repeat (first | apply Kd.R_alloc | apply Kd.R_drewN | apply Kd.R_drew)); exact Kd.R_mono HO_12.out (fun _ hk => ⟨⟨hk.1, ⟨hk.2.1, hk.2.2.1⟩⟩, hk.2.2.2⟩)) hg (.inl rfl)); have n5_ := Aside0.mk ((by rw [hw]; exact below_set (HB.out) GB64.out : Below w.heap.size w w70)); clear HO_0; clear HO_7; clear HO_8; clear HO_11; clear HO_12; clear HB; have HO_0 := n0_; have HO_7 := n1_; have HO_8 := n2_; have HO_11 := n3_; have HO_12 := n4_; have HB := n5_; clear n0_ n1_ n2_ n3_ n4_ n5_; clear hg hw hp_))
                go_roundg k3
                case measure => have := HJ3.out; have := HJ13.out; have := HK3.out; omega
                case rel => exact ⟨(y195), (y193), (wrap64 (x13_3 + 1)), (by first | rfl | (simp; done) | (simp [*]; done)), H', ⟨by have := HJ3.out; have := HJ13.out; have := HK3.out; omega⟩, ⟨by (with_reducible repeat (first | apply Kd.V_alloc | apply Kd.V_drewN | apply Kd.V_drew)); exact Kd.V_mono HO_0.out (fun _ hk => ⟨hk.1.1, ⟨hk.1.2.1, ⟨hk.1.2.2.1, ⟨hk.2, hk.1.2.2.2⟩⟩⟩⟩)⟩, ⟨by (with_reducible repeat (first | apply Kd.R_alloc | apply Kd.R_drewN | apply Kd.R_drew)); exact Kd.R_mono HO_7.out (fun _ hk => ⟨hk.1.1, ⟨hk.1.2.1, ⟨hk.2, hk.1.2.2⟩⟩⟩)⟩, ⟨by (with_reducible repeat (first | apply Kd.R_alloc | apply Kd.R_drewN | apply Kd.R_drew)); exact Kd.R_mono HO_8.out (fun _ hk => ⟨hk.1.1, ⟨hk.1.2.1, ⟨hk.2, hk.1.2.2⟩⟩⟩)⟩, ⟨by (with_reducible repeat (first | apply Kd.R_alloc | apply Kd.R_drewN | apply Kd.R_drew)); exact HO_11.out⟩, ⟨by (with_reducible repeat (first | apply Kd.R_alloc | apply Kd.R_drewN | apply Kd.R_drew)); exact Kd.R_mono HO_12.out (fun _ hk => ⟨hk.1.1, ⟨hk.1.2.1, ⟨hk.1.2.2, hk.2⟩⟩⟩)⟩, ⟨by repeat (first | (with_reducible first | exact HB.out | apply below_alloc | apply pw_below_drewN | apply below_drew1) | exact HB.out)⟩⟩
              · rw [if_neg c60] at H
                have c60b0 : decide (x13_3 < (x12_3.length : Int)) = false := decide_eq_false c60
                clear c60
                have H' := Aside0.mk H
                clear H
                obtain ⟨Ao71, co71, eo71⟩ := Kd.R_slice HO_12.out
                subst eo71
                go_wp2
                go_loopg [14] k3 (fun kq v14 w' => ∃ (x8_4 : List Int) (x14_4 : Int), v14 = .int .i64 x14_4 ∧ Aside0 (portholelaw1_OctetXors.l1 kq l0 t164 x8_4 x14_4 = some r) ∧ Aside0 (kq ≤ k3) ∧ Aside0 (Kd.V (Kd.int .u8) 5 w' w.heap.size (fun k_ => ((P0_ k_ ∨ P1_ k_) ∨ w.heap.size ≤ k_) ∧ some k_ ≠ (v165 : Value).ownBlock ∧ some k_ ≠ ((.slice Ao18 t167.length co18) : Value).ownBlock) (.slice A0 l0.length c0) l0) ∧ Aside0 (Kd.R (Kd.int .u8) 5 w' w.heap.size (fun k_ => (w.heap.size ≤ k_) ∧ some k_ ≠ ((.slice Ao18 t167.length co18) : Value).ownBlock) v165 t164) ∧ Aside0 (Kd.R (Kd.int .u8) 5 w' w.heap.size (fun k_ => (w.heap.size ≤ k_) ∧ some k_ ≠ (v165 : Value).ownBlock) (.slice Ao18 t167.length co18) x8_4) ∧ Aside0 (Below w.heap.size w w'))
                case atStart => exact ⟨(t167), (0), (by first | rfl | (simp; done) | (simp [*]; done)), H', ⟨Nat.le_refl _⟩, ⟨by (with_reducible repeat (first | apply Kd.V_alloc | apply Kd.V_drewN | apply Kd.V_drew)); exact Kd.V_mono HO_0.out (fun _ hk => ⟨hk.1, ⟨hk.2.1, hk.2.2.1⟩⟩)⟩, ⟨by (with_reducible repeat (first | apply Kd.R_alloc | apply Kd.R_drewN | apply Kd.R_drew)); exact Kd.R_mono HO_7.out (fun _ hk => ⟨hk.1, hk.2.1⟩)⟩, ⟨by (with_reducible repeat (first | apply Kd.R_alloc | apply Kd.R_drewN | apply Kd.R_drew)); exact Kd.R_mono HO_8.out (fun _ hk => ⟨hk.1, hk.2.1⟩)⟩, ⟨by repeat (first | (with_reducible first | exact HB.out | apply below_alloc | apply pw_below_drewN | apply below_drew1) | exact HB.out)⟩⟩
                case round =>
                  clear H'
                  try clear p1
                  try clear q1
                  try clear hx1
                  try clear c2
                  try clear p2
                  try clear c3
                  try clear q4
                  try clear hcv4
                  try clear c5
                  try clear c6
                  try clear p6
                  try clear q6
                  try clear hx6
                  try clear hf6
                  try clear p19
                  try clear q19
                  try clear hx19
                  try clear c20
                  try clear c23
                  try clear c26
                  try clear c28
                  try clear c28b0
                  try clear c28b1
                  try clear c31
                  try clear c31b0
                  try clear c31b1
                  try clear c33
                  try clear c33b0
                  try clear c33b1
                  try clear c33b2
                  try clear c35
                  try clear c35b0
                  try clear c35b1
                  try clear c35b2
                  try clear c36
                  try clear c36b0
                  try clear c36b1
                  try clear hcv44
                  try clear q46
                  try clear hcv47
                  try clear c59
                  try clear c60
                  try clear c60b0
                  try clear c61
                  try clear c61b0
                  try clear p62
                  try clear q62
                  try clear hx62
                  try clear hf62
                  try clear c63
                  try clear c63b0
                  try clear p64
                  try clear q64
                  try clear hx64
                  try clear hf64
                  try clear hx192_0
                  try clear hx194_0
                  try clear hx62_0
                  try clear hx64_0
                  try clear p192
                  try clear p194
                  try clear p2
                  try clear p62
                  try clear p64
                  try clear q192
                  try clear q194
                  try clear q4
                  try clear q46
                  try clear q62
                  try clear q64
                  obtain ⟨x8_4, x14_4, rfl, HA, HK4, HO_0, HO_7, HO_8, HB⟩ := hrel
                  have hl8_4 := (Kd.R_reads' HO_8.out).1
                  rw [hl8_4] at HO_8
                  (try simp only [hl8_4])
                  (try simp only [hl8_4] at HO_0)
                  (try simp only [hl8_4] at HO_7)
                  cases gk with
                  | zero => exact absurd HA.out (by simp [portholelaw1_OctetXors.l1])
                  | succ k4 =>
                    have H := HA.out
                    clear HA
                    simp only [portholelaw1_OctetXors.l1] at H
                    by_cases c72 : x14_4 < (x8_4.length : Int)
                    · rw [if_pos c72] at H
                      have c72b0 : decide (x14_4 < (x8_4.length : Int)) = true := decide_eq_true c72
                      clear c72
                      (try (have c72z0_hl8_4 := c72b0; simp only [hl8_4] at c72z0_hl8_4))
                      by_cases c73 : 0 ≤ x14_4
                      rotate_left
                      · rw [if_neg c73] at H
                        exact absurd H (by simp)
                      rw [if_pos c73] at H
                      have c73b0 : decide (0 ≤ x14_4) = true := decide_eq_true c73
                      clear c73
                      (try (have c73z0_hl8_4 := c73b0; simp only [hl8_4] at c73z0_hl8_4))
                      obtain ⟨y197, hy197⟩ : ∃ y_ : List Int, y_ = (x8_4.set (x14_4 : Int).toNat (Go.bits .xor .u8 (rd x8_4 x14_4) 1)) := ⟨_, rfl⟩
                      replace H : (portholelaw1_OctetXors.l1 k4 l0 t164 y197 (wrap64 (x14_4 + 1))) = some r := by first | (rw [hy197]; with_reducible exact H) | (have H2_ := (Option.bind_some _ _).symm.trans H; rw [hy197]; with_reducible exact H2_) | (have H2_ := (Option.bind_some _ _).symm.trans H; with_reducible exact H2_) | with_reducible exact H | (rw [hy197]; exact H) | exact H
                      have Ny197 := Aside0.mk hy197
                      clear hy197
                      have H' := Aside0.mk H
                      clear H
                      have p196 : 0 ≤ (x14_4 : Int) := of_decide_eq_true (by first | (with_reducible assumption) | assumption)
                      have q196 : x14_4 < (x8_4.length : Int) := of_decide_eq_true (by first | (with_reducible assumption) | assumption)
                      obtain ⟨ad196, e196, hx196_0⟩ := Kd.at_int (Kd.R_reads' HO_8.out).2.2 x14_4 p196 q196
                      cases e196
                      replace p196 := eq_true p196
                      replace q196 := eq_true q196
                      have p74 : 0 ≤ (x14_4 : Int) := of_decide_eq_true (by first | (with_reducible assumption) | assumption)
                      have q74 : (x14_4 : Int) < ((x8_4.length : Int) : Int) := of_decide_eq_true (by first | (with_reducible assumption) | assumption)
                      obtain ⟨go74, co74, eo74, gb74, gl74, cl74, HG74⟩ := Kd.R_form HO_8.out (by omega)
                      (first | cases eo74 | (injection eo74 with ea_ en_ ec_; (first | subst ea_ | (injection ea_ with ea_; subst ea_)); subst ec_; clear en_))
                      have GB74 := Aside0.mk gb74
                      have GG74 := Aside0.mk HG74
                      clear gb74 gl74 HG74
                      (first | simp only [add_plain] at hx196_0 | skip)
                      obtain ⟨hx74_0, hf74_0⟩ := Kd.R_celln 0 HO_8.out (x14_4 : Int) p74 q74
                      replace p74 := eq_true p74
                      replace q74 := eq_true q74
                      have HP75 := Kd.R_putg HO_8.out (x14_4 : Int) (Go.bits .xor .u8 (rd x8_4 x14_4) 1)
                      go_wp2_with (first | ((with_reducible refine gate_store (t := 5) (p := 124) rfl ?_); refine store_event (t := 5) (p := 124) (v := ?vo_w76) (w1 := (wr.setCell ⟨go74, (x14_4 : Int).toNat, none⟩ (.int .u8 (Go.bits .xor .u8 (rd x8_4 x14_4) 1)))) ?hg ?ho ?hn ?hr ?_; (case ho => rfl); (case hg => rfl); (case hn => rfl); (case hr => first | (go_simp; done) | (go_simp; rfl)); intro w76 hw; have hg : wr.grownBy w76 (some go74) := (by rw [hw]; exact HP75.2); have hp_ : Kd.R (Kd.int .u8) 5 w76 w.heap.size (fun k_ => (w.heap.size ≤ k_) ∧ some k_ ≠ (v165 : Value).ownBlock) (.slice (some ⟨go74, 0, none⟩) x8_4.length co18) y197 := (by rw [hw, Ny197.out]; exact HP75.1); clear HP75; have n0_ := Aside0.mk (Kd.V_afterv (v := (.slice (some ⟨go74, 0, none⟩) x8_4.length co18)) (v1 := (.slice (some ⟨go74, 0, none⟩) x8_4.length co18)) (ok := (fun k_ => ((P0_ k_ ∨ P1_ k_) ∨ w.heap.size ≤ k_) ∧ some k_ ≠ (v165 : Value).ownBlock)) (by (with_reducible repeat (first | apply Kd.V_alloc | apply Kd.V_drewN | apply Kd.V_drew)); exact Kd.V_mono HO_0.out (fun _ hk => ⟨⟨hk.1, hk.2.1⟩, hk.2.2⟩)) hg (.inl rfl)); have n1_ := Aside0.mk (Kd.R_after (v := (.slice (some ⟨go74, 0, none⟩) x8_4.length co18)) (v1 := (.slice (some ⟨go74, 0, none⟩) x8_4.length co18)) (ok := (fun k_ => (w.heap.size ≤ k_))) (by (with_reducible repeat (first | apply Kd.R_alloc | apply Kd.R_drewN | apply Kd.R_drew)); exact HO_7.out) hg (.inl rfl)); have n2_ := Aside0.mk (hp_); have n3_ := Aside0.mk ((by rw [hw]; exact below_set (HB.out) GB74.out : Below w.heap.size w w76)); clear HO_0; clear HO_7; clear HO_8; clear HB; have HO_0 := n0_; have HO_7 := n1_; have HO_8 := n2_; have HB := n3_; clear n0_ n1_ n2_ n3_; clear hg hw hp_))
                      (try simp only [← hl8_4])
                      go_roundg k4
                      case measure => have := HJ3.out; have := HJ13.out; have := HK3.out; have := HK4.out; omega
                      case rel => exact ⟨(y197), (wrap64 (x14_4 + 1)), (by first | rfl | (simp; done) | (simp [*]; done)), H', ⟨by have := HJ3.out; have := HJ13.out; have := HK3.out; have := HK4.out; omega⟩, ⟨by (try simp only [hl8_4]); (with_reducible repeat (first | apply Kd.V_alloc | apply Kd.V_drewN | apply Kd.V_drew)); exact Kd.V_mono HO_0.out (fun _ hk => ⟨hk.1.1, ⟨hk.1.2, hk.2⟩⟩)⟩, ⟨by (try simp only [hl8_4]); (with_reducible repeat (first | apply Kd.R_alloc | apply Kd.R_drewN | apply Kd.R_drew)); exact HO_7.out⟩, ⟨by (try simp only [hl8_4]); (with_reducible repeat (first | apply Kd.R_alloc | apply Kd.R_drewN | apply Kd.R_drew)); exact HO_8.out⟩, ⟨by repeat (first | (with_reducible first | exact HB.out | apply below_alloc | apply pw_below_drewN | apply below_drew1) | exact HB.out)⟩⟩
                    · rw [if_neg c72] at H
                      have c72b0 : decide (x14_4 < (x8_4.length : Int)) = false := decide_eq_false c72
                      clear c72
                      (try (have c72z0_hl8_4 := c72b0; simp only [hl8_4] at c72z0_hl8_4))
                      obtain rfl := Option.some.inj H
                      have hcv77 := Kd.C_string (P := Try.prog) (A := A0) (c := c0) Try.underlying28 Try.underlying5 Try.underlying9 (Kd.V_reads' (e := 5) (base := w.heap.size) (HO_0.out)).2.2
                      have hcv78 := own_string (P := Try.prog) Try.underlying28 Try.underlying5 Try.underlying9 (Kd.own_of_R HO_7.out)
                      go_wp2
                      go_ret
                      exact ⟨by first | rfl | (simp [errW_none, errW_some] <;> rfl) | (simp only [← hji11]; first | rfl | (simp [errW_none, errW_some] <;> rfl)) | (simp [*, errW_none, errW_some] <;> rfl), by repeat (first | (with_reducible first | exact HB.out | apply below_alloc | apply pw_below_drewN | apply below_drew1) | exact HB.out)⟩

/-- THE ONE PURE STATEMENT of portholelaw1_OctetXors: yours. -/
def portholelaw1_OctetXors.Pure : Prop := ∀ (l0 : List Int) (l1 : List Int) (a2 : Bool), l0.length ≤ maxLen → l0.length * 1 ≤ 140737488351232 → (∀ x ∈ l0, (Lit.int .u8 x).wf = true) → l1.length ≤ maxLen → l1.length * 1 ≤ 140737488351232 → (∀ x ∈ l1, (Lit.int .u8 x).wf = true) → ∃ k, portholelaw1_OctetXors.f k l0 l1 a2 = some true
theorem portholelaw1_OctetXors.walk (P : portholelaw1_OctetXors.Pure) (a0 : Option Addr) (len0 cap0 : Nat) (z0 : List Int) (a1 : Option Addr) (len1 cap1 : Nat) (z1 : List Int) (a2 : Bool) (w : World) (w0 : (a0 = none ∧ len0 = 0 ∧ cap0 = 0 ∧ z0 = []) ∨ ∃ x, a0 = some x ∧ len0 ≤ cap0 ∧ cap0 ≤ maxLen ∧ z0.length = cap0 ∧ (∀ i, i < z0.length → w.cell? (x.add i) = some (.int .u8 (z0.getD i 0))) ∧ ∀ n ∈ z0, (Lit.int .u8 n).wf = true) (y0 : len0 * 1 ≤ 140737488351232) (w1 : (a1 = none ∧ len1 = 0 ∧ cap1 = 0 ∧ z1 = []) ∨ ∃ x, a1 = some x ∧ len1 ≤ cap1 ∧ cap1 ≤ maxLen ∧ z1.length = cap1 ∧ (∀ i, i < z1.length → w.cell? (x.add i) = some (.int .u8 (z1.getD i 0))) ∧ ∀ n ∈ z1, (Lit.int .u8 n).wf = true) (y1 : len1 * 1 ≤ 140737488351232) :
    Calls Try.prog 6 #[.slice a0 len0 cap0, .slice a1 len1 cap1, .bool a2] w fun e w' => e = .returned (.bool true) ∧ Below w.heap.size w w' := by
  obtain ⟨l0, rfl, hr0, hm0, hw0, hc0⟩ := ReadsInt.ofRowC w0
  obtain ⟨l1, rfl, hr1, hm1, hw1, hc1⟩ := ReadsInt.ofRowC w1
  obtain ⟨k, h⟩ := P l0 l1 a2 hm0 y0 hw0 hm1 y1 hw1
  refine (portholelaw1_OctetXors.calls k (fun _ => True) _ _ l0 (fun _ => True) _ _ l1 a2 true w (Kd.V_came (Kd.C_of_reads (d := (0 : Int)) (h1 := fun _ => rfl) hr0) hc0) (Kd.V_came (Kd.C_of_reads (d := (0 : Int)) (h1 := fun _ => rfl) hr1) hc1) ⟨rfl⟩ h).mono ?_
  rintro e w' ⟨rfl, hd⟩
  exact ⟨rfl, hd⟩

end Go.Proofs.Ytaaejidllnkpbaa.QOctetXors
