-- Written by a program of this repo's session (wip/turn_print.py: the kit's print.py with a few rows turned).
import Derived.Test.YtaaejidllnkpbaaQOctetKnownx0
import Derived.Test.YtaaejidllnkpbaaQOctetKnownx1
namespace Go.Proofs.Ytaaejidllnkpbaa.QOctetKnown
open Go.RowKit Go.Proofs.YtaaejidllnkpbaaW.PrintWords Go.Proofs.YtaaejidllnkpbaaW.PrintLast Go.Proofs.YtaaejidllnkpbaaW.PrintMore
attribute [local go_sem] max2_int min2_int max_two min_two max_three min_three max_four min_four   -- for this text's walks alone
set_option linter.unusedVariables false
set_option linter.unusedSimpArgs false

/-! ### octet_Same: function 23 -/
def octet_Same.l0 : Nat → List Int → List Int → Int → Int → Int → Option (Bool)
  | 0, _, _, _, _, _ => none
  | k + 1, x0, x1, x5, x13, x14 => if x14 < x13 then (if 0 ≤ x14 then (if x14 < (x0.length : Int) then (if x14 < (x1.length : Int) then (octet_Same.l0 k x0 x1 (Go.bits .or .u8 x5 (Go.bits .xor .u8 (rd x0 x14) (rd x1 x14))) x13 (wrap64 (x14 + 1))) else (none)) else (none)) else (none)) else (some (x5 == 0))
def octet_Same.f (k : Nat) (l0 : List Int) (l1 : List Int) : Option (Bool) := if (l0.length : Int) = (l1.length : Int) then (octet_Same.l0 k l0 l1 0 (l0.length : Int) 0) else (some false)
theorem octet_Same.mono_l : ∀ k, (∀ y0 y1 y2 y3 y4, LeO (octet_Same.l0 k y0 y1 y2 y3 y4) (octet_Same.l0 (k + 1) y0 y1 y2 y3 y4))
  | 0 => fun _ _ _ _ _ r h => by simp [octet_Same.l0] at h
  | k + 1 => by
    have ih0 := octet_Same.mono_l k
    · intro y0 y1 y2 y3 y4
      unfold octet_Same.l0
      repeat' first
      | (with_reducible exact ih0 _ _ _ _ _)
      | (with_reducible exact LeO.refl _)
      | (with_reducible exact LeO.none _)
      | (with_reducible refine LeO.ite ?_ ?_)
      | (with_reducible refine LeO.bind ?_ (fun _ => ?_))
      | exact ih0 _ _ _ _ _
      | exact LeO.none _
      | refine LeO.ite ?_ ?_
      | refine LeO.bind ?_ (fun _ => ?_)
theorem octet_Same.mono : ∀ a0 a1 k, LeO (octet_Same.f k a0 a1) (octet_Same.f (k + 1) a0 a1) := by
  intro a0 a1 k
  have ih0 := octet_Same.mono_l k
  unfold octet_Same.f
  repeat' first
      | (with_reducible exact ih0 _ _ _ _ _)
      | (with_reducible exact LeO.refl _)
      | (with_reducible exact LeO.none _)
      | (with_reducible refine LeO.ite ?_ ?_)
      | (with_reducible refine LeO.bind ?_ (fun _ => ?_))
      | exact ih0 _ _ _ _ _
      | exact LeO.none _
      | refine LeO.ite ?_ ?_
      | refine LeO.bind ?_ (fun _ => ?_)
set_option maxHeartbeats 1600000 in
set_option maxRecDepth 100000 in
theorem octet_Same.calls (k : Nat) (A0 : Option Addr) (c0 : Nat) (l0 : List Int) (A1 : Option Addr) (c1 : Nat) (l1 : List Int) (r : Bool) (w : World) (hr0 : Kd.C (Kd.int .u8) w A0 l0.length l0) (hc0 : l0.length ≤ c0) (hr1 : Kd.C (Kd.int .u8) w A1 l1.length l1) (hc1 : l1.length ≤ c1) (h : octet_Same.f k l0 l1 = some r) :
    Calls Try.prog 23 #[.slice A0 l0.length c0, .slice A1 l1.length c1] w fun e w' => e = .returned (.bool r) ∧ Drawn0 w w' := by
  have HR0 := Aside0.mk hr0
  have HC0 := Aside0.mk hc0
  clear hr0 hc0
  have HR1 := Aside0.mk hr1
  have HC1 := Aside0.mk hc1
  clear hr1 hc1
  have H : (if (l0.length : Int) = (l1.length : Int) then (octet_Same.l0 k l0 l1 0 (l0.length : Int) 0) else (some false)) = some r := h
  clear h
  by_cases c3 : (l0.length : Int) = (l1.length : Int)
  · rw [if_pos c3] at H
    have c3b0 : ((l0.length : Int) == (l1.length : Int)) = true := beq_iff_eq.mpr c3
    have c3b1 : ((l0.length : Int) != (l1.length : Int)) = false := bne_eq_false_iff_eq.mpr c3
    have c3b2 : (l0.length == l1.length) = true := by first | simpa using c3 | (simp at c3 ⊢; omega)
    clear c3
    have H' := Aside0.mk H
    clear H
    go_enter Try.func23, Try.ntmps23
    go_wp2
    repeat (go_quiet (fail); try go_wp2)
    go_loopg [5, 14] k (fun kq v5 v14 w' => ∃ (x5_1 : Int) (x14_1 : Int), v5 = .int .u8 x5_1 ∧ v14 = .int .i64 x14_1 ∧ Aside0 (octet_Same.l0 kq l0 l1 x5_1 (l0.length : Int) x14_1 = some r) ∧ Aside0 (kq ≤ k) ∧ Drawn0 w w')
    case atStart => exact ⟨(0), (0), (by first | rfl | (simp; done) | (simp [*]; done)), (by first | rfl | (simp; done) | (simp [*]; done)), H', ⟨Nat.le_refl _⟩, by repeat (first | exact Drawn0.refl _ | apply Drawn0.step)⟩
    case round =>
      clear H'
      try clear c1
      try clear c2
      try clear p2
      try clear c3
      try clear c3b0
      try clear c3b1
      try clear c3b2
      obtain ⟨x5_1, x14_1, rfl, rfl, HA, HK1, ⟨m1, rfl⟩⟩ := hrel
      cases gk with
      | zero => exact absurd HA.out (by simp [octet_Same.l0])
      | succ k1 =>
        have H := HA.out
        clear HA
        simp only [octet_Same.l0] at H
        by_cases c4 : x14_1 < (l0.length : Int)
        · rw [if_pos c4] at H
          have c4b0 : decide (x14_1 < (l0.length : Int)) = true := decide_eq_true c4
          clear c4
          by_cases c5 : 0 ≤ x14_1
          · rw [if_pos c5] at H
            have c5b0 : decide (0 ≤ x14_1) = true := decide_eq_true c5
            clear c5
            by_cases c6 : x14_1 < (l0.length : Int)
            · rw [if_pos c6] at H
              have c6b0 : decide (x14_1 < (l0.length : Int)) = true := decide_eq_true c6
              clear c6
              by_cases c7 : x14_1 < (l1.length : Int)
              · rw [if_pos c7] at H
                have c7b0 : decide (x14_1 < (l1.length : Int)) = true := decide_eq_true c7
                clear c7
                have H' := Aside0.mk H
                clear H
                have p136 : 0 ≤ (x14_1 : Int) := of_decide_eq_true (by first | (with_reducible assumption) | assumption)
                have q136 : x14_1 < (l0.length : Int) := of_decide_eq_true (by first | (with_reducible assumption) | assumption)
                obtain ⟨ad136, e136, hx136_0⟩ := Kd.at_int HR0.out x14_1 p136 q136
                cases e136
                replace p136 := eq_true p136
                replace q136 := eq_true q136
                have p137 : 0 ≤ (x14_1 : Int) := of_decide_eq_true (by first | (with_reducible assumption) | assumption)
                have q137 : x14_1 < (l1.length : Int) := of_decide_eq_true (by first | (with_reducible assumption) | assumption)
                obtain ⟨ad137, e137, hx137_0⟩ := Kd.at_int HR1.out x14_1 p137 q137
                cases e137
                replace p137 := eq_true p137
                replace q137 := eq_true q137
                go_wp2
                repeat (go_quiet (fail); try go_wp2)
                go_roundg k1
                case measure => have := HK1.out; omega
                case rel => exact ⟨(Go.bits .or .u8 x5_1 (Go.bits .xor .u8 (rd l0 x14_1) (rd l1 x14_1))), (wrap64 (x14_1 + 1)), (by first | rfl | (simp; done) | (simp [*]; done)), (by first | rfl | (simp; done) | (simp [*]; done)), H', ⟨by have := HK1.out; omega⟩, by repeat (first | exact Drawn0.refl _ | apply Drawn0.step)⟩
              · rw [if_neg c7] at H
                exact absurd H (by simp)
            · rw [if_neg c6] at H
              exact absurd H (by simp)
          · rw [if_neg c5] at H
            exact absurd H (by simp)
        · rw [if_neg c4] at H
          have c4b0 : decide (x14_1 < (l0.length : Int)) = false := decide_eq_false c4
          clear c4
          obtain rfl := Option.some.inj H
          go_wp2
          repeat (go_quiet (fail); try go_wp2)
          go_ret
          exact ⟨by first | rfl | (simp; done) | (simp [*]; done), by repeat (first | exact Drawn0.refl _ | apply Drawn0.step)⟩
  · rw [if_neg c3] at H
    have c3b0 : ((l0.length : Int) == (l1.length : Int)) = false := beq_eq_false_iff_ne.mpr c3
    have c3b1 : ((l0.length : Int) != (l1.length : Int)) = true := bne_iff_ne.mpr c3
    have c3b2 : (l0.length == l1.length) = false := by first | simpa using c3 | (simp at c3 ⊢; omega)
    obtain rfl := Option.some.inj H
    go_enter Try.func23, Try.ntmps23
    go_wp2
    repeat (go_quiet (fail); try go_wp2)
    go_ret
    exact ⟨by first | rfl | (simp; done) | (simp [*]; done), by repeat (first | exact Drawn0.refl _ | apply Drawn0.step)⟩

/-! ### octet_Join: function 24 -/
def octet_Join.l0 : Nat → List Int → List (List Int) → Int → Int → Option (List Int)
  | 0, _, _, _, _ => none
  | k + 1, x3, x7, x8, x9 => if x9 < x8 then (if 0 ≤ x9 then (if x9 < (x7.length : Int) then (if x3.length + (rd_L1 x7 x9).length < 140737488355328 then (octet_Join.l0 k (x3 ++ (rd_L1 x7 x9)) x7 x8 (wrap64 (x9 + 1))) else (none)) else (none)) else (none)) else (some x3)
def octet_Join.f (k : Nat) (l0 : List (List Int)) : Option (List Int) := octet_Join.l0 k (([] : List Int)) l0 (l0.length : Int) 0
theorem octet_Join.mono_l : ∀ k, (∀ y0 y1 y2 y3, LeO (octet_Join.l0 k y0 y1 y2 y3) (octet_Join.l0 (k + 1) y0 y1 y2 y3))
  | 0 => fun _ _ _ _ r h => by simp [octet_Join.l0] at h
  | k + 1 => by
    have ih0 := octet_Join.mono_l k
    · intro y0 y1 y2 y3
      unfold octet_Join.l0
      repeat' first
      | (with_reducible exact ih0 _ _ _ _)
      | (with_reducible exact LeO.refl _)
      | (with_reducible exact LeO.none _)
      | (with_reducible refine LeO.ite ?_ ?_)
      | (with_reducible refine LeO.bind ?_ (fun _ => ?_))
      | exact ih0 _ _ _ _
      | exact LeO.none _
      | refine LeO.ite ?_ ?_
      | refine LeO.bind ?_ (fun _ => ?_)
theorem octet_Join.mono : ∀ a0 k, LeO (octet_Join.f k a0) (octet_Join.f (k + 1) a0) := by
  intro a0 k
  have ih0 := octet_Join.mono_l k
  unfold octet_Join.f
  repeat' first
      | (with_reducible exact ih0 _ _ _ _)
      | (with_reducible exact LeO.refl _)
      | (with_reducible exact LeO.none _)
      | (with_reducible refine LeO.ite ?_ ?_)
      | (with_reducible refine LeO.bind ?_ (fun _ => ?_))
      | exact ih0 _ _ _ _
      | exact LeO.none _
      | refine LeO.ite ?_ ?_
      | refine LeO.bind ?_ (fun _ => ?_)
set_option maxHeartbeats 1600000 in
set_option maxRecDepth 100000 in
theorem octet_Join.calls (k : Nat) (A0 : Option Addr) (c0 : Nat) (l0 : List (List Int)) (r : List Int) (w : World) (hr0 : Kd.C (Kd.slice 5 (Kd.int .u8)) w A0 l0.length l0) (hc0 : l0.length ≤ c0) (h : octet_Join.f k l0 = some r) :
    Calls Try.prog 24 #[.slice A0 l0.length c0] w fun e w' => ∃ v0_ : Value, e = .returned (v0_) ∧ Kd.R (Kd.int .u8) 5 w' w.heap.size (fun _ => True) v0_ r ∧ Below w.heap.size w w' := by
  have HR0 := Aside0.mk hr0
  have HC0 := Aside0.mk hc0
  clear hr0 hc0
  have HB := Aside0.mk (Below.refl w.heap.size w)
  have H : (octet_Join.l0 k (([] : List Int)) l0 (l0.length : Int) 0) = some r := h
  clear h
  obtain ⟨y138, hy138⟩ : ∃ y_ : List Int, y_ = (([] : List Int)) := ⟨_, rfl⟩
  replace H : (octet_Join.l0 k y138 l0 (l0.length : Int) 0) = some r := by first | (rw [hy138]; with_reducible exact H) | (have H2_ := (Option.bind_some _ _).symm.trans H; rw [hy138]; with_reducible exact H2_) | (have H2_ := (Option.bind_some _ _).symm.trans H; with_reducible exact H2_) | with_reducible exact H | (rw [hy138]; exact H) | exact H
  have Ny138 := Aside0.mk hy138
  clear hy138
  have H' := Aside0.mk H
  clear H
  go_enter Try.func24, Try.ntmps24
  go_wp2_with (first | ((with_reducible refine gate_dst (N := 6) rfl ?_); refine Kd.R_lit (Kd.int .u8) _ 5 ?hg (N := 6) ?hd (xs := ([] : List Int)) (inner := []) (ok := fun _ => True) (okp := fun _ => True) ?hr ?hp (fun _ hk => hk) trivial (Below.refl _ _) (Nat.le_refl _) (by simp) ?_; (case hd => rfl); (case hg => rfl); (case hr => first | (go_simp; done) | (go_simp; rfl)); (case hp => exact (Reps.none _ _)); intro v139 w2 ho3 hb hg_ hnew_; clear hg_ hnew_; (first | rw [← Ny138.out] at ho3 | (simp only [Int.reduceToNat] at ho3; rw [← Ny138.out] at ho3)); have n0_ := Aside0.mk (Kd.R_lower ho3 (below_size (by repeat (first | (with_reducible first | exact HB.out | apply below_alloc | apply pw_below_drewN | apply below_drew1) | exact HB.out)))); have n1_ := Aside0.mk (below_step (by repeat (first | (with_reducible first | exact HB.out | apply below_alloc | apply pw_below_drewN | apply below_drew1) | exact HB.out)) hb); clear HB; have HO140 := n0_; have HB := n1_; clear n0_ n1_; clear hb ho3))
  go_loopg [3, 9] k (fun kq v3 v9 w' => ∃ (x3_1 : List Int) (x9_1 : Int), v9 = .int .i64 x9_1 ∧ Aside0 (octet_Join.l0 kq x3_1 l0 (l0.length : Int) x9_1 = some r) ∧ Aside0 (kq ≤ k) ∧ Aside0 (Kd.R (Kd.int .u8) 5 w' w.heap.size (fun _ => True) v3 x3_1) ∧ Aside0 (Below w.heap.size w w'))
  case atStart => exact ⟨(y138), (0), (by first | rfl | (simp; done) | (simp [*]; done)), H', ⟨Nat.le_refl _⟩, ⟨by (with_reducible repeat (first | apply Kd.R_alloc | apply Kd.R_drewN | apply Kd.R_drew)); exact HO140.out⟩, ⟨by repeat (first | (with_reducible first | exact HB.out | apply below_alloc | apply pw_below_drewN | apply below_drew1) | exact HB.out)⟩⟩
  case round =>
    clear H'
    try clear c2
    try clear p2
    obtain ⟨x3_1, x9_1, rfl, HA, HK1, HO_3, HB⟩ := hrel
    cases gk with
    | zero => exact absurd HA.out (by simp [octet_Join.l0])
    | succ k1 =>
      have H := HA.out
      clear HA
      simp only [octet_Join.l0] at H
      by_cases c4 : x9_1 < (l0.length : Int)
      · rw [if_pos c4] at H
        have c4b0 : decide (x9_1 < (l0.length : Int)) = true := decide_eq_true c4
        clear c4
        by_cases c5 : 0 ≤ x9_1
        · rw [if_pos c5] at H
          have c5b0 : decide (0 ≤ x9_1) = true := decide_eq_true c5
          clear c5
          by_cases c6 : x9_1 < (l0.length : Int)
          · rw [if_pos c6] at H
            have c6b0 : decide (x9_1 < (l0.length : Int)) = true := decide_eq_true c6
            clear c6
            by_cases c7 : x3_1.length + (rd_L1 l0 x9_1).length < 140737488355328
            · rw [if_pos c7] at H
              have LMc7 := Aside0.mk c7
              clear c7
              obtain ⟨y142, hy142⟩ : ∃ y_ : List Int, y_ = (x3_1 ++ (rd_L1 l0 x9_1)) := ⟨_, rfl⟩
              replace H : (octet_Join.l0 k1 y142 l0 (l0.length : Int) (wrap64 (x9_1 + 1))) = some r := by first | (rw [hy142]; with_reducible exact H) | (have H2_ := (Option.bind_some _ _).symm.trans H; rw [hy142]; with_reducible exact H2_) | (have H2_ := (Option.bind_some _ _).symm.trans H; with_reducible exact H2_) | with_reducible exact H | (rw [hy142]; exact H) | exact H
              have Ny142 := Aside0.mk hy142
              clear hy142
              have H' := Aside0.mk H
              clear H
              have p141 : 0 ≤ (x9_1 : Int) := of_decide_eq_true (by first | (with_reducible assumption) | assumption)
              have q141 : x9_1 < (l0.length : Int) := of_decide_eq_true (by first | (with_reducible assumption) | assumption)
              obtain ⟨ad141, A141_0, c141_0, e141, hx141_0, hl141_0, hi141_0⟩ := at_L1 HR0.out x9_1 p141 q141
              cases e141
              replace hx141_0 := (HB.out.cell (World.block_lt_of_cell? w _ hx141_0)).trans hx141_0
              have HR141_0 := Aside0.mk hi141_0
              have HC141_0 := Aside0.mk hl141_0
              clear hi141_0 hl141_0
              replace p141 := eq_true p141
              replace q141 := eq_true q141
              go_wp2_with (first | ((with_reducible refine gate_builtin (b := .append) (xs := #[.tmp 13, .tmp 14]) rfl ?_); at_builtin; refine Kd.R_append_rows (Kd.int .u8) (w0 := w) w.heap.size rfl (.tmp 13) (.tmp 14) 28 5 (.int .u8 0) 1 rfl Try.underlying28 info5 rfl (by decide) (by omega) u3 x3_1 (rd_L1 l0 x9_1) _ _ _ (fun _ => True) (fun _ => False) rfl rfl ?aO ?aR (fun _ _ h => h) (fun _ h => h.elim) ?aF ?aB ?aS ?aL ?_; (case aR => repeat (first | exact (Kd.C_below HR141_0.out HB.out) | (with_reducible refine Kd.C_alloc ?_ _) | (with_reducible refine Kd.C_drewN ?_ _) | (with_reducible refine Kd.C_drew ?_))); (case aB => exact (by repeat (first | (with_reducible first | exact HB.out | apply below_alloc | apply pw_below_drewN | apply below_drew1) | exact HB.out))); (case aF => exact (fun _ _ => trivial)); (case aO => exact (by (with_reducible repeat (first | apply Kd.R_alloc | apply Kd.R_drewN | apply Kd.R_drew)); exact HO_3.out)); (case aS => exact (below_size (by repeat (first | (with_reducible first | exact HB.out | apply below_alloc | apply pw_below_drewN | apply below_drew1) | exact HB.out)))); (case aL => have := LMc7.out; omega); intro v143 w8 ho hb hg hat; rw [← Ny142.out] at ho; have n0_ := Aside0.mk (hb); have n1_ := Aside0.mk (ho); clear HB; clear HO_3; have HB := n0_; have HO144 := n1_; clear n0_ n1_; clear ho hb hg hat))
              go_roundg k1
              case measure => have := HK1.out; omega
              case rel => exact ⟨(y142), (wrap64 (x9_1 + 1)), (by first | rfl | (simp; done) | (simp [*]; done)), H', ⟨by have := HK1.out; omega⟩, ⟨by (with_reducible repeat (first | apply Kd.R_alloc | apply Kd.R_drewN | apply Kd.R_drew)); exact HO144.out⟩, ⟨by repeat (first | (with_reducible first | exact HB.out | apply below_alloc | apply pw_below_drewN | apply below_drew1) | exact HB.out)⟩⟩
            · rw [if_neg c7] at H
              exact absurd H (by simp)
          · rw [if_neg c6] at H
            exact absurd H (by simp)
        · rw [if_neg c5] at H
          exact absurd H (by simp)
      · rw [if_neg c4] at H
        have c4b0 : decide (x9_1 < (l0.length : Int)) = false := decide_eq_false c4
        clear c4
        obtain rfl := Option.some.inj H
        go_wp2
        go_ret
        exact ⟨_, by first | rfl | (simp [errW_none, errW_some] <;> rfl) | (simp [*, errW_none, errW_some] <;> rfl), by (with_reducible repeat (first | apply Kd.R_alloc | apply Kd.R_drewN | apply Kd.R_drew)); exact HO_3.out, by repeat (first | (with_reducible first | exact HB.out | apply below_alloc | apply pw_below_drewN | apply below_drew1) | exact HB.out)⟩

/-! ### portholelaw1_OctetKnown: function 5 -/
def portholelaw1_OctetKnown.f (k : Nat)  : Option (Bool) := if 7 ≤ 281474976710656 then ((octet_Get64.f k (List.replicate 7 0)).bind fun bt148 => ((octet_Get64.f k (([0, 0, 0, 0, 1, 0, 0, 0] : List Int))).bind fun bt153 => ((portholelaw1_known.f k).bind fun t155 => (if t155 = true then (if bt148.2 = true then (some false) else (if bt153.1 = 4294967296 then (if bt153.2 = true then ((octet_Same.f k ([] : List Int) (([] : List Int))).bind fun t159 => (if t159 = true then ((octet_Same.f k (([1] : List Int)) (([1, 2] : List Int))).bind fun t166 => (if t166 = true then (some false) else ((octet_Join.f k (([(([97] : List Int)), [], (([98, 99] : List Int))] : List (List Int)))).bind fun t176 => (some ((strOfNums t176).toList == ([97, 98, 99] : List UInt8)))))) else (some false))) else (some false)) else (some false))) else (some false))))) else (none)
theorem portholelaw1_OctetKnown.mono : ∀ k, LeO (portholelaw1_OctetKnown.f k ) (portholelaw1_OctetKnown.f (k + 1) ) := by
  intro  k
  unfold portholelaw1_OctetKnown.f
  repeat' first
      | (with_reducible exact octet_Get64.mono _ _)
      | (with_reducible exact octet_Join.mono _ _)
      | (with_reducible exact octet_Same.mono _ _ _)
      | (with_reducible exact portholelaw1_known.mono _)
      | (with_reducible exact LeO.refl _)
      | (with_reducible exact LeO.none _)
      | (with_reducible refine LeO.ite ?_ ?_)
      | (with_reducible refine LeO.bind ?_ (fun _ => ?_))
      | exact octet_Get64.mono _ _
      | exact octet_Join.mono _ _
      | exact octet_Same.mono _ _ _
      | exact portholelaw1_known.mono _
      | exact LeO.none _
      | refine LeO.ite ?_ ?_
      | refine LeO.bind ?_ (fun _ => ?_)
set_option maxHeartbeats 1600000 in
set_option maxRecDepth 100000 in
theorem portholelaw1_OctetKnown.calls (k : Nat)  (r : Bool) (w : World) (hlaw : Aside0 (r = true)) (h : portholelaw1_OctetKnown.f k  = some r) :
    Calls Try.prog 5 #[] w fun e w' => e = .returned (.bool r) ∧ Below w.heap.size w w' := by
  have HB := Aside0.mk (Below.refl w.heap.size w)
  have H : (if 7 ≤ 281474976710656 then ((octet_Get64.f k (List.replicate 7 0)).bind fun bt148 => ((octet_Get64.f k (([0, 0, 0, 0, 1, 0, 0, 0] : List Int))).bind fun bt153 => ((portholelaw1_known.f k).bind fun t155 => (if t155 = true then (if bt148.2 = true then (some false) else (if bt153.1 = 4294967296 then (if bt153.2 = true then ((octet_Same.f k ([] : List Int) (([] : List Int))).bind fun t159 => (if t159 = true then ((octet_Same.f k (([1] : List Int)) (([1, 2] : List Int))).bind fun t166 => (if t166 = true then (some false) else ((octet_Join.f k (([(([97] : List Int)), [], (([98, 99] : List Int))] : List (List Int)))).bind fun t176 => (some ((strOfNums t176).toList == ([97, 98, 99] : List UInt8)))))) else (some false))) else (some false)) else (some false))) else (some false))))) else (none)) = some r := h
  clear h
  by_cases c1 : 7 ≤ 281474976710656
  · rw [if_pos c1] at H
    have c1b0 := eq_true c1
    have c1b1 : decide (7 ≤ 281474976710656) = true := decide_eq_true c1
    clear c1
    obtain ⟨y145, hy145⟩ : ∃ y_ : List Int, y_ = (List.replicate 7 0) := ⟨_, rfl⟩
    replace H : ((octet_Get64.f k y145).bind fun bt148 => ((octet_Get64.f k (([0, 0, 0, 0, 1, 0, 0, 0] : List Int))).bind fun bt153 => ((portholelaw1_known.f k).bind fun t155 => (if t155 = true then (if bt148.2 = true then (some false) else (if bt153.1 = 4294967296 then (if bt153.2 = true then ((octet_Same.f k ([] : List Int) (([] : List Int))).bind fun t159 => (if t159 = true then ((octet_Same.f k (([1] : List Int)) (([1, 2] : List Int))).bind fun t166 => (if t166 = true then (some false) else ((octet_Join.f k (([(([97] : List Int)), [], (([98, 99] : List Int))] : List (List Int)))).bind fun t176 => (some ((strOfNums t176).toList == ([97, 98, 99] : List UInt8)))))) else (some false))) else (some false)) else (some false))) else (some false))))) = some r := by first | (rw [hy145]; with_reducible exact H) | (have H2_ := (Option.bind_some _ _).symm.trans H; rw [hy145]; with_reducible exact H2_) | (have H2_ := (Option.bind_some _ _).symm.trans H; with_reducible exact H2_) | with_reducible exact H | (rw [hy145]; exact H) | exact H
    have Ny145 := Aside0.mk hy145
    clear hy145
    replace H := Option.bind_eq_some_iff.mp H
    obtain ⟨⟨t148, t149⟩, A20, H⟩ := H
    replace H : ((octet_Get64.f k (([0, 0, 0, 0, 1, 0, 0, 0] : List Int))).bind fun bt153 => ((portholelaw1_known.f k).bind fun t155 => (if t155 = true then (if t149 = true then (some false) else (if bt153.1 = 4294967296 then (if bt153.2 = true then ((octet_Same.f k ([] : List Int) (([] : List Int))).bind fun t159 => (if t159 = true then ((octet_Same.f k (([1] : List Int)) (([1, 2] : List Int))).bind fun t166 => (if t166 = true then (some false) else ((octet_Join.f k (([(([97] : List Int)), [], (([98, 99] : List Int))] : List (List Int)))).bind fun t176 => (some ((strOfNums t176).toList == ([97, 98, 99] : List UInt8)))))) else (some false))) else (some false)) else (some false))) else (some false)))) = some r := H
    have A2 := Aside0.mk A20
    clear A20
    obtain ⟨y150, hy150⟩ : ∃ y_ : List Int, y_ = (([0, 0, 0, 0, 1, 0, 0, 0] : List Int)) := ⟨_, rfl⟩
    replace H : ((octet_Get64.f k y150).bind fun bt153 => ((portholelaw1_known.f k).bind fun t155 => (if t155 = true then (if t149 = true then (some false) else (if bt153.1 = 4294967296 then (if bt153.2 = true then ((octet_Same.f k ([] : List Int) (([] : List Int))).bind fun t159 => (if t159 = true then ((octet_Same.f k (([1] : List Int)) (([1, 2] : List Int))).bind fun t166 => (if t166 = true then (some false) else ((octet_Join.f k (([(([97] : List Int)), [], (([98, 99] : List Int))] : List (List Int)))).bind fun t176 => (some ((strOfNums t176).toList == ([97, 98, 99] : List UInt8)))))) else (some false))) else (some false)) else (some false))) else (some false)))) = some r := by first | (rw [hy150]; with_reducible exact H) | (have H2_ := (Option.bind_some _ _).symm.trans H; rw [hy150]; with_reducible exact H2_) | (have H2_ := (Option.bind_some _ _).symm.trans H; with_reducible exact H2_) | with_reducible exact H | (rw [hy150]; exact H) | exact H
    have Ny150 := Aside0.mk hy150
    clear hy150
    replace H := Option.bind_eq_some_iff.mp H
    obtain ⟨⟨t153, t154⟩, A30, H⟩ := H
    replace H : ((portholelaw1_known.f k).bind fun t155 => (if t155 = true then (if t149 = true then (some false) else (if t153 = 4294967296 then (if t154 = true then ((octet_Same.f k ([] : List Int) (([] : List Int))).bind fun t159 => (if t159 = true then ((octet_Same.f k (([1] : List Int)) (([1, 2] : List Int))).bind fun t166 => (if t166 = true then (some false) else ((octet_Join.f k (([(([97] : List Int)), [], (([98, 99] : List Int))] : List (List Int)))).bind fun t176 => (some ((strOfNums t176).toList == ([97, 98, 99] : List UInt8)))))) else (some false))) else (some false)) else (some false))) else (some false))) = some r := H
    have A3 := Aside0.mk A30
    clear A30
    replace H := Option.bind_eq_some_iff.mp H
    obtain ⟨t155, A40, H⟩ := H
    replace H : (if t155 = true then (if t149 = true then (some false) else (if t153 = 4294967296 then (if t154 = true then ((octet_Same.f k ([] : List Int) (([] : List Int))).bind fun t159 => (if t159 = true then ((octet_Same.f k (([1] : List Int)) (([1, 2] : List Int))).bind fun t166 => (if t166 = true then (some false) else ((octet_Join.f k (([(([97] : List Int)), [], (([98, 99] : List Int))] : List (List Int)))).bind fun t176 => (some ((strOfNums t176).toList == ([97, 98, 99] : List UInt8)))))) else (some false))) else (some false)) else (some false))) else (some false)) = some r := H
    have A4 := Aside0.mk A40
    clear A40
    by_cases c5 : t155 = true
    · subst c5
      have H1 : (if t149 = true then (some false) else (if t153 = 4294967296 then (if t154 = true then ((octet_Same.f k ([] : List Int) (([] : List Int))).bind fun t159 => (if t159 = true then ((octet_Same.f k (([1] : List Int)) (([1, 2] : List Int))).bind fun t166 => (if t166 = true then (some false) else ((octet_Join.f k (([(([97] : List Int)), [], (([98, 99] : List Int))] : List (List Int)))).bind fun t176 => (some ((strOfNums t176).toList == ([97, 98, 99] : List UInt8)))))) else (some false))) else (some false)) else (some false))) = some r := by rw [if_pos rfl] at H; exact H
      clear H
      have H := H1
      clear H1
      by_cases c6 : t149 = true
      · subst c6
        have H1 : (some false) = some r := by rw [if_pos rfl] at H; exact H
        clear H
        have H := H1
        clear H1
        exact absurd ((Option.some.inj H).trans hlaw.out) (by decide)
      · replace c6 := Bool.eq_false_iff.mpr c6
        subst c6
        have H1 : (if t153 = 4294967296 then (if t154 = true then ((octet_Same.f k ([] : List Int) (([] : List Int))).bind fun t159 => (if t159 = true then ((octet_Same.f k (([1] : List Int)) (([1, 2] : List Int))).bind fun t166 => (if t166 = true then (some false) else ((octet_Join.f k (([(([97] : List Int)), [], (([98, 99] : List Int))] : List (List Int)))).bind fun t176 => (some ((strOfNums t176).toList == ([97, 98, 99] : List UInt8)))))) else (some false))) else (some false)) else (some false)) = some r := by rw [if_neg (show ¬ (false = true) by decide)] at H; exact H
        clear H
        have H := H1
        clear H1
        by_cases c7 : t153 = 4294967296
        · rw [if_pos c7] at H
          have c7b0 : (t153 == 4294967296) = true := beq_iff_eq.mpr c7
          have c7b1 : (t153 != 4294967296) = false := bne_eq_false_iff_eq.mpr c7
          clear c7
          by_cases c8 : t154 = true
          · subst c8
            have H1 : ((octet_Same.f k ([] : List Int) (([] : List Int))).bind fun t159 => (if t159 = true then ((octet_Same.f k (([1] : List Int)) (([1, 2] : List Int))).bind fun t166 => (if t166 = true then (some false) else ((octet_Join.f k (([(([97] : List Int)), [], (([98, 99] : List Int))] : List (List Int)))).bind fun t176 => (some ((strOfNums t176).toList == ([97, 98, 99] : List UInt8)))))) else (some false))) = some r := by rw [if_pos rfl] at H; exact H
            clear H
            have H := H1
            clear H1
            obtain ⟨y156, hy156⟩ : ∃ y_ : List Int, y_ = (([] : List Int)) := ⟨_, rfl⟩
            replace H : ((octet_Same.f k ([] : List Int) y156).bind fun t159 => (if t159 = true then ((octet_Same.f k (([1] : List Int)) (([1, 2] : List Int))).bind fun t166 => (if t166 = true then (some false) else ((octet_Join.f k (([(([97] : List Int)), [], (([98, 99] : List Int))] : List (List Int)))).bind fun t176 => (some ((strOfNums t176).toList == ([97, 98, 99] : List UInt8)))))) else (some false))) = some r := by first | (rw [hy156]; with_reducible exact H) | (have H2_ := (Option.bind_some _ _).symm.trans H; rw [hy156]; with_reducible exact H2_) | (have H2_ := (Option.bind_some _ _).symm.trans H; with_reducible exact H2_) | with_reducible exact H | (rw [hy156]; exact H) | exact H
            have Ny156 := Aside0.mk hy156
            clear hy156
            replace H := Option.bind_eq_some_iff.mp H
            obtain ⟨t159, A90, H⟩ := H
            replace H : (if t159 = true then ((octet_Same.f k (([1] : List Int)) (([1, 2] : List Int))).bind fun t166 => (if t166 = true then (some false) else ((octet_Join.f k (([(([97] : List Int)), [], (([98, 99] : List Int))] : List (List Int)))).bind fun t176 => (some ((strOfNums t176).toList == ([97, 98, 99] : List UInt8)))))) else (some false)) = some r := H
            have A9 := Aside0.mk A90
            clear A90
            by_cases c10 : t159 = true
            · subst c10
              have H1 : ((octet_Same.f k (([1] : List Int)) (([1, 2] : List Int))).bind fun t166 => (if t166 = true then (some false) else ((octet_Join.f k (([(([97] : List Int)), [], (([98, 99] : List Int))] : List (List Int)))).bind fun t176 => (some ((strOfNums t176).toList == ([97, 98, 99] : List UInt8)))))) = some r := by rw [if_pos rfl] at H; exact H
              clear H
              have H := H1
              clear H1
              obtain ⟨y160, hy160⟩ : ∃ y_ : List Int, y_ = (([1] : List Int)) := ⟨_, rfl⟩
              replace H : ((octet_Same.f k y160 (([1, 2] : List Int))).bind fun t166 => (if t166 = true then (some false) else ((octet_Join.f k (([(([97] : List Int)), [], (([98, 99] : List Int))] : List (List Int)))).bind fun t176 => (some ((strOfNums t176).toList == ([97, 98, 99] : List UInt8)))))) = some r := by first | (rw [hy160]; with_reducible exact H) | (have H2_ := (Option.bind_some _ _).symm.trans H; rw [hy160]; with_reducible exact H2_) | (have H2_ := (Option.bind_some _ _).symm.trans H; with_reducible exact H2_) | with_reducible exact H | (rw [hy160]; exact H) | exact H
              have Ny160 := Aside0.mk hy160
              clear hy160
              obtain ⟨y163, hy163⟩ : ∃ y_ : List Int, y_ = (([1, 2] : List Int)) := ⟨_, rfl⟩
              replace H : ((octet_Same.f k y160 y163).bind fun t166 => (if t166 = true then (some false) else ((octet_Join.f k (([(([97] : List Int)), [], (([98, 99] : List Int))] : List (List Int)))).bind fun t176 => (some ((strOfNums t176).toList == ([97, 98, 99] : List UInt8)))))) = some r := by first | (rw [hy163]; with_reducible exact H) | (have H2_ := (Option.bind_some _ _).symm.trans H; rw [hy163]; with_reducible exact H2_) | (have H2_ := (Option.bind_some _ _).symm.trans H; with_reducible exact H2_) | with_reducible exact H | (rw [hy163]; exact H) | exact H
              have Ny163 := Aside0.mk hy163
              clear hy163
              replace H := Option.bind_eq_some_iff.mp H
              obtain ⟨t166, A110, H⟩ := H
              replace H : (if t166 = true then (some false) else ((octet_Join.f k (([(([97] : List Int)), [], (([98, 99] : List Int))] : List (List Int)))).bind fun t176 => (some ((strOfNums t176).toList == ([97, 98, 99] : List UInt8))))) = some r := H
              have A11 := Aside0.mk A110
              clear A110
              by_cases c12 : t166 = true
              · subst c12
                have H1 : (some false) = some r := by rw [if_pos rfl] at H; exact H
                clear H
                have H := H1
                clear H1
                exact absurd ((Option.some.inj H).trans hlaw.out) (by decide)
              · replace c12 := Bool.eq_false_iff.mpr c12
                subst c12
                have H1 : ((octet_Join.f k (([(([97] : List Int)), [], (([98, 99] : List Int))] : List (List Int)))).bind fun t176 => (some ((strOfNums t176).toList == ([97, 98, 99] : List UInt8)))) = some r := by rw [if_neg (show ¬ (false = true) by decide)] at H; exact H
                clear H
                have H := H1
                clear H1
                obtain ⟨y167, hy167⟩ : ∃ y_ : List Int, y_ = (([97] : List Int)) := ⟨_, rfl⟩
                replace H : ((octet_Join.f k (([y167, [], (([98, 99] : List Int))] : List (List Int)))).bind fun t176 => (some ((strOfNums t176).toList == ([97, 98, 99] : List UInt8)))) = some r := by first | (rw [hy167]; with_reducible exact H) | (have H2_ := (Option.bind_some _ _).symm.trans H; rw [hy167]; with_reducible exact H2_) | (have H2_ := (Option.bind_some _ _).symm.trans H; with_reducible exact H2_) | with_reducible exact H | (rw [hy167]; exact H) | exact H
                have Ny167 := Aside0.mk hy167
                clear hy167
                obtain ⟨y170, hy170⟩ : ∃ y_ : List Int, y_ = (([98, 99] : List Int)) := ⟨_, rfl⟩
                replace H : ((octet_Join.f k (([y167, [], y170] : List (List Int)))).bind fun t176 => (some ((strOfNums t176).toList == ([97, 98, 99] : List UInt8)))) = some r := by first | (rw [hy170]; with_reducible exact H) | (have H2_ := (Option.bind_some _ _).symm.trans H; rw [hy170]; with_reducible exact H2_) | (have H2_ := (Option.bind_some _ _).symm.trans H; with_reducible exact H2_) | with_reducible exact H | (rw [hy170]; exact H) | exact H
                have Ny170 := Aside0.mk hy170
                clear hy170
                obtain ⟨y173, hy173⟩ : ∃ y_ : List (List Int), y_ = (([y167, [], y170] : List (List Int))) := ⟨_, rfl⟩
                replace H : ((octet_Join.f k y173).bind fun t176 => (some ((strOfNums t176).toList == ([97, 98, 99] : List UInt8)))) = some r := by first | (rw [hy173]; with_reducible exact H) | (have H2_ := (Option.bind_some _ _).symm.trans H; rw [hy173]; with_reducible exact H2_) | (have H2_ := (Option.bind_some _ _).symm.trans H; with_reducible exact H2_) | with_reducible exact H | (rw [hy173]; exact H) | exact H
                have Ny173 := Aside0.mk hy173
                clear hy173
                replace H := Option.bind_eq_some_iff.mp H
                obtain ⟨t176, A130, H⟩ := H
                replace H : (some ((strOfNums t176).toList == ([97, 98, 99] : List UInt8))) = some r := H
                have A13 := Aside0.mk A130
                clear A130
                obtain rfl := Option.some.inj H
                go_enter Try.func5, Try.ntmps5
                go_wp2_with (first | ((with_reducible refine gate_dst (N := 6) rfl ?_); (try (refine gate_guard (by rfl) ?_; dsimp only)); refine Kd.R_make (Kd.int .u8) _ 5 rfl (N := 6) rfl 28 _ _ rfl 7 (by first | rfl | (simp only [List.length_drop, List.length_take]; rfl)) (by first | rfl | (simp only [List.length_drop, List.length_take]; rfl)) Try.underlying28 (.int .u8 0) 1 info5 rfl (by decide) (by omega) 0 (ok := fun _ => True) (okp := fun _ => True) rfl (fun _ hk => hk) trivial (by omega) (by omega) (Below.refl _ _) (Nat.le_refl _) ?_; intro v146 w14 ho15 hb hg_ hnew_; clear hg_ hnew_; (first | rw [← Ny145.out] at ho15 | (simp only [Int.reduceToNat] at ho15; rw [← Ny145.out] at ho15)); have n0_ := Aside0.mk (Kd.R_lower ho15 (below_size (by repeat (first | (with_reducible first | exact HB.out | apply below_alloc | apply pw_below_drewN | apply below_drew1) | exact HB.out)))); have n1_ := Aside0.mk (below_step (by repeat (first | (with_reducible first | exact HB.out | apply below_alloc | apply pw_below_drewN | apply below_drew1) | exact HB.out)) hb); clear HB; have HO147 := n0_; have HB := n1_; clear n0_ n1_; clear hb ho15; obtain ⟨Ao16, co16, eo16⟩ := Kd.R_slice HO147.out; subst eo16) | ((with_reducible refine gate_callee (f := 17) rfl ?_); refine goesL_ (some 7) rfl rfl Try.func17 (by kernel_rfl) rfl #[.slice Ao16 y145.length co16] rfl (by (try simp only [List.map_toArray, List.map_cons, List.map_nil]); first | done | rfl | (simp only [List.length_drop, List.length_take]; rfl) | (go_simp; done)) ?_; (with_reducible refine (octet_Get64.calls k _ _ y145 t148 false _ ?side1 ?side2 A2.out).mono ?_); (case side1 => repeat (first | exact (Kd.R_reads' HO147.out).2.2 | (with_reducible refine Kd.C_alloc ?_ _) | (with_reducible refine Kd.C_drewN ?_ _) | (with_reducible refine Kd.C_drew ?_))); (case side2 => exact (Kd.R_reads' HO147.out).2.1); rintro e w' ⟨rfl, ⟨nd, rfl⟩⟩; refine ⟨_, rfl, ?_⟩) | ((with_reducible refine gate_dst (N := 11) rfl ?_); (try (refine gate_guard (by rfl) ?_; dsimp only)); refine Kd.R_lit (Kd.int .u8) _ 5 ?hg (N := 11) ?hd (xs := ([0, 0, 0, 0, 1, 0, 0, 0] : List Int)) (inner := [.int .u8 0, .int .u8 0, .int .u8 0, .int .u8 0, .int .u8 1, .int .u8 0, .int .u8 0, .int .u8 0]) (ok := fun _ => True) (okp := fun _ => True) ?hr ?hp (fun _ hk => hk) trivial (Below.refl _ _) (Nat.le_refl _) (by simp) ?_; (case hd => rfl); (case hg => rfl); (case hr => first | (go_simp; done) | (go_simp; rfl)); (case hp => exact (Reps.one (show Kd.M (Kd.int .u8) _ _ _ 0 [.int .u8 0] from rfl) (Reps.one (show Kd.M (Kd.int .u8) _ _ _ 0 [.int .u8 0] from rfl) (Reps.one (show Kd.M (Kd.int .u8) _ _ _ 0 [.int .u8 0] from rfl) (Reps.one (show Kd.M (Kd.int .u8) _ _ _ 0 [.int .u8 0] from rfl) (Reps.one (show Kd.M (Kd.int .u8) _ _ _ 1 [.int .u8 1] from rfl) (Reps.one (show Kd.M (Kd.int .u8) _ _ _ 0 [.int .u8 0] from rfl) (Reps.one (show Kd.M (Kd.int .u8) _ _ _ 0 [.int .u8 0] from rfl) (Reps.one (show Kd.M (Kd.int .u8) _ _ _ 0 [.int .u8 0] from rfl) (Reps.none _ _)))))))))); intro v151 w17 ho18 hb hg_ hnew_; clear hg_ hnew_; (first | rw [← Ny150.out] at ho18 | (simp only [Int.reduceToNat] at ho18; rw [← Ny150.out] at ho18)); have n0_ := Aside0.mk (Kd.R_elder' (by (with_reducible repeat (first | apply Kd.R_alloc | apply Kd.R_drewN | apply Kd.R_drew)); exact HO147.out) (Kd.R_base ho18) hb); have n1_ := Aside0.mk (Kd.R_lower (Kd.R_new' ho18 (Kd.R_lt (by (with_reducible repeat (first | apply Kd.R_alloc | apply Kd.R_drewN | apply Kd.R_drew)); exact HO147.out))) (below_size (by repeat (first | (with_reducible first | exact HB.out | apply below_alloc | apply pw_below_drewN | apply below_drew1) | exact HB.out)))); have n2_ := Aside0.mk (below_step (by repeat (first | (with_reducible first | exact HB.out | apply below_alloc | apply pw_below_drewN | apply below_drew1) | exact HB.out)) hb); clear HO147; clear HB; have HO147 := n0_; have HO152 := n1_; have HB := n2_; clear n0_ n1_ n2_; clear hb ho18; obtain ⟨Ao19, co19, eo19⟩ := Kd.R_slice HO152.out; subst eo19) | ((with_reducible refine gate_callee (f := 17) rfl ?_); refine goesL_ (some 12) rfl rfl Try.func17 (by kernel_rfl) rfl #[.slice Ao19 y150.length co19] rfl (by (try simp only [List.map_toArray, List.map_cons, List.map_nil]); first | done | rfl | (simp only [List.length_drop, List.length_take]; rfl) | (go_simp; done)) ?_; (with_reducible refine (octet_Get64.calls k _ _ y150 t153 true _ ?side1 ?side2 A3.out).mono ?_); (case side1 => repeat (first | exact (Kd.R_reads' HO152.out).2.2 | (with_reducible refine Kd.C_alloc ?_ _) | (with_reducible refine Kd.C_drewN ?_ _) | (with_reducible refine Kd.C_drew ?_))); (case side2 => exact (Kd.R_reads' HO152.out).2.1); rintro e w' ⟨rfl, ⟨nd, rfl⟩⟩; refine ⟨_, rfl, ?_⟩) | ((with_reducible refine gate_callee (f := 20) rfl ?_); refine goesL_ (some 15) rfl rfl Try.func20 (by kernel_rfl) rfl #[] rfl (by (try simp only [List.map_toArray, List.map_cons, List.map_nil]); first | done | rfl | (simp only [List.length_drop, List.length_take]; rfl) | (go_simp; done)) ?_; (with_reducible refine (portholelaw1_known.calls k  true _ A4.out).mono ?_); rintro e w20 ⟨rfl, hb⟩; refine ⟨_, rfl, ?_⟩; have n0_ := Aside0.mk (Kd.R_below (by (with_reducible repeat (first | apply Kd.R_alloc | apply Kd.R_drewN | apply Kd.R_drew)); exact HO147.out) hb); have n1_ := Aside0.mk (Kd.R_below (by (with_reducible repeat (first | apply Kd.R_alloc | apply Kd.R_drewN | apply Kd.R_drew)); exact HO152.out) hb); have n2_ := Aside0.mk (below_step (by repeat (first | (with_reducible first | exact HB.out | apply below_alloc | apply pw_below_drewN | apply below_drew1) | exact HB.out)) hb); clear HO147; clear HO152; clear HB; have HO147 := n0_; have HO152 := n1_; have HB := n2_; clear n0_ n1_ n2_; (try clear hb); (try clear hb2); (try clear hk); (try clear hi)) | ((with_reducible refine gate_dst (N := 28) rfl ?_); (try (refine gate_guard (by rfl) ?_; dsimp only)); refine Kd.R_lit (Kd.int .u8) _ 5 ?hg (N := 28) ?hd (xs := ([] : List Int)) (inner := []) (ok := fun _ => True) (okp := fun _ => True) ?hr ?hp (fun _ hk => hk) trivial (Below.refl _ _) (Nat.le_refl _) (by simp) ?_; (case hd => rfl); (case hg => rfl); (case hr => first | (go_simp; done) | (go_simp; rfl)); (case hp => exact (Reps.none _ _)); intro v157 w21 ho22 hb hg_ hnew_; clear hg_ hnew_; (first | rw [← Ny156.out] at ho22 | (simp only [Int.reduceToNat] at ho22; rw [← Ny156.out] at ho22)); have n0_ := Aside0.mk (Kd.R_elder' (by (with_reducible repeat (first | apply Kd.R_alloc | apply Kd.R_drewN | apply Kd.R_drew)); exact HO147.out) (Kd.R_base ho22) hb); have n1_ := Aside0.mk (Kd.R_elder' (by (with_reducible repeat (first | apply Kd.R_alloc | apply Kd.R_drewN | apply Kd.R_drew)); exact HO152.out) (Kd.R_base ho22) hb); have n2_ := Aside0.mk (Kd.R_lower (Kd.R_new' (Kd.R_new' ho22 (Kd.R_lt (by (with_reducible repeat (first | apply Kd.R_alloc | apply Kd.R_drewN | apply Kd.R_drew)); exact HO147.out))) (Kd.R_lt (by (with_reducible repeat (first | apply Kd.R_alloc | apply Kd.R_drewN | apply Kd.R_drew)); exact HO152.out))) (below_size (by repeat (first | (with_reducible first | exact HB.out | apply below_alloc | apply pw_below_drewN | apply below_drew1) | exact HB.out)))); have n3_ := Aside0.mk (below_step (by repeat (first | (with_reducible first | exact HB.out | apply below_alloc | apply pw_below_drewN | apply below_drew1) | exact HB.out)) hb); clear HO147; clear HO152; clear HB; have HO147 := n0_; have HO152 := n1_; have HO158 := n2_; have HB := n3_; clear n0_ n1_ n2_ n3_; clear hb ho22; obtain ⟨Ao23, co23, eo23⟩ := Kd.R_slice HO158.out; subst eo23) | (go_at_call 23; (refine calls_of_args (args' := #[.slice none ([] : List Int).length 0, .slice Ao23 y156.length co23]) (by rfl) ?_); (with_reducible refine (octet_Same.calls k _ _ ([] : List Int) _ _ y156 true _ ?side1 ?side2 ?side3 ?side4 A9.out).mono ?_); (case side1 => exact Kd.C_nil _ _); (case side2 => exact Nat.le_refl _); (case side3 => repeat (first | exact (Kd.R_reads' HO158.out).2.2 | (with_reducible refine Kd.C_alloc ?_ _) | (with_reducible refine Kd.C_drewN ?_ _) | (with_reducible refine Kd.C_drew ?_))); (case side4 => exact (Kd.R_reads' HO158.out).2.1); rintro e w' ⟨rfl, ⟨nd, rfl⟩⟩) | ((with_reducible refine gate_dst (N := 32) rfl ?_); (try (refine gate_guard (by rfl) ?_; dsimp only)); refine Kd.R_lit (Kd.int .u8) _ 5 ?hg (N := 32) ?hd (xs := ([1] : List Int)) (inner := [.int .u8 1]) (ok := fun _ => True) (okp := fun _ => True) ?hr ?hp (fun _ hk => hk) trivial (Below.refl _ _) (Nat.le_refl _) (by simp) ?_; (case hd => rfl); (case hg => rfl); (case hr => first | (go_simp; done) | (go_simp; rfl)); (case hp => exact (Reps.one (show Kd.M (Kd.int .u8) _ _ _ 1 [.int .u8 1] from rfl) (Reps.none _ _))); intro v161 w24 ho25 hb hg_ hnew_; clear hg_ hnew_; (first | rw [← Ny160.out] at ho25 | (simp only [Int.reduceToNat] at ho25; rw [← Ny160.out] at ho25)); have n0_ := Aside0.mk (Kd.R_elder' (by (with_reducible repeat (first | apply Kd.R_alloc | apply Kd.R_drewN | apply Kd.R_drew)); exact HO147.out) (Kd.R_base ho25) hb); have n1_ := Aside0.mk (Kd.R_elder' (by (with_reducible repeat (first | apply Kd.R_alloc | apply Kd.R_drewN | apply Kd.R_drew)); exact HO152.out) (Kd.R_base ho25) hb); have n2_ := Aside0.mk (Kd.R_elder' (by (with_reducible repeat (first | apply Kd.R_alloc | apply Kd.R_drewN | apply Kd.R_drew)); exact HO158.out) (Kd.R_base ho25) hb); have n3_ := Aside0.mk (Kd.R_lower (Kd.R_new' (Kd.R_new' (Kd.R_new' ho25 (Kd.R_lt (by (with_reducible repeat (first | apply Kd.R_alloc | apply Kd.R_drewN | apply Kd.R_drew)); exact HO147.out))) (Kd.R_lt (by (with_reducible repeat (first | apply Kd.R_alloc | apply Kd.R_drewN | apply Kd.R_drew)); exact HO152.out))) (Kd.R_lt (by (with_reducible repeat (first | apply Kd.R_alloc | apply Kd.R_drewN | apply Kd.R_drew)); exact HO158.out))) (below_size (by repeat (first | (with_reducible first | exact HB.out | apply below_alloc | apply pw_below_drewN | apply below_drew1) | exact HB.out)))); have n4_ := Aside0.mk (below_step (by repeat (first | (with_reducible first | exact HB.out | apply below_alloc | apply pw_below_drewN | apply below_drew1) | exact HB.out)) hb); clear HO147; clear HO152; clear HO158; clear HB; have HO147 := n0_; have HO152 := n1_; have HO158 := n2_; have HO162 := n3_; have HB := n4_; clear n0_ n1_ n2_ n3_ n4_; clear hb ho25) | ((with_reducible refine gate_dst (N := 33) rfl ?_); (try (refine gate_guard (by rfl) ?_; dsimp only)); refine Kd.R_lit (Kd.int .u8) _ 5 ?hg (N := 33) ?hd (xs := ([1, 2] : List Int)) (inner := [.int .u8 1, .int .u8 2]) (ok := fun _ => True) (okp := fun _ => True) ?hr ?hp (fun _ hk => hk) trivial (Below.refl _ _) (Nat.le_refl _) (by simp) ?_; (case hd => rfl); (case hg => rfl); (case hr => first | (go_simp; done) | (go_simp; rfl)); (case hp => exact (Reps.one (show Kd.M (Kd.int .u8) _ _ _ 1 [.int .u8 1] from rfl) (Reps.one (show Kd.M (Kd.int .u8) _ _ _ 2 [.int .u8 2] from rfl) (Reps.none _ _)))); intro v164 w26 ho27 hb hg_ hnew_; clear hg_ hnew_; (first | rw [← Ny163.out] at ho27 | (simp only [Int.reduceToNat] at ho27; rw [← Ny163.out] at ho27)); have n0_ := Aside0.mk (Kd.R_elder' (by (with_reducible repeat (first | apply Kd.R_alloc | apply Kd.R_drewN | apply Kd.R_drew)); exact HO147.out) (Kd.R_base ho27) hb); have n1_ := Aside0.mk (Kd.R_elder' (by (with_reducible repeat (first | apply Kd.R_alloc | apply Kd.R_drewN | apply Kd.R_drew)); exact HO152.out) (Kd.R_base ho27) hb); have n2_ := Aside0.mk (Kd.R_elder' (by (with_reducible repeat (first | apply Kd.R_alloc | apply Kd.R_drewN | apply Kd.R_drew)); exact HO158.out) (Kd.R_base ho27) hb); have n3_ := Aside0.mk (Kd.R_elder' (by (with_reducible repeat (first | apply Kd.R_alloc | apply Kd.R_drewN | apply Kd.R_drew)); exact HO162.out) (Kd.R_base ho27) hb); have n4_ := Aside0.mk (Kd.R_lower (Kd.R_new' (Kd.R_new' (Kd.R_new' (Kd.R_new' ho27 (Kd.R_lt (by (with_reducible repeat (first | apply Kd.R_alloc | apply Kd.R_drewN | apply Kd.R_drew)); exact HO147.out))) (Kd.R_lt (by (with_reducible repeat (first | apply Kd.R_alloc | apply Kd.R_drewN | apply Kd.R_drew)); exact HO152.out))) (Kd.R_lt (by (with_reducible repeat (first | apply Kd.R_alloc | apply Kd.R_drewN | apply Kd.R_drew)); exact HO158.out))) (Kd.R_lt (by (with_reducible repeat (first | apply Kd.R_alloc | apply Kd.R_drewN | apply Kd.R_drew)); exact HO162.out))) (below_size (by repeat (first | (with_reducible first | exact HB.out | apply below_alloc | apply pw_below_drewN | apply below_drew1) | exact HB.out)))); have n5_ := Aside0.mk (below_step (by repeat (first | (with_reducible first | exact HB.out | apply below_alloc | apply pw_below_drewN | apply below_drew1) | exact HB.out)) hb); clear HO147; clear HO152; clear HO158; clear HO162; clear HB; have HO147 := n0_; have HO152 := n1_; have HO158 := n2_; have HO162 := n3_; have HO165 := n4_; have HB := n5_; clear n0_ n1_ n2_ n3_ n4_ n5_; clear hb ho27; obtain ⟨Ao28, co28, eo28⟩ := Kd.R_slice HO162.out; subst eo28; obtain ⟨Ao29, co29, eo29⟩ := Kd.R_slice HO165.out; subst eo29) | (go_at_call 23; (with_reducible refine (octet_Same.calls k _ _ y160 _ _ y163 false _ ?side1 ?side2 ?side3 ?side4 A11.out).mono ?_); (case side1 => repeat (first | exact (Kd.R_reads' HO162.out).2.2 | (with_reducible refine Kd.C_alloc ?_ _) | (with_reducible refine Kd.C_drewN ?_ _) | (with_reducible refine Kd.C_drew ?_))); (case side2 => exact (Kd.R_reads' HO162.out).2.1); (case side3 => repeat (first | exact (Kd.R_reads' HO165.out).2.2 | (with_reducible refine Kd.C_alloc ?_ _) | (with_reducible refine Kd.C_drewN ?_ _) | (with_reducible refine Kd.C_drew ?_))); (case side4 => exact (Kd.R_reads' HO165.out).2.1); rintro e w' ⟨rfl, ⟨nd, rfl⟩⟩) | ((with_reducible refine gate_dst (N := 38) rfl ?_); (try (refine gate_guard (by rfl) ?_; dsimp only)); refine Kd.V_strlit (P := Try.prog) w26.heap.size 5 28 rfl rfl rfl (fun _ => rfl) (fun _ => rfl) Try.underlying28 Try.underlying5 (xs := ([97] : List Int)) (inner := [.int .u8 97]) ?hr rfl (by decide) ?_; (case hr => first | (go_simp; done) | (go_simp; rfl)); intro v168 w30 ho31 hb; rw [← Ny167.out] at ho31; have n0_ := Aside0.mk (Kd.R_below (by (with_reducible repeat (first | apply Kd.R_alloc | apply Kd.R_drewN | apply Kd.R_drew)); exact HO147.out) hb); have n1_ := Aside0.mk (Kd.R_below (by (with_reducible repeat (first | apply Kd.R_alloc | apply Kd.R_drewN | apply Kd.R_drew)); exact HO152.out) hb); have n2_ := Aside0.mk (Kd.R_below (by (with_reducible repeat (first | apply Kd.R_alloc | apply Kd.R_drewN | apply Kd.R_drew)); exact HO158.out) hb); have n3_ := Aside0.mk (Kd.R_below (by (with_reducible repeat (first | apply Kd.R_alloc | apply Kd.R_drewN | apply Kd.R_drew)); exact HO162.out) hb); have n4_ := Aside0.mk (Kd.R_below (by (with_reducible repeat (first | apply Kd.R_alloc | apply Kd.R_drewN | apply Kd.R_drew)); exact HO165.out) hb); have n5_ := Aside0.mk (Kd.V_lower (Kd.V_mono (ok' := fun k_ => some k_ ≠ (.slice Ao16 y145.length co16 : Value).ownBlock ∧ some k_ ≠ (.slice Ao19 y150.length co19 : Value).ownBlock ∧ some k_ ≠ (.slice Ao23 y156.length co23 : Value).ownBlock ∧ some k_ ≠ (.slice Ao28 y160.length co28 : Value).ownBlock ∧ some k_ ≠ (.slice Ao29 y163.length co29 : Value).ownBlock) ho31 (fun k_ hk_ => ⟨(Kd.fresh' (Kd.R_lt (by (with_reducible repeat (first | apply Kd.R_alloc | apply Kd.R_drewN | apply Kd.R_drew)); exact HO147.out)) k_ hk_), (Kd.fresh' (Kd.R_lt (by (with_reducible repeat (first | apply Kd.R_alloc | apply Kd.R_drewN | apply Kd.R_drew)); exact HO152.out)) k_ hk_), (Kd.fresh' (Kd.R_lt (by (with_reducible repeat (first | apply Kd.R_alloc | apply Kd.R_drewN | apply Kd.R_drew)); exact HO158.out)) k_ hk_), (Kd.fresh' (Kd.R_lt (by (with_reducible repeat (first | apply Kd.R_alloc | apply Kd.R_drewN | apply Kd.R_drew)); exact HO162.out)) k_ hk_), (Kd.fresh' (Kd.R_lt (by (with_reducible repeat (first | apply Kd.R_alloc | apply Kd.R_drewN | apply Kd.R_drew)); exact HO165.out)) k_ hk_)⟩)) (below_size (by repeat (first | (with_reducible first | exact HB.out | apply below_alloc | apply pw_below_drewN | apply below_drew1) | exact HB.out)))); have n6_ := Aside0.mk (below_step (by repeat (first | (with_reducible first | exact HB.out | apply below_alloc | apply pw_below_drewN | apply below_drew1) | exact HB.out)) hb); clear HO147; clear HO152; clear HO158; clear HO162; clear HO165; clear HB; have HO147 := n0_; have HO152 := n1_; have HO158 := n2_; have HO162 := n3_; have HO165 := n4_; have HO169 := n5_; have HB := n6_; clear n0_ n1_ n2_ n3_ n4_ n5_ n6_; clear hb ho31) | ((with_reducible refine gate_dst (N := 40) rfl ?_); (try (refine gate_guard (by rfl) ?_; dsimp only)); refine Kd.V_strlit (P := Try.prog) w30.heap.size 5 28 rfl rfl rfl (fun _ => rfl) (fun _ => rfl) Try.underlying28 Try.underlying5 (xs := ([98, 99] : List Int)) (inner := [.int .u8 98, .int .u8 99]) ?hr rfl (by decide) ?_; (case hr => first | (go_simp; done) | (go_simp; rfl)); intro v171 w32 ho33 hb; rw [← Ny170.out] at ho33; have n0_ := Aside0.mk (Kd.R_below (by (with_reducible repeat (first | apply Kd.R_alloc | apply Kd.R_drewN | apply Kd.R_drew)); exact HO147.out) hb); have n1_ := Aside0.mk (Kd.R_below (by (with_reducible repeat (first | apply Kd.R_alloc | apply Kd.R_drewN | apply Kd.R_drew)); exact HO152.out) hb); have n2_ := Aside0.mk (Kd.R_below (by (with_reducible repeat (first | apply Kd.R_alloc | apply Kd.R_drewN | apply Kd.R_drew)); exact HO158.out) hb); have n3_ := Aside0.mk (Kd.R_below (by (with_reducible repeat (first | apply Kd.R_alloc | apply Kd.R_drewN | apply Kd.R_drew)); exact HO162.out) hb); have n4_ := Aside0.mk (Kd.R_below (by (with_reducible repeat (first | apply Kd.R_alloc | apply Kd.R_drewN | apply Kd.R_drew)); exact HO165.out) hb); have n5_ := Aside0.mk (Kd.V_below (by (with_reducible repeat (first | apply Kd.V_alloc | apply Kd.V_drewN | apply Kd.V_drew)); exact HO169.out) hb); have n6_ := Aside0.mk (Kd.V_lower (Kd.V_mono (ok' := fun k_ => some k_ ≠ (.slice Ao16 y145.length co16 : Value).ownBlock ∧ some k_ ≠ (.slice Ao19 y150.length co19 : Value).ownBlock ∧ some k_ ≠ (.slice Ao23 y156.length co23 : Value).ownBlock ∧ some k_ ≠ (.slice Ao28 y160.length co28 : Value).ownBlock ∧ some k_ ≠ (.slice Ao29 y163.length co29 : Value).ownBlock) ho33 (fun k_ hk_ => ⟨(Kd.fresh' (Kd.R_lt (by (with_reducible repeat (first | apply Kd.R_alloc | apply Kd.R_drewN | apply Kd.R_drew)); exact HO147.out)) k_ hk_), (Kd.fresh' (Kd.R_lt (by (with_reducible repeat (first | apply Kd.R_alloc | apply Kd.R_drewN | apply Kd.R_drew)); exact HO152.out)) k_ hk_), (Kd.fresh' (Kd.R_lt (by (with_reducible repeat (first | apply Kd.R_alloc | apply Kd.R_drewN | apply Kd.R_drew)); exact HO158.out)) k_ hk_), (Kd.fresh' (Kd.R_lt (by (with_reducible repeat (first | apply Kd.R_alloc | apply Kd.R_drewN | apply Kd.R_drew)); exact HO162.out)) k_ hk_), (Kd.fresh' (Kd.R_lt (by (with_reducible repeat (first | apply Kd.R_alloc | apply Kd.R_drewN | apply Kd.R_drew)); exact HO165.out)) k_ hk_)⟩)) (below_size (by repeat (first | (with_reducible first | exact HB.out | apply below_alloc | apply pw_below_drewN | apply below_drew1) | exact HB.out)))); have n7_ := Aside0.mk (below_step (by repeat (first | (with_reducible first | exact HB.out | apply below_alloc | apply pw_below_drewN | apply below_drew1) | exact HB.out)) hb); clear HO147; clear HO152; clear HO158; clear HO162; clear HO165; clear HO169; clear HB; have HO147 := n0_; have HO152 := n1_; have HO158 := n2_; have HO162 := n3_; have HO165 := n4_; have HO169 := n5_; have HO172 := n6_; have HB := n7_; clear n0_ n1_ n2_ n3_ n4_ n5_ n6_ n7_; clear hb ho33; obtain ⟨Ao34, co34, eo34⟩ := Kd.V_slice HO169.out; subst eo34; obtain ⟨Ao35, co35, eo35⟩ := Kd.V_slice HO172.out; subst eo35) | ((with_reducible refine gate_dst (N := 42) rfl ?_); (try (refine gate_guard (by rfl) ?_; dsimp only)); refine Kd.N_lit (Kd.slice 5 (Kd.int .u8)) _ 28 ?hg (N' := 42) ?hd (xs := ([y167, [], y170] : List (List Int))) (inner := [.slice Ao34 y167.length co34, .slice none 0 0, .slice Ao35 y170.length co35]) (ok := (fun k_ => some k_ ≠ (.slice Ao16 y145.length co16 : Value).ownBlock ∧ some k_ ≠ (.slice Ao19 y150.length co19 : Value).ownBlock ∧ some k_ ≠ (.slice Ao23 y156.length co23 : Value).ownBlock ∧ some k_ ≠ (.slice Ao28 y160.length co28 : Value).ownBlock ∧ some k_ ≠ (.slice Ao29 y163.length co29 : Value).ownBlock)) (okp := (fun k_ => some k_ ≠ (.slice Ao16 y145.length co16 : Value).ownBlock ∧ some k_ ≠ (.slice Ao19 y150.length co19 : Value).ownBlock ∧ some k_ ≠ (.slice Ao23 y156.length co23 : Value).ownBlock ∧ some k_ ≠ (.slice Ao28 y160.length co28 : Value).ownBlock ∧ some k_ ≠ (.slice Ao29 y163.length co29 : Value).ownBlock)) ?hr ?hp (fun _ hk => hk) ((show ∀ k_, w32.heap.size ≤ k_ → (fun k_ => some k_ ≠ (.slice Ao16 y145.length co16 : Value).ownBlock ∧ some k_ ≠ (.slice Ao19 y150.length co19 : Value).ownBlock ∧ some k_ ≠ (.slice Ao23 y156.length co23 : Value).ownBlock ∧ some k_ ≠ (.slice Ao28 y160.length co28 : Value).ownBlock ∧ some k_ ≠ (.slice Ao29 y163.length co29 : Value).ownBlock) k_ from fun k_ hk => ⟨Kd.fresh' (Kd.R_lt (by (with_reducible repeat (first | apply Kd.R_alloc | apply Kd.R_drewN | apply Kd.R_drew)); exact HO147.out)) k_ hk, Kd.fresh' (Kd.R_lt (by (with_reducible repeat (first | apply Kd.R_alloc | apply Kd.R_drewN | apply Kd.R_drew)); exact HO152.out)) k_ hk, Kd.fresh' (Kd.R_lt (by (with_reducible repeat (first | apply Kd.R_alloc | apply Kd.R_drewN | apply Kd.R_drew)); exact HO158.out)) k_ hk, Kd.fresh' (Kd.R_lt (by (with_reducible repeat (first | apply Kd.R_alloc | apply Kd.R_drewN | apply Kd.R_drew)); exact HO162.out)) k_ hk, Kd.fresh' (Kd.R_lt (by (with_reducible repeat (first | apply Kd.R_alloc | apply Kd.R_drewN | apply Kd.R_drew)); exact HO165.out)) k_ hk⟩) _ (Nat.le_refl _)) (Below.refl _ _) (Nat.le_refl _) (by simp) ?_; (case hd => rfl); (case hg => rfl); (case hr => first | (go_simp; done) | (go_simp; rfl)); (case hp => exact (Reps.one (show Kd.FK (Kd.slice 5 (Kd.int .u8)) _ _ y167 [.slice Ao34 y167.length co34] from (Kd.FK_slice_mk (Kd.V_reads' (Kd.V_mono (ok' := (fun k_ => some k_ ≠ (.slice Ao16 y145.length co16 : Value).ownBlock ∧ some k_ ≠ (.slice Ao19 y150.length co19 : Value).ownBlock ∧ some k_ ≠ (.slice Ao23 y156.length co23 : Value).ownBlock ∧ some k_ ≠ (.slice Ao28 y160.length co28 : Value).ownBlock ∧ some k_ ≠ (.slice Ao29 y163.length co29 : Value).ownBlock)) (HO169.out) (fun k_ hk => ⟨hk.1, ⟨hk.2.1, ⟨hk.2.2.1, ⟨hk.2.2.2.1, hk.2.2.2.2⟩⟩⟩⟩))).2.1 (Kd.V_F (Kd.V_mono (ok' := (fun k_ => some k_ ≠ (.slice Ao16 y145.length co16 : Value).ownBlock ∧ some k_ ≠ (.slice Ao19 y150.length co19 : Value).ownBlock ∧ some k_ ≠ (.slice Ao23 y156.length co23 : Value).ownBlock ∧ some k_ ≠ (.slice Ao28 y160.length co28 : Value).ownBlock ∧ some k_ ≠ (.slice Ao29 y163.length co29 : Value).ownBlock)) (HO169.out) (fun k_ hk => ⟨hk.1, ⟨hk.2.1, ⟨hk.2.2.1, ⟨hk.2.2.2.1, hk.2.2.2.2⟩⟩⟩⟩))))) (Reps.one (show Kd.FK (Kd.slice 5 (Kd.int .u8)) _ _ [] [.slice none 0 0] from (Kd.FK_slice_mk (Nat.le_refl _) (Kd.F_nil _ _ _))) (Reps.one (show Kd.FK (Kd.slice 5 (Kd.int .u8)) _ _ y170 [.slice Ao35 y170.length co35] from (Kd.FK_slice_mk (Kd.V_reads' (Kd.V_mono (ok' := (fun k_ => some k_ ≠ (.slice Ao16 y145.length co16 : Value).ownBlock ∧ some k_ ≠ (.slice Ao19 y150.length co19 : Value).ownBlock ∧ some k_ ≠ (.slice Ao23 y156.length co23 : Value).ownBlock ∧ some k_ ≠ (.slice Ao28 y160.length co28 : Value).ownBlock ∧ some k_ ≠ (.slice Ao29 y163.length co29 : Value).ownBlock)) (HO172.out) (fun k_ hk => ⟨hk.1, ⟨hk.2.1, ⟨hk.2.2.1, ⟨hk.2.2.2.1, hk.2.2.2.2⟩⟩⟩⟩))).2.1 (Kd.V_F (Kd.V_mono (ok' := (fun k_ => some k_ ≠ (.slice Ao16 y145.length co16 : Value).ownBlock ∧ some k_ ≠ (.slice Ao19 y150.length co19 : Value).ownBlock ∧ some k_ ≠ (.slice Ao23 y156.length co23 : Value).ownBlock ∧ some k_ ≠ (.slice Ao28 y160.length co28 : Value).ownBlock ∧ some k_ ≠ (.slice Ao29 y163.length co29 : Value).ownBlock)) (HO172.out) (fun k_ hk => ⟨hk.1, ⟨hk.2.1, ⟨hk.2.2.1, ⟨hk.2.2.2.1, hk.2.2.2.2⟩⟩⟩⟩))))) (Reps.none _ _))))); intro v174 w36 ho37 hb hg_ hnew_; clear hg_ hnew_; (first | rw [← Ny173.out] at ho37 | (simp only [Int.reduceToNat] at ho37; rw [← Ny173.out] at ho37)); have n0_ := Aside0.mk (Kd.R_below (by (with_reducible repeat (first | apply Kd.R_alloc | apply Kd.R_drewN | apply Kd.R_drew)); exact HO147.out) hb); have n1_ := Aside0.mk (Kd.R_below (by (with_reducible repeat (first | apply Kd.R_alloc | apply Kd.R_drewN | apply Kd.R_drew)); exact HO152.out) hb); have n2_ := Aside0.mk (Kd.R_below (by (with_reducible repeat (first | apply Kd.R_alloc | apply Kd.R_drewN | apply Kd.R_drew)); exact HO158.out) hb); have n3_ := Aside0.mk (Kd.R_below (by (with_reducible repeat (first | apply Kd.R_alloc | apply Kd.R_drewN | apply Kd.R_drew)); exact HO162.out) hb); have n4_ := Aside0.mk (Kd.R_below (by (with_reducible repeat (first | apply Kd.R_alloc | apply Kd.R_drewN | apply Kd.R_drew)); exact HO165.out) hb); have n5_ := Aside0.mk (Kd.V_elder' (by (with_reducible repeat (first | apply Kd.V_alloc | apply Kd.V_drewN | apply Kd.V_drew)); exact HO169.out) (Kd.N_base ho37) hb); have n6_ := Aside0.mk (Kd.V_elder' (by (with_reducible repeat (first | apply Kd.V_alloc | apply Kd.V_drewN | apply Kd.V_drew)); exact HO172.out) (Kd.N_base ho37) hb); have n7_ := Aside0.mk (Kd.N_lower ho37 (below_size (by repeat (first | (with_reducible first | exact HB.out | apply below_alloc | apply pw_below_drewN | apply below_drew1) | exact HB.out)))); have n8_ := Aside0.mk (below_step (by repeat (first | (with_reducible first | exact HB.out | apply below_alloc | apply pw_below_drewN | apply below_drew1) | exact HB.out)) hb); clear HO147; clear HO152; clear HO158; clear HO162; clear HO165; clear HO169; clear HO172; clear HB; have HO147 := n0_; have HO152 := n1_; have HO158 := n2_; have HO162 := n3_; have HO165 := n4_; have HO169 := n5_; have HO172 := n6_; have HO175 := n7_; have HB := n8_; clear n0_ n1_ n2_ n3_ n4_ n5_ n6_ n7_ n8_; clear hb ho37; obtain ⟨Ao38, co38, eo38⟩ := Kd.N_slice HO175.out; subst eo38) | (go_at_call 24; (with_reducible refine (octet_Join.calls k _ _ y173 t176 _ ?side1 ?side2 A13.out).mono ?_); (case side1 => repeat (first | exact (Kd.N_reads' HO175.out).2.2 | (with_reducible refine Kd.C_alloc ?_ _) | (with_reducible refine Kd.C_drewN ?_ _) | (with_reducible refine Kd.C_drew ?_))); (case side2 => exact (Kd.N_reads' HO175.out).2.1); rintro e w39 ⟨v177, rfl, ho0, hb⟩; have n0_ := Aside0.mk (Kd.R_elder' (by (with_reducible repeat (first | apply Kd.R_alloc | apply Kd.R_drewN | apply Kd.R_drew)); exact HO147.out) (Kd.R_base ho0) hb); have n1_ := Aside0.mk (Kd.R_elder' (by (with_reducible repeat (first | apply Kd.R_alloc | apply Kd.R_drewN | apply Kd.R_drew)); exact HO152.out) (Kd.R_base ho0) hb); have n2_ := Aside0.mk (Kd.R_elder' (by (with_reducible repeat (first | apply Kd.R_alloc | apply Kd.R_drewN | apply Kd.R_drew)); exact HO158.out) (Kd.R_base ho0) hb); have n3_ := Aside0.mk (Kd.R_elder' (by (with_reducible repeat (first | apply Kd.R_alloc | apply Kd.R_drewN | apply Kd.R_drew)); exact HO162.out) (Kd.R_base ho0) hb); have n4_ := Aside0.mk (Kd.R_elder' (by (with_reducible repeat (first | apply Kd.R_alloc | apply Kd.R_drewN | apply Kd.R_drew)); exact HO165.out) (Kd.R_base ho0) hb); have n5_ := Aside0.mk (Kd.V_elder' (by (with_reducible repeat (first | apply Kd.V_alloc | apply Kd.V_drewN | apply Kd.V_drew)); exact HO169.out) (Kd.R_base ho0) hb); have n6_ := Aside0.mk (Kd.V_elder' (by (with_reducible repeat (first | apply Kd.V_alloc | apply Kd.V_drewN | apply Kd.V_drew)); exact HO172.out) (Kd.R_base ho0) hb); have n7_ := Aside0.mk (Kd.N_elder' (by (with_reducible repeat (first | apply Kd.N_alloc | apply Kd.N_drewN | apply Kd.N_drew)); exact HO175.out) (Kd.R_base ho0) hb); have n8_ := Aside0.mk (Kd.R_lower (Kd.R_new' (Kd.R_new' (Kd.R_new' (Kd.R_new' (Kd.R_new' ho0 (Kd.R_lt (by (with_reducible repeat (first | apply Kd.R_alloc | apply Kd.R_drewN | apply Kd.R_drew)); exact HO147.out))) (Kd.R_lt (by (with_reducible repeat (first | apply Kd.R_alloc | apply Kd.R_drewN | apply Kd.R_drew)); exact HO152.out))) (Kd.R_lt (by (with_reducible repeat (first | apply Kd.R_alloc | apply Kd.R_drewN | apply Kd.R_drew)); exact HO158.out))) (Kd.R_lt (by (with_reducible repeat (first | apply Kd.R_alloc | apply Kd.R_drewN | apply Kd.R_drew)); exact HO162.out))) (Kd.R_lt (by (with_reducible repeat (first | apply Kd.R_alloc | apply Kd.R_drewN | apply Kd.R_drew)); exact HO165.out))) (below_size (by repeat (first | (with_reducible first | exact HB.out | apply below_alloc | apply pw_below_drewN | apply below_drew1) | exact HB.out)))); have n9_ := Aside0.mk (below_step (by repeat (first | (with_reducible first | exact HB.out | apply below_alloc | apply pw_below_drewN | apply below_drew1) | exact HB.out)) hb); clear HO147; clear HO152; clear HO158; clear HO162; clear HO165; clear HO169; clear HO172; clear HO175; clear HB; have HO147 := n0_; have HO152 := n1_; have HO158 := n2_; have HO162 := n3_; have HO165 := n4_; have HO169 := n5_; have HO172 := n6_; have HO175 := n7_; have HO178 := n8_; have HB := n9_; clear n0_ n1_ n2_ n3_ n4_ n5_ n6_ n7_ n8_ n9_; (try clear hb); (try clear hb2); (try clear hk); (try clear hi); (try clear ho0); have hcv40 := own_string (P := Try.prog) Try.underlying28 Try.underlying5 Try.underlying9 (Kd.own_of_R HO178.out)))
                go_ret
                exact ⟨by first | rfl | (simp [errW_none, errW_some] <;> rfl) | (simp [*, errW_none, errW_some] <;> rfl), by repeat (first | (with_reducible first | exact HB.out | apply below_alloc | apply pw_below_drewN | apply below_drew1) | exact HB.out)⟩
            · replace c10 := Bool.eq_false_iff.mpr c10
              subst c10
              have H1 : (some false) = some r := by rw [if_neg (show ¬ (false = true) by decide)] at H; exact H
              clear H
              have H := H1
              clear H1
              exact absurd ((Option.some.inj H).trans hlaw.out) (by decide)
          · replace c8 := Bool.eq_false_iff.mpr c8
            subst c8
            have H1 : (some false) = some r := by rw [if_neg (show ¬ (false = true) by decide)] at H; exact H
            clear H
            have H := H1
            clear H1
            exact absurd ((Option.some.inj H).trans hlaw.out) (by decide)
        · rw [if_neg c7] at H
          have c7b0 : (t153 == 4294967296) = false := beq_eq_false_iff_ne.mpr c7
          have c7b1 : (t153 != 4294967296) = true := bne_iff_ne.mpr c7
          exact absurd ((Option.some.inj H).trans hlaw.out) (by decide)
    · replace c5 := Bool.eq_false_iff.mpr c5
      subst c5
      have H1 : (some false) = some r := by rw [if_neg (show ¬ (false = true) by decide)] at H; exact H
      clear H
      have H := H1
      clear H1
      exact absurd ((Option.some.inj H).trans hlaw.out) (by decide)
  · rw [if_neg c1] at H
    exact absurd H (by simp)

/-- THE ONE PURE STATEMENT of portholelaw1_OctetKnown: yours. -/
def portholelaw1_OctetKnown.Pure : Prop := ∃ k, portholelaw1_OctetKnown.f k  = some true
theorem portholelaw1_OctetKnown.walk (P : portholelaw1_OctetKnown.Pure)  (w : World)  :
    Calls Try.prog 5 #[] w fun e w' => e = .returned (.bool true) ∧ Below w.heap.size w w' := by
  obtain ⟨k, h⟩ := P  
  refine (portholelaw1_OctetKnown.calls k  true w ⟨rfl⟩ h).mono ?_
  rintro e w' ⟨rfl, hd⟩
  exact ⟨rfl, hd⟩

end Go.Proofs.Ytaaejidllnkpbaa.QOctetKnown
