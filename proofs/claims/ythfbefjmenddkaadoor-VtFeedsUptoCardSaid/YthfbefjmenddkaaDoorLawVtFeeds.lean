/- The row of the law VtFeeds: whatever its arguments, the law returns true, and memory is as it was. All that is handed in weighs no more than the second form says. -/
import Derived.Test.YthfbefjmenddkaaDoorRows
import Derived.Test.YthfbefjmenddkaaDoorFunVtFeeds
import Derived.WalkKit
import Derived.ProofKit
import Derived.OpenShut
import Derived.ShutString
import Derived.ChangeOld
import Derived.Below
import Derived.SizedLaws
import Derived.JoinedCond
import Derived.Test.YthfbefjmenddkaaDoorTie
import Derived.Test.YthfbefjmenddkaaDoorCards
import Derived.LaidMore
import Derived.Lay
import Derived.SevenTiedAt
import Derived.Stop.Joined
import Derived.MakeChecks
import Derived.Deep.DeepHandedRow
import Derived.LaidLaws
import Derived.LaidMore
import Derived.Lay
import Derived.Stop.Joined
import Derived.MakeChecks
namespace Go.Proofs.YthfbefjmenddkaaDoor.VtFeeds
open Go Go.Proofs.YthfbefjmenddkaaDoorA
open Go.ChangeShapes Go.WideShapes Go.ChangeAt Go.RowKit
open Go.ChangeMaps (open_string shut_string)
set_option linter.unusedVariables false
set_option maxRecDepth 100000
theorem mixed : Tryd.prog.follows .mixedOrders = true := by kernel_rfl
noncomputable def cf0 : ACall := none0
theorem ans0 : Answers Tryd.prog cf0 := answers_none
noncomputable def cf1 : ACall := withSum cf0 13 s_Pick
theorem ans1 : Answers Tryd.prog cf1 := answers_Sum mixed ans0 Tryd.func13 h13 (Pick_ok cf0)
noncomputable def cf2 : ACall := withSum cf1 24 s_New
theorem ans2 : Answers Tryd.prog cf2 := answers_Sum mixed ans1 Tryd.func24 h24 (New_ok cf1)
noncomputable def cf3 : ACall := withSum cf2 36 s_Start
theorem ans3 : Answers Tryd.prog cf3 := answers_Sum mixed ans2 Tryd.func36 h36 (Start_ok cf2)
noncomputable def cf4 : ACall := withSum cf3 38 s_Runes
theorem ans4 : Answers Tryd.prog cf4 := answers_Sum mixed ans3 Tryd.func38 h38 (Runes_ok cf3)
noncomputable def cf5 : ACall := withSum cf4 37 s_Full
theorem ans5 : Answers Tryd.prog cf5 := answers_Sum mixed ans4 Tryd.func37 h37 (Full_ok cf4)
noncomputable def cf6 : ACall := withSum cf5 25 s_Feed
theorem ans6 : Answers Tryd.prog cf6 := answers_Sum mixed ans5 Tryd.func25 h25 (Feed_ok cf5 (fun _ _ => rfl) (fun _ _ => rfl) (fun _ _ => rfl))
noncomputable def cf7 : ACall := withSum cf6 41 s_control
theorem ans7 : Answers Tryd.prog cf7 := answers_Sum mixed ans6 Tryd.func41 h41 (control_ok cf6)
noncomputable def cf8 : ACall := withSum cf7 30 s_plain
theorem ans8 : Answers Tryd.prog cf8 := answers_Sum mixed ans7 Tryd.func30 h30 (plain_ok cf7 (fun _ _ => rfl))
noncomputable def raw28 : ARaw := bodyA cf8 20 c28
theorem raw28_ok : IsStep (fun _ => True) stEsc raw28 := esc_ok cf8 (fun _ _ => rfl)
noncomputable def cf9 : ACall := withSum cf8 28 raw28
theorem ans9 : Answers Tryd.prog cf9 := answers_sum mixed ans8 Tryd.func28 h28 (N := 20) fun args h v h2 hr _ => ⟨h2, hr, Nat.le_refl _, fun b B hb => hb⟩
noncomputable def raw29 : ARaw := bodyA cf9 20 c29
theorem raw29_ok : IsStep (fun s => s.st = 3) stCsi raw29 := csi_ok cf9 (fun _ _ => rfl)
noncomputable def cf10 : ACall := withSum cf9 29 raw29
theorem ans10 : Answers Tryd.prog cf10 := answers_sum mixed ans9 Tryd.func29 h29 (N := 20) fun args h v h2 hr _ => ⟨h2, hr, Nat.le_refl _, fun b B hb => hb⟩
noncomputable def raw19 : ARaw := bodyA cf10 20 c19
theorem raw19_ok : IsStep (fun _ => True) stRune raw19 := rune_ok cf10 (fun _ _ => rfl) raw28 (fun _ _ => rfl) raw28_ok raw29 (fun _ _ => rfl) raw29_ok
noncomputable def cf11 : ACall := withSum cf10 19 raw19
theorem ans11 : Answers Tryd.prog cf11 := answers_sum mixed ans10 Tryd.func19 h19 (N := 20) fun args h v h2 hr _ => ⟨h2, hr, Nat.le_refl _, fun b B hb => hb⟩
noncomputable def raw12 : ARaw := bodyA cf11 2000000 c12
theorem raw12_ok : IsFeed raw12 := feed_ok cf11 (fun _ _ => rfl) raw19 (fun _ _ => rfl) raw19_ok
noncomputable def cf12 : ACall := withSum cf11 12 raw12
theorem ans12 : Answers Tryd.prog cf12 := answers_sum mixed ans11 Tryd.func12 h12 (N := 2000000) fun args h v h2 hr _ => ⟨h2, hr, Nat.le_refl _, fun b B hb => hb⟩
noncomputable def raw10 : ARaw := bodyA cf12 20 c10
theorem raw10_ok : IsNew20 raw10 := new20_ok cf12 (fun _ _ => rfl)
noncomputable def cf13 : ACall := withSum cf12 10 raw10
theorem ans13 : Answers Tryd.prog cf13 := answers_sum mixed ans12 Tryd.func10 h10 (N := 20) fun args h v h2 hr _ => ⟨h2, hr, Nat.le_refl _, fun b B hb => hb⟩
noncomputable def cf14 : ACall := withSum cf13 39 s_may
theorem ans14 : Answers Tryd.prog cf14 := answers_Sum mixed ans13 Tryd.func39 h39 (may_ok cf13)
noncomputable def cf15 : ACall := withSum cf14 40 s_Runes
theorem ans15 : Answers Tryd.prog cf15 := answers_Sum mixed ans14 Tryd.func40 h40 (RunesR_ok cf14)
noncomputable def raw27 : ARaw := bodyA cf15 6 c27
theorem raw27_ok : IsDecR raw27 := decR_ok cf15 (fun _ _ => rfl) (fun _ _ => rfl)
noncomputable def cf16 : ACall := withSum cf15 27 raw27
theorem ans16 : Answers Tryd.prog cf16 := answers_sum mixed ans15 Tryd.func27 h27 (N := 6) fun args h v h2 hr _ => ⟨h2, hr, Nat.le_refl _, fun b B hb => hb⟩
noncomputable def cf17 : ACall := withSum cf16 32 s_control
theorem ans17 : Answers Tryd.prog cf17 := answers_Sum mixed ans16 Tryd.func32 h32 (controlR_ok cf16)
noncomputable def cf18 : ACall := withSum cf17 31 s_noneR
theorem ans18 : Answers Tryd.prog cf18 := answers_Sum mixed ans17 Tryd.func31 h31 (noneR_ok cf17)
noncomputable def cf19 : ACall := withSum cf18 33 s_actR
theorem ans19 : Answers Tryd.prog cf19 := answers_Sum mixed ans18 Tryd.func33 h33 (actR_ok cf18)
noncomputable def raw34 : ARaw := bodyA cf19 20 c34
theorem raw34_ok : IsStepR (fun _ _ => True) stEscR raw34 := escR_ok cf19 (fun _ _ => rfl) (fun _ _ => rfl) (fun _ _ => rfl)
noncomputable def cf20 : ACall := withSum cf19 34 raw34
theorem ans20 : Answers Tryd.prog cf20 := answers_sum mixed ans19 Tryd.func34 h34 (N := 20) fun args h v h2 hr _ => ⟨h2, hr, Nat.le_refl _, fun b B hb => hb⟩
noncomputable def raw35 : ARaw := bodyA cf20 20 c35
theorem raw35_ok : IsCsiR raw35 := csiR_ok cf20 (fun _ _ => rfl) (fun _ _ => rfl) (fun _ _ => rfl)
noncomputable def cf21 : ACall := withSum cf20 35 raw35
theorem ans21 : Answers Tryd.prog cf21 := answers_sum mixed ans20 Tryd.func35 h35 (N := 20) fun args h v h2 hr _ => ⟨h2, hr, Nat.le_refl _, fun b B hb => hb⟩
noncomputable def raw20 : ARaw := bodyA cf21 20 c20
theorem raw20_ok : IsStepR (fun s _ => ovOk s) stRune raw20 := runeR_ok cf21 (fun _ _ => rfl) (fun _ _ => rfl) (fun _ _ => rfl) raw34 (fun _ _ => rfl) raw34_ok raw35 (fun _ _ => rfl) raw35_ok
noncomputable def cf22 : ACall := withSum cf21 20 raw20
theorem ans22 : Answers Tryd.prog cf22 := answers_sum mixed ans21 Tryd.func20 h20 (N := 20) fun args h v h2 hr _ => ⟨h2, hr, Nat.le_refl _, fun b B hb => hb⟩
noncomputable def cf23 : ACall := withSum cf22 26 s_num1
theorem ans23 : Answers Tryd.prog cf23 := answers_Sum mixed ans22 Tryd.func26 h26 (number1_ok cf22)
noncomputable def cf24 : ACall := withSum cf23 26 s_num2
theorem ans24 : Answers Tryd.prog cf24 := answers_Sum mixed ans23 Tryd.func26 h26 (number2_ok cf23 (fun _ _ => rfl))
noncomputable def cf25 : ACall := withSum cf24 26 s_num3
theorem ans25 : Answers Tryd.prog cf25 := answers_Sum mixed ans24 Tryd.func26 h26 (number3_ok cf24 (fun _ _ => rfl))
noncomputable def cf26 : ACall := withSum cf25 26 s_num4
theorem ans26 : Answers Tryd.prog cf26 := answers_Sum mixed ans25 Tryd.func26 h26 (number4_ok cf25 (fun _ _ => rfl))
noncomputable def cf27 : ACall := withSum cf26 26 s_num5
theorem ans27 : Answers Tryd.prog cf27 := answers_Sum mixed ans26 Tryd.func26 h26 (number5_ok cf26 (fun _ _ => rfl))
noncomputable def raw15 : ARaw := bodyA cf27 100 c15
theorem raw15_ok : IsOutput raw15 := output_ok cf27 (fun _ _ => rfl) (fun _ _ => rfl)
noncomputable def cf28 : ACall := withSum cf27 15 raw15
theorem ans28 : Answers Tryd.prog cf28 := answers_sum mixed ans27 Tryd.func15 h15 (N := 100) fun args h v h2 hr _ => ⟨h2, hr, Nat.le_refl _, fun b B hb => hb⟩
noncomputable def cf29 : ACall := withSum cf28 14 s_text
theorem ans29 : Answers Tryd.prog cf29 := answers_Sum mixed ans28 Tryd.func14 h14 (text_ok cf28 (fun _ _ => rfl))
noncomputable def raw17 : ARaw := bodyA cf29 2000000 c17
theorem raw17_ok : IsSame20 raw17 := same20_ok cf29
noncomputable def cf30 : ACall := withSum cf29 17 raw17
theorem ans30 : Answers Tryd.prog cf30 := answers_sum mixed ans29 Tryd.func17 h17 (N := 2000000) fun args h v h2 hr _ => ⟨h2, hr, Nat.le_refl _, fun b B hb => hb⟩
noncomputable def cf31 : ACall := withSum cf30 16 s_Cut
theorem ans31 : Answers Tryd.prog cf31 := answers_Sum mixed ans30 Tryd.func16 h16 (Cut_ok cf30 (fun _ _ => rfl))
noncomputable def raw18 : ARaw := bodyA cf31 2000000 c18
theorem raw18_ok : IsFeedR raw18 := feedR_ok cf31 raw27 (fun _ _ => rfl) raw27_ok raw20 (fun _ _ => rfl) raw20_ok
noncomputable def cf32 : ACall := withSum cf31 18 raw18
theorem ans32 : Answers Tryd.prog cf32 := answers_sum mixed ans31 Tryd.func18 h18 (N := 2000000) fun args h v h2 hr _ => ⟨h2, hr, Nat.le_refl _, fun b B hb => hb⟩
theorem laid_plain : (laidVals.all fun x => decide (x.1 < Tryd.prog.globals.size) && x.2.all plainV) = true := by kernel_rfl
theorem known_run (ts : Nat → Nat) : (runA tab 100000 60 11 [] (heapG Tryd.prog.globals.size laidVals ts)).map (·.1) = some (.bool true) := by kernel_rfl
noncomputable def cf33 : ACall := withSum cf32 11 s_kn
theorem ans33 : Answers Tryd.prog cf33 := answers_knownG mixed tab_holds ans32 ⟨_, Tryd.func11, by kernel_rfl, by kernel_rfl⟩ laid_plain known_run
theorem laid_eq : (Rows.vtFeedsRow.laid.map fun x => (Tryd.prog.globalNamed x.1, vals x.2)) = laidVals.map fun x => (some x.1, x.2) := by kernel_rfl
theorem laid_ty : (laidVals.all fun x => decide (x.1 < Tryd.prog.globals.size) && ((Tryd.prog.globals[x.1]?).map (·.type)).any (plainTy Tryd.prog 4)) = true := by kernel_rfl
theorem laid_at3 (ts : Nat → Nat) : (heapG Tryd.prog.globals.size laidVals ts).get 3 = some (.cells [V.int .u8 128, V.int .u8 191, V.int .u8 160, V.int .u8 191, V.int .u8 128, V.int .u8 159, V.int .u8 144, V.int .u8 191, V.int .u8 128, V.int .u8 143, V.int .u8 0, V.int .u8 0, V.int .u8 0, V.int .u8 0, V.int .u8 0, V.int .u8 0, V.int .u8 0, V.int .u8 0, V.int .u8 0, V.int .u8 0, V.int .u8 0, V.int .u8 0, V.int .u8 0, V.int .u8 0, V.int .u8 0, V.int .u8 0, V.int .u8 0, V.int .u8 0, V.int .u8 0, V.int .u8 0, V.int .u8 0, V.int .u8 0] (ts 3) 1 false) := by kernel_rfl
theorem laid_at0 (ts : Nat → Nat) : (heapG Tryd.prog.globals.size laidVals ts).get 0 = some (.cells [V.str [97], V.str [66, 99], V.str [120, 121, 122], V.str [195, 169], V.str [226, 130, 172], V.str [13, 10], V.str [10], V.str [13], V.str [8], V.str [9], V.str [27, 91, 65], V.str [27, 91, 50, 66], V.str [27, 91, 51, 67], V.str [27, 91, 68], V.str [27, 91, 72], V.str [27, 91, 50, 59, 51, 72], V.str [27, 91, 74], V.str [27, 91, 49, 74], V.str [27, 91, 50, 74], V.str [27, 91, 75], V.str [27, 91, 49, 75], V.str [27, 91, 76], V.str [27, 91, 77], V.str [27, 91, 50, 64], V.str [27, 91, 80], V.str [27, 91, 88], V.str [27, 91, 83], V.str [27, 91, 84], V.str [27, 91, 49, 59, 51, 49, 109], V.str [27, 91, 48, 109], V.str [27, 77], V.str [27, 55], V.str [27, 56], V.str [27, 91, 63, 49, 48, 52, 57, 104]] (ts 0) 1 false) := by kernel_rfl
theorem laid_at1 (ts : Nat → Nat) : (heapG Tryd.prog.globals.size laidVals ts).get 1 = some (.cells [V.str [27, 91, 63, 49, 48, 52, 57, 108], V.str [27, 91, 63, 55, 108], V.str [27, 91, 63, 55, 104], V.str [27, 91, 63, 50, 53, 108], V.str [27, 91, 63, 50, 53, 104], V.str [27, 91, 52, 104], V.str [27, 91, 52, 108], V.str [27, 72], V.str [27, 91, 103], V.str [27, 91, 51, 103], V.str [27, 99], V.str [27, 68], V.str [27, 69], V.str [27, 93, 48, 59, 116, 7], V.str [27, 40, 66], V.str [27, 91, 57, 57, 59, 57, 57, 72], V.str [27, 91, 51, 74], V.str [27, 91, 55, 59, 52, 50, 109], V.str [27, 91, 51, 57, 59, 52, 57, 109], V.str [255], V.str [226, 130], V.str [27, 91, 53, 71]] (ts 1) 1 false) := by kernel_rfl
theorem laid_at2 (ts : Nat → Nat) : (heapG Tryd.prog.globals.size laidVals ts).get 2 = some (.cells [V.int .u8 240, V.int .u8 240, V.int .u8 240, V.int .u8 240, V.int .u8 240, V.int .u8 240, V.int .u8 240, V.int .u8 240, V.int .u8 240, V.int .u8 240, V.int .u8 240, V.int .u8 240, V.int .u8 240, V.int .u8 240, V.int .u8 240, V.int .u8 240, V.int .u8 240, V.int .u8 240, V.int .u8 240, V.int .u8 240, V.int .u8 240, V.int .u8 240, V.int .u8 240, V.int .u8 240, V.int .u8 240, V.int .u8 240, V.int .u8 240, V.int .u8 240, V.int .u8 240, V.int .u8 240, V.int .u8 240, V.int .u8 240, V.int .u8 240, V.int .u8 240, V.int .u8 240, V.int .u8 240, V.int .u8 240, V.int .u8 240, V.int .u8 240, V.int .u8 240, V.int .u8 240, V.int .u8 240, V.int .u8 240, V.int .u8 240, V.int .u8 240, V.int .u8 240, V.int .u8 240, V.int .u8 240, V.int .u8 240, V.int .u8 240, V.int .u8 240, V.int .u8 240, V.int .u8 240, V.int .u8 240, V.int .u8 240, V.int .u8 240, V.int .u8 240, V.int .u8 240, V.int .u8 240, V.int .u8 240, V.int .u8 240, V.int .u8 240, V.int .u8 240, V.int .u8 240, V.int .u8 240, V.int .u8 240, V.int .u8 240, V.int .u8 240, V.int .u8 240, V.int .u8 240, V.int .u8 240, V.int .u8 240, V.int .u8 240, V.int .u8 240, V.int .u8 240, V.int .u8 240, V.int .u8 240, V.int .u8 240, V.int .u8 240, V.int .u8 240, V.int .u8 240, V.int .u8 240, V.int .u8 240, V.int .u8 240, V.int .u8 240, V.int .u8 240, V.int .u8 240, V.int .u8 240, V.int .u8 240, V.int .u8 240, V.int .u8 240, V.int .u8 240, V.int .u8 240, V.int .u8 240, V.int .u8 240, V.int .u8 240, V.int .u8 240, V.int .u8 240, V.int .u8 240, V.int .u8 240, V.int .u8 240, V.int .u8 240, V.int .u8 240, V.int .u8 240, V.int .u8 240, V.int .u8 240, V.int .u8 240, V.int .u8 240, V.int .u8 240, V.int .u8 240, V.int .u8 240, V.int .u8 240, V.int .u8 240, V.int .u8 240, V.int .u8 240, V.int .u8 240, V.int .u8 240, V.int .u8 240, V.int .u8 240, V.int .u8 240, V.int .u8 240, V.int .u8 240, V.int .u8 240, V.int .u8 240, V.int .u8 240, V.int .u8 240, V.int .u8 240, V.int .u8 240, V.int .u8 241, V.int .u8 241, V.int .u8 241, V.int .u8 241, V.int .u8 241, V.int .u8 241, V.int .u8 241, V.int .u8 241, V.int .u8 241, V.int .u8 241, V.int .u8 241, V.int .u8 241, V.int .u8 241, V.int .u8 241, V.int .u8 241, V.int .u8 241, V.int .u8 241, V.int .u8 241, V.int .u8 241, V.int .u8 241, V.int .u8 241, V.int .u8 241, V.int .u8 241, V.int .u8 241, V.int .u8 241, V.int .u8 241, V.int .u8 241, V.int .u8 241, V.int .u8 241, V.int .u8 241, V.int .u8 241, V.int .u8 241, V.int .u8 241, V.int .u8 241, V.int .u8 241, V.int .u8 241, V.int .u8 241, V.int .u8 241, V.int .u8 241, V.int .u8 241, V.int .u8 241, V.int .u8 241, V.int .u8 241, V.int .u8 241, V.int .u8 241, V.int .u8 241, V.int .u8 241, V.int .u8 241, V.int .u8 241, V.int .u8 241, V.int .u8 241, V.int .u8 241, V.int .u8 241, V.int .u8 241, V.int .u8 241, V.int .u8 241, V.int .u8 241, V.int .u8 241, V.int .u8 241, V.int .u8 241, V.int .u8 241, V.int .u8 241, V.int .u8 241, V.int .u8 241, V.int .u8 241, V.int .u8 241, V.int .u8 2, V.int .u8 2, V.int .u8 2, V.int .u8 2, V.int .u8 2, V.int .u8 2, V.int .u8 2, V.int .u8 2, V.int .u8 2, V.int .u8 2, V.int .u8 2, V.int .u8 2, V.int .u8 2, V.int .u8 2, V.int .u8 2, V.int .u8 2, V.int .u8 2, V.int .u8 2, V.int .u8 2, V.int .u8 2, V.int .u8 2, V.int .u8 2, V.int .u8 2, V.int .u8 2, V.int .u8 2, V.int .u8 2, V.int .u8 2, V.int .u8 2, V.int .u8 2, V.int .u8 2, V.int .u8 19, V.int .u8 3, V.int .u8 3, V.int .u8 3, V.int .u8 3, V.int .u8 3, V.int .u8 3, V.int .u8 3, V.int .u8 3, V.int .u8 3, V.int .u8 3, V.int .u8 3, V.int .u8 3, V.int .u8 35, V.int .u8 3, V.int .u8 3, V.int .u8 52, V.int .u8 4, V.int .u8 4, V.int .u8 4, V.int .u8 68, V.int .u8 241, V.int .u8 241, V.int .u8 241, V.int .u8 241, V.int .u8 241, V.int .u8 241, V.int .u8 241, V.int .u8 241, V.int .u8 241, V.int .u8 241, V.int .u8 241] (ts 2) 1 false) := by kernel_rfl
theorem own : ownKnob Tryd.prog.godebug = none := by kernel_rfl
theorem laidOut : laidOutB Tryd.prog = true := by kernel_rfl
/-- What the bound of the second form gives: the lengths of what comes in. -/
theorem bulk_one {H : Type} (d : DataW H) : 1 ≤ Rows.uptoBulk d := by
  cases d with
  | lit l => cases l <;> simp [Rows.uptoBulk]
  | nil => simp [Rows.uptoBulk]
  | ptr d => simp [Rows.uptoBulk]
  | slice elems spare => simp [Rows.uptoBulk]
  | agg parts => simp [Rows.uptoBulk]
  | iface t d => simp [Rows.uptoBulk]
  | map entries => simp [Rows.uptoBulk]
  | held h => simp [Rows.uptoBulk]
theorem bulk_length {H : Type} (l : List (DataW H)) : l.length ≤ Rows.uptoBulkAll l := by
  induction l with
  | nil => simp [Rows.uptoBulkAll]
  | cons x r ih => have := bulk_one x; simp only [Rows.uptoBulkAll, List.length_cons]; omega
theorem bulk_dlen {H : Type} {d : DataW H} {m : Nat} (h : dlen d m) : m + 1 ≤ Rows.uptoBulk d := by
  rcases h with ⟨rfl, rfl⟩ | ⟨ds, rest, rfl, rfl⟩
  · have := bulk_one (DataW.nil (H := H)); omega
  · have := bulk_length ds
    simp only [Rows.uptoBulk]; omega
theorem bulk_rows {H : Type} {d : DataW H} {ss : List (List Nat)} (h : (d = .nil ∧ ss = []) ∨ ∃ ds rest, d = .slice ds rest ∧ ds.length = ss.length ∧ ∀ (i : Nat) d' s, ds[i]? = some d' → ss[i]? = some s → dlen d' s.length) : ss.flatten.length + ss.length + 1 ≤ Rows.uptoBulk d := by
  rcases h with ⟨rfl, rfl⟩ | ⟨ds, rest, rfl, hl, hi⟩
  · have := bulk_one (DataW.nil (H := H)); simpa using this
  · have key : ∀ {ds : List (DataW H)} {ss : List (List Nat)}, ds.length = ss.length → (∀ (i : Nat) d' s, ds[i]? = some d' → ss[i]? = some s → dlen d' s.length) → ss.flatten.length + ss.length ≤ Rows.uptoBulkAll ds := by
      intro ds
      induction ds with
      | nil =>
        intro ss hl _
        have : ss = [] := List.length_eq_zero_iff.1 (by simpa using hl.symm)
        subst this; simp
      | cons d ds ih =>
        intro ss hl hi
        cases ss with
        | nil => simp at hl
        | cons s ss =>
          have h1 := ih (ss := ss) (by simpa using hl) (fun i d' s' a b => hi (i + 1) d' s' (by simpa using a) (by simpa using b))
          have h2 := bulk_dlen (hi 0 d s rfl rfl)
          simp only [Rows.uptoBulkAll, List.flatten_cons, List.length_append, List.length_cons]
          omega
    have := key hl hi
    simp only [Rows.uptoBulk]; omega
theorem reads (os : Os) {H : Type} (enc : TypeId × Value → H) : ∃ places, DataW.whole enc Tryd.prog ((World.laidAll Tryd.prog os Rows.vtFeedsUptoRow.laid).forCall (fun _ _ => 0) ⟨#[], #[.slice none 0 0, .slice none 0 0, .slice none 0 0, .int .i64 0, .slice none 0 0], []⟩).memory Tryd.f4.params.toList (Rows.OpenSpec.upto Rows.vtFeedsSpec).vars false #[.slice none 0 0, .slice none 0 0, .slice none 0 0, .int .i64 0, .slice none 0 0].toList 8 = some ([.nil, .nil, .nil, .lit (.int .i64 0), .nil], [], places) := ⟨[], by kernel_rfl⟩
theorem lifted (os : Os) (started : os.Started) (H : Type) (enc : TypeId × Value → H) (F : Stop.Interp) :
    ReturnsInHanded {} Tryd.checked os 4 .any ((Rows.OpenSpec.upto Rows.vtFeedsSpec).preRow enc Tryd.prog Tryd.f4 Rows.vtFeedsUptoRow.domain false Rows.vtFeedsUptoRow.laid) (((Rows.OpenSpec.upto Rows.vtFeedsSpec).at F).post enc Tryd.prog Tryd.f4 false true false false) := by
  obtain ⟨places, hx⟩ := reads os enc
  refine returnsInHanded_of_row (C := Tryd.checked) (s := (Rows.OpenSpec.upto Rows.vtFeedsSpec)) own started (by kernel_rfl) Tryd.func4
    ⟨(World.laidAll Tryd.prog os Rows.vtFeedsUptoRow.laid), fun _ _ => 0, ⟨#[], #[.slice none 0 0, .slice none 0 0, .slice none 0 0, .int .i64 0, .slice none 0 0], []⟩, World.laidAll_os _ _ _, World.shaped_of_ZipB (by kernel_rfl) (by kernel_rfl), rfl, (Input.okWide_of_okWideB (by kernel_rfl)).2,
      OpenSpec.preRow_of_cond 8 hx (by kernel_rfl) (fun k hk => by cases hk; kernel_rfl) (by kernel_rfl) (by rw [MakeChecks.laidMetH_plain _ _ _ (by kernel_rfl)]; exact laidMet_laidAll _ (by kernel_rfl) (by kernel_rfl)), by
        simp only [Assume.holds]
        exact ⟨by simp, by simp, fun _ => Modest.zero, by simp, by simp⟩⟩ ?_
  intro W base args ds gs before hval0 hW hcnd hk hsz0 hL _ _
  have hsz : (DataW.weightsEach Tryd.prog (Tryd.f4.params.toList ++ Rows.vtFeedsSpec.plain.varTypes Tryd.prog) (ds ++ gs)).all (· ≤ reachBytes) = true := hsz0
  have hL' : laidMet Tryd.prog Rows.vtFeedsRow.laid W := by
    have h := hL
    rw [MakeChecks.laidMetH_plain _ _ _ (by kernel_rfl)] at h
    exact h
  have hval : ∀ (j : Nat) t v, Tryd.f4.params[j]? = some t → args[j]? = some v → Value.okWide Tryd.prog W .any base t v := hval0
  have hW' := hW
  obtain ⟨p, q, hA0, hV, rfl, hfz, hnd⟩ := hW
  have hA : DataW.TrodAll enc Tryd.prog W 0 (fun _ => true) true Tryd.f4.params.toList args.toList ds p := hA0
  rw [Tryd.params4] at hA hval hsz
  obtain ⟨v0, vs0, d0, ds0, p0, q0, hargs, rfl, rfl, h0, r0⟩ := trodAll_cons hA
  obtain ⟨v1, vs1, d1, ds1, p1, q1, rfl, rfl, rfl, h1, r1⟩ := trodAll_cons r0
  obtain ⟨v2, vs2, d2, ds2, p2, q2, rfl, rfl, rfl, h2, r2⟩ := trodAll_cons r1
  obtain ⟨v3, vs3, d3, ds3, p3, q3, rfl, rfl, rfl, h3, r3⟩ := trodAll_cons r2
  obtain ⟨v4, vs4, d4, ds4, p4, q4, rfl, rfl, rfl, h4, r4⟩ := trodAll_cons r3
  obtain ⟨rfl, rfl, rfl⟩ := trodAll_nil r4
  obtain rfl : args = #[v0, v1, v2, v3, v4] := by cases args; simp_all
  obtain ⟨rfl, rfl⟩ := trodVars_none hV
  have hbk : Rows.uptoBulkAll [d0, d1, d2, d3, d4] ≤ 1048576 := of_decide_eq_true (hk _ rfl)
  simp only [Rows.uptoBulkAll] at hbk
  have k0 := h0
  have lt0 : ∀ x ∈ p0, x.block < W.heap.size := by obtain ⟨m, hm⟩ := k0; exact DataW.trod_lt m _ _ _ hm
  have k1 := h1
  have lt1 : ∀ x ∈ p1, x.block < W.heap.size := by obtain ⟨m, hm⟩ := k1; exact DataW.trod_lt m _ _ _ hm
  have k2 := h2
  have lt2 : ∀ x ∈ p2, x.block < W.heap.size := by obtain ⟨m, hm⟩ := k2; exact DataW.trod_lt m _ _ _ hm
  have k3 := h3
  have lt3 : ∀ x ∈ p3, x.block < W.heap.size := by obtain ⟨m, hm⟩ := k3; exact DataW.trod_lt m _ _ _ hm
  have k4 := h4
  have lt4 : ∀ x ∈ p4, x.block < W.heap.size := by obtain ⟨m, hm⟩ := k4; exact DataW.trod_lt m _ _ _ hm
  obtain ⟨ρ0, H0, a0, le0, hle0, rr0, vr0, q0⟩ := arg_open (n := 6) (by kernel_rfl) (hval 0 28 v0 rfl rfl) h0 (relLaid hL' laid_eq laid_ty)
  obtain ⟨ρ1, H1, a1, le1, hle1, rr1, vr1, q1⟩ := arg_open (n := 6) (by kernel_rfl) (hval 1 27 v1 rfl rfl) h1 rr0
  obtain ⟨ρ2, H2, a2, le2, hle2, rr2, vr2, q2⟩ := arg_open (n := 6) (by kernel_rfl) (hval 2 28 v2 rfl rfl) h2 rr1
  obtain ⟨ρ3, H3, a3, le3, hle3, rr3, vr3, q3⟩ := arg_open (n := 6) (by kernel_rfl) (hval 3 3 v3 rfl rfl) h3 rr2
  obtain ⟨ρ4, H4, a4, le4, hle4, rr4, vr4, q4⟩ := arg_open (n := 6) (by kernel_rfl) (hval 4 28 v4 rfl rfl) h4 rr3
  replace vr0 := vr0.mono le1 _ _
  replace q0 := q0.le hle1
  replace vr0 := vr0.mono le2 _ _
  replace q0 := q0.le hle2
  replace vr0 := vr0.mono le3 _ _
  replace q0 := q0.le hle3
  replace vr0 := vr0.mono le4 _ _
  replace q0 := q0.le hle4
  replace vr1 := vr1.mono le2 _ _
  replace q1 := q1.le hle2
  replace vr1 := vr1.mono le3 _ _
  replace q1 := q1.le hle3
  replace vr1 := vr1.mono le4 _ _
  replace q1 := q1.le hle4
  replace vr2 := vr2.mono le3 _ _
  replace q2 := q2.le hle3
  replace vr2 := vr2.mono le4 _ _
  replace q2 := q2.le hle4
  replace vr3 := vr3.mono le4 _ _
  replace q3 := q3.le hle4
  have hgo : ∀ b B, (heapG Tryd.prog.globals.size laidVals (tsOf W)).get b = some B → H4.get b = some B := fun b B hb => hle4.2 _ _ (hle3.2 _ _ (hle2.2 _ _ (hle1.2 _ _ (hle0.2 _ _ (hb)))))
  have hF := rr4.fresh'
  have hlt0 := VR.lt rr4.dom _ _ vr0
  have hlt1 := VR.lt rr4.dom _ _ vr1
  have hlt2 := VR.lt rr4.dom _ _ vr2
  have hlt3 := VR.lt rr4.dom _ _ vr3
  have hlt4 := VR.lt rr4.dom _ _ vr4
  have vrl : VRL ρ4 [a0, a1, a2, a3, a4] (#[v0, v1, v2, v3, v4] : Array Value).toList := VRL.cons vr0 (VRL.cons vr1 (VRL.cons vr2 (VRL.cons vr3 (VRL.cons vr4 (VRL.nil)))))
  have htab : hasLaid laidVals H4 := fun x hx => by
    unfold laidVals at hx
    rcases List.mem_cons.1 hx with rfl | hx
    · exact ⟨_, hgo _ _ (laid_at3 _)⟩
    rcases List.mem_cons.1 hx with rfl | hx
    · exact ⟨_, hgo _ _ (laid_at0 _)⟩
    rcases List.mem_cons.1 hx with rfl | hx
    · exact ⟨_, hgo _ _ (laid_at1 _)⟩
    rcases List.mem_cons.1 hx with rfl | hx
    · exact ⟨_, hgo _ _ (laid_at2 _)⟩
    cases hx
  obtain ⟨l0, hl0, dl0, wf0⟩ := IsV.ints Tryd.underlying28 Tryd.underlying3 (by kernel_rfl) q0
  obtain ⟨s1, hs1, dl1⟩ := IsV.bytes Tryd.underlying27 Tryd.underlying5 (by kernel_rfl) q1
  have bk1 := bulk_dlen dl1
  obtain ⟨l2, hl2, dl2, wf2⟩ := IsV.ints Tryd.underlying28 Tryd.underlying3 (by kernel_rfl) q2
  obtain ⟨z3, rfl, wf3, rfl⟩ := IsV.int Tryd.underlying3 q3
  obtain ⟨l4, hl4, dl4, wf4⟩ := IsV.ints Tryd.underlying28 Tryd.underlying3 (by kernel_rfl) q4
  refine (law_run mixed ans33 Tryd.func4 VtFeeds.h4 rr4 vrl (law_VtFeeds cf33 (fun _ _ => rfl) (fun _ _ => rfl) (fun _ _ => rfl) (fun _ _ => rfl) raw15 (fun _ _ => rfl) raw15_ok raw10 (fun _ _ => rfl) raw10_ok raw12 (fun _ _ => rfl) raw12_ok raw18 (fun _ _ => rfl) raw18_ok raw17 (fun _ _ => rfl) raw17_ok H4 l0 l2 l4 s1 z3 a0 a1 a2 a4 hF htab hl0 hs1 hl2 hl4 (by omega))).mono fun e W' ⟨he, bel⟩ => ?_
  subst he
  exact ⟨_, rfl, _, _, _, [], _, [], hW', trodAll_mk1 (shut_bool Tryd.underlying4 _), (trodAll_cons_mk (Below.trod laidOut (by kernel_rfl) (of_decide_eq_true (by kernel_rfl)) k0 bel lt0) (trodAll_cons_mk (Below.trod laidOut (by kernel_rfl) (of_decide_eq_true (by kernel_rfl)) k1 bel lt1) (trodAll_cons_mk (Below.trod laidOut (by kernel_rfl) (of_decide_eq_true (by kernel_rfl)) k2 bel lt2) (trodAll_cons_mk (Below.trod laidOut (by kernel_rfl) (of_decide_eq_true (by kernel_rfl)) k3 bel lt3) (trodAll_cons_mk (Below.trod laidOut (by kernel_rfl) (of_decide_eq_true (by kernel_rfl)) k4 bel lt4) trodAll_mk0))))), rfl, bel.frame _, fun h => by cases h⟩
theorem over : Rows.vtFeedsUptoRow.holds Tryd.pinned (Rows.OpenSpec.upto Rows.vtFeedsSpec) :=
  OpenClaim.holds_of_cond 4 Tryd.f4 rfl rfl rfl rfl rfl rfl rfl ⟨rfl, rfl, rfl, rfl, rfl⟩ rfl rfl rfl rfl rfl (by kernel_rfl) Tryd.func4 (by kernel_rfl)
    (of_decide_eq_true (by kernel_rfl)) (by unfold Func.isWrapper; first | (rw [if_pos (by decide +kernel)]; kernel_rfl) | (rw [if_neg (by decide +kernel)]; exact ⟨rfl, rfl⟩))
    (fun os started H enc _ F => by rw [OpenClaim.pre_eq_preRow]; exact lifted os started H enc F)
theorem noStand : (Tryd.f4.params.toList.all fun t => !Tryd.prog.wantsStandIn t) = true := by kernel_rfl
theorem card_over : Rows.VtFeedsUptoCardSaid :=
  Claim7.holds_tied_plain_at .later [] [.data, .data, .data, .pinned] true (true, "bafad9fbbd83b174b2be4e71d1621297abcc46527dfade2f5bdfc283c2b602af") false over (fun _ h => by cases h) (by kernel_rfl) (fun _ h => by cases h) vtFeedsUpto_row_tie rfl ⟨rfl, rfl⟩ (by kernel_rfl) rfl
    (fun f fn hf hfn => by
      obtain rfl : f = 4 := Option.some.inj ((show Tryd.prog.funcNamed "porthole/portholelaw20.VtFeeds" = some 4 by kernel_rfl).symm.trans hf) |>.symm
      obtain rfl : fn = Tryd.f4 := (Option.some.inj (Tryd.func4.symm.trans hfn)).symm
      refine ⟨by kernel_rfl, fun j t ht => ?_⟩
      have h := List.all_eq_true.1 noStand t (by simpa using Array.mem_of_getElem? ht)
      have h2 : Tryd.prog.wantsStandIn t = false := by simpa using h
      exact h2)
    (by kernel_rfl)
end Go.Proofs.YthfbefjmenddkaaDoor.VtFeeds
namespace Go.Proofs.YthfbefjmenddkaaDoor
/-- The second form's card, under a short name, for the claim. -/
theorem vtFeedsUpto_card_holds : Rows.VtFeedsUptoCardSaid := VtFeeds.card_over
#print axioms vtFeedsUpto_card_holds
end Go.Proofs.YthfbefjmenddkaaDoor
