/- The row of the law VtRunes: whatever its arguments, the law returns true, and memory is as it was. No condition. -/
import Derived.Test.YthfbefjmenddkaaDoorRows
import Derived.Test.YthfbefjmenddkaaDoorFunVtRunes
import Derived.WalkKit
import Derived.ProofKit
import Derived.OpenShut
import Derived.ShutString
import Derived.ChangeOld
import Derived.Below
import Derived.SizedLaws
import Derived.JoinedCond
import Derived.Test.YthfbefjmenddkaaDoorTie
import Derived.Test.YthfbefjmenddkaaDoorCards
import Derived.LaidMore
import Derived.Lay
import Derived.SevenTiedAt
import Derived.Stop.Joined
import Derived.MakeChecks
namespace Go.Proofs.YthfbefjmenddkaaDoor.VtRunes
open Go Go.Proofs.YthfbefjmenddkaaDoorA
open Go.ChangeShapes Go.WideShapes Go.ChangeAt Go.RowKit
open Go.ChangeMaps (open_string shut_string)
set_option linter.unusedVariables false
set_option maxRecDepth 100000
theorem mixed : Tryd.prog.follows .mixedOrders = true := by kernel_rfl
noncomputable def cf0 : ACall := none0
theorem ans0 : Answers Tryd.prog cf0 := answers_none
noncomputable def cf1 : ACall := withSum cf0 13 s_Pick
theorem ans1 : Answers Tryd.prog cf1 := answers_Sum mixed ans0 Tryd.func13 h13 (Pick_ok cf0)
noncomputable def cf2 : ACall := withSum cf1 24 s_New
theorem ans2 : Answers Tryd.prog cf2 := answers_Sum mixed ans1 Tryd.func24 h24 (New_ok cf1)
noncomputable def cf3 : ACall := withSum cf2 36 s_Start
theorem ans3 : Answers Tryd.prog cf3 := answers_Sum mixed ans2 Tryd.func36 h36 (Start_ok cf2)
noncomputable def cf4 : ACall := withSum cf3 38 s_Runes
theorem ans4 : Answers Tryd.prog cf4 := answers_Sum mixed ans3 Tryd.func38 h38 (Runes_ok cf3)
noncomputable def cf5 : ACall := withSum cf4 37 s_Full
theorem ans5 : Answers Tryd.prog cf5 := answers_Sum mixed ans4 Tryd.func37 h37 (Full_ok cf4)
noncomputable def cf6 : ACall := withSum cf5 25 s_Feed
theorem ans6 : Answers Tryd.prog cf6 := answers_Sum mixed ans5 Tryd.func25 h25 (Feed_ok cf5 (fun _ _ => rfl) (fun _ _ => rfl) (fun _ _ => rfl))
noncomputable def cf7 : ACall := withSum cf6 41 s_control
theorem ans7 : Answers Tryd.prog cf7 := answers_Sum mixed ans6 Tryd.func41 h41 (control_ok cf6)
noncomputable def cf8 : ACall := withSum cf7 30 s_plain
theorem ans8 : Answers Tryd.prog cf8 := answers_Sum mixed ans7 Tryd.func30 h30 (plain_ok cf7 (fun _ _ => rfl))
noncomputable def raw28 : ARaw := bodyA cf8 20 c28
theorem raw28_ok : IsStep (fun _ => True) stEsc raw28 := esc_ok cf8 (fun _ _ => rfl)
noncomputable def cf9 : ACall := withSum cf8 28 raw28
theorem ans9 : Answers Tryd.prog cf9 := answers_sum mixed ans8 Tryd.func28 h28 (N := 20) fun args h v h2 hr _ => ⟨h2, hr, Nat.le_refl _, fun b B hb => hb⟩
noncomputable def raw29 : ARaw := bodyA cf9 20 c29
theorem raw29_ok : IsStep (fun s => s.st = 3) stCsi raw29 := csi_ok cf9 (fun _ _ => rfl)
noncomputable def cf10 : ACall := withSum cf9 29 raw29
theorem ans10 : Answers Tryd.prog cf10 := answers_sum mixed ans9 Tryd.func29 h29 (N := 20) fun args h v h2 hr _ => ⟨h2, hr, Nat.le_refl _, fun b B hb => hb⟩
noncomputable def raw19 : ARaw := bodyA cf10 20 c19
theorem raw19_ok : IsStep (fun _ => True) stRune raw19 := rune_ok cf10 (fun _ _ => rfl) raw28 (fun _ _ => rfl) raw28_ok raw29 (fun _ _ => rfl) raw29_ok
noncomputable def cf11 : ACall := withSum cf10 19 raw19
theorem ans11 : Answers Tryd.prog cf11 := answers_sum mixed ans10 Tryd.func19 h19 (N := 20) fun args h v h2 hr _ => ⟨h2, hr, Nat.le_refl _, fun b B hb => hb⟩
noncomputable def raw12 : ARaw := bodyA cf11 2000000 c12
theorem raw12_ok : IsFeed raw12 := feed_ok cf11 (fun _ _ => rfl) raw19 (fun _ _ => rfl) raw19_ok
noncomputable def cf12 : ACall := withSum cf11 12 raw12
theorem ans12 : Answers Tryd.prog cf12 := answers_sum mixed ans11 Tryd.func12 h12 (N := 2000000) fun args h v h2 hr _ => ⟨h2, hr, Nat.le_refl _, fun b B hb => hb⟩
noncomputable def raw10 : ARaw := bodyA cf12 20 c10
theorem raw10_ok : IsNew20 raw10 := new20_ok cf12 (fun _ _ => rfl)
noncomputable def cf13 : ACall := withSum cf12 10 raw10
theorem ans13 : Answers Tryd.prog cf13 := answers_sum mixed ans12 Tryd.func10 h10 (N := 20) fun args h v h2 hr _ => ⟨h2, hr, Nat.le_refl _, fun b B hb => hb⟩
noncomputable def cf14 : ACall := withSum cf13 32 s_control
theorem ans14 : Answers Tryd.prog cf14 := answers_Sum mixed ans13 Tryd.func32 h32 (controlR_ok cf13)
noncomputable def cf15 : ACall := withSum cf14 31 s_noneR
theorem ans15 : Answers Tryd.prog cf15 := answers_Sum mixed ans14 Tryd.func31 h31 (noneR_ok cf14)
noncomputable def cf16 : ACall := withSum cf15 33 s_actR
theorem ans16 : Answers Tryd.prog cf16 := answers_Sum mixed ans15 Tryd.func33 h33 (actR_ok cf15)
noncomputable def raw34 : ARaw := bodyA cf16 20 c34
theorem raw34_ok : IsStepR (fun _ _ => True) stEscR raw34 := escR_ok cf16 (fun _ _ => rfl) (fun _ _ => rfl) (fun _ _ => rfl)
noncomputable def cf17 : ACall := withSum cf16 34 raw34
theorem ans17 : Answers Tryd.prog cf17 := answers_sum mixed ans16 Tryd.func34 h34 (N := 20) fun args h v h2 hr _ => ⟨h2, hr, Nat.le_refl _, fun b B hb => hb⟩
noncomputable def raw35 : ARaw := bodyA cf17 20 c35
theorem raw35_ok : IsCsiR raw35 := csiR_ok cf17 (fun _ _ => rfl) (fun _ _ => rfl) (fun _ _ => rfl)
noncomputable def cf18 : ACall := withSum cf17 35 raw35
theorem ans18 : Answers Tryd.prog cf18 := answers_sum mixed ans17 Tryd.func35 h35 (N := 20) fun args h v h2 hr _ => ⟨h2, hr, Nat.le_refl _, fun b B hb => hb⟩
noncomputable def raw20 : ARaw := bodyA cf18 20 c20
theorem raw20_ok : IsStepR (fun s _ => ovOk s) stRune raw20 := runeR_ok cf18 (fun _ _ => rfl) (fun _ _ => rfl) (fun _ _ => rfl) raw34 (fun _ _ => rfl) raw34_ok raw35 (fun _ _ => rfl) raw35_ok
noncomputable def cf19 : ACall := withSum cf18 20 raw20
theorem ans19 : Answers Tryd.prog cf19 := answers_sum mixed ans18 Tryd.func20 h20 (N := 20) fun args h v h2 hr _ => ⟨h2, hr, Nat.le_refl _, fun b B hb => hb⟩
noncomputable def cf20 : ACall := withSum cf19 21 s_param
theorem ans20 : Answers Tryd.prog cf20 := answers_Sum mixed ans19 Tryd.func21 h21 (param_ok cf19)
noncomputable def cf21 : ACall := withSum cf20 22 s_param
theorem ans21 : Answers Tryd.prog cf21 := answers_Sum mixed ans20 Tryd.func22 h22 (paramR_ok cf20)
noncomputable def cf22 : ACall := withSum cf21 14 s_text
theorem ans22 : Answers Tryd.prog cf22 := answers_Sum mixed ans21 Tryd.func14 h14 (text_ok cf21 (fun _ _ => rfl))
noncomputable def raw17 : ARaw := bodyA cf22 2000000 c17
theorem raw17_ok : IsSame20 raw17 := same20_ok cf22
noncomputable def cf23 : ACall := withSum cf22 17 raw17
theorem ans23 : Answers Tryd.prog cf23 := answers_sum mixed ans22 Tryd.func17 h17 (N := 2000000) fun args h v h2 hr _ => ⟨h2, hr, Nat.le_refl _, fun b B hb => hb⟩
theorem laid_plain : (laidVals.all fun x => decide (x.1 < Tryd.prog.globals.size) && x.2.all plainV) = true := by kernel_rfl
theorem known_run (ts : Nat → Nat) : (runA tab 100000 60 11 [] (heapG Tryd.prog.globals.size laidVals ts)).map (·.1) = some (.bool true) := by kernel_rfl
noncomputable def cf24 : ACall := withSum cf23 11 s_kn
theorem ans24 : Answers Tryd.prog cf24 := answers_knownG mixed tab_holds ans23 ⟨_, Tryd.func11, by kernel_rfl, by kernel_rfl⟩ laid_plain known_run
theorem laid_eq : (Rows.vtRunesRow.laid.map fun x => (Tryd.prog.globalNamed x.1, vals x.2)) = laidVals.map fun x => (some x.1, x.2) := by kernel_rfl
theorem laid_ty : (laidVals.all fun x => decide (x.1 < Tryd.prog.globals.size) && ((Tryd.prog.globals[x.1]?).map (·.type)).any (plainTy Tryd.prog 4)) = true := by kernel_rfl
theorem laid_at3 (ts : Nat → Nat) : (heapG Tryd.prog.globals.size laidVals ts).get 3 = some (.cells [V.int .u8 128, V.int .u8 191, V.int .u8 160, V.int .u8 191, V.int .u8 128, V.int .u8 159, V.int .u8 144, V.int .u8 191, V.int .u8 128, V.int .u8 143, V.int .u8 0, V.int .u8 0, V.int .u8 0, V.int .u8 0, V.int .u8 0, V.int .u8 0, V.int .u8 0, V.int .u8 0, V.int .u8 0, V.int .u8 0, V.int .u8 0, V.int .u8 0, V.int .u8 0, V.int .u8 0, V.int .u8 0, V.int .u8 0, V.int .u8 0, V.int .u8 0, V.int .u8 0, V.int .u8 0, V.int .u8 0, V.int .u8 0] (ts 3) 1 false) := by kernel_rfl
theorem laid_at2 (ts : Nat → Nat) : (heapG Tryd.prog.globals.size laidVals ts).get 2 = some (.cells [V.int .u8 240, V.int .u8 240, V.int .u8 240, V.int .u8 240, V.int .u8 240, V.int .u8 240, V.int .u8 240, V.int .u8 240, V.int .u8 240, V.int .u8 240, V.int .u8 240, V.int .u8 240, V.int .u8 240, V.int .u8 240, V.int .u8 240, V.int .u8 240, V.int .u8 240, V.int .u8 240, V.int .u8 240, V.int .u8 240, V.int .u8 240, V.int .u8 240, V.int .u8 240, V.int .u8 240, V.int .u8 240, V.int .u8 240, V.int .u8 240, V.int .u8 240, V.int .u8 240, V.int .u8 240, V.int .u8 240, V.int .u8 240, V.int .u8 240, V.int .u8 240, V.int .u8 240, V.int .u8 240, V.int .u8 240, V.int .u8 240, V.int .u8 240, V.int .u8 240, V.int .u8 240, V.int .u8 240, V.int .u8 240, V.int .u8 240, V.int .u8 240, V.int .u8 240, V.int .u8 240, V.int .u8 240, V.int .u8 240, V.int .u8 240, V.int .u8 240, V.int .u8 240, V.int .u8 240, V.int .u8 240, V.int .u8 240, V.int .u8 240, V.int .u8 240, V.int .u8 240, V.int .u8 240, V.int .u8 240, V.int .u8 240, V.int .u8 240, V.int .u8 240, V.int .u8 240, V.int .u8 240, V.int .u8 240, V.int .u8 240, V.int .u8 240, V.int .u8 240, V.int .u8 240, V.int .u8 240, V.int .u8 240, V.int .u8 240, V.int .u8 240, V.int .u8 240, V.int .u8 240, V.int .u8 240, V.int .u8 240, V.int .u8 240, V.int .u8 240, V.int .u8 240, V.int .u8 240, V.int .u8 240, V.int .u8 240, V.int .u8 240, V.int .u8 240, V.int .u8 240, V.int .u8 240, V.int .u8 240, V.int .u8 240, V.int .u8 240, V.int .u8 240, V.int .u8 240, V.int .u8 240, V.int .u8 240, V.int .u8 240, V.int .u8 240, V.int .u8 240, V.int .u8 240, V.int .u8 240, V.int .u8 240, V.int .u8 240, V.int .u8 240, V.int .u8 240, V.int .u8 240, V.int .u8 240, V.int .u8 240, V.int .u8 240, V.int .u8 240, V.int .u8 240, V.int .u8 240, V.int .u8 240, V.int .u8 240, V.int .u8 240, V.int .u8 240, V.int .u8 240, V.int .u8 240, V.int .u8 240, V.int .u8 240, V.int .u8 240, V.int .u8 240, V.int .u8 240, V.int .u8 240, V.int .u8 240, V.int .u8 240, V.int .u8 240, V.int .u8 240, V.int .u8 240, V.int .u8 241, V.int .u8 241, V.int .u8 241, V.int .u8 241, V.int .u8 241, V.int .u8 241, V.int .u8 241, V.int .u8 241, V.int .u8 241, V.int .u8 241, V.int .u8 241, V.int .u8 241, V.int .u8 241, V.int .u8 241, V.int .u8 241, V.int .u8 241, V.int .u8 241, V.int .u8 241, V.int .u8 241, V.int .u8 241, V.int .u8 241, V.int .u8 241, V.int .u8 241, V.int .u8 241, V.int .u8 241, V.int .u8 241, V.int .u8 241, V.int .u8 241, V.int .u8 241, V.int .u8 241, V.int .u8 241, V.int .u8 241, V.int .u8 241, V.int .u8 241, V.int .u8 241, V.int .u8 241, V.int .u8 241, V.int .u8 241, V.int .u8 241, V.int .u8 241, V.int .u8 241, V.int .u8 241, V.int .u8 241, V.int .u8 241, V.int .u8 241, V.int .u8 241, V.int .u8 241, V.int .u8 241, V.int .u8 241, V.int .u8 241, V.int .u8 241, V.int .u8 241, V.int .u8 241, V.int .u8 241, V.int .u8 241, V.int .u8 241, V.int .u8 241, V.int .u8 241, V.int .u8 241, V.int .u8 241, V.int .u8 241, V.int .u8 241, V.int .u8 241, V.int .u8 241, V.int .u8 241, V.int .u8 241, V.int .u8 2, V.int .u8 2, V.int .u8 2, V.int .u8 2, V.int .u8 2, V.int .u8 2, V.int .u8 2, V.int .u8 2, V.int .u8 2, V.int .u8 2, V.int .u8 2, V.int .u8 2, V.int .u8 2, V.int .u8 2, V.int .u8 2, V.int .u8 2, V.int .u8 2, V.int .u8 2, V.int .u8 2, V.int .u8 2, V.int .u8 2, V.int .u8 2, V.int .u8 2, V.int .u8 2, V.int .u8 2, V.int .u8 2, V.int .u8 2, V.int .u8 2, V.int .u8 2, V.int .u8 2, V.int .u8 19, V.int .u8 3, V.int .u8 3, V.int .u8 3, V.int .u8 3, V.int .u8 3, V.int .u8 3, V.int .u8 3, V.int .u8 3, V.int .u8 3, V.int .u8 3, V.int .u8 3, V.int .u8 3, V.int .u8 35, V.int .u8 3, V.int .u8 3, V.int .u8 52, V.int .u8 4, V.int .u8 4, V.int .u8 4, V.int .u8 68, V.int .u8 241, V.int .u8 241, V.int .u8 241, V.int .u8 241, V.int .u8 241, V.int .u8 241, V.int .u8 241, V.int .u8 241, V.int .u8 241, V.int .u8 241, V.int .u8 241] (ts 2) 1 false) := by kernel_rfl
theorem own : ownKnob Tryd.prog.godebug = none := by kernel_rfl
theorem laidOut : laidOutB Tryd.prog = true := by kernel_rfl
theorem lifted (os : Os) (started : os.Started) (H : Type) (enc : TypeId × Value → H) :
    ReturnsInHanded {} Tryd.checked os 5 .any (fun w args => (Rows.vtRunesSpec.pre enc Tryd.prog Tryd.f5 Rows.vtRunesRow.domain false w args ∧ laidMetH Tryd.prog Rows.vtRunesRow.laid w) ∧ sizedMet enc Tryd.prog Tryd.f5 (OpenSpec.ofChange Rows.vtRunesSpec) false w args)
      (Rows.vtRunesSpec.post enc Tryd.prog Tryd.f5 false true false false) := by
  refine returnsInHanded_of_change_and (C := Tryd.checked) (X := (fun w _ => laidMetH Tryd.prog Rows.vtRunesRow.laid w)) (fun _ _ _ hh h => h.of_heap hh) own started (by kernel_rfl) Tryd.func5
    (ChangeSpec.witness_shaped (enc := enc) (C := Tryd.checked) (os := os) (X := (fun w _ => laidMetH Tryd.prog Rows.vtRunesRow.laid w)) false (World.laidAll Tryd.prog os Rows.vtRunesRow.laid) #[.slice none 0 0, .slice none 0 0, .bool false, .int .i64 0, .int .i64 0] 8 (World.laidAll_os _ _ _)
      (World.shaped_of_ZipB (by kernel_rfl) (by kernel_rfl)) (by kernel_rfl) (by kernel_rfl) (by kernel_rfl)
      (by rw [MakeChecks.laidMetH_plain _ _ _ (by kernel_rfl)]; exact laidMet_laidAll _ (by kernel_rfl) (by kernel_rfl))) ?_
  intro W base args ds gs before hval0 hW hcnd hsz0 hL _
  have hsz : (DataW.weightsEach Tryd.prog (Tryd.f5.params.toList ++ Rows.vtRunesSpec.plain.varTypes Tryd.prog) (ds ++ gs)).all (· ≤ reachBytes) = true := hsz0
  have hL' : laidMet Tryd.prog Rows.vtRunesRow.laid W := by
    have h := hL
    rw [MakeChecks.laidMetH_plain _ _ _ (by kernel_rfl)] at h
    exact h
  have hval : ∀ (j : Nat) t v, Tryd.f5.params[j]? = some t → args[j]? = some v → Value.okWide Tryd.prog W .any base t v := hval0
  have hW' := hW
  obtain ⟨p, q, hA0, hV, rfl, hfz, hnd⟩ := hW
  have hA : DataW.TrodAll enc Tryd.prog W 0 (fun _ => true) true Tryd.f5.params.toList args.toList ds p := hA0
  rw [Tryd.params5] at hA hval hsz
  obtain ⟨v0, vs0, d0, ds0, p0, q0, hargs, rfl, rfl, h0, r0⟩ := trodAll_cons hA
  obtain ⟨v1, vs1, d1, ds1, p1, q1, rfl, rfl, rfl, h1, r1⟩ := trodAll_cons r0
  obtain ⟨v2, vs2, d2, ds2, p2, q2, rfl, rfl, rfl, h2, r2⟩ := trodAll_cons r1
  obtain ⟨v3, vs3, d3, ds3, p3, q3, rfl, rfl, rfl, h3, r3⟩ := trodAll_cons r2
  obtain ⟨v4, vs4, d4, ds4, p4, q4, rfl, rfl, rfl, h4, r4⟩ := trodAll_cons r3
  obtain ⟨rfl, rfl, rfl⟩ := trodAll_nil r4
  obtain rfl : args = #[v0, v1, v2, v3, v4] := by cases args; simp_all
  obtain ⟨rfl, rfl⟩ := trodVars_none hV
  have k0 := h0
  have lt0 : ∀ x ∈ p0, x.block < W.heap.size := by obtain ⟨m, hm⟩ := k0; exact DataW.trod_lt m _ _ _ hm
  have k1 := h1
  have lt1 : ∀ x ∈ p1, x.block < W.heap.size := by obtain ⟨m, hm⟩ := k1; exact DataW.trod_lt m _ _ _ hm
  have k2 := h2
  have lt2 : ∀ x ∈ p2, x.block < W.heap.size := by obtain ⟨m, hm⟩ := k2; exact DataW.trod_lt m _ _ _ hm
  have k3 := h3
  have lt3 : ∀ x ∈ p3, x.block < W.heap.size := by obtain ⟨m, hm⟩ := k3; exact DataW.trod_lt m _ _ _ hm
  have k4 := h4
  have lt4 : ∀ x ∈ p4, x.block < W.heap.size := by obtain ⟨m, hm⟩ := k4; exact DataW.trod_lt m _ _ _ hm
  obtain ⟨ρ0, H0, a0, le0, hle0, rr0, vr0, q0⟩ := arg_open (n := 6) (by kernel_rfl) (hval 0 43 v0 rfl rfl) h0 (relLaid hL' laid_eq laid_ty)
  obtain ⟨ρ1, H1, a1, le1, hle1, rr1, vr1, q1⟩ := arg_open (n := 6) (by kernel_rfl) (hval 1 28 v1 rfl rfl) h1 rr0
  obtain ⟨ρ2, H2, a2, le2, hle2, rr2, vr2, q2⟩ := arg_open (n := 6) (by kernel_rfl) (hval 2 4 v2 rfl rfl) h2 rr1
  obtain ⟨ρ3, H3, a3, le3, hle3, rr3, vr3, q3⟩ := arg_open (n := 6) (by kernel_rfl) (hval 3 3 v3 rfl rfl) h3 rr2
  obtain ⟨ρ4, H4, a4, le4, hle4, rr4, vr4, q4⟩ := arg_open (n := 6) (by kernel_rfl) (hval 4 3 v4 rfl rfl) h4 rr3
  replace vr0 := vr0.mono le1 _ _
  replace q0 := q0.le hle1
  replace vr0 := vr0.mono le2 _ _
  replace q0 := q0.le hle2
  replace vr0 := vr0.mono le3 _ _
  replace q0 := q0.le hle3
  replace vr0 := vr0.mono le4 _ _
  replace q0 := q0.le hle4
  replace vr1 := vr1.mono le2 _ _
  replace q1 := q1.le hle2
  replace vr1 := vr1.mono le3 _ _
  replace q1 := q1.le hle3
  replace vr1 := vr1.mono le4 _ _
  replace q1 := q1.le hle4
  replace vr2 := vr2.mono le3 _ _
  replace q2 := q2.le hle3
  replace vr2 := vr2.mono le4 _ _
  replace q2 := q2.le hle4
  replace vr3 := vr3.mono le4 _ _
  replace q3 := q3.le hle4
  have hgo : ∀ b B, (heapG Tryd.prog.globals.size laidVals (tsOf W)).get b = some B → H4.get b = some B := fun b B hb => hle4.2 _ _ (hle3.2 _ _ (hle2.2 _ _ (hle1.2 _ _ (hle0.2 _ _ (hb)))))
  have hF := rr4.fresh'
  have hlt0 := VR.lt rr4.dom _ _ vr0
  have hlt1 := VR.lt rr4.dom _ _ vr1
  have hlt2 := VR.lt rr4.dom _ _ vr2
  have hlt3 := VR.lt rr4.dom _ _ vr3
  have hlt4 := VR.lt rr4.dom _ _ vr4
  have vrl : VRL ρ4 [a0, a1, a2, a3, a4] (#[v0, v1, v2, v3, v4] : Array Value).toList := VRL.cons vr0 (VRL.cons vr1 (VRL.cons vr2 (VRL.cons vr3 (VRL.cons vr4 (VRL.nil)))))
  have htab : hasLaid laidVals H4 := fun x hx => by
    unfold laidVals at hx
    rcases List.mem_cons.1 hx with rfl | hx
    · exact ⟨_, hgo _ _ (laid_at3 _)⟩
    rcases List.mem_cons.1 hx with rfl | hx
    · exact ⟨_, hgo _ _ (laid_at2 _)⟩
    cases hx
  obtain ⟨l0, hl0, dl0, wf0⟩ := IsV.ints Tryd.underlying43 Tryd.underlying21 (by kernel_rfl) q0
  obtain ⟨l1, hl1, dl1, wf1⟩ := IsV.ints Tryd.underlying28 Tryd.underlying3 (by kernel_rfl) q1
  obtain ⟨b2, rfl, rfl⟩ := IsV.bool Tryd.underlying4 q2
  obtain ⟨z3, rfl, wf3, rfl⟩ := IsV.int Tryd.underlying3 q3
  obtain ⟨z4, rfl, wf4, rfl⟩ := IsV.int Tryd.underlying3 q4
  refine (law_run mixed ans24 Tryd.func5 VtRunes.h5 rr4 vrl (law_VtRunes cf24 (fun _ _ => rfl) (fun _ _ => rfl) raw10 (fun _ _ => rfl) raw10_ok raw19 (fun _ _ => rfl) raw19_ok raw20 (fun _ _ => rfl) raw20_ok raw17 (fun _ _ => rfl) raw17_ok (fun _ _ => rfl) (fun _ _ => rfl) H4 l0 l1 b2 z3 z4 a0 a1 hF htab hl0 hl1)).mono fun e W' ⟨he, bel⟩ => ?_
  subst he
  exact ⟨_, rfl, _, _, _, [], _, [], hW', trodAll_mk1 (shut_bool Tryd.underlying4 _), (trodAll_cons_mk (Below.trod laidOut (by kernel_rfl) (of_decide_eq_true (by kernel_rfl)) k0 bel lt0) (trodAll_cons_mk (Below.trod laidOut (by kernel_rfl) (of_decide_eq_true (by kernel_rfl)) k1 bel lt1) (trodAll_cons_mk (Below.trod laidOut (by kernel_rfl) (of_decide_eq_true (by kernel_rfl)) k2 bel lt2) (trodAll_cons_mk (Below.trod laidOut (by kernel_rfl) (of_decide_eq_true (by kernel_rfl)) k3 bel lt3) (trodAll_cons_mk (Below.trod laidOut (by kernel_rfl) (of_decide_eq_true (by kernel_rfl)) k4 bel lt4) trodAll_mk0))))), rfl, bel.frame _, fun h => by cases h⟩
theorem over : Rows.vtRunesRow.holds Tryd.pinned (OpenSpec.ofChange Rows.vtRunesSpec) :=
  OpenClaim.holds_of_wide 5 Tryd.f5 rfl rfl rfl rfl rfl rfl rfl ⟨rfl, rfl, rfl, rfl, rfl⟩ rfl rfl rfl rfl rfl (by kernel_rfl) Tryd.func5 (by kernel_rfl)
    (of_decide_eq_true (by kernel_rfl)) (by unfold Func.isWrapper; first | (rw [if_pos (by decide +kernel)]; kernel_rfl) | (rw [if_neg (by decide +kernel)]; exact ⟨rfl, rfl⟩))
    (fun os started H enc _ => lifted os started H enc)
theorem noStand : (Tryd.f5.params.toList.all fun t => !Tryd.prog.wantsStandIn t) = true := by kernel_rfl
theorem card_over : Rows.VtRunesCardSaid :=
  Claim7.holds_tied_plain_at .later [] [.data, .pinned] true (true, "bafad9fbbd83b174b2be4e71d1621297abcc46527dfade2f5bdfc283c2b602af") false over (fun _ h => by cases h) (by kernel_rfl) (fun _ h => by cases h) vtRunes_row_tie rfl ⟨rfl, rfl⟩ (by kernel_rfl) rfl
    (fun f fn hf hfn => by
      obtain rfl : f = 5 := Option.some.inj ((show Tryd.prog.funcNamed "porthole/portholelaw20.VtRunes" = some 5 by kernel_rfl).symm.trans hf) |>.symm
      obtain rfl : fn = Tryd.f5 := (Option.some.inj (Tryd.func5.symm.trans hfn)).symm
      refine ⟨by kernel_rfl, fun j t ht => ?_⟩
      have h := List.all_eq_true.1 noStand t (by simpa using Array.mem_of_getElem? ht)
      have h2 : Tryd.prog.wantsStandIn t = false := by simpa using h
      exact h2)
    (by kernel_rfl)
end Go.Proofs.YthfbefjmenddkaaDoor.VtRunes
namespace Go.Proofs.YthfbefjmenddkaaDoor
/-- The row's card, under a short name, for the claim. -/
theorem vtRunes_card_holds : Rows.VtRunesCardSaid := VtRunes.card_over
#print axioms vtRunes_card_holds
end Go.Proofs.YthfbefjmenddkaaDoor
