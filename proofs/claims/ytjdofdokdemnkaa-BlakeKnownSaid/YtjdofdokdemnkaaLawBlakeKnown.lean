/- The row of the law BlakeKnown: whatever its arguments, the law returns true, and memory is as it was. No condition. -/
import Derived.Test.YtjdofdokdemnkaaRows
import Derived.Test.YtjdofdokdemnkaaFunBlakeKnown
import Derived.WalkKit
import Derived.ProofKit
import Derived.OpenShut
import Derived.ShutString
import Derived.ChangeOld
import Derived.Below
import Derived.SizedLaws
import Derived.JoinedCond
namespace Go.Proofs.Ytjdofdokdemnkaa.BlakeKnown
open Go Go.Proofs.YtjdofdokdemnkaaA
open Go.ChangeShapes Go.WideShapes Go.ChangeAt Go.RowKit
open Go.ChangeMaps (open_string shut_string)
set_option linter.unusedVariables false
set_option maxRecDepth 100000
theorem mixed : Try.prog.follows .mixedOrders = true := by kernel_rfl
noncomputable def cf0 : ACall := none0
theorem ans0 : Answers Try.prog cf0 := answers_none
noncomputable def cf1 : ACall := withSum cf0 35 s_get
theorem ans1 : Answers Try.prog cf1 := answers_Sum mixed ans0 Try.func35 h35 (get_ok cf0)
noncomputable def cf2 : ACall := withSum cf1 30 s_Get32
theorem ans2 : Answers Try.prog cf2 := answers_Sum mixed ans1 Try.func30 h30 (Get32_ok cf1 (fun _ _ => rfl))
noncomputable def cf3 : ACall := withSum cf2 29 s_Join
theorem ans3 : Answers Try.prog cf3 := answers_Sum mixed ans2 Try.func29 h29 (Join_ok cf2)
noncomputable def cf4 : ACall := withSum cf3 31 s_RotN
theorem ans4 : Answers Try.prog cf4 := answers_Sum mixed ans3 Try.func31 h31 (RotN_ok cf3)
noncomputable def cf5 : ACall := withSum cf4 27 s_first
theorem ans5 : Answers Try.prog cf5 := answers_Sum mixed ans4 Try.func27 h27 (first_ok cf4)
noncomputable def cf6 : ACall := withSum cf5 34 s_sigma
theorem ans6 : Answers Try.prog cf6 := answers_Sum mixed ans5 Try.func34 h34 (sigma_ok cf5)
noncomputable def cf7 : ACall := withSum cf6 33 s_mix
theorem ans7 : Answers Try.prog cf7 := answers_Sum mixed ans6 Try.func33 h33 (mix_ok cf6 (fun _ _ => rfl))
noncomputable def cf8 : ACall := withSum cf7 28 s_press
theorem ans8 : Answers Try.prog cf8 := answers_Sum mixed ans7 Try.func28 h28 (press_ok cf7 (fun _ _ => rfl) (fun _ _ => rfl) (fun _ _ => rfl) (fun _ _ => rfl))
noncomputable def cf9 : ACall := withSum cf8 16 s_New
theorem ans9 : Answers Try.prog cf9 := answers_Sum mixed ans8 Try.func16 h16 (New_ok cf8 (fun _ _ => rfl))
noncomputable def cf10 : ACall := withSum cf9 19 s_Write
theorem ans10 : Answers Try.prog cf10 := answers_Sum mixed ans9 Try.func19 h19 (Write_ok cf9 (fun _ _ => rfl) (fun _ _ => rfl))
noncomputable def cf11 : ACall := withSum cf10 32 s_put
theorem ans11 : Answers Try.prog cf11 := answers_Sum mixed ans10 Try.func32 h32 (put_ok cf10)
noncomputable def cf12 : ACall := withSum cf11 25 s_Put32
theorem ans12 : Answers Try.prog cf12 := answers_Sum mixed ans11 Try.func25 h25 (Put32_ok cf11 (fun _ _ => rfl))
noncomputable def cf13 : ACall := withSum cf12 18 s_HSum
theorem ans13 : Answers Try.prog cf13 := answers_Sum mixed ans12 Try.func18 h18 (HSum_ok cf12 (fun _ _ => rfl) (fun _ _ => rfl))
noncomputable def cf14 : ACall := withSum cf13 20 s_SumB
theorem ans14 : Answers Try.prog cf14 := answers_Sum mixed ans13 Try.func20 h20 (SumB_ok cf13 (fun _ _ => rfl) (fun _ _ => rfl) (fun _ _ => rfl))
noncomputable def cf15 : ACall := withSum cf14 17 s_known7
theorem ans15 : Answers Try.prog cf15 := answers_Sum mixed ans14 Try.func17 h17 (known7_ok cf14 (fun _ _ => rfl))
theorem known_run : (runA tab 100000 60 17 [] (heap0 Try.prog.globals.size)).map (·.1) = some (.bool true) := by kernel_rfl
noncomputable def cf16 : ACall := withSum cf15 17 s_known
theorem ans16 : Answers Try.prog cf16 := answers_known ans15 ⟨_, Try.func17, by kernel_rfl, by kernel_rfl⟩ (fun W => closed_calls mixed tab_holds known_run W)
theorem own : ownKnob Try.prog.godebug = none := by kernel_rfl
theorem laidOut : laidOutB Try.prog = true := by kernel_rfl
theorem lifted (os : Os) (started : os.Started) (H : Type) (enc : TypeId × Value → H) :
    ReturnsInHanded {} Try.checked os 7 .any (Rows.blakeKnownSpec.pre6 enc Try.prog Try.f7 Rows.blakeKnownRow.domain false) (Rows.blakeKnownSpec.post enc Try.prog Try.f7 false true false false) := by
  refine returnsInHanded_of_change_sized (C := Try.checked) own started (by kernel_rfl) Try.func7
    (ChangeSpec.witness6 (enc := enc) (C := Try.checked) false ⟨#[], #[], []⟩ 8 (by kernel_rfl) (by kernel_rfl) (by kernel_rfl) (by kernel_rfl)) ?_
  intro W base args ds gs before hval0 hW hcnd hsz0 _
  have hsz : (DataW.weightsEach Try.prog (Try.f7.params.toList ++ Rows.blakeKnownSpec.plain.varTypes Try.prog) (ds ++ gs)).all (· ≤ reachBytes) = true := hsz0
  have hW' := hW
  obtain ⟨p, q, hA0, hV, rfl, hfz, hnd⟩ := hW
  have hA : DataW.TrodAll enc Try.prog W 0 (fun _ => true) true Try.f7.params.toList args.toList ds p := hA0
  rw [Try.params7] at hA
  obtain ⟨rfl, rfl, rfl⟩ := trodAll_none hA
  obtain ⟨rfl, rfl⟩ := trodVars_none hV
  have r0 := rel0 (P := Try.prog) W
  have hF := r0.fresh'
  refine (law_run mixed ans16 Try.func7 BlakeKnown.h7 r0 VRL.nil (law_BlakeKnown cf16 (fun _ _ => rfl) (fun _ _ => rfl) (fun _ _ => rfl) (fun _ _ => rfl) (fun _ _ => rfl) _ hF)).mono fun e W' ⟨he, bel⟩ => ?_
  subst he
  exact ⟨_, rfl, _, _, _, [], _, [], hW', trodAll_mk1 (shut_bool Try.underlying4 _), trodAll_mk0, rfl, bel.frame _, fun h => by cases h⟩
theorem over : Rows.blakeKnownRow.holds Try.pinned (OpenSpec.ofChange Rows.blakeKnownSpec) :=
  OpenClaim.holds_of_wide 7 Try.f7 rfl rfl rfl rfl rfl rfl rfl ⟨rfl, rfl, rfl, rfl, rfl⟩ rfl rfl rfl rfl rfl (by kernel_rfl) Try.func7 (by kernel_rfl)
    (of_decide_eq_true (by kernel_rfl)) (by unfold Func.isWrapper; first | (rw [if_pos (by decide +kernel)]; kernel_rfl) | (rw [if_neg (by decide +kernel)]; exact ⟨rfl, rfl⟩))
    (fun os started H enc _ => lifted os started H enc)
end Go.Proofs.Ytjdofdokdemnkaa.BlakeKnown
namespace Go.Proofs.Ytjdofdokdemnkaa
/-- The row, under a short name, for the claim. -/
theorem blakeKnown_holds : Rows.BlakeKnownSaid := BlakeKnown.over
#print axioms blakeKnown_holds
end Go.Proofs.Ytjdofdokdemnkaa
