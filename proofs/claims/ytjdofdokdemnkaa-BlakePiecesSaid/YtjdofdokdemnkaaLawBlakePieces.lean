/- The row of the law BlakePieces: whatever its arguments, the law returns true, and memory is as it was. No condition. -/
import Derived.Test.YtjdofdokdemnkaaRows
import Derived.Test.YtjdofdokdemnkaaFunBlakePieces
import Derived.WalkKit
import Derived.ProofKit
import Derived.OpenShut
import Derived.ShutString
import Derived.ChangeOld
import Derived.Below
import Derived.SizedLaws
import Derived.JoinedCond
namespace Go.Proofs.Ytjdofdokdemnkaa.BlakePieces
open Go Go.Proofs.YtjdofdokdemnkaaA
open Go.ChangeShapes Go.WideShapes Go.ChangeAt Go.RowKit
open Go.ChangeMaps (open_string shut_string)
set_option linter.unusedVariables false
set_option maxRecDepth 100000
theorem mixed : Try.prog.follows .mixedOrders = true := by kernel_rfl
noncomputable def cf0 : ACall := none0
theorem ans0 : Answers Try.prog cf0 := answers_none
noncomputable def cf1 : ACall := withSum cf0 14 s_Pick
theorem ans1 : Answers Try.prog cf1 := answers_Sum mixed ans0 Try.func14 h14 (Pick_ok cf0)
noncomputable def cf2 : ACall := withSum cf1 13 s_Bytes
theorem ans2 : Answers Try.prog cf2 := answers_Sum mixed ans1 Try.func13 h13 (Bytes_ok cf1)
noncomputable def cf3 : ACall := withSum cf2 35 s_get
theorem ans3 : Answers Try.prog cf3 := answers_Sum mixed ans2 Try.func35 h35 (get_ok cf2)
noncomputable def cf4 : ACall := withSum cf3 30 s_Get32
theorem ans4 : Answers Try.prog cf4 := answers_Sum mixed ans3 Try.func30 h30 (Get32_ok cf3 (fun _ _ => rfl))
noncomputable def cf5 : ACall := withSum cf4 29 s_Join
theorem ans5 : Answers Try.prog cf5 := answers_Sum mixed ans4 Try.func29 h29 (Join_ok cf4)
noncomputable def cf6 : ACall := withSum cf5 31 s_RotN
theorem ans6 : Answers Try.prog cf6 := answers_Sum mixed ans5 Try.func31 h31 (RotN_ok cf5)
noncomputable def cf7 : ACall := withSum cf6 27 s_first
theorem ans7 : Answers Try.prog cf7 := answers_Sum mixed ans6 Try.func27 h27 (first_ok cf6)
noncomputable def cf8 : ACall := withSum cf7 34 s_sigma
theorem ans8 : Answers Try.prog cf8 := answers_Sum mixed ans7 Try.func34 h34 (sigma_ok cf7)
noncomputable def cf9 : ACall := withSum cf8 33 s_mix
theorem ans9 : Answers Try.prog cf9 := answers_Sum mixed ans8 Try.func33 h33 (mix_ok cf8 (fun _ _ => rfl))
noncomputable def cf10 : ACall := withSum cf9 28 s_press
theorem ans10 : Answers Try.prog cf10 := answers_Sum mixed ans9 Try.func28 h28 (press_ok cf9 (fun _ _ => rfl) (fun _ _ => rfl) (fun _ _ => rfl) (fun _ _ => rfl))
noncomputable def cf11 : ACall := withSum cf10 16 s_New
theorem ans11 : Answers Try.prog cf11 := answers_Sum mixed ans10 Try.func16 h16 (New_ok cf10 (fun _ _ => rfl))
noncomputable def cf12 : ACall := withSum cf11 19 s_Write
theorem ans12 : Answers Try.prog cf12 := answers_Sum mixed ans11 Try.func19 h19 (Write_ok cf11 (fun _ _ => rfl) (fun _ _ => rfl))
noncomputable def cf13 : ACall := withSum cf12 32 s_put
theorem ans13 : Answers Try.prog cf13 := answers_Sum mixed ans12 Try.func32 h32 (put_ok cf12)
noncomputable def cf14 : ACall := withSum cf13 25 s_Put32
theorem ans14 : Answers Try.prog cf14 := answers_Sum mixed ans13 Try.func25 h25 (Put32_ok cf13 (fun _ _ => rfl))
noncomputable def cf15 : ACall := withSum cf14 18 s_HSum
theorem ans15 : Answers Try.prog cf15 := answers_Sum mixed ans14 Try.func18 h18 (HSum_ok cf14 (fun _ _ => rfl) (fun _ _ => rfl))
noncomputable def cf16 : ACall := withSum cf15 20 s_SumB
theorem ans16 : Answers Try.prog cf16 := answers_Sum mixed ans15 Try.func20 h20 (SumB_ok cf15 (fun _ _ => rfl) (fun _ _ => rfl) (fun _ _ => rfl))
noncomputable def cf17 : ACall := withSum cf16 17 s_known7
theorem ans17 : Answers Try.prog cf17 := answers_Sum mixed ans16 Try.func17 h17 (known7_ok cf16 (fun _ _ => rfl))
theorem own : ownKnob Try.prog.godebug = none := by kernel_rfl
theorem laidOut : laidOutB Try.prog = true := by kernel_rfl
theorem lifted (os : Os) (started : os.Started) (H : Type) (enc : TypeId × Value → H) :
    ReturnsInHanded {} Try.checked os 8 .any (Rows.blakePiecesSpec.pre6 enc Try.prog Try.f8 Rows.blakePiecesRow.domain false) (Rows.blakePiecesSpec.post enc Try.prog Try.f8 false true false false) := by
  refine returnsInHanded_of_change_sized (C := Try.checked) own started (by kernel_rfl) Try.func8
    (ChangeSpec.witness6 (enc := enc) (C := Try.checked) false ⟨#[], #[.int .i64 0, .slice none 0 0], []⟩ 8 (by kernel_rfl) (by kernel_rfl) (by kernel_rfl) (by kernel_rfl)) ?_
  intro W base args ds gs before hval0 hW hcnd hsz0 _
  have hsz : (DataW.weightsEach Try.prog (Try.f8.params.toList ++ Rows.blakePiecesSpec.plain.varTypes Try.prog) (ds ++ gs)).all (· ≤ reachBytes) = true := hsz0
  have hval : ∀ (j : Nat) t v, Try.f8.params[j]? = some t → args[j]? = some v → Value.okWide Try.prog W .any base t v := hval0
  have hW' := hW
  obtain ⟨p, q, hA0, hV, rfl, hfz, hnd⟩ := hW
  have hA : DataW.TrodAll enc Try.prog W 0 (fun _ => true) true Try.f8.params.toList args.toList ds p := hA0
  rw [Try.params8] at hA hval hsz
  obtain ⟨v0, vs0, d0, ds0, p0, q0, hargs, rfl, rfl, h0, r0⟩ := trodAll_cons hA
  obtain ⟨v1, vs1, d1, ds1, p1, q1, rfl, rfl, rfl, h1, r1⟩ := trodAll_cons r0
  obtain ⟨rfl, rfl, rfl⟩ := trodAll_nil r1
  obtain rfl : args = #[v0, v1] := by cases args; simp_all
  obtain ⟨rfl, rfl⟩ := trodVars_none hV
  have k0 := h0
  have lt0 : ∀ x ∈ p0, x.block < W.heap.size := by obtain ⟨m, hm⟩ := k0; exact DataW.trod_lt m _ _ _ hm
  have k1 := h1
  have lt1 : ∀ x ∈ p1, x.block < W.heap.size := by obtain ⟨m, hm⟩ := k1; exact DataW.trod_lt m _ _ _ hm
  obtain ⟨ρ0, H0, a0, le0, hle0, rr0, vr0, q0⟩ := arg_open (n := 6) (by kernel_rfl) (hval 0 3 v0 rfl rfl) h0 (rel0 W)
  obtain ⟨ρ1, H1, a1, le1, hle1, rr1, vr1, q1⟩ := arg_open (n := 6) (by kernel_rfl) (hval 1 41 v1 rfl rfl) h1 rr0
  replace vr0 := vr0.mono le1 _ _
  replace q0 := q0.le hle1
  have hF := rr1.fresh'
  have hlt0 := VR.lt rr1.dom _ _ vr0
  have hlt1 := VR.lt rr1.dom _ _ vr1
  have vrl : VRL ρ1 [a0, a1] (#[v0, v1] : Array Value).toList := VRL.cons vr0 (VRL.cons vr1 (VRL.nil))
  obtain ⟨z0, rfl, wf0, rfl⟩ := IsV.int Try.underlying3 q0
  obtain ⟨l1, hl1, dl1, wf1⟩ := IsV.ints Try.underlying41 Try.underlying3 (by kernel_rfl) q1
  refine (law_run mixed ans17 Try.func8 BlakePieces.h8 rr1 vrl (law_BlakePieces cf17 (fun _ _ => rfl) (fun _ _ => rfl) (fun _ _ => rfl) (fun _ _ => rfl) (fun _ _ => rfl) (fun _ _ => rfl) (fun _ _ => rfl) H1 z0 l1 a1 hF hlt1 hl1)).mono fun e W' ⟨he, bel⟩ => ?_
  subst he
  exact ⟨_, rfl, _, _, _, [], _, [], hW', trodAll_mk1 (shut_bool Try.underlying4 _), (trodAll_cons_mk (Below.trod laidOut (by kernel_rfl) (of_decide_eq_true (by kernel_rfl)) k0 bel lt0) (trodAll_cons_mk (Below.trod laidOut (by kernel_rfl) (of_decide_eq_true (by kernel_rfl)) k1 bel lt1) trodAll_mk0)), rfl, bel.frame _, fun h => by cases h⟩
theorem over : Rows.blakePiecesRow.holds Try.pinned (OpenSpec.ofChange Rows.blakePiecesSpec) :=
  OpenClaim.holds_of_wide 8 Try.f8 rfl rfl rfl rfl rfl rfl rfl ⟨rfl, rfl, rfl, rfl, rfl⟩ rfl rfl rfl rfl rfl (by kernel_rfl) Try.func8 (by kernel_rfl)
    (of_decide_eq_true (by kernel_rfl)) (by unfold Func.isWrapper; first | (rw [if_pos (by decide +kernel)]; kernel_rfl) | (rw [if_neg (by decide +kernel)]; exact ⟨rfl, rfl⟩))
    (fun os started H enc _ => lifted os started H enc)
end Go.Proofs.Ytjdofdokdemnkaa.BlakePieces
namespace Go.Proofs.Ytjdofdokdemnkaa
/-- The row, under a short name, for the claim. -/
theorem blakePieces_holds : Rows.BlakePiecesSaid := BlakePieces.over
#print axioms blakePieces_holds
end Go.Proofs.Ytjdofdokdemnkaa
