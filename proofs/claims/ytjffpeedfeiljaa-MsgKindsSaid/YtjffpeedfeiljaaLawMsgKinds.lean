/- The row of the law MsgKinds: whatever its arguments, the law returns true, and memory is as it was. No condition. -/
import Derived.Test.YtjffpeedfeiljaaRows
import Derived.Test.YtjffpeedfeiljaaFunMsgKinds
import Derived.WalkKit
import Derived.ProofKit
import Derived.OpenShut
import Derived.ShutString
import Derived.ChangeOld
import Derived.Below
import Derived.SizedLaws
import Derived.JoinedCond
namespace Go.Proofs.Ytjffpeedfeiljaa.MsgKinds
open Go Go.Proofs.YtjffpeedfeiljaaA
open Go.ChangeShapes Go.WideShapes Go.ChangeAt Go.RowKit
open Go.ChangeMaps (open_string shut_string)
set_option linter.unusedVariables false
set_option maxRecDepth 100000
theorem mixed : Try.prog.follows .mixedOrders = true := by kernel_rfl
noncomputable def cf0 : ACall := none0
theorem ans0 : Answers Try.prog cf0 := answers_none
noncomputable def cf1 : ACall := withSum cf0 22 s_Clone
theorem ans1 : Answers Try.prog cf1 := answers_Sum mixed ans0 Try.func22 h22 (Clone_ok cf0)
noncomputable def cf2 : ACall := withSum cf1 21 s_Join
theorem ans2 : Answers Try.prog cf2 := answers_Sum mixed ans1 Try.func21 h21 (Join_ok cf1)
noncomputable def cf3 : ACall := withSum cf2 20 s_fields
theorem ans3 : Answers Try.prog cf3 := answers_Sum mixed ans2 Try.func20 h20 (fields_ok cf2)
noncomputable def cf4 : ACall := withSum cf3 11 s_Right
theorem ans4 : Answers Try.prog cf4 := answers_Sum mixed ans3 Try.func11 h11 (Right_ok cf3 (fun _ _ => rfl))
noncomputable def cf5 : ACall := withSum cf4 8 s_Encode
theorem ans5 : Answers Try.prog cf5 := answers_Sum mixed ans4 Try.func8 h8 (Encode_ok cf4 (fun _ _ => rfl) (fun _ _ => rfl) (fun _ _ => rfl))
noncomputable def cf6 : ACall := withSum cf5 13 s_Pick
theorem ans6 : Answers Try.prog cf6 := answers_Sum mixed ans5 Try.func13 h13 (Pick_ok cf5)
noncomputable def cf7 : ACall := withSum cf6 14 s_Few
theorem ans7 : Answers Try.prog cf7 := answers_Sum mixed ans6 Try.func14 h14 (Few_ok cf6)
theorem known_run : (runA tab 100000 60 12 [] (heap0 Try.prog.globals.size)).map (·.1) = some (.bool true) := by kernel_rfl
noncomputable def cf8 : ACall := withSum cf7 12 s_known
theorem ans8 : Answers Try.prog cf8 := answers_known ans7 ⟨_, Try.func12, by kernel_rfl, by kernel_rfl⟩ (fun W => closed_calls mixed tab_holds known_run W)
theorem own : ownKnob Try.prog.godebug = none := by kernel_rfl
theorem laidOut : laidOutB Try.prog = true := by kernel_rfl
theorem lifted (os : Os) (started : os.Started) (H : Type) (enc : TypeId × Value → H) :
    ReturnsInHanded {} Try.checked os 4 .any (Rows.msgKindsSpec.pre6 enc Try.prog Try.f4 Rows.msgKindsRow.domain false) (Rows.msgKindsSpec.post enc Try.prog Try.f4 false true false false) := by
  refine returnsInHanded_of_change_sized (C := Try.checked) own started (by kernel_rfl) Try.func4
    (ChangeSpec.witness6 (enc := enc) (C := Try.checked) false ⟨#[], #[.int .i64 0, .int .i64 0, .string ByteArray.empty, .slice none 0 0], []⟩ 8 (by kernel_rfl) (by kernel_rfl) (by kernel_rfl) (by kernel_rfl)) ?_
  intro W base args ds gs before hval0 hW hcnd hsz0 _
  have hsz : (DataW.weightsEach Try.prog (Try.f4.params.toList ++ Rows.msgKindsSpec.plain.varTypes Try.prog) (ds ++ gs)).all (· ≤ reachBytes) = true := hsz0
  have hval : ∀ (j : Nat) t v, Try.f4.params[j]? = some t → args[j]? = some v → Value.okWide Try.prog W .any base t v := hval0
  have hW' := hW
  obtain ⟨p, q, hA0, hV, rfl, hfz, hnd⟩ := hW
  have hA : DataW.TrodAll enc Try.prog W 0 (fun _ => true) true Try.f4.params.toList args.toList ds p := hA0
  rw [Try.params4] at hA hval hsz
  obtain ⟨v0, vs0, d0, ds0, p0, q0, hargs, rfl, rfl, h0, r0⟩ := trodAll_cons hA
  obtain ⟨v1, vs1, d1, ds1, p1, q1, rfl, rfl, rfl, h1, r1⟩ := trodAll_cons r0
  obtain ⟨v2, vs2, d2, ds2, p2, q2, rfl, rfl, rfl, h2, r2⟩ := trodAll_cons r1
  obtain ⟨v3, vs3, d3, ds3, p3, q3, rfl, rfl, rfl, h3, r3⟩ := trodAll_cons r2
  obtain ⟨rfl, rfl, rfl⟩ := trodAll_nil r3
  obtain rfl : args = #[v0, v1, v2, v3] := by cases args; simp_all
  obtain ⟨rfl, rfl⟩ := trodVars_none hV
  have k0 := h0
  have lt0 : ∀ x ∈ p0, x.block < W.heap.size := by obtain ⟨m, hm⟩ := k0; exact DataW.trod_lt m _ _ _ hm
  have k1 := h1
  have lt1 : ∀ x ∈ p1, x.block < W.heap.size := by obtain ⟨m, hm⟩ := k1; exact DataW.trod_lt m _ _ _ hm
  have k2 := h2
  have lt2 : ∀ x ∈ p2, x.block < W.heap.size := by obtain ⟨m, hm⟩ := k2; exact DataW.trod_lt m _ _ _ hm
  have k3 := h3
  have lt3 : ∀ x ∈ p3, x.block < W.heap.size := by obtain ⟨m, hm⟩ := k3; exact DataW.trod_lt m _ _ _ hm
  obtain ⟨ρ0, H0, a0, le0, hle0, rr0, vr0, q0⟩ := arg_open (n := 6) (by kernel_rfl) (hval 0 3 v0 rfl rfl) h0 (rel0 W)
  obtain ⟨ρ1, H1, a1, le1, hle1, rr1, vr1, q1⟩ := arg_open (n := 6) (by kernel_rfl) (hval 1 3 v1 rfl rfl) h1 rr0
  obtain ⟨ρ2, H2, a2, le2, hle2, rr2, vr2, q2⟩ := arg_open (n := 6) (by kernel_rfl) (hval 2 9 v2 rfl rfl) h2 rr1
  obtain ⟨ρ3, H3, a3, le3, hle3, rr3, vr3, q3⟩ := arg_open (n := 6) (by kernel_rfl) (hval 3 22 v3 rfl rfl) h3 rr2
  replace vr0 := vr0.mono le1 _ _
  replace q0 := q0.le hle1
  replace vr0 := vr0.mono le2 _ _
  replace q0 := q0.le hle2
  replace vr0 := vr0.mono le3 _ _
  replace q0 := q0.le hle3
  replace vr1 := vr1.mono le2 _ _
  replace q1 := q1.le hle2
  replace vr1 := vr1.mono le3 _ _
  replace q1 := q1.le hle3
  replace vr2 := vr2.mono le3 _ _
  replace q2 := q2.le hle3
  have hF := rr3.fresh'
  have hlt0 := VR.lt rr3.dom _ _ vr0
  have hlt1 := VR.lt rr3.dom _ _ vr1
  have hlt2 := VR.lt rr3.dom _ _ vr2
  have hlt3 := VR.lt rr3.dom _ _ vr3
  have vrl : VRL ρ3 [a0, a1, a2, a3] (#[v0, v1, v2, v3] : Array Value).toList := VRL.cons vr0 (VRL.cons vr1 (VRL.cons vr2 (VRL.cons vr3 (VRL.nil))))
  obtain ⟨z0, rfl, wf0, rfl⟩ := IsV.int Try.underlying3 q0
  obtain ⟨z1, rfl, wf1, rfl⟩ := IsV.int Try.underlying3 q1
  obtain ⟨s2, rfl, hs2, bs2, rfl, hbl2⟩ := IsV.string Try.underlying9 q2
  obtain ⟨s3, hs3, dl3⟩ := IsV.bytes Try.underlying22 Try.underlying5 (by kernel_rfl) q3
  have sz3 := dlen_sized hsz (j := 3) (B := 1) rfl rfl Try.underlying22 (by kernel_rfl) dl3
  refine (law_run mixed ans8 Try.func4 h4 rr3 vrl (law_MsgKinds cf8 (fun _ _ => rfl) (fun _ _ => rfl) (fun _ _ => rfl) (fun _ _ => rfl) (fun _ _ => rfl) H3 z0 z1 s2 s3 a3 hF hlt3 hs3 (by omega) hs2)).mono fun e W' ⟨he, bel⟩ => ?_
  subst he
  exact ⟨_, rfl, _, _, _, [], _, [], hW', trodAll_mk1 (shut_bool Try.underlying4 _), (trodAll_cons_mk (Below.trod laidOut (by kernel_rfl) (of_decide_eq_true (by kernel_rfl)) k0 bel lt0) (trodAll_cons_mk (Below.trod laidOut (by kernel_rfl) (of_decide_eq_true (by kernel_rfl)) k1 bel lt1) (trodAll_cons_mk (Below.trod laidOut (by kernel_rfl) (of_decide_eq_true (by kernel_rfl)) k2 bel lt2) (trodAll_cons_mk (Below.trod laidOut (by kernel_rfl) (of_decide_eq_true (by kernel_rfl)) k3 bel lt3) trodAll_mk0)))), rfl, bel.frame _, fun h => by cases h⟩
theorem over : Rows.msgKindsRow.holds Try.pinned (OpenSpec.ofChange Rows.msgKindsSpec) :=
  OpenClaim.holds_of_wide 4 Try.f4 rfl rfl rfl rfl rfl rfl rfl ⟨rfl, rfl, rfl, rfl, rfl⟩ rfl rfl rfl rfl rfl (by kernel_rfl) Try.func4 (by kernel_rfl)
    (of_decide_eq_true (by kernel_rfl)) (by unfold Func.isWrapper; first | (rw [if_pos (by decide +kernel)]; kernel_rfl) | (rw [if_neg (by decide +kernel)]; exact ⟨rfl, rfl⟩))
    (fun os started H enc _ => lifted os started H enc)
end Go.Proofs.Ytjffpeedfeiljaa.MsgKinds
namespace Go.Proofs.Ytjffpeedfeiljaa
/-- The row, under a short name, for the claim. -/
theorem msgKinds_holds : Rows.MsgKindsSaid := MsgKinds.over
#print axioms msgKinds_holds
end Go.Proofs.Ytjffpeedfeiljaa
