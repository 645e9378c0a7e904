/- The row of the law MsgCodes: whatever its arguments, the law returns true, and memory is as it was. No condition. -/
import Derived.Test.YtjffpeedfeiljaaRows
import Derived.Test.YtjffpeedfeiljaaFunMsgCodes
import Derived.WalkKit
import Derived.ProofKit
import Derived.OpenShut
import Derived.ShutString
import Derived.ChangeOld
import Derived.Below
import Derived.SizedLaws
import Derived.JoinedCond
namespace Go.Proofs.Ytjffpeedfeiljaa.MsgCodes
open Go Go.Proofs.YtjffpeedfeiljaaA
open Go.ChangeShapes Go.WideShapes Go.ChangeAt Go.RowKit
open Go.ChangeMaps (open_string shut_string)
set_option linter.unusedVariables false
set_option maxRecDepth 100000
theorem mixed : Try.prog.follows .mixedOrders = true := by kernel_rfl
noncomputable def cf0 : ACall := none0
theorem ans0 : Answers Try.prog cf0 := answers_none
noncomputable def cf1 : ACall := withSum cf0 22 s_Clone
theorem ans1 : Answers Try.prog cf1 := answers_Sum mixed ans0 Try.func22 h22 (Clone_ok cf0)
noncomputable def cf2 : ACall := withSum cf1 21 s_Join
theorem ans2 : Answers Try.prog cf2 := answers_Sum mixed ans1 Try.func21 h21 (Join_ok cf1)
noncomputable def cf3 : ACall := withSum cf2 20 s_fields
theorem ans3 : Answers Try.prog cf3 := answers_Sum mixed ans2 Try.func20 h20 (fields_ok cf2)
noncomputable def cf4 : ACall := withSum cf3 11 s_Right
theorem ans4 : Answers Try.prog cf4 := answers_Sum mixed ans3 Try.func11 h11 (Right_ok cf3 (fun _ _ => rfl))
noncomputable def cf5 : ACall := withSum cf4 19 s_Right
theorem ans5 : Answers Try.prog cf5 := answers_Sum mixed ans4 Try.func19 h19 (RightMsg_ok cf4)
noncomputable def cf6 : ACall := withSum cf5 8 s_Encode
theorem ans6 : Answers Try.prog cf6 := answers_Sum mixed ans5 Try.func8 h8 (Encode_ok cf5 (fun _ _ => rfl) (fun _ _ => rfl) (fun _ _ => rfl))
noncomputable def cf7 : ACall := withSum cf6 17 s_Encode
theorem ans7 : Answers Try.prog cf7 := answers_Sum mixed ans6 Try.func17 h17 (EncodeMsg_ok cf6 (fun _ _ => rfl))
noncomputable def cf8 : ACall := withSum cf7 13 s_Pick
theorem ans8 : Answers Try.prog cf8 := answers_Sum mixed ans7 Try.func13 h13 (Pick_ok cf7)
noncomputable def cf9 : ACall := withSum cf8 16 s_Bytes
theorem ans9 : Answers Try.prog cf9 := answers_Sum mixed ans8 Try.func16 h16 (Bytes_ok cf8)
noncomputable def cf10 : ACall := withSum cf9 9 s_Decode
theorem ans10 : Answers Try.prog cf10 := answers_Sum mixed ans9 Try.func9 h9 (Decode_ok cf9 (fun _ _ => rfl) (fun _ _ => rfl) (fun _ _ => rfl))
noncomputable def cf11 : ACall := withSum cf10 18 s_DecodeRef
theorem ans11 : Answers Try.prog cf11 := answers_Sum mixed ans10 Try.func18 h18 (DecodeMsg_ok cf10 (fun _ _ => rfl))
noncomputable def cf12 : ACall := withSum cf11 15 s_Client
theorem ans12 : Answers Try.prog cf12 := answers_Sum mixed ans11 Try.func15 h15 (Client_ok cf11)
noncomputable def cf13 : ACall := withSum cf12 10 s_SameMsg
theorem ans13 : Answers Try.prog cf13 := answers_Sum mixed ans12 Try.func10 h10 (SameMsg_ok cf12)
noncomputable def cf14 : ACall := withSum cf13 7 s_message
theorem ans14 : Answers Try.prog cf14 := answers_Sum mixed ans13 Try.func7 h7 (message_ok cf13 (fun _ _ => rfl))
theorem known_run : (runA tab 100000 60 12 [] (heap0 Try.prog.globals.size)).map (·.1) = some (.bool true) := by kernel_rfl
noncomputable def cf15 : ACall := withSum cf14 12 s_known
theorem ans15 : Answers Try.prog cf15 := answers_known ans14 ⟨_, Try.func12, by kernel_rfl, by kernel_rfl⟩ (fun W => closed_calls mixed tab_holds known_run W)
theorem own : ownKnob Try.prog.godebug = none := by kernel_rfl
theorem laidOut : laidOutB Try.prog = true := by kernel_rfl
theorem lifted (os : Os) (started : os.Started) (H : Type) (enc : TypeId × Value → H) :
    ReturnsInHanded {} Try.checked os 6 .any (Rows.msgCodesSpec.pre6 enc Try.prog Try.f6 Rows.msgCodesRow.domain false) (Rows.msgCodesSpec.post enc Try.prog Try.f6 false true false false) := by
  refine returnsInHanded_of_change_sized (C := Try.checked) own started (by kernel_rfl) Try.func6
    (ChangeSpec.witness6 (enc := enc) (C := Try.checked) false ⟨#[], #[.agg #[.int .i64 0, .string ByteArray.empty, .slice none 0 0, .int .i64 0], .bool false, .slice none 0 0, .int .i64 0], []⟩ 8 (by kernel_rfl) (by kernel_rfl) (by kernel_rfl) (by kernel_rfl)) ?_
  intro W base args ds gs before hval0 hW hcnd hsz0 _
  have hsz : (DataW.weightsEach Try.prog (Try.f6.params.toList ++ Rows.msgCodesSpec.plain.varTypes Try.prog) (ds ++ gs)).all (· ≤ reachBytes) = true := hsz0
  have hval : ∀ (j : Nat) t v, Try.f6.params[j]? = some t → args[j]? = some v → Value.okWide Try.prog W .any base t v := hval0
  have hW' := hW
  obtain ⟨p, q, hA0, hV, rfl, hfz, hnd⟩ := hW
  have hA : DataW.TrodAll enc Try.prog W 0 (fun _ => true) true Try.f6.params.toList args.toList ds p := hA0
  rw [Try.params6] at hA hval hsz
  obtain ⟨v0, vs0, d0, ds0, p0, q0, hargs, rfl, rfl, h0, r0⟩ := trodAll_cons hA
  obtain ⟨v1, vs1, d1, ds1, p1, q1, rfl, rfl, rfl, h1, r1⟩ := trodAll_cons r0
  obtain ⟨v2, vs2, d2, ds2, p2, q2, rfl, rfl, rfl, h2, r2⟩ := trodAll_cons r1
  obtain ⟨v3, vs3, d3, ds3, p3, q3, rfl, rfl, rfl, h3, r3⟩ := trodAll_cons r2
  obtain ⟨rfl, rfl, rfl⟩ := trodAll_nil r3
  obtain rfl : args = #[v0, v1, v2, v3] := by cases args; simp_all
  obtain ⟨rfl, rfl⟩ := trodVars_none hV
  have k0 := h0
  have lt0 : ∀ x ∈ p0, x.block < W.heap.size := by obtain ⟨m, hm⟩ := k0; exact DataW.trod_lt m _ _ _ hm
  have k1 := h1
  have lt1 : ∀ x ∈ p1, x.block < W.heap.size := by obtain ⟨m, hm⟩ := k1; exact DataW.trod_lt m _ _ _ hm
  have k2 := h2
  have lt2 : ∀ x ∈ p2, x.block < W.heap.size := by obtain ⟨m, hm⟩ := k2; exact DataW.trod_lt m _ _ _ hm
  have k3 := h3
  have lt3 : ∀ x ∈ p3, x.block < W.heap.size := by obtain ⟨m, hm⟩ := k3; exact DataW.trod_lt m _ _ _ hm
  obtain ⟨ρ0, H0, a0, le0, hle0, rr0, vr0, q0⟩ := arg_open (n := 6) (by kernel_rfl) (hval 0 24 v0 rfl rfl) h0 (rel0 W)
  obtain ⟨ρ1, H1, a1, le1, hle1, rr1, vr1, q1⟩ := arg_open (n := 6) (by kernel_rfl) (hval 1 4 v1 rfl rfl) h1 rr0
  obtain ⟨ρ2, H2, a2, le2, hle2, rr2, vr2, q2⟩ := arg_open (n := 6) (by kernel_rfl) (hval 2 22 v2 rfl rfl) h2 rr1
  obtain ⟨ρ3, H3, a3, le3, hle3, rr3, vr3, q3⟩ := arg_open (n := 6) (by kernel_rfl) (hval 3 3 v3 rfl rfl) h3 rr2
  replace vr0 := vr0.mono le1 _ _
  replace q0 := q0.le hle1
  replace vr0 := vr0.mono le2 _ _
  replace q0 := q0.le hle2
  replace vr0 := vr0.mono le3 _ _
  replace q0 := q0.le hle3
  replace vr1 := vr1.mono le2 _ _
  replace q1 := q1.le hle2
  replace vr1 := vr1.mono le3 _ _
  replace q1 := q1.le hle3
  replace vr2 := vr2.mono le3 _ _
  replace q2 := q2.le hle3
  have hF := rr3.fresh'
  have hlt0 := VR.lt rr3.dom _ _ vr0
  have hlt1 := VR.lt rr3.dom _ _ vr1
  have hlt2 := VR.lt rr3.dom _ _ vr2
  have hlt3 := VR.lt rr3.dom _ _ vr3
  have vrl : VRL ρ3 [a0, a1, a2, a3] (#[v0, v1, v2, v3] : Array Value).toList := VRL.cons vr0 (VRL.cons vr1 (VRL.cons vr2 (VRL.cons vr3 (VRL.nil))))
  simp only [IsV, Try.underlying24] at q0
  obtain ⟨vs, rfl, q0⟩ := q0
  unfold IsD at q0
  simp only [Try.underlying24] at q0
  obtain ⟨ds, vss, rfl, l1, l2, rfl, q0⟩ := q0
  obtain ⟨e0, e1, e2, e3, rfl⟩ := list4 l1
  obtain ⟨w0, w1, w2, w3, rfl⟩ := list4 l2
  have f0 := q0 0 _ _ _ rfl rfl rfl
  have f1 := q0 1 _ _ _ rfl rfl rfl
  have f2 := q0 2 _ _ _ rfl rfl rfl
  have f3 := q0 3 _ _ _ rfl rfl rfl
  simp only [IsD, Try.underlying3] at f0 f3
  simp only [IsD, Try.underlying9] at f1
  obtain ⟨z0, rfl, wf0, rfl⟩ := f0
  obtain ⟨bs1, rfl, rfl⟩ := f1
  obtain ⟨va, sa, rfl, hsa, dla⟩ := f2.bytes Try.underlying22 Try.underlying5 (by kernel_rfl)
  obtain ⟨z3, rfl, wf3, rfl⟩ := f3
  have hla : V.lt H3.next va := by simp only [V.lt, List.flatten_cons, List.singleton_append, ltL] at hlt0; exact hlt0.2.2.1
  have ht1 : ∀ y ∈ bs1.map UInt8.toNat, y < 256 := by intro y hy; simp only [List.mem_map] at hy; obtain ⟨b, _, rfl⟩ := hy; exact b.toNat_lt
  obtain ⟨bb, rfl, rfl⟩ := IsV.bool Try.underlying4 q1
  obtain ⟨zl, rfl, wfl, rfl⟩ := IsV.int Try.underlying3 q3
  obtain ⟨s2, hs2, dl2⟩ := IsV.bytes Try.underlying22 Try.underlying5 (by kernel_rfl) q2
  have sz2 := dlen_sized hsz (j := 2) (B := 1) rfl rfl Try.underlying22 (by kernel_rfl) dl2
  refine (law_run mixed ans15 Try.func6 h6 rr3 vrl (law_MsgCodes cf15 (fun _ _ => rfl) (fun _ _ => rfl) (fun _ _ => rfl) (fun _ _ => rfl) (fun _ _ => rfl) (fun _ _ => rfl) (fun _ _ => rfl) (fun _ _ => rfl) (fun _ _ => rfl) (fun _ _ => rfl) (fun _ _ => rfl) (fun _ _ => rfl) H3 z0 z3 zl bb (bs1.map UInt8.toNat) sa s2 va a2 hF hla hlt2 hsa hs2 (by omega) ht1)).mono fun e W' ⟨he, bel⟩ => ?_
  subst he
  exact ⟨_, rfl, _, _, _, [], _, [], hW', trodAll_mk1 (shut_bool Try.underlying4 _), (trodAll_cons_mk (Below.trod laidOut (by kernel_rfl) (of_decide_eq_true (by kernel_rfl)) k0 bel lt0) (trodAll_cons_mk (Below.trod laidOut (by kernel_rfl) (of_decide_eq_true (by kernel_rfl)) k1 bel lt1) (trodAll_cons_mk (Below.trod laidOut (by kernel_rfl) (of_decide_eq_true (by kernel_rfl)) k2 bel lt2) (trodAll_cons_mk (Below.trod laidOut (by kernel_rfl) (of_decide_eq_true (by kernel_rfl)) k3 bel lt3) trodAll_mk0)))), rfl, bel.frame _, fun h => by cases h⟩
theorem over : Rows.msgCodesRow.holds Try.pinned (OpenSpec.ofChange Rows.msgCodesSpec) :=
  OpenClaim.holds_of_wide 6 Try.f6 rfl rfl rfl rfl rfl rfl rfl ⟨rfl, rfl, rfl, rfl, rfl⟩ rfl rfl rfl rfl rfl (by kernel_rfl) Try.func6 (by kernel_rfl)
    (of_decide_eq_true (by kernel_rfl)) (by unfold Func.isWrapper; first | (rw [if_pos (by decide +kernel)]; kernel_rfl) | (rw [if_neg (by decide +kernel)]; exact ⟨rfl, rfl⟩))
    (fun os started H enc _ => lifted os started H enc)
end Go.Proofs.Ytjffpeedfeiljaa.MsgCodes
namespace Go.Proofs.Ytjffpeedfeiljaa
/-- The row, under a short name, for the claim. -/
theorem msgCodes_holds : Rows.MsgCodesSaid := MsgCodes.over
#print axioms msgCodes_holds
end Go.Proofs.Ytjffpeedfeiljaa
