/- The row of the law MsgBack: whatever its arguments, the law returns true, and memory is as it was. No condition. -/
import Derived.Test.YtjffpeedfeiljaaRows
import Derived.Test.YtjffpeedfeiljaaFunMsgBack
import Derived.WalkKit
import Derived.ProofKit
import Derived.OpenShut
import Derived.ShutString
import Derived.ChangeOld
import Derived.Below
import Derived.SizedLaws
import Derived.JoinedCond
namespace Go.Proofs.Ytjffpeedfeiljaa.MsgBack
open Go Go.Proofs.YtjffpeedfeiljaaA
open Go.ChangeShapes Go.WideShapes Go.ChangeAt Go.RowKit
open Go.ChangeMaps (open_string shut_string)
set_option linter.unusedVariables false
set_option maxRecDepth 100000
theorem mixed : Try.prog.follows .mixedOrders = true := by kernel_rfl
noncomputable def cf0 : ACall := none0
theorem ans0 : Answers Try.prog cf0 := answers_none
noncomputable def cf1 : ACall := withSum cf0 22 s_Clone
theorem ans1 : Answers Try.prog cf1 := answers_Sum mixed ans0 Try.func22 h22 (Clone_ok cf0)
noncomputable def cf2 : ACall := withSum cf1 21 s_Join
theorem ans2 : Answers Try.prog cf2 := answers_Sum mixed ans1 Try.func21 h21 (Join_ok cf1)
noncomputable def cf3 : ACall := withSum cf2 20 s_fields
theorem ans3 : Answers Try.prog cf3 := answers_Sum mixed ans2 Try.func20 h20 (fields_ok cf2)
noncomputable def cf4 : ACall := withSum cf3 11 s_Right
theorem ans4 : Answers Try.prog cf4 := answers_Sum mixed ans3 Try.func11 h11 (Right_ok cf3 (fun _ _ => rfl))
noncomputable def cf5 : ACall := withSum cf4 8 s_Encode
theorem ans5 : Answers Try.prog cf5 := answers_Sum mixed ans4 Try.func8 h8 (Encode_ok cf4 (fun _ _ => rfl) (fun _ _ => rfl) (fun _ _ => rfl))
noncomputable def cf6 : ACall := withSum cf5 13 s_Pick
theorem ans6 : Answers Try.prog cf6 := answers_Sum mixed ans5 Try.func13 h13 (Pick_ok cf5)
noncomputable def cf7 : ACall := withSum cf6 9 s_Decode
theorem ans7 : Answers Try.prog cf7 := answers_Sum mixed ans6 Try.func9 h9 (Decode_ok cf6 (fun _ _ => rfl) (fun _ _ => rfl) (fun _ _ => rfl))
noncomputable def cf8 : ACall := withSum cf7 10 s_SameMsg
theorem ans8 : Answers Try.prog cf8 := answers_Sum mixed ans7 Try.func10 h10 (SameMsg_ok cf7)
noncomputable def cf9 : ACall := withSum cf8 7 s_message
theorem ans9 : Answers Try.prog cf9 := answers_Sum mixed ans8 Try.func7 h7 (message_ok cf8 (fun _ _ => rfl))
theorem known_run : (runA tab 100000 60 12 [] (heap0 Try.prog.globals.size)).map (·.1) = some (.bool true) := by kernel_rfl
noncomputable def cf10 : ACall := withSum cf9 12 s_known
theorem ans10 : Answers Try.prog cf10 := answers_known ans9 ⟨_, Try.func12, by kernel_rfl, by kernel_rfl⟩ (fun W => closed_calls mixed tab_holds known_run W)
theorem own : ownKnob Try.prog.godebug = none := by kernel_rfl
theorem laidOut : laidOutB Try.prog = true := by kernel_rfl
theorem lifted (os : Os) (started : os.Started) (H : Type) (enc : TypeId × Value → H) :
    ReturnsInHanded {} Try.checked os 3 .any (Rows.msgBackSpec.pre6 enc Try.prog Try.f3 Rows.msgBackRow.domain false) (Rows.msgBackSpec.post enc Try.prog Try.f3 false true false false) := by
  refine returnsInHanded_of_change_sized (C := Try.checked) own started (by kernel_rfl) Try.func3
    (ChangeSpec.witness6 (enc := enc) (C := Try.checked) false ⟨#[], #[.agg #[.int .i64 0, .string ByteArray.empty, .slice none 0 0, .int .i64 0], .slice none 0 0], []⟩ 8 (by kernel_rfl) (by kernel_rfl) (by kernel_rfl) (by kernel_rfl)) ?_
  intro W base args ds gs before hval0 hW hcnd hsz0 _
  have hsz : (DataW.weightsEach Try.prog (Try.f3.params.toList ++ Rows.msgBackSpec.plain.varTypes Try.prog) (ds ++ gs)).all (· ≤ reachBytes) = true := hsz0
  have hval : ∀ (j : Nat) t v, Try.f3.params[j]? = some t → args[j]? = some v → Value.okWide Try.prog W .any base t v := hval0
  have hW' := hW
  obtain ⟨p, q, hA0, hV, rfl, hfz, hnd⟩ := hW
  have hA : DataW.TrodAll enc Try.prog W 0 (fun _ => true) true Try.f3.params.toList args.toList ds p := hA0
  rw [Try.params3] at hA hval hsz
  obtain ⟨v0, vs0, d0, ds0, p0, q0, hargs, rfl, rfl, h0, r0⟩ := trodAll_cons hA
  obtain ⟨v1, vs1, d1, ds1, p1, q1, rfl, rfl, rfl, h1, r1⟩ := trodAll_cons r0
  obtain ⟨rfl, rfl, rfl⟩ := trodAll_nil r1
  obtain rfl : args = #[v0, v1] := by cases args; simp_all
  obtain ⟨rfl, rfl⟩ := trodVars_none hV
  have k0 := h0
  have lt0 : ∀ x ∈ p0, x.block < W.heap.size := by obtain ⟨m, hm⟩ := k0; exact DataW.trod_lt m _ _ _ hm
  have k1 := h1
  have lt1 : ∀ x ∈ p1, x.block < W.heap.size := by obtain ⟨m, hm⟩ := k1; exact DataW.trod_lt m _ _ _ hm
  obtain ⟨ρ0, H0, a0, le0, hle0, rr0, vr0, q0⟩ := arg_open (n := 6) (by kernel_rfl) (hval 0 24 v0 rfl rfl) h0 (rel0 W)
  obtain ⟨ρ1, H1, a1, le1, hle1, rr1, vr1, q1⟩ := arg_open (n := 6) (by kernel_rfl) (hval 1 22 v1 rfl rfl) h1 rr0
  replace vr0 := vr0.mono le1 _ _
  replace q0 := q0.le hle1
  have hF := rr1.fresh'
  have hlt0 := VR.lt rr1.dom _ _ vr0
  have hlt1 := VR.lt rr1.dom _ _ vr1
  have vrl : VRL ρ1 [a0, a1] (#[v0, v1] : Array Value).toList := VRL.cons vr0 (VRL.cons vr1 (VRL.nil))
  simp only [IsV, Try.underlying24] at q0
  obtain ⟨vs, rfl, q0⟩ := q0
  unfold IsD at q0
  simp only [Try.underlying24] at q0
  obtain ⟨ds, vss, rfl, l1, l2, rfl, q0⟩ := q0
  obtain ⟨e0, e1, e2, e3, rfl⟩ := list4 l1
  obtain ⟨w0, w1, w2, w3, rfl⟩ := list4 l2
  have f0 := q0 0 _ _ _ rfl rfl rfl
  have f1 := q0 1 _ _ _ rfl rfl rfl
  have f2 := q0 2 _ _ _ rfl rfl rfl
  have f3 := q0 3 _ _ _ rfl rfl rfl
  simp only [IsD, Try.underlying3] at f0 f3
  simp only [IsD, Try.underlying9] at f1
  obtain ⟨z0, rfl, wf0, rfl⟩ := f0
  obtain ⟨bs1, rfl, rfl⟩ := f1
  obtain ⟨va, sa, rfl, hsa, dla⟩ := f2.bytes Try.underlying22 Try.underlying5 (by kernel_rfl)
  obtain ⟨z3, rfl, wf3, rfl⟩ := f3
  have hla : V.lt H1.next va := by simp only [V.lt, List.flatten_cons, List.singleton_append, ltL] at hlt0; exact hlt0.2.2.1
  have ht1 : ∀ y ∈ bs1.map UInt8.toNat, y < 256 := by intro y hy; simp only [List.mem_map] at hy; obtain ⟨b, _, rfl⟩ := hy; exact b.toNat_lt
  obtain ⟨s1, hs1, dl1⟩ := IsV.bytes Try.underlying22 Try.underlying5 (by kernel_rfl) q1
  have sz1 := dlen_sized hsz (j := 1) (B := 1) rfl rfl Try.underlying22 (by kernel_rfl) dl1
  refine (law_run mixed ans10 Try.func3 h3 rr1 vrl (law_MsgBack cf10 (fun _ _ => rfl) (fun _ _ => rfl) (fun _ _ => rfl) (fun _ _ => rfl) (fun _ _ => rfl) (fun _ _ => rfl) H1 z0 z3 (bs1.map UInt8.toNat) sa s1 va a1 hF hla hlt1 hsa hs1 (by omega) ht1)).mono fun e W' ⟨he, bel⟩ => ?_
  subst he
  exact ⟨_, rfl, _, _, _, [], _, [], hW', trodAll_mk1 (shut_bool Try.underlying4 _), (trodAll_cons_mk (Below.trod laidOut (by kernel_rfl) (of_decide_eq_true (by kernel_rfl)) k0 bel lt0) (trodAll_cons_mk (Below.trod laidOut (by kernel_rfl) (of_decide_eq_true (by kernel_rfl)) k1 bel lt1) trodAll_mk0)), rfl, bel.frame _, fun h => by cases h⟩
theorem over : Rows.msgBackRow.holds Try.pinned (OpenSpec.ofChange Rows.msgBackSpec) :=
  OpenClaim.holds_of_wide 3 Try.f3 rfl rfl rfl rfl rfl rfl rfl ⟨rfl, rfl, rfl, rfl, rfl⟩ rfl rfl rfl rfl rfl (by kernel_rfl) Try.func3 (by kernel_rfl)
    (of_decide_eq_true (by kernel_rfl)) (by unfold Func.isWrapper; first | (rw [if_pos (by decide +kernel)]; kernel_rfl) | (rw [if_neg (by decide +kernel)]; exact ⟨rfl, rfl⟩))
    (fun os started H enc _ => lifted os started H enc)
end Go.Proofs.Ytjffpeedfeiljaa.MsgBack
namespace Go.Proofs.Ytjffpeedfeiljaa
/-- The row, under a short name, for the claim. -/
theorem msgBack_holds : Rows.MsgBackSaid := MsgBack.over
#print axioms msgBack_holds
end Go.Proofs.Ytjffpeedfeiljaa
