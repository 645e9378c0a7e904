/- The row of the law ChachaTurns: whatever its arguments, the law returns true, and memory is as it was. No condition. -/
import Derived.Test.YtjdofdokdemnkaaRows
import Derived.Test.YtjdofdokdemnkaaFunChachaTurns
import Derived.WalkKit
import Derived.ProofKit
import Derived.OpenShut
import Derived.ShutString
import Derived.ChangeOld
import Derived.Below
import Derived.SizedLaws
import Derived.JoinedCond
namespace Go.Proofs.Ytjdofdokdemnkaa.ChachaTurns
open Go Go.Proofs.YtjdofdokdemnkaaA
open Go.ChangeShapes Go.WideShapes Go.ChangeAt Go.RowKit
open Go.ChangeMaps (open_string shut_string)
set_option linter.unusedVariables false
set_option maxRecDepth 100000
theorem mixed : Try.prog.follows .mixedOrders = true := by kernel_rfl
noncomputable def cf0 : ACall := none0
theorem ans0 : Answers Try.prog cf0 := answers_none
noncomputable def cf1 : ACall := withSum cf0 14 s_Pick
theorem ans1 : Answers Try.prog cf1 := answers_Sum mixed ans0 Try.func14 h14 (Pick_ok cf0)
noncomputable def cf2 : ACall := withSum cf1 13 s_Bytes
theorem ans2 : Answers Try.prog cf2 := answers_Sum mixed ans1 Try.func13 h13 (Bytes_ok cf1)
noncomputable def cf3 : ACall := withSum cf2 26 s_Xor
theorem ans3 : Answers Try.prog cf3 := answers_Sum mixed ans2 Try.func26 h26 (Xor_ok cf2)
noncomputable def cf4 : ACall := withSum cf3 31 s_Rot
theorem ans4 : Answers Try.prog cf4 := answers_Sum mixed ans3 Try.func31 h31 (Rot_ok cf3)
noncomputable def cf5 : ACall := withSum cf4 24 s_Quarter
theorem ans5 : Answers Try.prog cf5 := answers_Sum mixed ans4 Try.func24 h24 (Quarter_ok cf4 (fun _ _ => rfl))
noncomputable def cf6 : ACall := withSum cf5 23 s_Blk1
theorem ans6 : Answers Try.prog cf6 := answers_Sum mixed ans5 Try.func23 h23 (Blk1_ok cf5 (fun _ _ => rfl))
noncomputable def cf7 : ACall := withSum cf6 35 s_get
theorem ans7 : Answers Try.prog cf7 := answers_Sum mixed ans6 Try.func35 h35 (get_ok cf6)
noncomputable def cf8 : ACall := withSum cf7 30 s_Get32
theorem ans8 : Answers Try.prog cf8 := answers_Sum mixed ans7 Try.func30 h30 (Get32_ok cf7 (fun _ _ => rfl))
noncomputable def cf9 : ACall := withSum cf8 32 s_put
theorem ans9 : Answers Try.prog cf9 := answers_Sum mixed ans8 Try.func32 h32 (put_ok cf8)
noncomputable def cf10 : ACall := withSum cf9 25 s_Put32
theorem ans10 : Answers Try.prog cf10 := answers_Sum mixed ans9 Try.func25 h25 (Put32_ok cf9 (fun _ _ => rfl))
noncomputable def cf11 : ACall := withSum cf10 22 s_words
theorem ans11 : Answers Try.prog cf11 := answers_Sum mixed ans10 Try.func22 h22 (words_ok cf10 (fun _ _ => rfl))
noncomputable def cf12 : ACall := withSum cf11 10 s_Block
theorem ans12 : Answers Try.prog cf12 := answers_Sum mixed ans11 Try.func10 h10 (Block_ok cf11 (fun _ _ => rfl) (fun _ _ => rfl) (fun _ _ => rfl))
noncomputable def cf13 : ACall := withSum cf12 12 s_Apply
theorem ans13 : Answers Try.prog cf13 := answers_Sum mixed ans12 Try.func12 h12 (Apply_ok cf12 (fun _ _ => rfl) (fun _ _ => rfl))
noncomputable def cf14 : ACall := withSum cf13 15 s_XorR
theorem ans14 : Answers Try.prog cf14 := answers_Sum mixed ans13 Try.func15 h15 (XorR_ok cf13)
theorem known_run : (runA tab 100000 60 11 [] (heap0 Try.prog.globals.size)).map (·.1) = some (.bool true) := by kernel_rfl
noncomputable def cf15 : ACall := withSum cf14 11 s_known
theorem ans15 : Answers Try.prog cf15 := answers_known ans14 ⟨_, Try.func11, by kernel_rfl, by kernel_rfl⟩ (fun W => closed_calls mixed tab_holds known_run W)
theorem own : ownKnob Try.prog.godebug = none := by kernel_rfl
theorem laidOut : laidOutB Try.prog = true := by kernel_rfl
theorem lifted (os : Os) (started : os.Started) (H : Type) (enc : TypeId × Value → H) :
    ReturnsInHanded {} Try.checked os 5 .any (Rows.chachaTurnsSpec.pre6 enc Try.prog Try.f5 Rows.chachaTurnsRow.domain false) (Rows.chachaTurnsSpec.post enc Try.prog Try.f5 false true false false) := by
  refine returnsInHanded_of_change_sized (C := Try.checked) own started (by kernel_rfl) Try.func5
    (ChangeSpec.witness6 (enc := enc) (C := Try.checked) false ⟨#[], #[.agg #[.int .u8 0, .int .u8 0, .int .u8 0, .int .u8 0, .int .u8 0, .int .u8 0, .int .u8 0, .int .u8 0, .int .u8 0, .int .u8 0, .int .u8 0, .int .u8 0, .int .u8 0, .int .u8 0, .int .u8 0, .int .u8 0, .int .u8 0, .int .u8 0, .int .u8 0, .int .u8 0, .int .u8 0, .int .u8 0, .int .u8 0, .int .u8 0, .int .u8 0, .int .u8 0, .int .u8 0, .int .u8 0, .int .u8 0, .int .u8 0, .int .u8 0, .int .u8 0], .int .u32 0, .agg #[.int .u8 0, .int .u8 0, .int .u8 0, .int .u8 0, .int .u8 0, .int .u8 0, .int .u8 0, .int .u8 0, .int .u8 0, .int .u8 0, .int .u8 0, .int .u8 0], .int .i64 0, .int .i64 0, .int .u8 0], []⟩ 8 (by kernel_rfl) (by kernel_rfl) (by kernel_rfl) (by kernel_rfl)) ?_
  intro W base args ds gs before hval0 hW hcnd hsz0 _
  have hsz : (DataW.weightsEach Try.prog (Try.f5.params.toList ++ Rows.chachaTurnsSpec.plain.varTypes Try.prog) (ds ++ gs)).all (· ≤ reachBytes) = true := hsz0
  have hval : ∀ (j : Nat) t v, Try.f5.params[j]? = some t → args[j]? = some v → Value.okWide Try.prog W .any base t v := hval0
  have hW' := hW
  obtain ⟨p, q, hA0, hV, rfl, hfz, hnd⟩ := hW
  have hA : DataW.TrodAll enc Try.prog W 0 (fun _ => true) true Try.f5.params.toList args.toList ds p := hA0
  rw [Try.params5] at hA hval hsz
  obtain ⟨v0, vs0, d0, ds0, p0, q0, hargs, rfl, rfl, h0, r0⟩ := trodAll_cons hA
  obtain ⟨v1, vs1, d1, ds1, p1, q1, rfl, rfl, rfl, h1, r1⟩ := trodAll_cons r0
  obtain ⟨v2, vs2, d2, ds2, p2, q2, rfl, rfl, rfl, h2, r2⟩ := trodAll_cons r1
  obtain ⟨v3, vs3, d3, ds3, p3, q3, rfl, rfl, rfl, h3, r3⟩ := trodAll_cons r2
  obtain ⟨v4, vs4, d4, ds4, p4, q4, rfl, rfl, rfl, h4, r4⟩ := trodAll_cons r3
  obtain ⟨v5, vs5, d5, ds5, p5, q5, rfl, rfl, rfl, h5, r5⟩ := trodAll_cons r4
  obtain ⟨rfl, rfl, rfl⟩ := trodAll_nil r5
  obtain rfl : args = #[v0, v1, v2, v3, v4, v5] := by cases args; simp_all
  obtain ⟨rfl, rfl⟩ := trodVars_none hV
  have k0 := h0
  have lt0 : ∀ x ∈ p0, x.block < W.heap.size := by obtain ⟨m, hm⟩ := k0; exact DataW.trod_lt m _ _ _ hm
  have k1 := h1
  have lt1 : ∀ x ∈ p1, x.block < W.heap.size := by obtain ⟨m, hm⟩ := k1; exact DataW.trod_lt m _ _ _ hm
  have k2 := h2
  have lt2 : ∀ x ∈ p2, x.block < W.heap.size := by obtain ⟨m, hm⟩ := k2; exact DataW.trod_lt m _ _ _ hm
  have k3 := h3
  have lt3 : ∀ x ∈ p3, x.block < W.heap.size := by obtain ⟨m, hm⟩ := k3; exact DataW.trod_lt m _ _ _ hm
  have k4 := h4
  have lt4 : ∀ x ∈ p4, x.block < W.heap.size := by obtain ⟨m, hm⟩ := k4; exact DataW.trod_lt m _ _ _ hm
  have k5 := h5
  have lt5 : ∀ x ∈ p5, x.block < W.heap.size := by obtain ⟨m, hm⟩ := k5; exact DataW.trod_lt m _ _ _ hm
  obtain ⟨ρ0, H0, a0, le0, hle0, rr0, vr0, q0⟩ := arg_open (n := 6) (by kernel_rfl) (hval 0 22 v0 rfl rfl) h0 (rel0 W)
  obtain ⟨ρ1, H1, a1, le1, hle1, rr1, vr1, q1⟩ := arg_open (n := 6) (by kernel_rfl) (hval 1 25 v1 rfl rfl) h1 rr0
  obtain ⟨ρ2, H2, a2, le2, hle2, rr2, vr2, q2⟩ := arg_open (n := 6) (by kernel_rfl) (hval 2 26 v2 rfl rfl) h2 rr1
  obtain ⟨ρ3, H3, a3, le3, hle3, rr3, vr3, q3⟩ := arg_open (n := 6) (by kernel_rfl) (hval 3 3 v3 rfl rfl) h3 rr2
  obtain ⟨ρ4, H4, a4, le4, hle4, rr4, vr4, q4⟩ := arg_open (n := 6) (by kernel_rfl) (hval 4 3 v4 rfl rfl) h4 rr3
  obtain ⟨ρ5, H5, a5, le5, hle5, rr5, vr5, q5⟩ := arg_open (n := 6) (by kernel_rfl) (hval 5 5 v5 rfl rfl) h5 rr4
  replace vr0 := vr0.mono le1 _ _
  replace q0 := q0.le hle1
  replace vr0 := vr0.mono le2 _ _
  replace q0 := q0.le hle2
  replace vr0 := vr0.mono le3 _ _
  replace q0 := q0.le hle3
  replace vr0 := vr0.mono le4 _ _
  replace q0 := q0.le hle4
  replace vr0 := vr0.mono le5 _ _
  replace q0 := q0.le hle5
  replace vr1 := vr1.mono le2 _ _
  replace q1 := q1.le hle2
  replace vr1 := vr1.mono le3 _ _
  replace q1 := q1.le hle3
  replace vr1 := vr1.mono le4 _ _
  replace q1 := q1.le hle4
  replace vr1 := vr1.mono le5 _ _
  replace q1 := q1.le hle5
  replace vr2 := vr2.mono le3 _ _
  replace q2 := q2.le hle3
  replace vr2 := vr2.mono le4 _ _
  replace q2 := q2.le hle4
  replace vr2 := vr2.mono le5 _ _
  replace q2 := q2.le hle5
  replace vr3 := vr3.mono le4 _ _
  replace q3 := q3.le hle4
  replace vr3 := vr3.mono le5 _ _
  replace q3 := q3.le hle5
  replace vr4 := vr4.mono le5 _ _
  replace q4 := q4.le hle5
  have hF := rr5.fresh'
  have hlt0 := VR.lt rr5.dom _ _ vr0
  have hlt1 := VR.lt rr5.dom _ _ vr1
  have hlt2 := VR.lt rr5.dom _ _ vr2
  have hlt3 := VR.lt rr5.dom _ _ vr3
  have hlt4 := VR.lt rr5.dom _ _ vr4
  have hlt5 := VR.lt rr5.dom _ _ vr5
  have vrl : VRL ρ5 [a0, a1, a2, a3, a4, a5] (#[v0, v1, v2, v3, v4, v5] : Array Value).toList := VRL.cons vr0 (VRL.cons vr1 (VRL.cons vr2 (VRL.cons vr3 (VRL.cons vr4 (VRL.cons vr5 (VRL.nil))))))
  obtain ⟨s0, rfl, hk0, hl0⟩ := IsV.arrB Try.underlying22 Try.underlying5 q0
  obtain ⟨z1, rfl, wf1, rfl⟩ := IsV.int Try.underlying25 q1
  obtain ⟨s2, rfl, hk2, hl2⟩ := IsV.arrB Try.underlying26 Try.underlying5 q2
  obtain ⟨z3, rfl, wf3, rfl⟩ := IsV.int Try.underlying3 q3
  obtain ⟨z4, rfl, wf4, rfl⟩ := IsV.int Try.underlying3 q4
  obtain ⟨z5, rfl, wf5, rfl⟩ := IsV.int Try.underlying5 q5
  obtain ⟨y5, rfl⟩ : ∃ y : Nat, z5 = (y : Int) := ⟨z5.toNat, by have := (wf_u8 wf5).1; omega⟩
  refine (law_run mixed ans15 Try.func5 ChachaTurns.h5 rr5 vrl (law_ChachaTurns cf15 (fun _ _ => rfl) (fun _ _ => rfl) (fun _ _ => rfl) (fun _ _ => rfl) (fun _ _ => rfl) H5 s0 s2 z1 z3 z4 y5 hF hk0 hl0 hk2 hl2 (wf_u32 wf1).1 (wf_u32 wf1).2 (by have := (wf_u8 wf5).2; omega))).mono fun e W' ⟨he, bel⟩ => ?_
  subst he
  exact ⟨_, rfl, _, _, _, [], _, [], hW', trodAll_mk1 (shut_bool Try.underlying4 _), (trodAll_cons_mk (Below.trod laidOut (by kernel_rfl) (of_decide_eq_true (by kernel_rfl)) k0 bel lt0) (trodAll_cons_mk (Below.trod laidOut (by kernel_rfl) (of_decide_eq_true (by kernel_rfl)) k1 bel lt1) (trodAll_cons_mk (Below.trod laidOut (by kernel_rfl) (of_decide_eq_true (by kernel_rfl)) k2 bel lt2) (trodAll_cons_mk (Below.trod laidOut (by kernel_rfl) (of_decide_eq_true (by kernel_rfl)) k3 bel lt3) (trodAll_cons_mk (Below.trod laidOut (by kernel_rfl) (of_decide_eq_true (by kernel_rfl)) k4 bel lt4) (trodAll_cons_mk (Below.trod laidOut (by kernel_rfl) (of_decide_eq_true (by kernel_rfl)) k5 bel lt5) trodAll_mk0)))))), rfl, bel.frame _, fun h => by cases h⟩
theorem over : Rows.chachaTurnsRow.holds Try.pinned (OpenSpec.ofChange Rows.chachaTurnsSpec) :=
  OpenClaim.holds_of_wide 5 Try.f5 rfl rfl rfl rfl rfl rfl rfl ⟨rfl, rfl, rfl, rfl, rfl⟩ rfl rfl rfl rfl rfl (by kernel_rfl) Try.func5 (by kernel_rfl)
    (of_decide_eq_true (by kernel_rfl)) (by unfold Func.isWrapper; first | (rw [if_pos (by decide +kernel)]; kernel_rfl) | (rw [if_neg (by decide +kernel)]; exact ⟨rfl, rfl⟩))
    (fun os started H enc _ => lifted os started H enc)
end Go.Proofs.Ytjdofdokdemnkaa.ChachaTurns
namespace Go.Proofs.Ytjdofdokdemnkaa
/-- The row, under a short name, for the claim. -/
theorem chachaTurns_holds : Rows.ChachaTurnsSaid := ChachaTurns.over
#print axioms chachaTurns_holds
end Go.Proofs.Ytjdofdokdemnkaa
