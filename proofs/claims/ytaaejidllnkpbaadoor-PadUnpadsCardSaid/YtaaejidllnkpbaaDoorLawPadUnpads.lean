/- The row of the law PadUnpads: whatever its arguments, the law returns true, and memory is as it was. No condition. -/
import Derived.Test.YtaaejidllnkpbaaDoorRows
import Derived.Test.YtaaejidllnkpbaaDoorFunPadUnpads
import Derived.WalkKit
import Derived.ProofKit
import Derived.OpenShut
import Derived.ShutString
import Derived.ChangeOld
import Derived.Below
import Derived.SizedLaws
import Derived.JoinedCond
import Derived.Test.YtaaejidllnkpbaaDoorTie
import Derived.Test.YtaaejidllnkpbaaDoorCards
import Derived.LaidMore
import Derived.Lay
import Derived.SevenTiedAt
import Derived.Stop.Joined
import Derived.MakeChecks
namespace Go.Proofs.YtaaejidllnkpbaaDoor.PadUnpads
open Go Go.Proofs.YtaaejidllnkpbaaDoorA
open Go.ChangeShapes Go.WideShapes Go.ChangeAt Go.RowKit
open Go.ChangeMaps (open_string shut_string)
set_option linter.unusedVariables false
set_option maxRecDepth 100000
theorem mixed : Tryd.prog.follows .mixedOrders = true := by kernel_rfl
noncomputable def cf0 : ACall := none0
theorem ans0 : Answers Tryd.prog cf0 := answers_none
noncomputable def cf1 : ACall := withSum cf0 6 s_Pick
theorem ans1 : Answers Tryd.prog cf1 := answers_Sum mixed ans0 Tryd.func6 h6 (Pick_ok cf0)
noncomputable def cf2 : ACall := withSum cf1 7 s_Few
theorem ans2 : Answers Tryd.prog cf2 := answers_Sum mixed ans1 Tryd.func7 h7 (Few_ok cf1)
noncomputable def cf3 : ACall := withSum cf2 18 s_Clone
theorem ans3 : Answers Tryd.prog cf3 := answers_Sum mixed ans2 Tryd.func18 h18 (Clone_ok cf2)
noncomputable def cf4 : ACall := withSum cf3 16 s_Sizes
theorem ans4 : Answers Tryd.prog cf4 := answers_Sum mixed ans3 Tryd.func16 h16 (Sizes_ok cf3)
noncomputable def cf5 : ACall := withSum cf4 10 s_Bucket
theorem ans5 : Answers Tryd.prog cf5 := answers_Sum mixed ans4 Tryd.func10 h10 (Bucket_ok cf4 (fun _ _ => rfl))
noncomputable def cf6 : ACall := withSum cf5 11 s_BucketR
theorem ans6 : Answers Tryd.prog cf6 := answers_Sum mixed ans5 Tryd.func11 h11 (BucketR_ok cf5)
noncomputable def cf7 : ACall := withSum cf6 9 s_PadR
theorem ans7 : Answers Tryd.prog cf7 := answers_Sum mixed ans6 Tryd.func9 h9 (PadR_ok cf6 (fun _ _ => rfl))
noncomputable def cf8 : ACall := withSum cf7 17 s_Same
theorem ans8 : Answers Tryd.prog cf8 := answers_Sum mixed ans7 Tryd.func17 h17 (Same_ok cf7)
noncomputable def cf9 : ACall := withSum cf8 13 s_Unpad
theorem ans9 : Answers Tryd.prog cf9 := answers_Sum mixed ans8 Tryd.func13 h13 (Unpad_ok cf8 (fun _ _ => rfl) (fun _ _ => rfl) (fun _ _ => rfl))
noncomputable def cf10 : ACall := withSum cf9 14 s_UnpadR
theorem ans10 : Answers Tryd.prog cf10 := answers_Sum mixed ans9 Tryd.func14 h14 (UnpadR_ok cf9 (fun _ _ => rfl))
theorem known_run : (runA tab 100000 60 12 [] (heap0 Tryd.prog.globals.size)).map (·.1) = some (.bool true) := by kernel_rfl
noncomputable def cf11 : ACall := withSum cf10 12 s_known
theorem ans11 : Answers Tryd.prog cf11 := answers_known ans10 ⟨_, Tryd.func12, by kernel_rfl, by kernel_rfl⟩ (fun W => closed_calls mixed tab_holds known_run W)
/-- What the laid variables hold. -/
def laidVals : List (Nat × List V) :=
  [(0, [V.int .i64 64, V.int .i64 256, V.int .i64 1024, V.int .i64 3968])]
theorem laid_eq : (Rows.padUnpadsRow.laid.map fun x => (Tryd.prog.globalNamed x.1, vals x.2)) = laidVals.map fun x => (some x.1, x.2) := by kernel_rfl
theorem laid_ty : (laidVals.all fun x => decide (x.1 < Tryd.prog.globals.size) && ((Tryd.prog.globals[x.1]?).map (·.type)).any (plainTy Tryd.prog 4)) = true := by kernel_rfl
theorem laid_at0 (ts : Nat → Nat) : (heapG Tryd.prog.globals.size laidVals ts).get 0 = some (.cells [V.int .i64 64, V.int .i64 256, V.int .i64 1024, V.int .i64 3968] (ts 0) 1 false) := by kernel_rfl
theorem own : ownKnob Tryd.prog.godebug = none := by kernel_rfl
theorem laidOut : laidOutB Tryd.prog = true := by kernel_rfl
theorem lifted (os : Os) (started : os.Started) (H : Type) (enc : TypeId × Value → H) :
    ReturnsInHanded {} Tryd.checked os 4 .any (fun w args => (Rows.padUnpadsSpec.pre enc Tryd.prog Tryd.f4 Rows.padUnpadsRow.domain false w args ∧ laidMetH Tryd.prog Rows.padUnpadsRow.laid w) ∧ sizedMet enc Tryd.prog Tryd.f4 (OpenSpec.ofChange Rows.padUnpadsSpec) false w args)
      (Rows.padUnpadsSpec.post enc Tryd.prog Tryd.f4 false true false false) := by
  refine returnsInHanded_of_change_and (C := Tryd.checked) (X := (fun w _ => laidMetH Tryd.prog Rows.padUnpadsRow.laid w)) (fun _ _ _ hh h => h.of_heap hh) own started (by kernel_rfl) Tryd.func4
    (ChangeSpec.witness_shaped (enc := enc) (C := Tryd.checked) (os := os) (X := (fun w _ => laidMetH Tryd.prog Rows.padUnpadsRow.laid w)) false (World.laidAll Tryd.prog os Rows.padUnpadsRow.laid) #[.slice none 0 0, .slice none 0 0, .int .i64 0, .int .u8 0, .int .i64 0] 8 (World.laidAll_os _ _ _)
      (World.shaped_of_ZipB (by kernel_rfl) (by kernel_rfl)) (by kernel_rfl) (by kernel_rfl) (by kernel_rfl)
      (by rw [MakeChecks.laidMetH_plain _ _ _ (by kernel_rfl)]; exact laidMet_laidAll _ (by kernel_rfl) (by kernel_rfl))) ?_
  intro W base args ds gs before hval0 hW hcnd hsz0 hL _
  have hsz : (DataW.weightsEach Tryd.prog (Tryd.f4.params.toList ++ Rows.padUnpadsSpec.plain.varTypes Tryd.prog) (ds ++ gs)).all (· ≤ reachBytes) = true := hsz0
  have hL' : laidMet Tryd.prog Rows.padUnpadsRow.laid W := by
    have h := hL
    rw [MakeChecks.laidMetH_plain _ _ _ (by kernel_rfl)] at h
    exact h
  have hval : ∀ (j : Nat) t v, Tryd.f4.params[j]? = some t → args[j]? = some v → Value.okWide Tryd.prog W .any base t v := hval0
  have hW' := hW
  obtain ⟨p, q, hA0, hV, rfl, hfz, hnd⟩ := hW
  have hA : DataW.TrodAll enc Tryd.prog W 0 (fun _ => true) true Tryd.f4.params.toList args.toList ds p := hA0
  rw [Tryd.params4] at hA hval hsz
  obtain ⟨v0, vs0, d0, ds0, p0, q0, hargs, rfl, rfl, h0, r0⟩ := trodAll_cons hA
  obtain ⟨v1, vs1, d1, ds1, p1, q1, rfl, rfl, rfl, h1, r1⟩ := trodAll_cons r0
  obtain ⟨v2, vs2, d2, ds2, p2, q2, rfl, rfl, rfl, h2, r2⟩ := trodAll_cons r1
  obtain ⟨v3, vs3, d3, ds3, p3, q3, rfl, rfl, rfl, h3, r3⟩ := trodAll_cons r2
  obtain ⟨v4, vs4, d4, ds4, p4, q4, rfl, rfl, rfl, h4, r4⟩ := trodAll_cons r3
  obtain ⟨rfl, rfl, rfl⟩ := trodAll_nil r4
  obtain rfl : args = #[v0, v1, v2, v3, v4] := by cases args; simp_all
  obtain ⟨rfl, rfl⟩ := trodVars_none hV
  have k0 := h0
  have lt0 : ∀ x ∈ p0, x.block < W.heap.size := by obtain ⟨m, hm⟩ := k0; exact DataW.trod_lt m _ _ _ hm
  have k1 := h1
  have lt1 : ∀ x ∈ p1, x.block < W.heap.size := by obtain ⟨m, hm⟩ := k1; exact DataW.trod_lt m _ _ _ hm
  have k2 := h2
  have lt2 : ∀ x ∈ p2, x.block < W.heap.size := by obtain ⟨m, hm⟩ := k2; exact DataW.trod_lt m _ _ _ hm
  have k3 := h3
  have lt3 : ∀ x ∈ p3, x.block < W.heap.size := by obtain ⟨m, hm⟩ := k3; exact DataW.trod_lt m _ _ _ hm
  have k4 := h4
  have lt4 : ∀ x ∈ p4, x.block < W.heap.size := by obtain ⟨m, hm⟩ := k4; exact DataW.trod_lt m _ _ _ hm
  obtain ⟨ρ0, H0, a0, le0, hle0, rr0, vr0, q0⟩ := arg_open (n := 6) (by kernel_rfl) (hval 0 22 v0 rfl rfl) h0 (relLaid hL' laid_eq laid_ty)
  obtain ⟨ρ1, H1, a1, le1, hle1, rr1, vr1, q1⟩ := arg_open (n := 6) (by kernel_rfl) (hval 1 22 v1 rfl rfl) h1 rr0
  obtain ⟨ρ2, H2, a2, le2, hle2, rr2, vr2, q2⟩ := arg_open (n := 6) (by kernel_rfl) (hval 2 3 v2 rfl rfl) h2 rr1
  obtain ⟨ρ3, H3, a3, le3, hle3, rr3, vr3, q3⟩ := arg_open (n := 6) (by kernel_rfl) (hval 3 5 v3 rfl rfl) h3 rr2
  obtain ⟨ρ4, H4, a4, le4, hle4, rr4, vr4, q4⟩ := arg_open (n := 6) (by kernel_rfl) (hval 4 3 v4 rfl rfl) h4 rr3
  replace vr0 := vr0.mono le1 _ _
  replace q0 := q0.le hle1
  replace vr0 := vr0.mono le2 _ _
  replace q0 := q0.le hle2
  replace vr0 := vr0.mono le3 _ _
  replace q0 := q0.le hle3
  replace vr0 := vr0.mono le4 _ _
  replace q0 := q0.le hle4
  replace vr1 := vr1.mono le2 _ _
  replace q1 := q1.le hle2
  replace vr1 := vr1.mono le3 _ _
  replace q1 := q1.le hle3
  replace vr1 := vr1.mono le4 _ _
  replace q1 := q1.le hle4
  replace vr2 := vr2.mono le3 _ _
  replace q2 := q2.le hle3
  replace vr2 := vr2.mono le4 _ _
  replace q2 := q2.le hle4
  replace vr3 := vr3.mono le4 _ _
  replace q3 := q3.le hle4
  have hgo : ∀ b B, (heapG Tryd.prog.globals.size laidVals (tsOf W)).get b = some B → H4.get b = some B := fun b B hb => hle4.2 _ _ (hle3.2 _ _ (hle2.2 _ _ (hle1.2 _ _ (hle0.2 _ _ (hb)))))
  have hF := rr4.fresh'
  have hlt0 := VR.lt rr4.dom _ _ vr0
  have hlt1 := VR.lt rr4.dom _ _ vr1
  have hlt2 := VR.lt rr4.dom _ _ vr2
  have hlt3 := VR.lt rr4.dom _ _ vr3
  have hlt4 := VR.lt rr4.dom _ _ vr4
  have vrl : VRL ρ4 [a0, a1, a2, a3, a4] (#[v0, v1, v2, v3, v4] : Array Value).toList := VRL.cons vr0 (VRL.cons vr1 (VRL.cons vr2 (VRL.cons vr3 (VRL.cons vr4 (VRL.nil)))))
  have hrows : hasSizes H4 := ⟨_, hgo _ _ (laid_at0 _)⟩
  obtain ⟨s0, hs0, dl0⟩ := IsV.bytes Tryd.underlying22 Tryd.underlying5 (by kernel_rfl) q0
  have sz0 := dlen_sized hsz (j := 0) (B := 1) rfl rfl Tryd.underlying22 (by kernel_rfl) dl0
  obtain ⟨s1, hs1, dl1⟩ := IsV.bytes Tryd.underlying22 Tryd.underlying5 (by kernel_rfl) q1
  have sz1 := dlen_sized hsz (j := 1) (B := 1) rfl rfl Tryd.underlying22 (by kernel_rfl) dl1
  obtain ⟨z2, rfl, wf2, rfl⟩ := IsV.int Tryd.underlying3 q2
  obtain ⟨z3, rfl, wf3, rfl⟩ := IsV.int Tryd.underlying5 q3
  obtain ⟨z4, rfl, wf4, rfl⟩ := IsV.int Tryd.underlying3 q4
  refine (law_run mixed ans11 Tryd.func4 PadUnpads.h4 rr4 vrl (law_PadUnpads cf11 (fun _ _ => rfl) (fun _ _ => rfl) (fun _ _ => rfl) (fun _ _ => rfl) (fun _ _ => rfl) (fun _ _ => rfl) H4 z2 z3 z4 s0 s1 a0 a1 hF hrows hlt0 hs0 (by omega) hlt1 hs1 (by omega) (wf_u8 wf3).1 (wf_u8 wf3).2)).mono fun e W' ⟨he, bel⟩ => ?_
  subst he
  exact ⟨_, rfl, _, _, _, [], _, [], hW', trodAll_mk1 (shut_bool Tryd.underlying4 _), (trodAll_cons_mk (Below.trod laidOut (by kernel_rfl) (of_decide_eq_true (by kernel_rfl)) k0 bel lt0) (trodAll_cons_mk (Below.trod laidOut (by kernel_rfl) (of_decide_eq_true (by kernel_rfl)) k1 bel lt1) (trodAll_cons_mk (Below.trod laidOut (by kernel_rfl) (of_decide_eq_true (by kernel_rfl)) k2 bel lt2) (trodAll_cons_mk (Below.trod laidOut (by kernel_rfl) (of_decide_eq_true (by kernel_rfl)) k3 bel lt3) (trodAll_cons_mk (Below.trod laidOut (by kernel_rfl) (of_decide_eq_true (by kernel_rfl)) k4 bel lt4) trodAll_mk0))))), rfl, bel.frame _, fun h => by cases h⟩
theorem over : Rows.padUnpadsRow.holds Tryd.pinned (OpenSpec.ofChange Rows.padUnpadsSpec) :=
  OpenClaim.holds_of_wide 4 Tryd.f4 rfl rfl rfl rfl rfl rfl rfl ⟨rfl, rfl, rfl, rfl, rfl⟩ rfl rfl rfl rfl rfl (by kernel_rfl) Tryd.func4 (by kernel_rfl)
    (of_decide_eq_true (by kernel_rfl)) (by unfold Func.isWrapper; first | (rw [if_pos (by decide +kernel)]; kernel_rfl) | (rw [if_neg (by decide +kernel)]; exact ⟨rfl, rfl⟩))
    (fun os started H enc _ => lifted os started H enc)
theorem noStand : (Tryd.f4.params.toList.all fun t => !Tryd.prog.wantsStandIn t) = true := by kernel_rfl
theorem card_over : Rows.PadUnpadsCardSaid :=
  Claim7.holds_tied_plain_at .later [] [.data] true (true, "592c739e68b0183f2c777d6cd988e00583a6931912338058734baf737380819d") false over (fun _ h => by cases h) (by kernel_rfl) (fun _ h => by cases h) padUnpads_row_tie rfl ⟨rfl, rfl⟩ (by kernel_rfl) rfl
    (fun f fn hf hfn => by
      obtain rfl : f = 4 := Option.some.inj ((show Tryd.prog.funcNamed "porthole/portholelaw15.PadUnpads" = some 4 by kernel_rfl).symm.trans hf) |>.symm
      obtain rfl : fn = Tryd.f4 := (Option.some.inj (Tryd.func4.symm.trans hfn)).symm
      refine ⟨by kernel_rfl, fun j t ht => ?_⟩
      have h := List.all_eq_true.1 noStand t (by simpa using Array.mem_of_getElem? ht)
      have h2 : Tryd.prog.wantsStandIn t = false := by simpa using h
      exact h2)
    (by kernel_rfl)
end Go.Proofs.YtaaejidllnkpbaaDoor.PadUnpads
namespace Go.Proofs.YtaaejidllnkpbaaDoor
/-- The row's card, under a short name, for the claim. -/
theorem padUnpads_card_holds : Rows.PadUnpadsCardSaid := PadUnpads.card_over
#print axioms padUnpads_card_holds
end Go.Proofs.YtaaejidllnkpbaaDoor
