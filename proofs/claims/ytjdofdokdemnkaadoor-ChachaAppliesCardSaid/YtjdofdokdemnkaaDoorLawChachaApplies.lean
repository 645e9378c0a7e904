/- The row of the law ChachaApplies: whatever its arguments, the law returns true, and memory is as it was. No condition. -/
import Derived.Test.YtjdofdokdemnkaaDoorRows
import Derived.Test.YtjdofdokdemnkaaDoorFunChachaApplies
import Derived.WalkKit
import Derived.ProofKit
import Derived.OpenShut
import Derived.ShutString
import Derived.ChangeOld
import Derived.Below
import Derived.SizedLaws
import Derived.JoinedCond
import Derived.Test.YtjdofdokdemnkaaDoorTie
import Derived.Test.YtjdofdokdemnkaaDoorCards
import Derived.LaidMore
import Derived.Lay
import Derived.SevenTiedAt
import Derived.Stop.Joined
import Derived.MakeChecks
namespace Go.Proofs.YtjdofdokdemnkaaDoor.ChachaApplies
open Go Go.Proofs.YtjdofdokdemnkaaDoorA
open Go.ChangeShapes Go.WideShapes Go.ChangeAt Go.RowKit
open Go.ChangeMaps (open_string shut_string)
set_option linter.unusedVariables false
set_option maxRecDepth 100000
theorem mixed : Tryd.prog.follows .mixedOrders = true := by kernel_rfl
noncomputable def cf0 : ACall := none0
theorem ans0 : Answers Tryd.prog cf0 := answers_none
noncomputable def cf1 : ACall := withSum cf0 12 s_Pick
theorem ans1 : Answers Tryd.prog cf1 := answers_Sum mixed ans0 Tryd.func12 h12 (Pick_ok cf0)
noncomputable def cf2 : ACall := withSum cf1 11 s_Bytes
theorem ans2 : Answers Tryd.prog cf2 := answers_Sum mixed ans1 Tryd.func11 h11 (Bytes_ok cf1)
noncomputable def cf3 : ACall := withSum cf2 13 s_Few
theorem ans3 : Answers Tryd.prog cf3 := answers_Sum mixed ans2 Tryd.func13 h13 (Few_ok cf2)
noncomputable def cf4 : ACall := withSum cf3 26 s_Xor
theorem ans4 : Answers Tryd.prog cf4 := answers_Sum mixed ans3 Tryd.func26 h26 (Xor_ok cf3)
noncomputable def cf5 : ACall := withSum cf4 19 s_Rot
theorem ans5 : Answers Tryd.prog cf5 := answers_Sum mixed ans4 Tryd.func19 h19 (Rot_ok cf4)
noncomputable def cf6 : ACall := withSum cf5 6 s_Quarter
theorem ans6 : Answers Tryd.prog cf6 := answers_Sum mixed ans5 Tryd.func6 h6 (Quarter_ok cf5 (fun _ _ => rfl))
noncomputable def cf7 : ACall := withSum cf6 22 s_Blk1
theorem ans7 : Answers Tryd.prog cf7 := answers_Sum mixed ans6 Tryd.func22 h22 (Blk1_ok cf6 (fun _ _ => rfl))
noncomputable def cf8 : ACall := withSum cf7 37 s_get
theorem ans8 : Answers Tryd.prog cf8 := answers_Sum mixed ans7 Tryd.func37 h37 (get_ok cf7)
noncomputable def cf9 : ACall := withSum cf8 32 s_Get32
theorem ans9 : Answers Tryd.prog cf9 := answers_Sum mixed ans8 Tryd.func32 h32 (Get32_ok cf8 (fun _ _ => rfl))
noncomputable def cf10 : ACall := withSum cf9 33 s_put
theorem ans10 : Answers Tryd.prog cf10 := answers_Sum mixed ans9 Tryd.func33 h33 (put_ok cf9)
noncomputable def cf11 : ACall := withSum cf10 23 s_Put32
theorem ans11 : Answers Tryd.prog cf11 := answers_Sum mixed ans10 Tryd.func23 h23 (Put32_ok cf10 (fun _ _ => rfl))
noncomputable def cf12 : ACall := withSum cf11 21 s_words
theorem ans12 : Answers Tryd.prog cf12 := answers_Sum mixed ans11 Tryd.func21 h21 (words_ok cf11 (fun _ _ => rfl))
noncomputable def cf13 : ACall := withSum cf12 9 s_Block
theorem ans13 : Answers Tryd.prog cf13 := answers_Sum mixed ans12 Tryd.func9 h9 (Block_ok cf12 (fun _ _ => rfl) (fun _ _ => rfl) (fun _ _ => rfl))
noncomputable def cf14 : ACall := withSum cf13 14 s_Apply
theorem ans14 : Answers Tryd.prog cf14 := answers_Sum mixed ans13 Tryd.func14 h14 (Apply_ok cf13 (fun _ _ => rfl) (fun _ _ => rfl))
noncomputable def cf15 : ACall := withSum cf14 20 s_Turn
theorem ans15 : Answers Tryd.prog cf15 := answers_Sum mixed ans14 Tryd.func20 h20 (Turn_ok cf14)
noncomputable def cf16 : ACall := withSum cf15 7 s_Quarter
theorem ans16 : Answers Tryd.prog cf16 := answers_Sum mixed ans15 Tryd.func7 h7 (QuarterR_ok cf15 (fun _ _ => rfl))
noncomputable def cf17 : ACall := withSum cf16 24 s_Get32R
theorem ans17 : Answers Tryd.prog cf17 := answers_Sum mixed ans16 Tryd.func24 h24 (Get32R_ok cf16)
noncomputable def cf18 : ACall := withSum cf17 25 s_Put32
theorem ans18 : Answers Tryd.prog cf18 := answers_Sum mixed ans17 Tryd.func25 h25 (Put32R_ok cf17)
noncomputable def cf19 : ACall := withSum cf18 10 s_BlockR
theorem ans19 : Answers Tryd.prog cf19 := answers_Sum mixed ans18 Tryd.func10 h10 (BlockR_ok cf18 (fun _ _ => rfl) (fun _ _ => rfl) (fun _ _ => rfl))
noncomputable def cf20 : ACall := withSum cf19 27 s_XorR
theorem ans20 : Answers Tryd.prog cf20 := answers_Sum mixed ans19 Tryd.func27 h27 (XorR_ok cf19)
noncomputable def cf21 : ACall := withSum cf20 15 s_ApplyR
theorem ans21 : Answers Tryd.prog cf21 := answers_Sum mixed ans20 Tryd.func15 h15 (ApplyR_ok cf20 (fun _ _ => rfl) (fun _ _ => rfl))
theorem known_run : (runA tab 100000 60 8 [] (heap0 Tryd.prog.globals.size)).map (·.1) = some (.bool true) := by kernel_rfl
noncomputable def cf22 : ACall := withSum cf21 8 s_known
theorem ans22 : Answers Tryd.prog cf22 := answers_known ans21 ⟨_, Tryd.func8, by kernel_rfl, by kernel_rfl⟩ (fun W => closed_calls mixed tab_holds known_run W)
/-- What the laid variables hold. -/
def laidVals : List (Nat × List V) :=
  [(0, [V.int .i64 0, V.int .i64 4, V.int .i64 8, V.int .i64 12, V.int .i64 1, V.int .i64 5, V.int .i64 9, V.int .i64 13, V.int .i64 2, V.int .i64 6, V.int .i64 10,
    V.int .i64 14, V.int .i64 3, V.int .i64 7, V.int .i64 11, V.int .i64 15, V.int .i64 0, V.int .i64 5, V.int .i64 10, V.int .i64 15, V.int .i64 1, V.int .i64 6,
    V.int .i64 11, V.int .i64 12, V.int .i64 2, V.int .i64 7, V.int .i64 8, V.int .i64 13, V.int .i64 3, V.int .i64 4, V.int .i64 9, V.int .i64 14])]
theorem laid_eq : (Rows.chachaAppliesRow.laid.map fun x => (Tryd.prog.globalNamed x.1, vals x.2)) = laidVals.map fun x => (some x.1, x.2) := by kernel_rfl
theorem laid_ty : (laidVals.all fun x => decide (x.1 < Tryd.prog.globals.size) && ((Tryd.prog.globals[x.1]?).map (·.type)).any (plainTy Tryd.prog 4)) = true := by kernel_rfl
theorem laid_at0 (ts : Nat → Nat) : (heapG Tryd.prog.globals.size laidVals ts).get 0 = some (.cells [V.int .i64 0, V.int .i64 4, V.int .i64 8, V.int .i64 12, V.int .i64 1, V.int .i64 5, V.int .i64 9, V.int .i64 13, V.int .i64 2, V.int .i64 6, V.int .i64 10, V.int .i64 14, V.int .i64 3, V.int .i64 7, V.int .i64 11, V.int .i64 15, V.int .i64 0, V.int .i64 5, V.int .i64 10, V.int .i64 15, V.int .i64 1, V.int .i64 6, V.int .i64 11, V.int .i64 12, V.int .i64 2, V.int .i64 7, V.int .i64 8, V.int .i64 13, V.int .i64 3, V.int .i64 4, V.int .i64 9, V.int .i64 14] (ts 0) 1 false) := by kernel_rfl
theorem own : ownKnob Tryd.prog.godebug = none := by kernel_rfl
theorem laidOut : laidOutB Tryd.prog = true := by kernel_rfl
theorem lifted (os : Os) (started : os.Started) (H : Type) (enc : TypeId × Value → H) :
    ReturnsInHanded {} Tryd.checked os 4 .any (fun w args => (Rows.chachaAppliesSpec.pre enc Tryd.prog Tryd.f4 Rows.chachaAppliesRow.domain false w args ∧ laidMetH Tryd.prog Rows.chachaAppliesRow.laid w) ∧ sizedMet enc Tryd.prog Tryd.f4 (OpenSpec.ofChange Rows.chachaAppliesSpec) false w args)
      (Rows.chachaAppliesSpec.post enc Tryd.prog Tryd.f4 false true false false) := by
  refine returnsInHanded_of_change_and (C := Tryd.checked) (X := (fun w _ => laidMetH Tryd.prog Rows.chachaAppliesRow.laid w)) (fun _ _ _ hh h => h.of_heap hh) own started (by kernel_rfl) Tryd.func4
    (ChangeSpec.witness_shaped (enc := enc) (C := Tryd.checked) (os := os) (X := (fun w _ => laidMetH Tryd.prog Rows.chachaAppliesRow.laid w)) false (World.laidAll Tryd.prog os Rows.chachaAppliesRow.laid) #[.agg #[.int .u8 0, .int .u8 0, .int .u8 0, .int .u8 0, .int .u8 0, .int .u8 0, .int .u8 0, .int .u8 0, .int .u8 0, .int .u8 0, .int .u8 0, .int .u8 0, .int .u8 0, .int .u8 0, .int .u8 0, .int .u8 0, .int .u8 0, .int .u8 0, .int .u8 0, .int .u8 0, .int .u8 0, .int .u8 0, .int .u8 0, .int .u8 0, .int .u8 0, .int .u8 0, .int .u8 0, .int .u8 0, .int .u8 0, .int .u8 0, .int .u8 0, .int .u8 0], .int .u32 0, .agg #[.int .u8 0, .int .u8 0, .int .u8 0, .int .u8 0, .int .u8 0, .int .u8 0, .int .u8 0, .int .u8 0, .int .u8 0, .int .u8 0, .int .u8 0, .int .u8 0], .slice none 0 0, .int .i64 0, .bool false] 8 (World.laidAll_os _ _ _)
      (World.shaped_of_ZipB (by kernel_rfl) (by kernel_rfl)) (by kernel_rfl) (by kernel_rfl) (by kernel_rfl)
      (by rw [MakeChecks.laidMetH_plain _ _ _ (by kernel_rfl)]; exact laidMet_laidAll _ (by kernel_rfl) (by kernel_rfl))) ?_
  intro W base args ds gs before hval0 hW hcnd hsz0 hL _
  have hsz : (DataW.weightsEach Tryd.prog (Tryd.f4.params.toList ++ Rows.chachaAppliesSpec.plain.varTypes Tryd.prog) (ds ++ gs)).all (· ≤ reachBytes) = true := hsz0
  have hL' : laidMet Tryd.prog Rows.chachaAppliesRow.laid W := by
    have h := hL
    rw [MakeChecks.laidMetH_plain _ _ _ (by kernel_rfl)] at h
    exact h
  have hval : ∀ (j : Nat) t v, Tryd.f4.params[j]? = some t → args[j]? = some v → Value.okWide Tryd.prog W .any base t v := hval0
  have hW' := hW
  obtain ⟨p, q, hA0, hV, rfl, hfz, hnd⟩ := hW
  have hA : DataW.TrodAll enc Tryd.prog W 0 (fun _ => true) true Tryd.f4.params.toList args.toList ds p := hA0
  rw [Tryd.params4] at hA hval hsz
  obtain ⟨v0, vs0, d0, ds0, p0, q0, hargs, rfl, rfl, h0, r0⟩ := trodAll_cons hA
  obtain ⟨v1, vs1, d1, ds1, p1, q1, rfl, rfl, rfl, h1, r1⟩ := trodAll_cons r0
  obtain ⟨v2, vs2, d2, ds2, p2, q2, rfl, rfl, rfl, h2, r2⟩ := trodAll_cons r1
  obtain ⟨v3, vs3, d3, ds3, p3, q3, rfl, rfl, rfl, h3, r3⟩ := trodAll_cons r2
  obtain ⟨v4, vs4, d4, ds4, p4, q4, rfl, rfl, rfl, h4, r4⟩ := trodAll_cons r3
  obtain ⟨v5, vs5, d5, ds5, p5, q5, rfl, rfl, rfl, h5, r5⟩ := trodAll_cons r4
  obtain ⟨rfl, rfl, rfl⟩ := trodAll_nil r5
  obtain rfl : args = #[v0, v1, v2, v3, v4, v5] := by cases args; simp_all
  obtain ⟨rfl, rfl⟩ := trodVars_none hV
  have k0 := h0
  have lt0 : ∀ x ∈ p0, x.block < W.heap.size := by obtain ⟨m, hm⟩ := k0; exact DataW.trod_lt m _ _ _ hm
  have k1 := h1
  have lt1 : ∀ x ∈ p1, x.block < W.heap.size := by obtain ⟨m, hm⟩ := k1; exact DataW.trod_lt m _ _ _ hm
  have k2 := h2
  have lt2 : ∀ x ∈ p2, x.block < W.heap.size := by obtain ⟨m, hm⟩ := k2; exact DataW.trod_lt m _ _ _ hm
  have k3 := h3
  have lt3 : ∀ x ∈ p3, x.block < W.heap.size := by obtain ⟨m, hm⟩ := k3; exact DataW.trod_lt m _ _ _ hm
  have k4 := h4
  have lt4 : ∀ x ∈ p4, x.block < W.heap.size := by obtain ⟨m, hm⟩ := k4; exact DataW.trod_lt m _ _ _ hm
  have k5 := h5
  have lt5 : ∀ x ∈ p5, x.block < W.heap.size := by obtain ⟨m, hm⟩ := k5; exact DataW.trod_lt m _ _ _ hm
  obtain ⟨ρ0, H0, a0, le0, hle0, rr0, vr0, q0⟩ := arg_open (n := 6) (by kernel_rfl) (hval 0 22 v0 rfl rfl) h0 (relLaid hL' laid_eq laid_ty)
  obtain ⟨ρ1, H1, a1, le1, hle1, rr1, vr1, q1⟩ := arg_open (n := 6) (by kernel_rfl) (hval 1 23 v1 rfl rfl) h1 rr0
  obtain ⟨ρ2, H2, a2, le2, hle2, rr2, vr2, q2⟩ := arg_open (n := 6) (by kernel_rfl) (hval 2 24 v2 rfl rfl) h2 rr1
  obtain ⟨ρ3, H3, a3, le3, hle3, rr3, vr3, q3⟩ := arg_open (n := 6) (by kernel_rfl) (hval 3 31 v3 rfl rfl) h3 rr2
  obtain ⟨ρ4, H4, a4, le4, hle4, rr4, vr4, q4⟩ := arg_open (n := 6) (by kernel_rfl) (hval 4 3 v4 rfl rfl) h4 rr3
  obtain ⟨ρ5, H5, a5, le5, hle5, rr5, vr5, q5⟩ := arg_open (n := 6) (by kernel_rfl) (hval 5 4 v5 rfl rfl) h5 rr4
  replace vr0 := vr0.mono le1 _ _
  replace q0 := q0.le hle1
  replace vr0 := vr0.mono le2 _ _
  replace q0 := q0.le hle2
  replace vr0 := vr0.mono le3 _ _
  replace q0 := q0.le hle3
  replace vr0 := vr0.mono le4 _ _
  replace q0 := q0.le hle4
  replace vr0 := vr0.mono le5 _ _
  replace q0 := q0.le hle5
  replace vr1 := vr1.mono le2 _ _
  replace q1 := q1.le hle2
  replace vr1 := vr1.mono le3 _ _
  replace q1 := q1.le hle3
  replace vr1 := vr1.mono le4 _ _
  replace q1 := q1.le hle4
  replace vr1 := vr1.mono le5 _ _
  replace q1 := q1.le hle5
  replace vr2 := vr2.mono le3 _ _
  replace q2 := q2.le hle3
  replace vr2 := vr2.mono le4 _ _
  replace q2 := q2.le hle4
  replace vr2 := vr2.mono le5 _ _
  replace q2 := q2.le hle5
  replace vr3 := vr3.mono le4 _ _
  replace q3 := q3.le hle4
  replace vr3 := vr3.mono le5 _ _
  replace q3 := q3.le hle5
  replace vr4 := vr4.mono le5 _ _
  replace q4 := q4.le hle5
  have hgo : ∀ b B, (heapG Tryd.prog.globals.size laidVals (tsOf W)).get b = some B → H5.get b = some B := fun b B hb => hle5.2 _ _ (hle4.2 _ _ (hle3.2 _ _ (hle2.2 _ _ (hle1.2 _ _ (hle0.2 _ _ (hb))))))
  have hF := rr5.fresh'
  have hlt0 := VR.lt rr5.dom _ _ vr0
  have hlt1 := VR.lt rr5.dom _ _ vr1
  have hlt2 := VR.lt rr5.dom _ _ vr2
  have hlt3 := VR.lt rr5.dom _ _ vr3
  have hlt4 := VR.lt rr5.dom _ _ vr4
  have hlt5 := VR.lt rr5.dom _ _ vr5
  have vrl : VRL ρ5 [a0, a1, a2, a3, a4, a5] (#[v0, v1, v2, v3, v4, v5] : Array Value).toList := VRL.cons vr0 (VRL.cons vr1 (VRL.cons vr2 (VRL.cons vr3 (VRL.cons vr4 (VRL.cons vr5 (VRL.nil))))))
  have hrows : hasRows H5 := ⟨_, hgo _ _ (laid_at0 _)⟩
  obtain ⟨s0, rfl, hk0, hl0⟩ := IsV.arrB Tryd.underlying22 Tryd.underlying5 q0
  obtain ⟨z1, rfl, wf1, rfl⟩ := IsV.int Tryd.underlying23 q1
  obtain ⟨s2, rfl, hk2, hl2⟩ := IsV.arrB Tryd.underlying24 Tryd.underlying5 q2
  obtain ⟨s3, hs3, dl3⟩ := IsV.bytes Tryd.underlying31 Tryd.underlying5 (by kernel_rfl) q3
  have sz3 := dlen_sized hsz (j := 3) (B := 1) rfl rfl Tryd.underlying31 (by kernel_rfl) dl3
  obtain ⟨z4, rfl, wf4, rfl⟩ := IsV.int Tryd.underlying3 q4
  obtain ⟨b5, rfl, rfl⟩ := IsV.bool Tryd.underlying4 q5
  refine (law_run mixed ans22 Tryd.func4 ChachaApplies.h4 rr5 vrl (law_ChachaApplies cf22 (fun _ _ => rfl) (fun _ _ => rfl) (fun _ _ => rfl) (fun _ _ => rfl) (fun _ _ => rfl) (fun _ _ => rfl) H5 s0 s2 s3 a3 z1 z4 b5 hF hrows hk0 hl0 hk2 hl2 hlt3 hs3 (by omega))).mono fun e W' ⟨he, bel⟩ => ?_
  subst he
  exact ⟨_, rfl, _, _, _, [], _, [], hW', trodAll_mk1 (shut_bool Tryd.underlying4 _), (trodAll_cons_mk (Below.trod laidOut (by kernel_rfl) (of_decide_eq_true (by kernel_rfl)) k0 bel lt0) (trodAll_cons_mk (Below.trod laidOut (by kernel_rfl) (of_decide_eq_true (by kernel_rfl)) k1 bel lt1) (trodAll_cons_mk (Below.trod laidOut (by kernel_rfl) (of_decide_eq_true (by kernel_rfl)) k2 bel lt2) (trodAll_cons_mk (Below.trod laidOut (by kernel_rfl) (of_decide_eq_true (by kernel_rfl)) k3 bel lt3) (trodAll_cons_mk (Below.trod laidOut (by kernel_rfl) (of_decide_eq_true (by kernel_rfl)) k4 bel lt4) (trodAll_cons_mk (Below.trod laidOut (by kernel_rfl) (of_decide_eq_true (by kernel_rfl)) k5 bel lt5) trodAll_mk0)))))), rfl, bel.frame _, fun h => by cases h⟩
theorem over : Rows.chachaAppliesRow.holds Tryd.pinned (OpenSpec.ofChange Rows.chachaAppliesSpec) :=
  OpenClaim.holds_of_wide 4 Tryd.f4 rfl rfl rfl rfl rfl rfl rfl ⟨rfl, rfl, rfl, rfl, rfl⟩ rfl rfl rfl rfl rfl (by kernel_rfl) Tryd.func4 (by kernel_rfl)
    (of_decide_eq_true (by kernel_rfl)) (by unfold Func.isWrapper; first | (rw [if_pos (by decide +kernel)]; kernel_rfl) | (rw [if_neg (by decide +kernel)]; exact ⟨rfl, rfl⟩))
    (fun os started H enc _ => lifted os started H enc)
theorem noStand : (Tryd.f4.params.toList.all fun t => !Tryd.prog.wantsStandIn t) = true := by kernel_rfl
theorem card_over : Rows.ChachaAppliesCardSaid :=
  Claim7.holds_tied_plain_at .later [] [.data] true (true, "3404ca433027ec62c7ced7bb017bac44c5f299d3167d9848773d51b44e53440d") false over (fun _ h => by cases h) (by kernel_rfl) (fun _ h => by cases h) chachaApplies_row_tie rfl ⟨rfl, rfl⟩ (by kernel_rfl) rfl
    (fun f fn hf hfn => by
      obtain rfl : f = 4 := Option.some.inj ((show Tryd.prog.funcNamed "porthole/portholelaw4.ChachaApplies" = some 4 by kernel_rfl).symm.trans hf) |>.symm
      obtain rfl : fn = Tryd.f4 := (Option.some.inj (Tryd.func4.symm.trans hfn)).symm
      refine ⟨by kernel_rfl, fun j t ht => ?_⟩
      have h := List.all_eq_true.1 noStand t (by simpa using Array.mem_of_getElem? ht)
      have h2 : Tryd.prog.wantsStandIn t = false := by simpa using h
      exact h2)
    (by kernel_rfl)
end Go.Proofs.YtjdofdokdemnkaaDoor.ChachaApplies
namespace Go.Proofs.YtjdofdokdemnkaaDoor
/-- The row's card, under a short name, for the claim. -/
theorem chachaApplies_card_holds : Rows.ChachaAppliesCardSaid := ChachaApplies.card_over
#print axioms chachaApplies_card_holds
end Go.Proofs.YtjdofdokdemnkaaDoor
