/- The row of the law KdfChains: whatever its arguments, the law returns true, and memory is as it was. No condition. -/
import Derived.Test.YtobnkgajgodioaaDoorRows
import Derived.Test.YtobnkgajgodioaaDoorFunKdfChains
import Derived.WalkKit
import Derived.ProofKit
import Derived.OpenShut
import Derived.ShutString
import Derived.ChangeOld
import Derived.Below
import Derived.SizedLaws
import Derived.JoinedCond
import Derived.Test.YtobnkgajgodioaaDoorTie
import Derived.Test.YtobnkgajgodioaaDoorCards
import Derived.LaidMore
import Derived.Lay
import Derived.SevenTiedAt
import Derived.Stop.Joined
import Derived.MakeChecks
namespace Go.Proofs.YtobnkgajgodioaaDoor.KdfChains
open Go Go.Proofs.YtobnkgajgodioaaDoorA
open Go.ChangeShapes Go.WideShapes Go.ChangeAt Go.RowKit
open Go.ChangeMaps (open_string shut_string)
set_option linter.unusedVariables false
set_option maxRecDepth 100000
theorem mixed : Tryd.prog.follows .mixedOrders = true := by kernel_rfl
noncomputable def cf0 : ACall := none0
theorem ans0 : Answers Tryd.prog cf0 := answers_none
noncomputable def cf1 : ACall := withSum cf0 34 s_get
theorem ans1 : Answers Tryd.prog cf1 := answers_Sum mixed ans0 Tryd.func34 h34 (get_ok cf0)
noncomputable def cf2 : ACall := withSum cf1 29 s_Get32
theorem ans2 : Answers Tryd.prog cf2 := answers_Sum mixed ans1 Tryd.func29 h29 (Get32_ok cf1 (fun _ _ => rfl))
noncomputable def cf3 : ACall := withSum cf2 16 s_Join
theorem ans3 : Answers Tryd.prog cf3 := answers_Sum mixed ans2 Tryd.func16 h16 (Join_ok cf2)
noncomputable def cf4 : ACall := withSum cf3 31 s_RotN
theorem ans4 : Answers Tryd.prog cf4 := answers_Sum mixed ans3 Tryd.func31 h31 (RotN_ok cf3)
noncomputable def cf5 : ACall := withSum cf4 25 s_first
theorem ans5 : Answers Tryd.prog cf5 := answers_Sum mixed ans4 Tryd.func25 h25 (first_ok cf4)
noncomputable def cf6 : ACall := withSum cf5 32 s_sigma
theorem ans6 : Answers Tryd.prog cf6 := answers_Sum mixed ans5 Tryd.func32 h32 (sigma_ok cf5)
noncomputable def cf7 : ACall := withSum cf6 30 s_mix
theorem ans7 : Answers Tryd.prog cf7 := answers_Sum mixed ans6 Tryd.func30 h30 (mix_ok cf6 (fun _ _ => rfl))
noncomputable def cf8 : ACall := withSum cf7 26 s_press
theorem ans8 : Answers Tryd.prog cf8 := answers_Sum mixed ans7 Tryd.func26 h26 (press_ok cf7 (fun _ _ => rfl) (fun _ _ => rfl) (fun _ _ => rfl) (fun _ _ => rfl))
noncomputable def cf9 : ACall := withSum cf8 19 s_New
theorem ans9 : Answers Tryd.prog cf9 := answers_Sum mixed ans8 Tryd.func19 h19 (New_ok cf8 (fun _ _ => rfl))
noncomputable def cf10 : ACall := withSum cf9 20 s_Write
theorem ans10 : Answers Tryd.prog cf10 := answers_Sum mixed ans9 Tryd.func20 h20 (Write_ok cf9 (fun _ _ => rfl) (fun _ _ => rfl))
noncomputable def cf11 : ACall := withSum cf10 33 s_put
theorem ans11 : Answers Tryd.prog cf11 := answers_Sum mixed ans10 Tryd.func33 h33 (put_ok cf10)
noncomputable def cf12 : ACall := withSum cf11 27 s_Put32
theorem ans12 : Answers Tryd.prog cf12 := answers_Sum mixed ans11 Tryd.func27 h27 (Put32_ok cf11 (fun _ _ => rfl))
noncomputable def cf13 : ACall := withSum cf12 21 s_HSum
theorem ans13 : Answers Tryd.prog cf13 := answers_Sum mixed ans12 Tryd.func21 h21 (HSum_ok cf12 (fun _ _ => rfl) (fun _ _ => rfl))
noncomputable def cf14 : ACall := withSum cf13 17 s_SumB
theorem ans14 : Answers Tryd.prog cf14 := answers_Sum mixed ans13 Tryd.func17 h17 (SumB_ok cf13 (fun _ _ => rfl) (fun _ _ => rfl) (fun _ _ => rfl))
noncomputable def cf15 : ACall := withSum cf14 22 s_Get32R
theorem ans15 : Answers Tryd.prog cf15 := answers_Sum mixed ans14 Tryd.func22 h22 (Get32R_ok cf14)
noncomputable def cf16 : ACall := withSum cf15 24 s_Put32
theorem ans16 : Answers Tryd.prog cf16 := answers_Sum mixed ans15 Tryd.func24 h24 (Put32R_ok cf15)
noncomputable def cf17 : ACall := withSum cf16 28 s_TurnB
theorem ans17 : Answers Tryd.prog cf17 := answers_Sum mixed ans16 Tryd.func28 h28 (TurnB_ok cf16)
noncomputable def cf18 : ACall := withSum cf17 23 s_mixR
theorem ans18 : Answers Tryd.prog cf18 := answers_Sum mixed ans17 Tryd.func23 h23 (mixR_ok cf17 (fun _ _ => rfl))
noncomputable def cf19 : ACall := withSum cf18 18 s_SumR
theorem ans19 : Answers Tryd.prog cf19 := answers_Sum mixed ans18 Tryd.func18 h18 (SumR_ok cf18 (fun _ _ => rfl) (fun _ _ => rfl) (fun _ _ => rfl))
noncomputable def cf20 : ACall := withSum cf19 9 s_Hmac
theorem ans20 : Answers Tryd.prog cf20 := answers_Sum mixed ans19 Tryd.func9 h9 (Hmac_ok cf19 (fun _ _ => rfl))
noncomputable def cf21 : ACall := withSum cf20 13 s_HmacR
theorem ans21 : Answers Tryd.prog cf21 := answers_Sum mixed ans20 Tryd.func13 h13 (HmacR_ok cf20 (fun _ _ => rfl))
noncomputable def cf22 : ACall := withSum cf21 8 s_Derive
theorem ans22 : Answers Tryd.prog cf22 := answers_Sum mixed ans21 Tryd.func8 h8 (Derive_ok cf21 (fun _ _ => rfl) (fun _ _ => rfl))
noncomputable def cf23 : ACall := withSum cf22 14 s_DeriveR
theorem ans23 : Answers Tryd.prog cf23 := answers_Sum mixed ans22 Tryd.func14 h14 (DeriveR_ok cf22 (fun _ _ => rfl))
noncomputable def cf24 : ACall := withSum cf23 15 s_Secret
theorem ans24 : Answers Tryd.prog cf24 := answers_Sum mixed ans23 Tryd.func15 h15 (Secret_ok cf23)
noncomputable def cf25 : ACall := withSum cf24 7 s_known8
theorem ans25 : Answers Tryd.prog cf25 := answers_Sum mixed ans24 Tryd.func7 h7 (known8_ok cf24 (fun _ _ => rfl) (fun _ _ => rfl) (fun _ _ => rfl))
theorem laid_eq : (Rows.kdfChainsRow.laid.map fun x => (Tryd.prog.globalNamed x.1, vals x.2)) = laidVals.map fun x => (some x.1, x.2) := by kernel_rfl
theorem laid_ty : (laidVals.all fun x => decide (x.1 < Tryd.prog.globals.size) && ((Tryd.prog.globals[x.1]?).map (·.type)).any (plainTy Tryd.prog 4)) = true := by kernel_rfl
theorem laid_at1 (ts : Nat → Nat) : (heapG Tryd.prog.globals.size laidVals ts).get 1 = some (.cells [V.int .i64 0, V.int .i64 4, V.int .i64 8, V.int .i64 12, V.int .i64 1, V.int .i64 5, V.int .i64 9, V.int .i64 13, V.int .i64 2, V.int .i64 6, V.int .i64 10, V.int .i64 14, V.int .i64 3, V.int .i64 7, V.int .i64 11, V.int .i64 15, V.int .i64 0, V.int .i64 5, V.int .i64 10, V.int .i64 15, V.int .i64 1, V.int .i64 6, V.int .i64 11, V.int .i64 12, V.int .i64 2, V.int .i64 7, V.int .i64 8, V.int .i64 13, V.int .i64 3, V.int .i64 4, V.int .i64 9, V.int .i64 14] (ts 1) 1 false) := by kernel_rfl
theorem laid_at0 (ts : Nat → Nat) : (heapG Tryd.prog.globals.size laidVals ts).get 0 = some (.cells [V.int .u32 1779033703, V.int .u32 3144134277, V.int .u32 1013904242, V.int .u32 2773480762, V.int .u32 1359893119, V.int .u32 2600822924, V.int .u32 528734635, V.int .u32 1541459225] (ts 0) 1 false) := by kernel_rfl
theorem laid_at2 (ts : Nat → Nat) : (heapG Tryd.prog.globals.size laidVals ts).get 2 = some (.cells [V.int .i64 0, V.int .i64 1, V.int .i64 2, V.int .i64 3, V.int .i64 4, V.int .i64 5, V.int .i64 6, V.int .i64 7, V.int .i64 8, V.int .i64 9, V.int .i64 10, V.int .i64 11, V.int .i64 12, V.int .i64 13, V.int .i64 14, V.int .i64 15, V.int .i64 14, V.int .i64 10, V.int .i64 4, V.int .i64 8, V.int .i64 9, V.int .i64 15, V.int .i64 13, V.int .i64 6, V.int .i64 1, V.int .i64 12, V.int .i64 0, V.int .i64 2, V.int .i64 11, V.int .i64 7, V.int .i64 5, V.int .i64 3, V.int .i64 11, V.int .i64 8, V.int .i64 12, V.int .i64 0, V.int .i64 5, V.int .i64 2, V.int .i64 15, V.int .i64 13, V.int .i64 10, V.int .i64 14, V.int .i64 3, V.int .i64 6, V.int .i64 7, V.int .i64 1, V.int .i64 9, V.int .i64 4, V.int .i64 7, V.int .i64 9, V.int .i64 3, V.int .i64 1, V.int .i64 13, V.int .i64 12, V.int .i64 11, V.int .i64 14, V.int .i64 2, V.int .i64 6, V.int .i64 5, V.int .i64 10, V.int .i64 4, V.int .i64 0, V.int .i64 15, V.int .i64 8, V.int .i64 9, V.int .i64 0, V.int .i64 5, V.int .i64 7, V.int .i64 2, V.int .i64 4, V.int .i64 10, V.int .i64 15, V.int .i64 14, V.int .i64 1, V.int .i64 11, V.int .i64 12, V.int .i64 6, V.int .i64 8, V.int .i64 3, V.int .i64 13, V.int .i64 2, V.int .i64 12, V.int .i64 6, V.int .i64 10, V.int .i64 0, V.int .i64 11, V.int .i64 8, V.int .i64 3, V.int .i64 4, V.int .i64 13, V.int .i64 7, V.int .i64 5, V.int .i64 15, V.int .i64 14, V.int .i64 1, V.int .i64 9, V.int .i64 12, V.int .i64 5, V.int .i64 1, V.int .i64 15, V.int .i64 14, V.int .i64 13, V.int .i64 4, V.int .i64 10, V.int .i64 0, V.int .i64 7, V.int .i64 6, V.int .i64 3, V.int .i64 9, V.int .i64 2, V.int .i64 8, V.int .i64 11, V.int .i64 13, V.int .i64 11, V.int .i64 7, V.int .i64 14, V.int .i64 12, V.int .i64 1, V.int .i64 3, V.int .i64 9, V.int .i64 5, V.int .i64 0, V.int .i64 15, V.int .i64 4, V.int .i64 8, V.int .i64 6, V.int .i64 2, V.int .i64 10, V.int .i64 6, V.int .i64 15, V.int .i64 14, V.int .i64 9, V.int .i64 11, V.int .i64 3, V.int .i64 0, V.int .i64 8, V.int .i64 12, V.int .i64 2, V.int .i64 13, V.int .i64 7, V.int .i64 1, V.int .i64 4, V.int .i64 10, V.int .i64 5, V.int .i64 10, V.int .i64 2, V.int .i64 8, V.int .i64 4, V.int .i64 7, V.int .i64 6, V.int .i64 1, V.int .i64 5, V.int .i64 15, V.int .i64 11, V.int .i64 9, V.int .i64 14, V.int .i64 3, V.int .i64 12, V.int .i64 13, V.int .i64 0] (ts 2) 1 false) := by kernel_rfl
theorem own : ownKnob Tryd.prog.godebug = none := by kernel_rfl
theorem laidOut : laidOutB Tryd.prog = true := by kernel_rfl
theorem lifted (os : Os) (started : os.Started) (H : Type) (enc : TypeId × Value → H) :
    ReturnsInHanded {} Tryd.checked os 6 .any (fun w args => (Rows.kdfChainsSpec.pre enc Tryd.prog Tryd.f6 Rows.kdfChainsRow.domain false w args ∧ laidMetH Tryd.prog Rows.kdfChainsRow.laid w) ∧ sizedMet enc Tryd.prog Tryd.f6 (OpenSpec.ofChange Rows.kdfChainsSpec) false w args)
      (Rows.kdfChainsSpec.post enc Tryd.prog Tryd.f6 false true false false) := by
  refine returnsInHanded_of_change_and (C := Tryd.checked) (X := (fun w _ => laidMetH Tryd.prog Rows.kdfChainsRow.laid w)) (fun _ _ _ hh h => h.of_heap hh) own started (by kernel_rfl) Tryd.func6
    (ChangeSpec.witness_shaped (enc := enc) (C := Tryd.checked) (os := os) (X := (fun w _ => laidMetH Tryd.prog Rows.kdfChainsRow.laid w)) false (World.laidAll Tryd.prog os Rows.kdfChainsRow.laid) #[.agg #[.int .u8 0, .int .u8 0, .int .u8 0, .int .u8 0, .int .u8 0, .int .u8 0, .int .u8 0, .int .u8 0, .int .u8 0, .int .u8 0, .int .u8 0, .int .u8 0, .int .u8 0, .int .u8 0, .int .u8 0, .int .u8 0, .int .u8 0, .int .u8 0, .int .u8 0, .int .u8 0, .int .u8 0, .int .u8 0, .int .u8 0, .int .u8 0, .int .u8 0, .int .u8 0, .int .u8 0, .int .u8 0, .int .u8 0, .int .u8 0, .int .u8 0, .int .u8 0], .slice none 0 0] 8 (World.laidAll_os _ _ _)
      (World.shaped_of_ZipB (by kernel_rfl) (by kernel_rfl)) (by kernel_rfl) (by kernel_rfl) (by kernel_rfl)
      (by rw [MakeChecks.laidMetH_plain _ _ _ (by kernel_rfl)]; exact laidMet_laidAll _ (by kernel_rfl) (by kernel_rfl))) ?_
  intro W base args ds gs before hval0 hW hcnd hsz0 hL _
  have hsz : (DataW.weightsEach Tryd.prog (Tryd.f6.params.toList ++ Rows.kdfChainsSpec.plain.varTypes Tryd.prog) (ds ++ gs)).all (· ≤ reachBytes) = true := hsz0
  have hL' : laidMet Tryd.prog Rows.kdfChainsRow.laid W := by
    have h := hL
    rw [MakeChecks.laidMetH_plain _ _ _ (by kernel_rfl)] at h
    exact h
  have hval : ∀ (j : Nat) t v, Tryd.f6.params[j]? = some t → args[j]? = some v → Value.okWide Tryd.prog W .any base t v := hval0
  have hW' := hW
  obtain ⟨p, q, hA0, hV, rfl, hfz, hnd⟩ := hW
  have hA : DataW.TrodAll enc Tryd.prog W 0 (fun _ => true) true Tryd.f6.params.toList args.toList ds p := hA0
  rw [Tryd.params6] at hA hval hsz
  obtain ⟨v0, vs0, d0, ds0, p0, q0, hargs, rfl, rfl, h0, r0⟩ := trodAll_cons hA
  obtain ⟨v1, vs1, d1, ds1, p1, q1, rfl, rfl, rfl, h1, r1⟩ := trodAll_cons r0
  obtain ⟨rfl, rfl, rfl⟩ := trodAll_nil r1
  obtain rfl : args = #[v0, v1] := by cases args; simp_all
  obtain ⟨rfl, rfl⟩ := trodVars_none hV
  have k0 := h0
  have lt0 : ∀ x ∈ p0, x.block < W.heap.size := by obtain ⟨m, hm⟩ := k0; exact DataW.trod_lt m _ _ _ hm
  have k1 := h1
  have lt1 : ∀ x ∈ p1, x.block < W.heap.size := by obtain ⟨m, hm⟩ := k1; exact DataW.trod_lt m _ _ _ hm
  obtain ⟨ρ0, H0, a0, le0, hle0, rr0, vr0, q0⟩ := arg_open (n := 6) (by kernel_rfl) (hval 0 25 v0 rfl rfl) h0 (relLaid hL' laid_eq laid_ty)
  obtain ⟨ρ1, H1, a1, le1, hle1, rr1, vr1, q1⟩ := arg_open (n := 6) (by kernel_rfl) (hval 1 27 v1 rfl rfl) h1 rr0
  replace vr0 := vr0.mono le1 _ _
  replace q0 := q0.le hle1
  have hgo : ∀ b B, (heapG Tryd.prog.globals.size laidVals (tsOf W)).get b = some B → H1.get b = some B := fun b B hb => hle1.2 _ _ (hle0.2 _ _ (hb))
  have hF := rr1.fresh'
  have hlt0 := VR.lt rr1.dom _ _ vr0
  have hlt1 := VR.lt rr1.dom _ _ vr1
  have vrl : VRL ρ1 [a0, a1] (#[v0, v1] : Array Value).toList := VRL.cons vr0 (VRL.cons vr1 (VRL.nil))
  have htab : hasTabs H1 := ⟨⟨_, hgo _ _ (laid_at1 _)⟩, ⟨_, hgo _ _ (laid_at0 _)⟩, ⟨_, hgo _ _ (laid_at2 _)⟩⟩
  obtain ⟨s0, rfl, hk0, hl0⟩ := IsV.arrB Tryd.underlying25 Tryd.underlying5 q0
  obtain ⟨s1, hs1, dl1⟩ := IsV.bytes Tryd.underlying27 Tryd.underlying5 (by kernel_rfl) q1
  have sz1 := dlen_sized hsz (j := 1) (B := 1) rfl rfl Tryd.underlying27 (by kernel_rfl) dl1
  refine (law_run mixed ans25 Tryd.func6 KdfChains.h6 rr1 vrl (law_KdfChains cf25 (fun _ _ => rfl) (fun _ _ => rfl) (fun _ _ => rfl) H1 s0 s1 a1 hF htab hk0 hl0 hlt1 hs1 (by omega))).mono fun e W' ⟨he, bel⟩ => ?_
  subst he
  exact ⟨_, rfl, _, _, _, [], _, [], hW', trodAll_mk1 (shut_bool Tryd.underlying4 _), (trodAll_cons_mk (Below.trod laidOut (by kernel_rfl) (of_decide_eq_true (by kernel_rfl)) k0 bel lt0) (trodAll_cons_mk (Below.trod laidOut (by kernel_rfl) (of_decide_eq_true (by kernel_rfl)) k1 bel lt1) trodAll_mk0)), rfl, bel.frame _, fun h => by cases h⟩
theorem over : Rows.kdfChainsRow.holds Tryd.pinned (OpenSpec.ofChange Rows.kdfChainsSpec) :=
  OpenClaim.holds_of_wide 6 Tryd.f6 rfl rfl rfl rfl rfl rfl rfl ⟨rfl, rfl, rfl, rfl, rfl⟩ rfl rfl rfl rfl rfl (by kernel_rfl) Tryd.func6 (by kernel_rfl)
    (of_decide_eq_true (by kernel_rfl)) (by unfold Func.isWrapper; first | (rw [if_pos (by decide +kernel)]; kernel_rfl) | (rw [if_neg (by decide +kernel)]; exact ⟨rfl, rfl⟩))
    (fun os started H enc _ => lifted os started H enc)
theorem noStand : (Tryd.f6.params.toList.all fun t => !Tryd.prog.wantsStandIn t) = true := by kernel_rfl
theorem card_over : Rows.KdfChainsCardSaid :=
  Claim7.holds_tied_plain_at .later [] [.data, .data, .data] true (true, "d2acf0f90df152320284f289966d358899e3a12532350b81d63095143d0a38d9") false over (fun _ h => by cases h) (by kernel_rfl) (fun _ h => by cases h) kdfChains_row_tie rfl ⟨rfl, rfl⟩ (by kernel_rfl) rfl
    (fun f fn hf hfn => by
      obtain rfl : f = 6 := Option.some.inj ((show Tryd.prog.funcNamed "porthole/portholelaw8.KdfChains" = some 6 by kernel_rfl).symm.trans hf) |>.symm
      obtain rfl : fn = Tryd.f6 := (Option.some.inj (Tryd.func6.symm.trans hfn)).symm
      refine ⟨by kernel_rfl, fun j t ht => ?_⟩
      have h := List.all_eq_true.1 noStand t (by simpa using Array.mem_of_getElem? ht)
      have h2 : Tryd.prog.wantsStandIn t = false := by simpa using h
      exact h2)
    (by kernel_rfl)
end Go.Proofs.YtobnkgajgodioaaDoor.KdfChains
namespace Go.Proofs.YtobnkgajgodioaaDoor
/-- The row's card, under a short name, for the claim. -/
theorem kdfChains_card_holds : Rows.KdfChainsCardSaid := KdfChains.card_over
#print axioms kdfChains_card_holds
end Go.Proofs.YtobnkgajgodioaaDoor
