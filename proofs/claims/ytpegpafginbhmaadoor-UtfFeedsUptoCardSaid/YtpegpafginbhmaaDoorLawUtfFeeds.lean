/- The row of the law UtfFeeds: whatever its arguments, the law returns true, and memory is as it was. All that is handed in weighs no more than the second form says. -/
import Derived.Test.YtpegpafginbhmaaDoorRows
import Derived.Test.YtpegpafginbhmaaDoorFunUtfFeeds
import Derived.WalkKit
import Derived.ProofKit
import Derived.OpenShut
import Derived.ShutString
import Derived.ChangeOld
import Derived.Below
import Derived.SizedLaws
import Derived.JoinedCond
import Derived.Test.YtpegpafginbhmaaDoorTie
import Derived.Test.YtpegpafginbhmaaDoorCards
import Derived.LaidMore
import Derived.Lay
import Derived.SevenTiedAt
import Derived.Stop.Joined
import Derived.MakeChecks
import Derived.Deep.DeepHandedRow
import Derived.LaidLaws
import Derived.LaidMore
import Derived.Lay
import Derived.Stop.Joined
import Derived.MakeChecks
namespace Go.Proofs.YtpegpafginbhmaaDoor.UtfFeeds
open Go Go.Proofs.YtpegpafginbhmaaDoorA
open Go.ChangeShapes Go.WideShapes Go.ChangeAt Go.RowKit
open Go.ChangeMaps (open_string shut_string)
set_option linter.unusedVariables false
set_option maxRecDepth 100000
theorem mixed : Tryd.prog.follows .mixedOrders = true := by kernel_rfl
noncomputable def cf0 : ACall := none0
theorem ans0 : Answers Tryd.prog cf0 := answers_none
noncomputable def cf1 : ACall := withSum cf0 19 s_Pick
theorem ans1 : Answers Tryd.prog cf1 := answers_Sum mixed ans0 Tryd.func19 h19 (Pick_ok cf0)
noncomputable def cf2 : ACall := withSum cf1 15 s_same
theorem ans2 : Answers Tryd.prog cf2 := answers_Sum mixed ans1 Tryd.func15 h15 (same_ok cf1)
noncomputable def cf3 : ACall := withSum cf2 9 s_New
theorem ans3 : Answers Tryd.prog cf3 := answers_Sum mixed ans2 Tryd.func9 h9 (New_ok cf2)
noncomputable def cf4 : ACall := withSum cf3 13 s_Held
theorem ans4 : Answers Tryd.prog cf4 := answers_Sum mixed ans3 Tryd.func13 h13 (Held_ok cf3)
noncomputable def cf5 : ACall := withSum cf4 24 s_Start
theorem ans5 : Answers Tryd.prog cf5 := answers_Sum mixed ans4 Tryd.func24 h24 (Start_ok cf4)
noncomputable def cf6 : ACall := withSum cf5 16 s_Runes
theorem ans6 : Answers Tryd.prog cf6 := answers_Sum mixed ans5 Tryd.func16 h16 (Runes_ok cf5)
noncomputable def cf7 : ACall := withSum cf6 17 s_Runes
theorem ans7 : Answers Tryd.prog cf7 := answers_Sum mixed ans6 Tryd.func17 h17 (RunesR_ok cf6)
noncomputable def cf8 : ACall := withSum cf7 25 s_Full
theorem ans8 : Answers Tryd.prog cf8 := answers_Sum mixed ans7 Tryd.func25 h25 (Full_ok cf7)
noncomputable def cf9 : ACall := withSum cf8 12 s_Feed
theorem ans9 : Answers Tryd.prog cf9 := answers_Sum mixed ans8 Tryd.func12 h12 (Feed_ok cf8 (fun _ _ => rfl) (fun _ _ => rfl) (fun _ _ => rfl))
noncomputable def cf10 : ACall := withSum cf9 22 s_Flush
theorem ans10 : Answers Tryd.prog cf10 := answers_Sum mixed ans9 Tryd.func22 h22 (Flush_ok cf9)
noncomputable def cf11 : ACall := withSum cf10 20 s_Cut
theorem ans11 : Answers Tryd.prog cf11 := answers_Sum mixed ans10 Tryd.func20 h20 (Cut_ok cf10 (fun _ _ => rfl))
noncomputable def cf12 : ACall := withSum cf11 14 s_lbytes
theorem ans12 : Answers Tryd.prog cf12 := answers_Sum mixed ans11 Tryd.func14 h14 (lbytes_ok cf11 (fun _ _ => rfl))
noncomputable def cf13 : ACall := withSum cf12 26 s_may
theorem ans13 : Answers Tryd.prog cf13 := answers_Sum mixed ans12 Tryd.func26 h26 (may_ok cf12)
noncomputable def cf14 : ACall := withSum cf13 21 s_Feed
theorem ans14 : Answers Tryd.prog cf14 := answers_Sum mixed ans13 Tryd.func21 h21 (FeedR_ok cf13 (fun _ _ => rfl) (fun _ _ => rfl))
noncomputable def cf15 : ACall := withSum cf14 23 s_Flush
theorem ans15 : Answers Tryd.prog cf15 := answers_Sum mixed ans14 Tryd.func23 h23 (FlushR_ok cf14)
theorem laid_plain : (laidVals.all fun x => decide (x.1 < Tryd.prog.globals.size) && x.2.all plainV) = true := by kernel_rfl
theorem known_run (ts : Nat → Nat) : (runA tab 100000 60 10 [] (heapG Tryd.prog.globals.size laidVals ts)).map (·.1) = some (.bool true) := by kernel_rfl
noncomputable def cf16 : ACall := withSum cf15 10 s_kn
theorem ans16 : Answers Tryd.prog cf16 := answers_knownG mixed tab_holds ans15 ⟨_, Tryd.func10, by kernel_rfl, by kernel_rfl⟩ laid_plain known_run
theorem laid_eq : (Rows.utfFeedsRow.laid.map fun x => (Tryd.prog.globalNamed x.1, vals x.2)) = laidVals.map fun x => (some x.1, x.2) := by kernel_rfl
theorem laid_ty : (laidVals.all fun x => decide (x.1 < Tryd.prog.globals.size) && ((Tryd.prog.globals[x.1]?).map (·.type)).any (plainTy Tryd.prog 4)) = true := by kernel_rfl
theorem laid_at1 (ts : Nat → Nat) : (heapG Tryd.prog.globals.size laidVals ts).get 1 = some (.cells [V.int .u8 128, V.int .u8 191, V.int .u8 160, V.int .u8 191, V.int .u8 128, V.int .u8 159, V.int .u8 144, V.int .u8 191, V.int .u8 128, V.int .u8 143, V.int .u8 0, V.int .u8 0, V.int .u8 0, V.int .u8 0, V.int .u8 0, V.int .u8 0, V.int .u8 0, V.int .u8 0, V.int .u8 0, V.int .u8 0, V.int .u8 0, V.int .u8 0, V.int .u8 0, V.int .u8 0, V.int .u8 0, V.int .u8 0, V.int .u8 0, V.int .u8 0, V.int .u8 0, V.int .u8 0, V.int .u8 0, V.int .u8 0] (ts 1) 1 false) := by kernel_rfl
theorem laid_at0 (ts : Nat → Nat) : (heapG Tryd.prog.globals.size laidVals ts).get 0 = some (.cells [V.int .u8 240, V.int .u8 240, V.int .u8 240, V.int .u8 240, V.int .u8 240, V.int .u8 240, V.int .u8 240, V.int .u8 240, V.int .u8 240, V.int .u8 240, V.int .u8 240, V.int .u8 240, V.int .u8 240, V.int .u8 240, V.int .u8 240, V.int .u8 240, V.int .u8 240, V.int .u8 240, V.int .u8 240, V.int .u8 240, V.int .u8 240, V.int .u8 240, V.int .u8 240, V.int .u8 240, V.int .u8 240, V.int .u8 240, V.int .u8 240, V.int .u8 240, V.int .u8 240, V.int .u8 240, V.int .u8 240, V.int .u8 240, V.int .u8 240, V.int .u8 240, V.int .u8 240, V.int .u8 240, V.int .u8 240, V.int .u8 240, V.int .u8 240, V.int .u8 240, V.int .u8 240, V.int .u8 240, V.int .u8 240, V.int .u8 240, V.int .u8 240, V.int .u8 240, V.int .u8 240, V.int .u8 240, V.int .u8 240, V.int .u8 240, V.int .u8 240, V.int .u8 240, V.int .u8 240, V.int .u8 240, V.int .u8 240, V.int .u8 240, V.int .u8 240, V.int .u8 240, V.int .u8 240, V.int .u8 240, V.int .u8 240, V.int .u8 240, V.int .u8 240, V.int .u8 240, V.int .u8 240, V.int .u8 240, V.int .u8 240, V.int .u8 240, V.int .u8 240, V.int .u8 240, V.int .u8 240, V.int .u8 240, V.int .u8 240, V.int .u8 240, V.int .u8 240, V.int .u8 240, V.int .u8 240, V.int .u8 240, V.int .u8 240, V.int .u8 240, V.int .u8 240, V.int .u8 240, V.int .u8 240, V.int .u8 240, V.int .u8 240, V.int .u8 240, V.int .u8 240, V.int .u8 240, V.int .u8 240, V.int .u8 240, V.int .u8 240, V.int .u8 240, V.int .u8 240, V.int .u8 240, V.int .u8 240, V.int .u8 240, V.int .u8 240, V.int .u8 240, V.int .u8 240, V.int .u8 240, V.int .u8 240, V.int .u8 240, V.int .u8 240, V.int .u8 240, V.int .u8 240, V.int .u8 240, V.int .u8 240, V.int .u8 240, V.int .u8 240, V.int .u8 240, V.int .u8 240, V.int .u8 240, V.int .u8 240, V.int .u8 240, V.int .u8 240, V.int .u8 240, V.int .u8 240, V.int .u8 240, V.int .u8 240, V.int .u8 240, V.int .u8 240, V.int .u8 240, V.int .u8 240, V.int .u8 240, V.int .u8 240, V.int .u8 240, V.int .u8 240, V.int .u8 240, V.int .u8 241, V.int .u8 241, V.int .u8 241, V.int .u8 241, V.int .u8 241, V.int .u8 241, V.int .u8 241, V.int .u8 241, V.int .u8 241, V.int .u8 241, V.int .u8 241, V.int .u8 241, V.int .u8 241, V.int .u8 241, V.int .u8 241, V.int .u8 241, V.int .u8 241, V.int .u8 241, V.int .u8 241, V.int .u8 241, V.int .u8 241, V.int .u8 241, V.int .u8 241, V.int .u8 241, V.int .u8 241, V.int .u8 241, V.int .u8 241, V.int .u8 241, V.int .u8 241, V.int .u8 241, V.int .u8 241, V.int .u8 241, V.int .u8 241, V.int .u8 241, V.int .u8 241, V.int .u8 241, V.int .u8 241, V.int .u8 241, V.int .u8 241, V.int .u8 241, V.int .u8 241, V.int .u8 241, V.int .u8 241, V.int .u8 241, V.int .u8 241, V.int .u8 241, V.int .u8 241, V.int .u8 241, V.int .u8 241, V.int .u8 241, V.int .u8 241, V.int .u8 241, V.int .u8 241, V.int .u8 241, V.int .u8 241, V.int .u8 241, V.int .u8 241, V.int .u8 241, V.int .u8 241, V.int .u8 241, V.int .u8 241, V.int .u8 241, V.int .u8 241, V.int .u8 241, V.int .u8 241, V.int .u8 241, V.int .u8 2, V.int .u8 2, V.int .u8 2, V.int .u8 2, V.int .u8 2, V.int .u8 2, V.int .u8 2, V.int .u8 2, V.int .u8 2, V.int .u8 2, V.int .u8 2, V.int .u8 2, V.int .u8 2, V.int .u8 2, V.int .u8 2, V.int .u8 2, V.int .u8 2, V.int .u8 2, V.int .u8 2, V.int .u8 2, V.int .u8 2, V.int .u8 2, V.int .u8 2, V.int .u8 2, V.int .u8 2, V.int .u8 2, V.int .u8 2, V.int .u8 2, V.int .u8 2, V.int .u8 2, V.int .u8 19, V.int .u8 3, V.int .u8 3, V.int .u8 3, V.int .u8 3, V.int .u8 3, V.int .u8 3, V.int .u8 3, V.int .u8 3, V.int .u8 3, V.int .u8 3, V.int .u8 3, V.int .u8 3, V.int .u8 35, V.int .u8 3, V.int .u8 3, V.int .u8 52, V.int .u8 4, V.int .u8 4, V.int .u8 4, V.int .u8 68, V.int .u8 241, V.int .u8 241, V.int .u8 241, V.int .u8 241, V.int .u8 241, V.int .u8 241, V.int .u8 241, V.int .u8 241, V.int .u8 241, V.int .u8 241, V.int .u8 241] (ts 0) 1 false) := by kernel_rfl
theorem own : ownKnob Tryd.prog.godebug = none := by kernel_rfl
theorem laidOut : laidOutB Tryd.prog = true := by kernel_rfl
/-- What the bound of the second form gives: the lengths of what comes in. -/
theorem bulk_one {H : Type} (d : DataW H) : 1 ≤ Rows.uptoBulk d := by
  cases d with
  | lit l => cases l <;> simp [Rows.uptoBulk]
  | nil => simp [Rows.uptoBulk]
  | ptr d => simp [Rows.uptoBulk]
  | slice elems spare => simp [Rows.uptoBulk]
  | agg parts => simp [Rows.uptoBulk]
  | iface t d => simp [Rows.uptoBulk]
  | map entries => simp [Rows.uptoBulk]
  | held h => simp [Rows.uptoBulk]
theorem bulk_length {H : Type} (l : List (DataW H)) : l.length ≤ Rows.uptoBulkAll l := by
  induction l with
  | nil => simp [Rows.uptoBulkAll]
  | cons x r ih => have := bulk_one x; simp only [Rows.uptoBulkAll, List.length_cons]; omega
theorem bulk_dlen {H : Type} {d : DataW H} {m : Nat} (h : dlen d m) : m + 1 ≤ Rows.uptoBulk d := by
  rcases h with ⟨rfl, rfl⟩ | ⟨ds, rest, rfl, rfl⟩
  · have := bulk_one (DataW.nil (H := H)); omega
  · have := bulk_length ds
    simp only [Rows.uptoBulk]; omega
theorem bulk_rows {H : Type} {d : DataW H} {ss : List (List Nat)} (h : (d = .nil ∧ ss = []) ∨ ∃ ds rest, d = .slice ds rest ∧ ds.length = ss.length ∧ ∀ (i : Nat) d' s, ds[i]? = some d' → ss[i]? = some s → dlen d' s.length) : ss.flatten.length + ss.length + 1 ≤ Rows.uptoBulk d := by
  rcases h with ⟨rfl, rfl⟩ | ⟨ds, rest, rfl, hl, hi⟩
  · have := bulk_one (DataW.nil (H := H)); simpa using this
  · have key : ∀ {ds : List (DataW H)} {ss : List (List Nat)}, ds.length = ss.length → (∀ (i : Nat) d' s, ds[i]? = some d' → ss[i]? = some s → dlen d' s.length) → ss.flatten.length + ss.length ≤ Rows.uptoBulkAll ds := by
      intro ds
      induction ds with
      | nil =>
        intro ss hl _
        have : ss = [] := List.length_eq_zero_iff.1 (by simpa using hl.symm)
        subst this; simp
      | cons d ds ih =>
        intro ss hl hi
        cases ss with
        | nil => simp at hl
        | cons s ss =>
          have h1 := ih (ss := ss) (by simpa using hl) (fun i d' s' a b => hi (i + 1) d' s' (by simpa using a) (by simpa using b))
          have h2 := bulk_dlen (hi 0 d s rfl rfl)
          simp only [Rows.uptoBulkAll, List.flatten_cons, List.length_append, List.length_cons]
          omega
    have := key hl hi
    simp only [Rows.uptoBulk]; omega
theorem reads (os : Os) {H : Type} (enc : TypeId × Value → H) : ∃ places, DataW.whole enc Tryd.prog ((World.laidAll Tryd.prog os Rows.utfFeedsUptoRow.laid).forCall (fun _ _ => 0) ⟨#[], #[.slice none 0 0, .slice none 0 0, .bool false, .slice none 0 0, .slice none 0 0], []⟩).memory Tryd.f6.params.toList (Rows.OpenSpec.upto Rows.utfFeedsSpec).vars false #[.slice none 0 0, .slice none 0 0, .bool false, .slice none 0 0, .slice none 0 0].toList 8 = some ([.nil, .nil, .lit (.bool false), .nil, .nil], [], places) := ⟨[], by kernel_rfl⟩
theorem lifted (os : Os) (started : os.Started) (H : Type) (enc : TypeId × Value → H) (F : Stop.Interp) :
    ReturnsInHanded {} Tryd.checked os 6 .any ((Rows.OpenSpec.upto Rows.utfFeedsSpec).preRow enc Tryd.prog Tryd.f6 Rows.utfFeedsUptoRow.domain false Rows.utfFeedsUptoRow.laid) (((Rows.OpenSpec.upto Rows.utfFeedsSpec).at F).post enc Tryd.prog Tryd.f6 false true false false) := by
  obtain ⟨places, hx⟩ := reads os enc
  refine returnsInHanded_of_row (C := Tryd.checked) (s := (Rows.OpenSpec.upto Rows.utfFeedsSpec)) own started (by kernel_rfl) Tryd.func6
    ⟨(World.laidAll Tryd.prog os Rows.utfFeedsUptoRow.laid), fun _ _ => 0, ⟨#[], #[.slice none 0 0, .slice none 0 0, .bool false, .slice none 0 0, .slice none 0 0], []⟩, World.laidAll_os _ _ _, World.shaped_of_ZipB (by kernel_rfl) (by kernel_rfl), rfl, (Input.okWide_of_okWideB (by kernel_rfl)).2,
      OpenSpec.preRow_of_cond 8 hx (by kernel_rfl) (fun k hk => by cases hk; kernel_rfl) (by kernel_rfl) (by rw [MakeChecks.laidMetH_plain _ _ _ (by kernel_rfl)]; exact laidMet_laidAll _ (by kernel_rfl) (by kernel_rfl)), by
        simp only [Assume.holds]
        exact ⟨by simp, by simp, fun _ => Modest.zero, by simp, by simp⟩⟩ ?_
  intro W base args ds gs before hval0 hW hcnd hk hsz0 hL _ _
  have hsz : (DataW.weightsEach Tryd.prog (Tryd.f6.params.toList ++ Rows.utfFeedsSpec.plain.varTypes Tryd.prog) (ds ++ gs)).all (· ≤ reachBytes) = true := hsz0
  have hL' : laidMet Tryd.prog Rows.utfFeedsRow.laid W := by
    have h := hL
    rw [MakeChecks.laidMetH_plain _ _ _ (by kernel_rfl)] at h
    exact h
  have hval : ∀ (j : Nat) t v, Tryd.f6.params[j]? = some t → args[j]? = some v → Value.okWide Tryd.prog W .any base t v := hval0
  have hW' := hW
  obtain ⟨p, q, hA0, hV, rfl, hfz, hnd⟩ := hW
  have hA : DataW.TrodAll enc Tryd.prog W 0 (fun _ => true) true Tryd.f6.params.toList args.toList ds p := hA0
  rw [Tryd.params6] at hA hval hsz
  obtain ⟨v0, vs0, d0, ds0, p0, q0, hargs, rfl, rfl, h0, r0⟩ := trodAll_cons hA
  obtain ⟨v1, vs1, d1, ds1, p1, q1, rfl, rfl, rfl, h1, r1⟩ := trodAll_cons r0
  obtain ⟨v2, vs2, d2, ds2, p2, q2, rfl, rfl, rfl, h2, r2⟩ := trodAll_cons r1
  obtain ⟨v3, vs3, d3, ds3, p3, q3, rfl, rfl, rfl, h3, r3⟩ := trodAll_cons r2
  obtain ⟨v4, vs4, d4, ds4, p4, q4, rfl, rfl, rfl, h4, r4⟩ := trodAll_cons r3
  obtain ⟨rfl, rfl, rfl⟩ := trodAll_nil r4
  obtain rfl : args = #[v0, v1, v2, v3, v4] := by cases args; simp_all
  obtain ⟨rfl, rfl⟩ := trodVars_none hV
  have hbk : Rows.uptoBulkAll [d0, d1, d2, d3, d4] ≤ 1048576 := of_decide_eq_true (hk _ rfl)
  simp only [Rows.uptoBulkAll] at hbk
  have k0 := h0
  have lt0 : ∀ x ∈ p0, x.block < W.heap.size := by obtain ⟨m, hm⟩ := k0; exact DataW.trod_lt m _ _ _ hm
  have k1 := h1
  have lt1 : ∀ x ∈ p1, x.block < W.heap.size := by obtain ⟨m, hm⟩ := k1; exact DataW.trod_lt m _ _ _ hm
  have k2 := h2
  have lt2 : ∀ x ∈ p2, x.block < W.heap.size := by obtain ⟨m, hm⟩ := k2; exact DataW.trod_lt m _ _ _ hm
  have k3 := h3
  have lt3 : ∀ x ∈ p3, x.block < W.heap.size := by obtain ⟨m, hm⟩ := k3; exact DataW.trod_lt m _ _ _ hm
  have k4 := h4
  have lt4 : ∀ x ∈ p4, x.block < W.heap.size := by obtain ⟨m, hm⟩ := k4; exact DataW.trod_lt m _ _ _ hm
  obtain ⟨ρ0, H0, a0, le0, hle0, rr0, vr0, q0⟩ := arg_open (n := 6) (by kernel_rfl) (hval 0 31 v0 rfl rfl) h0 (relLaid hL' laid_eq laid_ty)
  obtain ⟨ρ1, H1, a1, le1, hle1, rr1, vr1, q1⟩ := arg_open (n := 6) (by kernel_rfl) (hval 1 22 v1 rfl rfl) h1 rr0
  obtain ⟨ρ2, H2, a2, le2, hle2, rr2, vr2, q2⟩ := arg_open (n := 6) (by kernel_rfl) (hval 2 4 v2 rfl rfl) h2 rr1
  obtain ⟨ρ3, H3, a3, le3, hle3, rr3, vr3, q3⟩ := arg_open (n := 6) (by kernel_rfl) (hval 3 31 v3 rfl rfl) h3 rr2
  obtain ⟨ρ4, H4, a4, le4, hle4, rr4, vr4, q4⟩ := arg_open (n := 6) (by kernel_rfl) (hval 4 40 v4 rfl rfl) h4 rr3
  replace vr0 := vr0.mono le1 _ _
  replace q0 := q0.le hle1
  replace vr0 := vr0.mono le2 _ _
  replace q0 := q0.le hle2
  replace vr0 := vr0.mono le3 _ _
  replace q0 := q0.le hle3
  replace vr0 := vr0.mono le4 _ _
  replace q0 := q0.le hle4
  replace vr1 := vr1.mono le2 _ _
  replace q1 := q1.le hle2
  replace vr1 := vr1.mono le3 _ _
  replace q1 := q1.le hle3
  replace vr1 := vr1.mono le4 _ _
  replace q1 := q1.le hle4
  replace vr2 := vr2.mono le3 _ _
  replace q2 := q2.le hle3
  replace vr2 := vr2.mono le4 _ _
  replace q2 := q2.le hle4
  replace vr3 := vr3.mono le4 _ _
  replace q3 := q3.le hle4
  have hgo : ∀ b B, (heapG Tryd.prog.globals.size laidVals (tsOf W)).get b = some B → H4.get b = some B := fun b B hb => hle4.2 _ _ (hle3.2 _ _ (hle2.2 _ _ (hle1.2 _ _ (hle0.2 _ _ (hb)))))
  have hF := rr4.fresh'
  have hlt0 := VR.lt rr4.dom _ _ vr0
  have hlt1 := VR.lt rr4.dom _ _ vr1
  have hlt2 := VR.lt rr4.dom _ _ vr2
  have hlt3 := VR.lt rr4.dom _ _ vr3
  have hlt4 := VR.lt rr4.dom _ _ vr4
  have vrl : VRL ρ4 [a0, a1, a2, a3, a4] (#[v0, v1, v2, v3, v4] : Array Value).toList := VRL.cons vr0 (VRL.cons vr1 (VRL.cons vr2 (VRL.cons vr3 (VRL.cons vr4 (VRL.nil)))))
  have htab : hasLaid laidVals H4 := fun x hx => by
    unfold laidVals at hx
    rcases List.mem_cons.1 hx with rfl | hx
    · exact ⟨_, hgo _ _ (laid_at1 _)⟩
    rcases List.mem_cons.1 hx with rfl | hx
    · exact ⟨_, hgo _ _ (laid_at0 _)⟩
    cases hx
  obtain ⟨l0, hl0, dl0, wf0⟩ := IsV.ints Tryd.underlying31 Tryd.underlying3 (by kernel_rfl) q0
  obtain ⟨s1, hs1, dl1⟩ := IsV.bytes Tryd.underlying22 Tryd.underlying5 (by kernel_rfl) q1
  have bk1 := bulk_dlen dl1
  obtain ⟨b2, rfl, rfl⟩ := IsV.bool Tryd.underlying4 q2
  obtain ⟨l3, hl3, dl3, wf3⟩ := IsV.ints Tryd.underlying31 Tryd.underlying3 (by kernel_rfl) q3
  obtain ⟨l4, hl4, dl4⟩ := IsV.bools Tryd.underlying40 Tryd.underlying4 (by kernel_rfl) q4
  refine (law_run mixed ans16 Tryd.func6 UtfFeeds.h6 rr4 vrl (law_UtfFeeds cf16 (fun _ _ => rfl) (fun _ _ => rfl) (fun _ _ => rfl) (fun _ _ => rfl) (fun _ _ => rfl) (fun _ _ => rfl) (fun _ _ => rfl) (fun _ _ => rfl) (fun _ _ => rfl) (fun _ _ => rfl) H4 l0 l3 s1 b2 l4 a0 a1 a3 a4 hF htab hl0 hs1 hl3 hl4 (by omega))).mono fun e W' ⟨he, bel⟩ => ?_
  subst he
  exact ⟨_, rfl, _, _, _, [], _, [], hW', trodAll_mk1 (shut_bool Tryd.underlying4 _), (trodAll_cons_mk (Below.trod laidOut (by kernel_rfl) (of_decide_eq_true (by kernel_rfl)) k0 bel lt0) (trodAll_cons_mk (Below.trod laidOut (by kernel_rfl) (of_decide_eq_true (by kernel_rfl)) k1 bel lt1) (trodAll_cons_mk (Below.trod laidOut (by kernel_rfl) (of_decide_eq_true (by kernel_rfl)) k2 bel lt2) (trodAll_cons_mk (Below.trod laidOut (by kernel_rfl) (of_decide_eq_true (by kernel_rfl)) k3 bel lt3) (trodAll_cons_mk (Below.trod laidOut (by kernel_rfl) (of_decide_eq_true (by kernel_rfl)) k4 bel lt4) trodAll_mk0))))), rfl, bel.frame _, fun h => by cases h⟩
theorem over : Rows.utfFeedsUptoRow.holds Tryd.pinned (Rows.OpenSpec.upto Rows.utfFeedsSpec) :=
  OpenClaim.holds_of_cond 6 Tryd.f6 rfl rfl rfl rfl rfl rfl rfl ⟨rfl, rfl, rfl, rfl, rfl⟩ rfl rfl rfl rfl rfl (by kernel_rfl) Tryd.func6 (by kernel_rfl)
    (of_decide_eq_true (by kernel_rfl)) (by unfold Func.isWrapper; first | (rw [if_pos (by decide +kernel)]; kernel_rfl) | (rw [if_neg (by decide +kernel)]; exact ⟨rfl, rfl⟩))
    (fun os started H enc _ F => by rw [OpenClaim.pre_eq_preRow]; exact lifted os started H enc F)
theorem noStand : (Tryd.f6.params.toList.all fun t => !Tryd.prog.wantsStandIn t) = true := by kernel_rfl
theorem card_over : Rows.UtfFeedsUptoCardSaid :=
  Claim7.holds_tied_plain_at .later [] [.data, .pinned] true (true, "40e91c500314c183849344d655699ebd80c4f1ecce9d3407b0f0b833098c2ffa") false over (fun _ h => by cases h) (by kernel_rfl) (fun _ h => by cases h) utfFeedsUpto_row_tie rfl ⟨rfl, rfl⟩ (by kernel_rfl) rfl
    (fun f fn hf hfn => by
      obtain rfl : f = 6 := Option.some.inj ((show Tryd.prog.funcNamed "porthole/portholelaw19.UtfFeeds" = some 6 by kernel_rfl).symm.trans hf) |>.symm
      obtain rfl : fn = Tryd.f6 := (Option.some.inj (Tryd.func6.symm.trans hfn)).symm
      refine ⟨by kernel_rfl, fun j t ht => ?_⟩
      have h := List.all_eq_true.1 noStand t (by simpa using Array.mem_of_getElem? ht)
      have h2 : Tryd.prog.wantsStandIn t = false := by simpa using h
      exact h2)
    (by kernel_rfl)
end Go.Proofs.YtpegpafginbhmaaDoor.UtfFeeds
namespace Go.Proofs.YtpegpafginbhmaaDoor
/-- The second form's card, under a short name, for the claim. -/
theorem utfFeedsUpto_card_holds : Rows.UtfFeedsUptoCardSaid := UtfFeeds.card_over
#print axioms utfFeedsUpto_card_holds
end Go.Proofs.YtpegpafginbhmaaDoor
