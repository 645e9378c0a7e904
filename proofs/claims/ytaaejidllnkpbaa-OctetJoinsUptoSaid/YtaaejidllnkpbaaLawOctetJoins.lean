/- The row of the law OctetJoins: whatever its arguments, the law returns true, and memory is as it was. All that is handed in weighs no more than the second form says. -/
import Derived.Test.YtaaejidllnkpbaaRows
import Derived.Test.YtaaejidllnkpbaaFunOctetJoins
import Derived.WalkKit
import Derived.ProofKit
import Derived.OpenShut
import Derived.ShutString
import Derived.ChangeOld
import Derived.Below
import Derived.SizedLaws
import Derived.JoinedCond
import Derived.Deep.DeepHandedRow
import Derived.LaidLaws
import Derived.LaidMore
import Derived.Lay
import Derived.Stop.Joined
import Derived.MakeChecks
namespace Go.Proofs.Ytaaejidllnkpbaa.OctetJoins
open Go Go.Proofs.YtaaejidllnkpbaaA
open Go.ChangeShapes Go.WideShapes Go.ChangeAt Go.RowKit
open Go.ChangeMaps (open_string shut_string)
set_option linter.unusedVariables false
set_option maxRecDepth 100000
theorem mixed : Try.prog.follows .mixedOrders = true := by kernel_rfl
noncomputable def cf0 : ACall := none0
theorem ans0 : Answers Try.prog cf0 := answers_none
noncomputable def cf1 : ACall := withSum cf0 25 s_Few
theorem ans1 : Answers Try.prog cf1 := answers_Sum mixed ans0 Try.func25 h25 (Few_ok cf0)
noncomputable def cf2 : ACall := withSum cf1 31 s_get
theorem ans2 : Answers Try.prog cf2 := answers_Sum mixed ans1 Try.func31 h31 (get_ok cf1)
noncomputable def cf3 : ACall := withSum cf2 15 s_Get32
theorem ans3 : Answers Try.prog cf3 := answers_Sum mixed ans2 Try.func15 h15 (Get32_ok cf2 (fun _ _ => rfl))
noncomputable def cf4 : ACall := withSum cf3 17 s_Get64
theorem ans4 : Answers Try.prog cf4 := answers_Sum mixed ans3 Try.func17 h17 (Get64_ok cf3 (fun _ _ => rfl))
noncomputable def cf5 : ACall := withSum cf4 32 s_put
theorem ans5 : Answers Try.prog cf5 := answers_Sum mixed ans4 Try.func32 h32 (put_ok cf4)
noncomputable def cf6 : ACall := withSum cf5 18 s_Put64
theorem ans6 : Answers Try.prog cf6 := answers_Sum mixed ans5 Try.func18 h18 (Put64_ok cf5 (fun _ _ => rfl))
noncomputable def cf7 : ACall := withSum cf6 24 s_Join
theorem ans7 : Answers Try.prog cf7 := answers_Sum mixed ans6 Try.func24 h24 (Join_ok cf6)
noncomputable def cf8 : ACall := withSum cf7 26 s_Xor
theorem ans8 : Answers Try.prog cf8 := answers_Sum mixed ans7 Try.func26 h26 (Xor_ok cf7)
noncomputable def cf9 : ACall := withSum cf8 23 s_Same
theorem ans9 : Answers Try.prog cf9 := answers_Sum mixed ans8 Try.func23 h23 (Same_ok cf8)
theorem known_run : (runA tab 100000 60 20 [] (heap0 Try.prog.globals.size)).map (·.1) = some (.bool true) := by kernel_rfl
noncomputable def cf10 : ACall := withSum cf9 20 s_known
theorem ans10 : Answers Try.prog cf10 := answers_known ans9 ⟨_, Try.func20, by kernel_rfl, by kernel_rfl⟩ (fun W => closed_calls mixed tab_holds known_run W)
theorem own : ownKnob Try.prog.godebug = none := by kernel_rfl
theorem laidOut : laidOutB Try.prog = true := by kernel_rfl
/-- What the bound of the second form gives: the lengths of what comes in. -/
theorem bulk_one {H : Type} (d : DataW H) : 1 ≤ Rows.uptoBulk d := by
  cases d with
  | lit l => cases l <;> simp [Rows.uptoBulk]
  | nil => simp [Rows.uptoBulk]
  | ptr d => simp [Rows.uptoBulk]
  | slice elems spare => simp [Rows.uptoBulk]
  | agg parts => simp [Rows.uptoBulk]
  | iface t d => simp [Rows.uptoBulk]
  | map entries => simp [Rows.uptoBulk]
  | held h => simp [Rows.uptoBulk]
theorem bulk_length {H : Type} (l : List (DataW H)) : l.length ≤ Rows.uptoBulkAll l := by
  induction l with
  | nil => simp [Rows.uptoBulkAll]
  | cons x r ih => have := bulk_one x; simp only [Rows.uptoBulkAll, List.length_cons]; omega
theorem bulk_dlen {H : Type} {d : DataW H} {m : Nat} (h : dlen d m) : m + 1 ≤ Rows.uptoBulk d := by
  rcases h with ⟨rfl, rfl⟩ | ⟨ds, rest, rfl, rfl⟩
  · have := bulk_one (DataW.nil (H := H)); omega
  · have := bulk_length ds
    simp only [Rows.uptoBulk]; omega
theorem bulk_rows {H : Type} {d : DataW H} {ss : List (List Nat)} (h : (d = .nil ∧ ss = []) ∨ ∃ ds rest, d = .slice ds rest ∧ ds.length = ss.length ∧ ∀ (i : Nat) d' s, ds[i]? = some d' → ss[i]? = some s → dlen d' s.length) : ss.flatten.length + ss.length + 1 ≤ Rows.uptoBulk d := by
  rcases h with ⟨rfl, rfl⟩ | ⟨ds, rest, rfl, hl, hi⟩
  · have := bulk_one (DataW.nil (H := H)); simpa using this
  · have key : ∀ {ds : List (DataW H)} {ss : List (List Nat)}, ds.length = ss.length → (∀ (i : Nat) d' s, ds[i]? = some d' → ss[i]? = some s → dlen d' s.length) → ss.flatten.length + ss.length ≤ Rows.uptoBulkAll ds := by
      intro ds
      induction ds with
      | nil =>
        intro ss hl _
        have : ss = [] := List.length_eq_zero_iff.1 (by simpa using hl.symm)
        subst this; simp
      | cons d ds ih =>
        intro ss hl hi
        cases ss with
        | nil => simp at hl
        | cons s ss =>
          have h1 := ih (ss := ss) (by simpa using hl) (fun i d' s' a b => hi (i + 1) d' s' (by simpa using a) (by simpa using b))
          have h2 := bulk_dlen (hi 0 d s rfl rfl)
          simp only [Rows.uptoBulkAll, List.flatten_cons, List.length_append, List.length_cons]
          omega
    have := key hl hi
    simp only [Rows.uptoBulk]; omega
theorem reads (os : Os) {H : Type} (enc : TypeId × Value → H) : ∃ places, DataW.whole enc Try.prog ((World.laidAll Try.prog os Rows.octetJoinsUptoRow.laid).forCall (fun _ _ => 0) ⟨#[], #[.slice none 0 0, .int .u64 0], []⟩).memory Try.f7.params.toList (Rows.OpenSpec.upto Rows.octetJoinsSpec).vars false #[.slice none 0 0, .int .u64 0].toList 8 = some ([.nil, .lit (.int .u64 0)], [], places) := ⟨[], by kernel_rfl⟩
theorem lifted (os : Os) (started : os.Started) (H : Type) (enc : TypeId × Value → H) (F : Stop.Interp) :
    ReturnsInHanded {} Try.checked os 7 .any ((Rows.OpenSpec.upto Rows.octetJoinsSpec).preRow enc Try.prog Try.f7 Rows.octetJoinsUptoRow.domain false Rows.octetJoinsUptoRow.laid) (((Rows.OpenSpec.upto Rows.octetJoinsSpec).at F).post enc Try.prog Try.f7 false true false false) := by
  obtain ⟨places, hx⟩ := reads os enc
  refine returnsInHanded_of_row (C := Try.checked) (s := (Rows.OpenSpec.upto Rows.octetJoinsSpec)) own started (by kernel_rfl) Try.func7
    ⟨(World.laidAll Try.prog os Rows.octetJoinsUptoRow.laid), fun _ _ => 0, ⟨#[], #[.slice none 0 0, .int .u64 0], []⟩, World.laidAll_os _ _ _, World.shaped_of_ZipB (by kernel_rfl) (by kernel_rfl), rfl, (Input.okWide_of_okWideB (by kernel_rfl)).2,
      OpenSpec.preRow_of_cond 8 hx (by kernel_rfl) (fun k hk => by cases hk; kernel_rfl) (by kernel_rfl) (by rw [MakeChecks.laidMetH_plain _ _ _ (by kernel_rfl)]; exact laidMet_laidAll _ (by kernel_rfl) (by kernel_rfl)), by
        simp only [Assume.holds]
        exact ⟨by simp, by simp, fun _ => Modest.zero, by simp, by simp⟩⟩ ?_
  intro W base args ds gs before hval0 hW hcnd hk hsz0 hL _ _
  have hsz : (DataW.weightsEach Try.prog (Try.f7.params.toList ++ Rows.octetJoinsSpec.plain.varTypes Try.prog) (ds ++ gs)).all (· ≤ reachBytes) = true := hsz0
  have hval : ∀ (j : Nat) t v, Try.f7.params[j]? = some t → args[j]? = some v → Value.okWide Try.prog W .any base t v := hval0
  have hW' := hW
  obtain ⟨p, q, hA0, hV, rfl, hfz, hnd⟩ := hW
  have hA : DataW.TrodAll enc Try.prog W 0 (fun _ => true) true Try.f7.params.toList args.toList ds p := hA0
  rw [Try.params7] at hA hval hsz
  obtain ⟨v0, vs0, d0, ds0, p0, q0, hargs, rfl, rfl, h0, r0⟩ := trodAll_cons hA
  obtain ⟨v1, vs1, d1, ds1, p1, q1, rfl, rfl, rfl, h1, r1⟩ := trodAll_cons r0
  obtain ⟨rfl, rfl, rfl⟩ := trodAll_nil r1
  obtain rfl : args = #[v0, v1] := by cases args; simp_all
  obtain ⟨rfl, rfl⟩ := trodVars_none hV
  have hbk : Rows.uptoBulkAll [d0, d1] ≤ 1048576 := of_decide_eq_true (hk _ rfl)
  simp only [Rows.uptoBulkAll] at hbk
  have k0 := h0
  have lt0 : ∀ x ∈ p0, x.block < W.heap.size := by obtain ⟨m, hm⟩ := k0; exact DataW.trod_lt m _ _ _ hm
  have k1 := h1
  have lt1 : ∀ x ∈ p1, x.block < W.heap.size := by obtain ⟨m, hm⟩ := k1; exact DataW.trod_lt m _ _ _ hm
  obtain ⟨ρ0, H0, a0, le0, hle0, rr0, vr0, q0⟩ := arg_open (n := 6) (by kernel_rfl) (hval 0 49 v0 rfl rfl) h0 (rel0 W)
  obtain ⟨ρ1, H1, a1, le1, hle1, rr1, vr1, q1⟩ := arg_open (n := 6) (by kernel_rfl) (hval 1 34 v1 rfl rfl) h1 rr0
  replace vr0 := vr0.mono le1 _ _
  replace q0 := q0.le hle1
  have hF := rr1.fresh'
  have hlt0 := VR.lt rr1.dom _ _ vr0
  have hlt1 := VR.lt rr1.dom _ _ vr1
  have vrl : VRL ρ1 [a0, a1] (#[v0, v1] : Array Value).toList := VRL.cons vr0 (VRL.cons vr1 (VRL.nil))
  obtain ⟨xs0, ss0, hs0, hb0, dr0⟩ := IsV.rows Try.underlying49 Try.underlying28 Try.underlying5 (by kernel_rfl) (by kernel_rfl) q0
  have bk0 := bulk_rows dr0
  obtain ⟨z1, rfl, wf1, rfl⟩ := IsV.int Try.underlying34 q1
  refine (law_run mixed ans10 Try.func7 OctetJoins.h7 rr1 vrl (law_OctetJoins cf10 (fun _ _ => rfl) (fun _ _ => rfl) (fun _ _ => rfl) (fun _ _ => rfl) (fun _ _ => rfl) (fun _ _ => rfl) (fun _ _ => rfl) (fun _ _ => rfl) H1 z1 a0 xs0 ss0 hF hs0 hb0 (by omega) (wf_u64 wf1).1 (wf_u64 wf1).2)).mono fun e W' ⟨he, bel⟩ => ?_
  subst he
  exact ⟨_, rfl, _, _, _, [], _, [], hW', trodAll_mk1 (shut_bool Try.underlying4 _), (trodAll_cons_mk (Below.trod laidOut (by kernel_rfl) (of_decide_eq_true (by kernel_rfl)) k0 bel lt0) (trodAll_cons_mk (Below.trod laidOut (by kernel_rfl) (of_decide_eq_true (by kernel_rfl)) k1 bel lt1) trodAll_mk0)), rfl, bel.frame _, fun h => by cases h⟩
theorem over : Rows.octetJoinsUptoRow.holds Try.pinned (Rows.OpenSpec.upto Rows.octetJoinsSpec) :=
  OpenClaim.holds_of_cond 7 Try.f7 rfl rfl rfl rfl rfl rfl rfl ⟨rfl, rfl, rfl, rfl, rfl⟩ rfl rfl rfl rfl rfl (by kernel_rfl) Try.func7 (by kernel_rfl)
    (of_decide_eq_true (by kernel_rfl)) (by unfold Func.isWrapper; first | (rw [if_pos (by decide +kernel)]; kernel_rfl) | (rw [if_neg (by decide +kernel)]; exact ⟨rfl, rfl⟩))
    (fun os started H enc _ F => by rw [OpenClaim.pre_eq_preRow]; exact lifted os started H enc F)
end Go.Proofs.Ytaaejidllnkpbaa.OctetJoins
namespace Go.Proofs.Ytaaejidllnkpbaa
/-- The second form, under a short name, for the claim. -/
theorem octetJoinsUpto_holds : Rows.OctetJoinsUptoSaid := OctetJoins.over
#print axioms octetJoinsUpto_holds
end Go.Proofs.Ytaaejidllnkpbaa
