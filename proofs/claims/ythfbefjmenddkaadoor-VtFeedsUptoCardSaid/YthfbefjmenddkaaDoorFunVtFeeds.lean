/- What the functions that the law VtFeeds reaches do, each told once, and the law by them. No condition. -/
import Derived.Test.YthfbefjmenddkaaDoorFunOneVtFeeds
namespace Go.Proofs.YthfbefjmenddkaaDoor.VtFeeds
open Go Go.Proofs.YthfbefjmenddkaaDoorA
set_option linter.unusedSimpArgs false
set_option linter.unusedVariables false
set_option maxHeartbeats 4000000
set_option maxRecDepth 100000
attribute [local simp] body_eq exec_seq exec_region exec_skip exec_ret exec_exit exec_cond exec_block seqS_normal seqS_ret seqS_exit seqS_none seqS_bif regS_some regS_none regS_bif condS_bool condS_true
  condS_false blockS_normal blockS_ret blockS_exit blockS_none blockS_bif finS_normal finS_ret finS_bif steps_nil steps_cons steps_guard bindS_some bindS_none bindS_bif endS_some
  endS_skip endS_none endS_bif gstep_some gstep_true gstep_false wantV_true wantV_false wantV_undef wantV_gdv_true wantV_gdv_false gdv_true gdv_false aop_pick pickS_or pickS_and
  pickS_true pickS_false bif_bool put_some put_none Env.at_put Env.n_put at_init n_init Opd.ev ressA resA pack Heap.get_new Heap.get_set nextOf_new Heap.next_set nth fillV zeros over
  eqv read_eq read_zero readB_cells one_bool one_int one_str one_ptr one_nilptr one_slice one_nilslice cells_bool cells_int cells_str cells_ptr cells_nilptr cells_slice
  cells_nilslice cells_agg aop_move aop_box aop_boxv boxvS_agg boxvS_int boxvS_bool boxvS_str boxvS_slice boxvS_nilslice aop_build buildS_some aop_buildSlice buildSliceS_some
  aop_load loadS_ptr loadB_cells loadC_some aop_loadn loadnS_ptr aop_store storeS_ptr writeB_cells aop_bin binS_lss binS_leq binS_gtr binS_geq binS_eql binS_neq binS_add binS_sub
  binS_mul binS_quo binS_rem binS_and binS_or binS_xor binS_shl binS_shr binS_seql binS_sneq binS_sadd aop_eq eqS_some_f eqS_some_t aop_un unS_not unS_neg aop_conv convS_int
  aop_convStr convStrS_str aop_intStr intStrS_int aop_strBytes strBytesS_str aop_bytesStr bytesStrS_nil bytesStrS_slice aop_mkIface aop_mkFunc aop_makeSlice makeS_int aop_sliceStr
  sliceStrS_str sliceStrB_some someS_some aop_sliceSl aop_sliceArr sliceArrS_ptr aop_fieldAddr fieldAddrS_ptr aop_field fieldS_agg fieldS_aggn aop_indexAddrA indexAddrAS_ptr
  aop_indexAddrS indexAddrSS_slice aop_indexA indexAS_agg byteS_some aop_indexStr indexStrS_str aop_extract extractS_tuple aop_call callS_func aop_append aop_copy aop_lenS lenSS_str
  aop_lenL lenLS_nil lenLS_slice aop_minmax minmaxS_min minmaxS_max aop_convSame convSameS_slice convSameB_cells aop_lenC Heap.set_newE Heap.kill_newE Heap.set_new_ne
  Heap.set_gone_ne Heap.set_set Heap.get_gone Heap.next_gone loopE_n loopE_at Runs_some Ends_some Ends_none Runs_none VCL_nil VCL_cons VC_tuple VC_agg VC_bool VC_int VC_str VC_nil
  VC_nilptr VC_ptr VC_slice_nn VC_slice_ns VC_slice_s moved_at most_val lim_val next_add vlen_slice vlen_nil isSl_slice isSl_nil atP_slice newV sl_new slB_new slK_new sl_gone
  slB_gone slK_gone lt_slice lt_nil lt_ptr lt_cut sl_selfE slB_litE slK_litE asB asB_bytesOf asK asK_map slB_nil slK_nil slBs Fresh.new Fresh.gone indexE bytesStrE loadBE slice_lo
  slice_hi slice_lohi slB_cut vlen_cut isSl_cut one_cut cells_cut lenE aop_nilCheck nilCheckS_ptr aop_appendZ aop_eqArr IntKind.bits Int.fdiv_eq_ediv_of_nonneg bytesOf_length
  sameV_refl gval_true gval_false gval_some traceA_nil traceA_cons consT_some mapT_some stepV_none stepV_guard exec_any anyS_some chkOk_nil chkOk_cons sameS_some chk2_some chk1_eq
  envL_nil envL_cons heapL_nil heapL_cons heapO_some heapB_zero heapB_succ isWriter nth_bytesOf nth_ints str_hi str_lo wrap_i64 wrap_i32 wrap_u64 wrap_u32 wrap_u8 exec_float
  fltS_some traceG_nil traceG_cons consG_some viewS_some stepF_bif floatS_float isF isAlloc isReader actH_nil actH_cons1 act1_new act1_bare act1_new0 act1_bare0 read_gap sl_gap
  slB_gap slK_gap get_gap next_gap Fresh.gap aop_range rangeS_str aop_next aop_runesStr
attribute [local congr] gstep_congr gval_congr
noncomputable section
def ovOk (s : PS) : Prop := s.over = true → s.params.length = 16
theorem runeR_ok (cf : ACall) (hctl : ∀ a h, cf 32 a h = s_control a h) (hnone : ∀ a h, cf 31 a h = s_noneR a h) (hact : ∀ a h, cf 33 a h = s_actR a h) (g_escR : ARaw) (hEsc : ∀ a h, cf 34 a h = g_escR a h) (kEsc : IsStepR (fun _ _ => True) stEscR g_escR) (g_csiR : ARaw) (hCsi : ∀ a h, cf 35 a h = g_csiR a h) (kCsi : IsCsiR g_csiR) : IsStepR (fun s _ => ovOk s) stRune (bodyA cf 20 c20) := by
  intro hb H p vh vps s fr r hE hF hp hI hw hov
  have g0 : H.get p = some (.cells [vh, .int .i64 (s.st : Int), vps, .bool s.mark, .bool s.odd, .bool fr] 40 1 true) := hI.1
  have hpl := hF.lt hI.1
  have hpn : ¬ p = H.next := by omega
  obtain ⟨H0, hH0⟩ : ∃ A, A = H.new (.cells [.int .i64 0, .int .i32 0, .bool false, .nilslice] 30 1 true) := ⟨_, rfl⟩
  have n0 : H0.next = H.next + 1 := by rw [hH0]; rfl
  have q0 : Fresh H0 := by rw [hH0]; exact hF.new _
  have e0 : Ext H H0 := by rw [hH0]; exact Ext.new H _
  have hI0 : isRef hb H0 p vh s fr vps := ⟨e0.get hF hI.1, ownK_setR hI hF (by omega) fun q h1 _ => e0.2 q h1, hI.2.2⟩
  have gx0 : H0.get H.next = some (.cells [.int .i64 0, .int .i32 0, .bool false, .nilslice] 30 1 true) := by rw [hH0, Heap.get_new]; exact if_pos rfl
  have within : ∀ (x : PS × Option ActP) (v : V) (H' : Heap), StepR hb H0 p vh vps x v H' → ∃ cs ok, v = .tuple [.agg cs, .bool ok] ∧ (∃ c0 c1 c2 c3, cs = [c0, c1, c2, c3] ∧ c0.one = true ∧ c1.one = true ∧ c2.one = true ∧ c3.one = true) ∧ H'.get H.next = some (.cells [.int .i64 0, .int .i32 0, .bool false, .nilslice] 30 1 true) ∧ StepR hb H p vh vps x v (H'.set H.next (some (.cells cs 30 1 true))) := by
    rintro ⟨s', out⟩ v H' ⟨vps', f', a1, a2, a3, ⟨a4, a5, a5'⟩, a6, a7, a8⟩
    have hnp : H.next ≠ p := by omega
    have hvb : ∀ o n c, vps ≠ .slice H.next o n c := fun o n c h => by
      rcases hI.2.1 with ⟨h0, _⟩ | ⟨b, c', k1, k2, k3, k4, k5, k6⟩
      · rw [h0] at h; cases h
      · rw [k1] at h; injection h; omega
    have gx' : H'.get H.next = some (.cells [.int .i64 0, .int .i32 0, .bool false, .nilslice] 30 1 true) := by rw [a6 H.next (by omega) hnp hvb]; exact gx0
    have hst : ∀ cs, actR H (H'.set H.next (some (.cells cs 30 1 true))) vps' v out → StepR hb H p vh vps (s', out) v (H'.set H.next (some (.cells cs 30 1 true))) := fun cs ha => by
      have hk : ∀ q, q ≠ H.next → (H'.set H.next (some (.cells cs 30 1 true))).get q = H'.get q := fun q hq => by rw [Heap.get_set, if_neg hq]
      refine ⟨vps', f', ⟨a1.1, fun q hq => by rw [hk q (by have := hE.1; omega)]; exact a1.2 q hq⟩, a2.set (by omega) _, by show H.next ≤ H'.next; omega, ⟨by rw [hk p (by omega)]; exact a4, ?_, a5'⟩, fun q h1 h2 h3 => ?_, fun b o n c h => ?_, ha⟩
      · refine ownK_keep a5 (Nat.le_refl _) fun q cs' hq => hk q ?_
        rintro rfl
        rw [gx'] at hq
        injection hq with hq
        injection hq with _ e
        exact absurd e (by decide)
      · rw [hk q (by omega), a6 q (by omega) h2 h3]; exact e0.2 q h1
      · rcases a7 b o n c h with h1 | h1
        · exact .inl h1
        · exact .inr (by omega)
    cases out with
    | none =>
      have hv : v = _ := a8
      exact ⟨_, _, hv, ⟨_, _, _, _, rfl, rfl, rfl, rfl, rfl⟩, gx', hst _ a8⟩
    | some a =>
      obtain ⟨k, r', m, ps⟩ := a
      obtain ⟨vp, hv, b1, b2⟩ := a8
      have hone : vp.one = true := by rcases b1 with ⟨rfl, _⟩ | ⟨b, c, rfl, _⟩ <;> rfl
      refine ⟨_, _, hv, ⟨_, _, _, _, rfl, rfl, rfl, rfl, hone⟩, gx', hst _ ⟨vp, hv, ?_, b2⟩⟩
      rcases b1 with hh | ⟨b, c, k1, k2, k3, k4, k5, k6⟩
      · exact .inl hh
      · exact .inr ⟨b, c, k1, k2, by omega, k4, k5, by rw [Heap.get_set, if_neg (by omega)]; exact k6⟩
  have call_esc : s.st = 1 ∨ s.st = 5 ∧ r ≠ 92 → ∃ H' c0 c1 c2 c3 ok, g_escR [.ptr p 0, .int .i32 r] H0 = some (.tuple [.agg [c0, c1, c2, c3], .bool ok], H') ∧ c0.one = true ∧ c1.one = true ∧ c2.one = true ∧ c3.one = true ∧ H'.get H.next = some (.cells [.int .i64 0, .int .i32 0, .bool false, .nilslice] 30 1 true) ∧ StepR hb H p vh vps (stRune s r) (.tuple [.agg [c0, c1, c2, c3], .bool ok]) (H'.set H.next (some (.cells [c0, c1, c2, c3] 30 1 true))) := fun hst => by
    obtain ⟨v, H', k1, k2⟩ := kEsc hb H0 p vh vps s fr r (hE.trans e0) q0 hp hI0 hw trivial
    have heq : stEscR s r = stRune s r := by
      unfold stEscR stRune
      by_cases h27 : r = 27
      · rw [if_pos h27, if_pos h27, if_neg (by omega)]
      · rw [if_neg h27, if_neg h27]
        rcases hst with h | ⟨h, h92⟩
        · rw [if_pos h]
        · rw [if_neg (by omega), if_neg (by omega), if_neg (by omega), if_neg (by omega), if_pos h, if_neg h92]
    rw [heq] at k2
    obtain ⟨cs, ok, rfl, ⟨x0, x1, x2, x3, rfl, o0, o1, o2, o3⟩, gx', hst'⟩ := within _ _ _ k2
    exact ⟨H', x0, x1, x2, x3, ok, k1, o0, o1, o2, o3, gx', hst'⟩
  show Runs _ _
  by_cases c2 : s.st = 1
  · obtain ⟨H', x0, x1, x2, x3, ok, k1, o0, o1, o2, o3, gx', hst⟩ := call_esc (.inl c2)
    rw [c2] at g0
    simp (config := {maxSteps := 1000000, maxDischargeDepth := 9, implicitDefEqProofs := false}) [c20, ← hH0, g0, hI0.1, refCells, c2, hEsc, k1, gx', o0, o1, o2, o3]
    exact hst
  have f1 : ((s.st : Int) == 1) = false := beq_eq_false_iff_ne.2 (by omega)
  by_cases c3 : s.st = 2
  · rw [c3] at g0
    unfold stRune
    by_cases h27 : r = 27
    · subst h27
      rw [if_pos rfl, if_neg (by omega)]
      simp (config := {maxSteps := 1000000, maxDischargeDepth := 9, implicitDefEqProofs := false}) [c20, g0, hpn, hnone, s_noneR, actV]
      exact step_boxR (s' := { s with st := 1 }) (f' := fr) hE hF hp hI rfl (fun h => by cases h) fun _ => act_none _ _ _
    · have d1 : (r == 27) = false := beq_eq_false_iff_ne.2 h27
      rw [if_neg h27, if_neg c2, if_pos c3]
      simp (config := {maxSteps := 1000000, maxDischargeDepth := 9, implicitDefEqProofs := false}) [c20, d1, g0, hpn, hnone, s_noneR, actV]
      exact step_boxR (s' := { s with st := 0 }) (f' := fr) hE hF hp hI rfl (fun h => by cases h) fun _ => act_none _ _ _
  have f2 : ((s.st : Int) == 2) = false := beq_eq_false_iff_ne.2 (by omega)
  by_cases c4 : s.st = 3
  · obtain ⟨v, H', k1, k2⟩ := kCsi hb H0 p vh vps s fr r (hE.trans e0) q0 hp hI0 hw ⟨c4, hov⟩
    have heq : stCsiR s r = stRune s r := by
      unfold stCsiR stRune
      by_cases h27 : r = 27
      · rw [if_pos h27, if_pos h27, if_neg (by omega)]
      · rw [if_neg h27, if_neg h27, if_neg c2, if_neg c3, if_pos c4]
    rw [heq] at k2
    obtain ⟨cs, ok, rfl, ⟨x0, x1, x2, x3, rfl, o0, o1, o2, o3⟩, gx', hst⟩ := within _ _ _ k2
    rw [c4] at g0
    simp (config := {maxSteps := 1000000, maxDischargeDepth := 9, implicitDefEqProofs := false}) [c20, ← hH0, g0, hI0.1, refCells, c4, hCsi, k1, gx', o0, o1, o2, o3]
    exact hst
  have f3 : ((s.st : Int) == 3) = false := beq_eq_false_iff_ne.2 (by omega)
  by_cases c5 : s.st = 4
  · rw [c5] at g0
    unfold stRune
    by_cases h27 : r = 27
    · subst h27
      rw [if_pos rfl, if_pos c5]
      simp (config := {maxSteps := 1000000, maxDischargeDepth := 9, implicitDefEqProofs := false}) [c20, g0, hpn, hnone, s_noneR, actV]
      exact step_boxR (s' := { s with st := 5 }) (f' := fr) hE hF hp hI rfl (fun h => by cases h) fun _ => act_none _ _ _
    · have d1 : (r == 27) = false := beq_eq_false_iff_ne.2 h27
      rw [if_neg h27, if_neg c2, if_neg c3, if_neg c4, if_pos c5]
      by_cases c6 : r = 7 ∨ r = 24 ∨ r = 26
      · rw [if_pos c6]
        rcases c6 with rfl | rfl | rfl
        all_goals
          simp (config := {maxSteps := 1000000, maxDischargeDepth := 9, implicitDefEqProofs := false}) [c20, g0, hpn, hnone, s_noneR, actV]
          exact step_boxR (s' := { s with st := 0 }) (f' := fr) hE hF hp hI rfl (fun h => by cases h) fun _ => act_none _ _ _
      · rw [if_neg c6]
        have b1 : (r == 7) = false := beq_eq_false_iff_ne.2 (by omega)
        have b2 : (r == 24) = false := beq_eq_false_iff_ne.2 (by omega)
        have b3 : (r == 26) = false := beq_eq_false_iff_ne.2 (by omega)
        simp (config := {maxSteps := 1000000, maxDischargeDepth := 9, implicitDefEqProofs := false}) [c20, d1, g0, hpn, b1, b2, b3, hnone, s_noneR, actV]
        have he : ({ s with st := 4 } : PS) = s := by rw [← c5]
        rw [he]
        exact step_sameR hE hF hp hI fun _ => act_none _ _ _
  have f4 : ((s.st : Int) == 4) = false := beq_eq_false_iff_ne.2 (by omega)
  by_cases c6 : s.st = 5
  · by_cases c7 : r = 92
    · subst c7
      rw [c6] at g0
      unfold stRune
      rw [if_neg (by omega), if_neg c2, if_neg c3, if_neg c4, if_neg c5, if_pos c6, if_pos rfl]
      simp (config := {maxSteps := 1000000, maxDischargeDepth := 9, implicitDefEqProofs := false}) [c20, g0, hpn, hnone, s_noneR, actV]
      exact step_boxR (s' := { s with st := 0 }) (f' := fr) hE hF hp hI rfl (fun h => by cases h) fun _ => act_none _ _ _
    · have d2 : (r == 92) = false := beq_eq_false_iff_ne.2 c7
      obtain ⟨H', x0, x1, x2, x3, ok, k1, o0, o1, o2, o3, gx', hst⟩ := call_esc (.inr ⟨c6, c7⟩)
      rw [c6] at g0
      simp (config := {maxSteps := 1000000, maxDischargeDepth := 9, implicitDefEqProofs := false}) [c20, ← hH0, g0, hI0.1, refCells, c6, d2, hEsc, k1, gx', o0, o1, o2, o3]
      exact hst
  have c8 : s.st = 0 := by have := hw.1; omega
  rw [c8] at g0
  unfold stRune
  by_cases h27 : r = 27
  · subst h27
    rw [if_pos rfl, if_neg c5]
    simp (config := {maxSteps := 1000000, maxDischargeDepth := 9, implicitDefEqProofs := false}) [c20, g0, hpn, hnone, s_noneR, actV]
    exact step_boxR (s' := { s with st := 1 }) (f' := fr) hE hF hp hI rfl (fun h => by cases h) fun _ => act_none _ _ _
  have d1 : (r == 27) = false := beq_eq_false_iff_ne.2 h27
  rw [if_neg h27, if_neg c2, if_neg c3, if_neg c4, if_neg c5, if_neg c6]
  unfold stPlain
  cases h1 : ctl r with
  | true =>
    rw [if_pos rfl]
    simp (config := {maxSteps := 1000000, maxDischargeDepth := 9, implicitDefEqProofs := false}) [c20, d1, g0, hpn, hctl, s_control, h1, hact, s_actR]
    exact step_sameR hE hF hp hI fun _ => act_some _ _ _ _ _
  | false =>
    rw [if_neg (by intro h; cases h)]
    by_cases q : r < 32
    · rw [if_pos (.inl q)]
      simp (config := {maxSteps := 1000000, maxDischargeDepth := 9, implicitDefEqProofs := false}) [c20, d1, g0, hpn, hctl, s_control, h1, q, hnone, s_noneR, actV]
      exact step_sameR hE hF hp hI fun _ => act_none _ _ _
    by_cases q' : r = 127
    · subst q'
      rw [if_pos (.inr rfl)]
      simp (config := {maxSteps := 1000000, maxDischargeDepth := 9, implicitDefEqProofs := false}) [c20, g0, hpn, hctl, s_control, h1, hnone, s_noneR, actV]
      exact step_sameR hE hF hp hI fun _ => act_none _ _ _
    have d2 : (r == 127) = false := beq_eq_false_iff_ne.2 q'
    rw [if_neg (by omega)]
    simp (config := {maxSteps := 1000000, maxDischargeDepth := 9, implicitDefEqProofs := false}) [c20, d1, d2, g0, hpn, hctl, s_control, h1, q, hact, s_actR]
    exact step_sameR hE hF hp hI fun _ => act_some _ _ _ _ _

/-- The digits of a number. -/
def digs : Nat → Nat → List Nat
  | 0, n => [48 + n]
  | k + 1, n => if n < 10 then [48 + n] else digs k (n / 10) ++ [48 + n % 10]
theorem digs_one {k n : Nat} (h : n < 10) : digs k n = [48 + n] := by
  cases k with
  | zero => rfl
  | succ k => simp only [digs]; rw [if_pos h]
theorem digs_length : ∀ (k n : Nat), (digs k n).length ≤ k + 1
  | 0, n => Nat.le_refl _
  | k + 1, n => by
    simp only [digs]
    split
    · simp
    · rw [List.length_append, List.length_singleton]; have := digs_length k (n / 10); omega
def s_num (k : Nat) : List V → Heap → Option (V × Heap)
  | [.int .i64 n], h => if 0 ≤ n ∧ n < ((10 ^ k : Nat) : Int) then some (.str (digs (k - 1) n.toNat), h) else none
  | _, _ => none
def s_num1 : List V → Heap → Option (V × Heap) := s_num 1
def s_num2 : List V → Heap → Option (V × Heap) := s_num 2
def s_num3 : List V → Heap → Option (V × Heap) := s_num 3
def s_num4 : List V → Heap → Option (V × Heap) := s_num 4
def s_num5 : List V → Heap → Option (V × Heap) := s_num 5
theorem num_small (cf : ACall) (k : Nat) (hk : 1 ≤ k) (h : Heap) (n : Nat) (h10 : n < 10) (hf : Fresh h) (hsc : Scoped h) : ∃ N, Runs (bodyA cf N c26 [.int .i64 (n : Int)] h) fun v2 h2 => ∃ τ, Canon h.next h2 v2 h (.str (digs (k - 1) n)) τ := by
  refine ⟨1, ?_⟩
  rw [digs_one h10]
  have h10I : (n : Int) < 10 := by omega
  have w1 : wrapF .i64 (48 + (n : Int)) = ((48 + n : Nat) : Int) := by rw [wrap_i64 (by omega) (by omega)]; omega
  have w2 : wrapF .u8 ((48 + n : Nat) : Int) = ((48 + n : Nat) : Int) := wrap_u8 (by omega) (by omega)
  obtain ⟨y, hy⟩ : ∃ y, y = 48 + n := ⟨_, rfl⟩
  rw [← hy] at w1 w2
  obtain ⟨A, hA⟩ : ∃ A, A = h.new (.cells [.int .u8 (y : Int)] 5 1 true) := ⟨_, rfl⟩
  have hs : slB A (.slice h.next 0 1 (some 1)) = some [y] := by
    rw [hA]
    exact slB_selfE (s := [y]) rfl rfl (.inr rfl) (fun z hz => by rw [List.mem_singleton.1 hz]; omega)
  have hb : bytesStrS (.slice h.next 0 1 (some 1)) A = some (.str [y], A) := rdB_str (slB_rdB hs)
  rw [← hy]
  simp (config := {maxSteps := 1000000, maxDischargeDepth := 9, implicitDefEqProofs := false}) [c26, h10, h10I, w1, w2, ← hA, hb]
  exact Canon.keep hf hsc (by rw [hA]; exact Ext.new _ _) (by simp only [V.lt])
theorem number1_ok (cf : ACall) : Sum cf c26 s_num1 := by
  intro args h v h' hf hsc hlt hs
  unfold s_num1 s_num at hs
  split at hs
  · rename_i n
    split at hs
    · rename_i hn
      simp only [Option.some.injEq, Prod.mk.injEq] at hs
      obtain ⟨rfl, rfl⟩ := hs
      obtain ⟨m, rfl⟩ : ∃ m : Nat, n = (m : Int) := ⟨n.toNat, by omega⟩
      rw [Int.toNat_natCast]
      exact num_small cf 1 (by omega) h m (by have := hn.2; omega) hf hsc
    · cases hs
  · cases hs
theorem num_step (cf : ACall) (k : Nat) (hk : 1 ≤ k) (hk9 : k ≤ 9) (hNum : ∀ a h, cf 26 a h = s_num k a h) : Sum cf c26 (s_num (k + 1)) := by
  intro args h v h' hf hsc hlt hs
  unfold s_num at hs
  split at hs
  · rename_i n
    split at hs
    · rename_i hn
      simp only [Option.some.injEq, Prod.mk.injEq] at hs
      obtain ⟨rfl, rfl⟩ := hs
      obtain ⟨m, rfl⟩ : ∃ m : Nat, n = (m : Int) := ⟨n.toNat, by omega⟩
      rw [Int.toNat_natCast]
      have hm : m < 10 ^ (k + 1) := by have := hn.2; omega
      by_cases h10 : m < 10
      · exact num_small cf (k + 1) (by omega) h m h10 hf hsc
      · refine ⟨1, ?_⟩
        have h10I : ¬ (m : Int) < 10 := by omega
        have hq : m / 10 < 10 ^ k := by rw [Nat.pow_succ] at hm; omega
        have hk10 : 10 ≤ 10 ^ k := by
          have := Nat.pow_le_pow_right (n := 10) (by omega) hk
          simpa using this
        obtain ⟨q, hqe⟩ : ∃ q, q = m / 10 := ⟨_, rfl⟩
        obtain ⟨r, hre⟩ : ∃ r, r = m % 10 := ⟨_, rfl⟩
        have d1 : (m : Int).tdiv 10 = (q : Int) := by rw [Int.tdiv_eq_ediv_of_nonneg (by omega)]; omega
        have d2 : (m : Int).tmod 10 = (r : Int) := by rw [Int.tmod_eq_emod_of_nonneg (by omega)]; omega
        have r1 : s_num k [.int .i64 (q : Int)] h = some (.str (digs (k - 1) q), h) := by
          show (if 0 ≤ (q : Int) ∧ (q : Int) < ((10 ^ k : Nat) : Int) then some (V.str (digs (k - 1) (q : Int).toNat), h) else none) = _
          rw [if_pos ⟨by omega, by omega⟩, Int.toNat_natCast]
        have r2 : s_num k [.int .i64 (r : Int)] h = some (.str [48 + r], h) := by
          show (if 0 ≤ (r : Int) ∧ (r : Int) < ((10 ^ k : Nat) : Int) then some (V.str (digs (k - 1) (r : Int).toNat), h) else none) = _
          rw [if_pos ⟨by omega, by omega⟩, Int.toNat_natCast, digs_one (by omega)]
        have hd : digs (k + 1 - 1) m = digs (k - 1) q ++ [48 + r] := by
          obtain ⟨j, rfl⟩ : ∃ j, k = j + 1 := ⟨k - 1, by omega⟩
          show digs (j + 1) m = _
          simp only [digs]
          rw [if_neg h10, hqe, hre]; rfl
        have hl := digs_length (k - 1) q
        rw [hd]
        have hm64 : m < 9223372036854775808 := by
          have h1 : 10 ^ (k + 1) ≤ 10 ^ 10 := Nat.pow_le_pow_right (by omega) (by omega)
          have h2 : (10 : Nat) ^ 10 = 10000000000 := rfl
          omega
        generalize digs (k - 1) q = D at *
        have wq : wrapF .i64 (q : Int) = (q : Int) := wrap_i64 (by omega) (by omega)
        have hle : D.length + 1 ≤ 4611686018427387904 := by omega
        simp (config := {maxSteps := 1000000, maxDischargeDepth := 9, implicitDefEqProofs := false}) [c26, h10, h10I, d1, d2, wq, hNum, r1, r2, hle]
        exact Canon.keep hf hsc (Ext.refl _) (by simp only [V.lt])
    · cases hs
  · cases hs
theorem number2_ok (cf : ACall) (hNum : ∀ a h, cf 26 a h = s_num1 a h) : Sum cf c26 s_num2 := by exact num_step cf 1 (by omega) (by omega) hNum
theorem number3_ok (cf : ACall) (hNum : ∀ a h, cf 26 a h = s_num2 a h) : Sum cf c26 s_num3 := by exact num_step cf 2 (by omega) (by omega) hNum
theorem number4_ok (cf : ACall) (hNum : ∀ a h, cf 26 a h = s_num3 a h) : Sum cf c26 s_num4 := by exact num_step cf 3 (by omega) (by omega) hNum
theorem number5_ok (cf : ACall) (hNum : ∀ a h, cf 26 a h = s_num4 a h) : Sum cf c26 s_num5 := by exact num_step cf 4 (by omega) (by omega) hNum

def strOk : V → Bool
  | .str s => decide (s.length ≤ 60) && s.all fun y => decide (y < 256)
  | _ => false
theorem parts_all : (laidOf 0).all strOk = true := by kernel_rfl
theorem more_all : (laidOf 1).all strOk = true := by kernel_rfl
theorem parts_length : (laidOf 0).length = 34 := by kernel_rfl
theorem more_length : (laidOf 1).length = 22 := by kernel_rfl
theorem laid_parts : (0, laidOf 0) ∈ laidVals := List.mem_of_find?_eq_some (p := fun x => x.1 == 0) (by kernel_rfl)
theorem laid_more : (1, laidOf 1) ∈ laidVals := List.mem_of_find?_eq_some (p := fun x => x.1 == 1) (by kernel_rfl)
theorem table_str {H : Heap} {g n m : Nat} {vs : List V} (hL : hasLaid laidVals H) (hm : (g, vs) ∈ laidVals) (ha : vs.all strOk = true) (hl : vs.length = m) (hn : n < m) : ∃ q, loadB (H.get g) n H = some (.str q, H) ∧ q.length ≤ 60 ∧ ∀ y ∈ q, y < 256 := by
  obtain ⟨t, ht⟩ := hL _ hm
  have ht : H.get g = some (.cells vs t 1 false) := ht
  have hx : vs[n]? = some (vs[n]'(by omega)) := List.getElem?_eq_getElem (by omega)
  have hok := List.all_eq_true.1 ha _ (List.getElem_mem (by omega : n < vs.length))
  generalize vs[n]'(by omega) = x at *
  cases x with
  | str q =>
    unfold strOk at hok
    simp only [Bool.and_eq_true, decide_eq_true_eq, List.all_eq_true] at hok
    refine ⟨q, ?_, hok.1, hok.2⟩
    rw [ht, loadB_cells]
    have : nth vs n = vs[n]? := nth_eq _ _
    rw [this, hx, loadC_some]
  | _ => cases hok
def IsOutput (g : ARaw) : Prop := ∀ (H : Heap) (vl : V) (l : List Int), Fresh H → hasLaid laidVals H → slK .i64 H vl = some l → ∃ s H', g [vl, .int .i64 9] H = some (.str s, H') ∧ Ext H H' ∧ Fresh H' ∧ s.length ≤ 8000 ∧ ∀ y ∈ s, y < 256
theorem out_digs {m : Nat} (hm : m < 100) : (digs 4 m).length ≤ 5 ∧ (∀ y ∈ digs 4 m, y < 256) ∧ ∀ K, s_num5 [.int .i64 (m : Int)] K = some (.str (digs 4 m), K) := by
  refine ⟨digs_length 4 m, ?_, fun K => ?_⟩
  · have h1 : ∀ (k n : Nat), n < 100 → ∀ y ∈ digs k n, y < 256 := by
      intro k
      induction k with
      | zero => intro n hn y hy; have : y = 48 + n := by simpa [digs] using hy
                omega
      | succ k ih =>
        intro n hn y hy
        simp only [digs] at hy
        split at hy
        · have : y = 48 + n := by simpa using hy
          omega
        · rcases List.mem_append.1 hy with h | h
          · exact ih (n / 10) (by omega) y h
          · have : y = 48 + n % 10 := by simpa using h
            omega
    exact h1 4 m hm
  · have h5 : (m : Int) < ((10 ^ 5 : Nat) : Int) := by
      have : (10 : Nat) ^ 5 = 100000 := rfl
      rw [this]; omega
    unfold s_num5 s_num
    simp only
    rw [if_pos ⟨by omega, h5⟩, Int.toNat_natCast]
theorem pick_nat (z : Int) (n : Nat) (N : Int) (hN : N = n) (hn : 0 < n) (hn2 : n ≤ 1000) : ∃ k : Nat, k < n ∧ ∀ K, s_Pick [.int .i64 z, .int .i64 N] K = some (.int .i64 (k : Int), K) := by
  subst hN
  have p0 := Int.emod_nonneg z (show (n : Int) ≠ 0 by omega)
  have p1 := Int.emod_lt_of_pos z (show (0 : Int) < n by omega)
  refine ⟨(z % n).toNat, by omega, fun K => ?_⟩
  show (if (0 : Int) < n ∧ (n : Int) ≤ 4611686018427387904 then some (V.int .i64 (z % n), K) else none) = _
  rw [if_pos (by omega)]
  congr 3
  omega
theorem output_ok (cf : ACall) (hPick : ∀ a h, cf 13 a h = s_Pick a h) (hNum : ∀ a h, cf 26 a h = s_num5 a h) : IsOutput (bodyA cf 100 c15) := by
  intro H0 vl l hF0 hL hl
  have hsl := slK_isSl hl
  have hvl := slK_vlen hl
  obtain ⟨M, hM⟩ : ∃ M, M = min 80 l.length := ⟨_, rfl⟩
  have L := loop_count (cf := cf) (N := 100) (c := c15_l0) M
    (fun i e H => e.n = 78 ∧ e.at 0 = vl ∧ e.at 1 = .int .i64 9 ∧ e.at 6 = .int .i64 (i : Int) ∧ Ext H0 H ∧ Fresh H ∧ ∃ S, e.at 5 = .str S ∧ S.length ≤ 100 * i ∧ ∀ y ∈ S, y < 256)
    (fun x e H => x = .exit 0 ∧ e.n = 78 ∧ Ext H0 H ∧ Fresh H ∧ ∃ S, e.at 5 = .str S ∧ S.length ≤ 8000 ∧ ∀ y ∈ S, y < 256)
    (by
      rintro i e H hi ⟨hn, q0, q1, q6, hE, hF, S, q5, hSl, hSlt⟩
      have hil : i < l.length := by omega
      have hilI : (i : Int) < (l.length : Int) := by omega
      have hi40 : (i : Int) < 80 := by omega
      have hi40n : i < 80 := by omega
      obtain ⟨r, hr⟩ : ∃ r, l[i]? = some r := ⟨_, List.getElem?_eq_getElem hil⟩
      have hload := rd_load (sl_rd (slK_sl (slK_ext hE hF0 hl))) (j := i) (x := .int .i64 r) (by rw [List.getElem?_map, hr]; rfl)
      have hidx := indexE (z := 1) hsl H (k := .i64) (i := (i : Int)) (by omega) (by rw [hvl]; omega)
      simp only [Int.toNat_natCast, Nat.mul_one] at hidx
      obtain ⟨n, hn64, rP⟩ := pick_nat r 64 64 rfl (by omega) (by omega)
      have wi : wrapF .i64 ((i : Int) + 1) = (i : Int) + 1 := wrap_i64 (by omega) (by omega)
      have hLH := hasLaid_ext hL hF0 hE
      by_cases c1 : n < 34
      · have c1I : (n : Int) < 34 := by omega
        obtain ⟨q, hq1, hq2, hq3⟩ := table_str hLH laid_parts parts_all parts_length c1
        have hle : S.length + q.length ≤ 4611686018427387904 := by omega
        simp (config := {maxSteps := 1000000, maxDischargeDepth := 9, implicitDefEqProofs := false}) [c15_l0, hn, q0, q1, q5, q6, lenE hsl, hvl, hilI, hil, hi40, hi40n, hidx, hload, hPick, rP, c1, c1I, hq1, hle, wi]
        exact ⟨hE, hF, by omega, fun y hy => hy.elim (hSlt y) (hq3 y)⟩
      have c1I : ¬ (n : Int) < 34 := by omega
      by_cases c2 : n < 56
      · have c2I : (n : Int) < 56 := by omega
        obtain ⟨q, hq1, hq2, hq3⟩ := table_str hLH laid_more more_all more_length (n := n - 34) (by omega)
        have hle : S.length + q.length ≤ 4611686018427387904 := by omega
        have w1 : wrapF .i64 ((n : Int) - 34) = ((n - 34 : Nat) : Int) := by rw [wrap_i64 (by omega) (by omega)]; omega
        obtain ⟨k, hk⟩ : ∃ k, k = n - 34 := ⟨_, rfl⟩
        rw [← hk] at w1 hq1
        have hk22 : k < 22 := by omega
        have hk22I : (k : Int) < 22 := by omega
        simp (config := {maxSteps := 1000000, maxDischargeDepth := 9, implicitDefEqProofs := false}) [c15_l0, hn, q0, q1, q5, q6, lenE hsl, hvl, hilI, hil, hi40, hi40n, hidx, hload, hPick, rP, c1, c1I, c2, c2I, w1, hk22, hk22I, hq1, hle, wi]
        exact ⟨hE, hF, by omega, fun y hy => hy.elim (hSlt y) (hq3 y)⟩
      have c2I : ¬ (n : Int) < 56 := by omega
      by_cases c3 : n < 59
      · have c3I : (n : Int) < 59 := by omega
        obtain ⟨m1, h1, rP1⟩ := pick_nat (wrapF .i64 (r.tdiv 64)) 11 11 rfl (by omega) (by omega)
        obtain ⟨m2, h2, rP2⟩ := pick_nat (wrapF .i64 (r.tdiv 640)) 12 12 rfl (by omega) (by omega)
        obtain ⟨a1, a2, a3⟩ := out_digs (m := m1) (by omega)
        obtain ⟨b1, b2, b3⟩ := out_digs (m := m2) (by omega)
        generalize digs 4 m1 = D1 at *
        generalize digs 4 m2 = D2 at *
        have hle1 : S.length + 2 ≤ 4611686018427387904 := by omega
        have hle2 : S.length + 2 + D1.length ≤ 4611686018427387904 := by omega
        have hle3 : S.length + (D1.length + 1 + 1) ≤ 4611686018427387903 := by omega
        have hle4 : S.length + (D1.length + 1 + 1 + 1) + D2.length ≤ 4611686018427387904 := by omega
        have hle5 : S.length + (D1.length + (D2.length + 1) + 1 + 1) ≤ 4611686018427387903 := by omega
        simp (config := {maxSteps := 1000000, maxDischargeDepth := 9, implicitDefEqProofs := false}) [c15_l0, hn, q0, q1, q5, q6, lenE hsl, hvl, hilI, hil, hi40, hi40n, hidx, hload, hPick, rP, c1, c1I, c2, c2I, c3, c3I, rP1, rP2, hNum, a3, b3, hle1, hle2, hle3, hle4, hle5, wi]
        refine ⟨hE, hF, by omega, fun y hy => ?_⟩
        rcases hy with h | h | h | h | h | h | h
        · exact hSlt y h
        · omega
        · omega
        · exact a2 y h
        · omega
        · exact b2 y h
        · omega
      have c3I : ¬ (n : Int) < 59 := by omega
      obtain ⟨m1, h1, rP1⟩ := pick_nat (wrapF .i64 (r.tdiv 64)) 12 12 rfl (by omega) (by omega)
      obtain ⟨m2, h2, rP2⟩ := pick_nat (wrapF .i64 (r.tdiv 800)) 18 18 rfl (by omega) (by omega)
      obtain ⟨a1, a2, a3⟩ := out_digs (m := m1) (by omega)
      have h2I : (m2 : Int) < 18 := by omega
      obtain ⟨C, hC⟩ : ∃ C, ([65, 66, 67, 68, 69, 70, 71, 100, 76, 77, 64, 80, 88, 83, 84, 74, 75, 109] : List Nat)[m2]? = some C := ⟨_, List.getElem?_eq_getElem (by exact h2)⟩
      have hCb : C < 256 := by
        have hall : ([65, 66, 67, 68, 69, 70, 71, 100, 76, 77, 64, 80, 88, 83, 84, 74, 75, 109] : List Nat).all (fun y => decide (y < 256)) = true := by decide
        exact of_decide_eq_true (List.all_eq_true.1 hall C (List.mem_of_getElem? hC))
      have hgC : ∀ hh : m2 < ([65, 66, 67, 68, 69, 70, 71, 100, 76, 77, 64, 80, 88, 83, 84, 74, 75, 109] : List Nat).length, ([65, 66, 67, 68, 69, 70, 71, 100, 76, 77, 64, 80, 88, 83, 84, 74, 75, 109] : List Nat)[m2]'hh = C := fun hh => (List.getElem?_eq_some_iff.1 hC).2
      generalize digs 4 m1 = D1 at *
      obtain ⟨A, hA⟩ : ∃ A, A = H.new (.cells [.int .u8 (C : Int)] 5 1 true) := ⟨_, rfl⟩
      have eA : Ext H A := by rw [hA]; exact Ext.new _ _
      have fA : Fresh A := by rw [hA]; exact hF.new _
      have hs : slB A (.slice H.next 0 1 (some 1)) = some [C] := by
        rw [hA]
        exact slB_selfE (s := [C]) rfl rfl (.inr rfl) (fun z hz => by rw [List.mem_singleton.1 hz]; omega)
      have hb : bytesStrS (.slice H.next 0 1 (some 1)) A = some (.str [C], A) := rdB_str (slB_rdB hs)
      have hle1 : S.length + 2 ≤ 4611686018427387904 := by omega
      have hle2 : S.length + 2 + D1.length ≤ 4611686018427387904 := by omega
      have hle3 : S.length + (D1.length + 1 + 1) ≤ 4611686018427387903 := by omega
      simp (config := {maxSteps := 1000000, maxDischargeDepth := 9, implicitDefEqProofs := false}) [c15_l0, hn, q0, q1, q5, q6, lenE hsl, hvl, hilI, hil, hi40, hi40n, hidx, hload, hPick, rP, c1, c1I, c2, c2I, c3, c3I, rP1, rP2, hNum, a3, h2, h2I, hC, hgC, ← hA, hb, hle1, hle2, hle3, wi]
      refine ⟨hE.trans eA, fA, by omega, fun y hy => ?_⟩
      rcases hy with h | h | h | h | h
      · exact hSlt y h
      · omega
      · omega
      · exact a2 y h
      · omega)
    (by
      rintro e H ⟨hn, q0, q1, q6, hE, hF, S, q5, hSl, hSlt⟩
      by_cases h60 : 80 < l.length
      · have : M = 80 := by omega
        subst this
        simp (config := {maxSteps := 1000000, maxDischargeDepth := 9, implicitDefEqProofs := false}) [c15_l0, hn, q0, q5, q6, lenE hsl, hvl, h60, show (80 : Int) < (l.length : Int) from by omega]
        exact ⟨hE, hF, by omega, hSlt⟩
      · have : M = l.length := by omega
        subst this
        simp (config := {maxSteps := 1000000, maxDischargeDepth := 9, implicitDefEqProofs := false}) [c15_l0, hn, q0, q5, q6, lenE hsl, hvl]
        exact ⟨hE, hF, by omega, hSlt⟩)
  have h := fun (e : Env) => L 0 e H0 (Nat.zero_le _)
  have hR : Runs (bodyA cf 100 c15 [vl, .int .i64 9] H0) fun v H' => ∃ s, v = .str s ∧ Ext H0 H' ∧ Fresh H' ∧ s.length ≤ 8000 ∧ ∀ y ∈ s, y < 256 := by
    simp (config := {maxSteps := 1000000, maxDischargeDepth := 9, implicitDefEqProofs := false}) [c15]
    refine loop_then (K := fun r => finS _ (seqS _ _ _ (blockS _ r))) (L 0 _ _ (Nat.zero_le _) ?_ (by omega)) ?_
    · simp (config := {maxSteps := 1000000, maxDischargeDepth := 9, implicitDefEqProofs := false})
      exact ⟨Ext.refl _, hF0⟩
    · rintro x e' H ⟨rfl, hn, hE, hF, S, q5, hSl, hSlt⟩
      simp (config := {maxSteps := 1000000, maxDischargeDepth := 9, implicitDefEqProofs := false}) [hn, q5]
      exact ⟨hE, hF, hSl, hSlt⟩
  obtain ⟨v, H', h1, s, rfl, h2, h3, h4, h5⟩ := hR
  exact ⟨s, H', h1, h2, h3, h4, h5⟩

def t28 : List (List Nat) := [[27], [91], [93], [80], [92], [7], [24], [26], [63], [59], [48], [49], [57], [50, 53], [109], [72], [104], [40], [35], [32], [33], [58], [127], [10], [1], [226, 130, 172], [55], [97]]
def pick3 (t : List (List Nat)) (n : Int) (z : Int) : List Nat := t.getD (z % n).toNat []
theorem pick3_mem {t : List (List Nat)} {n : Nat} (ht : t.length = n) (hn : 0 < n) (z : Int) : pick3 t (n : Int) z ∈ t := by
  have h0 := Int.emod_nonneg z (show (n : Int) ≠ 0 by omega)
  have h1 := Int.emod_lt_of_pos z (show (0 : Int) < n by omega)
  unfold pick3
  have hl : (z % n).toNat < t.length := by omega
  rw [List.getD_eq_getElem?_getD, List.getElem?_eq_getElem hl]
  exact List.getElem_mem _
theorem pick_str {t : List (List Nat)} {n k : Nat} (hk : k < t.length) : ∀ hh : k < (t.map V.str).length, (t.map V.str)[k]'hh = .str (t.getD k []) := fun hh => by
  have h1 : (t.map V.str)[k]? = some (.str (t.getD k [])) := by
    rw [List.getElem?_map, List.getD_eq_getElem?_getD, List.getElem?_eq_getElem hk]; rfl
  exact (List.getElem?_eq_some_iff.1 h1).2
theorem t28_ok : t28.all (fun q => decide (q.length ≤ 3) && q.all fun y => decide (y < 256)) = true := by decide
/-- The law's text. -/
def textS (l : List Int) : List Nat := ((l.take 80).map (pick3 t28 28)).flatten
theorem texts_len (l : List Int) (i : Nat) : ((l.take i).map (pick3 t28 28)).flatten.length ≤ 3 * i ∧ ∀ y ∈ ((l.take i).map (pick3 t28 28)).flatten, y < 256 := by
  have h1 : ∀ ps : List (List Nat), (∀ q ∈ ps, q ∈ t28) → ps.flatten.length ≤ 3 * ps.length ∧ ∀ y ∈ ps.flatten, y < 256 := by
    intro ps
    induction ps with
    | nil => intro _; exact ⟨Nat.zero_le _, fun y hy => (List.not_mem_nil hy).elim⟩
    | cons q ps ih =>
      intro hq
      obtain ⟨i1, i2⟩ := ih (fun x hx => hq x (List.mem_cons_of_mem _ hx))
      have h2 := List.all_eq_true.1 t28_ok q (hq q (List.mem_cons_self ..))
      simp only [Bool.and_eq_true, decide_eq_true_eq, List.all_eq_true] at h2
      rw [List.flatten_cons, List.length_append, List.length_cons]
      exact ⟨by omega, fun y hy => (List.mem_append.1 hy).elim (h2.2 y) (i2 y)⟩
  have h2 := h1 ((l.take i).map (pick3 t28 28)) (fun q hq => by
    obtain ⟨z, _, rfl⟩ := List.mem_map.1 hq
    exact pick3_mem (t := t28) (n := 28) rfl (by omega) z)
  rw [List.length_map, List.length_take] at h2
  exact ⟨by omega, h2.2⟩
def s_text : List V → Heap → Option (V × Heap)
  | [vl], h => match slK .i64 h vl with
    | some l => some (.str (textS l), h)
    | none => none
  | _, _ => none
theorem text_ok (cf : ACall) (hPick : ∀ a h, cf 13 a h = s_Pick a h) : Sum cf c14 s_text := by
  intro args h v h' hf hsc hlt hs
  unfold s_text at hs
  split at hs
  · rename_i vl
    split at hs
    · rename_i l hl
      simp only [Option.some.injEq, Prod.mk.injEq] at hs
      obtain ⟨rfl, rfl⟩ := hs
      have hsl := slK_isSl hl
      have hvl := slK_vlen hl
      obtain ⟨M, hM⟩ : ∃ M, M = min 80 l.length := ⟨_, rfl⟩
      have L := loop_count (cf := cf) (N := 100) (c := c14_l0) M
        (fun i e H => e.n = 25 ∧ e.at 0 = vl ∧ e.at 3 = .str ((l.take i).map (pick3 t28 28)).flatten ∧ e.at 4 = .int .i64 (i : Int) ∧ H = h)
        (fun x e' H => x = .exit 0 ∧ e'.n = 25 ∧ e'.at 3 = .str (textS l) ∧ H = h)
        (by
          rintro i e H hi ⟨hn, q0, q3, q4, rfl⟩
          have hil : i < l.length := by omega
          have hilI : (i : Int) < (l.length : Int) := by omega
          have hi40 : (i : Int) < 80 := by omega
          have hi40n : i < 80 := by omega
          have hload := rd_load (sl_rd (slK_sl hl)) (j := i) (x := .int .i64 l[i]) (by rw [List.getElem?_map, List.getElem?_eq_getElem hil]; rfl)
          have hidx := indexE (z := 1) hsl H (k := .i64) (i := (i : Int)) (by omega) (by rw [hvl]; omega)
          simp only [Int.toNat_natCast, Nat.mul_one] at hidx
          have p0 := Int.emod_nonneg l[i] (show (28 : Int) ≠ 0 by omega)
          have p1 := Int.emod_lt_of_pos l[i] (show (0 : Int) < 28 by omega)
          obtain ⟨k, hk⟩ : ∃ k : Nat, l[i] % 28 = (k : Int) := ⟨(l[i] % 28).toNat, by omega⟩
          have rP : ∀ K, s_Pick [.int .i64 l[i], .int .i64 28] K = some (.int .i64 (k : Int), K) := fun K => by
            show (if (0 : Int) < 28 ∧ (28 : Int) ≤ 4611686018427387904 then some (V.int .i64 (l[i] % 28), K) else none) = _
            rw [if_pos (by omega), hk]
          have hk8 : k < 28 := by omega
          have hkI : (k : Int) < 28 := by omega
          have hpk : pick3 t28 28 l[i] = t28.getD k [] := by unfold pick3; rw [hk]; rfl
          have hge : ∀ hh : k < ([V.str [27], V.str [91], V.str [93], V.str [80], V.str [92], V.str [7], V.str [24], V.str [26], V.str [63], V.str [59], V.str [48], V.str [49], V.str [57], V.str [50, 53], V.str [109], V.str [72], V.str [104], V.str [40], V.str [35], V.str [32], V.str [33], V.str [58], V.str [127], V.str [10], V.str [1], V.str [226, 130, 172], V.str [55], V.str [97]] : List V).length, ([V.str [27], V.str [91], V.str [93], V.str [80], V.str [92], V.str [7], V.str [24], V.str [26], V.str [63], V.str [59], V.str [48], V.str [49], V.str [57], V.str [50, 53], V.str [109], V.str [72], V.str [104], V.str [40], V.str [35], V.str [32], V.str [33], V.str [58], V.str [127], V.str [10], V.str [1], V.str [226, 130, 172], V.str [55], V.str [97]] : List V)[k]'hh = .str (pick3 t28 28 l[i]) := fun hh => by
            rw [hpk]; exact pick_str (t := t28) (n := 28) hk8 hh
          have hq3 : (pick3 t28 28 l[i]).length ≤ 3 := by
            have h2 := List.all_eq_true.1 t28_ok _ (pick3_mem (t := t28) (n := 28) rfl (by omega) l[i])
            simp only [Bool.and_eq_true, decide_eq_true_eq] at h2
            exact h2.1
          have hnext : ((l.take (i + 1)).map (pick3 t28 28)).flatten = ((l.take i).map (pick3 t28 28)).flatten ++ pick3 t28 28 l[i] := by
            rw [List.take_succ_eq_append_getElem hil, List.map_append, List.flatten_append]; simp
          have hSl := (texts_len l i).1
          rw [hnext]
          generalize ((l.take i).map (pick3 t28 28)).flatten = S at *
          generalize pick3 t28 28 l[i] = y at *
          have hle : S.length + y.length ≤ 4611686018427387904 := by omega
          simp (config := {maxSteps := 1000000, maxDischargeDepth := 9, implicitDefEqProofs := false}) [c14_l0, hn, q0, q3, q4, lenE hsl, hvl, hilI, hil, hi40, hi40n, hidx, hload, hPick, rP, hkI, hk8, hge, hle, wrap_i64 (x := (i : Int) + 1) (by omega) (by omega)])
        (by
          rintro e H ⟨hn, q0, q3, q4, rfl⟩
          have hmk : ((l.take M).map (pick3 t28 28)).flatten = textS l := by
            unfold textS
            rw [hM]
            rcases Nat.lt_or_ge l.length 80 with h | h
            · rw [Nat.min_eq_right (by omega), List.take_length, List.take_of_length_le (by omega)]
            · rw [Nat.min_eq_left (by omega)]
          rw [hmk] at q3
          by_cases h60 : 80 < l.length
          · have : M = 80 := by omega
            subst this
            simp (config := {maxSteps := 1000000, maxDischargeDepth := 9, implicitDefEqProofs := false}) [c14_l0, hn, q0, q3, q4, lenE hsl, hvl, h60, show (80 : Int) < (l.length : Int) from by omega]
          · have : M = l.length := by omega
            subst this
            simp (config := {maxSteps := 1000000, maxDischargeDepth := 9, implicitDefEqProofs := false}) [c14_l0, hn, q0, q3, q4, lenE hsl, hvl])
      refine ⟨100, ?_⟩
      simp (config := {maxSteps := 1000000, maxDischargeDepth := 9, implicitDefEqProofs := false}) [c14]
      refine loop_then (K := fun r => finS _ (seqS _ _ _ (blockS _ r))) (L 0 _ _ (Nat.zero_le _) ?_ (by omega)) ?_
      · simp (config := {maxSteps := 1000000, maxDischargeDepth := 9, implicitDefEqProofs := false})
      · rintro x e' H ⟨rfl, hn, q3, rfl⟩
        simp (config := {maxSteps := 1000000, maxDischargeDepth := 9, implicitDefEqProofs := false}) [hn, q3]
        exact Canon.keep hf hsc (Ext.refl _) (by simp only [V.lt])
    · cases hs
  · cases hs

/-- The acts of a row, as they are read. -/
def actC (H : Heap) : List ActP → List V → Prop
  | [], cs => cs = []
  | a :: l, cs => ∃ vp cs', cs = .int .i64 a.1 :: .int .i32 a.2.1 :: .bool a.2.2.1 :: vp :: cs' ∧ slK .i64 H vp = some a.2.2.2 ∧ actC H l cs'
theorem actC_of {h0 H : Heap} {vps : V} : ∀ {l : List ActP} {cs : List V}, actsR h0 H vps l cs → actC H l cs
  | [], cs, h => h
  | a :: l, cs, h => by
    obtain ⟨vp, cs', h1, h2, _, h4⟩ := h
    exact ⟨vp, cs', h1, OwnK.slK h2, actC_of h4⟩
theorem actC_get {H : Heap} : ∀ {l : List ActP} {cs : List V} {i : Nat} {a : ActP}, actC H l cs → l[i]? = some a → ∃ vp, cs[i * 4]? = some (.int .i64 a.1) ∧ cs[i * 4 + 1]? = some (.int .i32 a.2.1) ∧ cs[i * 4 + 2]? = some (.bool a.2.2.1) ∧ cs[i * 4 + 3]? = some vp ∧ slK .i64 H vp = some a.2.2.2
  | [], cs, i, a, h, hi => by simp at hi
  | b :: l, cs, 0, a, h, hi => by
    obtain ⟨vp, cs', rfl, h4, _⟩ := h
    simp only [List.getElem?_cons_zero, Option.some.injEq] at hi
    subst hi
    exact ⟨vp, rfl, rfl, rfl, rfl, h4⟩
  | b :: l, cs, i + 1, a, h, hi => by
    obtain ⟨vp, cs', rfl, _, h6⟩ := h
    rw [List.getElem?_cons_succ] at hi
    obtain ⟨vq, k1, k2, k3, k4, k5⟩ := actC_get h6 hi
    refine ⟨vq, ?_, ?_, ?_, ?_, k5⟩
    · rw [show (i + 1) * 4 = i * 4 + 4 from by omega]; exact k1
    · rw [show (i + 1) * 4 + 1 = i * 4 + 1 + 4 from by omega]; exact k2
    · rw [show (i + 1) * 4 + 2 = i * 4 + 2 + 4 from by omega]; exact k3
    · rw [show (i + 1) * 4 + 3 = i * 4 + 3 + 4 from by omega]; exact k4
/-- A row of acts. -/
def rowC (H : Heap) (v : V) (l : List ActP) : Prop := (v = .nilslice ∧ l = []) ∨ ∃ b c cs, v = .slice b 0 l.length c ∧ H.get b = some (.cells cs 30 4 true) ∧ actC H l cs
theorem rowC_of {hb h0 H : Heap} {vps v : V} {l : List ActP} {cs : List V} (ho : Own hb H 30 4 v l.length cs) (ha : actsR h0 H vps l cs) : rowC H v l := by
  rcases ho with ⟨rfl, h0, _⟩ | ⟨b, c, rfl, _, _, _, _, k6⟩
  · exact .inl ⟨rfl, List.length_eq_zero_iff.1 h0⟩
  · exact .inr ⟨b, c, cs, rfl, k6, actC_of ha⟩
theorem rowC_cell {H : Heap} {v : V} {l : List ActP} {i : Nat} {a : ActP} (h : rowC H v l) (hi : l[i]? = some a) : ∃ b c vp, v = .slice b 0 l.length c ∧ loadB (H.get b) (i * 4) H = some (.int .i64 a.1, H) ∧ loadB (H.get b) (i * 4 + 1) H = some (.int .i32 a.2.1, H) ∧ loadB (H.get b) (i * 4 + 2) H = some (.bool a.2.2.1, H) ∧ loadB (H.get b) (i * 4 + 3) H = some (vp, H) ∧ slK .i64 H vp = some a.2.2.2 := by
  rcases h with ⟨_, h0⟩ | ⟨b, c, cs, rfl, hg, hc⟩
  · rw [h0] at hi; simp at hi
  · obtain ⟨vp, k1, k2, k3, k4, k5⟩ := actC_get hc hi
    have ld : ∀ k x, cs[k]? = some x → loadB (H.get b) k H = some (x, H) := fun k x hx => by
      rw [hg, loadB_cells]
      have : nth cs k = cs[k]? := nth_eq _ _
      rw [this, hx, loadC_some]
    exact ⟨b, c, vp, rfl, ld _ _ k1, ld _ _ k2, ld _ _ k3, ld _ _ k4, k5⟩
/-- Two rows of the same acts are told to be the same. -/
def IsSame20 (g : ARaw) : Prop := ∀ (H : Heap) (v w : V) (l : List ActP), rowC H v l → rowC H w l → l.length ≤ 1500000 → (∀ a ∈ l, a.2.2.2.length ≤ 100) → g [v, w] H = some (.bool true, H)
theorem rowC_len {H : Heap} {v : V} {l : List ActP} (h : rowC H v l) : isSl v = true ∧ vlen v = l.length := by
  rcases h with ⟨rfl, h0⟩ | ⟨b, c, cs, rfl, _, _⟩
  · rw [h0]; exact ⟨rfl, rfl⟩
  · exact ⟨rfl, rfl⟩
theorem same_inner (cf : ACall) (H : Heap) (b1 b2 n i : Nat) (c1 c2 : Option Nat) (vp vq : V) (ps : List Int) (hin : i < n) (hi2 : i ≤ 1500000) (hps : ps.length ≤ 100) (hp : slK .i64 H vp = some ps) (hq : slK .i64 H vq = some ps) (y1 : loadB (H.get b1) (i * 4 + 3) H = some (vp, H)) (y2 : loadB (H.get b2) (i * 4 + 3) H = some (vq, H)) :
    ∀ e, e.n = 97 → e.at 0 = .slice b1 0 n c1 → e.at 1 = .slice b2 0 n c2 → e.at 5 = .int .i64 (i : Int) → e.at 6 = .int .i64 0 →
    YthfbefjmenddkaaDoorA.Ends (execA cf 2000000 (.loop c17_l1) e H) fun x e' H' => x = .exit 2 ∧ e'.n = 97 ∧ e'.at 0 = .slice b1 0 n c1 ∧ e'.at 1 = .slice b2 0 n c2 ∧ e'.at 5 = .int .i64 (i : Int) ∧ H' = H := by
  intro e hn q0 q1 q5 q6
  have s1 := slK_isSl hp
  have l1 := slK_vlen hp
  have s2 := slK_isSl hq
  have l2 := slK_vlen hq
  have hinI : (i : Int) < (n : Int) := by omega
  refine loop_count (cf := cf) (N := 2000000) (c := c17_l1) ps.length
    (fun k e H' => e.n = 97 ∧ e.at 0 = .slice b1 0 n c1 ∧ e.at 1 = .slice b2 0 n c2 ∧ e.at 5 = .int .i64 (i : Int) ∧ e.at 6 = .int .i64 (k : Int) ∧ H' = H)
    (fun x e' H' => x = .exit 2 ∧ e'.n = 97 ∧ e'.at 0 = .slice b1 0 n c1 ∧ e'.at 1 = .slice b2 0 n c2 ∧ e'.at 5 = .int .i64 (i : Int) ∧ H' = H) ?_ ?_ 0 e _ (Nat.zero_le _) ⟨hn, q0, q1, q5, q6, rfl⟩ (by omega)
  · rintro k e H' hk ⟨hn, q0, q1, q5, q6, rfl⟩
    have hkI : (k : Int) < (ps.length : Int) := by omega
    obtain ⟨r, hr⟩ : ∃ r, ps[k]? = some r := ⟨_, List.getElem?_eq_getElem hk⟩
    have i1 := indexE (z := 1) s1 H' (k := .i64) (i := (k : Int)) (by omega) (by rw [l1]; omega)
    have i2 := indexE (z := 1) s2 H' (k := .i64) (i := (k : Int)) (by omega) (by rw [l2]; omega)
    simp only [Int.toNat_natCast, Nat.mul_one] at i1 i2
    have d1 : loadS (atP vp k) H' = some (.int .i64 r, H') := rd_load (sl_rd (slK_sl hp)) (j := k) (by rw [List.getElem?_map, hr]; rfl)
    have d2 : loadS (atP vq k) H' = some (.int .i64 r, H') := rd_load (sl_rd (slK_sl hq)) (j := k) (by rw [List.getElem?_map, hr]; rfl)
    simp (config := {maxSteps := 1000000, maxDischargeDepth := 9, implicitDefEqProofs := false}) [c17_l1, hn, q0, q1, q5, q6, hinI, hin, y1, y2, lenE s1, l1, lenE s2, l2, hkI, hk, i1, i2, d1, d2, wrap_i64 (x := (k : Int) + 1) (by omega) (by omega)]
  · rintro e H' ⟨hn, q0, q1, q5, q6, rfl⟩
    simp (config := {maxSteps := 1000000, maxDischargeDepth := 9, implicitDefEqProofs := false}) [c17_l1, hn, q0, q1, q5, q6, hinI, hin, y1, lenE s1, l1]
theorem same20_ok (cf : ACall) : IsSame20 (bodyA cf 2000000 c17) := by
  intro H v w l hv hw hl hps
  obtain ⟨v1, v2⟩ := rowC_len hv
  obtain ⟨w1, w2⟩ := rowC_len hw
  have L := loop_count (cf := cf) (N := 2000000) (c := c17_l0) l.length
    (fun i e K => e.n = 97 ∧ e.at 0 = v ∧ e.at 1 = w ∧ e.at 5 = .int .i64 (i : Int) ∧ K = H)
    (fun x e K => x = .exit 0 ∧ e.n = 97 ∧ K = H)
    (by
      rintro i e K hi ⟨hn, q0, q1, q5, rfl⟩
      have hiI : (i : Int) < (l.length : Int) := by omega
      obtain ⟨a, ha⟩ : ∃ a, l[i]? = some a := ⟨_, List.getElem?_eq_getElem hi⟩
      obtain ⟨b1, c1, vp, rfl, x0, x1, x2, x3, x4⟩ := rowC_cell hv ha
      obtain ⟨b2, c2, vq, rfl, y0, y1, y2, y3, y4⟩ := rowC_cell hw ha
      have hpl := hps a (List.mem_of_getElem? ha)
      have s1 := slK_isSl x4
      have l1 := slK_vlen x4
      have s2 := slK_isSl y4
      have l2 := slK_vlen y4
      have wi : wrapF .i64 ((i : Int) + 1) = (i : Int) + 1 := wrap_i64 (by omega) (by omega)
      obtain ⟨k, r, m, ps⟩ := a
      simp only at x0 x1 x2 x4 y0 y1 y2 y4 hpl l1 l2
      simp (config := {maxSteps := 1000000, maxDischargeDepth := 9, implicitDefEqProofs := false}) [c17_l0, hn, q0, q1, q5, hiI, hi, x0, x1, x2, x3, y0, y1, y2, y3, lenE s1, l1, lenE s2, l2]
      refine ends_in (K := fun r => seqS _ _ _ (blockS _ (blockS _ r))) (same_inner cf K b1 b2 l.length i c1 c2 vp vq ps hi (by omega) hpl x4 y4 x3 y3 _ ?_ ?_ ?_ ?_ ?_) ?_
      iterate 5 simp (config := {maxSteps := 1000000, maxDischargeDepth := 9, implicitDefEqProofs := false}) [hn, q0, q1, q5]
      rintro x e2 H2 ⟨rfl, hn2, t0, t1, t5, rfl⟩
      simp (config := {maxSteps := 1000000, maxDischargeDepth := 9, implicitDefEqProofs := false}) [hn2, t0, t1, t5, wi])
    (by
      rintro e K ⟨hn, q0, q1, q5, rfl⟩
      simp (config := {maxSteps := 1000000, maxDischargeDepth := 9, implicitDefEqProofs := false}) [c17_l0, hn, q0, q1, q5, lenE v1, v2])
  have hR : Runs (bodyA cf 2000000 c17 [v, w] H) fun x H' => x = .bool true ∧ H' = H := by
    simp (config := {maxSteps := 1000000, maxDischargeDepth := 9, implicitDefEqProofs := false}) [c17, lenE v1, v2, lenE w1, w2]
    refine loop_then (K := fun r => finS _ (seqS _ _ _ (blockS _ r))) (L 0 _ _ (Nat.zero_le _) ?_ (by omega)) ?_
    · simp (config := {maxSteps := 1000000, maxDischargeDepth := 9, implicitDefEqProofs := false})
    · rintro x e' K ⟨rfl, hn, rfl⟩
      simp (config := {maxSteps := 1000000, maxDischargeDepth := 9, implicitDefEqProofs := false}) [hn]
  obtain ⟨x, H', h1, rfl, rfl⟩ := hR
  exact h1

/-- A text in pieces. -/
def cutP : Nat → List Int → List Nat → List (List Nat)
  | n + 1, c :: l, s => if s.length = 0 then [s] else s.take (min (c % 9).toNat s.length) :: cutP n l (s.drop (min (c % 9).toNat s.length))
  | _, _, s => [s]
theorem cutP_pos : ∀ (n : Nat) (l : List Int) (s : List Nat), 1 ≤ (cutP n l s).length
  | 0, _, _ => Nat.le_refl _
  | _ + 1, [], _ => Nat.le_refl _
  | n + 1, c :: l, s => by
    simp only [cutP]
    split
    · exact Nat.le_refl _
    · rw [List.length_cons]; omega
theorem cutP_one {n : Nat} {l : List Int} {s : List Nat} (h : (cutP n l s).length = 1) : cutP n l s = [s] ∧ (n = 0 ∨ l.length = 0 ∨ s.length = 0) := by
  cases n with
  | zero => exact ⟨rfl, .inl rfl⟩
  | succ n =>
    cases l with
    | nil => exact ⟨rfl, .inr (.inl rfl)⟩
    | cons c l =>
      simp only [cutP] at h ⊢
      by_cases h0 : s.length = 0
      · rw [if_pos h0]; exact ⟨rfl, .inr (.inr h0)⟩
      · rw [if_neg h0, List.length_cons] at h
        have := cutP_pos n l (s.drop (min (c % 9).toNat s.length))
        omega
theorem cutP_more {n : Nat} {l : List Int} {s : List Nat} (h : 2 ≤ (cutP n l s).length) : 0 < s.length ∧ ∃ m c r, n = m + 1 ∧ l = c :: r ∧ cutP n l s = s.take (min (c % 9).toNat s.length) :: cutP m r (s.drop (min (c % 9).toNat s.length)) := by
  cases n with
  | zero => simp [cutP] at h
  | succ n =>
    cases l with
    | nil => simp [cutP] at h
    | cons c l =>
      by_cases h0 : s.length = 0
      · simp only [cutP] at h; rw [if_pos h0] at h; simp at h
      · refine ⟨by omega, n, c, l, rfl, rfl, ?_⟩
        simp only [cutP]
        rw [if_neg h0]
theorem cutP_flat : ∀ (n : Nat) (l : List Int) (s : List Nat), (cutP n l s).flatten = s
  | 0, _, s => by simp [cutP]
  | _ + 1, [], s => by simp [cutP]
  | n + 1, c :: l, s => by
    simp only [cutP]
    split
    · simp
    · rw [List.flatten_cons, cutP_flat n l, List.take_append_drop]
theorem cutP_len : ∀ (n : Nat) (l : List Int) (s : List Nat), (cutP n l s).length ≤ n + 1
  | 0, _, _ => Nat.le_refl _
  | _ + 1, [], _ => by simp [cutP]
  | n + 1, c :: l, s => by
    simp only [cutP]
    split
    · simp
    · rw [List.length_cons]; have := cutP_len n l (s.drop (min (c % 9).toNat s.length)); omega
/-- The row of the pieces, whose blocks stand one behind the other. -/
def rowV : Nat → List (List Nat) → List V
  | _, [] => []
  | n, s :: r => .slice n 0 s.length none :: rowV (n + 1) r
theorem rowV_get : ∀ (xs : List (List Nat)) (n i : Nat), (rowV n xs)[i]? = xs[i]?.map fun s => .slice (n + i) 0 s.length none
  | [], n, i => rfl
  | s :: r, n, 0 => rfl
  | s :: r, n, i + 1 => by
    simp only [rowV, List.getElem?_cons_succ]
    rw [rowV_get r (n + 1) i, show n + 1 + i = n + (i + 1) from by omega]
theorem rowV_length : ∀ (xs : List (List Nat)) (n : Nat), (rowV n xs).length = xs.length
  | [], _ => rfl
  | s :: r, n => by simp only [rowV, List.length_cons, rowV_length r]
/-- The row as the run has it. -/
def rowR (bs : List Nat) (xs : List (List Nat)) : List V := List.zipWith (fun b (s : List Nat) => V.slice b 0 s.length none) bs xs
/-- The heap behind Cut. -/
def cutH (h : Heap) (xs : List (List Nat)) : Heap := newL h ((xs.map fun s => Blk.cells (bytesOf s) 5 1 true) ++ [Blk.cells (rowV h.next xs) 27 1 true])
/-- portholehand.Cut. -/
def s_Cut : List V → Heap → Option (V × Heap)
  | [.str s, vc], h => match slK .i64 h vc with
    | some l => if s.length ≤ 17592186044416 ∧ (∀ y ∈ s, y < 256) then some (.slice (h.next + (cutP 40 l s).length) 0 (cutP 40 l s).length none, cutH h (cutP 40 l s)) else none
    | none => none
  | _, _ => none
def CutInv (h H : Heap) (w : V) (bs : List Nat) (xs : List (List Nat)) : Prop :=
  bs.length = xs.length ∧ (∀ (j b : Nat) s, bs[j]? = some b → xs[j]? = some s → h.next ≤ b ∧ b < H.next ∧ H.get b = some (.cells (bytesOf s) 5 1 true)) ∧ (∀ (i j b : Nat), bs[i]? = some b → bs[j]? = some b → i = j) ∧ Own h H 27 1 w xs.length (rowR bs xs) ∧ Ext h H ∧ Fresh H
theorem cut_step {h H : Heap} {w : V} {bs : List Nat} {xs : List (List Nat)} {s : List Nat} (hI : CutInv h H w bs xs) (hl : xs.length ≤ 100) :
    ∃ v2 A3, appendV ((H.new (.cells (bytesOf s) 5 1 true)).new (.cells [.slice H.next 0 s.length none] 27 1 true)) 27 1 24 w (.slice (H.next + 1) 0 1 (some 1)) = some (v2, A3) ∧ CutInv h A3 v2 (bs ++ [H.next]) (xs ++ [s]) := by
  obtain ⟨i1, i2, i3, i4, i5, i6⟩ := hI
  obtain ⟨K1, hK1⟩ : ∃ A, A = H.new (.cells (bytesOf s) 5 1 true) := ⟨_, rfl⟩
  have e1 : Ext H K1 := by rw [hK1]; exact Ext.new H _
  have f1 : Fresh K1 := by rw [hK1]; exact i6.new _
  have n1 : K1.next = H.next + 1 := by rw [hK1]; rfl
  have g1 : K1.get H.next = some (.cells (bytesOf s) 5 1 true) := by rw [hK1, Heap.get_new]; exact if_pos rfl
  obtain ⟨K2, hK2⟩ : ∃ A, A = K1.new (.cells [.slice H.next 0 s.length none] 27 1 true) := ⟨_, rfl⟩
  have e2 : Ext K1 K2 := by rw [hK2]; exact Ext.new K1 _
  have f2 : Fresh K2 := by rw [hK2]; exact f1.new _
  have n2 : K2.next = H.next + 2 := by rw [hK2]; show K1.next + 1 = _; omega
  rw [← hK1, ← hK2, ← n1]
  have ho1 : Own h K1 27 1 w xs.length (rowR bs xs) := by rw [hK1]; exact Own.ext_new _ i4 i6
  have ho2 : Own h K2 27 1 w xs.length (rowR bs xs) := by rw [hK2]; exact Own.ext_new _ ho1 f1
  have hadd : added K2 1 (.slice K1.next 0 1 (some 1)) = some ([V.slice H.next 0 s.length none], 1) := by
    have : sl K2 1 (.slice K1.next 0 1 (some 1)) = some [V.slice H.next 0 s.length none] := by rw [hK2]; exact sl_selfE rfl rfl (.inr rfl)
    exact rd_added (sl_rd this)
  have hm : most = 140737488355328 := rfl
  obtain ⟨v2, A3, k1, k2, k3, k4, k5, k6, k7⟩ := Own.app (bytes := 24) (ys := [V.slice H.next 0 s.length none]) (i5.trans (e1.trans e2)) f2 ho2 (by simpa using hadd) (by simp) rfl (by rw [hm]; simp only [List.length_singleton, Nat.div_one]; omega) (by rw [hm]; simp only [List.length_singleton, Nat.div_one]; omega)
  have keep : ∀ b cs, K2.get b = some (.cells cs 5 1 true) → A3.get b = some (.cells cs 5 1 true) := fun b cs hb => by
    rw [k7 b (f2.lt hb) fun o c hw => ?_]
    · exact hb
    · rcases ho2 with ⟨h0, _⟩ | ⟨b', c', q1, q2, q3, q4, q5, q6⟩
      · rw [h0] at hw; cases hw
      · rw [q1] at hw
        injection hw with e
        subst e
        rw [hb] at q6
        injection q6 with q6
        injection q6 with _ ht
        exact absurd ht (by decide)
  refine ⟨v2, A3, k1, by rw [List.length_append, List.length_append, i1]; rfl, fun j b t hb ht => ?_, fun i j b hi hj => ?_, ?_, k3, k4⟩
  · rcases Nat.lt_trichotomy j bs.length with hj | hj | hj
    · rw [List.getElem?_append_left hj] at hb
      rw [List.getElem?_append_left (by omega)] at ht
      obtain ⟨a1, a2, a3⟩ := i2 j b t hb ht
      exact ⟨a1, by omega, keep b _ (e2.get f1 (e1.get i6 a3))⟩
    · subst hj
      rw [List.getElem?_append_right (Nat.le_refl _), Nat.sub_self, List.getElem?_cons_zero, Option.some.injEq] at hb
      rw [List.getElem?_append_right (by omega), i1, Nat.sub_self, List.getElem?_cons_zero, Option.some.injEq] at ht
      subst hb; subst ht
      exact ⟨i5.1, by omega, keep _ _ (e2.get f1 g1)⟩
    · rw [List.getElem?_eq_none (by rw [List.length_append, List.length_singleton]; omega)] at hb; cases hb
  · have hlt : ∀ (k c : Nat), bs[k]? = some c → c < H.next := fun k c hk => by
      have hkl := (List.getElem?_eq_some_iff.1 hk).1
      obtain ⟨t, ht⟩ : ∃ t, xs[k]? = some t := ⟨_, List.getElem?_eq_getElem (by omega)⟩
      exact (i2 k c t hk ht).2.1
    have hcase : ∀ (k c : Nat), (bs ++ [H.next])[k]? = some c → (k < bs.length ∧ bs[k]? = some c) ∨ (k = bs.length ∧ c = H.next) := fun k c hk => by
      rcases Nat.lt_trichotomy k bs.length with hj | hj | hj
      · rw [List.getElem?_append_left hj] at hk; exact .inl ⟨hj, hk⟩
      · subst hj
        rw [List.getElem?_append_right (Nat.le_refl _), Nat.sub_self, List.getElem?_cons_zero, Option.some.injEq] at hk
        exact .inr ⟨rfl, hk.symm⟩
      · rw [List.getElem?_eq_none (by rw [List.length_append, List.length_singleton]; omega)] at hk; cases hk
    rcases hcase i b hi with ⟨a1, a2⟩ | ⟨a1, a2⟩ <;> rcases hcase j b hj with ⟨b1, b2⟩ | ⟨b1, b2⟩
    · exact i3 i j b a2 b2
    · have := hlt i b a2; omega
    · have := hlt j b b2; omega
    · omega
  · have hr : rowR (bs ++ [H.next]) (xs ++ [s]) = rowR bs xs ++ [V.slice H.next 0 s.length none] := by
      unfold rowR
      rw [List.zipWith_append i1]; rfl
    rw [hr, List.length_append]
    simpa using k2
theorem cut_canon {h H : Heap} {w : V} {bs : List Nat} {xs : List (List Nat)} (hf : Fresh h) (hsc : Scoped h) (hI : CutInv h H w bs xs) (h0 : 0 < xs.length) : ∃ τ, Canon h.next H w (cutH h xs) (.slice (h.next + xs.length) 0 xs.length none) τ := by
  obtain ⟨i1, i2, i3, i4, i5, i6⟩ := hI
  rcases i4 with ⟨_, hh, _⟩ | ⟨q, c, rfl, k2, k3, k4, k5, k6⟩
  · omega
  have hlen : ((xs.map fun s => Blk.cells (bytesOf s) 5 1 true) ++ [Blk.cells (rowV h.next xs) 27 1 true]).length = xs.length + 1 := by rw [List.length_append, List.length_map]; rfl
  have hrl : (rowR bs xs).length = xs.length := by unfold rowR; rw [List.length_zipWith]; omega
  have hb : ∀ i s, xs[i]? = some s → ∃ b, bs[i]? = some b ∧ bs.getD i 0 = b ∧ h.next ≤ b ∧ b < H.next ∧ H.get b = some (.cells (bytesOf s) 5 1 true) := fun i s hi => by
    have hil := (List.getElem?_eq_some_iff.1 hi).1
    obtain ⟨b, hb⟩ : ∃ b, bs[i]? = some b := ⟨_, List.getElem?_eq_getElem (by omega)⟩
    obtain ⟨a1, a2, a3⟩ := i2 i b s hb hi
    exact ⟨b, hb, by rw [List.getD_eq_getElem?_getD, hb]; rfl, a1, a2, a3⟩
  have hnq : ∀ i s, xs[i]? = some s → bs.getD i 0 ≠ q := fun i s hi e => by
    obtain ⟨b, a1, a2, _, _, a5⟩ := hb i s hi
    rw [a2] at e
    rw [e, k6] at a5
    injection a5 with a5
    injection a5 with _ ht
    exact absurd ht (by decide)
  refine ⟨_, Canon.news (hb := h) (Bs := (xs.map fun s => Blk.cells (bytesOf s) 5 1 true) ++ [Blk.cells (rowV h.next xs) 27 1 true]) (τs := fun i => if i < xs.length then (bs.getD i 0, 0) else (q, 0)) rfl (fun b B hB => hf.lt hB) (hold_of hsc fun b B hB => i5.get hf hB) (fun i B hi => ?_) ?_⟩
  · rw [hlen]
    rcases Nat.lt_trichotomy i xs.length with hil | hil | hil
    · rw [List.getElem?_append_left (by rw [List.length_map]; exact hil), List.getElem?_map, List.getElem?_eq_getElem hil] at hi
      simp only [Option.map_some, Option.some.injEq] at hi
      subst hi
      obtain ⟨b, a1, a2, a3, a4, a5⟩ := hb i _ (List.getElem?_eq_getElem hil)
      refine ⟨by rw [if_pos hil]; show h.next ≤ bs.getD i 0; omega, fun j hj he => ?_, ⟨.cells (bytesOf (xs[i]'hil)) 5 1 true, by rw [if_pos hil]; show H.get (bs.getD i 0) = _; rw [a2]; exact a5, rfl, rfl, rfl, by rw [if_pos hil]; show 0 + _ ≤ _; omega, fun k v hk => ⟨v, by rw [if_pos hil]; show (bytesOf _)[0 + k]? = _; rw [Nat.zero_add]; exact hk, VC.refl (n0 := 0) (fun b hb => by omega) (Nat.zero_le _) v (ltL_mem.1 (flat_bytes _) v (List.mem_of_getElem? hk))⟩⟩⟩
      rw [if_pos hil] at he
      by_cases hjl : j < xs.length
      · rw [if_pos hjl] at he
        obtain ⟨b', c1, c2, _⟩ := hb j _ (List.getElem?_eq_getElem hjl)
        have he' : bs.getD i 0 = bs.getD j 0 := he
        rw [a2, c2] at he'
        subst he'
        exact i3 i j b a1 c1
      · rw [if_neg hjl] at he
        exact absurd he (hnq i _ (List.getElem?_eq_getElem hil))
    · subst hil
      rw [List.getElem?_append_right (by rw [List.length_map]; exact Nat.le_refl _), List.length_map, Nat.sub_self, List.getElem?_cons_zero, Option.some.injEq] at hi
      subst hi
      have hnn : ¬ xs.length < xs.length := by omega
      refine ⟨by rw [if_neg hnn]; exact k3, fun j hj he => ?_, ⟨.cells (rowR bs xs) 27 1 true, by rw [if_neg hnn]; exact k6, rfl, rfl, rfl, by rw [if_neg hnn]; show 0 + _ ≤ _; rw [rowV_length, hrl]; omega, fun k v hk => ?_⟩⟩
      · rw [if_neg hnn] at he
        by_cases hjl : j < xs.length
        · rw [if_pos hjl] at he
          exact absurd he.symm (hnq j _ (List.getElem?_eq_getElem hjl))
        · omega
      · rw [rowV_get] at hk
        cases hx : xs[k]? with
        | none => rw [hx] at hk; cases hk
        | some s =>
          rw [hx] at hk
          simp only [Option.map_some, Option.some.injEq] at hk
          subst hk
          have hkl := (List.getElem?_eq_some_iff.1 hx).1
          obtain ⟨b, a1, a2, a3, a4, a5⟩ := hb k s hx
          refine ⟨.slice b 0 s.length none, ?_, ?_⟩
          · rw [if_neg hnn]
            show (rowR bs xs)[0 + k]? = _
            rw [Nat.zero_add]
            unfold rowR
            rw [List.getElem?_zipWith, a1, hx]
          · simp only [VC, moved_add, if_pos hkl]
            exact ⟨by omega, none, by rw [a2], fun m hm => by cases hm⟩
    · rw [List.getElem?_eq_none (by rw [hlen]; omega)] at hi; cases hi
  · rw [hlen]
    simp only [VC, moved_add, if_neg (Nat.lt_irrefl _)]
    refine ⟨by omega, c, rfl, fun m hm => ⟨_, _, _, _, k6, ?_⟩⟩
    rcases k2 with k2 | k2
    · rw [k2] at hm; cases hm
    · rw [k2] at hm; cases hm; rw [hrl]; omega
theorem Cut_loop (cf : ACall) (hPick : ∀ a h, cf 13 a h = s_Pick a h) (h : Heap) (hf : Fresh h) (s : List Nat) (l : List Int) (vc : V) (hl : slK .i64 h vc = some l) (hs : s.length ≤ 17592186044416) (hlt : ∀ y ∈ s, y < 256) :
    ∀ e, e.n = 47 → e.at 0 = .str s → e.at 1 = vc → e.at 5 = .nilslice → e.at 6 = .int .i64 0 →
    YthfbefjmenddkaaDoorA.Ends (execA cf 60 (.loop c16_l0) e h) fun x e' H => x = .exit 0 ∧ e'.n = 47 ∧ ∃ rest bs xs, e'.at 0 = .str rest ∧ rest.length ≤ s.length ∧ (∀ y ∈ rest, y < 256) ∧ CutInv h H (e'.at 5) bs xs ∧ xs ++ [rest] = cutP 40 l s := by
  intro e hn q0 q1 q5 q6
  have hsl := slK_isSl hl
  have hvl := slK_vlen hl
  have hp := cutP_pos 40 l s
  have hle := cutP_len 40 l s
  obtain ⟨M, hM⟩ : ∃ M, M + 1 = (cutP 40 l s).length := ⟨(cutP 40 l s).length - 1, by omega⟩
  refine loop_count (cf := cf) (N := 60) (c := c16_l0) M
    (fun i e H => e.n = 47 ∧ e.at 1 = vc ∧ e.at 6 = .int .i64 (i : Int) ∧ ∃ rest bs xs, e.at 0 = .str rest ∧ rest.length ≤ s.length ∧ (∀ y ∈ rest, y < 256) ∧ CutInv h H (e.at 5) bs xs ∧ xs.length = i ∧ xs ++ cutP (40 - i) (l.drop i) rest = cutP 40 l s)
    (fun x e' H => x = .exit 0 ∧ e'.n = 47 ∧ ∃ rest bs xs, e'.at 0 = .str rest ∧ rest.length ≤ s.length ∧ (∀ y ∈ rest, y < 256) ∧ CutInv h H (e'.at 5) bs xs ∧ xs ++ [rest] = cutP 40 l s) ?_ ?_ 0 e _ (Nat.zero_le _) ⟨hn, q1, q6, s, [], [], q0, Nat.le_refl _, hlt, ?_, rfl, rfl⟩ (by omega)
  · rintro i e H hi ⟨hn, q1, q6, rest, bs, xs, q0, h1, h2, hI, h3, h4⟩
    have h5 := congrArg List.length h4
    rw [List.length_append] at h5
    obtain ⟨k1, m, c, r, k2, k3, k4⟩ := cutP_more (n := 40 - i) (l := l.drop i) (s := rest) (by omega)
    have hil : i < l.length := by
      have := congrArg List.length k3
      rw [List.length_drop, List.length_cons] at this; omega
    have hc : l[i] = c := by
      have := List.drop_eq_getElem_cons hil
      rw [k3] at this; injection this with a b; exact a.symm
    have hr : l.drop (i + 1) = r := by
      have := List.drop_eq_getElem_cons hil
      rw [k3] at this; injection this with a b; exact b.symm
    have hilI : (i : Int) < (l.length : Int) := by omega
    have hi40 : (i : Int) < 40 := by omega
    have hi40n : i < 40 := by omega
    have hr0 : (0 : Int) < (rest.length : Int) := by omega
    have hload := rd_load (sl_rd (slK_sl (slK_ext hI.2.2.2.2.1 hf hl))) (j := i) (x := .int .i64 c) (by rw [List.getElem?_map, List.getElem?_eq_getElem hil, hc]; rfl)
    have hidx := indexE (z := 1) hsl H (k := .i64) (i := (i : Int)) (by omega) (by rw [hvl]; omega)
    simp only [Int.toNat_natCast, Nat.mul_one] at hidx
    have p0 := Int.emod_nonneg c (show (9 : Int) ≠ 0 by omega)
    have p1 := Int.emod_lt_of_pos c (show (0 : Int) < 9 by omega)
    obtain ⟨k, hk⟩ : ∃ k : Nat, c % 9 = (k : Int) := ⟨(c % 9).toNat, by omega⟩
    have rP : ∀ K, s_Pick [.int .i64 c, .int .i64 9] K = some (.int .i64 (k : Int), K) := fun K => by
      show (if (0 : Int) < 9 ∧ (9 : Int) ≤ 4611686018427387904 then some (V.int .i64 (c % 9), K) else none) = _
      rw [if_pos (by omega), hk]
    rw [hk, Int.toNat_natCast] at k4
    obtain ⟨g, hg⟩ : ∃ g, g = min k rest.length := ⟨_, rfl⟩
    rw [← hg] at k4
    have hgI : (if rest.length < k then (rest.length : Int) else (k : Int)) = (g : Int) := by split <;> omega
    have hgl : g ≤ rest.length := by omega
    have htl : (rest.take g).length = g := by rw [List.length_take]; omega
    obtain ⟨v2, A3, a1, a2⟩ := cut_step (s := rest.take g) hI (by omega)
    obtain ⟨K1, hK1⟩ : ∃ A, A = H.new (.cells (bytesOf (rest.take g)) 5 1 true) := ⟨_, rfl⟩
    rw [← hK1] at a1
    have nK : K1.next = H.next + 1 := by rw [hK1]; rfl
    obtain ⟨K2, hK2⟩ : ∃ A, A = K1.new (.cells [.slice H.next 0 (rest.take g).length none] 27 1 true) := ⟨_, rfl⟩
    rw [← hK2] at a1
    rw [htl] at hK2
    have hg47 : g ≤ 140737488355328 := by omega
    generalize q5 : e.at 5 = w at *
    simp (config := {maxSteps := 1000000, maxDischargeDepth := 9, implicitDefEqProofs := false}) [c16_l0, hn, q0, q1, q5, q6, lenE hsl, hvl, hilI, hil, hi40, hi40n, hr0, k1, hidx, hload, hPick, rP, hgI, hgl, htl, hg47, ← hK1, nK, ← hK2, a1, wrap_i64 (x := (i : Int) + 1) (by omega) (by omega)]
    have cat : xs ++ [rest.take g] ++ cutP (40 - (i + 1)) (l.drop (i + 1)) (rest.drop g) = cutP 40 l s := by
      rw [hr, show 40 - (i + 1) = m from by omega, List.append_assoc, ← h4, k4]; rfl
    rw [show 40 - (i + 1) = 39 - i from by omega] at cat
    exact ⟨by omega, fun y hy => h2 y (List.mem_of_mem_drop hy), _, _, a2, by rw [List.length_append, List.length_singleton, h3], cat⟩
  · rintro e H ⟨hn, q1, q6, rest, bs, xs, q0, h1, h2, hI, h3, h4⟩
    have h5 := congrArg List.length h4
    rw [List.length_append] at h5
    obtain ⟨k1, k2⟩ := cutP_one (n := 40 - M) (l := l.drop M) (s := rest) (by omega)
    rw [k1] at h4
    generalize q5 : e.at 5 = w at *
    rw [List.length_drop] at k2
    by_cases c1 : M < l.length
    · have c1I : (M : Int) < (l.length : Int) := by omega
      by_cases c2 : M < 40
      · have c2I : (M : Int) < 40 := by omega
        have c3 : ¬ (0 : Int) < (rest.length : Int) := by omega
        have c4 : ¬ 0 < rest.length := by omega
        simp (config := {maxSteps := 1000000, maxDischargeDepth := 9, implicitDefEqProofs := false}) [c16_l0, hn, q0, q1, q5, q6, lenE hsl, hvl, c1, c1I, c2, c2I, c3, c4]
        exact ⟨h1, h2, bs, xs, hI, h4⟩
      · have c2I : ¬ (M : Int) < 40 := by omega
        simp (config := {maxSteps := 1000000, maxDischargeDepth := 9, implicitDefEqProofs := false}) [c16_l0, hn, q0, q1, q5, q6, lenE hsl, hvl, c1, c1I, c2, c2I]
        exact ⟨h1, h2, bs, xs, hI, h4⟩
    · have c1I : ¬ (M : Int) < (l.length : Int) := by omega
      simp (config := {maxSteps := 1000000, maxDischargeDepth := 9, implicitDefEqProofs := false}) [c16_l0, hn, q0, q1, q5, q6, lenE hsl, hvl, c1, c1I]
      exact ⟨h1, h2, bs, xs, hI, h4⟩
  · rw [q5]
    exact ⟨rfl, fun j b t hb => by simp at hb, fun i j b hb => by simp at hb, .inl ⟨rfl, rfl, rfl⟩, Ext.refl _, hf⟩
theorem Cut_ok (cf : ACall) (hPick : ∀ a h, cf 13 a h = s_Pick a h) : Sum cf c16 s_Cut := by
  intro args h v h' hf hsc hltA hs
  unfold s_Cut at hs
  split at hs
  · rename_i s vc
    split at hs
    · rename_i l hl
      split at hs
      · rename_i hc
        obtain ⟨hsl, hlt⟩ := hc
        simp only [Option.some.injEq, Prod.mk.injEq] at hs
        obtain ⟨rfl, rfl⟩ := hs
        have hle := cutP_len 40 l s
        have hpos := cutP_pos 40 l s
        refine ⟨60, ?_⟩
        simp (config := {maxSteps := 1000000, maxDischargeDepth := 9, implicitDefEqProofs := false}) [c16]
        refine loop_then (K := fun r => finS _ (seqS _ _ _ (blockS _ r))) (Cut_loop cf hPick h hf s l vc hl hsl hlt _ ?_ ?_ ?_ ?_ ?_) ?_
        iterate 5 simp (config := {maxSteps := 1000000, maxDischargeDepth := 9, implicitDefEqProofs := false})
        rintro x e' H ⟨rfl, hn', rest, bs, xs, q0, h1, h2, hI, h4⟩
        generalize q5 : e'.at 5 = w at *
        have h5 := congrArg List.length h4
        rw [List.length_append, List.length_singleton] at h5
        obtain ⟨v2, A3, a1, a2⟩ := cut_step (s := rest) hI (by omega)
        rw [h4] at a2
        obtain ⟨K1, hK1⟩ : ∃ A, A = H.new (.cells (bytesOf rest) 5 1 true) := ⟨_, rfl⟩
        rw [← hK1] at a1
        have nK : K1.next = H.next + 1 := by rw [hK1]; rfl
        obtain ⟨K2, hK2⟩ : ∃ A, A = K1.new (.cells [.slice H.next 0 rest.length none] 27 1 true) := ⟨_, rfl⟩
        rw [← hK2] at a1
        have hrl : rest.length ≤ 140737488355328 := by omega
        simp (config := {maxSteps := 1000000, maxDischargeDepth := 9, implicitDefEqProofs := false}) [hn', q0, q5, hrl, ← hK1, nK, ← hK2, a1]
        exact cut_canon hf hsc a2 (by omega)
      · cases hs
    · cases hs
  · cases hs

theorem newL_ext : ∀ (Bs : List Blk) (h : Heap), Ext h (newL h Bs)
  | [], h => Ext.refl h
  | B :: Bs, h => (Ext.new h B).trans (newL_ext Bs (h.new B))
theorem newL_fresh : ∀ (Bs : List Blk) (h : Heap), Fresh h → Fresh (newL h Bs)
  | [], h, hf => hf
  | B :: Bs, h, hf => newL_fresh Bs (h.new B) (hf.new B)
theorem sl_blk {H : Heap} {q t n : Nat} {own : Bool} {cs : List V} (hg : H.get q = some (.cells cs t 1 own)) (hn : cs.length = n) : sl H 1 (.slice q 0 n none) = some cs := by
  have hw : wfS H 1 (.slice q 0 n none) = true := by simp [wfS, hg, hn]
  unfold sl
  rw [if_pos hw]
  simp only [rd, Nat.mul_one]
  unfold Heap.read
  by_cases h0 : n = 0
  · rw [if_pos h0]
    have : cs = [] := List.length_eq_zero_iff.1 (by omega)
    rw [this]
  · rw [if_neg h0, hg]
    simp only
    rw [if_pos (by omega), List.drop_zero, List.take_of_length_le (by omega)]
theorem cutH_ext (h : Heap) (xs : List (List Nat)) : Ext h (cutH h xs) := newL_ext _ h
theorem cutH_fresh {h : Heap} (xs : List (List Nat)) (hf : Fresh h) : Fresh (cutH h xs) := newL_fresh _ h hf
theorem cutH_row (h : Heap) (xs : List (List Nat)) : sl (cutH h xs) 1 (.slice (h.next + xs.length) 0 xs.length none) = some (rowV h.next xs) := by
  refine sl_blk (t := 27) (own := true) ?_ (rowV_length _ _)
  unfold cutH
  rw [newL_get, List.length_append, List.length_map, List.length_singleton, if_pos (by omega), List.getElem?_append_right (by rw [List.length_map]; omega), List.length_map, show h.next + xs.length - h.next - xs.length = 0 from by omega]
  rfl
theorem cutH_piece (h : Heap) {xs : List (List Nat)} {i : Nat} {s : List Nat} (hi : xs[i]? = some s) (hs : ∀ y ∈ s, y < 256) : slB (cutH h xs) (.slice (h.next + i) 0 s.length none) = some s := by
  have hil := (List.getElem?_eq_some_iff.1 hi).1
  refine slB_of (sl_blk (t := 5) (own := true) ?_ (bytesOf_length _)) hs
  unfold cutH
  rw [newL_get, List.length_append, List.length_map, List.length_singleton, if_pos (by omega), List.getElem?_append_left (by rw [List.length_map]; omega), show h.next + i - h.next = i from by omega, List.getElem?_map, hi]
  rfl

/-- The law of the pieces: a decoder stands, after all that came, as if it had come at once. -/
theorem pc_step {q b : List Nat} (hq : ∀ y ∈ q, y < 256) (hb : ∀ y ∈ b, y < 256) :
    (q.drop (cutN q) ++ b).drop (cutN (q.drop (cutN q) ++ b)) = (q ++ b).drop (cutN (q ++ b)) ∧ runesL (q.take (cutN q)) ++ runesL ((q.drop (cutN q) ++ b).take (cutN (q.drop (cutN q) ++ b))) = runesL ((q ++ b).take (cutN (q ++ b))) := by
  have hqb : ∀ y ∈ q ++ b, y < 256 := fun y hy => (List.mem_append.1 hy).elim (hq y) (hb y)
  have hdb : ∀ y ∈ q.drop (cutN q) ++ b, y < 256 := fun y hy => (List.mem_append.1 hy).elim (fun h => hq y (List.mem_of_mem_drop h)) (hb y)
  have h1 := cutN_isCut hq
  have h2 := cutN_isCut hdb
  have h3 := isCut_unique (cutN_isCut hqb) (isCut_step h1 h2)
  rw [h3]
  refine ⟨?_, (runes_step hq h1).symm⟩
  rw [← List.drop_drop, List.drop_append_of_le_length h1.2.1]

theorem esc_params {s : PS} {r : Int} {a : ActP} (h : (stEsc s r).2 = some a) : a.2.2.2 = [] := by
  unfold stEsc at h
  split at h
  · cases h
  split at h
  · cases h
  split at h
  · cases h
  split at h
  · cases h; rfl
  split at h
  · cases h; rfl
  · cases h
theorem csi_params {s : PS} {r : Int} {a : ActP} (h : (stCsi s r).2 = some a) : a.2.2.2 = [] ∨ a.2.2.2 = s.params := by
  unfold stCsi at h
  split at h
  · cases h; exact .inl rfl
  split at h
  · cases h
  split at h
  · cases h
  split at h
  · cases h
  split at h
  · cases h
  split at h
  · cases h
  split at h
  · have h : (if s.odd = true then none else some ((4, r, s.mark, s.params) : ActP)) = some a := h
    split at h
    · cases h
    · cases h; exact .inr rfl
  · cases h
theorem rune_params {s : PS} (hw : wfPS s) {r : Int} {a : ActP} (h : (stRune s r).2 = some a) : a.2.2.2.length ≤ 16 := by
  unfold stRune at h
  split at h
  · cases h
  split at h
  · rw [esc_params h]; exact Nat.zero_le _
  split at h
  · cases h
  split at h
  · rcases csi_params h with e | e
    · rw [e]; exact Nat.zero_le _
    · rw [e]; exact hw.2.2.1
  split at h
  · cases h
  split at h
  · split at h
    · cases h
    · rw [esc_params h]; exact Nat.zero_le _
  · have h : stPlain r = some a := h
    unfold stPlain at h
    split at h
    · cases h; exact Nat.zero_le _
    split at h
    · cases h
    · cases h; exact Nat.zero_le _
theorem runes_params : ∀ (l : List Int) (s : PS), wfPS s → ∀ a ∈ (stRunes s l).2, a.2.2.2.length ≤ 16
  | [], s, _, a, ha => (List.not_mem_nil ha).elim
  | r :: l, s, hw, a, ha => by
    simp only [stRunes] at ha
    rcases List.mem_append.1 ha with h | h
    · cases hq : (stRune s r).2 with
      | none => rw [hq] at h; exact (List.not_mem_nil h).elim
      | some b =>
        rw [hq] at h
        have : a = b := by simpa using h
        subst this
        exact rune_params hw hq
    · exact runes_params l _ (wf_rune hw r) a h
theorem actsR_base {hb h0 H : Heap} {vps : V} (hn : hb.next ≤ h0.next) : ∀ {l : List ActP} {cs : List V}, actsR h0 H vps l cs → actsR hb H vps l cs
  | [], cs, h => h
  | a :: l, cs, h => by
    obtain ⟨vp, cs', h1, h2, h3, h4⟩ := h
    exact ⟨vp, cs', h1, Own.base h2 hn, h3, actsR_base hn h4⟩
theorem actsR_append {h0 H : Heap} {vps : V} : ∀ {l m : List ActP} {cs ds : List V}, actsR h0 H vps l cs → actsR h0 H vps m ds → actsR h0 H vps (l ++ m) (cs ++ ds)
  | [], m, cs, ds, h, hm => by
    have : cs = [] := h
    subst this; exact hm
  | a :: l, m, cs, ds, h, hm => by
    obtain ⟨vp, cs', rfl, h2, h3, h4⟩ := h
    exact ⟨vp, _, rfl, h2, h3, actsR_append h4 hm⟩
theorem actsR_one {h0 H : Heap} {vps : V} : ∀ {l : List ActP} {cs : List V}, actsR h0 H vps l cs → cs.all V.one = true
  | [], cs, h => by
    have : cs = [] := h
    subst this; rfl
  | a :: l, cs, h => by
    obtain ⟨vp, cs', rfl, h2, h3, h4⟩ := h
    have hone : vp.one = true := by rcases h2 with ⟨rfl, _⟩ | ⟨b, c, rfl, _⟩ <;> rfl
    simp only [List.all_cons, actsR_one h4, hone, Bool.and_true]; rfl

/-! The parser and the reference's: one rune to both. -/
theorem ov_rune {s : PS} (h : ovOk s) (r : Int) : ovOk (stRune s r).1 := by
  unfold stRune
  split
  · exact h
  split
  · unfold stEsc
    split
    · intro e; cases e
    split
    · exact h
    split
    · exact h
    split
    · exact h
    split
    · exact h
    · exact h
  split
  · exact h
  split
  · unfold stCsi
    split
    · exact h
    split
    · exact h
    split
    · intro e
      have e : s.over = true := e
      have h2 := h e
      show (if s.over = true then s.params else digitP s.params r).length = 16
      rw [if_pos e]; exact h2
    split
    · intro e
      have e : (s.over || s.params.length == 16) = true := e
      show (if (s.over || s.params.length == 16) = true then s.params else s.params ++ [0]).length = 16
      rw [if_pos e]
      rcases Bool.or_eq_true_iff.1 e with e | e
      · exact h e
      · exact beq_iff_eq.1 e
    split
    · exact h
    split
    · exact h
    split
    · exact h
    · exact h
  split
  · exact h
  split
  · split
    · exact h
    · unfold stEsc
      split
      · intro e; cases e
      split
      · exact h
      split
      · exact h
      split
      · exact h
      split
      · exact h
      · exact h
  · exact h
theorem ov_ps0 : ovOk ps0 := fun h => by cases h
def outA : Option ActP → ActP
  | some a => a
  | none => ((0, 0, false, []) : Int × Int × Bool × List Int)
def outB : Option ActP → Bool
  | some _ => true
  | none => false
theorem actR_out {H H' : Heap} {vps v : V} {out : Option ActP} (h : actR H H' vps v out) : ∃ vp, v = .tuple [.agg [.int .i64 (outA out).1, .int .i32 (outA out).2.1, .bool (outA out).2.2.1, vp], .bool (outB out)] ∧ OwnK .i64 H H' 3 vp (outA out).2.2.2 := by
  cases out with
  | none => exact ⟨.nilslice, h, .inl ⟨rfl, rfl, rfl⟩⟩
  | some a =>
    obtain ⟨k, r, m, ps⟩ := a
    obtain ⟨vp, h1, h2, _⟩ := h
    exact ⟨vp, h1, h2⟩
theorem ownK_at {k : IntKind} {hb H H' : Heap} {t : Nat} {v : V} {l : List Int} (ho : OwnK k hb H t v l) (hn : H.next ≤ H'.next) (hg : ∀ b o n c, v = .slice b o n c → hb.next ≤ b → b < H.next → H'.get b = H.get b) : OwnK k hb H' t v l := by
  rcases ho with h | ⟨b, c, k1, k2, k3, k4, k5, k6⟩
  · exact .inl h
  · exact .inr ⟨b, c, k1, k2, k3, by omega, k5, by rw [hg b _ _ _ k1 k3 k4]; exact k6⟩
theorem isRef_ext {hb H K : Heap} {p : Nat} {vh vps : V} {s : PS} {f : Bool} (hI : isRef hb H p vh s f vps) (hF : Fresh H) (hE : Ext H K) : isRef hb K p vh s f vps :=
  ⟨hE.get hF hI.1, ownK_keep hI.2.1 hE.1 fun q cs hq => by rw [hE.get hF hq, hq], hI.2.2⟩
theorem ownK_blk {k : IntKind} {hb H : Heap} {t b o n : Nat} {c : Option Nat} {l : List Int} (ho : OwnK k hb H t (.slice b o n c) l) : hb.next ≤ b ∧ b < H.next ∧ H.get b = some (.cells (l.map (V.int k)) t 1 true) := by
  rcases ho with ⟨h, _⟩ | ⟨b', c', k1, k2, k3, k4, k5, k6⟩
  · cases h
  · injection k1 with e
    subst e
    exact ⟨k3, k4, k6⟩
def boxA (H : Heap) (k r : Int) (m : Bool) (vp : V) : Heap := H.new (.cells [.int .i64 k, .int .i32 r, .bool m, vp] 30 1 true)
theorem boxA_ext (H : Heap) (k r : Int) (m : Bool) (vp : V) : Ext H (boxA H k r m vp) := Ext.new H _
theorem boxA_fresh {H : Heap} (hF : Fresh H) (k r : Int) (m : Bool) (vp : V) : Fresh (boxA H k r m vp) := hF.new _
theorem boxA_get (H : Heap) (k r : Int) (m : Bool) (vp : V) : (boxA H k r m vp).get H.next = some (.cells [.int .i64 k, .int .i32 r, .bool m, vp] 30 1 true) := by unfold boxA; rw [Heap.get_new]; exact if_pos rfl
theorem two_step {g gR : ARaw} (kR : IsStep (fun _ => True) stRune g) (kRR : IsStepR (fun s _ => ovOk s) stRune gR) {hb H : Heap} {p q : Nat} {rp vh vps vpsr : V} {s : PS} {fr : Bool} (r : Int) (hE : Ext hb H) (hF : Fresh H) (hp : hb.next ≤ p) (hq : hb.next ≤ q) (hI : isPar hb H p rp s vps) (hI2 : isRef hb H q vh s fr vpsr) (hw : wfPS s) (hov : ovOk s) (hap : apartV vps vpsr) :
    ∃ vp1 vp2 A1 A2 vps' vpsr' fr' k r' m ps ok,
      g [.ptr p 0, .int .i32 r] H = some (.tuple [.agg [.int .i64 k, .int .i32 r', .bool m, vp1], .bool ok], A1) ∧
      gR [.ptr q 0, .int .i32 r] (boxA A1 k r' m vp1) = some (.tuple [.agg [.int .i64 k, .int .i32 r', .bool m, vp2], .bool ok], A2) ∧
      A1.next + 1 ≤ A2.next ∧ Ext hb (boxA A2 k r' m vp2) ∧ Fresh (boxA A2 k r' m vp2) ∧ isPar hb (boxA A2 k r' m vp2) p rp (stRune s r).1 vps' ∧ isRef hb (boxA A2 k r' m vp2) q vh (stRune s r).1 fr' vpsr' ∧ apartV vps' vpsr' ∧
      (boxA A2 k r' m vp2).get A1.next = some (.cells [.int .i64 k, .int .i32 r', .bool m, vp1] 30 1 true) ∧
      slK .i64 (boxA A2 k r' m vp2) vp1 = some ps ∧ slK .i64 (boxA A2 k r' m vp2) vp2 = some ps ∧ vp1.one = true ∧ vp2.one = true ∧ ps.length ≤ 16 ∧
      Ext hb (boxA A1 k r' m vp1) ∧ (∀ b xs, H.get b = some (.cells xs 21 1 true) → (boxA A1 k r' m vp1).get b = some (.cells xs 21 1 true)) ∧ (∀ b xs, H.get b = some (.cells xs 21 1 true) → (boxA A2 k r' m vp2).get b = some (.cells xs 21 1 true)) := by
  obtain ⟨v1, A1, e1, vps', a1, a2, a3, a4, a5, a6, a7⟩ := kR hb H p rp vps s r hE hF hp hI hw trivial
  obtain ⟨vp1, rfl, o1⟩ := actR_out a7
  have hps : (outA (stRune s r).2).2.2.2.length ≤ 16 := by
    cases hq : (stRune s r).2 with
    | none => exact Nat.zero_le _
    | some a => exact rune_params hw hq
  have hO : ∃ k r' m, (outA (stRune s r).2).1 = k ∧ (outA (stRune s r).2).2.1 = r' ∧ (outA (stRune s r).2).2.2.1 = m := ⟨_, _, _, rfl, rfl, rfl⟩
  obtain ⟨k, r', m, hk1, hk2, hk3⟩ := hO
  obtain ⟨ps, hk4⟩ : ∃ ps, (outA (stRune s r).2).2.2.2 = ps := ⟨_, rfl⟩
  rw [hk4] at hps o1
  rw [hk1, hk2, hk3] at e1
  have hpl := hF.lt hI.1
  have hql := hF.lt hI2.1
  have hpq : q ≠ p := typ_ne hI.1 hI2.1 (by decide)
  have hqv : ∀ o n c, vps ≠ .slice q o n c := fun o n c e => (ownK_ne (e ▸ hI.2) hI2.1 (by decide)) rfl
  have hvr : ∀ b o n c, vpsr = .slice b o n c → b < H.next ∧ b ≠ p ∧ b ≠ q ∧ ∀ o n c, vps ≠ .slice b o n c := fun b o n c e => by
    have h1 := hI2.2.1
    rw [e] at h1
    exact ⟨(ownK_blk h1).2.1, ownK_ne h1 hI.1 (by decide), ownK_ne h1 hI2.1 (by decide), fun o' n' c' e' => hap _ _ _ _ _ _ _ e' e⟩
  -- the reference's, behind the first step
  have b1 : isRef hb (boxA A1 k r' m vp1) q vh s fr vpsr := isRef_ext (K := boxA A1 k r' m vp1) (H := A1) ⟨by rw [a5 q hql hpq hqv]; exact hI2.1, ownK_at hI2.2.1 a3 fun b o n c e _ _ => by
      obtain ⟨h1, h2, _, h3⟩ := hvr b o n c e
      exact a5 b h1 h2 h3, hI2.2.2⟩ a2 (boxA_ext _ _ _ _ _)
  have b2 : isPar hb (boxA A1 k r' m vp1) p rp (stRune s r).1 vps' := isPar_ext a4 a2 (boxA_ext _ _ _ _ _)
  have bE : Ext hb (boxA A1 k r' m vp1) := a1.trans (boxA_ext _ _ _ _ _)
  have bF := boxA_fresh a2 k r' m vp1
  obtain ⟨v2, A2, e2, vpsr', fr', c1, c2, c3, c4, c5, c6, c7⟩ := kRR hb (boxA A1 k r' m vp1) q vh vpsr s fr r bE bF hq b1 hw hov
  obtain ⟨vp2, rfl, o2⟩ := actR_out c7
  rw [hk4] at o2
  rw [hk1, hk2, hk3] at e2
  have nA : (boxA A1 k r' m vp1).next = A1.next + 1 := rfl
  have hx : ∀ b, b < A1.next + 1 → b ≠ q → (∀ o n c, vpsr ≠ .slice b o n c) → A2.get b = (boxA A1 k r' m vp1).get b := fun b h1 h2 h3 => c5 b h1 h2 h3
  have hnew : ∀ b, H.next ≤ b → b < A1.next + 1 → A2.get b = (boxA A1 k r' m vp1).get b := fun b h1 h2 => hx b h2 (by omega) fun o n c e => by have := (hvr b o n c e).1; omega
  have xE := boxA_ext A2 k r' m vp2
  have xF := boxA_fresh c2 k r' m vp2
  have hap' : ∀ b o n c, vps' = .slice b o n c → b < A1.next ∧ b ≠ q ∧ ∀ o n c, vpsr ≠ .slice b o n c := fun b o n c e => by
    have h1 := a4.2
    rw [e] at h1
    refine ⟨(ownK_blk h1).2.1, fun e' => ?_, fun o' n' c' e' => ?_⟩
    · have h2 := (ownK_blk h1).2.2
      rw [e', a5 q hql hpq hqv, hI2.1] at h2
      injection h2 with h2
      injection h2 with _ h2
      exact absurd h2 (by decide)
    · obtain ⟨h2, _⟩ := hvr b o' n' c' e'
      rcases a6 b o n c e with ⟨o3, n3, c3, h3⟩ | h3
      · exact hap _ _ _ _ _ _ _ h3 e'
      · omega
  have kk : ∀ b xs, H.get b = some (.cells xs 21 1 true) → (boxA A1 k r' m vp1).get b = some (.cells xs 21 1 true) ∧ (boxA A2 k r' m vp2).get b = some (.cells xs 21 1 true) := by
    intro b xs hb'
    have hbl := hF.lt hb'
    have n1 : b ≠ p := typ_ne hI.1 hb' (by decide)
    have n2 : b ≠ q := typ_ne hI2.1 hb' (by decide)
    have n3 : ∀ o n c, vps ≠ .slice b o n c := fun o n c e => (ownK_ne (e ▸ hI.2) hb' (by decide)) rfl
    have n4 : ∀ o n c, vpsr ≠ .slice b o n c := fun o n c e => (ownK_ne (e ▸ hI2.2.1) hb' (by decide)) rfl
    have h1 : (boxA A1 k r' m vp1).get b = some (.cells xs 21 1 true) := by rw [(boxA_ext A1 k r' m vp1).2 b (by omega), a5 b hbl n1 n3]; exact hb'
    exact ⟨h1, by rw [xE.2 b (by have := c3; omega), hx b (by omega) n2 n4]; exact h1⟩
  refine ⟨vp1, vp2, A1, A2, vps', vpsr', fr', k, r', m, ps, _, e1, e2, by have := c3; omega, c1.trans xE, xF, ?_, isRef_ext c4 c2 xE, ?_, ?_, ?_, ?_, ?_, ?_, hps, bE, fun b xs h => (kk b xs h).1, fun b xs h => (kk b xs h).2⟩
  · refine isPar_ext (H := A2) ⟨?_, ownK_at b2.2 c3 fun b o n c e _ _ => ?_⟩ c2 xE
    · rw [hx p (by have := a3; omega) (fun e => hpq e.symm) fun o n c e => (hvr p o n c e).2.1 rfl]; exact b2.1
    · obtain ⟨h1, h2, h3⟩ := hap' b o n c e
      exact hx b (by omega) h2 h3
  · intro b o n c o' n' c' e e'
    obtain ⟨h1, h2, h3⟩ := hap' b o n c e
    rcases c6 b o' n' c' e' with ⟨o4, n4, c4', h4⟩ | h4
    · exact h3 _ _ _ h4
    · have : A1.next + 1 ≤ b := h4
      omega
  · rw [xE.2 A1.next (by have := c3; omega), hnew A1.next a3 (by omega)]
    exact boxA_get A1 k r' m vp1
  · refine OwnK.slK (h0 := H) (t := 3) (ownK_at (ownK_at o1 (H' := boxA A1 k r' m vp1) (by omega) fun b o n c _ _ hb => (boxA_ext A1 k r' m vp1).2 b hb) (by have := c3; have := xE.1; omega) fun b o n c _ h1 h2 => ?_)
    rw [xE.2 b (by have := c3; omega), hnew b h1 h2]
  · exact OwnK.slK (ownK_at o2 xE.1 fun b o n c _ _ hb => xE.2 b hb)
  · rcases o1 with ⟨rfl, _⟩ | ⟨b, c, rfl, _⟩ <;> rfl
  · rcases o2 with ⟨rfl, _⟩ | ⟨b, c, rfl, _⟩ <;> rfl

/-! The reference's Feed, within its parser. -/
def FrInv (hb h0 H : Heap) (p : Nat) (vh : V) (held : List Nat) (vps v0 w : V) (s : PS) (acts : List ActP) (v : V) (rs : List Int) : Prop :=
  Ext hb H ∧ Fresh H ∧ h0.next ≤ H.next ∧ (∃ fr, isRef hb H p vh s fr vps) ∧ (wfPS s ∧ ovOk s) ∧ isHeld H vh held ∧ (∃ cs, Own hb H 30 4 w acts.length cs ∧ actsR h0 H vps acts cs) ∧ (∀ b o n c, w = .slice b o n c → h0.next ≤ b) ∧
  newOr h0 v0 vps ∧ slK .i32 H v = some rs ∧ (v = .nilslice ∨ ∃ q n cs, v = .slice q 0 n none ∧ H.get q = some (.cells cs 21 1 true)) ∧ (∀ q, q < h0.next → q ≠ p → (∀ o n c, v0 ≠ .slice q o n c) → H.get q = h0.get q)
theorem FrInv.move {hb h0 H K : Heap} {p : Nat} {vh : V} {held : List Nat} {vps v0 w w' v : V} {s : PS} {acts acts' : List ActP} {rs : List Int} (hI : FrInv hb h0 H p vh held vps v0 w s acts v rs) (hn : H.next ≤ K.next) (eK : Ext hb K) (fK : Fresh K)
    (hk : ∀ q, q < H.next → (∀ o n c, w ≠ .slice q o n c) → K.get q = H.get q) (hw : (∃ cs, Own hb K 30 4 w' acts'.length cs ∧ actsR h0 K vps acts' cs)) (hw' : ∀ b o n c, w' = .slice b o n c → h0.next ≤ b) : FrInv hb h0 K p vh held vps v0 w' s acts' v rs := by
  obtain ⟨i1, i2, i3, ⟨fr, i4⟩, i5, i6, ⟨cs0, i7, i8⟩, i9, i10, i11, i12, i13⟩ := hI
  have key : ∀ q xs t, H.get q = some (.cells xs t 1 true) → K.get q = some (.cells xs t 1 true) := fun q xs t hq => by
    rw [hk q (i2.lt hq) fun o n c e => ?_]
    · exact hq
    · rcases i7 with ⟨h0, _⟩ | ⟨b, c', k1, k2, k3, k4, k5, k6⟩
      · rw [h0] at e; cases e
      · rw [k1] at e
        injection e with e
        subst e
        rw [hq] at k6
        injection k6 with k6
        injection k6 with _ _ e
        exact absurd e (by decide)
  refine ⟨eK, fK, by omega, ⟨fr, key _ _ _ i4.1, ?_, i4.2.2⟩, i5, ?_, hw, hw', i10, ?_, ?_, fun q h1 h2 h3 => ?_⟩
  · exact ownK_keep i4.2.1 hn fun q cs hq => by rw [key _ _ _ hq, hq]
  · exact i6.keep fun q cs hq => key _ _ _ hq
  · rcases i12 with rfl | ⟨q, n, cs, rfl, hq⟩
    · exact (show slK .i32 K .nilslice = slK .i32 H .nilslice from rfl).trans i11
    · have e : K.get q = H.get q := by rw [key _ _ _ hq, hq]
      rw [slK_same4 e]; exact i11
  · rcases i12 with rfl | ⟨q, n, cs, rfl, hq⟩
    · exact .inl rfl
    · exact .inr ⟨q, n, cs, rfl, key _ _ _ hq⟩
  · rw [hk q (by omega) (fun o n c e => by have := i9 _ _ _ _ e; omega)]; exact i13 q h1 h2 h3
theorem FrInv.ext {hb h0 H K : Heap} {p : Nat} {vh : V} {held : List Nat} {vps v0 w v : V} {s : PS} {acts : List ActP} {rs : List Int} (hI : FrInv hb h0 H p vh held vps v0 w s acts v rs) (hE : Ext H K) (fK : Fresh K) : FrInv hb h0 K p vh held vps v0 w s acts v rs := by
  obtain ⟨i1, i2, i3, i4, i5, i6, ⟨cs0, i7, i8⟩, i9, i10⟩ := id hI
  exact hI.move hE.1 (i1.trans hE) fK (fun q hq _ => hE.2 q hq) ⟨cs0, own4_keep i7 hE.1 fun q cs hq => by rw [hE.get i2 hq, hq], actsR_keep hE.1 (fun b cs hb _ => by rw [hE.get i2 hb, hb]) (newOr_same _ _) i8⟩ i9
theorem ownK_block {k : IntKind} {hb H : Heap} {t b o n : Nat} {c : Option Nat} {v : V} {l : List Int} (ho : OwnK k hb H t v l) (e : v = .slice b o n c) : hb.next ≤ b ∧ b < H.next ∧ H.get b = some (.cells (l.map (V.int k)) t 1 true) := by
  rw [e] at ho; exact ownK_blk ho
theorem FrInv.step {hb h0 H H1 : Heap} {p : Nat} {vh : V} {held : List Nat} {vps v0 w v vr : V} {s : PS} {acts : List ActP} {rs : List Int} {r : Int} (hI : FrInv hb h0 H p vh held vps v0 w s acts v rs) (hS : StepR hb H p vh vps (stRune s r) vr H1) :
    ∃ vps', FrInv hb h0 H1 p vh held vps' v0 w (stRune s r).1 acts v rs ∧ actR H H1 vps' vr (stRune s r).2 := by
  obtain ⟨i1, i2, i3, ⟨fr, i4⟩, i5, i6, ⟨cs0, i7, i8⟩, i9, i10, i11, i12, i13⟩ := hI
  obtain ⟨vps', fr', s1, s2, s3, s4, s5, s6, s7⟩ := hS
  have hvq : ∀ q o n c, vps = .slice q o n c → H.get q = some (.cells ((refP s).map (V.int .i64)) 3 1 true) := fun q o n c e => (ownK_block i4.2.1 e).2.2
  have key : ∀ q xs t z, (t ≠ 40) → (t ≠ 3) → H.get q = some (.cells xs t z true) → H1.get q = H.get q := fun q xs t z h1 h2 hq => by
    refine s5 q (i2.lt hq) ?_ fun o n c e => ?_
    · rintro rfl
      rw [i4.1] at hq; injection hq with hq; injection hq with _ e; exact h1 e.symm
    · have := hvq q o n c e
      rw [this] at hq; injection hq with hq; injection hq with _ e; exact h2 e.symm
  refine ⟨vps', ⟨s1, s2, by omega, ⟨fr', s4⟩, ⟨wf_rune i5.1 r, ov_rune i5.2 r⟩, ?_, ⟨cs0, own4_keep i7 s3 fun q cs hq => key _ _ _ _ (by decide) (by decide) hq, actsR_keep s3 (fun b cs hb hv => s5 b (i2.lt hb) ?_ hv) s6 i8⟩, i9, ?_, ?_, ?_, fun q h1 h2 h4 => ?_⟩, s7⟩
  · exact i6.keep fun q cs hq => by rw [key _ _ _ _ (by decide) (by decide) hq, hq]
  · rintro rfl
    rw [i4.1] at hb; injection hb with hb; injection hb with _ e; exact absurd e (by decide)
  · intro b o n c e
    rcases s6 b o n c e with ⟨o2, n2, c2, e2⟩ | h
    · exact i10 b o2 n2 c2 e2
    · exact .inr (by omega)
  · rcases i12 with rfl | ⟨q, n, cs, rfl, hq⟩
    · exact (show slK .i32 H1 .nilslice = slK .i32 H .nilslice from rfl).trans i11
    · rw [slK_same4 (key _ _ _ _ (by decide) (by decide) hq)]; exact i11
  · rcases i12 with rfl | ⟨q, n, cs, rfl, hq⟩
    · exact .inl rfl
    · exact .inr ⟨q, n, cs, rfl, by rw [key _ _ _ _ (by decide) (by decide) hq]; exact hq⟩
  · rw [s5 q (by omega) h2 (fun o n c e => ?_)]
    · exact i13 q h1 h2 h4
    · rcases i10 q o n c e with ⟨o2, n2, c2, e2⟩ | h
      · exact h4 _ _ _ e2
      · omega
theorem fr_more (hb h0 H H1 : Heap) {p : Nat} {vh : V} {held : List Nat} {vps v0 w v vr : V} {s : PS} {acts : List ActP} {rs : List Int} {r : Int} (hI : FrInv hb h0 H p vh held vps v0 w s acts v rs) (hacts : acts.length ≤ 1000000000000)
    (hS : StepR hb H p vh vps (stRune s r) vr H1) :
    ∃ cs ok c0 c1 c2 c3, vr = .tuple [.agg cs, .bool ok] ∧ cs = [c0, c1, c2, c3] ∧ c0.one = true ∧ c1.one = true ∧ c2.one = true ∧ c3.one = true ∧ ok = (stRune s r).2.isSome ∧
      (ok = false → ∃ vps', FrInv hb h0 (H1.new (.cells cs 30 1 true)) p vh held vps' v0 w (stRune s r).1 acts v rs) ∧
      (ok = true → ∃ vps' w' H4, appendV ((H1.new (.cells cs 30 1 true)).new (.cells cs 30 4 true)) 30 4 40 w (.slice (H1.next + 1) 0 1 (some 1)) = some (w', H4) ∧ FrInv hb h0 H4 p vh held vps' v0 w' (stRune s r).1 (acts ++ (stRune s r).2.toList) v rs) := by
  obtain ⟨vps', hI1, ha⟩ := hI.step hS
  have f1 : Fresh H1 := hI1.2.1
  cases hout : (stRune s r).2 with
  | none =>
    rw [hout] at ha
    have hv : vr = _ := ha
    exact ⟨_, _, _, _, _, _, hv, rfl, rfl, rfl, rfl, rfl, rfl, fun _ => ⟨vps', hI1.ext (Ext.new _ _) (f1.new _)⟩, fun h => by cases h⟩
  | some a =>
    rw [hout] at ha
    obtain ⟨k, r', m, ps⟩ := a
    obtain ⟨vp, hv, b1, b2⟩ := ha
    have hone : vp.one = true := by rcases b1 with ⟨rfl, _⟩ | ⟨b, c, rfl, _⟩ <;> rfl
    refine ⟨_, _, _, _, _, _, hv, rfl, rfl, rfl, rfl, hone, rfl, fun h => (by cases h), fun _ => ?_⟩
    obtain ⟨H2, hH2⟩ : ∃ A, A = H1.new (.cells [.int .i64 k, .int .i32 r', .bool m, vp] 30 1 true) := ⟨_, rfl⟩
    obtain ⟨H3, hH3⟩ : ∃ A, A = H2.new (.cells [.int .i64 k, .int .i32 r', .bool m, vp] 30 4 true) := ⟨_, rfl⟩
    have x2 : Ext H1 H2 := by rw [hH2]; exact Ext.new _ _
    have f2 : Fresh H2 := by rw [hH2]; exact f1.new _
    have n2 : H2.next = H1.next + 1 := by rw [hH2]; rfl
    have x3 : Ext H2 H3 := by rw [hH3]; exact Ext.new _ _
    have f3 : Fresh H3 := by rw [hH3]; exact f2.new _
    have hI3 := (hI1.ext x2 f2).ext x3 f3
    rw [← hH2, ← hH3, ← n2]
    have hadd : added H3 4 (.slice H2.next 0 1 (some 1)) = some ([V.int .i64 k, .int .i32 r', .bool m, vp], 1) := by
      have : sl H3 4 (.slice H2.next 0 1 (some 1)) = some [V.int .i64 k, .int .i32 r', .bool m, vp] := by rw [hH3]; exact sl_selfE rfl rfl (.inr rfl)
      exact rd_added (sl_rd this)
    obtain ⟨j1, j2, j3, j4, j5, j6, ⟨cs0, j7, j8⟩, j9, j10⟩ := id hI3
    have hm : most = 140737488355328 := rfl
    obtain ⟨w', H4, k1, k2, k3, k4, k5, k6, k7⟩ := Own.app (bytes := 40) (ys := [V.int .i64 k, .int .i32 r', .bool m, vp]) j1 j2 j7 (by simpa using hadd) (by simp) (by simp only [List.all_cons, List.all_nil, Bool.and_true, hone]; rfl) (by rw [hm]; simp only [List.length_cons, List.length_nil]; omega) (by rw [hm]; simp only [List.length_cons, List.length_nil]; omega)
    have k2' : Own hb H4 30 4 w' (acts.length + 1) (cs0 ++ [V.int .i64 k, .int .i32 r', .bool m, vp]) := by simpa using k2
    have hk7 : ∀ q, q < H3.next → (∀ o n c, w ≠ .slice q o n c) → H4.get q = H3.get q := fun q h1 h2 => k7 q h1 fun o c => h2 o _ c
    have key : ∀ q xs, H3.get q = some (.cells xs 3 1 true) → H4.get q = H3.get q := fun q xs hq => by
      refine hk7 q (j2.lt hq) fun o n c e => ?_
      rcases j7 with ⟨h0, _⟩ | ⟨b, c', z1, z2, z3, z4, z5, z6⟩
      · rw [h0] at e; cases e
      · rw [z1] at e
        injection e with e
        subst e
        rw [hq] at z6
        injection z6 with z6
        injection z6 with _ e
        exact absurd e (by decide)
    have o3 : OwnK .i64 h0 H3 3 vp ps := by
      have h1 : OwnK .i64 h0 H1 3 vp ps := Own.base b1 hI.2.2.1
      exact ownK_keep (ownK_keep h1 x2.1 fun q cs hq => by rw [x2.get f1 hq, hq]) x3.1 fun q cs hq => by rw [x3.get f2 hq, hq]
    refine ⟨vps', w', H4, k1, hI3.move k5 k3 k4 hk7 ⟨_, by rw [List.length_append]; exact k2', ?_⟩ fun b o n c e => ?_⟩
    · have h4 := actsR_keep k5 (fun b cs hb _ => key b cs hb) (newOr_same H3 vps') j8
      exact actsR_snoc (x := (k, r', m, ps)) (ownK_keep o3 k5 fun q cs hq => key q cs hq) b2 h4
    · rcases append_block k1 e with h | ⟨o2, n2', c2, h⟩
      · have := hI3.2.2.1; omega
      · exact j9 _ _ _ _ h
/-- What the reference's Feed does: the parser, what it holds, the acts. -/
def FedR (hb H : Heap) (p : Nat) (vps : V) (x : PS × List ActP) (held : List Nat) (v : V) (H' : Heap) : Prop :=
  ∃ vps' vh' fr', Ext hb H' ∧ Fresh H' ∧ H.next ≤ H'.next ∧ isRef hb H' p vh' x.1 fr' vps' ∧ ovOk x.1 ∧ isHeld H' vh' held ∧
    (∃ cs, Own H H' 30 4 v x.2.length cs ∧ actsR H H' vps' x.2 cs) ∧ newOr H vps vps' ∧ (∀ q, q < H.next → q ≠ p → (∀ o n c, vps ≠ .slice q o n c) → H'.get q = H.get q)
def IsFeedR (g : ARaw) : Prop :=
  ∀ (hb H : Heap) (p : Nat) (vh vps vb : V) (s : PS) (fr : Bool) (held b : List Nat), Ext hb H → Fresh H → hb.next ≤ p → isRef hb H p vh s fr vps → wfPS s → ovOk s → isHeld H vh held → slB H vb = some b → held.length + b.length ≤ 1100000 →
    ∃ v H', g [.ptr p 0, vb] H = some (v, H') ∧ FedR hb H p vps (stRunes s (runesL ((held ++ b).take (cutN (held ++ b))))) ((held ++ b).drop (cutN (held ++ b))) v H'
theorem feedR_ok (cf : ACall) (g_dec : ARaw) (hDec : ∀ a h, cf 27 a h = g_dec a h) (kDec : IsDecR g_dec) (g_runeR : ARaw) (hRune : ∀ a h, cf 20 a h = g_runeR a h) (kRune : IsStepR (fun s _ => ovOk s) stRune g_runeR) : IsFeedR (bodyA cf 2000000 c18) := by
  intro hb H p vh0 vps vb s fr held b hE hF hp hI hw hov hd hb' hl
  have g0 : H.get p = some (.cells [vh0, .int .i64 (s.st : Int), vps, .bool s.mark, .bool s.odd, .bool fr] 40 1 true) := hI.1
  obtain ⟨v, A1, r1, r2, ⟨vh, r3a, r3⟩, r4, r5, r6, r7⟩ := kDec H p vh0 _ _ _ _ _ vb held b hF g0 hd.1 hb' (by omega)
  have hrl := runesL_le ((held ++ b).take (cutN (held ++ b)))
  have htl : ((held ++ b).take (cutN (held ++ b))).length ≤ held.length + b.length := by rw [List.length_take, List.length_append]; omega
  generalize runesL ((held ++ b).take (cutN (held ++ b))) = rs at *
  generalize (held ++ b).drop (cutN (held ++ b)) = hd1 at *
  have hpl := hF.lt hI.1
  have eA : Ext hb A1 := ⟨by have := hE.1; omega, fun q hq => by rw [r5 q (by omega) (by have := hE.1; omega)]; exact hE.2 q hq⟩
  have hvs := slK_isSl r2
  have hvl := slK_vlen r2
  have hS : FrInv hb H A1 p vh hd1 vps vps .nilslice s [] v rs := by
    refine ⟨eA, r4, r6, ⟨fr, r3a, ownK_keep hI.2.1 r6 fun q cs hq => r5 q (typ_ne g0 hq (by decide)) (hF.lt hq), hI.2.2⟩, ⟨hw, hov⟩, r3, ⟨[], .inl ⟨rfl, rfl, rfl⟩, rfl⟩, fun b o n c h => (by cases h), newOr_same _ _, r2, r7.imp id fun ⟨q, n, cs, a, _, c⟩ => ⟨q, n, cs, a, c⟩, fun q h1 h2 h3 => r5 q h2 h1⟩
  have L := loop_count (cf := cf) (N := 2000000) (c := c18_l0) rs.length
    (fun i e K => e.n = 36 ∧ e.at 0 = .ptr p 0 ∧ e.at 6 = v ∧ e.at 7 = .int .i64 (i : Int) ∧ ∃ vps', FrInv hb H K p vh hd1 vps' vps (e.at 5) (stRunes s (rs.take i)).1 (stRunes s (rs.take i)).2 v rs)
    (fun x e K => x = .exit 0 ∧ e.n = 36 ∧ ∃ vps', FrInv hb H K p vh hd1 vps' vps (e.at 5) (stRunes s rs).1 (stRunes s rs).2 v rs)
    (by
      rintro i e K hi ⟨hn, q0, q6, q7, vps1, hK⟩
      have hiI : (i : Int) < (rs.length : Int) := by omega
      obtain ⟨r, hr⟩ : ∃ r, rs[i]? = some r := ⟨_, List.getElem?_eq_getElem hi⟩
      have htk : rs.take (i + 1) = rs.take i ++ [r] := by
        rw [List.take_succ_eq_append_getElem hi, (List.getElem?_eq_some_iff.1 hr).2]
      have hsn := stRunes_snoc (rs.take i) r s
      rw [← htk] at hsn
      have hal := stRunes_length (rs.take i) s
      rw [List.length_take] at hal
      rw [hsn]
      generalize (stRunes s (rs.take i)).1 = s1 at *
      generalize (stRunes s (rs.take i)).2 = acts at *
      obtain ⟨j1, j2, j3, ⟨fr1, j4⟩, j5, j6, j7, j8, j9, j10, j11, j12⟩ := id hK
      have hload := rd_load (sl_rd (slK_sl j10)) (j := i) (x := .int .i32 r) (by rw [List.getElem?_map, hr]; rfl)
      have hidx := indexE (z := 1) hvs K (k := .i64) (i := (i : Int)) (by omega) (by rw [hvl]; omega)
      simp only [Int.toNat_natCast, Nat.mul_one] at hidx
      obtain ⟨vr, H1, k1, k2⟩ := kRune hb K p vh vps1 s1 fr1 r j1 j2 hp j4 j5.1 j5.2
      generalize q5 : e.at 5 = w at *
      obtain ⟨cs, ok, c0, c1, c2, c3, rfl, rfl, o0, o1, o2, o3, hok, m1, m2⟩ := fr_more hb H K H1 hK (by omega) k2
      have wi : wrapF .i64 ((i : Int) + 1) = (i : Int) + 1 := wrap_i64 (by omega) (by omega)
      have ov0 : ∀ a0 a1 a2 a3 x0 x1 x2 x3 : V, over [a0, a1, a2, a3] 0 [x0, x1, x2, x3] = [x0, x1, x2, x3] := fun _ _ _ _ _ _ _ _ => rfl
      cases ok with
      | false =>
        obtain ⟨vps2, hK2⟩ := m1 rfl
        have hnone : (stRune s1 r).2 = none := by
          cases hq : (stRune s1 r).2 with
          | none => rfl
          | some a => rw [hq] at hok; cases hok
        rw [hnone]
        simp (config := {maxSteps := 1000000, maxDischargeDepth := 9, implicitDefEqProofs := false}) [c18_l0, hn, q0, q5, q6, q7, lenE hvs, hvl, hiI, hi, hidx, hload, hRune, k1, o0, o1, o2, o3, ov0, wi, -over]
        exact ⟨vps2, hK2⟩
      | true =>
        obtain ⟨vps2, w', H4, a1, hK2⟩ := m2 rfl
        simp (config := {maxSteps := 1000000, maxDischargeDepth := 9, implicitDefEqProofs := false}) [c18_l0, hn, q0, q5, q6, q7, lenE hvs, hvl, hiI, hi, hidx, hload, hRune, k1, o0, o1, o2, o3, ov0, a1, wi, -over]
        exact ⟨vps2, hK2⟩)
    (by
      rintro e K ⟨hn, q0, q6, q7, vps1, hK⟩
      rw [List.take_length] at hK
      generalize q5 : e.at 5 = w at *
      simp (config := {maxSteps := 1000000, maxDischargeDepth := 9, implicitDefEqProofs := false}) [c18_l0, hn, q5, q6, q7, lenE hvs, hvl]
      exact ⟨vps1, hK⟩)
  show Runs _ _
  simp (config := {maxSteps := 1000000, maxDischargeDepth := 9, implicitDefEqProofs := false}) [c18, g0, hDec, r1]
  refine loop_then (K := fun r => finS _ (seqS _ _ _ (blockS _ r))) (L 0 _ _ (Nat.zero_le _) ?_ (by omega)) ?_
  · simp (config := {maxSteps := 1000000, maxDischargeDepth := 9, implicitDefEqProofs := false})
    exact ⟨vps, hS⟩
  · rintro x e' K ⟨rfl, hn', vps1, hK⟩
    generalize q5 : e'.at 5 = w at *
    simp (config := {maxSteps := 1000000, maxDischargeDepth := 9, implicitDefEqProofs := false}) [hn', q5]
    obtain ⟨j1, j2, j3, ⟨fr1, j4⟩, j5, j6, ⟨cs0, j7, j8⟩, j9, j10, j11, j12, j13⟩ := hK
    have hO : Own H K 30 4 w (stRunes s rs).2.length cs0 := by
      rcases j7 with hh | ⟨b', c', z1, z2, z3, z4, z5, z6⟩
      · exact .inl hh
      · exact .inr ⟨b', c', z1, z2, j9 _ _ _ _ z1, z4, z5, z6⟩
    exact ⟨vps1, vh, fr1, j1, j2, j3, j4, j5.2, j6, ⟨cs0, hO, j8⟩, j10, j13⟩

theorem actsR_at {h0 H H' : Heap} {vps : V} (hn : H.next ≤ H'.next) (hk : ∀ b, h0.next ≤ b → b < H.next → H'.get b = H.get b) : ∀ {l : List ActP} {cs : List V}, actsR h0 H vps l cs → actsR h0 H' vps l cs
  | [], cs, h => h
  | a :: l, cs, h => by
    obtain ⟨vp, cs', h1, h4, h5, h6⟩ := h
    exact ⟨vp, cs', h1, ownK_at h4 hn fun b o n c _ h7 h8 => hk b h7 h8, h5, actsR_at hn hk h6⟩
theorem own4_at {h H H' : Heap} {v : V} {n t : Nat} {l : List V} (ho : Own h H t 4 v n l) (hn : H.next ≤ H'.next) (hg : ∀ b, h.next ≤ b → b < H.next → H'.get b = H.get b) : Own h H' t 4 v n l := by
  rcases ho with hh | ⟨b, c, k1, k2, k3, k4, k5, k6⟩
  · exact .inl hh
  · exact .inr ⟨b, c, k1, k2, k3, by omega, k5, by rw [hg b k3 k4]; exact k6⟩
/-- The parser and the reference's, which stand alike. -/
def VfInv (hb H : Heap) (p1 d1 p2 : Nat) : Prop := ∃ s held vps vh fr vpsr, Ext hb H ∧ Fresh H ∧ isPar hb H p1 (.ptr d1 0) s vps ∧ isDec H d1 69 held ∧ isRef hb H p2 vh s fr vpsr ∧ isHeld H vh held ∧ wfPS s ∧ ovOk s ∧ apartV vps vpsr ∧ held.length ≤ 3
theorem vf_step {g gR : ARaw} (kFeed : IsFeed g) (kFeedR : IsFeedR gR) {hb H : Heap} {p1 d1 p2 : Nat} {b : List Nat} {vb : V} (hfb : Fresh hb) (hL : hasLaid laidVals hb) (hp1 : hb.next ≤ p1) (hd1 : hb.next ≤ d1) (hp2 : hb.next ≤ p2) (hI : VfInv hb H p1 d1 p2) (hb' : slB hb vb = some b) (hl : b.length ≤ 1048576) :
    ∃ v H1 w H2 l, g [.ptr p1 0, vb] H = some (v, H1) ∧ gR [.ptr p2 0, vb] H1 = some (w, H2) ∧ rowC H2 v l ∧ rowC H2 w l ∧ l.length ≤ 1500000 ∧ (∀ a ∈ l, a.2.2.2.length ≤ 100) ∧ Ext hb H1 ∧ VfInv hb H2 p1 d1 p2 := by
  obtain ⟨s, held, vps, vh, fr, vpsr, i1, i2, i3, i4, i5, i6, hw, hov, hap, hh⟩ := hI
  obtain ⟨v, H1, r1, vps1, f1, f2, f3, f4, f5, f6, ⟨cs1, f7, f8⟩, f9, f10⟩ := kFeed hb H p1 d1 vps vb s held b hfb hL i1 i2 hp1 hd1 i3 hw i4 (slB_ext i1 hfb hb') (by omega)
  obtain ⟨vd, gd, _⟩ := i4.get
  have hvp : ∀ q o n c, vps = .slice q o n c → H.get q = some (.cells (s.params.map (V.int .i64)) 3 1 true) := fun q o n c e => (ownK_block i3.2 e).2.2
  have hvr : ∀ q o n c, vpsr = .slice q o n c → q < H.next ∧ H.get q = some (.cells ((refP s).map (V.int .i64)) 3 1 true) := fun q o n c e => (ownK_block i5.2.1 e).2
  have key1 : ∀ q xs t z, H.get q = some (.cells xs t z true) → t ≠ 60 → t ≠ 69 → (∀ o n c, vps ≠ .slice q o n c) → H1.get q = H.get q := fun q xs t z hq h1 h2 h3 => by
    refine f10 q (i2.lt hq) ?_ ?_ h3
    · rintro rfl
      rw [i3.1] at hq; injection hq with hq; injection hq with _ e; exact h1 e.symm
    · rintro rfl
      rw [gd] at hq; injection hq with hq; injection hq with _ e; exact h2 e.symm
  have notP : ∀ q xs t z, H.get q = some (.cells xs t z true) → t ≠ 3 → ∀ o n c, vps ≠ .slice q o n c := fun q xs t z hq h1 o n c e => by
    rw [hvp q o n c e] at hq; injection hq with hq; injection hq with _ e; exact h1 e.symm
  have a5 : isRef hb H1 p2 vh s fr vpsr := ⟨by rw [key1 _ _ _ _ i5.1 (by decide) (by decide) (notP _ _ _ _ i5.1 (by decide))]; exact i5.1, ownK_at i5.2.1 f3 fun q o n c e _ _ => key1 q _ _ _ (hvr q o n c e).2 (by decide) (by decide) (fun o' n' c' e' => hap _ _ _ _ _ _ _ e' e), i5.2.2⟩
  have a6 : isHeld H1 vh held := i6.keep fun q cs hq => by rw [key1 _ _ _ _ hq (by decide) (by decide) (notP _ _ _ _ hq (by decide))]; exact hq
  have ap1 : apartV vps1 vpsr := fun q o n c o' n' c' e e' => by
    have := (hvr q o' n' c' e').1
    rcases f9 q o n c e with ⟨o2, n2, c2, h2⟩ | h2
    · exact hap _ _ _ _ _ _ _ h2 e'
    · omega
  obtain ⟨w, H2, r2, vpsr1, vh1, fr1, e1, e2, e3, e4, e5, e6, ⟨cs2, e7, e8⟩, e9, e10⟩ := kFeedR hb H1 p2 vh vpsr vb s fr held b f1 f2 hp2 a5 hw hov a6 (slB_ext f1 hfb hb') (by omega)
  have hp2l := i2.lt i5.1
  have new2 : ∀ q, H.next ≤ q → q < H1.next → H2.get q = H1.get q := fun q h1 h2 => e10 q h2 (by omega) fun o n c e => by have := (hvr q o n c e).1; omega
  have hvr1 : ∀ q o n c, vpsr = .slice q o n c → H1.get q = some (.cells ((refP s).map (V.int .i64)) 3 1 true) := fun q o n c e => (ownK_block a5.2.1 e).2.2
  have key2 : ∀ q xs t z, H1.get q = some (.cells xs t z true) → t ≠ 40 → (∀ o n c, vpsr ≠ .slice q o n c) → H2.get q = H1.get q := fun q xs t z hq h1 h3 => by
    refine e10 q (f2.lt hq) ?_ h3
    rintro rfl
    rw [a5.1] at hq; injection hq with hq; injection hq with _ e; exact h1 e.symm
  have notR : ∀ q xs t z, H1.get q = some (.cells xs t z true) → t ≠ 3 → ∀ o n c, vpsr ≠ .slice q o n c := fun q xs t z hq h1 o n c e => by
    rw [hvr1 q o n c e] at hq; injection hq with hq; injection hq with _ e; exact h1 e.symm
  have b3 : isPar hb H2 p1 (.ptr d1 0) (stRunes s (runesL ((held ++ b).take (cutN (held ++ b))))).1 vps1 := ⟨by rw [key2 _ _ _ _ f4.1 (by decide) (notR _ _ _ _ f4.1 (by decide))]; exact f4.1, ownK_at f4.2 e3 fun q o n c e _ _ => key2 q _ _ _ (ownK_block f4.2 e).2.2 (by decide) (fun o' n' c' e' => ap1 _ _ _ _ _ _ _ e e')⟩
  obtain ⟨vd1, gd1, _⟩ := f6.get
  have b4 := f6.keep (H' := H2) (key2 _ _ _ _ gd1 (by decide) (notR _ _ _ _ gd1 (by decide))) fun q cs _ hq => key2 _ _ _ _ hq (by decide) (notR _ _ _ _ hq (by decide))
  have ap2 : apartV vps1 vpsr1 := fun q o n c o' n' c' e e' => by
    rcases e9 q o' n' c' e' with ⟨o2, n2, c2, h2⟩ | h2
    · exact ap1 _ _ _ _ _ _ _ e h2
    · have := (ownK_block f4.2 e).2.1; omega
  have rv : rowC H2 v _ := rowC_of (own4_at f7 e3 new2) (actsR_at e3 new2 f8)
  have rw' : rowC H2 w _ := rowC_of e7 e8
  have hnl := stRunes_length (runesL ((held ++ b).take (cutN (held ++ b)))) s
  have hnr := runesL_le ((held ++ b).take (cutN (held ++ b)))
  rw [List.length_take, List.length_append] at hnr
  obtain ⟨c1, c2, _, _⟩ := cutN_spec (held ++ b)
  exact ⟨v, H1, w, H2, _, r1, r2, rv, rw', by omega, fun a ha => by have := runes_params _ s hw a ha; omega, f1, _, _, _, _, _, _, e1, e2, b3, b4, e4, e6, f5, e5, ap2, by rw [List.length_drop]; omega⟩
theorem vf_loop (cf : ACall) {g gR g_same : ARaw} (hFeed : ∀ a h, cf 12 a h = g a h) (kFeed : IsFeed g) (hFeedR : ∀ a h, cf 18 a h = gR a h) (kFeedR : IsFeedR gR) (hSame : ∀ a h, cf 17 a h = g_same a h) (kSame : IsSame20 g_same) (hb : Heap) (hfb : Fresh hb) (hL : hasLaid laidVals hb) (xs : List (List Nat)) (vx : V) (n0 p1 d1 p2 : Nat) (hp1 : hb.next ≤ p1) (hd1 : hb.next ≤ d1) (hp2 : hb.next ≤ p2)
    (hxs : ∀ (i : Nat) t, xs[i]? = some t → t.length ≤ 1048576) (hx : xs.length ≤ 41) (hrow : sl hb 1 vx = some (rowV n0 xs)) (hpiece : ∀ (i : Nat) s, xs[i]? = some s → slB hb (.slice (n0 + i) 0 s.length none) = some s) :
    ∀ e H, e.n = 60 → e.at 12 = vx → e.at 13 = .ptr p1 0 → e.at 14 = .ptr p2 0 → e.at 15 = .int .i64 0 → VfInv hb H p1 d1 p2 →
    YthfbefjmenddkaaDoorA.Ends (execA cf 100 (.loop c4_l0) e H) fun x e' H' => x = .exit 1 ∧ e'.n = 60 := by
  intro e H hn q12 q13 q14 q15 hI
  have hvl : vlen vx = xs.length := by rw [rd_vlen (sl_rd hrow), rowV_length]
  have hvs := sl_isSl hrow
  refine loop_count (cf := cf) (N := 100) (c := c4_l0) xs.length
    (fun i e H => e.n = 60 ∧ e.at 12 = vx ∧ e.at 13 = .ptr p1 0 ∧ e.at 14 = .ptr p2 0 ∧ e.at 15 = .int .i64 (i : Int) ∧ VfInv hb H p1 d1 p2)
    (fun x e' H' => x = .exit 1 ∧ e'.n = 60) ?_ ?_ 0 e _ (Nat.zero_le _) ⟨hn, q12, q13, q14, q15, hI⟩ (by omega)
  · rintro i e H hi ⟨hn, q12, q13, q14, q15, hI⟩
    have hiI : (i : Int) < (xs.length : Int) := by omega
    obtain ⟨b, hb'⟩ : ∃ b, xs[i]? = some b := ⟨_, List.getElem?_eq_getElem hi⟩
    have hE : Ext hb H := by obtain ⟨_, _, _, _, _, _, h1, _⟩ := hI; exact h1
    obtain ⟨v, H1, w, H2, l, r1, r2, r3, r4, r5, r6, r7, hI2⟩ := vf_step kFeed kFeedR hfb hL hp1 hd1 hp2 hI (hpiece i b hb') (hxs i b hb')
    have hload : ∀ K, Ext hb K → loadS (atP vx i) K = some (.slice (n0 + i) 0 b.length none, K) := fun K hK => rd_load (sl_rd (sl_ext hK hfb hrow)) (j := i) (by rw [rowV_get, hb']; rfl)
    have hidx : ∀ K, indexAddrSS 1 vx (.int .i64 (i : Int)) K = some (atP vx i, K) := fun K => by
      have := indexE (z := 1) hvs K (k := .i64) (i := (i : Int)) (by omega) (by rw [hvl]; omega)
      simpa only [Int.toNat_natCast, Nat.mul_one] using this
    have ld1 := hload H hE
    have ld2 := hload H1 r7
    have rS := kSame H2 v w l r3 r4 r5 r6
    have wi : wrapF .i64 ((i : Int) + 1) = (i : Int) + 1 := wrap_i64 (by omega) (by omega)
    simp (config := {maxSteps := 1000000, maxDischargeDepth := 9, implicitDefEqProofs := false}) [c4_l0, hn, q12, q13, q14, q15, lenE hvs, hvl, hiI, hi, hidx, ld1, ld2, hFeed, r1, hFeedR, r2, hSame, rS, wi]
    exact hI2
  · rintro e H ⟨hn, q12, q13, q14, q15, hI⟩
    simp (config := {maxSteps := 1000000, maxDischargeDepth := 9, implicitDefEqProofs := false}) [c4_l0, hn, q12, q13, q14, q15, lenE hvs, hvl]
theorem law_VtFeeds (cf : ACall) (hPick : ∀ a h, cf 13 a h = s_Pick a h) (hknown : ∀ a h, cf 11 a h = s_kn a h) (htext : ∀ a h, cf 14 a h = s_text a h) (hCut : ∀ a h, cf 16 a h = s_Cut a h) (g_out : ARaw) (hOut : ∀ a h, cf 15 a h = g_out a h) (kOut : IsOutput g_out) (g_new : ARaw) (hNew : ∀ a h, cf 10 a h = g_new a h) (kNew : IsNew20 g_new) (g_feed : ARaw) (hFeed : ∀ a h, cf 12 a h = g_feed a h) (kFeed : IsFeed g_feed) (g_feedR : ARaw) (hFeedR : ∀ a h, cf 18 a h = g_feedR a h) (kFeedR : IsFeedR g_feedR) (g_same : ARaw) (hSame : ∀ a h, cf 17 a h = g_same a h) (kSame : IsSame20 g_same)
    (h : Heap) (l lo lc : List Int) (b : List Nat) (how : Int) (vl vb vo vc : V) (hf : Fresh h) (hL : hasLaid laidVals h) (hl : slK .i64 h vl = some l) (hb : slB h vb = some b) (hlo : slK .i64 h vo = some lo) (hlc : slK .i64 h vc = some lc) (hbl : b.length ≤ 1048576) :
    ∃ N, Runs (bodyA cf N c4 [vl, vb, vo, .int .i64 how, vc] h) fun v _ => v = .bool true := by
  have tail : ∀ (e : Env) (h1 : Heap) (s : List Nat), e.n = 60 → e.at 4 = vc → e.at 11 = .str s → Ext h h1 → Fresh h1 → s.length ≤ 1048576 → (∀ y ∈ s, y < 256) →
      Runs (finS [ARes.tmp 10] (execA cf 100 c4_s3 e h1)) fun v _ => v = .bool true := by
    intro e h1 s hn q4 q11 hE hF hsl hlt
    have hL1 := hasLaid_ext hL hf hE
    obtain ⟨xs, hxs⟩ : ∃ xs, xs = cutP 40 lc s := ⟨_, rfl⟩
    have hxl := cutP_len 40 lc s
    have hxf := cutP_flat 40 lc s
    rw [← hxs] at hxl hxf
    obtain ⟨hb', hhb⟩ : ∃ A, A = cutH h1 xs := ⟨_, rfl⟩
    obtain ⟨vx, hvx⟩ : ∃ v : V, v = .slice (h1.next + xs.length) 0 xs.length none := ⟨_, rfl⟩
    have r2 : s_Cut [.str s, vc] h1 = some (vx, hb') := by
      unfold s_Cut
      simp only [slK_ext hE hf hlc]
      rw [if_pos ⟨by omega, hlt⟩, ← hxs, hvx, hhb]
    have eb : Ext h1 hb' := by rw [hhb]; exact cutH_ext _ _
    have fb : Fresh hb' := by rw [hhb]; exact cutH_fresh _ hF
    have hrow : sl hb' 1 vx = some (rowV h1.next xs) := by rw [hhb, hvx]; exact cutH_row _ _
    have hpiece : ∀ (i : Nat) t, xs[i]? = some t → slB hb' (.slice (h1.next + i) 0 t.length none) = some t := fun i t hi => by
      rw [hhb]
      exact cutH_piece _ hi fun y hy => hlt y (by rw [← hxf]; exact List.mem_flatten.2 ⟨t, List.mem_of_getElem? hi, hy⟩)
    have hpl : ∀ (i : Nat) t, xs[i]? = some t → t.length ≤ 1048576 := fun i t hi => by
      have hil := (List.getElem?_eq_some_iff.1 hi).1
      have h2 := congrArg List.length (take_flatten_succ xs i hil)
      rw [List.length_append, List.getD_eq_getElem?_getD, hi, Option.getD_some] at h2
      have h3 : xs.flatten = (xs.take (i + 1)).flatten ++ (xs.drop (i + 1)).flatten := by rw [← List.flatten_append, List.take_append_drop]
      have h4 := congrArg List.length h3
      rw [List.length_append, hxf] at h4
      omega
    have hLb := hasLaid_ext hL1 hF eb
    obtain ⟨A1, hA1⟩ : ∃ A, A = newPar hb' := ⟨_, rfl⟩
    obtain ⟨a1, a1', a2, a3, a4⟩ := newPar_ok (Ext.refl hb') fb
    have rN1 := kNew hb'
    rw [← hA1] at a1 a1' a2 a3 a4 rN1
    have n1 : A1.next = hb'.next + 2 := by rw [hA1]; rfl
    obtain ⟨A2, hA2⟩ : ∃ A, A = A1.new (.cells [.nilslice, .int .i64 0, .nilslice, .bool false, .bool false, .bool false] 40 1 true) := ⟨_, rfl⟩
    have m2 : Ext A1 A2 := by rw [hA2]; exact Ext.new _ _
    have f2 : Fresh A2 := by rw [hA2]; exact a2.new _
    have hE2 := a1.trans m2
    have rk := s_kn_ok (hasLaid_ext hLb fb hE2)
    have hI2 : isRef hb' A2 (hb'.next + 2) .nilslice ps0 false .nilslice := by
      refine ⟨?_, .inl ⟨rfl, rfl, rfl⟩, fun h => by cases h⟩
      rw [hA2, Heap.get_new, if_pos n1.symm]; rfl
    have inv : VfInv hb' A2 (hb'.next + 1) hb'.next (hb'.next + 2) := ⟨_, [], _, _, _, _, hE2, f2, isPar_ext a3 a2 m2, a4.ext a2 m2, hI2, ⟨slB_nil, .inl rfl⟩, wf_ps0, ov_ps0, apartV_nil _, by simp⟩
    simp (config := {maxSteps := 1000000, maxDischargeDepth := 9, implicitDefEqProofs := false}) [c4_s3, hn, q4, q11, hCut, r2, hNew, rN1, ← hA2, n1, hknown, rk]
    refine loop_then (K := fun r => finS _ (seqS _ _ _ (blockS _ r))) (vf_loop cf hFeed kFeed hFeedR kFeedR hSame kSame hb' fb hLb xs vx h1.next (hb'.next + 1) hb'.next (hb'.next + 2) (Nat.le_succ _) (Nat.le_refl _) (by omega) hpl (by omega) hrow hpiece _ A2 ?_ ?_ ?_ ?_ ?_ inv) ?_
    iterate 5 simp (config := {maxSteps := 1000000, maxDischargeDepth := 9, implicitDefEqProofs := false}) [hn]
    rintro x e' H ⟨rfl, hn'⟩
    simp (config := {maxSteps := 1000000, maxDischargeDepth := 9, implicitDefEqProofs := false}) [hn']
  refine ⟨100, ?_⟩
  have ba : bytesStrS vb h = some (.str b, h) := rdB_str (slB_rdB hb)
  have p0 := Int.emod_nonneg how (show (3 : Int) ≠ 0 by omega)
  have p1 := Int.emod_lt_of_pos how (show (0 : Int) < 3 by omega)
  obtain ⟨k, hk⟩ : ∃ k : Nat, how % 3 = (k : Int) := ⟨(how % 3).toNat, by omega⟩
  have rP : s_Pick [.int .i64 how, .int .i64 3] h = some (.int .i64 (k : Int), h) := by
    show (if (0 : Int) < 3 ∧ (3 : Int) ≤ 4611686018427387904 then some (V.int .i64 (how % 3), h) else none) = _
    rw [if_pos (by omega), hk]
  have rT : s_text [vl] h = some (.str (textS l), h) := by unfold s_text; simp only [hl]
  have k3 : k = 0 ∨ k = 1 ∨ k = 2 := by omega
  rcases k3 with rfl | rfl | rfl
  · obtain ⟨t1, t2⟩ := texts_len l 80
    simp (config := {maxSteps := 1000000, maxDischargeDepth := 9, implicitDefEqProofs := false}) [c4, ba, hPick, rP, htext, rT]
    refine tail _ h (textS l) ?_ ?_ ?_ (Ext.refl h) hf (by unfold textS; omega) t2
    iterate 3 simp (config := {maxSteps := 1000000, maxDischargeDepth := 9, implicitDefEqProofs := false})
  · obtain ⟨s, h1, r1, r2, r3, r4, r5⟩ := kOut h vo lo hf hL hlo
    simp (config := {maxSteps := 1000000, maxDischargeDepth := 9, implicitDefEqProofs := false}) [c4, ba, hPick, rP, hOut, r1]
    refine tail _ h1 s ?_ ?_ ?_ r2 r3 (by omega) r5
    iterate 3 simp (config := {maxSteps := 1000000, maxDischargeDepth := 9, implicitDefEqProofs := false})
  · simp (config := {maxSteps := 1000000, maxDischargeDepth := 9, implicitDefEqProofs := false}) [c4, ba, hPick, rP]
    refine tail _ h b ?_ ?_ ?_ (Ext.refl h) hf hbl (slB_lt hb)
    iterate 3 simp (config := {maxSteps := 1000000, maxDischargeDepth := 9, implicitDefEqProofs := false})

end
end Go.Proofs.YthfbefjmenddkaaDoor.VtFeeds
