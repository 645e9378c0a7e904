/- What the functions that the law PadUnpads reaches do, each told once, and the law by them. No condition. -/
import Derived.Test.YtaaejidllnkpbaaDoorCodePadUnpads
namespace Go.Proofs.YtaaejidllnkpbaaDoor.PadUnpads
open Go Go.Proofs.YtaaejidllnkpbaaDoorA
set_option linter.unusedSimpArgs false
set_option linter.unusedVariables false
set_option maxHeartbeats 4000000
set_option maxRecDepth 100000
attribute [local simp] body_eq exec_seq exec_region exec_skip exec_ret exec_exit exec_cond exec_block seqS_normal seqS_ret seqS_exit seqS_none seqS_bif regS_some regS_none regS_bif condS_bool condS_true
  condS_false blockS_normal blockS_ret blockS_exit blockS_none blockS_bif finS_normal finS_ret finS_bif steps_nil steps_cons steps_guard bindS_some bindS_none bindS_bif endS_some
  endS_skip endS_none endS_bif gstep_some gstep_true gstep_false wantV_true wantV_false wantV_undef wantV_gdv_true wantV_gdv_false gdv_true gdv_false aop_pick pickS_or pickS_and
  pickS_true pickS_false bif_bool put_some put_none Env.at_put Env.n_put at_init n_init Opd.ev ressA resA pack Heap.get_new Heap.get_set nextOf_new Heap.next_set nth fillV zeros over
  eqv read_eq read_zero readB_cells one_bool one_int one_str one_ptr one_nilptr one_slice one_nilslice cells_bool cells_int cells_str cells_ptr cells_nilptr cells_slice
  cells_nilslice cells_agg aop_move aop_box aop_boxv boxvS_agg boxvS_int boxvS_bool boxvS_str boxvS_slice boxvS_nilslice aop_build buildS_some aop_buildSlice buildSliceS_some
  aop_load loadS_ptr loadB_cells loadC_some aop_loadn loadnS_ptr aop_store storeS_ptr writeB_cells aop_bin binS_lss binS_leq binS_gtr binS_geq binS_eql binS_neq binS_add binS_sub
  binS_mul binS_quo binS_rem binS_and binS_or binS_xor binS_shl binS_shr binS_seql binS_sneq binS_sadd aop_eq eqS_some_f eqS_some_t aop_un unS_not unS_neg aop_conv convS_int
  aop_convStr convStrS_str aop_intStr intStrS_int aop_strBytes strBytesS_str aop_bytesStr bytesStrS_nil bytesStrS_slice aop_mkIface aop_mkFunc aop_makeSlice makeS_int aop_sliceStr
  sliceStrS_str sliceStrB_some someS_some aop_sliceSl aop_sliceArr sliceArrS_ptr aop_fieldAddr fieldAddrS_ptr aop_field fieldS_agg fieldS_aggn aop_indexAddrA indexAddrAS_ptr
  aop_indexAddrS indexAddrSS_slice aop_indexA indexAS_agg byteS_some aop_indexStr indexStrS_str aop_extract extractS_tuple aop_call callS_func aop_append aop_copy aop_lenS lenSS_str
  aop_lenL lenLS_nil lenLS_slice aop_minmax minmaxS_min minmaxS_max aop_convSame convSameS_slice convSameB_cells aop_lenC Heap.set_newE Heap.kill_newE Heap.set_new_ne
  Heap.set_gone_ne Heap.set_set Heap.get_gone Heap.next_gone loopE_n loopE_at Runs_some Ends_some Ends_none Runs_none VCL_nil VCL_cons VC_tuple VC_agg VC_bool VC_int VC_str VC_nil
  VC_nilptr VC_ptr VC_slice_nn VC_slice_ns VC_slice_s moved_at most_val lim_val next_add vlen_slice vlen_nil isSl_slice isSl_nil atP_slice newV sl_new slB_new slK_new sl_gone
  slB_gone slK_gone lt_slice lt_nil lt_ptr lt_cut sl_selfE slB_litE slK_litE asB asB_bytesOf asK asK_map slB_nil slK_nil slBs Fresh.new Fresh.gone indexE bytesStrE loadBE slice_lo
  slice_hi slice_lohi slB_cut vlen_cut isSl_cut one_cut cells_cut lenE IntKind.bits Int.fdiv_eq_ediv_of_nonneg bytesOf_length sameV_refl gval_true gval_false gval_some traceA_nil
  traceA_cons consT_some mapT_some stepV_none stepV_guard exec_any anyS_some chkOk_nil chkOk_cons sameS_some chk2_some chk1_eq envL_nil envL_cons heapL_nil heapL_cons heapO_some
  heapB_zero heapB_succ isWriter nth_bytesOf nth_ints str_hi str_lo wrap_i64 wrap_i32 wrap_u64 wrap_u32 wrap_u8
attribute [local congr] gstep_congr gval_congr
noncomputable section
/-- portholehand.Pick: the remainder that is not below 0. -/
def s_Pick : List V → Heap → Option (V × Heap)
  | [.int .i64 n, .int .i64 m], h => if 0 < m ∧ m ≤ 4611686018427387904 then some (.int .i64 (n % m), h) else none
  | _, _ => none

theorem tmod_emod (n m : Int) (hm : 0 < m) : (if n.tmod m < 0 then n.tmod m + m else n.tmod m) = n % m := by
  rw [Int.tmod_eq_emod]
  have h1 := Int.emod_nonneg n (show m ≠ 0 by omega)
  have h2 := Int.emod_lt_of_pos n hm
  have h3 : (m.natAbs : Int) = m := by omega
  split <;> split <;> omega

theorem Pick_ok (cf : ACall) : Sum cf c6 s_Pick := by
  intro args h v h' hf hsc hlt hs
  unfold s_Pick at hs
  split at hs
  · rename_i n m
    split at hs
    · rename_i hm
      simp only [Option.some.injEq, Prod.mk.injEq] at hs
      obtain ⟨rfl, rfl⟩ := hs
      have hm0 : ¬ m = 0 := by omega
      have h1 := tmod_emod n m hm.1
      have h2 := Int.emod_nonneg n hm0
      have h3 := Int.emod_lt_of_pos n hm.1
      refine ⟨1, ?_⟩
      have hres : bodyA cf 1 c6 [.int .i64 n, .int .i64 m] h = some (.int .i64 (n % m), h) := by
        by_cases hq : n.tmod m < 0
        · have hd : decide (n.tmod m < 0) = true := by simpa using hq
          rw [if_pos hq] at h1
          simp (config := {maxSteps := 1000000, maxDischargeDepth := 9, implicitDefEqProofs := false}) [c6, hm0, hd]
          simp only [cond_true, h1, Option.some.injEq, Prod.mk.injEq, and_true, V.int.injEq, true_and]
          exact wrap_i64 (by omega) (by omega)
        · have hd : decide (n.tmod m < 0) = false := by simpa using hq
          rw [if_neg hq] at h1
          simp (config := {maxSteps := 1000000, maxDischargeDepth := 9, implicitDefEqProofs := false}) [c6, hm0, hd]
          simp only [cond_false, h1]
      exact ⟨_, _, hres, Canon.same hf hsc (fun _ _ hb => hb) (by simp only [V.lt])⟩
    · cases hs
  · cases hs

/-- portholehand.Few: the first bytes, in new memory. -/
def s_Few : List V → Heap → Option (V × Heap)
  | [v, .int .i64 k], h => match slB h v with
    | some s => if s.length ≤ lim ∧ 0 ≤ k then some (newV h (s.take k.toNat).length, h.new (.cells (bytesOf (s.take k.toNat)) 5 1 true)) else none
    | none => none
  | _, _ => none

theorem Few_ok (cf : ACall) : Sum cf c7 s_Few := by
  intro args h v h' hf hsc hlt hs
  unfold s_Few at hs
  split at hs
  · rename_i a k
    split at hs
    · rename_i s ha
      split at hs
      · rename_i hl
        simp only [Option.some.injEq, Prod.mk.injEq] at hs
        obtain ⟨rfl, rfl⟩ := hs
        have hv := slB_vlen ha
        have hsl := slB_isSl ha
        have ha' := slB_ext (Ext.new h (.cells [] 5 1 true)) hf ha
        obtain ⟨m, hm⟩ : ∃ m : Int, m = if k < (s.length : Int) then k else (s.length : Int) := ⟨_, rfl⟩
        have hm0 : 0 ≤ m ∧ m ≤ vlen a := by rw [hm, hv]; split <;> omega
        have hcut := slice_hi (k := .i64) (h := h.new (.cells [] 5 1 true)) (by rw [ha']; rfl) hm0.1 hm0.2
        have hcb := slB_cut (l := 0) (r := m.toNat) (by rw [ha']; rfl) (Nat.zero_le _) (by omega)
        have htake : s.take m.toNat = s.take k.toNat := by
          rw [hm]; split
          · rfl
          · rw [List.take_of_length_le (by omega), List.take_of_length_le (by omega)]
        rw [ha', Option.map_some, List.drop_zero, htake] at hcb
        obtain ⟨v2, h2, k1, k2, k3, k4, _, k6, _⟩ := (OwnB.start h 5).app (Ext.new h _) (hf.new _) (slB_added hcb) (by simp only [List.length_nil, Nat.zero_add, List.length_take]; omega)
        obtain ⟨τ, hc⟩ := k2.canon hf hsc k3 (k6 (by simp))
        refine ⟨1, v2, h2, ?_, τ, hc⟩
        simp (config := {maxSteps := 1000000, maxDischargeDepth := 9, implicitDefEqProofs := false}) [c7, lenE hsl, hv, ← hm, hcut, k1]
      · cases hs
    · cases hs
  · cases hs

/-- octet.Clone: the same bytes, in new memory. -/
def s_Clone : List V → Heap → Option (V × Heap)
  | [v], h => match slB h v with
    | some s => if s.length ≤ lim then some (newV h s.length, h.new (.cells (bytesOf s) 5 1 true)) else none
    | none => none
  | _, _ => none

theorem Clone_ok (cf : ACall) : Sum cf c18 s_Clone := by
  intro args h v h' hf hsc hlt hs
  unfold s_Clone at hs
  split at hs
  · rename_i a
    split at hs
    · rename_i s ha
      split at hs
      · rename_i hl
        simp only [Option.some.injEq, Prod.mk.injEq] at hs
        obtain ⟨rfl, rfl⟩ := hs
        have ha' := slB_ext (Ext.new h (.cells [] 5 1 true)) hf ha
        obtain ⟨v2, h2, k1, k2, k3, k4, _, k6, _⟩ := (OwnB.start h 5).app (Ext.new h _) (hf.new _) (slB_added ha') (by simpa using hl)
        obtain ⟨τ, hc⟩ := k2.canon hf hsc k3 (k6 (by simp))
        refine ⟨1, v2, h2, ?_, τ, hc⟩
        simp (config := {maxSteps := 1000000, maxDischargeDepth := 9, implicitDefEqProofs := false}) [c18, k1]
      · cases hs
    · cases hs
  · cases hs

/-- The size for so many bytes. -/
def bkF (n : Int) : Int × Bool := if 0 ≤ n ∧ n ≤ 62 then (64, true) else if 0 ≤ n ∧ n ≤ 254 then (256, true) else if 0 ≤ n ∧ n ≤ 1022 then (1024, true) else if 0 ≤ n ∧ n ≤ 3966 then (3968, true) else (0, false)
def szL : List Int := [64, 256, 1024, 3968]
/-- None of the first sizes has room. -/
def noRoom (n : Int) (i : Nat) : Prop := ∀ j, j < i → ¬ (0 ≤ n ∧ n ≤ szL.getD j 0 - 2)
theorem noRoom_succ {n : Int} {i : Nat} (h : noRoom n i) (h2 : ¬ (0 ≤ n ∧ n ≤ szL.getD i 0 - 2)) : noRoom n (i + 1) := by
  intro j hj
  by_cases e : j = i
  · subst e; exact h2
  · exact h j (by omega)
theorem bk_none {n : Int} (h : noRoom n 4) : bkF n = (0, false) := by
  have h0 := h 0 (by omega)
  have h1 := h 1 (by omega)
  have h2 := h 2 (by omega)
  have h3 := h 3 (by omega)
  simp only [szL, List.getD_eq_getElem?_getD, List.getElem?_cons_zero, List.getElem?_cons_succ, Option.getD_some] at h0 h1 h2 h3
  unfold bkF
  rw [if_neg (by omega), if_neg (by omega), if_neg (by omega), if_neg (by omega)]
theorem bk_some {n : Int} {i : Nat} (hi : i < 4) (h : noRoom n i) (h2 : 0 ≤ n ∧ n ≤ szL.getD i 0 - 2) : bkF n = (szL.getD i 0, true) := by
  have hh : ∀ j, j < i → ¬ (0 ≤ n ∧ n ≤ szL.getD j 0 - 2) := h
  have hii : i = 0 ∨ i = 1 ∨ i = 2 ∨ i = 3 := by omega
  rcases hii with rfl | rfl | rfl | rfl
  · simp only [szL, List.getD_eq_getElem?_getD, List.getElem?_cons_zero, List.getElem?_cons_succ, Option.getD_some] at h2 ⊢
    unfold bkF; rw [if_pos (by omega)]
  · have h0 := hh 0 (by omega)
    simp only [szL, List.getD_eq_getElem?_getD, List.getElem?_cons_zero, List.getElem?_cons_succ, Option.getD_some] at h0 h2 ⊢
    unfold bkF; rw [if_neg (by omega), if_pos (by omega)]
  · have h0 := hh 0 (by omega)
    have h1 := hh 1 (by omega)
    simp only [szL, List.getD_eq_getElem?_getD, List.getElem?_cons_zero, List.getElem?_cons_succ, Option.getD_some] at h0 h1 h2 ⊢
    unfold bkF; rw [if_neg (by omega), if_neg (by omega), if_pos (by omega)]
  · have h0 := hh 0 (by omega)
    have h1 := hh 1 (by omega)
    have h3 := hh 2 (by omega)
    simp only [szL, List.getD_eq_getElem?_getD, List.getElem?_cons_zero, List.getElem?_cons_succ, Option.getD_some] at h0 h1 h2 h3 ⊢
    unfold bkF; rw [if_neg (by omega), if_neg (by omega), if_neg (by omega), if_pos (by omega)]
theorem szL_at {i : Nat} (hi : i < 4) : ∃ z, szL.getD i 0 = z ∧ 64 ≤ z ∧ z ≤ 3968 ∧ szL[i]? = some z := by
  have hii : i = 0 ∨ i = 1 ∨ i = 2 ∨ i = 3 := by omega
  rcases hii with rfl | rfl | rfl | rfl <;> exact ⟨_, rfl, by decide, by decide, rfl⟩

/-- pad.Sizes. -/
def s_Sizes : List V → Heap → Option (V × Heap)
  | [], h => some (newV h 4, h.new (.cells (szL.map (V.int .i64)) 3 1 true))
  | _, _ => none
theorem Sizes_ok (cf : ACall) : Sum cf c16 s_Sizes := by
  intro args h v h' hf hsc hlt hs
  unfold s_Sizes at hs
  split at hs
  · simp only [Option.some.injEq, Prod.mk.injEq] at hs
    obtain ⟨rfl, rfl⟩ := hs
    refine ⟨1, ?_⟩
    simp (config := {maxSteps := 1000000, maxDischargeDepth := 9, implicitDefEqProofs := false}) [c16, szL]
    exact Canon.made hf hsc rfl (by simp) (by simp only [ltL, V.lt, and_self])
  · cases hs

/-- pad.Bucket. -/
def s_Bucket : List V → Heap → Option (V × Heap)
  | [.int .i64 n], h => some (.tuple [.int .i64 (bkF n).1, .bool (bkF n).2], h)
  | _, _ => none
theorem Bucket_ok (cf : ACall) (hS : ∀ a h, cf 16 a h = s_Sizes a h) : Sum cf c10 s_Bucket := by
  intro args h v h' hf hsc hlt hs
  unfold s_Bucket at hs
  split at hs
  · rename_i n
    simp only [Option.some.injEq, Prod.mk.injEq] at hs
    obtain ⟨rfl, rfl⟩ := hs
    refine ⟨5, ?_⟩
    have L := loop_count (cf := cf) (N := 5) (c := c10_l0) 4
      (fun i e H => e.n = 22 ∧ e.at 0 = .int .i64 n ∧ e.at 6 = .slice h.next 0 4 none ∧ e.at 7 = .int .i64 4 ∧ e.at 8 = .int .i64 (i : Int) ∧ noRoom n i ∧ H = h.new (.cells (szL.map (V.int .i64)) 3 1 true))
      (fun x e H => e.n = 22 ∧ (x = .ret ∧ e.at 2 = .int .i64 (bkF n).1 ∧ e.at 3 = .bool (bkF n).2 ∨ x = .exit 0 ∧ bkF n = (0, false)) ∧ H = h.new (.cells (szL.map (V.int .i64)) 3 1 true))
      (by
        rintro i e H hi ⟨hn, h0, h6, h7, h8, hno, rfl⟩
        obtain ⟨z, hz, hz1, hz2, hz3⟩ := szL_at hi
        have hsome := bk_some hi hno
        have hnext := noRoom_succ hno
        rw [hz] at hsome hnext
        have hlen : szL.length = 4 := rfl
        have hil : i < szL.length := by rw [hlen]; exact hi
        have hzi : szL[i] = z := by rw [List.getElem?_eq_getElem hil] at hz3; exact Option.some.inj hz3
        have w1 : wrapF .i64 (z - 2) = z - 2 := wrap_i64 (by omega) (by omega)
        have i1 : (i : Int) < 4 := by omega
        by_cases g0 : 0 ≤ n
        · by_cases g1 : n ≤ z - 2
          · have hb := hsome ⟨g0, g1⟩
            simp (config := {maxSteps := 1000000, maxDischargeDepth := 9, implicitDefEqProofs := false}) [c10_l0, hn, h0, h6, h7, h8, hi, i1, hlen, hil, hzi, w1, g0, g1, hb]
          · have hb := hnext (fun hh => g1 hh.2)
            simp (config := {maxSteps := 1000000, maxDischargeDepth := 9, implicitDefEqProofs := false}) [c10_l0, hn, h0, h6, h7, h8, hi, i1, hlen, hil, hzi, w1, g0, g1, hb, wrap_i64 (x := (i : Int) + 1) (by omega) (by omega)]
        · have hb := hnext (fun hh => g0 hh.1)
          simp (config := {maxSteps := 1000000, maxDischargeDepth := 9, implicitDefEqProofs := false}) [c10_l0, hn, h0, h6, h7, h8, hi, i1, hlen, hil, hzi, w1, g0, hb, wrap_i64 (x := (i : Int) + 1) (by omega) (by omega)])
      (by
        rintro e H ⟨hn, h0, h6, h7, h8, hno, rfl⟩
        have hb := bk_none hno
        simp (config := {maxSteps := 1000000, maxDischargeDepth := 9, implicitDefEqProofs := false}) [c10_l0, hn, h0, h6, h7, h8, hb])
    simp (config := {maxSteps := 1000000, maxDischargeDepth := 9, implicitDefEqProofs := false}) [c10, hS, s_Sizes]
    refine loop_then (K := fun r => finS _ (seqS _ _ _ (blockS _ r))) (L 0 _ _ (Nat.zero_le _) ?_ (by omega)) ?_
    · simp (config := {maxSteps := 1000000, maxDischargeDepth := 9, implicitDefEqProofs := false}) [noRoom]
    · rintro x e' H ⟨hn, hx, rfl⟩
      rcases hx with ⟨rfl, h2, h3⟩ | ⟨rfl, hb⟩
      · simp (config := {maxSteps := 1000000, maxDischargeDepth := 9, implicitDefEqProofs := false}) [hn, h2, h3]
        exact Canon.keep hf hsc (Ext.new h _) (by simp only [V.lt, ltL, and_self])
      · simp (config := {maxSteps := 1000000, maxDischargeDepth := 9, implicitDefEqProofs := false}) [hn, hb]
        exact Canon.keep hf hsc (Ext.new h _) (by simp only [V.lt, ltL, and_self])
  · cases hs

def hasSizes (h : Heap) : Prop := ∃ t, h.get 0 = some (.cells (szL.map (V.int .i64)) t 1 false)
theorem hasSizes_new {h : Heap} (B : Blk) (h0 : 0 < h.next) : hasSizes (h.new B) = hasSizes h := by
  unfold hasSizes
  rw [Heap.get_new, if_neg (by omega)]
theorem hasSizes_pos {h : Heap} (hr : hasSizes h) (hf : Fresh h) : 0 < h.next := by
  obtain ⟨t, ht⟩ := hr
  exact hf.lt ht
/-- portholeref15.Bucket. -/
noncomputable def s_BucketR : List V → Heap → Option (V × Heap)
  | [.int .i64 n], h => open Classical in if hasSizes h then some (.tuple [.int .i64 (bkF n).1, .bool (bkF n).2], h) else none
  | _, _ => none
theorem BucketR_ok (cf : ACall) : Sum cf c11 s_BucketR := by
  intro args h v h' hf hsc hlt hs
  unfold s_BucketR at hs
  split at hs
  · rename_i n
    split at hs
    · rename_i hrows
      simp only [Option.some.injEq, Prod.mk.injEq] at hs
      obtain ⟨rfl, rfl⟩ := hs
      obtain ⟨t, g0⟩ := hrows
      refine ⟨5, ?_⟩
      have L := loop_count (cf := cf) (N := 5) (c := c11_l0) 4
        (fun i e H => e.n = 22 ∧ e.at 0 = .int .i64 n ∧ e.at 4 = .int .i64 (i : Int) ∧ noRoom n i ∧ H = h)
        (fun x e H => e.n = 22 ∧ (x = .ret ∧ e.at 2 = .int .i64 (bkF n).1 ∧ e.at 3 = .bool (bkF n).2 ∨ x = .exit 0 ∧ bkF n = (0, false)) ∧ H = h)
        (by
          rintro i e H hi ⟨hn, h0, h4, hno, rfl⟩
          obtain ⟨z, hz, hz1, hz2, hz3⟩ := szL_at hi
          have hsome := bk_some hi hno
          have hnext := noRoom_succ hno
          rw [hz] at hsome hnext
          have hlen : szL.length = 4 := rfl
          have hil : i < szL.length := by rw [hlen]; exact hi
          have hzi : szL[i] = z := by rw [List.getElem?_eq_getElem hil] at hz3; exact Option.some.inj hz3
          have w1 : wrapF .i64 (z - 2) = z - 2 := wrap_i64 (by omega) (by omega)
          have i1 : (i : Int) < 4 := by omega
          by_cases g1 : 0 ≤ n
          · by_cases g2 : n ≤ z - 2
            · have hb := hsome ⟨g1, g2⟩
              simp (config := {maxSteps := 1000000, maxDischargeDepth := 9, implicitDefEqProofs := false}) [c11_l0, hn, h0, h4, hi, i1, hlen, hil, hzi, w1, g0, g1, g2, hb]
            · have hb := hnext (fun hh => g2 hh.2)
              simp (config := {maxSteps := 1000000, maxDischargeDepth := 9, implicitDefEqProofs := false}) [c11_l0, hn, h0, h4, hi, i1, hlen, hil, hzi, w1, g0, g1, g2, hb, wrap_i64 (x := (i : Int) + 1) (by omega) (by omega)]
          · have hb : bkF n = (0, false) := bk_none (fun j _ hh => g1 hh.1)
            simp (config := {maxSteps := 1000000, maxDischargeDepth := 9, implicitDefEqProofs := false}) [c11_l0, hn, h0, h4, hi, i1, g1, hb])
        (by
          rintro e H ⟨hn, h0, h4, hno, rfl⟩
          have hb := bk_none hno
          simp (config := {maxSteps := 1000000, maxDischargeDepth := 9, implicitDefEqProofs := false}) [c11_l0, hn, h0, h4, hb])
      simp (config := {maxSteps := 1000000, maxDischargeDepth := 9, implicitDefEqProofs := false}) [c11]
      refine loop_then (K := fun r => finS _ (seqS _ _ _ (blockS _ r))) (L 0 _ _ (Nat.zero_le _) ?_ (by omega)) ?_
      · simp (config := {maxSteps := 1000000, maxDischargeDepth := 9, implicitDefEqProofs := false}) [noRoom]
      · rintro x e' H ⟨hn, hx, rfl⟩
        rcases hx with ⟨rfl, h2, h3⟩ | ⟨rfl, hb⟩
        · simp (config := {maxSteps := 1000000, maxDischargeDepth := 9, implicitDefEqProofs := false}) [hn, h2, h3]
          exact Canon.keep hf hsc (Ext.refl _) (by simp only [V.lt, ltL, and_self])
        · simp (config := {maxSteps := 1000000, maxDischargeDepth := 9, implicitDefEqProofs := false}) [hn, hb]
          exact Canon.keep hf hsc (Ext.refl _) (by simp only [V.lt, ltL, and_self])
    · cases hs
  · cases hs
/-- A padded text. -/
def padB (s : List Nat) : List Nat := (s.length / 256 % 256) :: (s.length % 256) :: (s ++ List.replicate ((bkF s.length).1 - 2 - s.length).toNat 0)
theorem bk_true {n : Nat} (h : (bkF n).2 = true) : (n : Int) + 2 ≤ (bkF n).1 ∧ (bkF n).1 ≤ 3968 := by
  unfold bkF at h ⊢
  split at h
  · rename_i h1; rw [if_pos h1]; omega
  · rename_i h1; rw [if_neg h1]; split at h
    · rename_i h1; rw [if_pos h1]; omega
    · rename_i h1; rw [if_neg h1]; split at h
      · rename_i h1; rw [if_pos h1]; omega
      · rename_i h1; rw [if_neg h1]; split at h
        · rename_i h1; rw [if_pos h1]; omega
        · cases h

/-- portholeref15.Pad. -/
noncomputable def s_PadR : List V → Heap → Option (V × Heap)
  | [v], h => match slB h v with
    | some s => open Classical in if s.length ≤ lim ∧ hasSizes h then (if (bkF s.length).2 = true then some (.tuple [newV h (padB s).length, .int .i64 0], h.new (.cells (bytesOf (padB s)) 5 1 true)) else some (.tuple [.nilslice, .int .i64 6], h)) else none
    | none => none
  | _, _ => none
theorem OwnB.canon_int {h h2 : Heap} {t : Nat} {v : V} {acc : List Nat} {k : IntKind} {z : Int} (hf : Fresh h) (hsc : Scoped h) (he : Ext h h2) (ho : OwnB h h2 t v acc) (hn : v ≠ .nilslice) : ∃ τ, Canon h.next h2 (.tuple [v, .int k z]) (h.new (.cells (bytesOf acc) t 1 true)) (.tuple [newV h acc.length, .int k z]) τ := by
  rcases ho with ⟨rfl, _⟩ | ⟨b, c, rfl, k2, k3, k4, k5, k6⟩
  · exact absurd rfl hn
  · refine ⟨_, Canon.one (δ := 0) hf hsc (fun b B hB => he.get hf hB) k3 k6 (by simp) (fun i v hi => by simpa using hi) (flat_bytes _) ?_⟩
    rcases k2 with rfl | rfl
    · simp (config := {maxSteps := 1000000, maxDischargeDepth := 9, implicitDefEqProofs := false})
    · simp (config := {maxSteps := 1000000, maxDischargeDepth := 9, implicitDefEqProofs := false}) [k6]
      exact ⟨_, _, _, ⟨rfl, rfl, rfl⟩, by simp [bytesOf_length]⟩
theorem PadR_ok (cf : ACall) (hB : ∀ a h, cf 11 a h = s_BucketR a h) : Sum cf c9 s_PadR := by
  intro args h v h' hf hsc hlt hs
  unfold s_PadR at hs
  split at hs
  · rename_i v0
    split at hs
    · rename_i s hv
      split at hs
      · rename_i hl
        obtain ⟨hl, hrows⟩ := hl
        have hlim : lim = 140737488354304 := rfl
        have hlv : V.lt h.next v0 := by simp only [ltL] at hlt; exact hlt.1
        have hkv := lt_add hlv
        have hsl := slB_isSl hv
        have hvl := slB_vlen hv
        split at hs
        · rename_i hk
          simp only [Option.some.injEq, Prod.mk.injEq] at hs
          obtain ⟨rfl, rfl⟩ := hs
          obtain ⟨b1, b2⟩ := bk_true hk
          have hpb : padB s = (s.length / 256 % 256) :: (s.length % 256) :: (s ++ List.replicate ((bkF s.length).1 - 2 - s.length).toNat 0) := rfl
          generalize hz : (bkF (s.length : Int)).1 = z at *
          obtain ⟨r, hr⟩ : ∃ r : Nat, z - 2 - (s.length : Int) = (r : Int) := ⟨(z - 2 - (s.length : Int)).toNat, by omega⟩
          rw [hr, Int.toNat_natCast] at hpb
          obtain ⟨y1, hy1⟩ : ∃ y1, y1 = s.length / 256 % 256 := ⟨_, rfl⟩
          obtain ⟨y2, hy2⟩ : ∃ y2, y2 = s.length % 256 := ⟨_, rfl⟩
          have q0 : wrapF .i64 ((s.length : Int) / 256) = (s.length : Int) / 256 := wrap_i64 (by omega) (by omega)
          have q0' : (s.length : Int).tdiv 256 = (s.length : Int) / 256 := Int.tdiv_eq_ediv_of_nonneg (by omega)
          have q1 : wrapF .u8 ((s.length : Int) / 256) = (y1 : Int) := by rw [wrap_u8_mod]; omega
          have q2 : wrapF .u8 (s.length : Int) = (y2 : Int) := by rw [wrap_u8_mod]; omega
          have y1l : y1 < 256 := by omega
          have y2l : y2 < 256 := by omega
          rw [← hy1, ← hy2] at hpb
          have hst : OwnB h (h.new (.cells [.int .u8 (y1 : Int), .int .u8 (y2 : Int)] 5 1 true)) 5 (.slice h.next 0 2 (some 2)) [y1, y2] :=
            .inr ⟨h.next, some 2, rfl, .inr rfl, Nat.le_refl _, by simp, rfl, Heap.get_new_self _ _⟩
          obtain ⟨v3, H3, a1, a2, a3, a4, a5, a6, a7⟩ := hst.app (Ext.new h _) (hf.new _) (slB_added (slB_ext (Ext.new h _) hf hv)) (by simp; omega)
          have L := loop_count (cf := cf) (N := r + 1) (c := c9_l0) r
            (fun i e H => e.n = 33 ∧ e.at 4 = .int .i64 z ∧ OwnB h H 5 (e.at 6) ([y1, y2] ++ s ++ List.replicate i 0) ∧ Ext h H ∧ Fresh H ∧ e.at 6 ≠ .nilslice)
            (fun x e H => x = .exit 0 ∧ e.n = 33 ∧ OwnB h H 5 (e.at 6) (padB s) ∧ Ext h H ∧ Fresh H ∧ e.at 6 ≠ .nilslice)
            (by
              rintro i e H hi ⟨hn, h4, ho, hE, hF, hne⟩
              have o1 := Own.isSl ho
              have o2 := Own.vlen ho
              have hlen : ([y1, y2] ++ s ++ List.replicate i 0).length = s.length + i + 2 := by simp <;> omega
              rw [hlen] at o2
              have hxs : slB (H.new (.cells [.int .u8 0] 5 1 true)) (.slice H.next 0 1 (some 1)) = some [0] := by
                rw [slB_oneE rfl (.inr rfl) (by omega) (by omega)]; simp
              obtain ⟨v4, H4, c1, c2, c3, c4, c5, c6, c7⟩ := (show OwnB h (H.new (.cells [.int .u8 0] 5 1 true)) 5 (e.at 6) ([y1, y2] ++ s ++ List.replicate i 0) from Own.ext_new _ ho hF).app (hE.trans_new _) (hF.new _) (slB_added hxs) (by rw [hlen]; simp; omega)
              rw [List.append_assoc, show List.replicate i 0 ++ [0] = List.replicate (i + 1) 0 from (List.replicate_succ' ..).symm] at c2
              have hlt : ((s.length + i + 2 : Nat) : Int) < z := by omega
              have hlt' : (s.length : Int) + (i : Int) + 2 < z := by omega
              generalize hv6 : e.at 6 = v6 at *
              simp (config := {maxSteps := 1000000, maxDischargeDepth := 9, implicitDefEqProofs := false}) [c9_l0, hn, h4, hv6, o1, o2, hlt, hlt', c1]
              exact ⟨by simpa using c2, c3, c4, c6 hne⟩)
            (by
              rintro e H ⟨hn, h4, ho, hE, hF, hne⟩
              have o1 := Own.isSl ho
              have o2 := Own.vlen ho
              have hlen : ([y1, y2] ++ s ++ List.replicate r 0).length = s.length + r + 2 := by simp <;> omega
              rw [hlen] at o2
              have hlt' : ¬ ((s.length : Int) + (r : Int) + 2 < z) := by omega
              have he : padB s = [y1, y2] ++ s ++ List.replicate r 0 := by rw [hpb]; simp
              rw [he]
              generalize hv6 : e.at 6 = v6 at *
              simp (config := {maxSteps := 1000000, maxDischargeDepth := 9, implicitDefEqProofs := false}) [c9_l0, hn, h4, hv6, o1, o2, hlt']
              exact ⟨by simpa using ho, hE, hF, hne⟩)
          refine ⟨r + 1, ?_⟩
          simp (config := {maxSteps := 1000000, maxDischargeDepth := 9, implicitDefEqProofs := false}) [c9, hsl, hvl, hB, s_BucketR, hrows, hk, hz, q0, q0', q1, q2, a1]
          refine loop_then (K := fun r => finS _ (seqS _ _ _ (blockS _ r))) (L 0 _ _ (Nat.zero_le _) ?_ (Nat.lt_succ_self _)) ?_
          · simp (config := {maxSteps := 1000000, maxDischargeDepth := 9, implicitDefEqProofs := false})
            exact ⟨by simpa using a2, a3, a4, a6 (by simp)⟩
          · rintro x e' H ⟨rfl, hn, ho, hE, hF, hne⟩
            simp (config := {maxSteps := 1000000, maxDischargeDepth := 9, implicitDefEqProofs := false}) [hn]
            have := OwnB.canon_int (k := .i64) (z := 0) hf hsc hE ho hne
            exact this
        · rename_i hk
          simp only [Option.some.injEq, Prod.mk.injEq] at hs
          obtain ⟨rfl, rfl⟩ := hs
          have hk' : (bkF (s.length : Int)).2 = false := by simpa using hk
          refine ⟨1, ?_⟩
          simp (config := {maxSteps := 1000000, maxDischargeDepth := 9, implicitDefEqProofs := false}) [c9, hsl, hvl, hB, s_BucketR, hrows, hk']
          exact Canon.keep hf hsc (Ext.refl _) (by simp only [V.lt, ltL, and_self])
      · cases hs
    · cases hs
  · cases hs

/-- octet.Same. -/
def s_Same : List V → Heap → Option (V × Heap)
  | [v, w], h => match slB h v, slB h w with
    | some a, some b => if a.length ≤ lim then some (.bool (decide (a = b)), h) else none
    | _, _ => none
  | _, _ => none
theorem xor_lts {x y : Nat} (hx : x < 256) (hy : y < 256) : x ^^^ y < 256 := Nat.xor_lt_two_pow (n := 8) hx hy
theorem xor8s {x y : Nat} (hx : x < 256) (hy : y < 256) : wrapF .u8 (((((x : Int) % 256).toNat ^^^ ((y : Int) % 256).toNat : Nat)) : Int) = ((x ^^^ y : Nat) : Int) := by
  have h1 : ((x : Int) % 256).toNat = x := by omega
  have h2 : ((y : Int) % 256).toNat = y := by omega
  rw [h1, h2]
  have := xor_lts hx hy
  exact wrap_u8 (by omega) (by omega)
theorem xor_zero_iff (x y : Nat) : x ^^^ y = 0 ↔ x = y := by
  constructor
  · intro h
    have := congrArg (· ^^^ y) h
    simpa [Nat.xor_assoc] using this
  · rintro rfl; exact Nat.xor_self x
theorem or8 {x y : Nat} (hx : x < 256) (hy : y < 256) : wrapF .u8 (((((x : Int) % 256).toNat ||| ((y : Int) % 256).toNat : Nat)) : Int) = ((x ||| y : Nat) : Int) := by
  have h1 : ((x : Int) % 256).toNat = x := by omega
  have h2 : ((y : Int) % 256).toNat = y := by omega
  rw [h1, h2]
  have := Nat.or_lt_two_pow (n := 8) hx hy
  exact wrap_u8 (by omega) (by omega)
theorem Same_ok (cf : ACall) : Sum cf c17 s_Same := by
  intro args h v h' hf hsc hlt hs
  unfold s_Same at hs
  split at hs
  · rename_i va vb
    split at hs
    · rename_i a b ha hb
      split at hs
      · rename_i hl
        simp only [Option.some.injEq, Prod.mk.injEq] at hs
        obtain ⟨rfl, rfl⟩ := hs
        have hlim : lim = 140737488354304 := rfl
        have h1 := slB_isSl ha
        have h2 := slB_vlen ha
        have h3 := slB_isSl hb
        have h4 := slB_vlen hb
        by_cases hab : a.length = b.length
        · have L := loop_count (cf := cf) (N := a.length + 1) (c := c17_l0) a.length
            (fun i e H => e.n = 31 ∧ e.at 0 = va ∧ e.at 1 = vb ∧ e.at 13 = .int .i64 (a.length : Int) ∧ e.at 14 = .int .i64 (i : Int) ∧ (∃ acc : Nat, e.at 5 = .int .u8 (acc : Int) ∧ acc < 256 ∧ (acc = 0 ↔ a.take i = b.take i)) ∧ H = h)
            (fun x e H => x = .exit 0 ∧ e.n = 31 ∧ (∃ acc : Nat, e.at 5 = .int .u8 (acc : Int) ∧ acc < 256 ∧ (acc = 0 ↔ a = b)) ∧ H = h)
            (by
              rintro i e H hi ⟨hn, h0, h1', h13, h14, ⟨acc, h5, hac, hiff⟩, rfl⟩
              have hib : i < b.length := by omega
              have hxa := slB_lt ha a[i] (by simp)
              have hxb := slB_lt hb b[i] (by simp)
              have hx8 := xor8s hxa hxb
              have hx := xor_lts hxa hxb
              have ho8 := or8 hac hx
              have ho := Nat.or_lt_two_pow (n := 8) hac hx
              have hnew : (acc ||| (a[i] ^^^ b[i]) = 0) ↔ a.take (i + 1) = b.take (i + 1) := by
                rw [List.take_succ_eq_append_getElem hi, List.take_succ_eq_append_getElem hib]
                rw [Nat.or_eq_zero_iff, hiff, xor_zero_iff]
                constructor
                · rintro ⟨p, q⟩; rw [p, q]
                · intro p
                  have := List.append_inj p (by simp; omega)
                  exact ⟨this.1, by simpa using this.2⟩
              simp (config := {maxSteps := 1000000, maxDischargeDepth := 9, implicitDefEqProofs := false}) [c17_l0, hn, h0, h1', h13, h14, h5, h1, h2, h3, h4, ha, hb, hi, hib, show (i : Int) < (a.length : Int) from by omega, modK, hx8, ho8, wrap_i64 (x := (i : Int) + 1) (by omega) (by omega)]
              exact ⟨_, rfl, ho, hnew⟩)
            (by
              rintro e H ⟨hn, h0, h1', h13, h14, ⟨acc, h5, hac, hiff⟩, rfl⟩
              rw [List.take_length, hab, List.take_length] at hiff
              simp (config := {maxSteps := 1000000, maxDischargeDepth := 9, implicitDefEqProofs := false}) [c17_l0, hn, h13, h14, h5]
              exact ⟨_, rfl, hac, hiff⟩)
          refine ⟨a.length + 1, ?_⟩
          simp (config := {maxSteps := 1000000, maxDischargeDepth := 9, implicitDefEqProofs := false}) [c17, h1, h2, h3, h4, hab]
          rw [hab] at L
          refine loop_then (K := fun r => finS _ (seqS _ _ _ (blockS _ r))) (L 0 _ _ (Nat.zero_le _) ?_ (Nat.lt_succ_self _)) ?_
          · simp (config := {maxSteps := 1000000, maxDischargeDepth := 9, implicitDefEqProofs := false})
          · rintro x e' H ⟨rfl, hn, ⟨acc, h5, hac, hiff⟩, rfl⟩
            simp (config := {maxSteps := 1000000, maxDischargeDepth := 9, implicitDefEqProofs := false}) [hn, h5]
            have he : decide (a = b) = (acc == 0) := by
              by_cases hq : acc = 0
              · rw [hq]; simp [hiff.1 hq]
              · have : ¬ a = b := fun hh => hq (hiff.2 hh)
                simp [this, hq]
            rw [he]
            have hb2 : (acc == 0) = ((acc : Int) == 0) := by
              by_cases hq : acc = 0
              · rw [hq]; rfl
              · have : ¬ (acc : Int) = 0 := by omega
                rw [show (acc == 0) = false by simpa using hq, show ((acc : Int) == 0) = false by simpa using this]
            first
              | exact Canon.keep hf hsc (Ext.refl _) (by simp only [V.lt])
              | (rw [hb2]; exact Canon.keep hf hsc (Ext.refl _) (by simp only [V.lt]))
              | (trace_state; sorry)
        · have hne : ¬ a = b := fun hh => hab (by rw [hh])
          have hd : decide (a = b) = false := by simp [hne]
          rw [hd]
          have hab2 : ((a.length : Int) == (b.length : Int)) = false := by
            have : ¬ (a.length : Int) = (b.length : Int) := by omega
            simpa using this
          refine ⟨1, ?_⟩
          simp (config := {maxSteps := 1000000, maxDischargeDepth := 9, implicitDefEqProofs := false}) [c17, h1, h2, h3, h4, hab, hab2]
          have := Canon.keep (h := h) (v := .bool false) hf hsc (Ext.refl _) (by simp only [V.lt])
          exact this
      · cases hs
    · cases hs
  · cases hs

/-- The number that stands before a padded text. -/
def unN (s : List Nat) : Nat := 256 * s.getD 0 0 + s.getD 1 0
/-- Is it a padded text? -/
def unOk (s : List Nat) : Bool := decide (2 ≤ s.length) && (bkF (unN s)).2 && decide ((bkF (unN s)).1 = (s.length : Int)) && decide (s.drop (2 + unN s) = List.replicate (s.length - (2 + unN s)) 0)
def unT (s : List Nat) : List Nat := (s.take (2 + unN s)).drop 2
/-- pad.Unpad. -/
def s_Unpad : List V → Heap → Option (V × Heap)
  | [v], h => match slB h v with
    | some s => if s.length ≤ lim then (if unOk s = true then some (.tuple [newV h (unT s).length, .int .i64 0], h.new (.cells (bytesOf (unT s)) 5 1 true)) else some (.tuple [.nilslice, .int .i64 5], h)) else none
    | none => none
  | _, _ => none
theorem orN {x y : Nat} (hx : x < 256) (hy : y < 256) : wrapF .i64 ((((wrapF .i64 (wrapF .i64 (x : Int) * 256)) % 18446744073709551616).toNat ||| ((wrapF .i64 (y : Int)) % 18446744073709551616).toNat : Nat) : Int) = ((256 * x + y : Nat) : Int) := by
  rw [wrap_i64 (x := (x : Int)) (by omega) (by omega), wrap_i64 (x := (x : Int) * 256) (by omega) (by omega), wrap_i64 (x := (y : Int)) (by omega) (by omega)]
  have h1 : ((x : Int) * 256 % 18446744073709551616).toNat = 2 ^ 8 * x := by omega
  have h2 : ((y : Int) % 18446744073709551616).toNat = y := by omega
  rw [h1, h2, ← Nat.two_pow_add_eq_or_of_lt (by omega : y < 2 ^ 8)]
  rw [wrap_i64 (by omega) (by omega)]
theorem Unpad_ok (cf : ACall) (hB : ∀ a h, cf 10 a h = s_Bucket a h) (hS : ∀ a h, cf 17 a h = s_Same a h) (hC : ∀ a h, cf 18 a h = s_Clone a h) : Sum cf c13 s_Unpad := by
  intro args h v h' hf hsc hlt hs
  unfold s_Unpad at hs
  split at hs
  · rename_i v0
    split at hs
    · rename_i s hv
      split at hs
      · rename_i hl
        have hlim : lim = 140737488354304 := rfl
        have hlv : V.lt h.next v0 := by simp only [ltL] at hlt; exact hlt.1
        have hkv := lt_add hlv
        have hsl := slB_isSl hv
        have hvl := slB_vlen hv
        have hvlt := slB_lt hv
        refine ⟨1, ?_⟩
        by_cases hs2 : s.length < 2
        · have hu : unOk s = false := by simp [unOk]; omega
          rw [if_neg (by rw [hu]; simp)] at hs
          simp only [Option.some.injEq, Prod.mk.injEq] at hs
          obtain ⟨rfl, rfl⟩ := hs
          simp (config := {maxSteps := 1000000, maxDischargeDepth := 9, implicitDefEqProofs := false}) [c13, hsl, hvl, hs2, show (s.length : Int) < 2 from by omega]
          exact Canon.keep hf hsc (Ext.refl _) (by simp only [V.lt, ltL, and_self])
        · have k0 : 0 < s.length := by omega
          have k1 : 1 < s.length := by omega
          have i1 : (1 : Int) < (s.length : Int) := by omega
          have i2 : ¬ (s.length : Int) < 2 := by omega
          have hx : s[0] < 256 := hvlt _ (List.getElem_mem k0)
          have hy : s[1] < 256 := hvlt _ (List.getElem_mem k1)
          have hN : unN s = 256 * s[0] + s[1] := by
            unfold unN
            rw [List.getD_eq_getElem?_getD, List.getD_eq_getElem?_getD, List.getElem?_eq_getElem k0, List.getElem?_eq_getElem k1]; rfl
          have hor := orN hx hy
          rw [← hN] at hor
          generalize hn : unN s = n at *
          generalize hx0 : s[0] = x at *
          generalize hy0 : s[1] = y at *
          cases hk : (bkF (n : Int)).2 with
          | false =>
            have hu : unOk s = false := by simp [unOk, hn, hk]
            rw [if_neg (by rw [hu]; simp)] at hs
            simp only [Option.some.injEq, Prod.mk.injEq] at hs
            obtain ⟨rfl, rfl⟩ := hs
            simp (config := {maxSteps := 1000000, maxDischargeDepth := 9, implicitDefEqProofs := false}) [c13, hsl, hvl, hv, hs2, i1, i2, k0, k1, hx0, hy0, modK, hor, hB, s_Bucket, hk]
            exact Canon.keep hf hsc (Ext.refl _) (by simp only [V.lt, ltL, and_self])
          | true =>
            obtain ⟨b1, b2⟩ := bk_true hk
            by_cases hz : (bkF (n : Int)).1 = (s.length : Int)
            · have hz' : ((s.length : Int) == (s.length : Int)) = true := by simp
              rw [hz] at b1 b2
              have c1 : 2 + n ≤ s.length := by omega
              obtain ⟨r, hr⟩ : ∃ r, r = s.length - (2 + n) := ⟨_, rfl⟩
              have w1 : wrapF .i64 (2 + (n : Int)) = 2 + (n : Int) := wrap_i64 (by omega) (by omega)
              have w2 : (2 + (n : Int)).toNat = 2 + n := by omega
              have hz0 : List.replicate r (V.int .u8 0) = bytesOf (List.replicate r 0) := by simp [bytesOf]
              have hza : asB (bytesOf (List.replicate r 0)) = some (List.replicate r 0) := asB_bytesOf (by intro y hy; rw [List.mem_replicate] at hy; omega)
              have hst : s.take s.length = s := List.take_length
              have hdl : (s.drop (2 + n)).length = r := by simp; omega
              have hul : unOk s = decide (s.drop (2 + n) = List.replicate r 0) := by
                unfold unOk
                rw [hn, hk, ← hr]
                simp [hz, show 2 ≤ s.length from by omega]
              have hut : unT s = (s.take (2 + n)).drop 2 := by unfold unT; rw [hn]
              have hutl : (unT s).length = n := by rw [hut]; simp; omega
              rw [hul] at hs
              by_cases hq : s.drop (2 + n) = List.replicate r 0
              · rw [if_pos (by simpa using hq)] at hs
                simp only [Option.some.injEq, Prod.mk.injEq] at hs
                obtain ⟨rfl, rfl⟩ := hs
                simp (config := {maxSteps := 1000000, maxDischargeDepth := 9, implicitDefEqProofs := false}) [c13, hsl, hvl, hv, hs2, i1, i2, k0, k1, hx0, hy0, modK, hor, hB, s_Bucket, hk, hz, w1, w2, c1, ← hr, hlv, hkv, slice_lo, slice_lohi, show 2 + (n : Int) ≤ (s.length : Int) from by omega, show (0 : Int) ≤ 2 + (n : Int) from by omega, show (2 : Int) ≤ 2 + (n : Int) from by omega, show r ≤ 140737488355328 from by omega, show (r : Int) ≤ 140737488355328 from by omega, show r ≤ 140737488354304 from by omega, hz0, hza, hS, s_Same, hst, hq, hC, s_Clone, ← hut, hutl, show n ≤ 140737488354304 from by omega]
                refine Canon.tail hf hsc (by repeat (first | exact Ext.refl _ | apply Ext.trans_new)) (flat_bytes _) ?_
                simp (config := {maxSteps := 1000000, maxDischargeDepth := 9, implicitDefEqProofs := false})
              · rw [if_neg (by simpa using hq)] at hs
                simp only [Option.some.injEq, Prod.mk.injEq] at hs
                obtain ⟨rfl, rfl⟩ := hs
                simp (config := {maxSteps := 1000000, maxDischargeDepth := 9, implicitDefEqProofs := false}) [c13, hsl, hvl, hv, hs2, i1, i2, k0, k1, hx0, hy0, modK, hor, hB, s_Bucket, hk, hz, w1, w2, c1, ← hr, hlv, hkv, slice_lo, slice_lohi, show 2 + (n : Int) ≤ (s.length : Int) from by omega, show (0 : Int) ≤ 2 + (n : Int) from by omega, show (2 : Int) ≤ 2 + (n : Int) from by omega, show r ≤ 140737488355328 from by omega, show (r : Int) ≤ 140737488355328 from by omega, show r ≤ 140737488354304 from by omega, hz0, hza, hS, s_Same, hst, hdl, hq]
                exact Canon.keep hf hsc (Ext.new h _) (by simp only [V.lt, ltL, and_self])
            · have hu : unOk s = false := by simp [unOk, hn, hz]
              have hz' : ((bkF (n : Int)).1 == (s.length : Int)) = false := by simpa using hz
              rw [if_neg (by rw [hu]; simp)] at hs
              simp only [Option.some.injEq, Prod.mk.injEq] at hs
              obtain ⟨rfl, rfl⟩ := hs
              simp (config := {maxSteps := 1000000, maxDischargeDepth := 9, implicitDefEqProofs := false}) [c13, hsl, hvl, hv, hs2, i1, i2, k0, k1, hx0, hy0, modK, hor, hB, s_Bucket, hk, hz']
              exact Canon.keep hf hsc (Ext.refl _) (by simp only [V.lt, ltL, and_self])
      · cases hs
    · cases hs
  · cases hs

/-- portholeref15.Unpad. -/
noncomputable def s_UnpadR : List V → Heap → Option (V × Heap)
  | [v], h => match slB h v with
    | some s => open Classical in if s.length ≤ lim ∧ hasSizes h then (if unOk s = true then some (.tuple [cutV 1 v 2 (2 + unN s), .int .i64 0], h) else some (.tuple [.nilslice, .int .i64 5], h)) else none
    | none => none
  | _, _ => none
theorem mulN {x y : Nat} (hx : x < 256) (hy : y < 256) : wrapF .i64 (wrapF .i64 (256 * wrapF .i64 (x : Int)) + wrapF .i64 (y : Int)) = ((256 * x + y : Nat) : Int) := by
  rw [wrap_i64 (x := (x : Int)) (by omega) (by omega), wrap_i64 (x := 256 * (x : Int)) (by omega) (by omega), wrap_i64 (x := (y : Int)) (by omega) (by omega), wrap_i64 (by omega) (by omega)]
  omega
theorem UnpadR_ok (cf : ACall) (hB : ∀ a h, cf 11 a h = s_BucketR a h) : Sum cf c14 s_UnpadR := by
  intro args h v h' hf hsc hlt hs
  unfold s_UnpadR at hs
  split at hs
  · rename_i v0
    split at hs
    · rename_i s hv
      split at hs
      · rename_i hl
        obtain ⟨hl, hrows⟩ := hl
        have hlim : lim = 140737488354304 := rfl
        have hlv : V.lt h.next v0 := by simp only [ltL] at hlt; exact hlt.1
        have hkv := lt_add hlv
        have hsl := slB_isSl hv
        have hvl := slB_vlen hv
        have hvlt := slB_lt hv
        refine ⟨s.length + 1, ?_⟩
        by_cases hs2 : s.length < 2
        · have hu : unOk s = false := by simp [unOk]; omega
          rw [if_neg (by rw [hu]; simp)] at hs
          simp only [Option.some.injEq, Prod.mk.injEq] at hs
          obtain ⟨rfl, rfl⟩ := hs
          simp (config := {maxSteps := 1000000, maxDischargeDepth := 9, implicitDefEqProofs := false}) [c14, hsl, hvl, hs2, show (s.length : Int) < 2 from by omega]
          exact Canon.keep hf hsc (Ext.refl _) (by simp only [V.lt, ltL, and_self])
        · have k0 : 0 < s.length := by omega
          have k1 : 1 < s.length := by omega
          have i1 : (1 : Int) < (s.length : Int) := by omega
          have i2 : ¬ (s.length : Int) < 2 := by omega
          have hx : s[0] < 256 := hvlt _ (List.getElem_mem k0)
          have hy : s[1] < 256 := hvlt _ (List.getElem_mem k1)
          have hN : unN s = 256 * s[0] + s[1] := by
            unfold unN
            rw [List.getD_eq_getElem?_getD, List.getD_eq_getElem?_getD, List.getElem?_eq_getElem k0, List.getElem?_eq_getElem k1]; rfl
          have hor := mulN hx hy
          rw [← hN] at hor
          generalize hn : unN s = n at *
          generalize hx0 : s[0] = x at *
          generalize hy0 : s[1] = y at *
          cases hk : (bkF (n : Int)).2 with
          | false =>
            have hu : unOk s = false := by simp [unOk, hn, hk]
            rw [if_neg (by rw [hu]; simp)] at hs
            simp only [Option.some.injEq, Prod.mk.injEq] at hs
            obtain ⟨rfl, rfl⟩ := hs
            simp (config := {maxSteps := 1000000, maxDischargeDepth := 9, implicitDefEqProofs := false}) [c14, hsl, hvl, hv, hs2, i1, i2, k0, k1, hx0, hy0, modK, hor, hB, s_BucketR, hrows, hk]
            exact Canon.keep hf hsc (Ext.refl _) (by simp only [V.lt, ltL, and_self])
          | true =>
            obtain ⟨b1, b2⟩ := bk_true hk
            by_cases hz : (bkF (n : Int)).1 = (s.length : Int)
            · have hz' : ((s.length : Int) == (s.length : Int)) = true := by simp
              rw [hz] at b1 b2
              have c1 : 2 + n ≤ s.length := by omega
              obtain ⟨r, hr⟩ : ∃ r, r = s.length - (2 + n) := ⟨_, rfl⟩
              have w1 : wrapF .i64 (2 + (n : Int)) = 2 + (n : Int) := wrap_i64 (by omega) (by omega)
              have w2 : (2 + (n : Int)).toNat = 2 + n := by omega
              have hz0 : List.replicate r (V.int .u8 0) = bytesOf (List.replicate r 0) := by simp [bytesOf]
              have hza : asB (bytesOf (List.replicate r 0)) = some (List.replicate r 0) := asB_bytesOf (by intro y hy; rw [List.mem_replicate] at hy; omega)
              have hst : s.take s.length = s := List.take_length
              have hdl : (s.drop (2 + n)).length = r := by simp; omega
              have hul : unOk s = decide (s.drop (2 + n) = List.replicate r 0) := by
                unfold unOk
                rw [hn, hk, ← hr]
                simp [hz, show 2 ≤ s.length from by omega]
              have hut : unT s = (s.take (2 + n)).drop 2 := by unfold unT; rw [hn]
              have hutl : (unT s).length = n := by rw [hut]; simp; omega
              have hat : ∀ j (hj : j < r), s[2 + n + j]'(by omega) = (s.drop (2 + n))[j]'(by omega) := fun j hj => by simp
              have L := loop_count (cf := cf) (N := s.length + 1) (c := c14_l0) r
                (fun j e H => e.n = 51 ∧ e.at 0 = v0 ∧ e.at 4 = .int .i64 (n : Int) ∧ e.at 7 = .int .i64 ((2 + n + j : Nat) : Int) ∧ (s.drop (2 + n)).take j = List.replicate j 0 ∧ H = h)
                (fun x e H => e.n = 51 ∧ (x = .ret ∧ e.at 2 = .nilslice ∧ e.at 3 = .int .i64 5 ∧ ¬ s.drop (2 + n) = List.replicate r 0 ∨ x = .exit 0 ∧ e.at 0 = v0 ∧ e.at 4 = .int .i64 (n : Int) ∧ s.drop (2 + n) = List.replicate r 0) ∧ H = h)
                (by
                  rintro j e H hj ⟨hnn, h0, h4, h7, hall, rfl⟩
                  have hjs : 2 + n + j < s.length := by omega
                  have hjl : j < (s.drop (2 + n)).length := by omega
                  have ha := hat j hj
                  have hby := hvlt _ (List.getElem_mem hjs)
                  generalize hval : s[2 + n + j] = y at *
                  have hjI : ((2 + n + j : Nat) : Int) < (s.length : Int) := by omega
                  have hjw : wrapF .i64 (((2 + n + j : Nat) : Int) + 1) = ((2 + n + (j + 1) : Nat) : Int) := by rw [wrap_i64 (by omega) (by omega)]; omega
                  generalize hm : 2 + n + j = m at *
                  have hm' : 2 + n + (j + 1) = m + 1 := by omega
                  rw [hm'] at hjw ⊢
                  by_cases hy0 : y = 0
                  · have hb : ((y : Int) == 0) = true := by rw [hy0]; rfl
                    have hnext : (s.drop (2 + n)).take (j + 1) = List.replicate (j + 1) 0 := by
                      rw [List.take_succ_eq_append_getElem hjl, hall, ← ha, hy0, ← List.replicate_succ']
                    simp (config := {maxSteps := 1000000, maxDischargeDepth := 9, implicitDefEqProofs := false}) [c14_l0, hnn, h0, h4, h7, hsl, hvl, hv, hjs, hjI, hval, hy0, hjw]
                    exact hnext
                  · have hb : ((y : Int) == 0) = false := by
                      have : ¬ (y : Int) = 0 := by omega
                      simpa using this
                    have hbad : ¬ s.drop (2 + n) = List.replicate r 0 := by
                      intro hh
                      have h2 : (s.drop (2 + n))[j]? = some 0 := by rw [hh, List.getElem?_replicate, if_pos hj]
                      rw [List.getElem?_eq_getElem hjl, ← ha] at h2
                      exact hy0 (Option.some.inj h2)
                    simp (config := {maxSteps := 1000000, maxDischargeDepth := 9, implicitDefEqProofs := false}) [c14_l0, hnn, h0, h4, h7, hsl, hvl, hv, hjs, hjI, hval, hb]
                    exact hbad)
                (by
                  rintro e H ⟨hnn, h0, h4, h7, hall, rfl⟩
                  rw [List.take_of_length_le (by omega)] at hall
                  have hm : 2 + n + r = s.length := by omega
                  rw [hm] at h7
                  simp (config := {maxSteps := 1000000, maxDischargeDepth := 9, implicitDefEqProofs := false}) [c14_l0, hnn, h0, h4, h7, hsl, hvl]
                  exact hall)
              simp (config := {maxSteps := 1000000, maxDischargeDepth := 9, implicitDefEqProofs := false}) [c14, hsl, hvl, hv, hs2, i1, i2, k0, k1, hx0, hy0, modK, hor, hB, s_BucketR, hrows, hk, hz, w1, w2]
              refine loop_then (K := fun r => finS _ (seqS _ _ _ (blockS _ r))) (L 0 _ _ (Nat.zero_le _) ?_ (by omega)) ?_
              · simp (config := {maxSteps := 1000000, maxDischargeDepth := 9, implicitDefEqProofs := false})
              · rintro x e' H ⟨hnn, hx, rfl⟩
                rcases hx with ⟨rfl, h2, h3, hbad⟩ | ⟨rfl, h0, h4, hall⟩
                · rw [hul, if_neg (by simpa using hbad)] at hs
                  simp only [Option.some.injEq, Prod.mk.injEq] at hs
                  obtain ⟨rfl, rfl⟩ := hs
                  simp (config := {maxSteps := 1000000, maxDischargeDepth := 9, implicitDefEqProofs := false}) [hnn, h2, h3]
                  exact Canon.keep hf hsc (Ext.refl _) (by simp only [V.lt, ltL, and_self])
                · rw [hul, if_pos (by simpa using hall)] at hs
                  simp only [Option.some.injEq, Prod.mk.injEq] at hs
                  obtain ⟨rfl, rfl⟩ := hs
                  simp (config := {maxSteps := 1000000, maxDischargeDepth := 9, implicitDefEqProofs := false}) [hnn, h0, h4, hvl, hv, w1, w2, c1, slice_lohi, show 2 + (n : Int) ≤ (s.length : Int) from by omega, show (2 : Int) ≤ 2 + (n : Int) from by omega]
                  exact Canon.keep hf hsc (Ext.refl _) (by simp only [V.lt, ltL, and_true]; exact lt_cut hlv _ _ _)
            · have hu : unOk s = false := by simp [unOk, hn, hz]
              have hz' : ((bkF (n : Int)).1 == (s.length : Int)) = false := by simpa using hz
              rw [if_neg (by rw [hu]; simp)] at hs
              simp only [Option.some.injEq, Prod.mk.injEq] at hs
              obtain ⟨rfl, rfl⟩ := hs
              simp (config := {maxSteps := 1000000, maxDischargeDepth := 9, implicitDefEqProofs := false}) [c14, hsl, hvl, hv, hs2, i1, i2, k0, k1, hx0, hy0, modK, hor, hB, s_BucketR, hrows, hk, hz']
              exact Canon.keep hf hsc (Ext.refl _) (by simp only [V.lt, ltL, and_self])
      · cases hs
    · cases hs
  · cases hs

theorem unOk_le {s : List Nat} (h : unOk s = true) : 2 + unN s ≤ s.length := by
  unfold unOk at h
  simp only [Bool.and_eq_true, decide_eq_true_eq] at h
  have := bk_true h.1.1.2
  omega
/-- Behind the bytes. -/
theorem unpads_tail (cf : ACall) (hknown : ∀ a h, cf 12 a h = s_known a h) (hU : ∀ a h, cf 13 a h = s_Unpad a h) (hUR : ∀ a h, cf 14 a h = s_UnpadR a h)
    (e : Env) (h : Heap) (s : List Nat) (va : V) (hf : Fresh h) (hrows : hasSizes h) (hla : V.lt h.next va) (ha : slB h va = some s) (hs : s.length ≤ 140737488354304) (hn : e.n = 83) (h0 : e.at 0 = va) :
    Runs (finS [ARes.tmp 10] (execA cf 1 c4_s2 e h)) fun v _ => v = .bool true := by
  have hpos := hasSizes_pos hrows hf
  have hkm := lt_add hla
  have hvl := slB_vlen ha
  have hsl := slB_isSl ha
  have hslt := slB_lt ha
  have hua : asB (bytesOf (unT s)) = some (unT s) := asB_bytesOf (fun y hy => hslt y (List.mem_of_mem_take (List.mem_of_mem_drop hy)))
  have hut : (s.take (2 + unN s)).drop 2 = unT s := rfl
  cases hk : unOk s with
  | true =>
    have hle := unOk_le hk
    have hut2 : (s.drop 2).take (unN s) = unT s := by rw [← hut, List.drop_take, show 2 + unN s - 2 = unN s from by omega]
    simp (config := {maxSteps := 1000000, maxDischargeDepth := 9, implicitDefEqProofs := false}) [c4_s2, hn, h0, hvl, hsl, ha, hla, hkm, hs, hU, s_Unpad, hUR, s_UnpadR, hk, hua, hut, hut2, hle, hasSizes_new, hpos, hrows, hknown, s_known]
  | false =>
    simp (config := {maxSteps := 1000000, maxDischargeDepth := 9, implicitDefEqProofs := false}) [c4_s2, hn, h0, hvl, hsl, ha, hla, hkm, hs, hU, s_Unpad, hUR, s_UnpadR, hk, hasSizes_new, hpos, hrows, hknown, s_known]
theorem padB_le (s : List Nat) (hs : s.length ≤ 3000) : (bkF (s.length : Int)).2 = true ∧ 64 ≤ (padB s).length ∧ (padB s).length ≤ 3968 := by
  have hb : (bkF (s.length : Int)).2 = true ∧ 64 ≤ (bkF (s.length : Int)).1 := by
    unfold bkF
    split
    · exact ⟨rfl, by decide⟩
    · split
      · exact ⟨rfl, by decide⟩
      · split
        · exact ⟨rfl, by decide⟩
        · rw [if_pos (by omega)]; exact ⟨rfl, by decide⟩
  have := bk_true hb.1
  refine ⟨hb.1, ?_, ?_⟩ <;> (simp only [padB, List.length_cons, List.length_append, List.length_replicate]; omega)
theorem padB_lt' (s : List Nat) (hs : ∀ y ∈ s, y < 256) : ∀ y ∈ padB s, y < 256 := by
  intro y hy
  simp only [padB, List.mem_cons, List.mem_append, List.mem_replicate] at hy
  rcases hy with rfl | rfl | hy | ⟨_, rfl⟩
  · omega
  · omega
  · exact hs y hy
  · omega
theorem bytes_set (l : List Nat) (i y : Nat) : (bytesOf l).set i (.int .u8 (y : Int)) = bytesOf (l.set i y) := by
  simp only [bytesOf, List.map_set]; rfl
theorem mem_set_lt {l : List Nat} {i y : Nat} (hl : ∀ x ∈ l, x < 256) (hy : y < 256) : ∀ x ∈ l.set i y, x < 256 := by
  intro x hx
  rcases List.mem_or_eq_of_mem_set hx with h | h
  · exact hl x h
  · rw [h]; exact hy
def appendZS (t z bytes : Nat) (zero : List V) (v n : V) (h : Heap) : Option (V × Heap) := match n with
  | .int k n => if k = .i64 ∧ 0 ≤ n ∧ n ≤ most ∧ n * bytes ≤ most then appendXs h t z bytes v (zeros zero n.toNat) n.toNat else none
  | _ => none
theorem aop_appendZ {cf : ACall} {e : Env} {h : Heap} {t z bytes : Nat} {zero : List V} {s n : Opd} : aop cf (.appendZ t z bytes zero s n) e h = appendZS t z bytes zero (s.ev e) (n.ev e) h := by
  simp only [aop, appendZS]
  cases n.ev e <;> rfl
theorem law_PadUnpads (cf : ACall) (hknown : ∀ a h, cf 12 a h = s_known a h) (hPick : ∀ a h, cf 6 a h = s_Pick a h) (hFew : ∀ a h, cf 7 a h = s_Few a h) (hPadR : ∀ a h, cf 9 a h = s_PadR a h) (hU : ∀ a h, cf 13 a h = s_Unpad a h) (hUR : ∀ a h, cf 14 a h = s_UnpadR a h)
    (h : Heap) (at0 by0 how : Int) (s t : List Nat) (va vt : V) (hf : Fresh h) (hrows : hasSizes h) (hla : V.lt h.next va) (ha : slB h va = some s) (hs : s.length ≤ 140737488354304) (hlt : V.lt h.next vt) (ht : slB h vt = some t) (hts : t.length ≤ 140737488354304) (hy0 : 0 ≤ by0) (hy1 : by0 < 256) :
    ∃ N, Runs (bodyA cf N c4 [va, vt, .int .i64 at0, .int .u8 by0, .int .i64 how] h) fun v _ => v = .bool true := by
  refine ⟨1, ?_⟩
  have hpos := hasSizes_pos hrows hf
  have hkt := lt_add hlt
  by_cases e0 : how.tmod 4 > 0
  · have e0' : decide (0 < how.tmod 4) = true := by simpa using e0
    have htl := slB_lt ht
    have h3 : (t.take 3000).length ≤ 3000 := by simp; omega
    have h3l : ∀ y ∈ t.take 3000, y < 256 := fun y hy => htl y (List.mem_of_mem_take hy)
    generalize hu : t.take 3000 = u at *
    obtain ⟨k1, k2, k3⟩ := padB_le u h3
    have hpl := padB_lt' u h3l
    have hua := asB_bytesOf h3l
    generalize hp : padB u = p at *
    obtain ⟨L, hL⟩ : ∃ L, L = p.length := ⟨_, rfl⟩
    rw [← hL] at k2 k3
    have hul : u.length ≤ 140737488354304 := by omega
    have hpa := asB_bytesOf hpl
    have hp0 := Int.emod_nonneg how (show (6 : Int) ≠ 0 by omega)
    have hp1 := Int.emod_lt_of_pos how (show (0 : Int) < 6 by omega)
    obtain ⟨q, hq⟩ : ∃ q : Nat, how % 6 = (q : Int) := ⟨(how % 6).toNat, by omega⟩
    have hqq : q = 0 ∨ q = 1 ∨ q = 2 ∨ q = 3 ∨ q = 4 ∨ q = 5 := by omega
    obtain ⟨b, rfl⟩ : ∃ b : Nat, by0 = (b : Int) := ⟨by0.toNat, by omega⟩
    have hb256 : b < 256 := by omega
    have hrw : ∀ (U P : Blk), hasSizes ((h.new U).new P) := fun U P => by rw [hasSizes_new _ (by simp), hasSizes_new _ hpos]; exact hrows
    have l0 : 0 < L := by omega
    have l1 : (L : Int) ≤ 4611686018427387904 := by omega
    rcases hqq with rfl | rfl | rfl | rfl | rfl | rfl
    · have m0 := Int.emod_nonneg at0 (show (L : Int) ≠ 0 by omega)
      have m1 := Int.emod_lt_of_pos at0 (show (0 : Int) < (L : Int) by omega)
      obtain ⟨k, hk⟩ : ∃ k : Nat, at0 % (L : Int) = (k : Int) := ⟨(at0 % (L : Int)).toNat, by omega⟩
      have hkL : k < L := by omega
      have hkp : k < p.length := by omega
      have hpk := hpl p[k] (List.getElem_mem hkp)
      have hx8 := xor8s hpk hb256
      have hxl := xor_lts hpk hb256
      generalize hy : p[k] ^^^ b = y at *
      simp (config := {maxSteps := 1000000, maxDischargeDepth := 9, implicitDefEqProofs := false}) [c4, e0', hFew, s_Few, ht, hlt, hkt, hts, hu, hul, hPadR, s_PadR, hua, k1, hp, ← hL, hasSizes_new, hpos, hrows, hPick, s_Pick, hq, l0, l1, hk, hkL, hkp, modK, hx8, hy, -over, over_set, bytes_set, Nat.succ_le_of_lt hkL]
      refine unpads_tail cf hknown hU hUR _ _ (p.set k y) (.slice (h.next + 1) 0 L none) ((hf.new _).new _) (hrw _ _) (by simp [V.lt]) ?_ (by simp; omega) ?_ ?_
      · simp (config := {maxSteps := 1000000, maxDischargeDepth := 9, implicitDefEqProofs := false}) [asB_bytesOf (mem_set_lt hpl hxl), ← hL]
      all_goals simp (config := {maxSteps := 1000000, maxDischargeDepth := 9, implicitDefEqProofs := false})
    · have w1 : wrapF .i64 ((L : Int) + 1) = (L : Int) + 1 := wrap_i64 (by omega) (by omega)
      have m0 := Int.emod_nonneg at0 (show (L : Int) + 1 ≠ 0 by omega)
      have m1 := Int.emod_lt_of_pos at0 (show (0 : Int) < (L : Int) + 1 by omega)
      obtain ⟨k, hk⟩ : ∃ k : Nat, at0 % ((L : Int) + 1) = (k : Int) := ⟨(at0 % ((L : Int) + 1)).toNat, by omega⟩
      have hkL : k ≤ L := by omega
      simp (config := {maxSteps := 1000000, maxDischargeDepth := 9, implicitDefEqProofs := false}) [c4, e0', hFew, s_Few, ht, hlt, hkt, hts, hu, hul, hPadR, s_PadR, hua, k1, hp, ← hL, hasSizes_new, hpos, hrows, hPick, s_Pick, hq, w1, hk, hkL, show (0 : Int) < (L : Int) + 1 from by omega, show (L : Int) + 1 ≤ 4611686018427387904 from by omega, slice_hi, hpa]
      refine unpads_tail cf hknown hU hUR _ _ (p.take k) (cutV 1 (.slice (h.next + 1) 0 L none) 0 k) ((hf.new _).new _) (hrw _ _) (lt_cut (by simp [V.lt]) _ _ _) ?_ (by simp; omega) ?_ ?_
      · simp (config := {maxSteps := 1000000, maxDischargeDepth := 9, implicitDefEqProofs := false}) [hpa, ← hL, hkL]
      all_goals simp (config := {maxSteps := 1000000, maxDischargeDepth := 9, implicitDefEqProofs := false})
    · obtain ⟨zs, hzs⟩ : ∃ zs : List Nat, zs = List.replicate 192 0 := ⟨_, rfl⟩
      have hz192 : zeros [V.int .u8 0] 192 = bytesOf zs := by rw [hzs]; rfl
      have hzl : zs.length = 192 := by rw [hzs]; rfl
      have hzlt : ∀ y ∈ zs, y < 256 := by intro y hy; rw [hzs, List.mem_replicate] at hy; omega
      have hread : ((h.new (.cells (bytesOf u) 5 1 true)).new (.cells (bytesOf p) 5 1 true)).read (h.next + 1) 0 L = some (bytesOf p) := by
        rw [show h.next + 1 = (h.new (.cells (bytesOf u) 5 1 true)).next from rfl, read_self (by rw [bytesOf_length]; omega), List.drop_zero, List.take_of_length_le (by rw [bytesOf_length]; omega)]
      have hall : ∀ y ∈ p ++ zs, y < 256 := fun y hy => (List.mem_append.1 hy).elim (hpl y) (hzlt y)
      have hr2 : ∀ P : Blk, hasSizes ((h.new (.cells (bytesOf u) 5 1 true)).gone.new P) := fun P => by
        obtain ⟨tt, g0⟩ := hrows
        refine ⟨tt, ?_⟩
        simp (config := {maxSteps := 1000000, maxDischargeDepth := 9, implicitDefEqProofs := false}) [g0, show ¬ 0 = h.next from by omega]
      simp (config := {maxSteps := 1000000, maxDischargeDepth := 9, implicitDefEqProofs := false}) [c4, e0', hFew, s_Few, ht, hlt, hkt, hts, hu, hul, hPadR, s_PadR, hua, k1, hp, ← hL, hasSizes_new, hpos, hrows, hPick, s_Pick, hq, aop_appendZ, appendZS, -zeros, hz192, appendXs, hread, mem_bytes_one, show L ≤ 140737488354112 from by omega, show L ≤ 140737488355136 from by omega, hzl]
      refine unpads_tail cf hknown hU hUR _ _ (p ++ zs) (.slice (h.next + 2) 0 (L + 192) none) ((hf.new _).gone.new _) (hr2 _) (by simp [V.lt]) ?_ (by simp; omega) ?_ ?_
      · rw [← bytesOf_append]
        simp (config := {maxSteps := 1000000, maxDischargeDepth := 9, implicitDefEqProofs := false}) [asB_bytesOf hall, ← hL, hzl]
      all_goals simp (config := {maxSteps := 1000000, maxDischargeDepth := 9, implicitDefEqProofs := false})
    · have hx8 : ((b : Int)).tmod 4 = ((b % 4 : Nat) : Int) := by rw [Int.tmod_eq_emod_of_nonneg (by omega)]; omega
      obtain ⟨y, hy⟩ : ∃ y, y = b % 4 := ⟨_, rfl⟩
      rw [← hy] at hx8
      simp (config := {maxSteps := 1000000, maxDischargeDepth := 9, implicitDefEqProofs := false}) [c4, e0', hFew, s_Few, ht, hlt, hkt, hts, hu, hul, hPadR, s_PadR, hua, k1, hp, ← hL, hasSizes_new, hpos, hrows, hPick, s_Pick, hq, l0, hx8, -over, over_set, bytes_set, Nat.succ_le_of_lt l0]
      refine unpads_tail cf hknown hU hUR _ _ (p.set 0 y) (.slice (h.next + 1) 0 L none) ((hf.new _).new _) (hrw _ _) (by simp [V.lt]) ?_ (by simp; omega) ?_ ?_
      · simp (config := {maxSteps := 1000000, maxDischargeDepth := 9, implicitDefEqProofs := false}) [asB_bytesOf (mem_set_lt hpl (show y < 256 by omega)), ← hL]
      all_goals simp (config := {maxSteps := 1000000, maxDischargeDepth := 9, implicitDefEqProofs := false})
    · simp (config := {maxSteps := 1000000, maxDischargeDepth := 9, implicitDefEqProofs := false}) [c4, e0', hFew, s_Few, ht, hlt, hkt, hts, hu, hul, hPadR, s_PadR, hua, k1, hp, ← hL, hasSizes_new, hpos, hrows, hPick, s_Pick, hq]
      refine unpads_tail cf hknown hU hUR _ _ p (.slice (h.next + 1) 0 L none) ((hf.new _).new _) (hrw _ _) (by simp [V.lt]) ?_ (by omega) ?_ ?_
      · simp (config := {maxSteps := 1000000, maxDischargeDepth := 9, implicitDefEqProofs := false}) [hpa, ← hL]
      all_goals simp (config := {maxSteps := 1000000, maxDischargeDepth := 9, implicitDefEqProofs := false})
    · simp (config := {maxSteps := 1000000, maxDischargeDepth := 9, implicitDefEqProofs := false}) [c4, e0', hFew, s_Few, ht, hlt, hkt, hts, hu, hul, hPadR, s_PadR, hua, k1, hp, ← hL, hasSizes_new, hpos, hrows, hPick, s_Pick, hq]
      refine unpads_tail cf hknown hU hUR _ _ p (.slice (h.next + 1) 0 L none) ((hf.new _).new _) (hrw _ _) (by simp [V.lt]) ?_ (by omega) ?_ ?_
      · simp (config := {maxSteps := 1000000, maxDischargeDepth := 9, implicitDefEqProofs := false}) [hpa, ← hL]
      all_goals simp (config := {maxSteps := 1000000, maxDischargeDepth := 9, implicitDefEqProofs := false})
  · have e0' : decide (0 < how.tmod 4) = false := by simpa using e0
    simp (config := {maxSteps := 1000000, maxDischargeDepth := 9, implicitDefEqProofs := false}) [c4, e0']
    refine unpads_tail cf hknown hU hUR _ h s va hf hrows hla ha hs ?_ ?_
    all_goals simp (config := {maxSteps := 1000000, maxDischargeDepth := 9, implicitDefEqProofs := false})

end
end Go.Proofs.YtaaejidllnkpbaaDoor.PadUnpads
