/- What the functions that the law BlakeApart reaches do, each told once, and the law by them. No condition. -/
import Derived.Test.YtjdofdokdemnkaaCodeBlakeApart
namespace Go.Proofs.Ytjdofdokdemnkaa.BlakeApart
open Go Go.Proofs.YtjdofdokdemnkaaA
set_option linter.unusedSimpArgs false
set_option linter.unusedVariables false
set_option maxHeartbeats 4000000
set_option maxRecDepth 100000
attribute [local simp] body_eq exec_seq exec_region exec_skip exec_ret exec_exit exec_cond exec_block seqS_normal seqS_ret seqS_exit seqS_none seqS_bif regS_some regS_none regS_bif condS_bool condS_true
  condS_false blockS_normal blockS_ret blockS_exit blockS_none blockS_bif finS_normal finS_ret finS_bif steps_nil steps_cons steps_guard bindS_some bindS_none bindS_bif endS_some
  endS_skip endS_none endS_bif gstep_some gstep_true gstep_false wantV_true wantV_false wantV_undef wantV_gdv_true wantV_gdv_false gdv_true gdv_false aop_pick pickS_or pickS_and
  pickS_true pickS_false bif_bool put_some put_none Env.at_put Env.n_put at_init n_init Opd.ev ressA resA pack Heap.get_new Heap.get_set nextOf_new Heap.next_set nth fillV zeros over
  eqv read_eq read_zero readB_cells one_bool one_int one_str one_ptr one_nilptr one_slice one_nilslice cells_bool cells_int cells_str cells_ptr cells_nilptr cells_slice
  cells_nilslice cells_agg aop_move aop_box aop_boxv boxvS_agg boxvS_int boxvS_bool boxvS_str boxvS_slice boxvS_nilslice aop_build buildS_some aop_buildSlice buildSliceS_some
  aop_load loadS_ptr loadB_cells loadC_some aop_loadn loadnS_ptr aop_store storeS_ptr writeB_cells aop_bin binS_lss binS_leq binS_gtr binS_geq binS_eql binS_neq binS_add binS_sub
  binS_mul binS_quo binS_rem binS_and binS_or binS_xor binS_shl binS_shr binS_seql binS_sneq binS_sadd aop_eq eqS_some_f eqS_some_t aop_un unS_not unS_neg aop_conv convS_int
  aop_convStr convStrS_str aop_intStr intStrS_int aop_strBytes strBytesS_str aop_bytesStr bytesStrS_nil bytesStrS_slice aop_mkIface aop_mkFunc aop_makeSlice makeS_int aop_sliceStr
  sliceStrS_str sliceStrB_some someS_some aop_sliceSl aop_sliceArr sliceArrS_ptr aop_fieldAddr fieldAddrS_ptr aop_field fieldS_agg fieldS_aggn aop_indexAddrA indexAddrAS_ptr
  aop_indexAddrS indexAddrSS_slice aop_indexA indexAS_agg byteS_some aop_indexStr indexStrS_str aop_extract extractS_tuple aop_call callS_func aop_append aop_copy aop_lenS lenSS_str
  aop_lenL lenLS_nil lenLS_slice aop_minmax minmaxS_min minmaxS_max aop_convSame convSameS_slice convSameB_cells aop_lenC Heap.set_newE Heap.kill_newE Heap.set_new_ne
  Heap.set_gone_ne Heap.set_set Heap.get_gone Heap.next_gone loopE_n loopE_at Runs_some Ends_some Ends_none Runs_none VCL_nil VCL_cons VC_tuple VC_agg VC_bool VC_int VC_str VC_nil
  VC_nilptr VC_ptr VC_slice_nn VC_slice_ns VC_slice_s moved_at most_val lim_val next_add vlen_slice vlen_nil isSl_slice isSl_nil atP_slice newV sl_new slB_new slK_new sl_gone
  slB_gone slK_gone lt_slice lt_nil lt_ptr lt_cut sl_selfE slB_litE slK_litE asB asB_bytesOf asK asK_map slB_nil slK_nil slBs Fresh.new Fresh.gone indexE bytesStrE loadBE slice_lo
  slice_hi slice_lohi slB_cut vlen_cut isSl_cut one_cut cells_cut lenE aop_nilCheck nilCheckS_ptr aop_appendZ aop_eqArr IntKind.bits Int.fdiv_eq_ediv_of_nonneg bytesOf_length
  sameV_refl gval_true gval_false gval_some traceA_nil traceA_cons consT_some mapT_some stepV_none stepV_guard exec_any anyS_some chkOk_nil chkOk_cons sameS_some chk2_some chk1_eq
  envL_nil envL_cons heapL_nil heapL_cons heapO_some heapB_zero heapB_succ isWriter nth_bytesOf nth_ints str_hi str_lo wrap_i64 wrap_i32 wrap_u64 wrap_u32 wrap_u8 exec_float
  fltS_some traceG_nil traceG_cons consG_some viewS_some stepF_bif floatS_float isF isAlloc isReader actH_nil actH_cons1 act1_new act1_bare act1_new0 act1_bare0 read_gap sl_gap
  slB_gap slK_gap get_gap next_gap Fresh.gap
attribute [local congr] gstep_congr gval_congr
noncomputable section
/-- portholehand.Few: the first bytes, in new memory. -/
def s_Few : List V → Heap → Option (V × Heap)
  | [v, .int .i64 k], h => match slB h v with
    | some s => if s.length ≤ lim ∧ 0 ≤ k then some (newV h (s.take k.toNat).length, h.new (.cells (bytesOf (s.take k.toNat)) 5 1 true)) else none
    | none => none
  | _, _ => none

theorem Few_ok (cf : ACall) : Sum cf c21 s_Few := by
  intro args h v h' hf hsc hlt hs
  unfold s_Few at hs
  split at hs
  · rename_i a k
    split at hs
    · rename_i s ha
      split at hs
      · rename_i hl
        simp only [Option.some.injEq, Prod.mk.injEq] at hs
        obtain ⟨rfl, rfl⟩ := hs
        have hv := slB_vlen ha
        have hsl := slB_isSl ha
        have ha' := slB_ext (Ext.new h (.cells [] 5 1 true)) hf ha
        obtain ⟨m, hm⟩ : ∃ m : Int, m = if k < (s.length : Int) then k else (s.length : Int) := ⟨_, rfl⟩
        have hm0 : 0 ≤ m ∧ m ≤ vlen a := by rw [hm, hv]; split <;> omega
        have hcut := slice_hi (k := .i64) (h := h.new (.cells [] 5 1 true)) (by rw [ha']; rfl) hm0.1 hm0.2
        have hcb := slB_cut (l := 0) (r := m.toNat) (by rw [ha']; rfl) (Nat.zero_le _) (by omega)
        have htake : s.take m.toNat = s.take k.toNat := by
          rw [hm]; split
          · rfl
          · rw [List.take_of_length_le (by omega), List.take_of_length_le (by omega)]
        rw [ha', Option.map_some, List.drop_zero, htake] at hcb
        obtain ⟨v2, h2, k1, k2, k3, k4, _, k6, _⟩ := (OwnB.start h 5).app (Ext.new h _) (hf.new _) (slB_added hcb) (by simp only [List.length_nil, Nat.zero_add, List.length_take]; omega)
        obtain ⟨τ, hc⟩ := k2.canon hf hsc k3 (k6 (by simp))
        refine ⟨1, v2, h2, ?_, τ, hc⟩
        simp (config := {maxSteps := 1000000, maxDischargeDepth := 9, implicitDefEqProofs := false}) [c21, lenE hsl, hv, ← hm, hcut, k1]
      · cases hs
    · cases hs
  · cases hs

/-- A number of the first bytes, as it is gathered. -/
def orU (a b : Int) : Int := wrapF .u64 (((a % 18446744073709551616).toNat ||| (b % 18446744073709551616).toNat : Nat) : Int)
def getU (s : List Nat) : Nat → Int
  | 0 => 0
  | i + 1 => orU (getU s i) (wrapF .u64 ((s.getD i 0 : Int) * 2 ^ (8 * i)))

/-- octet.get. -/
def s_get : List V → Heap → Option (V × Heap)
  | [v, .int .i64 n], h => match slB h v with
    | some s => if 0 ≤ n ∧ n ≤ 8 then some (if (s.length : Int) < n then .tuple [.int .u64 0, .bool false] else .tuple [.int .u64 (getU s n.toNat), .bool true], h) else none
    | none => none
  | _, _ => none

theorem get_ok (cf : ACall) : Sum cf c35 s_get := by
  intro args h v h' hf hsc hlt hs
  unfold s_get at hs
  split at hs
  · rename_i vb n0
    split at hs
    · rename_i s hb
      split at hs
      · rename_i hn0
        simp only [Option.some.injEq, Prod.mk.injEq] at hs
        obtain ⟨rfl, rfl⟩ := hs
        obtain ⟨n, rfl⟩ : ∃ n : Nat, n0 = (n : Int) := ⟨n0.toNat, by omega⟩
        have hn8 : n ≤ 8 := by omega
        have hsl := slB_isSl hb
        have hvl := slB_vlen hb
        simp only [Int.toNat_natCast] at *
        refine ⟨n + 1, ?_⟩
        by_cases hc : s.length < n
        · have hc' : ((s.length : Int) < (n : Int)) := by omega
          rw [if_pos hc']
          simp (config := {maxSteps := 1000000, maxDischargeDepth := 9, implicitDefEqProofs := false}) [c35, hsl, hvl, hc]
          exact Canon.keep hf hsc (Ext.refl _) (by simp [V.lt, ltL])
        · have hc' : ¬ ((s.length : Int) < (n : Int)) := by omega
          rw [if_neg hc']
          have L := loop_count (cf := cf) (N := n + 1) (c := c35_l0) n
            (fun i e H => e.n = 28 ∧ e.at 0 = vb ∧ e.at 6 = .int .u64 (getU s i) ∧ e.at 12 = .int .i64 (n : Int) ∧ e.at 13 = .int .i64 (i : Int) ∧ H = h)
            (fun x' e H => x' = .exit 0 ∧ e.n = 28 ∧ e.at 6 = .int .u64 (getU s n) ∧ H = h)
            (by
              rintro i e H hi ⟨hn, h0, h6, h12, h13, rfl⟩
              have hsh : (8 * (i : Int)).toNat = 8 * i := by omega
              have hmin : min (8 * i) 64 = 8 * i := by omega
              have hw : wrapF .i64 (8 * (i : Int)) = 8 * (i : Int) := wrap_i64 (by omega) (by omega)
              have hby := slB_lt hb (s.getD i 0) (by rw [List.getD_eq_getElem?_getD, List.getElem?_eq_getElem (by omega)]; simp)
              have hwb : wrapF .u64 ((s.getD i 0 : Nat) : Int) = ((s.getD i 0 : Nat) : Int) := wrap_u64 (by omega) (by omega)
              rw [List.getD_eq_getElem?_getD, List.getElem?_eq_getElem (by omega), Option.getD_some] at hwb
              have hgu : getU s (i + 1) = orU (getU s i) (wrapF .u64 ((s[i] : Int) * 2 ^ (8 * i))) := by
                simp only [getU]; rw [List.getD_eq_getElem?_getD, List.getElem?_eq_getElem (by omega), Option.getD_some]
              simp (config := {maxSteps := 1000000, maxDischargeDepth := 9, implicitDefEqProofs := false}) [c35_l0, hn, h0, h6, h12, h13, hi, hsl, hvl, show i < s.length from by omega, hb, hw, hsh, hmin, hwb, hgu, orU, modK, show ¬ (8 * (i : Int) < 0) from by omega, wrap_i64 (x := (i : Int) + 1) (by omega) (by omega)])
            (by
              rintro e H ⟨hn, h0, h6, h12, h13, rfl⟩
              simp (config := {maxSteps := 1000000, maxDischargeDepth := 9, implicitDefEqProofs := false}) [c35_l0, hn, h0, h6, h12, h13])
          simp (config := {maxSteps := 1000000, maxDischargeDepth := 9, implicitDefEqProofs := false}) [c35, hsl, hvl, hc]
          refine loop_then (K := fun r => finS _ (seqS _ _ _ (blockS _ r))) (L 0 _ _ (Nat.zero_le _) ?_ (Nat.lt_succ_self _)) ?_
          · simp (config := {maxSteps := 1000000, maxDischargeDepth := 9, implicitDefEqProofs := false}) [getU]
          · rintro x e' H ⟨rfl, hn, h6, rfl⟩
            simp (config := {maxSteps := 1000000, maxDischargeDepth := 9, implicitDefEqProofs := false}) [hn, h6]
            exact Canon.keep hf hsc (Ext.refl _) (by simp [V.lt, ltL])
      · cases hs
    · cases hs
  · cases hs

/-- octet.Get32. -/
def s_Get32 : List V → Heap → Option (V × Heap)
  | [v], h => match slB h v with
    | some s => some (if (s.length : Int) < 4 then .tuple [.int .u32 0, .bool false] else .tuple [.int .u32 (wrapF .u32 (getU s 4)), .bool true], h)
    | none => none
  | _, _ => none

theorem Get32_ok (cf : ACall) (hget : ∀ a h, cf 35 a h = s_get a h) : Sum cf c30 s_Get32 := by
  intro args h v h' hf hsc hlt hs
  unfold s_Get32 at hs
  split at hs
  · rename_i vb
    split at hs
    · rename_i s hb
      simp only [Option.some.injEq, Prod.mk.injEq] at hs
      obtain ⟨rfl, rfl⟩ := hs
      refine ⟨1, ?_⟩
      by_cases hc : (s.length : Int) < 4
      · simp (config := {maxSteps := 1000000, maxDischargeDepth := 9, implicitDefEqProofs := false}) [c30, hget, s_get, hb, hc]
        exact Canon.keep hf hsc (Ext.refl _) (by simp [V.lt, ltL])
      · simp (config := {maxSteps := 1000000, maxDischargeDepth := 9, implicitDefEqProofs := false}) [c30, hget, s_get, hb, hc]
        exact Canon.keep hf hsc (Ext.refl _) (by simp [V.lt, ltL])
    · cases hs
  · cases hs

/-- octet.Join: rows of bytes, one behind the other, in new memory. -/
def s_Join : List V → Heap → Option (V × Heap)
  | [vl], h => match sl h 1 vl with
    | some vs => match slBs h vs with
      | some ss => if ss.flatten.length ≤ lim ∧ ss.length ≤ lim then some (newV h ss.flatten.length, h.new (.cells (bytesOf ss.flatten) 5 1 true)) else none
      | none => none
    | none => none
  | _, _ => none

theorem Join_ok (cf : ACall) : Sum cf c29 s_Join := by
  intro args h v h' hf hsc hlt hs
  unfold s_Join at hs
  split at hs
  · rename_i vl
    split at hs
    · rename_i vs hvl
      split at hs
      · rename_i ss hss
        split at hs
        · rename_i hl
          simp only [Option.some.injEq, Prod.mk.injEq] at hs
          obtain ⟨rfl, rfl⟩ := hs
          obtain ⟨hl, hl2⟩ := hl
          have hlim : lim = 140737488354304 := rfl
          obtain ⟨hlen, hget⟩ := slBs_get hss
          have hvlen : vlen vl = ss.length := by have := rd_vlen (sl_rd hvl); omega
          have hsl := sl_isSl hvl
          refine ⟨ss.length + 1, ?_⟩
          have L := loop_count (cf := cf) (N := ss.length + 1) (c := c29_l0) ss.length
            (fun i e H => e.n = 18 ∧ e.at 7 = vl ∧ e.at 8 = .int .i64 (ss.length : Int) ∧ e.at 9 = .int .i64 (i : Int) ∧ OwnB h H 5 (e.at 3) ((ss.take i).flatten) ∧ Ext h H ∧ Fresh H ∧ e.at 3 ≠ .nilslice)
            (fun x e H => x = .exit 0 ∧ e.n = 18 ∧ OwnB h H 5 (e.at 3) ss.flatten ∧ Ext h H ∧ Fresh H ∧ e.at 3 ≠ .nilslice)
            (by
              rintro i e H hi ⟨hn, h7, h8, h9, ho, hE, hF, hne⟩
              obtain ⟨w, hw1, hw2⟩ := hget hi
              have hload := rd_load (sl_rd (sl_ext hE hf hvl)) hw1
              have hidx := indexE (z := 1) hsl H (k := .i64) (i := (i : Int)) (by omega) (by omega)
              simp only [Int.toNat_natCast, Nat.mul_one] at hidx
              obtain ⟨v2, h2, k1, k2, k3, k4, _, k6, _⟩ := ho.app hE hF (slB_added (slB_ext hE hf hw2)) (by
                have h1 := congrArg List.length (take_flatten_succ ss i hi)
                have h2 : ((ss.take (i + 1)).flatten).length ≤ ss.flatten.length := by
                  have := congrArg List.length (congrArg List.flatten (List.take_append_drop (i + 1) ss))
                  rw [List.flatten_append, List.length_append] at this; omega
                rw [List.length_append] at h1; omega)
              simp (config := {maxSteps := 1000000, maxDischargeDepth := 9, implicitDefEqProofs := false}) [c29_l0, hn, h7, h8, h9, hidx, hload, k1, hi, wrap_i64 (x := (i : Int) + 1) (by omega) (by omega)]
              rw [take_flatten_succ ss i hi]
              exact ⟨k2, k3, k4, k6 hne⟩)
            (by
              rintro e H ⟨hn, h7, h8, h9, ho, hE, hF, hne⟩
              rw [List.take_length] at ho
              simp (config := {maxSteps := 1000000, maxDischargeDepth := 9, implicitDefEqProofs := false}) [c29_l0, hn, h7, h8, h9]
              exact ⟨ho, hE, hF, hne⟩)
          simp (config := {maxSteps := 1000000, maxDischargeDepth := 9, implicitDefEqProofs := false}) [c29, lenE hsl, hvlen, -List.length_flatten]
          refine loop_then (K := fun r => finS _ (seqS _ _ _ (blockS _ r))) (L 0 _ _ (Nat.zero_le _) ?_ (Nat.lt_succ_self _)) ?_
          · simp (config := {maxSteps := 1000000, maxDischargeDepth := 9, implicitDefEqProofs := false})
            exact ⟨by simpa using OwnB.start h 5, Ext.new h _, hf.new _⟩
          · rintro x e' H ⟨rfl, hn, ho, hE, hF, hne⟩
            simp (config := {maxSteps := 1000000, maxDischargeDepth := 9, implicitDefEqProofs := false}) [hn, -List.length_flatten]
            exact ho.canon hf hsc hE hne
        · cases hs
      · cases hs
    · cases hs
  · cases hs

/-- A word turned left. -/
def rotl (x : Int) (k : Nat) : Int := wrapF .u32 (((wrapF .u32 (x * 2 ^ k) % 4294967296).toNat ||| ((x / 2 ^ (32 - k)) % 4294967296).toNat : Nat) : Int)

/-- bits.RotateLeft32, by -16, -12, -8 or -7. -/
def s_RotN : List V → Heap → Option (V × Heap)
  | [.int .u32 x, .int .i64 k], h => if k = -16 then some (.int .u32 (rotl x 16), h) else if k = -12 then some (.int .u32 (rotl x 20), h) else if k = -8 then some (.int .u32 (rotl x 24), h) else if k = -7 then some (.int .u32 (rotl x 25), h) else none
  | _, _ => none
theorem RotN_ok (cf : ACall) : Sum cf c31 s_RotN := by
  intro args h v h' hf hsc hlt hs
  unfold s_RotN at hs
  have w1 : wrapF .u64 (-16) = 18446744073709551600 := by decide
  have w2 : wrapF .u64 (-12) = 18446744073709551604 := by decide
  have w3 : wrapF .u64 (-8) = 18446744073709551608 := by decide
  have w4 : wrapF .u64 (-7) = 18446744073709551609 := by decide
  split at hs
  · rename_i x k
    refine ⟨1, ?_⟩
    (repeat' split at hs) <;> first
      | (cases hs; done)
      | (rename_i hk
         simp only [Option.some.injEq, Prod.mk.injEq] at hs
         obtain ⟨rfl, rfl⟩ := hs
         subst hk
         simp (config := {maxSteps := 1000000, maxDischargeDepth := 9, implicitDefEqProofs := false}) [c31, modK, rotl, w1, w2, w3, w4]
         exact Canon.keep hf hsc (Ext.refl _) (by simp only [V.lt]))
  · cases hs

def ivL : List Int := [1779033703, 3144134277, 1013904242, 2773480762, 1359893119, 2600822924, 528734635, 1541459225]
/-- blake.first. -/
def s_first : List V → Heap → Option (V × Heap)
  | [], h => some (.agg (ivL.map (V.int .u32)), h)
  | _, _ => none
theorem first_ok (cf : ACall) : Sum cf c27 s_first := by
  intro args h v h' hf hsc hlt hs
  unfold s_first at hs
  split at hs
  · simp only [Option.some.injEq, Prod.mk.injEq] at hs
    obtain ⟨rfl, rfl⟩ := hs
    refine ⟨1, ?_⟩
    simp (config := {maxSteps := 1000000, maxDischargeDepth := 9, implicitDefEqProofs := false}) [c27, ivL]
    exact Canon.keep hf hsc (by repeat (first | exact Ext.refl _ | apply Ext.trans_new)) (by simp only [V.lt, ltL, and_self])
  · cases hs

def sigmaL : Nat → List Nat
  | 0 => [0, 1, 2, 3, 4, 5, 6, 7, 8, 9, 10, 11, 12, 13, 14, 15]
  | 1 => [14, 10, 4, 8, 9, 15, 13, 6, 1, 12, 0, 2, 11, 7, 5, 3]
  | 2 => [11, 8, 12, 0, 5, 2, 15, 13, 10, 14, 3, 6, 7, 1, 9, 4]
  | 3 => [7, 9, 3, 1, 13, 12, 11, 14, 2, 6, 5, 10, 4, 0, 15, 8]
  | 4 => [9, 0, 5, 7, 2, 4, 10, 15, 14, 1, 11, 12, 6, 8, 3, 13]
  | 5 => [2, 12, 6, 10, 0, 11, 8, 3, 4, 13, 7, 5, 15, 14, 1, 9]
  | 6 => [12, 5, 1, 15, 14, 13, 4, 10, 0, 7, 6, 3, 9, 2, 8, 11]
  | 7 => [13, 11, 7, 14, 12, 1, 3, 9, 5, 0, 15, 4, 8, 6, 2, 10]
  | 8 => [6, 15, 14, 9, 11, 3, 0, 8, 12, 2, 13, 7, 1, 4, 10, 5]
  | _ => [10, 2, 8, 4, 7, 6, 1, 5, 15, 11, 9, 14, 3, 12, 13, 0]
theorem sigmaL_all (r : Nat) : (sigmaL r).length = 16 ∧ ∀ j, j < 16 → (sigmaL r).getD j 0 < 16 := by
  have key : ∀ l : List Nat, (l.length = 16 ∧ l.all (fun x => decide (x < 16)) = true) → l.length = 16 ∧ ∀ j, j < 16 → l.getD j 0 < 16 := by
    rintro l ⟨h1, h2⟩
    refine ⟨h1, fun j hj => ?_⟩
    have := List.all_eq_true.1 h2 (l.getD j 0) (by rw [List.getD_eq_getElem?_getD, List.getElem?_eq_getElem (by omega)]; simp)
    simpa using this
  apply key
  unfold sigmaL
  split <;> decide
def sigV (r : Nat) : List V := (sigmaL r).map fun n => V.int .i64 ((n : Nat) : Int)
/-- blake.sigma. -/
def s_sigma : List V → Heap → Option (V × Heap)
  | [.int .i64 r], h => if 0 ≤ r ∧ r < 10 then some (.agg (sigV r.toNat), h) else none
  | _, _ => none
theorem flat_sigV (r : Nat) : ltL 0 (sigV r) := by
  unfold sigV
  induction sigmaL r with
  | nil => simp only [List.map_nil, ltL]
  | cons x l ih => simp only [List.map_cons, ltL, V.lt, true_and]; exact ih
theorem sigma_ok (cf : ACall) : Sum cf c34 s_sigma := by
  intro args h v h' hf hsc hlt hs
  unfold s_sigma at hs
  split at hs
  · rename_i r
    split at hs
    · rename_i hr
      simp only [Option.some.injEq, Prod.mk.injEq] at hs
      obtain ⟨rfl, rfl⟩ := hs
      obtain ⟨r, rfl⟩ : ∃ n : Nat, r = (n : Int) := ⟨r.toNat, by omega⟩
      have hres : bodyA cf 1 c34 [.int .i64 r] h = some (.agg (sigV r), h.new (.cells (sigV r) 66 1 true)) := by
        have hii : r = 0 ∨ r = 1 ∨ r = 2 ∨ r = 3 ∨ r = 4 ∨ r = 5 ∨ r = 6 ∨ r = 7 ∨ r = 8 ∨ r = 9 := by omega
        rcases hii with rfl | rfl | rfl | rfl | rfl | rfl | rfl | rfl | rfl | rfl <;>
          simp (config := {maxSteps := 1000000, maxDischargeDepth := 9, implicitDefEqProofs := false}) [c34, sigV, sigmaL]
      have hE := Ext.new h (.cells (sigV r) 66 1 true)
      refine ⟨1, _, _, hres, ?_⟩
      rw [Int.toNat_natCast]
      refine Canon.keep hf hsc hE ?_
      simp only [V.lt]
      exact ltL_mono (Nat.zero_le _) _ (flat_sigV r)
    · cases hs
  · cases hs

def add32 (a b : Int) : Int := wrapF .u32 (a + b)
def xor32 (a b : Int) : Int := wrapF .u32 (((a % 4294967296).toNat ^^^ (b % 4294967296).toNat : Nat) : Int)
def mA (w : List Int) (i j : Nat) (x : Int) : List Int := w.set i (add32 (w.getD i 0) (add32 (w.getD j 0) x))
def mC (w : List Int) (i j : Nat) : List Int := w.set i (add32 (w.getD i 0) (w.getD j 0))
def mD (w : List Int) (i j k : Nat) : List Int := w.set i (rotl (xor32 (w.getD i 0) (w.getD j 0)) k)
theorem mA_length (w : List Int) (i j : Nat) (x : Int) : (mA w i j x).length = w.length := by simp [mA]
theorem mC_length (w : List Int) (i j : Nat) : (mC w i j).length = w.length := by simp [mC]
theorem mD_length (w : List Int) (i j k : Nat) : (mD w i j k).length = w.length := by simp [mD]
/-- One mixing. -/
def mixF (w : List Int) (a b c d : Nat) (x y : Int) : List Int :=
  mD (mC (mD (mA (mD (mC (mD (mA w a b x) d a 16) c d) b c 20) a b y) d a 24) c d) b c 25
theorem mixF_length (w : List Int) (a b c d : Nat) (x y : Int) : (mixF w a b c d x y).length = w.length := by simp only [mixF, mA_length, mC_length, mD_length]

/-- What a mixing's temporaries hold. -/
structure ME (e : Env) (a b c d : Nat) (x y : Int) (p : Nat) : Prop where
  n : e.n = 89
  a0 : e.at 0 = .int .i64 (a : Int)
  a1 : e.at 1 = .int .i64 (b : Int)
  a2 : e.at 2 = .int .i64 (c : Int)
  a3 : e.at 3 = .int .i64 (d : Int)
  a4 : e.at 4 = .int .u32 x
  a5 : e.at 5 = .int .u32 y
  a6 : e.at 6 = .ptr p 0

def wC (w : List Int) (t z : Nat) : Blk := .cells (w.map (V.int .u32)) t z true
theorem mix_7 (cf : ACall) (hRot : ∀ a h, cf 31 a h = s_RotN a h) (a b c d : Nat) (x y : Int) (p t z : Nat) (ha : a < 16) (hb : b < 16) (hc : c < 16) (hd : d < 16) (H0 : Heap) (w : List Int) (hw : w.length = 16) (e : Env) (hE : ME e a b c d x y p) :
    YtjdofdokdemnkaaA.Ends (execA cf 1 c33_s7 e (H0.set p (some (wC w t z)))) fun x e2 H => x = .normal ∧ H = H0.set p (some (wC (mD w b c 25) t z)) := by
  have a1 : a < 16 := by omega
  have b1 : b < 16 := by omega
  have c1 : c < 16 := by omega
  have d1 : d < 16 := by omega
  have a2 : (a : Int) < 16 := by omega
  have b2 : (b : Int) < 16 := by omega
  have c2 : (c : Int) < 16 := by omega
  have d2 : (d : Int) < 16 := by omega
  have ga : w[a]'(by omega) = w.getD a 0 := by rw [List.getD_eq_getElem?_getD, List.getElem?_eq_getElem (by omega)]; rfl
  have gb : w[b]'(by omega) = w.getD b 0 := by rw [List.getD_eq_getElem?_getD, List.getElem?_eq_getElem (by omega)]; rfl
  have gc : w[c]'(by omega) = w.getD c 0 := by rw [List.getD_eq_getElem?_getD, List.getElem?_eq_getElem (by omega)]; rfl
  have gd : w[d]'(by omega) = w.getD d 0 := by rw [List.getD_eq_getElem?_getD, List.getElem?_eq_getElem (by omega)]; rfl
  have e1 : ∀ x y, wrapF .u32 (x + y) = add32 x y := fun _ _ => rfl
  have e2 : ∀ x y : Int, wrapF .u32 (((x % 4294967296).toNat ^^^ (y % 4294967296).toNat : Nat) : Int) = xor32 x y := fun _ _ => rfl
  have hm : w.set b (rotl (xor32 w[b] w[c]) 25) = mD w b c 25 := by rw [mD, ← gb, ← gc]
  simp (config := {maxSteps := 1000000, maxDischargeDepth := 9, implicitDefEqProofs := false}) [c33_s7, hE.n, hE.a0, hE.a1, hE.a2, hE.a3, hE.a4, hE.a5, hE.a6, hRot, s_RotN, a1, b1, c1, d1, a2, b2, c2, d2, hw, -over, over_set, map_set, Nat.succ_le_of_lt a1, Nat.succ_le_of_lt b1, Nat.succ_le_of_lt c1, Nat.succ_le_of_lt d1, -List.map_set, modK, wC, e1, e2, hm]
theorem mix_6 (cf : ACall) (hRot : ∀ a h, cf 31 a h = s_RotN a h) (a b c d : Nat) (x y : Int) (p t z : Nat) (ha : a < 16) (hb : b < 16) (hc : c < 16) (hd : d < 16) (H0 : Heap) (w : List Int) (hw : w.length = 16) (e : Env) (hE : ME e a b c d x y p) :
    YtjdofdokdemnkaaA.Ends (execA cf 1 c33_s6 e (H0.set p (some (wC w t z)))) fun x e2 H => x = .normal ∧ H = H0.set p (some (wC (mD (mC w c d) b c 25) t z)) := by
  have a1 : a < 16 := by omega
  have b1 : b < 16 := by omega
  have c1 : c < 16 := by omega
  have d1 : d < 16 := by omega
  have a2 : (a : Int) < 16 := by omega
  have b2 : (b : Int) < 16 := by omega
  have c2 : (c : Int) < 16 := by omega
  have d2 : (d : Int) < 16 := by omega
  have ga : w[a]'(by omega) = w.getD a 0 := by rw [List.getD_eq_getElem?_getD, List.getElem?_eq_getElem (by omega)]; rfl
  have gb : w[b]'(by omega) = w.getD b 0 := by rw [List.getD_eq_getElem?_getD, List.getElem?_eq_getElem (by omega)]; rfl
  have gc : w[c]'(by omega) = w.getD c 0 := by rw [List.getD_eq_getElem?_getD, List.getElem?_eq_getElem (by omega)]; rfl
  have gd : w[d]'(by omega) = w.getD d 0 := by rw [List.getD_eq_getElem?_getD, List.getElem?_eq_getElem (by omega)]; rfl
  have e1 : ∀ x y, wrapF .u32 (x + y) = add32 x y := fun _ _ => rfl
  have e2 : ∀ x y : Int, wrapF .u32 (((x % 4294967296).toNat ^^^ (y % 4294967296).toNat : Nat) : Int) = xor32 x y := fun _ _ => rfl
  have hm : w.set c (add32 w[c] w[d]) = mC w c d := by rw [mC, ← gc, ← gd]
  simp (config := {maxSteps := 1000000, maxDischargeDepth := 9, implicitDefEqProofs := false}) [c33_s6, hE.n, hE.a0, hE.a1, hE.a2, hE.a3, hE.a4, hE.a5, hE.a6, hRot, s_RotN, a1, b1, c1, d1, a2, b2, c2, d2, hw, -over, over_set, map_set, Nat.succ_le_of_lt a1, Nat.succ_le_of_lt b1, Nat.succ_le_of_lt c1, Nat.succ_le_of_lt d1, -List.map_set, modK, wC, e1, e2, hm]
  refine mix_7 cf hRot a b c d x y p t z ha hb hc hd H0 (mC w c d) (by simp [mC_length, hw]) _ ⟨?_, ?_, ?_, ?_, ?_, ?_, ?_, ?_⟩ <;> simp (config := {maxSteps := 1000000, maxDischargeDepth := 9, implicitDefEqProofs := false}) [hE.n, hE.a0, hE.a1, hE.a2, hE.a3, hE.a4, hE.a5, hE.a6]
theorem mix_5 (cf : ACall) (hRot : ∀ a h, cf 31 a h = s_RotN a h) (a b c d : Nat) (x y : Int) (p t z : Nat) (ha : a < 16) (hb : b < 16) (hc : c < 16) (hd : d < 16) (H0 : Heap) (w : List Int) (hw : w.length = 16) (e : Env) (hE : ME e a b c d x y p) :
    YtjdofdokdemnkaaA.Ends (execA cf 1 c33_s5 e (H0.set p (some (wC w t z)))) fun x e2 H => x = .normal ∧ H = H0.set p (some (wC (mD (mC (mD w d a 24) c d) b c 25) t z)) := by
  have a1 : a < 16 := by omega
  have b1 : b < 16 := by omega
  have c1 : c < 16 := by omega
  have d1 : d < 16 := by omega
  have a2 : (a : Int) < 16 := by omega
  have b2 : (b : Int) < 16 := by omega
  have c2 : (c : Int) < 16 := by omega
  have d2 : (d : Int) < 16 := by omega
  have ga : w[a]'(by omega) = w.getD a 0 := by rw [List.getD_eq_getElem?_getD, List.getElem?_eq_getElem (by omega)]; rfl
  have gb : w[b]'(by omega) = w.getD b 0 := by rw [List.getD_eq_getElem?_getD, List.getElem?_eq_getElem (by omega)]; rfl
  have gc : w[c]'(by omega) = w.getD c 0 := by rw [List.getD_eq_getElem?_getD, List.getElem?_eq_getElem (by omega)]; rfl
  have gd : w[d]'(by omega) = w.getD d 0 := by rw [List.getD_eq_getElem?_getD, List.getElem?_eq_getElem (by omega)]; rfl
  have e1 : ∀ x y, wrapF .u32 (x + y) = add32 x y := fun _ _ => rfl
  have e2 : ∀ x y : Int, wrapF .u32 (((x % 4294967296).toNat ^^^ (y % 4294967296).toNat : Nat) : Int) = xor32 x y := fun _ _ => rfl
  have hm : w.set d (rotl (xor32 w[d] w[a]) 24) = mD w d a 24 := by rw [mD, ← gd, ← ga]
  simp (config := {maxSteps := 1000000, maxDischargeDepth := 9, implicitDefEqProofs := false}) [c33_s5, hE.n, hE.a0, hE.a1, hE.a2, hE.a3, hE.a4, hE.a5, hE.a6, hRot, s_RotN, a1, b1, c1, d1, a2, b2, c2, d2, hw, -over, over_set, map_set, Nat.succ_le_of_lt a1, Nat.succ_le_of_lt b1, Nat.succ_le_of_lt c1, Nat.succ_le_of_lt d1, -List.map_set, modK, wC, e1, e2, hm]
  refine mix_6 cf hRot a b c d x y p t z ha hb hc hd H0 (mD w d a 24) (by simp [mD_length, hw]) _ ⟨?_, ?_, ?_, ?_, ?_, ?_, ?_, ?_⟩ <;> simp (config := {maxSteps := 1000000, maxDischargeDepth := 9, implicitDefEqProofs := false}) [hE.n, hE.a0, hE.a1, hE.a2, hE.a3, hE.a4, hE.a5, hE.a6]
theorem mix_4 (cf : ACall) (hRot : ∀ a h, cf 31 a h = s_RotN a h) (a b c d : Nat) (x y : Int) (p t z : Nat) (ha : a < 16) (hb : b < 16) (hc : c < 16) (hd : d < 16) (H0 : Heap) (w : List Int) (hw : w.length = 16) (e : Env) (hE : ME e a b c d x y p) :
    YtjdofdokdemnkaaA.Ends (execA cf 1 c33_s4 e (H0.set p (some (wC w t z)))) fun x e2 H => x = .normal ∧ H = H0.set p (some (wC (mD (mC (mD (mA w a b y) d a 24) c d) b c 25) t z)) := by
  have a1 : a < 16 := by omega
  have b1 : b < 16 := by omega
  have c1 : c < 16 := by omega
  have d1 : d < 16 := by omega
  have a2 : (a : Int) < 16 := by omega
  have b2 : (b : Int) < 16 := by omega
  have c2 : (c : Int) < 16 := by omega
  have d2 : (d : Int) < 16 := by omega
  have ga : w[a]'(by omega) = w.getD a 0 := by rw [List.getD_eq_getElem?_getD, List.getElem?_eq_getElem (by omega)]; rfl
  have gb : w[b]'(by omega) = w.getD b 0 := by rw [List.getD_eq_getElem?_getD, List.getElem?_eq_getElem (by omega)]; rfl
  have gc : w[c]'(by omega) = w.getD c 0 := by rw [List.getD_eq_getElem?_getD, List.getElem?_eq_getElem (by omega)]; rfl
  have gd : w[d]'(by omega) = w.getD d 0 := by rw [List.getD_eq_getElem?_getD, List.getElem?_eq_getElem (by omega)]; rfl
  have e1 : ∀ x y, wrapF .u32 (x + y) = add32 x y := fun _ _ => rfl
  have e2 : ∀ x y : Int, wrapF .u32 (((x % 4294967296).toNat ^^^ (y % 4294967296).toNat : Nat) : Int) = xor32 x y := fun _ _ => rfl
  have hm : w.set a (add32 w[a] (add32 w[b] y)) = mA w a b y := by rw [mA, ← ga, ← gb]
  simp (config := {maxSteps := 1000000, maxDischargeDepth := 9, implicitDefEqProofs := false}) [c33_s4, hE.n, hE.a0, hE.a1, hE.a2, hE.a3, hE.a4, hE.a5, hE.a6, hRot, s_RotN, a1, b1, c1, d1, a2, b2, c2, d2, hw, -over, over_set, map_set, Nat.succ_le_of_lt a1, Nat.succ_le_of_lt b1, Nat.succ_le_of_lt c1, Nat.succ_le_of_lt d1, -List.map_set, modK, wC, e1, e2, hm]
  refine mix_5 cf hRot a b c d x y p t z ha hb hc hd H0 (mA w a b y) (by simp [mA_length, hw]) _ ⟨?_, ?_, ?_, ?_, ?_, ?_, ?_, ?_⟩ <;> simp (config := {maxSteps := 1000000, maxDischargeDepth := 9, implicitDefEqProofs := false}) [hE.n, hE.a0, hE.a1, hE.a2, hE.a3, hE.a4, hE.a5, hE.a6]
theorem mix_3 (cf : ACall) (hRot : ∀ a h, cf 31 a h = s_RotN a h) (a b c d : Nat) (x y : Int) (p t z : Nat) (ha : a < 16) (hb : b < 16) (hc : c < 16) (hd : d < 16) (H0 : Heap) (w : List Int) (hw : w.length = 16) (e : Env) (hE : ME e a b c d x y p) :
    YtjdofdokdemnkaaA.Ends (execA cf 1 c33_s3 e (H0.set p (some (wC w t z)))) fun x e2 H => x = .normal ∧ H = H0.set p (some (wC (mD (mC (mD (mA (mD w b c 20) a b y) d a 24) c d) b c 25) t z)) := by
  have a1 : a < 16 := by omega
  have b1 : b < 16 := by omega
  have c1 : c < 16 := by omega
  have d1 : d < 16 := by omega
  have a2 : (a : Int) < 16 := by omega
  have b2 : (b : Int) < 16 := by omega
  have c2 : (c : Int) < 16 := by omega
  have d2 : (d : Int) < 16 := by omega
  have ga : w[a]'(by omega) = w.getD a 0 := by rw [List.getD_eq_getElem?_getD, List.getElem?_eq_getElem (by omega)]; rfl
  have gb : w[b]'(by omega) = w.getD b 0 := by rw [List.getD_eq_getElem?_getD, List.getElem?_eq_getElem (by omega)]; rfl
  have gc : w[c]'(by omega) = w.getD c 0 := by rw [List.getD_eq_getElem?_getD, List.getElem?_eq_getElem (by omega)]; rfl
  have gd : w[d]'(by omega) = w.getD d 0 := by rw [List.getD_eq_getElem?_getD, List.getElem?_eq_getElem (by omega)]; rfl
  have e1 : ∀ x y, wrapF .u32 (x + y) = add32 x y := fun _ _ => rfl
  have e2 : ∀ x y : Int, wrapF .u32 (((x % 4294967296).toNat ^^^ (y % 4294967296).toNat : Nat) : Int) = xor32 x y := fun _ _ => rfl
  have hm : w.set b (rotl (xor32 w[b] w[c]) 20) = mD w b c 20 := by rw [mD, ← gb, ← gc]
  simp (config := {maxSteps := 1000000, maxDischargeDepth := 9, implicitDefEqProofs := false}) [c33_s3, hE.n, hE.a0, hE.a1, hE.a2, hE.a3, hE.a4, hE.a5, hE.a6, hRot, s_RotN, a1, b1, c1, d1, a2, b2, c2, d2, hw, -over, over_set, map_set, Nat.succ_le_of_lt a1, Nat.succ_le_of_lt b1, Nat.succ_le_of_lt c1, Nat.succ_le_of_lt d1, -List.map_set, modK, wC, e1, e2, hm]
  refine mix_4 cf hRot a b c d x y p t z ha hb hc hd H0 (mD w b c 20) (by simp [mD_length, hw]) _ ⟨?_, ?_, ?_, ?_, ?_, ?_, ?_, ?_⟩ <;> simp (config := {maxSteps := 1000000, maxDischargeDepth := 9, implicitDefEqProofs := false}) [hE.n, hE.a0, hE.a1, hE.a2, hE.a3, hE.a4, hE.a5, hE.a6]
theorem mix_2 (cf : ACall) (hRot : ∀ a h, cf 31 a h = s_RotN a h) (a b c d : Nat) (x y : Int) (p t z : Nat) (ha : a < 16) (hb : b < 16) (hc : c < 16) (hd : d < 16) (H0 : Heap) (w : List Int) (hw : w.length = 16) (e : Env) (hE : ME e a b c d x y p) :
    YtjdofdokdemnkaaA.Ends (execA cf 1 c33_s2 e (H0.set p (some (wC w t z)))) fun x e2 H => x = .normal ∧ H = H0.set p (some (wC (mD (mC (mD (mA (mD (mC w c d) b c 20) a b y) d a 24) c d) b c 25) t z)) := by
  have a1 : a < 16 := by omega
  have b1 : b < 16 := by omega
  have c1 : c < 16 := by omega
  have d1 : d < 16 := by omega
  have a2 : (a : Int) < 16 := by omega
  have b2 : (b : Int) < 16 := by omega
  have c2 : (c : Int) < 16 := by omega
  have d2 : (d : Int) < 16 := by omega
  have ga : w[a]'(by omega) = w.getD a 0 := by rw [List.getD_eq_getElem?_getD, List.getElem?_eq_getElem (by omega)]; rfl
  have gb : w[b]'(by omega) = w.getD b 0 := by rw [List.getD_eq_getElem?_getD, List.getElem?_eq_getElem (by omega)]; rfl
  have gc : w[c]'(by omega) = w.getD c 0 := by rw [List.getD_eq_getElem?_getD, List.getElem?_eq_getElem (by omega)]; rfl
  have gd : w[d]'(by omega) = w.getD d 0 := by rw [List.getD_eq_getElem?_getD, List.getElem?_eq_getElem (by omega)]; rfl
  have e1 : ∀ x y, wrapF .u32 (x + y) = add32 x y := fun _ _ => rfl
  have e2 : ∀ x y : Int, wrapF .u32 (((x % 4294967296).toNat ^^^ (y % 4294967296).toNat : Nat) : Int) = xor32 x y := fun _ _ => rfl
  have hm : w.set c (add32 w[c] w[d]) = mC w c d := by rw [mC, ← gc, ← gd]
  simp (config := {maxSteps := 1000000, maxDischargeDepth := 9, implicitDefEqProofs := false}) [c33_s2, hE.n, hE.a0, hE.a1, hE.a2, hE.a3, hE.a4, hE.a5, hE.a6, hRot, s_RotN, a1, b1, c1, d1, a2, b2, c2, d2, hw, -over, over_set, map_set, Nat.succ_le_of_lt a1, Nat.succ_le_of_lt b1, Nat.succ_le_of_lt c1, Nat.succ_le_of_lt d1, -List.map_set, modK, wC, e1, e2, hm]
  refine mix_3 cf hRot a b c d x y p t z ha hb hc hd H0 (mC w c d) (by simp [mC_length, hw]) _ ⟨?_, ?_, ?_, ?_, ?_, ?_, ?_, ?_⟩ <;> simp (config := {maxSteps := 1000000, maxDischargeDepth := 9, implicitDefEqProofs := false}) [hE.n, hE.a0, hE.a1, hE.a2, hE.a3, hE.a4, hE.a5, hE.a6]
theorem mix_1 (cf : ACall) (hRot : ∀ a h, cf 31 a h = s_RotN a h) (a b c d : Nat) (x y : Int) (p t z : Nat) (ha : a < 16) (hb : b < 16) (hc : c < 16) (hd : d < 16) (H0 : Heap) (w : List Int) (hw : w.length = 16) (e : Env) (hE : ME e a b c d x y p) :
    YtjdofdokdemnkaaA.Ends (execA cf 1 c33_s1 e (H0.set p (some (wC w t z)))) fun x e2 H => x = .normal ∧ H = H0.set p (some (wC (mD (mC (mD (mA (mD (mC (mD w d a 16) c d) b c 20) a b y) d a 24) c d) b c 25) t z)) := by
  have a1 : a < 16 := by omega
  have b1 : b < 16 := by omega
  have c1 : c < 16 := by omega
  have d1 : d < 16 := by omega
  have a2 : (a : Int) < 16 := by omega
  have b2 : (b : Int) < 16 := by omega
  have c2 : (c : Int) < 16 := by omega
  have d2 : (d : Int) < 16 := by omega
  have ga : w[a]'(by omega) = w.getD a 0 := by rw [List.getD_eq_getElem?_getD, List.getElem?_eq_getElem (by omega)]; rfl
  have gb : w[b]'(by omega) = w.getD b 0 := by rw [List.getD_eq_getElem?_getD, List.getElem?_eq_getElem (by omega)]; rfl
  have gc : w[c]'(by omega) = w.getD c 0 := by rw [List.getD_eq_getElem?_getD, List.getElem?_eq_getElem (by omega)]; rfl
  have gd : w[d]'(by omega) = w.getD d 0 := by rw [List.getD_eq_getElem?_getD, List.getElem?_eq_getElem (by omega)]; rfl
  have e1 : ∀ x y, wrapF .u32 (x + y) = add32 x y := fun _ _ => rfl
  have e2 : ∀ x y : Int, wrapF .u32 (((x % 4294967296).toNat ^^^ (y % 4294967296).toNat : Nat) : Int) = xor32 x y := fun _ _ => rfl
  have hm : w.set d (rotl (xor32 w[d] w[a]) 16) = mD w d a 16 := by rw [mD, ← gd, ← ga]
  simp (config := {maxSteps := 1000000, maxDischargeDepth := 9, implicitDefEqProofs := false}) [c33_s1, hE.n, hE.a0, hE.a1, hE.a2, hE.a3, hE.a4, hE.a5, hE.a6, hRot, s_RotN, a1, b1, c1, d1, a2, b2, c2, d2, hw, -over, over_set, map_set, Nat.succ_le_of_lt a1, Nat.succ_le_of_lt b1, Nat.succ_le_of_lt c1, Nat.succ_le_of_lt d1, -List.map_set, modK, wC, e1, e2, hm]
  refine mix_2 cf hRot a b c d x y p t z ha hb hc hd H0 (mD w d a 16) (by simp [mD_length, hw]) _ ⟨?_, ?_, ?_, ?_, ?_, ?_, ?_, ?_⟩ <;> simp (config := {maxSteps := 1000000, maxDischargeDepth := 9, implicitDefEqProofs := false}) [hE.n, hE.a0, hE.a1, hE.a2, hE.a3, hE.a4, hE.a5, hE.a6]
theorem ends_then {r : Out} {K : Out → Option (V × Heap)} {F : AExit → Env → Heap → Prop} {Q : V → Heap → Prop} (hl : YtjdofdokdemnkaaA.Ends r F) (hk : ∀ x e' h', F x e' h' → Runs (K (some (x, e', h'))) Q) : Runs (K r) Q := by
  obtain ⟨x, e', h', h1, h2⟩ := hl
  rw [h1]; exact hk x e' h' h2

/-- The function within blake.press. -/
def s_mix : List V → Heap → Option (V × Heap)
  | [.int .i64 a, .int .i64 b, .int .i64 c, .int .i64 d, .int .u32 x, .int .u32 y, .ptr p 0], h => match h.get p with
    | some (.cells cs t z true) => match asK .u32 cs with
      | some v => if v.length = 16 ∧ (0 ≤ a ∧ a < 16) ∧ (0 ≤ b ∧ b < 16) ∧ (0 ≤ c ∧ c < 16) ∧ (0 ≤ d ∧ d < 16) then some (.undef, h.set p (some (.cells ((mixF v a.toNat b.toNat c.toNat d.toNat x y).map (V.int .u32)) t z true))) else none
      | none => none
    | _ => none
  | _, _ => none

theorem mix_ok (cf : ACall) (hRot : ∀ a h, cf 31 a h = s_RotN a h) : Sum cf c33 s_mix := by
  intro args h v h' hf hsc hlt hs
  unfold s_mix at hs
  split at hs
  · rename_i a b c d x y p
    split at hs
    · rename_i cs t z hg
      split at hs
      · rename_i w hw
        split at hs
        · rename_i hc
          obtain ⟨hlen, ha, hb, hc, hd⟩ := hc
          simp only [Option.some.injEq, Prod.mk.injEq] at hs
          obtain ⟨rfl, rfl⟩ := hs
          have hcs := asK_some.1 hw
          subst hcs
          obtain ⟨a, rfl⟩ : ∃ n : Nat, a = (n : Int) := ⟨a.toNat, by omega⟩
          obtain ⟨b, rfl⟩ : ∃ n : Nat, b = (n : Int) := ⟨b.toNat, by omega⟩
          obtain ⟨c, rfl⟩ : ∃ n : Nat, c = (n : Int) := ⟨c.toNat, by omega⟩
          obtain ⟨d, rfl⟩ : ∃ n : Nat, d = (n : Int) := ⟨d.toNat, by omega⟩
          have hw := hlen
          simp only [Int.toNat_natCast] at *
          have a1 : a < 16 := by omega
          have b1 : b < 16 := by omega
          have c1 : c < 16 := by omega
          have d1 : d < 16 := by omega
          have a2 : (a : Int) < 16 := by omega
          have b2 : (b : Int) < 16 := by omega
          have c2 : (c : Int) < 16 := by omega
          have d2 : (d : Int) < 16 := by omega
          have ga : w[a]'(by omega) = w.getD a 0 := by rw [List.getD_eq_getElem?_getD, List.getElem?_eq_getElem (by omega)]; rfl
          have gb : w[b]'(by omega) = w.getD b 0 := by rw [List.getD_eq_getElem?_getD, List.getElem?_eq_getElem (by omega)]; rfl
          have gc : w[c]'(by omega) = w.getD c 0 := by rw [List.getD_eq_getElem?_getD, List.getElem?_eq_getElem (by omega)]; rfl
          have gd : w[d]'(by omega) = w.getD d 0 := by rw [List.getD_eq_getElem?_getD, List.getElem?_eq_getElem (by omega)]; rfl
          have e1 : ∀ x y, wrapF .u32 (x + y) = add32 x y := fun _ _ => rfl
          have e2 : ∀ x y : Int, wrapF .u32 (((x % 4294967296).toNat ^^^ (y % 4294967296).toNat : Nat) : Int) = xor32 x y := fun _ _ => rfl
          have hm : w.set a (add32 w[a] (add32 w[b] x)) = mA w a b x := by rw [mA, ← ga, ← gb]
          refine ⟨1, ?_⟩
          simp (config := {maxSteps := 1000000, maxDischargeDepth := 9, implicitDefEqProofs := false}) [c33, hg, hRot, s_RotN, a1, b1, c1, d1, a2, b2, c2, d2, hw, -over, over_set, map_set, Nat.succ_le_of_lt a1, Nat.succ_le_of_lt b1, Nat.succ_le_of_lt c1, Nat.succ_le_of_lt d1, -List.map_set, modK, e1, e2, hm]
          refine ends_then (K := fun r => finS _ r) (mix_1 cf hRot a b c d x y p t z a1 b1 c1 d1 h (mA w a b x) (by simp [mA_length, hw]) _ ⟨?_, ?_, ?_, ?_, ?_, ?_, ?_, ?_⟩) ?_
          iterate 8 simp (config := {maxSteps := 1000000, maxDischargeDepth := 9, implicitDefEqProofs := false})
          rintro x' e' H ⟨rfl, rfl⟩
          simp (config := {maxSteps := 1000000, maxDischargeDepth := 9, implicitDefEqProofs := false})
          exact Canon.self rfl (hf.setS hg) (hsc.setFlat (flat_ints _ _)) (by simp only [V.undef, V.lt, ltL])
        · cases hs
      · cases hs
    · cases hs
  · cases hs

/-- The words of a block. -/
def getW (s : List Nat) (i : Nat) : Int := wrapF .u32 (getU (s.drop (4 * i)) 4)
def mW (s : List Nat) : Nat → List Int
  | 0 => List.replicate 16 0
  | i + 1 => (mW s i).set i (getW s i)
theorem mW_length (s : List Nat) : ∀ i, (mW s i).length = 16
  | 0 => by simp [mW]
  | i + 1 => by simp [mW, mW_length s i]
def sgN (r j : Nat) : Nat := (sigmaL r).getD j 0
theorem sgN_lt (r j : Nat) (hj : j < 16) : sgN r j < 16 := (sigmaL_all r).2 j hj
def rowsA (v m : List Int) (r : Nat) : Nat → List Int
  | 0 => v
  | i + 1 => mixF (rowsA v m r i) i (4 + i) (8 + i) (12 + i) (m.getD (sgN r (2 * i)) 0) (m.getD (sgN r (2 * i + 1)) 0)
def rowsC (v m : List Int) (r : Nat) : Nat → List Int
  | 0 => v
  | i + 1 => mixF (rowsC v m r i) i (4 + (i + 1) % 4) (8 + (i + 2) % 4) (12 + (i + 3) % 4) (m.getD (sgN r (8 + 2 * i)) 0) (m.getD (sgN r (9 + 2 * i)) 0)
theorem rowsA_length (v m : List Int) (r : Nat) : ∀ i, (rowsA v m r i).length = v.length
  | 0 => rfl
  | i + 1 => by simp only [rowsA, mixF_length, rowsA_length v m r i]
theorem rowsC_length (v m : List Int) (r : Nat) : ∀ i, (rowsC v m r i).length = v.length
  | 0 => rfl
  | i + 1 => by simp only [rowsC, mixF_length, rowsC_length v m r i]
def roundB (v m : List Int) (r : Nat) : List Int := rowsC (rowsA v m r 4) m r 4
def roundsB (v m : List Int) : Nat → List Int
  | 0 => v
  | i + 1 => roundB (roundsB v m i) m i
theorem roundsB_length (v m : List Int) : ∀ i, (roundsB v m i).length = v.length
  | 0 => rfl
  | i + 1 => by simp only [roundsB, roundB, rowsC_length, rowsA_length, roundsB_length v m i]
def endB (hb v : List Int) : Nat → List Int
  | 0 => hb
  | i + 1 => (endB hb v i).set i (xor32 ((endB hb v i).getD i 0) (xor32 (v.getD i 0) (v.getD (i + 8) 0)))
theorem endB_length (hb v : List Int) : ∀ i, (endB hb v i).length = hb.length
  | 0 => rfl
  | i + 1 => by simp only [endB, List.length_set, endB_length hb v i]
def not32 (x : Int) : Int := xor32 4294967295 x
/-- The words that a block's rounds begin with. -/
def vInit (hb : List Int) (t : Int) (last : Bool) : List Int :=
  let v1 := hb ++ ivL
  let v2 := v1.set 12 (xor32 (v1.getD 12 0) (wrapF .u32 t))
  let v3 := v2.set 13 (xor32 (v2.getD 13 0) (wrapF .u32 (t / 4294967296)))
  if last then v3.set 14 (not32 (v3.getD 14 0)) else v3
def pressF (hb : List Int) (s : List Nat) (t : Int) (last : Bool) : List Int := endB hb (roundsB (vInit hb t last) (mW s 16) 10) 8
theorem pressF_length (hb : List Int) (s : List Nat) (t : Int) (last : Bool) : (pressF hb s t last).length = hb.length := endB_length _ _ _
theorem ivL_length : ivL.length = 8 := rfl
theorem vInit_length (hb : List Int) (t : Int) (last : Bool) (h : hb.length = 8) : (vInit hb t last).length = 16 := by
  unfold vInit
  cases last <;> simp [h, ivL_length]

/-- Memory within a block's pressing. -/
structure GP (h : Heap) (hb m v : List Int) (H : Heap) : Prop where
  ext : Ext h H
  fresh : Fresh H
  next : h.next + 4 ≤ H.next
  g0 : H.get h.next = some (.cells (hb.map (V.int .u32)) 54 1 true)
  g1 : H.get (h.next + 1) = some (.cells (List.replicate 8 (.int .u32 0)) 54 1 true)
  g2 : H.get (h.next + 2) = some (.cells (m.map (V.int .u32)) 46 1 true)
  g3 : H.get (h.next + 3) = some (.cells (v.map (V.int .u32)) 46 1 true)
theorem GP.new {h H : Heap} {hb m v : List Int} (g : GP h hb m v H) (B : Blk) : GP h hb m v (H.new B) := by
  have := g.next
  refine ⟨g.ext.trans_new _, g.fresh.new _, by simp; omega, ?_, ?_, ?_, ?_⟩
  · rw [Heap.get_new, if_neg (by omega)]; exact g.g0
  · rw [Heap.get_new, if_neg (by omega)]; exact g.g1
  · rw [Heap.get_new, if_neg (by omega)]; exact g.g2
  · rw [Heap.get_new, if_neg (by omega)]; exact g.g3
theorem GP.setV {h H : Heap} {hb m v : List Int} (g : GP h hb m v H) (w : List Int) : GP h hb m w (H.set (h.next + 3) (some (.cells (w.map (V.int .u32)) 46 1 true))) := by
  have := g.next
  refine ⟨g.ext.trans_set (by omega) _, g.fresh.set (by omega) _, by simp; omega, ?_, ?_, ?_, ?_⟩
  · rw [Heap.get_set, if_neg (by omega)]; exact g.g0
  · rw [Heap.get_set, if_neg (by omega)]; exact g.g1
  · rw [Heap.get_set, if_neg (by omega)]; exact g.g2
  · rw [Heap.get_set, if_pos rfl]
theorem GP.setM {h H : Heap} {hb m v : List Int} (g : GP h hb m v H) (w : List Int) : GP h hb w v (H.set (h.next + 2) (some (.cells (w.map (V.int .u32)) 46 1 true))) := by
  have := g.next
  refine ⟨g.ext.trans_set (by omega) _, g.fresh.set (by omega) _, by simp; omega, ?_, ?_, ?_, ?_⟩
  · rw [Heap.get_set, if_neg (by omega)]; exact g.g0
  · rw [Heap.get_set, if_neg (by omega)]; exact g.g1
  · rw [Heap.get_set, if_pos rfl]
  · rw [Heap.get_set, if_neg (by omega)]; exact g.g3
theorem GP.setH {h H : Heap} {hb m v : List Int} (g : GP h hb m v H) (w : List Int) : GP h w m v (H.set h.next (some (.cells (w.map (V.int .u32)) 54 1 true))) := by
  have := g.next
  refine ⟨g.ext.trans_set (Nat.le_refl _) _, g.fresh.set (by omega) _, by simp; omega, ?_, ?_, ?_, ?_⟩
  · rw [Heap.get_set, if_pos rfl]
  · rw [Heap.get_set, if_neg (by omega)]; exact g.g1
  · rw [Heap.get_set, if_neg (by omega)]; exact g.g2
  · rw [Heap.get_set, if_neg (by omega)]; exact g.g3

theorem sig_nth (r j : Nat) (hj : j < 16) : nth (sigV r) j = some (V.int .i64 ((sgN r j : Nat) : Int)) := by
  rw [nth_eq]
  unfold sigV sgN
  rw [List.getElem?_map, List.getD_eq_getElem?_getD, List.getElem?_eq_getElem (by rw [(sigmaL_all r).1]; exact hj)]
  rfl
theorem sigV_length (r : Nat) : (sigV r).length = 16 := by unfold sigV; rw [List.length_map, (sigmaL_all r).1]

theorem press_in1 (cf : ACall) (hMix : ∀ a h, cf 33 a h = s_mix a h) (h : Heap) (hb m v : List Int) (r q : Nat) (hv : v.length = 16) (hm : m.length = 16) (hq : h.next + 4 ≤ q) : ∀ e H0, e.n = 142 → e.at 13 = .func 33 [] [.ptr (h.next + 3) 0] → e.at 15 = .ptr q 0 → e.at 9 = .ptr (h.next + 2) 0 → e.at 64 = .int .i64 0 → GP h hb m v H0 → H0.get q = some (.cells (sigV r) 66 1 true) →
    YtjdofdokdemnkaaA.Ends (execA cf 20 (.loop c28_l2) e H0) fun x e' H => x = .exit 4 ∧ GP h hb m (rowsA v m r 4) H ∧ H.get q = some (.cells (sigV r) 66 1 true) := by
  intro e H0 hn h13 h15 h9 h64 hG0 hq0
  refine loop_count (cf := cf) (N := 20) (c := c28_l2) 4
    (fun i e H => e.n = 142 ∧ e.at 13 = .func 33 [] [.ptr (h.next + 3) 0] ∧ e.at 15 = .ptr q 0 ∧ e.at 9 = .ptr (h.next + 2) 0 ∧ e.at 64 = .int .i64 (i : Int) ∧ GP h hb m (rowsA v m r i) H ∧ H.get q = some (.cells (sigV r) 66 1 true))
    (fun x e' H => x = .exit 4 ∧ GP h hb m (rowsA v m r 4) H ∧ H.get q = some (.cells (sigV r) 66 1 true)) ?_ ?_ 0 e _ (Nat.zero_le _) ⟨hn, h13, h15, h9, h64, hG0, hq0⟩ (by omega)
  · rintro i e H hi ⟨hn, h13, h15, h9, h64, hG, hq0⟩
    have g3 := hG.g3
    have g2 := hG.g2
    have hl := rowsA_length v m r i
    rw [hv] at hl
    have hr : rowsA v m r (i + 1) = mixF (rowsA v m r i) i (4 + i) (8 + i) (12 + i) (m.getD (sgN r (2 * i)) 0) (m.getD (sgN r (2 * i + 1)) 0) := rfl
    have s1 := sig_nth r (2 * i) (by omega)
    have s2 := sig_nth r (2 * i + 1) (by omega)
    have l1 := sgN_lt r (2 * i) (by omega)
    have l2 := sgN_lt r (2 * i + 1) (by omega)
    have hset := hG.setV
    have hq3 : (q = h.next + 3) = False := by simp; omega
    generalize rowsA v m r i = vi at *
    generalize rowsA v m r (i + 1) = vj at *
    obtain ⟨a1, ha1⟩ : ∃ a, a = sgN r (2 * i) := ⟨_, rfl⟩
    obtain ⟨a2, ha2⟩ : ∃ a, a = sgN r (2 * i + 1) := ⟨_, rfl⟩
    rw [← ha1] at s1 l1 hr
    rw [← ha2] at s2 l2 hr
    have m1 : m[a1]'(by omega) = m.getD a1 0 := by rw [List.getD_eq_getElem?_getD, List.getElem?_eq_getElem (by omega)]; rfl
    have m2 : m[a2]'(by omega) = m.getD a2 0 := by rw [List.getD_eq_getElem?_getD, List.getElem?_eq_getElem (by omega)]; rfl
    rw [← m1, ← m2] at hr
    subst hr
    have l1' : (a1 : Int) < 16 := by omega
    have l2' : (a2 : Int) < 16 := by omega
    have hii : i = 0 ∨ i = 1 ∨ i = 2 ∨ i = 3 := by omega
    rcases hii with rfl | rfl | rfl | rfl <;>
      (simp (config := {maxSteps := 1000000, maxDischargeDepth := 9, implicitDefEqProofs := false}) [c28_l2, hn, h13, h15, h9, h64, g2, g3, hq0, s1, s2, l1, l2, l1', l2', hMix, s_mix, hl, hm, hq3, sigV_length]
       exact hset _)
  · rintro e H ⟨hn, h13, h15, h9, h64, hG, hq0⟩
    simp (config := {maxSteps := 1000000, maxDischargeDepth := 9, implicitDefEqProofs := false}) [c28_l2, hn, h64]
    exact ⟨hG, hq0⟩

theorem press_in2 (cf : ACall) (hMix : ∀ a h, cf 33 a h = s_mix a h) (h : Heap) (hb m v : List Int) (r q : Nat) (hv : v.length = 16) (hm : m.length = 16) (hq : h.next + 4 ≤ q) : ∀ e H0, e.n = 142 → e.at 13 = .func 33 [] [.ptr (h.next + 3) 0] → e.at 15 = .ptr q 0 → e.at 9 = .ptr (h.next + 2) 0 → e.at 90 = .int .i64 0 → GP h hb m v H0 → H0.get q = some (.cells (sigV r) 66 1 true) →
    YtjdofdokdemnkaaA.Ends (execA cf 20 (.loop c28_l3) e H0) fun x e' H => x = .exit 6 ∧ GP h hb m (rowsC v m r 4) H ∧ H.get q = some (.cells (sigV r) 66 1 true) := by
  intro e H0 hn h13 h15 h9 h90 hG0 hq0
  refine loop_count (cf := cf) (N := 20) (c := c28_l3) 4
    (fun i e H => e.n = 142 ∧ e.at 13 = .func 33 [] [.ptr (h.next + 3) 0] ∧ e.at 15 = .ptr q 0 ∧ e.at 9 = .ptr (h.next + 2) 0 ∧ e.at 90 = .int .i64 (i : Int) ∧ GP h hb m (rowsC v m r i) H ∧ H.get q = some (.cells (sigV r) 66 1 true))
    (fun x e' H => x = .exit 6 ∧ GP h hb m (rowsC v m r 4) H ∧ H.get q = some (.cells (sigV r) 66 1 true)) ?_ ?_ 0 e _ (Nat.zero_le _) ⟨hn, h13, h15, h9, h90, hG0, hq0⟩ (by omega)
  · rintro i e H hi ⟨hn, h13, h15, h9, h90, hG, hq0⟩
    have g3 := hG.g3
    have g2 := hG.g2
    have hl := rowsC_length v m r i
    rw [hv] at hl
    have hr : rowsC v m r (i + 1) = mixF (rowsC v m r i) i (4 + (i + 1) % 4) (8 + (i + 2) % 4) (12 + (i + 3) % 4) (m.getD (sgN r (8 + 2 * i)) 0) (m.getD (sgN r (9 + 2 * i)) 0) := rfl
    have s1 := sig_nth r (8 + 2 * i) (by omega)
    have s2 := sig_nth r (9 + 2 * i) (by omega)
    have l1 := sgN_lt r (8 + 2 * i) (by omega)
    have l2 := sgN_lt r (9 + 2 * i) (by omega)
    have hset := hG.setV
    have hq3 : (q = h.next + 3) = False := by simp; omega
    generalize rowsC v m r i = vi at *
    generalize rowsC v m r (i + 1) = vj at *
    obtain ⟨a1, ha1⟩ : ∃ a, a = sgN r (8 + 2 * i) := ⟨_, rfl⟩
    obtain ⟨a2, ha2⟩ : ∃ a, a = sgN r (9 + 2 * i) := ⟨_, rfl⟩
    rw [← ha1] at s1 l1 hr
    rw [← ha2] at s2 l2 hr
    have m1 : m[a1]'(by omega) = m.getD a1 0 := by rw [List.getD_eq_getElem?_getD, List.getElem?_eq_getElem (by omega)]; rfl
    have m2 : m[a2]'(by omega) = m.getD a2 0 := by rw [List.getD_eq_getElem?_getD, List.getElem?_eq_getElem (by omega)]; rfl
    rw [← m1, ← m2] at hr
    subst hr
    have l1' : (a1 : Int) < 16 := by omega
    have l2' : (a2 : Int) < 16 := by omega
    have hii : i = 0 ∨ i = 1 ∨ i = 2 ∨ i = 3 := by omega
    rcases hii with rfl | rfl | rfl | rfl <;>
      (simp (config := {maxSteps := 1000000, maxDischargeDepth := 9, implicitDefEqProofs := false}) [c28_l3, hn, h13, h15, h9, h90, g2, g3, hq0, s1, s2, l1, l2, l1', l2', hMix, s_mix, hl, hm, hq3, sigV_length]
       exact hset _)
  · rintro e H ⟨hn, h13, h15, h9, h90, hG, hq0⟩
    simp (config := {maxSteps := 1000000, maxDischargeDepth := 9, implicitDefEqProofs := false}) [c28_l3, hn, h90]
    exact ⟨hG, hq0⟩

theorem press_outer (cf : ACall) (hMix : ∀ a h, cf 33 a h = s_mix a h) (hSig : ∀ a h, cf 34 a h = s_sigma a h) (h : Heap) (hb m v : List Int) (hv : v.length = 16) (hm : m.length = 16) : ∀ e H0, e.n = 142 → e.at 13 = .func 33 [] [.ptr (h.next + 3) 0] → e.at 9 = .ptr (h.next + 2) 0 → e.at 59 = .int .i64 0 → GP h hb m v H0 →
    YtjdofdokdemnkaaA.Ends (execA cf 20 (.loop c28_l1) e H0) fun x e' H => x = .exit 2 ∧ GP h hb m (roundsB v m 10) H := by
  intro e H0 hn h13 h9 h59 hG0
  refine loop_count (cf := cf) (N := 20) (c := c28_l1) 10
    (fun i e H => e.n = 142 ∧ e.at 13 = .func 33 [] [.ptr (h.next + 3) 0] ∧ e.at 9 = .ptr (h.next + 2) 0 ∧ e.at 59 = .int .i64 (i : Int) ∧ GP h hb m (roundsB v m i) H)
    (fun x e' H => x = .exit 2 ∧ GP h hb m (roundsB v m 10) H) ?_ ?_ 0 e _ (Nat.zero_le _) ⟨hn, h13, h9, h59, hG0⟩ (by omega)
  · rintro i e H hi ⟨hn, h13, h9, h59, hG⟩
    have hl := roundsB_length v m i
    rw [hv] at hl
    have hl1 := rowsA_length (roundsB v m i) m i 4
    rw [hl] at hl1
    have hr : roundsB v m (i + 1) = rowsC (rowsA (roundsB v m i) m i 4) m i 4 := rfl
    have hsl := sigV_length i
    have hst : (sigV i).take 16 = sigV i := List.take_of_length_le (by omega)
    have hone : ((sigV i).all V.one) = true := by
      unfold sigV
      rw [List.all_map]
      exact List.all_eq_true.2 fun x _ => rfl
    have hov : over (List.replicate 16 (V.int .i64 0)) 0 (sigV i) = sigV i := by
      unfold over
      rw [hsl]
      simp
    have hnx := hG.next
    simp (config := {maxSteps := 1000000, maxDischargeDepth := 9, implicitDefEqProofs := false}) [c28_l1, hn, h13, h9, h59, show (i : Int) < 10 from by omega, hSig, s_sigma, hsl, hst, hone, -over, hov]
    refine loop_in (K := fun r => seqS _ _ _ (blockS _ (seqS _ _ _ (blockS _ r)))) (press_in1 cf hMix h hb m (roundsB v m i) i H.next hl hm hnx _ _ ?_ ?_ ?_ ?_ ?_ (hG.new _) ?_) ?_
    · simp (config := {maxSteps := 1000000, maxDischargeDepth := 9, implicitDefEqProofs := false}) [hn]
    · simp (config := {maxSteps := 1000000, maxDischargeDepth := 9, implicitDefEqProofs := false}) [hn, h13]
    · simp (config := {maxSteps := 1000000, maxDischargeDepth := 9, implicitDefEqProofs := false}) [hn]
    · simp (config := {maxSteps := 1000000, maxDischargeDepth := 9, implicitDefEqProofs := false}) [hn, h9]
    · simp (config := {maxSteps := 1000000, maxDischargeDepth := 9, implicitDefEqProofs := false}) [hn]
    · simp (config := {maxSteps := 1000000, maxDischargeDepth := 9, implicitDefEqProofs := false}) [hsl, hst]
    · rintro x H2 ⟨rfl, hG2, hq2⟩
      simp (config := {maxSteps := 1000000, maxDischargeDepth := 9, implicitDefEqProofs := false}) [hn]
      refine loop_in (K := fun r => seqS _ _ _ (blockS _ (blockS _ r))) (press_in2 cf hMix h hb m (rowsA (roundsB v m i) m i 4) i H.next hl1 hm hnx _ _ ?_ ?_ ?_ ?_ ?_ hG2 hq2) ?_
      · simp (config := {maxSteps := 1000000, maxDischargeDepth := 9, implicitDefEqProofs := false}) [hn]
      · simp (config := {maxSteps := 1000000, maxDischargeDepth := 9, implicitDefEqProofs := false}) [hn, h13, c28_l2_wr]
      · simp (config := {maxSteps := 1000000, maxDischargeDepth := 9, implicitDefEqProofs := false}) [hn, c28_l2_wr]
      · simp (config := {maxSteps := 1000000, maxDischargeDepth := 9, implicitDefEqProofs := false}) [hn, h9, c28_l2_wr]
      · simp (config := {maxSteps := 1000000, maxDischargeDepth := 9, implicitDefEqProofs := false}) [hn]
      · rintro x H3 ⟨rfl, hG3, hq3⟩
        simp (config := {maxSteps := 1000000, maxDischargeDepth := 9, implicitDefEqProofs := false}) [hn, h13, h9, h59, c28_l2_wr, c28_l3_wr, wrap_i64 (x := (i : Int) + 1) (by omega) (by omega)]
        rw [hr]; exact hG3
  · rintro e H ⟨hn, h13, h9, h59, hG⟩
    simp (config := {maxSteps := 1000000, maxDischargeDepth := 9, implicitDefEqProofs := false}) [c28_l1, hn, h59]
    exact hG

theorem press_last (cf : ACall) (h : Heap) (hb m v : List Int) (hv : v.length = 16) (hl : hb.length = 8) : ∀ e H0, e.n = 142 → e.at 4 = .ptr h.next 0 → e.at 10 = .ptr (h.next + 3) 0 → e.at 124 = .int .i64 0 → GP h hb m v H0 →
    YtjdofdokdemnkaaA.Ends (execA cf 20 (.loop c28_l4) e H0) fun x e' H => x = .exit 8 ∧ GP h (endB hb v 8) m v H := by
  intro e H0 hn h4 h10 h124 hG0
  refine loop_count (cf := cf) (N := 20) (c := c28_l4) 8
    (fun i e H => e.n = 142 ∧ e.at 4 = .ptr h.next 0 ∧ e.at 10 = .ptr (h.next + 3) 0 ∧ e.at 124 = .int .i64 (i : Int) ∧ GP h (endB hb v i) m v H)
    (fun x e' H => x = .exit 8 ∧ GP h (endB hb v 8) m v H) ?_ ?_ 0 e _ (Nat.zero_le _) ⟨hn, h4, h10, h124, hG0⟩ (by omega)
  · rintro i e H hi ⟨hn, h4, h10, h124, hG⟩
    have g0 := hG.g0
    have g3 := hG.g3
    have hel := endB_length hb v i
    rw [hl] at hel
    have hr : endB hb v (i + 1) = (endB hb v i).set i (xor32 ((endB hb v i).getD i 0) (xor32 (v.getD i 0) (v.getD (i + 8) 0))) := rfl
    generalize endB hb v i = b at *
    have m0 : b[i]'(by omega) = b.getD i 0 := by rw [List.getD_eq_getElem?_getD, List.getElem?_eq_getElem (by omega)]; rfl
    have m1 : v[i]'(by omega) = v.getD i 0 := by rw [List.getD_eq_getElem?_getD, List.getElem?_eq_getElem (by omega)]; rfl
    have m2 : v[i + 8]'(by omega) = v.getD (i + 8) 0 := by rw [List.getD_eq_getElem?_getD, List.getElem?_eq_getElem (by omega)]; rfl
    rw [← m0, ← m1, ← m2] at hr
    have hset := hG.setH
    have e2 : ∀ x y : Int, wrapF .u32 (((x % 4294967296).toNat ^^^ (y % 4294967296).toNat : Nat) : Int) = xor32 x y := fun _ _ => rfl
    have w1 : wrapF .i64 ((i : Int) + 8) = (i : Int) + 8 := wrap_i64 (by omega) (by omega)
    have t1 : ((i : Int) + 8).toNat = i + 8 := by omega
    simp (config := {maxSteps := 1000000, maxDischargeDepth := 9, implicitDefEqProofs := false}) [c28_l4, hn, h4, h10, h124, g0, g3, hi, show (i : Int) < 8 from by omega, show i < 16 from by omega, show (i : Int) < 16 from by omega, show (i : Int) + 8 < 16 from by omega, show (0 : Int) ≤ (i : Int) + 8 from by omega, show i + 8 < 16 from by omega, w1, t1, hv, hel, modK, e2, -over, over_set, map_set, -List.map_set, Nat.succ_le_of_lt hi, wrap_i64 (x := (i : Int) + 1) (by omega) (by omega)]
    rw [hr]
    exact hset _
  · rintro e H ⟨hn, h4, h10, h124, hG⟩
    simp (config := {maxSteps := 1000000, maxDischargeDepth := 9, implicitDefEqProofs := false}) [c28_l4, hn, h124]
    exact hG

theorem press_words (cf : ACall) (hGet : ∀ a h, cf 30 a h = s_Get32 a h) (h : Heap) (hf : Fresh h) (hb v : List Int) (bv : V) (s : List Nat) (hbv : slB h bv = some s) (hs : s.length = 64) : ∀ e H0, e.n = 142 → e.at 1 = bv → e.at 9 = .ptr (h.next + 2) 0 → e.at 19 = .int .i64 0 → GP h hb (List.replicate 16 0) v H0 →
    YtjdofdokdemnkaaA.Ends (execA cf 20 (.loop c28_l0) e H0) fun x e' H => x = .exit 0 ∧ GP h hb (mW s 16) v H := by
  intro e H0 hn h1 h9 h19 hG0
  refine loop_count (cf := cf) (N := 20) (c := c28_l0) 16
    (fun i e H => e.n = 142 ∧ e.at 1 = bv ∧ e.at 9 = .ptr (h.next + 2) 0 ∧ e.at 19 = .int .i64 (i : Int) ∧ GP h hb (mW s i) v H)
    (fun x e' H => x = .exit 0 ∧ GP h hb (mW s 16) v H) ?_ ?_ 0 e _ (Nat.zero_le _) ⟨hn, h1, h9, h19, hG0⟩ (by omega)
  · rintro i e H hi ⟨hn, h1, h9, h19, hG⟩
    have g2 := hG.g2
    have hml := mW_length s i
    have hbH := slB_ext hG.ext hf hbv
    have hsl := slB_isSl hbv
    have hvl := slB_vlen hbv
    have hr : mW s (i + 1) = (mW s i).set i (getW s i) := rfl
    generalize mW s i = mi at *
    have hset := hG.setM
    have w1 : wrapF .i64 (4 * (i : Int)) = 4 * (i : Int) := wrap_i64 (by omega) (by omega)
    have t1 : (4 * (i : Int)).toNat = 4 * i := by omega
    have g3 : ¬ (((s.drop (4 * i)).length : Int) < 4) := by simp; omega
    have htk : s.take 64 = s := List.take_of_length_le (by omega)
    have hgw : wrapF .u32 (getU (s.drop (4 * i)) 4) = getW s i := rfl
    simp (config := {maxSteps := 1000000, maxDischargeDepth := 9, implicitDefEqProofs := false}) [c28_l0, hn, h1, h9, h19, g2, hi, hbH, hsl, hvl, hs, w1, t1, hGet, s_Get32, htk, g3, hgw, hml, show (i : Int) < 16 from by omega, show 4 * (i : Int) ≤ 64 from by omega, show (0 : Int) ≤ 4 * (i : Int) from by omega, show 4 * i ≤ 64 from by omega, -over, over_set, map_set, -List.map_set, Nat.succ_le_of_lt hi, wrap_i64 (x := (i : Int) + 1) (by omega) (by omega), -List.length_drop]
    rw [hr]
    exact hset _
  · rintro e H ⟨hn, h1, h9, h19, hG⟩
    simp (config := {maxSteps := 1000000, maxDischargeDepth := 9, implicitDefEqProofs := false}) [c28_l0, hn, h19]
    exact hG


theorem GP.read0 {h H : Heap} {hb m v : List Int} (g : GP h hb m v H) (hl : hb.length = 8) : H.read h.next 0 8 = some (hb.map (V.int .u32)) := by
  unfold Heap.read
  rw [if_neg (by omega), g.g0]
  simp only [Nat.zero_add]
  rw [if_pos (by simp [hl]), List.drop_zero, List.take_of_length_le (by simp [hl])]
theorem over_front (a b : List Int) (n : Nat) (hb : b.length = n) (ha : a.length = n + n) : over (a.map (V.int .u32)) 0 (b.map (V.int .u32)) = (b ++ a.drop n).map (V.int .u32) := by
  unfold over
  simp [hb, List.map_drop]
theorem over_back (a b : List Int) (n : Nat) (hb : b.length = n) (ha : a.length = n + n) : over (a.map (V.int .u32)) n (b.map (V.int .u32)) = (a.take n ++ b).map (V.int .u32) := by
  unfold over
  simp [hb, List.map_take, List.drop_eq_nil_of_le, ha]

theorem press_mid (cf : ACall) (hMix : ∀ a h, cf 33 a h = s_mix a h) (hSig : ∀ a h, cf 34 a h = s_sigma a h) (hFirst : ∀ a h, cf 27 a h = s_first a h) (h : Heap) (hb m : List Int) (t : Int) (last : Bool) (hl8 : hb.length = 8) (hm : m.length = 16) (ht0 : 0 ≤ t) :
    ∀ e H, e.n = 142 → e.at 2 = .int .u64 t → e.at 3 = .bool last → e.at 4 = .ptr h.next 0 → e.at 8 = .ptr (h.next + 1) 0 → e.at 9 = .ptr (h.next + 2) 0 → e.at 10 = .ptr (h.next + 3) 0 → GP h hb m (List.replicate 16 0) H →
    Runs (finS [.cells 8 8] (execA cf 20 c28_s3 e H)) fun v H' => v = .agg ((endB hb (roundsB (vInit hb t last) m 10) 8).map (V.int .u32)) ∧ Ext h H' := by
  intro e H hn h2 h3 h4 h8 h9 h10 hG
  have hG1 := hG.new (.cells (ivL.map (V.int .u32)) 54 1 true)
  have hnx := hG.next
  have ivl := ivL_length
  have hc1 := copy_at (c := some 16) (c' := some 8) (n := 16) (o := 0) hG1.g3 (hG1.read0 hl8) (by omega) (by omega) (by simp) (by simp [List.all_map, V.one]) (by simp [hl8])
  rw [over_front _ _ 8 hl8 (by simp)] at hc1
  have hG2 := hG1.setV (hb ++ (List.replicate 16 0).drop 8)
  have hrd : (Heap.set (H.new (.cells (ivL.map (V.int .u32)) 54 1 true)) (h.next + 3) (some (.cells ((hb ++ (List.replicate 16 0).drop 8).map (V.int .u32)) 46 1 true))).read H.next 0 8 = some (ivL.map (V.int .u32)) := by
    unfold Heap.read
    rw [if_neg (by omega), Heap.get_set, if_neg (by omega), Heap.get_new, if_pos rfl]
    simp [ivL]
  have hc2 := copy_at (c := some 8) (c' := some 8) (n := 8) (o := 8) hG2.g3 hrd (by omega) (by omega) (by simp [hl8]) (by simp [List.all_map, V.one]) (by simp [ivL])
  rw [over_back _ _ 8 ivl (by simp [hl8]), List.take_left' hl8] at hc2
  have hG3 := hG2.setV (hb ++ ivL)
  simp only [Heap.set_set] at hG3 hc2
  generalize hb ++ (List.replicate 16 0).drop 8 = w1 at *
  have hv1 : (hb ++ ivL).length = 16 := by simp [hl8, ivl]
  generalize hv1q : hb ++ ivL = v1 at *
  have hov : over [V.int .u32 0, V.int .u32 0, V.int .u32 0, V.int .u32 0, V.int .u32 0, V.int .u32 0, V.int .u32 0, V.int .u32 0] 0 (ivL.map (V.int .u32)) = ivL.map (V.int .u32) := rfl
  have hs1 : ∀ (H : Heap) (b n : Nat), sliceV H 1 (.slice b 0 n (some n)) none none none = some (.slice b 0 n (some n)) := fun H b n => by simp [sliceV, bounds, maxOf, highOf, lowOf]
  have hs2 : ∀ (H : Heap) (b : Nat), sliceV H 1 (.slice b 0 16 (some 16)) (some (.int .i64 8)) none none = some (.slice b 8 8 (some 8)) := fun H b => by simp [sliceV, bounds, maxOf, highOf, lowOf, bound]
  have e2 : ∀ x y : Int, wrapF .u32 (((x % 4294967296).toNat ^^^ (y % 4294967296).toNat : Nat) : Int) = xor32 x y := fun _ _ => rfl
  have hvi : vInit hb t last = (if last then ((v1.set 12 (xor32 (v1.getD 12 0) (wrapF .u32 t))).set 13 (xor32 ((v1.set 12 (xor32 (v1.getD 12 0) (wrapF .u32 t))).getD 13 0) (wrapF .u32 (t / 4294967296)))).set 14 (not32 (((v1.set 12 (xor32 (v1.getD 12 0) (wrapF .u32 t))).set 13 (xor32 ((v1.set 12 (xor32 (v1.getD 12 0) (wrapF .u32 t))).getD 13 0) (wrapF .u32 (t / 4294967296)))).getD 14 0)) else (v1.set 12 (xor32 (v1.getD 12 0) (wrapF .u32 t))).set 13 (xor32 ((v1.set 12 (xor32 (v1.getD 12 0) (wrapF .u32 t))).getD 13 0) (wrapF .u32 (t / 4294967296)))) := by
    unfold vInit
    rw [hv1q]
  have m1 : v1[12]'(by omega) = v1.getD 12 0 := by rw [List.getD_eq_getElem?_getD, List.getElem?_eq_getElem (by omega)]; rfl
  rw [← m1] at hvi
  obtain ⟨v2, hv2⟩ : ∃ v2, v2 = v1.set 12 (xor32 (v1[12]'(by omega)) (wrapF .u32 t)) := ⟨_, rfl⟩
  rw [← hv2] at hvi
  have hv2l : v2.length = 16 := by rw [hv2]; simp [hv1]
  have m2 : v2[13]'(by omega) = v2.getD 13 0 := by rw [List.getD_eq_getElem?_getD, List.getElem?_eq_getElem (by omega)]; rfl
  rw [← m2] at hvi
  obtain ⟨v3, hv3⟩ : ∃ v3, v3 = v2.set 13 (xor32 (v2[13]'(by omega)) (wrapF .u32 (t / 4294967296))) := ⟨_, rfl⟩
  rw [← hv3] at hvi
  have hv3l : v3.length = 16 := by rw [hv3]; simp [hv2l]
  have m3 : v3[14]'(by omega) = v3.getD 14 0 := by rw [List.getD_eq_getElem?_getD, List.getElem?_eq_getElem (by omega)]; rfl
  rw [← m3] at hvi
  obtain ⟨v4, hv4⟩ : ∃ v4, v4 = v3.set 14 (not32 (v3[14]'(by omega))) := ⟨_, rfl⟩
  rw [← hv4] at hvi
  have hv4l : v4.length = 16 := by rw [hv4]; simp [hv3l]
  have hfd : t.fdiv 4294967296 = t / 4294967296 := Int.fdiv_eq_ediv_of_nonneg _ (by omega)
  have hun : ∀ (x : Int) (H : Heap), unS .xor (.int .u32 x) H = some (.int .u32 (not32 x), H) := fun _ _ => rfl
  have hG4 := hG3.setV v3
  have hG5 := hG3.setV v4
  simp only [Heap.set_set] at hG4 hG5
  have fin : ∀ (vv : List Int) (e : Env) (H : Heap), vv.length = 16 → e.n = 142 → e.at 4 = .ptr h.next 0 → e.at 8 = .ptr (h.next + 1) 0 → e.at 9 = .ptr (h.next + 2) 0 → e.at 10 = .ptr (h.next + 3) 0 → GP h hb m vv H →
      Runs (finS [.cells 8 8] (execA cf 20 c28_s9 e H)) fun v H' => v = .agg ((endB hb (roundsB vv m 10) 8).map (V.int .u32)) ∧ Ext h H' := by
    intro vv e H hvv hn h4 h8 h9 h10 hG
    simp (config := {maxSteps := 1000000, maxDischargeDepth := 9, implicitDefEqProofs := false}) [c28_s9, hn, h4, h8, h9, h10]
    refine loop_thenE (K := fun r => finS _ (seqS _ _ _ (blockS _ r))) (press_outer cf hMix hSig h hb m vv hvv hm _ _ ?_ ?_ ?_ ?_ hG) ?_
    · simp (config := {maxSteps := 1000000, maxDischargeDepth := 9, implicitDefEqProofs := false}) [hn]
    · simp (config := {maxSteps := 1000000, maxDischargeDepth := 9, implicitDefEqProofs := false}) [hn]
    · simp (config := {maxSteps := 1000000, maxDischargeDepth := 9, implicitDefEqProofs := false}) [hn, h9]
    · simp (config := {maxSteps := 1000000, maxDischargeDepth := 9, implicitDefEqProofs := false}) [hn]
    · rintro x H2 ⟨rfl, hGa⟩
      simp (config := {maxSteps := 1000000, maxDischargeDepth := 9, implicitDefEqProofs := false}) [hn, h4, h8, h10, c28_l1_wr]
      refine loop_thenE (K := fun r => finS _ (seqS _ _ _ (blockS _ r))) (press_last cf h hb m (roundsB vv m 10) (by rw [roundsB_length, hvv]) hl8 _ _ ?_ ?_ ?_ ?_ hGa) ?_
      · simp (config := {maxSteps := 1000000, maxDischargeDepth := 9, implicitDefEqProofs := false}) [hn]
      · simp (config := {maxSteps := 1000000, maxDischargeDepth := 9, implicitDefEqProofs := false}) [hn, h4, c28_l1_wr]
      · simp (config := {maxSteps := 1000000, maxDischargeDepth := 9, implicitDefEqProofs := false}) [hn, h10, c28_l1_wr]
      · simp (config := {maxSteps := 1000000, maxDischargeDepth := 9, implicitDefEqProofs := false}) [hn]
      · rintro x H3 ⟨rfl, hGb⟩
        have g0 := hGb.g0
        have g1 := hGb.g1
        have hel := endB_length hb (roundsB vv m 10) 8
        rw [hl8] at hel
        have hnx := hGb.next
        generalize endB hb (roundsB vv m 10) 8 = out at *
        have htk : (out.map (V.int .u32)).take 8 = out.map (V.int .u32) := List.take_of_length_le (by simp [hel])
        have hov2 : over [V.int .u32 0, V.int .u32 0, V.int .u32 0, V.int .u32 0, V.int .u32 0, V.int .u32 0, V.int .u32 0, V.int .u32 0] 0 (out.map (V.int .u32)) = out.map (V.int .u32) := by
          unfold over; simp [hel]
        simp (config := {maxSteps := 1000000, maxDischargeDepth := 9, implicitDefEqProofs := false}) [hn, h4, h8, c28_l1_wr, c28_l4_wr, g0, g1, hel, htk, -over, hov2, mem_ints_one, -List.map_take]
        exact hGb.ext.trans_set (by omega) _
  cases last
  · simp (config := {maxSteps := 1000000, maxDischargeDepth := 9, implicitDefEqProofs := false}) [c28_s3, hn, h2, h3, h4, h8, h9, h10, hFirst, s_first, ivl, hc1, hc2, -over, mem_ints_one, hov, hs1, hs2, hv1, hv2l, hv3l, modK, e2, over_set, map_set, -List.map_set, ← hv2, ← hv3, hfd]
    rw [hvi]
    simp only [Bool.false_eq_true, if_false]
    refine fin v3 _ _ hv3l ?_ ?_ ?_ ?_ ?_ hG4 <;> simp (config := {maxSteps := 1000000, maxDischargeDepth := 9, implicitDefEqProofs := false}) [hn, h4, h8, h9, h10]
  · simp (config := {maxSteps := 1000000, maxDischargeDepth := 9, implicitDefEqProofs := false}) [c28_s3, hn, h2, h3, h4, h8, h9, h10, hFirst, s_first, ivl, hc1, hc2, -over, mem_ints_one, hov, hs1, hs2, hv1, hv2l, hv3l, modK, e2, over_set, map_set, -List.map_set, ← hv2, ← hv3, ← hv4, hfd, hun]
    rw [hvi]
    simp only [if_true]
    refine fin v4 _ _ hv4l ?_ ?_ ?_ ?_ ?_ hG5 <;> simp (config := {maxSteps := 1000000, maxDischargeDepth := 9, implicitDefEqProofs := false}) [hn, h4, h8, h9, h10]

/-- blake.press. -/
def s_press : List V → Heap → Option (V × Heap)
  | [.agg cs, bv, .int .u64 t, .bool last], h => match asK .u32 cs, slB h bv with
    | some hb, some s => if hb.length = 8 ∧ s.length = 64 ∧ 0 ≤ t then some (.agg ((pressF hb s t last).map (V.int .u32)), h) else none
    | _, _ => none
  | _, _ => none

theorem press_ok (cf : ACall) (hGet : ∀ a h, cf 30 a h = s_Get32 a h) (hMix : ∀ a h, cf 33 a h = s_mix a h) (hSig : ∀ a h, cf 34 a h = s_sigma a h) (hFirst : ∀ a h, cf 27 a h = s_first a h) : Sum cf c28 s_press := by
  intro args h v h' hf hsc hlt hs
  unfold s_press at hs
  split at hs
  · rename_i cs bv t last
    split at hs
    · rename_i hb s hcs hbv
      split at hs
      · rename_i hc
        obtain ⟨hl8, hs64, ht0⟩ := hc
        simp only [Option.some.injEq, Prod.mk.injEq] at hs
        obtain ⟨rfl, rfl⟩ := hs
        have hcs := asK_some.1 hcs
        subst hcs
        refine ⟨20, ?_⟩
        have hG0 : GP h hb (List.replicate 16 0) (List.replicate 16 0) ((((h.new (.cells (hb.map (V.int .u32)) 54 1 true)).new (.cells (List.replicate 8 (.int .u32 0)) 54 1 true)).new (.cells ((List.replicate 16 0).map (V.int .u32)) 46 1 true)).new (.cells ((List.replicate 16 0).map (V.int .u32)) 46 1 true)) := by
          refine ⟨?_, (((hf.new _).new _).new _).new _, by simp, ?_, ?_, ?_, ?_⟩
          · repeat (first | exact Ext.refl _ | apply Ext.trans_new)
          · simp only [Heap.get_new, Heap.next_new]; rw [if_neg (by omega), if_neg (by omega), if_neg (by omega), if_pos trivial]
          · simp only [Heap.get_new, Heap.next_new]; rw [if_neg (by omega), if_neg (by omega), if_pos trivial]
          · simp only [Heap.get_new, Heap.next_new]; rw [if_neg (by omega), if_pos trivial]
          · simp only [Heap.get_new, Heap.next_new]; rw [if_pos trivial]
        simp (config := {maxSteps := 1000000, maxDischargeDepth := 9, implicitDefEqProofs := false}) [c28, mem_ints_one, hl8]
        refine loop_thenE (K := fun r => finS _ (seqS _ _ _ (blockS _ r))) (press_words cf hGet h hf hb (List.replicate 16 0) bv s hbv hs64 _ _ ?_ ?_ ?_ ?_ hG0) ?_
        · simp (config := {maxSteps := 1000000, maxDischargeDepth := 9, implicitDefEqProofs := false})
        · simp (config := {maxSteps := 1000000, maxDischargeDepth := 9, implicitDefEqProofs := false})
        · simp (config := {maxSteps := 1000000, maxDischargeDepth := 9, implicitDefEqProofs := false})
        · simp (config := {maxSteps := 1000000, maxDischargeDepth := 9, implicitDefEqProofs := false})
        · rintro x H ⟨rfl, hG⟩
          simp (config := {maxSteps := 1000000, maxDischargeDepth := 9, implicitDefEqProofs := false})
          obtain ⟨v2, H2, q1, q2, q3⟩ := press_mid cf hMix hSig hFirst h hb (mW s 16) t last hl8 (mW_length s 16) ht0 (loopE cf 20 c28_l0 ((((((Env.init [V.agg (List.map (V.int .u32) hb), bv, V.int .u64 t, V.bool last] 142).put 4 (V.ptr h.next 0)).put 8 (V.ptr (h.next + 1) 0)).put 9 (V.ptr (h.next + 2) 0)).put 10 (V.ptr (h.next + 3) 0)).put 19 (V.int .i64 0)) ((((h.new (.cells (hb.map (V.int .u32)) 54 1 true)).new (.cells (List.replicate 8 (.int .u32 0)) 54 1 true)).new (.cells ((List.replicate 16 0).map (V.int .u32)) 46 1 true)).new (.cells ((List.replicate 16 0).map (V.int .u32)) 46 1 true))) H (by simp (config := {maxSteps := 1000000, maxDischargeDepth := 9, implicitDefEqProofs := false})) (by simp (config := {maxSteps := 1000000, maxDischargeDepth := 9, implicitDefEqProofs := false}) [c28_l0_wr]) (by simp (config := {maxSteps := 1000000, maxDischargeDepth := 9, implicitDefEqProofs := false}) [c28_l0_wr]) (by simp (config := {maxSteps := 1000000, maxDischargeDepth := 9, implicitDefEqProofs := false}) [c28_l0_wr]) (by simp (config := {maxSteps := 1000000, maxDischargeDepth := 9, implicitDefEqProofs := false}) [c28_l0_wr]) (by simp (config := {maxSteps := 1000000, maxDischargeDepth := 9, implicitDefEqProofs := false}) [c28_l0_wr]) (by simp (config := {maxSteps := 1000000, maxDischargeDepth := 9, implicitDefEqProofs := false}) [c28_l0_wr]) hG
          refine ⟨v2, H2, q1, ?_⟩
          rw [q2]
          exact Canon.keep hf hsc q3 (by simp only [V.lt]; exact ltL_mono (Nat.zero_le _) _ (flat_ints _ _))
      · cases hs
    · cases hs
  · cases hs

/-- A hash's cells. -/
def hashCells (hb : List Int) (t : Int) (v : V) : List V := hb.map (V.int .u32) ++ [.int .u64 t, v]
theorem hashCells_length {hb : List Int} (h : hb.length = 8) (t : Int) (v : V) : (hashCells hb t v).length = 10 := by simp [hashCells, h]
theorem hash_nth8 {hb : List Int} (h : hb.length = 8) (t : Int) (v : V) : nth (hashCells hb t v) 8 = some (.int .u64 t) := by
  rw [nth_eq]; unfold hashCells
  rw [List.getElem?_append_right (by simp [h])]; simp [h]
theorem hash_nth9 {hb : List Int} (h : hb.length = 8) (t : Int) (v : V) : nth (hashCells hb t v) 9 = some v := by
  rw [nth_eq]; unfold hashCells
  rw [List.getElem?_append_right (by simp [h])]; simp [h]
theorem hash_take {hb : List Int} (h : hb.length = 8) (t : Int) (v : V) : (hashCells hb t v).take 8 = hb.map (V.int .u32) := by
  unfold hashCells
  rw [List.take_append_of_le_length (by simp [h]), List.take_of_length_le (by simp [h])]
theorem hash_over9 {hb : List Int} (h : hb.length = 8) (t : Int) (v w : V) : over (hashCells hb t v) 9 [w] = hashCells hb t w := by
  unfold over hashCells
  have e1 : (hb.map (V.int .u32) ++ [.int .u64 t, v]).take 9 = hb.map (V.int .u32) ++ [.int .u64 t] := by
    rw [List.take_append]; simp [h, List.take_of_length_le]
  have e2 : (hb.map (V.int .u32) ++ [.int .u64 t, v]).drop (9 + [w].length) = [] := List.drop_eq_nil_of_le (by simp [h])
  rw [e1, e2]; simp
theorem hash_over8 {hb : List Int} (h : hb.length = 8) (t s : Int) (v : V) : over (hashCells hb t v) 8 [.int .u64 s] = hashCells hb s v := by
  unfold over hashCells
  have e1 : (hb.map (V.int .u32) ++ [.int .u64 t, v]).take 8 = hb.map (V.int .u32) := by
    rw [List.take_append_of_le_length (by simp [h]), List.take_of_length_le (by simp [h])]
  have e2 : (hb.map (V.int .u32) ++ [.int .u64 t, v]).drop (8 + [V.int .u64 s].length) = [v] := by
    rw [List.drop_append]; simp [h, List.drop_eq_nil_of_le]
  rw [e1, e2]; simp
theorem hash_over0 {hb hc : List Int} (h : hb.length = 8) (k : hc.length = 8) (t : Int) (v : V) : over (hashCells hb t v) 0 (hc.map (V.int .u32)) = hashCells hc t v := by
  unfold over hashCells
  rw [List.take_zero, List.nil_append, List.drop_append]
  simp [h, k, List.drop_eq_nil_of_le]
def h0L : List Int := ivL.set 0 (xor32 1779033703 16842784)
/-- blake.New. -/
def s_New : List V → Heap → Option (V × Heap)
  | [], h => some (.ptr h.next 0, h.new (.cells (hashCells h0L 0 .nilslice) 57 1 true))
  | _, _ => none
theorem New_ok (cf : ACall) (hFirst : ∀ a h, cf 27 a h = s_first a h) : Sum cf c16 s_New := by
  intro args h v h' hf hsc hlt hs
  unfold s_New at hs
  split at hs
  · simp only [Option.some.injEq, Prod.mk.injEq] at hs
    obtain ⟨rfl, rfl⟩ := hs
    refine ⟨1, ?_⟩
    have e2 : ∀ x y : Int, wrapF .u32 (((x % 4294967296).toNat ^^^ (y % 4294967296).toNat : Nat) : Int) = xor32 x y := fun _ _ => rfl
    simp (config := {maxSteps := 1000000, maxDischargeDepth := 9, implicitDefEqProofs := false}) [c16, hFirst, s_first, ivL, modK, e2]
    refine Canon.tail (H := h) hf hsc (Ext.refl h) (cs := hashCells h0L 0 .nilslice) ?_ ?_
    · simp only [hashCells, h0L, ivL, List.set, List.map_cons, List.map_nil, List.cons_append, List.nil_append, ltL, V.lt, and_self]
    · simp
  · cases hs

def kOf (n : Nat) : Nat := (n - 1) / 64
def stepsH (hb : List Int) (t : Int) (s : List Nat) : Nat → List Int
  | 0 => hb
  | i + 1 => pressF (stepsH hb t s i) ((s.drop (64 * i)).take 64) (t + 64 * (i : Int) + 64) false
theorem stepsH_length {hb : List Int} (t : Int) (s : List Nat) (h : hb.length = 8) : ∀ i, (stepsH hb t s i).length = 8
  | 0 => h
  | i + 1 => by simp only [stepsH, pressF_length, stepsH_length t s h i]
/-- What a hash's cells say. -/
def hashOf (cs : List V) : Option (List Int × Int × V) := match cs.drop 8 with
  | [.int .u64 t, v] => (asK .u32 (cs.take 8)).map fun hb => (hb, t, v)
  | _ => none
theorem hashOf_some {cs : List V} {hb : List Int} {t : Int} {v : V} (h : hashOf cs = some (hb, t, v)) : cs = hashCells hb t v := by
  unfold hashOf at h
  split at h
  · rename_i t' v' hd
    simp only [Option.map_eq_some_iff, Prod.mk.injEq] at h
    obtain ⟨l, hl, rfl, rfl, rfl⟩ := h
    have := asK_some.1 hl
    unfold hashCells
    rw [← this, ← hd, List.take_append_drop]
  · cases h
theorem hashOf_cells {hb : List Int} (t : Int) (v : V) (h : hb.length = 8) : hashOf (hashCells hb t v) = some (hb, t, v) := by
  unfold hashOf
  rw [hash_take h]
  have : (hashCells hb t v).drop 8 = [.int .u64 t, v] := by
    unfold hashCells
    rw [List.drop_append]; simp [h, List.drop_eq_nil_of_le]
  rw [this]
  simp [asK_map]
def big : Int := 4611686018427387904
/-- (*blake.Hash).Write. -/
def s_Write : List V → Heap → Option (V × Heap)
  | [.ptr p 0, vb], h => match h.get p with
    | some (.cells cs tt z true) => match hashOf cs with
      | some (hb, t, vr) => match slB h vr, slB h vb with
        | some r, some b => if hb.length = 8 ∧ 0 ≤ t ∧ t ≤ big ∧ (r ++ b).length ≤ lim then
            some (.undef, (h.set p (some (.cells (hashCells (stepsH hb t (r ++ b) (kOf (r ++ b).length)) (t + 64 * (kOf (r ++ b).length : Int)) (newV h ((r ++ b).drop (64 * kOf (r ++ b).length)).length)) tt z true))).new (.cells (bytesOf ((r ++ b).drop (64 * kOf (r ++ b).length))) 5 1 true)) else none
        | _, _ => none
      | none => none
    | _ => none
  | _, _ => none

theorem drop64 (s : List Nat) (i : Nat) : (s.drop (64 * i)).drop 64 = s.drop (64 * (i + 1)) := by rw [List.drop_drop]; congr 1
theorem slB_at {H : Heap} {q t o n : Nat} {c : Option Nat} {own : Bool} {all : List Nat} (hq : H.get q = some (.cells (bytesOf all) t 1 own)) (hlt : ∀ y ∈ all, y < 256) (ho : o + n ≤ all.length) (hc : c = none ∨ c = some n) : slB H (.slice q o n c) = some ((all.drop o).take n) := by
  refine slB_of ?_ (fun y hy => hlt y (List.mem_of_mem_drop (List.mem_of_mem_take hy)))
  have hw : wfS H 1 (.slice q o n c) = true := by rcases hc with rfl | rfl <;> simp [wfS, hq, bytesOf_length, ho]
  unfold sl
  rw [if_pos hw]
  simp only [rd, Nat.mul_one]
  unfold Heap.read
  by_cases hn : n = 0
  · subst hn; simp [bytesOf]
  · rw [if_neg hn, hq]
    simp only
    rw [if_pos (by rw [bytesOf_length]; exact ho)]
    simp [bytesOf, List.map_take, List.map_drop]
theorem Write_loop (cf : ACall) (hPress : ∀ a h, cf 28 a h = s_press a h) (H0 : Heap) (p q tt z : Nat) (hb : List Int) (t : Int) (all : List Nat) (hl : hb.length = 8) (ht0 : 0 ≤ t) (htb : t ≤ 4611686018427387904) (hal : all.length ≤ 140737488354304) (hlt : ∀ y ∈ all, y < 256) (hpq : p ≠ q) (hq : H0.get q = some (.cells (bytesOf all) 5 1 true)) :
    ∀ e, e.n = 52 → e.at 0 = .ptr p 0 →
    YtjdofdokdemnkaaA.Ends (execA cf (kOf all.length + 1) (.loop c19_l0) e (H0.set p (some (.cells (hashCells hb t (.slice q 0 all.length none)) tt z true)))) fun x e' H => x = .exit 0 ∧ H = H0.set p (some (.cells (hashCells (stepsH hb t all (kOf all.length)) (t + 64 * (kOf all.length : Int)) (.slice q (64 * kOf all.length) (all.length - 64 * kOf all.length) none)) tt z true)) := by
  intro e hn h0
  have hk : kOf all.length = (all.length - 1) / 64 := rfl
  refine loop_count (cf := cf) (N := kOf all.length + 1) (c := c19_l0) (kOf all.length)
    (fun i e H => e.n = 52 ∧ e.at 0 = .ptr p 0 ∧ H = H0.set p (some (.cells (hashCells (stepsH hb t all i) (t + 64 * (i : Int)) (.slice q (64 * i) (all.length - 64 * i) none)) tt z true)))
    (fun x e' H => x = .exit 0 ∧ H = H0.set p (some (.cells (hashCells (stepsH hb t all (kOf all.length)) (t + 64 * (kOf all.length : Int)) (.slice q (64 * kOf all.length) (all.length - 64 * kOf all.length) none)) tt z true))) ?_ ?_ 0 e _ (Nat.zero_le _) ⟨hn, h0, by simp [stepsH]⟩ (by omega)
  · rintro i e H hi ⟨hn, h0, rfl⟩
    have hi64 : 64 * (i + 1) + 1 ≤ all.length := by omega
    have hsl := stepsH_length t all hl i
    have hsl2 := stepsH_length t all hl (i + 1)
    have hst : stepsH hb t all (i + 1) = pressF (stepsH hb t all i) ((all.drop (64 * i)).take 64) (t + 64 * (i : Int) + 64) false := rfl
    have hpq2 : (q = p) = False := by simp; exact fun e => hpq e.symm
    have w1 : wrapF .u64 (t + 64 * (i : Int) + 64) = t + 64 * (i : Int) + 64 := wrap_u64 (by omega) (by omega)
    have e1 : t + 64 * ((i + 1 : Nat) : Int) = t + 64 * (i : Int) + 64 := by omega
    have e2 : 64 * (i + 1) = 64 * i + 64 := by omega
    have e3 : all.length - (64 * i + 64) = all.length - 64 * i - 64 := by omega
    have hgt : (64 : Int) < ((all.length - 64 * i : Nat) : Int) := by omega
    have hge : (64 : Int) ≤ ((all.length - 64 * i : Nat) : Int) := by omega
    have htl : ((all.drop (64 * i)).take 64).length = 64 := by simp; omega
    have ht2 : 0 ≤ t + 64 * (i : Int) + 64 := by omega
    generalize hsi : stepsH hb t all i = si at *
    generalize hsj : stepsH hb t all (i + 1) = sj at *
    generalize ht'' : t + 64 * (i : Int) = t1 at *
    have hn0 : (all.length - 64 * i = 0) = False := by simp; omega
    have hs1 : ∀ B, sliceV (H0.set p B) 1 (.slice q (64 * i) (all.length - 64 * i) none) none (some (.int .i64 64)) none = some (.slice q (64 * i) 64 none) := fun B => by
      simp [sliceV, hn0, Heap.get_set, hpq2, hq, bounds, maxOf, highOf, lowOf, bound, hge]
    have hs2 : ∀ B, sliceV (H0.set p B) 1 (.slice q (64 * i) (all.length - 64 * i) none) (some (.int .i64 64)) none none = some (.slice q (64 * i + 64) (all.length - 64 * i - 64) none) := fun B => by
      simp [sliceV, hn0, Heap.get_set, hpq2, hq, bounds, maxOf, highOf, lowOf, bound, hge]
    have hb1 : ∀ B, slB (H0.set p B) (.slice q (64 * i) 64 none) = some ((all.drop (64 * i)).take 64) := fun B =>
      slB_at (H := H0.set p B) (by rw [Heap.get_set, if_neg (fun e => hpq e.symm)]; exact hq) hlt (by omega) (.inl rfl)
    have hpl : (pressF si ((all.drop (64 * i)).take 64) (t1 + 64) false).length = 8 := by rw [pressF_length]; exact hsl
    rw [e1, e2, e3, hst]
    simp (config := {maxSteps := 1000000, maxDischargeDepth := 9, implicitDefEqProofs := false}) [c19_l0, hn, h0, hsl, hsl2, hash_nth9 hsl, hash_nth8 hsl, hash_take hsl, hashCells_length hsl, hgt, w1, hs1, hs2, hb1, hPress, s_press, htl, ht2, -over, hash_over8 hsl, hash_over9 hsl, hash_over0 hsl hpl, hpl, hash_nth9 hpl, hash_over9 hpl, hashCells_length hpl, mem_ints_one]
  · rintro e H ⟨hn, h0, rfl⟩
    have hsl := stepsH_length t all hl (kOf all.length)
    have hle : ¬ ((64 : Int) < ((all.length - 64 * kOf all.length : Nat) : Int)) := by omega
    simp (config := {maxSteps := 1000000, maxDischargeDepth := 9, implicitDefEqProofs := false}) [c19_l0, hn, h0, hash_nth9 hsl, hle]

theorem hash_VC {h2 : Heap} {τ : Nat → Nat × Nat} {n : Nat} (hb : List Int) (t : Int) {v v2 : V} (hv : VC h2 τ n v v2) : ∀ (i : Nat) w, (hashCells hb t v)[i]? = some w → ∃ x, (hashCells hb t v2)[i]? = some x ∧ VC h2 τ n w x := by
  intro i w hw
  unfold hashCells at hw ⊢
  by_cases hi : i < hb.length
  · rw [List.getElem?_append_left (by simpa using hi)] at hw ⊢
    refine ⟨w, hw, ?_⟩
    rw [List.getElem?_map, Option.map_eq_some_iff] at hw
    obtain ⟨x, _, rfl⟩ := hw
    exact VC.refl (n0 := 0) (fun b hb => by omega) (Nat.zero_le _) _ (by simp only [V.lt])
  · rw [List.getElem?_append_right (by simpa using hi)] at hw ⊢
    generalize i - (hb.map (V.int .u32)).length = j at *
    match j, hw with
    | 0, hw =>
      simp only [List.getElem?_cons_zero, Option.some.injEq] at hw
      subst hw
      exact ⟨_, rfl, VC.refl (n0 := 0) (fun b hb => by omega) (Nat.zero_le _) _ (by simp only [V.lt])⟩
    | 1, hw =>
      simp only [List.getElem?_cons_succ, List.getElem?_cons_zero, Option.some.injEq] at hw
      subst hw
      exact ⟨_, rfl, hv⟩
    | j + 2, hw => simp at hw
theorem Write_ok (cf : ACall) (hJoin : ∀ a h, cf 29 a h = s_Join a h) (hPress : ∀ a h, cf 28 a h = s_press a h) : Sum cf c19 s_Write := by
  intro args h v h' hf hsc hlt hs
  unfold s_Write at hs
  split at hs
  · rename_i p vb
    split at hs
    · rename_i cs tt z hg
      split at hs
      · rename_i hb t vr hho
        split at hs
        · rename_i r b hr hbb
          split at hs
          · rename_i hc
            obtain ⟨hl, ht0, htb, hlim⟩ := hc
            simp only [Option.some.injEq, Prod.mk.injEq] at hs
            obtain ⟨rfl, rfl⟩ := hs
            have hcs := hashOf_some hho
            subst hcs
            have htb : t ≤ 4611686018427387904 := htb
            have hlim' : lim = 140737488354304 := rfl
            rw [hlim'] at hlim
            have hpl := hf.lt hg
            have hvb : V.lt h.next vb := by simp only [ltL] at hlt; exact hlt.2.1
            have hvr : V.lt h.next vr := ltL_mem.1 (hsc p _ _ _ _ hg) vr (by simp [hashCells])
            have hlr := slB_lt hr
            have hlb := slB_lt hbb
            have hlall : ∀ y ∈ r ++ b, y < 256 := fun y hy => by
              rcases List.mem_append.1 hy with hy | hy
              · exact hlr y hy
              · exact hlb y hy
            have hvr1 := slB_isSl hr
            have hvb1 := slB_isSl hbb
            have oner : vr.one = true := by cases vr <;> first | rfl | (simp [isSl] at hvr1)
            have oneb : vb.one = true := by cases vb <;> first | rfl | (simp [isSl] at hvb1)
            have cr : vr.cells = [vr] := by cases vr <;> first | rfl | (simp [isSl] at hvr1)
            have cb : vb.cells = [vb] := by cases vb <;> first | rfl | (simp [isSl] at hvb1)
            have hp1 : (p = h.next + 1) = False := by simp; omega
            have hp0 : (p = h.next) = False := by simp; omega
            have hr1 : slB (h.new (.cells [vr, vb] 28 1 true)) vr = some r := by rw [slB_new _ hvr]; exact hr
            have hb1 : slB (h.new (.cells [vr, vb] 28 1 true)) vb = some b := by rw [slB_new _ hvb]; exact hbb
            have hsum : r.length + b.length = (r ++ b).length := by simp
            generalize hall : r ++ b = all at *
            have hov1 : over [V.nilslice, V.nilslice] 0 [vr] = [vr, V.nilslice] := rfl
            have hov2 : over [vr, V.nilslice] 1 [vb] = [vr, vb] := rfl
            refine ⟨kOf all.length + 1, ?_⟩
            simp (config := {maxSteps := 1000000, maxDischargeDepth := 9, implicitDefEqProofs := false}) [c19, hg, hash_nth9 hl, hash_over9 hl, hashCells_length hl, hJoin, s_Join, oner, oneb, cr, cb, hr1, hb1, hp0, hp1, hov1, hov2, hall, hsum, hlim, -over]
            have hk : kOf all.length = (all.length - 1) / 64 := rfl
            have hcomm : ∀ X, ((h.set p X).new (.cells [vr, vb] 28 1 true)).new (.cells (bytesOf all) 5 1 true) = ((h.new (.cells [vr, vb] 28 1 true)).new (.cells (bytesOf all) 5 1 true)).set p X := fun X => by
              simp (config := {maxSteps := 1000000, maxDischargeDepth := 9, implicitDefEqProofs := false}) [hp0, hp1]
            rw [hcomm]
            refine ends_then (K := fun r => finS _ (blockS _ r)) (Write_loop cf hPress ((h.new (.cells [vr, vb] 28 1 true)).new (.cells (bytesOf all) 5 1 true)) p (h.next + 1) tt z hb t all hl ht0 htb hlim hlall (by omega) ?_ _ ?_ ?_) ?_
            · rw [Heap.get_new]; exact if_pos rfl
            · simp (config := {maxSteps := 1000000, maxDischargeDepth := 9, implicitDefEqProofs := false})
            · simp (config := {maxSteps := 1000000, maxDischargeDepth := 9, implicitDefEqProofs := false})
            · rintro x e' H ⟨rfl, rfl⟩
              simp (config := {maxSteps := 1000000, maxDischargeDepth := 9, implicitDefEqProofs := false})
              refine ⟨_, Canon.mod1 (b2 := h.next + 1) (δ := 64 * kOf all.length) (nc2 := bytesOf all) (cs2 := hashCells (stepsH hb t all (kOf all.length)) (t + 64 * (kOf all.length : Int)) (.slice (h.next + 1) (64 * kOf all.length) (all.length - 64 * kOf all.length) none)) hf hsc hpl ?_ ?_ ?_ ?_ ?_ ?_ ?_ ?_ ?_ ?_⟩
              · intro b B hne hB
                have := hf.lt hB
                simp only [Heap.get_set, Heap.get_new, Heap.next_new]
                rw [if_neg hne, if_neg (by omega), if_neg (by omega)]
                exact hB
              · simp only [Heap.get_set]
                rw [if_pos trivial]
              · rw [hashCells_length (stepsH_length t all hl _), hashCells_length (stepsH_length t all hl _)]
              · refine hash_VC _ _ ?_
                simp (config := {maxSteps := 1000000, maxDischargeDepth := 9, implicitDefEqProofs := false}) [moved_at]
              · omega
              · simp only [Heap.get_set, Heap.get_new, Heap.next_new]
                rw [if_neg (by omega), if_pos trivial]
              · rw [bytesOf_length, bytesOf_length, List.length_drop]; omega
              · intro i v hi
                simp only [bytesOf, List.getElem?_map, List.getElem?_drop] at hi ⊢
                exact hi
              · exact flat_bytes _
              · simp only [V.undef, VC]
                exact ⟨[], rfl, by simp only [VCL]⟩
          · cases hs
        · cases hs
      · cases hs
    · cases hs
  · cases hs

/-- The lowest bytes of a number. -/
def putB (v : Int) (n : Nat) : List Nat := (List.range n).map fun i => (v / 2 ^ (8 * i) % 256).toNat
theorem putB_length (v : Int) (n : Nat) : (putB v n).length = n := by simp [putB]
theorem putB_lt (v : Int) (n : Nat) : ∀ y ∈ putB v n, y < 256 := by
  intro y hy
  simp only [putB, List.mem_map] at hy
  obtain ⟨i, _, rfl⟩ := hy
  have := Int.emod_nonneg (v / 2 ^ (8 * i)) (show (256 : Int) ≠ 0 by omega)
  have := Int.emod_lt_of_pos (v / 2 ^ (8 * i)) (show (0 : Int) < 256 by omega)
  omega
theorem putB_succ (v : Int) (n : Nat) : putB v (n + 1) = putB v n ++ [(v / 2 ^ (8 * n) % 256).toNat] := by simp [putB, List.range_succ]

/-- octet.put. -/
def s_put : List V → Heap → Option (V × Heap)
  | [.int .u64 v, .int .i64 n], h => if 0 ≤ n ∧ n ≤ 8 then some (newV h n.toNat, h.new (.cells (bytesOf (putB v n.toNat)) 5 1 true)) else none
  | _, _ => none

theorem put_ok (cf : ACall) : Sum cf c32 s_put := by
  intro args h v h' hf hsc hlt hs
  unfold s_put at hs
  split at hs
  · rename_i x n0
    split at hs
    · rename_i hn0
      simp only [Option.some.injEq, Prod.mk.injEq] at hs
      obtain ⟨rfl, rfl⟩ := hs
      obtain ⟨n, rfl⟩ : ∃ n : Nat, n0 = (n : Int) := ⟨n0.toNat, by omega⟩
      have hn8 : n ≤ 8 := by omega
      simp only [Int.toNat_natCast] at *
      refine ⟨n + 1, ?_⟩
      have L := loop_count (cf := cf) (N := n + 1) (c := c32_l0) n
        (fun i e H => e.n = 24 ∧ e.at 0 = .int .u64 x ∧ e.at 5 = .slice h.next 0 n (some n) ∧ e.at 10 = .int .i64 (n : Int) ∧ e.at 11 = .int .i64 (i : Int) ∧ H = h.new (.cells (bytesOf (putB x i) ++ List.replicate (n - i) (.int .u8 0)) 5 1 true))
        (fun x' e H => x' = .exit 0 ∧ e.n = 24 ∧ e.at 5 = .slice h.next 0 n (some n) ∧ H = h.new (.cells (bytesOf (putB x n)) 5 1 true))
        (by
          rintro i e H hi ⟨hn, h0, h5, h10, h11, rfl⟩
          obtain ⟨k, hk⟩ : ∃ k, n - i = k + 1 := ⟨n - i - 1, by omega⟩
          have hk2 : n - (i + 1) = k := by omega
          have hov := over_fill (bytesOf (putB x i)) (.int .u8 0) (.int .u8 (x / 2 ^ (8 * i) % 256)) k
          rw [bytesOf_length, putB_length] at hov
          have hm0 := Int.emod_nonneg (x / 2 ^ (8 * i)) (show (256 : Int) ≠ 0 by omega)
          have hb : bytesOf (putB x (i + 1)) = bytesOf (putB x i) ++ [.int .u8 (x / 2 ^ (8 * i) % 256)] := by
            rw [putB_succ, bytesOf_append]
            simp only [bytesOf, List.map_cons, List.map_nil, Int.ofNat_eq_natCast]
            rw [Int.toNat_of_nonneg hm0]
          have hsh : (8 * (i : Int)).toNat = 8 * i := by omega
          have hmin : min (8 * i) 64 = 8 * i := by omega
          have hw : wrapF .i64 (8 * (i : Int)) = 8 * (i : Int) := wrap_i64 (by omega) (by omega)
          have hfd : ∀ y : Int, y.fdiv (2 ^ (8 * i)) = y / 2 ^ (8 * i) := fun y => Int.fdiv_eq_ediv_of_nonneg _ (Int.le_of_lt (Int.pow_pos (by decide)))
          simp (config := {maxSteps := 1000000, maxDischargeDepth := 9, implicitDefEqProofs := false}) [c32_l0, hn, h0, h5, h10, h11, hi, hk, hk2, hb, hov, -over, hw, hsh, hmin, hfd, putB_length, wrap_u8_mod, show ¬ (8 * (i : Int) < 0) from by omega, wrap_i64 (x := (i : Int) + 1) (by omega) (by omega)]
          )
        (by
          rintro e H ⟨hn, h0, h5, h10, h11, rfl⟩
          simp (config := {maxSteps := 1000000, maxDischargeDepth := 9, implicitDefEqProofs := false}) [c32_l0, hn, h0, h5, h10, h11])
      simp (config := {maxSteps := 1000000, maxDischargeDepth := 9, implicitDefEqProofs := false}) [c32, show n ≤ 140737488355328 from by omega, show (n : Int) ≤ 140737488355328 from by omega]
      refine loop_then (K := fun r => finS _ (seqS _ _ _ (blockS _ r))) (L 0 _ _ (Nat.zero_le _) ?_ (Nat.lt_succ_self _)) ?_
      · simp (config := {maxSteps := 1000000, maxDischargeDepth := 9, implicitDefEqProofs := false}) [putB, bytesOf_nil]
      · rintro x e' H ⟨rfl, hn, h5, rfl⟩
        simp (config := {maxSteps := 1000000, maxDischargeDepth := 9, implicitDefEqProofs := false}) [hn, h5]
        exact Canon.made hf hsc rfl (by simp [bytesOf_length, putB_length]) (flat_bytes _)
    · cases hs
  · cases hs

/-- octet.Put32. -/
def s_Put32 : List V → Heap → Option (V × Heap)
  | [.int .u32 v], h => if 0 ≤ v ∧ v < 4294967296 then some (newV h 4, h.new (.cells (bytesOf (putB v 4)) 5 1 true)) else none
  | _, _ => none

theorem Put32_ok (cf : ACall) (hput : ∀ a h, cf 32 a h = s_put a h) : Sum cf c25 s_Put32 := by
  intro args h v h' hf hsc hlt hs
  unfold s_Put32 at hs
  split at hs
  · rename_i x
    split at hs
    · rename_i hx
      simp only [Option.some.injEq, Prod.mk.injEq] at hs
      obtain ⟨rfl, rfl⟩ := hs
      refine ⟨1, ?_⟩
      simp (config := {maxSteps := 1000000, maxDischargeDepth := 9, implicitDefEqProofs := false}) [c25, hput, s_put, wrap_u64 (x := x) (by omega) (by omega)]
      exact Canon.tail (H := h) hf hsc (Ext.refl h) (flat_bytes _) (by simp)
    · cases hs
  · cases hs

theorem copy_from {H : Heap} {p o n : Nat} {c : Option Nat} {Q : List V} {t : Nat} {vr : V} {r : List Nat} (hp : H.get p = some (.cells Q t 1 true)) (hr : slB H vr = some r) (hn : r.length ≤ n) (ho : o + r.length ≤ Q.length) :
    copyV H 1 (.slice p o n c) vr = some (.int .i64 (r.length : Int), if r = [] then H else H.set p (some (.cells (over Q o (bytesOf r)) t 1 true))) := by
  have hv := slB_vlen hr
  have hsl := slB_isSl hr
  have hrd := sl_rd (slB_sl hr).1
  cases vr with
  | nilslice =>
    have : r = [] := by simp [vlen] at hv; exact List.length_eq_zero_iff.1 hv.symm
    subst this
    simp [copyV]
  | slice b' o' n' c' =>
    have hv : n' = r.length := hv
    subst hv
    simp only [rd, Nat.mul_one] at hrd
    have hmin : min r.length n = r.length := Nat.min_eq_left hn
    simp only [copyV, hmin, Nat.mul_one, hrd]
    by_cases h0 : r = []
    · subst h0; simp
    · have : r.length ≠ 0 := fun e => h0 (List.length_eq_zero_iff.1 e)
      rw [if_neg this, if_neg h0, Heap.write_eq]
      unfold Heap.writeG
      rw [hp]
      simp only
      rw [if_pos ⟨by rw [bytesOf_length]; exact ho, bytesOf_one r⟩]
      rfl
  | _ => simp [isSl] at hsl

def outB (w : List Int) : Nat → List Nat
  | 0 => []
  | i + 1 => outB w i ++ putB (w.getD i 0) 4
theorem outB_length (w : List Int) : ∀ i, (outB w i).length = 4 * i
  | 0 => rfl
  | i + 1 => by simp [outB, outB_length w i, putB_length]; omega
theorem outB_lt (w : List Int) : ∀ i, ∀ y ∈ outB w i, y < 256
  | 0 => by simp [outB]
  | i + 1 => by
    intro y hy
    simp only [outB, List.mem_append] at hy
    rcases hy with hy | hy
    · exact outB_lt w i y hy
    · exact putB_lt _ _ y hy
theorem xor32_range (a b : Int) : 0 ≤ xor32 a b ∧ xor32 a b < 4294967296 := by
  simp only [xor32, wrap_u32_mod]; omega
theorem endB_range (hb v : List Int) (hl : hb.length = 8) : ∀ k, k ≤ 8 → ∀ j, j < k → 0 ≤ (endB hb v k).getD j 0 ∧ (endB hb v k).getD j 0 < 4294967296
  | 0, _, j, hj => by omega
  | k + 1, hk, j, hj => by
    have hel := endB_length hb v k
    simp only [endB]
    by_cases hjk : j = k
    · subst hjk
      rw [List.getD_eq_getElem?_getD, List.getElem?_set_self (by omega)]
      exact xor32_range _ _
    · rw [List.getD_eq_getElem?_getD, List.getElem?_set_ne (fun e => hjk e.symm), ← List.getD_eq_getElem?_getD]
      exact endB_range hb v hl k (by omega) j (by omega)
theorem pressF_range (hb : List Int) (s : List Nat) (t : Int) (last : Bool) (hl : hb.length = 8) : ∀ j, j < 8 → 0 ≤ (pressF hb s t last).getD j 0 ∧ (pressF hb s t last).getD j 0 < 4294967296 := endB_range _ _ hl 8 (Nat.le_refl _)

theorem putB_len4 (x : Int) : (bytesOf (putB x 4)).length = 4 := by rw [bytesOf_length, putB_length]
theorem HSum_loop (cf : ACall) (hP : ∀ a h, cf 25 a h = s_Put32 a h) (h H0 : Heap) (w : List Int) (q : Nat) (R : Blk) (hw : w.length = 8) (hr : ∀ j, j < 8 → 0 ≤ w.getD j 0 ∧ w.getD j 0 < 4294967296) (hE0 : Ext h H0) (hF0 : Fresh H0) (hq0 : h.next < q) (hq1 : q < H0.next)
    (go0 : H0.get q = some (.cells (List.replicate 32 (.int .u8 0)) 22 1 true)) (gr0 : H0.get h.next = some R) :
    ∀ e, e.n = 45 → e.at 5 = .ptr q 0 → e.at 32 = .agg (w.map (V.int .u32)) → e.at 33 = .int .i64 0 →
    YtjdofdokdemnkaaA.Ends (execA cf 20 (.loop c18_l0) e H0) fun x e' H => x = .exit 0 ∧ Ext h H ∧ Fresh H ∧ q < H.next ∧ H.get q = some (.cells (bytesOf (outB w 8)) 22 1 true) ∧ H.get h.next = some R := by
  intro e hn h5 h32 h33
  refine loop_count (cf := cf) (N := 20) (c := c18_l0) 8
    (fun i e H => e.n = 45 ∧ e.at 5 = .ptr q 0 ∧ e.at 32 = .agg (w.map (V.int .u32)) ∧ e.at 33 = .int .i64 (i : Int) ∧ Ext h H ∧ Fresh H ∧ q < H.next ∧ H.get q = some (.cells (bytesOf (outB w i) ++ List.replicate (32 - 4 * i) (.int .u8 0)) 22 1 true) ∧ H.get h.next = some R)
    (fun x e' H => x = .exit 0 ∧ Ext h H ∧ Fresh H ∧ q < H.next ∧ H.get q = some (.cells (bytesOf (outB w 8)) 22 1 true) ∧ H.get h.next = some R) ?_ ?_ 0 e _ (Nat.zero_le _) ⟨hn, h5, h32, h33, hE0, hF0, hq1, by simpa [outB, bytesOf_nil] using go0, gr0⟩ (by omega)
  · rintro i e H hi ⟨hn, h5, h32, h33, hE, hF, hqn, go, gr⟩
    have w1 : wrapF .i64 (4 * (i : Int)) = 4 * (i : Int) := wrap_i64 (by omega) (by omega)
    have t1 : (4 * (i : Int)).toNat = 4 * i := by omega
    have hxr := hr i hi
    have hgw : w.getD i 0 = w[i] := by rw [List.getD_eq_getElem?_getD, List.getElem?_eq_getElem (by omega)]; rfl
    have hout : outB w (i + 1) = outB w i ++ putB w[i] 4 := by simp only [outB, hgw]
    rw [hgw] at hxr
    generalize hx : w[i] = x at *
    have hlen := outB_length w i
    have hbl : (bytesOf (outB w i) ++ List.replicate (32 - 4 * i) (V.int .u8 0)).length = 32 := by simp [bytesOf_length, hlen]; omega
    have hsl : sliceV H 1 (.slice q 0 32 (some 32)) (some (.int .i64 (4 * (i : Int)))) none none = some (.slice q (4 * i) (32 - 4 * i) (some (32 - 4 * i))) := by
      have q1 : (0 : Int) ≤ 4 * (i : Int) := by omega
      have q2 : 4 * (i : Int) ≤ 32 := by omega
      have q3 : ¬ 32 = 4 * i := by omega
      simp [sliceV, bounds, maxOf, highOf, lowOf, bound, q1, q2, q3, t1]
    have hcopy := copy_at (h := H.new (.cells (bytesOf (putB x 4)) 5 1 true)) (p := q) (o := 4 * i) (n := 32 - 4 * i) (q := H.next) (m := 4) (c := some (32 - 4 * i)) (c' := none) (Q := bytesOf (outB w i) ++ List.replicate (32 - 4 * i) (.int .u8 0)) (cs := bytesOf (putB x 4)) (t := 22) (z := 1)
      (by rw [Heap.get_new, if_neg (by omega)]; exact go) (by rw [read_self (by rw [putB_len4]; omega), List.drop_zero, List.take_of_length_le (by rw [putB_len4]; omega)]) (by omega) (by omega) (by rw [hbl]; omega) (bytesOf_one _) (putB_len4 x)
    have hover : over (bytesOf (outB w i) ++ List.replicate (32 - 4 * i) (.int .u8 0)) (4 * i) (bytesOf (putB x 4)) = bytesOf (outB w (i + 1)) ++ List.replicate (32 - 4 * (i + 1)) (.int .u8 0) := by
      have := over_fillL (bytesOf (outB w i)) (bytesOf (putB x 4)) (.int .u8 0) (32 - 4 * (i + 1))
      rw [putB_len4, bytesOf_length, hlen, show 4 + (32 - 4 * (i + 1)) = 32 - 4 * i from by omega] at this
      rw [this, hout, bytesOf_append]
    rw [hover] at hcopy
    have hqn2 : (q = H.next) = False := by simp; omega
    simp (config := {maxSteps := 1000000, maxDischargeDepth := 9, implicitDefEqProofs := false}) [c18_l0, hn, h5, h32, h33, hi, show (i : Int) < 8 from by omega, w1, hsl, hw, hx, hP, s_Put32, hxr.1, hxr.2, hcopy, wrap_i64 (x := (i : Int) + 1) (by omega) (by omega)]
    refine ⟨(hE.trans_new _).trans_set (by omega) _, (hF.new _).set (by simp; omega) _, by omega, ?_⟩
    rw [if_neg (by omega), if_neg (by have := hE.1; omega)]
    exact gr
  · rintro e H ⟨hn, h5, h32, h33, hE, hF, hqn, go, gr⟩
    simp (config := {maxSteps := 1000000, maxDischargeDepth := 9, implicitDefEqProofs := false}) [c18_l0, hn, h33]
    exact ⟨hE, hF, hqn, by simpa using go, gr⟩

def padB (r : List Nat) : List Nat := r ++ List.replicate (64 - r.length) 0
theorem padB_length {r : List Nat} (h : r.length ≤ 64) : (padB r).length = 64 := by simp [padB]; omega
def finF (hb : List Int) (t : Int) (r : List Nat) : List Nat := outB (pressF hb (padB r) (t + (r.length : Int)) true) 8
theorem finF_length (hb : List Int) (t : Int) (r : List Nat) : (finF hb t r).length = 32 := outB_length _ 8
theorem finF_lt (hb : List Int) (t : Int) (r : List Nat) : ∀ y ∈ finF hb t r, y < 256 := outB_lt _ _
/-- (*blake.Hash).Sum. -/
def s_HSum : List V → Heap → Option (V × Heap)
  | [.ptr p 0], h => match h.get p with
    | some (.cells cs tt z true) => match hashOf cs with
      | some (hb, t, vr) => match slB h vr with
        | some r => if hb.length = 8 ∧ 0 ≤ t ∧ t ≤ big ∧ r.length ≤ 64 then some (.agg (bytesOf (finF hb t r)), h) else none
        | none => none
      | none => none
    | _ => none
  | _, _ => none
theorem HSum_ok (cf : ACall) (hP : ∀ a h, cf 25 a h = s_Put32 a h) (hPress : ∀ a h, cf 28 a h = s_press a h) : Sum cf c18 s_HSum := by
  intro args h v h' hf hsc hlt hs
  unfold s_HSum at hs
  split at hs
  · rename_i p
    split at hs
    · rename_i cs tt z hg
      split at hs
      · rename_i hb t vr hho
        split at hs
        · rename_i r hr
          split at hs
          · rename_i hc
            obtain ⟨hl, ht0, htb, hr64⟩ := hc
            simp only [Option.some.injEq, Prod.mk.injEq] at hs
            obtain ⟨rfl, rfl⟩ := hs
            have hcs := hashOf_some hho
            subst hcs
            have htb : t ≤ 4611686018427387904 := htb
            have hpl := hf.lt hg
            have hvr : V.lt h.next vr := ltL_mem.1 (hsc p _ _ _ _ hg) vr (by simp [hashCells])
            have hvl := slB_vlen hr
            have hsl := slB_isSl hr
            have hrlt := slB_lt hr
            -- the block, and what is copied into it
            obtain ⟨R0, hR0⟩ : ∃ R0 : List V, R0 = List.replicate 32 (.int .u8 0) := ⟨_, rfl⟩
            obtain ⟨H1, hH1⟩ : ∃ H1, H1 = (h.new (.cells R0 22 1 true)).new (.cells (List.replicate 64 (.int .u8 0)) 5 1 true) := ⟨_, rfl⟩
            have hcp : copyV H1 1 (.slice (h.next + 1) 0 64 (some 64)) vr = _ := copy_from (t := 5) (Q := List.replicate 64 (.int .u8 0)) (r := r) (by rw [hH1, Heap.get_new]; exact if_pos rfl) (by rw [hH1, slB_new _ (lt_add hvr 1), slB_new _ hvr]; exact hr) hr64 (by simp; omega)
            generalize hH2 : (if r = [] then H1 else H1.set (h.next + 1) (some (.cells (over (List.replicate 64 (.int .u8 0)) 0 (bytesOf r)) 5 1 true))) = H2 at hcp
            have hpad : bytesOf (padB r) = bytesOf r ++ List.replicate (64 - r.length) (.int .u8 0) := by unfold padB; rw [bytesOf_append]; simp [bytesOf]
            have g1 : H2.get (h.next + 1) = some (.cells (bytesOf (padB r)) 5 1 true) := by
              rw [← hH2]
              split
              · rename_i h0
                subst h0
                rw [hH1, Heap.get_new, hpad]
                exact if_pos rfl
              · rw [Heap.get_set, if_pos rfl, hpad]
                have := over_fillL [] (bytesOf r) (.int .u8 0) (64 - r.length)
                rw [bytesOf_length, show r.length + (64 - r.length) = 64 from by omega] at this
                simp only [List.nil_append, List.length_nil] at this
                rw [this]
            have n2 : H2.next = h.next + 2 := by
              rw [← hH2, hH1]; split <;> simp
            have hE2 : Ext h H2 := by
              rw [← hH2, hH1]
              split
              · exact ((Ext.new h _).trans_new _)
              · exact ((Ext.new h _).trans_new _).trans_set (by omega) _
            have hF2 : Fresh H2 := by
              rw [← hH2, hH1]
              split
              · exact (hf.new _).new _
              · exact ((hf.new _).new _).set (by simp) _
            have g0 : H2.get h.next = some (.cells R0 22 1 true) := by
              rw [← hH2, hH1]
              split
              · rw [Heap.get_new, if_neg (by simp), Heap.get_new, if_pos rfl]
              · rw [Heap.get_set, if_neg (by omega), Heap.get_new, if_neg (by simp), Heap.get_new, if_pos rfl]
            have gp : H2.get p = some (.cells (hashCells hb t vr) tt z true) := hE2.get hf hg
            have hpb := slB_at (H := H2) (o := 0) (n := 64) (c := some 64) g1 (fun y hy => by
              rcases List.mem_append.1 hy with hy | hy
              · exact hrlt y hy
              · have := (List.mem_replicate.1 hy).2; omega) (by rw [padB_length hr64]; omega) (.inr rfl)
            rw [List.drop_zero, List.take_of_length_le (by rw [padB_length hr64]; omega)] at hpb
            have hw1 : wrapF .u64 (t + (r.length : Int)) = t + (r.length : Int) := wrap_u64 (by omega) (by omega)
            have hw2 : wrapF .u64 (r.length : Int) = (r.length : Int) := wrap_u64 (by omega) (by omega)
            have hpl8 : (pressF hb (padB r) (t + (r.length : Int)) true).length = 8 := by rw [pressF_length]; exact hl
            have hpr := pressF_range hb (padB r) (t + (r.length : Int)) true hl
            have hfin : finF hb t r = outB (pressF hb (padB r) (t + (r.length : Int)) true) 8 := rfl
            have htt : 0 ≤ t + (r.length : Int) := by omega
            have hpd := padB_length hr64
            rw [hfin]
            generalize hw : pressF hb (padB r) (t + (r.length : Int)) true = w at *
            have hov8 : over [V.int .u32 0, V.int .u32 0, V.int .u32 0, V.int .u32 0, V.int .u32 0, V.int .u32 0, V.int .u32 0, V.int .u32 0] 0 (w.map (V.int .u32)) = w.map (V.int .u32) := by
              unfold over; simp [hpl8]
            have hwt : (w.map (V.int .u32)).take 8 = w.map (V.int .u32) := List.take_of_length_le (by simp [hpl8])
            have hb0 : ∀ n, (bare0 n).next = n := fun _ => rfl
            have hpn : (p = H2.next + 17) = False := by simp; omega
            have hH1' : (h.new (.cells [V.int .u8 0, .int .u8 0, .int .u8 0, .int .u8 0, .int .u8 0, .int .u8 0, .int .u8 0, .int .u8 0, .int .u8 0, .int .u8 0, .int .u8 0, .int .u8 0, .int .u8 0, .int .u8 0, .int .u8 0, .int .u8 0, .int .u8 0, .int .u8 0, .int .u8 0, .int .u8 0, .int .u8 0, .int .u8 0, .int .u8 0, .int .u8 0, .int .u8 0, .int .u8 0, .int .u8 0, .int .u8 0, .int .u8 0, .int .u8 0, .int .u8 0, .int .u8 0] 22 1 true)).new (.cells (List.replicate 64 (.int .u8 0)) 5 1 true) = H1 := by rw [hH1, hR0]; rfl
            have gpH1 : H1.get p = some (.cells (hashCells hb t vr) tt z true) := by
              rw [hH1, Heap.get_new, if_neg (by simp; omega), Heap.get_new, if_neg (by omega)]; exact hg
            refine ⟨20, ?_⟩
            simp (config := {maxSteps := 1000000, maxDischargeDepth := 9, implicitDefEqProofs := false}) [c18, -List.reduceReplicate, hH1', gpH1, hash_nth9 hl, hcp, gp, hash_nth8 hl, hash_take hl, hashCells_length hl, hvl, hsl, hw1, hw2, hPress, s_press, hpb, hpd, hl, htt, hw, hb0, hpl8, hov8, -over, mem_ints_one, hwt]
            have hEg : Ext h (H2.gap 19) := hE2.trans (Ext.gap H2 19)
            have hFg : Fresh (H2.gap 19) := hF2.gap
            refine loop_thenE (K := fun r => finS _ (seqS _ _ _ (blockS _ r))) (HSum_loop cf hP h _ w (H2.next + 19) (.cells R0 22 1 true) hpl8 hpr ?_ ?_ ?_ ?_ ?_ ?_ _ ?_ ?_ ?_ ?_) ?_
            · exact (hEg.trans_set (by omega) _).trans_new _
            · exact (hFg.set (by simp [next_gap]) _).new _
            · omega
            · simp [next_gap]
            · rw [Heap.get_new]; exact if_pos rfl
            · rw [Heap.get_new, if_neg (by simp [next_gap]; omega), Heap.get_set, if_neg (by omega), get_gap]; exact g0
            · simp (config := {maxSteps := 1000000, maxDischargeDepth := 9, implicitDefEqProofs := false})
            · simp (config := {maxSteps := 1000000, maxDischargeDepth := 9, implicitDefEqProofs := false})
            · simp (config := {maxSteps := 1000000, maxDischargeDepth := 9, implicitDefEqProofs := false})
            · simp (config := {maxSteps := 1000000, maxDischargeDepth := 9, implicitDefEqProofs := false})
            · rintro x H3 ⟨rfl, hE3, hF3, hq3, go3, gr3⟩
              have hol : (outB w 8).length = 32 := outB_length w 8
              generalize outB w 8 = ob at *
              have tb : (bytesOf ob).take 32 = bytesOf ob := List.take_of_length_le (by rw [bytesOf_length]; omega)
              have hov32 : over R0 0 (bytesOf ob) = bytesOf ob := by
                unfold over
                rw [hR0, bytesOf_length, hol, List.drop_eq_nil_of_le (by simp)]; simp
              have hRl : R0.length = 32 := by rw [hR0]; simp
              have hne : (h.next = H2.next + 19) = False := by simp; omega
              simp (config := {maxSteps := 1000000, maxDischargeDepth := 9, implicitDefEqProofs := false}) [c18_l0_wr, go3, gr3, hol, tb, hov32, hRl, hne, mem_bytes_one, -over]
              exact Canon.keep hf hsc (hE3.trans_set (Nat.le_refl _) _) (flat_aggB _ _)
          · cases hs
        · cases hs
      · cases hs
    · cases hs
  · cases hs

/-- The state of a hash of the bytes s. -/
def hbOf (s : List Nat) : List Int := stepsH h0L 0 s (kOf s.length)
def hashF (s : List Nat) : List Nat := finF (hbOf s) (64 * (kOf s.length : Int)) (s.drop (64 * kOf s.length))
theorem hashF_length (s : List Nat) : (hashF s).length = 32 := finF_length _ _ _
theorem hashF_lt (s : List Nat) : ∀ y ∈ hashF s, y < 256 := finF_lt _ _ _
theorem stepsH_pre (hb : List Int) (t : Int) (s b : List Nat) : ∀ k, 64 * k ≤ s.length → stepsH hb t (s ++ b) k = stepsH hb t s k
  | 0, _ => rfl
  | k + 1, hk => by
    simp only [stepsH]
    rw [stepsH_pre hb t s b k (by omega)]
    congr 1
    rw [List.drop_append_of_le_length (by omega), List.take_append_of_le_length (by rw [List.length_drop]; omega)]
theorem stepsH_from (hb : List Int) (t : Int) (s : List Nat) (k : Nat) : ∀ j, stepsH (stepsH hb t s k) (t + 64 * (k : Int)) (s.drop (64 * k)) j = stepsH hb t s (k + j)
  | 0 => rfl
  | j + 1 => by
    rw [show k + (j + 1) = (k + j) + 1 from rfl]
    simp only [stepsH]
    rw [stepsH_from hb t s k j, List.drop_drop, show 64 * k + 64 * j = 64 * (k + j) from by omega]
    congr 1
    omega
theorem kOf_add (n m : Nat) : kOf n + kOf (n - 64 * kOf n + m) = kOf (n + m) := by unfold kOf; omega
theorem kOf_le (n : Nat) : 64 * kOf n ≤ n := by unfold kOf; omega
/-- What is written behind. -/
theorem write_state (s b : List Nat) : stepsH (hbOf s) (64 * (kOf s.length : Int)) (s.drop (64 * kOf s.length) ++ b) (kOf (s.drop (64 * kOf s.length) ++ b).length) = hbOf (s ++ b) ∧
    64 * (kOf s.length : Int) + 64 * (kOf (s.drop (64 * kOf s.length) ++ b).length : Int) = 64 * (kOf (s ++ b).length : Int) ∧
    (s.drop (64 * kOf s.length) ++ b).drop (64 * kOf (s.drop (64 * kOf s.length) ++ b).length) = (s ++ b).drop (64 * kOf (s ++ b).length) := by
  have hle := kOf_le s.length
  have e0 : s.drop (64 * kOf s.length) ++ b = (s ++ b).drop (64 * kOf s.length) := by rw [List.drop_append_of_le_length hle]
  have e1 : kOf s.length + kOf (s.drop (64 * kOf s.length) ++ b).length = kOf (s ++ b).length := by
    have := kOf_add s.length b.length
    rw [List.length_append, List.length_drop, List.length_append]; exact this
  refine ⟨?_, by omega, ?_⟩
  · unfold hbOf
    rw [← stepsH_pre h0L 0 s b (kOf s.length) hle, e0]
    have := stepsH_from h0L 0 (s ++ b) (kOf s.length) (kOf ((s ++ b).drop (64 * kOf s.length)).length)
    rw [Int.zero_add] at this
    rw [this, ← e0, e1]
  · rw [e0, List.drop_drop, ← e0]
    congr 1
    omega
/-- A hash of the bytes s, at p. -/
def isHash (H : Heap) (p tt : Nat) (s : List Nat) : Prop := ∃ vr, H.get p = some (.cells (hashCells (hbOf s) (64 * (kOf s.length : Int)) vr) tt 1 true) ∧ slB H vr = some (s.drop (64 * kOf s.length))
theorem h0L_length : h0L.length = 8 := rfl
theorem hbOf_length (s : List Nat) : (hbOf s).length = 8 := stepsH_length _ _ h0L_length _
theorem hash_ret {H : Heap} {p tt : Nat} {s : List Nat} (hh : isHash H p tt s) (hs : s.length ≤ 140737488354304) : s_HSum [.ptr p 0] H = some (.agg (bytesOf (hashF s)), H) := by
  obtain ⟨vr, h1, h2⟩ := hh
  have hk : kOf s.length = (s.length - 1) / 64 := rfl
  unfold s_HSum
  simp only [h1, hashOf_cells _ _ (hbOf_length s), h2]
  rw [if_pos ⟨hbOf_length s, by omega, by unfold big; omega, by rw [List.length_drop]; omega⟩]
  rfl
theorem hash_write {H : Heap} {p tt : Nat} {s b : List Nat} {vb : V} (hh : isHash H p tt s) (hF : Fresh H) (hsc : V.lt H.next vb) (hb : slB H vb = some b) (hs : s.length + b.length ≤ 140737488354304) :
    ∃ H', s_Write [.ptr p 0, vb] H = some (.undef, H') ∧ isHash H' p tt (s ++ b) ∧ H'.next = H.next + 1 ∧ (∀ q, q ≠ p → q < H.next → H'.get q = H.get q) ∧ Fresh H' := by
  obtain ⟨vr, h1, h2⟩ := hh
  have hk : kOf s.length = (s.length - 1) / 64 := rfl
  obtain ⟨w1, w2, w3⟩ := write_state s b
  have hlt : ∀ y ∈ s.drop (64 * kOf s.length) ++ b, y < 256 := fun y hy => by
    rcases List.mem_append.1 hy with hy | hy
    · exact slB_lt h2 y hy
    · exact slB_lt hb y hy
  have hl := hbOf_length s
  have hp := hF.lt h1
  refine ⟨(H.set p (some (.cells (hashCells (hbOf (s ++ b)) (64 * (kOf (s ++ b).length : Int)) (newV H ((s ++ b).drop (64 * kOf (s ++ b).length)).length)) tt 1 true))).new (.cells (bytesOf ((s ++ b).drop (64 * kOf (s ++ b).length))) 5 1 true), ?_, ?_, by simp, ?_, ?_⟩
  · unfold s_Write
    simp only [h1, hashOf_cells _ _ hl, h2, hb]
    rw [if_pos ⟨hl, by omega, by unfold big; omega, by have hlm : lim = 140737488354304 := rfl; rw [hlm, List.length_append, List.length_drop]; omega⟩, w1, w2, w3]
  · refine ⟨_, by rw [Heap.get_new, if_neg (by simp; omega), Heap.get_set, if_pos rfl], ?_⟩
    rw [← w3] at *
    refine (slB_at (q := H.next) (o := 0) (c := none) (all := (s.drop (64 * kOf s.length) ++ b).drop (64 * kOf (s.drop (64 * kOf s.length) ++ b).length)) (by rw [Heap.get_new]; exact if_pos rfl) (fun y hy => hlt y (List.mem_of_mem_drop hy)) (by omega) (.inl rfl)).trans ?_
    rw [List.drop_zero, List.take_of_length_le (Nat.le_refl _)]
  · intro q hq hqn
    rw [Heap.get_new, if_neg (by simp; omega), Heap.get_set, if_neg hq]
  · exact (hF.set hp _).new _

theorem sl_ltm {h : Heap} {z : Nat} {vl : V} {vs : List V} (hsc : Scoped h) (hs : sl h z vl = some vs) : ∀ w ∈ vs, V.lt h.next w := by
  have hr := sl_rd hs
  cases vl <;> simp only [rd, reduceCtorEq] at hr
  case nilslice => simp only [Option.some.injEq] at hr; subst hr; intro w hw; cases hw
  case slice b o n c =>
    unfold Heap.read at hr
    split at hr
    · simp only [Option.some.injEq] at hr; subst hr; intro w hw; cases hw
    · split at hr
      · rename_i cs t z own hg
        split at hr
        · simp only [Option.some.injEq] at hr
          subst hr
          intro w hw
          exact ltL_mem.1 (hsc _ _ _ _ _ hg) w (List.mem_of_mem_drop (List.mem_of_mem_take hw))
        · cases hr
      · cases hr
theorem isHash_new (H : Heap) (tt : Nat) : isHash (H.new (.cells (hashCells h0L 0 .nilslice) tt 1 true)) H.next tt [] := by
  refine ⟨.nilslice, by rw [Heap.get_new]; exact if_pos rfl, ?_⟩
  have : ([] : List Nat).drop (64 * kOf ([] : List Nat).length) = [] := by simp
  rw [this]
  exact slB_nil
/-- blake.Sum. -/
def s_SumB : List V → Heap → Option (V × Heap)
  | [vl], h => match sl h 1 vl with
    | some vs => match slBs h vs with
      | some ss => if ss.flatten.length ≤ lim ∧ ss.length ≤ lim then some (.agg (bytesOf (hashF ss.flatten)), h) else none
      | none => none
    | none => none
  | _, _ => none
theorem SumB_ok (cf : ACall) (hNew : ∀ a h, cf 16 a h = s_New a h) (hWrite : ∀ a h, cf 19 a h = s_Write a h) (hSum : ∀ a h, cf 18 a h = s_HSum a h) : Sum cf c20 s_SumB := by
  intro args h v h' hf hsc hlt hs
  unfold s_SumB at hs
  split at hs
  · rename_i vl
    split at hs
    · rename_i vs hvl
      split at hs
      · rename_i ss hss
        split at hs
        · rename_i hl
          simp only [Option.some.injEq, Prod.mk.injEq] at hs
          obtain ⟨rfl, rfl⟩ := hs
          obtain ⟨hl, hl2⟩ := hl
          have hlim : lim = 140737488354304 := rfl
          rw [hlim] at hl hl2
          obtain ⟨hlen, hget⟩ := slBs_get hss
          have hvlen : vlen vl = ss.length := by have := rd_vlen (sl_rd hvl); omega
          have hsl := sl_isSl hvl
          obtain ⟨R0, hR0⟩ : ∃ R0 : List V, R0 = List.replicate 32 (.int .u8 0) := ⟨_, rfl⟩
          refine ⟨ss.length + 1, ?_⟩
          have L := loop_count (cf := cf) (N := ss.length + 1) (c := c20_l0) ss.length
            (fun i e H => e.n = 19 ∧ e.at 2 = .ptr h.next 0 ∧ e.at 3 = .ptr (h.next + 1) 0 ∧ e.at 7 = vl ∧ e.at 8 = .int .i64 (ss.length : Int) ∧ e.at 9 = .int .i64 (i : Int) ∧ isHash H (h.next + 1) 57 ((ss.take i).flatten) ∧ Ext h H ∧ Fresh H ∧ H.get h.next = some (.cells R0 22 1 true))
            (fun x e H => x = .exit 0 ∧ e.n = 19 ∧ e.at 2 = .ptr h.next 0 ∧ e.at 3 = .ptr (h.next + 1) 0 ∧ isHash H (h.next + 1) 57 ss.flatten ∧ Ext h H ∧ Fresh H ∧ H.get h.next = some (.cells R0 22 1 true))
            (by
              rintro i e H hi ⟨hn, h2, h3, h7, h8, h9, hh, hE, hF, g0⟩
              obtain ⟨w, hw1, hw2⟩ := hget hi
              have hload := rd_load (sl_rd (sl_ext hE hf hvl)) hw1
              have hidx := indexE (z := 1) hsl H (k := .i64) (i := (i : Int)) (by omega) (by omega)
              simp only [Int.toNat_natCast, Nat.mul_one] at hidx
              have hwl : V.lt H.next w := V.lt_mono hE.1 w (sl_ltm hsc hvl w (List.mem_of_getElem? hw1))
              obtain ⟨H2, k1, k2, k3, k4, k5⟩ := hash_write hh hF hwl (slB_ext hE hf hw2) (by
                have h1 := congrArg List.length (take_flatten_succ ss i hi)
                have h2 : ((ss.take (i + 1)).flatten).length ≤ ss.flatten.length := by
                  have := congrArg List.length (congrArg List.flatten (List.take_append_drop (i + 1) ss))
                  rw [List.flatten_append, List.length_append] at this; omega
                rw [List.length_append] at h1; omega)
              have hp := hF.lt hh.choose_spec.1
              simp (config := {maxSteps := 1000000, maxDischargeDepth := 9, implicitDefEqProofs := false}) [c20_l0, hn, h2, h3, h7, h8, h9, hidx, hload, hWrite, k1, hi, wrap_i64 (x := (i : Int) + 1) (by omega) (by omega)]
              rw [take_flatten_succ ss i hi]
              refine ⟨k2, ⟨by have := hE.1; omega, fun b hb => ?_⟩, k5, ?_⟩
              · rw [k4 b (by omega) (by have := hE.1; omega)]; exact hE.2 b hb
              · rw [k4 _ (by omega) (by omega)]; exact g0)
            (by
              rintro e H ⟨hn, h2, h3, h7, h8, h9, hh, hE, hF, g0⟩
              rw [List.take_length] at hh
              simp (config := {maxSteps := 1000000, maxDischargeDepth := 9, implicitDefEqProofs := false}) [c20_l0, hn, h2, h3, h7, h8, h9]
              exact ⟨hh, hE, hF, g0⟩)
          simp (config := {maxSteps := 1000000, maxDischargeDepth := 9, implicitDefEqProofs := false}) [c20, hNew, s_New, lenE hsl, hvlen, -List.length_flatten]
          refine loop_then (K := fun r => finS _ (seqS _ _ _ (blockS _ r))) (L 0 _ _ (Nat.zero_le _) ?_ (Nat.lt_succ_self _)) ?_
          · simp (config := {maxSteps := 1000000, maxDischargeDepth := 9, implicitDefEqProofs := false})
            exact ⟨isHash_new (h.new _) _, (Ext.new h _).trans_new _, (hf.new _).new _, by rw [hR0]; rfl⟩
          · rintro x e' H ⟨rfl, hn, h2, h3, hh, hE, hF, g0⟩
            have hret := hash_ret hh hl
            have hol := hashF_length ss.flatten
            generalize hashF ss.flatten = ob at *
            have tb : (bytesOf ob).take 32 = bytesOf ob := List.take_of_length_le (by rw [bytesOf_length]; omega)
            have hov32 : over R0 0 (bytesOf ob) = bytesOf ob := by
              unfold over
              rw [hR0, bytesOf_length, hol, List.drop_eq_nil_of_le (by simp)]; simp
            have hRl : R0.length = 32 := by rw [hR0]; simp
            simp (config := {maxSteps := 1000000, maxDischargeDepth := 9, implicitDefEqProofs := false}) [hn, h2, h3, hSum, hret, g0, hol, tb, hov32, hRl, mem_bytes_one, -over, -List.length_flatten]
            exact Canon.keep hf hsc (hE.trans_set (Nat.le_refl _) _) (flat_aggB _ _)
        · cases hs
      · cases hs
    · cases hs
  · cases hs

theorem eqInts_same : ∀ s : List Nat, eqInts (bytesOf s) (bytesOf s) = some true
  | [] => rfl
  | x :: s => by
    have h := eqInts_same s
    simp only [bytesOf] at h ⊢
    simp only [List.map_cons, eqInts, if_true]
    first
      | (rw [h]; done)
      | (rw [h]; simp; done)
theorem eqArrS_same {h : Heap} {n : Nat} {s : List Nat} (hs : s.length = n) : eqArrS false n (.agg (bytesOf s)) (.agg (bytesOf s)) h = some (.bool true, h) := by
  simp only [eqArrS, bytesOf_length, hs, and_self, if_true, eqInts_same, Option.map_some, Bool.false_eq_true, if_false]
theorem isHash_gap {H : Heap} {p tt : Nat} {s : List Nat} (hh : isHash H p tt s) (n : Nat) : isHash (H.gap n) p tt s := hh
theorem isHash_keep {H H' : Heap} {p tt : Nat} {s : List Nat} (hh : isHash H p tt s) (hF : Fresh H) (hE : Ext H H') : isHash H' p tt s := by
  obtain ⟨vr, h1, h2⟩ := hh
  exact ⟨vr, hE.get hF h1, slB_ext hE hF h2⟩
theorem isHash_lt {H : Heap} {p tt : Nat} {s : List Nat} (hh : isHash H p tt s) (hF : Fresh H) : p < H.next := by
  obtain ⟨vr, h1, _⟩ := hh
  exact hF.lt h1
theorem sl_at {H : Heap} {q t n : Nat} {c : Option Nat} {own : Bool} {cs : List V} (hq : H.get q = some (.cells cs t 1 own)) (hl : cs.length = n) (hc : c = none ∨ c = some n) : sl H 1 (.slice q 0 n c) = some cs := by
  have hw : wfS H 1 (.slice q 0 n c) = true := by rcases hc with rfl | rfl <;> simp [wfS, hq, hl]
  unfold sl
  rw [if_pos hw]
  simp only [rd, Nat.mul_one]
  unfold Heap.read
  by_cases hn : n = 0
  · subst hn
    have : cs = [] := List.length_eq_zero_iff.1 hl
    rw [this, if_pos rfl]
  · rw [if_neg hn, hq]
    simp only [Nat.zero_add]
    rw [if_pos (by omega), List.drop_zero, List.take_of_length_le (by omega)]

def abcH : List Nat := [80, 140, 94, 140, 50, 124, 20, 226, 225, 167, 43, 163, 78, 235, 69, 47, 55, 69, 139, 32, 158, 214, 58, 41, 77, 153, 155, 76, 134, 103, 89, 130]
theorem hash_abc : hashF [97, 98, 99] = abcH := by kernel_rfl
/-- known, chapter 7. -/
def s_known7 : List V → Heap → Option (V × Heap)
  | [], h => some (.bool true, h)
  | _, _ => none
theorem known7_ok (cf : ACall) (hSum : ∀ a h, cf 20 a h = s_SumB a h) : Sum cf c17 s_known7 := by
  intro args h v h' hf hsc hlt hs
  unfold s_known7 at hs
  split at hs
  · simp only [Option.some.injEq, Prod.mk.injEq] at hs
    obtain ⟨rfl, rfl⟩ := hs
    have hl : abcH.length = 32 := rfl
    have n0 : nth (bytesOf abcH) 0 = some (.int .u8 80) := rfl
    have n1 : nth (bytesOf abcH) 1 = some (.int .u8 140) := rfl
    have n2 : nth (bytesOf abcH) 2 = some (.int .u8 94) := rfl
    have n3 : nth (bytesOf abcH) 3 = some (.int .u8 140) := rfl
    have n30 : nth (bytesOf abcH) 30 = some (.int .u8 89) := rfl
    have n31 : nth (bytesOf abcH) 31 = some (.int .u8 130) := rfl
    have htk : (bytesOf abcH).take 32 = bytesOf abcH := rfl
    have heq : ∀ H, eqArrS false 32 (.agg (bytesOf abcH)) (.agg (bytesOf abcH)) H = some (.bool true, H) := fun _ => by
      have : eqInts (bytesOf abcH) (bytesOf abcH) = some true := by decide +kernel
      simp [eqArrS, bytesOf_length, hl, this]
    refine ⟨1, ?_⟩
    simp (config := {maxSteps := 1000000, maxDischargeDepth := 9, implicitDefEqProofs := false}) [c17, hSum, s_SumB, hash_abc, hl, mem_bytes_one, n0, n1, n2, n3, n30, n31, htk, heq]
    exact Canon.keep hf hsc (by repeat (first | exact Ext.refl _ | apply Ext.trans_new)) (by simp only [V.lt])
  · cases hs

theorem slB_same {H H' : Heap} {q o n : Nat} {c : Option Nat} (hg : H'.get q = H.get q) : slB H' (.slice q o n c) = slB H (.slice q o n c) := by
  have h1 : wfS H' 1 (.slice q o n c) = wfS H 1 (.slice q o n c) := by dsimp only [wfS]; rw [hg]
  have h2 : rd H' 1 (.slice q o n c) = rd H 1 (.slice q o n c) := by
    show H'.read q o (n * 1) = H.read q o (n * 1)
    unfold Heap.read; rw [hg]
  unfold slB sl
  rw [h1, h2]
/-- A hash of the bytes s, at p; the block of what is left is told. -/
def isHashN (H : Heap) (p tt : Nat) (s : List Nat) : Prop := ∃ vr, H.get p = some (.cells (hashCells (hbOf s) (64 * (kOf s.length : Int)) vr) tt 1 true) ∧ slB H vr = some (s.drop (64 * kOf s.length)) ∧ (vr = .nilslice ∨ ∃ q n cs, vr = .slice q 0 n none ∧ H.get q = some (.cells cs 5 1 true))
theorem isHashN.is {H : Heap} {p tt : Nat} {s : List Nat} (hh : isHashN H p tt s) : isHash H p tt s := by
  obtain ⟨vr, h1, h2, _⟩ := hh
  exact ⟨vr, h1, h2⟩
theorem isHashN_keep {H H' : Heap} {p tt : Nat} {s : List Nat} (hh : isHashN H p tt s) (hp : H'.get p = H.get p) (hq : ∀ q cs, H.get q = some (.cells cs 5 1 true) → H'.get q = H.get q) : isHashN H' p tt s := by
  obtain ⟨vr, h1, h2, h3⟩ := hh
  rcases h3 with rfl | ⟨q, n, cs, rfl, h4⟩
  · exact ⟨.nilslice, by rw [hp]; exact h1, (show slB H' .nilslice = slB H .nilslice from rfl).trans h2, .inl rfl⟩
  · have := hq q cs h4
    exact ⟨_, by rw [hp]; exact h1, by rw [slB_same this]; exact h2, .inr ⟨q, n, cs, rfl, by rw [this]; exact h4⟩⟩
theorem isHashN_ext {H H' : Heap} {p tt : Nat} {s : List Nat} (hh : isHashN H p tt s) (hF : Fresh H) (hE : Ext H H') : isHashN H' p tt s := by
  obtain ⟨vr, h1, _⟩ := id hh
  exact isHashN_keep hh (by rw [hE.get hF h1, h1]) fun q cs h => by rw [hE.get hF h, h]
theorem isHashN_new (H : Heap) (tt : Nat) : isHashN (H.new (.cells (hashCells h0L 0 .nilslice) tt 1 true)) H.next tt [] := by
  refine ⟨.nilslice, by rw [Heap.get_new]; exact if_pos rfl, ?_, .inl rfl⟩
  have : ([] : List Nat).drop (64 * kOf ([] : List Nat).length) = [] := by simp
  rw [this]
  exact slB_nil
theorem hash_writeN {H : Heap} {p tt : Nat} {s b : List Nat} {vb : V} (hh : isHashN H p tt s) (hF : Fresh H) (hb : slB H vb = some b) (hs : s.length + b.length ≤ 140737488354304) :
    ∃ H', s_Write [.ptr p 0, vb] H = some (.undef, H') ∧ isHashN H' p tt (s ++ b) ∧ H'.next = H.next + 1 ∧ (∀ q, q ≠ p → q < H.next → H'.get q = H.get q) ∧ Fresh H' := by
  obtain ⟨vr, h1, h2, _⟩ := hh
  have hk : kOf s.length = (s.length - 1) / 64 := rfl
  obtain ⟨w1, w2, w3⟩ := write_state s b
  have hlt : ∀ y ∈ s.drop (64 * kOf s.length) ++ b, y < 256 := fun y hy => by
    rcases List.mem_append.1 hy with hy | hy
    · exact slB_lt h2 y hy
    · exact slB_lt hb y hy
  have hl := hbOf_length s
  have hp := hF.lt h1
  refine ⟨(H.set p (some (.cells (hashCells (hbOf (s ++ b)) (64 * (kOf (s ++ b).length : Int)) (newV H ((s ++ b).drop (64 * kOf (s ++ b).length)).length)) tt 1 true))).new (.cells (bytesOf ((s ++ b).drop (64 * kOf (s ++ b).length))) 5 1 true), ?_, ?_, by simp, ?_, ?_⟩
  · unfold s_Write
    simp only [h1, hashOf_cells _ _ hl, h2, hb]
    rw [if_pos ⟨hl, by omega, by unfold big; omega, by have hlm : lim = 140737488354304 := rfl; rw [hlm, List.length_append, List.length_drop]; omega⟩, w1, w2, w3]
  · refine ⟨newV H ((s ++ b).drop (64 * kOf (s ++ b).length)).length, by rw [Heap.get_new, if_neg (by simp; omega), Heap.get_set, if_pos rfl], ?_, .inr ⟨H.next, _, _, rfl, by rw [Heap.get_new]; exact if_pos rfl⟩⟩
    rw [← w3] at *
    refine (slB_at (q := H.next) (o := 0) (c := none) (all := (s.drop (64 * kOf s.length) ++ b).drop (64 * kOf (s.drop (64 * kOf s.length) ++ b).length)) (by rw [Heap.get_new]; exact if_pos rfl) (fun y hy => hlt y (List.mem_of_mem_drop hy)) (by omega) (.inl rfl)).trans ?_
    rw [List.drop_zero, List.take_of_length_le (Nat.le_refl _)]
  · intro q hq hqn
    rw [Heap.get_new, if_neg (by simp; omega), Heap.get_set, if_neg hq]
  · exact (hF.set hp _).new _
theorem slBs_append {h : Heap} : ∀ {vs ws : List V} {ss ts : List (List Nat)}, slBs h vs = some ss → slBs h ws = some ts → slBs h (vs ++ ws) = some (ss ++ ts)
  | [], ws, ss, ts, h1, h2 => by simp only [slBs, Option.some.injEq] at h1; subst h1; exact h2
  | v :: vs, ws, ss, ts, h1, h2 => by
    simp only [slBs] at h1
    split at h1
    · rename_i a b ha hb
      simp only [Option.some.injEq] at h1
      subst h1
      exact slBs_cons ha (slBs_append hb h2)
    · cases h1
theorem sum_one {K : Heap} {q t : Nat} {u : V} {b : List Nat} {own : Bool} (hg : K.get q = some (.cells [u] t 1 own)) (hu : slB K u = some b) (hb : b.length ≤ 140737488354304) : s_SumB [.slice q 0 1 (some 1)] K = some (.agg (bytesOf (hashF b)), K) := by
  have hlm : lim = 140737488354304 := rfl
  unfold s_SumB
  have h1 : sl K 1 (.slice q 0 1 (some 1)) = some [u] := sl_at hg rfl (.inr rfl)
  have h2 : slBs K [u] = some [b] := slBs_cons hu rfl
  have h3 : [b].flatten = b := by simp
  simp only [h1, h2, h3]
  rw [if_pos ⟨by rw [hlm]; exact hb, by rw [hlm]; simp⟩]
/-- How far the bytes have been handed to the hash, and cut. -/
def PInv (h1 : Heap) (s : List Nat) (p i off : Nat) (lv rv : V) (H : Heap) : Prop :=
  off ≤ s.length ∧ slB h1 rv = some (s.drop off) ∧ V.lt h1.next rv ∧ isHashN H p 57 (s.take off) ∧ Ext h1 H ∧ Fresh H ∧ h1.next ≤ p ∧
    ∃ xs ss, Own h1 H 28 1 lv i xs ∧ slBs h1 xs = some ss ∧ ss.flatten = s.take off ∧ ss.length = i
theorem piece_step {h1 : Heap} {s b : List Nat} {p i off off' : Nat} {lv rv rv' w : V} {H : Heap} (hf1 : Fresh h1) (hI : PInv h1 s p i off lv rv H) (hw : slB h1 w = some b) (hb : s.take off ++ b = s.take off') (ho : off' ≤ s.length) (hr : slB h1 rv' = some (s.drop off')) (hrl : V.lt h1.next rv') (hi : i ≤ 1000) (hs : s.length ≤ 1000) :
    ∃ lv' A2 A3, appendV (H.new (.cells [w] 28 1 true)) 28 1 24 lv (.slice H.next 0 1 (some 1)) = some (lv', A2) ∧ s_Write [.ptr p 0, w] A2 = some (.undef, A3) ∧ Ext h1 A2 ∧ Fresh A2 ∧ PInv h1 s p (i + 1) off' lv' rv' A3 ∧ lv' ≠ .nilslice := by
  obtain ⟨i1, i2, i3, i4, i5, i6, i7, xs, ss, i8, i9, i10, i11⟩ := hI
  have hm : most = 140737488355328 := rfl
  obtain ⟨A1, hA1⟩ : ∃ A, A = H.new (.cells [w] 28 1 true) := ⟨_, rfl⟩
  have eA : Ext H A1 := by rw [hA1]; exact Ext.new H _
  have fA : Fresh A1 := by rw [hA1]; exact i6.new _
  have nA : A1.next = H.next + 1 := by rw [hA1]; rfl
  have hadd : added A1 1 (.slice H.next 0 1 (some 1)) = some ([w], [w].length / 1) := by
    have hr : A1.read H.next 0 (1 * 1) = some [w] := by
      unfold Heap.read
      rw [if_neg (by omega), hA1, Heap.get_new, if_pos rfl]
      rfl
    simp only [added, hr, Option.map_some]; simp
  have hone : w.one = true := by
    have := slB_isSl hw
    cases w <;> first | rfl | (simp [isSl] at this)
  have o1 : Own h1 A1 28 1 lv i xs := by rw [hA1]; exact Own.ext_new _ i8 i6
  obtain ⟨lv', A2, a1, a2, a3, a4, a5, a6, a7⟩ := o1.app (bytes := 24) (i5.trans eA) fA hadd (by simp) (by simp [hone]) (by rw [hm]; simp; omega) (by rw [hm]; simp; omega)
  have hlen : [w].length / 1 = 1 := by simp
  rw [hlen] at a2
  have hpt : ∀ q cs, A1.get q = some (.cells cs 28 1 true) → q ≠ p := fun q cs hq e => by
    obtain ⟨vr, g1, _⟩ := i4
    subst e
    rw [eA.get i6 g1] at hq
    injection hq with hq
    injection hq with _ ht
    exact absurd ht (by decide)
  have ne : ∀ q B, A1.get q = some B → (∀ cs, B ≠ .cells cs 28 1 true) → A2.get q = A1.get q := fun q B hq hB => by
    refine a7 q (fA.lt hq) (fun oo c hh => ?_)
    rcases o1 with h | ⟨b1, c1, k1, k2, k3, k4, k5, k6⟩
    · rw [h.1] at hh; cases hh
    · rw [k1] at hh
      injection hh with hh
      subst hh
      rw [k6] at hq
      injection hq with hq
      exact hB _ hq.symm
  have hash2 : isHashN A2 p 57 (s.take off) := by
    have hh := isHashN_ext i4 i6 eA
    refine isHashN_keep hh ?_ fun q cs hq => ne q _ hq fun cs' e => ?_
    · obtain ⟨vr, g1, _⟩ := hh
      exact ne p _ g1 fun cs' e => by
        injection e with _ ht
        exact absurd ht (by decide)
    · injection e with _ ht
      exact absurd ht (by decide)
  obtain ⟨A3, r1, r2, r3, r4, r5⟩ := hash_writeN (b := b) hash2 a4 (slB_ext a3 hf1 hw) (by
    have := congrArg List.length hb
    rw [List.length_append, List.length_take, List.length_take] at this
    rw [List.length_take]; omega)
  rw [hb] at r2
  have hpA2 : ∃ B, A2.get p = some B ∧ ∀ cs, B ≠ .cells cs 28 1 true := by
    obtain ⟨vr, g1, _⟩ := hash2
    exact ⟨_, g1, fun cs e => by
      injection e with _ ht
      exact absurd ht (by decide)⟩
  have e3 : Ext h1 A3 := ⟨by have := a3.1; omega, fun q hq => by rw [r4 q (by omega) (by have := a3.1; omega)]; exact a3.2 q hq⟩
  refine ⟨lv', A2, A3, by rw [← hA1]; exact a1, r1, a3, a4, ⟨ho, hr, hrl, r2, e3, r5, i7, xs ++ [w], ss ++ [b], ?_, ?_, ?_, ?_⟩, ?_⟩
  · rcases a2 with h | ⟨b1, c1, k1, k2, k3, k4, k5, k6⟩
    · exact absurd h.2.1 (by omega)
    · refine .inr ⟨b1, c1, k1, k2, k3, by omega, k5, ?_⟩
      rw [r4 b1 (fun e => ?_) k4]
      · exact k6
      · obtain ⟨B, g1, g2⟩ := hpA2
        rw [e, g1] at k6
        injection k6 with k6
        exact g2 _ k6
  · exact slBs_append i9 (slBs_cons hw rfl)
  · rw [List.flatten_append, i10, ← hb]; simp
  · simp [i11]
  · rcases a2 with h | ⟨b1, c1, k1, _⟩
    · exact absurd h.2.1 (by omega)
    · rw [k1]; intro h; cases h

/-- Where bytes are added, what comes stands in the same block, or in a new one. -/
theorem append_block {h h' : Heap} {t z bytes b o n : Nat} {c : Option Nat} {v v' x : V} (ha : appendV h t z bytes v x = some (v', h')) (hv : v' = .slice b o n c) : b = h.next ∨ ∃ o n c, v = .slice b o n c := by
  unfold appendV at ha
  subst hv
  split at ha
  · cases ha
  · unfold appendXs at ha
    split at ha
    · split at ha
      · simp at ha
      · split at ha
        · simp only [Option.some.injEq, Prod.mk.injEq, V.slice.injEq] at ha; exact .inl ha.1.1.symm
        · cases ha
    · split at ha
      · split at ha
        · simp only [Option.some.injEq, Prod.mk.injEq, V.slice.injEq] at ha; obtain ⟨⟨rfl, rfl, rfl, rfl⟩, _⟩ := ha; exact .inr ⟨_, _, _, rfl⟩
        · split at ha
          · simp only [Option.some.injEq, Prod.mk.injEq, V.slice.injEq] at ha; obtain ⟨⟨rfl, rfl, rfl, rfl⟩, _⟩ := ha; exact .inr ⟨_, _, _, rfl⟩
          · cases ha
      · split at ha
        · split at ha
          · simp only [Option.some.injEq, Prod.mk.injEq, V.slice.injEq] at ha; exact .inl ha.1.1.symm
          · cases ha
        · cases ha
    · split at ha
      · simp only [Option.some.injEq, Prod.mk.injEq, V.slice.injEq] at ha; obtain ⟨⟨rfl, rfl, rfl, rfl⟩, _⟩ := ha; exact .inr ⟨_, _, _, rfl⟩
      · split at ha
        · split at ha
          · split at ha
            · simp only [Option.some.injEq, Prod.mk.injEq, V.slice.injEq] at ha; exact .inl ha.1.1.symm
            · cases ha
          · cases ha
        · cases ha
    · cases ha
/-- Two slices that do not stand in one block. -/
def apartV (v w : V) : Prop := ∀ b o n c o' n' c', v = .slice b o n c → w ≠ .slice b o' n' c'
theorem apartV.symm {v w : V} (h : apartV v w) : apartV w v := fun b o n c o' n' c' h1 h2 => h b _ _ _ _ _ _ h2 h1
theorem apartV_nil (v : V) : apartV .nilslice v := fun b o n c o' n' c' h => by cases h
/-- A hash of the bytes s, at p; what is left stands at vr. -/
def isHashV (H : Heap) (p tt : Nat) (s : List Nat) (vr : V) : Prop := H.get p = some (.cells (hashCells (hbOf s) (64 * (kOf s.length : Int)) vr) tt 1 true) ∧ slB H vr = some (s.drop (64 * kOf s.length)) ∧ (vr = .nilslice ∨ ∃ q n cs, vr = .slice q 0 n none ∧ H.get q = some (.cells cs 5 1 true))
theorem isHashV.is {H : Heap} {p tt : Nat} {s : List Nat} {vr : V} (hh : isHashV H p tt s vr) : isHash H p tt s := ⟨vr, hh.1, hh.2.1⟩
theorem isHashV_keep {H H' : Heap} {p tt : Nat} {s : List Nat} {vr : V} (hh : isHashV H p tt s vr) (hp : H'.get p = H.get p) (hq : ∀ q n, vr = .slice q 0 n none → H'.get q = H.get q) : isHashV H' p tt s vr := by
  obtain ⟨h1, h2, h3⟩ := hh
  rcases h3 with rfl | ⟨q, n, cs, rfl, h4⟩
  · exact ⟨by rw [hp]; exact h1, (show slB H' .nilslice = slB H .nilslice from rfl).trans h2, .inl rfl⟩
  · have := hq q n rfl
    exact ⟨by rw [hp]; exact h1, by rw [slB_same this]; exact h2, .inr ⟨q, n, cs, rfl, by rw [this]; exact h4⟩⟩
theorem isHashV_ext {H H' : Heap} {p tt : Nat} {s : List Nat} {vr : V} (hh : isHashV H p tt s vr) (hF : Fresh H) (hE : Ext H H') : isHashV H' p tt s vr := by
  obtain ⟨h1, _, h3⟩ := id hh
  refine isHashV_keep hh (by rw [hE.get hF h1, h1]) fun q n hv => ?_
  rcases h3 with rfl | ⟨q', n', cs, rfl, h4⟩
  · cases hv
  · injection hv with e
    subst e
    rw [hE.get hF h4, h4]
theorem isHashV_new (H : Heap) (tt : Nat) : isHashV (H.new (.cells (hashCells h0L 0 .nilslice) tt 1 true)) H.next tt [] .nilslice := by
  refine ⟨by rw [Heap.get_new]; exact if_pos rfl, ?_, .inl rfl⟩
  have : ([] : List Nat).drop (64 * kOf ([] : List Nat).length) = [] := by simp
  rw [this]
  exact slB_nil
theorem hash_writeV {H : Heap} {p tt : Nat} {s b : List Nat} {vb vr : V} (hh : isHashV H p tt s vr) (hF : Fresh H) (hb : slB H vb = some b) (hs : s.length + b.length ≤ 140737488354304) :
    ∃ H' n, s_Write [.ptr p 0, vb] H = some (.undef, H') ∧ isHashV H' p tt (s ++ b) (.slice H.next 0 n none) ∧ H'.next = H.next + 1 ∧ (∀ q, q ≠ p → q < H.next → H'.get q = H.get q) ∧ Fresh H' := by
  obtain ⟨h1, h2, _⟩ := hh
  have hk : kOf s.length = (s.length - 1) / 64 := rfl
  obtain ⟨w1, w2, w3⟩ := write_state s b
  have hlt : ∀ y ∈ s.drop (64 * kOf s.length) ++ b, y < 256 := fun y hy => by
    rcases List.mem_append.1 hy with hy | hy
    · exact slB_lt h2 y hy
    · exact slB_lt hb y hy
  have hl := hbOf_length s
  have hp := hF.lt h1
  refine ⟨(H.set p (some (.cells (hashCells (hbOf (s ++ b)) (64 * (kOf (s ++ b).length : Int)) (newV H ((s ++ b).drop (64 * kOf (s ++ b).length)).length)) tt 1 true))).new (.cells (bytesOf ((s ++ b).drop (64 * kOf (s ++ b).length))) 5 1 true), ((s ++ b).drop (64 * kOf (s ++ b).length)).length, ?_, ?_, by simp, ?_, ?_⟩
  · unfold s_Write
    simp only [h1, hashOf_cells _ _ hl, h2, hb]
    rw [if_pos ⟨hl, by omega, by unfold big; omega, by have hlm : lim = 140737488354304 := rfl; rw [hlm, List.length_append, List.length_drop]; omega⟩, w1, w2, w3]
  · refine ⟨by rw [Heap.get_new, if_neg (by simp; omega), Heap.get_set, if_pos rfl]; rfl, ?_, .inr ⟨H.next, _, _, rfl, by rw [Heap.get_new]; exact if_pos rfl⟩⟩
    rw [← w3] at *
    refine (slB_at (q := H.next) (o := 0) (c := none) (all := (s.drop (64 * kOf s.length) ++ b).drop (64 * kOf (s.drop (64 * kOf s.length) ++ b).length)) (by rw [Heap.get_new]; exact if_pos rfl) (fun y hy => hlt y (List.mem_of_mem_drop hy)) (by omega) (.inl rfl)).trans ?_
    rw [List.drop_zero, List.take_of_length_le (Nat.le_refl _)]
  · intro q hq hqn
    rw [Heap.get_new, if_neg (by simp; omega), Heap.get_set, if_neg hq]
  · exact (hF.set hp _).new _
/-- One hash, and the bytes that it was given. -/
def XInv (h H : Heap) (p : Nat) (s : List Nat) (vr P : V) : Prop := h.next ≤ p ∧ isHashV H p 57 s vr ∧ OwnB h H 5 P s ∧ (∀ y ∈ s, y < 256) ∧ apartV vr P
theorem XInv.ext {h H H' : Heap} {p : Nat} {s : List Nat} {vr P : V} (hx : XInv h H p s vr P) (hF : Fresh H) (hE : Ext H H') : XInv h H' p s vr P := by
  obtain ⟨x1, x2, x3, x4, x5⟩ := hx
  refine ⟨x1, isHashV_ext x2 hF hE, ?_, x4, x5⟩
  rcases x3 with hh | ⟨b, c, k1, k2, k3, k4, k5, k6⟩
  · exact .inl hh
  · exact .inr ⟨b, c, k1, k2, k3, by have := hE.1; omega, k5, hE.get hF k6⟩
theorem apart_step {h H : Heap} {p1 p2 : Nat} {s1 s2 b : List Nat} {vr1 vr2 P Q vb : V} (hf : Fresh h) (hE : Ext h H) (hF : Fresh H) (hp : p1 ≠ p2) (hx : XInv h H p1 s1 vr1 P) (hy : XInv h H p2 s2 vr2 Q) (c1 : apartV P Q) (c2 : apartV vr2 P) (c3 : apartV vr1 Q) (hb : slB h vb = some b) (hs : s1.length + b.length ≤ 1048576) :
    ∃ A1 P' A2 vr1', s_Write [.ptr p1 0, vb] H = some (.undef, A1) ∧ appendV A1 5 1 1 P vb = some (P', A2) ∧ Ext h A1 ∧ Ext h A2 ∧ Fresh A2 ∧ XInv h A2 p1 (s1 ++ b) vr1' P' ∧ XInv h A2 p2 s2 vr2 Q ∧ apartV P' Q ∧ apartV vr2 P' ∧ apartV vr1' Q := by
  obtain ⟨x1, x2, x3, x4, x5⟩ := hx
  obtain ⟨y1, y2, y3, y4, y5⟩ := hy
  have hlm : lim = 140737488354304 := rfl
  obtain ⟨A1, n, r1, r2, r3, r4, r5⟩ := hash_writeV x2 hF (slB_ext hE hf hb) (by omega)
  have e1 : Ext h A1 := ⟨by have := hE.1; omega, fun q hq => by rw [r4 q (by omega) (by have := hE.1; omega)]; exact hE.2 q hq⟩
  -- what is a row of bytes is not the hash
  have nep : ∀ q cs, H.get q = some (.cells cs 5 1 true) → q ≠ p1 := fun q cs hq e => by
    rw [e, x2.1] at hq
    injection hq with hq
    injection hq with _ ht
    exact absurd ht (by decide)
  have keepU : ∀ q cs, H.get q = some (.cells cs 5 1 true) → A1.get q = H.get q := fun q cs hq => r4 q (nep q cs hq) (hF.lt hq)
  have p1lt := hF.lt x2.1
  have p2lt := hF.lt y2.1
  have y2' : isHashV A1 p2 57 s2 vr2 := by
    refine isHashV_keep y2 (r4 p2 (fun e => hp e.symm) p2lt) fun q n hv => ?_
    rcases y2.2.2 with h0 | ⟨q', n', cs, h0, h4⟩
    · rw [h0] at hv; cases hv
    · rw [h0] at hv; injection hv with e; subst e; exact keepU _ cs h4
  have own1 : ∀ {R : V} {s : List Nat}, OwnB h H 5 R s → OwnB h A1 5 R s := fun {R s} ho => by
    rcases ho with hh | ⟨b, c, k1, k2, k3, k4, k5, k6⟩
    · exact .inl hh
    · exact .inr ⟨b, c, k1, k2, k3, by omega, k5, by rw [keepU b _ k6]; exact k6⟩
  have x3' := own1 x3
  have y3' := own1 y3
  obtain ⟨P', A2, a1, a2, a3, a4, a5, a6, a7⟩ := x3'.app e1 r5 (slB_added (slB_ext e1 hf hb)) (by rw [hlm]; omega)
  -- what does not stand in P's block stays
  have blkP : ∀ {b' o n c}, P = .slice b' o n c → ∃ cs, A1.get b' = some (.cells cs 5 1 true) ∧ b' < H.next ∧ n = s1.length := fun {b' o n c} hP => by
    rcases x3 with hh | ⟨b, c, k1, k2, k3, k4, k5, k6⟩
    · rw [hh.1] at hP; cases hP
    · rw [k1] at hP
      injection hP with e1 e2 e3
      subst e1; subst e3
      exact ⟨_, by rw [keepU _ _ k6]; exact k6, k4, rfl⟩
  have keep2 : ∀ q, q < A1.next → (∀ o n c, P ≠ .slice q o n c) → A2.get q = A1.get q := fun q hq hP => a7 q hq fun o c => hP o _ c
  have hashNot : ∀ q cs, A1.get q = some (.cells cs 57 1 true) → ∀ o n c, P ≠ .slice q o n c := fun q cs hq o n c hP => by
    obtain ⟨cs', k1, _⟩ := blkP hP
    rw [hq] at k1
    injection k1 with k1
    injection k1 with _ ht
    exact absurd ht (by decide)
  have x2'' : isHashV A2 p1 57 (s1 ++ b) (.slice H.next 0 n none) := by
    refine isHashV_keep r2 (keep2 p1 (by omega) (hashNot p1 _ r2.1)) fun q n' hv => ?_
    injection hv with e
    subst e
    exact keep2 _ (by omega) fun o n c hP => by obtain ⟨_, _, k, _⟩ := blkP hP; omega
  have y2'' : isHashV A2 p2 57 s2 vr2 := by
    refine isHashV_keep y2' (keep2 p2 (by omega) (hashNot p2 _ y2'.1)) fun q n' hv => ?_
    rcases y2'.2.2 with h0 | ⟨q', n'', cs, h0, h4⟩
    · rw [h0] at hv; cases hv
    · rw [h0] at hv; injection hv with e; subst e
      exact keep2 _ (r5.lt h4) fun o n c hP => c2 _ _ _ _ _ _ _ h0 hP
  have y3'' : OwnB h A2 5 Q s2 := by
    rcases y3' with hh | ⟨b, c, k1, k2, k3, k4, k5, k6⟩
    · exact .inl hh
    · refine .inr ⟨b, c, k1, k2, k3, by omega, k5, ?_⟩
      rw [keep2 b k4 fun o n c hP => c1 _ _ _ _ _ _ _ hP k1]
      exact k6
  have newP : ∀ {b' o n c}, P' = .slice b' o n c → b' = A1.next ∨ ∃ o n c, P = .slice b' o n c := fun {b' o n c} hP => append_block a1 hP
  refine ⟨A1, P', A2, .slice H.next 0 n none, r1, a1, e1, a3, a4, ⟨x1, x2'', a2, fun y hy => ?_, ?_⟩, ⟨y1, y2'', y3'', y4, y5⟩, ?_, ?_, ?_⟩
  · rcases List.mem_append.1 hy with hy | hy
    · exact x4 y hy
    · exact slB_lt hb y hy
  · intro b' o n c o' n' c' h1 h2
    injection h1 with e
    subst e
    rcases newP h2 with k | ⟨_, _, _, k⟩
    · omega
    · obtain ⟨_, _, k, _⟩ := blkP k; omega
  · intro b' o n c o' n' c' h1 h2
    rcases newP h1 with k | ⟨_, _, _, k⟩
    · rcases y3' with hh | ⟨b, c, k1, k2, k3, k4, k5, k6⟩
      · rw [hh.1] at h2; cases h2
      · rw [k1] at h2; injection h2; omega
    · exact c1 _ _ _ _ _ _ _ k h2
  · intro b' o n c o' n' c' h1 h2
    rcases newP h2 with k | ⟨_, _, _, k⟩
    · rcases y2'.2.2 with h0 | ⟨q', n'', cs, h0, h4⟩
      · rw [h0] at h1; cases h1
      · rw [h0] at h1; injection h1 with e; have := r5.lt h4; omega
    · exact c2 _ _ _ _ _ _ _ h1 k
  · intro b' o n c o' n' c' h1 h2
    injection h1 with e
    subst e
    rcases y3 with hh | ⟨b, c, k1, k2, k3, k4, k5, k6⟩
    · rw [hh.1] at h2; cases h2
    · rw [k1] at h2; injection h2; omega

/-- Both hashes, and the bytes that each was given. -/
def DInv (h H : Heap) (p1 p2 : Nat) (s1 s2 : List Nat) (P Q : V) : Prop := ∃ v1 v2, Ext h H ∧ Fresh H ∧ XInv h H p1 s1 v1 P ∧ XInv h H p2 s2 v2 Q ∧ apartV P Q ∧ apartV v2 P ∧ apartV v1 Q
theorem DInv.swap {h H : Heap} {p1 p2 : Nat} {s1 s2 : List Nat} {P Q : V} (hI : DInv h H p1 p2 s1 s2 P Q) : DInv h H p2 p1 s2 s1 Q P := by
  obtain ⟨v1, v2, a, b, c, d, e, f, g⟩ := hI
  exact ⟨v2, v1, a, b, d, c, e.symm, g, f⟩
theorem DInv.step {h H : Heap} {p1 p2 : Nat} {s1 s2 b : List Nat} {P Q vb : V} (hf : Fresh h) (hp : p1 ≠ p2) (hI : DInv h H p1 p2 s1 s2 P Q) (hb : slB h vb = some b) (hs : s1.length + b.length ≤ 1048576) :
    ∃ A1 P' A2, s_Write [.ptr p1 0, vb] H = some (.undef, A1) ∧ appendV A1 5 1 1 P vb = some (P', A2) ∧ Ext h A1 ∧ DInv h A2 p1 p2 (s1 ++ b) s2 P' Q := by
  obtain ⟨v1, v2, a, b', c, d, e, f, g⟩ := hI
  obtain ⟨A1, P', A2, v1', r1, r2, r3, r4, r5, r6, r7, r8, r9, r10⟩ := apart_step hf a b' hp c d e f g hb hs
  exact ⟨A1, P', A2, r1, r2, r3, v1', v2, r4, r5, r6, r7, r8, r9, r10⟩
theorem DInv.ext {h H H' : Heap} {p1 p2 : Nat} {s1 s2 : List Nat} {P Q : V} (hI : DInv h H p1 p2 s1 s2 P Q) (hE : Ext H H') (hF : Fresh H') : DInv h H' p1 p2 s1 s2 P Q := by
  obtain ⟨v1, v2, a, b, c, d, e, f, g⟩ := hI
  exact ⟨v1, v2, a.trans hE, hF, c.ext b hE, d.ext b hE, e, f, g⟩
theorem DInv.sum {h A : Heap} {p1 p2 : Nat} {s1 s2 : List Nat} {P Q : V} (hI : DInv h A p1 p2 s1 s2 P Q) (hs : s1.length ≤ 1048576) :
    s_HSum [.ptr p1 0] A = some (.agg (bytesOf (hashF s1)), A) ∧ s_SumB [.slice A.next 0 1 (some 1)] (A.new (.cells [P] 28 1 true)) = some (.agg (bytesOf (hashF s1)), A.new (.cells [P] 28 1 true)) ∧ P.one = true ∧ P.cells = [P] ∧ slB A P = some s1 ∧ DInv h (A.new (.cells [P] 28 1 true)) p1 p2 s1 s2 P Q := by
  have hlm : lim = 140737488354304 := rfl
  obtain ⟨v1, v2, a, b, c, d, e, f, g⟩ := id hI
  obtain ⟨x1, x2, x3, x4, x5⟩ := c
  have sp : slB A P = some s1 := x3.slB x4
  have hsl := slB_isSl sp
  refine ⟨hash_ret x2.is (by omega), sum_one (by rw [Heap.get_new]; exact if_pos rfl) (slB_ext (Ext.new A _) b sp) (by omega), ?_, ?_, sp, hI.ext (Ext.new A _) (b.new _)⟩
  · cases P <;> first | rfl | (simp [isSl] at hsl)
  · cases P <;> first | rfl | (simp [isSl] at hsl)
theorem flat_len (ss : List (List Nat)) (i : Nat) : (ss.take i).flatten.length ≤ ss.flatten.length := by
  have : ss.flatten = (ss.take i).flatten ++ (ss.drop i).flatten := by rw [← List.flatten_append, List.take_append_drop]
  rw [this, List.length_append]; omega
theorem apart_loop (cf : ACall) (hWrite : ∀ a h, cf 19 a h = s_Write a h) (hHSum : ∀ a h, cf 18 a h = s_HSum a h) (hSum : ∀ a h, cf 20 a h = s_SumB a h)
    (h : Heap) (hf : Fresh h) (va vb : V) (xs ys : List V) (sa sb : List (List Nat)) (p1 p2 : Nat) (hne : p1 ≠ p2) (hva : sl h 1 va = some xs) (hvb : sl h 1 vb = some ys) (hxs : slBs h xs = some sa) (hys : slBs h ys = some sb)
    (hba : sa.flatten.length ≤ 1048576) (hbb : sb.flatten.length ≤ 1048576) :
    ∀ e H, e.n = 80 → e.at 0 = va → e.at 1 = vb → e.at 5 = .ptr p1 0 → e.at 6 = .ptr p2 0 → e.at 7 = .nilslice → e.at 8 = .nilslice → e.at 9 = .int .i64 0 → DInv h H p1 p2 [] [] .nilslice .nilslice →
    YtjdofdokdemnkaaA.Ends (execA cf 30 (.loop c9_l0) e H) fun x e' H' => x = .exit 0 ∧ e'.n = 80 ∧ DInv h H' p1 p2 (sa.take 12).flatten (sb.take 12).flatten (e'.at 7) (e'.at 8) := by
  intro e H hn q0 q1 q5 q6 q7 q8 q9 hI
  have hxl : xs.length = sa.length := (slBs_get hxs).1
  have hyl : ys.length = sb.length := (slBs_get hys).1
  have hal : vlen va = sa.length := by rw [← hxl]; exact rd_vlen (sl_rd hva)
  have hbl : vlen vb = sb.length := by rw [← hyl]; exact rd_vlen (sl_rd hvb)
  have has := sl_isSl hva
  have hbs := sl_isSl hvb
  refine loop_count (cf := cf) (N := 30) (c := c9_l0) 12
    (fun i e H => e.n = 80 ∧ e.at 0 = va ∧ e.at 1 = vb ∧ e.at 5 = .ptr p1 0 ∧ e.at 6 = .ptr p2 0 ∧ e.at 9 = .int .i64 (i : Int) ∧ DInv h H p1 p2 (sa.take i).flatten (sb.take i).flatten (e.at 7) (e.at 8))
    (fun x e' H' => x = .exit 0 ∧ e'.n = 80 ∧ DInv h H' p1 p2 (sa.take 12).flatten (sb.take 12).flatten (e'.at 7) (e'.at 8)) ?_ ?_ 0 e _ (Nat.zero_le _) ⟨hn, q0, q1, q5, q6, q9, by rw [q7, q8]; exact hI⟩ (by omega)
  · rintro i e H hi ⟨hn, q0, q1, q5, q6, q9, hI⟩
    generalize q7 : e.at 7 = P at hI
    generalize q8 : e.at 8 = Q at hI
    have hi12 : (i : Int) < 12 := by omega
    have wi : wrapF .i64 ((i : Int) + 1) = (i : Int) + 1 := wrap_i64 (by omega) (by omega)
    have ov : ∀ u, over [V.nilslice] 0 [u] = [u] := fun _ => rfl
    have tk : ∀ {ss : List (List Nat)}, ¬ i < ss.length → (ss.take (i + 1)).flatten = (ss.take i).flatten := fun {ss} hn => by rw [List.take_of_length_le (by omega), List.take_of_length_le (by omega)]
    have tk1 : ∀ {ss : List (List Nat)}, i < ss.length → (ss.take (i + 1)).flatten = (ss.take i).flatten ++ ss.getD i [] := fun {ss} hn => by
      rw [List.take_succ_eq_append_getElem hn, List.flatten_append, List.getD_eq_getElem?_getD, List.getElem?_eq_getElem hn]; simp
    have e1 : ∀ s H, eqArrS true 32 (.agg (bytesOf (hashF s))) (.agg (bytesOf (hashF s))) H = some (.bool false, H) := fun s H => by
      simp only [eqArrS, bytesOf_length, hashF_length, and_self, if_true, eqInts_same, Option.map_some]
      rfl
    have exI : ∀ {K s1 s2 P Q}, DInv h K p1 p2 s1 s2 P Q → Ext h K := fun hI => hI.choose_spec.choose_spec.1
    have ix1 : ∀ {v : V} {m : Nat}, i < m → vlen v = m → isSl v = true → ∀ K, indexAddrSS 1 v (.int .i64 (i : Int)) K = some (atP v i, K) := fun {v m} h1 h2 h3 K => by
      have := indexE (z := 1) h3 K (k := .i64) (i := (i : Int)) (by omega) (by omega)
      simpa only [Int.toNat_natCast, Nat.mul_one] using this
    by_cases ha : i < sa.length
    · have hXX := ha
      have haI : (i : Int) < (sa.length : Int) := by omega
      obtain ⟨w, hw1, hw2⟩ := (slBs_get hxs).2 ha
      obtain ⟨A1, P', A2, r1, r2, r3, hI2⟩ := hI.step hf hne hw2 (by have := flat_len sa (i + 1); rw [tk1 ha, List.length_append] at this; omega)
      rw [← tk1 ha] at hI2
      have ixa := ix1 ha hal has
      have lda : ∀ K, Ext h K → loadS (atP va i) K = some (w, K) := fun K hK => rd_load (sl_rd (sl_ext hK hf hva)) hw1
      have lda1 := lda H (exI hI)
      have lda2 := lda A1 r3
      by_cases hb : i < sb.length
      · have hYY := hb
        have hbI : (i : Int) < (sb.length : Int) := by omega
        obtain ⟨u, hu1, hu2⟩ := (slBs_get hys).2 hb
        obtain ⟨B1, Q', B2, t1, t2, t3, hI3⟩ := hI2.swap.step hf hne.symm hu2 (by have := flat_len sb (i + 1); rw [tk1 hb, List.length_append] at this; omega)
        rw [← tk1 hb] at hI3
        replace hI3 := hI3.swap
        have ixb := ix1 hb hbl hbs
        have ldb : ∀ K, Ext h K → loadS (atP vb i) K = some (u, K) := fun K hK => rd_load (sl_rd (sl_ext hK hf hvb)) hu1
        have ldb1 := ldb A2 (exI hI2)
        have ldb2 := ldb B1 t3
        obtain ⟨f1, f2, o1, o2, _, hI4⟩ := hI3.sum (by have := flat_len sa (i + 1); omega)
        obtain ⟨C1, hC1⟩ : ∃ A, A = B2.new (.cells [P'] 28 1 true) := ⟨_, rfl⟩
        rw [← hC1] at f2 hI4
        obtain ⟨g1, g2, o3, o4, _, hI5⟩ := hI4.swap.sum (by have := flat_len sb (i + 1); omega)
        obtain ⟨C2, hC2⟩ : ∃ A, A = C1.new (.cells [Q'] 28 1 true) := ⟨_, rfl⟩
        rw [← hC2] at g2 hI5
        simp (config := {maxSteps := 1000000, maxDischargeDepth := 9, implicitDefEqProofs := false}) [c9_l0, hn, q0, q1, q5, q6, q7, q8, q9, hi12, lenE has, lenE hbs, hal, hbl, haI, hbI, ha, hb, hWrite, hHSum, hSum, ixa, lda1, r1, lda2, r2, ixb, ldb1, t1, ldb2, t2, f1, o1, o2, ov, ← hC1, f2, e1, g1, o3, o4, ← hC2, g2, wi, -over]
        exact hI5.swap
      · have hYY := hb
        have hbI : ¬ (i : Int) < (sb.length : Int) := by omega
        have hI3 := hI2
        rw [← tk hb] at hI3
        obtain ⟨f1, f2, o1, o2, _, hI4⟩ := hI3.sum (by have := flat_len sa (i + 1); omega)
        obtain ⟨C1, hC1⟩ : ∃ A, A = A2.new (.cells [P'] 28 1 true) := ⟨_, rfl⟩
        rw [← hC1] at f2 hI4
        obtain ⟨g1, g2, o3, o4, _, hI5⟩ := hI4.swap.sum (by have := flat_len sb (i + 1); omega)
        obtain ⟨C2, hC2⟩ : ∃ A, A = C1.new (.cells [Q] 28 1 true) := ⟨_, rfl⟩
        rw [← hC2] at g2 hI5
        simp (config := {maxSteps := 1000000, maxDischargeDepth := 9, implicitDefEqProofs := false}) [c9_l0, hn, q0, q1, q5, q6, q7, q8, q9, hi12, lenE has, lenE hbs, hal, hbl, haI, hbI, ha, hb, hWrite, hHSum, hSum, ixa, lda1, r1, lda2, r2, f1, o1, o2, ov, ← hC1, f2, e1, g1, o3, o4, ← hC2, g2, wi, -over]
        exact hI5.swap
    · have hXX := ha
      have haI : ¬ (i : Int) < (sa.length : Int) := by omega
      have hI2 := hI
      rw [← tk ha] at hI2
      by_cases hb : i < sb.length
      · have hYY := hb
        have hbI : (i : Int) < (sb.length : Int) := by omega
        obtain ⟨u, hu1, hu2⟩ := (slBs_get hys).2 hb
        obtain ⟨B1, Q', B2, t1, t2, t3, hI3⟩ := hI2.swap.step hf hne.symm hu2 (by have := flat_len sb (i + 1); rw [tk1 hb, List.length_append] at this; omega)
        rw [← tk1 hb] at hI3
        replace hI3 := hI3.swap
        have ixb := ix1 hb hbl hbs
        have ldb : ∀ K, Ext h K → loadS (atP vb i) K = some (u, K) := fun K hK => rd_load (sl_rd (sl_ext hK hf hvb)) hu1
        have ldb1 := ldb H (exI hI2)
        have ldb2 := ldb B1 t3
        obtain ⟨f1, f2, o1, o2, _, hI4⟩ := hI3.sum (by have := flat_len sa (i + 1); omega)
        obtain ⟨C1, hC1⟩ : ∃ A, A = B2.new (.cells [P] 28 1 true) := ⟨_, rfl⟩
        rw [← hC1] at f2 hI4
        obtain ⟨g1, g2, o3, o4, _, hI5⟩ := hI4.swap.sum (by have := flat_len sb (i + 1); omega)
        obtain ⟨C2, hC2⟩ : ∃ A, A = C1.new (.cells [Q'] 28 1 true) := ⟨_, rfl⟩
        rw [← hC2] at g2 hI5
        simp (config := {maxSteps := 1000000, maxDischargeDepth := 9, implicitDefEqProofs := false}) [c9_l0, hn, q0, q1, q5, q6, q7, q8, q9, hi12, lenE has, lenE hbs, hal, hbl, haI, hbI, ha, hb, hWrite, hHSum, hSum, ixb, ldb1, t1, ldb2, t2, f1, o1, o2, ov, ← hC1, f2, e1, g1, o3, o4, ← hC2, g2, wi, -over]
        exact hI5.swap
      · have hYY := hb
        have hbI : ¬ (i : Int) < (sb.length : Int) := by omega
        have hI3 := hI2
        rw [← tk hb] at hI3
        obtain ⟨f1, f2, o1, o2, _, hI4⟩ := hI3.sum (by have := flat_len sa (i + 1); omega)
        obtain ⟨C1, hC1⟩ : ∃ A, A = H.new (.cells [P] 28 1 true) := ⟨_, rfl⟩
        rw [← hC1] at f2 hI4
        obtain ⟨g1, g2, o3, o4, _, hI5⟩ := hI4.swap.sum (by have := flat_len sb (i + 1); omega)
        obtain ⟨C2, hC2⟩ : ∃ A, A = C1.new (.cells [Q] 28 1 true) := ⟨_, rfl⟩
        rw [← hC2] at g2 hI5
        simp (config := {maxSteps := 1000000, maxDischargeDepth := 9, implicitDefEqProofs := false}) [c9_l0, hn, q0, q1, q5, q6, q7, q8, q9, hi12, lenE has, lenE hbs, hal, hbl, haI, hbI, ha, hb, hWrite, hHSum, hSum, wi, f1, o1, o2, ov, ← hC1, f2, e1, g1, o3, o4, ← hC2, g2, wi, -over]
        exact hI5.swap
  · rintro e H ⟨hn, q0, q1, q5, q6, q9, hI⟩
    simp (config := {maxSteps := 1000000, maxDischargeDepth := 9, implicitDefEqProofs := false}) [c9_l0, hn, q9]
    exact hI
theorem law_BlakeApart (cf : ACall) (hknown : ∀ a h, cf 17 a h = s_known7 a h) (hFew : ∀ a h, cf 21 a h = s_Few a h) (hNew : ∀ a h, cf 16 a h = s_New a h) (hWrite : ∀ a h, cf 19 a h = s_Write a h) (hHSum : ∀ a h, cf 18 a h = s_HSum a h) (hSum : ∀ a h, cf 20 a h = s_SumB a h)
    (h : Heap) (va vb : V) (xs ys : List V) (sa sb : List (List Nat)) (hf : Fresh h) (hva : sl h 1 va = some xs) (hvb : sl h 1 vb = some ys) (hxs : slBs h xs = some sa) (hys : slBs h ys = some sb)
    (hba : sa.flatten.length ≤ 1048576) (hbb : sb.flatten.length ≤ 1048576) :
    ∃ N, Runs (bodyA cf N c9 [va, vb] h) fun v _ => v = .bool true := by
  have hlm : lim = 140737488354304 := rfl
  obtain ⟨H0, hH0⟩ : ∃ A, A = h.new (.cells (hashCells h0L 0 .nilslice) 57 1 true) := ⟨_, rfl⟩
  have n0 : H0.next = h.next + 1 := by rw [hH0]; rfl
  have f0 : Fresh H0 := by rw [hH0]; exact hf.new _
  have e0 : Ext h H0 := by rw [hH0]; exact Ext.new h _
  obtain ⟨H1, hH1⟩ : ∃ A, A = H0.new (.cells (hashCells h0L 0 .nilslice) 57 1 true) := ⟨_, rfl⟩
  have f1 : Fresh H1 := by rw [hH1]; exact f0.new _
  have e1 : Ext H0 H1 := by rw [hH1]; exact Ext.new H0 _
  have rN0 : s_New [] h = some (.ptr h.next 0, H0) := by rw [hH0]; rfl
  have rN1 : s_New [] H0 = some (.ptr (h.next + 1) 0, H1) := by rw [hH1, ← n0]; rfl
  have hI : DInv h H1 h.next (h.next + 1) [] [] .nilslice .nilslice := by
    refine ⟨.nilslice, .nilslice, e0.trans e1, f1, ⟨Nat.le_refl _, ?_, .inl ⟨rfl, rfl, rfl⟩, fun y hy => (List.not_mem_nil hy).elim, apartV_nil _⟩, ⟨Nat.le_succ _, ?_, .inl ⟨rfl, rfl, rfl⟩, fun y hy => (List.not_mem_nil hy).elim, apartV_nil _⟩, apartV_nil _, apartV_nil _, apartV_nil _⟩
    · exact isHashV_ext (by rw [hH0]; exact isHashV_new h _) f0 e1
    · rw [hH1, ← n0]; exact isHashV_new H0 _
  have rk : s_known7 [] H1 = some (.bool true, H1) := rfl
  refine ⟨30, ?_⟩
  simp (config := {maxSteps := 1000000, maxDischargeDepth := 9, implicitDefEqProofs := false}) [c9, hNew, rN0, rN1, hknown, rk]
  refine loop_then (K := fun r => finS _ (seqS _ _ _ (blockS _ r))) (apart_loop cf hWrite hHSum hSum h hf va vb xs ys sa sb h.next (h.next + 1) (by omega) hva hvb hxs hys hba hbb _ _ ?_ ?_ ?_ ?_ ?_ ?_ ?_ ?_ hI) ?_
  iterate 8 simp (config := {maxSteps := 1000000, maxDischargeDepth := 9, implicitDefEqProofs := false})
  rintro x e' H ⟨rfl, hn', hJ⟩
  generalize q7 : e'.at 7 = P at hJ
  generalize q8 : e'.at 8 = Q at hJ
  have hsm := flat_len sa 12
  generalize (sa.take 12).flatten = s at *
  obtain ⟨f1, f2, o1, o2, sp, hI4⟩ := hJ.sum (by omega)
  have hF : Fresh H := hJ.choose_spec.choose_spec.2.1
  have hsl := slB_isSl sp
  have hvl := slB_vlen sp
  have hl1 : s.length ≤ 140737488354304 := by omega
  have hlt : ∀ y ∈ s, y < 256 := slB_lt sp
  obtain ⟨H2, hH2⟩ : ∃ A, A = H.new (.cells (bytesOf s) 5 1 true) := ⟨_, rfl⟩
  have rF : s_Few [P, .int .i64 (s.length : Int)] H = some (.slice H.next 0 s.length none, H2) := by
    simp only [s_Few, sp]
    rw [if_pos ⟨by omega, by omega⟩, Int.toNat_natCast, List.take_length, hH2]; rfl
  have sn : slB H2 (.slice H.next 0 s.length none) = some s := by
    have := slB_at (H := H2) (q := H.next) (o := 0) (n := s.length) (c := none) (own := true) (t := 5) (all := s) (by rw [hH2, Heap.get_new]; exact if_pos rfl) hlt (by omega) (.inl rfl)
    rw [List.drop_zero, List.take_length] at this
    exact this
  have b1 : bytesStrS (.slice H.next 0 s.length none) H2 = some (.str s, H2) := rdB_str (slB_rdB sn)
  have b2 : bytesStrS P H = some (.str s, H) := rdB_str (slB_rdB sp)
  have b3 : bytesStrS P H2 = some (.str s, H2) := rdB_str (slB_rdB (slB_ext (by rw [hH2]; exact Ext.new H _) hF sp))
  simp (config := {maxSteps := 1000000, maxDischargeDepth := 9, implicitDefEqProofs := false}) [hn', q7, hFew, rF, lenE hsl, hvl, b1, b2, b3]

end
end Go.Proofs.Ytjdofdokdemnkaa.BlakeApart
