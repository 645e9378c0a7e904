/- What the functions that the law KdfChains reaches do, each told once, and the law by them. No condition. -/
import Derived.Test.YtobnkgajgodioaaDoorCodeKdfChains
namespace Go.Proofs.YtobnkgajgodioaaDoor.KdfChains
open Go Go.Proofs.YtobnkgajgodioaaDoorA
set_option linter.unusedSimpArgs false
set_option linter.unusedVariables false
set_option maxHeartbeats 4000000
set_option maxRecDepth 100000
attribute [local simp] body_eq exec_seq exec_region exec_skip exec_ret exec_exit exec_cond exec_block seqS_normal seqS_ret seqS_exit seqS_none seqS_bif regS_some regS_none regS_bif condS_bool condS_true
  condS_false blockS_normal blockS_ret blockS_exit blockS_none blockS_bif finS_normal finS_ret finS_bif steps_nil steps_cons steps_guard bindS_some bindS_none bindS_bif endS_some
  endS_skip endS_none endS_bif gstep_some gstep_true gstep_false wantV_true wantV_false wantV_undef wantV_gdv_true wantV_gdv_false gdv_true gdv_false aop_pick pickS_or pickS_and
  pickS_true pickS_false bif_bool put_some put_none Env.at_put Env.n_put at_init n_init Opd.ev ressA resA pack Heap.get_new Heap.get_set nextOf_new Heap.next_set nth fillV zeros over
  eqv read_eq read_zero readB_cells one_bool one_int one_str one_ptr one_nilptr one_slice one_nilslice cells_bool cells_int cells_str cells_ptr cells_nilptr cells_slice
  cells_nilslice cells_agg aop_move aop_box aop_boxv boxvS_agg boxvS_int boxvS_bool boxvS_str boxvS_slice boxvS_nilslice aop_build buildS_some aop_buildSlice buildSliceS_some
  aop_load loadS_ptr loadB_cells loadC_some aop_loadn loadnS_ptr aop_store storeS_ptr writeB_cells aop_bin binS_lss binS_leq binS_gtr binS_geq binS_eql binS_neq binS_add binS_sub
  binS_mul binS_quo binS_rem binS_and binS_or binS_xor binS_shl binS_shr binS_seql binS_sneq binS_sadd aop_eq eqS_some_f eqS_some_t aop_un unS_not unS_neg aop_conv convS_int
  aop_convStr convStrS_str aop_intStr intStrS_int aop_strBytes strBytesS_str aop_bytesStr bytesStrS_nil bytesStrS_slice aop_mkIface aop_mkFunc aop_makeSlice makeS_int aop_sliceStr
  sliceStrS_str sliceStrB_some someS_some aop_sliceSl aop_sliceArr sliceArrS_ptr aop_fieldAddr fieldAddrS_ptr aop_field fieldS_agg fieldS_aggn aop_indexAddrA indexAddrAS_ptr
  aop_indexAddrS indexAddrSS_slice aop_indexA indexAS_agg byteS_some aop_indexStr indexStrS_str aop_extract extractS_tuple aop_call callS_func aop_append aop_copy aop_lenS lenSS_str
  aop_lenL lenLS_nil lenLS_slice aop_minmax minmaxS_min minmaxS_max aop_convSame convSameS_slice convSameB_cells aop_lenC Heap.set_newE Heap.kill_newE Heap.set_new_ne
  Heap.set_gone_ne Heap.set_set Heap.get_gone Heap.next_gone loopE_n loopE_at Runs_some Ends_some Ends_none Runs_none VCL_nil VCL_cons VC_tuple VC_agg VC_bool VC_int VC_str VC_nil
  VC_nilptr VC_ptr VC_slice_nn VC_slice_ns VC_slice_s moved_at most_val lim_val next_add vlen_slice vlen_nil isSl_slice isSl_nil atP_slice newV sl_new slB_new slK_new sl_gone
  slB_gone slK_gone lt_slice lt_nil lt_ptr lt_cut sl_selfE slB_litE slK_litE asB asB_bytesOf asK asK_map slB_nil slK_nil slBs Fresh.new Fresh.gone indexE bytesStrE loadBE slice_lo
  slice_hi slice_lohi slB_cut vlen_cut isSl_cut one_cut cells_cut lenE aop_nilCheck nilCheckS_ptr aop_appendZ aop_eqArr IntKind.bits Int.fdiv_eq_ediv_of_nonneg bytesOf_length
  sameV_refl gval_true gval_false gval_some traceA_nil traceA_cons consT_some mapT_some stepV_none stepV_guard exec_any anyS_some chkOk_nil chkOk_cons sameS_some chk2_some chk1_eq
  envL_nil envL_cons heapL_nil heapL_cons heapO_some heapB_zero heapB_succ isWriter nth_bytesOf nth_ints str_hi str_lo wrap_i64 wrap_i32 wrap_u64 wrap_u32 wrap_u8 exec_float
  fltS_some traceG_nil traceG_cons consG_some viewS_some stepF_bif floatS_float isF isAlloc isReader actH_nil actH_cons1 act1_new act1_bare act1_new0 act1_bare0 read_gap sl_gap
  slB_gap slK_gap get_gap next_gap Fresh.gap
attribute [local congr] gstep_congr gval_congr
noncomputable section
/-- A number of the first bytes, as it is gathered. -/
def orU (a b : Int) : Int := wrapF .u64 (((a % 18446744073709551616).toNat ||| (b % 18446744073709551616).toNat : Nat) : Int)
def getU (s : List Nat) : Nat → Int
  | 0 => 0
  | i + 1 => orU (getU s i) (wrapF .u64 ((s.getD i 0 : Int) * 2 ^ (8 * i)))

/-- octet.get. -/
def s_get : List V → Heap → Option (V × Heap)
  | [v, .int .i64 n], h => match slB h v with
    | some s => if 0 ≤ n ∧ n ≤ 8 then some (if (s.length : Int) < n then .tuple [.int .u64 0, .bool false] else .tuple [.int .u64 (getU s n.toNat), .bool true], h) else none
    | none => none
  | _, _ => none

theorem get_ok (cf : ACall) : Sum cf c34 s_get := by
  intro args h v h' hf hsc hlt hs
  unfold s_get at hs
  split at hs
  · rename_i vb n0
    split at hs
    · rename_i s hb
      split at hs
      · rename_i hn0
        simp only [Option.some.injEq, Prod.mk.injEq] at hs
        obtain ⟨rfl, rfl⟩ := hs
        obtain ⟨n, rfl⟩ : ∃ n : Nat, n0 = (n : Int) := ⟨n0.toNat, by omega⟩
        have hn8 : n ≤ 8 := by omega
        have hsl := slB_isSl hb
        have hvl := slB_vlen hb
        simp only [Int.toNat_natCast] at *
        refine ⟨n + 1, ?_⟩
        by_cases hc : s.length < n
        · have hc' : ((s.length : Int) < (n : Int)) := by omega
          rw [if_pos hc']
          simp (config := {maxSteps := 1000000, maxDischargeDepth := 9, implicitDefEqProofs := false}) [c34, hsl, hvl, hc]
          exact Canon.keep hf hsc (Ext.refl _) (by simp [V.lt, ltL])
        · have hc' : ¬ ((s.length : Int) < (n : Int)) := by omega
          rw [if_neg hc']
          have L := loop_count (cf := cf) (N := n + 1) (c := c34_l0) n
            (fun i e H => e.n = 28 ∧ e.at 0 = vb ∧ e.at 6 = .int .u64 (getU s i) ∧ e.at 12 = .int .i64 (n : Int) ∧ e.at 13 = .int .i64 (i : Int) ∧ H = h)
            (fun x' e H => x' = .exit 0 ∧ e.n = 28 ∧ e.at 6 = .int .u64 (getU s n) ∧ H = h)
            (by
              rintro i e H hi ⟨hn, h0, h6, h12, h13, rfl⟩
              have hsh : (8 * (i : Int)).toNat = 8 * i := by omega
              have hmin : min (8 * i) 64 = 8 * i := by omega
              have hw : wrapF .i64 (8 * (i : Int)) = 8 * (i : Int) := wrap_i64 (by omega) (by omega)
              have hby := slB_lt hb (s.getD i 0) (by rw [List.getD_eq_getElem?_getD, List.getElem?_eq_getElem (by omega)]; simp)
              have hwb : wrapF .u64 ((s.getD i 0 : Nat) : Int) = ((s.getD i 0 : Nat) : Int) := wrap_u64 (by omega) (by omega)
              rw [List.getD_eq_getElem?_getD, List.getElem?_eq_getElem (by omega), Option.getD_some] at hwb
              have hgu : getU s (i + 1) = orU (getU s i) (wrapF .u64 ((s[i] : Int) * 2 ^ (8 * i))) := by
                simp only [getU]; rw [List.getD_eq_getElem?_getD, List.getElem?_eq_getElem (by omega), Option.getD_some]
              simp (config := {maxSteps := 1000000, maxDischargeDepth := 9, implicitDefEqProofs := false}) [c34_l0, hn, h0, h6, h12, h13, hi, hsl, hvl, show i < s.length from by omega, hb, hw, hsh, hmin, hwb, hgu, orU, modK, show ¬ (8 * (i : Int) < 0) from by omega, wrap_i64 (x := (i : Int) + 1) (by omega) (by omega)])
            (by
              rintro e H ⟨hn, h0, h6, h12, h13, rfl⟩
              simp (config := {maxSteps := 1000000, maxDischargeDepth := 9, implicitDefEqProofs := false}) [c34_l0, hn, h0, h6, h12, h13])
          simp (config := {maxSteps := 1000000, maxDischargeDepth := 9, implicitDefEqProofs := false}) [c34, hsl, hvl, hc]
          refine loop_then (K := fun r => finS _ (seqS _ _ _ (blockS _ r))) (L 0 _ _ (Nat.zero_le _) ?_ (Nat.lt_succ_self _)) ?_
          · simp (config := {maxSteps := 1000000, maxDischargeDepth := 9, implicitDefEqProofs := false}) [getU]
          · rintro x e' H ⟨rfl, hn, h6, rfl⟩
            simp (config := {maxSteps := 1000000, maxDischargeDepth := 9, implicitDefEqProofs := false}) [hn, h6]
            exact Canon.keep hf hsc (Ext.refl _) (by simp [V.lt, ltL])
      · cases hs
    · cases hs
  · cases hs

/-- octet.Get32. -/
def s_Get32 : List V → Heap → Option (V × Heap)
  | [v], h => match slB h v with
    | some s => some (if (s.length : Int) < 4 then .tuple [.int .u32 0, .bool false] else .tuple [.int .u32 (wrapF .u32 (getU s 4)), .bool true], h)
    | none => none
  | _, _ => none

theorem Get32_ok (cf : ACall) (hget : ∀ a h, cf 34 a h = s_get a h) : Sum cf c29 s_Get32 := by
  intro args h v h' hf hsc hlt hs
  unfold s_Get32 at hs
  split at hs
  · rename_i vb
    split at hs
    · rename_i s hb
      simp only [Option.some.injEq, Prod.mk.injEq] at hs
      obtain ⟨rfl, rfl⟩ := hs
      refine ⟨1, ?_⟩
      by_cases hc : (s.length : Int) < 4
      · simp (config := {maxSteps := 1000000, maxDischargeDepth := 9, implicitDefEqProofs := false}) [c29, hget, s_get, hb, hc]
        exact Canon.keep hf hsc (Ext.refl _) (by simp [V.lt, ltL])
      · simp (config := {maxSteps := 1000000, maxDischargeDepth := 9, implicitDefEqProofs := false}) [c29, hget, s_get, hb, hc]
        exact Canon.keep hf hsc (Ext.refl _) (by simp [V.lt, ltL])
    · cases hs
  · cases hs

/-- octet.Join: rows of bytes, one behind the other, in new memory. -/
def s_Join : List V → Heap → Option (V × Heap)
  | [vl], h => match sl h 1 vl with
    | some vs => match slBs h vs with
      | some ss => if ss.flatten.length ≤ lim ∧ ss.length ≤ lim then some (newV h ss.flatten.length, h.new (.cells (bytesOf ss.flatten) 5 1 true)) else none
      | none => none
    | none => none
  | _, _ => none

theorem Join_ok (cf : ACall) : Sum cf c16 s_Join := by
  intro args h v h' hf hsc hlt hs
  unfold s_Join at hs
  split at hs
  · rename_i vl
    split at hs
    · rename_i vs hvl
      split at hs
      · rename_i ss hss
        split at hs
        · rename_i hl
          simp only [Option.some.injEq, Prod.mk.injEq] at hs
          obtain ⟨rfl, rfl⟩ := hs
          obtain ⟨hl, hl2⟩ := hl
          have hlim : lim = 140737488354304 := rfl
          obtain ⟨hlen, hget⟩ := slBs_get hss
          have hvlen : vlen vl = ss.length := by have := rd_vlen (sl_rd hvl); omega
          have hsl := sl_isSl hvl
          refine ⟨ss.length + 1, ?_⟩
          have L := loop_count (cf := cf) (N := ss.length + 1) (c := c16_l0) ss.length
            (fun i e H => e.n = 18 ∧ e.at 7 = vl ∧ e.at 8 = .int .i64 (ss.length : Int) ∧ e.at 9 = .int .i64 (i : Int) ∧ OwnB h H 5 (e.at 3) ((ss.take i).flatten) ∧ Ext h H ∧ Fresh H ∧ e.at 3 ≠ .nilslice)
            (fun x e H => x = .exit 0 ∧ e.n = 18 ∧ OwnB h H 5 (e.at 3) ss.flatten ∧ Ext h H ∧ Fresh H ∧ e.at 3 ≠ .nilslice)
            (by
              rintro i e H hi ⟨hn, h7, h8, h9, ho, hE, hF, hne⟩
              obtain ⟨w, hw1, hw2⟩ := hget hi
              have hload := rd_load (sl_rd (sl_ext hE hf hvl)) hw1
              have hidx := indexE (z := 1) hsl H (k := .i64) (i := (i : Int)) (by omega) (by omega)
              simp only [Int.toNat_natCast, Nat.mul_one] at hidx
              obtain ⟨v2, h2, k1, k2, k3, k4, _, k6, _⟩ := ho.app hE hF (slB_added (slB_ext hE hf hw2)) (by
                have h1 := congrArg List.length (take_flatten_succ ss i hi)
                have h2 : ((ss.take (i + 1)).flatten).length ≤ ss.flatten.length := by
                  have := congrArg List.length (congrArg List.flatten (List.take_append_drop (i + 1) ss))
                  rw [List.flatten_append, List.length_append] at this; omega
                rw [List.length_append] at h1; omega)
              simp (config := {maxSteps := 1000000, maxDischargeDepth := 9, implicitDefEqProofs := false}) [c16_l0, hn, h7, h8, h9, hidx, hload, k1, hi, wrap_i64 (x := (i : Int) + 1) (by omega) (by omega)]
              rw [take_flatten_succ ss i hi]
              exact ⟨k2, k3, k4, k6 hne⟩)
            (by
              rintro e H ⟨hn, h7, h8, h9, ho, hE, hF, hne⟩
              rw [List.take_length] at ho
              simp (config := {maxSteps := 1000000, maxDischargeDepth := 9, implicitDefEqProofs := false}) [c16_l0, hn, h7, h8, h9]
              exact ⟨ho, hE, hF, hne⟩)
          simp (config := {maxSteps := 1000000, maxDischargeDepth := 9, implicitDefEqProofs := false}) [c16, lenE hsl, hvlen, -List.length_flatten]
          refine loop_then (K := fun r => finS _ (seqS _ _ _ (blockS _ r))) (L 0 _ _ (Nat.zero_le _) ?_ (Nat.lt_succ_self _)) ?_
          · simp (config := {maxSteps := 1000000, maxDischargeDepth := 9, implicitDefEqProofs := false})
            exact ⟨by simpa using OwnB.start h 5, Ext.new h _, hf.new _⟩
          · rintro x e' H ⟨rfl, hn, ho, hE, hF, hne⟩
            simp (config := {maxSteps := 1000000, maxDischargeDepth := 9, implicitDefEqProofs := false}) [hn, -List.length_flatten]
            exact ho.canon hf hsc hE hne
        · cases hs
      · cases hs
    · cases hs
  · cases hs

/-- A word turned left. -/
def rotl (x : Int) (k : Nat) : Int := wrapF .u32 (((wrapF .u32 (x * 2 ^ k) % 4294967296).toNat ||| ((x / 2 ^ (32 - k)) % 4294967296).toNat : Nat) : Int)

/-- bits.RotateLeft32, by -16, -12, -8 or -7. -/
def s_RotN : List V → Heap → Option (V × Heap)
  | [.int .u32 x, .int .i64 k], h => if k = -16 then some (.int .u32 (rotl x 16), h) else if k = -12 then some (.int .u32 (rotl x 20), h) else if k = -8 then some (.int .u32 (rotl x 24), h) else if k = -7 then some (.int .u32 (rotl x 25), h) else none
  | _, _ => none
theorem RotN_ok (cf : ACall) : Sum cf c31 s_RotN := by
  intro args h v h' hf hsc hlt hs
  unfold s_RotN at hs
  have w1 : wrapF .u64 (-16) = 18446744073709551600 := by decide
  have w2 : wrapF .u64 (-12) = 18446744073709551604 := by decide
  have w3 : wrapF .u64 (-8) = 18446744073709551608 := by decide
  have w4 : wrapF .u64 (-7) = 18446744073709551609 := by decide
  split at hs
  · rename_i x k
    refine ⟨1, ?_⟩
    (repeat' split at hs) <;> first
      | (cases hs; done)
      | (rename_i hk
         simp only [Option.some.injEq, Prod.mk.injEq] at hs
         obtain ⟨rfl, rfl⟩ := hs
         subst hk
         simp (config := {maxSteps := 1000000, maxDischargeDepth := 9, implicitDefEqProofs := false}) [c31, modK, rotl, w1, w2, w3, w4]
         exact Canon.keep hf hsc (Ext.refl _) (by simp only [V.lt]))
  · cases hs

def ivL : List Int := [1779033703, 3144134277, 1013904242, 2773480762, 1359893119, 2600822924, 528734635, 1541459225]
/-- blake.first. -/
def s_first : List V → Heap → Option (V × Heap)
  | [], h => some (.agg (ivL.map (V.int .u32)), h)
  | _, _ => none
theorem first_ok (cf : ACall) : Sum cf c25 s_first := by
  intro args h v h' hf hsc hlt hs
  unfold s_first at hs
  split at hs
  · simp only [Option.some.injEq, Prod.mk.injEq] at hs
    obtain ⟨rfl, rfl⟩ := hs
    refine ⟨1, ?_⟩
    simp (config := {maxSteps := 1000000, maxDischargeDepth := 9, implicitDefEqProofs := false}) [c25, ivL]
    exact Canon.keep hf hsc (by repeat (first | exact Ext.refl _ | apply Ext.trans_new)) (by simp only [V.lt, ltL, and_self])
  · cases hs

def sigmaL : Nat → List Nat
  | 0 => [0, 1, 2, 3, 4, 5, 6, 7, 8, 9, 10, 11, 12, 13, 14, 15]
  | 1 => [14, 10, 4, 8, 9, 15, 13, 6, 1, 12, 0, 2, 11, 7, 5, 3]
  | 2 => [11, 8, 12, 0, 5, 2, 15, 13, 10, 14, 3, 6, 7, 1, 9, 4]
  | 3 => [7, 9, 3, 1, 13, 12, 11, 14, 2, 6, 5, 10, 4, 0, 15, 8]
  | 4 => [9, 0, 5, 7, 2, 4, 10, 15, 14, 1, 11, 12, 6, 8, 3, 13]
  | 5 => [2, 12, 6, 10, 0, 11, 8, 3, 4, 13, 7, 5, 15, 14, 1, 9]
  | 6 => [12, 5, 1, 15, 14, 13, 4, 10, 0, 7, 6, 3, 9, 2, 8, 11]
  | 7 => [13, 11, 7, 14, 12, 1, 3, 9, 5, 0, 15, 4, 8, 6, 2, 10]
  | 8 => [6, 15, 14, 9, 11, 3, 0, 8, 12, 2, 13, 7, 1, 4, 10, 5]
  | _ => [10, 2, 8, 4, 7, 6, 1, 5, 15, 11, 9, 14, 3, 12, 13, 0]
theorem sigmaL_all (r : Nat) : (sigmaL r).length = 16 ∧ ∀ j, j < 16 → (sigmaL r).getD j 0 < 16 := by
  have key : ∀ l : List Nat, (l.length = 16 ∧ l.all (fun x => decide (x < 16)) = true) → l.length = 16 ∧ ∀ j, j < 16 → l.getD j 0 < 16 := by
    rintro l ⟨h1, h2⟩
    refine ⟨h1, fun j hj => ?_⟩
    have := List.all_eq_true.1 h2 (l.getD j 0) (by rw [List.getD_eq_getElem?_getD, List.getElem?_eq_getElem (by omega)]; simp)
    simpa using this
  apply key
  unfold sigmaL
  split <;> decide
def sigV (r : Nat) : List V := (sigmaL r).map fun n => V.int .i64 ((n : Nat) : Int)
/-- blake.sigma. -/
def s_sigma : List V → Heap → Option (V × Heap)
  | [.int .i64 r], h => if 0 ≤ r ∧ r < 10 then some (.agg (sigV r.toNat), h) else none
  | _, _ => none
theorem flat_sigV (r : Nat) : ltL 0 (sigV r) := by
  unfold sigV
  induction sigmaL r with
  | nil => simp only [List.map_nil, ltL]
  | cons x l ih => simp only [List.map_cons, ltL, V.lt, true_and]; exact ih
theorem sigma_ok (cf : ACall) : Sum cf c32 s_sigma := by
  intro args h v h' hf hsc hlt hs
  unfold s_sigma at hs
  split at hs
  · rename_i r
    split at hs
    · rename_i hr
      simp only [Option.some.injEq, Prod.mk.injEq] at hs
      obtain ⟨rfl, rfl⟩ := hs
      obtain ⟨r, rfl⟩ : ∃ n : Nat, r = (n : Int) := ⟨r.toNat, by omega⟩
      have hres : bodyA cf 1 c32 [.int .i64 r] h = some (.agg (sigV r), h.new (.cells (sigV r) 53 1 true)) := by
        have hii : r = 0 ∨ r = 1 ∨ r = 2 ∨ r = 3 ∨ r = 4 ∨ r = 5 ∨ r = 6 ∨ r = 7 ∨ r = 8 ∨ r = 9 := by omega
        rcases hii with rfl | rfl | rfl | rfl | rfl | rfl | rfl | rfl | rfl | rfl <;>
          simp (config := {maxSteps := 1000000, maxDischargeDepth := 9, implicitDefEqProofs := false}) [c32, sigV, sigmaL]
      have hE := Ext.new h (.cells (sigV r) 53 1 true)
      refine ⟨1, _, _, hres, ?_⟩
      rw [Int.toNat_natCast]
      refine Canon.keep hf hsc hE ?_
      simp only [V.lt]
      exact ltL_mono (Nat.zero_le _) _ (flat_sigV r)
    · cases hs
  · cases hs

def add32 (a b : Int) : Int := wrapF .u32 (a + b)
def xor32 (a b : Int) : Int := wrapF .u32 (((a % 4294967296).toNat ^^^ (b % 4294967296).toNat : Nat) : Int)
def mA (w : List Int) (i j : Nat) (x : Int) : List Int := w.set i (add32 (w.getD i 0) (add32 (w.getD j 0) x))
def mC (w : List Int) (i j : Nat) : List Int := w.set i (add32 (w.getD i 0) (w.getD j 0))
def mD (w : List Int) (i j k : Nat) : List Int := w.set i (rotl (xor32 (w.getD i 0) (w.getD j 0)) k)
theorem mA_length (w : List Int) (i j : Nat) (x : Int) : (mA w i j x).length = w.length := by simp [mA]
theorem mC_length (w : List Int) (i j : Nat) : (mC w i j).length = w.length := by simp [mC]
theorem mD_length (w : List Int) (i j k : Nat) : (mD w i j k).length = w.length := by simp [mD]
/-- One mixing. -/
def mixF (w : List Int) (a b c d : Nat) (x y : Int) : List Int :=
  mD (mC (mD (mA (mD (mC (mD (mA w a b x) d a 16) c d) b c 20) a b y) d a 24) c d) b c 25
theorem mixF_length (w : List Int) (a b c d : Nat) (x y : Int) : (mixF w a b c d x y).length = w.length := by simp only [mixF, mA_length, mC_length, mD_length]

/-- What a mixing's temporaries hold. -/
structure ME (e : Env) (a b c d : Nat) (x y : Int) (p : Nat) : Prop where
  n : e.n = 89
  a0 : e.at 0 = .int .i64 (a : Int)
  a1 : e.at 1 = .int .i64 (b : Int)
  a2 : e.at 2 = .int .i64 (c : Int)
  a3 : e.at 3 = .int .i64 (d : Int)
  a4 : e.at 4 = .int .u32 x
  a5 : e.at 5 = .int .u32 y
  a6 : e.at 6 = .ptr p 0

def wC (w : List Int) (t z : Nat) : Blk := .cells (w.map (V.int .u32)) t z true
theorem mix_7 (cf : ACall) (hRot : ∀ a h, cf 31 a h = s_RotN a h) (a b c d : Nat) (x y : Int) (p t z : Nat) (ha : a < 16) (hb : b < 16) (hc : c < 16) (hd : d < 16) (H0 : Heap) (w : List Int) (hw : w.length = 16) (e : Env) (hE : ME e a b c d x y p) :
    YtobnkgajgodioaaDoorA.Ends (execA cf 1 c30_s7 e (H0.set p (some (wC w t z)))) fun x e2 H => x = .normal ∧ H = H0.set p (some (wC (mD w b c 25) t z)) := by
  have a1 : a < 16 := by omega
  have b1 : b < 16 := by omega
  have c1 : c < 16 := by omega
  have d1 : d < 16 := by omega
  have a2 : (a : Int) < 16 := by omega
  have b2 : (b : Int) < 16 := by omega
  have c2 : (c : Int) < 16 := by omega
  have d2 : (d : Int) < 16 := by omega
  have ga : w[a]'(by omega) = w.getD a 0 := by rw [List.getD_eq_getElem?_getD, List.getElem?_eq_getElem (by omega)]; rfl
  have gb : w[b]'(by omega) = w.getD b 0 := by rw [List.getD_eq_getElem?_getD, List.getElem?_eq_getElem (by omega)]; rfl
  have gc : w[c]'(by omega) = w.getD c 0 := by rw [List.getD_eq_getElem?_getD, List.getElem?_eq_getElem (by omega)]; rfl
  have gd : w[d]'(by omega) = w.getD d 0 := by rw [List.getD_eq_getElem?_getD, List.getElem?_eq_getElem (by omega)]; rfl
  have e1 : ∀ x y, wrapF .u32 (x + y) = add32 x y := fun _ _ => rfl
  have e2 : ∀ x y : Int, wrapF .u32 (((x % 4294967296).toNat ^^^ (y % 4294967296).toNat : Nat) : Int) = xor32 x y := fun _ _ => rfl
  have hm : w.set b (rotl (xor32 w[b] w[c]) 25) = mD w b c 25 := by rw [mD, ← gb, ← gc]
  simp (config := {maxSteps := 1000000, maxDischargeDepth := 9, implicitDefEqProofs := false}) [c30_s7, hE.n, hE.a0, hE.a1, hE.a2, hE.a3, hE.a4, hE.a5, hE.a6, hRot, s_RotN, a1, b1, c1, d1, a2, b2, c2, d2, hw, -over, over_set, map_set, Nat.succ_le_of_lt a1, Nat.succ_le_of_lt b1, Nat.succ_le_of_lt c1, Nat.succ_le_of_lt d1, -List.map_set, modK, wC, e1, e2, hm]
theorem mix_6 (cf : ACall) (hRot : ∀ a h, cf 31 a h = s_RotN a h) (a b c d : Nat) (x y : Int) (p t z : Nat) (ha : a < 16) (hb : b < 16) (hc : c < 16) (hd : d < 16) (H0 : Heap) (w : List Int) (hw : w.length = 16) (e : Env) (hE : ME e a b c d x y p) :
    YtobnkgajgodioaaDoorA.Ends (execA cf 1 c30_s6 e (H0.set p (some (wC w t z)))) fun x e2 H => x = .normal ∧ H = H0.set p (some (wC (mD (mC w c d) b c 25) t z)) := by
  have a1 : a < 16 := by omega
  have b1 : b < 16 := by omega
  have c1 : c < 16 := by omega
  have d1 : d < 16 := by omega
  have a2 : (a : Int) < 16 := by omega
  have b2 : (b : Int) < 16 := by omega
  have c2 : (c : Int) < 16 := by omega
  have d2 : (d : Int) < 16 := by omega
  have ga : w[a]'(by omega) = w.getD a 0 := by rw [List.getD_eq_getElem?_getD, List.getElem?_eq_getElem (by omega)]; rfl
  have gb : w[b]'(by omega) = w.getD b 0 := by rw [List.getD_eq_getElem?_getD, List.getElem?_eq_getElem (by omega)]; rfl
  have gc : w[c]'(by omega) = w.getD c 0 := by rw [List.getD_eq_getElem?_getD, List.getElem?_eq_getElem (by omega)]; rfl
  have gd : w[d]'(by omega) = w.getD d 0 := by rw [List.getD_eq_getElem?_getD, List.getElem?_eq_getElem (by omega)]; rfl
  have e1 : ∀ x y, wrapF .u32 (x + y) = add32 x y := fun _ _ => rfl
  have e2 : ∀ x y : Int, wrapF .u32 (((x % 4294967296).toNat ^^^ (y % 4294967296).toNat : Nat) : Int) = xor32 x y := fun _ _ => rfl
  have hm : w.set c (add32 w[c] w[d]) = mC w c d := by rw [mC, ← gc, ← gd]
  simp (config := {maxSteps := 1000000, maxDischargeDepth := 9, implicitDefEqProofs := false}) [c30_s6, hE.n, hE.a0, hE.a1, hE.a2, hE.a3, hE.a4, hE.a5, hE.a6, hRot, s_RotN, a1, b1, c1, d1, a2, b2, c2, d2, hw, -over, over_set, map_set, Nat.succ_le_of_lt a1, Nat.succ_le_of_lt b1, Nat.succ_le_of_lt c1, Nat.succ_le_of_lt d1, -List.map_set, modK, wC, e1, e2, hm]
  refine mix_7 cf hRot a b c d x y p t z ha hb hc hd H0 (mC w c d) (by simp [mC_length, hw]) _ ⟨?_, ?_, ?_, ?_, ?_, ?_, ?_, ?_⟩ <;> simp (config := {maxSteps := 1000000, maxDischargeDepth := 9, implicitDefEqProofs := false}) [hE.n, hE.a0, hE.a1, hE.a2, hE.a3, hE.a4, hE.a5, hE.a6]
theorem mix_5 (cf : ACall) (hRot : ∀ a h, cf 31 a h = s_RotN a h) (a b c d : Nat) (x y : Int) (p t z : Nat) (ha : a < 16) (hb : b < 16) (hc : c < 16) (hd : d < 16) (H0 : Heap) (w : List Int) (hw : w.length = 16) (e : Env) (hE : ME e a b c d x y p) :
    YtobnkgajgodioaaDoorA.Ends (execA cf 1 c30_s5 e (H0.set p (some (wC w t z)))) fun x e2 H => x = .normal ∧ H = H0.set p (some (wC (mD (mC (mD w d a 24) c d) b c 25) t z)) := by
  have a1 : a < 16 := by omega
  have b1 : b < 16 := by omega
  have c1 : c < 16 := by omega
  have d1 : d < 16 := by omega
  have a2 : (a : Int) < 16 := by omega
  have b2 : (b : Int) < 16 := by omega
  have c2 : (c : Int) < 16 := by omega
  have d2 : (d : Int) < 16 := by omega
  have ga : w[a]'(by omega) = w.getD a 0 := by rw [List.getD_eq_getElem?_getD, List.getElem?_eq_getElem (by omega)]; rfl
  have gb : w[b]'(by omega) = w.getD b 0 := by rw [List.getD_eq_getElem?_getD, List.getElem?_eq_getElem (by omega)]; rfl
  have gc : w[c]'(by omega) = w.getD c 0 := by rw [List.getD_eq_getElem?_getD, List.getElem?_eq_getElem (by omega)]; rfl
  have gd : w[d]'(by omega) = w.getD d 0 := by rw [List.getD_eq_getElem?_getD, List.getElem?_eq_getElem (by omega)]; rfl
  have e1 : ∀ x y, wrapF .u32 (x + y) = add32 x y := fun _ _ => rfl
  have e2 : ∀ x y : Int, wrapF .u32 (((x % 4294967296).toNat ^^^ (y % 4294967296).toNat : Nat) : Int) = xor32 x y := fun _ _ => rfl
  have hm : w.set d (rotl (xor32 w[d] w[a]) 24) = mD w d a 24 := by rw [mD, ← gd, ← ga]
  simp (config := {maxSteps := 1000000, maxDischargeDepth := 9, implicitDefEqProofs := false}) [c30_s5, hE.n, hE.a0, hE.a1, hE.a2, hE.a3, hE.a4, hE.a5, hE.a6, hRot, s_RotN, a1, b1, c1, d1, a2, b2, c2, d2, hw, -over, over_set, map_set, Nat.succ_le_of_lt a1, Nat.succ_le_of_lt b1, Nat.succ_le_of_lt c1, Nat.succ_le_of_lt d1, -List.map_set, modK, wC, e1, e2, hm]
  refine mix_6 cf hRot a b c d x y p t z ha hb hc hd H0 (mD w d a 24) (by simp [mD_length, hw]) _ ⟨?_, ?_, ?_, ?_, ?_, ?_, ?_, ?_⟩ <;> simp (config := {maxSteps := 1000000, maxDischargeDepth := 9, implicitDefEqProofs := false}) [hE.n, hE.a0, hE.a1, hE.a2, hE.a3, hE.a4, hE.a5, hE.a6]
theorem mix_4 (cf : ACall) (hRot : ∀ a h, cf 31 a h = s_RotN a h) (a b c d : Nat) (x y : Int) (p t z : Nat) (ha : a < 16) (hb : b < 16) (hc : c < 16) (hd : d < 16) (H0 : Heap) (w : List Int) (hw : w.length = 16) (e : Env) (hE : ME e a b c d x y p) :
    YtobnkgajgodioaaDoorA.Ends (execA cf 1 c30_s4 e (H0.set p (some (wC w t z)))) fun x e2 H => x = .normal ∧ H = H0.set p (some (wC (mD (mC (mD (mA w a b y) d a 24) c d) b c 25) t z)) := by
  have a1 : a < 16 := by omega
  have b1 : b < 16 := by omega
  have c1 : c < 16 := by omega
  have d1 : d < 16 := by omega
  have a2 : (a : Int) < 16 := by omega
  have b2 : (b : Int) < 16 := by omega
  have c2 : (c : Int) < 16 := by omega
  have d2 : (d : Int) < 16 := by omega
  have ga : w[a]'(by omega) = w.getD a 0 := by rw [List.getD_eq_getElem?_getD, List.getElem?_eq_getElem (by omega)]; rfl
  have gb : w[b]'(by omega) = w.getD b 0 := by rw [List.getD_eq_getElem?_getD, List.getElem?_eq_getElem (by omega)]; rfl
  have gc : w[c]'(by omega) = w.getD c 0 := by rw [List.getD_eq_getElem?_getD, List.getElem?_eq_getElem (by omega)]; rfl
  have gd : w[d]'(by omega) = w.getD d 0 := by rw [List.getD_eq_getElem?_getD, List.getElem?_eq_getElem (by omega)]; rfl
  have e1 : ∀ x y, wrapF .u32 (x + y) = add32 x y := fun _ _ => rfl
  have e2 : ∀ x y : Int, wrapF .u32 (((x % 4294967296).toNat ^^^ (y % 4294967296).toNat : Nat) : Int) = xor32 x y := fun _ _ => rfl
  have hm : w.set a (add32 w[a] (add32 w[b] y)) = mA w a b y := by rw [mA, ← ga, ← gb]
  simp (config := {maxSteps := 1000000, maxDischargeDepth := 9, implicitDefEqProofs := false}) [c30_s4, hE.n, hE.a0, hE.a1, hE.a2, hE.a3, hE.a4, hE.a5, hE.a6, hRot, s_RotN, a1, b1, c1, d1, a2, b2, c2, d2, hw, -over, over_set, map_set, Nat.succ_le_of_lt a1, Nat.succ_le_of_lt b1, Nat.succ_le_of_lt c1, Nat.succ_le_of_lt d1, -List.map_set, modK, wC, e1, e2, hm]
  refine mix_5 cf hRot a b c d x y p t z ha hb hc hd H0 (mA w a b y) (by simp [mA_length, hw]) _ ⟨?_, ?_, ?_, ?_, ?_, ?_, ?_, ?_⟩ <;> simp (config := {maxSteps := 1000000, maxDischargeDepth := 9, implicitDefEqProofs := false}) [hE.n, hE.a0, hE.a1, hE.a2, hE.a3, hE.a4, hE.a5, hE.a6]
theorem mix_3 (cf : ACall) (hRot : ∀ a h, cf 31 a h = s_RotN a h) (a b c d : Nat) (x y : Int) (p t z : Nat) (ha : a < 16) (hb : b < 16) (hc : c < 16) (hd : d < 16) (H0 : Heap) (w : List Int) (hw : w.length = 16) (e : Env) (hE : ME e a b c d x y p) :
    YtobnkgajgodioaaDoorA.Ends (execA cf 1 c30_s3 e (H0.set p (some (wC w t z)))) fun x e2 H => x = .normal ∧ H = H0.set p (some (wC (mD (mC (mD (mA (mD w b c 20) a b y) d a 24) c d) b c 25) t z)) := by
  have a1 : a < 16 := by omega
  have b1 : b < 16 := by omega
  have c1 : c < 16 := by omega
  have d1 : d < 16 := by omega
  have a2 : (a : Int) < 16 := by omega
  have b2 : (b : Int) < 16 := by omega
  have c2 : (c : Int) < 16 := by omega
  have d2 : (d : Int) < 16 := by omega
  have ga : w[a]'(by omega) = w.getD a 0 := by rw [List.getD_eq_getElem?_getD, List.getElem?_eq_getElem (by omega)]; rfl
  have gb : w[b]'(by omega) = w.getD b 0 := by rw [List.getD_eq_getElem?_getD, List.getElem?_eq_getElem (by omega)]; rfl
  have gc : w[c]'(by omega) = w.getD c 0 := by rw [List.getD_eq_getElem?_getD, List.getElem?_eq_getElem (by omega)]; rfl
  have gd : w[d]'(by omega) = w.getD d 0 := by rw [List.getD_eq_getElem?_getD, List.getElem?_eq_getElem (by omega)]; rfl
  have e1 : ∀ x y, wrapF .u32 (x + y) = add32 x y := fun _ _ => rfl
  have e2 : ∀ x y : Int, wrapF .u32 (((x % 4294967296).toNat ^^^ (y % 4294967296).toNat : Nat) : Int) = xor32 x y := fun _ _ => rfl
  have hm : w.set b (rotl (xor32 w[b] w[c]) 20) = mD w b c 20 := by rw [mD, ← gb, ← gc]
  simp (config := {maxSteps := 1000000, maxDischargeDepth := 9, implicitDefEqProofs := false}) [c30_s3, hE.n, hE.a0, hE.a1, hE.a2, hE.a3, hE.a4, hE.a5, hE.a6, hRot, s_RotN, a1, b1, c1, d1, a2, b2, c2, d2, hw, -over, over_set, map_set, Nat.succ_le_of_lt a1, Nat.succ_le_of_lt b1, Nat.succ_le_of_lt c1, Nat.succ_le_of_lt d1, -List.map_set, modK, wC, e1, e2, hm]
  refine mix_4 cf hRot a b c d x y p t z ha hb hc hd H0 (mD w b c 20) (by simp [mD_length, hw]) _ ⟨?_, ?_, ?_, ?_, ?_, ?_, ?_, ?_⟩ <;> simp (config := {maxSteps := 1000000, maxDischargeDepth := 9, implicitDefEqProofs := false}) [hE.n, hE.a0, hE.a1, hE.a2, hE.a3, hE.a4, hE.a5, hE.a6]
theorem mix_2 (cf : ACall) (hRot : ∀ a h, cf 31 a h = s_RotN a h) (a b c d : Nat) (x y : Int) (p t z : Nat) (ha : a < 16) (hb : b < 16) (hc : c < 16) (hd : d < 16) (H0 : Heap) (w : List Int) (hw : w.length = 16) (e : Env) (hE : ME e a b c d x y p) :
    YtobnkgajgodioaaDoorA.Ends (execA cf 1 c30_s2 e (H0.set p (some (wC w t z)))) fun x e2 H => x = .normal ∧ H = H0.set p (some (wC (mD (mC (mD (mA (mD (mC w c d) b c 20) a b y) d a 24) c d) b c 25) t z)) := by
  have a1 : a < 16 := by omega
  have b1 : b < 16 := by omega
  have c1 : c < 16 := by omega
  have d1 : d < 16 := by omega
  have a2 : (a : Int) < 16 := by omega
  have b2 : (b : Int) < 16 := by omega
  have c2 : (c : Int) < 16 := by omega
  have d2 : (d : Int) < 16 := by omega
  have ga : w[a]'(by omega) = w.getD a 0 := by rw [List.getD_eq_getElem?_getD, List.getElem?_eq_getElem (by omega)]; rfl
  have gb : w[b]'(by omega) = w.getD b 0 := by rw [List.getD_eq_getElem?_getD, List.getElem?_eq_getElem (by omega)]; rfl
  have gc : w[c]'(by omega) = w.getD c 0 := by rw [List.getD_eq_getElem?_getD, List.getElem?_eq_getElem (by omega)]; rfl
  have gd : w[d]'(by omega) = w.getD d 0 := by rw [List.getD_eq_getElem?_getD, List.getElem?_eq_getElem (by omega)]; rfl
  have e1 : ∀ x y, wrapF .u32 (x + y) = add32 x y := fun _ _ => rfl
  have e2 : ∀ x y : Int, wrapF .u32 (((x % 4294967296).toNat ^^^ (y % 4294967296).toNat : Nat) : Int) = xor32 x y := fun _ _ => rfl
  have hm : w.set c (add32 w[c] w[d]) = mC w c d := by rw [mC, ← gc, ← gd]
  simp (config := {maxSteps := 1000000, maxDischargeDepth := 9, implicitDefEqProofs := false}) [c30_s2, hE.n, hE.a0, hE.a1, hE.a2, hE.a3, hE.a4, hE.a5, hE.a6, hRot, s_RotN, a1, b1, c1, d1, a2, b2, c2, d2, hw, -over, over_set, map_set, Nat.succ_le_of_lt a1, Nat.succ_le_of_lt b1, Nat.succ_le_of_lt c1, Nat.succ_le_of_lt d1, -List.map_set, modK, wC, e1, e2, hm]
  refine mix_3 cf hRot a b c d x y p t z ha hb hc hd H0 (mC w c d) (by simp [mC_length, hw]) _ ⟨?_, ?_, ?_, ?_, ?_, ?_, ?_, ?_⟩ <;> simp (config := {maxSteps := 1000000, maxDischargeDepth := 9, implicitDefEqProofs := false}) [hE.n, hE.a0, hE.a1, hE.a2, hE.a3, hE.a4, hE.a5, hE.a6]
theorem mix_1 (cf : ACall) (hRot : ∀ a h, cf 31 a h = s_RotN a h) (a b c d : Nat) (x y : Int) (p t z : Nat) (ha : a < 16) (hb : b < 16) (hc : c < 16) (hd : d < 16) (H0 : Heap) (w : List Int) (hw : w.length = 16) (e : Env) (hE : ME e a b c d x y p) :
    YtobnkgajgodioaaDoorA.Ends (execA cf 1 c30_s1 e (H0.set p (some (wC w t z)))) fun x e2 H => x = .normal ∧ H = H0.set p (some (wC (mD (mC (mD (mA (mD (mC (mD w d a 16) c d) b c 20) a b y) d a 24) c d) b c 25) t z)) := by
  have a1 : a < 16 := by omega
  have b1 : b < 16 := by omega
  have c1 : c < 16 := by omega
  have d1 : d < 16 := by omega
  have a2 : (a : Int) < 16 := by omega
  have b2 : (b : Int) < 16 := by omega
  have c2 : (c : Int) < 16 := by omega
  have d2 : (d : Int) < 16 := by omega
  have ga : w[a]'(by omega) = w.getD a 0 := by rw [List.getD_eq_getElem?_getD, List.getElem?_eq_getElem (by omega)]; rfl
  have gb : w[b]'(by omega) = w.getD b 0 := by rw [List.getD_eq_getElem?_getD, List.getElem?_eq_getElem (by omega)]; rfl
  have gc : w[c]'(by omega) = w.getD c 0 := by rw [List.getD_eq_getElem?_getD, List.getElem?_eq_getElem (by omega)]; rfl
  have gd : w[d]'(by omega) = w.getD d 0 := by rw [List.getD_eq_getElem?_getD, List.getElem?_eq_getElem (by omega)]; rfl
  have e1 : ∀ x y, wrapF .u32 (x + y) = add32 x y := fun _ _ => rfl
  have e2 : ∀ x y : Int, wrapF .u32 (((x % 4294967296).toNat ^^^ (y % 4294967296).toNat : Nat) : Int) = xor32 x y := fun _ _ => rfl
  have hm : w.set d (rotl (xor32 w[d] w[a]) 16) = mD w d a 16 := by rw [mD, ← gd, ← ga]
  simp (config := {maxSteps := 1000000, maxDischargeDepth := 9, implicitDefEqProofs := false}) [c30_s1, hE.n, hE.a0, hE.a1, hE.a2, hE.a3, hE.a4, hE.a5, hE.a6, hRot, s_RotN, a1, b1, c1, d1, a2, b2, c2, d2, hw, -over, over_set, map_set, Nat.succ_le_of_lt a1, Nat.succ_le_of_lt b1, Nat.succ_le_of_lt c1, Nat.succ_le_of_lt d1, -List.map_set, modK, wC, e1, e2, hm]
  refine mix_2 cf hRot a b c d x y p t z ha hb hc hd H0 (mD w d a 16) (by simp [mD_length, hw]) _ ⟨?_, ?_, ?_, ?_, ?_, ?_, ?_, ?_⟩ <;> simp (config := {maxSteps := 1000000, maxDischargeDepth := 9, implicitDefEqProofs := false}) [hE.n, hE.a0, hE.a1, hE.a2, hE.a3, hE.a4, hE.a5, hE.a6]
theorem ends_then {r : Out} {K : Out → Option (V × Heap)} {F : AExit → Env → Heap → Prop} {Q : V → Heap → Prop} (hl : YtobnkgajgodioaaDoorA.Ends r F) (hk : ∀ x e' h', F x e' h' → Runs (K (some (x, e', h'))) Q) : Runs (K r) Q := by
  obtain ⟨x, e', h', h1, h2⟩ := hl
  rw [h1]; exact hk x e' h' h2

/-- The function within blake.press. -/
def s_mix : List V → Heap → Option (V × Heap)
  | [.int .i64 a, .int .i64 b, .int .i64 c, .int .i64 d, .int .u32 x, .int .u32 y, .ptr p 0], h => match h.get p with
    | some (.cells cs t z true) => match asK .u32 cs with
      | some v => if v.length = 16 ∧ (0 ≤ a ∧ a < 16) ∧ (0 ≤ b ∧ b < 16) ∧ (0 ≤ c ∧ c < 16) ∧ (0 ≤ d ∧ d < 16) then some (.undef, h.set p (some (.cells ((mixF v a.toNat b.toNat c.toNat d.toNat x y).map (V.int .u32)) t z true))) else none
      | none => none
    | _ => none
  | _, _ => none

theorem mix_ok (cf : ACall) (hRot : ∀ a h, cf 31 a h = s_RotN a h) : Sum cf c30 s_mix := by
  intro args h v h' hf hsc hlt hs
  unfold s_mix at hs
  split at hs
  · rename_i a b c d x y p
    split at hs
    · rename_i cs t z hg
      split at hs
      · rename_i w hw
        split at hs
        · rename_i hc
          obtain ⟨hlen, ha, hb, hc, hd⟩ := hc
          simp only [Option.some.injEq, Prod.mk.injEq] at hs
          obtain ⟨rfl, rfl⟩ := hs
          have hcs := asK_some.1 hw
          subst hcs
          obtain ⟨a, rfl⟩ : ∃ n : Nat, a = (n : Int) := ⟨a.toNat, by omega⟩
          obtain ⟨b, rfl⟩ : ∃ n : Nat, b = (n : Int) := ⟨b.toNat, by omega⟩
          obtain ⟨c, rfl⟩ : ∃ n : Nat, c = (n : Int) := ⟨c.toNat, by omega⟩
          obtain ⟨d, rfl⟩ : ∃ n : Nat, d = (n : Int) := ⟨d.toNat, by omega⟩
          have hw := hlen
          simp only [Int.toNat_natCast] at *
          have a1 : a < 16 := by omega
          have b1 : b < 16 := by omega
          have c1 : c < 16 := by omega
          have d1 : d < 16 := by omega
          have a2 : (a : Int) < 16 := by omega
          have b2 : (b : Int) < 16 := by omega
          have c2 : (c : Int) < 16 := by omega
          have d2 : (d : Int) < 16 := by omega
          have ga : w[a]'(by omega) = w.getD a 0 := by rw [List.getD_eq_getElem?_getD, List.getElem?_eq_getElem (by omega)]; rfl
          have gb : w[b]'(by omega) = w.getD b 0 := by rw [List.getD_eq_getElem?_getD, List.getElem?_eq_getElem (by omega)]; rfl
          have gc : w[c]'(by omega) = w.getD c 0 := by rw [List.getD_eq_getElem?_getD, List.getElem?_eq_getElem (by omega)]; rfl
          have gd : w[d]'(by omega) = w.getD d 0 := by rw [List.getD_eq_getElem?_getD, List.getElem?_eq_getElem (by omega)]; rfl
          have e1 : ∀ x y, wrapF .u32 (x + y) = add32 x y := fun _ _ => rfl
          have e2 : ∀ x y : Int, wrapF .u32 (((x % 4294967296).toNat ^^^ (y % 4294967296).toNat : Nat) : Int) = xor32 x y := fun _ _ => rfl
          have hm : w.set a (add32 w[a] (add32 w[b] x)) = mA w a b x := by rw [mA, ← ga, ← gb]
          refine ⟨1, ?_⟩
          simp (config := {maxSteps := 1000000, maxDischargeDepth := 9, implicitDefEqProofs := false}) [c30, hg, hRot, s_RotN, a1, b1, c1, d1, a2, b2, c2, d2, hw, -over, over_set, map_set, Nat.succ_le_of_lt a1, Nat.succ_le_of_lt b1, Nat.succ_le_of_lt c1, Nat.succ_le_of_lt d1, -List.map_set, modK, e1, e2, hm]
          refine ends_then (K := fun r => finS _ r) (mix_1 cf hRot a b c d x y p t z a1 b1 c1 d1 h (mA w a b x) (by simp [mA_length, hw]) _ ⟨?_, ?_, ?_, ?_, ?_, ?_, ?_, ?_⟩) ?_
          iterate 8 simp (config := {maxSteps := 1000000, maxDischargeDepth := 9, implicitDefEqProofs := false})
          rintro x' e' H ⟨rfl, rfl⟩
          simp (config := {maxSteps := 1000000, maxDischargeDepth := 9, implicitDefEqProofs := false})
          exact Canon.self rfl (hf.setS hg) (hsc.setFlat (flat_ints _ _)) (by simp only [V.undef, V.lt, ltL])
        · cases hs
      · cases hs
    · cases hs
  · cases hs

/-- The words of a block. -/
def getW (s : List Nat) (i : Nat) : Int := wrapF .u32 (getU (s.drop (4 * i)) 4)
def mW (s : List Nat) : Nat → List Int
  | 0 => List.replicate 16 0
  | i + 1 => (mW s i).set i (getW s i)
theorem mW_length (s : List Nat) : ∀ i, (mW s i).length = 16
  | 0 => by simp [mW]
  | i + 1 => by simp [mW, mW_length s i]
def sgN (r j : Nat) : Nat := (sigmaL r).getD j 0
theorem sgN_lt (r j : Nat) (hj : j < 16) : sgN r j < 16 := (sigmaL_all r).2 j hj
def rowsA (v m : List Int) (r : Nat) : Nat → List Int
  | 0 => v
  | i + 1 => mixF (rowsA v m r i) i (4 + i) (8 + i) (12 + i) (m.getD (sgN r (2 * i)) 0) (m.getD (sgN r (2 * i + 1)) 0)
def rowsC (v m : List Int) (r : Nat) : Nat → List Int
  | 0 => v
  | i + 1 => mixF (rowsC v m r i) i (4 + (i + 1) % 4) (8 + (i + 2) % 4) (12 + (i + 3) % 4) (m.getD (sgN r (8 + 2 * i)) 0) (m.getD (sgN r (9 + 2 * i)) 0)
theorem rowsA_length (v m : List Int) (r : Nat) : ∀ i, (rowsA v m r i).length = v.length
  | 0 => rfl
  | i + 1 => by simp only [rowsA, mixF_length, rowsA_length v m r i]
theorem rowsC_length (v m : List Int) (r : Nat) : ∀ i, (rowsC v m r i).length = v.length
  | 0 => rfl
  | i + 1 => by simp only [rowsC, mixF_length, rowsC_length v m r i]
def roundB (v m : List Int) (r : Nat) : List Int := rowsC (rowsA v m r 4) m r 4
def roundsB (v m : List Int) : Nat → List Int
  | 0 => v
  | i + 1 => roundB (roundsB v m i) m i
theorem roundsB_length (v m : List Int) : ∀ i, (roundsB v m i).length = v.length
  | 0 => rfl
  | i + 1 => by simp only [roundsB, roundB, rowsC_length, rowsA_length, roundsB_length v m i]
def endB (hb v : List Int) : Nat → List Int
  | 0 => hb
  | i + 1 => (endB hb v i).set i (xor32 ((endB hb v i).getD i 0) (xor32 (v.getD i 0) (v.getD (i + 8) 0)))
theorem endB_length (hb v : List Int) : ∀ i, (endB hb v i).length = hb.length
  | 0 => rfl
  | i + 1 => by simp only [endB, List.length_set, endB_length hb v i]
def not32 (x : Int) : Int := xor32 4294967295 x
/-- The words that a block's rounds begin with. -/
def vInit (hb : List Int) (t : Int) (last : Bool) : List Int :=
  let v1 := hb ++ ivL
  let v2 := v1.set 12 (xor32 (v1.getD 12 0) (wrapF .u32 t))
  let v3 := v2.set 13 (xor32 (v2.getD 13 0) (wrapF .u32 (t / 4294967296)))
  if last then v3.set 14 (not32 (v3.getD 14 0)) else v3
def pressF (hb : List Int) (s : List Nat) (t : Int) (last : Bool) : List Int := endB hb (roundsB (vInit hb t last) (mW s 16) 10) 8
theorem pressF_length (hb : List Int) (s : List Nat) (t : Int) (last : Bool) : (pressF hb s t last).length = hb.length := endB_length _ _ _
theorem ivL_length : ivL.length = 8 := rfl
theorem vInit_length (hb : List Int) (t : Int) (last : Bool) (h : hb.length = 8) : (vInit hb t last).length = 16 := by
  unfold vInit
  cases last <;> simp [h, ivL_length]

/-- Memory within a block's pressing. -/
structure GP (h : Heap) (hb m v : List Int) (H : Heap) : Prop where
  ext : Ext h H
  fresh : Fresh H
  next : h.next + 4 ≤ H.next
  g0 : H.get h.next = some (.cells (hb.map (V.int .u32)) 46 1 true)
  g1 : H.get (h.next + 1) = some (.cells (List.replicate 8 (.int .u32 0)) 46 1 true)
  g2 : H.get (h.next + 2) = some (.cells (m.map (V.int .u32)) 47 1 true)
  g3 : H.get (h.next + 3) = some (.cells (v.map (V.int .u32)) 47 1 true)
theorem GP.new {h H : Heap} {hb m v : List Int} (g : GP h hb m v H) (B : Blk) : GP h hb m v (H.new B) := by
  have := g.next
  refine ⟨g.ext.trans_new _, g.fresh.new _, by simp; omega, ?_, ?_, ?_, ?_⟩
  · rw [Heap.get_new, if_neg (by omega)]; exact g.g0
  · rw [Heap.get_new, if_neg (by omega)]; exact g.g1
  · rw [Heap.get_new, if_neg (by omega)]; exact g.g2
  · rw [Heap.get_new, if_neg (by omega)]; exact g.g3
theorem GP.setV {h H : Heap} {hb m v : List Int} (g : GP h hb m v H) (w : List Int) : GP h hb m w (H.set (h.next + 3) (some (.cells (w.map (V.int .u32)) 47 1 true))) := by
  have := g.next
  refine ⟨g.ext.trans_set (by omega) _, g.fresh.set (by omega) _, by simp; omega, ?_, ?_, ?_, ?_⟩
  · rw [Heap.get_set, if_neg (by omega)]; exact g.g0
  · rw [Heap.get_set, if_neg (by omega)]; exact g.g1
  · rw [Heap.get_set, if_neg (by omega)]; exact g.g2
  · rw [Heap.get_set, if_pos rfl]
theorem GP.setM {h H : Heap} {hb m v : List Int} (g : GP h hb m v H) (w : List Int) : GP h hb w v (H.set (h.next + 2) (some (.cells (w.map (V.int .u32)) 47 1 true))) := by
  have := g.next
  refine ⟨g.ext.trans_set (by omega) _, g.fresh.set (by omega) _, by simp; omega, ?_, ?_, ?_, ?_⟩
  · rw [Heap.get_set, if_neg (by omega)]; exact g.g0
  · rw [Heap.get_set, if_neg (by omega)]; exact g.g1
  · rw [Heap.get_set, if_pos rfl]
  · rw [Heap.get_set, if_neg (by omega)]; exact g.g3
theorem GP.setH {h H : Heap} {hb m v : List Int} (g : GP h hb m v H) (w : List Int) : GP h w m v (H.set h.next (some (.cells (w.map (V.int .u32)) 46 1 true))) := by
  have := g.next
  refine ⟨g.ext.trans_set (Nat.le_refl _) _, g.fresh.set (by omega) _, by simp; omega, ?_, ?_, ?_, ?_⟩
  · rw [Heap.get_set, if_pos rfl]
  · rw [Heap.get_set, if_neg (by omega)]; exact g.g1
  · rw [Heap.get_set, if_neg (by omega)]; exact g.g2
  · rw [Heap.get_set, if_neg (by omega)]; exact g.g3

theorem sig_nth (r j : Nat) (hj : j < 16) : nth (sigV r) j = some (V.int .i64 ((sgN r j : Nat) : Int)) := by
  rw [nth_eq]
  unfold sigV sgN
  rw [List.getElem?_map, List.getD_eq_getElem?_getD, List.getElem?_eq_getElem (by rw [(sigmaL_all r).1]; exact hj)]
  rfl
theorem sigV_length (r : Nat) : (sigV r).length = 16 := by unfold sigV; rw [List.length_map, (sigmaL_all r).1]

theorem press_in1 (cf : ACall) (hMix : ∀ a h, cf 30 a h = s_mix a h) (h : Heap) (hb m v : List Int) (r q : Nat) (hv : v.length = 16) (hm : m.length = 16) (hq : h.next + 4 ≤ q) : ∀ e H0, e.n = 142 → e.at 13 = .func 30 [] [.ptr (h.next + 3) 0] → e.at 15 = .ptr q 0 → e.at 9 = .ptr (h.next + 2) 0 → e.at 64 = .int .i64 0 → GP h hb m v H0 → H0.get q = some (.cells (sigV r) 53 1 true) →
    YtobnkgajgodioaaDoorA.Ends (execA cf 20 (.loop c26_l2) e H0) fun x e' H => x = .exit 4 ∧ GP h hb m (rowsA v m r 4) H ∧ H.get q = some (.cells (sigV r) 53 1 true) := by
  intro e H0 hn h13 h15 h9 h64 hG0 hq0
  refine loop_count (cf := cf) (N := 20) (c := c26_l2) 4
    (fun i e H => e.n = 142 ∧ e.at 13 = .func 30 [] [.ptr (h.next + 3) 0] ∧ e.at 15 = .ptr q 0 ∧ e.at 9 = .ptr (h.next + 2) 0 ∧ e.at 64 = .int .i64 (i : Int) ∧ GP h hb m (rowsA v m r i) H ∧ H.get q = some (.cells (sigV r) 53 1 true))
    (fun x e' H => x = .exit 4 ∧ GP h hb m (rowsA v m r 4) H ∧ H.get q = some (.cells (sigV r) 53 1 true)) ?_ ?_ 0 e _ (Nat.zero_le _) ⟨hn, h13, h15, h9, h64, hG0, hq0⟩ (by omega)
  · rintro i e H hi ⟨hn, h13, h15, h9, h64, hG, hq0⟩
    have g3 := hG.g3
    have g2 := hG.g2
    have hl := rowsA_length v m r i
    rw [hv] at hl
    have hr : rowsA v m r (i + 1) = mixF (rowsA v m r i) i (4 + i) (8 + i) (12 + i) (m.getD (sgN r (2 * i)) 0) (m.getD (sgN r (2 * i + 1)) 0) := rfl
    have s1 := sig_nth r (2 * i) (by omega)
    have s2 := sig_nth r (2 * i + 1) (by omega)
    have l1 := sgN_lt r (2 * i) (by omega)
    have l2 := sgN_lt r (2 * i + 1) (by omega)
    have hset := hG.setV
    have hq3 : (q = h.next + 3) = False := by simp; omega
    generalize rowsA v m r i = vi at *
    generalize rowsA v m r (i + 1) = vj at *
    obtain ⟨a1, ha1⟩ : ∃ a, a = sgN r (2 * i) := ⟨_, rfl⟩
    obtain ⟨a2, ha2⟩ : ∃ a, a = sgN r (2 * i + 1) := ⟨_, rfl⟩
    rw [← ha1] at s1 l1 hr
    rw [← ha2] at s2 l2 hr
    have m1 : m[a1]'(by omega) = m.getD a1 0 := by rw [List.getD_eq_getElem?_getD, List.getElem?_eq_getElem (by omega)]; rfl
    have m2 : m[a2]'(by omega) = m.getD a2 0 := by rw [List.getD_eq_getElem?_getD, List.getElem?_eq_getElem (by omega)]; rfl
    rw [← m1, ← m2] at hr
    subst hr
    have l1' : (a1 : Int) < 16 := by omega
    have l2' : (a2 : Int) < 16 := by omega
    have hii : i = 0 ∨ i = 1 ∨ i = 2 ∨ i = 3 := by omega
    rcases hii with rfl | rfl | rfl | rfl <;>
      (simp (config := {maxSteps := 1000000, maxDischargeDepth := 9, implicitDefEqProofs := false}) [c26_l2, hn, h13, h15, h9, h64, g2, g3, hq0, s1, s2, l1, l2, l1', l2', hMix, s_mix, hl, hm, hq3, sigV_length]
       exact hset _)
  · rintro e H ⟨hn, h13, h15, h9, h64, hG, hq0⟩
    simp (config := {maxSteps := 1000000, maxDischargeDepth := 9, implicitDefEqProofs := false}) [c26_l2, hn, h64]
    exact ⟨hG, hq0⟩

theorem press_in2 (cf : ACall) (hMix : ∀ a h, cf 30 a h = s_mix a h) (h : Heap) (hb m v : List Int) (r q : Nat) (hv : v.length = 16) (hm : m.length = 16) (hq : h.next + 4 ≤ q) : ∀ e H0, e.n = 142 → e.at 13 = .func 30 [] [.ptr (h.next + 3) 0] → e.at 15 = .ptr q 0 → e.at 9 = .ptr (h.next + 2) 0 → e.at 90 = .int .i64 0 → GP h hb m v H0 → H0.get q = some (.cells (sigV r) 53 1 true) →
    YtobnkgajgodioaaDoorA.Ends (execA cf 20 (.loop c26_l3) e H0) fun x e' H => x = .exit 6 ∧ GP h hb m (rowsC v m r 4) H ∧ H.get q = some (.cells (sigV r) 53 1 true) := by
  intro e H0 hn h13 h15 h9 h90 hG0 hq0
  refine loop_count (cf := cf) (N := 20) (c := c26_l3) 4
    (fun i e H => e.n = 142 ∧ e.at 13 = .func 30 [] [.ptr (h.next + 3) 0] ∧ e.at 15 = .ptr q 0 ∧ e.at 9 = .ptr (h.next + 2) 0 ∧ e.at 90 = .int .i64 (i : Int) ∧ GP h hb m (rowsC v m r i) H ∧ H.get q = some (.cells (sigV r) 53 1 true))
    (fun x e' H => x = .exit 6 ∧ GP h hb m (rowsC v m r 4) H ∧ H.get q = some (.cells (sigV r) 53 1 true)) ?_ ?_ 0 e _ (Nat.zero_le _) ⟨hn, h13, h15, h9, h90, hG0, hq0⟩ (by omega)
  · rintro i e H hi ⟨hn, h13, h15, h9, h90, hG, hq0⟩
    have g3 := hG.g3
    have g2 := hG.g2
    have hl := rowsC_length v m r i
    rw [hv] at hl
    have hr : rowsC v m r (i + 1) = mixF (rowsC v m r i) i (4 + (i + 1) % 4) (8 + (i + 2) % 4) (12 + (i + 3) % 4) (m.getD (sgN r (8 + 2 * i)) 0) (m.getD (sgN r (9 + 2 * i)) 0) := rfl
    have s1 := sig_nth r (8 + 2 * i) (by omega)
    have s2 := sig_nth r (9 + 2 * i) (by omega)
    have l1 := sgN_lt r (8 + 2 * i) (by omega)
    have l2 := sgN_lt r (9 + 2 * i) (by omega)
    have hset := hG.setV
    have hq3 : (q = h.next + 3) = False := by simp; omega
    generalize rowsC v m r i = vi at *
    generalize rowsC v m r (i + 1) = vj at *
    obtain ⟨a1, ha1⟩ : ∃ a, a = sgN r (8 + 2 * i) := ⟨_, rfl⟩
    obtain ⟨a2, ha2⟩ : ∃ a, a = sgN r (9 + 2 * i) := ⟨_, rfl⟩
    rw [← ha1] at s1 l1 hr
    rw [← ha2] at s2 l2 hr
    have m1 : m[a1]'(by omega) = m.getD a1 0 := by rw [List.getD_eq_getElem?_getD, List.getElem?_eq_getElem (by omega)]; rfl
    have m2 : m[a2]'(by omega) = m.getD a2 0 := by rw [List.getD_eq_getElem?_getD, List.getElem?_eq_getElem (by omega)]; rfl
    rw [← m1, ← m2] at hr
    subst hr
    have l1' : (a1 : Int) < 16 := by omega
    have l2' : (a2 : Int) < 16 := by omega
    have hii : i = 0 ∨ i = 1 ∨ i = 2 ∨ i = 3 := by omega
    rcases hii with rfl | rfl | rfl | rfl <;>
      (simp (config := {maxSteps := 1000000, maxDischargeDepth := 9, implicitDefEqProofs := false}) [c26_l3, hn, h13, h15, h9, h90, g2, g3, hq0, s1, s2, l1, l2, l1', l2', hMix, s_mix, hl, hm, hq3, sigV_length]
       exact hset _)
  · rintro e H ⟨hn, h13, h15, h9, h90, hG, hq0⟩
    simp (config := {maxSteps := 1000000, maxDischargeDepth := 9, implicitDefEqProofs := false}) [c26_l3, hn, h90]
    exact ⟨hG, hq0⟩

theorem press_outer (cf : ACall) (hMix : ∀ a h, cf 30 a h = s_mix a h) (hSig : ∀ a h, cf 32 a h = s_sigma a h) (h : Heap) (hb m v : List Int) (hv : v.length = 16) (hm : m.length = 16) : ∀ e H0, e.n = 142 → e.at 13 = .func 30 [] [.ptr (h.next + 3) 0] → e.at 9 = .ptr (h.next + 2) 0 → e.at 59 = .int .i64 0 → GP h hb m v H0 →
    YtobnkgajgodioaaDoorA.Ends (execA cf 20 (.loop c26_l1) e H0) fun x e' H => x = .exit 2 ∧ GP h hb m (roundsB v m 10) H := by
  intro e H0 hn h13 h9 h59 hG0
  refine loop_count (cf := cf) (N := 20) (c := c26_l1) 10
    (fun i e H => e.n = 142 ∧ e.at 13 = .func 30 [] [.ptr (h.next + 3) 0] ∧ e.at 9 = .ptr (h.next + 2) 0 ∧ e.at 59 = .int .i64 (i : Int) ∧ GP h hb m (roundsB v m i) H)
    (fun x e' H => x = .exit 2 ∧ GP h hb m (roundsB v m 10) H) ?_ ?_ 0 e _ (Nat.zero_le _) ⟨hn, h13, h9, h59, hG0⟩ (by omega)
  · rintro i e H hi ⟨hn, h13, h9, h59, hG⟩
    have hl := roundsB_length v m i
    rw [hv] at hl
    have hl1 := rowsA_length (roundsB v m i) m i 4
    rw [hl] at hl1
    have hr : roundsB v m (i + 1) = rowsC (rowsA (roundsB v m i) m i 4) m i 4 := rfl
    have hsl := sigV_length i
    have hst : (sigV i).take 16 = sigV i := List.take_of_length_le (by omega)
    have hone : ((sigV i).all V.one) = true := by
      unfold sigV
      rw [List.all_map]
      exact List.all_eq_true.2 fun x _ => rfl
    have hov : over (List.replicate 16 (V.int .i64 0)) 0 (sigV i) = sigV i := by
      unfold over
      rw [hsl]
      simp
    have hnx := hG.next
    simp (config := {maxSteps := 1000000, maxDischargeDepth := 9, implicitDefEqProofs := false}) [c26_l1, hn, h13, h9, h59, show (i : Int) < 10 from by omega, hSig, s_sigma, hsl, hst, hone, -over, hov]
    refine loop_in (K := fun r => seqS _ _ _ (blockS _ (seqS _ _ _ (blockS _ r)))) (press_in1 cf hMix h hb m (roundsB v m i) i H.next hl hm hnx _ _ ?_ ?_ ?_ ?_ ?_ (hG.new _) ?_) ?_
    · simp (config := {maxSteps := 1000000, maxDischargeDepth := 9, implicitDefEqProofs := false}) [hn]
    · simp (config := {maxSteps := 1000000, maxDischargeDepth := 9, implicitDefEqProofs := false}) [hn, h13]
    · simp (config := {maxSteps := 1000000, maxDischargeDepth := 9, implicitDefEqProofs := false}) [hn]
    · simp (config := {maxSteps := 1000000, maxDischargeDepth := 9, implicitDefEqProofs := false}) [hn, h9]
    · simp (config := {maxSteps := 1000000, maxDischargeDepth := 9, implicitDefEqProofs := false}) [hn]
    · simp (config := {maxSteps := 1000000, maxDischargeDepth := 9, implicitDefEqProofs := false}) [hsl, hst]
    · rintro x H2 ⟨rfl, hG2, hq2⟩
      simp (config := {maxSteps := 1000000, maxDischargeDepth := 9, implicitDefEqProofs := false}) [hn]
      refine loop_in (K := fun r => seqS _ _ _ (blockS _ (blockS _ r))) (press_in2 cf hMix h hb m (rowsA (roundsB v m i) m i 4) i H.next hl1 hm hnx _ _ ?_ ?_ ?_ ?_ ?_ hG2 hq2) ?_
      · simp (config := {maxSteps := 1000000, maxDischargeDepth := 9, implicitDefEqProofs := false}) [hn]
      · simp (config := {maxSteps := 1000000, maxDischargeDepth := 9, implicitDefEqProofs := false}) [hn, h13, c26_l2_wr]
      · simp (config := {maxSteps := 1000000, maxDischargeDepth := 9, implicitDefEqProofs := false}) [hn, c26_l2_wr]
      · simp (config := {maxSteps := 1000000, maxDischargeDepth := 9, implicitDefEqProofs := false}) [hn, h9, c26_l2_wr]
      · simp (config := {maxSteps := 1000000, maxDischargeDepth := 9, implicitDefEqProofs := false}) [hn]
      · rintro x H3 ⟨rfl, hG3, hq3⟩
        simp (config := {maxSteps := 1000000, maxDischargeDepth := 9, implicitDefEqProofs := false}) [hn, h13, h9, h59, c26_l2_wr, c26_l3_wr, wrap_i64 (x := (i : Int) + 1) (by omega) (by omega)]
        rw [hr]; exact hG3
  · rintro e H ⟨hn, h13, h9, h59, hG⟩
    simp (config := {maxSteps := 1000000, maxDischargeDepth := 9, implicitDefEqProofs := false}) [c26_l1, hn, h59]
    exact hG

theorem press_last (cf : ACall) (h : Heap) (hb m v : List Int) (hv : v.length = 16) (hl : hb.length = 8) : ∀ e H0, e.n = 142 → e.at 4 = .ptr h.next 0 → e.at 10 = .ptr (h.next + 3) 0 → e.at 124 = .int .i64 0 → GP h hb m v H0 →
    YtobnkgajgodioaaDoorA.Ends (execA cf 20 (.loop c26_l4) e H0) fun x e' H => x = .exit 8 ∧ GP h (endB hb v 8) m v H := by
  intro e H0 hn h4 h10 h124 hG0
  refine loop_count (cf := cf) (N := 20) (c := c26_l4) 8
    (fun i e H => e.n = 142 ∧ e.at 4 = .ptr h.next 0 ∧ e.at 10 = .ptr (h.next + 3) 0 ∧ e.at 124 = .int .i64 (i : Int) ∧ GP h (endB hb v i) m v H)
    (fun x e' H => x = .exit 8 ∧ GP h (endB hb v 8) m v H) ?_ ?_ 0 e _ (Nat.zero_le _) ⟨hn, h4, h10, h124, hG0⟩ (by omega)
  · rintro i e H hi ⟨hn, h4, h10, h124, hG⟩
    have g0 := hG.g0
    have g3 := hG.g3
    have hel := endB_length hb v i
    rw [hl] at hel
    have hr : endB hb v (i + 1) = (endB hb v i).set i (xor32 ((endB hb v i).getD i 0) (xor32 (v.getD i 0) (v.getD (i + 8) 0))) := rfl
    generalize endB hb v i = b at *
    have m0 : b[i]'(by omega) = b.getD i 0 := by rw [List.getD_eq_getElem?_getD, List.getElem?_eq_getElem (by omega)]; rfl
    have m1 : v[i]'(by omega) = v.getD i 0 := by rw [List.getD_eq_getElem?_getD, List.getElem?_eq_getElem (by omega)]; rfl
    have m2 : v[i + 8]'(by omega) = v.getD (i + 8) 0 := by rw [List.getD_eq_getElem?_getD, List.getElem?_eq_getElem (by omega)]; rfl
    rw [← m0, ← m1, ← m2] at hr
    have hset := hG.setH
    have e2 : ∀ x y : Int, wrapF .u32 (((x % 4294967296).toNat ^^^ (y % 4294967296).toNat : Nat) : Int) = xor32 x y := fun _ _ => rfl
    have w1 : wrapF .i64 ((i : Int) + 8) = (i : Int) + 8 := wrap_i64 (by omega) (by omega)
    have t1 : ((i : Int) + 8).toNat = i + 8 := by omega
    simp (config := {maxSteps := 1000000, maxDischargeDepth := 9, implicitDefEqProofs := false}) [c26_l4, hn, h4, h10, h124, g0, g3, hi, show (i : Int) < 8 from by omega, show i < 16 from by omega, show (i : Int) < 16 from by omega, show (i : Int) + 8 < 16 from by omega, show (0 : Int) ≤ (i : Int) + 8 from by omega, show i + 8 < 16 from by omega, w1, t1, hv, hel, modK, e2, -over, over_set, map_set, -List.map_set, Nat.succ_le_of_lt hi, wrap_i64 (x := (i : Int) + 1) (by omega) (by omega)]
    rw [hr]
    exact hset _
  · rintro e H ⟨hn, h4, h10, h124, hG⟩
    simp (config := {maxSteps := 1000000, maxDischargeDepth := 9, implicitDefEqProofs := false}) [c26_l4, hn, h124]
    exact hG

theorem press_words (cf : ACall) (hGet : ∀ a h, cf 29 a h = s_Get32 a h) (h : Heap) (hf : Fresh h) (hb v : List Int) (bv : V) (s : List Nat) (hbv : slB h bv = some s) (hs : s.length = 64) : ∀ e H0, e.n = 142 → e.at 1 = bv → e.at 9 = .ptr (h.next + 2) 0 → e.at 19 = .int .i64 0 → GP h hb (List.replicate 16 0) v H0 →
    YtobnkgajgodioaaDoorA.Ends (execA cf 20 (.loop c26_l0) e H0) fun x e' H => x = .exit 0 ∧ GP h hb (mW s 16) v H := by
  intro e H0 hn h1 h9 h19 hG0
  refine loop_count (cf := cf) (N := 20) (c := c26_l0) 16
    (fun i e H => e.n = 142 ∧ e.at 1 = bv ∧ e.at 9 = .ptr (h.next + 2) 0 ∧ e.at 19 = .int .i64 (i : Int) ∧ GP h hb (mW s i) v H)
    (fun x e' H => x = .exit 0 ∧ GP h hb (mW s 16) v H) ?_ ?_ 0 e _ (Nat.zero_le _) ⟨hn, h1, h9, h19, hG0⟩ (by omega)
  · rintro i e H hi ⟨hn, h1, h9, h19, hG⟩
    have g2 := hG.g2
    have hml := mW_length s i
    have hbH := slB_ext hG.ext hf hbv
    have hsl := slB_isSl hbv
    have hvl := slB_vlen hbv
    have hr : mW s (i + 1) = (mW s i).set i (getW s i) := rfl
    generalize mW s i = mi at *
    have hset := hG.setM
    have w1 : wrapF .i64 (4 * (i : Int)) = 4 * (i : Int) := wrap_i64 (by omega) (by omega)
    have t1 : (4 * (i : Int)).toNat = 4 * i := by omega
    have g3 : ¬ (((s.drop (4 * i)).length : Int) < 4) := by simp; omega
    have htk : s.take 64 = s := List.take_of_length_le (by omega)
    have hgw : wrapF .u32 (getU (s.drop (4 * i)) 4) = getW s i := rfl
    simp (config := {maxSteps := 1000000, maxDischargeDepth := 9, implicitDefEqProofs := false}) [c26_l0, hn, h1, h9, h19, g2, hi, hbH, hsl, hvl, hs, w1, t1, hGet, s_Get32, htk, g3, hgw, hml, show (i : Int) < 16 from by omega, show 4 * (i : Int) ≤ 64 from by omega, show (0 : Int) ≤ 4 * (i : Int) from by omega, show 4 * i ≤ 64 from by omega, -over, over_set, map_set, -List.map_set, Nat.succ_le_of_lt hi, wrap_i64 (x := (i : Int) + 1) (by omega) (by omega), -List.length_drop]
    rw [hr]
    exact hset _
  · rintro e H ⟨hn, h1, h9, h19, hG⟩
    simp (config := {maxSteps := 1000000, maxDischargeDepth := 9, implicitDefEqProofs := false}) [c26_l0, hn, h19]
    exact hG


theorem GP.read0 {h H : Heap} {hb m v : List Int} (g : GP h hb m v H) (hl : hb.length = 8) : H.read h.next 0 8 = some (hb.map (V.int .u32)) := by
  unfold Heap.read
  rw [if_neg (by omega), g.g0]
  simp only [Nat.zero_add]
  rw [if_pos (by simp [hl]), List.drop_zero, List.take_of_length_le (by simp [hl])]
theorem over_front (a b : List Int) (n : Nat) (hb : b.length = n) (ha : a.length = n + n) : over (a.map (V.int .u32)) 0 (b.map (V.int .u32)) = (b ++ a.drop n).map (V.int .u32) := by
  unfold over
  simp [hb, List.map_drop]
theorem over_back (a b : List Int) (n : Nat) (hb : b.length = n) (ha : a.length = n + n) : over (a.map (V.int .u32)) n (b.map (V.int .u32)) = (a.take n ++ b).map (V.int .u32) := by
  unfold over
  simp [hb, List.map_take, List.drop_eq_nil_of_le, ha]

theorem press_mid (cf : ACall) (hMix : ∀ a h, cf 30 a h = s_mix a h) (hSig : ∀ a h, cf 32 a h = s_sigma a h) (hFirst : ∀ a h, cf 25 a h = s_first a h) (h : Heap) (hb m : List Int) (t : Int) (last : Bool) (hl8 : hb.length = 8) (hm : m.length = 16) (ht0 : 0 ≤ t) :
    ∀ e H, e.n = 142 → e.at 2 = .int .u64 t → e.at 3 = .bool last → e.at 4 = .ptr h.next 0 → e.at 8 = .ptr (h.next + 1) 0 → e.at 9 = .ptr (h.next + 2) 0 → e.at 10 = .ptr (h.next + 3) 0 → GP h hb m (List.replicate 16 0) H →
    Runs (finS [.cells 8 8] (execA cf 20 c26_s3 e H)) fun v H' => v = .agg ((endB hb (roundsB (vInit hb t last) m 10) 8).map (V.int .u32)) ∧ Ext h H' := by
  intro e H hn h2 h3 h4 h8 h9 h10 hG
  have hG1 := hG.new (.cells (ivL.map (V.int .u32)) 46 1 true)
  have hnx := hG.next
  have ivl := ivL_length
  have hc1 := copy_at (c := some 16) (c' := some 8) (n := 16) (o := 0) hG1.g3 (hG1.read0 hl8) (by omega) (by omega) (by simp) (by simp [List.all_map, V.one]) (by simp [hl8])
  rw [over_front _ _ 8 hl8 (by simp)] at hc1
  have hG2 := hG1.setV (hb ++ (List.replicate 16 0).drop 8)
  have hrd : (Heap.set (H.new (.cells (ivL.map (V.int .u32)) 46 1 true)) (h.next + 3) (some (.cells ((hb ++ (List.replicate 16 0).drop 8).map (V.int .u32)) 47 1 true))).read H.next 0 8 = some (ivL.map (V.int .u32)) := by
    unfold Heap.read
    rw [if_neg (by omega), Heap.get_set, if_neg (by omega), Heap.get_new, if_pos rfl]
    simp [ivL]
  have hc2 := copy_at (c := some 8) (c' := some 8) (n := 8) (o := 8) hG2.g3 hrd (by omega) (by omega) (by simp [hl8]) (by simp [List.all_map, V.one]) (by simp [ivL])
  rw [over_back _ _ 8 ivl (by simp [hl8]), List.take_left' hl8] at hc2
  have hG3 := hG2.setV (hb ++ ivL)
  simp only [Heap.set_set] at hG3 hc2
  generalize hb ++ (List.replicate 16 0).drop 8 = w1 at *
  have hv1 : (hb ++ ivL).length = 16 := by simp [hl8, ivl]
  generalize hv1q : hb ++ ivL = v1 at *
  have hov : over [V.int .u32 0, V.int .u32 0, V.int .u32 0, V.int .u32 0, V.int .u32 0, V.int .u32 0, V.int .u32 0, V.int .u32 0] 0 (ivL.map (V.int .u32)) = ivL.map (V.int .u32) := rfl
  have hs1 : ∀ (H : Heap) (b n : Nat), sliceV H 1 (.slice b 0 n (some n)) none none none = some (.slice b 0 n (some n)) := fun H b n => by simp [sliceV, bounds, maxOf, highOf, lowOf]
  have hs2 : ∀ (H : Heap) (b : Nat), sliceV H 1 (.slice b 0 16 (some 16)) (some (.int .i64 8)) none none = some (.slice b 8 8 (some 8)) := fun H b => by simp [sliceV, bounds, maxOf, highOf, lowOf, bound]
  have e2 : ∀ x y : Int, wrapF .u32 (((x % 4294967296).toNat ^^^ (y % 4294967296).toNat : Nat) : Int) = xor32 x y := fun _ _ => rfl
  have hvi : vInit hb t last = (if last then ((v1.set 12 (xor32 (v1.getD 12 0) (wrapF .u32 t))).set 13 (xor32 ((v1.set 12 (xor32 (v1.getD 12 0) (wrapF .u32 t))).getD 13 0) (wrapF .u32 (t / 4294967296)))).set 14 (not32 (((v1.set 12 (xor32 (v1.getD 12 0) (wrapF .u32 t))).set 13 (xor32 ((v1.set 12 (xor32 (v1.getD 12 0) (wrapF .u32 t))).getD 13 0) (wrapF .u32 (t / 4294967296)))).getD 14 0)) else (v1.set 12 (xor32 (v1.getD 12 0) (wrapF .u32 t))).set 13 (xor32 ((v1.set 12 (xor32 (v1.getD 12 0) (wrapF .u32 t))).getD 13 0) (wrapF .u32 (t / 4294967296)))) := by
    unfold vInit
    rw [hv1q]
  have m1 : v1[12]'(by omega) = v1.getD 12 0 := by rw [List.getD_eq_getElem?_getD, List.getElem?_eq_getElem (by omega)]; rfl
  rw [← m1] at hvi
  obtain ⟨v2, hv2⟩ : ∃ v2, v2 = v1.set 12 (xor32 (v1[12]'(by omega)) (wrapF .u32 t)) := ⟨_, rfl⟩
  rw [← hv2] at hvi
  have hv2l : v2.length = 16 := by rw [hv2]; simp [hv1]
  have m2 : v2[13]'(by omega) = v2.getD 13 0 := by rw [List.getD_eq_getElem?_getD, List.getElem?_eq_getElem (by omega)]; rfl
  rw [← m2] at hvi
  obtain ⟨v3, hv3⟩ : ∃ v3, v3 = v2.set 13 (xor32 (v2[13]'(by omega)) (wrapF .u32 (t / 4294967296))) := ⟨_, rfl⟩
  rw [← hv3] at hvi
  have hv3l : v3.length = 16 := by rw [hv3]; simp [hv2l]
  have m3 : v3[14]'(by omega) = v3.getD 14 0 := by rw [List.getD_eq_getElem?_getD, List.getElem?_eq_getElem (by omega)]; rfl
  rw [← m3] at hvi
  obtain ⟨v4, hv4⟩ : ∃ v4, v4 = v3.set 14 (not32 (v3[14]'(by omega))) := ⟨_, rfl⟩
  rw [← hv4] at hvi
  have hv4l : v4.length = 16 := by rw [hv4]; simp [hv3l]
  have hfd : t.fdiv 4294967296 = t / 4294967296 := Int.fdiv_eq_ediv_of_nonneg _ (by omega)
  have hun : ∀ (x : Int) (H : Heap), unS .xor (.int .u32 x) H = some (.int .u32 (not32 x), H) := fun _ _ => rfl
  have hG4 := hG3.setV v3
  have hG5 := hG3.setV v4
  simp only [Heap.set_set] at hG4 hG5
  have fin : ∀ (vv : List Int) (e : Env) (H : Heap), vv.length = 16 → e.n = 142 → e.at 4 = .ptr h.next 0 → e.at 8 = .ptr (h.next + 1) 0 → e.at 9 = .ptr (h.next + 2) 0 → e.at 10 = .ptr (h.next + 3) 0 → GP h hb m vv H →
      Runs (finS [.cells 8 8] (execA cf 20 c26_s9 e H)) fun v H' => v = .agg ((endB hb (roundsB vv m 10) 8).map (V.int .u32)) ∧ Ext h H' := by
    intro vv e H hvv hn h4 h8 h9 h10 hG
    simp (config := {maxSteps := 1000000, maxDischargeDepth := 9, implicitDefEqProofs := false}) [c26_s9, hn, h4, h8, h9, h10]
    refine loop_thenE (K := fun r => finS _ (seqS _ _ _ (blockS _ r))) (press_outer cf hMix hSig h hb m vv hvv hm _ _ ?_ ?_ ?_ ?_ hG) ?_
    · simp (config := {maxSteps := 1000000, maxDischargeDepth := 9, implicitDefEqProofs := false}) [hn]
    · simp (config := {maxSteps := 1000000, maxDischargeDepth := 9, implicitDefEqProofs := false}) [hn]
    · simp (config := {maxSteps := 1000000, maxDischargeDepth := 9, implicitDefEqProofs := false}) [hn, h9]
    · simp (config := {maxSteps := 1000000, maxDischargeDepth := 9, implicitDefEqProofs := false}) [hn]
    · rintro x H2 ⟨rfl, hGa⟩
      simp (config := {maxSteps := 1000000, maxDischargeDepth := 9, implicitDefEqProofs := false}) [hn, h4, h8, h10, c26_l1_wr]
      refine loop_thenE (K := fun r => finS _ (seqS _ _ _ (blockS _ r))) (press_last cf h hb m (roundsB vv m 10) (by rw [roundsB_length, hvv]) hl8 _ _ ?_ ?_ ?_ ?_ hGa) ?_
      · simp (config := {maxSteps := 1000000, maxDischargeDepth := 9, implicitDefEqProofs := false}) [hn]
      · simp (config := {maxSteps := 1000000, maxDischargeDepth := 9, implicitDefEqProofs := false}) [hn, h4, c26_l1_wr]
      · simp (config := {maxSteps := 1000000, maxDischargeDepth := 9, implicitDefEqProofs := false}) [hn, h10, c26_l1_wr]
      · simp (config := {maxSteps := 1000000, maxDischargeDepth := 9, implicitDefEqProofs := false}) [hn]
      · rintro x H3 ⟨rfl, hGb⟩
        have g0 := hGb.g0
        have g1 := hGb.g1
        have hel := endB_length hb (roundsB vv m 10) 8
        rw [hl8] at hel
        have hnx := hGb.next
        generalize endB hb (roundsB vv m 10) 8 = out at *
        have htk : (out.map (V.int .u32)).take 8 = out.map (V.int .u32) := List.take_of_length_le (by simp [hel])
        have hov2 : over [V.int .u32 0, V.int .u32 0, V.int .u32 0, V.int .u32 0, V.int .u32 0, V.int .u32 0, V.int .u32 0, V.int .u32 0] 0 (out.map (V.int .u32)) = out.map (V.int .u32) := by
          unfold over; simp [hel]
        simp (config := {maxSteps := 1000000, maxDischargeDepth := 9, implicitDefEqProofs := false}) [hn, h4, h8, c26_l1_wr, c26_l4_wr, g0, g1, hel, htk, -over, hov2, mem_ints_one, -List.map_take]
        exact hGb.ext.trans_set (by omega) _
  cases last
  · simp (config := {maxSteps := 1000000, maxDischargeDepth := 9, implicitDefEqProofs := false}) [c26_s3, hn, h2, h3, h4, h8, h9, h10, hFirst, s_first, ivl, hc1, hc2, -over, mem_ints_one, hov, hs1, hs2, hv1, hv2l, hv3l, modK, e2, over_set, map_set, -List.map_set, ← hv2, ← hv3, hfd]
    rw [hvi]
    simp only [Bool.false_eq_true, if_false]
    refine fin v3 _ _ hv3l ?_ ?_ ?_ ?_ ?_ hG4 <;> simp (config := {maxSteps := 1000000, maxDischargeDepth := 9, implicitDefEqProofs := false}) [hn, h4, h8, h9, h10]
  · simp (config := {maxSteps := 1000000, maxDischargeDepth := 9, implicitDefEqProofs := false}) [c26_s3, hn, h2, h3, h4, h8, h9, h10, hFirst, s_first, ivl, hc1, hc2, -over, mem_ints_one, hov, hs1, hs2, hv1, hv2l, hv3l, modK, e2, over_set, map_set, -List.map_set, ← hv2, ← hv3, ← hv4, hfd, hun]
    rw [hvi]
    simp only [if_true]
    refine fin v4 _ _ hv4l ?_ ?_ ?_ ?_ ?_ hG5 <;> simp (config := {maxSteps := 1000000, maxDischargeDepth := 9, implicitDefEqProofs := false}) [hn, h4, h8, h9, h10]

/-- blake.press. -/
def s_press : List V → Heap → Option (V × Heap)
  | [.agg cs, bv, .int .u64 t, .bool last], h => match asK .u32 cs, slB h bv with
    | some hb, some s => if hb.length = 8 ∧ s.length = 64 ∧ 0 ≤ t then some (.agg ((pressF hb s t last).map (V.int .u32)), h) else none
    | _, _ => none
  | _, _ => none

theorem press_ok (cf : ACall) (hGet : ∀ a h, cf 29 a h = s_Get32 a h) (hMix : ∀ a h, cf 30 a h = s_mix a h) (hSig : ∀ a h, cf 32 a h = s_sigma a h) (hFirst : ∀ a h, cf 25 a h = s_first a h) : Sum cf c26 s_press := by
  intro args h v h' hf hsc hlt hs
  unfold s_press at hs
  split at hs
  · rename_i cs bv t last
    split at hs
    · rename_i hb s hcs hbv
      split at hs
      · rename_i hc
        obtain ⟨hl8, hs64, ht0⟩ := hc
        simp only [Option.some.injEq, Prod.mk.injEq] at hs
        obtain ⟨rfl, rfl⟩ := hs
        have hcs := asK_some.1 hcs
        subst hcs
        refine ⟨20, ?_⟩
        have hG0 : GP h hb (List.replicate 16 0) (List.replicate 16 0) ((((h.new (.cells (hb.map (V.int .u32)) 46 1 true)).new (.cells (List.replicate 8 (.int .u32 0)) 46 1 true)).new (.cells ((List.replicate 16 0).map (V.int .u32)) 47 1 true)).new (.cells ((List.replicate 16 0).map (V.int .u32)) 47 1 true)) := by
          refine ⟨?_, (((hf.new _).new _).new _).new _, by simp, ?_, ?_, ?_, ?_⟩
          · repeat (first | exact Ext.refl _ | apply Ext.trans_new)
          · simp only [Heap.get_new, Heap.next_new]; rw [if_neg (by omega), if_neg (by omega), if_neg (by omega), if_pos trivial]
          · simp only [Heap.get_new, Heap.next_new]; rw [if_neg (by omega), if_neg (by omega), if_pos trivial]
          · simp only [Heap.get_new, Heap.next_new]; rw [if_neg (by omega), if_pos trivial]
          · simp only [Heap.get_new, Heap.next_new]; rw [if_pos trivial]
        simp (config := {maxSteps := 1000000, maxDischargeDepth := 9, implicitDefEqProofs := false}) [c26, mem_ints_one, hl8]
        refine loop_thenE (K := fun r => finS _ (seqS _ _ _ (blockS _ r))) (press_words cf hGet h hf hb (List.replicate 16 0) bv s hbv hs64 _ _ ?_ ?_ ?_ ?_ hG0) ?_
        · simp (config := {maxSteps := 1000000, maxDischargeDepth := 9, implicitDefEqProofs := false})
        · simp (config := {maxSteps := 1000000, maxDischargeDepth := 9, implicitDefEqProofs := false})
        · simp (config := {maxSteps := 1000000, maxDischargeDepth := 9, implicitDefEqProofs := false})
        · simp (config := {maxSteps := 1000000, maxDischargeDepth := 9, implicitDefEqProofs := false})
        · rintro x H ⟨rfl, hG⟩
          simp (config := {maxSteps := 1000000, maxDischargeDepth := 9, implicitDefEqProofs := false})
          obtain ⟨v2, H2, q1, q2, q3⟩ := press_mid cf hMix hSig hFirst h hb (mW s 16) t last hl8 (mW_length s 16) ht0 (loopE cf 20 c26_l0 ((((((Env.init [V.agg (List.map (V.int .u32) hb), bv, V.int .u64 t, V.bool last] 142).put 4 (V.ptr h.next 0)).put 8 (V.ptr (h.next + 1) 0)).put 9 (V.ptr (h.next + 2) 0)).put 10 (V.ptr (h.next + 3) 0)).put 19 (V.int .i64 0)) ((((h.new (.cells (hb.map (V.int .u32)) 46 1 true)).new (.cells (List.replicate 8 (.int .u32 0)) 46 1 true)).new (.cells ((List.replicate 16 0).map (V.int .u32)) 47 1 true)).new (.cells ((List.replicate 16 0).map (V.int .u32)) 47 1 true))) H (by simp (config := {maxSteps := 1000000, maxDischargeDepth := 9, implicitDefEqProofs := false})) (by simp (config := {maxSteps := 1000000, maxDischargeDepth := 9, implicitDefEqProofs := false}) [c26_l0_wr]) (by simp (config := {maxSteps := 1000000, maxDischargeDepth := 9, implicitDefEqProofs := false}) [c26_l0_wr]) (by simp (config := {maxSteps := 1000000, maxDischargeDepth := 9, implicitDefEqProofs := false}) [c26_l0_wr]) (by simp (config := {maxSteps := 1000000, maxDischargeDepth := 9, implicitDefEqProofs := false}) [c26_l0_wr]) (by simp (config := {maxSteps := 1000000, maxDischargeDepth := 9, implicitDefEqProofs := false}) [c26_l0_wr]) (by simp (config := {maxSteps := 1000000, maxDischargeDepth := 9, implicitDefEqProofs := false}) [c26_l0_wr]) hG
          refine ⟨v2, H2, q1, ?_⟩
          rw [q2]
          exact Canon.keep hf hsc q3 (by simp only [V.lt]; exact ltL_mono (Nat.zero_le _) _ (flat_ints _ _))
      · cases hs
    · cases hs
  · cases hs

/-- A hash's cells. -/
def hashCells (hb : List Int) (t : Int) (v : V) : List V := hb.map (V.int .u32) ++ [.int .u64 t, v]
theorem hashCells_length {hb : List Int} (h : hb.length = 8) (t : Int) (v : V) : (hashCells hb t v).length = 10 := by simp [hashCells, h]
theorem hash_nth8 {hb : List Int} (h : hb.length = 8) (t : Int) (v : V) : nth (hashCells hb t v) 8 = some (.int .u64 t) := by
  rw [nth_eq]; unfold hashCells
  rw [List.getElem?_append_right (by simp [h])]; simp [h]
theorem hash_nth9 {hb : List Int} (h : hb.length = 8) (t : Int) (v : V) : nth (hashCells hb t v) 9 = some v := by
  rw [nth_eq]; unfold hashCells
  rw [List.getElem?_append_right (by simp [h])]; simp [h]
theorem hash_take {hb : List Int} (h : hb.length = 8) (t : Int) (v : V) : (hashCells hb t v).take 8 = hb.map (V.int .u32) := by
  unfold hashCells
  rw [List.take_append_of_le_length (by simp [h]), List.take_of_length_le (by simp [h])]
theorem hash_over9 {hb : List Int} (h : hb.length = 8) (t : Int) (v w : V) : over (hashCells hb t v) 9 [w] = hashCells hb t w := by
  unfold over hashCells
  have e1 : (hb.map (V.int .u32) ++ [.int .u64 t, v]).take 9 = hb.map (V.int .u32) ++ [.int .u64 t] := by
    rw [List.take_append]; simp [h, List.take_of_length_le]
  have e2 : (hb.map (V.int .u32) ++ [.int .u64 t, v]).drop (9 + [w].length) = [] := List.drop_eq_nil_of_le (by simp [h])
  rw [e1, e2]; simp
theorem hash_over8 {hb : List Int} (h : hb.length = 8) (t s : Int) (v : V) : over (hashCells hb t v) 8 [.int .u64 s] = hashCells hb s v := by
  unfold over hashCells
  have e1 : (hb.map (V.int .u32) ++ [.int .u64 t, v]).take 8 = hb.map (V.int .u32) := by
    rw [List.take_append_of_le_length (by simp [h]), List.take_of_length_le (by simp [h])]
  have e2 : (hb.map (V.int .u32) ++ [.int .u64 t, v]).drop (8 + [V.int .u64 s].length) = [v] := by
    rw [List.drop_append]; simp [h, List.drop_eq_nil_of_le]
  rw [e1, e2]; simp
theorem hash_over0 {hb hc : List Int} (h : hb.length = 8) (k : hc.length = 8) (t : Int) (v : V) : over (hashCells hb t v) 0 (hc.map (V.int .u32)) = hashCells hc t v := by
  unfold over hashCells
  rw [List.take_zero, List.nil_append, List.drop_append]
  simp [h, k, List.drop_eq_nil_of_le]
def h0L : List Int := ivL.set 0 (xor32 1779033703 16842784)
/-- blake.New. -/
def s_New : List V → Heap → Option (V × Heap)
  | [], h => some (.ptr h.next 0, h.new (.cells (hashCells h0L 0 .nilslice) 58 1 true))
  | _, _ => none
theorem New_ok (cf : ACall) (hFirst : ∀ a h, cf 25 a h = s_first a h) : Sum cf c19 s_New := by
  intro args h v h' hf hsc hlt hs
  unfold s_New at hs
  split at hs
  · simp only [Option.some.injEq, Prod.mk.injEq] at hs
    obtain ⟨rfl, rfl⟩ := hs
    refine ⟨1, ?_⟩
    have e2 : ∀ x y : Int, wrapF .u32 (((x % 4294967296).toNat ^^^ (y % 4294967296).toNat : Nat) : Int) = xor32 x y := fun _ _ => rfl
    simp (config := {maxSteps := 1000000, maxDischargeDepth := 9, implicitDefEqProofs := false}) [c19, hFirst, s_first, ivL, modK, e2]
    refine Canon.tail (H := h) hf hsc (Ext.refl h) (cs := hashCells h0L 0 .nilslice) ?_ ?_
    · simp only [hashCells, h0L, ivL, List.set, List.map_cons, List.map_nil, List.cons_append, List.nil_append, ltL, V.lt, and_self]
    · simp
  · cases hs

def kOf (n : Nat) : Nat := (n - 1) / 64
def stepsH (hb : List Int) (t : Int) (s : List Nat) : Nat → List Int
  | 0 => hb
  | i + 1 => pressF (stepsH hb t s i) ((s.drop (64 * i)).take 64) (t + 64 * (i : Int) + 64) false
theorem stepsH_length {hb : List Int} (t : Int) (s : List Nat) (h : hb.length = 8) : ∀ i, (stepsH hb t s i).length = 8
  | 0 => h
  | i + 1 => by simp only [stepsH, pressF_length, stepsH_length t s h i]
/-- What a hash's cells say. -/
def hashOf (cs : List V) : Option (List Int × Int × V) := match cs.drop 8 with
  | [.int .u64 t, v] => (asK .u32 (cs.take 8)).map fun hb => (hb, t, v)
  | _ => none
theorem hashOf_some {cs : List V} {hb : List Int} {t : Int} {v : V} (h : hashOf cs = some (hb, t, v)) : cs = hashCells hb t v := by
  unfold hashOf at h
  split at h
  · rename_i t' v' hd
    simp only [Option.map_eq_some_iff, Prod.mk.injEq] at h
    obtain ⟨l, hl, rfl, rfl, rfl⟩ := h
    have := asK_some.1 hl
    unfold hashCells
    rw [← this, ← hd, List.take_append_drop]
  · cases h
theorem hashOf_cells {hb : List Int} (t : Int) (v : V) (h : hb.length = 8) : hashOf (hashCells hb t v) = some (hb, t, v) := by
  unfold hashOf
  rw [hash_take h]
  have : (hashCells hb t v).drop 8 = [.int .u64 t, v] := by
    unfold hashCells
    rw [List.drop_append]; simp [h, List.drop_eq_nil_of_le]
  rw [this]
  simp [asK_map]
def big : Int := 4611686018427387904
/-- (*blake.Hash).Write. -/
def s_Write : List V → Heap → Option (V × Heap)
  | [.ptr p 0, vb], h => match h.get p with
    | some (.cells cs tt z true) => match hashOf cs with
      | some (hb, t, vr) => match slB h vr, slB h vb with
        | some r, some b => if hb.length = 8 ∧ 0 ≤ t ∧ t ≤ big ∧ (r ++ b).length ≤ lim then
            some (.undef, (h.set p (some (.cells (hashCells (stepsH hb t (r ++ b) (kOf (r ++ b).length)) (t + 64 * (kOf (r ++ b).length : Int)) (newV h ((r ++ b).drop (64 * kOf (r ++ b).length)).length)) tt z true))).new (.cells (bytesOf ((r ++ b).drop (64 * kOf (r ++ b).length))) 5 1 true)) else none
        | _, _ => none
      | none => none
    | _ => none
  | _, _ => none

theorem drop64 (s : List Nat) (i : Nat) : (s.drop (64 * i)).drop 64 = s.drop (64 * (i + 1)) := by rw [List.drop_drop]; congr 1
theorem slB_at {H : Heap} {q t o n : Nat} {c : Option Nat} {own : Bool} {all : List Nat} (hq : H.get q = some (.cells (bytesOf all) t 1 own)) (hlt : ∀ y ∈ all, y < 256) (ho : o + n ≤ all.length) (hc : c = none ∨ c = some n) : slB H (.slice q o n c) = some ((all.drop o).take n) := by
  refine slB_of ?_ (fun y hy => hlt y (List.mem_of_mem_drop (List.mem_of_mem_take hy)))
  have hw : wfS H 1 (.slice q o n c) = true := by rcases hc with rfl | rfl <;> simp [wfS, hq, bytesOf_length, ho]
  unfold sl
  rw [if_pos hw]
  simp only [rd, Nat.mul_one]
  unfold Heap.read
  by_cases hn : n = 0
  · subst hn; simp [bytesOf]
  · rw [if_neg hn, hq]
    simp only
    rw [if_pos (by rw [bytesOf_length]; exact ho)]
    simp [bytesOf, List.map_take, List.map_drop]
theorem Write_loop (cf : ACall) (hPress : ∀ a h, cf 26 a h = s_press a h) (H0 : Heap) (p q tt z : Nat) (hb : List Int) (t : Int) (all : List Nat) (hl : hb.length = 8) (ht0 : 0 ≤ t) (htb : t ≤ 4611686018427387904) (hal : all.length ≤ 140737488354304) (hlt : ∀ y ∈ all, y < 256) (hpq : p ≠ q) (hq : H0.get q = some (.cells (bytesOf all) 5 1 true)) :
    ∀ e, e.n = 52 → e.at 0 = .ptr p 0 →
    YtobnkgajgodioaaDoorA.Ends (execA cf (kOf all.length + 1) (.loop c20_l0) e (H0.set p (some (.cells (hashCells hb t (.slice q 0 all.length none)) tt z true)))) fun x e' H => x = .exit 0 ∧ H = H0.set p (some (.cells (hashCells (stepsH hb t all (kOf all.length)) (t + 64 * (kOf all.length : Int)) (.slice q (64 * kOf all.length) (all.length - 64 * kOf all.length) none)) tt z true)) := by
  intro e hn h0
  have hk : kOf all.length = (all.length - 1) / 64 := rfl
  refine loop_count (cf := cf) (N := kOf all.length + 1) (c := c20_l0) (kOf all.length)
    (fun i e H => e.n = 52 ∧ e.at 0 = .ptr p 0 ∧ H = H0.set p (some (.cells (hashCells (stepsH hb t all i) (t + 64 * (i : Int)) (.slice q (64 * i) (all.length - 64 * i) none)) tt z true)))
    (fun x e' H => x = .exit 0 ∧ H = H0.set p (some (.cells (hashCells (stepsH hb t all (kOf all.length)) (t + 64 * (kOf all.length : Int)) (.slice q (64 * kOf all.length) (all.length - 64 * kOf all.length) none)) tt z true))) ?_ ?_ 0 e _ (Nat.zero_le _) ⟨hn, h0, by simp [stepsH]⟩ (by omega)
  · rintro i e H hi ⟨hn, h0, rfl⟩
    have hi64 : 64 * (i + 1) + 1 ≤ all.length := by omega
    have hsl := stepsH_length t all hl i
    have hsl2 := stepsH_length t all hl (i + 1)
    have hst : stepsH hb t all (i + 1) = pressF (stepsH hb t all i) ((all.drop (64 * i)).take 64) (t + 64 * (i : Int) + 64) false := rfl
    have hpq2 : (q = p) = False := by simp; exact fun e => hpq e.symm
    have w1 : wrapF .u64 (t + 64 * (i : Int) + 64) = t + 64 * (i : Int) + 64 := wrap_u64 (by omega) (by omega)
    have e1 : t + 64 * ((i + 1 : Nat) : Int) = t + 64 * (i : Int) + 64 := by omega
    have e2 : 64 * (i + 1) = 64 * i + 64 := by omega
    have e3 : all.length - (64 * i + 64) = all.length - 64 * i - 64 := by omega
    have hgt : (64 : Int) < ((all.length - 64 * i : Nat) : Int) := by omega
    have hge : (64 : Int) ≤ ((all.length - 64 * i : Nat) : Int) := by omega
    have htl : ((all.drop (64 * i)).take 64).length = 64 := by simp; omega
    have ht2 : 0 ≤ t + 64 * (i : Int) + 64 := by omega
    generalize hsi : stepsH hb t all i = si at *
    generalize hsj : stepsH hb t all (i + 1) = sj at *
    generalize ht'' : t + 64 * (i : Int) = t1 at *
    have hn0 : (all.length - 64 * i = 0) = False := by simp; omega
    have hs1 : ∀ B, sliceV (H0.set p B) 1 (.slice q (64 * i) (all.length - 64 * i) none) none (some (.int .i64 64)) none = some (.slice q (64 * i) 64 none) := fun B => by
      simp [sliceV, hn0, Heap.get_set, hpq2, hq, bounds, maxOf, highOf, lowOf, bound, hge]
    have hs2 : ∀ B, sliceV (H0.set p B) 1 (.slice q (64 * i) (all.length - 64 * i) none) (some (.int .i64 64)) none none = some (.slice q (64 * i + 64) (all.length - 64 * i - 64) none) := fun B => by
      simp [sliceV, hn0, Heap.get_set, hpq2, hq, bounds, maxOf, highOf, lowOf, bound, hge]
    have hb1 : ∀ B, slB (H0.set p B) (.slice q (64 * i) 64 none) = some ((all.drop (64 * i)).take 64) := fun B =>
      slB_at (H := H0.set p B) (by rw [Heap.get_set, if_neg (fun e => hpq e.symm)]; exact hq) hlt (by omega) (.inl rfl)
    have hpl : (pressF si ((all.drop (64 * i)).take 64) (t1 + 64) false).length = 8 := by rw [pressF_length]; exact hsl
    rw [e1, e2, e3, hst]
    simp (config := {maxSteps := 1000000, maxDischargeDepth := 9, implicitDefEqProofs := false}) [c20_l0, hn, h0, hsl, hsl2, hash_nth9 hsl, hash_nth8 hsl, hash_take hsl, hashCells_length hsl, hgt, w1, hs1, hs2, hb1, hPress, s_press, htl, ht2, -over, hash_over8 hsl, hash_over9 hsl, hash_over0 hsl hpl, hpl, hash_nth9 hpl, hash_over9 hpl, hashCells_length hpl, mem_ints_one]
  · rintro e H ⟨hn, h0, rfl⟩
    have hsl := stepsH_length t all hl (kOf all.length)
    have hle : ¬ ((64 : Int) < ((all.length - 64 * kOf all.length : Nat) : Int)) := by omega
    simp (config := {maxSteps := 1000000, maxDischargeDepth := 9, implicitDefEqProofs := false}) [c20_l0, hn, h0, hash_nth9 hsl, hle]

theorem hash_VC {h2 : Heap} {τ : Nat → Nat × Nat} {n : Nat} (hb : List Int) (t : Int) {v v2 : V} (hv : VC h2 τ n v v2) : ∀ (i : Nat) w, (hashCells hb t v)[i]? = some w → ∃ x, (hashCells hb t v2)[i]? = some x ∧ VC h2 τ n w x := by
  intro i w hw
  unfold hashCells at hw ⊢
  by_cases hi : i < hb.length
  · rw [List.getElem?_append_left (by simpa using hi)] at hw ⊢
    refine ⟨w, hw, ?_⟩
    rw [List.getElem?_map, Option.map_eq_some_iff] at hw
    obtain ⟨x, _, rfl⟩ := hw
    exact VC.refl (n0 := 0) (fun b hb => by omega) (Nat.zero_le _) _ (by simp only [V.lt])
  · rw [List.getElem?_append_right (by simpa using hi)] at hw ⊢
    generalize i - (hb.map (V.int .u32)).length = j at *
    match j, hw with
    | 0, hw =>
      simp only [List.getElem?_cons_zero, Option.some.injEq] at hw
      subst hw
      exact ⟨_, rfl, VC.refl (n0 := 0) (fun b hb => by omega) (Nat.zero_le _) _ (by simp only [V.lt])⟩
    | 1, hw =>
      simp only [List.getElem?_cons_succ, List.getElem?_cons_zero, Option.some.injEq] at hw
      subst hw
      exact ⟨_, rfl, hv⟩
    | j + 2, hw => simp at hw
theorem Write_ok (cf : ACall) (hJoin : ∀ a h, cf 16 a h = s_Join a h) (hPress : ∀ a h, cf 26 a h = s_press a h) : Sum cf c20 s_Write := by
  intro args h v h' hf hsc hlt hs
  unfold s_Write at hs
  split at hs
  · rename_i p vb
    split at hs
    · rename_i cs tt z hg
      split at hs
      · rename_i hb t vr hho
        split at hs
        · rename_i r b hr hbb
          split at hs
          · rename_i hc
            obtain ⟨hl, ht0, htb, hlim⟩ := hc
            simp only [Option.some.injEq, Prod.mk.injEq] at hs
            obtain ⟨rfl, rfl⟩ := hs
            have hcs := hashOf_some hho
            subst hcs
            have htb : t ≤ 4611686018427387904 := htb
            have hlim' : lim = 140737488354304 := rfl
            rw [hlim'] at hlim
            have hpl := hf.lt hg
            have hvb : V.lt h.next vb := by simp only [ltL] at hlt; exact hlt.2.1
            have hvr : V.lt h.next vr := ltL_mem.1 (hsc p _ _ _ _ hg) vr (by simp [hashCells])
            have hlr := slB_lt hr
            have hlb := slB_lt hbb
            have hlall : ∀ y ∈ r ++ b, y < 256 := fun y hy => by
              rcases List.mem_append.1 hy with hy | hy
              · exact hlr y hy
              · exact hlb y hy
            have hvr1 := slB_isSl hr
            have hvb1 := slB_isSl hbb
            have oner : vr.one = true := by cases vr <;> first | rfl | (simp [isSl] at hvr1)
            have oneb : vb.one = true := by cases vb <;> first | rfl | (simp [isSl] at hvb1)
            have cr : vr.cells = [vr] := by cases vr <;> first | rfl | (simp [isSl] at hvr1)
            have cb : vb.cells = [vb] := by cases vb <;> first | rfl | (simp [isSl] at hvb1)
            have hp1 : (p = h.next + 1) = False := by simp; omega
            have hp0 : (p = h.next) = False := by simp; omega
            have hr1 : slB (h.new (.cells [vr, vb] 27 1 true)) vr = some r := by rw [slB_new _ hvr]; exact hr
            have hb1 : slB (h.new (.cells [vr, vb] 27 1 true)) vb = some b := by rw [slB_new _ hvb]; exact hbb
            have hsum : r.length + b.length = (r ++ b).length := by simp
            generalize hall : r ++ b = all at *
            have hov1 : over [V.nilslice, V.nilslice] 0 [vr] = [vr, V.nilslice] := rfl
            have hov2 : over [vr, V.nilslice] 1 [vb] = [vr, vb] := rfl
            refine ⟨kOf all.length + 1, ?_⟩
            simp (config := {maxSteps := 1000000, maxDischargeDepth := 9, implicitDefEqProofs := false}) [c20, hg, hash_nth9 hl, hash_over9 hl, hashCells_length hl, hJoin, s_Join, oner, oneb, cr, cb, hr1, hb1, hp0, hp1, hov1, hov2, hall, hsum, hlim, -over]
            have hk : kOf all.length = (all.length - 1) / 64 := rfl
            have hcomm : ∀ X, ((h.set p X).new (.cells [vr, vb] 27 1 true)).new (.cells (bytesOf all) 5 1 true) = ((h.new (.cells [vr, vb] 27 1 true)).new (.cells (bytesOf all) 5 1 true)).set p X := fun X => by
              simp (config := {maxSteps := 1000000, maxDischargeDepth := 9, implicitDefEqProofs := false}) [hp0, hp1]
            rw [hcomm]
            refine ends_then (K := fun r => finS _ (blockS _ r)) (Write_loop cf hPress ((h.new (.cells [vr, vb] 27 1 true)).new (.cells (bytesOf all) 5 1 true)) p (h.next + 1) tt z hb t all hl ht0 htb hlim hlall (by omega) ?_ _ ?_ ?_) ?_
            · rw [Heap.get_new]; exact if_pos rfl
            · simp (config := {maxSteps := 1000000, maxDischargeDepth := 9, implicitDefEqProofs := false})
            · simp (config := {maxSteps := 1000000, maxDischargeDepth := 9, implicitDefEqProofs := false})
            · rintro x e' H ⟨rfl, rfl⟩
              simp (config := {maxSteps := 1000000, maxDischargeDepth := 9, implicitDefEqProofs := false})
              refine ⟨_, Canon.mod1 (b2 := h.next + 1) (δ := 64 * kOf all.length) (nc2 := bytesOf all) (cs2 := hashCells (stepsH hb t all (kOf all.length)) (t + 64 * (kOf all.length : Int)) (.slice (h.next + 1) (64 * kOf all.length) (all.length - 64 * kOf all.length) none)) hf hsc hpl ?_ ?_ ?_ ?_ ?_ ?_ ?_ ?_ ?_ ?_⟩
              · intro b B hne hB
                have := hf.lt hB
                simp only [Heap.get_set, Heap.get_new, Heap.next_new]
                rw [if_neg hne, if_neg (by omega), if_neg (by omega)]
                exact hB
              · simp only [Heap.get_set]
                rw [if_pos trivial]
              · rw [hashCells_length (stepsH_length t all hl _), hashCells_length (stepsH_length t all hl _)]
              · refine hash_VC _ _ ?_
                simp (config := {maxSteps := 1000000, maxDischargeDepth := 9, implicitDefEqProofs := false}) [moved_at]
              · omega
              · simp only [Heap.get_set, Heap.get_new, Heap.next_new]
                rw [if_neg (by omega), if_pos trivial]
              · rw [bytesOf_length, bytesOf_length, List.length_drop]; omega
              · intro i v hi
                simp only [bytesOf, List.getElem?_map, List.getElem?_drop] at hi ⊢
                exact hi
              · exact flat_bytes _
              · simp only [V.undef, VC]
                exact ⟨[], rfl, by simp only [VCL]⟩
          · cases hs
        · cases hs
      · cases hs
    · cases hs
  · cases hs

/-- The lowest bytes of a number. -/
def putB (v : Int) (n : Nat) : List Nat := (List.range n).map fun i => (v / 2 ^ (8 * i) % 256).toNat
theorem putB_length (v : Int) (n : Nat) : (putB v n).length = n := by simp [putB]
theorem putB_lt (v : Int) (n : Nat) : ∀ y ∈ putB v n, y < 256 := by
  intro y hy
  simp only [putB, List.mem_map] at hy
  obtain ⟨i, _, rfl⟩ := hy
  have := Int.emod_nonneg (v / 2 ^ (8 * i)) (show (256 : Int) ≠ 0 by omega)
  have := Int.emod_lt_of_pos (v / 2 ^ (8 * i)) (show (0 : Int) < 256 by omega)
  omega
theorem putB_succ (v : Int) (n : Nat) : putB v (n + 1) = putB v n ++ [(v / 2 ^ (8 * n) % 256).toNat] := by simp [putB, List.range_succ]

/-- octet.put. -/
def s_put : List V → Heap → Option (V × Heap)
  | [.int .u64 v, .int .i64 n], h => if 0 ≤ n ∧ n ≤ 8 then some (newV h n.toNat, h.new (.cells (bytesOf (putB v n.toNat)) 5 1 true)) else none
  | _, _ => none

theorem put_ok (cf : ACall) : Sum cf c33 s_put := by
  intro args h v h' hf hsc hlt hs
  unfold s_put at hs
  split at hs
  · rename_i x n0
    split at hs
    · rename_i hn0
      simp only [Option.some.injEq, Prod.mk.injEq] at hs
      obtain ⟨rfl, rfl⟩ := hs
      obtain ⟨n, rfl⟩ : ∃ n : Nat, n0 = (n : Int) := ⟨n0.toNat, by omega⟩
      have hn8 : n ≤ 8 := by omega
      simp only [Int.toNat_natCast] at *
      refine ⟨n + 1, ?_⟩
      have L := loop_count (cf := cf) (N := n + 1) (c := c33_l0) n
        (fun i e H => e.n = 24 ∧ e.at 0 = .int .u64 x ∧ e.at 5 = .slice h.next 0 n (some n) ∧ e.at 10 = .int .i64 (n : Int) ∧ e.at 11 = .int .i64 (i : Int) ∧ H = h.new (.cells (bytesOf (putB x i) ++ List.replicate (n - i) (.int .u8 0)) 5 1 true))
        (fun x' e H => x' = .exit 0 ∧ e.n = 24 ∧ e.at 5 = .slice h.next 0 n (some n) ∧ H = h.new (.cells (bytesOf (putB x n)) 5 1 true))
        (by
          rintro i e H hi ⟨hn, h0, h5, h10, h11, rfl⟩
          obtain ⟨k, hk⟩ : ∃ k, n - i = k + 1 := ⟨n - i - 1, by omega⟩
          have hk2 : n - (i + 1) = k := by omega
          have hov := over_fill (bytesOf (putB x i)) (.int .u8 0) (.int .u8 (x / 2 ^ (8 * i) % 256)) k
          rw [bytesOf_length, putB_length] at hov
          have hm0 := Int.emod_nonneg (x / 2 ^ (8 * i)) (show (256 : Int) ≠ 0 by omega)
          have hb : bytesOf (putB x (i + 1)) = bytesOf (putB x i) ++ [.int .u8 (x / 2 ^ (8 * i) % 256)] := by
            rw [putB_succ, bytesOf_append]
            simp only [bytesOf, List.map_cons, List.map_nil, Int.ofNat_eq_natCast]
            rw [Int.toNat_of_nonneg hm0]
          have hsh : (8 * (i : Int)).toNat = 8 * i := by omega
          have hmin : min (8 * i) 64 = 8 * i := by omega
          have hw : wrapF .i64 (8 * (i : Int)) = 8 * (i : Int) := wrap_i64 (by omega) (by omega)
          have hfd : ∀ y : Int, y.fdiv (2 ^ (8 * i)) = y / 2 ^ (8 * i) := fun y => Int.fdiv_eq_ediv_of_nonneg _ (Int.le_of_lt (Int.pow_pos (by decide)))
          simp (config := {maxSteps := 1000000, maxDischargeDepth := 9, implicitDefEqProofs := false}) [c33_l0, hn, h0, h5, h10, h11, hi, hk, hk2, hb, hov, -over, hw, hsh, hmin, hfd, putB_length, wrap_u8_mod, show ¬ (8 * (i : Int) < 0) from by omega, wrap_i64 (x := (i : Int) + 1) (by omega) (by omega)]
          )
        (by
          rintro e H ⟨hn, h0, h5, h10, h11, rfl⟩
          simp (config := {maxSteps := 1000000, maxDischargeDepth := 9, implicitDefEqProofs := false}) [c33_l0, hn, h0, h5, h10, h11])
      simp (config := {maxSteps := 1000000, maxDischargeDepth := 9, implicitDefEqProofs := false}) [c33, show n ≤ 140737488355328 from by omega, show (n : Int) ≤ 140737488355328 from by omega]
      refine loop_then (K := fun r => finS _ (seqS _ _ _ (blockS _ r))) (L 0 _ _ (Nat.zero_le _) ?_ (Nat.lt_succ_self _)) ?_
      · simp (config := {maxSteps := 1000000, maxDischargeDepth := 9, implicitDefEqProofs := false}) [putB, bytesOf_nil]
      · rintro x e' H ⟨rfl, hn, h5, rfl⟩
        simp (config := {maxSteps := 1000000, maxDischargeDepth := 9, implicitDefEqProofs := false}) [hn, h5]
        exact Canon.made hf hsc rfl (by simp [bytesOf_length, putB_length]) (flat_bytes _)
    · cases hs
  · cases hs

/-- octet.Put32. -/
def s_Put32 : List V → Heap → Option (V × Heap)
  | [.int .u32 v], h => if 0 ≤ v ∧ v < 4294967296 then some (newV h 4, h.new (.cells (bytesOf (putB v 4)) 5 1 true)) else none
  | _, _ => none

theorem Put32_ok (cf : ACall) (hput : ∀ a h, cf 33 a h = s_put a h) : Sum cf c27 s_Put32 := by
  intro args h v h' hf hsc hlt hs
  unfold s_Put32 at hs
  split at hs
  · rename_i x
    split at hs
    · rename_i hx
      simp only [Option.some.injEq, Prod.mk.injEq] at hs
      obtain ⟨rfl, rfl⟩ := hs
      refine ⟨1, ?_⟩
      simp (config := {maxSteps := 1000000, maxDischargeDepth := 9, implicitDefEqProofs := false}) [c27, hput, s_put, wrap_u64 (x := x) (by omega) (by omega)]
      exact Canon.tail (H := h) hf hsc (Ext.refl h) (flat_bytes _) (by simp)
    · cases hs
  · cases hs

theorem copy_from {H : Heap} {p o n : Nat} {c : Option Nat} {Q : List V} {t : Nat} {vr : V} {r : List Nat} (hp : H.get p = some (.cells Q t 1 true)) (hr : slB H vr = some r) (hn : r.length ≤ n) (ho : o + r.length ≤ Q.length) :
    copyV H 1 (.slice p o n c) vr = some (.int .i64 (r.length : Int), if r = [] then H else H.set p (some (.cells (over Q o (bytesOf r)) t 1 true))) := by
  have hv := slB_vlen hr
  have hsl := slB_isSl hr
  have hrd := sl_rd (slB_sl hr).1
  cases vr with
  | nilslice =>
    have : r = [] := by simp [vlen] at hv; exact List.length_eq_zero_iff.1 hv.symm
    subst this
    simp [copyV]
  | slice b' o' n' c' =>
    have hv : n' = r.length := hv
    subst hv
    simp only [rd, Nat.mul_one] at hrd
    have hmin : min r.length n = r.length := Nat.min_eq_left hn
    simp only [copyV, hmin, Nat.mul_one, hrd]
    by_cases h0 : r = []
    · subst h0; simp
    · have : r.length ≠ 0 := fun e => h0 (List.length_eq_zero_iff.1 e)
      rw [if_neg this, if_neg h0, Heap.write_eq]
      unfold Heap.writeG
      rw [hp]
      simp only
      rw [if_pos ⟨by rw [bytesOf_length]; exact ho, bytesOf_one r⟩]
      rfl
  | _ => simp [isSl] at hsl

def outB (w : List Int) : Nat → List Nat
  | 0 => []
  | i + 1 => outB w i ++ putB (w.getD i 0) 4
theorem outB_length (w : List Int) : ∀ i, (outB w i).length = 4 * i
  | 0 => rfl
  | i + 1 => by simp [outB, outB_length w i, putB_length]; omega
theorem outB_lt (w : List Int) : ∀ i, ∀ y ∈ outB w i, y < 256
  | 0 => by simp [outB]
  | i + 1 => by
    intro y hy
    simp only [outB, List.mem_append] at hy
    rcases hy with hy | hy
    · exact outB_lt w i y hy
    · exact putB_lt _ _ y hy
theorem xor32_range (a b : Int) : 0 ≤ xor32 a b ∧ xor32 a b < 4294967296 := by
  simp only [xor32, wrap_u32_mod]; omega
theorem endB_range (hb v : List Int) (hl : hb.length = 8) : ∀ k, k ≤ 8 → ∀ j, j < k → 0 ≤ (endB hb v k).getD j 0 ∧ (endB hb v k).getD j 0 < 4294967296
  | 0, _, j, hj => by omega
  | k + 1, hk, j, hj => by
    have hel := endB_length hb v k
    simp only [endB]
    by_cases hjk : j = k
    · subst hjk
      rw [List.getD_eq_getElem?_getD, List.getElem?_set_self (by omega)]
      exact xor32_range _ _
    · rw [List.getD_eq_getElem?_getD, List.getElem?_set_ne (fun e => hjk e.symm), ← List.getD_eq_getElem?_getD]
      exact endB_range hb v hl k (by omega) j (by omega)
theorem pressF_range (hb : List Int) (s : List Nat) (t : Int) (last : Bool) (hl : hb.length = 8) : ∀ j, j < 8 → 0 ≤ (pressF hb s t last).getD j 0 ∧ (pressF hb s t last).getD j 0 < 4294967296 := endB_range _ _ hl 8 (Nat.le_refl _)

theorem putB_len4 (x : Int) : (bytesOf (putB x 4)).length = 4 := by rw [bytesOf_length, putB_length]
theorem HSum_loop (cf : ACall) (hP : ∀ a h, cf 27 a h = s_Put32 a h) (h H0 : Heap) (w : List Int) (q : Nat) (R : Blk) (hw : w.length = 8) (hr : ∀ j, j < 8 → 0 ≤ w.getD j 0 ∧ w.getD j 0 < 4294967296) (hE0 : Ext h H0) (hF0 : Fresh H0) (hq0 : h.next < q) (hq1 : q < H0.next)
    (go0 : H0.get q = some (.cells (List.replicate 32 (.int .u8 0)) 25 1 true)) (gr0 : H0.get h.next = some R) :
    ∀ e, e.n = 45 → e.at 5 = .ptr q 0 → e.at 32 = .agg (w.map (V.int .u32)) → e.at 33 = .int .i64 0 →
    YtobnkgajgodioaaDoorA.Ends (execA cf 20 (.loop c21_l0) e H0) fun x e' H => x = .exit 0 ∧ Ext h H ∧ Fresh H ∧ q < H.next ∧ H.get q = some (.cells (bytesOf (outB w 8)) 25 1 true) ∧ H.get h.next = some R := by
  intro e hn h5 h32 h33
  refine loop_count (cf := cf) (N := 20) (c := c21_l0) 8
    (fun i e H => e.n = 45 ∧ e.at 5 = .ptr q 0 ∧ e.at 32 = .agg (w.map (V.int .u32)) ∧ e.at 33 = .int .i64 (i : Int) ∧ Ext h H ∧ Fresh H ∧ q < H.next ∧ H.get q = some (.cells (bytesOf (outB w i) ++ List.replicate (32 - 4 * i) (.int .u8 0)) 25 1 true) ∧ H.get h.next = some R)
    (fun x e' H => x = .exit 0 ∧ Ext h H ∧ Fresh H ∧ q < H.next ∧ H.get q = some (.cells (bytesOf (outB w 8)) 25 1 true) ∧ H.get h.next = some R) ?_ ?_ 0 e _ (Nat.zero_le _) ⟨hn, h5, h32, h33, hE0, hF0, hq1, by simpa [outB, bytesOf_nil] using go0, gr0⟩ (by omega)
  · rintro i e H hi ⟨hn, h5, h32, h33, hE, hF, hqn, go, gr⟩
    have w1 : wrapF .i64 (4 * (i : Int)) = 4 * (i : Int) := wrap_i64 (by omega) (by omega)
    have t1 : (4 * (i : Int)).toNat = 4 * i := by omega
    have hxr := hr i hi
    have hgw : w.getD i 0 = w[i] := by rw [List.getD_eq_getElem?_getD, List.getElem?_eq_getElem (by omega)]; rfl
    have hout : outB w (i + 1) = outB w i ++ putB w[i] 4 := by simp only [outB, hgw]
    rw [hgw] at hxr
    generalize hx : w[i] = x at *
    have hlen := outB_length w i
    have hbl : (bytesOf (outB w i) ++ List.replicate (32 - 4 * i) (V.int .u8 0)).length = 32 := by simp [bytesOf_length, hlen]; omega
    have hsl : sliceV H 1 (.slice q 0 32 (some 32)) (some (.int .i64 (4 * (i : Int)))) none none = some (.slice q (4 * i) (32 - 4 * i) (some (32 - 4 * i))) := by
      have q1 : (0 : Int) ≤ 4 * (i : Int) := by omega
      have q2 : 4 * (i : Int) ≤ 32 := by omega
      have q3 : ¬ 32 = 4 * i := by omega
      simp [sliceV, bounds, maxOf, highOf, lowOf, bound, q1, q2, q3, t1]
    have hcopy := copy_at (h := H.new (.cells (bytesOf (putB x 4)) 5 1 true)) (p := q) (o := 4 * i) (n := 32 - 4 * i) (q := H.next) (m := 4) (c := some (32 - 4 * i)) (c' := none) (Q := bytesOf (outB w i) ++ List.replicate (32 - 4 * i) (.int .u8 0)) (cs := bytesOf (putB x 4)) (t := 25) (z := 1)
      (by rw [Heap.get_new, if_neg (by omega)]; exact go) (by rw [read_self (by rw [putB_len4]; omega), List.drop_zero, List.take_of_length_le (by rw [putB_len4]; omega)]) (by omega) (by omega) (by rw [hbl]; omega) (bytesOf_one _) (putB_len4 x)
    have hover : over (bytesOf (outB w i) ++ List.replicate (32 - 4 * i) (.int .u8 0)) (4 * i) (bytesOf (putB x 4)) = bytesOf (outB w (i + 1)) ++ List.replicate (32 - 4 * (i + 1)) (.int .u8 0) := by
      have := over_fillL (bytesOf (outB w i)) (bytesOf (putB x 4)) (.int .u8 0) (32 - 4 * (i + 1))
      rw [putB_len4, bytesOf_length, hlen, show 4 + (32 - 4 * (i + 1)) = 32 - 4 * i from by omega] at this
      rw [this, hout, bytesOf_append]
    rw [hover] at hcopy
    have hqn2 : (q = H.next) = False := by simp; omega
    simp (config := {maxSteps := 1000000, maxDischargeDepth := 9, implicitDefEqProofs := false}) [c21_l0, hn, h5, h32, h33, hi, show (i : Int) < 8 from by omega, w1, hsl, hw, hx, hP, s_Put32, hxr.1, hxr.2, hcopy, wrap_i64 (x := (i : Int) + 1) (by omega) (by omega)]
    refine ⟨(hE.trans_new _).trans_set (by omega) _, (hF.new _).set (by simp; omega) _, by omega, ?_⟩
    rw [if_neg (by omega), if_neg (by have := hE.1; omega)]
    exact gr
  · rintro e H ⟨hn, h5, h32, h33, hE, hF, hqn, go, gr⟩
    simp (config := {maxSteps := 1000000, maxDischargeDepth := 9, implicitDefEqProofs := false}) [c21_l0, hn, h33]
    exact ⟨hE, hF, hqn, by simpa using go, gr⟩

def padB (r : List Nat) : List Nat := r ++ List.replicate (64 - r.length) 0
theorem padB_length {r : List Nat} (h : r.length ≤ 64) : (padB r).length = 64 := by simp [padB]; omega
def finF (hb : List Int) (t : Int) (r : List Nat) : List Nat := outB (pressF hb (padB r) (t + (r.length : Int)) true) 8
theorem finF_length (hb : List Int) (t : Int) (r : List Nat) : (finF hb t r).length = 32 := outB_length _ 8
theorem finF_lt (hb : List Int) (t : Int) (r : List Nat) : ∀ y ∈ finF hb t r, y < 256 := outB_lt _ _
/-- (*blake.Hash).Sum. -/
def s_HSum : List V → Heap → Option (V × Heap)
  | [.ptr p 0], h => match h.get p with
    | some (.cells cs tt z true) => match hashOf cs with
      | some (hb, t, vr) => match slB h vr with
        | some r => if hb.length = 8 ∧ 0 ≤ t ∧ t ≤ big ∧ r.length ≤ 64 then some (.agg (bytesOf (finF hb t r)), h) else none
        | none => none
      | none => none
    | _ => none
  | _, _ => none
theorem HSum_ok (cf : ACall) (hP : ∀ a h, cf 27 a h = s_Put32 a h) (hPress : ∀ a h, cf 26 a h = s_press a h) : Sum cf c21 s_HSum := by
  intro args h v h' hf hsc hlt hs
  unfold s_HSum at hs
  split at hs
  · rename_i p
    split at hs
    · rename_i cs tt z hg
      split at hs
      · rename_i hb t vr hho
        split at hs
        · rename_i r hr
          split at hs
          · rename_i hc
            obtain ⟨hl, ht0, htb, hr64⟩ := hc
            simp only [Option.some.injEq, Prod.mk.injEq] at hs
            obtain ⟨rfl, rfl⟩ := hs
            have hcs := hashOf_some hho
            subst hcs
            have htb : t ≤ 4611686018427387904 := htb
            have hpl := hf.lt hg
            have hvr : V.lt h.next vr := ltL_mem.1 (hsc p _ _ _ _ hg) vr (by simp [hashCells])
            have hvl := slB_vlen hr
            have hsl := slB_isSl hr
            have hrlt := slB_lt hr
            -- the block, and what is copied into it
            obtain ⟨R0, hR0⟩ : ∃ R0 : List V, R0 = List.replicate 32 (.int .u8 0) := ⟨_, rfl⟩
            obtain ⟨H1, hH1⟩ : ∃ H1, H1 = (h.new (.cells R0 25 1 true)).new (.cells (List.replicate 64 (.int .u8 0)) 5 1 true) := ⟨_, rfl⟩
            have hcp : copyV H1 1 (.slice (h.next + 1) 0 64 (some 64)) vr = _ := copy_from (t := 5) (Q := List.replicate 64 (.int .u8 0)) (r := r) (by rw [hH1, Heap.get_new]; exact if_pos rfl) (by rw [hH1, slB_new _ (lt_add hvr 1), slB_new _ hvr]; exact hr) hr64 (by simp; omega)
            generalize hH2 : (if r = [] then H1 else H1.set (h.next + 1) (some (.cells (over (List.replicate 64 (.int .u8 0)) 0 (bytesOf r)) 5 1 true))) = H2 at hcp
            have hpad : bytesOf (padB r) = bytesOf r ++ List.replicate (64 - r.length) (.int .u8 0) := by unfold padB; rw [bytesOf_append]; simp [bytesOf]
            have g1 : H2.get (h.next + 1) = some (.cells (bytesOf (padB r)) 5 1 true) := by
              rw [← hH2]
              split
              · rename_i h0
                subst h0
                rw [hH1, Heap.get_new, hpad]
                exact if_pos rfl
              · rw [Heap.get_set, if_pos rfl, hpad]
                have := over_fillL [] (bytesOf r) (.int .u8 0) (64 - r.length)
                rw [bytesOf_length, show r.length + (64 - r.length) = 64 from by omega] at this
                simp only [List.nil_append, List.length_nil] at this
                rw [this]
            have n2 : H2.next = h.next + 2 := by
              rw [← hH2, hH1]; split <;> simp
            have hE2 : Ext h H2 := by
              rw [← hH2, hH1]
              split
              · exact ((Ext.new h _).trans_new _)
              · exact ((Ext.new h _).trans_new _).trans_set (by omega) _
            have hF2 : Fresh H2 := by
              rw [← hH2, hH1]
              split
              · exact (hf.new _).new _
              · exact ((hf.new _).new _).set (by simp) _
            have g0 : H2.get h.next = some (.cells R0 25 1 true) := by
              rw [← hH2, hH1]
              split
              · rw [Heap.get_new, if_neg (by simp), Heap.get_new, if_pos rfl]
              · rw [Heap.get_set, if_neg (by omega), Heap.get_new, if_neg (by simp), Heap.get_new, if_pos rfl]
            have gp : H2.get p = some (.cells (hashCells hb t vr) tt z true) := hE2.get hf hg
            have hpb := slB_at (H := H2) (o := 0) (n := 64) (c := some 64) g1 (fun y hy => by
              rcases List.mem_append.1 hy with hy | hy
              · exact hrlt y hy
              · have := (List.mem_replicate.1 hy).2; omega) (by rw [padB_length hr64]; omega) (.inr rfl)
            rw [List.drop_zero, List.take_of_length_le (by rw [padB_length hr64]; omega)] at hpb
            have hw1 : wrapF .u64 (t + (r.length : Int)) = t + (r.length : Int) := wrap_u64 (by omega) (by omega)
            have hw2 : wrapF .u64 (r.length : Int) = (r.length : Int) := wrap_u64 (by omega) (by omega)
            have hpl8 : (pressF hb (padB r) (t + (r.length : Int)) true).length = 8 := by rw [pressF_length]; exact hl
            have hpr := pressF_range hb (padB r) (t + (r.length : Int)) true hl
            have hfin : finF hb t r = outB (pressF hb (padB r) (t + (r.length : Int)) true) 8 := rfl
            have htt : 0 ≤ t + (r.length : Int) := by omega
            have hpd := padB_length hr64
            rw [hfin]
            generalize hw : pressF hb (padB r) (t + (r.length : Int)) true = w at *
            have hov8 : over [V.int .u32 0, V.int .u32 0, V.int .u32 0, V.int .u32 0, V.int .u32 0, V.int .u32 0, V.int .u32 0, V.int .u32 0] 0 (w.map (V.int .u32)) = w.map (V.int .u32) := by
              unfold over; simp [hpl8]
            have hwt : (w.map (V.int .u32)).take 8 = w.map (V.int .u32) := List.take_of_length_le (by simp [hpl8])
            have hb0 : ∀ n, (bare0 n).next = n := fun _ => rfl
            have hpn : (p = H2.next + 17) = False := by simp; omega
            have hH1' : (h.new (.cells [V.int .u8 0, .int .u8 0, .int .u8 0, .int .u8 0, .int .u8 0, .int .u8 0, .int .u8 0, .int .u8 0, .int .u8 0, .int .u8 0, .int .u8 0, .int .u8 0, .int .u8 0, .int .u8 0, .int .u8 0, .int .u8 0, .int .u8 0, .int .u8 0, .int .u8 0, .int .u8 0, .int .u8 0, .int .u8 0, .int .u8 0, .int .u8 0, .int .u8 0, .int .u8 0, .int .u8 0, .int .u8 0, .int .u8 0, .int .u8 0, .int .u8 0, .int .u8 0] 25 1 true)).new (.cells (List.replicate 64 (.int .u8 0)) 5 1 true) = H1 := by rw [hH1, hR0]; rfl
            have gpH1 : H1.get p = some (.cells (hashCells hb t vr) tt z true) := by
              rw [hH1, Heap.get_new, if_neg (by simp; omega), Heap.get_new, if_neg (by omega)]; exact hg
            refine ⟨20, ?_⟩
            simp (config := {maxSteps := 1000000, maxDischargeDepth := 9, implicitDefEqProofs := false}) [c21, -List.reduceReplicate, hH1', gpH1, hash_nth9 hl, hcp, gp, hash_nth8 hl, hash_take hl, hashCells_length hl, hvl, hsl, hw1, hw2, hPress, s_press, hpb, hpd, hl, htt, hw, hb0, hpl8, hov8, -over, mem_ints_one, hwt]
            have hEg : Ext h (H2.gap 19) := hE2.trans (Ext.gap H2 19)
            have hFg : Fresh (H2.gap 19) := hF2.gap
            refine loop_thenE (K := fun r => finS _ (seqS _ _ _ (blockS _ r))) (HSum_loop cf hP h _ w (H2.next + 19) (.cells R0 25 1 true) hpl8 hpr ?_ ?_ ?_ ?_ ?_ ?_ _ ?_ ?_ ?_ ?_) ?_
            · exact (hEg.trans_set (by omega) _).trans_new _
            · exact (hFg.set (by simp [next_gap]) _).new _
            · omega
            · simp [next_gap]
            · rw [Heap.get_new]; exact if_pos rfl
            · rw [Heap.get_new, if_neg (by simp [next_gap]; omega), Heap.get_set, if_neg (by omega), get_gap]; exact g0
            · simp (config := {maxSteps := 1000000, maxDischargeDepth := 9, implicitDefEqProofs := false})
            · simp (config := {maxSteps := 1000000, maxDischargeDepth := 9, implicitDefEqProofs := false})
            · simp (config := {maxSteps := 1000000, maxDischargeDepth := 9, implicitDefEqProofs := false})
            · simp (config := {maxSteps := 1000000, maxDischargeDepth := 9, implicitDefEqProofs := false})
            · rintro x H3 ⟨rfl, hE3, hF3, hq3, go3, gr3⟩
              have hol : (outB w 8).length = 32 := outB_length w 8
              generalize outB w 8 = ob at *
              have tb : (bytesOf ob).take 32 = bytesOf ob := List.take_of_length_le (by rw [bytesOf_length]; omega)
              have hov32 : over R0 0 (bytesOf ob) = bytesOf ob := by
                unfold over
                rw [hR0, bytesOf_length, hol, List.drop_eq_nil_of_le (by simp)]; simp
              have hRl : R0.length = 32 := by rw [hR0]; simp
              have hne : (h.next = H2.next + 19) = False := by simp; omega
              simp (config := {maxSteps := 1000000, maxDischargeDepth := 9, implicitDefEqProofs := false}) [c21_l0_wr, go3, gr3, hol, tb, hov32, hRl, hne, mem_bytes_one, -over]
              exact Canon.keep hf hsc (hE3.trans_set (Nat.le_refl _) _) (flat_aggB _ _)
          · cases hs
        · cases hs
      · cases hs
    · cases hs
  · cases hs

/-- The state of a hash of the bytes s. -/
def hbOf (s : List Nat) : List Int := stepsH h0L 0 s (kOf s.length)
def hashF (s : List Nat) : List Nat := finF (hbOf s) (64 * (kOf s.length : Int)) (s.drop (64 * kOf s.length))
theorem hashF_length (s : List Nat) : (hashF s).length = 32 := finF_length _ _ _
theorem hashF_lt (s : List Nat) : ∀ y ∈ hashF s, y < 256 := finF_lt _ _ _
theorem stepsH_pre (hb : List Int) (t : Int) (s b : List Nat) : ∀ k, 64 * k ≤ s.length → stepsH hb t (s ++ b) k = stepsH hb t s k
  | 0, _ => rfl
  | k + 1, hk => by
    simp only [stepsH]
    rw [stepsH_pre hb t s b k (by omega)]
    congr 1
    rw [List.drop_append_of_le_length (by omega), List.take_append_of_le_length (by rw [List.length_drop]; omega)]
theorem stepsH_from (hb : List Int) (t : Int) (s : List Nat) (k : Nat) : ∀ j, stepsH (stepsH hb t s k) (t + 64 * (k : Int)) (s.drop (64 * k)) j = stepsH hb t s (k + j)
  | 0 => rfl
  | j + 1 => by
    rw [show k + (j + 1) = (k + j) + 1 from rfl]
    simp only [stepsH]
    rw [stepsH_from hb t s k j, List.drop_drop, show 64 * k + 64 * j = 64 * (k + j) from by omega]
    congr 1
    omega
theorem kOf_add (n m : Nat) : kOf n + kOf (n - 64 * kOf n + m) = kOf (n + m) := by unfold kOf; omega
theorem kOf_le (n : Nat) : 64 * kOf n ≤ n := by unfold kOf; omega
/-- What is written behind. -/
theorem write_state (s b : List Nat) : stepsH (hbOf s) (64 * (kOf s.length : Int)) (s.drop (64 * kOf s.length) ++ b) (kOf (s.drop (64 * kOf s.length) ++ b).length) = hbOf (s ++ b) ∧
    64 * (kOf s.length : Int) + 64 * (kOf (s.drop (64 * kOf s.length) ++ b).length : Int) = 64 * (kOf (s ++ b).length : Int) ∧
    (s.drop (64 * kOf s.length) ++ b).drop (64 * kOf (s.drop (64 * kOf s.length) ++ b).length) = (s ++ b).drop (64 * kOf (s ++ b).length) := by
  have hle := kOf_le s.length
  have e0 : s.drop (64 * kOf s.length) ++ b = (s ++ b).drop (64 * kOf s.length) := by rw [List.drop_append_of_le_length hle]
  have e1 : kOf s.length + kOf (s.drop (64 * kOf s.length) ++ b).length = kOf (s ++ b).length := by
    have := kOf_add s.length b.length
    rw [List.length_append, List.length_drop, List.length_append]; exact this
  refine ⟨?_, by omega, ?_⟩
  · unfold hbOf
    rw [← stepsH_pre h0L 0 s b (kOf s.length) hle, e0]
    have := stepsH_from h0L 0 (s ++ b) (kOf s.length) (kOf ((s ++ b).drop (64 * kOf s.length)).length)
    rw [Int.zero_add] at this
    rw [this, ← e0, e1]
  · rw [e0, List.drop_drop, ← e0]
    congr 1
    omega
/-- A hash of the bytes s, at p. -/
def isHash (H : Heap) (p tt : Nat) (s : List Nat) : Prop := ∃ vr, H.get p = some (.cells (hashCells (hbOf s) (64 * (kOf s.length : Int)) vr) tt 1 true) ∧ slB H vr = some (s.drop (64 * kOf s.length))
theorem h0L_length : h0L.length = 8 := rfl
theorem hbOf_length (s : List Nat) : (hbOf s).length = 8 := stepsH_length _ _ h0L_length _
theorem hash_ret {H : Heap} {p tt : Nat} {s : List Nat} (hh : isHash H p tt s) (hs : s.length ≤ 140737488354304) : s_HSum [.ptr p 0] H = some (.agg (bytesOf (hashF s)), H) := by
  obtain ⟨vr, h1, h2⟩ := hh
  have hk : kOf s.length = (s.length - 1) / 64 := rfl
  unfold s_HSum
  simp only [h1, hashOf_cells _ _ (hbOf_length s), h2]
  rw [if_pos ⟨hbOf_length s, by omega, by unfold big; omega, by rw [List.length_drop]; omega⟩]
  rfl
theorem hash_write {H : Heap} {p tt : Nat} {s b : List Nat} {vb : V} (hh : isHash H p tt s) (hF : Fresh H) (hsc : V.lt H.next vb) (hb : slB H vb = some b) (hs : s.length + b.length ≤ 140737488354304) :
    ∃ H', s_Write [.ptr p 0, vb] H = some (.undef, H') ∧ isHash H' p tt (s ++ b) ∧ H'.next = H.next + 1 ∧ (∀ q, q ≠ p → q < H.next → H'.get q = H.get q) ∧ Fresh H' := by
  obtain ⟨vr, h1, h2⟩ := hh
  have hk : kOf s.length = (s.length - 1) / 64 := rfl
  obtain ⟨w1, w2, w3⟩ := write_state s b
  have hlt : ∀ y ∈ s.drop (64 * kOf s.length) ++ b, y < 256 := fun y hy => by
    rcases List.mem_append.1 hy with hy | hy
    · exact slB_lt h2 y hy
    · exact slB_lt hb y hy
  have hl := hbOf_length s
  have hp := hF.lt h1
  refine ⟨(H.set p (some (.cells (hashCells (hbOf (s ++ b)) (64 * (kOf (s ++ b).length : Int)) (newV H ((s ++ b).drop (64 * kOf (s ++ b).length)).length)) tt 1 true))).new (.cells (bytesOf ((s ++ b).drop (64 * kOf (s ++ b).length))) 5 1 true), ?_, ?_, by simp, ?_, ?_⟩
  · unfold s_Write
    simp only [h1, hashOf_cells _ _ hl, h2, hb]
    rw [if_pos ⟨hl, by omega, by unfold big; omega, by have hlm : lim = 140737488354304 := rfl; rw [hlm, List.length_append, List.length_drop]; omega⟩, w1, w2, w3]
  · refine ⟨_, by rw [Heap.get_new, if_neg (by simp; omega), Heap.get_set, if_pos rfl], ?_⟩
    rw [← w3] at *
    refine (slB_at (q := H.next) (o := 0) (c := none) (all := (s.drop (64 * kOf s.length) ++ b).drop (64 * kOf (s.drop (64 * kOf s.length) ++ b).length)) (by rw [Heap.get_new]; exact if_pos rfl) (fun y hy => hlt y (List.mem_of_mem_drop hy)) (by omega) (.inl rfl)).trans ?_
    rw [List.drop_zero, List.take_of_length_le (Nat.le_refl _)]
  · intro q hq hqn
    rw [Heap.get_new, if_neg (by simp; omega), Heap.get_set, if_neg hq]
  · exact (hF.set hp _).new _

theorem sl_ltm {h : Heap} {z : Nat} {vl : V} {vs : List V} (hsc : Scoped h) (hs : sl h z vl = some vs) : ∀ w ∈ vs, V.lt h.next w := by
  have hr := sl_rd hs
  cases vl <;> simp only [rd, reduceCtorEq] at hr
  case nilslice => simp only [Option.some.injEq] at hr; subst hr; intro w hw; cases hw
  case slice b o n c =>
    unfold Heap.read at hr
    split at hr
    · simp only [Option.some.injEq] at hr; subst hr; intro w hw; cases hw
    · split at hr
      · rename_i cs t z own hg
        split at hr
        · simp only [Option.some.injEq] at hr
          subst hr
          intro w hw
          exact ltL_mem.1 (hsc _ _ _ _ _ hg) w (List.mem_of_mem_drop (List.mem_of_mem_take hw))
        · cases hr
      · cases hr
theorem isHash_new (H : Heap) (tt : Nat) : isHash (H.new (.cells (hashCells h0L 0 .nilslice) tt 1 true)) H.next tt [] := by
  refine ⟨.nilslice, by rw [Heap.get_new]; exact if_pos rfl, ?_⟩
  have : ([] : List Nat).drop (64 * kOf ([] : List Nat).length) = [] := by simp
  rw [this]
  exact slB_nil
/-- blake.Sum. -/
def s_SumB : List V → Heap → Option (V × Heap)
  | [vl], h => match sl h 1 vl with
    | some vs => match slBs h vs with
      | some ss => if ss.flatten.length ≤ lim ∧ ss.length ≤ lim then some (.agg (bytesOf (hashF ss.flatten)), h) else none
      | none => none
    | none => none
  | _, _ => none
theorem SumB_ok (cf : ACall) (hNew : ∀ a h, cf 19 a h = s_New a h) (hWrite : ∀ a h, cf 20 a h = s_Write a h) (hSum : ∀ a h, cf 21 a h = s_HSum a h) : Sum cf c17 s_SumB := by
  intro args h v h' hf hsc hlt hs
  unfold s_SumB at hs
  split at hs
  · rename_i vl
    split at hs
    · rename_i vs hvl
      split at hs
      · rename_i ss hss
        split at hs
        · rename_i hl
          simp only [Option.some.injEq, Prod.mk.injEq] at hs
          obtain ⟨rfl, rfl⟩ := hs
          obtain ⟨hl, hl2⟩ := hl
          have hlim : lim = 140737488354304 := rfl
          rw [hlim] at hl hl2
          obtain ⟨hlen, hget⟩ := slBs_get hss
          have hvlen : vlen vl = ss.length := by have := rd_vlen (sl_rd hvl); omega
          have hsl := sl_isSl hvl
          obtain ⟨R0, hR0⟩ : ∃ R0 : List V, R0 = List.replicate 32 (.int .u8 0) := ⟨_, rfl⟩
          refine ⟨ss.length + 1, ?_⟩
          have L := loop_count (cf := cf) (N := ss.length + 1) (c := c17_l0) ss.length
            (fun i e H => e.n = 19 ∧ e.at 2 = .ptr h.next 0 ∧ e.at 3 = .ptr (h.next + 1) 0 ∧ e.at 7 = vl ∧ e.at 8 = .int .i64 (ss.length : Int) ∧ e.at 9 = .int .i64 (i : Int) ∧ isHash H (h.next + 1) 58 ((ss.take i).flatten) ∧ Ext h H ∧ Fresh H ∧ H.get h.next = some (.cells R0 25 1 true))
            (fun x e H => x = .exit 0 ∧ e.n = 19 ∧ e.at 2 = .ptr h.next 0 ∧ e.at 3 = .ptr (h.next + 1) 0 ∧ isHash H (h.next + 1) 58 ss.flatten ∧ Ext h H ∧ Fresh H ∧ H.get h.next = some (.cells R0 25 1 true))
            (by
              rintro i e H hi ⟨hn, h2, h3, h7, h8, h9, hh, hE, hF, g0⟩
              obtain ⟨w, hw1, hw2⟩ := hget hi
              have hload := rd_load (sl_rd (sl_ext hE hf hvl)) hw1
              have hidx := indexE (z := 1) hsl H (k := .i64) (i := (i : Int)) (by omega) (by omega)
              simp only [Int.toNat_natCast, Nat.mul_one] at hidx
              have hwl : V.lt H.next w := V.lt_mono hE.1 w (sl_ltm hsc hvl w (List.mem_of_getElem? hw1))
              obtain ⟨H2, k1, k2, k3, k4, k5⟩ := hash_write hh hF hwl (slB_ext hE hf hw2) (by
                have h1 := congrArg List.length (take_flatten_succ ss i hi)
                have h2 : ((ss.take (i + 1)).flatten).length ≤ ss.flatten.length := by
                  have := congrArg List.length (congrArg List.flatten (List.take_append_drop (i + 1) ss))
                  rw [List.flatten_append, List.length_append] at this; omega
                rw [List.length_append] at h1; omega)
              have hp := hF.lt hh.choose_spec.1
              simp (config := {maxSteps := 1000000, maxDischargeDepth := 9, implicitDefEqProofs := false}) [c17_l0, hn, h2, h3, h7, h8, h9, hidx, hload, hWrite, k1, hi, wrap_i64 (x := (i : Int) + 1) (by omega) (by omega)]
              rw [take_flatten_succ ss i hi]
              refine ⟨k2, ⟨by have := hE.1; omega, fun b hb => ?_⟩, k5, ?_⟩
              · rw [k4 b (by omega) (by have := hE.1; omega)]; exact hE.2 b hb
              · rw [k4 _ (by omega) (by omega)]; exact g0)
            (by
              rintro e H ⟨hn, h2, h3, h7, h8, h9, hh, hE, hF, g0⟩
              rw [List.take_length] at hh
              simp (config := {maxSteps := 1000000, maxDischargeDepth := 9, implicitDefEqProofs := false}) [c17_l0, hn, h2, h3, h7, h8, h9]
              exact ⟨hh, hE, hF, g0⟩)
          simp (config := {maxSteps := 1000000, maxDischargeDepth := 9, implicitDefEqProofs := false}) [c17, hNew, s_New, lenE hsl, hvlen, -List.length_flatten]
          refine loop_then (K := fun r => finS _ (seqS _ _ _ (blockS _ r))) (L 0 _ _ (Nat.zero_le _) ?_ (Nat.lt_succ_self _)) ?_
          · simp (config := {maxSteps := 1000000, maxDischargeDepth := 9, implicitDefEqProofs := false})
            exact ⟨isHash_new (h.new _) _, (Ext.new h _).trans_new _, (hf.new _).new _, by rw [hR0]; rfl⟩
          · rintro x e' H ⟨rfl, hn, h2, h3, hh, hE, hF, g0⟩
            have hret := hash_ret hh hl
            have hol := hashF_length ss.flatten
            generalize hashF ss.flatten = ob at *
            have tb : (bytesOf ob).take 32 = bytesOf ob := List.take_of_length_le (by rw [bytesOf_length]; omega)
            have hov32 : over R0 0 (bytesOf ob) = bytesOf ob := by
              unfold over
              rw [hR0, bytesOf_length, hol, List.drop_eq_nil_of_le (by simp)]; simp
            have hRl : R0.length = 32 := by rw [hR0]; simp
            simp (config := {maxSteps := 1000000, maxDischargeDepth := 9, implicitDefEqProofs := false}) [hn, h2, h3, hSum, hret, g0, hol, tb, hov32, hRl, mem_bytes_one, -over, -List.length_flatten]
            exact Canon.keep hf hsc (hE.trans_set (Nat.le_refl _) _) (flat_aggB _ _)
        · cases hs
      · cases hs
    · cases hs
  · cases hs

/-- A number of bytes, by sums. -/
theorem getU_sum (s : List Nat) (hs : ∀ y ∈ s, y < 256) : ∀ i, i ≤ 7 → ∃ m : Nat, getU s i = (m : Int) ∧ m < 2 ^ (8 * i) ∧ getU s (i + 1) = ((m + s.getD i 0 * 2 ^ (8 * i) : Nat) : Int)
  | 0, _ => by
    have hb : s.getD 0 0 < 256 := by
      rw [List.getD_eq_getElem?_getD]
      cases h : s[0]? with
      | none => simp
      | some y => simpa using hs y (List.mem_of_getElem? h)
    refine ⟨0, rfl, by simp, ?_⟩
    simp only [getU, orU, Nat.mul_zero, Int.pow_zero, Int.mul_one, Nat.pow_zero, Nat.mul_one, Nat.zero_add]
    rw [wrap_u64 (x := ((s.getD 0 0 : Nat) : Int)) (by omega) (by omega)]
    have h1 : (((s.getD 0 0 : Nat) : Int) % 18446744073709551616).toNat = s.getD 0 0 := by omega
    rw [h1]
    simp only [Int.zero_emod, Int.toNat_zero, Nat.zero_or]
    exact wrap_u64 (by omega) (by omega)
  | i + 1, hi => by
    obtain ⟨m, h1, h2, h3⟩ := getU_sum s hs i (by omega)
    have hb : ∀ j, s.getD j 0 < 256 := fun j => by
      rw [List.getD_eq_getElem?_getD]
      cases h : s[j]? with
      | none => simp
      | some y => simpa using hs y (List.mem_of_getElem? h)
    have hbi := hb i
    have hbj := hb (i + 1)
    generalize s.getD i 0 = x at *
    have hm1 : m + x * 2 ^ (8 * i) < 2 ^ (8 * (i + 1)) := by
      rw [show 8 * (i + 1) = 8 * i + 8 from by omega, Nat.pow_add]
      have : x * 2 ^ (8 * i) ≤ 255 * 2 ^ (8 * i) := Nat.mul_le_mul_right _ (by omega)
      omega
    refine ⟨m + x * 2 ^ (8 * i), h3, hm1, ?_⟩
    rw [getU, h3]
    generalize m + x * 2 ^ (8 * i) = M at *
    generalize s.getD (i + 1) 0 = y at *
    have hle : 2 ^ (8 * (i + 1)) ≤ 2 ^ 56 := Nat.pow_le_pow_right (by omega) (by omega)
    have hP : y * 2 ^ (8 * (i + 1)) ≤ 255 * 2 ^ 56 := Nat.mul_le_mul (by omega) hle
    have hcast : ((y : Nat) : Int) * 2 ^ (8 * (i + 1)) = ((y * 2 ^ (8 * (i + 1)) : Nat) : Int) := by simp
    rw [hcast]
    have hor : M ||| (y * 2 ^ (8 * (i + 1))) = M + y * 2 ^ (8 * (i + 1)) := by
      have h := (Nat.two_pow_add_eq_or_of_lt hm1 y).symm
      rw [Nat.or_comm, Nat.mul_comm y, h, Nat.add_comm]
    generalize hQ : y * 2 ^ (8 * (i + 1)) = Q at *
    have hML : M < 2 ^ 56 := by omega
    rw [wrap_u64 (x := (Q : Int)) (by omega) (by omega)]
    unfold orU
    have q1 : ((M : Int) % 18446744073709551616).toNat = M := by omega
    have q2 : ((Q : Int) % 18446744073709551616).toNat = Q := by omega
    rw [q1, q2, hor]
    exact wrap_u64 (by omega) (by omega)
theorem getU_four (s : List Nat) (hs : ∀ y ∈ s, y < 256) : getU s 4 = ((s.getD 0 0 + s.getD 1 0 * 256 + s.getD 2 0 * 65536 + s.getD 3 0 * 16777216 : Nat) : Int) := by
  obtain ⟨m0, a0, _, b0⟩ := getU_sum s hs 0 (by omega)
  obtain ⟨m1, a1, _, b1⟩ := getU_sum s hs 1 (by omega)
  obtain ⟨m2, a2, _, b2⟩ := getU_sum s hs 2 (by omega)
  obtain ⟨m3, a3, _, b3⟩ := getU_sum s hs 3 (by omega)
  have : m0 = 0 := by have := a0; simp [getU] at this; omega
  subst this
  rw [b3]
  rw [a1] at b0; rw [a2] at b1; rw [a3] at b2
  simp at b0 b1 b2 ⊢
  omega

/-- portholeref1.Get32. -/
def s_Get32R : List V → Heap → Option (V × Heap)
  | [v], h => match slB h v with
    | some s => if 4 ≤ s.length then some (.int .u32 (wrapF .u32 (getU s 4)), h) else none
    | none => none
  | _, _ => none
theorem Get32R_ok (cf : ACall) : Sum cf c22 s_Get32R := by
  intro args h v h' hf hsc hlt hs
  unfold s_Get32R at hs
  split at hs
  · rename_i vb
    split at hs
    · rename_i s hb
      split at hs
      · rename_i hl
        simp only [Option.some.injEq, Prod.mk.injEq] at hs
        obtain ⟨rfl, rfl⟩ := hs
        refine ⟨1, ?_⟩
        have hsl := slB_isSl hb
        have hvl := slB_vlen hb
        have hg := getU_four s (slB_lt hb)
        have hlt0 := slB_lt hb
        have hy : ∀ i, i < 4 → ∃ y, s[i]? = some y ∧ y < 256 ∧ s.getD i 0 = y := fun i hi => by
          have hi' : i < s.length := by omega
          exact ⟨s[i], List.getElem?_eq_getElem hi', hlt0 _ (List.getElem_mem hi'), by rw [List.getD_eq_getElem?_getD, List.getElem?_eq_getElem hi']; rfl⟩
        obtain ⟨y0, p0, q0, r0⟩ := hy 0 (by omega)
        obtain ⟨y1, p1, q1, r1⟩ := hy 1 (by omega)
        obtain ⟨y2, p2, q2, r2⟩ := hy 2 (by omega)
        obtain ⟨y3, p3, q3, r3⟩ := hy 3 (by omega)
        rw [r0, r1, r2, r3] at hg
        rw [hg]
        have k0 : 0 < s.length := by omega
        have k1 : 1 < s.length := by omega
        have k2 : 2 < s.length := by omega
        have k3 : 3 < s.length := by omega
        have e0 : s[0] = y0 := by rw [List.getElem?_eq_getElem k0] at p0; exact Option.some.inj p0
        have e1 : s[1] = y1 := by rw [List.getElem?_eq_getElem k1] at p1; exact Option.some.inj p1
        have e2 : s[2] = y2 := by rw [List.getElem?_eq_getElem k2] at p2; exact Option.some.inj p2
        have e3 : s[3] = y3 := by rw [List.getElem?_eq_getElem k3] at p3; exact Option.some.inj p3
        have i1 : (1 : Int) < (s.length : Int) := by omega
        have i2 : (2 : Int) < (s.length : Int) := by omega
        have i3 : (3 : Int) < (s.length : Int) := by omega
        simp (config := {maxSteps := 1000000, maxDischargeDepth := 9, implicitDefEqProofs := false}) [c22, hsl, hvl, hb, k0, k1, k2, k3, i1, i2, i3, e0, e1, e2, e3]
        have hr : wrapF .u32 (wrapF .u32 (wrapF .u32 (wrapF .u32 (y0 : Int) + wrapF .u32 (wrapF .u32 (y1 : Int) * 256)) + wrapF .u32 (wrapF .u32 (y2 : Int) * 65536)) + wrapF .u32 (wrapF .u32 (y3 : Int) * 16777216)) = wrapF .u32 ((y0 : Int) + (y1 : Int) * 256 + (y2 : Int) * 65536 + (y3 : Int) * 16777216) := by
          simp only [wrap_u32_mod]; omega
        rw [hr]
        exact Canon.keep hf hsc (Ext.refl _) (by simp only [V.lt])
      · cases hs
    · cases hs
  · cases hs
theorem putB_four (x : Int) : bytesOf (putB x 4) = [.int .u8 (wrapF .u8 x), .int .u8 (wrapF .u8 (x / 256)), .int .u8 (wrapF .u8 (x / 65536)), .int .u8 (wrapF .u8 (x / 16777216))] := by
  simp only [wrap_u8_mod]
  simp [putB, bytesOf, List.range_succ]
  omega
theorem Put32R_ok (cf : ACall) : Sum cf c24 s_Put32 := by
  intro args h v h' hf hsc hlt hs
  unfold s_Put32 at hs
  split at hs
  · rename_i x
    split at hs
    · rename_i hx
      simp only [Option.some.injEq, Prod.mk.injEq] at hs
      obtain ⟨rfl, rfl⟩ := hs
      refine ⟨1, ?_⟩
      rw [putB_four]
      simp (config := {maxSteps := 1000000, maxDischargeDepth := 9, implicitDefEqProofs := false}) [c24]
      exact Canon.made hf hsc rfl (by simp) (by simp only [ltL, V.lt, and_self])
    · cases hs
  · cases hs

theorem getU_take (s : List Nat) (n : Nat) : ∀ i, i ≤ n → getU (s.take n) i = getU s i
  | 0, _ => rfl
  | i + 1, h => by
    simp only [getU]
    rw [getU_take s n i (by omega), List.getD_eq_getElem?_getD, List.getD_eq_getElem?_getD, List.getElem?_take, if_pos (by omega)]
theorem getU_cut (s : List Nat) (l n : Nat) : getU ((s.take (l + n)).drop l) n = getU (s.drop l) n := by
  rw [List.drop_take, show l + n - l = n from by omega]
  exact getU_take _ _ _ (Nat.le_refl _)

/-- portholeref4.turn. -/
def s_TurnB : List V → Heap → Option (V × Heap)
  | [.int .u32 x, .int .u64 k], h => if k = 16 ∨ k = 20 ∨ k = 24 ∨ k = 25 then some (.int .u32 (rotl x k.toNat), h) else none
  | _, _ => none
theorem TurnB_ok (cf : ACall) : Sum cf c28 s_TurnB := by
  intro args h v h' hf hsc hlt hs
  unfold s_TurnB at hs
  split at hs
  · rename_i x k
    split at hs
    · rename_i hk
      simp only [Option.some.injEq, Prod.mk.injEq] at hs
      obtain ⟨rfl, rfl⟩ := hs
      refine ⟨1, ?_⟩
      rcases hk with rfl | rfl | rfl | rfl <;>
        (simp (config := {maxSteps := 1000000, maxDischargeDepth := 9, implicitDefEqProofs := false}) [c28, modK, rotl]
         exact Canon.keep hf hsc (Ext.refl _) (by simp only [V.lt]))
    · cases hs
  · cases hs
def mixR (w : List Int) (a b c d : Nat) (x y : Int) : List Int :=
  let a1 := add32 (add32 (w.getD a 0) (w.getD b 0)) x
  let d1 := rotl (xor32 (w.getD d 0) a1) 16
  let c1 := add32 (w.getD c 0) d1
  let b1 := rotl (xor32 (w.getD b 0) c1) 20
  let a2 := add32 (add32 a1 b1) y
  let d2 := rotl (xor32 d1 a2) 24
  let c2 := add32 c1 d2
  let b2 := rotl (xor32 b1 c2) 25
  (((w.set a a2).set b b2).set c c2).set d d2
theorem mixR_length (w : List Int) (a b c d : Nat) (x y : Int) : (mixR w a b c d x y).length = w.length := by simp [mixR]
/-- portholeref4.mix. -/
def s_mixR : List V → Heap → Option (V × Heap)
  | [.ptr p 0, .agg [.int .i64 a, .int .i64 b, .int .i64 c, .int .i64 d], .int .u32 x, .int .u32 y], h => match h.get p with
    | some (.cells cs t z true) => match asK .u32 cs with
      | some v => if v.length = 16 ∧ (0 ≤ a ∧ a < 16) ∧ (0 ≤ b ∧ b < 16) ∧ (0 ≤ c ∧ c < 16) ∧ (0 ≤ d ∧ d < 16) then some (.undef, h.set p (some (.cells ((mixR v a.toNat b.toNat c.toNat d.toNat x y).map (V.int .u32)) t z true))) else none
      | none => none
    | _ => none
  | _, _ => none

theorem mixR_ok (cf : ACall) (hTurn : ∀ a h, cf 28 a h = s_TurnB a h) : Sum cf c23 s_mixR := by
  intro args h v h' hf hsc hlt hs
  unfold s_mixR at hs
  split at hs
  · rename_i p a b c d x y
    split at hs
    · rename_i cs t z hg
      split at hs
      · rename_i w hw
        split at hs
        · rename_i hc
          obtain ⟨hlen, ha, hb, hc, hd⟩ := hc
          simp only [Option.some.injEq, Prod.mk.injEq] at hs
          obtain ⟨rfl, rfl⟩ := hs
          have hcs := asK_some.1 hw
          subst hcs
          obtain ⟨a, rfl⟩ : ∃ n : Nat, a = (n : Int) := ⟨a.toNat, by omega⟩
          obtain ⟨b, rfl⟩ : ∃ n : Nat, b = (n : Int) := ⟨b.toNat, by omega⟩
          obtain ⟨c, rfl⟩ : ∃ n : Nat, c = (n : Int) := ⟨c.toNat, by omega⟩
          obtain ⟨d, rfl⟩ : ∃ n : Nat, d = (n : Int) := ⟨d.toNat, by omega⟩
          have hw := hlen
          simp only [Int.toNat_natCast] at *
          have a1 : a < 16 := by omega
          have b1 : b < 16 := by omega
          have c1 : c < 16 := by omega
          have d1 : d < 16 := by omega
          have a2 : (a : Int) < 16 := by omega
          have b2 : (b : Int) < 16 := by omega
          have c2 : (c : Int) < 16 := by omega
          have d2 : (d : Int) < 16 := by omega
          have hp := hf.lt hg
          have hp0 : (p = h.next) = False := by simp; omega
          have e1 : ∀ x y, wrapF .u32 (x + y) = add32 x y := fun _ _ => rfl
          have e2 : ∀ x y : Int, wrapF .u32 (((x % 4294967296).toNat ^^^ (y % 4294967296).toNat : Nat) : Int) = xor32 x y := fun _ _ => rfl
          have ga : w[a]'(by omega) = w.getD a 0 := by rw [List.getD_eq_getElem?_getD, List.getElem?_eq_getElem (by omega)]; rfl
          have gb : w[b]'(by omega) = w.getD b 0 := by rw [List.getD_eq_getElem?_getD, List.getElem?_eq_getElem (by omega)]; rfl
          have gc : w[c]'(by omega) = w.getD c 0 := by rw [List.getD_eq_getElem?_getD, List.getElem?_eq_getElem (by omega)]; rfl
          have gd : w[d]'(by omega) = w.getD d 0 := by rw [List.getD_eq_getElem?_getD, List.getElem?_eq_getElem (by omega)]; rfl
          obtain ⟨A2, hA2⟩ : ∃ A2, A2 = add32 (add32 (add32 (add32 (w[a]'(by omega)) (w[b]'(by omega))) x) (rotl (xor32 (w[b]'(by omega)) (add32 (w[c]'(by omega)) (rotl (xor32 (w[d]'(by omega)) (add32 (add32 (w[a]'(by omega)) (w[b]'(by omega))) x)) 16))) 20)) y := ⟨_, rfl⟩
          have hm : mixR w a b c d x y = (((w.set a A2).set b (rotl (xor32 (rotl (xor32 (w[b]'(by omega)) (add32 (w[c]'(by omega)) (rotl (xor32 (w[d]'(by omega)) (add32 (add32 (w[a]'(by omega)) (w[b]'(by omega))) x)) 16))) 20) (add32 (add32 (w[c]'(by omega)) (rotl (xor32 (w[d]'(by omega)) (add32 (add32 (w[a]'(by omega)) (w[b]'(by omega))) x)) 16)) (rotl (xor32 (rotl (xor32 (w[d]'(by omega)) (add32 (add32 (w[a]'(by omega)) (w[b]'(by omega))) x)) 16) A2) 24))) 25)).set c (add32 (add32 (w[c]'(by omega)) (rotl (xor32 (w[d]'(by omega)) (add32 (add32 (w[a]'(by omega)) (w[b]'(by omega))) x)) 16)) (rotl (xor32 (rotl (xor32 (w[d]'(by omega)) (add32 (add32 (w[a]'(by omega)) (w[b]'(by omega))) x)) 16) A2) 24))).set d (rotl (xor32 (rotl (xor32 (w[d]'(by omega)) (add32 (add32 (w[a]'(by omega)) (w[b]'(by omega))) x)) 16) A2) 24) := by
            rw [hA2, ga, gb, gc, gd]; rfl
          rw [hm]
          clear hm
          refine ⟨1, ?_⟩
          simp (config := {maxSteps := 1000000, maxDischargeDepth := 9, implicitDefEqProofs := false}) [c23, hg, hp0, hTurn, s_TurnB, a1, b1, c1, d1, a2, b2, c2, d2, hlen, -over, over_set, map_set, Nat.succ_le_of_lt a1, Nat.succ_le_of_lt b1, Nat.succ_le_of_lt c1, Nat.succ_le_of_lt d1, -List.map_set, modK, e1, e2, ← hA2]
          exact Canon.shrink rfl (fun b B hB => (hf.setS hg).lt hB) (hsc.setFlat (flat_ints _ _)) (fun b B hB => (Ext.new _ _).get (hf.setS hg) hB) (by simp only [V.undef, V.lt, ltL])
        · cases hs
      · cases hs
    · cases hs
  · cases hs

theorem add32_assoc (a b c : Int) : add32 (add32 a b) c = add32 a (add32 b c) := by
  simp only [add32, wrap_u32_mod]; omega
theorem xor32_assoc (a b c : Int) : xor32 (xor32 a b) c = xor32 a (xor32 b c) := by
  simp only [xor32, wrap_u32_mod]
  have key : ∀ x y : Nat, x < 4294967296 → y < 4294967296 → x ^^^ y < 4294967296 := fun x y hx hy => Nat.xor_lt_two_pow (n := 32) hx hy
  have l : ∀ z : Int, (z % 4294967296).toNat < 4294967296 := fun z => by omega
  have e : ∀ x y : Nat, x < 4294967296 → y < 4294967296 → (((((x ^^^ y : Nat) : Int) % 4294967296) % 4294967296).toNat) = x ^^^ y := fun x y hx hy => by
    have := key x y hx hy
    omega
  rw [e _ _ (l a) (l b), e _ _ (l b) (l c), Nat.xor_assoc]
theorem mixR_eq {w : List Int} (hw : w.length = 16) (x y : Int) : (mixR w 0 4 8 12 x y = mixF w 0 4 8 12 x y ∧ mixR w 1 5 9 13 x y = mixF w 1 5 9 13 x y ∧ mixR w 2 6 10 14 x y = mixF w 2 6 10 14 x y ∧ mixR w 3 7 11 15 x y = mixF w 3 7 11 15 x y) ∧
    (mixR w 0 5 10 15 x y = mixF w 0 5 10 15 x y ∧ mixR w 1 6 11 12 x y = mixF w 1 6 11 12 x y ∧ mixR w 2 7 8 13 x y = mixF w 2 7 8 13 x y ∧ mixR w 3 4 9 14 x y = mixF w 3 4 9 14 x y) := by
  match w, hw with
  | [a, b, c, d, e, f, g, h, i, j, k, l, m, n, o, p], _ =>
    refine ⟨⟨?_, ?_, ?_, ?_⟩, ⟨?_, ?_, ?_, ?_⟩⟩ <;>
      simp only [mixR, mixF, mA, mC, mD, List.set, List.getD_cons_zero, List.getD_cons_succ, add32_assoc]
/-- The document's rows. -/
def rowsL : List Int := [0, 4, 8, 12, 1, 5, 9, 13, 2, 6, 10, 14, 3, 7, 11, 15, 0, 5, 10, 15, 1, 6, 11, 12, 2, 7, 8, 13, 3, 4, 9, 14]
def roundR (v m : List Int) (r : Nat) : Nat → List Int
  | 0 => v
  | i + 1 => mixR (roundR v m r i) (rowsL.getD (4 * i) 0).toNat (rowsL.getD (4 * i + 1) 0).toNat (rowsL.getD (4 * i + 2) 0).toNat (rowsL.getD (4 * i + 3) 0).toNat (m.getD (sgN r (2 * i)) 0) (m.getD (sgN r (2 * i + 1)) 0)
theorem roundR_length (v m : List Int) (r : Nat) : ∀ i, (roundR v m r i).length = v.length
  | 0 => rfl
  | i + 1 => by simp only [roundR, mixR_length, roundR_length v m r i]
theorem roundR_eq (v m : List Int) (r : Nat) (hv : v.length = 16) : roundR v m r 8 = roundB v m r := by
  unfold roundB
  have r1 : roundR v m r 1 = rowsA v m r 1 := (mixR_eq hv _ _).1.1
  have r2 : roundR v m r 2 = rowsA v m r 2 := by
    show mixR (roundR v m r 1) 1 5 9 13 _ _ = mixF (rowsA v m r 1) 1 5 9 13 _ _
    rw [r1]; exact (mixR_eq (by rw [rowsA_length, hv]) _ _).1.2.1
  have r3 : roundR v m r 3 = rowsA v m r 3 := by
    show mixR (roundR v m r 2) 2 6 10 14 _ _ = mixF (rowsA v m r 2) 2 6 10 14 _ _
    rw [r2]; exact (mixR_eq (by rw [rowsA_length, hv]) _ _).1.2.2.1
  have r4 : roundR v m r 4 = rowsA v m r 4 := by
    show mixR (roundR v m r 3) 3 7 11 15 _ _ = mixF (rowsA v m r 3) 3 7 11 15 _ _
    rw [r3]; exact (mixR_eq (by rw [rowsA_length, hv]) _ _).1.2.2.2
  generalize hA : rowsA v m r 4 = w at *
  have hw : w.length = 16 := by rw [← hA, rowsA_length, hv]
  have r5 : roundR v m r 5 = rowsC w m r 1 := by
    show mixR (roundR v m r 4) 0 5 10 15 _ _ = mixF w 0 5 10 15 _ _
    rw [r4]; exact (mixR_eq hw _ _).2.1
  have r6 : roundR v m r 6 = rowsC w m r 2 := by
    show mixR (roundR v m r 5) 1 6 11 12 _ _ = mixF (rowsC w m r 1) 1 6 11 12 _ _
    rw [r5]; exact (mixR_eq (by rw [rowsC_length, hw]) _ _).2.2.1
  have r7 : roundR v m r 7 = rowsC w m r 3 := by
    show mixR (roundR v m r 6) 2 7 8 13 _ _ = mixF (rowsC w m r 2) 2 7 8 13 _ _
    rw [r6]; exact (mixR_eq (by rw [rowsC_length, hw]) _ _).2.2.2.1
  show mixR (roundR v m r 7) 3 4 9 14 _ _ = mixF (rowsC w m r 3) 3 4 9 14 _ _
  rw [r7]; exact (mixR_eq (by rw [rowsC_length, hw]) _ _).2.2.2.2

def sigAll : List Int := [0, 1, 2, 3, 4, 5, 6, 7, 8, 9, 10, 11, 12, 13, 14, 15, 14, 10, 4, 8, 9, 15, 13, 6, 1, 12, 0, 2, 11, 7, 5, 3, 11, 8, 12, 0, 5, 2, 15, 13,
  10, 14, 3, 6, 7, 1, 9, 4, 7, 9, 3, 1, 13, 12, 11, 14, 2, 6, 5, 10, 4, 0, 15, 8, 9, 0, 5, 7, 2, 4, 10, 15, 14, 1, 11, 12, 6, 8, 3, 13,
  2, 12, 6, 10, 0, 11, 8, 3, 4, 13, 7, 5, 15, 14, 1, 9, 12, 5, 1, 15, 14, 13, 4, 10, 0, 7, 6, 3, 9, 2, 8, 11, 13, 11, 7, 14, 12, 1, 3, 9,
  5, 0, 15, 4, 8, 6, 2, 10, 6, 15, 14, 9, 11, 3, 0, 8, 12, 2, 13, 7, 1, 4, 10, 5, 10, 2, 8, 4, 7, 6, 1, 5, 15, 11, 9, 14, 3, 12, 13, 0]
theorem sigAll_get : ∀ r, r < 10 → ∀ j, j < 16 → sigAll.getD (16 * r + j) 0 = ((sgN r j : Nat) : Int) := by decide +kernel
theorem sigAll_length : sigAll.length = 160 := rfl
theorem sigAll_nth (r j : Nat) (hr : r < 10) (hj : j < 16) : nth (sigAll.map (V.int .i64)) (16 * r + j) = some (V.int .i64 ((sgN r j : Nat) : Int)) := by
  rw [nth_ints _ _ _ (by rw [sigAll_length]; omega), sigAll_get r hr j hj]
/-- The laid tables stand in memory. -/
def hasTabs (h : Heap) : Prop := (∃ t, h.get 1 = some (.cells (rowsL.map (V.int .i64)) t 1 false)) ∧ (∃ t, h.get 0 = some (.cells (ivL.map (V.int .u32)) t 1 false)) ∧ (∃ t, h.get 2 = some (.cells (sigAll.map (V.int .i64)) t 1 false))
theorem hasTabs_ext {h H : Heap} (hr : hasTabs h) (hf : Fresh h) (he : Ext h H) : hasTabs H := by
  obtain ⟨⟨t, ht⟩, ⟨t2, ht2⟩, ⟨t3, ht3⟩⟩ := hr
  exact ⟨⟨t, he.get hf ht⟩, ⟨t2, he.get hf ht2⟩, ⟨t3, he.get hf ht3⟩⟩
theorem hasTabs_new {h : Heap} (B : Blk) (hr : hasTabs h) (hf : Fresh h) : hasTabs (h.new B) := hasTabs_ext hr hf (Ext.new h B)
theorem hasTabs_pos {h : Heap} (hr : hasTabs h) (hf : Fresh h) : 1 < h.next ∧ 0 < h.next ∧ 2 < h.next := by
  obtain ⟨⟨t, ht⟩, ⟨t2, ht2⟩, ⟨t3, ht3⟩⟩ := hr
  exact ⟨hf.lt ht, hf.lt ht2, hf.lt ht3⟩
/-- Memory within a block of the document's sum. -/
structure GS (h : Heap) (q : Nat) (R : List V) (hb : List Int) (blk : List Nat) (m v : List Int) (H : Heap) : Prop where
  ext : Ext h H
  fresh : Fresh H
  hq : h.next + 2 ≤ q
  next : q + 3 ≤ H.next
  g0 : H.get h.next = some (.cells R 25 1 true)
  g1 : H.get (h.next + 1) = some (.cells (hb.map (V.int .u32)) 46 1 true)
  gb : H.get q = some (.cells (bytesOf blk) 5 1 true)
  gm : H.get (q + 1) = some (.cells (m.map (V.int .u32)) 47 1 true)
  gv : H.get (q + 2) = some (.cells (v.map (V.int .u32)) 47 1 true)
theorem GS.setM {h H : Heap} {q : Nat} {R : List V} {hb : List Int} {blk : List Nat} {m v : List Int} (g : GS h q R hb blk m v H) (w : List Int) : GS h q R hb blk w v (H.set (q + 1) (some (.cells (w.map (V.int .u32)) 47 1 true))) := by
  have := g.next; have := g.hq
  refine ⟨g.ext.trans_set (by omega) _, g.fresh.set (by omega) _, g.hq, by simp; omega, ?_, ?_, ?_, ?_, ?_⟩
  · rw [Heap.get_set, if_neg (by omega)]; exact g.g0
  · rw [Heap.get_set, if_neg (by omega)]; exact g.g1
  · rw [Heap.get_set, if_neg (by omega)]; exact g.gb
  · rw [Heap.get_set, if_pos rfl]
  · rw [Heap.get_set, if_neg (by omega)]; exact g.gv
theorem GS.setV {h H : Heap} {q : Nat} {R : List V} {hb : List Int} {blk : List Nat} {m v : List Int} (g : GS h q R hb blk m v H) (w : List Int) : GS h q R hb blk m w (H.set (q + 2) (some (.cells (w.map (V.int .u32)) 47 1 true))) := by
  have := g.next; have := g.hq
  refine ⟨g.ext.trans_set (by omega) _, g.fresh.set (by omega) _, g.hq, by simp; omega, ?_, ?_, ?_, ?_, ?_⟩
  · rw [Heap.get_set, if_neg (by omega)]; exact g.g0
  · rw [Heap.get_set, if_neg (by omega)]; exact g.g1
  · rw [Heap.get_set, if_neg (by omega)]; exact g.gb
  · rw [Heap.get_set, if_neg (by omega)]; exact g.gm
  · rw [Heap.get_set, if_pos rfl]
theorem GS.setH {h H : Heap} {q : Nat} {R : List V} {hb : List Int} {blk : List Nat} {m v : List Int} (g : GS h q R hb blk m v H) (w : List Int) : GS h q R w blk m v (H.set (h.next + 1) (some (.cells (w.map (V.int .u32)) 46 1 true))) := by
  have := g.next; have := g.hq
  refine ⟨g.ext.trans_set (by omega) _, g.fresh.set (by omega) _, g.hq, by simp; omega, ?_, ?_, ?_, ?_, ?_⟩
  · rw [Heap.get_set, if_neg (by omega)]; exact g.g0
  · rw [Heap.get_set, if_pos rfl]
  · rw [Heap.get_set, if_neg (by omega)]; exact g.gb
  · rw [Heap.get_set, if_neg (by omega)]; exact g.gm
  · rw [Heap.get_set, if_neg (by omega)]; exact g.gv

/-- The same, before the block's second row. -/
structure GM (h : Heap) (q : Nat) (R : List V) (hb : List Int) (blk : List Nat) (m : List Int) (H : Heap) : Prop where
  ext : Ext h H
  fresh : Fresh H
  hq : h.next + 2 ≤ q
  next : H.next = q + 2
  g0 : H.get h.next = some (.cells R 25 1 true)
  g1 : H.get (h.next + 1) = some (.cells (hb.map (V.int .u32)) 46 1 true)
  gb : H.get q = some (.cells (bytesOf blk) 5 1 true)
  gm : H.get (q + 1) = some (.cells (m.map (V.int .u32)) 47 1 true)
theorem GM.setM {h H : Heap} {q : Nat} {R : List V} {hb : List Int} {blk : List Nat} {m : List Int} (g : GM h q R hb blk m H) (w : List Int) : GM h q R hb blk w (H.set (q + 1) (some (.cells (w.map (V.int .u32)) 47 1 true))) := by
  have := g.next; have := g.hq
  refine ⟨g.ext.trans_set (by omega) _, g.fresh.set (by omega) _, g.hq, by simpa using g.next, ?_, ?_, ?_, ?_⟩
  · rw [Heap.get_set, if_neg (by omega)]; exact g.g0
  · rw [Heap.get_set, if_neg (by omega)]; exact g.g1
  · rw [Heap.get_set, if_neg (by omega)]; exact g.gb
  · rw [Heap.get_set, if_pos rfl]
theorem GM.newV {h H : Heap} {q : Nat} {R : List V} {hb : List Int} {blk : List Nat} {m : List Int} (g : GM h q R hb blk m H) (w : List Int) : GS h q R hb blk m w (H.new (.cells (w.map (V.int .u32)) 47 1 true)) := by
  have hn := g.next; have := g.hq
  refine ⟨g.ext.trans_new _, g.fresh.new _, g.hq, by simp; omega, ?_, ?_, ?_, ?_, ?_⟩
  · rw [Heap.get_new, if_neg (by omega)]; exact g.g0
  · rw [Heap.get_new, if_neg (by omega)]; exact g.g1
  · rw [Heap.get_new, if_neg (by omega)]; exact g.gb
  · rw [Heap.get_new, if_neg (by omega)]; exact g.gm
  · rw [Heap.get_new, if_pos (by omega)]

theorem sumR_words (cf : ACall) (hGet : ∀ a h, cf 22 a h = s_Get32R a h) (N : Nat) (hN : 17 ≤ N) (h : Heap) (q : Nat) (R : List V) (hb : List Int) (blk : List Nat) (hlt : ∀ y ∈ blk, y < 256) (hl : blk.length = 64) : ∀ e H0, e.n = 160 → e.at 7 = .slice q 0 64 (some 64) → e.at 8 = .ptr (q + 1) 0 → e.at 9 = .int .i64 0 → GM h q R hb blk (List.replicate 16 0) H0 →
    YtobnkgajgodioaaDoorA.Ends (execA cf N (.loop c18_l1) e H0) fun x e' H => x = .exit 2 ∧ GM h q R hb blk (mW blk 16) H := by
  intro e H0 hn h7 h8 h9 hG0
  refine loop_count (cf := cf) (N := N) (c := c18_l1) 16
    (fun i e H => e.n = 160 ∧ e.at 7 = .slice q 0 64 (some 64) ∧ e.at 8 = .ptr (q + 1) 0 ∧ e.at 9 = .int .i64 (i : Int) ∧ GM h q R hb blk (mW blk i) H)
    (fun x e' H => x = .exit 2 ∧ GM h q R hb blk (mW blk 16) H) ?_ ?_ 0 e _ (Nat.zero_le _) ⟨hn, h7, h8, h9, hG0⟩ (by omega)
  · rintro i e H hi ⟨hn, h7, h8, h9, hG⟩
    have gm := hG.gm
    have hml := mW_length blk i
    have hbq := slB_at (o := 0) (n := 64) (c := some 64) hG.gb hlt (by omega) (.inr rfl)
    rw [List.drop_zero, List.take_of_length_le (by omega)] at hbq
    have hr : mW blk (i + 1) = (mW blk i).set i (getW blk i) := rfl
    generalize mW blk i = mi at *
    have hset := hG.setM
    have w2 : wrapF .i64 (4 * (i : Int)) = 4 * (i : Int) := wrap_i64 (by omega) (by omega)
    have w2b : wrapF .i64 (4 * (i : Int) + 4) = 4 * (i : Int) + 4 := wrap_i64 (by omega) (by omega)
    have w4 : (4 * (i : Int)).toNat = 4 * i := by omega
    have w5 : (4 * (i : Int) + 4).toNat = 4 * i + 4 := by omega
    have hgc := getU_cut blk (4 * i) 4
    have hcl : ((blk.take (4 * i + 4)).drop (4 * i)).length = 4 := by simp; omega
    have htk : blk.take 64 = blk := List.take_of_length_le (by omega)
    have hgw : wrapF .u32 (getU (blk.drop (4 * i)) 4) = getW blk i := rfl
    generalize hcut : (blk.take (4 * i + 4)).drop (4 * i) = ct at *
    simp (config := {maxSteps := 1000000, maxDischargeDepth := 9, implicitDefEqProofs := false}) [c18_l1, hn, h7, h8, h9, gm, hi, hbq, hl, w2, w2b, w4, w5, hGet, s_Get32R, hcut, hcl, hgc, hgw, hml, show (i : Int) < 16 from by omega, show 4 * (i : Int) + 4 ≤ 64 from by omega, show (0 : Int) ≤ 4 * (i : Int) from by omega, show 4 * i + 4 ≤ 64 from by omega, show 4 * (i : Int) ≤ 4 * (i : Int) + 4 from by omega, -over, over_set, map_set, -List.map_set, Nat.succ_le_of_lt hi, wrap_i64 (x := (i : Int) + 1) (by omega) (by omega), -List.length_drop]
    rw [hr]
    exact hset _
  · rintro e H ⟨hn, h7, h8, h9, hG⟩
    simp (config := {maxSteps := 1000000, maxDischargeDepth := 9, implicitDefEqProofs := false}) [c18_l1, hn, h9]
    exact hG

def vI (hb : List Int) : Nat → List Int
  | 0 => List.replicate 16 0
  | i + 1 => ((vI hb i).set i (hb.getD i 0)).set (8 + i) (ivL.getD i 0)
theorem vI_length (hb : List Int) : ∀ i, (vI hb i).length = 16
  | 0 => by simp [vI]
  | i + 1 => by simp [vI, vI_length hb i]
theorem vI_all {hb : List Int} (hl : hb.length = 8) : vI hb 8 = hb ++ ivL := by
  match hb, hl with
  | [a, b, c, d, e, f, g, h], _ => rfl
theorem sumR_init (cf : ACall) (N : Nat) (hN : 17 ≤ N) (h : Heap) (hf : Fresh h) (htab : hasTabs h) (q : Nat) (R : List V) (hb m : List Int) (blk : List Nat) (hl : hb.length = 8) : ∀ e H0, e.n = 160 → e.at 3 = .ptr (h.next + 1) 0 → e.at 10 = .ptr (q + 2) 0 → e.at 11 = .int .i64 0 → GS h q R hb blk m (List.replicate 16 0) H0 →
    YtobnkgajgodioaaDoorA.Ends (execA cf N (.loop c18_l2) e H0) fun x e' H => x = .exit 4 ∧ GS h q R hb blk m (hb ++ ivL) H := by
  intro e H0 hn h3 h10 h11 hG0
  rw [← vI_all hl]
  refine loop_count (cf := cf) (N := N) (c := c18_l2) 8
    (fun i e H => e.n = 160 ∧ e.at 3 = .ptr (h.next + 1) 0 ∧ e.at 10 = .ptr (q + 2) 0 ∧ e.at 11 = .int .i64 (i : Int) ∧ GS h q R hb blk m (vI hb i) H)
    (fun x e' H => x = .exit 4 ∧ GS h q R hb blk m (vI hb 8) H) ?_ ?_ 0 e _ (Nat.zero_le _) ⟨hn, h3, h10, h11, hG0⟩ (by omega)
  · rintro i e H hi ⟨hn, h3, h10, h11, hG⟩
    have gv := hG.gv
    have g1 := hG.g1
    have hq := hG.hq
    obtain ⟨_, ⟨t2, giv⟩, _⟩ := hasTabs_ext htab hf hG.ext
    have hpos := (hasTabs_pos htab hf).2.1
    have hvl := vI_length hb i
    have hr : vI hb (i + 1) = ((vI hb i).set i (hb.getD i 0)).set (8 + i) (ivL.getD i 0) := rfl
    generalize vI hb i = vi at *
    have m0 : hb[i]'(by omega) = hb.getD i 0 := by rw [List.getD_eq_getElem?_getD, List.getElem?_eq_getElem (by omega)]; rfl
    have ivl := ivL_length
    have m1 : ivL[i]'(by omega) = ivL.getD i 0 := by rw [List.getD_eq_getElem?_getD, List.getElem?_eq_getElem (by omega)]; rfl
    rw [← m0, ← m1] at hr
    have hset := hG.setV
    have w1 : wrapF .i64 (8 + (i : Int)) = 8 + (i : Int) := wrap_i64 (by omega) (by omega)
    have t1 : (8 + (i : Int)).toNat = 8 + i := by omega
    have hq1 : (h.next + 1 = q + 2) = False := by simp; omega
    have hq2 : (0 = q + 2) = False := eq_false (by omega)
    simp (config := {maxSteps := 1000000, maxDischargeDepth := 9, implicitDefEqProofs := false}) [c18_l2, hn, h3, h10, h11, gv, g1, giv, hi, hl, hq1, hq2, w1, t1, ivl, hvl, show (i : Int) < 8 from by omega, show (i : Int) < 16 from by omega, show i < 16 from by omega, show 8 + (i : Int) < 16 from by omega, show (0 : Int) ≤ 8 + (i : Int) from by omega, show 8 + i < 16 from by omega, show i + 1 ≤ 16 from by omega, show 8 + i + 1 ≤ 16 from by omega, -over, over_set, map_set, -List.map_set, wrap_i64 (x := (i : Int) + 1) (by omega) (by omega)]
    rw [hr]
    exact hset _
  · rintro e H ⟨hn, h3, h10, h11, hG⟩
    simp (config := {maxSteps := 1000000, maxDischargeDepth := 9, implicitDefEqProofs := false}) [c18_l2, hn, h11]
    exact hG

theorem sumR_in (cf : ACall) (hMix : ∀ a h, cf 23 a h = s_mixR a h) (N : Nat) (hN : 17 ≤ N) (h : Heap) (hf : Fresh h) (htab : hasTabs h) (q r : Nat) (hr10 : r < 10) (R : List V) (hb m v : List Int) (blk : List Nat) (hm : m.length = 16) (hv : v.length = 16) : ∀ e H0, e.n = 160 → e.at 8 = .ptr (q + 1) 0 → e.at 10 = .ptr (q + 2) 0 → e.at 12 = .int .i64 (r : Int) → e.at 13 = .int .i64 0 → GS h q R hb blk m v H0 →
    YtobnkgajgodioaaDoorA.Ends (execA cf N (.loop c18_l4) e H0) fun x e' H => x = .exit 8 ∧ GS h q R hb blk m (roundR v m r 8) H := by
  intro e H0 hn h8 h10 h12 h13 hG0
  refine loop_count (cf := cf) (N := N) (c := c18_l4) 8
    (fun i e H => e.n = 160 ∧ e.at 8 = .ptr (q + 1) 0 ∧ e.at 10 = .ptr (q + 2) 0 ∧ e.at 12 = .int .i64 (r : Int) ∧ e.at 13 = .int .i64 (i : Int) ∧ GS h q R hb blk m (roundR v m r i) H)
    (fun x e' H => x = .exit 8 ∧ GS h q R hb blk m (roundR v m r 8) H) ?_ ?_ 0 e _ (Nat.zero_le _) ⟨hn, h8, h10, h12, h13, hG0⟩ (by omega)
  · rintro i e H hi ⟨hn, h8, h10, h12, h13, hG⟩
    have gv := hG.gv
    have gm := hG.gm
    have hq := hG.hq
    obtain ⟨⟨t1, grow⟩, _, ⟨t3, gsig⟩⟩ := hasTabs_ext htab hf hG.ext
    have hl := roundR_length v m r i
    rw [hv] at hl
    have hr : roundR v m r (i + 1) = mixR (roundR v m r i) (rowsL.getD (4 * i) 0).toNat (rowsL.getD (4 * i + 1) 0).toNat (rowsL.getD (4 * i + 2) 0).toNat (rowsL.getD (4 * i + 3) 0).toNat (m.getD (sgN r (2 * i)) 0) (m.getD (sgN r (2 * i + 1)) 0) := rfl
    have s1 := sigAll_nth r (2 * i) hr10 (by omega)
    have s2 := sigAll_nth r (2 * i + 1) hr10 (by omega)
    have l1 := sgN_lt r (2 * i) (by omega)
    have l2 := sgN_lt r (2 * i + 1) (by omega)
    have hset := hG.setV
    generalize roundR v m r i = vi at *
    generalize roundR v m r (i + 1) = vj at *
    obtain ⟨a1, ha1⟩ : ∃ a, a = sgN r (2 * i) := ⟨_, rfl⟩
    obtain ⟨a2, ha2⟩ : ∃ a, a = sgN r (2 * i + 1) := ⟨_, rfl⟩
    rw [← ha1] at s1 l1 hr
    rw [← ha2] at s2 l2 hr
    have m1 : m[a1]'(by omega) = m.getD a1 0 := by rw [List.getD_eq_getElem?_getD, List.getElem?_eq_getElem (by omega)]; rfl
    have m2 : m[a2]'(by omega) = m.getD a2 0 := by rw [List.getD_eq_getElem?_getD, List.getElem?_eq_getElem (by omega)]; rfl
    rw [← m1, ← m2] at hr
    subst hr
    have l1' : (a1 : Int) < 16 := by omega
    have l2' : (a2 : Int) < 16 := by omega
    have hr1 : (r : Int) < 10 := by omega
    have hr2 : ((r : Int) * 16).toNat = 16 * r := by omega
    have hrm : r * 16 = 16 * r := by omega
    have hii : i = 0 ∨ i = 1 ∨ i = 2 ∨ i = 3 ∨ i = 4 ∨ i = 5 ∨ i = 6 ∨ i = 7 := by omega
    rcases hii with rfl | rfl | rfl | rfl | rfl | rfl | rfl | rfl <;>
      ((try simp only [Nat.mul_zero, Nat.add_zero] at s1)
       simp (config := {maxSteps := 1000000, maxDischargeDepth := 9, implicitDefEqProofs := false}) [c18_l4, hn, h8, h10, h12, h13, gm, gv, grow, gsig, rowsL, s1, s2, l1, l2, l1', l2', hr1, hr2, hrm, hMix, s_mixR, hl, hm, sigAll_length]
       exact hset _)
  · rintro e H ⟨hn, h8, h10, h12, h13, hG⟩
    simp (config := {maxSteps := 1000000, maxDischargeDepth := 9, implicitDefEqProofs := false}) [c18_l4, hn, h13]
    exact hG

theorem sumR_rounds (cf : ACall) (hMix : ∀ a h, cf 23 a h = s_mixR a h) (N : Nat) (hN : 17 ≤ N) (h : Heap) (hf : Fresh h) (htab : hasTabs h) (q : Nat) (R : List V) (hb m v : List Int) (blk : List Nat) (hm : m.length = 16) (hv : v.length = 16) : ∀ e H0, e.n = 160 → e.at 8 = .ptr (q + 1) 0 → e.at 10 = .ptr (q + 2) 0 → e.at 12 = .int .i64 0 → GS h q R hb blk m v H0 →
    YtobnkgajgodioaaDoorA.Ends (execA cf N (.loop c18_l3) e H0) fun x e' H => x = .exit 6 ∧ GS h q R hb blk m (roundsB v m 10) H := by
  intro e H0 hn h8 h10 h12 hG0
  refine loop_count (cf := cf) (N := N) (c := c18_l3) 10
    (fun i e H => e.n = 160 ∧ e.at 8 = .ptr (q + 1) 0 ∧ e.at 10 = .ptr (q + 2) 0 ∧ e.at 12 = .int .i64 (i : Int) ∧ GS h q R hb blk m (roundsB v m i) H)
    (fun x e' H => x = .exit 6 ∧ GS h q R hb blk m (roundsB v m 10) H) ?_ ?_ 0 e _ (Nat.zero_le _) ⟨hn, h8, h10, h12, hG0⟩ (by omega)
  · rintro i e H hi ⟨hn, h8, h10, h12, hG⟩
    have hl := roundsB_length v m i
    rw [hv] at hl
    have hr : roundsB v m (i + 1) = roundR (roundsB v m i) m i 8 := (roundR_eq _ m i hl).symm
    simp (config := {maxSteps := 1000000, maxDischargeDepth := 9, implicitDefEqProofs := false}) [c18_l3, hn, h8, h10, h12, show (i : Int) < 10 from by omega]
    refine loop_in (K := fun r => seqS _ _ _ (blockS _ (blockS _ r))) (sumR_in cf hMix N hN h hf htab q i hi R hb m (roundsB v m i) blk hm hl _ _ ?_ ?_ ?_ ?_ ?_ hG) ?_
    · simp (config := {maxSteps := 1000000, maxDischargeDepth := 9, implicitDefEqProofs := false}) [hn]
    · simp (config := {maxSteps := 1000000, maxDischargeDepth := 9, implicitDefEqProofs := false}) [hn, h8]
    · simp (config := {maxSteps := 1000000, maxDischargeDepth := 9, implicitDefEqProofs := false}) [hn, h10]
    · simp (config := {maxSteps := 1000000, maxDischargeDepth := 9, implicitDefEqProofs := false}) [hn, h12]
    · simp (config := {maxSteps := 1000000, maxDischargeDepth := 9, implicitDefEqProofs := false}) [hn]
    · rintro x H2 ⟨rfl, hG2⟩
      simp (config := {maxSteps := 1000000, maxDischargeDepth := 9, implicitDefEqProofs := false}) [hn, h8, h10, h12, c18_l4_wr, wrap_i64 (x := (i : Int) + 1) (by omega) (by omega)]
      rw [hr]; exact hG2
  · rintro e H ⟨hn, h8, h10, h12, hG⟩
    simp (config := {maxSteps := 1000000, maxDischargeDepth := 9, implicitDefEqProofs := false}) [c18_l3, hn, h12]
    exact hG

theorem sumR_end (cf : ACall) (N : Nat) (hN : 17 ≤ N) (h : Heap) (q : Nat) (R : List V) (hb m v : List Int) (blk : List Nat) (hl : hb.length = 8) (hv : v.length = 16) : ∀ e H0, e.n = 160 → e.at 3 = .ptr (h.next + 1) 0 → e.at 10 = .ptr (q + 2) 0 → e.at 14 = .int .i64 0 → GS h q R hb blk m v H0 →
    YtobnkgajgodioaaDoorA.Ends (execA cf N (.loop c18_l5) e H0) fun x e' H => x = .exit 10 ∧ GS h q R (endB hb v 8) blk m v H := by
  intro e H0 hn h3 h10 h14 hG0
  refine loop_count (cf := cf) (N := N) (c := c18_l5) 8
    (fun i e H => e.n = 160 ∧ e.at 3 = .ptr (h.next + 1) 0 ∧ e.at 10 = .ptr (q + 2) 0 ∧ e.at 14 = .int .i64 (i : Int) ∧ GS h q R (endB hb v i) blk m v H)
    (fun x e' H => x = .exit 10 ∧ GS h q R (endB hb v 8) blk m v H) ?_ ?_ 0 e _ (Nat.zero_le _) ⟨hn, h3, h10, h14, hG0⟩ (by omega)
  · rintro i e H hi ⟨hn, h3, h10, h14, hG⟩
    have g1 := hG.g1
    have gv := hG.gv
    have hq := hG.hq
    have hel := endB_length hb v i
    rw [hl] at hel
    have hr : endB hb v (i + 1) = (endB hb v i).set i (xor32 ((endB hb v i).getD i 0) (xor32 (v.getD i 0) (v.getD (i + 8) 0))) := rfl
    generalize endB hb v i = b at *
    have m0 : b[i]'(by omega) = b.getD i 0 := by rw [List.getD_eq_getElem?_getD, List.getElem?_eq_getElem (by omega)]; rfl
    have m1 : v[i]'(by omega) = v.getD i 0 := by rw [List.getD_eq_getElem?_getD, List.getElem?_eq_getElem (by omega)]; rfl
    have m2 : v[8 + i]'(by omega) = v.getD (i + 8) 0 := by rw [List.getD_eq_getElem?_getD, Nat.add_comm i 8, List.getElem?_eq_getElem (by omega)]; rfl
    rw [← m0, ← m1, ← m2] at hr
    have hset := hG.setH
    have e2 : ∀ x y : Int, wrapF .u32 (((x % 4294967296).toNat ^^^ (y % 4294967296).toNat : Nat) : Int) = xor32 x y := fun _ _ => rfl
    have w1 : wrapF .i64 (8 + (i : Int)) = 8 + (i : Int) := wrap_i64 (by omega) (by omega)
    have t1 : (8 + (i : Int)).toNat = 8 + i := by omega
    have hq1 : (q + 2 = h.next + 1) = False := by simp; omega
    simp (config := {maxSteps := 1000000, maxDischargeDepth := 9, implicitDefEqProofs := false}) [c18_l5, hn, h3, h10, h14, g1, gv, hi, hq1, show (i : Int) < 8 from by omega, show i < 16 from by omega, show (i : Int) < 16 from by omega, show 8 + (i : Int) < 16 from by omega, show (0 : Int) ≤ 8 + (i : Int) from by omega, show 8 + i < 16 from by omega, w1, t1, hv, hel, modK, e2, xor32_assoc, -over, over_set, map_set, -List.map_set, Nat.succ_le_of_lt hi, wrap_i64 (x := (i : Int) + 1) (by omega) (by omega)]
    rw [hr]
    exact hset _
  · rintro e H ⟨hn, h3, h10, h14, hG⟩
    simp (config := {maxSteps := 1000000, maxDischargeDepth := 9, implicitDefEqProofs := false}) [c18_l5, hn, h14]
    exact hG

/-- Memory while a sum's bytes are written. -/
structure GT (h : Heap) (R : List V) (hb : List Int) (p : Nat) (cs : List V) (H : Heap) : Prop where
  ext : Ext h H
  fresh : Fresh H
  hp : h.next + 2 ≤ p
  lt : p < H.next
  g0 : H.get h.next = some (.cells R 25 1 true)
  g1 : H.get (h.next + 1) = some (.cells (hb.map (V.int .u32)) 46 1 true)
  gp : H.get p = some (.cells cs 25 1 true)
theorem GT.set {h H : Heap} {R : List V} {hb : List Int} {p : Nat} {cs : List V} (g : GT h R hb p cs H) (cs' : List V) : GT h R hb p cs' (H.set p (some (.cells cs' 25 1 true))) := by
  have := g.hp; have := g.lt
  refine ⟨g.ext.trans_set (by omega) _, g.fresh.set g.lt _, g.hp, by simpa using g.lt, ?_, ?_, ?_⟩
  · rw [Heap.get_set, if_neg (by omega)]; exact g.g0
  · rw [Heap.get_set, if_neg (by omega)]; exact g.g1
  · rw [Heap.get_set, if_pos rfl]
theorem GT.new {h H : Heap} {R : List V} {hb : List Int} {p : Nat} {cs : List V} (g : GT h R hb p cs H) (B : Blk) : GT h R hb p cs (H.new B) := by
  have := g.hp; have := g.lt
  refine ⟨g.ext.trans_new _, g.fresh.new _, g.hp, by simp; omega, ?_, ?_, ?_⟩
  · rw [Heap.get_new, if_neg (by omega)]; exact g.g0
  · rw [Heap.get_new, if_neg (by omega)]; exact g.g1
  · rw [Heap.get_new, if_neg (by omega)]; exact g.gp
theorem sumR_put (cf : ACall) (N : Nat) (hN : 17 ≤ N) (h : Heap) (R : List V) (hb : List Int) (p q i : Nat) (o y : List Nat) (hi : i < 8) (ho : o.length = 4 * i) (hy : y.length = 4) (hpq : p < q) : ∀ e H0, e.n = 160 → e.at 15 = .ptr p 0 → e.at 16 = .int .i64 (i : Int) → e.at 17 = .slice q 0 4 none → e.at 18 = .int .i64 0 →
    GT h R hb p (bytesOf o ++ List.replicate (32 - 4 * i) (.int .u8 0)) H0 → H0.get q = some (.cells (bytesOf y) 5 1 true) →
    YtobnkgajgodioaaDoorA.Ends (execA cf N (.loop c18_l7) e H0) fun x e' H => x = .exit 14 ∧ GT h R hb p (bytesOf (o ++ y) ++ List.replicate (32 - 4 * (i + 1)) (.int .u8 0)) H := by
  intro e H0 hn h15 h16 h17 h18 hG0 gq0
  refine loop_count (cf := cf) (N := N) (c := c18_l7) 4
    (fun k e H => e.n = 160 ∧ e.at 15 = .ptr p 0 ∧ e.at 16 = .int .i64 (i : Int) ∧ e.at 17 = .slice q 0 4 none ∧ e.at 18 = .int .i64 (k : Int) ∧ GT h R hb p (bytesOf (o ++ y.take k) ++ List.replicate (32 - 4 * i - k) (.int .u8 0)) H ∧ H.get q = some (.cells (bytesOf y) 5 1 true))
    (fun x e' H => x = .exit 14 ∧ GT h R hb p (bytesOf (o ++ y) ++ List.replicate (32 - 4 * (i + 1)) (.int .u8 0)) H) ?_ ?_ 0 e _ (Nat.zero_le _) ⟨hn, h15, h16, h17, h18, by simpa using hG0, gq0⟩ (by omega)
  · rintro k e H hk ⟨hn, h15, h16, h17, h18, hG, gq⟩
    have gp := hG.gp
    have hset := hG.set
    have hq1 : (p = q) = False := by simp; omega
    have hq2 : (q = p) = False := by simp; omega
    obtain ⟨r, hr⟩ : ∃ r, 32 - 4 * i - k = r + 1 := ⟨32 - 4 * i - k - 1, by omega⟩
    have hr2 : 32 - 4 * i - (k + 1) = r := by omega
    have hky : k < y.length := by omega
    have hlen : (o ++ y.take k).length = 4 * i + k := by simp; omega
    have hov := over_fill (bytesOf (o ++ y.take k)) (.int .u8 0) (.int .u8 ((y[k] : Nat) : Int)) r
    rw [bytesOf_length, hlen] at hov
    have hb' : bytesOf (o ++ y.take (k + 1)) = bytesOf (o ++ y.take k) ++ [.int .u8 ((y[k] : Nat) : Int)] := by
      rw [List.take_succ_eq_append_getElem hky, ← List.append_assoc, bytesOf_append]
      simp [bytesOf]
    have hcl : (bytesOf (o ++ y.take k) ++ List.replicate (r + 1) (V.int .u8 0)).length = 32 := by rw [List.length_append, bytesOf_length, hlen, List.length_replicate]; omega
    rw [hr] at gp
    rw [hr2]
    generalize hcs : bytesOf (o ++ y.take k) ++ List.replicate (r + 1) (V.int .u8 0) = cs at *
    rw [hb']
    generalize hcs2 : bytesOf (o ++ y.take k) ++ [V.int .u8 ((y[k] : Nat) : Int)] ++ List.replicate r (V.int .u8 0) = cs2 at *
    have w1 : wrapF .i64 (4 * (i : Int)) = 4 * (i : Int) := wrap_i64 (by omega) (by omega)
    have w2 : wrapF .i64 (4 * (i : Int) + (k : Int)) = 4 * (i : Int) + (k : Int) := wrap_i64 (by omega) (by omega)
    have t1 : (4 * (i : Int) + (k : Int)).toNat = 4 * i + k := by omega
    simp (config := {maxSteps := 1000000, maxDischargeDepth := 9, implicitDefEqProofs := false}) [c18_l7, hn, h15, h16, h17, h18, hk, show (k : Int) < 4 from by omega, gp, gq, hq1, hq2, w1, w2, t1, hky, hcl, hov, -over, show 4 * (i : Int) + (k : Int) < 32 from by omega, show (0 : Int) ≤ 4 * (i : Int) + (k : Int) from by omega, show 4 * i + k ≤ 31 from by omega, wrap_i64 (x := (k : Int) + 1) (by omega) (by omega)]
    exact hset _
  · rintro e H ⟨hn, h15, h16, h17, h18, hG, gq⟩
    rw [List.take_of_length_le (by omega), show 32 - 4 * i - 4 = 32 - 4 * (i + 1) from by omega] at hG
    simp (config := {maxSteps := 1000000, maxDischargeDepth := 9, implicitDefEqProofs := false}) [c18_l7, hn, h15, h18]
    exact hG
theorem sumR_out (cf : ACall) (hP : ∀ a h, cf 24 a h = s_Put32 a h) (N : Nat) (hN : 17 ≤ N) (h : Heap) (R : List V) (w : List Int) (p : Nat) (hw : w.length = 8) (hrg : ∀ j, j < 8 → 0 ≤ w.getD j 0 ∧ w.getD j 0 < 4294967296) : ∀ e H0, e.n = 160 → e.at 15 = .ptr p 0 → e.at 3 = .ptr (h.next + 1) 0 → e.at 16 = .int .i64 0 →
    GT h R w p (List.replicate 32 (.int .u8 0)) H0 →
    YtobnkgajgodioaaDoorA.Ends (execA cf N (.loop c18_l6) e H0) fun x e' H => x = .exit 12 ∧ GT h R w p (bytesOf (outB w 8)) H := by
  intro e H0 hn h15 h3 h16 hG0
  refine loop_count (cf := cf) (N := N) (c := c18_l6) 8
    (fun i e H => e.n = 160 ∧ e.at 15 = .ptr p 0 ∧ e.at 3 = .ptr (h.next + 1) 0 ∧ e.at 16 = .int .i64 (i : Int) ∧ GT h R w p (bytesOf (outB w i) ++ List.replicate (32 - 4 * i) (.int .u8 0)) H)
    (fun x e' H => x = .exit 12 ∧ GT h R w p (bytesOf (outB w 8)) H) ?_ ?_ 0 e _ (Nat.zero_le _) ⟨hn, h15, h3, h16, by simpa [outB, bytesOf_nil] using hG0⟩ (by omega)
  · rintro i e H hi ⟨hn, h15, h3, h16, hG⟩
    have g1 := hG.g1
    have hxr := hrg i hi
    have hgw : w.getD i 0 = w[i] := by rw [List.getD_eq_getElem?_getD, List.getElem?_eq_getElem (by omega)]; rfl
    rw [hgw] at hxr
    have hout : outB w (i + 1) = outB w i ++ putB w[i] 4 := by simp only [outB, hgw]
    generalize hx : w[i] = x at *
    have hlen := outB_length w i
    simp (config := {maxSteps := 1000000, maxDischargeDepth := 9, implicitDefEqProofs := false}) [c18_l6, hn, h15, h3, h16, hi, show (i : Int) < 8 from by omega, g1, hw, hx, hP, s_Put32, hxr.1, hxr.2]
    refine loop_in (K := fun r => seqS _ _ _ (blockS _ (blockS _ r))) (sumR_put cf N hN h R w p H.next i (outB w i) (putB x 4) hi hlen (putB_length x 4) hG.lt _ _ ?_ ?_ ?_ ?_ ?_ (hG.new _) ?_) ?_
    · simp (config := {maxSteps := 1000000, maxDischargeDepth := 9, implicitDefEqProofs := false}) [hn]
    · simp (config := {maxSteps := 1000000, maxDischargeDepth := 9, implicitDefEqProofs := false}) [hn, h15]
    · simp (config := {maxSteps := 1000000, maxDischargeDepth := 9, implicitDefEqProofs := false}) [hn, h16]
    · simp (config := {maxSteps := 1000000, maxDischargeDepth := 9, implicitDefEqProofs := false}) [hn]
    · simp (config := {maxSteps := 1000000, maxDischargeDepth := 9, implicitDefEqProofs := false}) [hn]
    · simp (config := {maxSteps := 1000000, maxDischargeDepth := 9, implicitDefEqProofs := false})
    · rintro x H ⟨rfl, hG2⟩
      rw [← hout] at hG2
      simp (config := {maxSteps := 1000000, maxDischargeDepth := 9, implicitDefEqProofs := false}) [hn, h15, h3, h16, c18_l7_wr, wrap_i64 (x := (i : Int) + 1) (by omega) (by omega)]
      exact hG2
  · rintro e H ⟨hn, h15, h3, h16, hG⟩
    simp (config := {maxSteps := 1000000, maxDischargeDepth := 9, implicitDefEqProofs := false}) [c18_l6, hn, h16]
    simpa using hG

theorem padB_lt {r : List Nat} (h : ∀ y ∈ r, y < 256) : ∀ y ∈ padB r, y < 256 := fun y hy => by
  rcases List.mem_append.1 hy with hy | hy
  · exact h y hy
  · have := (List.mem_replicate.1 hy).2; omega
theorem sumR_body (cf : ACall) (hGet : ∀ a h, cf 22 a h = s_Get32R a h) (hMix : ∀ a h, cf 23 a h = s_mixR a h) (N : Nat) (hN : 17 ≤ N) (h : Heap) (hf : Fresh h) (htab : hasTabs h) (R : List V) (hb : List Int) (rem : List Nat) (tk : Int) (tv : V) (hl : hb.length = 8) (htk0 : 0 ≤ tk) (htk1 : tk ≤ 4611686018427387904) (hrl : rem.length ≤ 140737488354304)
    (htv : slB h tv = some rem) (hvt : V.lt h.next tv) : ∀ e H, e.n = 160 → e.at 0 = tv → e.at 2 = .ptr h.next 0 → e.at 3 = .ptr (h.next + 1) 0 → e.at 4 = .int .u64 tk → Ext h H → Fresh H → h.next + 2 ≤ H.next → H.get h.next = some (.cells R 25 1 true) → H.get (h.next + 1) = some (.cells (hb.map (V.int .u32)) 46 1 true) →
    YtobnkgajgodioaaDoorA.Ends (execA cf N c18_l0 e H) fun x e' H' => x = (if rem.length ≤ 64 then .exit 0 else .normal) ∧ e'.n = 160 ∧ e'.at 0 = cutV 1 tv (min 64 rem.length) rem.length ∧ e'.at 2 = .ptr h.next 0 ∧ e'.at 3 = .ptr (h.next + 1) 0 ∧ e'.at 4 = .int .u64 (tk + (min 64 rem.length : Nat)) ∧ Ext h H' ∧ Fresh H' ∧ h.next + 2 ≤ H'.next ∧ H'.get h.next = some (.cells R 25 1 true) ∧
      H'.get (h.next + 1) = some (.cells ((pressF hb (padB (rem.take 64)) (tk + (min 64 rem.length : Nat)) (decide (rem.length ≤ 64))).map (V.int .u32)) 46 1 true) := by
  intro e H hn h0 h2 h3 h4 hE hF hnx g0 g1
  have hvl := slB_vlen htv
  have hsl := slB_isSl htv
  have htvH := slB_ext hE hf htv
  have hltH : V.lt H.next tv := V.lt_mono hE.1 tv hvt
  obtain ⟨n, hnm⟩ : ∃ n, n = min 64 rem.length := ⟨_, rfl⟩
  have hn64 : n ≤ 64 := by omega
  have hnl : n ≤ rem.length := by omega
  have hmin : (if (rem.length : Int) < 64 then (rem.length : Int) else 64) = (n : Int) := by split <;> omega
  rw [← hnm]
  have hr : rem.take n = rem.take 64 := by
    rcases Nat.le_total rem.length 64 with hh | hh
    · rw [List.take_of_length_le (by omega), List.take_of_length_le hh]
    · have : n = 64 := by omega
      rw [this]
  obtain ⟨r, hrr⟩ : ∃ r, r = rem.take 64 := ⟨_, rfl⟩
  rw [← hrr] at hr ⊢
  have hrlen : r.length = n := by rw [← hr, List.length_take]; omega
  have hrlt : ∀ y ∈ r, y < 256 := fun y hy => slB_lt htv y (by rw [hrr] at hy; exact List.mem_of_mem_take hy)
  obtain ⟨q, hq⟩ : ∃ q, q = H.next := ⟨_, rfl⟩
  obtain ⟨H1, hH1⟩ : ∃ H1, H1 = H.new (.cells (List.replicate 64 (.int .u8 0)) 5 1 true) := ⟨_, rfl⟩
  have htv1 : slB H1 tv = some rem := by rw [hH1, slB_new _ hltH]; exact htvH
  have hcut := slB_cut' (l := 0) (r := n) htv1 (Nat.zero_le _) hnl
  rw [List.drop_zero, hr] at hcut
  have hcp : copyV H1 1 (.slice q 0 64 (some 64)) (cutV 1 tv 0 n) = _ := copy_from (t := 5) (Q := List.replicate 64 (.int .u8 0)) (r := r) (by rw [hH1, Heap.get_new, hq]; exact if_pos rfl) hcut.1 (by omega) (by simp; omega)
  generalize hH2 : (if r = [] then H1 else H1.set q (some (.cells (over (List.replicate 64 (.int .u8 0)) 0 (bytesOf r)) 5 1 true))) = H2 at hcp
  have hpad : bytesOf (padB r) = bytesOf r ++ List.replicate (64 - r.length) (.int .u8 0) := by unfold padB; rw [bytesOf_append]; simp [bytesOf]
  have n1 : H1.next = q + 1 := by rw [hH1, hq]; rfl
  have k1 : H2.get q = some (.cells (bytesOf (padB r)) 5 1 true) := by
    rw [← hH2]
    split
    · rename_i hz
      subst hz
      rw [hH1, Heap.get_new, hpad, hq]
      exact if_pos rfl
    · rw [Heap.get_set, if_pos rfl, hpad]
      have := over_fillL [] (bytesOf r) (.int .u8 0) (64 - r.length)
      rw [bytesOf_length, show r.length + (64 - r.length) = 64 from by omega] at this
      simp only [List.nil_append, List.length_nil] at this
      rw [this]
  have n2 : H2.next = q + 1 := by rw [← hH2]; split <;> simp [n1]
  have hE2 : Ext h H2 := by
    rw [← hH2, hH1]
    split
    · exact hE.trans_new _
    · exact (hE.trans_new _).trans_set (by omega) _
  have hF2 : Fresh H2 := by
    rw [← hH2, hH1]
    split
    · exact hF.new _
    · exact (hF.new _).set (by simp; omega) _
  have kold : ∀ b, b < q → H2.get b = H.get b := fun b hb => by
    rw [← hH2, hH1]
    split
    · rw [Heap.get_new, if_neg (by omega)]
    · rw [Heap.get_set, if_neg (by omega), Heap.get_new, if_neg (by omega)]
  have hpl : (padB r).length = 64 := padB_length (by omega)
  have hplt := padB_lt hrlt
  have hM : GM h q R hb (padB r) (List.replicate 16 0) (H2.new (.cells ((List.replicate 16 0).map (V.int .u32)) 47 1 true)) := by
    refine ⟨hE2.trans_new _, hF2.new _, by omega, by simp [n2], ?_, ?_, ?_, ?_⟩
    · rw [Heap.get_new, if_neg (by omega), kold _ (by omega)]; exact g0
    · rw [Heap.get_new, if_neg (by omega), kold _ (by omega)]; exact g1
    · rw [Heap.get_new, if_neg (by omega)]; exact k1
    · rw [Heap.get_new, if_pos n2.symm]
  have hw1 : wrapF .u64 (n : Int) = (n : Int) := wrap_u64 (by omega) (by omega)
  have hw2 : wrapF .u64 (tk + (n : Int)) = tk + (n : Int) := wrap_u64 (by omega) (by omega)
  have hn64I : (n : Int) ≤ 64 := by omega
  have hnlI : (n : Int) ≤ (rem.length : Int) := by omega
  have htv2 := slB_ext hE2 hf htv
  have hv1 : (hb ++ ivL).length = 16 := by simp [hl, ivL_length]
  have e2 : ∀ x y : Int, wrapF .u32 (((x % 4294967296).toNat ^^^ (y % 4294967296).toNat : Nat) : Int) = xor32 x y := fun _ _ => rfl
  have htt0 : 0 ≤ tk + (n : Int) := by omega
  have hpf : ∀ last, pressF hb (padB r) (tk + (n : Int)) last = endB hb (roundsB (vInit hb (tk + (n : Int)) last) (mW (padB r) 16) 10) 8 := fun _ => rfl
  rw [hpf]
  generalize hlast : decide (rem.length ≤ 64) = last
  have hlastI : decide ((rem.length : Int) ≤ 64) = last := by rw [← hlast]; congr 1; simp; omega
  have hlx : (if rem.length ≤ 64 then AExit.exit 0 else AExit.normal) = if last = true then AExit.exit 0 else AExit.normal := by rw [← hlast]; simp
  rw [hlx]
  generalize htq : tk + (n : Int) = t at *
  simp (config := {maxSteps := 1000000, maxDischargeDepth := 9, implicitDefEqProofs := false}) [c18_l0, hn, h0, h2, h3, h4, hsl, hvl, htvH, hmin, ← hH1, -List.reduceReplicate, ← hq, htv1, htv2, hnl, hnlI, hcp, hw1, hw2, n2, hlastI, htq]
  refine loop_in (K := fun r => blockS _ (seqS _ _ _ (blockS _ r))) (sumR_words cf hGet N hN h q R hb (padB r) hplt hpl _ _ ?_ ?_ ?_ ?_ hM) ?_
  · simp (config := {maxSteps := 1000000, maxDischargeDepth := 9, implicitDefEqProofs := false}) [hn]
  · simp (config := {maxSteps := 1000000, maxDischargeDepth := 9, implicitDefEqProofs := false}) [hn]
  · simp (config := {maxSteps := 1000000, maxDischargeDepth := 9, implicitDefEqProofs := false}) [hn]
  · simp (config := {maxSteps := 1000000, maxDischargeDepth := 9, implicitDefEqProofs := false}) [hn]
  rintro x Ha ⟨rfl, hMa⟩
  have hna := hMa.next
  have hSa := hMa.newV (List.replicate 16 0)
  simp (config := {maxSteps := 1000000, maxDischargeDepth := 9, implicitDefEqProofs := false}) [hn, hna, c18_l1_wr]
  refine loop_in (K := fun r => blockS _ (seqS _ _ _ (blockS _ r))) (sumR_init cf N hN h hf htab q R hb (mW (padB r) 16) (padB r) hl _ _ ?_ ?_ ?_ ?_ hSa) ?_
  · simp (config := {maxSteps := 1000000, maxDischargeDepth := 9, implicitDefEqProofs := false}) [hn]
  · simp (config := {maxSteps := 1000000, maxDischargeDepth := 9, implicitDefEqProofs := false}) [hn, h3, c18_l1_wr]
  · simp (config := {maxSteps := 1000000, maxDischargeDepth := 9, implicitDefEqProofs := false}) [hn]
  · simp (config := {maxSteps := 1000000, maxDischargeDepth := 9, implicitDefEqProofs := false}) [hn]
  rintro x Hb ⟨rfl, hSb⟩
  have gvb := hSb.gv
  obtain ⟨m, hm⟩ : ∃ m, m = mW (padB r) 16 := ⟨_, rfl⟩
  have hml : m.length = 16 := by rw [hm]; exact mW_length _ _
  rw [← hm] at hSb ⊢
  generalize hv1q : hb ++ ivL = v1 at *
  have hvi : vInit hb t last = (if last then ((v1.set 12 (xor32 (v1.getD 12 0) (wrapF .u32 t))).set 13 (xor32 ((v1.set 12 (xor32 (v1.getD 12 0) (wrapF .u32 t))).getD 13 0) (wrapF .u32 (t / 4294967296)))).set 14 (not32 (((v1.set 12 (xor32 (v1.getD 12 0) (wrapF .u32 t))).set 13 (xor32 ((v1.set 12 (xor32 (v1.getD 12 0) (wrapF .u32 t))).getD 13 0) (wrapF .u32 (t / 4294967296)))).getD 14 0)) else (v1.set 12 (xor32 (v1.getD 12 0) (wrapF .u32 t))).set 13 (xor32 ((v1.set 12 (xor32 (v1.getD 12 0) (wrapF .u32 t))).getD 13 0) (wrapF .u32 (t / 4294967296)))) := by
    unfold vInit
    rw [hv1q]
  have m1 : v1[12]'(by omega) = v1.getD 12 0 := by rw [List.getD_eq_getElem?_getD, List.getElem?_eq_getElem (by omega)]; rfl
  rw [← m1] at hvi
  obtain ⟨v2, hv2⟩ : ∃ v2, v2 = v1.set 12 (xor32 (v1[12]'(by omega)) (wrapF .u32 t)) := ⟨_, rfl⟩
  rw [← hv2] at hvi
  have hv2l : v2.length = 16 := by rw [hv2]; simp [hv1]
  have m2 : v2[13]'(by omega) = v2.getD 13 0 := by rw [List.getD_eq_getElem?_getD, List.getElem?_eq_getElem (by omega)]; rfl
  rw [← m2] at hvi
  obtain ⟨v3, hv3⟩ : ∃ v3, v3 = v2.set 13 (xor32 (v2[13]'(by omega)) (wrapF .u32 (t / 4294967296))) := ⟨_, rfl⟩
  rw [← hv3] at hvi
  have hv3l : v3.length = 16 := by rw [hv3]; simp [hv2l]
  have m3 : v3[14]'(by omega) = v3.getD 14 0 := by rw [List.getD_eq_getElem?_getD, List.getElem?_eq_getElem (by omega)]; rfl
  rw [← m3] at hvi
  obtain ⟨v4, hv4⟩ : ∃ v4, v4 = v3.set 14 (not32 (v3[14]'(by omega))) := ⟨_, rfl⟩
  rw [← hv4] at hvi
  have hv4l : v4.length = 16 := by rw [hv4]; simp [hv3l]
  have hfd : t.fdiv 4294967296 = t / 4294967296 := Int.fdiv_eq_ediv_of_nonneg _ (by omega)
  have hun : ∀ (x : Int) (H : Heap), unS .xor (.int .u32 x) H = some (.int .u32 (not32 x), H) := fun _ _ => rfl
  have hS2 := hSb.setV v2
  have hS3 := hS2.setV v3
  have hS4 := hS3.setV v4
  simp only [Heap.set_set] at hS3 hS4
  have hrn : ∀ vv : List Int, vv.length = 16 → (roundsB vv m 10).length = 16 := fun vv h => by rw [roundsB_length, h]
  cases last
  · rw [hvi]
    simp only [Bool.false_eq_true, if_false]
    simp (config := {maxSteps := 1000000, maxDischargeDepth := 9, implicitDefEqProofs := false}) [hn, hv1, hv2l, hv3l, gvb, modK, e2, -over, over_set, map_set, -List.map_set, ← hv2, ← hv3, hfd, c18_l1_wr, c18_l2_wr]
    refine loop_in (K := fun r => blockS _ (seqS _ _ _ (blockS _ r))) (sumR_rounds cf hMix N hN h hf htab q R hb m v3 (padB r) hml hv3l _ _ ?_ ?_ ?_ ?_ hS3) ?_
    · simp (config := {maxSteps := 1000000, maxDischargeDepth := 9, implicitDefEqProofs := false}) [hn]
    · simp (config := {maxSteps := 1000000, maxDischargeDepth := 9, implicitDefEqProofs := false}) [hn, n2, c18_l1_wr, c18_l2_wr]
    · simp (config := {maxSteps := 1000000, maxDischargeDepth := 9, implicitDefEqProofs := false}) [hn, c18_l1_wr, c18_l2_wr]
    · simp (config := {maxSteps := 1000000, maxDischargeDepth := 9, implicitDefEqProofs := false}) [hn]
    rintro x Hc ⟨rfl, hSc⟩
    simp (config := {maxSteps := 1000000, maxDischargeDepth := 9, implicitDefEqProofs := false}) [hn, c18_l1_wr, c18_l2_wr, c18_l3_wr]
    refine loop_in (K := fun r => blockS _ (seqS _ _ _ (blockS _ r))) (sumR_end cf N hN h q R hb m (roundsB v3 m 10) (padB r) hl (hrn _ hv3l) _ _ ?_ ?_ ?_ ?_ hSc) ?_
    · simp (config := {maxSteps := 1000000, maxDischargeDepth := 9, implicitDefEqProofs := false}) [hn]
    · simp (config := {maxSteps := 1000000, maxDischargeDepth := 9, implicitDefEqProofs := false}) [hn, h3, c18_l1_wr, c18_l2_wr, c18_l3_wr]
    · simp (config := {maxSteps := 1000000, maxDischargeDepth := 9, implicitDefEqProofs := false}) [hn, c18_l1_wr, c18_l2_wr, c18_l3_wr]
    · simp (config := {maxSteps := 1000000, maxDischargeDepth := 9, implicitDefEqProofs := false}) [hn]
    rintro x Hd ⟨rfl, hSd⟩
    have hdn := hSd.next
    have hdq := hSd.hq
    simp (config := {maxSteps := 1000000, maxDischargeDepth := 9, implicitDefEqProofs := false}) [hn, h2, h3, c18_l1_wr, c18_l2_wr, c18_l3_wr, c18_l5_wr]
    exact ⟨hSd.ext, hSd.fresh, by omega, hSd.g0, hSd.g1⟩
  · rw [hvi]
    simp only [if_true]
    simp (config := {maxSteps := 1000000, maxDischargeDepth := 9, implicitDefEqProofs := false}) [hn, hv1, hv2l, hv3l, gvb, modK, e2, -over, over_set, map_set, -List.map_set, ← hv2, ← hv3, ← hv4, hfd, hun, c18_l1_wr, c18_l2_wr]
    refine loop_in (K := fun r => blockS _ (seqS _ _ _ (blockS _ r))) (sumR_rounds cf hMix N hN h hf htab q R hb m v4 (padB r) hml hv4l _ _ ?_ ?_ ?_ ?_ hS4) ?_
    · simp (config := {maxSteps := 1000000, maxDischargeDepth := 9, implicitDefEqProofs := false}) [hn]
    · simp (config := {maxSteps := 1000000, maxDischargeDepth := 9, implicitDefEqProofs := false}) [hn, n2, c18_l1_wr, c18_l2_wr]
    · simp (config := {maxSteps := 1000000, maxDischargeDepth := 9, implicitDefEqProofs := false}) [hn, c18_l1_wr, c18_l2_wr]
    · simp (config := {maxSteps := 1000000, maxDischargeDepth := 9, implicitDefEqProofs := false}) [hn]
    rintro x Hc ⟨rfl, hSc⟩
    simp (config := {maxSteps := 1000000, maxDischargeDepth := 9, implicitDefEqProofs := false}) [hn, c18_l1_wr, c18_l2_wr, c18_l3_wr]
    refine loop_in (K := fun r => blockS _ (seqS _ _ _ (blockS _ r))) (sumR_end cf N hN h q R hb m (roundsB v4 m 10) (padB r) hl (hrn _ hv4l) _ _ ?_ ?_ ?_ ?_ hSc) ?_
    · simp (config := {maxSteps := 1000000, maxDischargeDepth := 9, implicitDefEqProofs := false}) [hn]
    · simp (config := {maxSteps := 1000000, maxDischargeDepth := 9, implicitDefEqProofs := false}) [hn, h3, c18_l1_wr, c18_l2_wr, c18_l3_wr]
    · simp (config := {maxSteps := 1000000, maxDischargeDepth := 9, implicitDefEqProofs := false}) [hn, c18_l1_wr, c18_l2_wr, c18_l3_wr]
    · simp (config := {maxSteps := 1000000, maxDischargeDepth := 9, implicitDefEqProofs := false}) [hn]
    rintro x Hd ⟨rfl, hSd⟩
    have hdn := hSd.next
    have hdq := hSd.hq
    simp (config := {maxSteps := 1000000, maxDischargeDepth := 9, implicitDefEqProofs := false}) [hn, h2, h3, c18_l1_wr, c18_l2_wr, c18_l3_wr, c18_l5_wr]
    exact ⟨hSd.ext, hSd.fresh, by omega, hSd.g0, hSd.g1⟩

/-- portholeref4.Sum. -/
noncomputable def s_SumR : List V → Heap → Option (V × Heap)
  | [v], h => match slB h v with
    | some s => open Classical in if s.length ≤ lim ∧ hasTabs h then some (.agg (bytesOf (hashF s)), h) else none
    | none => none
  | _, _ => none
theorem SumR_ok (cf : ACall) (hGet : ∀ a h, cf 22 a h = s_Get32R a h) (hPut : ∀ a h, cf 24 a h = s_Put32 a h) (hMix : ∀ a h, cf 23 a h = s_mixR a h) : Sum cf c18 s_SumR := by
  intro args h v h' hf hsc hlt hs
  unfold s_SumR at hs
  split at hs
  · rename_i tv
    split at hs
    · rename_i s htv
      split at hs
      · rename_i hl
        obtain ⟨hl, htab⟩ := hl
        simp only [Option.some.injEq, Prod.mk.injEq] at hs
        obtain ⟨rfl, rfl⟩ := hs
        have hlim : lim = 140737488354304 := rfl
        rw [hlim] at hl
        have hvt : V.lt h.next tv := by simp only [ltL] at hlt; exact hlt.1
        have hk : kOf s.length = (s.length - 1) / 64 := rfl
        obtain ⟨R0, hR0⟩ : ∃ R0 : List V, R0 = List.replicate 32 (.int .u8 0) := ⟨_, rfl⟩
        have hR0l : R0.length = 32 := by rw [hR0]; simp
        obtain ⟨N, hN⟩ : ∃ N, N = kOf s.length + 17 := ⟨_, rfl⟩
        refine ⟨N, ?_⟩
        have L := loop_count (cf := cf) (N := N) (c := c18_l0) (kOf s.length)
          (fun i e H => e.n = 160 ∧ slB h (e.at 0) = some (s.drop (64 * i)) ∧ V.lt h.next (e.at 0) ∧ e.at 2 = .ptr h.next 0 ∧ e.at 3 = .ptr (h.next + 1) 0 ∧ e.at 4 = .int .u64 (64 * (i : Int)) ∧ Ext h H ∧ Fresh H ∧ h.next + 2 ≤ H.next ∧ H.get h.next = some (.cells R0 25 1 true) ∧ H.get (h.next + 1) = some (.cells ((stepsH h0L 0 s i).map (V.int .u32)) 46 1 true))
          (fun x e H => x = .exit 0 ∧ e.n = 160 ∧ e.at 2 = .ptr h.next 0 ∧ e.at 3 = .ptr (h.next + 1) 0 ∧ Ext h H ∧ Fresh H ∧ h.next + 2 ≤ H.next ∧ H.get h.next = some (.cells R0 25 1 true) ∧ H.get (h.next + 1) = some (.cells ((pressF (hbOf s) (padB (s.drop (64 * kOf s.length))) (64 * (kOf s.length : Int) + ((s.drop (64 * kOf s.length)).length : Int)) true).map (V.int .u32)) 46 1 true))
          (by
            rintro i e H hi ⟨hn, h0, hlt0, h2, h3, h4, hE, hF, hnx, g0, g1⟩
            have hdl : (s.drop (64 * i)).length = s.length - 64 * i := by simp
            have hb := sumR_body cf hGet hMix N (by omega) h hf htab R0 (stepsH h0L 0 s i) (s.drop (64 * i)) (64 * (i : Int)) (e.at 0) (stepsH_length _ _ h0L_length i) (by omega) (by omega) (by omega) h0 hlt0 e H hn rfl h2 h3 h4 hE hF hnx g0 g1
            obtain ⟨x, e', H', q1, q2, q3, q4, q5, q6, q7, q8, q9, q10, q11, q12⟩ := hb
            have hmin : min 64 (s.drop (64 * i)).length = 64 := by omega
            rw [hmin] at q4 q7 q12
            rw [if_neg (by omega)] at q2
            have hd : decide ((s.drop (64 * i)).length ≤ 64) = false := by simp; omega
            rw [hd] at q12
            refine ⟨x, e', H', q1, .inl ⟨q2, q3, ?_, ?_, q5, q6, ?_, q8, q9, q10, q11, ?_⟩⟩
            · rw [q4]
              have := (slB_cut' (l := 64) (r := (s.drop (64 * i)).length) h0 (by omega) (Nat.le_refl _)).1
              rw [this, List.take_length, drop64]
            · rw [q4]; exact lt_cut hlt0 _ _ _
            · rw [q7]; congr 1
            · have hpd : padB ((s.drop (64 * i)).take 64) = (s.drop (64 * i)).take 64 := by
                unfold padB
                have : ((s.drop (64 * i)).take 64).length = 64 := by simp; omega
                rw [this]; simp
              rw [hpd] at q12
              simp only [stepsH]
              rw [Int.zero_add]
              exact q12)
          (by
            rintro e H ⟨hn, h0, hlt0, h2, h3, h4, hE, hF, hnx, g0, g1⟩
            have hdl : (s.drop (64 * kOf s.length)).length = s.length - 64 * kOf s.length := by simp
            have hb := sumR_body cf hGet hMix N (by omega) h hf htab R0 (stepsH h0L 0 s (kOf s.length)) (s.drop (64 * kOf s.length)) (64 * (kOf s.length : Int)) (e.at 0) (stepsH_length _ _ h0L_length _) (by omega) (by omega) (by omega) h0 hlt0 e H hn rfl h2 h3 h4 hE hF hnx g0 g1
            obtain ⟨x, e', H', q1, q2, q3, q4, q5, q6, q7, q8, q9, q10, q11, q12⟩ := hb
            have hle : (s.drop (64 * kOf s.length)).length ≤ 64 := by omega
            rw [if_pos hle] at q2
            have hd : decide ((s.drop (64 * kOf s.length)).length ≤ 64) = true := by simp; omega
            rw [hd, Nat.min_eq_right hle, List.take_of_length_le hle] at q12
            exact ⟨x, e', H', q1, by rw [q2]; simp, q2, q3, q5, q6, q8, q9, q10, q11, q12⟩)
        obtain ⟨_, ⟨t2, giv⟩, _⟩ := htab
        have hpos := hf.lt giv
        have ivl := ivL_length
        have hivt : (ivL.map (V.int .u32)).take 8 = ivL.map (V.int .u32) := rfl
        have e2 : ∀ x y : Int, wrapF .u32 (((x % 4294967296).toNat ^^^ (y % 4294967296).toNat : Nat) : Int) = xor32 x y := fun _ _ => rfl
        have hiv0 : ivL[0]'(by rw [ivl]; omega) = 1779033703 := rfl
        have hh0 : ivL.set 0 (xor32 1779033703 16842784) = h0L := rfl
        have hov8 : over [V.int .u32 0, V.int .u32 0, V.int .u32 0, V.int .u32 0, V.int .u32 0, V.int .u32 0, V.int .u32 0, V.int .u32 0] 0 (ivL.map (V.int .u32)) = ivL.map (V.int .u32) := rfl
        have hq1 : (0 = h.next) = False := eq_false (by omega)
        have hn0 : nth (ivL.map (V.int .u32)) 0 = some (.int .u32 1779033703) := rfl
        simp (config := {maxSteps := 1000000, maxDischargeDepth := 9, implicitDefEqProofs := false}) [c18, giv, hq1, ivl, hivt, hov8, -over, mem_ints_one, hn0, modK, e2, over_set, map_set, -List.map_set, hh0]
        refine loop_then (K := fun r => finS _ (seqS _ _ _ (blockS _ r))) (L 0 _ _ (Nat.zero_le _) ?_ (by omega)) ?_
        · simp (config := {maxSteps := 1000000, maxDischargeDepth := 9, implicitDefEqProofs := false}) [stepsH, hR0]
          exact ⟨htv, hvt, (Ext.new h _).trans_new _, (hf.new _).new _, rfl⟩
        · rintro x e' H ⟨rfl, hn, h2, h3, hE, hF, hnx, g0, g1⟩
          have hpl := hbOf_length s
          have hfin : hashF s = outB (pressF (hbOf s) (padB (s.drop (64 * kOf s.length))) (64 * (kOf s.length : Int) + ((s.drop (64 * kOf s.length)).length : Int)) true) 8 := rfl
          rw [hfin]
          have hwr := pressF_range (hbOf s) (padB (s.drop (64 * kOf s.length))) (64 * (kOf s.length : Int) + ((s.drop (64 * kOf s.length)).length : Int)) true hpl
          have hwl : (pressF (hbOf s) (padB (s.drop (64 * kOf s.length))) (64 * (kOf s.length : Int) + ((s.drop (64 * kOf s.length)).length : Int)) true).length = 8 := by rw [pressF_length]; exact hpl
          generalize pressF (hbOf s) (padB (s.drop (64 * kOf s.length))) (64 * (kOf s.length : Int) + ((s.drop (64 * kOf s.length)).length : Int)) true = w at *
          have hT : GT h R0 w H.next (List.replicate 32 (.int .u8 0)) (H.new (.cells (List.replicate 32 (.int .u8 0)) 25 1 true)) := by
            refine ⟨hE.trans_new _, hF.new _, hnx, by simp, ?_, ?_, ?_⟩
            · rw [Heap.get_new, if_neg (by omega)]; exact g0
            · rw [Heap.get_new, if_neg (by omega)]; exact g1
            · rw [Heap.get_new, if_pos rfl]
          simp (config := {maxSteps := 1000000, maxDischargeDepth := 9, implicitDefEqProofs := false}) [hn, h2, h3]
          refine loop_thenE (K := fun r => finS _ (seqS _ _ _ (blockS _ r))) (sumR_out cf hPut N (by omega) h R0 w H.next hwl hwr _ _ ?_ ?_ ?_ ?_ hT) ?_
          · simp (config := {maxSteps := 1000000, maxDischargeDepth := 9, implicitDefEqProofs := false}) [hn]
          · simp (config := {maxSteps := 1000000, maxDischargeDepth := 9, implicitDefEqProofs := false}) [hn]
          · simp (config := {maxSteps := 1000000, maxDischargeDepth := 9, implicitDefEqProofs := false}) [hn, h3]
          · simp (config := {maxSteps := 1000000, maxDischargeDepth := 9, implicitDefEqProofs := false}) [hn]
          · rintro x H2 ⟨rfl, hT2⟩
            have gp := hT2.gp
            have gr := hT2.g0
            have hol : (outB w 8).length = 32 := outB_length w 8
            generalize outB w 8 = ob at *
            have tb : (bytesOf ob).take 32 = bytesOf ob := List.take_of_length_le (by rw [bytesOf_length]; omega)
            have hov32 : over R0 0 (bytesOf ob) = bytesOf ob := by
              unfold over
              rw [hR0, bytesOf_length, hol, List.drop_eq_nil_of_le (by simp)]; simp
            simp (config := {maxSteps := 1000000, maxDischargeDepth := 9, implicitDefEqProofs := false}) [hn, h2, c18_l6_wr, gp, gr, hol, tb, hov32, hR0l, mem_bytes_one, -over]
            exact Canon.keep hf hsc (hT2.ext.trans_set (Nat.le_refl _) _) (flat_aggB _ _)
      · cases hs
    · cases hs
  · cases hs

theorem eqInts_same : ∀ s : List Nat, eqInts (bytesOf s) (bytesOf s) = some true
  | [] => rfl
  | x :: s => by
    have h := eqInts_same s
    simp only [bytesOf] at h ⊢
    simp only [List.map_cons, eqInts, if_true]
    first
      | (rw [h]; done)
      | (rw [h]; simp; done)
theorem eqArrS_same {h : Heap} {n : Nat} {s : List Nat} (hs : s.length = n) : eqArrS false n (.agg (bytesOf s)) (.agg (bytesOf s)) h = some (.bool true, h) := by
  simp only [eqArrS, bytesOf_length, hs, and_self, if_true, eqInts_same, Option.map_some, Bool.false_eq_true, if_false]
theorem isHash_gap {H : Heap} {p tt : Nat} {s : List Nat} (hh : isHash H p tt s) (n : Nat) : isHash (H.gap n) p tt s := hh
theorem isHash_keep {H H' : Heap} {p tt : Nat} {s : List Nat} (hh : isHash H p tt s) (hF : Fresh H) (hE : Ext H H') : isHash H' p tt s := by
  obtain ⟨vr, h1, h2⟩ := hh
  exact ⟨vr, hE.get hF h1, slB_ext hE hF h2⟩
theorem isHash_lt {H : Heap} {p tt : Nat} {s : List Nat} (hh : isHash H p tt s) (hF : Fresh H) : p < H.next := by
  obtain ⟨vr, h1, _⟩ := hh
  exact hF.lt h1
theorem sl_at {H : Heap} {q t n : Nat} {c : Option Nat} {own : Bool} {cs : List V} (hq : H.get q = some (.cells cs t 1 own)) (hl : cs.length = n) (hc : c = none ∨ c = some n) : sl H 1 (.slice q 0 n c) = some cs := by
  have hw : wfS H 1 (.slice q 0 n c) = true := by rcases hc with rfl | rfl <;> simp [wfS, hq, hl]
  unfold sl
  rw [if_pos hw]
  simp only [rd, Nat.mul_one]
  unfold Heap.read
  by_cases hn : n = 0
  · subst hn
    have : cs = [] := List.length_eq_zero_iff.1 hl
    rw [this, if_pos rfl]
  · rw [if_neg hn, hq]
    simp only [Nat.zero_add]
    rw [if_pos (by omega), List.drop_zero, List.take_of_length_le (by omega)]

def xr (c : Nat) (p : List Nat) : Nat → List Nat
  | 0 => p
  | i + 1 => (xr c p i).set i ((xr c p i).getD i 0 ^^^ c)
theorem xr_length (c : Nat) (p : List Nat) : ∀ i, (xr c p i).length = p.length
  | 0 => rfl
  | i + 1 => by simp only [xr, List.length_set, xr_length c p i]
theorem kx_lt {x y : Nat} (hx : x < 256) (hy : y < 256) : x ^^^ y < 256 := Nat.xor_lt_two_pow (n := 8) hx hy
theorem kx8 {x y : Nat} (hx : x < 256) (hy : y < 256) : wrapF .u8 (((((x : Int) % 256).toNat ^^^ y : Nat)) : Int) = ((x ^^^ y : Nat) : Int) := by
  have h1 : ((x : Int) % 256).toNat = x := by omega
  rw [h1]
  have := kx_lt hx hy
  exact wrap_u8 (by omega) (by omega)
theorem getD_lt {p : List Nat} (hp : ∀ y ∈ p, y < 256) (i : Nat) : p.getD i 0 < 256 := by
  rw [List.getD_eq_getElem?_getD]
  cases h : p[i]? with
  | none => simp
  | some y => simpa using hp y (List.mem_of_getElem? h)
theorem xr_lt {c : Nat} (hc : c < 256) {p : List Nat} (hp : ∀ y ∈ p, y < 256) : ∀ i, ∀ y ∈ xr c p i, y < 256
  | 0 => hp
  | i + 1 => by
    intro y hy
    simp only [xr] at hy
    rcases List.mem_or_eq_of_mem_set hy with hy | rfl
    · exact xr_lt hc hp i y hy
    · exact kx_lt (getD_lt (xr_lt hc hp i) i) hc
theorem over_byte (s : List Nat) (q z : Nat) (hq : q < s.length) : over (bytesOf s) q [V.int .u8 (z : Int)] = bytesOf (s.set q z) := by
  rw [over_set _ _ _ (by rw [bytesOf_length]; exact hq)]
  simp [bytesOf, List.map_set]
def keyF (k : List Nat) : List Nat := if k.length > 64 then hashF k else k
theorem keyF_length (k : List Nat) : (keyF k).length ≤ 64 := by
  unfold keyF
  split
  · rw [hashF_length]; omega
  · omega
theorem keyF_lt {k : List Nat} (h : ∀ y ∈ k, y < 256) : ∀ y ∈ keyF k, y < 256 := by
  unfold keyF
  split
  · exact hashF_lt k
  · exact h
def hmacK (k t : List Nat) : List Nat := hashF (xr 92 (padB k) 64 ++ hashF (xr 54 (padB k) 64 ++ t))
def hmacF (k t : List Nat) : List Nat := hmacK (keyF k) t
theorem hmacK_length (k t : List Nat) : (hmacK k t).length = 32 := hashF_length _
theorem hmacK_lt (k t : List Nat) : ∀ y ∈ hmacK k t, y < 256 := hashF_lt _
theorem padB_ltK {r : List Nat} (h : ∀ y ∈ r, y < 256) : ∀ y ∈ padB r, y < 256 := fun y hy => by
  rcases List.mem_append.1 hy with hy | hy
  · exact h y hy
  · have := (List.mem_replicate.1 hy).2; omega
/-- The two rows of a key. -/
structure GK (h : Heap) (q1 q2 nx : Nat) (a b : List Nat) (H : Heap) : Prop where
  ext : Ext h H
  fresh : Fresh H
  h1 : h.next ≤ q1
  h2 : q1 < q2
  next : q2 < H.next
  nx : H.next = nx
  ga : H.get q1 = some (.cells (bytesOf a) 5 1 true)
  gb : H.get q2 = some (.cells (bytesOf b) 5 1 true)
theorem GK.setA {h H : Heap} {q1 q2 nx : Nat} {a b : List Nat} (g : GK h q1 q2 nx a b H) (w : List Nat) : GK h q1 q2 nx w b (H.set q1 (some (.cells (bytesOf w) 5 1 true))) := by
  have := g.h1; have := g.h2; have := g.next
  refine ⟨g.ext.trans_set (by omega) _, g.fresh.set (by omega) _, g.h1, g.h2, by simpa using g.next, by simpa using g.nx, ?_, ?_⟩
  · rw [Heap.get_set, if_pos rfl]
  · rw [Heap.get_set, if_neg (by omega)]; exact g.gb
theorem GK.setB {h H : Heap} {q1 q2 nx : Nat} {a b : List Nat} (g : GK h q1 q2 nx a b H) (w : List Nat) : GK h q1 q2 nx a w (H.set q2 (some (.cells (bytesOf w) 5 1 true))) := by
  have := g.h1; have := g.h2; have := g.next
  refine ⟨g.ext.trans_set (by omega) _, g.fresh.set (by omega) _, g.h1, g.h2, by simpa using g.next, by simpa using g.nx, ?_, ?_⟩
  · rw [Heap.get_set, if_neg (by omega)]; exact g.ga
  · rw [Heap.get_set, if_pos rfl]
theorem GK.copyA {h H : Heap} {q1 q2 nx : Nat} {a b : List Nat} (g : GK h q1 q2 nx a b H) (w : List Nat) (r : List Nat) (hw : r = [] → w = a) : GK h q1 q2 nx w b (if r = [] then H else H.set q1 (some (.cells (bytesOf w) 5 1 true))) := by
  split
  · rename_i h0; rw [hw h0]; exact g
  · exact g.setA w
theorem GK.copyB {h H : Heap} {q1 q2 nx : Nat} {a b : List Nat} (g : GK h q1 q2 nx a b H) (w : List Nat) (r : List Nat) (hw : r = [] → w = b) : GK h q1 q2 nx a w (if r = [] then H else H.set q2 (some (.cells (bytesOf w) 5 1 true))) := by
  split
  · rename_i h0; rw [hw h0]; exact g
  · exact g.setB w
theorem over_padB {r : List Nat} (hr : r.length ≤ 64) : over (List.replicate 64 (.int .u8 0)) 0 (bytesOf r) = bytesOf (padB r) := by
  have := over_fillL [] (bytesOf r) (.int .u8 0) (64 - r.length)
  rw [bytesOf_length, show r.length + (64 - r.length) = 64 from by omega] at this
  simp only [List.nil_append, List.length_nil] at this
  rw [this]
  unfold padB
  rw [bytesOf_append]
  simp [bytesOf]
theorem padB_nil : bytesOf (padB []) = List.replicate 64 (.int .u8 0) := rfl
theorem Hmac_loop (cf : ACall) (N : Nat) (hN : 65 ≤ N) (h : Heap) (q1 q2 nx : Nat) (a b : List Nat) (ha : a.length = 64) (hb : b.length = 64) (hla : ∀ y ∈ a, y < 256) (hlb : ∀ y ∈ b, y < 256) : ∀ e H0, e.n = 51 → e.at 6 = .slice q1 0 64 (some 64) → e.at 7 = .slice q2 0 64 (some 64) → e.at 26 = .int .i64 64 → e.at 27 = .int .i64 0 → GK h q1 q2 nx a b H0 →
    YtobnkgajgodioaaDoorA.Ends (execA cf N (.loop c9_l0) e H0) fun x e' H => x = .exit 0 ∧ GK h q1 q2 nx (xr 54 a 64) (xr 92 b 64) H := by
  intro e H0 hn h6 h7 h26 h27 hG0
  refine loop_count (cf := cf) (N := N) (c := c9_l0) 64
    (fun i e H => e.n = 51 ∧ e.at 6 = .slice q1 0 64 (some 64) ∧ e.at 7 = .slice q2 0 64 (some 64) ∧ e.at 26 = .int .i64 64 ∧ e.at 27 = .int .i64 (i : Int) ∧ GK h q1 q2 nx (xr 54 a i) (xr 92 b i) H)
    (fun x e' H => x = .exit 0 ∧ GK h q1 q2 nx (xr 54 a 64) (xr 92 b 64) H) ?_ ?_ 0 e _ (Nat.zero_le _) ⟨hn, h6, h7, h26, h27, hG0⟩ (by omega)
  · rintro i e H hi ⟨hn, h6, h7, h26, h27, hG⟩
    have ga := hG.ga
    have gb := hG.gb
    have h12 := hG.h2
    have hl1 := xr_length 54 a i
    have hl2 := xr_length 92 b i
    rw [ha] at hl1
    rw [hb] at hl2
    have hr1 : xr 54 a (i + 1) = (xr 54 a i).set i ((xr 54 a i).getD i 0 ^^^ 54) := rfl
    have hr2 : xr 92 b (i + 1) = (xr 92 b i).set i ((xr 92 b i).getD i 0 ^^^ 92) := rfl
    have ht1 := xr_lt (c := 54) (by omega) hla i
    have ht2 := xr_lt (c := 92) (by omega) hlb i
    generalize xr 54 a i = u at *
    generalize xr 92 b i = w at *
    have m1 : u[i]'(by omega) = u.getD i 0 := by rw [List.getD_eq_getElem?_getD, List.getElem?_eq_getElem (by omega)]; rfl
    have m2 : w[i]'(by omega) = w.getD i 0 := by rw [List.getD_eq_getElem?_getD, List.getElem?_eq_getElem (by omega)]; rfl
    rw [← m1] at hr1
    rw [← m2] at hr2
    have x1 := kx8 (y := 54) (ht1 (u[i]'(by omega)) (by simp)) (by omega)
    have x2 := kx8 (y := 92) (ht2 (w[i]'(by omega)) (by simp)) (by omega)
    have o1 := over_byte u i (u[i]'(by omega) ^^^ 54) (by omega)
    have o2 := over_byte w i (w[i]'(by omega) ^^^ 92) (by omega)
    have hset := (hG.setA (u.set i (u[i]'(by omega) ^^^ 54))).setB (w.set i (w[i]'(by omega) ^^^ 92))
    have hq1 : (q1 = q2) = False := eq_false (by omega)
    have hq2 : (q2 = q1) = False := eq_false (by omega)
    have hu : i < u.length := by omega
    have hw : i < w.length := by omega
    simp (config := {maxSteps := 1000000, maxDischargeDepth := 9, implicitDefEqProofs := false}) [c9_l0, hn, h6, h7, h26, h27, ga, gb, hq1, hq2, hi, hu, hw, hl1, hl2, show (i : Int) < 64 from by omega, modK, x1, x2, o1, o2, -over, Nat.succ_le_of_lt hi, wrap_i64 (x := (i : Int) + 1) (by omega) (by omega)]
    rw [hr1, hr2]
    exact hset
  · rintro e H ⟨hn, h6, h7, h26, h27, hG⟩
    simp (config := {maxSteps := 1000000, maxDischargeDepth := 9, implicitDefEqProofs := false}) [c9_l0, hn, h26, h27]
    exact hG

theorem Hmac_mid (cf : ACall) (hSum : ∀ a h, cf 17 a h = s_SumB a h) (H : Heap) (hF : Fresh H) (o : Nat) (R : List V) (k t : List Nat) (kv tv : V) (hk : k.length ≤ 64) (ht : t.length ≤ 140737488354000) (hkv : slB H kv = some k) (hkl : V.lt H.next kv) (htv : slB H tv = some t) (htl : V.lt H.next tv) (ho : H.get o = some (.cells R 25 1 true)) (hR : R = List.replicate 32 (.int .u8 0)) :
    ∀ e, e.n = 51 → e.at 0 = kv → e.at 1 = tv → e.at 4 = .ptr o 0 →
    Runs (finS [.cells 4 32] (execA cf 70 c9_s2 e H)) fun v H' => v = .agg (bytesOf (hmacK k t)) ∧ H.next ≤ H'.next ∧ ∀ b, b < H.next → b ≠ o → H'.get b = H.get b := by
  intro e hn h0 h1 h4
  have hop := hF.lt ho
  have hklt := slB_lt hkv
  obtain ⟨H1, hH1⟩ : ∃ H1, H1 = ((H.gap 4).set H.next (some (.cells (List.replicate 64 (.int .u8 0)) 5 1 true))).set (H.next + 1) (some (.cells (List.replicate 64 (.int .u8 0)) 5 1 true)) := ⟨_, rfl⟩
  have g1 : GK H H.next (H.next + 1) (H.next + 4) (padB []) (padB []) H1 := by
    have hE : Ext H H1 := by rw [hH1]; exact ((Ext.gap H 4).trans_set (Nat.le_refl _) _).trans_set (by omega) _
    have hF1 : Fresh H1 := by rw [hH1]; exact (hF.gap.set (by simp [next_gap]) _).set (by simp [next_gap]) _
    refine ⟨hE, hF1, Nat.le_refl _, by omega, by rw [hH1]; simp [next_gap], by rw [hH1]; rfl, ?_, ?_⟩
    · rw [hH1, Heap.get_set, if_neg (by omega), Heap.get_set, if_pos rfl, padB_nil]
    · rw [hH1, Heap.get_set, if_pos rfl, padB_nil]
  have z64 : (List.replicate 64 (V.int .u8 0)).length = 64 := by simp
  have c1 := copy_from (H := H1) (p := H.next) (o := 0) (n := 64) (c := some 64) (Q := List.replicate 64 (.int .u8 0)) (t := 5) (by rw [g1.ga, padB_nil]) (slB_ext g1.ext hF hkv) hk (by rw [z64]; omega)
  rw [over_padB hk] at c1
  have g2 := g1.copyA (padB k) k (fun h => by rw [h])
  generalize hH2 : (if k = [] then H1 else H1.set H.next (some (.cells (bytesOf (padB k)) 5 1 true))) = H2 at c1 g2
  have c2 := copy_from (H := H2) (p := H.next + 1) (o := 0) (n := 64) (c := some 64) (Q := List.replicate 64 (.int .u8 0)) (t := 5) (by rw [g2.gb, padB_nil]) (slB_ext g2.ext hF hkv) hk (by rw [z64]; omega)
  rw [over_padB hk] at c2
  have g3 := g2.copyB (padB k) k (fun h => by rw [h])
  generalize hH3 : (if k = [] then H2 else H2.set (H.next + 1) (some (.cells (bytesOf (padB k)) 5 1 true))) = H3 at c2 g3
  have hpl := padB_length hk
  have hb0 : ∀ n, (bare0 n).next = n := fun _ => rfl
  have hpn : (H.next = H.next + 1) = False := eq_false (by omega)
  simp (config := {maxSteps := 1000000, maxDischargeDepth := 9, implicitDefEqProofs := false}) [c9_s2, hn, h0, h1, h4, -List.reduceReplicate, hb0, ← hH1, c1, c2]
  refine loop_thenE (K := fun r => finS _ (seqS _ _ _ (blockS _ r))) (Hmac_loop cf 70 (by omega) H H.next (H.next + 1) (H.next + 4) (padB k) (padB k) hpl hpl (padB_ltK hklt) (padB_ltK hklt) _ _ ?_ ?_ ?_ ?_ ?_ g3) ?_
  · simp (config := {maxSteps := 1000000, maxDischargeDepth := 9, implicitDefEqProofs := false}) [hn]
  · simp (config := {maxSteps := 1000000, maxDischargeDepth := 9, implicitDefEqProofs := false}) [hn]
  · simp (config := {maxSteps := 1000000, maxDischargeDepth := 9, implicitDefEqProofs := false}) [hn]
  · simp (config := {maxSteps := 1000000, maxDischargeDepth := 9, implicitDefEqProofs := false}) [hn]
  · simp (config := {maxSteps := 1000000, maxDischargeDepth := 9, implicitDefEqProofs := false}) [hn]
  rintro x H4 ⟨rfl, g4⟩
  have hmk : hmacK k t = hashF (xr 92 (padB k) 64 ++ hashF (xr 54 (padB k) 64 ++ t)) := rfl
  rw [hmk]
  have hal := xr_length 54 (padB k) 64
  have hbl := xr_length 92 (padB k) 64
  rw [hpl] at hal hbl
  have halt := xr_lt (c := 54) (by omega) (padB_ltK hklt) 64
  have hblt := xr_lt (c := 92) (by omega) (padB_ltK hklt) 64
  generalize xr 54 (padB k) 64 = a at *
  generalize xr 92 (padB k) 64 = b at *
  have hn4 := g4.nx
  have sa := slB_at (o := 0) (n := 64) (c := some 64) g4.ga halt (by omega) (.inr rfl)
  rw [List.drop_zero, List.take_of_length_le (by omega)] at sa
  have sb := slB_at (o := 0) (n := 64) (c := some 64) g4.gb hblt (by omega) (.inr rfl)
  rw [List.drop_zero, List.take_of_length_le (by omega)] at sb
  have st := slB_ext g4.ext hF htv
  have stl : V.lt H4.next tv := V.lt_mono g4.ext.1 tv htl
  have htlk := lt_add htl
  have go := (g4.ext.2 o hop).trans ho
  have hvt := slB_isSl htv
  have oneT : tv.one = true := by cases tv <;> first | rfl | (simp [isSl] at hvt)
  have cT : tv.cells = [tv] := by cases tv <;> first | rfl | (simp [isSl] at hvt)
  have hov1 : over [V.nilslice, V.nilslice] 0 [.slice H.next 0 64 (some 64)] = [.slice H.next 0 64 (some 64), V.nilslice] := rfl
  have hov2 : over [.slice H.next 0 64 (some 64), V.nilslice] 1 [tv] = [.slice H.next 0 64 (some 64), tv] := rfl
  have s1l := hashF_length (a ++ t)
  have s1t := hashF_lt (a ++ t)
  have s2l : ∀ s, (hashF s).length = 32 := hashF_length
  generalize hs1 : hashF (a ++ t) = s1 at *
  have hsv : ∀ (H : Heap) (b n : Nat), sliceV H 1 (.slice b 0 n (some n)) none none none = some (.slice b 0 n (some n)) := fun H b n => by simp [sliceV, bounds, maxOf, highOf, lowOf]
  have hov3 : over [V.nilslice, V.nilslice] 0 [.slice (H.next + 1) 0 64 (some 64)] = [.slice (H.next + 1) 0 64 (some 64), V.nilslice] := rfl
  have hov4 : over [.slice (H.next + 1) 0 64 (some 64), V.nilslice] 1 [.slice (H.next + 5) 0 32 (some 32)] = [.slice (H.next + 1) 0 64 (some 64), .slice (H.next + 5) 0 32 (some 32)] := rfl
  have hovR : ∀ s : List Nat, s.length = 32 → over R 0 (bytesOf s) = bytesOf s := fun s hs => by
    unfold over; rw [hR]; simp [bytesOf_length, hs]
  have o4 : (o = H.next + 4) = False := eq_false (by omega)
  have o5 : (o = H.next + 5) = False := eq_false (by omega)
  have o6 : (o = H.next + 6) = False := eq_false (by omega)
  have htbR : (bytesOf (hashF (b ++ s1))).take 32 = bytesOf (hashF (b ++ s1)) := List.take_of_length_le (by rw [bytesOf_length, s2l]; omega)
  have hat : 64 + t.length ≤ 140737488354304 := by omega
  have hRl : R.length = 32 := by rw [hR]; simp
  have hoz : over [V.int .u8 0, .int .u8 0, .int .u8 0, .int .u8 0, .int .u8 0, .int .u8 0, .int .u8 0, .int .u8 0, .int .u8 0, .int .u8 0, .int .u8 0, .int .u8 0, .int .u8 0, .int .u8 0, .int .u8 0, .int .u8 0, .int .u8 0, .int .u8 0, .int .u8 0, .int .u8 0, .int .u8 0, .int .u8 0, .int .u8 0, .int .u8 0, .int .u8 0, .int .u8 0, .int .u8 0, .int .u8 0, .int .u8 0, .int .u8 0, .int .u8 0, .int .u8 0] 0 (bytesOf s1) = bytesOf s1 := by
    unfold over; simp [bytesOf_length, s1l]
  simp (config := {maxSteps := 1000000, maxDischargeDepth := 9, implicitDefEqProofs := false}) [hn, h1, h4, hn4, c9_l0_wr, hSum, s_SumB, oneT, cT, hov1, hov2, sa, sb, st, htl, htlk, hal, hbl, hat, hs1, s1l, hoz, mem_bytes_one, asB_bytesOf s1t, hsv, hov3, hov4, s2l, go, hRl, hovR, o4, o5, o6, htbR, -over]
  intro b' hb' hbo
  rw [if_neg (by omega), if_neg (by omega), if_neg (by omega), if_neg hbo]
  exact g4.ext.2 b' hb'

theorem runs_imp {r : Option (V × Heap)} {Q Q' : V → Heap → Prop} (hr : Runs r Q) (hq : ∀ v h, Q v h → Q' v h) : Runs r Q' := by
  obtain ⟨v, h, h1, h2⟩ := hr
  exact ⟨v, h, h1, hq v h h2⟩
theorem mid_ext {h K H' : Heap} {o : Nat} (hE : Ext h K) (ho : h.next ≤ o) (hn : K.next ≤ H'.next) (hk : ∀ b, b < K.next → b ≠ o → H'.get b = K.get b) : Ext h H' := by
  refine ⟨Nat.le_trans hE.1 hn, fun b hb => ?_⟩
  rw [hk b (Nat.lt_of_lt_of_le hb hE.1) (by omega)]
  exact hE.2 b hb
def tlim : Nat := 140737488354000
/-- kdf.Hmac. -/
def s_Hmac : List V → Heap → Option (V × Heap)
  | [vk, vt], h => match slB h vk, slB h vt with
    | some k, some t => if k.length ≤ tlim ∧ t.length ≤ tlim then some (.agg (bytesOf (hmacF k t)), h) else none
    | _, _ => none
  | _, _ => none
theorem Hmac_ok (cf : ACall) (hSum : ∀ a h, cf 17 a h = s_SumB a h) : Sum cf c9 s_Hmac := by
  intro args h v h' hf hsc hlt hs
  unfold s_Hmac at hs
  split at hs
  · rename_i vk vt
    split at hs
    · rename_i k t hk ht
      split at hs
      · rename_i hl
        obtain ⟨hl1, hl2⟩ := hl
        have htl : tlim = 140737488354000 := rfl
        rw [htl] at hl1 hl2
        simp only [Option.some.injEq, Prod.mk.injEq] at hs
        obtain ⟨rfl, rfl⟩ := hs
        have hvk : V.lt h.next vk := by simp only [ltL] at hlt; exact hlt.1
        have hvt : V.lt h.next vt := by simp only [ltL] at hlt; exact hlt.2.1
        have hklt := slB_lt hk
        have hvl := slB_vlen hk
        have hsl := slB_isSl hk
        obtain ⟨R, hR⟩ : ∃ R : List V, R = List.replicate 32 (.int .u8 0) := ⟨_, rfl⟩
        have hRlit : ([V.int .u8 0, V.int .u8 0, V.int .u8 0, V.int .u8 0, V.int .u8 0, V.int .u8 0, V.int .u8 0, V.int .u8 0, V.int .u8 0, V.int .u8 0, V.int .u8 0, V.int .u8 0, V.int .u8 0, V.int .u8 0, V.int .u8 0, V.int .u8 0, V.int .u8 0, V.int .u8 0, V.int .u8 0, V.int .u8 0, V.int .u8 0, V.int .u8 0, V.int .u8 0, V.int .u8 0, V.int .u8 0, V.int .u8 0, V.int .u8 0, V.int .u8 0, V.int .u8 0, V.int .u8 0, V.int .u8 0, V.int .u8 0] : List V) = R := by rw [hR]; rfl
        refine ⟨70, ?_⟩
        by_cases hc : k.length > 64
        · have hkF : hmacF k t = hmacK (hashF k) t := by unfold hmacF keyF; rw [if_pos hc]
          have hc1 : (64 : Int) < (k.length : Int) := by omega
          have hsk : slB (h.new (.cells R 25 1 true)) vk = some k := by rw [slB_new _ hvk]; exact hk
          have hkm := lt_add hvk
          have onek : vk.one = true := by cases vk <;> first | rfl | (simp [isSl] at hsl)
          have ck : vk.cells = [vk] := by cases vk <;> first | rfl | (simp [isSl] at hsl)
          have h32 := hashF_length k
          have h32t := hashF_lt k
          have hkl : k.length ≤ 140737488354304 := by omega
          have hfl : [k].flatten = k := by simp
          rw [hkF]
          generalize hgk : hashF k = hk' at *
          have hov32 : over R 0 (bytesOf hk') = bytesOf hk' := by
            unfold over; rw [hR]; simp [bytesOf_length, h32]
          have hRl : R.length = 32 := by rw [hR]; simp
          have hsv : ∀ (H : Heap) (b n : Nat), sliceV H 1 (.slice b 0 n (some n)) none none none = some (.slice b 0 n (some n)) := fun H b n => by simp [sliceV, bounds, maxOf, highOf, lowOf]
          have hov1 : over [V.nilslice] 0 [vk] = [vk] := rfl
          simp (config := {maxSteps := 1000000, maxDischargeDepth := 9, implicitDefEqProofs := false}) [c9, hRlit, hsl, hvl, hc, hc1, hSum, s_SumB, onek, ck, hk, hvk, hkm, hkl, hfl, hov1, hgk, h32, hRl, hov32, hsv, mem_bytes_one, -over]
          refine runs_imp (Hmac_mid cf hSum (((h.new (.cells R 25 1 true)).new (.cells [vk] 27 1 true)).new (.cells (bytesOf hk') 25 1 true)) (((hf.new _).new _).new _) h.next R hk' t (.slice (h.next + 2) 0 32 (some 32)) vt (by omega) hl2 ?_ ?_ ?_ (lt_add hvt 3) ?_ hR _ ?_ ?_ ?_ ?_) ?_
          · have hb := slB_at (H := ((h.new (.cells R 25 1 true)).new (.cells [vk] 27 1 true)).new (.cells (bytesOf hk') 25 1 true)) (q := h.next + 2) (o := 0) (n := 32) (c := some 32) (own := true) (t := 25) (all := hk') (by rw [Heap.get_new]; exact if_pos rfl) h32t (by omega) (.inr rfl)
            rw [List.drop_zero, List.take_of_length_le (by omega)] at hb
            exact hb
          · simp [V.lt]
          · rw [slB_new _ (lt_add hvt 2), slB_new _ (lt_add hvt 1), slB_new _ hvt]; exact ht
          · rw [Heap.get_new, if_neg (by simp <;> omega), Heap.get_new, if_neg (by simp), Heap.get_new]; exact if_pos rfl
          iterate 4 simp (config := {maxSteps := 1000000, maxDischargeDepth := 9, implicitDefEqProofs := false})
          rintro v H' ⟨rfl, hn', hkk'⟩
          exact Canon.keep hf hsc (mid_ext (((Ext.new h _).trans_new _).trans_new _) (Nat.le_refl _) hn' hkk') (flat_aggB _ _)
        · have hkF : hmacF k t = hmacK k t := by unfold hmacF keyF; rw [if_neg hc]
          have hc1 : ((64 : Int) < (k.length : Int)) = False := by simp; omega
          have hc2 : (64 < k.length) = False := by simp; omega
          rw [hkF]
          simp (config := {maxSteps := 1000000, maxDischargeDepth := 9, implicitDefEqProofs := false}) [c9, hRlit, hsl, hvl, hc1, hc2]
          refine runs_imp (Hmac_mid cf hSum (h.new (.cells R 25 1 true)) (hf.new _) h.next R k t vk vt (by omega) hl2 (by rw [slB_new _ hvk]; exact hk) (lt_add hvk 1) (by rw [slB_new _ hvt]; exact ht) (lt_add hvt 1) (by rw [Heap.get_new]; exact if_pos rfl) hR _ ?_ ?_ ?_ ?_) ?_
          iterate 4 simp (config := {maxSteps := 1000000, maxDischargeDepth := 9, implicitDefEqProofs := false})
          rintro v H' ⟨rfl, hn', hk'⟩
          exact Canon.keep hf hsc (mid_ext (Ext.new h _) (Nat.le_refl _) hn' hk') (flat_aggB _ _)
      · cases hs
    · cases hs
  · cases hs

theorem HmacR_loop (cf : ACall) (N : Nat) (hN : 65 ≤ N) (h : Heap) (q1 q2 nx : Nat) (a b : List Nat) (ha : a.length = 64) (hb : b.length = 64) (hla : ∀ y ∈ a, y < 256) (hlb : ∀ y ∈ b, y < 256) : ∀ e H0, e.n = 52 → e.at 6 = .slice q1 0 64 (some 64) → e.at 7 = .slice q2 0 64 (some 64) → e.at 8 = .int .i64 0 → GK h q1 q2 nx a b H0 →
    YtobnkgajgodioaaDoorA.Ends (execA cf N (.loop c13_l0) e H0) fun x e' H => x = .exit 0 ∧ GK h q1 q2 nx (xr 54 a 64) (xr 92 b 64) H := by
  intro e H0 hn h6 h7 h8 hG0
  refine loop_count (cf := cf) (N := N) (c := c13_l0) 64
    (fun i e H => e.n = 52 ∧ e.at 6 = .slice q1 0 64 (some 64) ∧ e.at 7 = .slice q2 0 64 (some 64) ∧ e.at 8 = .int .i64 (i : Int) ∧ GK h q1 q2 nx (xr 54 a i) (xr 92 b i) H)
    (fun x e' H => x = .exit 0 ∧ GK h q1 q2 nx (xr 54 a 64) (xr 92 b 64) H) ?_ ?_ 0 e _ (Nat.zero_le _) ⟨hn, h6, h7, h8, hG0⟩ (by omega)
  · rintro i e H hi ⟨hn, h6, h7, h8, hG⟩
    have ga := hG.ga
    have gb := hG.gb
    have h12 := hG.h2
    have hl1 := xr_length 54 a i
    have hl2 := xr_length 92 b i
    rw [ha] at hl1
    rw [hb] at hl2
    have hr1 : xr 54 a (i + 1) = (xr 54 a i).set i ((xr 54 a i).getD i 0 ^^^ 54) := rfl
    have hr2 : xr 92 b (i + 1) = (xr 92 b i).set i ((xr 92 b i).getD i 0 ^^^ 92) := rfl
    have ht1 := xr_lt (c := 54) (by omega) hla i
    have ht2 := xr_lt (c := 92) (by omega) hlb i
    generalize xr 54 a i = u at *
    generalize xr 92 b i = w at *
    have m1 : u[i]'(by omega) = u.getD i 0 := by rw [List.getD_eq_getElem?_getD, List.getElem?_eq_getElem (by omega)]; rfl
    have m2 : w[i]'(by omega) = w.getD i 0 := by rw [List.getD_eq_getElem?_getD, List.getElem?_eq_getElem (by omega)]; rfl
    rw [← m1] at hr1
    rw [← m2] at hr2
    have x1 := kx8 (y := 54) (ht1 (u[i]'(by omega)) (by simp)) (by omega)
    have x2 := kx8 (y := 92) (ht2 (w[i]'(by omega)) (by simp)) (by omega)
    have o1 := over_byte u i (u[i]'(by omega) ^^^ 54) (by omega)
    have o2 := over_byte w i (w[i]'(by omega) ^^^ 92) (by omega)
    have hset := (hG.setA (u.set i (u[i]'(by omega) ^^^ 54))).setB (w.set i (w[i]'(by omega) ^^^ 92))
    have hq1 : (q1 = q2) = False := eq_false (by omega)
    have hq2 : (q2 = q1) = False := eq_false (by omega)
    have hu : i < u.length := by omega
    have hw : i < w.length := by omega
    simp (config := {maxSteps := 1000000, maxDischargeDepth := 9, implicitDefEqProofs := false}) [c13_l0, hn, h6, h7, h8, ga, gb, hq1, hq2, hi, hu, hw, hl1, hl2, show (i : Int) < 64 from by omega, modK, x1, x2, o1, o2, -over, Nat.succ_le_of_lt hi, wrap_i64 (x := (i : Int) + 1) (by omega) (by omega)]
    rw [hr1, hr2]
    exact hset
  · rintro e H ⟨hn, h6, h7, h8, hG⟩
    simp (config := {maxSteps := 1000000, maxDischargeDepth := 9, implicitDefEqProofs := false}) [c13_l0, hn, h8]
    exact hG

theorem HmacR_mid (cf : ACall) (hSum : ∀ a h, cf 18 a h = s_SumR a h) (H : Heap) (hF : Fresh H) (htab : hasTabs H) (o : Nat) (R : List V) (k t : List Nat) (kv tv : V) (hk : k.length ≤ 64) (ht : t.length ≤ 140737488354000) (hkv : slB H kv = some k) (hkl : V.lt H.next kv) (htv : slB H tv = some t) (htl : V.lt H.next tv) (ho : H.get o = some (.cells R 25 1 true)) (hR : R = List.replicate 32 (.int .u8 0)) :
    ∀ e, e.n = 52 → e.at 0 = kv → e.at 1 = tv → e.at 4 = .ptr o 0 →
    Runs (finS [.cells 4 32] (execA cf 70 c13_s2 e H)) fun v H' => v = .agg (bytesOf (hmacK k t)) ∧ H.next ≤ H'.next ∧ ∀ b, b < H.next → b ≠ o → H'.get b = H.get b := by
  intro e hn h0 h1 h4
  have hop := hF.lt ho
  have hklt := slB_lt hkv
  obtain ⟨H1, hH1⟩ : ∃ H1, H1 = (H.new (.cells (List.replicate 64 (.int .u8 0)) 5 1 true)).new (.cells (List.replicate 64 (.int .u8 0)) 5 1 true) := ⟨_, rfl⟩
  have g1 : GK H H.next (H.next + 1) (H.next + 2) (padB []) (padB []) H1 := by
    refine ⟨by rw [hH1]; exact (Ext.new H _).trans_new _, by rw [hH1]; exact (hF.new _).new _, Nat.le_refl _, by omega, by rw [hH1]; simp, by rw [hH1]; rfl, ?_, ?_⟩
    · rw [hH1, Heap.get_new, if_neg (by simp), Heap.get_new, if_pos rfl, padB_nil]
    · rw [hH1, Heap.get_new, if_pos (by simp), padB_nil]
  have z64 : (List.replicate 64 (V.int .u8 0)).length = 64 := by simp
  have c1 := copy_from (H := H1) (p := H.next) (o := 0) (n := 64) (c := some 64) (Q := List.replicate 64 (.int .u8 0)) (t := 5) (by rw [g1.ga, padB_nil]) (slB_ext g1.ext hF hkv) hk (by rw [z64]; omega)
  rw [over_padB hk] at c1
  have g2 := g1.copyA (padB k) k (fun h => by rw [h])
  generalize hH2 : (if k = [] then H1 else H1.set H.next (some (.cells (bytesOf (padB k)) 5 1 true))) = H2 at c1 g2
  have c2 := copy_from (H := H2) (p := H.next + 1) (o := 0) (n := 64) (c := some 64) (Q := List.replicate 64 (.int .u8 0)) (t := 5) (by rw [g2.gb, padB_nil]) (slB_ext g2.ext hF hkv) hk (by rw [z64]; omega)
  rw [over_padB hk] at c2
  have g3 := g2.copyB (padB k) k (fun h => by rw [h])
  generalize hH3 : (if k = [] then H2 else H2.set (H.next + 1) (some (.cells (bytesOf (padB k)) 5 1 true))) = H3 at c2 g3
  have hpl := padB_length hk
  simp (config := {maxSteps := 1000000, maxDischargeDepth := 9, implicitDefEqProofs := false}) [c13_s2, hn, h0, h1, h4, -List.reduceReplicate, ← hH1, c1, c2]
  refine loop_thenE (K := fun r => finS _ (seqS _ _ _ (blockS _ r))) (HmacR_loop cf 70 (by omega) H H.next (H.next + 1) (H.next + 2) (padB k) (padB k) hpl hpl (padB_ltK hklt) (padB_ltK hklt) _ _ ?_ ?_ ?_ ?_ g3) ?_
  · simp (config := {maxSteps := 1000000, maxDischargeDepth := 9, implicitDefEqProofs := false}) [hn]
  · simp (config := {maxSteps := 1000000, maxDischargeDepth := 9, implicitDefEqProofs := false}) [hn]
  · simp (config := {maxSteps := 1000000, maxDischargeDepth := 9, implicitDefEqProofs := false}) [hn]
  · simp (config := {maxSteps := 1000000, maxDischargeDepth := 9, implicitDefEqProofs := false}) [hn]
  rintro x H4 ⟨rfl, g4⟩
  have hmk : hmacK k t = hashF (xr 92 (padB k) 64 ++ hashF (xr 54 (padB k) 64 ++ t)) := rfl
  rw [hmk]
  have hal := xr_length 54 (padB k) 64
  have hbl := xr_length 92 (padB k) 64
  rw [hpl] at hal hbl
  have halt := xr_lt (c := 54) (by omega) (padB_ltK hklt) 64
  have hblt := xr_lt (c := 92) (by omega) (padB_ltK hklt) 64
  generalize xr 54 (padB k) 64 = a at *
  generalize xr 92 (padB k) 64 = b at *
  have hn4 := g4.nx
  have st := slB_ext g4.ext hF htv
  have stl : V.lt H4.next tv := V.lt_mono g4.ext.1 tv htl
  have go := (g4.ext.2 o hop).trans ho
  have s1l := hashF_length (a ++ t)
  have s1t := hashF_lt (a ++ t)
  have s2l : ∀ s, (hashF s).length = 32 := hashF_length
  generalize hs1 : hashF (a ++ t) = s1 at *
  have oa : OwnB H H4 5 (.slice H.next 0 64 (some 64)) a := .inr ⟨H.next, some 64, by rw [hal], .inr (by rw [hal]), Nat.le_refl _, by have := g4.next; omega, by rw [bytesOf_length]; omega, g4.ga⟩
  obtain ⟨va, Ha, p1, p2, p3, p4, p5, p6, p7⟩ := oa.app g4.ext g4.fresh (slB_added st) (by rw [hal]; have : lim = 140737488354304 := rfl; omega)
  have oalt : ∀ y ∈ a ++ t, y < 256 := fun y hy => by
    rcases List.mem_append.1 hy with hy | hy
    · exact halt y hy
    · exact slB_lt htv y hy
  have sva := p2.slB oalt
  have hta := hasTabs_ext htab hF p3
  have hatl : a.length + t.length ≤ 140737488354304 := by omega
  have r1 : s_SumR [va] Ha = some (.agg (bytesOf s1), Ha) := by
    unfold s_SumR
    simp only [sva]
    rw [if_pos ⟨by rw [List.length_append]; exact hatl, hta⟩, hs1]
  have gq2 : Ha.get (H.next + 1) = some (.cells (bytesOf b) 5 1 true) := by
    rw [p7 (H.next + 1) (by have := g4.next; omega) (fun oo c h => by simp at h)]; exact g4.gb
  have goa : Ha.get o = some (.cells R 25 1 true) := by
    rw [p7 o (by have := g4.next; omega) (fun oo c h => by simp at h; omega)]; exact go
  -- the outer one
  obtain ⟨Hb, hHb⟩ : ∃ Hb, Hb = Ha.new (.cells (bytesOf s1) 25 1 true) := ⟨_, rfl⟩
  have hab : H4.next ≤ Ha.next := p5
  have ob : OwnB H Hb 5 (.slice (H.next + 1) 0 64 (some 64)) b := .inr ⟨H.next + 1, some 64, by rw [hbl], .inr (by rw [hbl]), by omega, by rw [hHb]; simp; have := g4.next; omega, by rw [bytesOf_length]; omega, by rw [hHb, Heap.get_new, if_neg (by have := g4.next; omega)]; exact gq2⟩
  have sb1 : slB Hb (.slice Ha.next 0 32 (some 32)) = some s1 := by
    have hb := slB_at (H := Hb) (q := Ha.next) (o := 0) (n := 32) (c := some 32) (own := true) (t := 25) (all := s1) (by rw [hHb, Heap.get_new]; exact if_pos rfl) s1t (by omega) (.inr rfl)
    rw [List.drop_zero, List.take_of_length_le (by omega)] at hb
    exact hb
  have hEb : Ext H Hb := by rw [hHb]; exact p3.trans_new _
  have hFb : Fresh Hb := by rw [hHb]; exact p4.new _
  obtain ⟨vb, Hc, u1, u2, u3, u4, u5, u6, u7⟩ := ob.app hEb hFb (slB_added sb1) (by rw [hbl]; have : lim = 140737488354304 := rfl; omega)
  have obl : ∀ y ∈ b ++ s1, y < 256 := fun y hy => by
    rcases List.mem_append.1 hy with hy | hy
    · exact hblt y hy
    · exact s1t y hy
  have svb := u2.slB obl
  have htc := hasTabs_ext htab hF u3
  have r2 : s_SumR [vb] Hc = some (.agg (bytesOf (hashF (b ++ s1))), Hc) := by
    unfold s_SumR
    simp only [svb]
    rw [if_pos ⟨by rw [List.length_append]; have : lim = 140737488354304 := rfl; omega, htc⟩]
  have goc : Hc.get o = some (.cells R 25 1 true) := by
    rw [u7 o (by rw [hHb]; simp; have := g4.next; omega) (fun oo c h => by simp at h; omega), hHb, Heap.get_new, if_neg (by have := g4.next; omega)]; exact goa
  have hsv : ∀ (H : Heap) (b n : Nat), sliceV H 1 (.slice b 0 n (some n)) none none none = some (.slice b 0 n (some n)) := fun H b n => by simp [sliceV, bounds, maxOf, highOf, lowOf]
  have hovR : ∀ s : List Nat, s.length = 32 → over R 0 (bytesOf s) = bytesOf s := fun s hs => by
    unfold over; rw [hR]; simp [bytesOf_length, hs]
  have hRl : R.length = 32 := by rw [hR]; simp
  have hoz : over [V.int .u8 0, .int .u8 0, .int .u8 0, .int .u8 0, .int .u8 0, .int .u8 0, .int .u8 0, .int .u8 0, .int .u8 0, .int .u8 0, .int .u8 0, .int .u8 0, .int .u8 0, .int .u8 0, .int .u8 0, .int .u8 0, .int .u8 0, .int .u8 0, .int .u8 0, .int .u8 0, .int .u8 0, .int .u8 0, .int .u8 0, .int .u8 0, .int .u8 0, .int .u8 0, .int .u8 0, .int .u8 0, .int .u8 0, .int .u8 0, .int .u8 0, .int .u8 0] 0 (bytesOf s1) = bytesOf s1 := by
    unfold over; simp [bytesOf_length, s1l]
  have htbR : (bytesOf (hashF (b ++ s1))).take 32 = bytesOf (hashF (b ++ s1)) := List.take_of_length_le (by rw [bytesOf_length, s2l]; omega)
  simp (config := {maxSteps := 1000000, maxDischargeDepth := 9, implicitDefEqProofs := false}) [hn, h1, h4, c13_l0_wr, p1, hSum, r1, s1l, hoz, ← hHb, hsv, u1, r2, s2l, goc, hRl, hovR, htbR, mem_bytes_one, -over]
  exact ⟨u3.1, fun b' hb' hbo => by rw [if_neg hbo]; exact u3.2 b' hb'⟩

/-- portholeref4.Hmac. -/
noncomputable def s_HmacR : List V → Heap → Option (V × Heap)
  | [vk, vt], h => match slB h vk, slB h vt with
    | some k, some t => open Classical in if k.length ≤ tlim ∧ t.length ≤ tlim ∧ hasTabs h then some (.agg (bytesOf (hmacF k t)), h) else none
    | _, _ => none
  | _, _ => none
theorem HmacR_ok (cf : ACall) (hSum : ∀ a h, cf 18 a h = s_SumR a h) : Sum cf c13 s_HmacR := by
  intro args h v h' hf hsc hlt hs
  unfold s_HmacR at hs
  split at hs
  · rename_i vk vt
    split at hs
    · rename_i k t hk ht
      split at hs
      · rename_i hl
        obtain ⟨hl1, hl2, htab⟩ := hl
        have htl : tlim = 140737488354000 := rfl
        rw [htl] at hl1 hl2
        simp only [Option.some.injEq, Prod.mk.injEq] at hs
        obtain ⟨rfl, rfl⟩ := hs
        have hvk : V.lt h.next vk := by simp only [ltL] at hlt; exact hlt.1
        have hvt : V.lt h.next vt := by simp only [ltL] at hlt; exact hlt.2.1
        have hklt := slB_lt hk
        have hvl := slB_vlen hk
        have hsl := slB_isSl hk
        obtain ⟨R, hR⟩ : ∃ R : List V, R = List.replicate 32 (.int .u8 0) := ⟨_, rfl⟩
        have hRlit : ([V.int .u8 0, V.int .u8 0, V.int .u8 0, V.int .u8 0, V.int .u8 0, V.int .u8 0, V.int .u8 0, V.int .u8 0, V.int .u8 0, V.int .u8 0, V.int .u8 0, V.int .u8 0, V.int .u8 0, V.int .u8 0, V.int .u8 0, V.int .u8 0, V.int .u8 0, V.int .u8 0, V.int .u8 0, V.int .u8 0, V.int .u8 0, V.int .u8 0, V.int .u8 0, V.int .u8 0, V.int .u8 0, V.int .u8 0, V.int .u8 0, V.int .u8 0, V.int .u8 0, V.int .u8 0, V.int .u8 0, V.int .u8 0] : List V) = R := by rw [hR]; rfl
        refine ⟨70, ?_⟩
        by_cases hc : k.length > 64
        · have hkF : hmacF k t = hmacK (hashF k) t := by unfold hmacF keyF; rw [if_pos hc]
          have hc1 : (64 : Int) < (k.length : Int) := by omega
          have hsk : slB (h.new (.cells R 25 1 true)) vk = some k := by rw [slB_new _ hvk]; exact hk
          have hkm := lt_add hvk
          have onek : vk.one = true := by cases vk <;> first | rfl | (simp [isSl] at hsl)
          have ck : vk.cells = [vk] := by cases vk <;> first | rfl | (simp [isSl] at hsl)
          have h32 := hashF_length k
          have h32t := hashF_lt k
          have hkl : k.length ≤ 140737488354304 := by omega
          have hfl : [k].flatten = k := by simp
          rw [hkF]
          generalize hgk : hashF k = hk' at *
          have hov32 : over R 0 (bytesOf hk') = bytesOf hk' := by
            unfold over; rw [hR]; simp [bytesOf_length, h32]
          have hRl : R.length = 32 := by rw [hR]; simp
          have hsv : ∀ (H : Heap) (b n : Nat), sliceV H 1 (.slice b 0 n (some n)) none none none = some (.slice b 0 n (some n)) := fun H b n => by simp [sliceV, bounds, maxOf, highOf, lowOf]
          have hta0 := hasTabs_new (.cells R 25 1 true) htab hf
          simp (config := {maxSteps := 1000000, maxDischargeDepth := 9, implicitDefEqProofs := false}) [c13, hRlit, hsl, hvl, hc, hc1, hSum, s_SumR, hsk, hkl, hta0, hgk, h32, hRl, hov32, hsv, mem_bytes_one, -over]
          refine runs_imp (HmacR_mid cf hSum ((h.new (.cells R 25 1 true)).new (.cells (bytesOf hk') 25 1 true)) ((hf.new _).new _) (hasTabs_new _ (hasTabs_new _ htab hf) (hf.new _)) h.next R hk' t (.slice (h.next + 1) 0 32 (some 32)) vt (by omega) hl2 ?_ ?_ ?_ (lt_add hvt 2) ?_ hR _ ?_ ?_ ?_ ?_) ?_
          · have hb := slB_at (H := (h.new (.cells R 25 1 true)).new (.cells (bytesOf hk') 25 1 true)) (q := h.next + 1) (o := 0) (n := 32) (c := some 32) (own := true) (t := 25) (all := hk') (by rw [Heap.get_new]; exact if_pos rfl) h32t (by omega) (.inr rfl)
            rw [List.drop_zero, List.take_of_length_le (by omega)] at hb
            exact hb
          · simp [V.lt]
          · rw [slB_new _ (lt_add hvt 1), slB_new _ hvt]; exact ht
          · rw [Heap.get_new, if_neg (by simp), Heap.get_new]; exact if_pos rfl
          iterate 4 simp (config := {maxSteps := 1000000, maxDischargeDepth := 9, implicitDefEqProofs := false})
          rintro v H' ⟨rfl, hn', hkk'⟩
          exact Canon.keep hf hsc (mid_ext ((Ext.new h _).trans_new _) (Nat.le_refl _) hn' hkk') (flat_aggB _ _)
        · have hkF : hmacF k t = hmacK k t := by unfold hmacF keyF; rw [if_neg hc]
          have hc1 : ((64 : Int) < (k.length : Int)) = False := by simp; omega
          have hc2 : (64 < k.length) = False := by simp; omega
          rw [hkF]
          simp (config := {maxSteps := 1000000, maxDischargeDepth := 9, implicitDefEqProofs := false}) [c13, hRlit, hsl, hvl, hc1, hc2]
          refine runs_imp (HmacR_mid cf hSum (h.new (.cells R 25 1 true)) (hf.new _) (hasTabs_new _ htab hf) h.next R k t vk vt (by omega) hl2 (by rw [slB_new _ hvk]; exact hk) (lt_add hvk 1) (by rw [slB_new _ hvt]; exact ht) (lt_add hvt 1) (by rw [Heap.get_new]; exact if_pos rfl) hR _ ?_ ?_ ?_ ?_) ?_
          iterate 4 simp (config := {maxSteps := 1000000, maxDischargeDepth := 9, implicitDefEqProofs := false})
          rintro v H' ⟨rfl, hn', hk'⟩
          exact Canon.keep hf hsc (mid_ext (Ext.new h _) (Nat.le_refl _) hn' hk') (flat_aggB _ _)
      · cases hs
    · cases hs
  · cases hs

def lastB (T : List Nat) : Nat → List Nat
  | 0 => []
  | i + 1 => hmacF T (lastB T i ++ [i + 1])
def keysB (T : List Nat) : Nat → List Nat
  | 0 => []
  | i + 1 => keysB T i ++ lastB T (i + 1)
theorem hmacF_length (k t : List Nat) : (hmacF k t).length = 32 := hashF_length _
theorem hmacF_lt (k t : List Nat) : ∀ y ∈ hmacF k t, y < 256 := hashF_lt _
theorem lastB_le (T : List Nat) : ∀ i, (lastB T i).length ≤ 32
  | 0 => by simp [lastB]
  | i + 1 => by simp [lastB, hmacF_length]
theorem lastB_lt (T : List Nat) : ∀ i, ∀ y ∈ lastB T i, y < 256
  | 0 => by simp [lastB]
  | i + 1 => by simp only [lastB]; exact hmacF_lt _ _
theorem keysB_length (T : List Nat) : ∀ i, (keysB T i).length = 32 * i
  | 0 => rfl
  | i + 1 => by simp only [keysB, List.length_append, keysB_length T i, lastB, hmacF_length]; omega
theorem keysB_lt (T : List Nat) : ∀ i, ∀ y ∈ keysB T i, y < 256
  | 0 => by simp [keysB]
  | i + 1 => by
    intro y hy
    simp only [keysB, List.mem_append] at hy
    rcases hy with hy | hy
    · exact keysB_lt T i y hy
    · exact lastB_lt T (i + 1) y hy
/-- What was told last: nothing, or a key's block. -/
def lastV (H : Heap) (v : V) (s : List Nat) : Prop := (v = .nilslice ∧ s = []) ∨ ∃ q, v = .slice q 0 32 (some 32) ∧ s.length = 32 ∧ H.get q = some (.cells (bytesOf s) 25 1 true)
theorem lastV_slB {H : Heap} {v : V} {s : List Nat} (hl : lastV H v s) (hs : ∀ y ∈ s, y < 256) : slB H v = some s := by
  rcases hl with ⟨rfl, rfl⟩ | ⟨q, rfl, h1, h2⟩
  · rfl
  · have := slB_at (o := 0) (n := 32) (c := some 32) h2 hs (by omega) (.inr rfl)
    rw [List.drop_zero, List.take_of_length_le (by omega)] at this
    exact this
theorem lastV_lt {H : Heap} {v : V} {s : List Nat} (hl : lastV H v s) (hF : Fresh H) : V.lt H.next v := by
  rcases hl with ⟨rfl, rfl⟩ | ⟨q, rfl, h1, h2⟩
  · simp only [V.lt]
  · simp only [V.lt]; exact hF.lt h2
theorem Derive_loop (cf : ACall) (hHmac : ∀ a h, cf 9 a h = s_Hmac a h) (hJoin : ∀ a h, cf 16 a h = s_Join a h) (h : Heap) (T : List Nat) (n : Nat) (hn3 : n ≤ 3) (hT : T.length = 32) (hTl : ∀ y ∈ T, y < 256) (h0 : Heap) (hh0 : h0.next = h.next + 2) (hE00 : Ext h h0) : ∀ e H0, e.n = 41 → e.at 7 = .ptr (h.next + 1) 0 → e.at 8 = .nilslice → e.at 9 = .nilslice → e.at 21 = .int .i64 (n : Int) → e.at 22 = .int .i64 0 → Ext h0 H0 → Fresh H0 → H0.get (h.next + 1) = some (.cells (bytesOf T) 25 1 true) →
    YtobnkgajgodioaaDoorA.Ends (execA cf 5 (.loop c8_l0) e H0) fun x e' H => x = .exit 0 ∧ e'.n = 41 ∧ Own h0 H 25 32 (e'.at 8) n (bytesOf (keysB T n)) ∧ Ext h0 H ∧ Fresh H ∧ (0 < n → e'.at 8 ≠ .nilslice) := by
  intro e H0 hn h7 h8 h9 h21 h22 hE0 hF0 g0
  refine loop_count (cf := cf) (N := 5) (c := c8_l0) n
    (fun i e H => e.n = 41 ∧ e.at 7 = .ptr (h.next + 1) 0 ∧ Own h0 H 25 32 (e.at 8) i (bytesOf (keysB T i)) ∧ lastV H (e.at 9) (lastB T i) ∧ e.at 21 = .int .i64 (n : Int) ∧ e.at 22 = .int .i64 (i : Int) ∧ Ext h0 H ∧ Fresh H ∧ H.get (h.next + 1) = some (.cells (bytesOf T) 25 1 true) ∧ (0 < i → e.at 8 ≠ .nilslice))
    (fun x e' H => x = .exit 0 ∧ e'.n = 41 ∧ Own h0 H 25 32 (e'.at 8) n (bytesOf (keysB T n)) ∧ Ext h0 H ∧ Fresh H ∧ (0 < n → e'.at 8 ≠ .nilslice)) ?_ ?_ 0 e _ (Nat.zero_le _) ⟨hn, h7, .inl ⟨h8, rfl, rfl⟩, .inl ⟨h9, rfl⟩, h21, h22, hE0, hF0, g0, fun h => absurd h (Nat.lt_irrefl 0)⟩ (by omega)
  · rintro i e H hi ⟨hn, h7, ho, hlv, h21, h22, hE, hF, gT, hne⟩
    obtain ⟨last, hlast⟩ : ∃ l, l = lastB T i := ⟨_, rfl⟩
    rw [← hlast] at hlv
    have hll : last.length ≤ 32 := by rw [hlast]; exact lastB_le T i
    have hlt : ∀ y ∈ last, y < 256 := by rw [hlast]; exact lastB_lt T i
    obtain ⟨K, hK⟩ : ∃ K, K = hmacF T (last ++ [i + 1]) := ⟨_, rfl⟩
    have hKl : K.length = 32 := by rw [hK]; exact hmacF_length _ _
    have hKt : ∀ y ∈ K, y < 256 := by rw [hK]; exact hmacF_lt _ _
    have hnext : lastB T (i + 1) = K := by rw [hK, hlast]; rfl
    have hkeys : keysB T (i + 1) = keysB T i ++ K := by simp only [keysB, hnext]
    have hs := lastV_slB hlv hlt
    have hvl := lastV_lt hlv hF
    have hvs := slB_isSl hs
    generalize hlvq : e.at 9 = lv at *
    generalize hovq : e.at 8 = ov at *
    have onel : lv.one = true := by cases lv <;> first | rfl | (simp [isSl] at hvs)
    have cl : lv.cells = [lv] := by cases lv <;> first | rfl | (simp [isSl] at hvs)
    have hn01 : h.next + 1 < H.next := by have := hE.1; omega
    obtain ⟨K1, hK1⟩ : ∃ K1, K1 = ((H.gap 11).set (H.next + 5) (some (.cells [.int .u8 ((i : Int) + 1)] 5 1 true))).set (H.next + 6) (some (.cells [lv, .slice (H.next + 5) 0 1 (some 1)] 27 1 true)) := ⟨_, rfl⟩
    have eK1 : Ext H K1 := by rw [hK1]; exact ((Ext.gap H 11).trans_set (by omega) _).trans_set (by omega) _
    have fK1 : Fresh K1 := by rw [hK1]; exact (hF.gap.set (by simp [next_gap]) _).set (by simp [next_gap]) _
    have nK1 : K1.next = H.next + 11 := by rw [hK1]; rfl
    have sl1 : sl K1 1 (.slice (H.next + 6) 0 2 (some 2)) = some [lv, .slice (H.next + 5) 0 1 (some 1)] := sl_at (by rw [hK1, Heap.get_set, if_pos rfl]) rfl (.inr rfl)
    have sb1 : slB K1 (.slice (H.next + 5) 0 1 (some 1)) = some [i + 1] := by
      refine slB_at (all := [i + 1]) (own := true) (t := 5) ?_ (by simp; omega) (by simp) (.inr rfl)
      rw [hK1, Heap.get_set, if_neg (by omega), Heap.get_set, if_pos rfl]; rfl
    have sl2 := slB_ext eK1 hF hs
    have hfl : [last, [i + 1]].flatten = last ++ [i + 1] := by simp
    obtain ⟨K2, hK2⟩ : ∃ K2, K2 = K1.new (.cells (bytesOf (last ++ [i + 1])) 5 1 true) := ⟨_, rfl⟩
    have rj : s_Join [.slice (H.next + 6) 0 2 (some 2)] K1 = some (.slice (H.next + 11) 0 (last.length + 1) none, K2) := by
      have hlm : lim = 140737488354304 := rfl
      unfold s_Join
      simp only [sl1, slBs, sb1, sl2, hfl]
      rw [if_pos ⟨by rw [hlm]; simp; omega, by rw [hlm]; simp⟩, hK2]
      simp [newV, nK1]
    have eK2 : Ext H K2 := by rw [hK2]; exact eK1.trans_new _
    have fK2 : Fresh K2 := by rw [hK2]; exact fK1.new _
    have nK2 : K2.next = H.next + 12 := by rw [hK2]; simp [nK1]
    have gT2 : K2.get (h.next + 1) = some (.cells (bytesOf T) 25 1 true) := eK2.get hF gT
    have sT2 := slB_at (o := 0) (n := 32) (c := some 32) gT2 hTl (by omega) (.inr rfl)
    rw [List.drop_zero, List.take_of_length_le (by omega)] at sT2
    have sJ2 := slB_at (H := K2) (q := H.next + 11) (o := 0) (n := last.length + 1) (c := none) (own := true) (t := 5) (all := last ++ [i + 1]) (by rw [hK2, Heap.get_new, if_pos nK1.symm]) (fun y hy => by
      rcases List.mem_append.1 hy with hy | hy
      · exact hlt y hy
      · simp at hy; omega) (by simp) (.inl rfl)
    rw [List.drop_zero, List.take_of_length_le (by simp)] at sJ2
    have rh : s_Hmac [.slice (h.next + 1) 0 32 (some 32), .slice (H.next + 11) 0 (last.length + 1) none] K2 = some (.agg (bytesOf K), K2) := by
      have htm : tlim = 140737488354000 := rfl
      unfold s_Hmac
      simp only [sT2, sJ2]
      rw [if_pos ⟨by rw [htm]; omega, by rw [htm]; simp; omega⟩, hK]
    obtain ⟨K3, hK3⟩ : ∃ K3, K3 = K2.set (H.next + 9) (some (.cells (bytesOf K) 25 1 true)) := ⟨_, rfl⟩
    have eK3 : Ext H K3 := by rw [hK3]; exact eK2.trans_set (by omega) _
    have fK3 : Fresh K3 := by rw [hK3]; exact fK2.set (by omega) _
    have nK3 : K3.next = H.next + 12 := by rw [hK3]; simp [nK2]
    have g9 : K3.get (H.next + 9) = some (.cells (bytesOf K) 25 1 true) := by rw [hK3, Heap.get_set, if_pos rfl]
    obtain ⟨K4, hK4⟩ : ∃ K4, K4 = K3.new (.cells (bytesOf K) 25 32 true) := ⟨_, rfl⟩
    have eK4 : Ext H K4 := by rw [hK4]; exact eK3.trans_new _
    have fK4 : Fresh K4 := by rw [hK4]; exact fK3.new _
    have nK4 : K4.next = H.next + 13 := by rw [hK4]; simp [nK3]
    have oK4 : Own h0 K4 25 32 ov i (bytesOf (keysB T i)) := by
      rcases ho with h1 | ⟨b, c, h1, h2, h3, h4, h5, h6⟩
      · exact .inl h1
      · exact .inr ⟨b, c, h1, h2, h3, by omega, h5, eK4.get hF h6⟩
    have had : added K4 32 (.slice (H.next + 12) 0 1 (some 1)) = some (bytesOf K, (bytesOf K).length / 32) := by
      have hr : K4.read (H.next + 12) 0 (1 * 32) = some (bytesOf K) := by
        unfold Heap.read
        rw [if_neg (by omega), hK4, Heap.get_new, if_pos nK3.symm]
        simp only [Nat.zero_add, List.drop_zero]
        rw [if_pos (by rw [bytesOf_length]; omega), List.take_of_length_le (by rw [bytesOf_length]; omega)]
      simp only [added, hr, Option.map_some, bytesOf_length, hKl]
    obtain ⟨v5, K5, a1, a2, a3, a4, a5, a6, a7⟩ := oK4.app (bytes := 32) (hE.trans eK4) fK4 had (by rw [bytesOf_length]; omega) (bytesOf_one K) (by rw [bytesOf_length, hKl]; have : most = 140737488355328 := rfl; rw [this]; omega) (by rw [bytesOf_length, hKl]; have : most = 140737488355328 := rfl; rw [this]; omega)
    have hone : (bytesOf K).length / 32 = 1 := by rw [bytesOf_length, hKl]
    rw [hone] at a2
    rw [← bytesOf_append, ← hkeys] at a2
    have g9' : K5.get (H.next + 9) = some (.cells (bytesOf K) 25 1 true) := by
      rw [a7 (H.next + 9) (by omega) (fun oo c hh => ?_), hK4, Heap.get_new, if_neg (by omega)]
      · exact g9
      · rcases ho with h1 | ⟨b, c', h1, h2, h3, h4, h5, h6⟩
        · rw [h1.1] at hh; cases hh
        · rw [h1] at hh; injection hh; omega
    have gT5 : K5.get (h.next + 1) = some (.cells (bytesOf T) 25 1 true) := by
      rw [a7 (h.next + 1) (by omega) (fun oo c hh => ?_)]
      · exact eK4.get hF gT
      · rcases ho with h1 | ⟨b, c', h1, h2, h3, h4, h5, h6⟩
        · rw [h1.1] at hh; cases hh
        · rw [h1] at hh; injection hh; omega
    have hb0 : ∀ n, (bare0 n).next = n := fun _ => rfl
    have hsv : ∀ (H : Heap) (b n : Nat), sliceV H 1 (.slice b 0 n (some n)) none none none = some (.slice b 0 n (some n)) := fun H b n => by simp [sliceV, bounds, maxOf, highOf, lowOf]
    have hovz : over [V.int .u8 0, .int .u8 0, .int .u8 0, .int .u8 0, .int .u8 0, .int .u8 0, .int .u8 0, .int .u8 0, .int .u8 0, .int .u8 0, .int .u8 0, .int .u8 0, .int .u8 0, .int .u8 0, .int .u8 0, .int .u8 0, .int .u8 0, .int .u8 0, .int .u8 0, .int .u8 0, .int .u8 0, .int .u8 0, .int .u8 0, .int .u8 0, .int .u8 0, .int .u8 0, .int .u8 0, .int .u8 0, .int .u8 0, .int .u8 0, .int .u8 0, .int .u8 0] 0 (bytesOf K) = bytesOf K := by
      unfold over; simp [bytesOf_length, hKl]
    have ov1 : over [V.nilslice, V.nilslice] 0 [lv] = [lv, V.nilslice] := rfl
    have ov2 : over [lv, V.nilslice] 1 [.slice (H.next + 5) 0 1 (some 1)] = [lv, .slice (H.next + 5) 0 1 (some 1)] := rfl
    have ov3 : over [V.int .u8 0] 0 [.int .u8 ((i : Int) + 1)] = [.int .u8 ((i : Int) + 1)] := rfl
    have wi : wrapF .i64 ((i : Int) + 1) = (i : Int) + 1 := wrap_i64 (by omega) (by omega)
    have wu : wrapF .u8 ((i : Int) + 1) = (i : Int) + 1 := wrap_u8 (by omega) (by omega)
    have tkK : (bytesOf K).take 32 = bytesOf K := List.take_of_length_le (by rw [bytesOf_length]; omega)
    simp (config := {maxSteps := 1000000, maxDischargeDepth := 9, implicitDefEqProofs := false}) [c8_l0, hn, h7, hlvq, hovq, h21, h22, show (i : Int) < (n : Int) from by omega, hi, wi, wu, hb0, hsv, onel, cl, ov1, ov2, ov3, ← hK1, hJoin, rj, hHmac, rh, ← hK3, hKl, hovz, mem_bytes_one, g9, tkK, nK3, ← hK4, a1, -over]
    refine ⟨a2, .inr ⟨H.next + 9, rfl, by rw [hnext]; exact hKl, by rw [hnext]; exact g9'⟩, a3, a4, gT5, ?_⟩
    rcases a2 with ⟨_, hz, _⟩ | ⟨b, c, hb, _⟩
    · omega
    · rw [hb]; intro hh; cases hh
  · rintro e H ⟨hn, h7, ho, hlv, h21, h22, hE, hF, gT, hne⟩
    simp (config := {maxSteps := 1000000, maxDischargeDepth := 9, implicitDefEqProofs := false}) [c8_l0, hn, h21, h22]
    exact ⟨ho, hE, hF, hne⟩

/-- kdf.Derive. -/
def s_Derive : List V → Heap → Option (V × Heap)
  | [vc, vin, .int .i64 n], h => match aggB vc, slB h vin with
    | some c, some inp => if c.length = 32 ∧ inp.length ≤ tlim then (if n = 2 ∨ n = 3 then some (newV h n.toNat, h.new (.cells (bytesOf (keysB (hmacF c inp) n.toNat)) 25 32 true)) else some (.nilslice, h)) else none
    | _, _ => none
  | _, _ => none
theorem Derive_ok (cf : ACall) (hHmac : ∀ a h, cf 9 a h = s_Hmac a h) (hJoin : ∀ a h, cf 16 a h = s_Join a h) : Sum cf c8 s_Derive := by
  intro args h v h' hf hsc hlt hs
  unfold s_Derive at hs
  split at hs
  · rename_i vc vin n
    split at hs
    · rename_i c inp hcc hin
      split at hs
      · rename_i hl
        obtain ⟨hl1, hl2⟩ := hl
        obtain ⟨rfl, hcb⟩ := aggB_some hcc
        have htl : tlim = 140737488354000 := rfl
        rw [htl] at hl2
        have hvi : V.lt h.next vin := by simp only [ltL] at hlt; exact hlt.2.1
        have tk : (bytesOf c).take 32 = bytesOf c := List.take_of_length_le (by rw [bytesOf_length]; omega)
        split at hs
        · rename_i hn
          simp only [Option.some.injEq, Prod.mk.injEq] at hs
          obtain ⟨rfl, rfl⟩ := hs
          obtain ⟨m, hm⟩ : ∃ m : Nat, n = (m : Int) ∧ (m = 2 ∨ m = 3) := ⟨n.toNat, by omega, by omega⟩
          obtain ⟨rfl, hm⟩ := hm
          rw [Int.toNat_natCast]
          have hm1 : ((m : Int) != 2 && (m : Int) != 3) = false := by rcases hm with rfl | rfl <;> rfl
          obtain ⟨T, hT⟩ : ∃ T, T = hmacF c inp := ⟨_, rfl⟩
          rw [← hT]
          have hTl : T.length = 32 := by rw [hT]; exact hmacF_length _ _
          have hTt : ∀ y ∈ T, y < 256 := by rw [hT]; exact hmacF_lt _ _
          obtain ⟨A, hA⟩ : ∃ A, A = h.new (.cells (bytesOf c) 25 1 true) := ⟨_, rfl⟩
          have sA := slB_at (H := A) (q := h.next) (o := 0) (n := 32) (c := some 32) (own := true) (t := 25) (all := c) (by rw [hA, Heap.get_new]; exact if_pos rfl) hcb (by omega) (.inr rfl)
          rw [List.drop_zero, List.take_of_length_le (by omega)] at sA
          have si : slB A vin = some inp := by rw [hA, slB_new _ hvi]; exact hin
          have rh : s_Hmac [.slice h.next 0 32 (some 32), vin] A = some (.agg (bytesOf T), A) := by
            unfold s_Hmac
            simp only [sA, si]
            rw [if_pos ⟨by rw [htl]; omega, by rw [htl]; exact hl2⟩, hT]
          have nA : A.next = h.next + 1 := by rw [hA]; rfl
          obtain ⟨B, hB⟩ : ∃ B, B = A.new (.cells (bytesOf T) 25 1 true) := ⟨_, rfl⟩
          have gB : B.get (h.next + 1) = some (.cells (bytesOf T) 25 1 true) := by rw [hB, Heap.get_new, if_pos nA.symm]
          have nB : B.next = h.next + 2 := by rw [hB]; simp [nA]
          have eB : Ext h B := by rw [hB, hA]; exact (Ext.new h _).trans_new _
          have fB : Fresh B := by rw [hB, hA]; exact (hf.new _).new _
          have hovz : over [V.int .u8 0, V.int .u8 0, V.int .u8 0, V.int .u8 0, V.int .u8 0, V.int .u8 0, V.int .u8 0, V.int .u8 0, V.int .u8 0, V.int .u8 0, V.int .u8 0, V.int .u8 0, V.int .u8 0, V.int .u8 0, V.int .u8 0, V.int .u8 0, V.int .u8 0, V.int .u8 0, V.int .u8 0, V.int .u8 0, V.int .u8 0, V.int .u8 0, V.int .u8 0, V.int .u8 0, V.int .u8 0, V.int .u8 0, V.int .u8 0, V.int .u8 0, V.int .u8 0, V.int .u8 0, V.int .u8 0, V.int .u8 0] 0 (bytesOf T) = bytesOf T := by
            unfold over; simp [bytesOf_length, hTl]
          have hsv : ∀ (H : Heap) (b n : Nat), sliceV H 1 (.slice b 0 n (some n)) none none none = some (.slice b 0 n (some n)) := fun H b n => by simp [sliceV, bounds, maxOf, highOf, lowOf]
          refine ⟨5, ?_⟩
          have m1 : ((m : Int) = 2 ∨ (m : Int) = 3) := by omega
          have m2 : (!decide ((m : Int) = 2) && !decide ((m : Int) = 3)) = false := by rcases hm with rfl | rfl <;> rfl
          rcases hm with rfl | rfl
          · simp (config := {maxSteps := 1000000, maxDischargeDepth := 9, implicitDefEqProofs := false}) [c8, hm1, ← hA, hsv, hHmac, rh, hTl, hovz, mem_bytes_one, nA, ← hB, hl1, -over]
            refine loop_then (K := fun r => finS _ (seqS _ _ _ (blockS _ r))) (Derive_loop cf hHmac hJoin h T 2 (by omega) hTl hTt B nB eB _ _ ?_ ?_ ?_ ?_ ?_ ?_ (Ext.refl B) fB gB) ?_
            iterate 6 simp (config := {maxSteps := 1000000, maxDischargeDepth := 9, implicitDefEqProofs := false})
            rintro x e' H ⟨rfl, hn', ho, hE, hF, hne⟩
            simp (config := {maxSteps := 1000000, maxDischargeDepth := 9, implicitDefEqProofs := false}) [hn']
            exact (Own.base ho (by omega)).canon hf hsc (eB.trans hE) (hne (by omega)) (flat_bytes _)
          · simp (config := {maxSteps := 1000000, maxDischargeDepth := 9, implicitDefEqProofs := false}) [c8, hm1, ← hA, hsv, hHmac, rh, hTl, hovz, mem_bytes_one, nA, ← hB, hl1, -over]
            refine loop_then (K := fun r => finS _ (seqS _ _ _ (blockS _ r))) (Derive_loop cf hHmac hJoin h T 3 (by omega) hTl hTt B nB eB _ _ ?_ ?_ ?_ ?_ ?_ ?_ (Ext.refl B) fB gB) ?_
            iterate 6 simp (config := {maxSteps := 1000000, maxDischargeDepth := 9, implicitDefEqProofs := false})
            rintro x e' H ⟨rfl, hn', ho, hE, hF, hne⟩
            simp (config := {maxSteps := 1000000, maxDischargeDepth := 9, implicitDefEqProofs := false}) [hn']
            exact (Own.base ho (by omega)).canon hf hsc (eB.trans hE) (hne (by omega)) (flat_bytes _)
        · rename_i hn
          simp only [Option.some.injEq, Prod.mk.injEq] at hs
          obtain ⟨rfl, rfl⟩ := hs
          have n2 : ¬ n = 2 := fun h => hn (.inl h)
          have n3 : ¬ n = 3 := fun h => hn (.inr h)
          have b2 : (n == 2) = false := by simp [n2]
          have b3 : (n == 3) = false := by simp [n3]
          refine ⟨1, ?_⟩
          simp (config := {maxSteps := 1000000, maxDischargeDepth := 9, implicitDefEqProofs := false}) [c8, n2, n3, b2, b3, mem_bytes_one]
          exact Canon.keep hf hsc (Ext.new h _) (by simp only [V.lt])
      · cases hs
    · cases hs
  · cases hs

theorem twoApp (H : Heap) (hF : Fresh H) (g p1 p2 : Nat) (h1 : p1 < g) (h2 : p2 < g) (hne : p1 ≠ p2) (a : List Nat) (c : Nat) (ha : a.length = 32) (hc : c < 256) (va : V) (hva : slB H va = some a) :
    ∃ v1 A2 v2 A4, appendV ((H.gap g).set (H.next + p1) (some (.cells [] 5 1 true))) 5 1 1 (.slice (H.next + p1) 0 0 (some 0)) va = some (v1, A2) ∧
      appendV (A2.set (H.next + p2) (some (.cells [.int .u8 (c : Int)] 5 1 true))) 5 1 1 v1 (.slice (H.next + p2) 0 1 (some 1)) = some (v2, A4) ∧ slB A4 v2 = some (a ++ [c]) ∧ Ext H A4 ∧ Fresh A4 ∧ H.next + g ≤ A4.next := by
  obtain ⟨A1, hA1⟩ : ∃ A1, A1 = (H.gap g).set (H.next + p1) (some (.cells [] 5 1 true)) := ⟨_, rfl⟩
  rw [← hA1]
  have e1 : Ext H A1 := by rw [hA1]; exact (Ext.gap H g).trans_set (by omega) _
  have f1 : Fresh A1 := by rw [hA1]; exact hF.gap.set (by simp [next_gap]; omega) _
  have n1 : A1.next = H.next + g := by rw [hA1]; rfl
  have o1 : OwnB H A1 5 (.slice (H.next + p1) 0 0 (some 0)) [] := .inr ⟨H.next + p1, some 0, rfl, .inr rfl, by omega, by omega, rfl, by rw [hA1, Heap.get_set, if_pos rfl]; rfl⟩
  have hlm : lim = 140737488354304 := rfl
  obtain ⟨v1, A2, a1, a2, a3, a4, a5, a6, a7⟩ := o1.app e1 f1 (slB_added (slB_ext e1 hF hva)) (by rw [hlm]; simp; omega)
  rw [List.nil_append] at a2
  have hnone : A2.get (H.next + p2) = none := by
    rw [a7 (H.next + p2) (by omega) (fun oo c hh => by injection hh; omega), hA1, Heap.get_set, if_neg (by omega), get_gap]
    exact hF _ (by omega)
  obtain ⟨A3, hA3⟩ : ∃ A3, A3 = A2.set (H.next + p2) (some (.cells [.int .u8 (c : Int)] 5 1 true)) := ⟨_, rfl⟩
  have e3 : Ext H A3 := by rw [hA3]; exact a3.trans_set (by omega) _
  have f3 : Fresh A3 := by rw [hA3]; exact a4.set (by omega) _
  have n3 : A3.next = A2.next := by rw [hA3]; rfl
  have o3 : OwnB H A3 5 v1 a := by
    rcases a2 with h1 | ⟨b, c, k1, k2, k3, k4, k5, k6⟩
    · exact .inl h1
    · refine .inr ⟨b, c, k1, k2, k3, by omega, k5, ?_⟩
      rw [hA3, Heap.get_set, if_neg (fun e => by rw [e, hnone] at k6; cases k6)]
      exact k6
  have s3 : slB A3 (.slice (H.next + p2) 0 1 (some 1)) = some [c] := by
    have hb := slB_at (H := A3) (q := H.next + p2) (o := 0) (n := 1) (c := some 1) (own := true) (t := 5) (all := [c]) (by rw [hA3, Heap.get_set, if_pos rfl]; rfl) (by simp; omega) (by simp) (.inr rfl)
    simpa using hb
  obtain ⟨v2, A4, b1, b2, b3, b4, b5, b6, b7⟩ := o3.app e3 f3 (slB_added s3) (by rw [hlm]; simp; omega)
  have halt := slB_lt hva
  refine ⟨v1, A2, v2, A4, a1, by rw [← hA3]; exact b1, b2.slB (fun y hy => ?_), b3, b4, by omega⟩
  rcases List.mem_append.1 hy with hy | hy
  · exact halt y hy
  · simp at hy; omega

/-- portholeref4.Derive. -/
noncomputable def s_DeriveR : List V → Heap → Option (V × Heap)
  | [vc, vin, .int .i64 n], h => match aggB vc, slB h vin with
    | some c, some inp => open Classical in if c.length = 32 ∧ inp.length ≤ tlim ∧ hasTabs h then (if n = 2 ∨ n = 3 then some (newV h n.toNat, h.new (.cells (bytesOf (keysB (hmacF c inp) n.toNat)) 25 32 true)) else some (.nilslice, h)) else none
    | _, _ => none
  | _, _ => none
theorem hmR_fact {K : Heap} {a b : V} {k t : List Nat} (ha : slB K a = some k) (hb : slB K b = some t) (hk : k.length = 32) (ht : t.length ≤ 140737488354000) (htab : hasTabs K) : s_HmacR [a, b] K = some (.agg (bytesOf (hmacF k t)), K) := by
  have htl : tlim = 140737488354000 := rfl
  unfold s_HmacR
  simp only [ha, hb]
  rw [if_pos ⟨by rw [htl]; omega, by rw [htl]; exact ht, htab⟩]
theorem box_slB {K : Heap} {q : Nat} {T : List Nat} (hg : K.get q = some (.cells (bytesOf T) 25 1 true)) (hT : T.length = 32) (hTt : ∀ y ∈ T, y < 256) : slB K (.slice q 0 32 (some 32)) = some T := by
  have := slB_at (o := 0) (n := 32) (c := some 32) hg hTt (by omega) (.inr rfl)
  rw [List.drop_zero, List.take_of_length_le (by omega)] at this
  exact this
theorem DeriveR_ok (cf : ACall) (hHmac : ∀ a h, cf 13 a h = s_HmacR a h) : Sum cf c14 s_DeriveR := by
  intro args h v h' hf hsc hlt hs
  unfold s_DeriveR at hs
  split at hs
  · rename_i vc vin n
    split at hs
    · rename_i c inp hcc hin
      split at hs
      · rename_i hl
        obtain ⟨hl1, hl2, htab⟩ := hl
        obtain ⟨rfl, hcb⟩ := aggB_some hcc
        have htl : tlim = 140737488354000 := rfl
        rw [htl] at hl2
        have hvi : V.lt h.next vin := by simp only [ltL] at hlt; exact hlt.2.1
        have tk : (bytesOf c).take 32 = bytesOf c := List.take_of_length_le (by rw [bytesOf_length]; omega)
        split at hs
        · rename_i hn
          simp only [Option.some.injEq, Prod.mk.injEq] at hs
          obtain ⟨rfl, rfl⟩ := hs
          obtain ⟨T, hT⟩ : ∃ T, T = hmacF c inp := ⟨_, rfl⟩
          rw [← hT]
          have hTl : T.length = 32 := by rw [hT]; exact hmacF_length _ _
          have hTt : ∀ y ∈ T, y < 256 := by rw [hT]; exact hmacF_lt _ _
          obtain ⟨A, hA⟩ : ∃ A, A = h.new (.cells (bytesOf c) 25 1 true) := ⟨_, rfl⟩
          have eA : Ext h A := by rw [hA]; exact Ext.new h _
          have fA : Fresh A := by rw [hA]; exact hf.new _
          have nA : A.next = h.next + 1 := by rw [hA]; rfl
          have sA := box_slB (K := A) (q := h.next) (T := c) (by rw [hA, Heap.get_new]; exact if_pos rfl) hl1 hcb
          have rh := hmR_fact sA (slB_ext eA hf hin) hl1 hl2 (hasTabs_ext htab hf eA)
          rw [← hT] at rh
          -- the first key
          obtain ⟨B, hB⟩ : ∃ B, B = A.new (.cells (bytesOf T) 25 1 true) := ⟨_, rfl⟩
          have gB : B.get (h.next + 1) = some (.cells (bytesOf T) 25 1 true) := by rw [hB, Heap.get_new, if_pos nA.symm]
          have nB : B.next = h.next + 2 := by rw [hB]; simp [nA]
          have eB : Ext h B := by rw [hB]; exact eA.trans_new _
          have fB : Fresh B := by rw [hB]; exact fA.new _
          obtain ⟨C, hC⟩ : ∃ C, C = B.new (.cells [.int .u8 1] 5 1 true) := ⟨_, rfl⟩
          have eBC : Ext B C := by rw [hC]; exact Ext.new B _
          have fC : Fresh C := by rw [hC]; exact fB.new _
          have nC : C.next = h.next + 3 := by rw [hC]; simp [nB]
          have sC1 : slB C (.slice (h.next + 2) 0 1 (some 1)) = some [1] := by
            have hb := slB_at (H := C) (q := h.next + 2) (o := 0) (n := 1) (c := some 1) (own := true) (t := 5) (all := [1]) (by rw [hC, Heap.get_new, if_pos nB.symm]; rfl) (by decide) (by simp) (.inr rfl)
            simpa using hb
          have r1 := hmR_fact (box_slB (eBC.get fB gB) hTl hTt) sC1 hTl (by simp) (hasTabs_ext htab hf (eB.trans eBC))
          obtain ⟨K1, hK1⟩ : ∃ K, K = hmacF T [1] := ⟨_, rfl⟩
          rw [← hK1] at r1
          have l1 : lastB T 1 = K1 := by rw [hK1]; rfl
          have k1l : K1.length = 32 := by rw [hK1]; exact hmacF_length _ _
          have k1t : ∀ y ∈ K1, y < 256 := by rw [hK1]; exact hmacF_lt _ _
          obtain ⟨D, hD⟩ : ∃ D, D = C.new (.cells (bytesOf K1) 25 1 true) := ⟨_, rfl⟩
          have eBD : Ext B D := by rw [hD]; exact eBC.trans_new _
          have fD : Fresh D := by rw [hD]; exact fC.new _
          have nD : D.next = h.next + 4 := by rw [hD]; simp [nC]
          have gD3 : D.get (h.next + 3) = some (.cells (bytesOf K1) 25 1 true) := by rw [hD, Heap.get_new, if_pos nC.symm]
          have gD1 := eBD.get fB gB
          -- the second
          obtain ⟨v1, E2, v2, E4, a1, a2, a3, a4, a5, a6⟩ := twoApp D fD 9 1 4 (by omega) (by omega) (by omega) K1 2 k1l (by omega) _ (box_slB gD3 k1l k1t)
          have eE := (eB.trans eBD).trans a4
          have r2 := hmR_fact (box_slB (a4.get fD gD1) hTl hTt) a3 hTl (by rw [List.length_append]; simp; omega) (hasTabs_ext htab hf eE)
          obtain ⟨K2, hK2⟩ : ∃ K, K = hmacF T (K1 ++ [2]) := ⟨_, rfl⟩
          rw [← hK2] at r2
          have l2 : lastB T 2 = K2 := by rw [hK2, ← l1]; rfl
          have k2l : K2.length = 32 := by rw [hK2]; exact hmacF_length _ _
          have k2t : ∀ y ∈ K2, y < 256 := by rw [hK2]; exact hmacF_lt _ _
          obtain ⟨F, hF'⟩ : ∃ F, F = E4.set (D.next + 7) (some (.cells (bytesOf K2) 25 1 true)) := ⟨_, rfl⟩
          have eDF : Ext D F := by rw [hF']; exact a4.trans_set (by omega) _
          have fF : Fresh F := by rw [hF']; exact a5.set (by omega) _
          have gF7 : F.get (D.next + 7) = some (.cells (bytesOf K2) 25 1 true) := by rw [hF', Heap.get_set, if_pos rfl]
          have gF3 := eDF.get fD gD3
          have gF1 := eDF.get fD gD1
          have nF : F.next = E4.next := by rw [hF']; rfl
          have eF : Ext h F := (eB.trans eBD).trans eDF
          -- the row
          obtain ⟨G, hG⟩ : ∃ G, G = F.new (.cells (bytesOf K1 ++ bytesOf K2) 25 32 true) := ⟨_, rfl⟩
          have eG : Ext h G := by rw [hG]; exact eF.trans_new _
          have fG : Fresh G := by rw [hG]; exact fF.new _
          have hk2 : keysB T 2 = K1 ++ K2 := by
            have e1 : keysB T 2 = [] ++ lastB T 1 ++ lastB T 2 := rfl
            rw [e1, l1, l2]; rfl
          have oG : Own h G 25 32 (.slice F.next 0 2 (some 2)) 2 (bytesOf (keysB T 2)) := by
            refine .inr ⟨F.next, some 2, rfl, .inr rfl, by have := eF.1; omega, by rw [hG]; simp, by rw [bytesOf_length, keysB_length], ?_⟩
            rw [hG, Heap.get_new, if_pos rfl, hk2, bytesOf_append]
          have gG7 : G.get (D.next + 7) = some (.cells (bytesOf K2) 25 1 true) := by rw [hG, Heap.get_new, if_neg (by omega)]; exact gF7
          have gG1 : G.get (h.next + 1) = some (.cells (bytesOf T) 25 1 true) := by rw [hG, Heap.get_new, if_neg (by omega)]; exact gF1
          have hsv : ∀ (H : Heap) (b n : Nat), sliceV H 1 (.slice b 0 n (some n)) none none none = some (.slice b 0 n (some n)) := fun H b n => by simp [sliceV, bounds, maxOf, highOf, lowOf]
          have hovz : ∀ K : List Nat, K.length = 32 → over [V.int .u8 0, V.int .u8 0, V.int .u8 0, V.int .u8 0, V.int .u8 0, V.int .u8 0, V.int .u8 0, V.int .u8 0, V.int .u8 0, V.int .u8 0, V.int .u8 0, V.int .u8 0, V.int .u8 0, V.int .u8 0, V.int .u8 0, V.int .u8 0, V.int .u8 0, V.int .u8 0, V.int .u8 0, V.int .u8 0, V.int .u8 0, V.int .u8 0, V.int .u8 0, V.int .u8 0, V.int .u8 0, V.int .u8 0, V.int .u8 0, V.int .u8 0, V.int .u8 0, V.int .u8 0, V.int .u8 0, V.int .u8 0] 0 (bytesOf K) = bytesOf K := fun K hK => by
            unfold over; simp [bytesOf_length, hK]
          have hov1 : over [V.int .u8 0, V.int .u8 0, V.int .u8 0, V.int .u8 0, V.int .u8 0, V.int .u8 0, V.int .u8 0, V.int .u8 0, V.int .u8 0, V.int .u8 0, V.int .u8 0, V.int .u8 0, V.int .u8 0, V.int .u8 0, V.int .u8 0, V.int .u8 0, V.int .u8 0, V.int .u8 0, V.int .u8 0, V.int .u8 0, V.int .u8 0, V.int .u8 0, V.int .u8 0, V.int .u8 0, V.int .u8 0, V.int .u8 0, V.int .u8 0, V.int .u8 0, V.int .u8 0, V.int .u8 0, V.int .u8 0, V.int .u8 0, V.int .u8 0, V.int .u8 0, V.int .u8 0, V.int .u8 0, V.int .u8 0, V.int .u8 0, V.int .u8 0, V.int .u8 0, V.int .u8 0, V.int .u8 0, V.int .u8 0, V.int .u8 0, V.int .u8 0, V.int .u8 0, V.int .u8 0, V.int .u8 0, V.int .u8 0, V.int .u8 0, V.int .u8 0, V.int .u8 0, V.int .u8 0, V.int .u8 0, V.int .u8 0, V.int .u8 0, V.int .u8 0, V.int .u8 0, V.int .u8 0, V.int .u8 0, V.int .u8 0, V.int .u8 0, V.int .u8 0, V.int .u8 0] 0 (bytesOf K1) = bytesOf K1 ++ [V.int .u8 0, V.int .u8 0, V.int .u8 0, V.int .u8 0, V.int .u8 0, V.int .u8 0, V.int .u8 0, V.int .u8 0, V.int .u8 0, V.int .u8 0, V.int .u8 0, V.int .u8 0, V.int .u8 0, V.int .u8 0, V.int .u8 0, V.int .u8 0, V.int .u8 0, V.int .u8 0, V.int .u8 0, V.int .u8 0, V.int .u8 0, V.int .u8 0, V.int .u8 0, V.int .u8 0, V.int .u8 0, V.int .u8 0, V.int .u8 0, V.int .u8 0, V.int .u8 0, V.int .u8 0, V.int .u8 0, V.int .u8 0] := by
            unfold over; simp [bytesOf_length, k1l]
          have hov2 : over (bytesOf K1 ++ [V.int .u8 0, V.int .u8 0, V.int .u8 0, V.int .u8 0, V.int .u8 0, V.int .u8 0, V.int .u8 0, V.int .u8 0, V.int .u8 0, V.int .u8 0, V.int .u8 0, V.int .u8 0, V.int .u8 0, V.int .u8 0, V.int .u8 0, V.int .u8 0, V.int .u8 0, V.int .u8 0, V.int .u8 0, V.int .u8 0, V.int .u8 0, V.int .u8 0, V.int .u8 0, V.int .u8 0, V.int .u8 0, V.int .u8 0, V.int .u8 0, V.int .u8 0, V.int .u8 0, V.int .u8 0, V.int .u8 0, V.int .u8 0]) 32 (bytesOf K2) = bytesOf K1 ++ bytesOf K2 := by
            unfold over; simp [bytesOf_length, k1l, k2l]
          have ov1 : ∀ z : V, over [V.int .u8 0] 0 [z] = [z] := fun z => rfl
          have tk32 : ∀ K : List Nat, K.length = 32 → (bytesOf K).take 32 = bytesOf K := fun K hK => List.take_of_length_le (by rw [bytesOf_length]; omega)
          have hb0 : ∀ n, (bare0 n).next = n := fun _ => rfl
          have a2' : appendV (E2.set (D.next + 4) (some (.cells [.int .u8 2] 5 1 true))) 5 1 1 v1 (.slice (D.next + 4) 0 1 (some 1)) = some (v2, E4) := a2
          rcases hn with rfl | rfl
          · refine ⟨5, ?_⟩
            simp (config := {maxSteps := 1000000, maxDischargeDepth := 9, implicitDefEqProofs := false}) [c14, ← hA, hsv, hHmac, rh, hTl, hovz T hTl, mem_bytes_one, nA, ← hB, hl1, nB, ov1, ← hC, r1, hovz K1 k1l, k1l, nC, ← hD, hb0, a1, a2', r2, hovz K2 k2l, ← hF', gF3, gF7, tk32, k2l, hov1, hov2, ← hG, -over]
            exact oG.canon hf hsc eG (by intro hh; cases hh) (flat_bytes _)
          · obtain ⟨v3, G2, v4, G4, c1, c2, c3, c4, c5, c6⟩ := twoApp G fG 11 2 5 (by omega) (by omega) (by omega) K2 3 k2l (by omega) _ (box_slB gG7 k2l k2t)
            have c2' : appendV (G2.set (G.next + 5) (some (.cells [.int .u8 3] 5 1 true))) 5 1 1 v3 (.slice (G.next + 5) 0 1 (some 1)) = some (v4, G4) := c2
            have r3 := hmR_fact (box_slB (c4.get fG gG1) hTl hTt) c3 hTl (by rw [List.length_append]; simp; omega) (hasTabs_ext htab hf (eG.trans c4))
            obtain ⟨K3, hK3⟩ : ∃ K, K = hmacF T (K2 ++ [3]) := ⟨_, rfl⟩
            rw [← hK3] at r3
            have l3 : lastB T 3 = K3 := by rw [hK3, ← l2]; rfl
            have k3l : K3.length = 32 := by rw [hK3]; exact hmacF_length _ _
            obtain ⟨M, hM⟩ : ∃ M, M = G4.new (.cells (bytesOf K3) 25 32 true) := ⟨_, rfl⟩
            have eGM : Ext G M := by rw [hM]; exact c4.trans_new _
            have fM : Fresh M := by rw [hM]; exact c5.new _
            have oM : Own h M 25 32 (.slice F.next 0 2 (some 2)) 2 (bytesOf (keysB T 2)) := by
              rcases oG with h1 | ⟨b, c, h1, h2, h3, h4, h5, h6⟩
              · exact absurd h1.1 (by intro hh; cases hh)
              · have := eGM.1
                exact .inr ⟨b, c, h1, h2, h3, by omega, h5, eGM.get fG h6⟩
            have had : added M 32 (.slice G4.next 0 1 (some 1)) = some (bytesOf K3, (bytesOf K3).length / 32) := by
              have hr : M.read G4.next 0 (1 * 32) = some (bytesOf K3) := by
                unfold Heap.read
                rw [if_neg (by omega), hM, Heap.get_new, if_pos rfl]
                simp only [Nat.zero_add, List.drop_zero]
                rw [if_pos (by rw [bytesOf_length]; omega), List.take_of_length_le (by rw [bytesOf_length]; omega)]
              simp only [added, hr, Option.map_some, bytesOf_length, k3l]
            obtain ⟨v5, K5, b1, b2, b3, b4, b5, b6, b7⟩ := oM.app (bytes := 32) (eG.trans eGM) fM had (by rw [bytesOf_length]; omega) (bytesOf_one K3) (by rw [bytesOf_length, k3l]; have : most = 140737488355328 := rfl; rw [this]; omega) (by rw [bytesOf_length, k3l]; have : most = 140737488355328 := rfl; rw [this]; omega)
            have hone : (bytesOf K3).length / 32 = 1 := by rw [bytesOf_length, k3l]
            have hk3 : keysB T 3 = keysB T 2 ++ K3 := by
              have e1 : keysB T 3 = keysB T 2 ++ lastB T 3 := rfl
              rw [e1, l3]
            rw [hone, ← bytesOf_append, ← hk3] at b2
            refine ⟨5, ?_⟩
            simp (config := {maxSteps := 1000000, maxDischargeDepth := 9, implicitDefEqProofs := false}) [c14, ← hA, hsv, hHmac, rh, hTl, hovz T hTl, mem_bytes_one, nA, ← hB, hl1, nB, ov1, ← hC, r1, hovz K1 k1l, k1l, nC, ← hD, hb0, a1, a2', r2, hovz K2 k2l, ← hF', gF3, gF7, tk32, k2l, hov1, hov2, ← hG, c1, c2', r3, k3l, hovz K3 k3l, ← hM, b1, -over]
            refine b2.canon hf hsc b3 ?_ (flat_bytes _)
            rcases b2 with ⟨_, hz, _⟩ | ⟨b, c, hb, _⟩
            · omega
            · rw [hb]; intro hh; cases hh
        · rename_i hn
          simp only [Option.some.injEq, Prod.mk.injEq] at hs
          obtain ⟨rfl, rfl⟩ := hs
          have n2 : ¬ n = 2 := fun h => hn (.inl h)
          have n3 : ¬ n = 3 := fun h => hn (.inr h)
          have b2 : (n == 2) = false := by simp [n2]
          have b3 : (n == 3) = false := by simp [n3]
          refine ⟨1, ?_⟩
          simp (config := {maxSteps := 1000000, maxDischargeDepth := 9, implicitDefEqProofs := false}) [c14, n2, n3, b2, b3, mem_bytes_one]
          exact Canon.keep hf hsc (Ext.new h _) (by simp only [V.lt])
      · cases hs
    · cases hs
  · cases hs

/-- The raw numbers, and the bytes of them. -/
def lcgK (x : Int) : Int := (x * 6364136223846793005 + 1442695040888963407) % 18446744073709551616
def lcgsK : Nat → Int → Int
  | 0, x => x
  | i + 1, x => lcgK (lcgsK i x)
def rawK (n : Nat) (x : Int) : List Nat := (List.range n).map fun i => ((lcgsK (i + 1) x) / 1099511627776 % 256).toNat

theorem rawK_succ (n : Nat) (x : Int) : rawK (n + 1) x = rawK n x ++ [((lcgsK (n + 1) x) / 1099511627776 % 256).toNat] := by simp [rawK, List.range_succ]
theorem rawK_length (n : Nat) (x : Int) : (rawK n x).length = n := by simp [rawK]
theorem rawK_lt (n : Nat) (x : Int) : ∀ y ∈ rawK n x, y < 256 := by
  intro y hy
  simp only [rawK, List.mem_map] at hy
  obtain ⟨i, _, rfl⟩ := hy
  omega
theorem lcgK_wrap (x : Int) : wrapF .u64 (wrapF .u64 (x * 6364136223846793005) + 1442695040888963407) = lcgK x := by
  simp only [wrap_u64_mod, lcgK, Int.emod_add_emod]
/-- portholehand.Secret. -/
def secB (n : Int) : List Nat := rawK 32 (lcgK (n % 18446744073709551616))
theorem secB_length (n : Int) : (secB n).length = 32 := rawK_length _ _
theorem secB_lt (n : Int) : ∀ y ∈ secB n, y < 256 := rawK_lt _ _
def s_Secret : List V → Heap → Option (V × Heap)
  | [.int .i64 n], h => some (.agg (bytesOf (secB n)), h)
  | _, _ => none
theorem Secret_ok (cf : ACall) : Sum cf c15 s_Secret := by
  intro args h v h' hf hsc hlt hs
  unfold s_Secret at hs
  split at hs
  · rename_i n0
    simp only [Option.some.injEq, Prod.mk.injEq] at hs
    obtain ⟨rfl, rfl⟩ := hs
    unfold secB
    generalize hx : lcgK (n0 % 18446744073709551616) = x0
    have hx' : wrapF .u64 (wrapF .u64 (wrapF .u64 n0 * 6364136223846793005) + 1442695040888963407) = x0 := by
      rw [lcgK_wrap, wrap_u64_mod]; exact hx
    have hx2 : wrapF .u64 (wrapF .u64 (n0 % 18446744073709551616 * 6364136223846793005) + 1442695040888963407) = x0 := by
      rw [lcgK_wrap]; exact hx
    obtain ⟨Z, hZ⟩ : ∃ Z, Z = h.new (.cells (List.replicate 32 (.int .u8 0)) 25 1 true) := ⟨_, rfl⟩
    have hZ' : h.new (.cells [V.int .u8 0, V.int .u8 0, V.int .u8 0, V.int .u8 0, V.int .u8 0, V.int .u8 0, V.int .u8 0, V.int .u8 0, V.int .u8 0, V.int .u8 0, V.int .u8 0, V.int .u8 0, V.int .u8 0, V.int .u8 0, V.int .u8 0, V.int .u8 0, V.int .u8 0, V.int .u8 0, V.int .u8 0, V.int .u8 0, V.int .u8 0, V.int .u8 0, V.int .u8 0, V.int .u8 0, V.int .u8 0, V.int .u8 0, V.int .u8 0, V.int .u8 0, V.int .u8 0, V.int .u8 0, V.int .u8 0, V.int .u8 0] 25 1 true) = Z := hZ.symm
    have nZ : Z.next = h.next + 1 := by rw [hZ]; rfl
    have gZ : Z.get h.next = some (.cells [V.int .u8 0, V.int .u8 0, V.int .u8 0, V.int .u8 0, V.int .u8 0, V.int .u8 0, V.int .u8 0, V.int .u8 0, V.int .u8 0, V.int .u8 0, V.int .u8 0, V.int .u8 0, V.int .u8 0, V.int .u8 0, V.int .u8 0, V.int .u8 0, V.int .u8 0, V.int .u8 0, V.int .u8 0, V.int .u8 0, V.int .u8 0, V.int .u8 0, V.int .u8 0, V.int .u8 0, V.int .u8 0, V.int .u8 0, V.int .u8 0, V.int .u8 0, V.int .u8 0, V.int .u8 0, V.int .u8 0, V.int .u8 0] 25 1 true) := by rw [hZ, Heap.get_new]; exact if_pos rfl
    refine ⟨33, ?_⟩
    have L := loop_count (cf := cf) (N := 33) (c := c15_l0) 32
      (fun i e H => e.n = 23 ∧ e.at 2 = .ptr h.next 0 ∧ e.at 3 = .ptr (h.next + 1) 0 ∧ e.at 4 = .int .u64 (lcgsK i x0) ∧ e.at 5 = .int .i64 (i : Int) ∧ H = Z.new (.cells (bytesOf (rawK i x0) ++ List.replicate (32 - i) (.int .u8 0)) 25 1 true))
      (fun x e H => x = .exit 0 ∧ e.n = 23 ∧ e.at 2 = .ptr h.next 0 ∧ e.at 3 = .ptr (h.next + 1) 0 ∧ H = Z.new (.cells (bytesOf (rawK 32 x0)) 25 1 true))
      (by
        rintro i e H hi ⟨hn, h2, h3, h4, h5, rfl⟩
        obtain ⟨k, hk⟩ : ∃ k, 32 - i = k + 1 := ⟨32 - i - 1, by omega⟩
        have hk2 : 32 - (i + 1) = k := by omega
        have hov := over_fill (bytesOf (rawK i x0)) (.int .u8 0) (.int .u8 ((lcgsK (i + 1) x0) / 1099511627776 % 256)) k
        rw [bytesOf_length, rawK_length] at hov
        have hb : bytesOf (rawK (i + 1) x0) = bytesOf (rawK i x0) ++ [.int .u8 ((lcgsK (i + 1) x0) / 1099511627776 % 256)] := by
          rw [rawK_succ, bytesOf_append]
          simp only [bytesOf, List.map_cons, List.map_nil, Int.ofNat_eq_natCast]
          rw [Int.toNat_of_nonneg (by omega)]
        simp (config := {maxSteps := 1000000, maxDischargeDepth := 9, implicitDefEqProofs := false}) [c15_l0, hn, h2, h3, h4, h5, hi, hk, hk2, hb, hov, -over, rawK_length, wrap_u8_mod, lcgK_wrap, lcgsK, nZ, show (i : Int) < 32 from by omega, wrap_i64 (x := (i : Int) + 1) (by omega) (by omega)]
        rw [show lcgK (lcgsK i x0) = lcgsK (i + 1) x0 from rfl, hov]
        simp)
      (by
        rintro e H ⟨hn, h2, h3, h4, h5, rfl⟩
        simp (config := {maxSteps := 1000000, maxDischargeDepth := 9, implicitDefEqProofs := false}) [c15_l0, hn, h2, h3, h4, h5])
    simp (config := {maxSteps := 1000000, maxDischargeDepth := 9, implicitDefEqProofs := false}) [c15, hx', hx2, hZ', wrap_u64_mod]
    refine loop_then (K := fun r => finS _ (seqS _ _ _ (blockS _ r))) (L 0 _ _ (Nat.zero_le _) ?_ (by decide)) ?_
    · simp (config := {maxSteps := 1000000, maxDischargeDepth := 9, implicitDefEqProofs := false}) [lcgsK, rawK, bytesOf_nil]
      exact ⟨nZ, hx⟩
    · rintro x e' H ⟨rfl, hn, h2, h3, rfl⟩
      have hrl : (rawK 32 x0).length = 32 := rawK_length _ _
      have tk : (bytesOf (rawK 32 x0)).take 32 = bytesOf (rawK 32 x0) := List.take_of_length_le (by rw [bytesOf_length]; omega)
      have hovz : over [V.int .u8 0, V.int .u8 0, V.int .u8 0, V.int .u8 0, V.int .u8 0, V.int .u8 0, V.int .u8 0, V.int .u8 0, V.int .u8 0, V.int .u8 0, V.int .u8 0, V.int .u8 0, V.int .u8 0, V.int .u8 0, V.int .u8 0, V.int .u8 0, V.int .u8 0, V.int .u8 0, V.int .u8 0, V.int .u8 0, V.int .u8 0, V.int .u8 0, V.int .u8 0, V.int .u8 0, V.int .u8 0, V.int .u8 0, V.int .u8 0, V.int .u8 0, V.int .u8 0, V.int .u8 0, V.int .u8 0, V.int .u8 0] 0 (bytesOf (rawK 32 x0)) = bytesOf (rawK 32 x0) := by
        unfold over; simp [bytesOf_length, hrl]
      simp (config := {maxSteps := 1000000, maxDischargeDepth := 9, implicitDefEqProofs := false}) [hn, h2, h3, hrl, tk, hovz, nZ, gZ, mem_bytes_one, -over]
      refine Canon.keep hf hsc ?_ (by simp only [V.lt]; exact ltL_mono (Nat.zero_le _) _ (flat_bytes _))
      rw [hZ]
      exact (((Ext.new h _).trans_set (by omega) _).trans_new _)
  · cases hs

theorem keysB_at (T : List Nat) : ∀ n i, i < n → ((bytesOf (keysB T n)).drop (32 * i)).take 32 = bytesOf (lastB T (i + 1))
  | 0, i, h => absurd h (Nat.not_lt_zero i)
  | n + 1, i, h => by
    have hl : (lastB T (i + 1)).length = 32 := hmacF_length _ _
    have hl2 : (lastB T (n + 1)).length = 32 := hmacF_length _ _
    simp only [keysB, bytesOf_append]
    by_cases hi : i < n
    · rw [List.drop_append_of_le_length (by rw [bytesOf_length, keysB_length]; omega), List.take_append_of_le_length (by rw [List.length_drop, bytesOf_length, keysB_length]; omega)]
      exact keysB_at T n i hi
    · have : i = n := by omega
      subst this
      rw [List.drop_append, List.drop_of_length_le (by rw [bytesOf_length, keysB_length]; omega), bytesOf_length, keysB_length, Nat.sub_self, List.drop_zero, List.nil_append, List.take_of_length_le (by rw [bytesOf_length]; omega)]
theorem keysB_rd {H : Heap} {q n i o : Nat} {T : List Nat} (hg : H.get q = some (.cells (bytesOf (keysB T n)) 25 32 true)) (hi : i < n) (ho : o = 32 * i) : H.read q o 32 = some (bytesOf (lastB T (i + 1))) := by
  subst ho
  unfold Heap.read
  rw [if_neg (by omega), hg]
  simp only
  rw [if_pos (by rw [bytesOf_length, keysB_length]; omega), keysB_at T n i hi]
theorem keysB_rb {H : Heap} {q n i o : Nat} {T : List Nat} (hg : H.get q = some (.cells (bytesOf (keysB T n)) 25 32 true)) (hi : i < n) (ho : o = 32 * i) : readB (H.get q) o 32 = some (bytesOf (lastB T (i + 1))) := by
  subst ho
  unfold readB
  rw [hg]
  simp only
  rw [if_pos (by rw [bytesOf_length, keysB_length]; omega), keysB_at T n i hi]
open Classical in
/-- known, chapter 8. -/
noncomputable def s_known8 : List V → Heap → Option (V × Heap)
  | [], h => if hasTabs h then some (.bool true, h) else none
  | _, _ => none
theorem known8_ok (cf : ACall) (hSecret : ∀ a h, cf 15 a h = s_Secret a h) (hDerive : ∀ a h, cf 8 a h = s_Derive a h) (hDeriveR : ∀ a h, cf 14 a h = s_DeriveR a h) : Sum cf c7 s_known8 := by
  intro args h v h' hf hsc hlt hs
  unfold s_known8 at hs
  split at hs
  · split at hs
    · rename_i htab
      simp only [Option.some.injEq, Prod.mk.injEq] at hs
      obtain ⟨rfl, rfl⟩ := hs
      have htl : tlim = 140737488354000 := rfl
      obtain ⟨S, hS⟩ : ∃ S, S = secB 1 := ⟨_, rfl⟩
      have hSl : S.length = 32 := by rw [hS]; exact secB_length 1
      have hSt : ∀ y ∈ S, y < 256 := by rw [hS]; exact secB_lt 1
      obtain ⟨T, hT⟩ : ∃ T, T = hmacF S [120] := ⟨_, rfl⟩
      have hT1 : (lastB T 1).length = 32 := hmacF_length _ _
      have hT2 : (lastB T 2).length = 32 := hmacF_length _ _
      have agg : aggB (.agg (bytesOf S)) = some S := aggB_of hSt
      have rd : ∀ (K : Heap) (v : V) (n : Int), (n = 2 ∨ n = 3) → slB K v = some [120] → s_Derive [.agg (bytesOf S), v, .int .i64 n] K = some (newV K n.toNat, K.new (.cells (bytesOf (keysB T n.toNat)) 25 32 true)) := fun K v n hn hv => by
        unfold s_Derive
        simp only [agg, hv]
        rw [if_pos ⟨hSl, by rw [htl]; decide⟩, if_pos hn, hT]
      have rdR : ∀ (K : Heap) (v : V) (n : Int), (n = 2 ∨ n = 3) → hasTabs K → slB K v = some [120] → s_DeriveR [.agg (bytesOf S), v, .int .i64 n] K = some (newV K n.toNat, K.new (.cells (bytesOf (keysB T n.toNat)) 25 32 true)) := fun K v n hn hk hv => by
        unfold s_DeriveR
        simp only [agg, hv]
        rw [if_pos ⟨hSl, by rw [htl]; decide, hk⟩, if_pos hn, hT]
      have hx : ∀ (K : Heap) (q : Nat), K.get q = some (.cells [.int .u8 120] 5 1 true) → slB K (.slice q 0 1 (some 1)) = some [120] := fun K q hg => by
        have hb := slB_at (H := K) (q := q) (o := 0) (n := 1) (c := some 1) (own := true) (t := 5) (all := [120]) hg (by decide) (by simp) (.inr rfl)
        simpa using hb
      obtain ⟨A, hA⟩ : ∃ A, A = h.new (.cells [.int .u8 120] 5 1 true) := ⟨_, rfl⟩
      have nA : A.next = h.next + 1 := by rw [hA]; rfl
      have eA : Ext h A := by rw [hA]; exact Ext.new h _
      have fA : Fresh A := by rw [hA]; exact hf.new _
      have gA : A.get h.next = some (.cells [.int .u8 120] 5 1 true) := by rw [hA, Heap.get_new]; exact if_pos rfl
      have r1 := rd A (.slice h.next 0 1 (some 1)) 2 (.inl rfl) (hx _ _ (by rw [hA, Heap.get_new]; exact if_pos rfl))
      obtain ⟨B, hB⟩ : ∃ B, B = A.new (.cells (bytesOf (keysB T 2)) 25 32 true) := ⟨_, rfl⟩
      have nB : B.next = h.next + 2 := by rw [hB]; simp [nA]
      have eB : Ext h B := by rw [hB]; exact eA.trans_new _
      have fB : Fresh B := by rw [hB]; exact fA.new _
      have gB : B.get (h.next + 1) = some (.cells (bytesOf (keysB T 2)) 25 32 true) := by rw [hB, Heap.get_new]; exact if_pos nA.symm
      obtain ⟨C, hC⟩ : ∃ C, C = B.new (.cells [.int .u8 120] 5 1 true) := ⟨_, rfl⟩
      have nC : C.next = h.next + 3 := by rw [hC]; simp [nB]
      have eBC : Ext B C := by rw [hC]; exact Ext.new B _
      have fC : Fresh C := by rw [hC]; exact fB.new _
      have gC : C.get (h.next + 2) = some (.cells [.int .u8 120] 5 1 true) := by rw [hC, Heap.get_new]; exact if_pos nB.symm
      have r2 := rd C (.slice (h.next + 2) 0 1 (some 1)) 3 (.inr rfl) (hx _ _ (by rw [hC, Heap.get_new]; exact if_pos nB.symm))
      obtain ⟨D, hD⟩ : ∃ D, D = C.new (.cells (bytesOf (keysB T 3)) 25 32 true) := ⟨_, rfl⟩
      have nD : D.next = h.next + 4 := by rw [hD]; simp [nC]
      have eBD : Ext B D := by rw [hD]; exact eBC.trans_new _
      have fD : Fresh D := by rw [hD]; exact fC.new _
      have gD1 := eBD.get fB gB
      have gD3 : D.get (h.next + 3) = some (.cells (bytesOf (keysB T 3)) 25 32 true) := by rw [hD, Heap.get_new]; exact if_pos nC.symm
      have q10 := keysB_rb (i := 0) (o := 0) gD1 (by omega) rfl
      have q11 := keysB_rb (i := 1) (o := 32) gD1 (by omega) rfl
      have q30 := keysB_rb (i := 0) (o := 0) gD3 (by omega) rfl
      have q31 := keysB_rb (i := 1) (o := 32) gD3 (by omega) rfl
      have e1 : ∀ H, eqArrS false 32 (.agg (bytesOf (lastB T 1))) (.agg (bytesOf (lastB T 1))) H = some (.bool true, H) := fun H => eqArrS_same hT1
      have e2 : ∀ H, eqArrS false 32 (.agg (bytesOf (lastB T 2))) (.agg (bytesOf (lastB T 2))) H = some (.bool true, H) := fun H => eqArrS_same hT2
      obtain ⟨E, hE⟩ : ∃ E, E = (D.gap 39).set (D.next + 31) (some (.cells [.int .u8 120] 5 1 true)) := ⟨_, rfl⟩
      have nE : E.next = D.next + 39 := by rw [hE]; rfl
      have eDE : Ext D E := by rw [hE]; exact (Ext.gap D 39).trans_set (by omega) _
      have fE : Fresh E := by rw [hE]; exact fD.gap.set (by simp [next_gap]) _
      have r3 := rdR E (.slice (D.next + 31) 0 1 (some 1)) 2 (.inl rfl) (hasTabs_ext htab hf ((eB.trans eBD).trans eDE)) (hx _ _ (by rw [hE, Heap.get_set]; exact if_pos rfl))
      obtain ⟨F, hF⟩ : ∃ F, F = E.new (.cells (bytesOf (keysB T 2)) 25 32 true) := ⟨_, rfl⟩
      have eF : Ext h F := by rw [hF]; exact ((eB.trans eBD).trans eDE).trans_new _
      have gF : F.get (D.next + 39) = some (.cells (bytesOf (keysB T 2)) 25 32 true) := by rw [hF, Heap.get_new]; exact if_pos nE.symm
      have q50 := keysB_rb (i := 0) (o := 0) gF (by omega) rfl
      have gF1 : F.get (h.next + 1) = some (.cells (bytesOf (keysB T 2)) 25 32 true) := by rw [hF]; exact (eDE.trans_new _).get fD gD1
      have q51 := keysB_rb (i := 0) (o := 0) gF1 (by omega) rfl
      have hb0 : ∀ n, (bare0 n).next = n := fun _ => rfl
      refine ⟨5, ?_⟩
      simp (config := {maxSteps := 1000000, maxDischargeDepth := 9, implicitDefEqProofs := false}) [c7, hSecret, s_Secret, ← hS, hDerive, ← hA, gA, r1, ← hB, nA, nB, ← hC, gC, r2, ← hD, nC, q10, q11, q30, q31, e1, e2, mem_bytes_one, hb0, hDeriveR, ← hE, r3, ← hF, nE, q50, q51]
      exact Canon.keep hf hsc eF (by simp only [V.lt])
    · cases hs
  · cases hs

theorem seg_added {K : Heap} {q i : Nat} {T : List Nat} (hg : K.get q = some (.cells (bytesOf (keysB T 3)) 25 32 true)) (hi : i < 3) : added K 1 (.slice q (32 * i) 32 (some 32)) = some (bytesOf (lastB T (i + 1)), (lastB T (i + 1)).length) := by
  have hl : (lastB T (i + 1)).length = 32 := hmacF_length _ _
  have hr := keysB_rd (i := i) (o := 32 * i) hg hi rfl
  simp only [added, Nat.mul_one, hr, Option.map_some, hl]
theorem own_start_app (H : Heap) (hF : Fresh H) (a : List Nat) (ha : a.length = 32) (va : V) (hva : added (H.new (.cells [] 5 1 true)) 1 va = some (bytesOf a, a.length)) :
    ∃ v1 A2, appendV (H.new (.cells [] 5 1 true)) 5 1 1 (.slice H.next 0 0 (some 0)) va = some (v1, A2) ∧ OwnB H A2 5 v1 a ∧ Ext H A2 ∧ Fresh A2 := by
  have hlm : lim = 140737488354304 := rfl
  obtain ⟨v1, A2, a1, a2, a3, a4, a5, a6, a7⟩ := (OwnB.start H 5).app (Ext.new H _) (hF.new _) hva (by rw [hlm]; simp; omega)
  exact ⟨v1, A2, a1, by rw [List.nil_append] at a2; exact a2, a3, a4⟩
theorem law_KdfChains (cf : ACall) (hknown : ∀ a h, cf 7 a h = s_known8 a h) (hDerive : ∀ a h, cf 8 a h = s_Derive a h) (hHmac : ∀ a h, cf 9 a h = s_Hmac a h)
    (h : Heap) (c s : List Nat) (va : V) (hf : Fresh h) (htab : hasTabs h) (hc : c.length = 32) (hcb : ∀ y ∈ c, y < 256) (hla : V.lt h.next va) (ha : slB h va = some s) (hs : s.length ≤ 140737488354000) :
    ∃ N, Runs (bodyA cf N c6 [.agg (bytesOf c), va] h) fun v _ => v = .bool true := by
  have htl : tlim = 140737488354000 := rfl
  have hlm : lim = 140737488354304 := rfl
  obtain ⟨A, hA⟩ : ∃ A, A = h.new (.cells (bytesOf c) 25 1 true) := ⟨_, rfl⟩
  have eA : Ext h A := by rw [hA]; exact Ext.new h _
  have fA : Fresh A := by rw [hA]; exact hf.new _
  have nA : A.next = h.next + 1 := by rw [hA]; rfl
  have gA : A.get h.next = some (.cells (bytesOf c) 25 1 true) := by rw [hA, Heap.get_new]; exact if_pos rfl
  have agg : aggB (.agg (bytesOf c)) = some c := aggB_of hcb
  have tk : (bytesOf c).take 32 = bytesOf c := List.take_of_length_le (by rw [bytesOf_length]; omega)
  obtain ⟨T, hT⟩ : ∃ T, T = hmacF c s := ⟨_, rfl⟩
  have hTl : T.length = 32 := by rw [hT]; exact hmacF_length _ _
  have hTt : ∀ y ∈ T, y < 256 := by rw [hT]; exact hmacF_lt _ _
  have rD : s_Derive [.agg (bytesOf c), va, .int .i64 3] A = some (.slice (h.next + 1) 0 3 none, A.new (.cells (bytesOf (keysB T 3)) 25 32 true)) := by
    unfold s_Derive
    simp only [agg, slB_ext eA hf ha]
    rw [if_pos ⟨hc, by rw [htl]; exact hs⟩, if_pos (by simp), ← hT, ← nA]; rfl
  obtain ⟨B, hB⟩ : ∃ B, B = A.new (.cells (bytesOf (keysB T 3)) 25 32 true) := ⟨_, rfl⟩
  have eAB : Ext A B := by rw [hB]; exact Ext.new A _
  have eB : Ext h B := eA.trans eAB
  have fB : Fresh B := by rw [hB]; exact fA.new _
  have nB : B.next = h.next + 2 := by rw [hB]; simp [nA]
  have gB : B.get (h.next + 1) = some (.cells (bytesOf (keysB T 3)) 25 32 true) := by rw [hB, Heap.get_new]; exact if_pos nA.symm
  have rk : s_known8 [] B = some (.bool true, B) := by
    unfold s_known8
    simp only [hasTabs_ext htab hf eB, if_true]
  have sB0 := box_slB (eAB.get fA gA) hc hcb
  have r1 : s_Hmac [.slice h.next 0 32 (some 32), va] B = some (.agg (bytesOf T), B) := by
    unfold s_Hmac
    simp only [sB0, slB_ext eB hf ha]
    rw [if_pos ⟨by rw [htl]; omega, by rw [htl]; exact hs⟩, hT]
  obtain ⟨C, hC⟩ : ∃ C, C = B.new (.cells (bytesOf T) 25 1 true) := ⟨_, rfl⟩
  have eBC : Ext B C := by rw [hC]; exact Ext.new B _
  have fC : Fresh C := by rw [hC]; exact fB.new _
  have nC : C.next = h.next + 3 := by rw [hC]; simp [nB]
  have gC1 := eBC.get fB gB
  have gC2 : C.get (h.next + 2) = some (.cells (bytesOf T) 25 1 true) := by rw [hC, Heap.get_new]; exact if_pos nB.symm
  obtain ⟨L1, hL1⟩ : ∃ L, L = lastB T 1 := ⟨_, rfl⟩
  obtain ⟨L2, hL2⟩ : ∃ L, L = lastB T 2 := ⟨_, rfl⟩
  obtain ⟨L3, hL3⟩ : ∃ L, L = lastB T 3 := ⟨_, rfl⟩
  have k1l : L1.length = 32 := by rw [hL1]; exact hmacF_length _ _
  have k2l : L2.length = 32 := by rw [hL2]; exact hmacF_length _ _
  have k3l : L3.length = 32 := by rw [hL3]; exact hmacF_length _ _
  have k1t : ∀ y ∈ L1, y < 256 := by rw [hL1]; exact hmacF_lt _ _
  have k2t : ∀ y ∈ L2, y < 256 := by rw [hL2]; exact hmacF_lt _ _
  have m1 : hmacF T [1] = L1 := by rw [hL1]; rfl
  have m2 : hmacF T (L1 ++ [2]) = L2 := by rw [hL2, hL1]; rfl
  have m3 : hmacF T (L2 ++ [3]) = L3 := by rw [hL3, hL2]; rfl
  have eC0 : Ext B (C.new (.cells [] 5 1 true)) := eBC.trans_new _
  have d1 := seg_added (i := 0) (eC0.get fB gB) (by omega)
  rw [← hL1] at d1
  obtain ⟨x1, D, a1, a2, a3, a4⟩ := own_start_app C fC L1 k1l _ d1
  have eBD := eBC.trans a3
  have d2 := seg_added (i := 1) ((eBD.trans_new (.cells [] 5 1 true)).get fB gB) (by omega)
  rw [← hL2] at d2
  obtain ⟨x2, E, b1, b2, b3, b4⟩ := own_start_app D a4 L2 k2l _ d2
  have eCE := a3.trans b3
  have eBE := eBD.trans b3
  have fE : Fresh E := b4
  have nDE : D.next ≤ E.next := b3.1
  obtain ⟨F1, hF1⟩ : ∃ F, F = E.new (.cells [.int .u8 1] 5 1 true) := ⟨_, rfl⟩
  have f1 : Fresh F1 := by rw [hF1]; exact fE.new _
  have eEF1 : Ext E F1 := by rw [hF1]; exact Ext.new E _
  have n1 : F1.next = E.next + 1 := by rw [hF1]; rfl
  obtain ⟨F2, hF2⟩ : ∃ F, F = F1.new (.cells [.int .u8 2] 5 1 true) := ⟨_, rfl⟩
  have f2 : Fresh F2 := by rw [hF2]; exact f1.new _
  have eEF2 : Ext E F2 := by rw [hF2]; exact eEF1.trans_new _
  have n2 : F2.next = E.next + 2 := by rw [hF2]; simp [n1]
  have one : ∀ (K : Heap) (q : Nat) (x : Nat), x < 256 → K.get q = some (.cells [.int .u8 (x : Int)] 5 1 true) → slB K (.slice q 0 1 (some 1)) = some [x] := fun K q x hx hg => by
    have hb := slB_at (H := K) (q := q) (o := 0) (n := 1) (c := some 1) (own := true) (t := 5) (all := [x]) hg (by simp; omega) (by simp) (.inr rfl)
    simpa using hb
  have hm : ∀ (K : Heap) (v : V) (u : List Nat), K.get (h.next + 2) = some (.cells (bytesOf T) 25 1 true) → slB K v = some u → u.length ≤ 140 → s_Hmac [.slice (h.next + 2) 0 32 (some 32), v] K = some (.agg (bytesOf (hmacF T u)), K) := fun K v u hg hv hu => by
    unfold s_Hmac
    simp only [box_slB hg hTl hTt, hv]
    rw [if_pos ⟨by rw [htl]; omega, by rw [htl]; omega⟩]
  have eCF1 := eCE.trans eEF1
  have r2 := hm F1 _ [1] (eCF1.get fC gC2) (one F1 E.next 1 (by omega) (by rw [hF1, Heap.get_new, if_pos rfl]; rfl)) (by simp)
  rw [m1] at r2
  -- the second
  have eCF2 := eCE.trans eEF2
  rcases a2 with hz | ⟨w1, c1, w2, w3, w4, w5, w6, w7⟩
  · have := hz.2.2
    rw [← bytesOf_nil] at this
    have h0 := congrArg List.length this
    rw [bytesOf_length, bytesOf_length, k1l] at h0
    simp at h0
  rcases b2 with hz | ⟨y1, d1', y2, y3, y4, y5, y6, y7⟩
  · have := hz.2.2
    rw [← bytesOf_nil] at this
    have h0 := congrArg List.length this
    rw [bytesOf_length, bytesOf_length, k2l] at h0
    simp at h0
  have o1 : OwnB C F2 5 x1 L1 := .inr ⟨w1, c1, w2, w3, w4, by omega, w6, (b3.trans eEF2).get a4 w7⟩
  obtain ⟨z1, F3, p1, p2, p3, p4, p5, p6, p7⟩ := o1.app eCF2 f2 (slB_added (one F2 (E.next + 1) 2 (by omega) (by rw [hF2, Heap.get_new, if_pos n1.symm]; rfl))) (by rw [hlm]; simp; omega)
  have r3 := hm F3 _ (L1 ++ [2]) (p3.get fC gC2) (p2.slB (fun y hy => by
    rcases List.mem_append.1 hy with hy | hy
    · exact k1t y hy
    · simp at hy; omega)) (by simp; omega)
  rw [m2] at r3
  -- the third
  have o2 : OwnB C F3 5 x2 L2 := by
    have := a3.1
    refine .inr ⟨y1, d1', y2, y3, by omega, by omega, y6, ?_⟩
    rw [p7 y1 (by omega) (fun oo c hh => by rw [w2] at hh; injection hh; omega)]
    exact eEF2.get fE y7
  obtain ⟨F4, hF4⟩ : ∃ F, F = F3.new (.cells [.int .u8 3] 5 1 true) := ⟨_, rfl⟩
  have f4 : Fresh F4 := by rw [hF4]; exact p4.new _
  have eCF4 : Ext C F4 := by rw [hF4]; exact p3.trans_new _
  have o2' : OwnB C F4 5 x2 L2 := by rw [hF4]; exact Own.ext_new _ o2 p4
  obtain ⟨z2, F5, s1, s2, s3, s4, s5, s6, s7⟩ := o2'.app eCF4 f4 (slB_added (one F4 F3.next 3 (by omega) (by rw [hF4, Heap.get_new, if_pos rfl]; rfl))) (by rw [hlm]; simp; omega)
  have r4 := hm F5 _ (L2 ++ [3]) (s3.get fC gC2) (s2.slB (fun y hy => by
    rcases List.mem_append.1 hy with hy | hy
    · exact k2t y hy
    · simp at hy; omega)) (by simp; omega)
  rw [m3] at r4
  have kE := eBE.get fB gB
  have k1 := (eBC.trans eCF1).get fB gB
  have k2 := (eBC.trans eCF2).get fB gB
  have k3 := (eBC.trans p3).get fB gB
  have k4 := (eBC.trans eCF4).get fB gB
  have k5 := (eBC.trans s3).get fB gB
  have q0 := keysB_rb (i := 0) (o := 0) kE (by omega) rfl
  have q1 := keysB_rb (i := 0) (o := 0) k1 (by omega) rfl
  have q2 := keysB_rb (i := 1) (o := 32) k1 (by omega) rfl
  have q3 := keysB_rb (i := 1) (o := 32) k2 (by omega) rfl
  have q4 := keysB_rb (i := 1) (o := 32) k3 (by omega) rfl
  have q5 := keysB_rb (i := 2) (o := 64) k3 (by omega) rfl
  have q6 := keysB_rb (i := 2) (o := 64) k4 (by omega) rfl
  have q7 := keysB_rb (i := 2) (o := 64) k5 (by omega) rfl
  simp only [Nat.zero_add, Nat.reduceAdd, ← hL1, ← hL2, ← hL3] at q0 q1 q2 q3 q4 q5 q6 q7
  have p1' : appendV F2 5 1 1 x1 (.slice (E.next + 1) 0 1 (some 1)) = some (z1, F3) := p1
  have s1' : appendV F4 5 1 1 x2 (.slice F3.next 0 1 (some 1)) = some (z2, F5) := s1
  have hb0 : ∀ n, (bare0 n).next = n := fun _ => rfl
  have hsv : ∀ (H : Heap) (b o n : Nat), sliceV H 1 (.slice b o n (some n)) none none none = some (.slice b o n (some n)) := fun H b o n => by simp [sliceV, bounds, maxOf, highOf, lowOf]
  have hovz : over [V.int .u8 0, V.int .u8 0, V.int .u8 0, V.int .u8 0, V.int .u8 0, V.int .u8 0, V.int .u8 0, V.int .u8 0, V.int .u8 0, V.int .u8 0, V.int .u8 0, V.int .u8 0, V.int .u8 0, V.int .u8 0, V.int .u8 0, V.int .u8 0, V.int .u8 0, V.int .u8 0, V.int .u8 0, V.int .u8 0, V.int .u8 0, V.int .u8 0, V.int .u8 0, V.int .u8 0, V.int .u8 0, V.int .u8 0, V.int .u8 0, V.int .u8 0, V.int .u8 0, V.int .u8 0, V.int .u8 0, V.int .u8 0] 0 (bytesOf T) = bytesOf T := by
    unfold over; simp [bytesOf_length, hTl]
  rw [nC] at a1
  have a1' : appendV (C.new (.cells [] 5 1 true)) 5 1 1 (.slice (h.next + 3) 0 0 (some 0)) (.slice (h.next + 1) 0 32 (some 32)) = some (x1, D) := a1
  have ov1 : ∀ z : V, over [V.int .u8 0] 0 [z] = [z] := fun z => rfl
  refine ⟨5, ?_⟩
  simp (config := {maxSteps := 1000000, maxDischargeDepth := 9, implicitDefEqProofs := false}) [c6, ← hA, gA, tk, hc, mem_bytes_one, hDerive, rD, ← hB, hknown, rk, hsv, hHmac, r1, nB, hTl, hovz, ← hC, nC, a1', b1, q0, q1, q2, q3, q4, q5, q6, q7, ← hF1, r2, eqArrS_same k1l, n1, ← hF2, p1', r3, eqArrS_same k2l, ← hF4, s1', r4, eqArrS_same k3l, ov1, -over]

end
end Go.Proofs.YtobnkgajgodioaaDoor.KdfChains
