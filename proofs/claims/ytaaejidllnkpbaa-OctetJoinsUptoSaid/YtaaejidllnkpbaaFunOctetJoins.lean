/- What the functions that the law OctetJoins reaches do, each told once, and the law by them. No condition. -/
import Derived.Test.YtaaejidllnkpbaaCodeOctetJoins
namespace Go.Proofs.Ytaaejidllnkpbaa.OctetJoins
open Go Go.Proofs.YtaaejidllnkpbaaA
set_option linter.unusedSimpArgs false
set_option linter.unusedVariables false
set_option maxHeartbeats 4000000
set_option maxRecDepth 100000
attribute [local simp] body_eq exec_seq exec_region exec_skip exec_ret exec_exit exec_cond exec_block seqS_normal seqS_ret seqS_exit seqS_none seqS_bif regS_some regS_none regS_bif condS_bool condS_true
  condS_false blockS_normal blockS_ret blockS_exit blockS_none blockS_bif finS_normal finS_ret finS_bif steps_nil steps_cons steps_guard bindS_some bindS_none bindS_bif endS_some
  endS_skip endS_none endS_bif gstep_some gstep_true gstep_false wantV_true wantV_false wantV_undef wantV_gdv_true wantV_gdv_false gdv_true gdv_false aop_pick pickS_or pickS_and
  pickS_true pickS_false bif_bool put_some put_none Env.at_put Env.n_put at_init n_init Opd.ev ressA resA pack Heap.get_new Heap.get_set nextOf_new Heap.next_set nth fillV zeros over
  eqv read_eq read_zero readB_cells one_bool one_int one_str one_ptr one_nilptr one_slice one_nilslice cells_bool cells_int cells_str cells_ptr cells_nilptr cells_slice
  cells_nilslice cells_agg aop_move aop_box aop_boxv boxvS_agg boxvS_int boxvS_bool boxvS_str boxvS_slice boxvS_nilslice aop_build buildS_some aop_buildSlice buildSliceS_some
  aop_load loadS_ptr loadB_cells loadC_some aop_loadn loadnS_ptr aop_store storeS_ptr writeB_cells aop_bin binS_lss binS_leq binS_gtr binS_geq binS_eql binS_neq binS_add binS_sub
  binS_mul binS_quo binS_rem binS_and binS_or binS_xor binS_shl binS_shr binS_seql binS_sneq binS_sadd aop_eq eqS_some_f eqS_some_t aop_un unS_not unS_neg aop_conv convS_int
  aop_convStr convStrS_str aop_intStr intStrS_int aop_strBytes strBytesS_str aop_bytesStr bytesStrS_nil bytesStrS_slice aop_mkIface aop_mkFunc aop_makeSlice makeS_int aop_sliceStr
  sliceStrS_str sliceStrB_some someS_some aop_sliceSl aop_sliceArr sliceArrS_ptr aop_fieldAddr fieldAddrS_ptr aop_field fieldS_agg fieldS_aggn aop_indexAddrA indexAddrAS_ptr
  aop_indexAddrS indexAddrSS_slice aop_indexA indexAS_agg byteS_some aop_indexStr indexStrS_str aop_extract extractS_tuple aop_call callS_func aop_append aop_copy aop_lenS lenSS_str
  aop_lenL lenLS_nil lenLS_slice aop_minmax minmaxS_min minmaxS_max aop_convSame convSameS_slice convSameB_cells aop_lenC Heap.set_newE Heap.kill_newE Heap.set_new_ne
  Heap.set_gone_ne Heap.set_set Heap.get_gone Heap.next_gone loopE_n loopE_at Runs_some Ends_some Ends_none Runs_none VCL_nil VCL_cons VC_tuple VC_agg VC_bool VC_int VC_str VC_nil
  VC_nilptr VC_ptr VC_slice_nn VC_slice_ns VC_slice_s moved_at most_val lim_val next_add vlen_slice vlen_nil isSl_slice isSl_nil atP_slice newV sl_new slB_new slK_new sl_gone
  slB_gone slK_gone lt_slice lt_nil lt_ptr lt_cut sl_selfE slB_litE slK_litE asB asB_bytesOf asK asK_map slB_nil slK_nil slBs Fresh.new Fresh.gone indexE bytesStrE loadBE slice_lo
  slice_hi slice_lohi slB_cut vlen_cut isSl_cut one_cut cells_cut lenE aop_nilCheck nilCheckS_ptr aop_appendZ aop_eqArr IntKind.bits Int.fdiv_eq_ediv_of_nonneg bytesOf_length
  sameV_refl gval_true gval_false gval_some traceA_nil traceA_cons consT_some mapT_some stepV_none stepV_guard exec_any anyS_some chkOk_nil chkOk_cons sameS_some chk2_some chk1_eq
  envL_nil envL_cons heapL_nil heapL_cons heapO_some heapB_zero heapB_succ isWriter nth_bytesOf nth_ints str_hi str_lo wrap_i64 wrap_i32 wrap_u64 wrap_u32 wrap_u8 exec_float
  fltS_some traceG_nil traceG_cons consG_some viewS_some stepF_bif floatS_float isF isAlloc isReader actH_nil actH_cons1 act1_new act1_bare act1_new0 act1_bare0 read_gap sl_gap
  slB_gap slK_gap get_gap next_gap Fresh.gap
attribute [local congr] gstep_congr gval_congr
noncomputable section
/-- portholehand.Few: the first bytes, in new memory. -/
def s_Few : List V → Heap → Option (V × Heap)
  | [v, .int .i64 k], h => match slB h v with
    | some s => if s.length ≤ lim ∧ 0 ≤ k then some (newV h (s.take k.toNat).length, h.new (.cells (bytesOf (s.take k.toNat)) 5 1 true)) else none
    | none => none
  | _, _ => none

theorem Few_ok (cf : ACall) : Sum cf c25 s_Few := by
  intro args h v h' hf hsc hlt hs
  unfold s_Few at hs
  split at hs
  · rename_i a k
    split at hs
    · rename_i s ha
      split at hs
      · rename_i hl
        simp only [Option.some.injEq, Prod.mk.injEq] at hs
        obtain ⟨rfl, rfl⟩ := hs
        have hv := slB_vlen ha
        have hsl := slB_isSl ha
        have ha' := slB_ext (Ext.new h (.cells [] 5 1 true)) hf ha
        obtain ⟨m, hm⟩ : ∃ m : Int, m = if k < (s.length : Int) then k else (s.length : Int) := ⟨_, rfl⟩
        have hm0 : 0 ≤ m ∧ m ≤ vlen a := by rw [hm, hv]; split <;> omega
        have hcut := slice_hi (k := .i64) (h := h.new (.cells [] 5 1 true)) (by rw [ha']; rfl) hm0.1 hm0.2
        have hcb := slB_cut (l := 0) (r := m.toNat) (by rw [ha']; rfl) (Nat.zero_le _) (by omega)
        have htake : s.take m.toNat = s.take k.toNat := by
          rw [hm]; split
          · rfl
          · rw [List.take_of_length_le (by omega), List.take_of_length_le (by omega)]
        rw [ha', Option.map_some, List.drop_zero, htake] at hcb
        obtain ⟨v2, h2, k1, k2, k3, k4, _, k6, _⟩ := (OwnB.start h 5).app (Ext.new h _) (hf.new _) (slB_added hcb) (by simp only [List.length_nil, Nat.zero_add, List.length_take]; omega)
        obtain ⟨τ, hc⟩ := k2.canon hf hsc k3 (k6 (by simp))
        refine ⟨1, v2, h2, ?_, τ, hc⟩
        simp (config := {maxSteps := 1000000, maxDischargeDepth := 9, implicitDefEqProofs := false}) [c25, lenE hsl, hv, ← hm, hcut, k1]
      · cases hs
    · cases hs
  · cases hs

/-- A number of the first bytes, as it is gathered. -/
def orU (a b : Int) : Int := wrapF .u64 (((a % 18446744073709551616).toNat ||| (b % 18446744073709551616).toNat : Nat) : Int)
def getU (s : List Nat) : Nat → Int
  | 0 => 0
  | i + 1 => orU (getU s i) (wrapF .u64 ((s.getD i 0 : Int) * 2 ^ (8 * i)))

/-- octet.get. -/
def s_get : List V → Heap → Option (V × Heap)
  | [v, .int .i64 n], h => match slB h v with
    | some s => if 0 ≤ n ∧ n ≤ 8 then some (if (s.length : Int) < n then .tuple [.int .u64 0, .bool false] else .tuple [.int .u64 (getU s n.toNat), .bool true], h) else none
    | none => none
  | _, _ => none

theorem get_ok (cf : ACall) : Sum cf c31 s_get := by
  intro args h v h' hf hsc hlt hs
  unfold s_get at hs
  split at hs
  · rename_i vb n0
    split at hs
    · rename_i s hb
      split at hs
      · rename_i hn0
        simp only [Option.some.injEq, Prod.mk.injEq] at hs
        obtain ⟨rfl, rfl⟩ := hs
        obtain ⟨n, rfl⟩ : ∃ n : Nat, n0 = (n : Int) := ⟨n0.toNat, by omega⟩
        have hn8 : n ≤ 8 := by omega
        have hsl := slB_isSl hb
        have hvl := slB_vlen hb
        simp only [Int.toNat_natCast] at *
        refine ⟨n + 1, ?_⟩
        by_cases hc : s.length < n
        · have hc' : ((s.length : Int) < (n : Int)) := by omega
          rw [if_pos hc']
          simp (config := {maxSteps := 1000000, maxDischargeDepth := 9, implicitDefEqProofs := false}) [c31, hsl, hvl, hc]
          exact Canon.keep hf hsc (Ext.refl _) (by simp [V.lt, ltL])
        · have hc' : ¬ ((s.length : Int) < (n : Int)) := by omega
          rw [if_neg hc']
          have L := loop_count (cf := cf) (N := n + 1) (c := c31_l0) n
            (fun i e H => e.n = 28 ∧ e.at 0 = vb ∧ e.at 6 = .int .u64 (getU s i) ∧ e.at 12 = .int .i64 (n : Int) ∧ e.at 13 = .int .i64 (i : Int) ∧ H = h)
            (fun x' e H => x' = .exit 0 ∧ e.n = 28 ∧ e.at 6 = .int .u64 (getU s n) ∧ H = h)
            (by
              rintro i e H hi ⟨hn, h0, h6, h12, h13, rfl⟩
              have hsh : (8 * (i : Int)).toNat = 8 * i := by omega
              have hmin : min (8 * i) 64 = 8 * i := by omega
              have hw : wrapF .i64 (8 * (i : Int)) = 8 * (i : Int) := wrap_i64 (by omega) (by omega)
              have hby := slB_lt hb (s.getD i 0) (by rw [List.getD_eq_getElem?_getD, List.getElem?_eq_getElem (by omega)]; simp)
              have hwb : wrapF .u64 ((s.getD i 0 : Nat) : Int) = ((s.getD i 0 : Nat) : Int) := wrap_u64 (by omega) (by omega)
              rw [List.getD_eq_getElem?_getD, List.getElem?_eq_getElem (by omega), Option.getD_some] at hwb
              have hgu : getU s (i + 1) = orU (getU s i) (wrapF .u64 ((s[i] : Int) * 2 ^ (8 * i))) := by
                simp only [getU]; rw [List.getD_eq_getElem?_getD, List.getElem?_eq_getElem (by omega), Option.getD_some]
              simp (config := {maxSteps := 1000000, maxDischargeDepth := 9, implicitDefEqProofs := false}) [c31_l0, hn, h0, h6, h12, h13, hi, hsl, hvl, show i < s.length from by omega, hb, hw, hsh, hmin, hwb, hgu, orU, modK, show ¬ (8 * (i : Int) < 0) from by omega, wrap_i64 (x := (i : Int) + 1) (by omega) (by omega)])
            (by
              rintro e H ⟨hn, h0, h6, h12, h13, rfl⟩
              simp (config := {maxSteps := 1000000, maxDischargeDepth := 9, implicitDefEqProofs := false}) [c31_l0, hn, h0, h6, h12, h13])
          simp (config := {maxSteps := 1000000, maxDischargeDepth := 9, implicitDefEqProofs := false}) [c31, hsl, hvl, hc]
          refine loop_then (K := fun r => finS _ (seqS _ _ _ (blockS _ r))) (L 0 _ _ (Nat.zero_le _) ?_ (Nat.lt_succ_self _)) ?_
          · simp (config := {maxSteps := 1000000, maxDischargeDepth := 9, implicitDefEqProofs := false}) [getU]
          · rintro x e' H ⟨rfl, hn, h6, rfl⟩
            simp (config := {maxSteps := 1000000, maxDischargeDepth := 9, implicitDefEqProofs := false}) [hn, h6]
            exact Canon.keep hf hsc (Ext.refl _) (by simp [V.lt, ltL])
      · cases hs
    · cases hs
  · cases hs

/-- octet.Get32. -/
def s_Get32 : List V → Heap → Option (V × Heap)
  | [v], h => match slB h v with
    | some s => some (if (s.length : Int) < 4 then .tuple [.int .u32 0, .bool false] else .tuple [.int .u32 (wrapF .u32 (getU s 4)), .bool true], h)
    | none => none
  | _, _ => none

theorem Get32_ok (cf : ACall) (hget : ∀ a h, cf 31 a h = s_get a h) : Sum cf c15 s_Get32 := by
  intro args h v h' hf hsc hlt hs
  unfold s_Get32 at hs
  split at hs
  · rename_i vb
    split at hs
    · rename_i s hb
      simp only [Option.some.injEq, Prod.mk.injEq] at hs
      obtain ⟨rfl, rfl⟩ := hs
      refine ⟨1, ?_⟩
      by_cases hc : (s.length : Int) < 4
      · simp (config := {maxSteps := 1000000, maxDischargeDepth := 9, implicitDefEqProofs := false}) [c15, hget, s_get, hb, hc]
        exact Canon.keep hf hsc (Ext.refl _) (by simp [V.lt, ltL])
      · simp (config := {maxSteps := 1000000, maxDischargeDepth := 9, implicitDefEqProofs := false}) [c15, hget, s_get, hb, hc]
        exact Canon.keep hf hsc (Ext.refl _) (by simp [V.lt, ltL])
    · cases hs
  · cases hs

/-- octet.Get64. -/
def s_Get64 : List V → Heap → Option (V × Heap)
  | [v], h => match slB h v with
    | some s => some (if (s.length : Int) < 8 then .tuple [.int .u64 0, .bool false] else .tuple [.int .u64 (getU s 8), .bool true], h)
    | none => none
  | _, _ => none

theorem Get64_ok (cf : ACall) (hget : ∀ a h, cf 31 a h = s_get a h) : Sum cf c17 s_Get64 := by
  intro args h v h' hf hsc hlt hs
  unfold s_Get64 at hs
  split at hs
  · rename_i vb
    split at hs
    · rename_i s hb
      simp only [Option.some.injEq, Prod.mk.injEq] at hs
      obtain ⟨rfl, rfl⟩ := hs
      refine ⟨1, ?_⟩
      by_cases hc : (s.length : Int) < 8
      · simp (config := {maxSteps := 1000000, maxDischargeDepth := 9, implicitDefEqProofs := false}) [c17, hget, s_get, hb, hc]
        exact Canon.keep hf hsc (Ext.refl _) (by simp [V.lt, ltL])
      · simp (config := {maxSteps := 1000000, maxDischargeDepth := 9, implicitDefEqProofs := false}) [c17, hget, s_get, hb, hc]
        exact Canon.keep hf hsc (Ext.refl _) (by simp [V.lt, ltL])
    · cases hs
  · cases hs

/-- The lowest bytes of a number. -/
def putB (v : Int) (n : Nat) : List Nat := (List.range n).map fun i => (v / 2 ^ (8 * i) % 256).toNat
theorem putB_length (v : Int) (n : Nat) : (putB v n).length = n := by simp [putB]
theorem putB_lt (v : Int) (n : Nat) : ∀ y ∈ putB v n, y < 256 := by
  intro y hy
  simp only [putB, List.mem_map] at hy
  obtain ⟨i, _, rfl⟩ := hy
  have := Int.emod_nonneg (v / 2 ^ (8 * i)) (show (256 : Int) ≠ 0 by omega)
  have := Int.emod_lt_of_pos (v / 2 ^ (8 * i)) (show (0 : Int) < 256 by omega)
  omega
theorem putB_succ (v : Int) (n : Nat) : putB v (n + 1) = putB v n ++ [(v / 2 ^ (8 * n) % 256).toNat] := by simp [putB, List.range_succ]

/-- octet.put. -/
def s_put : List V → Heap → Option (V × Heap)
  | [.int .u64 v, .int .i64 n], h => if 0 ≤ n ∧ n ≤ 8 then some (newV h n.toNat, h.new (.cells (bytesOf (putB v n.toNat)) 5 1 true)) else none
  | _, _ => none

theorem put_ok (cf : ACall) : Sum cf c32 s_put := by
  intro args h v h' hf hsc hlt hs
  unfold s_put at hs
  split at hs
  · rename_i x n0
    split at hs
    · rename_i hn0
      simp only [Option.some.injEq, Prod.mk.injEq] at hs
      obtain ⟨rfl, rfl⟩ := hs
      obtain ⟨n, rfl⟩ : ∃ n : Nat, n0 = (n : Int) := ⟨n0.toNat, by omega⟩
      have hn8 : n ≤ 8 := by omega
      simp only [Int.toNat_natCast] at *
      refine ⟨n + 1, ?_⟩
      have L := loop_count (cf := cf) (N := n + 1) (c := c32_l0) n
        (fun i e H => e.n = 24 ∧ e.at 0 = .int .u64 x ∧ e.at 5 = .slice h.next 0 n (some n) ∧ e.at 10 = .int .i64 (n : Int) ∧ e.at 11 = .int .i64 (i : Int) ∧ H = h.new (.cells (bytesOf (putB x i) ++ List.replicate (n - i) (.int .u8 0)) 5 1 true))
        (fun x' e H => x' = .exit 0 ∧ e.n = 24 ∧ e.at 5 = .slice h.next 0 n (some n) ∧ H = h.new (.cells (bytesOf (putB x n)) 5 1 true))
        (by
          rintro i e H hi ⟨hn, h0, h5, h10, h11, rfl⟩
          obtain ⟨k, hk⟩ : ∃ k, n - i = k + 1 := ⟨n - i - 1, by omega⟩
          have hk2 : n - (i + 1) = k := by omega
          have hov := over_fill (bytesOf (putB x i)) (.int .u8 0) (.int .u8 (x / 2 ^ (8 * i) % 256)) k
          rw [bytesOf_length, putB_length] at hov
          have hm0 := Int.emod_nonneg (x / 2 ^ (8 * i)) (show (256 : Int) ≠ 0 by omega)
          have hb : bytesOf (putB x (i + 1)) = bytesOf (putB x i) ++ [.int .u8 (x / 2 ^ (8 * i) % 256)] := by
            rw [putB_succ, bytesOf_append]
            simp only [bytesOf, List.map_cons, List.map_nil, Int.ofNat_eq_natCast]
            rw [Int.toNat_of_nonneg hm0]
          have hsh : (8 * (i : Int)).toNat = 8 * i := by omega
          have hmin : min (8 * i) 64 = 8 * i := by omega
          have hw : wrapF .i64 (8 * (i : Int)) = 8 * (i : Int) := wrap_i64 (by omega) (by omega)
          have hfd : ∀ y : Int, y.fdiv (2 ^ (8 * i)) = y / 2 ^ (8 * i) := fun y => Int.fdiv_eq_ediv_of_nonneg _ (Int.le_of_lt (Int.pow_pos (by decide)))
          simp (config := {maxSteps := 1000000, maxDischargeDepth := 9, implicitDefEqProofs := false}) [c32_l0, hn, h0, h5, h10, h11, hi, hk, hk2, hb, hov, -over, hw, hsh, hmin, hfd, putB_length, wrap_u8_mod, show ¬ (8 * (i : Int) < 0) from by omega, wrap_i64 (x := (i : Int) + 1) (by omega) (by omega)]
          )
        (by
          rintro e H ⟨hn, h0, h5, h10, h11, rfl⟩
          simp (config := {maxSteps := 1000000, maxDischargeDepth := 9, implicitDefEqProofs := false}) [c32_l0, hn, h0, h5, h10, h11])
      simp (config := {maxSteps := 1000000, maxDischargeDepth := 9, implicitDefEqProofs := false}) [c32, show n ≤ 140737488355328 from by omega, show (n : Int) ≤ 140737488355328 from by omega]
      refine loop_then (K := fun r => finS _ (seqS _ _ _ (blockS _ r))) (L 0 _ _ (Nat.zero_le _) ?_ (Nat.lt_succ_self _)) ?_
      · simp (config := {maxSteps := 1000000, maxDischargeDepth := 9, implicitDefEqProofs := false}) [putB, bytesOf_nil]
      · rintro x e' H ⟨rfl, hn, h5, rfl⟩
        simp (config := {maxSteps := 1000000, maxDischargeDepth := 9, implicitDefEqProofs := false}) [hn, h5]
        exact Canon.made hf hsc rfl (by simp [bytesOf_length, putB_length]) (flat_bytes _)
    · cases hs
  · cases hs

/-- octet.Put64. -/
def s_Put64 : List V → Heap → Option (V × Heap)
  | [.int .u64 v], h => some (newV h 8, h.new (.cells (bytesOf (putB v 8)) 5 1 true))
  | _, _ => none

theorem Put64_ok (cf : ACall) (hput : ∀ a h, cf 32 a h = s_put a h) : Sum cf c18 s_Put64 := by
  intro args h v h' hf hsc hlt hs
  unfold s_Put64 at hs
  split at hs
  · rename_i x
    simp only [Option.some.injEq, Prod.mk.injEq] at hs
    obtain ⟨rfl, rfl⟩ := hs
    refine ⟨1, ?_⟩
    simp (config := {maxSteps := 1000000, maxDischargeDepth := 9, implicitDefEqProofs := false}) [c18, hput, s_put]
    exact Canon.tail (H := h) hf hsc (Ext.refl h) (flat_bytes _) (by simp)
  · cases hs

/-- octet.Join: rows of bytes, one behind the other, in new memory. -/
def s_Join : List V → Heap → Option (V × Heap)
  | [vl], h => match sl h 1 vl with
    | some vs => match slBs h vs with
      | some ss => if ss.flatten.length ≤ lim ∧ ss.length ≤ lim then some (newV h ss.flatten.length, h.new (.cells (bytesOf ss.flatten) 5 1 true)) else none
      | none => none
    | none => none
  | _, _ => none

theorem Join_ok (cf : ACall) : Sum cf c24 s_Join := by
  intro args h v h' hf hsc hlt hs
  unfold s_Join at hs
  split at hs
  · rename_i vl
    split at hs
    · rename_i vs hvl
      split at hs
      · rename_i ss hss
        split at hs
        · rename_i hl
          simp only [Option.some.injEq, Prod.mk.injEq] at hs
          obtain ⟨rfl, rfl⟩ := hs
          obtain ⟨hl, hl2⟩ := hl
          have hlim : lim = 140737488354304 := rfl
          obtain ⟨hlen, hget⟩ := slBs_get hss
          have hvlen : vlen vl = ss.length := by have := rd_vlen (sl_rd hvl); omega
          have hsl := sl_isSl hvl
          refine ⟨ss.length + 1, ?_⟩
          have L := loop_count (cf := cf) (N := ss.length + 1) (c := c24_l0) ss.length
            (fun i e H => e.n = 18 ∧ e.at 7 = vl ∧ e.at 8 = .int .i64 (ss.length : Int) ∧ e.at 9 = .int .i64 (i : Int) ∧ OwnB h H 5 (e.at 3) ((ss.take i).flatten) ∧ Ext h H ∧ Fresh H ∧ e.at 3 ≠ .nilslice)
            (fun x e H => x = .exit 0 ∧ e.n = 18 ∧ OwnB h H 5 (e.at 3) ss.flatten ∧ Ext h H ∧ Fresh H ∧ e.at 3 ≠ .nilslice)
            (by
              rintro i e H hi ⟨hn, h7, h8, h9, ho, hE, hF, hne⟩
              obtain ⟨w, hw1, hw2⟩ := hget hi
              have hload := rd_load (sl_rd (sl_ext hE hf hvl)) hw1
              have hidx := indexE (z := 1) hsl H (k := .i64) (i := (i : Int)) (by omega) (by omega)
              simp only [Int.toNat_natCast, Nat.mul_one] at hidx
              obtain ⟨v2, h2, k1, k2, k3, k4, _, k6, _⟩ := ho.app hE hF (slB_added (slB_ext hE hf hw2)) (by
                have h1 := congrArg List.length (take_flatten_succ ss i hi)
                have h2 : ((ss.take (i + 1)).flatten).length ≤ ss.flatten.length := by
                  have := congrArg List.length (congrArg List.flatten (List.take_append_drop (i + 1) ss))
                  rw [List.flatten_append, List.length_append] at this; omega
                rw [List.length_append] at h1; omega)
              simp (config := {maxSteps := 1000000, maxDischargeDepth := 9, implicitDefEqProofs := false}) [c24_l0, hn, h7, h8, h9, hidx, hload, k1, hi, wrap_i64 (x := (i : Int) + 1) (by omega) (by omega)]
              rw [take_flatten_succ ss i hi]
              exact ⟨k2, k3, k4, k6 hne⟩)
            (by
              rintro e H ⟨hn, h7, h8, h9, ho, hE, hF, hne⟩
              rw [List.take_length] at ho
              simp (config := {maxSteps := 1000000, maxDischargeDepth := 9, implicitDefEqProofs := false}) [c24_l0, hn, h7, h8, h9]
              exact ⟨ho, hE, hF, hne⟩)
          simp (config := {maxSteps := 1000000, maxDischargeDepth := 9, implicitDefEqProofs := false}) [c24, lenE hsl, hvlen, -List.length_flatten]
          refine loop_then (K := fun r => finS _ (seqS _ _ _ (blockS _ r))) (L 0 _ _ (Nat.zero_le _) ?_ (Nat.lt_succ_self _)) ?_
          · simp (config := {maxSteps := 1000000, maxDischargeDepth := 9, implicitDefEqProofs := false})
            exact ⟨by simpa using OwnB.start h 5, Ext.new h _, hf.new _⟩
          · rintro x e' H ⟨rfl, hn, ho, hE, hF, hne⟩
            simp (config := {maxSteps := 1000000, maxDischargeDepth := 9, implicitDefEqProofs := false}) [hn, -List.length_flatten]
            exact ho.canon hf hsc hE hne
        · cases hs
      · cases hs
    · cases hs
  · cases hs

/-- Two texts, byte by byte. -/
def xorB (a b : List Nat) : List Nat := List.zipWith (fun x y => x ^^^ y) a b
theorem xorB_length (a b : List Nat) : (xorB a b).length = min a.length b.length := by simp [xorB]
theorem xor_lt {x y : Nat} (hx : x < 256) (hy : y < 256) : x ^^^ y < 256 := Nat.xor_lt_two_pow (n := 8) hx hy
theorem xorB_lt {a b : List Nat} (ha : ∀ y ∈ a, y < 256) (hb : ∀ y ∈ b, y < 256) : ∀ y ∈ xorB a b, y < 256 := by
  intro y hy
  obtain ⟨i, hi⟩ := List.mem_iff_getElem?.1 hy
  simp only [xorB, List.getElem?_zipWith] at hi
  split at hi
  · rename_i p q hp hq
    simp only [Option.some.injEq] at hi
    subst hi
    exact xor_lt (ha _ (List.mem_of_getElem? hp)) (hb _ (List.mem_of_getElem? hq))
  · cases hi
theorem xor8 {x y : Nat} (hx : x < 256) (hy : y < 256) : wrapF .u8 (((((x : Int) % 256).toNat ^^^ ((y : Int) % 256).toNat : Nat)) : Int) = ((x ^^^ y : Nat) : Int) := by
  have h1 : ((x : Int) % 256).toNat = x := by omega
  have h2 : ((y : Int) % 256).toNat = y := by omega
  rw [h1, h2]
  have := xor_lt hx hy
  exact wrap_u8 (by omega) (by omega)

/-- octet.Xor. -/
def s_Xor : List V → Heap → Option (V × Heap)
  | [v, w], h => match slB h v, slB h w with
    | some a, some b => if (xorB a b).length ≤ lim then some (newV h (xorB a b).length, h.new (.cells (bytesOf (xorB a b)) 5 1 true)) else none
    | _, _ => none
  | _, _ => none

theorem Xor_ok (cf : ACall) : Sum cf c26 s_Xor := by
  intro args h v h' hf hsc hlt hs
  unfold s_Xor at hs
  split at hs
  · rename_i va vb
    split at hs
    · rename_i a b ha hb
      split at hs
      · rename_i hl
        simp only [Option.some.injEq, Prod.mk.injEq] at hs
        obtain ⟨rfl, rfl⟩ := hs
        have hlva : V.lt h.next va := by simp only [ltL] at hlt; exact hlt.1
        have hlvb : V.lt h.next vb := by simp only [ltL] at hlt; exact hlt.2.1
        have hlim : lim = 140737488354304 := rfl
        have h1 := slB_isSl ha
        have h2 := slB_vlen ha
        have h3 := slB_isSl hb
        have h4 := slB_vlen hb
        obtain ⟨n, hn⟩ : ∃ n, n = (xorB a b).length := ⟨_, rfl⟩
        have hn2 := xorB_length a b
        rw [← hn] at hl hn2 ⊢
        refine ⟨n + 1, ?_⟩
        have hmin : (if (b.length : Int) < (a.length : Int) then (b.length : Int) else (a.length : Int)) = (n : Int) := by split <;> omega
        have hmin2 : (if b.length < a.length then (b.length : Int) else (a.length : Int)) = (n : Int) := by split <;> omega
        have L := loop_count (cf := cf) (N := n + 1) (c := c26_l0) n
          (fun i e H => e.n = 32 ∧ e.at 0 = va ∧ e.at 1 = vb ∧ e.at 5 = .slice h.next 0 n (some n) ∧ e.at 14 = .int .i64 (n : Int) ∧ e.at 15 = .int .i64 (i : Int) ∧ H = h.new (.cells (bytesOf ((xorB a b).take i) ++ List.replicate (n - i) (.int .u8 0)) 5 1 true))
          (fun x' e H => x' = .exit 0 ∧ e.n = 32 ∧ e.at 5 = .slice h.next 0 n (some n) ∧ H = h.new (.cells (bytesOf (xorB a b)) 5 1 true))
          (by
            rintro i e H hi ⟨hn', h0, h1', h5, h14, h15, rfl⟩
            obtain ⟨k, hk⟩ : ∃ k, n - i = k + 1 := ⟨n - i - 1, by omega⟩
            have hk2 : n - (i + 1) = k := by omega
            have hia : i < a.length := by omega
            have hib : i < b.length := by omega
            have hxa := slB_lt ha a[i] (by simp)
            have hxb := slB_lt hb b[i] (by simp)
            have hx8 := xor8 hxa hxb
            have hov := over_fill (bytesOf ((xorB a b).take i)) (.int .u8 0) (.int .u8 ((a[i] ^^^ b[i] : Nat) : Int)) k
            rw [bytesOf_length, List.length_take, Nat.min_eq_left (by omega)] at hov
            have hb' : bytesOf ((xorB a b).take (i + 1)) = bytesOf ((xorB a b).take i) ++ [.int .u8 ((a[i] ^^^ b[i] : Nat) : Int)] := by
              rw [List.take_succ_eq_append_getElem (by omega), bytesOf_append]
              simp [xorB, bytesOf]
            have hlen : ((xorB a b).take i).length = i := by simp; omega
            simp (config := {maxSteps := 1000000, maxDischargeDepth := 9, implicitDefEqProofs := false}) [c26_l0, hn', h0, h1', h5, h14, h15, hi, hk, hk2, h1, h2, h3, h4, hia, hib, ha, hb, hlva, hlvb, hb', modK, hx8, hov, -over, -List.length_take, hlen, wrap_i64 (x := (i : Int) + 1) (by omega) (by omega)]
            )
          (by
            rintro e H ⟨hn', h0, h1', h5, h14, h15, rfl⟩
            have : (xorB a b).take n = xorB a b := List.take_of_length_le (by omega)
            simp (config := {maxSteps := 1000000, maxDischargeDepth := 9, implicitDefEqProofs := false}) [c26_l0, hn', h0, h5, h14, h15, this])
        simp (config := {maxSteps := 1000000, maxDischargeDepth := 9, implicitDefEqProofs := false}) [c26, h1, h2, h3, h4, hmin, hmin2, show n ≤ 140737488355328 from by omega, show (n : Int) ≤ 140737488355328 from by omega]
        refine loop_then (K := fun r => finS _ (seqS _ _ _ (blockS _ r))) (L 0 _ _ (Nat.zero_le _) ?_ (Nat.lt_succ_self _)) ?_
        · simp (config := {maxSteps := 1000000, maxDischargeDepth := 9, implicitDefEqProofs := false}) [bytesOf_nil]
        · rintro x e' H ⟨rfl, hn', h5, rfl⟩
          simp (config := {maxSteps := 1000000, maxDischargeDepth := 9, implicitDefEqProofs := false}) [hn', h5]
          exact Canon.made hf hsc rfl (by simp [bytesOf_length, hn]) (flat_bytes _)
      · cases hs
    · cases hs
  · cases hs

/-- octet.Same. -/
def s_Same : List V → Heap → Option (V × Heap)
  | [v, w], h => match slB h v, slB h w with
    | some a, some b => if a.length ≤ lim then some (.bool (decide (a = b)), h) else none
    | _, _ => none
  | _, _ => none
theorem xor_lts {x y : Nat} (hx : x < 256) (hy : y < 256) : x ^^^ y < 256 := Nat.xor_lt_two_pow (n := 8) hx hy
theorem xor8s {x y : Nat} (hx : x < 256) (hy : y < 256) : wrapF .u8 (((((x : Int) % 256).toNat ^^^ ((y : Int) % 256).toNat : Nat)) : Int) = ((x ^^^ y : Nat) : Int) := by
  have h1 : ((x : Int) % 256).toNat = x := by omega
  have h2 : ((y : Int) % 256).toNat = y := by omega
  rw [h1, h2]
  have := xor_lts hx hy
  exact wrap_u8 (by omega) (by omega)
theorem xor_zero_iff (x y : Nat) : x ^^^ y = 0 ↔ x = y := by
  constructor
  · intro h
    have := congrArg (· ^^^ y) h
    simpa [Nat.xor_assoc] using this
  · rintro rfl; exact Nat.xor_self x
theorem or8 {x y : Nat} (hx : x < 256) (hy : y < 256) : wrapF .u8 (((((x : Int) % 256).toNat ||| ((y : Int) % 256).toNat : Nat)) : Int) = ((x ||| y : Nat) : Int) := by
  have h1 : ((x : Int) % 256).toNat = x := by omega
  have h2 : ((y : Int) % 256).toNat = y := by omega
  rw [h1, h2]
  have := Nat.or_lt_two_pow (n := 8) hx hy
  exact wrap_u8 (by omega) (by omega)
theorem Same_ok (cf : ACall) : Sum cf c23 s_Same := by
  intro args h v h' hf hsc hlt hs
  unfold s_Same at hs
  split at hs
  · rename_i va vb
    split at hs
    · rename_i a b ha hb
      split at hs
      · rename_i hl
        simp only [Option.some.injEq, Prod.mk.injEq] at hs
        obtain ⟨rfl, rfl⟩ := hs
        have hlim : lim = 140737488354304 := rfl
        have h1 := slB_isSl ha
        have h2 := slB_vlen ha
        have h3 := slB_isSl hb
        have h4 := slB_vlen hb
        by_cases hab : a.length = b.length
        · have L := loop_count (cf := cf) (N := a.length + 1) (c := c23_l0) a.length
            (fun i e H => e.n = 31 ∧ e.at 0 = va ∧ e.at 1 = vb ∧ e.at 13 = .int .i64 (a.length : Int) ∧ e.at 14 = .int .i64 (i : Int) ∧ (∃ acc : Nat, e.at 5 = .int .u8 (acc : Int) ∧ acc < 256 ∧ (acc = 0 ↔ a.take i = b.take i)) ∧ H = h)
            (fun x e H => x = .exit 0 ∧ e.n = 31 ∧ (∃ acc : Nat, e.at 5 = .int .u8 (acc : Int) ∧ acc < 256 ∧ (acc = 0 ↔ a = b)) ∧ H = h)
            (by
              rintro i e H hi ⟨hn, h0, h1', h13, h14, ⟨acc, h5, hac, hiff⟩, rfl⟩
              have hib : i < b.length := by omega
              have hxa := slB_lt ha a[i] (by simp)
              have hxb := slB_lt hb b[i] (by simp)
              have hx8 := xor8s hxa hxb
              have hx := xor_lts hxa hxb
              have ho8 := or8 hac hx
              have ho := Nat.or_lt_two_pow (n := 8) hac hx
              have hnew : (acc ||| (a[i] ^^^ b[i]) = 0) ↔ a.take (i + 1) = b.take (i + 1) := by
                rw [List.take_succ_eq_append_getElem hi, List.take_succ_eq_append_getElem hib]
                rw [Nat.or_eq_zero_iff, hiff, xor_zero_iff]
                constructor
                · rintro ⟨p, q⟩; rw [p, q]
                · intro p
                  have := List.append_inj p (by simp; omega)
                  exact ⟨this.1, by simpa using this.2⟩
              simp (config := {maxSteps := 1000000, maxDischargeDepth := 9, implicitDefEqProofs := false}) [c23_l0, hn, h0, h1', h13, h14, h5, h1, h2, h3, h4, ha, hb, hi, hib, show (i : Int) < (a.length : Int) from by omega, modK, hx8, ho8, wrap_i64 (x := (i : Int) + 1) (by omega) (by omega)]
              exact ⟨_, rfl, ho, hnew⟩)
            (by
              rintro e H ⟨hn, h0, h1', h13, h14, ⟨acc, h5, hac, hiff⟩, rfl⟩
              rw [List.take_length, hab, List.take_length] at hiff
              simp (config := {maxSteps := 1000000, maxDischargeDepth := 9, implicitDefEqProofs := false}) [c23_l0, hn, h13, h14, h5]
              exact ⟨_, rfl, hac, hiff⟩)
          refine ⟨a.length + 1, ?_⟩
          simp (config := {maxSteps := 1000000, maxDischargeDepth := 9, implicitDefEqProofs := false}) [c23, h1, h2, h3, h4, hab]
          rw [hab] at L
          refine loop_then (K := fun r => finS _ (seqS _ _ _ (blockS _ r))) (L 0 _ _ (Nat.zero_le _) ?_ (Nat.lt_succ_self _)) ?_
          · simp (config := {maxSteps := 1000000, maxDischargeDepth := 9, implicitDefEqProofs := false})
          · rintro x e' H ⟨rfl, hn, ⟨acc, h5, hac, hiff⟩, rfl⟩
            simp (config := {maxSteps := 1000000, maxDischargeDepth := 9, implicitDefEqProofs := false}) [hn, h5]
            have he : decide (a = b) = (acc == 0) := by
              by_cases hq : acc = 0
              · rw [hq]; simp [hiff.1 hq]
              · have : ¬ a = b := fun hh => hq (hiff.2 hh)
                simp [this, hq]
            rw [he]
            have hb2 : (acc == 0) = ((acc : Int) == 0) := by
              by_cases hq : acc = 0
              · rw [hq]; rfl
              · have : ¬ (acc : Int) = 0 := by omega
                rw [show (acc == 0) = false by simpa using hq, show ((acc : Int) == 0) = false by simpa using this]
            first
              | exact Canon.keep hf hsc (Ext.refl _) (by simp only [V.lt])
              | (rw [hb2]; exact Canon.keep hf hsc (Ext.refl _) (by simp only [V.lt]))
              | (trace_state; sorry)
        · have hne : ¬ a = b := fun hh => hab (by rw [hh])
          have hd : decide (a = b) = false := by simp [hne]
          rw [hd]
          have hab2 : ((a.length : Int) == (b.length : Int)) = false := by
            have : ¬ (a.length : Int) = (b.length : Int) := by omega
            simpa using this
          refine ⟨1, ?_⟩
          simp (config := {maxSteps := 1000000, maxDischargeDepth := 9, implicitDefEqProofs := false}) [c23, h1, h2, h3, h4, hab, hab2]
          have := Canon.keep (h := h) (v := .bool false) hf hsc (Ext.refl _) (by simp only [V.lt])
          exact this
      · cases hs
    · cases hs
  · cases hs

/-- A number of bytes, by sums. -/
theorem getU_sum (s : List Nat) (hs : ∀ y ∈ s, y < 256) : ∀ i, i ≤ 7 → ∃ m : Nat, getU s i = (m : Int) ∧ m < 2 ^ (8 * i) ∧ getU s (i + 1) = ((m + s.getD i 0 * 2 ^ (8 * i) : Nat) : Int)
  | 0, _ => by
    have hb : s.getD 0 0 < 256 := by
      rw [List.getD_eq_getElem?_getD]
      cases h : s[0]? with
      | none => simp
      | some y => simpa using hs y (List.mem_of_getElem? h)
    refine ⟨0, rfl, by simp, ?_⟩
    simp only [getU, orU, Nat.mul_zero, Int.pow_zero, Int.mul_one, Nat.pow_zero, Nat.mul_one, Nat.zero_add]
    rw [wrap_u64 (x := ((s.getD 0 0 : Nat) : Int)) (by omega) (by omega)]
    have h1 : (((s.getD 0 0 : Nat) : Int) % 18446744073709551616).toNat = s.getD 0 0 := by omega
    rw [h1]
    simp only [Int.zero_emod, Int.toNat_zero, Nat.zero_or]
    exact wrap_u64 (by omega) (by omega)
  | i + 1, hi => by
    obtain ⟨m, h1, h2, h3⟩ := getU_sum s hs i (by omega)
    have hb : ∀ j, s.getD j 0 < 256 := fun j => by
      rw [List.getD_eq_getElem?_getD]
      cases h : s[j]? with
      | none => simp
      | some y => simpa using hs y (List.mem_of_getElem? h)
    have hbi := hb i
    have hbj := hb (i + 1)
    generalize s.getD i 0 = x at *
    have hm1 : m + x * 2 ^ (8 * i) < 2 ^ (8 * (i + 1)) := by
      rw [show 8 * (i + 1) = 8 * i + 8 from by omega, Nat.pow_add]
      have : x * 2 ^ (8 * i) ≤ 255 * 2 ^ (8 * i) := Nat.mul_le_mul_right _ (by omega)
      omega
    refine ⟨m + x * 2 ^ (8 * i), h3, hm1, ?_⟩
    rw [getU, h3]
    generalize m + x * 2 ^ (8 * i) = M at *
    generalize s.getD (i + 1) 0 = y at *
    have hle : 2 ^ (8 * (i + 1)) ≤ 2 ^ 56 := Nat.pow_le_pow_right (by omega) (by omega)
    have hP : y * 2 ^ (8 * (i + 1)) ≤ 255 * 2 ^ 56 := Nat.mul_le_mul (by omega) hle
    have hcast : ((y : Nat) : Int) * 2 ^ (8 * (i + 1)) = ((y * 2 ^ (8 * (i + 1)) : Nat) : Int) := by simp
    rw [hcast]
    have hor : M ||| (y * 2 ^ (8 * (i + 1))) = M + y * 2 ^ (8 * (i + 1)) := by
      have h := (Nat.two_pow_add_eq_or_of_lt hm1 y).symm
      rw [Nat.or_comm, Nat.mul_comm y, h, Nat.add_comm]
    generalize hQ : y * 2 ^ (8 * (i + 1)) = Q at *
    have hML : M < 2 ^ 56 := by omega
    rw [wrap_u64 (x := (Q : Int)) (by omega) (by omega)]
    unfold orU
    have q1 : ((M : Int) % 18446744073709551616).toNat = M := by omega
    have q2 : ((Q : Int) % 18446744073709551616).toNat = Q := by omega
    rw [q1, q2, hor]
    exact wrap_u64 (by omega) (by omega)
/-- A number is read from what it was laid as. -/
theorem getU_putB (v : Int) (h0 : 0 ≤ v) (n : Nat) (hn : n ≤ 8) (r : List Nat) (hr : ∀ y ∈ r, y < 256) : ∀ i, i ≤ n → getU (putB v n ++ r) i = v % 2 ^ (8 * i) := by
  have hlt : ∀ y ∈ putB v n ++ r, y < 256 := fun y hy => by
    rcases List.mem_append.1 hy with h | h
    · exact putB_lt v n y h
    · exact hr y h
  intro i
  induction i with
  | zero => intro _; simp only [getU, Nat.mul_zero, Int.pow_zero]; omega
  | succ i ih =>
    intro hi
    obtain ⟨m, h1, _, h3⟩ := getU_sum _ hlt i (by omega)
    rw [ih (by omega)] at h1
    have hd : (putB v n ++ r).getD i 0 = (v / 2 ^ (8 * i) % 256).toNat := by
      rw [List.getD_eq_getElem?_getD, List.getElem?_append_left (by rw [putB_length]; omega), putB, List.getElem?_map, List.getElem?_range (by omega)]
      rfl
    rw [h3, hd]
    obtain ⟨w, rfl⟩ : ∃ w : Nat, v = (w : Int) := ⟨v.toNat, by omega⟩
    have hc : ∀ k, ((2 : Int) ^ k) = ((2 ^ k : Nat) : Int) := fun k => by simp
    rw [hc] at h1
    have hm : m = w % 2 ^ (8 * i) := by have := h1; rw [← Int.natCast_emod] at this; omega
    have ht : ((w : Int) / 2 ^ (8 * i) % 256).toNat = w / 2 ^ (8 * i) % 256 := by
      rw [hc, ← Int.natCast_ediv]
      omega
    rw [ht, hm, hc, ← Int.natCast_emod, show 8 * (i + 1) = 8 * i + 8 from by omega, Nat.pow_add, Nat.mod_mul, Nat.mul_comm (2 ^ (8 * i))]
theorem xorB_self (s : List Nat) : xorB s s = List.replicate s.length 0 := by
  induction s with
  | nil => rfl
  | cons x s ih =>
    show (x ^^^ x) :: xorB s s = _
    rw [ih, Nat.xor_self]; rfl
theorem slB_same {H H' : Heap} {q o n : Nat} {c : Option Nat} (hg : H'.get q = H.get q) : slB H' (.slice q o n c) = slB H (.slice q o n c) := by
  have h1 : wfS H' 1 (.slice q o n c) = wfS H 1 (.slice q o n c) := by dsimp only [wfS]; rw [hg]
  have h2 : rd H' 1 (.slice q o n c) = rd H 1 (.slice q o n c) := by
    show H'.read q o (n * 1) = H.read q o (n * 1)
    unfold Heap.read; rw [hg]
  unfold slB sl
  rw [h1, h2]
theorem joins_loop (cf : ACall) (h1 : Heap) (h : Heap) (hf : Fresh h) (hE : Ext h h1) (n : Int) (vl vj : V) (vs : List V) (ss : List (List Nat)) (hvl : sl h 1 vl = some vs) (hss : slBs h vs = some ss) (hb : ss.flatten.length + ss.length ≤ 1048576) :
    ∀ e, e.n = 84 → e.at 0 = vl → e.at 1 = .int .u64 n → e.at 5 = vj → e.at 6 = .str [] → e.at 7 = .int .i64 0 →
    YtaaejidllnkpbaaA.Ends (execA cf (ss.length + 31) (.loop c7_l0) e h1) fun x e' H' => x = .exit 0 ∧ e'.n = 84 ∧ e'.at 0 = vl ∧ e'.at 1 = .int .u64 n ∧ e'.at 5 = vj ∧ e'.at 6 = .str ss.flatten ∧ H' = h1 := by
  intro e hn q0 q1 q5 q6 q7
  obtain ⟨hlen, hget⟩ := slBs_get hss
  have hvlen : vlen vl = ss.length := by have := rd_vlen (sl_rd hvl); omega
  have hsl := sl_isSl hvl
  refine loop_count (cf := cf) (N := ss.length + 31) (c := c7_l0) ss.length
    (fun i e H => e.n = 84 ∧ e.at 0 = vl ∧ e.at 1 = .int .u64 n ∧ e.at 5 = vj ∧ e.at 6 = .str (ss.take i).flatten ∧ e.at 7 = .int .i64 (i : Int) ∧ H = h1)
    (fun x e' H' => x = .exit 0 ∧ e'.n = 84 ∧ e'.at 0 = vl ∧ e'.at 1 = .int .u64 n ∧ e'.at 5 = vj ∧ e'.at 6 = .str ss.flatten ∧ H' = h1) ?_ ?_ 0 e _ (Nat.zero_le _) ⟨hn, q0, q1, q5, by rw [q6]; rfl, q7, rfl⟩ (by omega)
  · rintro i e H hi ⟨hn, q0, q1, q5, q6, q7, rfl⟩
    obtain ⟨w, hw1, hw2⟩ := hget hi
    have hload := rd_load (sl_rd (sl_ext hE hf hvl)) hw1
    have hidx := indexE (z := 1) hsl H (k := .i64) (i := (i : Int)) (by omega) (by omega)
    simp only [Int.toNat_natCast, Nat.mul_one] at hidx
    have hbs : bytesStrS w H = some (.str (ss.getD i []), H) := rdB_str (slB_rdB (slB_ext hE hf hw2))
    have hfl := take_flatten_succ ss i hi
    have hle : (ss.take i).flatten.length + (ss.getD i []).length ≤ 4611686018427387904 := by
      have h1 := congrArg List.length hfl
      have h2 : ((ss.take (i + 1)).flatten).length ≤ ss.flatten.length := by
        have := congrArg List.length (congrArg List.flatten (List.take_append_drop (i + 1) ss))
        rw [List.flatten_append, List.length_append] at this; omega
      rw [List.length_append] at h1; omega
    have hiI : (i : Int) < (ss.length : Int) := by omega
    generalize hS : (ss.take i).flatten = S at *
    generalize hR : ss.getD i [] = R at *
    simp (config := {maxSteps := 1000000, maxDischargeDepth := 9, implicitDefEqProofs := false}) [c7_l0, hn, q0, q1, q5, q6, q7, lenE hsl, hvlen, hidx, hload, hbs, hi, hiI, hle, hfl, hS, hR, wrap_i64 (x := (i : Int) + 1) (by omega) (by omega)]
  · rintro e H ⟨hn, q0, q1, q5, q6, q7, rfl⟩
    rw [List.take_length] at q6
    simp (config := {maxSteps := 1000000, maxDischargeDepth := 9, implicitDefEqProofs := false}) [c7_l0, hn, q0, q1, q5, q6, q7, lenE hsl, hvlen]
theorem law_OctetJoins (cf : ACall) (hknown : ∀ a h, cf 20 a h = s_known a h) (hFew : ∀ a h, cf 25 a h = s_Few a h) (hJoin : ∀ a h, cf 24 a h = s_Join a h) (hPut : ∀ a h, cf 18 a h = s_Put64 a h) (hGet : ∀ a h, cf 17 a h = s_Get64 a h) (hGet32 : ∀ a h, cf 15 a h = s_Get32 a h) (hXor : ∀ a h, cf 26 a h = s_Xor a h) (hSame : ∀ a h, cf 23 a h = s_Same a h)
    (h : Heap) (n : Int) (vl : V) (vs : List V) (ss : List (List Nat)) (hf : Fresh h) (hvl : sl h 1 vl = some vs) (hss : slBs h vs = some ss) (hb : ss.flatten.length + ss.length ≤ 1048576) (hn0 : 0 ≤ n) (hn1 : n < 18446744073709551616) :
    ∃ N, Runs (bodyA cf N c7 [vl, .int .u64 n] h) fun v _ => v = .bool true := by
  have hlm : lim = 140737488354304 := rfl
  obtain ⟨J, hJ⟩ : ∃ J, J = ss.flatten := ⟨_, rfl⟩
  have hJl : J.length ≤ 1048576 := by rw [hJ]; omega
  have hJlt : ∀ y ∈ J, y < 256 := by
    intro y hy
    rw [hJ] at hy
    obtain ⟨s, hs, hys⟩ := List.mem_flatten.1 hy
    obtain ⟨i, hi⟩ := List.mem_iff_getElem?.1 hs
    have hil : i < ss.length := by
      rcases Nat.lt_or_ge i ss.length with h | h
      · exact h
      · rw [List.getElem?_eq_none h] at hi; cases hi
    obtain ⟨w, _, hw2⟩ := (slBs_get hss).2 hil
    rw [List.getD_eq_getElem?_getD, hi] at hw2
    exact slB_lt hw2 y hys
  obtain ⟨h1, hh1⟩ : ∃ A, A = h.new (.cells (bytesOf J) 5 1 true) := ⟨_, rfl⟩
  have e1 : Ext h h1 := by rw [hh1]; exact Ext.new h _
  have f1 : Fresh h1 := by rw [hh1]; exact hf.new _
  obtain ⟨vj, hvj⟩ : ∃ v : V, v = .slice h.next 0 J.length none := ⟨_, rfl⟩
  have rJ : s_Join [vl] h = some (vj, h1) := by
    unfold s_Join
    simp only [hvl, hss]
    rw [if_pos ⟨by omega, by omega⟩, ← hJ, hvj, hh1]; rfl
  have newB : ∀ (K : Heap) (s : List Nat), (∀ y ∈ s, y < 256) → slB (K.new (.cells (bytesOf s) 5 1 true)) (.slice K.next 0 s.length none) = some s := fun K s hs => by
    exact slB_selfE rfl rfl (.inl rfl) hs
  have sj : slB h1 vj = some J := by rw [hvj, hh1]; exact newB h J hJlt
  have nB := putB_length n 8
  have nlt := putB_lt n 8
  obtain ⟨B, hB⟩ : ∃ B, B = putB n 8 := ⟨_, rfl⟩
  obtain ⟨h2, hh2⟩ : ∃ A, A = h1.new (.cells (bytesOf B) 5 1 true) := ⟨_, rfl⟩
  have e2 : Ext h1 h2 := by rw [hh2]; exact Ext.new h1 _
  have f2 : Fresh h2 := by rw [hh2]; exact f1.new _
  rw [← hB] at nB nlt
  obtain ⟨vp, hvp⟩ : ∃ v : V, v = .slice h1.next 0 8 none := ⟨_, rfl⟩
  have rP : ∀ K, s_Put64 [.int .u64 n] K = some (.slice K.next 0 8 none, K.new (.cells (bytesOf B) 5 1 true)) := fun K => by rw [hB]; rfl
  have rP1 : s_Put64 [.int .u64 n] h1 = some (vp, h2) := by rw [rP, hvp, hh2]
  have sp : slB h2 vp = some B := by rw [hvp, hh2, ← nB]; exact newB h1 B nlt
  obtain ⟨h3, hh3⟩ : ∃ A, A = h2.new (.cells [vp, vj] 28 1 true) := ⟨_, rfl⟩
  have e3 : Ext h2 h3 := by rw [hh3]; exact Ext.new h2 _
  have f3 : Fresh h3 := by rw [hh3]; exact f2.new _
  have sl3 : sl h3 1 (.slice h2.next 0 2 (some 2)) = some [vp, vj] := by rw [hh3]; exact sl_selfE rfl rfl (.inr rfl)
  have ss3 : slBs h3 [vp, vj] = some [B, J] := slBs_cons (slB_ext e3 f2 sp) (slBs_cons (slB_ext (e2.trans e3) f1 sj) rfl)
  have hBJ : [B, J].flatten = B ++ J := by simp
  obtain ⟨h4, hh4⟩ : ∃ A, A = h3.new (.cells (bytesOf (B ++ J)) 5 1 true) := ⟨_, rfl⟩
  have f4 : Fresh h4 := by rw [hh4]; exact f3.new _
  have e4 : Ext h3 h4 := by rw [hh4]; exact Ext.new h3 _
  have hBJlt : ∀ y ∈ B ++ J, y < 256 := fun y hy => (List.mem_append.1 hy).elim (nlt y) (hJlt y)
  obtain ⟨vq, hvq⟩ : ∃ v : V, v = .slice h3.next 0 (B ++ J).length none := ⟨_, rfl⟩
  have rJ2 : s_Join [.slice h2.next 0 2 (some 2)] h3 = some (vq, h4) := by
    unfold s_Join
    simp only [sl3, ss3, hBJ]
    rw [if_pos ⟨by rw [List.length_append]; omega, by simp [hlm]⟩, hvq, hh4]; rfl
  have sq : slB h4 vq = some (B ++ J) := by rw [hvq, hh4]; exact newB h3 _ hBJlt
  have g8 : getU (B ++ J) 8 = n := by
    rw [hB, getU_putB n hn0 8 (Nat.le_refl _) J hJlt 8 (Nat.le_refl _)]
    exact Int.emod_eq_of_lt hn0 hn1
  have rG : s_Get64 [vq] h4 = some (.tuple [.int .u64 n, .bool true], h4) := by
    unfold s_Get64
    simp only [sq, g8]
    rw [if_neg (by rw [List.length_append]; omega)]
  obtain ⟨h5, hh5⟩ : ∃ A, A = h4.new (.cells (bytesOf B) 5 1 true) := ⟨_, rfl⟩
  have f5 : Fresh h5 := by rw [hh5]; exact f4.new _
  have e5 : Ext h4 h5 := by rw [hh5]; exact Ext.new h4 _
  obtain ⟨vr, hvr⟩ : ∃ v : V, v = .slice h4.next 0 8 none := ⟨_, rfl⟩
  have rP4 : s_Put64 [.int .u64 n] h4 = some (vr, h5) := by rw [rP, hvr, hh5]
  have sr : slB h5 vr = some B := by rw [hvr, hh5, ← nB]; exact newB h4 B nlt
  have g4 : wrapF .u32 (getU B 4) = wrapF .u32 n := by
    have := getU_putB n hn0 8 (Nat.le_refl _) [] (fun y hy => (List.not_mem_nil hy).elim) 4 (by omega)
    rw [List.append_nil, ← hB] at this
    rw [this]
    show wrapF .u32 (n % 4294967296) = wrapF .u32 n
    rw [wrap_u32_mod]
    rw [wrap_u32_mod]; omega
  have rG32 : s_Get32 [vr] h5 = some (.tuple [.int .u32 (wrapF .u32 n), .bool true], h5) := by
    unfold s_Get32
    simp only [sr, g4]
    rw [if_neg (by omega)]
  have e15 : Ext h1 h5 := e2.trans (e3.trans (e4.trans e5))
  -- the last answer
  obtain ⟨h6, hh6⟩ : ∃ A, A = h5.gap 43 := ⟨_, rfl⟩
  have e6 : Ext h5 h6 := by rw [hh6]; exact Ext.gap h5 43
  have f6 : Fresh h6 := by rw [hh6]; exact f5.gap
  have sj6 : slB h6 vj = some J := slB_ext (e15.trans e6) f1 sj
  have b6 : bytesStrS vj h6 = some (.str J, h6) := rdB_str (slB_rdB sj6)
  have rk : s_known [] h6 = some (.bool true, h6) := rfl
  have hvl' := slB_vlen sj
  have hsj := slB_isSl sj
  obtain ⟨Z, hZ⟩ : ∃ Z, Z = List.replicate J.length 0 := ⟨_, rfl⟩
  have hZl : Z.length = J.length := by rw [hZ, List.length_replicate]
  have hZlt : ∀ y ∈ Z, y < 256 := fun y hy => by rw [hZ] at hy; have := List.eq_of_mem_replicate hy; omega
  obtain ⟨h7, hh7⟩ : ∃ A, A = h6.new (.cells (bytesOf Z) 5 1 true) := ⟨_, rfl⟩
  have e7 : Ext h6 h7 := by rw [hh7]; exact Ext.new h6 _
  have f7 : Fresh h7 := by rw [hh7]; exact f6.new _
  obtain ⟨vx, hvx⟩ : ∃ v : V, v = .slice h6.next 0 J.length none := ⟨_, rfl⟩
  have rX : s_Xor [vj, vj] h6 = some (vx, h7) := by
    unfold s_Xor
    simp only [sj6, xorB_self]
    rw [if_pos (by rw [List.length_replicate, hlm]; omega), ← hZ, hZl, hvx, hh7]; rfl
  have sx : slB h7 vx = some Z := by rw [hvx, hh7, ← hZl]; exact newB h6 Z hZlt
  obtain ⟨h8, hh8⟩ : ∃ A, A = h7.set (h5.next + 30) (some (.cells (List.replicate J.length (.int .u8 0)) 5 1 true)) := ⟨_, rfl⟩
  obtain ⟨vz, hvz⟩ : ∃ v : V, v = .slice (h5.next + 30) 0 J.length (some J.length) := ⟨_, rfl⟩
  have n7 : h7.next = h5.next + 44 := by rw [hh7]; show h6.next + 1 = _; rw [hh6, next_gap]
  have f8 : Fresh h8 := by rw [hh8]; exact f7.set (by omega) _
  have e8 : Ext h5 h8 := by rw [hh8]; exact (e6.trans e7).trans_set (by omega) _
  have sx8 : slB h8 vx = some Z := by
    rw [← sx, hvx]
    refine slB_same ?_
    rw [hh8, Heap.get_set, if_neg (by rw [hh6, next_gap]; omega)]
  have hrep : List.replicate J.length (V.int .u8 0) = bytesOf Z := by rw [hZ]; simp [bytesOf]
  have sz8 : slB h8 vz = some Z := by
    have hg : h8.get (h5.next + 30) = some (.cells (bytesOf Z) 5 1 true) := by rw [hh8, Heap.get_set, if_pos rfl, hrep]
    have hw : wfS h8 1 vz = true := by rw [hvz]; simp [wfS, hg, bytesOf_length, hZl]
    refine slB_of ?_ hZlt
    unfold sl
    rw [if_pos hw, hvz]
    simp only [rd, Nat.mul_one]
    unfold Heap.read
    by_cases hn : J.length = 0
    · have hZ0 : Z = [] := List.length_eq_zero_iff.1 (by omega)
      rw [if_pos hn, hZ0]; rfl
    · rw [if_neg hn, hg]
      simp only
      rw [if_pos (by rw [bytesOf_length]; omega), List.drop_zero, List.take_of_length_le (by rw [bytesOf_length]; omega)]
  have rS : s_Same [vx, vz] h8 = some (.bool true, h8) := by
    unfold s_Same
    simp only [sx8, sz8]
    rw [if_pos (by omega)]
    simp
  have sj8 : slB h8 vj = some J := slB_ext (e15.trans e8) f1 sj
  obtain ⟨F, hF⟩ : ∃ F, F = J.take 3 := ⟨_, rfl⟩
  have hFl : F.length = min 3 J.length := by rw [hF, List.length_take]
  obtain ⟨h9, hh9⟩ : ∃ A, A = h8.new (.cells (bytesOf F) 5 1 true) := ⟨_, rfl⟩
  have rF : s_Few [vj, .int .i64 3] h8 = some (.slice h8.next 0 F.length none, h9) := by
    unfold s_Few
    simp only [sj8]
    rw [if_pos ⟨by omega, by omega⟩, hF, hh9, hF]; rfl
  have hL1 : J.length ≤ 140737488355328 := by omega
  have hL2 : (J.length : Int) ≤ 140737488355328 := by omega
  refine ⟨ss.length + 31, ?_⟩
  simp (config := {maxSteps := 1000000, maxDischargeDepth := 9, implicitDefEqProofs := false}) [c7, hJoin, rJ]
  refine loop_then (K := fun r => finS _ (seqS _ _ _ (blockS _ r))) (joins_loop cf h1 h hf e1 n vl vj vs ss hvl hss hb _ ?_ ?_ ?_ ?_ ?_ ?_) ?_
  iterate 6 simp (config := {maxSteps := 1000000, maxDischargeDepth := 9, implicitDefEqProofs := false})
  rintro x e' H ⟨rfl, hn', q0, q1, q5, q6, rfl⟩
  rw [← hJ] at q6
  have clp : vp.cells = [vp] := by rw [hvp]; rfl
  have clj : vj.cells = [vj] := by rw [hvj]; rfl
  have onp : vp.one = true := by rw [hvp]; rfl
  have onj : vj.one = true := by rw [hvj]; rfl
  have hb0 : ∀ n, (bare0 n).next = n := fun _ => rfl
  have hnx : h6.next = h5.next + 43 := by rw [hh6]; exact next_gap _ _
  have ov : over (over [V.nilslice, V.nilslice] 0 [vp]) 1 [vj] = [vp, vj] := rfl
  simp (config := {maxSteps := 1000000, maxDischargeDepth := 9, implicitDefEqProofs := false}) [hn', q0, q1, q5, q6, hPut, rP1, clp, clj, onp, onj, ov, ← hh3, hJoin, rJ2, hGet, rG, rP4, hGet32, rG32, hknown, ← hh6, rk, b6, lenE hsj, hvl', hXor, rX, hb0, hFew, hSame, hL1, hL2, ← hvz, ← hh8, rS, rF, hFl]
  split <;> omega

end
end Go.Proofs.Ytaaejidllnkpbaa.OctetJoins
