/- What the functions that the law PadPads reaches do, each told once, and the law by them. No condition. -/
import Derived.Test.YtaaejidllnkpbaaDoorCodePadPads
namespace Go.Proofs.YtaaejidllnkpbaaDoor.PadPads
open Go Go.Proofs.YtaaejidllnkpbaaDoorA
set_option linter.unusedSimpArgs false
set_option linter.unusedVariables false
set_option maxHeartbeats 4000000
set_option maxRecDepth 100000
attribute [local simp] body_eq exec_seq exec_region exec_skip exec_ret exec_exit exec_cond exec_block seqS_normal seqS_ret seqS_exit seqS_none seqS_bif regS_some regS_none regS_bif condS_bool condS_true
  condS_false blockS_normal blockS_ret blockS_exit blockS_none blockS_bif finS_normal finS_ret finS_bif steps_nil steps_cons steps_guard bindS_some bindS_none bindS_bif endS_some
  endS_skip endS_none endS_bif gstep_some gstep_true gstep_false wantV_true wantV_false wantV_undef wantV_gdv_true wantV_gdv_false gdv_true gdv_false aop_pick pickS_or pickS_and
  pickS_true pickS_false bif_bool put_some put_none Env.at_put Env.n_put at_init n_init Opd.ev ressA resA pack Heap.get_new Heap.get_set nextOf_new Heap.next_set nth fillV zeros over
  eqv read_eq read_zero readB_cells one_bool one_int one_str one_ptr one_nilptr one_slice one_nilslice cells_bool cells_int cells_str cells_ptr cells_nilptr cells_slice
  cells_nilslice cells_agg aop_move aop_box aop_boxv boxvS_agg boxvS_int boxvS_bool boxvS_str boxvS_slice boxvS_nilslice aop_build buildS_some aop_buildSlice buildSliceS_some
  aop_load loadS_ptr loadB_cells loadC_some aop_loadn loadnS_ptr aop_store storeS_ptr writeB_cells aop_bin binS_lss binS_leq binS_gtr binS_geq binS_eql binS_neq binS_add binS_sub
  binS_mul binS_quo binS_rem binS_and binS_or binS_xor binS_shl binS_shr binS_seql binS_sneq binS_sadd aop_eq eqS_some_f eqS_some_t aop_un unS_not unS_neg aop_conv convS_int
  aop_convStr convStrS_str aop_intStr intStrS_int aop_strBytes strBytesS_str aop_bytesStr bytesStrS_nil bytesStrS_slice aop_mkIface aop_mkFunc aop_makeSlice makeS_int aop_sliceStr
  sliceStrS_str sliceStrB_some someS_some aop_sliceSl aop_sliceArr sliceArrS_ptr aop_fieldAddr fieldAddrS_ptr aop_field fieldS_agg fieldS_aggn aop_indexAddrA indexAddrAS_ptr
  aop_indexAddrS indexAddrSS_slice aop_indexA indexAS_agg byteS_some aop_indexStr indexStrS_str aop_extract extractS_tuple aop_call callS_func aop_append aop_copy aop_lenS lenSS_str
  aop_lenL lenLS_nil lenLS_slice aop_minmax minmaxS_min minmaxS_max aop_convSame convSameS_slice convSameB_cells aop_lenC Heap.set_newE Heap.kill_newE Heap.set_new_ne
  Heap.set_gone_ne Heap.set_set Heap.get_gone Heap.next_gone loopE_n loopE_at Runs_some Ends_some Ends_none Runs_none VCL_nil VCL_cons VC_tuple VC_agg VC_bool VC_int VC_str VC_nil
  VC_nilptr VC_ptr VC_slice_nn VC_slice_ns VC_slice_s moved_at most_val lim_val next_add vlen_slice vlen_nil isSl_slice isSl_nil atP_slice newV sl_new slB_new slK_new sl_gone
  slB_gone slK_gone lt_slice lt_nil lt_ptr lt_cut sl_selfE slB_litE slK_litE asB asB_bytesOf asK asK_map slB_nil slK_nil slBs Fresh.new Fresh.gone indexE bytesStrE loadBE slice_lo
  slice_hi slice_lohi slB_cut vlen_cut isSl_cut one_cut cells_cut lenE IntKind.bits Int.fdiv_eq_ediv_of_nonneg bytesOf_length sameV_refl gval_true gval_false gval_some traceA_nil
  traceA_cons consT_some mapT_some stepV_none stepV_guard exec_any anyS_some chkOk_nil chkOk_cons sameS_some chk2_some chk1_eq envL_nil envL_cons heapL_nil heapL_cons heapO_some
  heapB_zero heapB_succ isWriter nth_bytesOf nth_ints str_hi str_lo wrap_i64 wrap_i32 wrap_u64 wrap_u32 wrap_u8
attribute [local congr] gstep_congr gval_congr
noncomputable section
/-- portholehand.Pick: the remainder that is not below 0. -/
def s_Pick : List V → Heap → Option (V × Heap)
  | [.int .i64 n, .int .i64 m], h => if 0 < m ∧ m ≤ 4611686018427387904 then some (.int .i64 (n % m), h) else none
  | _, _ => none

theorem tmod_emod (n m : Int) (hm : 0 < m) : (if n.tmod m < 0 then n.tmod m + m else n.tmod m) = n % m := by
  rw [Int.tmod_eq_emod]
  have h1 := Int.emod_nonneg n (show m ≠ 0 by omega)
  have h2 := Int.emod_lt_of_pos n hm
  have h3 : (m.natAbs : Int) = m := by omega
  split <;> split <;> omega

theorem Pick_ok (cf : ACall) : Sum cf c6 s_Pick := by
  intro args h v h' hf hsc hlt hs
  unfold s_Pick at hs
  split at hs
  · rename_i n m
    split at hs
    · rename_i hm
      simp only [Option.some.injEq, Prod.mk.injEq] at hs
      obtain ⟨rfl, rfl⟩ := hs
      have hm0 : ¬ m = 0 := by omega
      have h1 := tmod_emod n m hm.1
      have h2 := Int.emod_nonneg n hm0
      have h3 := Int.emod_lt_of_pos n hm.1
      refine ⟨1, ?_⟩
      have hres : bodyA cf 1 c6 [.int .i64 n, .int .i64 m] h = some (.int .i64 (n % m), h) := by
        by_cases hq : n.tmod m < 0
        · have hd : decide (n.tmod m < 0) = true := by simpa using hq
          rw [if_pos hq] at h1
          simp (config := {maxSteps := 1000000, maxDischargeDepth := 9, implicitDefEqProofs := false}) [c6, hm0, hd]
          simp only [cond_true, h1, Option.some.injEq, Prod.mk.injEq, and_true, V.int.injEq, true_and]
          exact wrap_i64 (by omega) (by omega)
        · have hd : decide (n.tmod m < 0) = false := by simpa using hq
          rw [if_neg hq] at h1
          simp (config := {maxSteps := 1000000, maxDischargeDepth := 9, implicitDefEqProofs := false}) [c6, hm0, hd]
          simp only [cond_false, h1]
      exact ⟨_, _, hres, Canon.same hf hsc (fun _ _ hb => hb) (by simp only [V.lt])⟩
    · cases hs
  · cases hs

/-- The raw numbers, and the bytes of them. -/
def lcg (x : Int) : Int := (x * 6364136223846793005 + 1442695040888963407) % 18446744073709551616
def lcgs : Nat → Int → Int
  | 0, x => x
  | i + 1, x => lcg (lcgs i x)
def rawB (n : Nat) (x : Int) : List Nat := (List.range n).map fun i => ((lcgs (i + 1) x) / 1099511627776 % 256).toNat

theorem rawB_succ (n : Nat) (x : Int) : rawB (n + 1) x = rawB n x ++ [((lcgs (n + 1) x) / 1099511627776 % 256).toNat] := by simp [rawB, List.range_succ]
theorem rawB_length (n : Nat) (x : Int) : (rawB n x).length = n := by simp [rawB]
theorem rawB_lt (n : Nat) (x : Int) : ∀ y ∈ rawB n x, y < 256 := by
  intro y hy
  simp only [rawB, List.mem_map] at hy
  obtain ⟨i, _, rfl⟩ := hy
  omega
theorem lcg_wrap (x : Int) : wrapF .u64 (wrapF .u64 (x * 6364136223846793005) + 1442695040888963407) = lcg x := by
  simp only [wrap_u64_mod, lcg, Int.emod_add_emod]
theorem fdiv_nat (a : Int) (b : Nat) (hb : 0 < b) : a.fdiv (b : Int) = a / (b : Int) := Int.fdiv_eq_ediv_of_nonneg a (by omega)

/-- portholehand.Bytes. -/
def s_Bytes : List V → Heap → Option (V × Heap)
  | [.int .i64 n, .int .i64 seed], h => if 0 ≤ n ∧ n ≤ lim then some (newV h n.toNat, h.new (.cells (bytesOf (rawB n.toNat (seed % 18446744073709551616))) 5 1 true)) else none
  | _, _ => none

theorem Bytes_ok (cf : ACall) : Sum cf c5 s_Bytes := by
  intro args h v h' hf hsc hlt hs
  unfold s_Bytes at hs
  split at hs
  · rename_i n0 seed
    split at hs
    · rename_i hn0
      simp only [Option.some.injEq, Prod.mk.injEq] at hs
      obtain ⟨rfl, rfl⟩ := hs
      obtain ⟨n, rfl⟩ : ∃ n : Nat, n0 = (n : Int) := ⟨n0.toNat, by omega⟩
      have hlim : lim = 140737488354304 := rfl
      have hmost : most = 140737488355328 := rfl
      simp only [Int.toNat_natCast] at *
      generalize hx : seed % 18446744073709551616 = x0
      refine ⟨n + 1, ?_⟩
      have L := loop_count (cf := cf) (N := n + 1) (c := c5_l0) n
        (fun i e H => e.n = 27 ∧ e.at 0 = .int .i64 (n : Int) ∧ e.at 5 = .slice h.next 0 n (some n) ∧ e.at 6 = .int .u64 (lcgs i x0) ∧ e.at 7 = .int .i64 (i : Int) ∧ H = h.new (.cells (bytesOf (rawB i x0) ++ List.replicate (n - i) (.int .u8 0)) 5 1 true))
        (fun x e H => x = .exit 0 ∧ e.n = 27 ∧ e.at 5 = .slice h.next 0 n (some n) ∧ H = h.new (.cells (bytesOf (rawB n x0)) 5 1 true))
        (by
          rintro i e H hi ⟨hn, h0, h5, h6, h7, rfl⟩
          obtain ⟨k, hk⟩ : ∃ k, n - i = k + 1 := ⟨n - i - 1, by omega⟩
          have hk2 : n - (i + 1) = k := by omega
          have hov := over_fill (bytesOf (rawB i x0)) (.int .u8 0) (.int .u8 ((lcgs (i + 1) x0) / 1099511627776 % 256)) k
          rw [bytesOf_length, rawB_length] at hov
          have hb : bytesOf (rawB (i + 1) x0) = bytesOf (rawB i x0) ++ [.int .u8 ((lcgs (i + 1) x0) / 1099511627776 % 256)] := by
            rw [rawB_succ, bytesOf_append]
            simp only [bytesOf, List.map_cons, List.map_nil, Int.ofNat_eq_natCast]
            rw [Int.toNat_of_nonneg (by omega)]
          simp (config := {maxSteps := 1000000, maxDischargeDepth := 9, implicitDefEqProofs := false}) [c5_l0, hn, h0, h5, h6, h7, hi, hk, hk2, hb, hov, -over, rawB_length, wrap_u8_mod, lcg_wrap, lcgs, wrap_i64 (x := (i : Int) + 1) (by omega) (by omega)]
          rw [show lcg (lcgs i x0) = lcgs (i + 1) x0 from rfl, hov]
          simp)
        (by
          rintro e H ⟨hn, h0, h5, h6, h7, rfl⟩
          simp (config := {maxSteps := 1000000, maxDischargeDepth := 9, implicitDefEqProofs := false}) [c5_l0, hn, h0, h5, h6, h7])
      simp (config := {maxSteps := 1000000, maxDischargeDepth := 9, implicitDefEqProofs := false}) [c5, hx, show n ≤ 140737488355328 from by omega, show (n : Int) ≤ 140737488355328 from by omega, wrap_u64_mod]
      refine loop_then (K := fun r => finS _ (seqS _ _ _ (blockS _ r))) (L 0 _ _ (Nat.zero_le _) ?_ (Nat.lt_succ_self _)) ?_
      · simp (config := {maxSteps := 1000000, maxDischargeDepth := 9, implicitDefEqProofs := false}) [lcgs, rawB, bytesOf_nil]
      · rintro x e' H ⟨rfl, hn, h5, rfl⟩
        simp (config := {maxSteps := 1000000, maxDischargeDepth := 9, implicitDefEqProofs := false}) [hn, h5]
        exact Canon.made hf hsc rfl (by simp [bytesOf_length, rawB_length]) (flat_bytes _)
    · cases hs
  · cases hs

/-- portholehand.Few: the first bytes, in new memory. -/
def s_Few : List V → Heap → Option (V × Heap)
  | [v, .int .i64 k], h => match slB h v with
    | some s => if s.length ≤ lim ∧ 0 ≤ k then some (newV h (s.take k.toNat).length, h.new (.cells (bytesOf (s.take k.toNat)) 5 1 true)) else none
    | none => none
  | _, _ => none

theorem Few_ok (cf : ACall) : Sum cf c7 s_Few := by
  intro args h v h' hf hsc hlt hs
  unfold s_Few at hs
  split at hs
  · rename_i a k
    split at hs
    · rename_i s ha
      split at hs
      · rename_i hl
        simp only [Option.some.injEq, Prod.mk.injEq] at hs
        obtain ⟨rfl, rfl⟩ := hs
        have hv := slB_vlen ha
        have hsl := slB_isSl ha
        have ha' := slB_ext (Ext.new h (.cells [] 5 1 true)) hf ha
        obtain ⟨m, hm⟩ : ∃ m : Int, m = if k < (s.length : Int) then k else (s.length : Int) := ⟨_, rfl⟩
        have hm0 : 0 ≤ m ∧ m ≤ vlen a := by rw [hm, hv]; split <;> omega
        have hcut := slice_hi (k := .i64) (h := h.new (.cells [] 5 1 true)) (by rw [ha']; rfl) hm0.1 hm0.2
        have hcb := slB_cut (l := 0) (r := m.toNat) (by rw [ha']; rfl) (Nat.zero_le _) (by omega)
        have htake : s.take m.toNat = s.take k.toNat := by
          rw [hm]; split
          · rfl
          · rw [List.take_of_length_le (by omega), List.take_of_length_le (by omega)]
        rw [ha', Option.map_some, List.drop_zero, htake] at hcb
        obtain ⟨v2, h2, k1, k2, k3, k4, _, k6, _⟩ := (OwnB.start h 5).app (Ext.new h _) (hf.new _) (slB_added hcb) (by simp only [List.length_nil, Nat.zero_add, List.length_take]; omega)
        obtain ⟨τ, hc⟩ := k2.canon hf hsc k3 (k6 (by simp))
        refine ⟨1, v2, h2, ?_, τ, hc⟩
        simp (config := {maxSteps := 1000000, maxDischargeDepth := 9, implicitDefEqProofs := false}) [c7, lenE hsl, hv, ← hm, hcut, k1]
      · cases hs
    · cases hs
  · cases hs

/-- octet.Join: rows of bytes, one behind the other, in new memory. -/
def s_Join : List V → Heap → Option (V × Heap)
  | [vl], h => match sl h 1 vl with
    | some vs => match slBs h vs with
      | some ss => if ss.flatten.length ≤ lim ∧ ss.length ≤ lim then some (newV h ss.flatten.length, h.new (.cells (bytesOf ss.flatten) 5 1 true)) else none
      | none => none
    | none => none
  | _, _ => none

theorem Join_ok (cf : ACall) : Sum cf c15 s_Join := by
  intro args h v h' hf hsc hlt hs
  unfold s_Join at hs
  split at hs
  · rename_i vl
    split at hs
    · rename_i vs hvl
      split at hs
      · rename_i ss hss
        split at hs
        · rename_i hl
          simp only [Option.some.injEq, Prod.mk.injEq] at hs
          obtain ⟨rfl, rfl⟩ := hs
          obtain ⟨hl, hl2⟩ := hl
          have hlim : lim = 140737488354304 := rfl
          obtain ⟨hlen, hget⟩ := slBs_get hss
          have hvlen : vlen vl = ss.length := by have := rd_vlen (sl_rd hvl); omega
          have hsl := sl_isSl hvl
          refine ⟨ss.length + 1, ?_⟩
          have L := loop_count (cf := cf) (N := ss.length + 1) (c := c15_l0) ss.length
            (fun i e H => e.n = 18 ∧ e.at 7 = vl ∧ e.at 8 = .int .i64 (ss.length : Int) ∧ e.at 9 = .int .i64 (i : Int) ∧ OwnB h H 5 (e.at 3) ((ss.take i).flatten) ∧ Ext h H ∧ Fresh H ∧ e.at 3 ≠ .nilslice)
            (fun x e H => x = .exit 0 ∧ e.n = 18 ∧ OwnB h H 5 (e.at 3) ss.flatten ∧ Ext h H ∧ Fresh H ∧ e.at 3 ≠ .nilslice)
            (by
              rintro i e H hi ⟨hn, h7, h8, h9, ho, hE, hF, hne⟩
              obtain ⟨w, hw1, hw2⟩ := hget hi
              have hload := rd_load (sl_rd (sl_ext hE hf hvl)) hw1
              have hidx := indexE (z := 1) hsl H (k := .i64) (i := (i : Int)) (by omega) (by omega)
              simp only [Int.toNat_natCast, Nat.mul_one] at hidx
              obtain ⟨v2, h2, k1, k2, k3, k4, _, k6, _⟩ := ho.app hE hF (slB_added (slB_ext hE hf hw2)) (by
                have h1 := congrArg List.length (take_flatten_succ ss i hi)
                have h2 : ((ss.take (i + 1)).flatten).length ≤ ss.flatten.length := by
                  have := congrArg List.length (congrArg List.flatten (List.take_append_drop (i + 1) ss))
                  rw [List.flatten_append, List.length_append] at this; omega
                rw [List.length_append] at h1; omega)
              simp (config := {maxSteps := 1000000, maxDischargeDepth := 9, implicitDefEqProofs := false}) [c15_l0, hn, h7, h8, h9, hidx, hload, k1, hi, wrap_i64 (x := (i : Int) + 1) (by omega) (by omega)]
              rw [take_flatten_succ ss i hi]
              exact ⟨k2, k3, k4, k6 hne⟩)
            (by
              rintro e H ⟨hn, h7, h8, h9, ho, hE, hF, hne⟩
              rw [List.take_length] at ho
              simp (config := {maxSteps := 1000000, maxDischargeDepth := 9, implicitDefEqProofs := false}) [c15_l0, hn, h7, h8, h9]
              exact ⟨ho, hE, hF, hne⟩)
          simp (config := {maxSteps := 1000000, maxDischargeDepth := 9, implicitDefEqProofs := false}) [c15, lenE hsl, hvlen, -List.length_flatten]
          refine loop_then (K := fun r => finS _ (seqS _ _ _ (blockS _ r))) (L 0 _ _ (Nat.zero_le _) ?_ (Nat.lt_succ_self _)) ?_
          · simp (config := {maxSteps := 1000000, maxDischargeDepth := 9, implicitDefEqProofs := false})
            exact ⟨by simpa using OwnB.start h 5, Ext.new h _, hf.new _⟩
          · rintro x e' H ⟨rfl, hn, ho, hE, hF, hne⟩
            simp (config := {maxSteps := 1000000, maxDischargeDepth := 9, implicitDefEqProofs := false}) [hn, -List.length_flatten]
            exact ho.canon hf hsc hE hne
        · cases hs
      · cases hs
    · cases hs
  · cases hs

/-- The size for so many bytes. -/
def bkF (n : Int) : Int × Bool := if 0 ≤ n ∧ n ≤ 62 then (64, true) else if 0 ≤ n ∧ n ≤ 254 then (256, true) else if 0 ≤ n ∧ n ≤ 1022 then (1024, true) else if 0 ≤ n ∧ n ≤ 3966 then (3968, true) else (0, false)
def szL : List Int := [64, 256, 1024, 3968]
/-- None of the first sizes has room. -/
def noRoom (n : Int) (i : Nat) : Prop := ∀ j, j < i → ¬ (0 ≤ n ∧ n ≤ szL.getD j 0 - 2)
theorem noRoom_succ {n : Int} {i : Nat} (h : noRoom n i) (h2 : ¬ (0 ≤ n ∧ n ≤ szL.getD i 0 - 2)) : noRoom n (i + 1) := by
  intro j hj
  by_cases e : j = i
  · subst e; exact h2
  · exact h j (by omega)
theorem bk_none {n : Int} (h : noRoom n 4) : bkF n = (0, false) := by
  have h0 := h 0 (by omega)
  have h1 := h 1 (by omega)
  have h2 := h 2 (by omega)
  have h3 := h 3 (by omega)
  simp only [szL, List.getD_eq_getElem?_getD, List.getElem?_cons_zero, List.getElem?_cons_succ, Option.getD_some] at h0 h1 h2 h3
  unfold bkF
  rw [if_neg (by omega), if_neg (by omega), if_neg (by omega), if_neg (by omega)]
theorem bk_some {n : Int} {i : Nat} (hi : i < 4) (h : noRoom n i) (h2 : 0 ≤ n ∧ n ≤ szL.getD i 0 - 2) : bkF n = (szL.getD i 0, true) := by
  have hh : ∀ j, j < i → ¬ (0 ≤ n ∧ n ≤ szL.getD j 0 - 2) := h
  have hii : i = 0 ∨ i = 1 ∨ i = 2 ∨ i = 3 := by omega
  rcases hii with rfl | rfl | rfl | rfl
  · simp only [szL, List.getD_eq_getElem?_getD, List.getElem?_cons_zero, List.getElem?_cons_succ, Option.getD_some] at h2 ⊢
    unfold bkF; rw [if_pos (by omega)]
  · have h0 := hh 0 (by omega)
    simp only [szL, List.getD_eq_getElem?_getD, List.getElem?_cons_zero, List.getElem?_cons_succ, Option.getD_some] at h0 h2 ⊢
    unfold bkF; rw [if_neg (by omega), if_pos (by omega)]
  · have h0 := hh 0 (by omega)
    have h1 := hh 1 (by omega)
    simp only [szL, List.getD_eq_getElem?_getD, List.getElem?_cons_zero, List.getElem?_cons_succ, Option.getD_some] at h0 h1 h2 ⊢
    unfold bkF; rw [if_neg (by omega), if_neg (by omega), if_pos (by omega)]
  · have h0 := hh 0 (by omega)
    have h1 := hh 1 (by omega)
    have h3 := hh 2 (by omega)
    simp only [szL, List.getD_eq_getElem?_getD, List.getElem?_cons_zero, List.getElem?_cons_succ, Option.getD_some] at h0 h1 h2 h3 ⊢
    unfold bkF; rw [if_neg (by omega), if_neg (by omega), if_neg (by omega), if_pos (by omega)]
theorem szL_at {i : Nat} (hi : i < 4) : ∃ z, szL.getD i 0 = z ∧ 64 ≤ z ∧ z ≤ 3968 ∧ szL[i]? = some z := by
  have hii : i = 0 ∨ i = 1 ∨ i = 2 ∨ i = 3 := by omega
  rcases hii with rfl | rfl | rfl | rfl <;> exact ⟨_, rfl, by decide, by decide, rfl⟩

/-- pad.Sizes. -/
def s_Sizes : List V → Heap → Option (V × Heap)
  | [], h => some (newV h 4, h.new (.cells (szL.map (V.int .i64)) 3 1 true))
  | _, _ => none
theorem Sizes_ok (cf : ACall) : Sum cf c16 s_Sizes := by
  intro args h v h' hf hsc hlt hs
  unfold s_Sizes at hs
  split at hs
  · simp only [Option.some.injEq, Prod.mk.injEq] at hs
    obtain ⟨rfl, rfl⟩ := hs
    refine ⟨1, ?_⟩
    simp (config := {maxSteps := 1000000, maxDischargeDepth := 9, implicitDefEqProofs := false}) [c16, szL]
    exact Canon.made hf hsc rfl (by simp) (by simp only [ltL, V.lt, and_self])
  · cases hs

/-- pad.Bucket. -/
def s_Bucket : List V → Heap → Option (V × Heap)
  | [.int .i64 n], h => some (.tuple [.int .i64 (bkF n).1, .bool (bkF n).2], h)
  | _, _ => none
theorem Bucket_ok (cf : ACall) (hS : ∀ a h, cf 16 a h = s_Sizes a h) : Sum cf c10 s_Bucket := by
  intro args h v h' hf hsc hlt hs
  unfold s_Bucket at hs
  split at hs
  · rename_i n
    simp only [Option.some.injEq, Prod.mk.injEq] at hs
    obtain ⟨rfl, rfl⟩ := hs
    refine ⟨5, ?_⟩
    have L := loop_count (cf := cf) (N := 5) (c := c10_l0) 4
      (fun i e H => e.n = 22 ∧ e.at 0 = .int .i64 n ∧ e.at 6 = .slice h.next 0 4 none ∧ e.at 7 = .int .i64 4 ∧ e.at 8 = .int .i64 (i : Int) ∧ noRoom n i ∧ H = h.new (.cells (szL.map (V.int .i64)) 3 1 true))
      (fun x e H => e.n = 22 ∧ (x = .ret ∧ e.at 2 = .int .i64 (bkF n).1 ∧ e.at 3 = .bool (bkF n).2 ∨ x = .exit 0 ∧ bkF n = (0, false)) ∧ H = h.new (.cells (szL.map (V.int .i64)) 3 1 true))
      (by
        rintro i e H hi ⟨hn, h0, h6, h7, h8, hno, rfl⟩
        obtain ⟨z, hz, hz1, hz2, hz3⟩ := szL_at hi
        have hsome := bk_some hi hno
        have hnext := noRoom_succ hno
        rw [hz] at hsome hnext
        have hlen : szL.length = 4 := rfl
        have hil : i < szL.length := by rw [hlen]; exact hi
        have hzi : szL[i] = z := by rw [List.getElem?_eq_getElem hil] at hz3; exact Option.some.inj hz3
        have w1 : wrapF .i64 (z - 2) = z - 2 := wrap_i64 (by omega) (by omega)
        have i1 : (i : Int) < 4 := by omega
        by_cases g0 : 0 ≤ n
        · by_cases g1 : n ≤ z - 2
          · have hb := hsome ⟨g0, g1⟩
            simp (config := {maxSteps := 1000000, maxDischargeDepth := 9, implicitDefEqProofs := false}) [c10_l0, hn, h0, h6, h7, h8, hi, i1, hlen, hil, hzi, w1, g0, g1, hb]
          · have hb := hnext (fun hh => g1 hh.2)
            simp (config := {maxSteps := 1000000, maxDischargeDepth := 9, implicitDefEqProofs := false}) [c10_l0, hn, h0, h6, h7, h8, hi, i1, hlen, hil, hzi, w1, g0, g1, hb, wrap_i64 (x := (i : Int) + 1) (by omega) (by omega)]
        · have hb := hnext (fun hh => g0 hh.1)
          simp (config := {maxSteps := 1000000, maxDischargeDepth := 9, implicitDefEqProofs := false}) [c10_l0, hn, h0, h6, h7, h8, hi, i1, hlen, hil, hzi, w1, g0, hb, wrap_i64 (x := (i : Int) + 1) (by omega) (by omega)])
      (by
        rintro e H ⟨hn, h0, h6, h7, h8, hno, rfl⟩
        have hb := bk_none hno
        simp (config := {maxSteps := 1000000, maxDischargeDepth := 9, implicitDefEqProofs := false}) [c10_l0, hn, h0, h6, h7, h8, hb])
    simp (config := {maxSteps := 1000000, maxDischargeDepth := 9, implicitDefEqProofs := false}) [c10, hS, s_Sizes]
    refine loop_then (K := fun r => finS _ (seqS _ _ _ (blockS _ r))) (L 0 _ _ (Nat.zero_le _) ?_ (by omega)) ?_
    · simp (config := {maxSteps := 1000000, maxDischargeDepth := 9, implicitDefEqProofs := false}) [noRoom]
    · rintro x e' H ⟨hn, hx, rfl⟩
      rcases hx with ⟨rfl, h2, h3⟩ | ⟨rfl, hb⟩
      · simp (config := {maxSteps := 1000000, maxDischargeDepth := 9, implicitDefEqProofs := false}) [hn, h2, h3]
        exact Canon.keep hf hsc (Ext.new h _) (by simp only [V.lt, ltL, and_self])
      · simp (config := {maxSteps := 1000000, maxDischargeDepth := 9, implicitDefEqProofs := false}) [hn, hb]
        exact Canon.keep hf hsc (Ext.new h _) (by simp only [V.lt, ltL, and_self])
  · cases hs

def hasSizes (h : Heap) : Prop := ∃ t, h.get 0 = some (.cells (szL.map (V.int .i64)) t 1 false)
theorem hasSizes_new {h : Heap} (B : Blk) (h0 : 0 < h.next) : hasSizes (h.new B) = hasSizes h := by
  unfold hasSizes
  rw [Heap.get_new, if_neg (by omega)]
theorem hasSizes_pos {h : Heap} (hr : hasSizes h) (hf : Fresh h) : 0 < h.next := by
  obtain ⟨t, ht⟩ := hr
  exact hf.lt ht
/-- portholeref15.Bucket. -/
noncomputable def s_BucketR : List V → Heap → Option (V × Heap)
  | [.int .i64 n], h => open Classical in if hasSizes h then some (.tuple [.int .i64 (bkF n).1, .bool (bkF n).2], h) else none
  | _, _ => none
theorem BucketR_ok (cf : ACall) : Sum cf c11 s_BucketR := by
  intro args h v h' hf hsc hlt hs
  unfold s_BucketR at hs
  split at hs
  · rename_i n
    split at hs
    · rename_i hrows
      simp only [Option.some.injEq, Prod.mk.injEq] at hs
      obtain ⟨rfl, rfl⟩ := hs
      obtain ⟨t, g0⟩ := hrows
      refine ⟨5, ?_⟩
      have L := loop_count (cf := cf) (N := 5) (c := c11_l0) 4
        (fun i e H => e.n = 22 ∧ e.at 0 = .int .i64 n ∧ e.at 4 = .int .i64 (i : Int) ∧ noRoom n i ∧ H = h)
        (fun x e H => e.n = 22 ∧ (x = .ret ∧ e.at 2 = .int .i64 (bkF n).1 ∧ e.at 3 = .bool (bkF n).2 ∨ x = .exit 0 ∧ bkF n = (0, false)) ∧ H = h)
        (by
          rintro i e H hi ⟨hn, h0, h4, hno, rfl⟩
          obtain ⟨z, hz, hz1, hz2, hz3⟩ := szL_at hi
          have hsome := bk_some hi hno
          have hnext := noRoom_succ hno
          rw [hz] at hsome hnext
          have hlen : szL.length = 4 := rfl
          have hil : i < szL.length := by rw [hlen]; exact hi
          have hzi : szL[i] = z := by rw [List.getElem?_eq_getElem hil] at hz3; exact Option.some.inj hz3
          have w1 : wrapF .i64 (z - 2) = z - 2 := wrap_i64 (by omega) (by omega)
          have i1 : (i : Int) < 4 := by omega
          by_cases g1 : 0 ≤ n
          · by_cases g2 : n ≤ z - 2
            · have hb := hsome ⟨g1, g2⟩
              simp (config := {maxSteps := 1000000, maxDischargeDepth := 9, implicitDefEqProofs := false}) [c11_l0, hn, h0, h4, hi, i1, hlen, hil, hzi, w1, g0, g1, g2, hb]
            · have hb := hnext (fun hh => g2 hh.2)
              simp (config := {maxSteps := 1000000, maxDischargeDepth := 9, implicitDefEqProofs := false}) [c11_l0, hn, h0, h4, hi, i1, hlen, hil, hzi, w1, g0, g1, g2, hb, wrap_i64 (x := (i : Int) + 1) (by omega) (by omega)]
          · have hb : bkF n = (0, false) := bk_none (fun j _ hh => g1 hh.1)
            simp (config := {maxSteps := 1000000, maxDischargeDepth := 9, implicitDefEqProofs := false}) [c11_l0, hn, h0, h4, hi, i1, g1, hb])
        (by
          rintro e H ⟨hn, h0, h4, hno, rfl⟩
          have hb := bk_none hno
          simp (config := {maxSteps := 1000000, maxDischargeDepth := 9, implicitDefEqProofs := false}) [c11_l0, hn, h0, h4, hb])
      simp (config := {maxSteps := 1000000, maxDischargeDepth := 9, implicitDefEqProofs := false}) [c11]
      refine loop_then (K := fun r => finS _ (seqS _ _ _ (blockS _ r))) (L 0 _ _ (Nat.zero_le _) ?_ (by omega)) ?_
      · simp (config := {maxSteps := 1000000, maxDischargeDepth := 9, implicitDefEqProofs := false}) [noRoom]
      · rintro x e' H ⟨hn, hx, rfl⟩
        rcases hx with ⟨rfl, h2, h3⟩ | ⟨rfl, hb⟩
        · simp (config := {maxSteps := 1000000, maxDischargeDepth := 9, implicitDefEqProofs := false}) [hn, h2, h3]
          exact Canon.keep hf hsc (Ext.refl _) (by simp only [V.lt, ltL, and_self])
        · simp (config := {maxSteps := 1000000, maxDischargeDepth := 9, implicitDefEqProofs := false}) [hn, hb]
          exact Canon.keep hf hsc (Ext.refl _) (by simp only [V.lt, ltL, and_self])
    · cases hs
  · cases hs
/-- A padded text. -/
def padB (s : List Nat) : List Nat := (s.length / 256 % 256) :: (s.length % 256) :: (s ++ List.replicate ((bkF s.length).1 - 2 - s.length).toNat 0)
theorem bk_true {n : Nat} (h : (bkF n).2 = true) : (n : Int) + 2 ≤ (bkF n).1 ∧ (bkF n).1 ≤ 3968 := by
  unfold bkF at h ⊢
  split at h
  · rename_i h1; rw [if_pos h1]; omega
  · rename_i h1; rw [if_neg h1]; split at h
    · rename_i h1; rw [if_pos h1]; omega
    · rename_i h1; rw [if_neg h1]; split at h
      · rename_i h1; rw [if_pos h1]; omega
      · rename_i h1; rw [if_neg h1]; split at h
        · rename_i h1; rw [if_pos h1]; omega
        · cases h
/-- pad.Pad. -/
def s_Pad : List V → Heap → Option (V × Heap)
  | [v], h => match slB h v with
    | some s => if s.length ≤ lim then (if (bkF s.length).2 = true then some (.tuple [newV h (padB s).length, .int .i64 0], h.new (.cells (bytesOf (padB s)) 5 1 true)) else some (.tuple [.nilslice, .int .i64 6], h)) else none
    | none => none
  | _, _ => none
theorem Pad_ok (cf : ACall) (hB : ∀ a h, cf 10 a h = s_Bucket a h) (hJ : ∀ a h, cf 15 a h = s_Join a h) : Sum cf c8 s_Pad := by
  intro args h v h' hf hsc hlt hs
  unfold s_Pad at hs
  split at hs
  · rename_i v0
    split at hs
    · rename_i s hv
      split at hs
      · rename_i hl
        have hlim : lim = 140737488354304 := rfl
        have hlv : V.lt h.next v0 := by simp only [ltL] at hlt; exact hlt.1
        have hkv := lt_add hlv
        have hsl := slB_isSl hv
        have hvl := slB_vlen hv
        split at hs
        · rename_i hk
          simp only [Option.some.injEq, Prod.mk.injEq] at hs
          obtain ⟨rfl, rfl⟩ := hs
          obtain ⟨b1, b2⟩ := bk_true hk
          have hpb : padB s = (s.length / 256 % 256) :: (s.length % 256) :: (s ++ List.replicate ((bkF s.length).1 - 2 - s.length).toNat 0) := rfl
          generalize hz : (bkF (s.length : Int)).1 = z at *
          obtain ⟨r, hr⟩ : ∃ r : Nat, z - 2 - (s.length : Int) = (r : Int) := ⟨(z - 2 - (s.length : Int)).toNat, by omega⟩
          rw [hr, Int.toNat_natCast] at hpb
          have w1 : wrapF .i64 (z - 2) = z - 2 := wrap_i64 (by omega) (by omega)
          have w2 : wrapF .i64 (r : Int) = (r : Int) := wrap_i64 (by omega) (by omega)
          have hpl : (padB s).length = s.length + r + 2 := by rw [hpb]; simp
          obtain ⟨y1, hy1⟩ : ∃ y1, y1 = s.length / 256 % 256 := ⟨_, rfl⟩
          obtain ⟨y2, hy2⟩ : ∃ y2, y2 = s.length % 256 := ⟨_, rfl⟩
          have q1 : wrapF .u8 ((s.length : Int) / 256) = (y1 : Int) := by rw [wrap_u8_mod]; omega
          have q2 : wrapF .u8 (s.length : Int) = (y2 : Int) := by rw [wrap_u8_mod]; omega
          have y1l : y1 < 256 := by omega
          have y2l : y2 < 256 := by omega
          rw [← hy1, ← hy2] at hpb
          have hv1 := slB_one hv
          have hv2 := slB_cells hv
          have hz0 : List.replicate r (V.int .u8 0) = bytesOf (List.replicate r 0) := by simp [bytesOf]
          have hza : asB (bytesOf (List.replicate r 0)) = some (List.replicate r 0) := asB_bytesOf (by intro y hy; rw [List.mem_replicate] at hy; omega)
          have hfl : y1 :: y2 :: (s ++ List.replicate r 0) = padB s := hpb.symm
          have g1 : s.length + r + 2 ≤ 140737488354304 := by omega
          have g2 : s.length + r ≤ 140737488354302 := by omega
          refine ⟨1, ?_⟩
          simp (config := {maxSteps := 1000000, maxDischargeDepth := 9, implicitDefEqProofs := false}) [c8, hsl, hvl, hB, s_Bucket, hk, hz, w1, hr, w2, q1, q2, show r ≤ 140737488355328 from by omega, show (r : Int) ≤ 140737488355328 from by omega, hv1, hv2, hz0, hza, hlv, hkv, hv, y1l, y2l, show (y1 : Int) < 256 from by omega, show (y2 : Int) < 256 from by omega, hJ, s_Join, hfl, hpl, g1, g2, -List.length_flatten]
          refine Canon.tail hf hsc (by repeat (first | exact Ext.refl _ | apply Ext.trans_new)) (flat_bytes _) ?_
          simp (config := {maxSteps := 1000000, maxDischargeDepth := 9, implicitDefEqProofs := false})
        · rename_i hk
          simp only [Option.some.injEq, Prod.mk.injEq] at hs
          obtain ⟨rfl, rfl⟩ := hs
          have hk' : (bkF (s.length : Int)).2 = false := by simpa using hk
          refine ⟨1, ?_⟩
          simp (config := {maxSteps := 1000000, maxDischargeDepth := 9, implicitDefEqProofs := false}) [c8, hsl, hvl, hB, s_Bucket, hk']
          exact Canon.keep hf hsc (Ext.refl _) (by simp only [V.lt, ltL, and_self])
      · cases hs
    · cases hs
  · cases hs

/-- portholeref15.Pad. -/
noncomputable def s_PadR : List V → Heap → Option (V × Heap)
  | [v], h => match slB h v with
    | some s => open Classical in if s.length ≤ lim ∧ hasSizes h then (if (bkF s.length).2 = true then some (.tuple [newV h (padB s).length, .int .i64 0], h.new (.cells (bytesOf (padB s)) 5 1 true)) else some (.tuple [.nilslice, .int .i64 6], h)) else none
    | none => none
  | _, _ => none
theorem OwnB.canon_int {h h2 : Heap} {t : Nat} {v : V} {acc : List Nat} {k : IntKind} {z : Int} (hf : Fresh h) (hsc : Scoped h) (he : Ext h h2) (ho : OwnB h h2 t v acc) (hn : v ≠ .nilslice) : ∃ τ, Canon h.next h2 (.tuple [v, .int k z]) (h.new (.cells (bytesOf acc) t 1 true)) (.tuple [newV h acc.length, .int k z]) τ := by
  rcases ho with ⟨rfl, _⟩ | ⟨b, c, rfl, k2, k3, k4, k5, k6⟩
  · exact absurd rfl hn
  · refine ⟨_, Canon.one (δ := 0) hf hsc (fun b B hB => he.get hf hB) k3 k6 (by simp) (fun i v hi => by simpa using hi) (flat_bytes _) ?_⟩
    rcases k2 with rfl | rfl
    · simp (config := {maxSteps := 1000000, maxDischargeDepth := 9, implicitDefEqProofs := false})
    · simp (config := {maxSteps := 1000000, maxDischargeDepth := 9, implicitDefEqProofs := false}) [k6]
      exact ⟨_, _, _, ⟨rfl, rfl, rfl⟩, by simp [bytesOf_length]⟩
theorem PadR_ok (cf : ACall) (hB : ∀ a h, cf 11 a h = s_BucketR a h) : Sum cf c9 s_PadR := by
  intro args h v h' hf hsc hlt hs
  unfold s_PadR at hs
  split at hs
  · rename_i v0
    split at hs
    · rename_i s hv
      split at hs
      · rename_i hl
        obtain ⟨hl, hrows⟩ := hl
        have hlim : lim = 140737488354304 := rfl
        have hlv : V.lt h.next v0 := by simp only [ltL] at hlt; exact hlt.1
        have hkv := lt_add hlv
        have hsl := slB_isSl hv
        have hvl := slB_vlen hv
        split at hs
        · rename_i hk
          simp only [Option.some.injEq, Prod.mk.injEq] at hs
          obtain ⟨rfl, rfl⟩ := hs
          obtain ⟨b1, b2⟩ := bk_true hk
          have hpb : padB s = (s.length / 256 % 256) :: (s.length % 256) :: (s ++ List.replicate ((bkF s.length).1 - 2 - s.length).toNat 0) := rfl
          generalize hz : (bkF (s.length : Int)).1 = z at *
          obtain ⟨r, hr⟩ : ∃ r : Nat, z - 2 - (s.length : Int) = (r : Int) := ⟨(z - 2 - (s.length : Int)).toNat, by omega⟩
          rw [hr, Int.toNat_natCast] at hpb
          obtain ⟨y1, hy1⟩ : ∃ y1, y1 = s.length / 256 % 256 := ⟨_, rfl⟩
          obtain ⟨y2, hy2⟩ : ∃ y2, y2 = s.length % 256 := ⟨_, rfl⟩
          have q0 : wrapF .i64 ((s.length : Int) / 256) = (s.length : Int) / 256 := wrap_i64 (by omega) (by omega)
          have q0' : (s.length : Int).tdiv 256 = (s.length : Int) / 256 := Int.tdiv_eq_ediv_of_nonneg (by omega)
          have q1 : wrapF .u8 ((s.length : Int) / 256) = (y1 : Int) := by rw [wrap_u8_mod]; omega
          have q2 : wrapF .u8 (s.length : Int) = (y2 : Int) := by rw [wrap_u8_mod]; omega
          have y1l : y1 < 256 := by omega
          have y2l : y2 < 256 := by omega
          rw [← hy1, ← hy2] at hpb
          have hst : OwnB h (h.new (.cells [.int .u8 (y1 : Int), .int .u8 (y2 : Int)] 5 1 true)) 5 (.slice h.next 0 2 (some 2)) [y1, y2] :=
            .inr ⟨h.next, some 2, rfl, .inr rfl, Nat.le_refl _, by simp, rfl, Heap.get_new_self _ _⟩
          obtain ⟨v3, H3, a1, a2, a3, a4, a5, a6, a7⟩ := hst.app (Ext.new h _) (hf.new _) (slB_added (slB_ext (Ext.new h _) hf hv)) (by simp; omega)
          have L := loop_count (cf := cf) (N := r + 1) (c := c9_l0) r
            (fun i e H => e.n = 33 ∧ e.at 4 = .int .i64 z ∧ OwnB h H 5 (e.at 6) ([y1, y2] ++ s ++ List.replicate i 0) ∧ Ext h H ∧ Fresh H ∧ e.at 6 ≠ .nilslice)
            (fun x e H => x = .exit 0 ∧ e.n = 33 ∧ OwnB h H 5 (e.at 6) (padB s) ∧ Ext h H ∧ Fresh H ∧ e.at 6 ≠ .nilslice)
            (by
              rintro i e H hi ⟨hn, h4, ho, hE, hF, hne⟩
              have o1 := Own.isSl ho
              have o2 := Own.vlen ho
              have hlen : ([y1, y2] ++ s ++ List.replicate i 0).length = s.length + i + 2 := by simp <;> omega
              rw [hlen] at o2
              have hxs : slB (H.new (.cells [.int .u8 0] 5 1 true)) (.slice H.next 0 1 (some 1)) = some [0] := by
                rw [slB_oneE rfl (.inr rfl) (by omega) (by omega)]; simp
              obtain ⟨v4, H4, c1, c2, c3, c4, c5, c6, c7⟩ := (show OwnB h (H.new (.cells [.int .u8 0] 5 1 true)) 5 (e.at 6) ([y1, y2] ++ s ++ List.replicate i 0) from Own.ext_new _ ho hF).app (hE.trans_new _) (hF.new _) (slB_added hxs) (by rw [hlen]; simp; omega)
              rw [List.append_assoc, show List.replicate i 0 ++ [0] = List.replicate (i + 1) 0 from (List.replicate_succ' ..).symm] at c2
              have hlt : ((s.length + i + 2 : Nat) : Int) < z := by omega
              have hlt' : (s.length : Int) + (i : Int) + 2 < z := by omega
              generalize hv6 : e.at 6 = v6 at *
              simp (config := {maxSteps := 1000000, maxDischargeDepth := 9, implicitDefEqProofs := false}) [c9_l0, hn, h4, hv6, o1, o2, hlt, hlt', c1]
              exact ⟨by simpa using c2, c3, c4, c6 hne⟩)
            (by
              rintro e H ⟨hn, h4, ho, hE, hF, hne⟩
              have o1 := Own.isSl ho
              have o2 := Own.vlen ho
              have hlen : ([y1, y2] ++ s ++ List.replicate r 0).length = s.length + r + 2 := by simp <;> omega
              rw [hlen] at o2
              have hlt' : ¬ ((s.length : Int) + (r : Int) + 2 < z) := by omega
              have he : padB s = [y1, y2] ++ s ++ List.replicate r 0 := by rw [hpb]; simp
              rw [he]
              generalize hv6 : e.at 6 = v6 at *
              simp (config := {maxSteps := 1000000, maxDischargeDepth := 9, implicitDefEqProofs := false}) [c9_l0, hn, h4, hv6, o1, o2, hlt']
              exact ⟨by simpa using ho, hE, hF, hne⟩)
          refine ⟨r + 1, ?_⟩
          simp (config := {maxSteps := 1000000, maxDischargeDepth := 9, implicitDefEqProofs := false}) [c9, hsl, hvl, hB, s_BucketR, hrows, hk, hz, q0, q0', q1, q2, a1]
          refine loop_then (K := fun r => finS _ (seqS _ _ _ (blockS _ r))) (L 0 _ _ (Nat.zero_le _) ?_ (Nat.lt_succ_self _)) ?_
          · simp (config := {maxSteps := 1000000, maxDischargeDepth := 9, implicitDefEqProofs := false})
            exact ⟨by simpa using a2, a3, a4, a6 (by simp)⟩
          · rintro x e' H ⟨rfl, hn, ho, hE, hF, hne⟩
            simp (config := {maxSteps := 1000000, maxDischargeDepth := 9, implicitDefEqProofs := false}) [hn]
            have := OwnB.canon_int (k := .i64) (z := 0) hf hsc hE ho hne
            exact this
        · rename_i hk
          simp only [Option.some.injEq, Prod.mk.injEq] at hs
          obtain ⟨rfl, rfl⟩ := hs
          have hk' : (bkF (s.length : Int)).2 = false := by simpa using hk
          refine ⟨1, ?_⟩
          simp (config := {maxSteps := 1000000, maxDischargeDepth := 9, implicitDefEqProofs := false}) [c9, hsl, hvl, hB, s_BucketR, hrows, hk']
          exact Canon.keep hf hsc (Ext.refl _) (by simp only [V.lt, ltL, and_self])
      · cases hs
    · cases hs
  · cases hs

theorem padB_lt (s : List Nat) (hs : ∀ y ∈ s, y < 256) : ∀ y ∈ padB s, y < 256 := by
  intro y hy
  simp only [padB, List.mem_cons, List.mem_append, List.mem_replicate] at hy
  rcases hy with rfl | rfl | hy | ⟨_, rfl⟩
  · omega
  · omega
  · exact hs y hy
  · omega
/-- Behind the text. -/
theorem pads_tail (cf : ACall) (hknown : ∀ a h, cf 12 a h = s_known a h) (hFew : ∀ a h, cf 7 a h = s_Few a h) (hPad : ∀ a h, cf 8 a h = s_Pad a h) (hPadR : ∀ a h, cf 9 a h = s_PadR a h) (hB : ∀ a h, cf 10 a h = s_Bucket a h) (hBR : ∀ a h, cf 11 a h = s_BucketR a h)
    (e : Env) (h : Heap) (n : Int) (s : List Nat) (va : V) (hf : Fresh h) (hrows : hasSizes h) (hla : V.lt h.next va) (ha : slB h va = some s) (hs : s.length ≤ 140737488354304) (hn : e.n = 110) (h0 : e.at 0 = va) (h1 : e.at 1 = .int .i64 n) :
    Runs (finS [ARes.tmp 8] (execA cf 1 c3_s2 e h)) fun v _ => v = .bool true := by
  have hpos := hasSizes_pos hrows hf
  have hkm := lt_add hla
  have hvl := slB_vlen ha
  have hsl := slB_isSl ha
  have hslt := slB_lt ha
  have hsa := asB_bytesOf hslt
  have hpa := asB_bytesOf (padB_lt s hslt)
  cases hk : (bkF (s.length : Int)).2 with
  | true =>
    simp (config := {maxSteps := 1000000, maxDischargeDepth := 9, implicitDefEqProofs := false}) [c3_s2, hn, h0, h1, hvl, hsl, ha, hla, hkm, hs, hFew, s_Few, hsa, hPad, s_Pad, hPadR, s_PadR, hB, s_Bucket, hBR, s_BucketR, hk, hpa, hasSizes_new, hpos, hrows, hknown, s_known]
  | false =>
    simp (config := {maxSteps := 1000000, maxDischargeDepth := 9, implicitDefEqProofs := false}) [c3_s2, hn, h0, h1, hvl, hsl, ha, hla, hkm, hs, hFew, s_Few, hsa, hPad, s_Pad, hPadR, s_PadR, hB, s_Bucket, hBR, s_BucketR, hk, hpa, hasSizes_new, hpos, hrows, hknown, s_known]
theorem law_PadPads (cf : ACall) (hknown : ∀ a h, cf 12 a h = s_known a h) (hPick : ∀ a h, cf 6 a h = s_Pick a h) (hBytes : ∀ a h, cf 5 a h = s_Bytes a h) (hFew : ∀ a h, cf 7 a h = s_Few a h) (hPad : ∀ a h, cf 8 a h = s_Pad a h) (hPadR : ∀ a h, cf 9 a h = s_PadR a h) (hB : ∀ a h, cf 10 a h = s_Bucket a h) (hBR : ∀ a h, cf 11 a h = s_BucketR a h)
    (h : Heap) (n size : Int) (near : Bool) (s : List Nat) (va : V) (hf : Fresh h) (hrows : hasSizes h) (hla : V.lt h.next va) (ha : slB h va = some s) (hs : s.length ≤ 140737488354304) :
    ∃ N, Runs (bodyA cf N c3 [va, .int .i64 n, .int .i64 size, .bool near] h) fun v _ => v = .bool true := by
  refine ⟨1, ?_⟩
  have hpos := hasSizes_pos hrows hf
  cases near with
  | false =>
    simp (config := {maxSteps := 1000000, maxDischargeDepth := 9, implicitDefEqProofs := false}) [c3]
    refine pads_tail cf hknown hFew hPad hPadR hB hBR _ h n s va hf hrows hla ha hs ?_ ?_ ?_
    all_goals simp (config := {maxSteps := 1000000, maxDischargeDepth := 9, implicitDefEqProofs := false})
  | true =>
    have hp0 := Int.emod_nonneg size (show (4 : Int) ≠ 0 by omega)
    have hp1 := Int.emod_lt_of_pos size (show (0 : Int) < 4 by omega)
    obtain ⟨q, hq⟩ : ∃ q : Nat, size % 4 = (q : Int) := ⟨(size % 4).toNat, by omega⟩
    have hr0 := Int.emod_nonneg n (show (6 : Int) ≠ 0 by omega)
    have hr1 := Int.emod_lt_of_pos n (show (0 : Int) < 6 by omega)
    obtain ⟨r, hr⟩ : ∃ r : Nat, n % 6 = (r : Int) := ⟨(n % 6).toNat, by omega⟩
    have fin : ∀ (m : Nat) (e : Env), m ≤ 4000 → e.n = 110 → e.at 0 = .slice h.next 0 m none → e.at 1 = .int .i64 n →
        Runs (finS [ARes.tmp 8] (execA cf 1 c3_s2 e (h.new (.cells (bytesOf (rawB m (n % 18446744073709551616))) 5 1 true)))) fun v _ => v = .bool true := by
      intro m e hm hn h0 h1
      refine pads_tail cf hknown hFew hPad hPadR hB hBR e _ n (rawB m (n % 18446744073709551616)) (.slice h.next 0 m none) (hf.new _) (by rw [hasSizes_new _ hpos]; exact hrows) ?_ ?_ ?_ hn h0 h1
      · simp [V.lt]
      · simp (config := {maxSteps := 1000000, maxDischargeDepth := 9, implicitDefEqProofs := false}) [asB_bytesOf (rawB_lt m _), rawB_length]
      · rw [rawB_length]; omega
    have hqq : q = 0 ∨ q = 1 ∨ q = 2 ∨ q = 3 := by omega
    rcases hqq with rfl | rfl | rfl | rfl
    · have w1 : wrapF .i64 (59 + (r : Int)) = ((59 + r : Nat) : Int) := by rw [wrap_i64 (by omega) (by omega)]; omega
      obtain ⟨m, hm⟩ : ∃ m, m = 59 + r := ⟨_, rfl⟩
      rw [← hm] at w1
      simp (config := {maxSteps := 1000000, maxDischargeDepth := 9, implicitDefEqProofs := false}) [c3, hPick, s_Pick, hq, hr, w1, hBytes, s_Bytes, show (m : Int) ≤ 140737488354304 from by omega, show m ≤ 140737488354304 from by omega, show 0 < m from by omega]
      refine fin m _ (by omega) ?_ ?_ ?_
      all_goals simp (config := {maxSteps := 1000000, maxDischargeDepth := 9, implicitDefEqProofs := false})
    · have w1 : wrapF .i64 (251 + (r : Int)) = ((251 + r : Nat) : Int) := by rw [wrap_i64 (by omega) (by omega)]; omega
      obtain ⟨m, hm⟩ : ∃ m, m = 251 + r := ⟨_, rfl⟩
      rw [← hm] at w1
      simp (config := {maxSteps := 1000000, maxDischargeDepth := 9, implicitDefEqProofs := false}) [c3, hPick, s_Pick, hq, hr, w1, hBytes, s_Bytes, show (m : Int) ≤ 140737488354304 from by omega, show m ≤ 140737488354304 from by omega, show 0 < m from by omega]
      refine fin m _ (by omega) ?_ ?_ ?_
      all_goals simp (config := {maxSteps := 1000000, maxDischargeDepth := 9, implicitDefEqProofs := false})
    · have w1 : wrapF .i64 (1019 + (r : Int)) = ((1019 + r : Nat) : Int) := by rw [wrap_i64 (by omega) (by omega)]; omega
      obtain ⟨m, hm⟩ : ∃ m, m = 1019 + r := ⟨_, rfl⟩
      rw [← hm] at w1
      simp (config := {maxSteps := 1000000, maxDischargeDepth := 9, implicitDefEqProofs := false}) [c3, hPick, s_Pick, hq, hr, w1, hBytes, s_Bytes, show (m : Int) ≤ 140737488354304 from by omega, show m ≤ 140737488354304 from by omega, show 0 < m from by omega]
      refine fin m _ (by omega) ?_ ?_ ?_
      all_goals simp (config := {maxSteps := 1000000, maxDischargeDepth := 9, implicitDefEqProofs := false})
    · have w1 : wrapF .i64 (3963 + (r : Int)) = ((3963 + r : Nat) : Int) := by rw [wrap_i64 (by omega) (by omega)]; omega
      obtain ⟨m, hm⟩ : ∃ m, m = 3963 + r := ⟨_, rfl⟩
      rw [← hm] at w1
      simp (config := {maxSteps := 1000000, maxDischargeDepth := 9, implicitDefEqProofs := false}) [c3, hPick, s_Pick, hq, hr, w1, hBytes, s_Bytes, show (m : Int) ≤ 140737488354304 from by omega, show m ≤ 140737488354304 from by omega, show 0 < m from by omega]
      refine fin m _ (by omega) ?_ ?_ ?_
      all_goals simp (config := {maxSteps := 1000000, maxDischargeDepth := 9, implicitDefEqProofs := false})

end
end Go.Proofs.YtaaejidllnkpbaaDoor.PadPads
