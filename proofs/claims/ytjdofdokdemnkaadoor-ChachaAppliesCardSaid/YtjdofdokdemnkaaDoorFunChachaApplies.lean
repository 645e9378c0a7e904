/- What the functions that the law ChachaApplies reaches do, each told once, and the law by them. No condition. -/
import Derived.Test.YtjdofdokdemnkaaDoorCodeChachaApplies
namespace Go.Proofs.YtjdofdokdemnkaaDoor.ChachaApplies
open Go Go.Proofs.YtjdofdokdemnkaaDoorA
set_option linter.unusedSimpArgs false
set_option linter.unusedVariables false
set_option maxHeartbeats 4000000
set_option maxRecDepth 100000
attribute [local simp] body_eq exec_seq exec_region exec_skip exec_ret exec_exit exec_cond exec_block seqS_normal seqS_ret seqS_exit seqS_none seqS_bif regS_some regS_none regS_bif condS_bool condS_true
  condS_false blockS_normal blockS_ret blockS_exit blockS_none blockS_bif finS_normal finS_ret finS_bif steps_nil steps_cons steps_guard bindS_some bindS_none bindS_bif endS_some
  endS_skip endS_none endS_bif gstep_some gstep_true gstep_false wantV_true wantV_false wantV_undef wantV_gdv_true wantV_gdv_false gdv_true gdv_false aop_pick pickS_or pickS_and
  pickS_true pickS_false bif_bool put_some put_none Env.at_put Env.n_put at_init n_init Opd.ev ressA resA pack Heap.get_new Heap.get_set nextOf_new Heap.next_set nth fillV zeros over
  eqv read_eq read_zero readB_cells one_bool one_int one_str one_ptr one_nilptr one_slice one_nilslice cells_bool cells_int cells_str cells_ptr cells_nilptr cells_slice
  cells_nilslice cells_agg aop_move aop_box aop_boxv boxvS_agg boxvS_int boxvS_bool boxvS_str boxvS_slice boxvS_nilslice aop_build buildS_some aop_buildSlice buildSliceS_some
  aop_load loadS_ptr loadB_cells loadC_some aop_loadn loadnS_ptr aop_store storeS_ptr writeB_cells aop_bin binS_lss binS_leq binS_gtr binS_geq binS_eql binS_neq binS_add binS_sub
  binS_mul binS_quo binS_rem binS_and binS_or binS_xor binS_shl binS_shr binS_seql binS_sneq binS_sadd aop_eq eqS_some_f eqS_some_t aop_un unS_not unS_neg aop_conv convS_int
  aop_convStr convStrS_str aop_intStr intStrS_int aop_strBytes strBytesS_str aop_bytesStr bytesStrS_nil bytesStrS_slice aop_mkIface aop_mkFunc aop_makeSlice makeS_int aop_sliceStr
  sliceStrS_str sliceStrB_some someS_some aop_sliceSl aop_sliceArr sliceArrS_ptr aop_fieldAddr fieldAddrS_ptr aop_field fieldS_agg fieldS_aggn aop_indexAddrA indexAddrAS_ptr
  aop_indexAddrS indexAddrSS_slice aop_indexA indexAS_agg byteS_some aop_indexStr indexStrS_str aop_extract extractS_tuple aop_call callS_func aop_append aop_copy aop_lenS lenSS_str
  aop_lenL lenLS_nil lenLS_slice aop_minmax minmaxS_min minmaxS_max aop_convSame convSameS_slice convSameB_cells aop_lenC Heap.set_newE Heap.kill_newE Heap.set_new_ne
  Heap.set_gone_ne Heap.set_set Heap.get_gone Heap.next_gone loopE_n loopE_at Runs_some Ends_some Ends_none Runs_none VCL_nil VCL_cons VC_tuple VC_agg VC_bool VC_int VC_str VC_nil
  VC_nilptr VC_ptr VC_slice_nn VC_slice_ns VC_slice_s moved_at most_val lim_val next_add vlen_slice vlen_nil isSl_slice isSl_nil atP_slice newV sl_new slB_new slK_new sl_gone
  slB_gone slK_gone lt_slice lt_nil lt_ptr lt_cut sl_selfE slB_litE slK_litE asB asB_bytesOf asK asK_map slB_nil slK_nil slBs Fresh.new Fresh.gone indexE bytesStrE loadBE slice_lo
  slice_hi slice_lohi slB_cut vlen_cut isSl_cut one_cut cells_cut lenE IntKind.bits Int.fdiv_eq_ediv_of_nonneg bytesOf_length sameV_refl gval_true gval_false gval_some traceA_nil
  traceA_cons consT_some mapT_some stepV_none stepV_guard exec_any anyS_some chkOk_nil chkOk_cons sameS_some chk2_some chk1_eq envL_nil envL_cons heapL_nil heapL_cons heapO_some
  heapB_zero heapB_succ isWriter nth_bytesOf nth_ints str_hi str_lo wrap_i64 wrap_i32 wrap_u64 wrap_u32 wrap_u8
attribute [local congr] gstep_congr gval_congr
noncomputable section
/-- portholehand.Pick: the remainder that is not below 0. -/
def s_Pick : List V → Heap → Option (V × Heap)
  | [.int .i64 n, .int .i64 m], h => if 0 < m ∧ m ≤ 4611686018427387904 then some (.int .i64 (n % m), h) else none
  | _, _ => none

theorem tmod_emod (n m : Int) (hm : 0 < m) : (if n.tmod m < 0 then n.tmod m + m else n.tmod m) = n % m := by
  rw [Int.tmod_eq_emod]
  have h1 := Int.emod_nonneg n (show m ≠ 0 by omega)
  have h2 := Int.emod_lt_of_pos n hm
  have h3 : (m.natAbs : Int) = m := by omega
  split <;> split <;> omega

theorem Pick_ok (cf : ACall) : Sum cf c12 s_Pick := by
  intro args h v h' hf hsc hlt hs
  unfold s_Pick at hs
  split at hs
  · rename_i n m
    split at hs
    · rename_i hm
      simp only [Option.some.injEq, Prod.mk.injEq] at hs
      obtain ⟨rfl, rfl⟩ := hs
      have hm0 : ¬ m = 0 := by omega
      have h1 := tmod_emod n m hm.1
      have h2 := Int.emod_nonneg n hm0
      have h3 := Int.emod_lt_of_pos n hm.1
      refine ⟨1, ?_⟩
      have hres : bodyA cf 1 c12 [.int .i64 n, .int .i64 m] h = some (.int .i64 (n % m), h) := by
        by_cases hq : n.tmod m < 0
        · have hd : decide (n.tmod m < 0) = true := by simpa using hq
          rw [if_pos hq] at h1
          simp (config := {maxSteps := 1000000, maxDischargeDepth := 9, implicitDefEqProofs := false}) [c12, hm0, hd]
          simp only [cond_true, h1, Option.some.injEq, Prod.mk.injEq, and_true, V.int.injEq, true_and]
          exact wrap_i64 (by omega) (by omega)
        · have hd : decide (n.tmod m < 0) = false := by simpa using hq
          rw [if_neg hq] at h1
          simp (config := {maxSteps := 1000000, maxDischargeDepth := 9, implicitDefEqProofs := false}) [c12, hm0, hd]
          simp only [cond_false, h1]
      exact ⟨_, _, hres, Canon.same hf hsc (fun _ _ hb => hb) (by simp only [V.lt])⟩
    · cases hs
  · cases hs

/-- The raw numbers, and the bytes of them. -/
def lcg (x : Int) : Int := (x * 6364136223846793005 + 1442695040888963407) % 18446744073709551616
def lcgs : Nat → Int → Int
  | 0, x => x
  | i + 1, x => lcg (lcgs i x)
def rawB (n : Nat) (x : Int) : List Nat := (List.range n).map fun i => ((lcgs (i + 1) x) / 1099511627776 % 256).toNat

theorem rawB_succ (n : Nat) (x : Int) : rawB (n + 1) x = rawB n x ++ [((lcgs (n + 1) x) / 1099511627776 % 256).toNat] := by simp [rawB, List.range_succ]
theorem rawB_length (n : Nat) (x : Int) : (rawB n x).length = n := by simp [rawB]
theorem rawB_lt (n : Nat) (x : Int) : ∀ y ∈ rawB n x, y < 256 := by
  intro y hy
  simp only [rawB, List.mem_map] at hy
  obtain ⟨i, _, rfl⟩ := hy
  omega
theorem lcg_wrap (x : Int) : wrapF .u64 (wrapF .u64 (x * 6364136223846793005) + 1442695040888963407) = lcg x := by
  simp only [wrap_u64_mod, lcg, Int.emod_add_emod]
theorem fdiv_nat (a : Int) (b : Nat) (hb : 0 < b) : a.fdiv (b : Int) = a / (b : Int) := Int.fdiv_eq_ediv_of_nonneg a (by omega)

/-- portholehand.Bytes. -/
def s_Bytes : List V → Heap → Option (V × Heap)
  | [.int .i64 n, .int .i64 seed], h => if 0 ≤ n ∧ n ≤ lim then some (newV h n.toNat, h.new (.cells (bytesOf (rawB n.toNat (seed % 18446744073709551616))) 5 1 true)) else none
  | _, _ => none

theorem Bytes_ok (cf : ACall) : Sum cf c11 s_Bytes := by
  intro args h v h' hf hsc hlt hs
  unfold s_Bytes at hs
  split at hs
  · rename_i n0 seed
    split at hs
    · rename_i hn0
      simp only [Option.some.injEq, Prod.mk.injEq] at hs
      obtain ⟨rfl, rfl⟩ := hs
      obtain ⟨n, rfl⟩ : ∃ n : Nat, n0 = (n : Int) := ⟨n0.toNat, by omega⟩
      have hlim : lim = 140737488354304 := rfl
      have hmost : most = 140737488355328 := rfl
      simp only [Int.toNat_natCast] at *
      generalize hx : seed % 18446744073709551616 = x0
      refine ⟨n + 1, ?_⟩
      have L := loop_count (cf := cf) (N := n + 1) (c := c11_l0) n
        (fun i e H => e.n = 27 ∧ e.at 0 = .int .i64 (n : Int) ∧ e.at 5 = .slice h.next 0 n (some n) ∧ e.at 6 = .int .u64 (lcgs i x0) ∧ e.at 7 = .int .i64 (i : Int) ∧ H = h.new (.cells (bytesOf (rawB i x0) ++ List.replicate (n - i) (.int .u8 0)) 5 1 true))
        (fun x e H => x = .exit 0 ∧ e.n = 27 ∧ e.at 5 = .slice h.next 0 n (some n) ∧ H = h.new (.cells (bytesOf (rawB n x0)) 5 1 true))
        (by
          rintro i e H hi ⟨hn, h0, h5, h6, h7, rfl⟩
          obtain ⟨k, hk⟩ : ∃ k, n - i = k + 1 := ⟨n - i - 1, by omega⟩
          have hk2 : n - (i + 1) = k := by omega
          have hov := over_fill (bytesOf (rawB i x0)) (.int .u8 0) (.int .u8 ((lcgs (i + 1) x0) / 1099511627776 % 256)) k
          rw [bytesOf_length, rawB_length] at hov
          have hb : bytesOf (rawB (i + 1) x0) = bytesOf (rawB i x0) ++ [.int .u8 ((lcgs (i + 1) x0) / 1099511627776 % 256)] := by
            rw [rawB_succ, bytesOf_append]
            simp only [bytesOf, List.map_cons, List.map_nil, Int.ofNat_eq_natCast]
            rw [Int.toNat_of_nonneg (by omega)]
          simp (config := {maxSteps := 1000000, maxDischargeDepth := 9, implicitDefEqProofs := false}) [c11_l0, hn, h0, h5, h6, h7, hi, hk, hk2, hb, hov, -over, rawB_length, wrap_u8_mod, lcg_wrap, lcgs, wrap_i64 (x := (i : Int) + 1) (by omega) (by omega)]
          rw [show lcg (lcgs i x0) = lcgs (i + 1) x0 from rfl, hov]
          simp)
        (by
          rintro e H ⟨hn, h0, h5, h6, h7, rfl⟩
          simp (config := {maxSteps := 1000000, maxDischargeDepth := 9, implicitDefEqProofs := false}) [c11_l0, hn, h0, h5, h6, h7])
      simp (config := {maxSteps := 1000000, maxDischargeDepth := 9, implicitDefEqProofs := false}) [c11, hx, show n ≤ 140737488355328 from by omega, show (n : Int) ≤ 140737488355328 from by omega, wrap_u64_mod]
      refine loop_then (K := fun r => finS _ (seqS _ _ _ (blockS _ r))) (L 0 _ _ (Nat.zero_le _) ?_ (Nat.lt_succ_self _)) ?_
      · simp (config := {maxSteps := 1000000, maxDischargeDepth := 9, implicitDefEqProofs := false}) [lcgs, rawB, bytesOf_nil]
      · rintro x e' H ⟨rfl, hn, h5, rfl⟩
        simp (config := {maxSteps := 1000000, maxDischargeDepth := 9, implicitDefEqProofs := false}) [hn, h5]
        exact Canon.made hf hsc rfl (by simp [bytesOf_length, rawB_length]) (flat_bytes _)
    · cases hs
  · cases hs

/-- portholehand.Few: the first bytes, in new memory. -/
def s_Few : List V → Heap → Option (V × Heap)
  | [v, .int .i64 k], h => match slB h v with
    | some s => if s.length ≤ lim ∧ 0 ≤ k then some (newV h (s.take k.toNat).length, h.new (.cells (bytesOf (s.take k.toNat)) 5 1 true)) else none
    | none => none
  | _, _ => none

theorem Few_ok (cf : ACall) : Sum cf c13 s_Few := by
  intro args h v h' hf hsc hlt hs
  unfold s_Few at hs
  split at hs
  · rename_i a k
    split at hs
    · rename_i s ha
      split at hs
      · rename_i hl
        simp only [Option.some.injEq, Prod.mk.injEq] at hs
        obtain ⟨rfl, rfl⟩ := hs
        have hv := slB_vlen ha
        have hsl := slB_isSl ha
        have ha' := slB_ext (Ext.new h (.cells [] 5 1 true)) hf ha
        obtain ⟨m, hm⟩ : ∃ m : Int, m = if k < (s.length : Int) then k else (s.length : Int) := ⟨_, rfl⟩
        have hm0 : 0 ≤ m ∧ m ≤ vlen a := by rw [hm, hv]; split <;> omega
        have hcut := slice_hi (k := .i64) (h := h.new (.cells [] 5 1 true)) (by rw [ha']; rfl) hm0.1 hm0.2
        have hcb := slB_cut (l := 0) (r := m.toNat) (by rw [ha']; rfl) (Nat.zero_le _) (by omega)
        have htake : s.take m.toNat = s.take k.toNat := by
          rw [hm]; split
          · rfl
          · rw [List.take_of_length_le (by omega), List.take_of_length_le (by omega)]
        rw [ha', Option.map_some, List.drop_zero, htake] at hcb
        obtain ⟨v2, h2, k1, k2, k3, k4, _, k6, _⟩ := (OwnB.start h 5).app (Ext.new h _) (hf.new _) (slB_added hcb) (by simp only [List.length_nil, Nat.zero_add, List.length_take]; omega)
        obtain ⟨τ, hc⟩ := k2.canon hf hsc k3 (k6 (by simp))
        refine ⟨1, v2, h2, ?_, τ, hc⟩
        simp (config := {maxSteps := 1000000, maxDischargeDepth := 9, implicitDefEqProofs := false}) [c13, lenE hsl, hv, ← hm, hcut, k1]
      · cases hs
    · cases hs
  · cases hs

/-- Two texts, byte by byte. -/
def xorB (a b : List Nat) : List Nat := List.zipWith (fun x y => x ^^^ y) a b
theorem xorB_length (a b : List Nat) : (xorB a b).length = min a.length b.length := by simp [xorB]
theorem xor_lt {x y : Nat} (hx : x < 256) (hy : y < 256) : x ^^^ y < 256 := Nat.xor_lt_two_pow (n := 8) hx hy
theorem xorB_lt {a b : List Nat} (ha : ∀ y ∈ a, y < 256) (hb : ∀ y ∈ b, y < 256) : ∀ y ∈ xorB a b, y < 256 := by
  intro y hy
  obtain ⟨i, hi⟩ := List.mem_iff_getElem?.1 hy
  simp only [xorB, List.getElem?_zipWith] at hi
  split at hi
  · rename_i p q hp hq
    simp only [Option.some.injEq] at hi
    subst hi
    exact xor_lt (ha _ (List.mem_of_getElem? hp)) (hb _ (List.mem_of_getElem? hq))
  · cases hi
theorem xor8 {x y : Nat} (hx : x < 256) (hy : y < 256) : wrapF .u8 (((((x : Int) % 256).toNat ^^^ ((y : Int) % 256).toNat : Nat)) : Int) = ((x ^^^ y : Nat) : Int) := by
  have h1 : ((x : Int) % 256).toNat = x := by omega
  have h2 : ((y : Int) % 256).toNat = y := by omega
  rw [h1, h2]
  have := xor_lt hx hy
  exact wrap_u8 (by omega) (by omega)

/-- octet.Xor. -/
def s_Xor : List V → Heap → Option (V × Heap)
  | [v, w], h => match slB h v, slB h w with
    | some a, some b => if (xorB a b).length ≤ lim then some (newV h (xorB a b).length, h.new (.cells (bytesOf (xorB a b)) 5 1 true)) else none
    | _, _ => none
  | _, _ => none

theorem Xor_ok (cf : ACall) : Sum cf c26 s_Xor := by
  intro args h v h' hf hsc hlt hs
  unfold s_Xor at hs
  split at hs
  · rename_i va vb
    split at hs
    · rename_i a b ha hb
      split at hs
      · rename_i hl
        simp only [Option.some.injEq, Prod.mk.injEq] at hs
        obtain ⟨rfl, rfl⟩ := hs
        have hlva : V.lt h.next va := by simp only [ltL] at hlt; exact hlt.1
        have hlvb : V.lt h.next vb := by simp only [ltL] at hlt; exact hlt.2.1
        have hlim : lim = 140737488354304 := rfl
        have h1 := slB_isSl ha
        have h2 := slB_vlen ha
        have h3 := slB_isSl hb
        have h4 := slB_vlen hb
        obtain ⟨n, hn⟩ : ∃ n, n = (xorB a b).length := ⟨_, rfl⟩
        have hn2 := xorB_length a b
        rw [← hn] at hl hn2 ⊢
        refine ⟨n + 1, ?_⟩
        have hmin : (if (b.length : Int) < (a.length : Int) then (b.length : Int) else (a.length : Int)) = (n : Int) := by split <;> omega
        have hmin2 : (if b.length < a.length then (b.length : Int) else (a.length : Int)) = (n : Int) := by split <;> omega
        have L := loop_count (cf := cf) (N := n + 1) (c := c26_l0) n
          (fun i e H => e.n = 32 ∧ e.at 0 = va ∧ e.at 1 = vb ∧ e.at 5 = .slice h.next 0 n (some n) ∧ e.at 14 = .int .i64 (n : Int) ∧ e.at 15 = .int .i64 (i : Int) ∧ H = h.new (.cells (bytesOf ((xorB a b).take i) ++ List.replicate (n - i) (.int .u8 0)) 5 1 true))
          (fun x' e H => x' = .exit 0 ∧ e.n = 32 ∧ e.at 5 = .slice h.next 0 n (some n) ∧ H = h.new (.cells (bytesOf (xorB a b)) 5 1 true))
          (by
            rintro i e H hi ⟨hn', h0, h1', h5, h14, h15, rfl⟩
            obtain ⟨k, hk⟩ : ∃ k, n - i = k + 1 := ⟨n - i - 1, by omega⟩
            have hk2 : n - (i + 1) = k := by omega
            have hia : i < a.length := by omega
            have hib : i < b.length := by omega
            have hxa := slB_lt ha a[i] (by simp)
            have hxb := slB_lt hb b[i] (by simp)
            have hx8 := xor8 hxa hxb
            have hov := over_fill (bytesOf ((xorB a b).take i)) (.int .u8 0) (.int .u8 ((a[i] ^^^ b[i] : Nat) : Int)) k
            rw [bytesOf_length, List.length_take, Nat.min_eq_left (by omega)] at hov
            have hb' : bytesOf ((xorB a b).take (i + 1)) = bytesOf ((xorB a b).take i) ++ [.int .u8 ((a[i] ^^^ b[i] : Nat) : Int)] := by
              rw [List.take_succ_eq_append_getElem (by omega), bytesOf_append]
              simp [xorB, bytesOf]
            have hlen : ((xorB a b).take i).length = i := by simp; omega
            simp (config := {maxSteps := 1000000, maxDischargeDepth := 9, implicitDefEqProofs := false}) [c26_l0, hn', h0, h1', h5, h14, h15, hi, hk, hk2, h1, h2, h3, h4, hia, hib, ha, hb, hlva, hlvb, hb', modK, hx8, hov, -over, -List.length_take, hlen, wrap_i64 (x := (i : Int) + 1) (by omega) (by omega)]
            )
          (by
            rintro e H ⟨hn', h0, h1', h5, h14, h15, rfl⟩
            have : (xorB a b).take n = xorB a b := List.take_of_length_le (by omega)
            simp (config := {maxSteps := 1000000, maxDischargeDepth := 9, implicitDefEqProofs := false}) [c26_l0, hn', h0, h5, h14, h15, this])
        simp (config := {maxSteps := 1000000, maxDischargeDepth := 9, implicitDefEqProofs := false}) [c26, h1, h2, h3, h4, hmin, hmin2, show n ≤ 140737488355328 from by omega, show (n : Int) ≤ 140737488355328 from by omega]
        refine loop_then (K := fun r => finS _ (seqS _ _ _ (blockS _ r))) (L 0 _ _ (Nat.zero_le _) ?_ (Nat.lt_succ_self _)) ?_
        · simp (config := {maxSteps := 1000000, maxDischargeDepth := 9, implicitDefEqProofs := false}) [bytesOf_nil]
        · rintro x e' H ⟨rfl, hn', h5, rfl⟩
          simp (config := {maxSteps := 1000000, maxDischargeDepth := 9, implicitDefEqProofs := false}) [hn', h5]
          exact Canon.made hf hsc rfl (by simp [bytesOf_length, hn]) (flat_bytes _)
      · cases hs
    · cases hs
  · cases hs

/-- A word turned left. -/
def rotl (x : Int) (k : Nat) : Int := wrapF .u32 (((wrapF .u32 (x * 2 ^ k) % 4294967296).toNat ||| ((x / 2 ^ (32 - k)) % 4294967296).toNat : Nat) : Int)

/-- bits.RotateLeft32, by 16, 12, 8 or 7. -/
def s_Rot : List V → Heap → Option (V × Heap)
  | [.int .u32 x, .int .i64 k], h => if k = 16 ∨ k = 12 ∨ k = 8 ∨ k = 7 then some (.int .u32 (rotl x k.toNat), h) else none
  | _, _ => none
theorem Rot_ok (cf : ACall) : Sum cf c19 s_Rot := by
  intro args h v h' hf hsc hlt hs
  unfold s_Rot at hs
  split at hs
  · rename_i x k
    split at hs
    · rename_i hk
      simp only [Option.some.injEq, Prod.mk.injEq] at hs
      obtain ⟨rfl, rfl⟩ := hs
      refine ⟨1, ?_⟩
      rcases hk with rfl | rfl | rfl | rfl <;>
        (simp (config := {maxSteps := 1000000, maxDischargeDepth := 9, implicitDefEqProofs := false}) [c19, modK, rotl]
         exact Canon.keep hf hsc (Ext.refl _) (by simp only [V.lt]))
    · cases hs
  · cases hs

def add32 (a b : Int) : Int := wrapF .u32 (a + b)
def xor32 (a b : Int) : Int := wrapF .u32 (((a % 4294967296).toNat ^^^ (b % 4294967296).toNat : Nat) : Int)
/-- A quarter round. -/
def quarterF (a b c d : Int) : Int × Int × Int × Int :=
  let a1 := add32 a b
  let d1 := rotl (xor32 d a1) 16
  let c1 := add32 c d1
  let b1 := rotl (xor32 b c1) 12
  let a2 := add32 a1 b1
  let d2 := rotl (xor32 d1 a2) 8
  let c2 := add32 c1 d2
  let b2 := rotl (xor32 b1 c2) 7
  (a2, b2, c2, d2)

/-- chacha.Quarter. -/
def s_Quarter : List V → Heap → Option (V × Heap)
  | [.int .u32 a, .int .u32 b, .int .u32 c, .int .u32 d], h => some (.tuple [.int .u32 (quarterF a b c d).1, .int .u32 (quarterF a b c d).2.1, .int .u32 (quarterF a b c d).2.2.1, .int .u32 (quarterF a b c d).2.2.2], h)
  | _, _ => none
theorem Quarter_ok (cf : ACall) (hRot : ∀ a h, cf 19 a h = s_Rot a h) : Sum cf c6 s_Quarter := by
  intro args h v h' hf hsc hlt hs
  unfold s_Quarter at hs
  split at hs
  · rename_i a b c d
    simp only [Option.some.injEq, Prod.mk.injEq] at hs
    obtain ⟨rfl, rfl⟩ := hs
    refine ⟨1, ?_⟩
    have e1 : ∀ x y, wrapF .u32 (x + y) = add32 x y := fun _ _ => rfl
    have e2 : ∀ x y : Int, wrapF .u32 (((x % 4294967296).toNat ^^^ (y % 4294967296).toNat : Nat) : Int) = xor32 x y := fun _ _ => rfl
    simp (config := {maxSteps := 1000000, maxDischargeDepth := 9, implicitDefEqProofs := false}) [c6, hRot, s_Rot, modK, e1, e2, quarterF]
    exact Canon.keep hf hsc (Ext.refl _) (by simp only [V.lt, ltL, and_self])
  · cases hs

/-- A quarter round of four of a block's words. -/
def qr (v : List Int) (a b c d : Nat) : List Int :=
  let q := quarterF (v.getD a 0) (v.getD b 0) (v.getD c 0) (v.getD d 0)
  (((v.set a q.1).set b q.2.1).set c q.2.2.1).set d q.2.2.2
theorem qr_length (v : List Int) (a b c d : Nat) : (qr v a b c d).length = v.length := by simp [qr]

/-- The function within chacha.Block. -/
def s_Blk1 : List V → Heap → Option (V × Heap)
  | [.int .i64 a, .int .i64 b, .int .i64 c, .int .i64 d, .ptr p 0], h => match h.get p with
    | some (.cells cs t z true) => match asK .u32 cs with
      | some v => if v.length = 16 ∧ (0 ≤ a ∧ a < 16) ∧ (0 ≤ b ∧ b < 16) ∧ (0 ≤ c ∧ c < 16) ∧ (0 ≤ d ∧ d < 16) then some (.undef, h.set p (some (.cells ((qr v a.toNat b.toNat c.toNat d.toNat).map (V.int .u32)) t z true))) else none
      | none => none
    | _ => none
  | _, _ => none

theorem Blk1_ok (cf : ACall) (hQuarter : ∀ a h, cf 6 a h = s_Quarter a h) : Sum cf c22 s_Blk1 := by
  intro args h v h' hf hsc hlt hs
  unfold s_Blk1 at hs
  split at hs
  · rename_i a b c d p
    split at hs
    · rename_i cs t z hg
      split at hs
      · rename_i w hw
        split at hs
        · rename_i hc
          obtain ⟨hlen, ha, hb, hc, hd⟩ := hc
          simp only [Option.some.injEq, Prod.mk.injEq] at hs
          obtain ⟨rfl, rfl⟩ := hs
          have hcs := asK_some.1 hw
          subst hcs
          obtain ⟨a, rfl⟩ : ∃ n : Nat, a = (n : Int) := ⟨a.toNat, by omega⟩
          obtain ⟨b, rfl⟩ : ∃ n : Nat, b = (n : Int) := ⟨b.toNat, by omega⟩
          obtain ⟨c, rfl⟩ : ∃ n : Nat, c = (n : Int) := ⟨c.toNat, by omega⟩
          obtain ⟨d, rfl⟩ : ∃ n : Nat, d = (n : Int) := ⟨d.toNat, by omega⟩
          have a1 : a < 16 := by omega
          have b1 : b < 16 := by omega
          have c1 : c < 16 := by omega
          have d1 : d < 16 := by omega
          have a2 : (a : Int) < 16 := by omega
          have b2 : (b : Int) < 16 := by omega
          have c2 : (c : Int) < 16 := by omega
          have d2 : (d : Int) < 16 := by omega
          have ga : w[a]'(by omega) = w.getD a 0 := by rw [List.getD_eq_getElem?_getD, List.getElem?_eq_getElem (by omega)]; rfl
          have gb : w[b]'(by omega) = w.getD b 0 := by rw [List.getD_eq_getElem?_getD, List.getElem?_eq_getElem (by omega)]; rfl
          have gc : w[c]'(by omega) = w.getD c 0 := by rw [List.getD_eq_getElem?_getD, List.getElem?_eq_getElem (by omega)]; rfl
          have gd : w[d]'(by omega) = w.getD d 0 := by rw [List.getD_eq_getElem?_getD, List.getElem?_eq_getElem (by omega)]; rfl
          have hres : bodyA cf 1 c22 [.int .i64 a, .int .i64 b, .int .i64 c, .int .i64 d, .ptr p 0] h = some (.undef, h.set p (some (.cells ((qr w a b c d).map (V.int .u32)) t z true))) := by
            simp (config := {maxSteps := 1000000, maxDischargeDepth := 9, implicitDefEqProofs := false}) [c22, hg, hQuarter, s_Quarter, a1, b1, c1, d1, a2, b2, c2, d2, hlen, -over, over_set, map_set, Nat.succ_le_of_lt a1, Nat.succ_le_of_lt b1, Nat.succ_le_of_lt c1, Nat.succ_le_of_lt d1, -List.map_set, qr]
            rfl
          exact ⟨1, _, _, hres, Canon.self rfl (hf.setS hg) (hsc.setFlat (flat_ints _ _)) (by simp only [V.undef, V.lt, ltL])⟩
        · cases hs
      · cases hs
    · cases hs
  · cases hs

/-- A number of the first bytes, as it is gathered. -/
def orU (a b : Int) : Int := wrapF .u64 (((a % 18446744073709551616).toNat ||| (b % 18446744073709551616).toNat : Nat) : Int)
def getU (s : List Nat) : Nat → Int
  | 0 => 0
  | i + 1 => orU (getU s i) (wrapF .u64 ((s.getD i 0 : Int) * 2 ^ (8 * i)))

/-- octet.get. -/
def s_get : List V → Heap → Option (V × Heap)
  | [v, .int .i64 n], h => match slB h v with
    | some s => if 0 ≤ n ∧ n ≤ 8 then some (if (s.length : Int) < n then .tuple [.int .u64 0, .bool false] else .tuple [.int .u64 (getU s n.toNat), .bool true], h) else none
    | none => none
  | _, _ => none

theorem get_ok (cf : ACall) : Sum cf c37 s_get := by
  intro args h v h' hf hsc hlt hs
  unfold s_get at hs
  split at hs
  · rename_i vb n0
    split at hs
    · rename_i s hb
      split at hs
      · rename_i hn0
        simp only [Option.some.injEq, Prod.mk.injEq] at hs
        obtain ⟨rfl, rfl⟩ := hs
        obtain ⟨n, rfl⟩ : ∃ n : Nat, n0 = (n : Int) := ⟨n0.toNat, by omega⟩
        have hn8 : n ≤ 8 := by omega
        have hsl := slB_isSl hb
        have hvl := slB_vlen hb
        simp only [Int.toNat_natCast] at *
        refine ⟨n + 1, ?_⟩
        by_cases hc : s.length < n
        · have hc' : ((s.length : Int) < (n : Int)) := by omega
          rw [if_pos hc']
          simp (config := {maxSteps := 1000000, maxDischargeDepth := 9, implicitDefEqProofs := false}) [c37, hsl, hvl, hc]
          exact Canon.keep hf hsc (Ext.refl _) (by simp [V.lt, ltL])
        · have hc' : ¬ ((s.length : Int) < (n : Int)) := by omega
          rw [if_neg hc']
          have L := loop_count (cf := cf) (N := n + 1) (c := c37_l0) n
            (fun i e H => e.n = 28 ∧ e.at 0 = vb ∧ e.at 6 = .int .u64 (getU s i) ∧ e.at 12 = .int .i64 (n : Int) ∧ e.at 13 = .int .i64 (i : Int) ∧ H = h)
            (fun x' e H => x' = .exit 0 ∧ e.n = 28 ∧ e.at 6 = .int .u64 (getU s n) ∧ H = h)
            (by
              rintro i e H hi ⟨hn, h0, h6, h12, h13, rfl⟩
              have hsh : (8 * (i : Int)).toNat = 8 * i := by omega
              have hmin : min (8 * i) 64 = 8 * i := by omega
              have hw : wrapF .i64 (8 * (i : Int)) = 8 * (i : Int) := wrap_i64 (by omega) (by omega)
              have hby := slB_lt hb (s.getD i 0) (by rw [List.getD_eq_getElem?_getD, List.getElem?_eq_getElem (by omega)]; simp)
              have hwb : wrapF .u64 ((s.getD i 0 : Nat) : Int) = ((s.getD i 0 : Nat) : Int) := wrap_u64 (by omega) (by omega)
              rw [List.getD_eq_getElem?_getD, List.getElem?_eq_getElem (by omega), Option.getD_some] at hwb
              have hgu : getU s (i + 1) = orU (getU s i) (wrapF .u64 ((s[i] : Int) * 2 ^ (8 * i))) := by
                simp only [getU]; rw [List.getD_eq_getElem?_getD, List.getElem?_eq_getElem (by omega), Option.getD_some]
              simp (config := {maxSteps := 1000000, maxDischargeDepth := 9, implicitDefEqProofs := false}) [c37_l0, hn, h0, h6, h12, h13, hi, hsl, hvl, show i < s.length from by omega, hb, hw, hsh, hmin, hwb, hgu, orU, modK, show ¬ (8 * (i : Int) < 0) from by omega, wrap_i64 (x := (i : Int) + 1) (by omega) (by omega)])
            (by
              rintro e H ⟨hn, h0, h6, h12, h13, rfl⟩
              simp (config := {maxSteps := 1000000, maxDischargeDepth := 9, implicitDefEqProofs := false}) [c37_l0, hn, h0, h6, h12, h13])
          simp (config := {maxSteps := 1000000, maxDischargeDepth := 9, implicitDefEqProofs := false}) [c37, hsl, hvl, hc]
          refine loop_then (K := fun r => finS _ (seqS _ _ _ (blockS _ r))) (L 0 _ _ (Nat.zero_le _) ?_ (Nat.lt_succ_self _)) ?_
          · simp (config := {maxSteps := 1000000, maxDischargeDepth := 9, implicitDefEqProofs := false}) [getU]
          · rintro x e' H ⟨rfl, hn, h6, rfl⟩
            simp (config := {maxSteps := 1000000, maxDischargeDepth := 9, implicitDefEqProofs := false}) [hn, h6]
            exact Canon.keep hf hsc (Ext.refl _) (by simp [V.lt, ltL])
      · cases hs
    · cases hs
  · cases hs

/-- octet.Get32. -/
def s_Get32 : List V → Heap → Option (V × Heap)
  | [v], h => match slB h v with
    | some s => some (if (s.length : Int) < 4 then .tuple [.int .u32 0, .bool false] else .tuple [.int .u32 (wrapF .u32 (getU s 4)), .bool true], h)
    | none => none
  | _, _ => none

theorem Get32_ok (cf : ACall) (hget : ∀ a h, cf 37 a h = s_get a h) : Sum cf c32 s_Get32 := by
  intro args h v h' hf hsc hlt hs
  unfold s_Get32 at hs
  split at hs
  · rename_i vb
    split at hs
    · rename_i s hb
      simp only [Option.some.injEq, Prod.mk.injEq] at hs
      obtain ⟨rfl, rfl⟩ := hs
      refine ⟨1, ?_⟩
      by_cases hc : (s.length : Int) < 4
      · simp (config := {maxSteps := 1000000, maxDischargeDepth := 9, implicitDefEqProofs := false}) [c32, hget, s_get, hb, hc]
        exact Canon.keep hf hsc (Ext.refl _) (by simp [V.lt, ltL])
      · simp (config := {maxSteps := 1000000, maxDischargeDepth := 9, implicitDefEqProofs := false}) [c32, hget, s_get, hb, hc]
        exact Canon.keep hf hsc (Ext.refl _) (by simp [V.lt, ltL])
    · cases hs
  · cases hs

/-- The lowest bytes of a number. -/
def putB (v : Int) (n : Nat) : List Nat := (List.range n).map fun i => (v / 2 ^ (8 * i) % 256).toNat
theorem putB_length (v : Int) (n : Nat) : (putB v n).length = n := by simp [putB]
theorem putB_lt (v : Int) (n : Nat) : ∀ y ∈ putB v n, y < 256 := by
  intro y hy
  simp only [putB, List.mem_map] at hy
  obtain ⟨i, _, rfl⟩ := hy
  have := Int.emod_nonneg (v / 2 ^ (8 * i)) (show (256 : Int) ≠ 0 by omega)
  have := Int.emod_lt_of_pos (v / 2 ^ (8 * i)) (show (0 : Int) < 256 by omega)
  omega
theorem putB_succ (v : Int) (n : Nat) : putB v (n + 1) = putB v n ++ [(v / 2 ^ (8 * n) % 256).toNat] := by simp [putB, List.range_succ]

/-- octet.put. -/
def s_put : List V → Heap → Option (V × Heap)
  | [.int .u64 v, .int .i64 n], h => if 0 ≤ n ∧ n ≤ 8 then some (newV h n.toNat, h.new (.cells (bytesOf (putB v n.toNat)) 5 1 true)) else none
  | _, _ => none

theorem put_ok (cf : ACall) : Sum cf c33 s_put := by
  intro args h v h' hf hsc hlt hs
  unfold s_put at hs
  split at hs
  · rename_i x n0
    split at hs
    · rename_i hn0
      simp only [Option.some.injEq, Prod.mk.injEq] at hs
      obtain ⟨rfl, rfl⟩ := hs
      obtain ⟨n, rfl⟩ : ∃ n : Nat, n0 = (n : Int) := ⟨n0.toNat, by omega⟩
      have hn8 : n ≤ 8 := by omega
      simp only [Int.toNat_natCast] at *
      refine ⟨n + 1, ?_⟩
      have L := loop_count (cf := cf) (N := n + 1) (c := c33_l0) n
        (fun i e H => e.n = 24 ∧ e.at 0 = .int .u64 x ∧ e.at 5 = .slice h.next 0 n (some n) ∧ e.at 10 = .int .i64 (n : Int) ∧ e.at 11 = .int .i64 (i : Int) ∧ H = h.new (.cells (bytesOf (putB x i) ++ List.replicate (n - i) (.int .u8 0)) 5 1 true))
        (fun x' e H => x' = .exit 0 ∧ e.n = 24 ∧ e.at 5 = .slice h.next 0 n (some n) ∧ H = h.new (.cells (bytesOf (putB x n)) 5 1 true))
        (by
          rintro i e H hi ⟨hn, h0, h5, h10, h11, rfl⟩
          obtain ⟨k, hk⟩ : ∃ k, n - i = k + 1 := ⟨n - i - 1, by omega⟩
          have hk2 : n - (i + 1) = k := by omega
          have hov := over_fill (bytesOf (putB x i)) (.int .u8 0) (.int .u8 (x / 2 ^ (8 * i) % 256)) k
          rw [bytesOf_length, putB_length] at hov
          have hm0 := Int.emod_nonneg (x / 2 ^ (8 * i)) (show (256 : Int) ≠ 0 by omega)
          have hb : bytesOf (putB x (i + 1)) = bytesOf (putB x i) ++ [.int .u8 (x / 2 ^ (8 * i) % 256)] := by
            rw [putB_succ, bytesOf_append]
            simp only [bytesOf, List.map_cons, List.map_nil, Int.ofNat_eq_natCast]
            rw [Int.toNat_of_nonneg hm0]
          have hsh : (8 * (i : Int)).toNat = 8 * i := by omega
          have hmin : min (8 * i) 64 = 8 * i := by omega
          have hw : wrapF .i64 (8 * (i : Int)) = 8 * (i : Int) := wrap_i64 (by omega) (by omega)
          have hfd : ∀ y : Int, y.fdiv (2 ^ (8 * i)) = y / 2 ^ (8 * i) := fun y => Int.fdiv_eq_ediv_of_nonneg _ (Int.le_of_lt (Int.pow_pos (by decide)))
          simp (config := {maxSteps := 1000000, maxDischargeDepth := 9, implicitDefEqProofs := false}) [c33_l0, hn, h0, h5, h10, h11, hi, hk, hk2, hb, hov, -over, hw, hsh, hmin, hfd, putB_length, wrap_u8_mod, show ¬ (8 * (i : Int) < 0) from by omega, wrap_i64 (x := (i : Int) + 1) (by omega) (by omega)]
          )
        (by
          rintro e H ⟨hn, h0, h5, h10, h11, rfl⟩
          simp (config := {maxSteps := 1000000, maxDischargeDepth := 9, implicitDefEqProofs := false}) [c33_l0, hn, h0, h5, h10, h11])
      simp (config := {maxSteps := 1000000, maxDischargeDepth := 9, implicitDefEqProofs := false}) [c33, show n ≤ 140737488355328 from by omega, show (n : Int) ≤ 140737488355328 from by omega]
      refine loop_then (K := fun r => finS _ (seqS _ _ _ (blockS _ r))) (L 0 _ _ (Nat.zero_le _) ?_ (Nat.lt_succ_self _)) ?_
      · simp (config := {maxSteps := 1000000, maxDischargeDepth := 9, implicitDefEqProofs := false}) [putB, bytesOf_nil]
      · rintro x e' H ⟨rfl, hn, h5, rfl⟩
        simp (config := {maxSteps := 1000000, maxDischargeDepth := 9, implicitDefEqProofs := false}) [hn, h5]
        exact Canon.made hf hsc rfl (by simp [bytesOf_length, putB_length]) (flat_bytes _)
    · cases hs
  · cases hs

/-- octet.Put32. -/
def s_Put32 : List V → Heap → Option (V × Heap)
  | [.int .u32 v], h => if 0 ≤ v ∧ v < 4294967296 then some (newV h 4, h.new (.cells (bytesOf (putB v 4)) 5 1 true)) else none
  | _, _ => none

theorem Put32_ok (cf : ACall) (hput : ∀ a h, cf 33 a h = s_put a h) : Sum cf c23 s_Put32 := by
  intro args h v h' hf hsc hlt hs
  unfold s_Put32 at hs
  split at hs
  · rename_i x
    split at hs
    · rename_i hx
      simp only [Option.some.injEq, Prod.mk.injEq] at hs
      obtain ⟨rfl, rfl⟩ := hs
      refine ⟨1, ?_⟩
      simp (config := {maxSteps := 1000000, maxDischargeDepth := 9, implicitDefEqProofs := false}) [c23, hput, s_put, wrap_u64 (x := x) (by omega) (by omega)]
      exact Canon.tail (H := h) hf hsc (Ext.refl h) (flat_bytes _) (by simp)
    · cases hs
  · cases hs

/-- The key's words, one by one, and the nonce's. -/
def kw (k : List Nat) : Nat → List Int
  | 0 => [1634760805, 857760878, 2036477234, 1797285236, 0, 0, 0, 0, 0, 0, 0, 0, 0, 0, 0, 0]
  | i + 1 => (kw k i).set (4 + i) (wrapF .u32 (getU (k.drop (4 * i)) 4))
def nw (n : List Nat) (w : List Int) : Nat → List Int
  | 0 => w
  | i + 1 => (nw n w i).set (13 + i) (wrapF .u32 (getU (n.drop (4 * i)) 4))
def wordsF (k : List Nat) (c : Int) (n : List Nat) : List Int := nw n ((kw k 8).set 12 c) 3
theorem kw_length (k : List Nat) : ∀ i, (kw k i).length = 16
  | 0 => rfl
  | i + 1 => by simp [kw, kw_length k i]
theorem nw_length (n : List Nat) {w : List Int} (hw : w.length = 16) : ∀ i, (nw n w i).length = 16
  | 0 => hw
  | i + 1 => by simp [nw, nw_length n hw i]
theorem wordsF_length (k : List Nat) (c : Int) (n : List Nat) : (wordsF k c n).length = 16 := nw_length n (by simp [kw_length]) 3

/-- chacha.words. -/
def s_words : List V → Heap → Option (V × Heap)
  | [vk, .int .u32 c, vn], h => match aggB vk, aggB vn with
    | some k, some n => if k.length = 32 ∧ n.length = 12 then some (.agg ((wordsF k c n).map (V.int .u32)), h) else none
    | _, _ => none
  | _, _ => none

theorem words_ok (cf : ACall) (hGet : ∀ a h, cf 32 a h = s_Get32 a h) : Sum cf c21 s_words := by
  intro args h v h' hf hsc hlt hs
  unfold s_words at hs
  split at hs
  · rename_i vk c vn
    split at hs
    · rename_i k n hk hn
      split at hs
      · rename_i hl
        obtain ⟨hl1, hl2⟩ := hl
        simp only [Option.some.injEq, Prod.mk.injEq] at hs
        obtain ⟨rfl, rfl⟩ := hs
        obtain ⟨rfl, hkb⟩ := aggB_some hk
        obtain ⟨rfl, hnb⟩ := aggB_some hn
        generalize hA : Blk.cells (bytesOf k) 22 1 true = A
        generalize hB : Blk.cells (bytesOf n) 24 1 true = B
        generalize hR : Blk.cells (List.replicate 16 (V.int .u32 0)) 43 1 true = R
        refine ⟨12, ?_⟩
        have hsk : slB (h.new A) (.slice h.next 0 32 (some 32)) = some k := by
          subst hA; simp (config := {maxSteps := 1000000, maxDischargeDepth := 9, implicitDefEqProofs := false}) [hl1, asB_bytesOf hkb]
        have hsn : slB ((h.new A).new B) (.slice (h.next + 1) 0 12 (some 12)) = some n := by
          subst hB; simp (config := {maxSteps := 1000000, maxDischargeDepth := 9, implicitDefEqProofs := false}) [hl2, asB_bytesOf hnb]
        have L1 := loop_count (cf := cf) (N := 12) (c := c21_l0) 8
          (fun i e H => e.n = 42 ∧ e.at 1 = .int .u32 c ∧ e.at 3 = .ptr h.next 0 ∧ e.at 5 = .ptr (h.next + 1) 0 ∧ e.at 6 = .ptr (h.next + 2) 0 ∧ e.at 7 = .ptr (h.next + 3) 0 ∧ e.at 11 = .int .i64 (i : Int) ∧ H = (((h.new A).new B).new R).new (.cells ((kw k i).map (V.int .u32)) 43 1 true))
          (fun x e H => x = .exit 0 ∧ e.n = 42 ∧ e.at 1 = .int .u32 c ∧ e.at 3 = .ptr h.next 0 ∧ e.at 5 = .ptr (h.next + 1) 0 ∧ e.at 6 = .ptr (h.next + 2) 0 ∧ e.at 7 = .ptr (h.next + 3) 0 ∧ H = (((h.new A).new B).new R).new (.cells ((kw k 8).map (V.int .u32)) 43 1 true))
          (by
            rintro i e H hi ⟨hn', h1, h3, h5, h6, h7, h11, rfl⟩
            have w1 : wrapF .i64 (4 + (i : Int)) = 4 + (i : Int) := wrap_i64 (by omega) (by omega)
            have w2 : wrapF .i64 (4 * (i : Int)) = 4 * (i : Int) := wrap_i64 (by omega) (by omega)
            have w3 : (4 + (i : Int)).toNat = 4 + i := by omega
            have w4 : (4 * (i : Int)).toNat = 4 * i := by omega
            have g3 : ¬ ((((k.take 32).drop (4 * i)).length : Int) < 4) := by simp; omega
            have ht : k.take 32 = k := List.take_of_length_le (by omega)
            rw [ht] at g3
            have hkw : kw k (i + 1) = (kw k i).set (4 + i) (wrapF .u32 (getU (k.drop (4 * i)) 4)) := rfl
            simp (config := {maxSteps := 1000000, maxDischargeDepth := 9, implicitDefEqProofs := false}) [c21_l0, hn', h1, h3, h5, h6, h7, h11, hi, w1, w2, w3, w4, hsk, show 4 * (i : Int) ≤ 32 from by omega, show (0 : Int) ≤ 4 * (i : Int) from by omega, show 4 * i ≤ 32 from by omega, hGet, s_Get32, ht, g3, show (0 : Int) ≤ 4 + (i : Int) from by omega, show 4 + (i : Int) < 16 from by omega, kw_length, -over, over_set, show 4 + i < 16 from by omega, show 4 + i + 1 ≤ 16 from by omega, map_set, -List.map_set, hkw, show (i : Int) < 8 from by omega, wrap_i64 (x := (i : Int) + 1) (by omega) (by omega), -List.length_drop]
            )
          (by
            rintro e H ⟨hn', h1, h3, h5, h6, h7, h11, rfl⟩
            simp (config := {maxSteps := 1000000, maxDischargeDepth := 9, implicitDefEqProofs := false}) [c21_l0, hn', h1, h3, h5, h6, h7, h11])
        have L2 := loop_count (cf := cf) (N := 12) (c := c21_l1) 3
          (fun i e H => e.n = 42 ∧ e.at 5 = .ptr (h.next + 1) 0 ∧ e.at 6 = .ptr (h.next + 2) 0 ∧ e.at 7 = .ptr (h.next + 3) 0 ∧ e.at 27 = .int .i64 (i : Int) ∧ H = (((h.new A).new B).new R).new (.cells ((nw n ((kw k 8).set 12 c) i).map (V.int .u32)) 43 1 true))
          (fun x e H => x = .exit 2 ∧ e.n = 42 ∧ e.at 6 = .ptr (h.next + 2) 0 ∧ e.at 7 = .ptr (h.next + 3) 0 ∧ H = (((h.new A).new B).new R).new (.cells ((wordsF k c n).map (V.int .u32)) 43 1 true))
          (by
            rintro i e H hi ⟨hn', h5, h6, h7, h27, rfl⟩
            have w1 : wrapF .i64 (13 + (i : Int)) = 13 + (i : Int) := wrap_i64 (by omega) (by omega)
            have w2 : wrapF .i64 (4 * (i : Int)) = 4 * (i : Int) := wrap_i64 (by omega) (by omega)
            have w3 : (13 + (i : Int)).toNat = 13 + i := by omega
            have w4 : (4 * (i : Int)).toNat = 4 * i := by omega
            have g3 : ¬ ((((n.take 12).drop (4 * i)).length : Int) < 4) := by simp; omega
            have ht : n.take 12 = n := List.take_of_length_le (by omega)
            rw [ht] at g3
            have hnl := nw_length n (w := (kw k 8).set 12 c) (by simp [kw_length]) i
            have hnw : nw n ((kw k 8).set 12 c) (i + 1) = (nw n ((kw k 8).set 12 c) i).set (13 + i) (wrapF .u32 (getU (n.drop (4 * i)) 4)) := rfl
            simp (config := {maxSteps := 1000000, maxDischargeDepth := 9, implicitDefEqProofs := false}) [c21_l1, hn', h5, h6, h7, h27, hi, w1, w2, w3, w4, hsn, show 4 * (i : Int) ≤ 12 from by omega, show (0 : Int) ≤ 4 * (i : Int) from by omega, show 4 * i ≤ 12 from by omega, hGet, s_Get32, ht, g3, show (0 : Int) ≤ 13 + (i : Int) from by omega, show 13 + (i : Int) < 16 from by omega, hnl, -over, over_set, show 13 + i < 16 from by omega, show 13 + i + 1 ≤ 16 from by omega, map_set, -List.map_set, hnw, show (i : Int) < 3 from by omega, wrap_i64 (x := (i : Int) + 1) (by omega) (by omega), -List.length_drop])
          (by
            rintro e H ⟨hn', h5, h6, h7, h27, rfl⟩
            simp (config := {maxSteps := 1000000, maxDischargeDepth := 9, implicitDefEqProofs := false}) [c21_l1, hn', h5, h6, h7, h27]
            rfl)
        subst hA; subst hB; subst hR
        simp (config := {maxSteps := 1000000, maxDischargeDepth := 9, implicitDefEqProofs := false}) [c21, mem_bytes_one, mem_ints_one]
        refine loop_then (K := fun r => finS _ (seqS _ _ _ (blockS _ r))) (L1 0 _ _ (Nat.zero_le _) ?_ (by omega)) ?_
        · simp (config := {maxSteps := 1000000, maxDischargeDepth := 9, implicitDefEqProofs := false}) [kw]
        · rintro x e' H ⟨rfl, hn', h1, h3, h5, h6, h7, rfl⟩
          simp (config := {maxSteps := 1000000, maxDischargeDepth := 9, implicitDefEqProofs := false}) [hn', h1, h3, h5, h6, h7, kw_length, -over, over_set, map_set, -List.map_set]
          refine loop_then (K := fun r => finS _ (seqS _ _ _ (blockS _ r))) (L2 0 _ _ (Nat.zero_le _) ?_ (by omega)) ?_
          · simp (config := {maxSteps := 1000000, maxDischargeDepth := 9, implicitDefEqProofs := false}) [hn', h5, h6, h7, nw]
          · rintro x e' H ⟨rfl, hn', h6, h7, rfl⟩
            have htk : ((wordsF k c n).map (V.int .u32)).take 16 = (wordsF k c n).map (V.int .u32) := List.take_of_length_le (by simp [wordsF_length])
            simp (config := {maxSteps := 1000000, maxDischargeDepth := 9, implicitDefEqProofs := false}) [hn', h6, h7, wordsF_length, htk, mem_ints_one, -List.map_take]
            exact Canon.keep hf hsc (by repeat (first | exact Ext.refl _ | apply Ext.trans_new)) (flat_agg _ _ _)
      · cases hs
    · cases hs
  · cases hs

/-- The rounds. -/
def rows1 (v : List Int) : Nat → List Int
  | 0 => v
  | i + 1 => qr (rows1 v i) i (4 + i) (8 + i) (12 + i)
def rows2 (v : List Int) : Nat → List Int
  | 0 => v
  | i + 1 => qr (rows2 v i) i (4 + (i + 1) % 4) (8 + (i + 2) % 4) (12 + (i + 3) % 4)
def dround (v : List Int) : List Int := rows2 (rows1 v 4) 4
def rounds (v : List Int) : Nat → List Int
  | 0 => v
  | i + 1 => dround (rounds v i)
def outF (v w : List Int) : Nat → List Nat
  | 0 => []
  | i + 1 => outF v w i ++ putB (add32 (v.getD i 0) (w.getD i 0)) 4
/-- A block's bytes. -/
def blockF (k : List Nat) (c : Int) (n : List Nat) : List Nat := outF (rounds (wordsF k c n) 10) (wordsF k c n) 16

theorem rows1_length {v : List Int} : ∀ i, (rows1 v i).length = v.length
  | 0 => rfl
  | i + 1 => by simp [rows1, qr_length, rows1_length i]
theorem rows2_length {v : List Int} : ∀ i, (rows2 v i).length = v.length
  | 0 => rfl
  | i + 1 => by simp [rows2, qr_length, rows2_length i]
theorem rounds_length {v : List Int} : ∀ i, (rounds v i).length = v.length
  | 0 => rfl
  | i + 1 => by simp [rounds, dround, rows1_length, rows2_length, rounds_length i]
theorem outF_length (v w : List Int) : ∀ i, (outF v w i).length = 4 * i
  | 0 => rfl
  | i + 1 => by simp [outF, outF_length v w i, putB_length]; omega
theorem outF_lt (v w : List Int) : ∀ i, ∀ y ∈ outF v w i, y < 256
  | 0 => by simp [outF]
  | i + 1 => by
    intro y hy
    simp only [outF, List.mem_append] at hy
    rcases hy with hy | hy
    · exact outF_lt v w i y hy
    · exact putB_lt _ _ y hy
theorem blockF_length (k : List Nat) (c : Int) (n : List Nat) : (blockF k c n).length = 64 := by simp [blockF, outF_length]
theorem blockF_lt (k : List Nat) (c : Int) (n : List Nat) : ∀ y ∈ blockF k c n, y < 256 := outF_lt _ _ _

/-- chacha.Block. -/
def s_Block : List V → Heap → Option (V × Heap)
  | [vk, .int .u32 c, vn], h => match aggB vk, aggB vn with
    | some k, some n => if k.length = 32 ∧ n.length = 12 then some (.agg (bytesOf (blockF k c n)), h) else none
    | _, _ => none
  | _, _ => none

theorem Block_inner1 (cf : ACall) (hB : ∀ a h, cf 22 a h = s_Blk1 a h) (Hb : Heap) (p : Nat) (hnx : Hb.next = p) (v : List Int) (hv : v.length = 16) : ∀ e, e.n = 72 → e.at 9 = .func 22 [] [.ptr p 0] → e.at 22 = .int .i64 0 →
    YtjdofdokdemnkaaDoorA.Ends (execA cf 20 (.loop c9_l1) e (Hb.new (.cells (v.map (V.int .u32)) 43 1 true))) fun x e' H => x = .exit 2 ∧ H = Hb.new (.cells ((rows1 v 4).map (V.int .u32)) 43 1 true) := by
  intro e hn h9 h22
  refine loop_count (cf := cf) (N := 20) (c := c9_l1) 4
    (fun i e H => e.n = 72 ∧ e.at 9 = .func 22 [] [.ptr p 0] ∧ e.at 22 = .int .i64 (i : Int) ∧ H = Hb.new (.cells ((rows1 v i).map (V.int .u32)) 43 1 true))
    (fun x e' H => x = .exit 2 ∧ H = Hb.new (.cells ((rows1 v 4).map (V.int .u32)) 43 1 true)) ?_ ?_ 0 e _ (Nat.zero_le _) ⟨hn, h9, h22, rfl⟩ (by omega)
  · rintro i e H hi ⟨hn, h9, h22, rfl⟩
    have w1 : wrapF .i64 (4 + (i : Int)) = 4 + (i : Int) := wrap_i64 (by omega) (by omega)
    have w2 : wrapF .i64 (8 + (i : Int)) = 8 + (i : Int) := wrap_i64 (by omega) (by omega)
    have w3 : wrapF .i64 (12 + (i : Int)) = 12 + (i : Int) := wrap_i64 (by omega) (by omega)
    have t1 : (4 + (i : Int)).toNat = 4 + i := by omega
    have t2 : (8 + (i : Int)).toNat = 8 + i := by omega
    have t3 : (12 + (i : Int)).toNat = 12 + i := by omega
    have hr : rows1 v (i + 1) = qr (rows1 v i) i (4 + i) (8 + i) (12 + i) := rfl
    simp (config := {maxSteps := 1000000, maxDischargeDepth := 9, implicitDefEqProofs := false}) [c9_l1, hn, h9, h22, show (i : Int) < 4 from by omega, w1, w2, w3, t1, t2, t3, hB, s_Blk1, hnx, rows1_length, hv, hr, show (i : Int) < 16 from by omega, show 4 + (i : Int) < 16 from by omega, show 8 + (i : Int) < 16 from by omega, show 12 + (i : Int) < 16 from by omega, show (0 : Int) ≤ 4 + (i : Int) from by omega, show (0 : Int) ≤ 8 + (i : Int) from by omega, show (0 : Int) ≤ 12 + (i : Int) from by omega, wrap_i64 (x := (i : Int) + 1) (by omega) (by omega)]
  · rintro e H ⟨hn, h9, h22, rfl⟩
    simp (config := {maxSteps := 1000000, maxDischargeDepth := 9, implicitDefEqProofs := false}) [c9_l1, hn, h9, h22]
theorem Block_inner2 (cf : ACall) (hB : ∀ a h, cf 22 a h = s_Blk1 a h) (Hb : Heap) (p : Nat) (hnx : Hb.next = p) (v : List Int) (hv : v.length = 16) : ∀ e, e.n = 72 → e.at 9 = .func 22 [] [.ptr p 0] → e.at 35 = .int .i64 0 →
    YtjdofdokdemnkaaDoorA.Ends (execA cf 20 (.loop c9_l2) e (Hb.new (.cells (v.map (V.int .u32)) 43 1 true))) fun x e' H => x = .exit 4 ∧ H = Hb.new (.cells ((rows2 v 4).map (V.int .u32)) 43 1 true) := by
  intro e hn h9 h35
  refine loop_count (cf := cf) (N := 20) (c := c9_l2) 4
    (fun i e H => e.n = 72 ∧ e.at 9 = .func 22 [] [.ptr p 0] ∧ e.at 35 = .int .i64 (i : Int) ∧ H = Hb.new (.cells ((rows2 v i).map (V.int .u32)) 43 1 true))
    (fun x e' H => x = .exit 4 ∧ H = Hb.new (.cells ((rows2 v 4).map (V.int .u32)) 43 1 true)) ?_ ?_ 0 e _ (Nat.zero_le _) ⟨hn, h9, h35, rfl⟩ (by omega)
  · rintro i e H hi ⟨hn, h9, h35, rfl⟩
    have hv2 := rows2_length (v := v) i
    rw [hv] at hv2
    have hr : rows2 v (i + 1) = qr (rows2 v i) i (4 + (i + 1) % 4) (8 + (i + 2) % 4) (12 + (i + 3) % 4) := rfl
    have hii : i = 0 ∨ i = 1 ∨ i = 2 ∨ i = 3 := by omega
    generalize rows2 v i = vi at *
    generalize rows2 v (i + 1) = vj at *
    subst hr
    rcases hii with rfl | rfl | rfl | rfl <;>
      simp (config := {maxSteps := 1000000, maxDischargeDepth := 9, implicitDefEqProofs := false}) [c9_l2, hn, h9, h35, hB, s_Blk1, hnx, hv2]
  · rintro e H ⟨hn, h9, h35, rfl⟩
    simp (config := {maxSteps := 1000000, maxDischargeDepth := 9, implicitDefEqProofs := false}) [c9_l2, hn, h9, h35]

theorem Block_outer (cf : ACall) (hB : ∀ a h, cf 22 a h = s_Blk1 a h) (Hb : Heap) (p : Nat) (hnx : Hb.next = p) (v : List Int) (hv : v.length = 16) : ∀ e, e.n = 72 → e.at 9 = .func 22 [] [.ptr p 0] → e.at 20 = .int .i64 0 →
    YtjdofdokdemnkaaDoorA.Ends (execA cf 20 (.loop c9_l0) e (Hb.new (.cells (v.map (V.int .u32)) 43 1 true))) fun x e' H => x = .exit 0 ∧ H = Hb.new (.cells ((rounds v 10).map (V.int .u32)) 43 1 true) := by
  intro e hn h9 h20
  refine loop_count (cf := cf) (N := 20) (c := c9_l0) 10
    (fun i e H => e.n = 72 ∧ e.at 9 = .func 22 [] [.ptr p 0] ∧ e.at 20 = .int .i64 (i : Int) ∧ H = Hb.new (.cells ((rounds v i).map (V.int .u32)) 43 1 true))
    (fun x e' H => x = .exit 0 ∧ H = Hb.new (.cells ((rounds v 10).map (V.int .u32)) 43 1 true)) ?_ ?_ 0 e _ (Nat.zero_le _) ⟨hn, h9, h20, rfl⟩ (by omega)
  · rintro i e H hi ⟨hn, h9, h20, rfl⟩
    have hr : rounds v (i + 1) = rows2 (rows1 (rounds v i) 4) 4 := rfl
    have hl := rounds_length (v := v) i
    rw [hv] at hl
    have hl1 := rows1_length (v := rounds v i) 4
    rw [hl] at hl1
    simp (config := {maxSteps := 1000000, maxDischargeDepth := 9, implicitDefEqProofs := false}) [c9_l0, hn, h9, h20, show (i : Int) < 10 from by omega]
    refine loop_in (K := fun r => seqS _ _ _ (blockS _ (seqS _ _ _ (blockS _ r)))) (Block_inner1 cf hB Hb p hnx (rounds v i) hl _ ?_ ?_ ?_) ?_
    · simp (config := {maxSteps := 1000000, maxDischargeDepth := 9, implicitDefEqProofs := false}) [hn]
    · simp (config := {maxSteps := 1000000, maxDischargeDepth := 9, implicitDefEqProofs := false}) [hn, h9]
    · simp (config := {maxSteps := 1000000, maxDischargeDepth := 9, implicitDefEqProofs := false}) [hn]
    · rintro x H ⟨rfl, rfl⟩
      simp (config := {maxSteps := 1000000, maxDischargeDepth := 9, implicitDefEqProofs := false}) [hn]
      refine loop_in (K := fun r => seqS _ _ _ (blockS _ (blockS _ r))) (Block_inner2 cf hB Hb p hnx (rows1 (rounds v i) 4) hl1 _ ?_ ?_ ?_) ?_
      · simp (config := {maxSteps := 1000000, maxDischargeDepth := 9, implicitDefEqProofs := false}) [hn]
      · simp (config := {maxSteps := 1000000, maxDischargeDepth := 9, implicitDefEqProofs := false}) [hn, h9, c9_l1_wr]
      · simp (config := {maxSteps := 1000000, maxDischargeDepth := 9, implicitDefEqProofs := false}) [hn]
      · rintro x H ⟨rfl, rfl⟩
        simp (config := {maxSteps := 1000000, maxDischargeDepth := 9, implicitDefEqProofs := false}) [hn, h9, h20, c9_l1_wr, c9_l2_wr, hr, wrap_i64 (x := (i : Int) + 1) (by omega) (by omega)]
  · rintro e H ⟨hn, h9, h20, rfl⟩
    simp (config := {maxSteps := 1000000, maxDischargeDepth := 9, implicitDefEqProofs := false}) [c9_l0, hn, h9, h20]

theorem putB_len4 (x : Int) : (bytesOf (putB x 4)).length = 4 := by rw [bytesOf_length, putB_length]
theorem add32_range (a b : Int) : 0 ≤ add32 a b ∧ add32 a b < 4294967296 := by
  simp only [add32, wrap_u32_mod]; omega

theorem Block_out (cf : ACall) (hP : ∀ a h, cf 23 a h = s_Put32 a h) (h H0 : Heap) (R : List V) (v w : List Int) (hv : v.length = 16) (hw : w.length = 16) (hE0 : Ext h H0) (hF0 : Fresh H0) (hH0 : H0.next = h.next + 6)
    (gw0 : H0.get (h.next + 3) = some (.cells (w.map (V.int .u32)) 43 1 true)) (gv0 : H0.get (h.next + 4) = some (.cells (v.map (V.int .u32)) 43 1 true)) (go0 : H0.get (h.next + 5) = some (.cells (List.replicate 64 (.int .u8 0)) 28 1 true)) (g20 : ∃ t, H0.get (h.next + 2) = some (.cells R t 1 true)) :
    ∀ e, e.n = 72 → e.at 12 = .ptr (h.next + 5) 0 → e.at 8 = .ptr (h.next + 4) 0 → e.at 7 = .ptr (h.next + 3) 0 → e.at 55 = .int .i64 0 →
    YtjdofdokdemnkaaDoorA.Ends (execA cf 20 (.loop c9_l3) e H0) fun x e' H => x = .exit 6 ∧ Ext h H ∧ Fresh H ∧ h.next + 6 ≤ H.next ∧ H.get (h.next + 5) = some (.cells (bytesOf (outF v w 16)) 28 1 true) ∧ ∃ t, H.get (h.next + 2) = some (.cells R t 1 true) := by
  intro e hn h12 h8 h7 h55
  refine loop_count (cf := cf) (N := 20) (c := c9_l3) 16
    (fun i e H => e.n = 72 ∧ e.at 12 = .ptr (h.next + 5) 0 ∧ e.at 8 = .ptr (h.next + 4) 0 ∧ e.at 7 = .ptr (h.next + 3) 0 ∧ e.at 55 = .int .i64 (i : Int) ∧ Ext h H ∧ Fresh H ∧ h.next + 6 ≤ H.next ∧ H.get (h.next + 3) = some (.cells (w.map (V.int .u32)) 43 1 true) ∧ H.get (h.next + 4) = some (.cells (v.map (V.int .u32)) 43 1 true) ∧
      H.get (h.next + 5) = some (.cells (bytesOf (outF v w i) ++ List.replicate (64 - 4 * i) (.int .u8 0)) 28 1 true) ∧ ∃ t, H.get (h.next + 2) = some (.cells R t 1 true))
    (fun x e' H => x = .exit 6 ∧ Ext h H ∧ Fresh H ∧ h.next + 6 ≤ H.next ∧ H.get (h.next + 5) = some (.cells (bytesOf (outF v w 16)) 28 1 true) ∧ ∃ t, H.get (h.next + 2) = some (.cells R t 1 true)) ?_ ?_ 0 e _ (Nat.zero_le _) ⟨hn, h12, h8, h7, h55, hE0, hF0, by omega, gw0, gv0, by simpa [outF, bytesOf_nil] using go0, g20⟩ (by omega)
  · rintro i e H hi ⟨hn, h12, h8, h7, h55, hE, hF, hnx, gw, gv, go, g2⟩
    have w1 : wrapF .i64 (4 * (i : Int)) = 4 * (i : Int) := wrap_i64 (by omega) (by omega)
    have t1 : (4 * (i : Int)).toNat = 4 * i := by omega
    have hxr := add32_range (v.getD i 0) (w.getD i 0)
    have hgv : v.getD i 0 = v[i] := by rw [List.getD_eq_getElem?_getD, List.getElem?_eq_getElem (by omega)]; rfl
    have hgw : w.getD i 0 = w[i] := by rw [List.getD_eq_getElem?_getD, List.getElem?_eq_getElem (by omega)]; rfl
    rw [hgv, hgw] at hxr
    have hadd : wrapF .u32 (v[i] + w[i]) = add32 v[i] w[i] := rfl
    have hout : outF v w (i + 1) = outF v w i ++ putB (add32 v[i] w[i]) 4 := by simp only [outF, hgv, hgw]
    generalize hx : add32 v[i] w[i] = x at *
    have hlen := outF_length v w i
    have hbl : (bytesOf (outF v w i) ++ List.replicate (64 - 4 * i) (V.int .u8 0)).length = 64 := by simp [bytesOf_length, hlen]; omega
    -- the slice of the output
    have hsl : sliceV H 1 (.slice (h.next + 5) 0 64 (some 64)) (some (.int .i64 (4 * (i : Int)))) none none = some (.slice (h.next + 5) (4 * i) (64 - 4 * i) (some (64 - 4 * i))) := by
      have q1 : (0 : Int) ≤ 4 * (i : Int) := by omega
      have q2 : 4 * (i : Int) ≤ 64 := by omega
      have q3 : ¬ 64 = 4 * i := by omega
      simp [sliceV, bounds, maxOf, highOf, lowOf, bound, q1, q2, q3, t1]
    -- the copy
    have hq : (h.next + 5 = H.next) = False := by simp; omega
    have hcopy := copy_at (h := H.new (.cells (bytesOf (putB x 4)) 5 1 true)) (p := h.next + 5) (o := 4 * i) (n := 64 - 4 * i) (q := H.next) (m := 4) (c := some (64 - 4 * i)) (c' := none) (Q := bytesOf (outF v w i) ++ List.replicate (64 - 4 * i) (.int .u8 0)) (cs := bytesOf (putB x 4)) (t := 28) (z := 1)
      (by rw [Heap.get_new, if_neg (by omega)]; exact go) (by rw [read_self (by rw [putB_len4]; omega), List.drop_zero, List.take_of_length_le (by rw [putB_len4]; omega)]) (by omega) (by omega) (by rw [hbl]; omega) (bytesOf_one _) (putB_len4 x)
    have hover : over (bytesOf (outF v w i) ++ List.replicate (64 - 4 * i) (.int .u8 0)) (4 * i) (bytesOf (putB x 4)) = bytesOf (outF v w (i + 1)) ++ List.replicate (64 - 4 * (i + 1)) (.int .u8 0) := by
      have := over_fillL (bytesOf (outF v w i)) (bytesOf (putB x 4)) (.int .u8 0) (64 - 4 * (i + 1))
      rw [putB_len4, bytesOf_length, hlen, show 4 + (64 - 4 * (i + 1)) = 64 - 4 * i from by omega] at this
      rw [this, hout, bytesOf_append]
    rw [hover] at hcopy
    simp (config := {maxSteps := 1000000, maxDischargeDepth := 9, implicitDefEqProofs := false}) [c9_l3, hn, h12, h8, h7, h55, hi, show (i : Int) < 16 from by omega, w1, hsl, gv, gw, hv, hw, hadd, hx, hP, s_Put32, hxr.1, hxr.2, hcopy, wrap_i64 (x := (i : Int) + 1) (by omega) (by omega)]
    refine ⟨(hE.trans_new _).trans_set (by omega) _, (hF.new _).set (by simp; omega) _, by omega, by omega, by omega, ?_⟩
    rw [if_neg (by omega)]
    exact g2
  · rintro e H ⟨hn, h12, h8, h7, h55, hE, hF, hnx, gw, gv, go, g2⟩
    simp (config := {maxSteps := 1000000, maxDischargeDepth := 9, implicitDefEqProofs := false}) [c9_l3, hn, h12, h8, h7, h55]
    refine ⟨hE, hF, hnx, ?_, g2⟩
    simpa using go

theorem Block_ok (cf : ACall) (hB : ∀ a h, cf 22 a h = s_Blk1 a h) (hW : ∀ a h, cf 21 a h = s_words a h) (hP : ∀ a h, cf 23 a h = s_Put32 a h) : Sum cf c9 s_Block := by
  intro args h v h' hf hsc hlt hs
  unfold s_Block at hs
  split at hs
  · rename_i vk c vn
    split at hs
    · rename_i k n hk hn
      split at hs
      · rename_i hl
        obtain ⟨hl1, hl2⟩ := hl
        simp only [Option.some.injEq, Prod.mk.injEq] at hs
        obtain ⟨rfl, rfl⟩ := hs
        obtain ⟨rfl, hkb⟩ := aggB_some hk
        obtain ⟨rfl, hnb⟩ := aggB_some hn
        have tk : (bytesOf k).take 32 = bytesOf k := List.take_of_length_le (by rw [bytesOf_length]; omega)
        have tn : (bytesOf n).take 12 = bytesOf n := List.take_of_length_le (by rw [bytesOf_length]; omega)
        have hwl := wordsF_length k c n
        have tw : ((wordsF k c n).map (V.int .u32)).take 16 = (wordsF k c n).map (V.int .u32) := List.take_of_length_le (by simp [hwl])
        refine ⟨20, ?_⟩
        simp (config := {maxSteps := 1000000, maxDischargeDepth := 9, implicitDefEqProofs := false}) [c9, hW, s_words, hk, hn, hl1, hl2, tk, tn, tw, hwl, mem_bytes_one, mem_ints_one, -List.map_take]
        generalize hwq : wordsF k c n = w at *
        refine loop_thenE (K := fun r => finS _ (seqS _ _ _ (blockS _ r))) (Block_outer cf hB _ (h.next + 4) ?_ w hwl _ ?_ ?_ ?_) ?_
        · simp (config := {maxSteps := 1000000, maxDischargeDepth := 9, implicitDefEqProofs := false})
        · simp (config := {maxSteps := 1000000, maxDischargeDepth := 9, implicitDefEqProofs := false})
        · simp (config := {maxSteps := 1000000, maxDischargeDepth := 9, implicitDefEqProofs := false})
        · simp (config := {maxSteps := 1000000, maxDischargeDepth := 9, implicitDefEqProofs := false})
        · rintro x H ⟨rfl, rfl⟩
          have hrl := rounds_length (v := w) 10
          rw [hwl] at hrl
          simp (config := {maxSteps := 1000000, maxDischargeDepth := 9, implicitDefEqProofs := false}) [c9_l0_wr]
          obtain ⟨R, hRr⟩ : ∃ R : List V, R = List.replicate 64 (.int .u8 0) := ⟨_, rfl⟩
          have hRl : R.length = 64 := by rw [hRr]; simp
          refine loop_thenE (K := fun r => finS _ (seqS _ _ _ (blockS _ r))) (Block_out cf hP h _ R (rounds w 10) w hrl hwl ?_ ?_ ?_ ?_ ?_ ?_ ⟨28, ?_⟩ _ ?_ ?_ ?_ ?_ ?_) ?_
          · repeat (first | exact Ext.refl _ | apply Ext.trans_new)
          · exact ((((((hf.new _).new _).new _).new _).new _).new _)
          · simp (config := {maxSteps := 1000000, maxDischargeDepth := 9, implicitDefEqProofs := false})
          · simp (config := {maxSteps := 1000000, maxDischargeDepth := 9, implicitDefEqProofs := false})
          · simp (config := {maxSteps := 1000000, maxDischargeDepth := 9, implicitDefEqProofs := false})
          · simp (config := {maxSteps := 1000000, maxDischargeDepth := 9, implicitDefEqProofs := false})
          · simp (config := {maxSteps := 1000000, maxDischargeDepth := 9, implicitDefEqProofs := false}) [hRr]
          · simp (config := {maxSteps := 1000000, maxDischargeDepth := 9, implicitDefEqProofs := false}) [c9_l0_wr]
          · simp (config := {maxSteps := 1000000, maxDischargeDepth := 9, implicitDefEqProofs := false}) [c9_l0_wr]
          · simp (config := {maxSteps := 1000000, maxDischargeDepth := 9, implicitDefEqProofs := false}) [c9_l0_wr]
          · simp (config := {maxSteps := 1000000, maxDischargeDepth := 9, implicitDefEqProofs := false}) [c9_l0_wr]
          · simp (config := {maxSteps := 1000000, maxDischargeDepth := 9, implicitDefEqProofs := false}) [c9_l0_wr]
          · rintro x H ⟨rfl, hE, hF, hnx, go, t, g2⟩
            have hol : (outF (rounds w 10) w 16).length = 64 := outF_length (rounds w 10) w 16
            have tb : (bytesOf (outF (rounds w 10) w 16)).take 64 = bytesOf (outF (rounds w 10) w 16) := List.take_of_length_le (by rw [bytesOf_length, hol]; omega)
            have hn2 : ¬ (h.next + 5 = h.next + 2) := by omega
            have hbf : blockF k c n = outF (rounds w 10) w 16 := by unfold blockF; rw [hwq]
            rw [hbf]
            generalize outF (rounds w 10) w 16 = ob at *
            have hov : over R 0 (bytesOf ob) = bytesOf ob := by
              unfold over
              rw [bytesOf_length, hol, List.drop_eq_nil_of_le (by omega)]; simp
            simp (config := {maxSteps := 1000000, maxDischargeDepth := 9, implicitDefEqProofs := false}) [c9_l0_wr, c9_l3_wr, go, g2, hol, hRl, tb, mem_bytes_one, -List.map_take, -over, hov]
            exact Canon.keep hf hsc (hE.trans_set (by omega) _) (flat_aggB _ _)
      · cases hs
    · cases hs
  · cases hs

/-- A text with a stream of blocks. -/
def applyA (blk : Int → List Nat) : Nat → Int → List Nat → List Nat
  | 0, _, _ => []
  | f + 1, c, s => if s = [] then [] else xorB s (blk c) ++ applyA blk f (add32 c 1) (s.drop 64)
def applyF (blk : Int → List Nat) (c : Int) (s : List Nat) : List Nat := applyA blk s.length c s
theorem applyA_more (blk : Int → List Nat) : ∀ (f g : Nat) (c : Int) (s : List Nat), s.length ≤ f → s.length ≤ g → applyA blk f c s = applyA blk g c s
  | 0, 0, _, _, _, _ => rfl
  | 0, g + 1, c, s, h, _ => by
    have : s = [] := List.length_eq_zero_iff.1 (by omega)
    simp [applyA, this]
  | f + 1, 0, c, s, _, h => by
    have : s = [] := List.length_eq_zero_iff.1 (by omega)
    simp [applyA, this]
  | f + 1, g + 1, c, s, h1, h2 => by
    simp only [applyA]
    split
    · rfl
    · rename_i hs
      have hp : 0 < s.length := List.length_pos_iff.2 hs
      rw [applyA_more blk f g _ _ (by simp; omega) (by simp; omega)]
theorem applyF_nil (blk : Int → List Nat) (c : Int) : applyF blk c [] = [] := rfl
theorem applyF_cons (blk : Int → List Nat) (c : Int) (s : List Nat) (hs : s ≠ []) : applyF blk c s = xorB s (blk c) ++ applyF blk (add32 c 1) (s.drop 64) := by
  have hp : 0 < s.length := List.length_pos_iff.2 hs
  unfold applyF
  obtain ⟨f, hf⟩ : ∃ f, s.length = f + 1 := ⟨s.length - 1, by omega⟩
  rw [hf]
  simp only [applyA, if_neg hs]
  rw [applyA_more blk f (s.drop 64).length _ _ (by simp; omega) (Nat.le_refl _)]
def cnt (c : Int) : Nat → Int
  | 0 => c
  | i + 1 => add32 (cnt c i) 1
/-- What is written behind i blocks. -/
def appliedTo (blk : Int → List Nat) (c : Int) (s : List Nat) : Nat → List Nat
  | 0 => []
  | i + 1 => appliedTo blk c s i ++ xorB (s.drop (64 * i)) (blk (cnt c i))
theorem applied_all (blk : Int → List Nat) (s : List Nat) (c : Int) : ∀ i, appliedTo blk c s i ++ applyF blk (cnt c i) (s.drop (64 * i)) = applyF blk c s
  | 0 => by simp [appliedTo, cnt]
  | i + 1 => by
    rw [← applied_all blk s c i]
    by_cases hs : s.drop (64 * i) = []
    · have h2 : s.drop (64 * (i + 1)) = [] := by
        rw [List.drop_eq_nil_iff] at hs ⊢; omega
      rw [hs, h2]
      simp [appliedTo, applyF_nil, hs, xorB]
    · rw [applyF_cons _ _ _ hs, appliedTo, List.drop_drop, List.append_assoc]
      congr 3

/-- chacha.Apply. -/
def s_Apply : List V → Heap → Option (V × Heap)
  | [vk, .int .u32 c, vn, v], h => match aggB vk, aggB vn, slB h v with
    | some k, some n, some s => if k.length = 32 ∧ n.length = 12 ∧ s.length ≤ lim then some (newV h (applyF (fun c => blockF k c n) c s).length, h.new (.cells (bytesOf (applyF (fun c => blockF k c n) c s)) 5 1 true)) else none
    | _, _, _ => none
  | _, _ => none

theorem xorB_len64 (s b : List Nat) (hb : b.length = 64) : (xorB s b).length = min s.length 64 := by rw [xorB_length, hb]
theorem applied_length (blk : Int → List Nat) (hb : ∀ c, (blk c).length = 64) (c : Int) (s : List Nat) : ∀ i, 64 * i ≤ s.length + 63 → (appliedTo blk c s i).length = min s.length (64 * i)
  | 0, _ => by simp [appliedTo]
  | i + 1, h => by
    simp only [appliedTo, List.length_append]
    rw [applied_length blk hb c s i (by omega), xorB_len64 _ _ (hb _), List.length_drop]
    omega

theorem Apply_ok (cf : ACall) (hBl : ∀ a h, cf 9 a h = s_Block a h) (hX : ∀ a h, cf 26 a h = s_Xor a h) : Sum cf c14 s_Apply := by
  intro args h v h' hf hsc hlt hs
  unfold s_Apply at hs
  split at hs
  · rename_i vk c vn v0
    split at hs
    · rename_i k n s hk hn hv
      split at hs
      · rename_i hl
        obtain ⟨hl1, hl2, hl3⟩ := hl
        simp only [Option.some.injEq, Prod.mk.injEq] at hs
        obtain ⟨rfl, rfl⟩ := hs
        obtain ⟨rfl, hkb⟩ := aggB_some hk
        obtain ⟨rfl, hnb⟩ := aggB_some hn
        have hlim : lim = 140737488354304 := rfl
        have hlv : V.lt h.next v0 := by simp only [ltL] at hlt; exact hlt.2.2.2.1
        have tk : (bytesOf k).take 32 = bytesOf k := List.take_of_length_le (by rw [bytesOf_length]; omega)
        have tn : (bytesOf n).take 12 = bytesOf n := List.take_of_length_le (by rw [bytesOf_length]; omega)
        generalize hblk : (fun c => blockF k c n) = blk
        have hblk' : ∀ c, blockF k c n = blk c := fun c => by rw [← hblk]
        have hb64 : ∀ c, (blk c).length = 64 := fun c => by rw [← hblk']; exact blockF_length k c n
        have hblt : ∀ c, ∀ y ∈ blk c, y < 256 := fun c => by rw [← hblk']; exact blockF_lt k c n
        generalize hA : (h.new (.cells (bytesOf k) 22 1 true)).new (.cells (bytesOf n) 24 1 true) = h0
        have hEh : Ext h h0 := by rw [← hA]; exact (Ext.new h _).trans_new _
        have hF0 : Fresh h0 := by rw [← hA]; exact (hf.new _).new _
        have hn0 : h0.next = h.next + 2 := by rw [← hA]; rfl
        have gk : h0.get h.next = some (.cells (bytesOf k) 22 1 true) := by rw [← hA]; simp [Heap.get_new]
        have gn : h0.get (h.next + 1) = some (.cells (bytesOf n) 24 1 true) := by rw [← hA]; simp [Heap.get_new]
        obtain ⟨m, hm⟩ : ∃ m, m = (s.length + 63) / 64 := ⟨_, rfl⟩
        refine ⟨m + 1, ?_⟩
        have L := loop_count (cf := cf) (N := m + 1) (c := c14_l0) m
          (fun i e H => e.n = 33 ∧ e.at 4 = .ptr h.next 0 ∧ e.at 6 = .ptr (h.next + 1) 0 ∧ e.at 1 = .int .u32 (cnt c i) ∧ slB h (e.at 3) = some (s.drop (64 * i)) ∧ V.lt h.next (e.at 3) ∧ OwnB h0 H 5 (e.at 9) (appliedTo blk c s i) ∧ Ext h0 H ∧ Fresh H ∧ e.at 9 ≠ .nilslice)
          (fun x e H => x = .exit 0 ∧ e.n = 33 ∧ OwnB h0 H 5 (e.at 9) (applyF blk c s) ∧ Ext h0 H ∧ Fresh H ∧ e.at 9 ≠ .nilslice)
          (by
            rintro i e H hi ⟨hn', h4, h6, h1, h3, hl3', ho, hE, hF, hne⟩
            generalize hvi : e.at 3 = vi at *
            have hdl : (s.drop (64 * i)).length = s.length - 64 * i := by simp
            have hpos : 0 < s.length - 64 * i := by omega
            have gk' := hE.get hF0 gk
            have gn' := hE.get hF0 gn
            have hviH := slB_ext (hEh.trans hE) hf h3
            have hvl := slB_vlen h3
            have hsl := slB_isSl h3
            rw [hdl] at hvl
            have hltH : V.lt H.next vi := V.lt_mono (hEh.trans hE).1 _ hl3'
            have hltk := lt_add hltH
            have hcr : blockF k (cnt c i) n = blk (cnt c i) := hblk' _
            generalize hx : xorB (s.drop (64 * i)) (blk (cnt c i)) = x
            have hxl : x.length = min (s.length - 64 * i) 64 := by rw [← hx, xorB_len64 _ _ (hb64 _), hdl]
            have hxlt : ∀ y ∈ x, y < 256 := by rw [← hx]; exact xorB_lt (slB_lt h3) (hblt _)
            have hal := applied_length blk hb64 c s i (by omega)
            -- the heap at the append
            generalize hH2 : (H.new (.cells (bytesOf (blk (cnt c i))) 28 1 true)).new (.cells (bytesOf x) 5 1 true) = H2
            have hE2 : Ext h0 H2 := by rw [← hH2]; exact (hE.trans_new _).trans_new _
            have hF2 : Fresh H2 := by rw [← hH2]; exact (hF.new _).new _
            have ho2 : OwnB h0 H2 5 (e.at 9) (appliedTo blk c s i) := by rw [← hH2]; exact Own.ext_new _ (Own.ext_new _ ho hF) (hF.new _)
            have hxs : slB H2 (.slice (H.next + 1) 0 x.length none) = some x := by rw [← hH2]; simp (config := {maxSteps := 1000000, maxDischargeDepth := 9, implicitDefEqProofs := false}) [asB_bytesOf hxlt]
            obtain ⟨v3, H3, a1, a2, a3, a4, a5, a6, a7⟩ := ho2.app hE2 hF2 (slB_added hxs) (by omega)
            have hcut := slB_cut' (l := x.length) (r := s.length - 64 * i) h3 (by omega) (by omega)
            rw [List.take_of_length_le (by omega)] at hcut
            have hdrop : (s.drop (64 * i)).drop x.length = s.drop (64 * (i + 1)) := by
              rw [List.drop_drop, hxl]
              by_cases hq : s.length - 64 * i ≤ 64
              · rw [Nat.min_eq_left hq, List.drop_eq_nil_of_le (by omega), List.drop_eq_nil_of_le (by omega)]
              · rw [Nat.min_eq_right (by omega)]; congr 1
            have hviH3 := slB_ext ((hEh.trans a3)) hf h3
            have hpos' : 64 * i < s.length := by omega
            have hcap : ∀ (h : Heap) (a : Nat), sliceV h 1 (.slice a 0 64 (some 64)) none none none = some (.slice a 0 64 (some 64)) := fun h a => by simp [sliceV, bounds, maxOf, highOf, lowOf, bound]
            have hx64 : x.length ≤ 64 := by omega
            have hxlim : x.length ≤ 140737488354304 := by omega
            have hxle : x.length ≤ s.length - 64 * i := by omega
            rw [← hH2] at a1
            simp (config := {maxSteps := 1000000, maxDischargeDepth := 9, implicitDefEqProofs := false}) [c14_l0, hn', h4, h6, h1, hvi, hvl, hsl, gk', gn', tk, tn, hBl, s_Block, hk, hn, hl1, hl2, hcr, hpos, hpos', mem_bytes_one, hcap, hb64, bytesOf_length, hX, s_Xor, hviH, hltH, hltk, asB_bytesOf (hblt _), hx, hxlim, a1, slice_lo, hviH3, hxle]
            refine ⟨rfl, ?_, lt_cut hl3' _ _ _, ?_, a3, a4, a6 hne⟩
            · rw [hcut.1, hdrop]
            · simp only [appliedTo]; rw [hx]; exact a2)
          (by
            rintro e H ⟨hn', h4, h6, h1, h3, hl3', ho, hE, hF, hne⟩
            have hnil : s.drop (64 * m) = [] := List.drop_eq_nil_of_le (by omega)
            have hall := applied_all blk s c m
            rw [hnil, applyF_nil, List.append_nil] at hall
            rw [hnil] at h3
            have hvl := slB_vlen h3
            have hsl := slB_isSl h3
            simp (config := {maxSteps := 1000000, maxDischargeDepth := 9, implicitDefEqProofs := false}) [c14_l0, hn', hvl, hsl]
            rw [← hall]
            exact ⟨ho, hE, hF, hne⟩)
        subst hA
        simp (config := {maxSteps := 1000000, maxDischargeDepth := 9, implicitDefEqProofs := false}) [c14, mem_bytes_one]
        refine loop_then (K := fun r => finS _ (seqS _ _ _ (blockS _ r))) (L 0 _ _ (Nat.zero_le _) ?_ (Nat.lt_succ_self _)) ?_
        · simp (config := {maxSteps := 1000000, maxDischargeDepth := 9, implicitDefEqProofs := false}) [hv, hlv, cnt, appliedTo]
          exact ⟨OwnB.start _ _, Ext.new _ _, hF0.new _⟩
        · rintro x e' H ⟨rfl, hn', ho, hE, hF, hne⟩
          simp (config := {maxSteps := 1000000, maxDischargeDepth := 9, implicitDefEqProofs := false}) [hn']
          exact (ho.base (h := h) (by simp)).canon hf hsc (hEh.trans hE) hne
      · cases hs
    · cases hs
  · cases hs

/-- portholeref4.turn. -/
def s_Turn : List V → Heap → Option (V × Heap)
  | [.int .u32 x, .int .u64 k], h => if k = 16 ∨ k = 12 ∨ k = 8 ∨ k = 7 then some (.int .u32 (rotl x k.toNat), h) else none
  | _, _ => none
theorem Turn_ok (cf : ACall) : Sum cf c20 s_Turn := by
  intro args h v h' hf hsc hlt hs
  unfold s_Turn at hs
  split at hs
  · rename_i x k
    split at hs
    · rename_i hk
      simp only [Option.some.injEq, Prod.mk.injEq] at hs
      obtain ⟨rfl, rfl⟩ := hs
      refine ⟨1, ?_⟩
      rcases hk with rfl | rfl | rfl | rfl <;>
        (simp (config := {maxSteps := 1000000, maxDischargeDepth := 9, implicitDefEqProofs := false}) [c20, modK, rotl]
         exact Canon.keep hf hsc (Ext.refl _) (by simp only [V.lt]))
    · cases hs
  · cases hs
theorem QuarterR_ok (cf : ACall) (hRot : ∀ a h, cf 20 a h = s_Turn a h) : Sum cf c7 s_Quarter := by
  intro args h v h' hf hsc hlt hs
  unfold s_Quarter at hs
  split at hs
  · rename_i a b c d
    simp only [Option.some.injEq, Prod.mk.injEq] at hs
    obtain ⟨rfl, rfl⟩ := hs
    refine ⟨1, ?_⟩
    have e1 : ∀ x y, wrapF .u32 (x + y) = add32 x y := fun _ _ => rfl
    have e2 : ∀ x y : Int, wrapF .u32 (((x % 4294967296).toNat ^^^ (y % 4294967296).toNat : Nat) : Int) = xor32 x y := fun _ _ => rfl
    simp (config := {maxSteps := 1000000, maxDischargeDepth := 9, implicitDefEqProofs := false}) [c7, hRot, s_Turn, modK, e1, e2, quarterF]
    exact Canon.keep hf hsc (Ext.refl _) (by simp only [V.lt, ltL, and_self])
  · cases hs
/-- A number of bytes, by sums. -/
theorem getU_sum (s : List Nat) (hs : ∀ y ∈ s, y < 256) : ∀ i, i ≤ 7 → ∃ m : Nat, getU s i = (m : Int) ∧ m < 2 ^ (8 * i) ∧ getU s (i + 1) = ((m + s.getD i 0 * 2 ^ (8 * i) : Nat) : Int)
  | 0, _ => by
    have hb : s.getD 0 0 < 256 := by
      rw [List.getD_eq_getElem?_getD]
      cases h : s[0]? with
      | none => simp
      | some y => simpa using hs y (List.mem_of_getElem? h)
    refine ⟨0, rfl, by simp, ?_⟩
    simp only [getU, orU, Nat.mul_zero, Int.pow_zero, Int.mul_one, Nat.pow_zero, Nat.mul_one, Nat.zero_add]
    rw [wrap_u64 (x := ((s.getD 0 0 : Nat) : Int)) (by omega) (by omega)]
    have h1 : (((s.getD 0 0 : Nat) : Int) % 18446744073709551616).toNat = s.getD 0 0 := by omega
    rw [h1]
    simp only [Int.zero_emod, Int.toNat_zero, Nat.zero_or]
    exact wrap_u64 (by omega) (by omega)
  | i + 1, hi => by
    obtain ⟨m, h1, h2, h3⟩ := getU_sum s hs i (by omega)
    have hb : ∀ j, s.getD j 0 < 256 := fun j => by
      rw [List.getD_eq_getElem?_getD]
      cases h : s[j]? with
      | none => simp
      | some y => simpa using hs y (List.mem_of_getElem? h)
    have hbi := hb i
    have hbj := hb (i + 1)
    generalize s.getD i 0 = x at *
    have hm1 : m + x * 2 ^ (8 * i) < 2 ^ (8 * (i + 1)) := by
      rw [show 8 * (i + 1) = 8 * i + 8 from by omega, Nat.pow_add]
      have : x * 2 ^ (8 * i) ≤ 255 * 2 ^ (8 * i) := Nat.mul_le_mul_right _ (by omega)
      omega
    refine ⟨m + x * 2 ^ (8 * i), h3, hm1, ?_⟩
    rw [getU, h3]
    generalize m + x * 2 ^ (8 * i) = M at *
    generalize s.getD (i + 1) 0 = y at *
    have hle : 2 ^ (8 * (i + 1)) ≤ 2 ^ 56 := Nat.pow_le_pow_right (by omega) (by omega)
    have hP : y * 2 ^ (8 * (i + 1)) ≤ 255 * 2 ^ 56 := Nat.mul_le_mul (by omega) hle
    have hcast : ((y : Nat) : Int) * 2 ^ (8 * (i + 1)) = ((y * 2 ^ (8 * (i + 1)) : Nat) : Int) := by simp
    rw [hcast]
    have hor : M ||| (y * 2 ^ (8 * (i + 1))) = M + y * 2 ^ (8 * (i + 1)) := by
      have h := (Nat.two_pow_add_eq_or_of_lt hm1 y).symm
      rw [Nat.or_comm, Nat.mul_comm y, h, Nat.add_comm]
    generalize hQ : y * 2 ^ (8 * (i + 1)) = Q at *
    have hML : M < 2 ^ 56 := by omega
    rw [wrap_u64 (x := (Q : Int)) (by omega) (by omega)]
    unfold orU
    have q1 : ((M : Int) % 18446744073709551616).toNat = M := by omega
    have q2 : ((Q : Int) % 18446744073709551616).toNat = Q := by omega
    rw [q1, q2, hor]
    exact wrap_u64 (by omega) (by omega)
theorem getU_four (s : List Nat) (hs : ∀ y ∈ s, y < 256) : getU s 4 = ((s.getD 0 0 + s.getD 1 0 * 256 + s.getD 2 0 * 65536 + s.getD 3 0 * 16777216 : Nat) : Int) := by
  obtain ⟨m0, a0, _, b0⟩ := getU_sum s hs 0 (by omega)
  obtain ⟨m1, a1, _, b1⟩ := getU_sum s hs 1 (by omega)
  obtain ⟨m2, a2, _, b2⟩ := getU_sum s hs 2 (by omega)
  obtain ⟨m3, a3, _, b3⟩ := getU_sum s hs 3 (by omega)
  have : m0 = 0 := by have := a0; simp [getU] at this; omega
  subst this
  rw [b3]
  rw [a1] at b0; rw [a2] at b1; rw [a3] at b2
  simp at b0 b1 b2 ⊢
  omega

/-- portholeref1.Get32. -/
def s_Get32R : List V → Heap → Option (V × Heap)
  | [v], h => match slB h v with
    | some s => if 4 ≤ s.length then some (.int .u32 (wrapF .u32 (getU s 4)), h) else none
    | none => none
  | _, _ => none
theorem Get32R_ok (cf : ACall) : Sum cf c24 s_Get32R := by
  intro args h v h' hf hsc hlt hs
  unfold s_Get32R at hs
  split at hs
  · rename_i vb
    split at hs
    · rename_i s hb
      split at hs
      · rename_i hl
        simp only [Option.some.injEq, Prod.mk.injEq] at hs
        obtain ⟨rfl, rfl⟩ := hs
        refine ⟨1, ?_⟩
        have hsl := slB_isSl hb
        have hvl := slB_vlen hb
        have hg := getU_four s (slB_lt hb)
        have hlt0 := slB_lt hb
        have hy : ∀ i, i < 4 → ∃ y, s[i]? = some y ∧ y < 256 ∧ s.getD i 0 = y := fun i hi => by
          have hi' : i < s.length := by omega
          exact ⟨s[i], List.getElem?_eq_getElem hi', hlt0 _ (List.getElem_mem hi'), by rw [List.getD_eq_getElem?_getD, List.getElem?_eq_getElem hi']; rfl⟩
        obtain ⟨y0, p0, q0, r0⟩ := hy 0 (by omega)
        obtain ⟨y1, p1, q1, r1⟩ := hy 1 (by omega)
        obtain ⟨y2, p2, q2, r2⟩ := hy 2 (by omega)
        obtain ⟨y3, p3, q3, r3⟩ := hy 3 (by omega)
        rw [r0, r1, r2, r3] at hg
        rw [hg]
        have k0 : 0 < s.length := by omega
        have k1 : 1 < s.length := by omega
        have k2 : 2 < s.length := by omega
        have k3 : 3 < s.length := by omega
        have e0 : s[0] = y0 := by rw [List.getElem?_eq_getElem k0] at p0; exact Option.some.inj p0
        have e1 : s[1] = y1 := by rw [List.getElem?_eq_getElem k1] at p1; exact Option.some.inj p1
        have e2 : s[2] = y2 := by rw [List.getElem?_eq_getElem k2] at p2; exact Option.some.inj p2
        have e3 : s[3] = y3 := by rw [List.getElem?_eq_getElem k3] at p3; exact Option.some.inj p3
        have i1 : (1 : Int) < (s.length : Int) := by omega
        have i2 : (2 : Int) < (s.length : Int) := by omega
        have i3 : (3 : Int) < (s.length : Int) := by omega
        simp (config := {maxSteps := 1000000, maxDischargeDepth := 9, implicitDefEqProofs := false}) [c24, hsl, hvl, hb, k0, k1, k2, k3, i1, i2, i3, e0, e1, e2, e3]
        have hr : wrapF .u32 (wrapF .u32 (wrapF .u32 (wrapF .u32 (y0 : Int) + wrapF .u32 (wrapF .u32 (y1 : Int) * 256)) + wrapF .u32 (wrapF .u32 (y2 : Int) * 65536)) + wrapF .u32 (wrapF .u32 (y3 : Int) * 16777216)) = wrapF .u32 ((y0 : Int) + (y1 : Int) * 256 + (y2 : Int) * 65536 + (y3 : Int) * 16777216) := by
          simp only [wrap_u32_mod]; omega
        rw [hr]
        exact Canon.keep hf hsc (Ext.refl _) (by simp only [V.lt])
      · cases hs
    · cases hs
  · cases hs
theorem putB_four (x : Int) : bytesOf (putB x 4) = [.int .u8 (wrapF .u8 x), .int .u8 (wrapF .u8 (x / 256)), .int .u8 (wrapF .u8 (x / 65536)), .int .u8 (wrapF .u8 (x / 16777216))] := by
  simp only [wrap_u8_mod]
  simp [putB, bytesOf, List.range_succ]
  omega
theorem Put32R_ok (cf : ACall) : Sum cf c25 s_Put32 := by
  intro args h v h' hf hsc hlt hs
  unfold s_Put32 at hs
  split at hs
  · rename_i x
    split at hs
    · rename_i hx
      simp only [Option.some.injEq, Prod.mk.injEq] at hs
      obtain ⟨rfl, rfl⟩ := hs
      refine ⟨1, ?_⟩
      rw [putB_four]
      simp (config := {maxSteps := 1000000, maxDischargeDepth := 9, implicitDefEqProofs := false}) [c25]
      exact Canon.made hf hsc rfl (by simp) (by simp only [ltL, V.lt, and_self])
    · cases hs
  · cases hs

/-- The document's rows. -/
def rowsL : List Int := [0, 4, 8, 12, 1, 5, 9, 13, 2, 6, 10, 14, 3, 7, 11, 15, 0, 5, 10, 15, 1, 6, 11, 12, 2, 7, 8, 13, 3, 4, 9, 14]
/-- The laid table stands in memory. -/
def hasRows (h : Heap) : Prop := ∃ t, h.get 0 = some (.cells (rowsL.map (V.int .i64)) t 1 false)
theorem hasRows_new {h : Heap} (B : Blk) (h0 : 0 < h.next) : hasRows (h.new B) = hasRows h := by
  unfold hasRows
  rw [Heap.get_new, if_neg (by omega)]
theorem hasRows_ext {h H : Heap} (hr : hasRows h) (hf : Fresh h) (he : Ext h H) : hasRows H := by
  obtain ⟨t, ht⟩ := hr
  exact ⟨t, he.get hf ht⟩
theorem hasRows_pos {h : Heap} (hr : hasRows h) (hf : Fresh h) : 0 < h.next := by
  obtain ⟨t, ht⟩ := hr
  exact hf.lt ht
/-- Memory within a block's rounds. -/
structure GR (h : Heap) (Rb Wb : Blk) (v : List Int) (H : Heap) : Prop where
  ext : Ext h H
  fresh : Fresh H
  next : h.next + 5 ≤ H.next
  g2 : H.get (h.next + 2) = some Rb
  g3 : H.get (h.next + 3) = some Wb
  g4 : H.get (h.next + 4) = some (.cells (v.map (V.int .u32)) 43 1 true)
def rrow (v : List Int) : Nat → List Int
  | 0 => v
  | i + 1 => qr (rrow v i) (rowsL.getD (4 * i) 0).toNat (rowsL.getD (4 * i + 1) 0).toNat (rowsL.getD (4 * i + 2) 0).toNat (rowsL.getD (4 * i + 3) 0).toNat
theorem rrow_length {v : List Int} : ∀ i, (rrow v i).length = v.length
  | 0 => rfl
  | i + 1 => by simp only [rrow, qr_length, rrow_length i]
theorem rrow_all (v : List Int) : rrow v 8 = dround v := rfl
theorem GR.step {h H : Heap} {Rb Wb : Blk} {v w : List Int} (g : GR h Rb Wb v H) (B : Blk) : GR h Rb Wb w ((H.set (h.next + 4) (some (.cells (w.map (V.int .u32)) 43 1 true))).new B) := by
  have := g.next
  refine ⟨(g.ext.trans_set (by omega) _).trans_new _, (g.fresh.set (by omega) _).new _, by simp; omega, ?_, ?_, ?_⟩
  · rw [Heap.get_new, if_neg (by simp; omega), Heap.get_set, if_neg (by omega)]; exact g.g2
  · rw [Heap.get_new, if_neg (by simp; omega), Heap.get_set, if_neg (by omega)]; exact g.g3
  · rw [Heap.get_new, if_neg (by simp; omega), Heap.get_set, if_pos rfl]

theorem over_four (a b c d x y z w : V) : over [a, b, c, d] 0 [x, y, z, w] = [x, y, z, w] := rfl
theorem BlockR_inner (cf : ACall) (hQ : ∀ a h, cf 7 a h = s_Quarter a h) (h : Heap) (hf : Fresh h) (hrows : hasRows h) (Rb Wb : Blk) (v : List Int) (hv : v.length = 16) : ∀ e H0, e.n = 124 → e.at 10 = .ptr (h.next + 4) 0 → e.at 12 = .int .i64 0 → GR h Rb Wb v H0 →
    YtjdofdokdemnkaaDoorA.Ends (execA cf 20 (.loop c10_l3) e H0) fun x e' H => x = .exit 6 ∧ GR h Rb Wb (dround v) H := by
  intro e H0 hn h10 h12 hG0
  refine loop_count (cf := cf) (N := 20) (c := c10_l3) 8
    (fun i e H => e.n = 124 ∧ e.at 10 = .ptr (h.next + 4) 0 ∧ e.at 12 = .int .i64 (i : Int) ∧ GR h Rb Wb (rrow v i) H)
    (fun x e' H => x = .exit 6 ∧ GR h Rb Wb (dround v) H) ?_ ?_ 0 e _ (Nat.zero_le _) ⟨hn, h10, h12, hG0⟩ (by omega)
  · rintro i e H hi ⟨hn, h10, h12, hG⟩
    obtain ⟨t, g0⟩ := hasRows_ext hrows hf hG.ext
    have hnx := hG.next
    have g4 := hG.g4
    have hp := hf.lt hrows.choose_spec
    have hq1 : (h.next + 4 = H.next) = False := by simp; omega
    have hq2 : (H.next = h.next + 4) = False := by simp; omega
    have hq3 : (0 = H.next) = False := by simp; omega
    have hl := rrow_length (v := v) i
    rw [hv] at hl
    have hr : rrow v (i + 1) = qr (rrow v i) (rowsL.getD (4 * i) 0).toNat (rowsL.getD (4 * i + 1) 0).toNat (rowsL.getD (4 * i + 2) 0).toNat (rowsL.getD (4 * i + 3) 0).toNat := rfl
    generalize rrow v i = vi at *
    generalize rrow v (i + 1) = vj at *
    subst hr
    have hii : i = 0 ∨ i = 1 ∨ i = 2 ∨ i = 3 ∨ i = 4 ∨ i = 5 ∨ i = 6 ∨ i = 7 := by omega
    rcases hii with rfl | rfl | rfl | rfl | rfl | rfl | rfl | rfl <;>
      (simp (config := {maxSteps := 1000000, maxDischargeDepth := 9, implicitDefEqProofs := false}) [c10_l3, over_four, hn, h10, h12, g0, g4, rowsL, hq1, hq2, hq3, hQ, s_Quarter, hl, -over, over_set, map_set, -List.map_set, qr, List.getD]
       exact hG.step _)
  · rintro e H ⟨hn, h10, h12, hG⟩
    simp (config := {maxSteps := 1000000, maxDischargeDepth := 9, implicitDefEqProofs := false}) [c10_l3, hn, h10, h12]
    exact hG

theorem BlockR_outer (cf : ACall) (hQ : ∀ a h, cf 7 a h = s_Quarter a h) (h : Heap) (hf : Fresh h) (hrows : hasRows h) (Rb Wb : Blk) (v : List Int) (hv : v.length = 16) : ∀ e H0, e.n = 124 → e.at 10 = .ptr (h.next + 4) 0 → e.at 11 = .int .i64 0 → GR h Rb Wb v H0 →
    YtjdofdokdemnkaaDoorA.Ends (execA cf 20 (.loop c10_l2) e H0) fun x e' H => x = .exit 4 ∧ GR h Rb Wb (rounds v 10) H := by
  intro e H0 hn h10 h11 hG0
  refine loop_count (cf := cf) (N := 20) (c := c10_l2) 10
    (fun i e H => e.n = 124 ∧ e.at 10 = .ptr (h.next + 4) 0 ∧ e.at 11 = .int .i64 (i : Int) ∧ GR h Rb Wb (rounds v i) H)
    (fun x e' H => x = .exit 4 ∧ GR h Rb Wb (rounds v 10) H) ?_ ?_ 0 e _ (Nat.zero_le _) ⟨hn, h10, h11, hG0⟩ (by omega)
  · rintro i e H hi ⟨hn, h10, h11, hG⟩
    have hr : rounds v (i + 1) = dround (rounds v i) := rfl
    have hl := rounds_length (v := v) i
    rw [hv] at hl
    simp (config := {maxSteps := 1000000, maxDischargeDepth := 9, implicitDefEqProofs := false}) [c10_l2, hn, h10, h11, show (i : Int) < 10 from by omega]
    refine loop_in (K := fun r => seqS _ _ _ (blockS _ (blockS _ r))) (BlockR_inner cf hQ h hf hrows Rb Wb (rounds v i) hl _ _ ?_ ?_ ?_ hG) ?_
    · simp (config := {maxSteps := 1000000, maxDischargeDepth := 9, implicitDefEqProofs := false}) [hn]
    · simp (config := {maxSteps := 1000000, maxDischargeDepth := 9, implicitDefEqProofs := false}) [hn, h10]
    · simp (config := {maxSteps := 1000000, maxDischargeDepth := 9, implicitDefEqProofs := false}) [hn]
    · rintro x H ⟨rfl, hG2⟩
      simp (config := {maxSteps := 1000000, maxDischargeDepth := 9, implicitDefEqProofs := false}) [hn, h10, h11, c10_l3_wr, wrap_i64 (x := (i : Int) + 1) (by omega) (by omega)]
      rw [hr]; exact hG2
  · rintro e H ⟨hn, h10, h11, hG⟩
    simp (config := {maxSteps := 1000000, maxDischargeDepth := 9, implicitDefEqProofs := false}) [c10_l2, hn, h10, h11]
    exact hG

/-- Memory while a block's bytes are written. -/
structure GO (h : Heap) (Rb Wb Vb : Blk) (p : Nat) (cs : List V) (H : Heap) : Prop where
  ext : Ext h H
  fresh : Fresh H
  hp : h.next + 5 ≤ p
  lt : p < H.next
  g2 : H.get (h.next + 2) = some Rb
  g3 : H.get (h.next + 3) = some Wb
  g4 : H.get (h.next + 4) = some Vb
  gp : H.get p = some (.cells cs 28 1 true)
theorem GO.set {h H : Heap} {Rb Wb Vb : Blk} {p : Nat} {cs : List V} (g : GO h Rb Wb Vb p cs H) (cs' : List V) : GO h Rb Wb Vb p cs' (H.set p (some (.cells cs' 28 1 true))) := by
  have := g.hp; have := g.lt
  refine ⟨g.ext.trans_set (by omega) _, g.fresh.set g.lt _, g.hp, by simpa using g.lt, ?_, ?_, ?_, ?_⟩
  · rw [Heap.get_set, if_neg (by omega)]; exact g.g2
  · rw [Heap.get_set, if_neg (by omega)]; exact g.g3
  · rw [Heap.get_set, if_neg (by omega)]; exact g.g4
  · rw [Heap.get_set, if_pos rfl]
theorem GO.new {h H : Heap} {Rb Wb Vb : Blk} {p : Nat} {cs : List V} (g : GO h Rb Wb Vb p cs H) (B : Blk) : GO h Rb Wb Vb p cs (H.new B) := by
  have := g.hp; have := g.lt
  refine ⟨g.ext.trans_new _, g.fresh.new _, g.hp, by simp; omega, ?_, ?_, ?_, ?_⟩
  · rw [Heap.get_new, if_neg (by omega)]; exact g.g2
  · rw [Heap.get_new, if_neg (by omega)]; exact g.g3
  · rw [Heap.get_new, if_neg (by omega)]; exact g.g4
  · rw [Heap.get_new, if_neg (by omega)]; exact g.gp

theorem BlockR_put (cf : ACall) (h : Heap) (Rb Wb Vb : Blk) (p q i : Nat) (o y : List Nat) (hi : i < 16) (ho : o.length = 4 * i) (hy : y.length = 4) (hpq : p < q) : ∀ e H0, e.n = 124 → e.at 14 = .ptr p 0 → e.at 15 = .int .i64 (i : Int) → e.at 16 = .slice q 0 4 none → e.at 17 = .int .i64 0 →
    GO h Rb Wb Vb p (bytesOf o ++ List.replicate (64 - 4 * i) (.int .u8 0)) H0 → H0.get q = some (.cells (bytesOf y) 5 1 true) →
    YtjdofdokdemnkaaDoorA.Ends (execA cf 20 (.loop c10_l5) e H0) fun x e' H => x = .exit 10 ∧ GO h Rb Wb Vb p (bytesOf (o ++ y) ++ List.replicate (64 - 4 * (i + 1)) (.int .u8 0)) H := by
  intro e H0 hn h14 h15 h16 h17 hG0 gq0
  refine loop_count (cf := cf) (N := 20) (c := c10_l5) 4
    (fun k e H => e.n = 124 ∧ e.at 14 = .ptr p 0 ∧ e.at 15 = .int .i64 (i : Int) ∧ e.at 16 = .slice q 0 4 none ∧ e.at 17 = .int .i64 (k : Int) ∧ GO h Rb Wb Vb p (bytesOf (o ++ y.take k) ++ List.replicate (64 - 4 * i - k) (.int .u8 0)) H ∧ H.get q = some (.cells (bytesOf y) 5 1 true))
    (fun x e' H => x = .exit 10 ∧ GO h Rb Wb Vb p (bytesOf (o ++ y) ++ List.replicate (64 - 4 * (i + 1)) (.int .u8 0)) H) ?_ ?_ 0 e _ (Nat.zero_le _) ⟨hn, h14, h15, h16, h17, by simpa using hG0, gq0⟩ (by omega)
  · rintro k e H hk ⟨hn, h14, h15, h16, h17, hG, gq⟩
    have gp := hG.gp
    have hset := hG.set
    have hq1 : (p = q) = False := by simp; omega
    have hq2 : (q = p) = False := by simp; omega
    obtain ⟨r, hr⟩ : ∃ r, 64 - 4 * i - k = r + 1 := ⟨64 - 4 * i - k - 1, by omega⟩
    have hr2 : 64 - 4 * i - (k + 1) = r := by omega
    have hky : k < y.length := by omega
    have hlen : (o ++ y.take k).length = 4 * i + k := by simp; omega
    have hov := over_fill (bytesOf (o ++ y.take k)) (.int .u8 0) (.int .u8 ((y[k] : Nat) : Int)) r
    rw [bytesOf_length, hlen] at hov
    have hb : bytesOf (o ++ y.take (k + 1)) = bytesOf (o ++ y.take k) ++ [.int .u8 ((y[k] : Nat) : Int)] := by
      rw [List.take_succ_eq_append_getElem hky, ← List.append_assoc, bytesOf_append]
      simp [bytesOf]
    have hcl : (bytesOf (o ++ y.take k) ++ List.replicate (r + 1) (V.int .u8 0)).length = 64 := by rw [List.length_append, bytesOf_length, hlen, List.length_replicate]; omega
    rw [hr] at gp
    rw [hr2]
    generalize hcs : bytesOf (o ++ y.take k) ++ List.replicate (r + 1) (V.int .u8 0) = cs at *
    rw [hb]
    generalize hcs2 : bytesOf (o ++ y.take k) ++ [V.int .u8 ((y[k] : Nat) : Int)] ++ List.replicate r (V.int .u8 0) = cs2 at *
    have w1 : wrapF .i64 (4 * (i : Int)) = 4 * (i : Int) := wrap_i64 (by omega) (by omega)
    have w2 : wrapF .i64 (4 * (i : Int) + (k : Int)) = 4 * (i : Int) + (k : Int) := wrap_i64 (by omega) (by omega)
    have t1 : (4 * (i : Int) + (k : Int)).toNat = 4 * i + k := by omega
    simp (config := {maxSteps := 1000000, maxDischargeDepth := 9, implicitDefEqProofs := false}) [c10_l5, hn, h14, h15, h16, h17, hk, show (k : Int) < 4 from by omega, gp, gq, hq1, hq2, w1, w2, t1, hky, hcl, hov, -over, show 4 * (i : Int) + (k : Int) < 64 from by omega, show (0 : Int) ≤ 4 * (i : Int) + (k : Int) from by omega, show 4 * i + k ≤ 63 from by omega, wrap_i64 (x := (k : Int) + 1) (by omega) (by omega)]
    exact hset _
  · rintro e H ⟨hn, h14, h15, h16, h17, hG, gq⟩
    rw [List.take_of_length_le (by omega), show 64 - 4 * i - 4 = 64 - 4 * (i + 1) from by omega] at hG
    simp (config := {maxSteps := 1000000, maxDischargeDepth := 9, implicitDefEqProofs := false}) [c10_l5, hn, h14, h17]
    exact hG

theorem BlockR_out (cf : ACall) (hP : ∀ a h, cf 25 a h = s_Put32 a h) (h : Heap) (Rb : Blk) (v w : List Int) (tw tv p : Nat) (hv : v.length = 16) (hw : w.length = 16) : ∀ e H0, e.n = 124 → e.at 14 = .ptr p 0 → e.at 10 = .ptr (h.next + 4) 0 → e.at 7 = .ptr (h.next + 3) 0 → e.at 15 = .int .i64 0 →
    GO h Rb (.cells (w.map (V.int .u32)) tw 1 true) (.cells (v.map (V.int .u32)) tv 1 true) p (List.replicate 64 (.int .u8 0)) H0 →
    YtjdofdokdemnkaaDoorA.Ends (execA cf 20 (.loop c10_l4) e H0) fun x e' H => x = .exit 8 ∧ GO h Rb (.cells (w.map (V.int .u32)) tw 1 true) (.cells (v.map (V.int .u32)) tv 1 true) p (bytesOf (outF v w 16)) H := by
  intro e H0 hn h14 h10 h7 h15 hG0
  refine loop_count (cf := cf) (N := 20) (c := c10_l4) 16
    (fun i e H => e.n = 124 ∧ e.at 14 = .ptr p 0 ∧ e.at 10 = .ptr (h.next + 4) 0 ∧ e.at 7 = .ptr (h.next + 3) 0 ∧ e.at 15 = .int .i64 (i : Int) ∧ GO h Rb (.cells (w.map (V.int .u32)) tw 1 true) (.cells (v.map (V.int .u32)) tv 1 true) p (bytesOf (outF v w i) ++ List.replicate (64 - 4 * i) (.int .u8 0)) H)
    (fun x e' H => x = .exit 8 ∧ GO h Rb (.cells (w.map (V.int .u32)) tw 1 true) (.cells (v.map (V.int .u32)) tv 1 true) p (bytesOf (outF v w 16)) H) ?_ ?_ 0 e _ (Nat.zero_le _) ⟨hn, h14, h10, h7, h15, by simpa [outF, bytesOf_nil] using hG0⟩ (by omega)
  · rintro i e H hi ⟨hn, h14, h10, h7, h15, hG⟩
    have gv := hG.g4
    have gw := hG.g3
    have hxr := add32_range (v.getD i 0) (w.getD i 0)
    have hgv : v.getD i 0 = v[i] := by rw [List.getD_eq_getElem?_getD, List.getElem?_eq_getElem (by omega)]; rfl
    have hgw : w.getD i 0 = w[i] := by rw [List.getD_eq_getElem?_getD, List.getElem?_eq_getElem (by omega)]; rfl
    rw [hgv, hgw] at hxr
    have hadd : wrapF .u32 (v[i] + w[i]) = add32 v[i] w[i] := rfl
    have hout : outF v w (i + 1) = outF v w i ++ putB (add32 v[i] w[i]) 4 := by simp only [outF, hgv, hgw]
    generalize hx : add32 v[i] w[i] = x at *
    have hlen := outF_length v w i
    simp (config := {maxSteps := 1000000, maxDischargeDepth := 9, implicitDefEqProofs := false}) [c10_l4, hn, h14, h10, h7, h15, hi, show (i : Int) < 16 from by omega, gv, gw, hv, hw, hadd, hx, hP, s_Put32, hxr.1, hxr.2]
    refine loop_in (K := fun r => seqS _ _ _ (blockS _ (blockS _ r))) (BlockR_put cf h Rb _ _ p H.next i (outF v w i) (putB x 4) hi hlen (putB_length x 4) hG.lt _ _ ?_ ?_ ?_ ?_ ?_ (hG.new _) ?_) ?_
    · simp (config := {maxSteps := 1000000, maxDischargeDepth := 9, implicitDefEqProofs := false}) [hn]
    · simp (config := {maxSteps := 1000000, maxDischargeDepth := 9, implicitDefEqProofs := false}) [hn, h14]
    · simp (config := {maxSteps := 1000000, maxDischargeDepth := 9, implicitDefEqProofs := false}) [hn, h15]
    · simp (config := {maxSteps := 1000000, maxDischargeDepth := 9, implicitDefEqProofs := false}) [hn]
    · simp (config := {maxSteps := 1000000, maxDischargeDepth := 9, implicitDefEqProofs := false}) [hn]
    · simp (config := {maxSteps := 1000000, maxDischargeDepth := 9, implicitDefEqProofs := false})
    · rintro x H ⟨rfl, hG2⟩
      rw [← hout] at hG2
      simp (config := {maxSteps := 1000000, maxDischargeDepth := 9, implicitDefEqProofs := false}) [hn, h14, h10, h7, h15, c10_l5_wr, wrap_i64 (x := (i : Int) + 1) (by omega) (by omega)]
      exact hG2
  · rintro e H ⟨hn, h14, h10, h7, h15, hG⟩
    simp (config := {maxSteps := 1000000, maxDischargeDepth := 9, implicitDefEqProofs := false}) [c10_l4, hn, h15]
    simpa using hG

theorem getU_take (s : List Nat) (n : Nat) : ∀ i, i ≤ n → getU (s.take n) i = getU s i
  | 0, _ => rfl
  | i + 1, h => by
    simp only [getU]
    rw [getU_take s n i (by omega), List.getD_eq_getElem?_getD, List.getD_eq_getElem?_getD, List.getElem?_take, if_pos (by omega)]
theorem getU_cut (s : List Nat) (l n : Nat) : getU ((s.take (l + n)).drop l) n = getU (s.drop l) n := by
  rw [List.drop_take, show l + n - l = n from by omega]
  exact getU_take _ _ _ (Nat.le_refl _)
/-- portholeref4.Block. -/
noncomputable def s_BlockR : List V → Heap → Option (V × Heap)
  | [vk, .int .u32 c, vn], h => match aggB vk, aggB vn with
    | some k, some n => open Classical in if k.length = 32 ∧ n.length = 12 ∧ hasRows h then some (.agg (bytesOf (blockF k c n)), h) else none
    | _, _ => none
  | _, _ => none

theorem BlockR_ok (cf : ACall) (hQ : ∀ a h, cf 7 a h = s_Quarter a h) (hG : ∀ a h, cf 24 a h = s_Get32R a h) (hP : ∀ a h, cf 25 a h = s_Put32 a h) : Sum cf c10 s_BlockR := by
  intro args h v h' hf hsc hlt hs
  unfold s_BlockR at hs
  split at hs
  · rename_i vk c vn
    split at hs
    · rename_i k n hk hn
      split at hs
      · rename_i hl
        obtain ⟨hl1, hl2, hrows⟩ := hl
        simp only [Option.some.injEq, Prod.mk.injEq] at hs
        obtain ⟨rfl, rfl⟩ := hs
        obtain ⟨rfl, hkb⟩ := aggB_some hk
        obtain ⟨rfl, hnb⟩ := aggB_some hn
        generalize hA : Blk.cells (bytesOf k) 22 1 true = A
        generalize hB : Blk.cells (bytesOf n) 24 1 true = B
        obtain ⟨R0, hR0⟩ : ∃ R0 : List V, R0 = List.replicate 64 (V.int .u8 0) := ⟨_, rfl⟩
        have hR0l : R0.length = 64 := by rw [hR0]; simp
        generalize hR : Blk.cells R0 28 1 true = R
        refine ⟨20, ?_⟩
        have hsk : slB (h.new A) (.slice h.next 0 32 (some 32)) = some k := by
          subst hA; simp (config := {maxSteps := 1000000, maxDischargeDepth := 9, implicitDefEqProofs := false}) [hl1, asB_bytesOf hkb]
        have hsn : slB ((h.new A).new B) (.slice (h.next + 1) 0 12 (some 12)) = some n := by
          subst hB; simp (config := {maxSteps := 1000000, maxDischargeDepth := 9, implicitDefEqProofs := false}) [hl2, asB_bytesOf hnb]
        have L1 := loop_count (cf := cf) (N := 20) (c := c10_l0) 8
          (fun i e H => e.n = 124 ∧ e.at 1 = .int .u32 c ∧ e.at 3 = .ptr h.next 0 ∧ e.at 5 = .ptr (h.next + 1) 0 ∧ e.at 6 = .ptr (h.next + 2) 0 ∧ e.at 7 = .ptr (h.next + 3) 0 ∧ e.at 8 = .int .i64 (i : Int) ∧ H = (((h.new A).new B).new R).new (.cells ((kw k i).map (V.int .u32)) 43 1 true))
          (fun x e H => x = .exit 0 ∧ e.n = 124 ∧ e.at 1 = .int .u32 c ∧ e.at 3 = .ptr h.next 0 ∧ e.at 5 = .ptr (h.next + 1) 0 ∧ e.at 6 = .ptr (h.next + 2) 0 ∧ e.at 7 = .ptr (h.next + 3) 0 ∧ H = (((h.new A).new B).new R).new (.cells ((kw k 8).map (V.int .u32)) 43 1 true))
          (by
            rintro i e H hi ⟨hn', h1, h3, h5, h6, h7, h8, rfl⟩
            have w1 : wrapF .i64 (4 + (i : Int)) = 4 + (i : Int) := wrap_i64 (by omega) (by omega)
            have w2 : wrapF .i64 (4 * (i : Int)) = 4 * (i : Int) := wrap_i64 (by omega) (by omega)
            have w2b : wrapF .i64 (4 * (i : Int) + 4) = 4 * (i : Int) + 4 := wrap_i64 (by omega) (by omega)
            have w3 : (4 + (i : Int)).toNat = 4 + i := by omega
            have w4 : (4 * (i : Int)).toNat = 4 * i := by omega
            have w5 : (4 * (i : Int) + 4).toNat = 4 * i + 4 := by omega
            have hgc := getU_cut k (4 * i) 4
            have hcl : ((k.take (4 * i + 4)).drop (4 * i)).length = 4 := by simp; omega
            generalize hcut : (k.take (4 * i + 4)).drop (4 * i) = ct at *
            have hkw : kw k (i + 1) = (kw k i).set (4 + i) (wrapF .u32 (getU (k.drop (4 * i)) 4)) := rfl
            simp (config := {maxSteps := 1000000, maxDischargeDepth := 9, implicitDefEqProofs := false}) [c10_l0, hn', h1, h3, h5, h6, h7, h8, hi, w1, w2, w2b, w3, w4, w5, hsk, show 4 * (i : Int) + 4 ≤ 32 from by omega, show (0 : Int) ≤ 4 * (i : Int) from by omega, show 4 * i + 4 ≤ 32 from by omega, show 4 * (i : Int) ≤ 4 * (i : Int) + 4 from by omega, hG, s_Get32R, hcut, hcl, hgc, show (0 : Int) ≤ 4 + (i : Int) from by omega, show 4 + (i : Int) < 16 from by omega, kw_length, -over, over_set, show 4 + i < 16 from by omega, show 4 + i + 1 ≤ 16 from by omega, map_set, -List.map_set, hkw, show (i : Int) < 8 from by omega, wrap_i64 (x := (i : Int) + 1) (by omega) (by omega), -List.length_drop]
            )
          (by
            rintro e H ⟨hn', h1, h3, h5, h6, h7, h8, rfl⟩
            simp (config := {maxSteps := 1000000, maxDischargeDepth := 9, implicitDefEqProofs := false}) [c10_l0, hn', h1, h3, h5, h6, h7, h8])
        have L2 := loop_count (cf := cf) (N := 20) (c := c10_l1) 3
          (fun i e H => e.n = 124 ∧ e.at 5 = .ptr (h.next + 1) 0 ∧ e.at 6 = .ptr (h.next + 2) 0 ∧ e.at 7 = .ptr (h.next + 3) 0 ∧ e.at 9 = .int .i64 (i : Int) ∧ H = (((h.new A).new B).new R).new (.cells ((nw n ((kw k 8).set 12 c) i).map (V.int .u32)) 43 1 true))
          (fun x e H => x = .exit 2 ∧ e.n = 124 ∧ e.at 6 = .ptr (h.next + 2) 0 ∧ e.at 7 = .ptr (h.next + 3) 0 ∧ H = (((h.new A).new B).new R).new (.cells ((wordsF k c n).map (V.int .u32)) 43 1 true))
          (by
            rintro i e H hi ⟨hn', h5, h6, h7, h9, rfl⟩
            have w1 : wrapF .i64 (13 + (i : Int)) = 13 + (i : Int) := wrap_i64 (by omega) (by omega)
            have w2 : wrapF .i64 (4 * (i : Int)) = 4 * (i : Int) := wrap_i64 (by omega) (by omega)
            have w2b : wrapF .i64 (4 * (i : Int) + 4) = 4 * (i : Int) + 4 := wrap_i64 (by omega) (by omega)
            have w3 : (13 + (i : Int)).toNat = 13 + i := by omega
            have w4 : (4 * (i : Int)).toNat = 4 * i := by omega
            have w5 : (4 * (i : Int) + 4).toNat = 4 * i + 4 := by omega
            have hgc := getU_cut n (4 * i) 4
            have hcl : ((n.take (4 * i + 4)).drop (4 * i)).length = 4 := by simp; omega
            generalize hcut : (n.take (4 * i + 4)).drop (4 * i) = ct at *
            have hnl := nw_length n (w := (kw k 8).set 12 c) (by simp [kw_length]) i
            have hnw : nw n ((kw k 8).set 12 c) (i + 1) = (nw n ((kw k 8).set 12 c) i).set (13 + i) (wrapF .u32 (getU (n.drop (4 * i)) 4)) := rfl
            simp (config := {maxSteps := 1000000, maxDischargeDepth := 9, implicitDefEqProofs := false}) [c10_l1, hn', h5, h6, h7, h9, hi, w1, w2, w2b, w3, w4, w5, hsn, show 4 * (i : Int) + 4 ≤ 12 from by omega, show (0 : Int) ≤ 4 * (i : Int) from by omega, show 4 * i + 4 ≤ 12 from by omega, show 4 * (i : Int) ≤ 4 * (i : Int) + 4 from by omega, hG, s_Get32R, hcut, hcl, hgc, show (0 : Int) ≤ 13 + (i : Int) from by omega, show 13 + (i : Int) < 16 from by omega, hnl, -over, over_set, show 13 + i < 16 from by omega, show 13 + i + 1 ≤ 16 from by omega, map_set, -List.map_set, hnw, show (i : Int) < 3 from by omega, wrap_i64 (x := (i : Int) + 1) (by omega) (by omega), -List.length_drop])
          (by
            rintro e H ⟨hn', h5, h6, h7, h9, rfl⟩
            simp (config := {maxSteps := 1000000, maxDischargeDepth := 9, implicitDefEqProofs := false}) [c10_l1, hn', h5, h6, h7, h9]
            rfl)
        have hwl := wordsF_length k c n
        generalize hwq : wordsF k c n = w at *
        have tw : (w.map (V.int .u32)).take 16 = w.map (V.int .u32) := List.take_of_length_le (by simp [hwl])
        have hrl := rounds_length (v := w) 10
        rw [hwl] at hrl
        have hol : (outF (rounds w 10) w 16).length = 64 := outF_length (rounds w 10) w 16
        have hbf : blockF k c n = outF (rounds w 10) w 16 := by unfold blockF; rw [hwq]
        rw [hbf]
        simp (config := {maxSteps := 1000000, maxDischargeDepth := 9, implicitDefEqProofs := false}) [c10, mem_bytes_one, mem_ints_one, hA, hB]
        refine loop_then (K := fun r => finS _ (seqS _ _ _ (blockS _ r))) (L1 0 _ _ (Nat.zero_le _) ?_ (by omega)) ?_
        · subst hR; simp (config := {maxSteps := 1000000, maxDischargeDepth := 9, implicitDefEqProofs := false}) [kw, hR0]
        · rintro x e' H ⟨rfl, hn', h1, h3, h5, h6, h7, rfl⟩
          simp (config := {maxSteps := 1000000, maxDischargeDepth := 9, implicitDefEqProofs := false}) [hn', h1, h3, h5, h6, h7, kw_length, -over, over_set, map_set, -List.map_set]
          refine loop_then (K := fun r => finS _ (seqS _ _ _ (blockS _ r))) (L2 0 _ _ (Nat.zero_le _) ?_ (by omega)) ?_
          · simp (config := {maxSteps := 1000000, maxDischargeDepth := 9, implicitDefEqProofs := false}) [hn', h5, h6, h7, nw]
          · rintro x e' H ⟨rfl, hn', h6, h7, rfl⟩
            simp (config := {maxSteps := 1000000, maxDischargeDepth := 9, implicitDefEqProofs := false}) [hn', h6, h7, hwl, tw, mem_ints_one, -List.map_take]
            have hgr : GR h R (.cells (w.map (V.int .u32)) 43 1 true) w (((((h.new A).new B).new R).new (.cells (w.map (V.int .u32)) 43 1 true)).new (.cells (w.map (V.int .u32)) 43 1 true)) := by
              refine ⟨by repeat (first | exact Ext.refl _ | apply Ext.trans_new), (((((hf.new _).new _).new _).new _).new _), ?_, ?_, ?_, ?_⟩
              · simp (config := {maxSteps := 1000000, maxDischargeDepth := 9, implicitDefEqProofs := false})
              · simp (config := {maxSteps := 1000000, maxDischargeDepth := 9, implicitDefEqProofs := false})
              · simp (config := {maxSteps := 1000000, maxDischargeDepth := 9, implicitDefEqProofs := false})
              · simp (config := {maxSteps := 1000000, maxDischargeDepth := 9, implicitDefEqProofs := false})
            refine loop_thenE (K := fun r => finS _ (seqS _ _ _ (blockS _ r))) (BlockR_outer cf hQ h hf hrows R _ w hwl _ _ ?_ ?_ ?_ hgr) ?_
            · simp (config := {maxSteps := 1000000, maxDischargeDepth := 9, implicitDefEqProofs := false}) [hn']
            · simp (config := {maxSteps := 1000000, maxDischargeDepth := 9, implicitDefEqProofs := false}) [hn']
            · simp (config := {maxSteps := 1000000, maxDischargeDepth := 9, implicitDefEqProofs := false}) [hn']
            · rintro x H ⟨rfl, hg⟩
              have hgn := hg.next
              simp (config := {maxSteps := 1000000, maxDischargeDepth := 9, implicitDefEqProofs := false}) [hn', h6, h7, c10_l2_wr]
              have hgo : GO h R (.cells (w.map (V.int .u32)) 43 1 true) (.cells ((rounds w 10).map (V.int .u32)) 43 1 true) H.next (List.replicate 64 (.int .u8 0)) (H.new (.cells (List.replicate 64 (.int .u8 0)) 28 1 true)) := by
                refine ⟨hg.ext.trans_new _, hg.fresh.new _, hg.next, by simp, ?_, ?_, ?_, ?_⟩
                · rw [Heap.get_new, if_neg (by omega)]; exact hg.g2
                · rw [Heap.get_new, if_neg (by omega)]; exact hg.g3
                · rw [Heap.get_new, if_neg (by omega)]; exact hg.g4
                · rw [Heap.get_new, if_pos rfl]
              refine loop_thenE (K := fun r => finS _ (seqS _ _ _ (blockS _ r))) (BlockR_out cf hP h R (rounds w 10) w 43 43 H.next hrl hwl _ _ ?_ ?_ ?_ ?_ ?_ hgo) ?_
              · simp (config := {maxSteps := 1000000, maxDischargeDepth := 9, implicitDefEqProofs := false}) [hn']
              · simp (config := {maxSteps := 1000000, maxDischargeDepth := 9, implicitDefEqProofs := false}) [hn']
              · simp (config := {maxSteps := 1000000, maxDischargeDepth := 9, implicitDefEqProofs := false}) [hn', c10_l2_wr]
              · simp (config := {maxSteps := 1000000, maxDischargeDepth := 9, implicitDefEqProofs := false}) [hn', h7, c10_l2_wr]
              · simp (config := {maxSteps := 1000000, maxDischargeDepth := 9, implicitDefEqProofs := false}) [hn']
              · rintro x H2 ⟨rfl, ho⟩
                have gp := ho.gp
                have g2 := ho.g2
                have hEo := ho.ext
                generalize outF (rounds w 10) w 16 = ob at *
                have tb : (bytesOf ob).take 64 = bytesOf ob := List.take_of_length_le (by rw [bytesOf_length, hol]; omega)
                have hov : over R0 0 (bytesOf ob) = bytesOf ob := by
                  unfold over
                  rw [bytesOf_length, hol, List.drop_eq_nil_of_le (by omega)]; simp
                subst hR
                simp (config := {maxSteps := 1000000, maxDischargeDepth := 9, implicitDefEqProofs := false}) [hn', h6, h7, c10_l2_wr, c10_l4_wr, gp, g2, hol, hR0l, tb, mem_bytes_one, -List.map_take, -over, hov]
                exact Canon.keep hf hsc (hEo.trans_set (by omega) _) (flat_aggB _ _)
      · cases hs
    · cases hs
  · cases hs

/-- A row that grew from nothing: nil, or new. -/
def nilOr (h : Heap) (t : Nat) (s : List Nat) : V × Heap := if s = [] then (.nilslice, h) else (newV h s.length, h.new (.cells (bytesOf s) t 1 true))
theorem nilOr_canon {h H : Heap} {t : Nat} {v : V} {s : List Nat} (hf : Fresh h) (hsc : Scoped h) (hE : Ext h H) (ho : OwnB h H t v s) (hn : s = [] → v = .nilslice) : ∃ τ, Canon h.next H v (nilOr h t s).2 (nilOr h t s).1 τ := by
  unfold nilOr
  by_cases hs : s = []
  · obtain rfl := hn hs
    subst hs
    rw [if_pos rfl]
    exact Canon.keep hf hsc hE (by simp only [V.lt])
  · rw [if_neg hs]
    refine ho.canon hf hsc hE ?_
    rintro rfl
    rcases ho with ⟨_, h2, _⟩ | ⟨b, c, h1, _⟩
    · exact hs (List.length_eq_zero_iff.1 h2)
    · cases h1

/-- portholeref1.Xor. -/
def s_XorR : List V → Heap → Option (V × Heap)
  | [v, w], h => match slB h v, slB h w with
    | some a, some b => if (xorB a b).length ≤ lim then some (nilOr h 5 (xorB a b)) else none
    | _, _ => none
  | _, _ => none

theorem XorR_ok (cf : ACall) : Sum cf c27 s_XorR := by
  intro args h v h' hf hsc hlt hs
  unfold s_XorR at hs
  split at hs
  · rename_i va vb
    split at hs
    · rename_i a b ha hb
      split at hs
      · rename_i hl
        simp only [Option.some.injEq] at hs
        have hlva : V.lt h.next va := by simp only [ltL] at hlt; exact hlt.1
        have hlvb : V.lt h.next vb := by simp only [ltL] at hlt; exact hlt.2.1
        have hlim : lim = 140737488354304 := rfl
        have h1 := slB_isSl ha
        have h2 := slB_vlen ha
        have h3 := slB_isSl hb
        have h4 := slB_vlen hb
        obtain ⟨n, hn⟩ : ∃ n, n = (xorB a b).length := ⟨_, rfl⟩
        have hn2 := xorB_length a b
        rw [← hn] at hl hn2
        refine ⟨n + 1, ?_⟩
        have L := loop_count (cf := cf) (N := n + 1) (c := c27_l0) n
          (fun i e H => e.n = 32 ∧ e.at 0 = va ∧ e.at 1 = vb ∧ e.at 6 = .int .i64 (i : Int) ∧ OwnB h H 5 (e.at 5) ((xorB a b).take i) ∧ Ext h H ∧ Fresh H ∧ (i = 0 → e.at 5 = .nilslice))
          (fun x' e H => x' = .exit 0 ∧ e.n = 32 ∧ OwnB h H 5 (e.at 5) (xorB a b) ∧ Ext h H ∧ Fresh H ∧ (n = 0 → e.at 5 = .nilslice))
          (by
            rintro i e H hi ⟨hn', h0, h1', h6, ho, hE, hF, hnil⟩
            have hia : i < a.length := by omega
            have hib : i < b.length := by omega
            have hxa := slB_lt ha a[i] (by simp)
            have hxb := slB_lt hb b[i] (by simp)
            have hx8 := xor8 hxa hxb
            have haH := slB_ext hE hf ha
            have hbH := slB_ext hE hf hb
            have hx256 := xor_lt hxa hxb
            have htk : (xorB a b).take (i + 1) = (xorB a b).take i ++ [a[i] ^^^ b[i]] := by
              rw [List.take_succ_eq_append_getElem (by omega)]
              simp [xorB]
            have hlen : ((xorB a b).take i).length = i := by simp; omega
            generalize hx : a[i] ^^^ b[i] = x at *
            have hxs : slB (H.new (.cells [.int .u8 (x : Int)] 5 1 true)) (.slice H.next 0 1 (some 1)) = some [x] := by
              rw [slB_oneE rfl (.inr rfl) (by omega) (by omega)]; simp
            obtain ⟨v3, H3, a1, a2, a3, a4, a5, a6, a7⟩ := (show OwnB h (H.new (.cells [.int .u8 (x : Int)] 5 1 true)) 5 (e.at 5) ((xorB a b).take i) from Own.ext_new _ ho hF).app (hE.trans_new _) (hF.new _) (slB_added hxs) (by rw [hlen]; simp; omega)
            simp (config := {maxSteps := 1000000, maxDischargeDepth := 9, implicitDefEqProofs := false}) [c27_l0, hn', h0, h1', h6, h1, h2, h3, h4, hia, hib, haH, hbH, modK, hx8, hx, a1, wrap_i64 (x := (i : Int) + 1) (by omega) (by omega)]
            rw [htk]
            exact ⟨a2, a3, a4⟩)
          (by
            rintro e H ⟨hn', h0, h1', h6, ho, hE, hF, hnil⟩
            rw [List.take_of_length_le (by omega)] at ho
            by_cases hna : n < a.length
            · have hnb : ¬ n < b.length := by omega
              simp (config := {maxSteps := 1000000, maxDischargeDepth := 9, implicitDefEqProofs := false}) [c27_l0, hn', h0, h1', h6, h1, h2, h3, h4, hna, hnb]
              exact ⟨ho, hE, hF, hnil⟩
            · simp (config := {maxSteps := 1000000, maxDischargeDepth := 9, implicitDefEqProofs := false}) [c27_l0, hn', h0, h1', h6, h1, h2, h3, h4, hna]
              exact ⟨ho, hE, hF, hnil⟩)
        simp (config := {maxSteps := 1000000, maxDischargeDepth := 9, implicitDefEqProofs := false}) [c27]
        refine loop_then (K := fun r => finS _ (seqS _ _ _ (blockS _ r))) (L 0 _ _ (Nat.zero_le _) ?_ (Nat.lt_succ_self _)) ?_
        · simp (config := {maxSteps := 1000000, maxDischargeDepth := 9, implicitDefEqProofs := false})
          exact ⟨OwnB.start_nil _ _, Ext.refl _, hf⟩
        · rintro x e' H ⟨rfl, hn', ho, hE, hF, hnil⟩
          simp (config := {maxSteps := 1000000, maxDischargeDepth := 9, implicitDefEqProofs := false}) [hn']
          have := nilOr_canon hf hsc hE ho (fun h0 => hnil (by rw [hn, h0]; rfl))
          rw [hs] at this
          exact this
      · cases hs
    · cases hs
  · cases hs

theorem xorB_takeq (s b : List Nat) (q : Nat) (h : min b.length s.length ≤ q) : xorB (s.take q) b = xorB s b := by
  unfold xorB
  induction b generalizing s q with
  | nil => simp
  | cons y b ih => cases s with
    | nil => simp
    | cons x s => cases q with
      | zero => simp at h
      | succ q => simp only [List.take_succ_cons, List.zipWith_cons_cons]; rw [ih _ _ (by simp at h; omega)]
theorem applyR_len (blk : Int → List Nat) (hb : ∀ c, (blk c).length = 64) (c : Int) (s : List Nat) : (applyF blk c s).length = s.length := by
  have h1 := applied_all blk s c ((s.length + 63) / 64)
  rw [List.drop_eq_nil_of_le (by omega), applyF_nil, List.append_nil] at h1
  rw [← h1, applied_length blk hb c s _ (by omega)]
  omega
/-- portholeref4.Apply. -/
noncomputable def s_ApplyR : List V → Heap → Option (V × Heap)
  | [vk, .int .u32 c, vn, v], h => match aggB vk, aggB vn, slB h v with
    | some k, some n, some s => open Classical in if k.length = 32 ∧ n.length = 12 ∧ s.length ≤ lim ∧ hasRows h then some (nilOr h 5 (applyF (fun c => blockF k c n) c s)) else none
    | _, _, _ => none
  | _, _ => none
theorem ApplyR_ok (cf : ACall) (hBl : ∀ a h, cf 10 a h = s_BlockR a h) (hX : ∀ a h, cf 27 a h = s_XorR a h) : Sum cf c15 s_ApplyR := by
  intro args h v h' hf hsc hlt hs
  unfold s_ApplyR at hs
  split at hs
  · rename_i vk c vn v0
    split at hs
    · rename_i k n s hk hn hv
      split at hs
      · rename_i hl
        obtain ⟨hl1, hl2, hl3, hrows⟩ := hl
        simp only [Option.some.injEq] at hs
        obtain ⟨rfl, hkb⟩ := aggB_some hk
        obtain ⟨rfl, hnb⟩ := aggB_some hn
        have hlim : lim = 140737488354304 := rfl
        have hlv : V.lt h.next v0 := by simp only [ltL] at hlt; exact hlt.2.2.2.1
        have tk : (bytesOf k).take 32 = bytesOf k := List.take_of_length_le (by rw [bytesOf_length]; omega)
        have tn : (bytesOf n).take 12 = bytesOf n := List.take_of_length_le (by rw [bytesOf_length]; omega)
        generalize hblk : (fun c => blockF k c n) = blk at hs
        have hblk' : ∀ c, blockF k c n = blk c := fun c => by rw [← hblk]
        have hb64 : ∀ c, (blk c).length = 64 := fun c => by rw [← hblk']; exact blockF_length k c n
        have hblt : ∀ c, ∀ y ∈ blk c, y < 256 := fun c => by rw [← hblk']; exact blockF_lt k c n
        generalize hA : (h.new (.cells (bytesOf k) 22 1 true)).new (.cells (bytesOf n) 24 1 true) = h0
        have hEh : Ext h h0 := by rw [← hA]; exact (Ext.new h _).trans_new _
        have hF0 : Fresh h0 := by rw [← hA]; exact (hf.new _).new _
        have hn0 : h0.next = h.next + 2 := by rw [← hA]; rfl
        have gk : h0.get h.next = some (.cells (bytesOf k) 22 1 true) := by rw [← hA]; simp [Heap.get_new]
        have gn : h0.get (h.next + 1) = some (.cells (bytesOf n) 24 1 true) := by rw [← hA]; simp [Heap.get_new]
        obtain ⟨m, hm⟩ : ∃ m, m = (s.length + 63) / 64 := ⟨_, rfl⟩
        refine ⟨m + 1, ?_⟩
        have L := loop_count (cf := cf) (N := m + 1) (c := c15_l0) m
          (fun i e H => e.n = 35 ∧ e.at 4 = .ptr h.next 0 ∧ e.at 6 = .ptr (h.next + 1) 0 ∧ e.at 1 = .int .u32 (cnt c i) ∧ slB h (e.at 3) = some (s.drop (64 * i)) ∧ V.lt h.next (e.at 3) ∧ OwnB h0 H 5 (e.at 9) (appliedTo blk c s i) ∧ Ext h0 H ∧ Fresh H ∧ (i = 0 → e.at 9 = .nilslice))
          (fun x e H => x = .exit 0 ∧ e.n = 35 ∧ OwnB h0 H 5 (e.at 9) (applyF blk c s) ∧ Ext h0 H ∧ Fresh H ∧ (m = 0 → e.at 9 = .nilslice))
          (by
            rintro i e H hi ⟨hn', h4, h6, h1, h3, hl3', ho, hE, hF, hne⟩
            generalize hvi : e.at 3 = vi at *
            have hdl : (s.drop (64 * i)).length = s.length - 64 * i := by simp
            have hpos : 0 < s.length - 64 * i := by omega
            have gk' := hE.get hF0 gk
            have gn' := hE.get hF0 gn
            have hviH := slB_ext (hEh.trans hE) hf h3
            have hvl := slB_vlen h3
            have hsl := slB_isSl h3
            rw [hdl] at hvl
            have hltH : V.lt H.next vi := V.lt_mono (hEh.trans hE).1 _ hl3'
            have hltk := lt_add hltH
            have hcr : blockF k (cnt c i) n = blk (cnt c i) := hblk' _
            generalize hx : xorB (s.drop (64 * i)) (blk (cnt c i)) = x
            have hxl : x.length = min (s.length - 64 * i) 64 := by rw [← hx, xorB_len64 _ _ (hb64 _), hdl]
            have hxlt : ∀ y ∈ x, y < 256 := by rw [← hx]; exact xorB_lt (slB_lt h3) (hblt _)
            have hal := applied_length blk hb64 c s i (by omega)
            -- the heap at the append
            generalize hH2 : (H.new (.cells (bytesOf (blk (cnt c i))) 28 1 true)).new (.cells (bytesOf x) 5 1 true) = H2
            have hE2 : Ext h0 H2 := by rw [← hH2]; exact (hE.trans_new _).trans_new _
            have hF2 : Fresh H2 := by rw [← hH2]; exact (hF.new _).new _
            have ho2 : OwnB h0 H2 5 (e.at 9) (appliedTo blk c s i) := by rw [← hH2]; exact Own.ext_new _ (Own.ext_new _ ho hF) (hF.new _)
            have hxs : slB H2 (.slice (H.next + 1) 0 x.length none) = some x := by rw [← hH2]; simp (config := {maxSteps := 1000000, maxDischargeDepth := 9, implicitDefEqProofs := false}) [asB_bytesOf hxlt]
            obtain ⟨v3, H3, a1, a2, a3, a4, a5, a6, a7⟩ := ho2.app hE2 hF2 (slB_added hxs) (by omega)
            have hcut := slB_cut' (l := x.length) (r := s.length - 64 * i) h3 (by omega) (by omega)
            rw [List.take_of_length_le (by omega)] at hcut
            have hdrop : (s.drop (64 * i)).drop x.length = s.drop (64 * (i + 1)) := by
              rw [List.drop_drop, hxl]
              by_cases hq : s.length - 64 * i ≤ 64
              · rw [Nat.min_eq_left hq, List.drop_eq_nil_of_le (by omega), List.drop_eq_nil_of_le (by omega)]
              · rw [Nat.min_eq_right (by omega)]; congr 1
            have hviH3 := slB_ext ((hEh.trans a3)) hf h3
            have hr0 := hasRows_ext hrows hf (hEh.trans hE)
            obtain ⟨q, hq⟩ : ∃ q, q = min 64 (s.length - 64 * i) := ⟨_, rfl⟩
            have hmin : (if ((s.length - 64 * i : Nat) : Int) < 64 then ((s.length - 64 * i : Nat) : Int) else 64) = (q : Int) := by split <;> omega
            have hxt : xorB ((s.drop (64 * i)).take q) (blk (cnt c i)) = x := by
              rw [← hx, xorB_takeq _ _ _ (by rw [hb64, hdl]; omega)]
            have hxq : x.length = q := by rw [hxl]; omega
            have hxne : ∀ h, nilOr h 5 x = (newV h x.length, h.new (.cells (bytesOf x) 5 1 true)) := fun h => by unfold nilOr; rw [if_neg (by intro h0; rw [h0] at hxq; simp at hxq; omega)]
            have hqle : q ≤ s.length - 64 * i := by omega
            have hpos' : 64 * i < s.length := by omega
            have hcap : ∀ (h : Heap) (a : Nat), sliceV h 1 (.slice a 0 64 (some 64)) none none none = some (.slice a 0 64 (some 64)) := fun h a => by simp [sliceV, bounds, maxOf, highOf, lowOf, bound]
            have hx64 : x.length ≤ 64 := by omega
            have hxlim : x.length ≤ 140737488354304 := by omega
            have hxle : x.length ≤ s.length - 64 * i := by omega
            have hqlim : q ≤ 140737488354304 := by omega
            rw [← hH2, hxq] at a1
            simp (config := {maxSteps := 1000000, maxDischargeDepth := 9, implicitDefEqProofs := false}) [c15_l0, hn', h4, h6, h1, hvi, hvl, hsl, gk', gn', tk, tn, hBl, s_BlockR, hk, hn, hl1, hl2, hcr, hpos, hpos', mem_bytes_one, hcap, hb64, bytesOf_length, hX, s_XorR, hr0, hmin, hxt, hxne, hqle, hxq, slice_hi, hviH, hltH, hltk, asB_bytesOf (hblt _), hx, hxlim, hqlim, a1, slice_lo, hviH3, hxle]
            refine ⟨rfl, ?_, lt_cut hl3' _ _ _, ?_, a3, a4⟩
            · rw [← hxq, hcut.1, hdrop]
            · simp only [appliedTo]; rw [hx]; exact a2)
          (by
            rintro e H ⟨hn', h4, h6, h1, h3, hl3', ho, hE, hF, hne⟩
            have hnil : s.drop (64 * m) = [] := List.drop_eq_nil_of_le (by omega)
            have hall := applied_all blk s c m
            rw [hnil, applyF_nil, List.append_nil] at hall
            rw [hnil] at h3
            have hvl := slB_vlen h3
            have hsl := slB_isSl h3
            simp (config := {maxSteps := 1000000, maxDischargeDepth := 9, implicitDefEqProofs := false}) [c15_l0, hn', hvl, hsl]
            rw [← hall]
            exact ⟨ho, hE, hF, hne⟩)
        subst hA
        simp (config := {maxSteps := 1000000, maxDischargeDepth := 9, implicitDefEqProofs := false}) [c15, mem_bytes_one]
        refine loop_then (K := fun r => finS _ (seqS _ _ _ (blockS _ r))) (L 0 _ _ (Nat.zero_le _) ?_ (Nat.lt_succ_self _)) ?_
        · simp (config := {maxSteps := 1000000, maxDischargeDepth := 9, implicitDefEqProofs := false}) [hv, hlv, cnt, appliedTo]
          exact ⟨OwnB.start_nil _ _, Ext.refl _, hF0⟩
        · rintro x e' H ⟨rfl, hn', ho, hE, hF, hne⟩
          simp (config := {maxSteps := 1000000, maxDischargeDepth := 9, implicitDefEqProofs := false}) [hn']
          have := nilOr_canon hf hsc (hEh.trans hE) (ho.base (h := h) (by simp)) (fun h0 => hne (by
            rw [hm]
            have h3 := applyR_len blk hb64 c s
            rw [h0] at h3
            simp at h3
            rw [← h3]))
          rw [hs] at this
          exact this
      · cases hs
    · cases hs
  · cases hs

theorem xorB_take (s b : List Nat) : xorB s b = xorB (s.take b.length) b := by
  unfold xorB
  induction b generalizing s with
  | nil => simp
  | cons y b ih => cases s with
    | nil => simp
    | cons x s => simp only [List.length_cons, List.take_succ_cons, List.zipWith_cons_cons]; rw [ih]
theorem xorB_twice (s b : List Nat) : xorB (xorB s b) b = s.take b.length := by
  unfold xorB
  induction b generalizing s with
  | nil => simp
  | cons y b ih => cases s with
    | nil => simp
    | cons x s => simp only [List.length_cons, List.take_succ_cons, List.zipWith_cons_cons, Nat.xor_assoc, Nat.xor_self, Nat.xor_zero]; rw [ih]
theorem applyF_length (blk : Int → List Nat) (hb : ∀ c, (blk c).length = 64) : ∀ (f : Nat) (c : Int) (s : List Nat), s.length ≤ f → (applyF blk c s).length = s.length
  | 0, c, s, h => by
    obtain rfl := List.length_eq_zero_iff.1 (Nat.le_zero.1 h); rfl
  | f + 1, c, s, h => by
    by_cases hs : s = []
    · subst hs; rfl
    · have hp := List.length_pos_iff.2 hs
      rw [applyF_cons _ _ _ hs, List.length_append, applyF_length blk hb f _ _ (by simp; omega), xorB_length, hb, List.length_drop]
      omega
theorem applyF_lt (blk : Int → List Nat) (hb : ∀ c, ∀ y ∈ blk c, y < 256) : ∀ (f : Nat) (c : Int) (s : List Nat), s.length ≤ f → (∀ y ∈ s, y < 256) → ∀ y ∈ applyF blk c s, y < 256
  | 0, c, s, h, _ => by
    obtain rfl := List.length_eq_zero_iff.1 (Nat.le_zero.1 h)
    intro y hy; cases hy
  | f + 1, c, s, h, hl => by
    by_cases hs : s = []
    · subst hs; intro y hy; cases hy
    · have hp := List.length_pos_iff.2 hs
      rw [applyF_cons _ _ _ hs]
      intro y hy
      rcases List.mem_append.1 hy with hy | hy
      · exact xorB_lt hl (hb _) y hy
      · exact applyF_lt blk hb f _ _ (by simp; omega) (fun y hy => hl y (List.mem_of_mem_drop hy)) y hy
theorem applyF_twice (blk : Int → List Nat) (hb : ∀ c, (blk c).length = 64) : ∀ (f : Nat) (c : Int) (s : List Nat), s.length ≤ f → applyF blk c (applyF blk c s) = s
  | 0, c, s, h => by
    obtain rfl := List.length_eq_zero_iff.1 (Nat.le_zero.1 h); rfl
  | f + 1, c, s, h => by
    by_cases hs : s = []
    · subst hs; rfl
    · have hp := List.length_pos_iff.2 hs
      have hx := xorB_len64 s (blk c) (hb c)
      have hne : applyF blk c s ≠ [] := by
        intro h0
        have := applyF_length blk hb _ c s (Nat.le_refl _)
        rw [h0] at this; simp at this; omega
      rw [applyF_cons _ _ (applyF blk c s) hne]
      rw [applyF_cons _ _ s hs]
      have ih := applyF_twice blk hb f (add32 c 1) (s.drop 64) (by simp; omega)
      by_cases hl : s.length ≤ 64
      · have hd : s.drop 64 = [] := List.drop_eq_nil_of_le hl
        rw [hd, applyF_nil, List.append_nil, xorB_twice, hb, List.take_of_length_le hl, List.drop_eq_nil_of_le (by omega), applyF_nil, List.append_nil]
      · have h1 : (xorB s (blk c)).length = 64 := by omega
        rw [List.drop_left' h1, ih, xorB_take, hb, List.take_left' h1, xorB_twice, hb, List.take_append_drop]
theorem applied_take (blk : Int → List Nat) (hb : ∀ c, (blk c).length = 64) (c : Int) (s : List Nat) (k : Nat) : ∀ i, i ≤ k → appliedTo blk c (s.take (64 * k)) i = appliedTo blk c s i
  | 0, _ => rfl
  | i + 1, h => by
    simp only [appliedTo]
    rw [applied_take blk hb c s k i (by omega), xorB_take _ (blk _), xorB_take (s.drop _) (blk _), hb, List.drop_take, List.take_take, Nat.min_eq_left (by omega)]
theorem applyF_split (blk : Int → List Nat) (hb : ∀ c, (blk c).length = 64) (c : Int) (s : List Nat) (k : Nat) : applyF blk c (s.take (64 * k)) ++ applyF blk (cnt c k) (s.drop (64 * k)) = applyF blk c s := by
  have h1 := applied_all blk s c k
  have h2 := applied_all blk (s.take (64 * k)) c k
  rw [List.drop_take, Nat.sub_self, List.take_zero, applyF_nil, List.append_nil, applied_take blk hb c s k k (Nat.le_refl _)] at h2
  rw [← h2, h1]
theorem wrapw (x : Int) : wrapF .u32 x = x % 4294967296 := by rfl
theorem cnt_eq (c : Int) (h0 : 0 ≤ c) (h1 : c < 4294967296) : ∀ k : Nat, cnt c k = (c + (k : Int)) % 4294967296
  | 0 => by simp only [cnt]; omega
  | k + 1 => by
    simp only [cnt, add32, wrapw]
    rw [cnt_eq c h0 h1 k]
    omega
theorem stream_at (blk : Int → List Nat) (hb : ∀ c, (blk c).length = 64) (c : Int) (n i : Nat) (hi : i < n) : (applyF blk c (List.replicate n 0))[i]? = (blk (cnt c (i / 64)))[i % 64]? := by
  rw [← applied_all blk (List.replicate n 0) c (i / 64)]
  have hl := applied_length blk hb c (List.replicate n 0) (i / 64) (by simp; omega)
  simp only [List.length_replicate] at hl
  have hm : min n (64 * (i / 64)) = 64 * (i / 64) := by omega
  rw [hm] at hl
  rw [List.getElem?_append_right (by omega), hl]
  have hq : i - 64 * (i / 64) = i % 64 := by omega
  rw [hq, List.drop_replicate]
  have hne : List.replicate (n - 64 * (i / 64)) 0 ≠ ([] : List Nat) := by
    intro h0
    have := congrArg List.length h0
    simp at this; omega
  rw [applyF_cons _ _ _ hne, List.getElem?_append_left (by rw [xorB_length, hb]; simp; omega)]
  have hlt : i % 64 < (blk (cnt c (i / 64))).length := by rw [hb]; omega
  simp only [xorB, List.getElem?_zipWith]
  rw [List.getElem?_eq_getElem hlt, List.getElem?_replicate, if_pos (by omega)]
  simp

theorem law_ChachaApplies (cf : ACall) (hknown : ∀ a h, cf 8 a h = s_known a h) (hPick : ∀ a h, cf 12 a h = s_Pick a h) (hBytes : ∀ a h, cf 11 a h = s_Bytes a h) (hFew : ∀ a h, cf 13 a h = s_Few a h) (hApply : ∀ a h, cf 14 a h = s_Apply a h) (hApplyR : ∀ a h, cf 15 a h = s_ApplyR a h)
    (h : Heap) (k nn s : List Nat) (va : V) (c long : Int) (ende : Bool) (hf : Fresh h) (hrows : hasRows h) (hk : k.length = 32) (hkl : ∀ y ∈ k, y < 256) (hn : nn.length = 12) (hnl : ∀ y ∈ nn, y < 256) (hla : V.lt h.next va) (ha : slB h va = some s) (hs : s.length ≤ 140737488354304) :
    ∃ N, Runs (bodyA cf N c4 [.agg (bytesOf k), .int .u32 c, .agg (bytesOf nn), va, .int .i64 long, .bool ende] h) fun v _ => v = .bool true := by
  have tk : (bytesOf k).take 32 = bytesOf k := List.take_of_length_le (by rw [bytesOf_length]; omega)
  have tn : (bytesOf nn).take 12 = bytesOf nn := List.take_of_length_le (by rw [bytesOf_length]; omega)
  have ak := aggB_of hkl
  have an := aggB_of hnl
  have h0 := hasRows_pos hrows hf
  have hkm := lt_add hla
  generalize hblk : (fun c => blockF k c nn) = blk
  have hb64 : ∀ c, (blk c).length = 64 := fun c => by rw [← hblk]; exact blockF_length k c nn
  have hblt : ∀ c, ∀ y ∈ blk c, y < 256 := fun c => by rw [← hblk]; exact blockF_lt k c nn
  refine ⟨1, ?_⟩
  -- the count
  obtain ⟨c', hc'⟩ : ∃ c', c' = if ende then wrapF .u32 (4294967295 - c.tmod 4) else c := ⟨_, rfl⟩
  by_cases e0 : long.tmod 3 = 0
  · have e0' : (long.tmod 3 == 0) = true := by simp [e0]
    have hp0 := Int.emod_nonneg long (show (400 : Int) ≠ 0 by omega)
    have hp1 := Int.emod_lt_of_pos long (show (0 : Int) < 400 by omega)
    obtain ⟨n, hm⟩ : ∃ n : Nat, long % 400 = (n : Int) := ⟨(long % 400).toNat, by omega⟩
    have hl1 : n ≤ 140737488354304 := by omega
    have hl2 : (n : Int) ≤ 140737488354304 := by omega
    generalize hs2 : rawB n (long % 18446744073709551616) = s2
    have hsl : s2.length = n := by rw [← hs2, rawB_length]
    have hslt : ∀ y ∈ s2, y < 256 := by rw [← hs2]; exact rawB_lt _ _
    have hsa := asB_bytesOf hslt
    have hst : s2.take n = s2 := List.take_of_length_le (by omega)
    generalize hx : applyF blk c' s2 = x
    have hxl : x.length = n := by rw [← hx, applyR_len blk hb64, hsl]
    have hxlt : ∀ y ∈ x, y < 256 := by rw [← hx]; exact applyF_lt blk hblt _ _ _ (Nat.le_refl _) hslt
    have hxa := asB_bytesOf hxlt
    have hxn : ∀ h, nilOr h 5 x = if n = 0 then (.nilslice, h) else (newV h x.length, h.new (.cells (bytesOf x) 5 1 true)) := fun h => by
      unfold nilOr
      by_cases h0 : x = []
      · rw [if_pos h0, if_pos (by rw [← hxl, h0]; rfl)]
      · rw [if_neg h0, if_neg (by intro h1; exact h0 (List.length_eq_zero_iff.1 (by omega)))]
    by_cases hn0 : n = 0
    · have hx0 : x = [] := List.length_eq_zero_iff.1 (by omega)
      have hxn' : ∀ h, nilOr h 5 x = (.nilslice, h) := fun h => by rw [hxn, if_pos hn0]
      have hx1 : x.isEmpty = true := by rw [hx0]; rfl
      cases ende <;> simp only [if_true, Bool.false_eq_true, if_false] at hc' <;>
        simp (config := {maxSteps := 1000000, maxDischargeDepth := 9, implicitDefEqProofs := false}) [c4, e0', mem_bytes_one, hPick, s_Pick, hm, hBytes, s_Bytes, hl1, hl2, hs2, hFew, s_Few, hsl, hsa, hst, hApply, s_Apply, hApplyR, s_ApplyR, tk, tn, ak, an, hk, hn, hblk, ← hc', hx, hxl, hxa, hxn', hx1, hasRows_new, h0, hrows, hknown, s_known]
    · have hxn' : ∀ h, nilOr h 5 x = (newV h x.length, h.new (.cells (bytesOf x) 5 1 true)) := fun h => by rw [hxn, if_neg hn0]
      cases ende <;> simp only [if_true, Bool.false_eq_true, if_false] at hc' <;>
        simp (config := {maxSteps := 1000000, maxDischargeDepth := 9, implicitDefEqProofs := false}) [c4, e0', mem_bytes_one, hPick, s_Pick, hm, hBytes, s_Bytes, hl1, hl2, hs2, hFew, s_Few, hsl, hsa, hst, hApply, s_Apply, hApplyR, s_ApplyR, tk, tn, ak, an, hk, hn, hblk, ← hc', hx, hxl, hxa, hxn', hasRows_new, h0, hrows, hknown, s_known]
  · have e0' : (long.tmod 3 == 0) = false := by simp [e0]
    have hvl := slB_vlen ha
    have hsl := slB_isSl ha
    have hslt := slB_lt ha
    have hsa := asB_bytesOf hslt
    generalize hx : applyF blk c' s = x
    have hxl : x.length = s.length := by rw [← hx, applyR_len blk hb64]
    have hxlt : ∀ y ∈ x, y < 256 := by rw [← hx]; exact applyF_lt blk hblt _ _ _ (Nat.le_refl _) hslt
    have hxa := asB_bytesOf hxlt
    by_cases hx0 : x = []
    · have hxn' : ∀ h, nilOr h 5 x = (.nilslice, h) := fun h => by unfold nilOr; rw [if_pos hx0]
      have hx1 : x.isEmpty = true := by rw [hx0]; rfl
      cases ende <;> simp only [if_true, Bool.false_eq_true, if_false] at hc' <;>
        simp (config := {maxSteps := 1000000, maxDischargeDepth := 9, implicitDefEqProofs := false}) [c4, e0', mem_bytes_one, hvl, hsl, ha, hla, hkm, hs, hFew, s_Few, hsa, hApply, s_Apply, hApplyR, s_ApplyR, tk, tn, ak, an, hk, hn, hblk, ← hc', hx, hxl, hxa, hxn', hx1, hasRows_new, h0, hrows, hknown, s_known]
    · have hxn' : ∀ h, nilOr h 5 x = (newV h x.length, h.new (.cells (bytesOf x) 5 1 true)) := fun h => by unfold nilOr; rw [if_neg hx0]
      cases ende <;> simp only [if_true, Bool.false_eq_true, if_false] at hc' <;>
        simp (config := {maxSteps := 1000000, maxDischargeDepth := 9, implicitDefEqProofs := false}) [c4, e0', mem_bytes_one, hvl, hsl, ha, hla, hkm, hs, hFew, s_Few, hsa, hApply, s_Apply, hApplyR, s_ApplyR, tk, tn, ak, an, hk, hn, hblk, ← hc', hx, hxl, hxa, hxn', hasRows_new, h0, hrows, hknown, s_known]

end
end Go.Proofs.YtjdofdokdemnkaaDoor.ChachaApplies
