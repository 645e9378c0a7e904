/- What the functions that the law ChachaTurns reaches do, each told once, and the law by them. No condition. -/
import Derived.Test.YtjdofdokdemnkaaCodeChachaTurns
namespace Go.Proofs.Ytjdofdokdemnkaa.ChachaTurns
open Go Go.Proofs.YtjdofdokdemnkaaA
set_option linter.unusedSimpArgs false
set_option linter.unusedVariables false
set_option maxHeartbeats 4000000
set_option maxRecDepth 100000
attribute [local simp] body_eq exec_seq exec_region exec_skip exec_ret exec_exit exec_cond exec_block seqS_normal seqS_ret seqS_exit seqS_none seqS_bif regS_some regS_none regS_bif condS_bool condS_true
  condS_false blockS_normal blockS_ret blockS_exit blockS_none blockS_bif finS_normal finS_ret finS_bif steps_nil steps_cons steps_guard bindS_some bindS_none bindS_bif endS_some
  endS_skip endS_none endS_bif gstep_some gstep_true gstep_false wantV_true wantV_false wantV_undef wantV_gdv_true wantV_gdv_false gdv_true gdv_false aop_pick pickS_or pickS_and
  pickS_true pickS_false bif_bool put_some put_none Env.at_put Env.n_put at_init n_init Opd.ev ressA resA pack Heap.get_new Heap.get_set nextOf_new Heap.next_set nth fillV zeros over
  eqv read_eq read_zero readB_cells one_bool one_int one_str one_ptr one_nilptr one_slice one_nilslice cells_bool cells_int cells_str cells_ptr cells_nilptr cells_slice
  cells_nilslice cells_agg aop_move aop_box aop_boxv boxvS_agg boxvS_int boxvS_bool boxvS_str boxvS_slice boxvS_nilslice aop_build buildS_some aop_buildSlice buildSliceS_some
  aop_load loadS_ptr loadB_cells loadC_some aop_loadn loadnS_ptr aop_store storeS_ptr writeB_cells aop_bin binS_lss binS_leq binS_gtr binS_geq binS_eql binS_neq binS_add binS_sub
  binS_mul binS_quo binS_rem binS_and binS_or binS_xor binS_shl binS_shr binS_seql binS_sneq binS_sadd aop_eq eqS_some_f eqS_some_t aop_un unS_not unS_neg aop_conv convS_int
  aop_convStr convStrS_str aop_intStr intStrS_int aop_strBytes strBytesS_str aop_bytesStr bytesStrS_nil bytesStrS_slice aop_mkIface aop_mkFunc aop_makeSlice makeS_int aop_sliceStr
  sliceStrS_str sliceStrB_some someS_some aop_sliceSl aop_sliceArr sliceArrS_ptr aop_fieldAddr fieldAddrS_ptr aop_field fieldS_agg fieldS_aggn aop_indexAddrA indexAddrAS_ptr
  aop_indexAddrS indexAddrSS_slice aop_indexA indexAS_agg byteS_some aop_indexStr indexStrS_str aop_extract extractS_tuple aop_call callS_func aop_append aop_copy aop_lenS lenSS_str
  aop_lenL lenLS_nil lenLS_slice aop_minmax minmaxS_min minmaxS_max aop_convSame convSameS_slice convSameB_cells aop_lenC Heap.set_newE Heap.kill_newE Heap.set_new_ne
  Heap.set_gone_ne Heap.set_set Heap.get_gone Heap.next_gone loopE_n loopE_at Runs_some Ends_some Ends_none Runs_none VCL_nil VCL_cons VC_tuple VC_agg VC_bool VC_int VC_str VC_nil
  VC_nilptr VC_ptr VC_slice_nn VC_slice_ns VC_slice_s moved_at most_val lim_val next_add vlen_slice vlen_nil isSl_slice isSl_nil atP_slice newV sl_new slB_new slK_new sl_gone
  slB_gone slK_gone lt_slice lt_nil lt_ptr lt_cut sl_selfE slB_litE slK_litE asB asB_bytesOf asK asK_map slB_nil slK_nil slBs Fresh.new Fresh.gone indexE bytesStrE loadBE slice_lo
  slice_hi slice_lohi slB_cut vlen_cut isSl_cut one_cut cells_cut lenE aop_nilCheck nilCheckS_ptr aop_appendZ aop_eqArr IntKind.bits Int.fdiv_eq_ediv_of_nonneg bytesOf_length
  sameV_refl gval_true gval_false gval_some traceA_nil traceA_cons consT_some mapT_some stepV_none stepV_guard exec_any anyS_some chkOk_nil chkOk_cons sameS_some chk2_some chk1_eq
  envL_nil envL_cons heapL_nil heapL_cons heapO_some heapB_zero heapB_succ isWriter nth_bytesOf nth_ints str_hi str_lo wrap_i64 wrap_i32 wrap_u64 wrap_u32 wrap_u8 exec_float
  fltS_some traceG_nil traceG_cons consG_some viewS_some stepF_bif floatS_float isF isAlloc isReader actH_nil actH_cons1 act1_new act1_bare read_gap sl_gap slB_gap slK_gap get_gap
  next_gap Fresh.gap
attribute [local congr] gstep_congr gval_congr
noncomputable section
/-- portholehand.Pick: the remainder that is not below 0. -/
def s_Pick : List V → Heap → Option (V × Heap)
  | [.int .i64 n, .int .i64 m], h => if 0 < m ∧ m ≤ 4611686018427387904 then some (.int .i64 (n % m), h) else none
  | _, _ => none

theorem tmod_emod (n m : Int) (hm : 0 < m) : (if n.tmod m < 0 then n.tmod m + m else n.tmod m) = n % m := by
  rw [Int.tmod_eq_emod]
  have h1 := Int.emod_nonneg n (show m ≠ 0 by omega)
  have h2 := Int.emod_lt_of_pos n hm
  have h3 : (m.natAbs : Int) = m := by omega
  split <;> split <;> omega

theorem Pick_ok (cf : ACall) : Sum cf c14 s_Pick := by
  intro args h v h' hf hsc hlt hs
  unfold s_Pick at hs
  split at hs
  · rename_i n m
    split at hs
    · rename_i hm
      simp only [Option.some.injEq, Prod.mk.injEq] at hs
      obtain ⟨rfl, rfl⟩ := hs
      have hm0 : ¬ m = 0 := by omega
      have h1 := tmod_emod n m hm.1
      have h2 := Int.emod_nonneg n hm0
      have h3 := Int.emod_lt_of_pos n hm.1
      refine ⟨1, ?_⟩
      have hres : bodyA cf 1 c14 [.int .i64 n, .int .i64 m] h = some (.int .i64 (n % m), h) := by
        by_cases hq : n.tmod m < 0
        · have hd : decide (n.tmod m < 0) = true := by simpa using hq
          rw [if_pos hq] at h1
          simp (config := {maxSteps := 1000000, maxDischargeDepth := 9, implicitDefEqProofs := false}) [c14, hm0, hd]
          simp only [cond_true, h1, Option.some.injEq, Prod.mk.injEq, and_true, V.int.injEq, true_and]
          exact wrap_i64 (by omega) (by omega)
        · have hd : decide (n.tmod m < 0) = false := by simpa using hq
          rw [if_neg hq] at h1
          simp (config := {maxSteps := 1000000, maxDischargeDepth := 9, implicitDefEqProofs := false}) [c14, hm0, hd]
          simp only [cond_false, h1]
      exact ⟨_, _, hres, Canon.same hf hsc (fun _ _ hb => hb) (by simp only [V.lt])⟩
    · cases hs
  · cases hs

/-- The raw numbers, and the bytes of them. -/
def lcg (x : Int) : Int := (x * 6364136223846793005 + 1442695040888963407) % 18446744073709551616
def lcgs : Nat → Int → Int
  | 0, x => x
  | i + 1, x => lcg (lcgs i x)
def rawB (n : Nat) (x : Int) : List Nat := (List.range n).map fun i => ((lcgs (i + 1) x) / 1099511627776 % 256).toNat

theorem rawB_succ (n : Nat) (x : Int) : rawB (n + 1) x = rawB n x ++ [((lcgs (n + 1) x) / 1099511627776 % 256).toNat] := by simp [rawB, List.range_succ]
theorem rawB_length (n : Nat) (x : Int) : (rawB n x).length = n := by simp [rawB]
theorem rawB_lt (n : Nat) (x : Int) : ∀ y ∈ rawB n x, y < 256 := by
  intro y hy
  simp only [rawB, List.mem_map] at hy
  obtain ⟨i, _, rfl⟩ := hy
  omega
theorem lcg_wrap (x : Int) : wrapF .u64 (wrapF .u64 (x * 6364136223846793005) + 1442695040888963407) = lcg x := by
  simp only [wrap_u64_mod, lcg, Int.emod_add_emod]
theorem fdiv_nat (a : Int) (b : Nat) (hb : 0 < b) : a.fdiv (b : Int) = a / (b : Int) := Int.fdiv_eq_ediv_of_nonneg a (by omega)

/-- portholehand.Bytes. -/
def s_Bytes : List V → Heap → Option (V × Heap)
  | [.int .i64 n, .int .i64 seed], h => if 0 ≤ n ∧ n ≤ lim then some (newV h n.toNat, h.new (.cells (bytesOf (rawB n.toNat (seed % 18446744073709551616))) 5 1 true)) else none
  | _, _ => none

theorem Bytes_ok (cf : ACall) : Sum cf c13 s_Bytes := by
  intro args h v h' hf hsc hlt hs
  unfold s_Bytes at hs
  split at hs
  · rename_i n0 seed
    split at hs
    · rename_i hn0
      simp only [Option.some.injEq, Prod.mk.injEq] at hs
      obtain ⟨rfl, rfl⟩ := hs
      obtain ⟨n, rfl⟩ : ∃ n : Nat, n0 = (n : Int) := ⟨n0.toNat, by omega⟩
      have hlim : lim = 140737488354304 := rfl
      have hmost : most = 140737488355328 := rfl
      simp only [Int.toNat_natCast] at *
      generalize hx : seed % 18446744073709551616 = x0
      refine ⟨n + 1, ?_⟩
      have L := loop_count (cf := cf) (N := n + 1) (c := c13_l0) n
        (fun i e H => e.n = 27 ∧ e.at 0 = .int .i64 (n : Int) ∧ e.at 5 = .slice h.next 0 n (some n) ∧ e.at 6 = .int .u64 (lcgs i x0) ∧ e.at 7 = .int .i64 (i : Int) ∧ H = h.new (.cells (bytesOf (rawB i x0) ++ List.replicate (n - i) (.int .u8 0)) 5 1 true))
        (fun x e H => x = .exit 0 ∧ e.n = 27 ∧ e.at 5 = .slice h.next 0 n (some n) ∧ H = h.new (.cells (bytesOf (rawB n x0)) 5 1 true))
        (by
          rintro i e H hi ⟨hn, h0, h5, h6, h7, rfl⟩
          obtain ⟨k, hk⟩ : ∃ k, n - i = k + 1 := ⟨n - i - 1, by omega⟩
          have hk2 : n - (i + 1) = k := by omega
          have hov := over_fill (bytesOf (rawB i x0)) (.int .u8 0) (.int .u8 ((lcgs (i + 1) x0) / 1099511627776 % 256)) k
          rw [bytesOf_length, rawB_length] at hov
          have hb : bytesOf (rawB (i + 1) x0) = bytesOf (rawB i x0) ++ [.int .u8 ((lcgs (i + 1) x0) / 1099511627776 % 256)] := by
            rw [rawB_succ, bytesOf_append]
            simp only [bytesOf, List.map_cons, List.map_nil, Int.ofNat_eq_natCast]
            rw [Int.toNat_of_nonneg (by omega)]
          simp (config := {maxSteps := 1000000, maxDischargeDepth := 9, implicitDefEqProofs := false}) [c13_l0, hn, h0, h5, h6, h7, hi, hk, hk2, hb, hov, -over, rawB_length, wrap_u8_mod, lcg_wrap, lcgs, wrap_i64 (x := (i : Int) + 1) (by omega) (by omega)]
          rw [show lcg (lcgs i x0) = lcgs (i + 1) x0 from rfl, hov]
          simp)
        (by
          rintro e H ⟨hn, h0, h5, h6, h7, rfl⟩
          simp (config := {maxSteps := 1000000, maxDischargeDepth := 9, implicitDefEqProofs := false}) [c13_l0, hn, h0, h5, h6, h7])
      simp (config := {maxSteps := 1000000, maxDischargeDepth := 9, implicitDefEqProofs := false}) [c13, hx, show n ≤ 140737488355328 from by omega, show (n : Int) ≤ 140737488355328 from by omega, wrap_u64_mod]
      refine loop_then (K := fun r => finS _ (seqS _ _ _ (blockS _ r))) (L 0 _ _ (Nat.zero_le _) ?_ (Nat.lt_succ_self _)) ?_
      · simp (config := {maxSteps := 1000000, maxDischargeDepth := 9, implicitDefEqProofs := false}) [lcgs, rawB, bytesOf_nil]
      · rintro x e' H ⟨rfl, hn, h5, rfl⟩
        simp (config := {maxSteps := 1000000, maxDischargeDepth := 9, implicitDefEqProofs := false}) [hn, h5]
        exact Canon.made hf hsc rfl (by simp [bytesOf_length, rawB_length]) (flat_bytes _)
    · cases hs
  · cases hs

/-- Two texts, byte by byte. -/
def xorB (a b : List Nat) : List Nat := List.zipWith (fun x y => x ^^^ y) a b
theorem xorB_length (a b : List Nat) : (xorB a b).length = min a.length b.length := by simp [xorB]
theorem xor_lt {x y : Nat} (hx : x < 256) (hy : y < 256) : x ^^^ y < 256 := Nat.xor_lt_two_pow (n := 8) hx hy
theorem xorB_lt {a b : List Nat} (ha : ∀ y ∈ a, y < 256) (hb : ∀ y ∈ b, y < 256) : ∀ y ∈ xorB a b, y < 256 := by
  intro y hy
  obtain ⟨i, hi⟩ := List.mem_iff_getElem?.1 hy
  simp only [xorB, List.getElem?_zipWith] at hi
  split at hi
  · rename_i p q hp hq
    simp only [Option.some.injEq] at hi
    subst hi
    exact xor_lt (ha _ (List.mem_of_getElem? hp)) (hb _ (List.mem_of_getElem? hq))
  · cases hi
theorem xor8 {x y : Nat} (hx : x < 256) (hy : y < 256) : wrapF .u8 (((((x : Int) % 256).toNat ^^^ ((y : Int) % 256).toNat : Nat)) : Int) = ((x ^^^ y : Nat) : Int) := by
  have h1 : ((x : Int) % 256).toNat = x := by omega
  have h2 : ((y : Int) % 256).toNat = y := by omega
  rw [h1, h2]
  have := xor_lt hx hy
  exact wrap_u8 (by omega) (by omega)

/-- octet.Xor. -/
def s_Xor : List V → Heap → Option (V × Heap)
  | [v, w], h => match slB h v, slB h w with
    | some a, some b => if (xorB a b).length ≤ lim then some (newV h (xorB a b).length, h.new (.cells (bytesOf (xorB a b)) 5 1 true)) else none
    | _, _ => none
  | _, _ => none

theorem Xor_ok (cf : ACall) : Sum cf c26 s_Xor := by
  intro args h v h' hf hsc hlt hs
  unfold s_Xor at hs
  split at hs
  · rename_i va vb
    split at hs
    · rename_i a b ha hb
      split at hs
      · rename_i hl
        simp only [Option.some.injEq, Prod.mk.injEq] at hs
        obtain ⟨rfl, rfl⟩ := hs
        have hlva : V.lt h.next va := by simp only [ltL] at hlt; exact hlt.1
        have hlvb : V.lt h.next vb := by simp only [ltL] at hlt; exact hlt.2.1
        have hlim : lim = 140737488354304 := rfl
        have h1 := slB_isSl ha
        have h2 := slB_vlen ha
        have h3 := slB_isSl hb
        have h4 := slB_vlen hb
        obtain ⟨n, hn⟩ : ∃ n, n = (xorB a b).length := ⟨_, rfl⟩
        have hn2 := xorB_length a b
        rw [← hn] at hl hn2 ⊢
        refine ⟨n + 1, ?_⟩
        have hmin : (if (b.length : Int) < (a.length : Int) then (b.length : Int) else (a.length : Int)) = (n : Int) := by split <;> omega
        have hmin2 : (if b.length < a.length then (b.length : Int) else (a.length : Int)) = (n : Int) := by split <;> omega
        have L := loop_count (cf := cf) (N := n + 1) (c := c26_l0) n
          (fun i e H => e.n = 32 ∧ e.at 0 = va ∧ e.at 1 = vb ∧ e.at 5 = .slice h.next 0 n (some n) ∧ e.at 14 = .int .i64 (n : Int) ∧ e.at 15 = .int .i64 (i : Int) ∧ H = h.new (.cells (bytesOf ((xorB a b).take i) ++ List.replicate (n - i) (.int .u8 0)) 5 1 true))
          (fun x' e H => x' = .exit 0 ∧ e.n = 32 ∧ e.at 5 = .slice h.next 0 n (some n) ∧ H = h.new (.cells (bytesOf (xorB a b)) 5 1 true))
          (by
            rintro i e H hi ⟨hn', h0, h1', h5, h14, h15, rfl⟩
            obtain ⟨k, hk⟩ : ∃ k, n - i = k + 1 := ⟨n - i - 1, by omega⟩
            have hk2 : n - (i + 1) = k := by omega
            have hia : i < a.length := by omega
            have hib : i < b.length := by omega
            have hxa := slB_lt ha a[i] (by simp)
            have hxb := slB_lt hb b[i] (by simp)
            have hx8 := xor8 hxa hxb
            have hov := over_fill (bytesOf ((xorB a b).take i)) (.int .u8 0) (.int .u8 ((a[i] ^^^ b[i] : Nat) : Int)) k
            rw [bytesOf_length, List.length_take, Nat.min_eq_left (by omega)] at hov
            have hb' : bytesOf ((xorB a b).take (i + 1)) = bytesOf ((xorB a b).take i) ++ [.int .u8 ((a[i] ^^^ b[i] : Nat) : Int)] := by
              rw [List.take_succ_eq_append_getElem (by omega), bytesOf_append]
              simp [xorB, bytesOf]
            have hlen : ((xorB a b).take i).length = i := by simp; omega
            simp (config := {maxSteps := 1000000, maxDischargeDepth := 9, implicitDefEqProofs := false}) [c26_l0, hn', h0, h1', h5, h14, h15, hi, hk, hk2, h1, h2, h3, h4, hia, hib, ha, hb, hlva, hlvb, hb', modK, hx8, hov, -over, -List.length_take, hlen, wrap_i64 (x := (i : Int) + 1) (by omega) (by omega)]
            )
          (by
            rintro e H ⟨hn', h0, h1', h5, h14, h15, rfl⟩
            have : (xorB a b).take n = xorB a b := List.take_of_length_le (by omega)
            simp (config := {maxSteps := 1000000, maxDischargeDepth := 9, implicitDefEqProofs := false}) [c26_l0, hn', h0, h5, h14, h15, this])
        simp (config := {maxSteps := 1000000, maxDischargeDepth := 9, implicitDefEqProofs := false}) [c26, h1, h2, h3, h4, hmin, hmin2, show n ≤ 140737488355328 from by omega, show (n : Int) ≤ 140737488355328 from by omega]
        refine loop_then (K := fun r => finS _ (seqS _ _ _ (blockS _ r))) (L 0 _ _ (Nat.zero_le _) ?_ (Nat.lt_succ_self _)) ?_
        · simp (config := {maxSteps := 1000000, maxDischargeDepth := 9, implicitDefEqProofs := false}) [bytesOf_nil]
        · rintro x e' H ⟨rfl, hn', h5, rfl⟩
          simp (config := {maxSteps := 1000000, maxDischargeDepth := 9, implicitDefEqProofs := false}) [hn', h5]
          exact Canon.made hf hsc rfl (by simp [bytesOf_length, hn]) (flat_bytes _)
      · cases hs
    · cases hs
  · cases hs

/-- A word turned left. -/
def rotl (x : Int) (k : Nat) : Int := wrapF .u32 (((wrapF .u32 (x * 2 ^ k) % 4294967296).toNat ||| ((x / 2 ^ (32 - k)) % 4294967296).toNat : Nat) : Int)

/-- bits.RotateLeft32, by 16, 12, 8 or 7. -/
def s_Rot : List V → Heap → Option (V × Heap)
  | [.int .u32 x, .int .i64 k], h => if k = 16 ∨ k = 12 ∨ k = 8 ∨ k = 7 then some (.int .u32 (rotl x k.toNat), h) else none
  | _, _ => none
theorem Rot_ok (cf : ACall) : Sum cf c31 s_Rot := by
  intro args h v h' hf hsc hlt hs
  unfold s_Rot at hs
  split at hs
  · rename_i x k
    split at hs
    · rename_i hk
      simp only [Option.some.injEq, Prod.mk.injEq] at hs
      obtain ⟨rfl, rfl⟩ := hs
      refine ⟨1, ?_⟩
      rcases hk with rfl | rfl | rfl | rfl <;>
        (simp (config := {maxSteps := 1000000, maxDischargeDepth := 9, implicitDefEqProofs := false}) [c31, modK, rotl]
         exact Canon.keep hf hsc (Ext.refl _) (by simp only [V.lt]))
    · cases hs
  · cases hs

def add32 (a b : Int) : Int := wrapF .u32 (a + b)
def xor32 (a b : Int) : Int := wrapF .u32 (((a % 4294967296).toNat ^^^ (b % 4294967296).toNat : Nat) : Int)
/-- A quarter round. -/
def quarterF (a b c d : Int) : Int × Int × Int × Int :=
  let a1 := add32 a b
  let d1 := rotl (xor32 d a1) 16
  let c1 := add32 c d1
  let b1 := rotl (xor32 b c1) 12
  let a2 := add32 a1 b1
  let d2 := rotl (xor32 d1 a2) 8
  let c2 := add32 c1 d2
  let b2 := rotl (xor32 b1 c2) 7
  (a2, b2, c2, d2)

/-- chacha.Quarter. -/
def s_Quarter : List V → Heap → Option (V × Heap)
  | [.int .u32 a, .int .u32 b, .int .u32 c, .int .u32 d], h => some (.tuple [.int .u32 (quarterF a b c d).1, .int .u32 (quarterF a b c d).2.1, .int .u32 (quarterF a b c d).2.2.1, .int .u32 (quarterF a b c d).2.2.2], h)
  | _, _ => none
theorem Quarter_ok (cf : ACall) (hRot : ∀ a h, cf 31 a h = s_Rot a h) : Sum cf c24 s_Quarter := by
  intro args h v h' hf hsc hlt hs
  unfold s_Quarter at hs
  split at hs
  · rename_i a b c d
    simp only [Option.some.injEq, Prod.mk.injEq] at hs
    obtain ⟨rfl, rfl⟩ := hs
    refine ⟨1, ?_⟩
    have e1 : ∀ x y, wrapF .u32 (x + y) = add32 x y := fun _ _ => rfl
    have e2 : ∀ x y : Int, wrapF .u32 (((x % 4294967296).toNat ^^^ (y % 4294967296).toNat : Nat) : Int) = xor32 x y := fun _ _ => rfl
    simp (config := {maxSteps := 1000000, maxDischargeDepth := 9, implicitDefEqProofs := false}) [c24, hRot, s_Rot, modK, e1, e2, quarterF]
    exact Canon.keep hf hsc (Ext.refl _) (by simp only [V.lt, ltL, and_self])
  · cases hs

/-- A quarter round of four of a block's words. -/
def qr (v : List Int) (a b c d : Nat) : List Int :=
  let q := quarterF (v.getD a 0) (v.getD b 0) (v.getD c 0) (v.getD d 0)
  (((v.set a q.1).set b q.2.1).set c q.2.2.1).set d q.2.2.2
theorem qr_length (v : List Int) (a b c d : Nat) : (qr v a b c d).length = v.length := by simp [qr]

/-- The function within chacha.Block. -/
def s_Blk1 : List V → Heap → Option (V × Heap)
  | [.int .i64 a, .int .i64 b, .int .i64 c, .int .i64 d, .ptr p 0], h => match h.get p with
    | some (.cells cs t z true) => match asK .u32 cs with
      | some v => if v.length = 16 ∧ (0 ≤ a ∧ a < 16) ∧ (0 ≤ b ∧ b < 16) ∧ (0 ≤ c ∧ c < 16) ∧ (0 ≤ d ∧ d < 16) then some (.undef, h.set p (some (.cells ((qr v a.toNat b.toNat c.toNat d.toNat).map (V.int .u32)) t z true))) else none
      | none => none
    | _ => none
  | _, _ => none

theorem Blk1_ok (cf : ACall) (hQuarter : ∀ a h, cf 24 a h = s_Quarter a h) : Sum cf c23 s_Blk1 := by
  intro args h v h' hf hsc hlt hs
  unfold s_Blk1 at hs
  split at hs
  · rename_i a b c d p
    split at hs
    · rename_i cs t z hg
      split at hs
      · rename_i w hw
        split at hs
        · rename_i hc
          obtain ⟨hlen, ha, hb, hc, hd⟩ := hc
          simp only [Option.some.injEq, Prod.mk.injEq] at hs
          obtain ⟨rfl, rfl⟩ := hs
          have hcs := asK_some.1 hw
          subst hcs
          obtain ⟨a, rfl⟩ : ∃ n : Nat, a = (n : Int) := ⟨a.toNat, by omega⟩
          obtain ⟨b, rfl⟩ : ∃ n : Nat, b = (n : Int) := ⟨b.toNat, by omega⟩
          obtain ⟨c, rfl⟩ : ∃ n : Nat, c = (n : Int) := ⟨c.toNat, by omega⟩
          obtain ⟨d, rfl⟩ : ∃ n : Nat, d = (n : Int) := ⟨d.toNat, by omega⟩
          have a1 : a < 16 := by omega
          have b1 : b < 16 := by omega
          have c1 : c < 16 := by omega
          have d1 : d < 16 := by omega
          have a2 : (a : Int) < 16 := by omega
          have b2 : (b : Int) < 16 := by omega
          have c2 : (c : Int) < 16 := by omega
          have d2 : (d : Int) < 16 := by omega
          have ga : w[a]'(by omega) = w.getD a 0 := by rw [List.getD_eq_getElem?_getD, List.getElem?_eq_getElem (by omega)]; rfl
          have gb : w[b]'(by omega) = w.getD b 0 := by rw [List.getD_eq_getElem?_getD, List.getElem?_eq_getElem (by omega)]; rfl
          have gc : w[c]'(by omega) = w.getD c 0 := by rw [List.getD_eq_getElem?_getD, List.getElem?_eq_getElem (by omega)]; rfl
          have gd : w[d]'(by omega) = w.getD d 0 := by rw [List.getD_eq_getElem?_getD, List.getElem?_eq_getElem (by omega)]; rfl
          have hres : bodyA cf 1 c23 [.int .i64 a, .int .i64 b, .int .i64 c, .int .i64 d, .ptr p 0] h = some (.undef, h.set p (some (.cells ((qr w a b c d).map (V.int .u32)) t z true))) := by
            simp (config := {maxSteps := 1000000, maxDischargeDepth := 9, implicitDefEqProofs := false}) [c23, hg, hQuarter, s_Quarter, a1, b1, c1, d1, a2, b2, c2, d2, hlen, -over, over_set, map_set, Nat.succ_le_of_lt a1, Nat.succ_le_of_lt b1, Nat.succ_le_of_lt c1, Nat.succ_le_of_lt d1, -List.map_set, qr]
            rfl
          exact ⟨1, _, _, hres, Canon.self rfl (hf.setS hg) (hsc.setFlat (flat_ints _ _)) (by simp only [V.undef, V.lt, ltL])⟩
        · cases hs
      · cases hs
    · cases hs
  · cases hs

/-- A number of the first bytes, as it is gathered. -/
def orU (a b : Int) : Int := wrapF .u64 (((a % 18446744073709551616).toNat ||| (b % 18446744073709551616).toNat : Nat) : Int)
def getU (s : List Nat) : Nat → Int
  | 0 => 0
  | i + 1 => orU (getU s i) (wrapF .u64 ((s.getD i 0 : Int) * 2 ^ (8 * i)))

/-- octet.get. -/
def s_get : List V → Heap → Option (V × Heap)
  | [v, .int .i64 n], h => match slB h v with
    | some s => if 0 ≤ n ∧ n ≤ 8 then some (if (s.length : Int) < n then .tuple [.int .u64 0, .bool false] else .tuple [.int .u64 (getU s n.toNat), .bool true], h) else none
    | none => none
  | _, _ => none

theorem get_ok (cf : ACall) : Sum cf c35 s_get := by
  intro args h v h' hf hsc hlt hs
  unfold s_get at hs
  split at hs
  · rename_i vb n0
    split at hs
    · rename_i s hb
      split at hs
      · rename_i hn0
        simp only [Option.some.injEq, Prod.mk.injEq] at hs
        obtain ⟨rfl, rfl⟩ := hs
        obtain ⟨n, rfl⟩ : ∃ n : Nat, n0 = (n : Int) := ⟨n0.toNat, by omega⟩
        have hn8 : n ≤ 8 := by omega
        have hsl := slB_isSl hb
        have hvl := slB_vlen hb
        simp only [Int.toNat_natCast] at *
        refine ⟨n + 1, ?_⟩
        by_cases hc : s.length < n
        · have hc' : ((s.length : Int) < (n : Int)) := by omega
          rw [if_pos hc']
          simp (config := {maxSteps := 1000000, maxDischargeDepth := 9, implicitDefEqProofs := false}) [c35, hsl, hvl, hc]
          exact Canon.keep hf hsc (Ext.refl _) (by simp [V.lt, ltL])
        · have hc' : ¬ ((s.length : Int) < (n : Int)) := by omega
          rw [if_neg hc']
          have L := loop_count (cf := cf) (N := n + 1) (c := c35_l0) n
            (fun i e H => e.n = 28 ∧ e.at 0 = vb ∧ e.at 6 = .int .u64 (getU s i) ∧ e.at 12 = .int .i64 (n : Int) ∧ e.at 13 = .int .i64 (i : Int) ∧ H = h)
            (fun x' e H => x' = .exit 0 ∧ e.n = 28 ∧ e.at 6 = .int .u64 (getU s n) ∧ H = h)
            (by
              rintro i e H hi ⟨hn, h0, h6, h12, h13, rfl⟩
              have hsh : (8 * (i : Int)).toNat = 8 * i := by omega
              have hmin : min (8 * i) 64 = 8 * i := by omega
              have hw : wrapF .i64 (8 * (i : Int)) = 8 * (i : Int) := wrap_i64 (by omega) (by omega)
              have hby := slB_lt hb (s.getD i 0) (by rw [List.getD_eq_getElem?_getD, List.getElem?_eq_getElem (by omega)]; simp)
              have hwb : wrapF .u64 ((s.getD i 0 : Nat) : Int) = ((s.getD i 0 : Nat) : Int) := wrap_u64 (by omega) (by omega)
              rw [List.getD_eq_getElem?_getD, List.getElem?_eq_getElem (by omega), Option.getD_some] at hwb
              have hgu : getU s (i + 1) = orU (getU s i) (wrapF .u64 ((s[i] : Int) * 2 ^ (8 * i))) := by
                simp only [getU]; rw [List.getD_eq_getElem?_getD, List.getElem?_eq_getElem (by omega), Option.getD_some]
              simp (config := {maxSteps := 1000000, maxDischargeDepth := 9, implicitDefEqProofs := false}) [c35_l0, hn, h0, h6, h12, h13, hi, hsl, hvl, show i < s.length from by omega, hb, hw, hsh, hmin, hwb, hgu, orU, modK, show ¬ (8 * (i : Int) < 0) from by omega, wrap_i64 (x := (i : Int) + 1) (by omega) (by omega)])
            (by
              rintro e H ⟨hn, h0, h6, h12, h13, rfl⟩
              simp (config := {maxSteps := 1000000, maxDischargeDepth := 9, implicitDefEqProofs := false}) [c35_l0, hn, h0, h6, h12, h13])
          simp (config := {maxSteps := 1000000, maxDischargeDepth := 9, implicitDefEqProofs := false}) [c35, hsl, hvl, hc]
          refine loop_then (K := fun r => finS _ (seqS _ _ _ (blockS _ r))) (L 0 _ _ (Nat.zero_le _) ?_ (Nat.lt_succ_self _)) ?_
          · simp (config := {maxSteps := 1000000, maxDischargeDepth := 9, implicitDefEqProofs := false}) [getU]
          · rintro x e' H ⟨rfl, hn, h6, rfl⟩
            simp (config := {maxSteps := 1000000, maxDischargeDepth := 9, implicitDefEqProofs := false}) [hn, h6]
            exact Canon.keep hf hsc (Ext.refl _) (by simp [V.lt, ltL])
      · cases hs
    · cases hs
  · cases hs

/-- octet.Get32. -/
def s_Get32 : List V → Heap → Option (V × Heap)
  | [v], h => match slB h v with
    | some s => some (if (s.length : Int) < 4 then .tuple [.int .u32 0, .bool false] else .tuple [.int .u32 (wrapF .u32 (getU s 4)), .bool true], h)
    | none => none
  | _, _ => none

theorem Get32_ok (cf : ACall) (hget : ∀ a h, cf 35 a h = s_get a h) : Sum cf c30 s_Get32 := by
  intro args h v h' hf hsc hlt hs
  unfold s_Get32 at hs
  split at hs
  · rename_i vb
    split at hs
    · rename_i s hb
      simp only [Option.some.injEq, Prod.mk.injEq] at hs
      obtain ⟨rfl, rfl⟩ := hs
      refine ⟨1, ?_⟩
      by_cases hc : (s.length : Int) < 4
      · simp (config := {maxSteps := 1000000, maxDischargeDepth := 9, implicitDefEqProofs := false}) [c30, hget, s_get, hb, hc]
        exact Canon.keep hf hsc (Ext.refl _) (by simp [V.lt, ltL])
      · simp (config := {maxSteps := 1000000, maxDischargeDepth := 9, implicitDefEqProofs := false}) [c30, hget, s_get, hb, hc]
        exact Canon.keep hf hsc (Ext.refl _) (by simp [V.lt, ltL])
    · cases hs
  · cases hs

/-- The lowest bytes of a number. -/
def putB (v : Int) (n : Nat) : List Nat := (List.range n).map fun i => (v / 2 ^ (8 * i) % 256).toNat
theorem putB_length (v : Int) (n : Nat) : (putB v n).length = n := by simp [putB]
theorem putB_lt (v : Int) (n : Nat) : ∀ y ∈ putB v n, y < 256 := by
  intro y hy
  simp only [putB, List.mem_map] at hy
  obtain ⟨i, _, rfl⟩ := hy
  have := Int.emod_nonneg (v / 2 ^ (8 * i)) (show (256 : Int) ≠ 0 by omega)
  have := Int.emod_lt_of_pos (v / 2 ^ (8 * i)) (show (0 : Int) < 256 by omega)
  omega
theorem putB_succ (v : Int) (n : Nat) : putB v (n + 1) = putB v n ++ [(v / 2 ^ (8 * n) % 256).toNat] := by simp [putB, List.range_succ]

/-- octet.put. -/
def s_put : List V → Heap → Option (V × Heap)
  | [.int .u64 v, .int .i64 n], h => if 0 ≤ n ∧ n ≤ 8 then some (newV h n.toNat, h.new (.cells (bytesOf (putB v n.toNat)) 5 1 true)) else none
  | _, _ => none

theorem put_ok (cf : ACall) : Sum cf c32 s_put := by
  intro args h v h' hf hsc hlt hs
  unfold s_put at hs
  split at hs
  · rename_i x n0
    split at hs
    · rename_i hn0
      simp only [Option.some.injEq, Prod.mk.injEq] at hs
      obtain ⟨rfl, rfl⟩ := hs
      obtain ⟨n, rfl⟩ : ∃ n : Nat, n0 = (n : Int) := ⟨n0.toNat, by omega⟩
      have hn8 : n ≤ 8 := by omega
      simp only [Int.toNat_natCast] at *
      refine ⟨n + 1, ?_⟩
      have L := loop_count (cf := cf) (N := n + 1) (c := c32_l0) n
        (fun i e H => e.n = 24 ∧ e.at 0 = .int .u64 x ∧ e.at 5 = .slice h.next 0 n (some n) ∧ e.at 10 = .int .i64 (n : Int) ∧ e.at 11 = .int .i64 (i : Int) ∧ H = h.new (.cells (bytesOf (putB x i) ++ List.replicate (n - i) (.int .u8 0)) 5 1 true))
        (fun x' e H => x' = .exit 0 ∧ e.n = 24 ∧ e.at 5 = .slice h.next 0 n (some n) ∧ H = h.new (.cells (bytesOf (putB x n)) 5 1 true))
        (by
          rintro i e H hi ⟨hn, h0, h5, h10, h11, rfl⟩
          obtain ⟨k, hk⟩ : ∃ k, n - i = k + 1 := ⟨n - i - 1, by omega⟩
          have hk2 : n - (i + 1) = k := by omega
          have hov := over_fill (bytesOf (putB x i)) (.int .u8 0) (.int .u8 (x / 2 ^ (8 * i) % 256)) k
          rw [bytesOf_length, putB_length] at hov
          have hm0 := Int.emod_nonneg (x / 2 ^ (8 * i)) (show (256 : Int) ≠ 0 by omega)
          have hb : bytesOf (putB x (i + 1)) = bytesOf (putB x i) ++ [.int .u8 (x / 2 ^ (8 * i) % 256)] := by
            rw [putB_succ, bytesOf_append]
            simp only [bytesOf, List.map_cons, List.map_nil, Int.ofNat_eq_natCast]
            rw [Int.toNat_of_nonneg hm0]
          have hsh : (8 * (i : Int)).toNat = 8 * i := by omega
          have hmin : min (8 * i) 64 = 8 * i := by omega
          have hw : wrapF .i64 (8 * (i : Int)) = 8 * (i : Int) := wrap_i64 (by omega) (by omega)
          have hfd : ∀ y : Int, y.fdiv (2 ^ (8 * i)) = y / 2 ^ (8 * i) := fun y => Int.fdiv_eq_ediv_of_nonneg _ (Int.le_of_lt (Int.pow_pos (by decide)))
          simp (config := {maxSteps := 1000000, maxDischargeDepth := 9, implicitDefEqProofs := false}) [c32_l0, hn, h0, h5, h10, h11, hi, hk, hk2, hb, hov, -over, hw, hsh, hmin, hfd, putB_length, wrap_u8_mod, show ¬ (8 * (i : Int) < 0) from by omega, wrap_i64 (x := (i : Int) + 1) (by omega) (by omega)]
          )
        (by
          rintro e H ⟨hn, h0, h5, h10, h11, rfl⟩
          simp (config := {maxSteps := 1000000, maxDischargeDepth := 9, implicitDefEqProofs := false}) [c32_l0, hn, h0, h5, h10, h11])
      simp (config := {maxSteps := 1000000, maxDischargeDepth := 9, implicitDefEqProofs := false}) [c32, show n ≤ 140737488355328 from by omega, show (n : Int) ≤ 140737488355328 from by omega]
      refine loop_then (K := fun r => finS _ (seqS _ _ _ (blockS _ r))) (L 0 _ _ (Nat.zero_le _) ?_ (Nat.lt_succ_self _)) ?_
      · simp (config := {maxSteps := 1000000, maxDischargeDepth := 9, implicitDefEqProofs := false}) [putB, bytesOf_nil]
      · rintro x e' H ⟨rfl, hn, h5, rfl⟩
        simp (config := {maxSteps := 1000000, maxDischargeDepth := 9, implicitDefEqProofs := false}) [hn, h5]
        exact Canon.made hf hsc rfl (by simp [bytesOf_length, putB_length]) (flat_bytes _)
    · cases hs
  · cases hs

/-- octet.Put32. -/
def s_Put32 : List V → Heap → Option (V × Heap)
  | [.int .u32 v], h => if 0 ≤ v ∧ v < 4294967296 then some (newV h 4, h.new (.cells (bytesOf (putB v 4)) 5 1 true)) else none
  | _, _ => none

theorem Put32_ok (cf : ACall) (hput : ∀ a h, cf 32 a h = s_put a h) : Sum cf c25 s_Put32 := by
  intro args h v h' hf hsc hlt hs
  unfold s_Put32 at hs
  split at hs
  · rename_i x
    split at hs
    · rename_i hx
      simp only [Option.some.injEq, Prod.mk.injEq] at hs
      obtain ⟨rfl, rfl⟩ := hs
      refine ⟨1, ?_⟩
      simp (config := {maxSteps := 1000000, maxDischargeDepth := 9, implicitDefEqProofs := false}) [c25, hput, s_put, wrap_u64 (x := x) (by omega) (by omega)]
      exact Canon.tail (H := h) hf hsc (Ext.refl h) (flat_bytes _) (by simp)
    · cases hs
  · cases hs

/-- The key's words, one by one, and the nonce's. -/
def kw (k : List Nat) : Nat → List Int
  | 0 => [1634760805, 857760878, 2036477234, 1797285236, 0, 0, 0, 0, 0, 0, 0, 0, 0, 0, 0, 0]
  | i + 1 => (kw k i).set (4 + i) (wrapF .u32 (getU (k.drop (4 * i)) 4))
def nw (n : List Nat) (w : List Int) : Nat → List Int
  | 0 => w
  | i + 1 => (nw n w i).set (13 + i) (wrapF .u32 (getU (n.drop (4 * i)) 4))
def wordsF (k : List Nat) (c : Int) (n : List Nat) : List Int := nw n ((kw k 8).set 12 c) 3
theorem kw_length (k : List Nat) : ∀ i, (kw k i).length = 16
  | 0 => rfl
  | i + 1 => by simp [kw, kw_length k i]
theorem nw_length (n : List Nat) {w : List Int} (hw : w.length = 16) : ∀ i, (nw n w i).length = 16
  | 0 => hw
  | i + 1 => by simp [nw, nw_length n hw i]
theorem wordsF_length (k : List Nat) (c : Int) (n : List Nat) : (wordsF k c n).length = 16 := nw_length n (by simp [kw_length]) 3

/-- chacha.words. -/
def s_words : List V → Heap → Option (V × Heap)
  | [vk, .int .u32 c, vn], h => match aggB vk, aggB vn with
    | some k, some n => if k.length = 32 ∧ n.length = 12 then some (.agg ((wordsF k c n).map (V.int .u32)), h) else none
    | _, _ => none
  | _, _ => none

theorem words_ok (cf : ACall) (hGet : ∀ a h, cf 30 a h = s_Get32 a h) : Sum cf c22 s_words := by
  intro args h v h' hf hsc hlt hs
  unfold s_words at hs
  split at hs
  · rename_i vk c vn
    split at hs
    · rename_i k n hk hn
      split at hs
      · rename_i hl
        obtain ⟨hl1, hl2⟩ := hl
        simp only [Option.some.injEq, Prod.mk.injEq] at hs
        obtain ⟨rfl, rfl⟩ := hs
        obtain ⟨rfl, hkb⟩ := aggB_some hk
        obtain ⟨rfl, hnb⟩ := aggB_some hn
        generalize hA : Blk.cells (bytesOf k) 22 1 true = A
        generalize hB : Blk.cells (bytesOf n) 26 1 true = B
        generalize hR : Blk.cells (List.replicate 16 (V.int .u32 0)) 46 1 true = R
        refine ⟨12, ?_⟩
        have hsk : slB (h.new A) (.slice h.next 0 32 (some 32)) = some k := by
          subst hA; simp (config := {maxSteps := 1000000, maxDischargeDepth := 9, implicitDefEqProofs := false}) [hl1, asB_bytesOf hkb]
        have hsn : slB ((h.new A).new B) (.slice (h.next + 1) 0 12 (some 12)) = some n := by
          subst hB; simp (config := {maxSteps := 1000000, maxDischargeDepth := 9, implicitDefEqProofs := false}) [hl2, asB_bytesOf hnb]
        have L1 := loop_count (cf := cf) (N := 12) (c := c22_l0) 8
          (fun i e H => e.n = 42 ∧ e.at 1 = .int .u32 c ∧ e.at 3 = .ptr h.next 0 ∧ e.at 5 = .ptr (h.next + 1) 0 ∧ e.at 6 = .ptr (h.next + 2) 0 ∧ e.at 7 = .ptr (h.next + 3) 0 ∧ e.at 11 = .int .i64 (i : Int) ∧ H = (((h.new A).new B).new R).new (.cells ((kw k i).map (V.int .u32)) 46 1 true))
          (fun x e H => x = .exit 0 ∧ e.n = 42 ∧ e.at 1 = .int .u32 c ∧ e.at 3 = .ptr h.next 0 ∧ e.at 5 = .ptr (h.next + 1) 0 ∧ e.at 6 = .ptr (h.next + 2) 0 ∧ e.at 7 = .ptr (h.next + 3) 0 ∧ H = (((h.new A).new B).new R).new (.cells ((kw k 8).map (V.int .u32)) 46 1 true))
          (by
            rintro i e H hi ⟨hn', h1, h3, h5, h6, h7, h11, rfl⟩
            have w1 : wrapF .i64 (4 + (i : Int)) = 4 + (i : Int) := wrap_i64 (by omega) (by omega)
            have w2 : wrapF .i64 (4 * (i : Int)) = 4 * (i : Int) := wrap_i64 (by omega) (by omega)
            have w3 : (4 + (i : Int)).toNat = 4 + i := by omega
            have w4 : (4 * (i : Int)).toNat = 4 * i := by omega
            have g3 : ¬ ((((k.take 32).drop (4 * i)).length : Int) < 4) := by simp; omega
            have ht : k.take 32 = k := List.take_of_length_le (by omega)
            rw [ht] at g3
            have hkw : kw k (i + 1) = (kw k i).set (4 + i) (wrapF .u32 (getU (k.drop (4 * i)) 4)) := rfl
            simp (config := {maxSteps := 1000000, maxDischargeDepth := 9, implicitDefEqProofs := false}) [c22_l0, hn', h1, h3, h5, h6, h7, h11, hi, w1, w2, w3, w4, hsk, show 4 * (i : Int) ≤ 32 from by omega, show (0 : Int) ≤ 4 * (i : Int) from by omega, show 4 * i ≤ 32 from by omega, hGet, s_Get32, ht, g3, show (0 : Int) ≤ 4 + (i : Int) from by omega, show 4 + (i : Int) < 16 from by omega, kw_length, -over, over_set, show 4 + i < 16 from by omega, show 4 + i + 1 ≤ 16 from by omega, map_set, -List.map_set, hkw, show (i : Int) < 8 from by omega, wrap_i64 (x := (i : Int) + 1) (by omega) (by omega), -List.length_drop]
            )
          (by
            rintro e H ⟨hn', h1, h3, h5, h6, h7, h11, rfl⟩
            simp (config := {maxSteps := 1000000, maxDischargeDepth := 9, implicitDefEqProofs := false}) [c22_l0, hn', h1, h3, h5, h6, h7, h11])
        have L2 := loop_count (cf := cf) (N := 12) (c := c22_l1) 3
          (fun i e H => e.n = 42 ∧ e.at 5 = .ptr (h.next + 1) 0 ∧ e.at 6 = .ptr (h.next + 2) 0 ∧ e.at 7 = .ptr (h.next + 3) 0 ∧ e.at 27 = .int .i64 (i : Int) ∧ H = (((h.new A).new B).new R).new (.cells ((nw n ((kw k 8).set 12 c) i).map (V.int .u32)) 46 1 true))
          (fun x e H => x = .exit 2 ∧ e.n = 42 ∧ e.at 6 = .ptr (h.next + 2) 0 ∧ e.at 7 = .ptr (h.next + 3) 0 ∧ H = (((h.new A).new B).new R).new (.cells ((wordsF k c n).map (V.int .u32)) 46 1 true))
          (by
            rintro i e H hi ⟨hn', h5, h6, h7, h27, rfl⟩
            have w1 : wrapF .i64 (13 + (i : Int)) = 13 + (i : Int) := wrap_i64 (by omega) (by omega)
            have w2 : wrapF .i64 (4 * (i : Int)) = 4 * (i : Int) := wrap_i64 (by omega) (by omega)
            have w3 : (13 + (i : Int)).toNat = 13 + i := by omega
            have w4 : (4 * (i : Int)).toNat = 4 * i := by omega
            have g3 : ¬ ((((n.take 12).drop (4 * i)).length : Int) < 4) := by simp; omega
            have ht : n.take 12 = n := List.take_of_length_le (by omega)
            rw [ht] at g3
            have hnl := nw_length n (w := (kw k 8).set 12 c) (by simp [kw_length]) i
            have hnw : nw n ((kw k 8).set 12 c) (i + 1) = (nw n ((kw k 8).set 12 c) i).set (13 + i) (wrapF .u32 (getU (n.drop (4 * i)) 4)) := rfl
            simp (config := {maxSteps := 1000000, maxDischargeDepth := 9, implicitDefEqProofs := false}) [c22_l1, hn', h5, h6, h7, h27, hi, w1, w2, w3, w4, hsn, show 4 * (i : Int) ≤ 12 from by omega, show (0 : Int) ≤ 4 * (i : Int) from by omega, show 4 * i ≤ 12 from by omega, hGet, s_Get32, ht, g3, show (0 : Int) ≤ 13 + (i : Int) from by omega, show 13 + (i : Int) < 16 from by omega, hnl, -over, over_set, show 13 + i < 16 from by omega, show 13 + i + 1 ≤ 16 from by omega, map_set, -List.map_set, hnw, show (i : Int) < 3 from by omega, wrap_i64 (x := (i : Int) + 1) (by omega) (by omega), -List.length_drop])
          (by
            rintro e H ⟨hn', h5, h6, h7, h27, rfl⟩
            simp (config := {maxSteps := 1000000, maxDischargeDepth := 9, implicitDefEqProofs := false}) [c22_l1, hn', h5, h6, h7, h27]
            rfl)
        subst hA; subst hB; subst hR
        simp (config := {maxSteps := 1000000, maxDischargeDepth := 9, implicitDefEqProofs := false}) [c22, mem_bytes_one, mem_ints_one]
        refine loop_then (K := fun r => finS _ (seqS _ _ _ (blockS _ r))) (L1 0 _ _ (Nat.zero_le _) ?_ (by omega)) ?_
        · simp (config := {maxSteps := 1000000, maxDischargeDepth := 9, implicitDefEqProofs := false}) [kw]
        · rintro x e' H ⟨rfl, hn', h1, h3, h5, h6, h7, rfl⟩
          simp (config := {maxSteps := 1000000, maxDischargeDepth := 9, implicitDefEqProofs := false}) [hn', h1, h3, h5, h6, h7, kw_length, -over, over_set, map_set, -List.map_set]
          refine loop_then (K := fun r => finS _ (seqS _ _ _ (blockS _ r))) (L2 0 _ _ (Nat.zero_le _) ?_ (by omega)) ?_
          · simp (config := {maxSteps := 1000000, maxDischargeDepth := 9, implicitDefEqProofs := false}) [hn', h5, h6, h7, nw]
          · rintro x e' H ⟨rfl, hn', h6, h7, rfl⟩
            have htk : ((wordsF k c n).map (V.int .u32)).take 16 = (wordsF k c n).map (V.int .u32) := List.take_of_length_le (by simp [wordsF_length])
            simp (config := {maxSteps := 1000000, maxDischargeDepth := 9, implicitDefEqProofs := false}) [hn', h6, h7, wordsF_length, htk, mem_ints_one, -List.map_take]
            exact Canon.keep hf hsc (by repeat (first | exact Ext.refl _ | apply Ext.trans_new)) (flat_agg _ _ _)
      · cases hs
    · cases hs
  · cases hs

/-- The rounds. -/
def rows1 (v : List Int) : Nat → List Int
  | 0 => v
  | i + 1 => qr (rows1 v i) i (4 + i) (8 + i) (12 + i)
def rows2 (v : List Int) : Nat → List Int
  | 0 => v
  | i + 1 => qr (rows2 v i) i (4 + (i + 1) % 4) (8 + (i + 2) % 4) (12 + (i + 3) % 4)
def dround (v : List Int) : List Int := rows2 (rows1 v 4) 4
def rounds (v : List Int) : Nat → List Int
  | 0 => v
  | i + 1 => dround (rounds v i)
def outF (v w : List Int) : Nat → List Nat
  | 0 => []
  | i + 1 => outF v w i ++ putB (add32 (v.getD i 0) (w.getD i 0)) 4
/-- A block's bytes. -/
def blockF (k : List Nat) (c : Int) (n : List Nat) : List Nat := outF (rounds (wordsF k c n) 10) (wordsF k c n) 16

theorem rows1_length {v : List Int} : ∀ i, (rows1 v i).length = v.length
  | 0 => rfl
  | i + 1 => by simp [rows1, qr_length, rows1_length i]
theorem rows2_length {v : List Int} : ∀ i, (rows2 v i).length = v.length
  | 0 => rfl
  | i + 1 => by simp [rows2, qr_length, rows2_length i]
theorem rounds_length {v : List Int} : ∀ i, (rounds v i).length = v.length
  | 0 => rfl
  | i + 1 => by simp [rounds, dround, rows1_length, rows2_length, rounds_length i]
theorem outF_length (v w : List Int) : ∀ i, (outF v w i).length = 4 * i
  | 0 => rfl
  | i + 1 => by simp [outF, outF_length v w i, putB_length]; omega
theorem outF_lt (v w : List Int) : ∀ i, ∀ y ∈ outF v w i, y < 256
  | 0 => by simp [outF]
  | i + 1 => by
    intro y hy
    simp only [outF, List.mem_append] at hy
    rcases hy with hy | hy
    · exact outF_lt v w i y hy
    · exact putB_lt _ _ y hy
theorem blockF_length (k : List Nat) (c : Int) (n : List Nat) : (blockF k c n).length = 64 := by simp [blockF, outF_length]
theorem blockF_lt (k : List Nat) (c : Int) (n : List Nat) : ∀ y ∈ blockF k c n, y < 256 := outF_lt _ _ _

/-- chacha.Block. -/
def s_Block : List V → Heap → Option (V × Heap)
  | [vk, .int .u32 c, vn], h => match aggB vk, aggB vn with
    | some k, some n => if k.length = 32 ∧ n.length = 12 then some (.agg (bytesOf (blockF k c n)), h) else none
    | _, _ => none
  | _, _ => none

theorem Block_inner1 (cf : ACall) (hB : ∀ a h, cf 23 a h = s_Blk1 a h) (Hb : Heap) (p : Nat) (hnx : Hb.next = p) (v : List Int) (hv : v.length = 16) : ∀ e, e.n = 72 → e.at 9 = .func 23 [] [.ptr p 0] → e.at 22 = .int .i64 0 →
    YtjdofdokdemnkaaA.Ends (execA cf 20 (.loop c10_l1) e (Hb.new (.cells (v.map (V.int .u32)) 46 1 true))) fun x e' H => x = .exit 2 ∧ H = Hb.new (.cells ((rows1 v 4).map (V.int .u32)) 46 1 true) := by
  intro e hn h9 h22
  refine loop_count (cf := cf) (N := 20) (c := c10_l1) 4
    (fun i e H => e.n = 72 ∧ e.at 9 = .func 23 [] [.ptr p 0] ∧ e.at 22 = .int .i64 (i : Int) ∧ H = Hb.new (.cells ((rows1 v i).map (V.int .u32)) 46 1 true))
    (fun x e' H => x = .exit 2 ∧ H = Hb.new (.cells ((rows1 v 4).map (V.int .u32)) 46 1 true)) ?_ ?_ 0 e _ (Nat.zero_le _) ⟨hn, h9, h22, rfl⟩ (by omega)
  · rintro i e H hi ⟨hn, h9, h22, rfl⟩
    have w1 : wrapF .i64 (4 + (i : Int)) = 4 + (i : Int) := wrap_i64 (by omega) (by omega)
    have w2 : wrapF .i64 (8 + (i : Int)) = 8 + (i : Int) := wrap_i64 (by omega) (by omega)
    have w3 : wrapF .i64 (12 + (i : Int)) = 12 + (i : Int) := wrap_i64 (by omega) (by omega)
    have t1 : (4 + (i : Int)).toNat = 4 + i := by omega
    have t2 : (8 + (i : Int)).toNat = 8 + i := by omega
    have t3 : (12 + (i : Int)).toNat = 12 + i := by omega
    have hr : rows1 v (i + 1) = qr (rows1 v i) i (4 + i) (8 + i) (12 + i) := rfl
    simp (config := {maxSteps := 1000000, maxDischargeDepth := 9, implicitDefEqProofs := false}) [c10_l1, hn, h9, h22, show (i : Int) < 4 from by omega, w1, w2, w3, t1, t2, t3, hB, s_Blk1, hnx, rows1_length, hv, hr, show (i : Int) < 16 from by omega, show 4 + (i : Int) < 16 from by omega, show 8 + (i : Int) < 16 from by omega, show 12 + (i : Int) < 16 from by omega, show (0 : Int) ≤ 4 + (i : Int) from by omega, show (0 : Int) ≤ 8 + (i : Int) from by omega, show (0 : Int) ≤ 12 + (i : Int) from by omega, wrap_i64 (x := (i : Int) + 1) (by omega) (by omega)]
  · rintro e H ⟨hn, h9, h22, rfl⟩
    simp (config := {maxSteps := 1000000, maxDischargeDepth := 9, implicitDefEqProofs := false}) [c10_l1, hn, h9, h22]
theorem Block_inner2 (cf : ACall) (hB : ∀ a h, cf 23 a h = s_Blk1 a h) (Hb : Heap) (p : Nat) (hnx : Hb.next = p) (v : List Int) (hv : v.length = 16) : ∀ e, e.n = 72 → e.at 9 = .func 23 [] [.ptr p 0] → e.at 35 = .int .i64 0 →
    YtjdofdokdemnkaaA.Ends (execA cf 20 (.loop c10_l2) e (Hb.new (.cells (v.map (V.int .u32)) 46 1 true))) fun x e' H => x = .exit 4 ∧ H = Hb.new (.cells ((rows2 v 4).map (V.int .u32)) 46 1 true) := by
  intro e hn h9 h35
  refine loop_count (cf := cf) (N := 20) (c := c10_l2) 4
    (fun i e H => e.n = 72 ∧ e.at 9 = .func 23 [] [.ptr p 0] ∧ e.at 35 = .int .i64 (i : Int) ∧ H = Hb.new (.cells ((rows2 v i).map (V.int .u32)) 46 1 true))
    (fun x e' H => x = .exit 4 ∧ H = Hb.new (.cells ((rows2 v 4).map (V.int .u32)) 46 1 true)) ?_ ?_ 0 e _ (Nat.zero_le _) ⟨hn, h9, h35, rfl⟩ (by omega)
  · rintro i e H hi ⟨hn, h9, h35, rfl⟩
    have hv2 := rows2_length (v := v) i
    rw [hv] at hv2
    have hr : rows2 v (i + 1) = qr (rows2 v i) i (4 + (i + 1) % 4) (8 + (i + 2) % 4) (12 + (i + 3) % 4) := rfl
    have hii : i = 0 ∨ i = 1 ∨ i = 2 ∨ i = 3 := by omega
    generalize rows2 v i = vi at *
    generalize rows2 v (i + 1) = vj at *
    subst hr
    rcases hii with rfl | rfl | rfl | rfl <;>
      simp (config := {maxSteps := 1000000, maxDischargeDepth := 9, implicitDefEqProofs := false}) [c10_l2, hn, h9, h35, hB, s_Blk1, hnx, hv2]
  · rintro e H ⟨hn, h9, h35, rfl⟩
    simp (config := {maxSteps := 1000000, maxDischargeDepth := 9, implicitDefEqProofs := false}) [c10_l2, hn, h9, h35]

theorem Block_outer (cf : ACall) (hB : ∀ a h, cf 23 a h = s_Blk1 a h) (Hb : Heap) (p : Nat) (hnx : Hb.next = p) (v : List Int) (hv : v.length = 16) : ∀ e, e.n = 72 → e.at 9 = .func 23 [] [.ptr p 0] → e.at 20 = .int .i64 0 →
    YtjdofdokdemnkaaA.Ends (execA cf 20 (.loop c10_l0) e (Hb.new (.cells (v.map (V.int .u32)) 46 1 true))) fun x e' H => x = .exit 0 ∧ H = Hb.new (.cells ((rounds v 10).map (V.int .u32)) 46 1 true) := by
  intro e hn h9 h20
  refine loop_count (cf := cf) (N := 20) (c := c10_l0) 10
    (fun i e H => e.n = 72 ∧ e.at 9 = .func 23 [] [.ptr p 0] ∧ e.at 20 = .int .i64 (i : Int) ∧ H = Hb.new (.cells ((rounds v i).map (V.int .u32)) 46 1 true))
    (fun x e' H => x = .exit 0 ∧ H = Hb.new (.cells ((rounds v 10).map (V.int .u32)) 46 1 true)) ?_ ?_ 0 e _ (Nat.zero_le _) ⟨hn, h9, h20, rfl⟩ (by omega)
  · rintro i e H hi ⟨hn, h9, h20, rfl⟩
    have hr : rounds v (i + 1) = rows2 (rows1 (rounds v i) 4) 4 := rfl
    have hl := rounds_length (v := v) i
    rw [hv] at hl
    have hl1 := rows1_length (v := rounds v i) 4
    rw [hl] at hl1
    simp (config := {maxSteps := 1000000, maxDischargeDepth := 9, implicitDefEqProofs := false}) [c10_l0, hn, h9, h20, show (i : Int) < 10 from by omega]
    refine loop_in (K := fun r => seqS _ _ _ (blockS _ (seqS _ _ _ (blockS _ r)))) (Block_inner1 cf hB Hb p hnx (rounds v i) hl _ ?_ ?_ ?_) ?_
    · simp (config := {maxSteps := 1000000, maxDischargeDepth := 9, implicitDefEqProofs := false}) [hn]
    · simp (config := {maxSteps := 1000000, maxDischargeDepth := 9, implicitDefEqProofs := false}) [hn, h9]
    · simp (config := {maxSteps := 1000000, maxDischargeDepth := 9, implicitDefEqProofs := false}) [hn]
    · rintro x H ⟨rfl, rfl⟩
      simp (config := {maxSteps := 1000000, maxDischargeDepth := 9, implicitDefEqProofs := false}) [hn]
      refine loop_in (K := fun r => seqS _ _ _ (blockS _ (blockS _ r))) (Block_inner2 cf hB Hb p hnx (rows1 (rounds v i) 4) hl1 _ ?_ ?_ ?_) ?_
      · simp (config := {maxSteps := 1000000, maxDischargeDepth := 9, implicitDefEqProofs := false}) [hn]
      · simp (config := {maxSteps := 1000000, maxDischargeDepth := 9, implicitDefEqProofs := false}) [hn, h9, c10_l1_wr]
      · simp (config := {maxSteps := 1000000, maxDischargeDepth := 9, implicitDefEqProofs := false}) [hn]
      · rintro x H ⟨rfl, rfl⟩
        simp (config := {maxSteps := 1000000, maxDischargeDepth := 9, implicitDefEqProofs := false}) [hn, h9, h20, c10_l1_wr, c10_l2_wr, hr, wrap_i64 (x := (i : Int) + 1) (by omega) (by omega)]
  · rintro e H ⟨hn, h9, h20, rfl⟩
    simp (config := {maxSteps := 1000000, maxDischargeDepth := 9, implicitDefEqProofs := false}) [c10_l0, hn, h9, h20]

theorem putB_len4 (x : Int) : (bytesOf (putB x 4)).length = 4 := by rw [bytesOf_length, putB_length]
theorem add32_range (a b : Int) : 0 ≤ add32 a b ∧ add32 a b < 4294967296 := by
  simp only [add32, wrap_u32_mod]; omega

theorem Block_out (cf : ACall) (hP : ∀ a h, cf 25 a h = s_Put32 a h) (h H0 : Heap) (R : List V) (v w : List Int) (hv : v.length = 16) (hw : w.length = 16) (hE0 : Ext h H0) (hF0 : Fresh H0) (hH0 : H0.next = h.next + 6)
    (gw0 : H0.get (h.next + 3) = some (.cells (w.map (V.int .u32)) 46 1 true)) (gv0 : H0.get (h.next + 4) = some (.cells (v.map (V.int .u32)) 46 1 true)) (go0 : H0.get (h.next + 5) = some (.cells (List.replicate 64 (.int .u8 0)) 23 1 true)) (g20 : ∃ t, H0.get (h.next + 2) = some (.cells R t 1 true)) :
    ∀ e, e.n = 72 → e.at 12 = .ptr (h.next + 5) 0 → e.at 8 = .ptr (h.next + 4) 0 → e.at 7 = .ptr (h.next + 3) 0 → e.at 55 = .int .i64 0 →
    YtjdofdokdemnkaaA.Ends (execA cf 20 (.loop c10_l3) e H0) fun x e' H => x = .exit 6 ∧ Ext h H ∧ Fresh H ∧ h.next + 6 ≤ H.next ∧ H.get (h.next + 5) = some (.cells (bytesOf (outF v w 16)) 23 1 true) ∧ ∃ t, H.get (h.next + 2) = some (.cells R t 1 true) := by
  intro e hn h12 h8 h7 h55
  refine loop_count (cf := cf) (N := 20) (c := c10_l3) 16
    (fun i e H => e.n = 72 ∧ e.at 12 = .ptr (h.next + 5) 0 ∧ e.at 8 = .ptr (h.next + 4) 0 ∧ e.at 7 = .ptr (h.next + 3) 0 ∧ e.at 55 = .int .i64 (i : Int) ∧ Ext h H ∧ Fresh H ∧ h.next + 6 ≤ H.next ∧ H.get (h.next + 3) = some (.cells (w.map (V.int .u32)) 46 1 true) ∧ H.get (h.next + 4) = some (.cells (v.map (V.int .u32)) 46 1 true) ∧
      H.get (h.next + 5) = some (.cells (bytesOf (outF v w i) ++ List.replicate (64 - 4 * i) (.int .u8 0)) 23 1 true) ∧ ∃ t, H.get (h.next + 2) = some (.cells R t 1 true))
    (fun x e' H => x = .exit 6 ∧ Ext h H ∧ Fresh H ∧ h.next + 6 ≤ H.next ∧ H.get (h.next + 5) = some (.cells (bytesOf (outF v w 16)) 23 1 true) ∧ ∃ t, H.get (h.next + 2) = some (.cells R t 1 true)) ?_ ?_ 0 e _ (Nat.zero_le _) ⟨hn, h12, h8, h7, h55, hE0, hF0, by omega, gw0, gv0, by simpa [outF, bytesOf_nil] using go0, g20⟩ (by omega)
  · rintro i e H hi ⟨hn, h12, h8, h7, h55, hE, hF, hnx, gw, gv, go, g2⟩
    have w1 : wrapF .i64 (4 * (i : Int)) = 4 * (i : Int) := wrap_i64 (by omega) (by omega)
    have t1 : (4 * (i : Int)).toNat = 4 * i := by omega
    have hxr := add32_range (v.getD i 0) (w.getD i 0)
    have hgv : v.getD i 0 = v[i] := by rw [List.getD_eq_getElem?_getD, List.getElem?_eq_getElem (by omega)]; rfl
    have hgw : w.getD i 0 = w[i] := by rw [List.getD_eq_getElem?_getD, List.getElem?_eq_getElem (by omega)]; rfl
    rw [hgv, hgw] at hxr
    have hadd : wrapF .u32 (v[i] + w[i]) = add32 v[i] w[i] := rfl
    have hout : outF v w (i + 1) = outF v w i ++ putB (add32 v[i] w[i]) 4 := by simp only [outF, hgv, hgw]
    generalize hx : add32 v[i] w[i] = x at *
    have hlen := outF_length v w i
    have hbl : (bytesOf (outF v w i) ++ List.replicate (64 - 4 * i) (V.int .u8 0)).length = 64 := by simp [bytesOf_length, hlen]; omega
    -- the slice of the output
    have hsl : sliceV H 1 (.slice (h.next + 5) 0 64 (some 64)) (some (.int .i64 (4 * (i : Int)))) none none = some (.slice (h.next + 5) (4 * i) (64 - 4 * i) (some (64 - 4 * i))) := by
      have q1 : (0 : Int) ≤ 4 * (i : Int) := by omega
      have q2 : 4 * (i : Int) ≤ 64 := by omega
      have q3 : ¬ 64 = 4 * i := by omega
      simp [sliceV, bounds, maxOf, highOf, lowOf, bound, q1, q2, q3, t1]
    -- the copy
    have hq : (h.next + 5 = H.next) = False := by simp; omega
    have hcopy := copy_at (h := H.new (.cells (bytesOf (putB x 4)) 5 1 true)) (p := h.next + 5) (o := 4 * i) (n := 64 - 4 * i) (q := H.next) (m := 4) (c := some (64 - 4 * i)) (c' := none) (Q := bytesOf (outF v w i) ++ List.replicate (64 - 4 * i) (.int .u8 0)) (cs := bytesOf (putB x 4)) (t := 23) (z := 1)
      (by rw [Heap.get_new, if_neg (by omega)]; exact go) (by rw [read_self (by rw [putB_len4]; omega), List.drop_zero, List.take_of_length_le (by rw [putB_len4]; omega)]) (by omega) (by omega) (by rw [hbl]; omega) (bytesOf_one _) (putB_len4 x)
    have hover : over (bytesOf (outF v w i) ++ List.replicate (64 - 4 * i) (.int .u8 0)) (4 * i) (bytesOf (putB x 4)) = bytesOf (outF v w (i + 1)) ++ List.replicate (64 - 4 * (i + 1)) (.int .u8 0) := by
      have := over_fillL (bytesOf (outF v w i)) (bytesOf (putB x 4)) (.int .u8 0) (64 - 4 * (i + 1))
      rw [putB_len4, bytesOf_length, hlen, show 4 + (64 - 4 * (i + 1)) = 64 - 4 * i from by omega] at this
      rw [this, hout, bytesOf_append]
    rw [hover] at hcopy
    simp (config := {maxSteps := 1000000, maxDischargeDepth := 9, implicitDefEqProofs := false}) [c10_l3, hn, h12, h8, h7, h55, hi, show (i : Int) < 16 from by omega, w1, hsl, gv, gw, hv, hw, hadd, hx, hP, s_Put32, hxr.1, hxr.2, hcopy, wrap_i64 (x := (i : Int) + 1) (by omega) (by omega)]
    refine ⟨(hE.trans_new _).trans_set (by omega) _, (hF.new _).set (by simp; omega) _, by omega, by omega, by omega, ?_⟩
    rw [if_neg (by omega)]
    exact g2
  · rintro e H ⟨hn, h12, h8, h7, h55, hE, hF, hnx, gw, gv, go, g2⟩
    simp (config := {maxSteps := 1000000, maxDischargeDepth := 9, implicitDefEqProofs := false}) [c10_l3, hn, h12, h8, h7, h55]
    refine ⟨hE, hF, hnx, ?_, g2⟩
    simpa using go

theorem Block_ok (cf : ACall) (hB : ∀ a h, cf 23 a h = s_Blk1 a h) (hW : ∀ a h, cf 22 a h = s_words a h) (hP : ∀ a h, cf 25 a h = s_Put32 a h) : Sum cf c10 s_Block := by
  intro args h v h' hf hsc hlt hs
  unfold s_Block at hs
  split at hs
  · rename_i vk c vn
    split at hs
    · rename_i k n hk hn
      split at hs
      · rename_i hl
        obtain ⟨hl1, hl2⟩ := hl
        simp only [Option.some.injEq, Prod.mk.injEq] at hs
        obtain ⟨rfl, rfl⟩ := hs
        obtain ⟨rfl, hkb⟩ := aggB_some hk
        obtain ⟨rfl, hnb⟩ := aggB_some hn
        have tk : (bytesOf k).take 32 = bytesOf k := List.take_of_length_le (by rw [bytesOf_length]; omega)
        have tn : (bytesOf n).take 12 = bytesOf n := List.take_of_length_le (by rw [bytesOf_length]; omega)
        have hwl := wordsF_length k c n
        have tw : ((wordsF k c n).map (V.int .u32)).take 16 = (wordsF k c n).map (V.int .u32) := List.take_of_length_le (by simp [hwl])
        refine ⟨20, ?_⟩
        simp (config := {maxSteps := 1000000, maxDischargeDepth := 9, implicitDefEqProofs := false}) [c10, hW, s_words, hk, hn, hl1, hl2, tk, tn, tw, hwl, mem_bytes_one, mem_ints_one, -List.map_take]
        generalize hwq : wordsF k c n = w at *
        refine loop_thenE (K := fun r => finS _ (seqS _ _ _ (blockS _ r))) (Block_outer cf hB _ (h.next + 4) ?_ w hwl _ ?_ ?_ ?_) ?_
        · simp (config := {maxSteps := 1000000, maxDischargeDepth := 9, implicitDefEqProofs := false})
        · simp (config := {maxSteps := 1000000, maxDischargeDepth := 9, implicitDefEqProofs := false})
        · simp (config := {maxSteps := 1000000, maxDischargeDepth := 9, implicitDefEqProofs := false})
        · simp (config := {maxSteps := 1000000, maxDischargeDepth := 9, implicitDefEqProofs := false})
        · rintro x H ⟨rfl, rfl⟩
          have hrl := rounds_length (v := w) 10
          rw [hwl] at hrl
          simp (config := {maxSteps := 1000000, maxDischargeDepth := 9, implicitDefEqProofs := false}) [c10_l0_wr]
          obtain ⟨R, hRr⟩ : ∃ R : List V, R = List.replicate 64 (.int .u8 0) := ⟨_, rfl⟩
          have hRl : R.length = 64 := by rw [hRr]; simp
          refine loop_thenE (K := fun r => finS _ (seqS _ _ _ (blockS _ r))) (Block_out cf hP h _ R (rounds w 10) w hrl hwl ?_ ?_ ?_ ?_ ?_ ?_ ⟨23, ?_⟩ _ ?_ ?_ ?_ ?_ ?_) ?_
          · repeat (first | exact Ext.refl _ | apply Ext.trans_new)
          · exact ((((((hf.new _).new _).new _).new _).new _).new _)
          · simp (config := {maxSteps := 1000000, maxDischargeDepth := 9, implicitDefEqProofs := false})
          · simp (config := {maxSteps := 1000000, maxDischargeDepth := 9, implicitDefEqProofs := false})
          · simp (config := {maxSteps := 1000000, maxDischargeDepth := 9, implicitDefEqProofs := false})
          · simp (config := {maxSteps := 1000000, maxDischargeDepth := 9, implicitDefEqProofs := false})
          · simp (config := {maxSteps := 1000000, maxDischargeDepth := 9, implicitDefEqProofs := false}) [hRr]
          · simp (config := {maxSteps := 1000000, maxDischargeDepth := 9, implicitDefEqProofs := false}) [c10_l0_wr]
          · simp (config := {maxSteps := 1000000, maxDischargeDepth := 9, implicitDefEqProofs := false}) [c10_l0_wr]
          · simp (config := {maxSteps := 1000000, maxDischargeDepth := 9, implicitDefEqProofs := false}) [c10_l0_wr]
          · simp (config := {maxSteps := 1000000, maxDischargeDepth := 9, implicitDefEqProofs := false}) [c10_l0_wr]
          · simp (config := {maxSteps := 1000000, maxDischargeDepth := 9, implicitDefEqProofs := false}) [c10_l0_wr]
          · rintro x H ⟨rfl, hE, hF, hnx, go, t, g2⟩
            have hol : (outF (rounds w 10) w 16).length = 64 := outF_length (rounds w 10) w 16
            have tb : (bytesOf (outF (rounds w 10) w 16)).take 64 = bytesOf (outF (rounds w 10) w 16) := List.take_of_length_le (by rw [bytesOf_length, hol]; omega)
            have hn2 : ¬ (h.next + 5 = h.next + 2) := by omega
            have hbf : blockF k c n = outF (rounds w 10) w 16 := by unfold blockF; rw [hwq]
            rw [hbf]
            generalize outF (rounds w 10) w 16 = ob at *
            have hov : over R 0 (bytesOf ob) = bytesOf ob := by
              unfold over
              rw [bytesOf_length, hol, List.drop_eq_nil_of_le (by omega)]; simp
            simp (config := {maxSteps := 1000000, maxDischargeDepth := 9, implicitDefEqProofs := false}) [c10_l0_wr, c10_l3_wr, go, g2, hol, hRl, tb, mem_bytes_one, -List.map_take, -over, hov]
            exact Canon.keep hf hsc (hE.trans_set (by omega) _) (flat_aggB _ _)
      · cases hs
    · cases hs
  · cases hs

/-- A text with a stream of blocks. -/
def applyA (blk : Int → List Nat) : Nat → Int → List Nat → List Nat
  | 0, _, _ => []
  | f + 1, c, s => if s = [] then [] else xorB s (blk c) ++ applyA blk f (add32 c 1) (s.drop 64)
def applyF (blk : Int → List Nat) (c : Int) (s : List Nat) : List Nat := applyA blk s.length c s
theorem applyA_more (blk : Int → List Nat) : ∀ (f g : Nat) (c : Int) (s : List Nat), s.length ≤ f → s.length ≤ g → applyA blk f c s = applyA blk g c s
  | 0, 0, _, _, _, _ => rfl
  | 0, g + 1, c, s, h, _ => by
    have : s = [] := List.length_eq_zero_iff.1 (by omega)
    simp [applyA, this]
  | f + 1, 0, c, s, _, h => by
    have : s = [] := List.length_eq_zero_iff.1 (by omega)
    simp [applyA, this]
  | f + 1, g + 1, c, s, h1, h2 => by
    simp only [applyA]
    split
    · rfl
    · rename_i hs
      have hp : 0 < s.length := List.length_pos_iff.2 hs
      rw [applyA_more blk f g _ _ (by simp; omega) (by simp; omega)]
theorem applyF_nil (blk : Int → List Nat) (c : Int) : applyF blk c [] = [] := rfl
theorem applyF_cons (blk : Int → List Nat) (c : Int) (s : List Nat) (hs : s ≠ []) : applyF blk c s = xorB s (blk c) ++ applyF blk (add32 c 1) (s.drop 64) := by
  have hp : 0 < s.length := List.length_pos_iff.2 hs
  unfold applyF
  obtain ⟨f, hf⟩ : ∃ f, s.length = f + 1 := ⟨s.length - 1, by omega⟩
  rw [hf]
  simp only [applyA, if_neg hs]
  rw [applyA_more blk f (s.drop 64).length _ _ (by simp; omega) (Nat.le_refl _)]
def cnt (c : Int) : Nat → Int
  | 0 => c
  | i + 1 => add32 (cnt c i) 1
/-- What is written behind i blocks. -/
def appliedTo (blk : Int → List Nat) (c : Int) (s : List Nat) : Nat → List Nat
  | 0 => []
  | i + 1 => appliedTo blk c s i ++ xorB (s.drop (64 * i)) (blk (cnt c i))
theorem applied_all (blk : Int → List Nat) (s : List Nat) (c : Int) : ∀ i, appliedTo blk c s i ++ applyF blk (cnt c i) (s.drop (64 * i)) = applyF blk c s
  | 0 => by simp [appliedTo, cnt]
  | i + 1 => by
    rw [← applied_all blk s c i]
    by_cases hs : s.drop (64 * i) = []
    · have h2 : s.drop (64 * (i + 1)) = [] := by
        rw [List.drop_eq_nil_iff] at hs ⊢; omega
      rw [hs, h2]
      simp [appliedTo, applyF_nil, hs, xorB]
    · rw [applyF_cons _ _ _ hs, appliedTo, List.drop_drop, List.append_assoc]
      congr 3

/-- chacha.Apply. -/
def s_Apply : List V → Heap → Option (V × Heap)
  | [vk, .int .u32 c, vn, v], h => match aggB vk, aggB vn, slB h v with
    | some k, some n, some s => if k.length = 32 ∧ n.length = 12 ∧ s.length ≤ lim then some (newV h (applyF (fun c => blockF k c n) c s).length, h.new (.cells (bytesOf (applyF (fun c => blockF k c n) c s)) 5 1 true)) else none
    | _, _, _ => none
  | _, _ => none

theorem xorB_len64 (s b : List Nat) (hb : b.length = 64) : (xorB s b).length = min s.length 64 := by rw [xorB_length, hb]
theorem applied_length (blk : Int → List Nat) (hb : ∀ c, (blk c).length = 64) (c : Int) (s : List Nat) : ∀ i, 64 * i ≤ s.length + 63 → (appliedTo blk c s i).length = min s.length (64 * i)
  | 0, _ => by simp [appliedTo]
  | i + 1, h => by
    simp only [appliedTo, List.length_append]
    rw [applied_length blk hb c s i (by omega), xorB_len64 _ _ (hb _), List.length_drop]
    omega

theorem Apply_ok (cf : ACall) (hBl : ∀ a h, cf 10 a h = s_Block a h) (hX : ∀ a h, cf 26 a h = s_Xor a h) : Sum cf c12 s_Apply := by
  intro args h v h' hf hsc hlt hs
  unfold s_Apply at hs
  split at hs
  · rename_i vk c vn v0
    split at hs
    · rename_i k n s hk hn hv
      split at hs
      · rename_i hl
        obtain ⟨hl1, hl2, hl3⟩ := hl
        simp only [Option.some.injEq, Prod.mk.injEq] at hs
        obtain ⟨rfl, rfl⟩ := hs
        obtain ⟨rfl, hkb⟩ := aggB_some hk
        obtain ⟨rfl, hnb⟩ := aggB_some hn
        have hlim : lim = 140737488354304 := rfl
        have hlv : V.lt h.next v0 := by simp only [ltL] at hlt; exact hlt.2.2.2.1
        have tk : (bytesOf k).take 32 = bytesOf k := List.take_of_length_le (by rw [bytesOf_length]; omega)
        have tn : (bytesOf n).take 12 = bytesOf n := List.take_of_length_le (by rw [bytesOf_length]; omega)
        generalize hblk : (fun c => blockF k c n) = blk
        have hblk' : ∀ c, blockF k c n = blk c := fun c => by rw [← hblk]
        have hb64 : ∀ c, (blk c).length = 64 := fun c => by rw [← hblk']; exact blockF_length k c n
        have hblt : ∀ c, ∀ y ∈ blk c, y < 256 := fun c => by rw [← hblk']; exact blockF_lt k c n
        generalize hA : (h.new (.cells (bytesOf k) 22 1 true)).new (.cells (bytesOf n) 26 1 true) = h0
        have hEh : Ext h h0 := by rw [← hA]; exact (Ext.new h _).trans_new _
        have hF0 : Fresh h0 := by rw [← hA]; exact (hf.new _).new _
        have hn0 : h0.next = h.next + 2 := by rw [← hA]; rfl
        have gk : h0.get h.next = some (.cells (bytesOf k) 22 1 true) := by rw [← hA]; simp [Heap.get_new]
        have gn : h0.get (h.next + 1) = some (.cells (bytesOf n) 26 1 true) := by rw [← hA]; simp [Heap.get_new]
        obtain ⟨m, hm⟩ : ∃ m, m = (s.length + 63) / 64 := ⟨_, rfl⟩
        refine ⟨m + 1, ?_⟩
        have L := loop_count (cf := cf) (N := m + 1) (c := c12_l0) m
          (fun i e H => e.n = 33 ∧ e.at 4 = .ptr h.next 0 ∧ e.at 6 = .ptr (h.next + 1) 0 ∧ e.at 1 = .int .u32 (cnt c i) ∧ slB h (e.at 3) = some (s.drop (64 * i)) ∧ V.lt h.next (e.at 3) ∧ OwnB h0 H 5 (e.at 9) (appliedTo blk c s i) ∧ Ext h0 H ∧ Fresh H ∧ e.at 9 ≠ .nilslice)
          (fun x e H => x = .exit 0 ∧ e.n = 33 ∧ OwnB h0 H 5 (e.at 9) (applyF blk c s) ∧ Ext h0 H ∧ Fresh H ∧ e.at 9 ≠ .nilslice)
          (by
            rintro i e H hi ⟨hn', h4, h6, h1, h3, hl3', ho, hE, hF, hne⟩
            generalize hvi : e.at 3 = vi at *
            have hdl : (s.drop (64 * i)).length = s.length - 64 * i := by simp
            have hpos : 0 < s.length - 64 * i := by omega
            have gk' := hE.get hF0 gk
            have gn' := hE.get hF0 gn
            have hviH := slB_ext (hEh.trans hE) hf h3
            have hvl := slB_vlen h3
            have hsl := slB_isSl h3
            rw [hdl] at hvl
            have hltH : V.lt H.next vi := V.lt_mono (hEh.trans hE).1 _ hl3'
            have hltk := lt_add hltH
            have hcr : blockF k (cnt c i) n = blk (cnt c i) := hblk' _
            generalize hx : xorB (s.drop (64 * i)) (blk (cnt c i)) = x
            have hxl : x.length = min (s.length - 64 * i) 64 := by rw [← hx, xorB_len64 _ _ (hb64 _), hdl]
            have hxlt : ∀ y ∈ x, y < 256 := by rw [← hx]; exact xorB_lt (slB_lt h3) (hblt _)
            have hal := applied_length blk hb64 c s i (by omega)
            -- the heap at the append
            generalize hH2 : (H.new (.cells (bytesOf (blk (cnt c i))) 23 1 true)).new (.cells (bytesOf x) 5 1 true) = H2
            have hE2 : Ext h0 H2 := by rw [← hH2]; exact (hE.trans_new _).trans_new _
            have hF2 : Fresh H2 := by rw [← hH2]; exact (hF.new _).new _
            have ho2 : OwnB h0 H2 5 (e.at 9) (appliedTo blk c s i) := by rw [← hH2]; exact Own.ext_new _ (Own.ext_new _ ho hF) (hF.new _)
            have hxs : slB H2 (.slice (H.next + 1) 0 x.length none) = some x := by rw [← hH2]; simp (config := {maxSteps := 1000000, maxDischargeDepth := 9, implicitDefEqProofs := false}) [asB_bytesOf hxlt]
            obtain ⟨v3, H3, a1, a2, a3, a4, a5, a6, a7⟩ := ho2.app hE2 hF2 (slB_added hxs) (by omega)
            have hcut := slB_cut' (l := x.length) (r := s.length - 64 * i) h3 (by omega) (by omega)
            rw [List.take_of_length_le (by omega)] at hcut
            have hdrop : (s.drop (64 * i)).drop x.length = s.drop (64 * (i + 1)) := by
              rw [List.drop_drop, hxl]
              by_cases hq : s.length - 64 * i ≤ 64
              · rw [Nat.min_eq_left hq, List.drop_eq_nil_of_le (by omega), List.drop_eq_nil_of_le (by omega)]
              · rw [Nat.min_eq_right (by omega)]; congr 1
            have hviH3 := slB_ext ((hEh.trans a3)) hf h3
            have hpos' : 64 * i < s.length := by omega
            have hcap : ∀ (h : Heap) (a : Nat), sliceV h 1 (.slice a 0 64 (some 64)) none none none = some (.slice a 0 64 (some 64)) := fun h a => by simp [sliceV, bounds, maxOf, highOf, lowOf, bound]
            have hx64 : x.length ≤ 64 := by omega
            have hxlim : x.length ≤ 140737488354304 := by omega
            have hxle : x.length ≤ s.length - 64 * i := by omega
            rw [← hH2] at a1
            simp (config := {maxSteps := 1000000, maxDischargeDepth := 9, implicitDefEqProofs := false}) [c12_l0, hn', h4, h6, h1, hvi, hvl, hsl, gk', gn', tk, tn, hBl, s_Block, hk, hn, hl1, hl2, hcr, hpos, hpos', mem_bytes_one, hcap, hb64, bytesOf_length, hX, s_Xor, hviH, hltH, hltk, asB_bytesOf (hblt _), hx, hxlim, a1, slice_lo, hviH3, hxle]
            refine ⟨rfl, ?_, lt_cut hl3' _ _ _, ?_, a3, a4, a6 hne⟩
            · rw [hcut.1, hdrop]
            · simp only [appliedTo]; rw [hx]; exact a2)
          (by
            rintro e H ⟨hn', h4, h6, h1, h3, hl3', ho, hE, hF, hne⟩
            have hnil : s.drop (64 * m) = [] := List.drop_eq_nil_of_le (by omega)
            have hall := applied_all blk s c m
            rw [hnil, applyF_nil, List.append_nil] at hall
            rw [hnil] at h3
            have hvl := slB_vlen h3
            have hsl := slB_isSl h3
            simp (config := {maxSteps := 1000000, maxDischargeDepth := 9, implicitDefEqProofs := false}) [c12_l0, hn', hvl, hsl]
            rw [← hall]
            exact ⟨ho, hE, hF, hne⟩)
        subst hA
        simp (config := {maxSteps := 1000000, maxDischargeDepth := 9, implicitDefEqProofs := false}) [c12, mem_bytes_one]
        refine loop_then (K := fun r => finS _ (seqS _ _ _ (blockS _ r))) (L 0 _ _ (Nat.zero_le _) ?_ (Nat.lt_succ_self _)) ?_
        · simp (config := {maxSteps := 1000000, maxDischargeDepth := 9, implicitDefEqProofs := false}) [hv, hlv, cnt, appliedTo]
          exact ⟨OwnB.start _ _, Ext.new _ _, hF0.new _⟩
        · rintro x e' H ⟨rfl, hn', ho, hE, hF, hne⟩
          simp (config := {maxSteps := 1000000, maxDischargeDepth := 9, implicitDefEqProofs := false}) [hn']
          exact (ho.base (h := h) (by simp)).canon hf hsc (hEh.trans hE) hne
      · cases hs
    · cases hs
  · cases hs

/-- A row that grew from nothing: nil, or new. -/
def nilOr (h : Heap) (t : Nat) (s : List Nat) : V × Heap := if s = [] then (.nilslice, h) else (newV h s.length, h.new (.cells (bytesOf s) t 1 true))
theorem nilOr_canon {h H : Heap} {t : Nat} {v : V} {s : List Nat} (hf : Fresh h) (hsc : Scoped h) (hE : Ext h H) (ho : OwnB h H t v s) (hn : s = [] → v = .nilslice) : ∃ τ, Canon h.next H v (nilOr h t s).2 (nilOr h t s).1 τ := by
  unfold nilOr
  by_cases hs : s = []
  · obtain rfl := hn hs
    subst hs
    rw [if_pos rfl]
    exact Canon.keep hf hsc hE (by simp only [V.lt])
  · rw [if_neg hs]
    refine ho.canon hf hsc hE ?_
    rintro rfl
    rcases ho with ⟨_, h2, _⟩ | ⟨b, c, h1, _⟩
    · exact hs (List.length_eq_zero_iff.1 h2)
    · cases h1

/-- portholeref1.Xor. -/
def s_XorR : List V → Heap → Option (V × Heap)
  | [v, w], h => match slB h v, slB h w with
    | some a, some b => if (xorB a b).length ≤ lim then some (nilOr h 5 (xorB a b)) else none
    | _, _ => none
  | _, _ => none

theorem XorR_ok (cf : ACall) : Sum cf c15 s_XorR := by
  intro args h v h' hf hsc hlt hs
  unfold s_XorR at hs
  split at hs
  · rename_i va vb
    split at hs
    · rename_i a b ha hb
      split at hs
      · rename_i hl
        simp only [Option.some.injEq] at hs
        have hlva : V.lt h.next va := by simp only [ltL] at hlt; exact hlt.1
        have hlvb : V.lt h.next vb := by simp only [ltL] at hlt; exact hlt.2.1
        have hlim : lim = 140737488354304 := rfl
        have h1 := slB_isSl ha
        have h2 := slB_vlen ha
        have h3 := slB_isSl hb
        have h4 := slB_vlen hb
        obtain ⟨n, hn⟩ : ∃ n, n = (xorB a b).length := ⟨_, rfl⟩
        have hn2 := xorB_length a b
        rw [← hn] at hl hn2
        refine ⟨n + 1, ?_⟩
        have L := loop_count (cf := cf) (N := n + 1) (c := c15_l0) n
          (fun i e H => e.n = 32 ∧ e.at 0 = va ∧ e.at 1 = vb ∧ e.at 6 = .int .i64 (i : Int) ∧ OwnB h H 5 (e.at 5) ((xorB a b).take i) ∧ Ext h H ∧ Fresh H ∧ (i = 0 → e.at 5 = .nilslice))
          (fun x' e H => x' = .exit 0 ∧ e.n = 32 ∧ OwnB h H 5 (e.at 5) (xorB a b) ∧ Ext h H ∧ Fresh H ∧ (n = 0 → e.at 5 = .nilslice))
          (by
            rintro i e H hi ⟨hn', h0, h1', h6, ho, hE, hF, hnil⟩
            have hia : i < a.length := by omega
            have hib : i < b.length := by omega
            have hxa := slB_lt ha a[i] (by simp)
            have hxb := slB_lt hb b[i] (by simp)
            have hx8 := xor8 hxa hxb
            have haH := slB_ext hE hf ha
            have hbH := slB_ext hE hf hb
            have hx256 := xor_lt hxa hxb
            have htk : (xorB a b).take (i + 1) = (xorB a b).take i ++ [a[i] ^^^ b[i]] := by
              rw [List.take_succ_eq_append_getElem (by omega)]
              simp [xorB]
            have hlen : ((xorB a b).take i).length = i := by simp; omega
            generalize hx : a[i] ^^^ b[i] = x at *
            have hxs : slB (H.new (.cells [.int .u8 (x : Int)] 5 1 true)) (.slice H.next 0 1 (some 1)) = some [x] := by
              rw [slB_oneE rfl (.inr rfl) (by omega) (by omega)]; simp
            obtain ⟨v3, H3, a1, a2, a3, a4, a5, a6, a7⟩ := (show OwnB h (H.new (.cells [.int .u8 (x : Int)] 5 1 true)) 5 (e.at 5) ((xorB a b).take i) from Own.ext_new _ ho hF).app (hE.trans_new _) (hF.new _) (slB_added hxs) (by rw [hlen]; simp; omega)
            simp (config := {maxSteps := 1000000, maxDischargeDepth := 9, implicitDefEqProofs := false}) [c15_l0, hn', h0, h1', h6, h1, h2, h3, h4, hia, hib, haH, hbH, modK, hx8, hx, a1, wrap_i64 (x := (i : Int) + 1) (by omega) (by omega)]
            rw [htk]
            exact ⟨a2, a3, a4⟩)
          (by
            rintro e H ⟨hn', h0, h1', h6, ho, hE, hF, hnil⟩
            rw [List.take_of_length_le (by omega)] at ho
            by_cases hna : n < a.length
            · have hnb : ¬ n < b.length := by omega
              simp (config := {maxSteps := 1000000, maxDischargeDepth := 9, implicitDefEqProofs := false}) [c15_l0, hn', h0, h1', h6, h1, h2, h3, h4, hna, hnb]
              exact ⟨ho, hE, hF, hnil⟩
            · simp (config := {maxSteps := 1000000, maxDischargeDepth := 9, implicitDefEqProofs := false}) [c15_l0, hn', h0, h1', h6, h1, h2, h3, h4, hna]
              exact ⟨ho, hE, hF, hnil⟩)
        simp (config := {maxSteps := 1000000, maxDischargeDepth := 9, implicitDefEqProofs := false}) [c15]
        refine loop_then (K := fun r => finS _ (seqS _ _ _ (blockS _ r))) (L 0 _ _ (Nat.zero_le _) ?_ (Nat.lt_succ_self _)) ?_
        · simp (config := {maxSteps := 1000000, maxDischargeDepth := 9, implicitDefEqProofs := false})
          exact ⟨OwnB.start_nil _ _, Ext.refl _, hf⟩
        · rintro x e' H ⟨rfl, hn', ho, hE, hF, hnil⟩
          simp (config := {maxSteps := 1000000, maxDischargeDepth := 9, implicitDefEqProofs := false}) [hn']
          have := nilOr_canon hf hsc hE ho (fun h0 => hnil (by rw [hn, h0]; rfl))
          rw [hs] at this
          exact this
      · cases hs
    · cases hs
  · cases hs

theorem xorB_take (s b : List Nat) : xorB s b = xorB (s.take b.length) b := by
  unfold xorB
  induction b generalizing s with
  | nil => simp
  | cons y b ih => cases s with
    | nil => simp
    | cons x s => simp only [List.length_cons, List.take_succ_cons, List.zipWith_cons_cons]; rw [ih]
theorem xorB_twice (s b : List Nat) : xorB (xorB s b) b = s.take b.length := by
  unfold xorB
  induction b generalizing s with
  | nil => simp
  | cons y b ih => cases s with
    | nil => simp
    | cons x s => simp only [List.length_cons, List.take_succ_cons, List.zipWith_cons_cons, Nat.xor_assoc, Nat.xor_self, Nat.xor_zero]; rw [ih]
theorem applyF_length (blk : Int → List Nat) (hb : ∀ c, (blk c).length = 64) : ∀ (f : Nat) (c : Int) (s : List Nat), s.length ≤ f → (applyF blk c s).length = s.length
  | 0, c, s, h => by
    obtain rfl := List.length_eq_zero_iff.1 (Nat.le_zero.1 h); rfl
  | f + 1, c, s, h => by
    by_cases hs : s = []
    · subst hs; rfl
    · have hp := List.length_pos_iff.2 hs
      rw [applyF_cons _ _ _ hs, List.length_append, applyF_length blk hb f _ _ (by simp; omega), xorB_length, hb, List.length_drop]
      omega
theorem applyF_lt (blk : Int → List Nat) (hb : ∀ c, ∀ y ∈ blk c, y < 256) : ∀ (f : Nat) (c : Int) (s : List Nat), s.length ≤ f → (∀ y ∈ s, y < 256) → ∀ y ∈ applyF blk c s, y < 256
  | 0, c, s, h, _ => by
    obtain rfl := List.length_eq_zero_iff.1 (Nat.le_zero.1 h)
    intro y hy; cases hy
  | f + 1, c, s, h, hl => by
    by_cases hs : s = []
    · subst hs; intro y hy; cases hy
    · have hp := List.length_pos_iff.2 hs
      rw [applyF_cons _ _ _ hs]
      intro y hy
      rcases List.mem_append.1 hy with hy | hy
      · exact xorB_lt hl (hb _) y hy
      · exact applyF_lt blk hb f _ _ (by simp; omega) (fun y hy => hl y (List.mem_of_mem_drop hy)) y hy
theorem applyF_twice (blk : Int → List Nat) (hb : ∀ c, (blk c).length = 64) : ∀ (f : Nat) (c : Int) (s : List Nat), s.length ≤ f → applyF blk c (applyF blk c s) = s
  | 0, c, s, h => by
    obtain rfl := List.length_eq_zero_iff.1 (Nat.le_zero.1 h); rfl
  | f + 1, c, s, h => by
    by_cases hs : s = []
    · subst hs; rfl
    · have hp := List.length_pos_iff.2 hs
      have hx := xorB_len64 s (blk c) (hb c)
      have hne : applyF blk c s ≠ [] := by
        intro h0
        have := applyF_length blk hb _ c s (Nat.le_refl _)
        rw [h0] at this; simp at this; omega
      rw [applyF_cons _ _ (applyF blk c s) hne]
      rw [applyF_cons _ _ s hs]
      have ih := applyF_twice blk hb f (add32 c 1) (s.drop 64) (by simp; omega)
      by_cases hl : s.length ≤ 64
      · have hd : s.drop 64 = [] := List.drop_eq_nil_of_le hl
        rw [hd, applyF_nil, List.append_nil, xorB_twice, hb, List.take_of_length_le hl, List.drop_eq_nil_of_le (by omega), applyF_nil, List.append_nil]
      · have h1 : (xorB s (blk c)).length = 64 := by omega
        rw [List.drop_left' h1, ih, xorB_take, hb, List.take_left' h1, xorB_twice, hb, List.take_append_drop]
theorem applied_take (blk : Int → List Nat) (hb : ∀ c, (blk c).length = 64) (c : Int) (s : List Nat) (k : Nat) : ∀ i, i ≤ k → appliedTo blk c (s.take (64 * k)) i = appliedTo blk c s i
  | 0, _ => rfl
  | i + 1, h => by
    simp only [appliedTo]
    rw [applied_take blk hb c s k i (by omega), xorB_take _ (blk _), xorB_take (s.drop _) (blk _), hb, List.drop_take, List.take_take, Nat.min_eq_left (by omega)]
theorem applyF_split (blk : Int → List Nat) (hb : ∀ c, (blk c).length = 64) (c : Int) (s : List Nat) (k : Nat) : applyF blk c (s.take (64 * k)) ++ applyF blk (cnt c k) (s.drop (64 * k)) = applyF blk c s := by
  have h1 := applied_all blk s c k
  have h2 := applied_all blk (s.take (64 * k)) c k
  rw [List.drop_take, Nat.sub_self, List.take_zero, applyF_nil, List.append_nil, applied_take blk hb c s k k (Nat.le_refl _)] at h2
  rw [← h2, h1]
theorem wrapw (x : Int) : wrapF .u32 x = x % 4294967296 := by rfl
theorem cnt_eq (c : Int) (h0 : 0 ≤ c) (h1 : c < 4294967296) : ∀ k : Nat, cnt c k = (c + (k : Int)) % 4294967296
  | 0 => by simp only [cnt]; omega
  | k + 1 => by
    simp only [cnt, add32, wrapw]
    rw [cnt_eq c h0 h1 k]
    omega
theorem stream_at (blk : Int → List Nat) (hb : ∀ c, (blk c).length = 64) (c : Int) (n i : Nat) (hi : i < n) : (applyF blk c (List.replicate n 0))[i]? = (blk (cnt c (i / 64)))[i % 64]? := by
  rw [← applied_all blk (List.replicate n 0) c (i / 64)]
  have hl := applied_length blk hb c (List.replicate n 0) (i / 64) (by simp; omega)
  simp only [List.length_replicate] at hl
  have hm : min n (64 * (i / 64)) = 64 * (i / 64) := by omega
  rw [hm] at hl
  rw [List.getElem?_append_right (by omega), hl]
  have hq : i - 64 * (i / 64) = i % 64 := by omega
  rw [hq, List.drop_replicate]
  have hne : List.replicate (n - 64 * (i / 64)) 0 ≠ ([] : List Nat) := by
    intro h0
    have := congrArg List.length h0
    simp at this; omega
  rw [applyF_cons _ _ _ hne, List.getElem?_append_left (by rw [xorB_length, hb]; simp; omega)]
  have hlt : i % 64 < (blk (cnt c (i / 64))).length := by rw [hb]; omega
  simp only [xorB, List.getElem?_zipWith]
  rw [List.getElem?_eq_getElem hlt, List.getElem?_replicate, if_pos (by omega)]
  simp

theorem xorB_set (s b : List Nat) (k : Nat) (y : Nat) : xorB (s.set k (s.getD k 0 ^^^ y)) b = (xorB s b).set k ((xorB s b).getD k 0 ^^^ y) := by
  unfold xorB
  induction s generalizing b k with
  | nil => simp
  | cons x s ih =>
    cases b with
    | nil => simp
    | cons z b =>
      cases k with
      | zero =>
        simp
        rw [Nat.xor_assoc, Nat.xor_comm y z, ← Nat.xor_assoc]
      | succ k => simpa using ih b k

theorem set_drop_lt {α : Type} (s : List α) (k n : Nat) (y : α) (h : k < n) : (s.set k y).drop n = s.drop n := by
  rw [List.drop_set]; rw [if_pos h]

theorem applyF_set (blk : Int → List Nat) (hb : ∀ c, (blk c).length = 64) (y : Nat) : ∀ (f : Nat) (c : Int) (s : List Nat) (k : Nat), s.length ≤ f → k < s.length →
    applyF blk c (s.set k (s.getD k 0 ^^^ y)) = (applyF blk c s).set k ((applyF blk c s).getD k 0 ^^^ y)
  | 0, c, s, k, h, hk => by omega
  | f + 1, c, s, k, h, hk => by
    have hs : s ≠ [] := by rintro rfl; simp at hk
    have hs2 : s.set k (s.getD k 0 ^^^ y) ≠ [] := by
      intro h0
      have := congrArg List.length h0
      simp at this
      exact hs this
    rw [applyF_cons blk c _ hs, applyF_cons blk c _ hs2]
    have hl : (xorB s (blk c)).length = min s.length 64 := by rw [xorB_length, hb]
    by_cases hk64 : k < 64
    · rw [set_drop_lt _ _ _ _ hk64, xorB_set, List.set_append_left _ _ (by omega)]
      congr 2
      rw [List.getD_eq_getElem?_getD, List.getD_eq_getElem?_getD, List.getElem?_append_left (by omega)]
    · have e1 : xorB (s.set k (s.getD k 0 ^^^ y)) (blk c) = xorB s (blk c) := by
        rw [xorB_take (s.set k _), xorB_take s, hb, List.take_set_of_le (by omega)]
      have e2 : (s.set k (s.getD k 0 ^^^ y)).drop 64 = (s.drop 64).set (k - 64) ((s.drop 64).getD (k - 64) 0 ^^^ y) := by
        rw [List.drop_set, if_neg (by omega)]
        congr 1
        rw [List.getD_eq_getElem?_getD, List.getD_eq_getElem?_getD, List.getElem?_drop]
        congr 3; omega
      rw [e1, e2, applyF_set blk hb y f _ _ _ (by rw [List.length_drop]; omega) (by rw [List.length_drop]; omega)]
      have e3 : k = (xorB s (blk c)).length + (k - 64) := by omega
      rw [List.set_append_right _ _ (by omega)]
      congr 2
      · omega
      · rw [List.getD_eq_getElem?_getD, List.getD_eq_getElem?_getD, List.getElem?_append_right (by omega)]
        congr 3; omega

theorem xorB_self (s : List Nat) : xorB s s = List.replicate s.length 0 := by
  unfold xorB
  induction s with
  | nil => rfl
  | cons x s ih => simp only [List.zipWith_cons_cons, ih, Nat.xor_self, List.length_cons, List.replicate_succ]

theorem bytesOf_put (s : List Nat) (q z : Nat) (hq : q < s.length) : (bytesOf s).take q ++ V.int .u8 (z : Int) :: (bytesOf s).drop (q + 1) = bytesOf (s.set q z) := by
  have : (bytesOf s).set q (V.int .u8 (z : Int)) = bytesOf (s.set q z) := by simp [bytesOf, List.map_set]
  rw [← this, List.set_eq_take_append_cons_drop, if_pos (by rw [bytesOf_length]; exact hq)]
theorem law_ChachaTurns (cf : ACall) (hknown : ∀ a h, cf 11 a h = s_known a h) (hPick : ∀ a h, cf 14 a h = s_Pick a h) (hBytes : ∀ a h, cf 13 a h = s_Bytes a h) (hApply : ∀ a h, cf 12 a h = s_Apply a h) (hX : ∀ a h, cf 15 a h = s_XorR a h)
    (h : Heap) (k nn : List Nat) (c n att : Int) (y : Nat) (hf : Fresh h) (hk : k.length = 32) (hkl : ∀ y ∈ k, y < 256) (hn : nn.length = 12) (hnl : ∀ y ∈ nn, y < 256) (hc0 : 0 ≤ c) (hc1 : c < 4294967296) (hy : y < 256) :
    ∃ N, Runs (bodyA cf N c5 [.agg (bytesOf k), .int .u32 c, .agg (bytesOf nn), .int .i64 n, .int .i64 att, .int .u8 y] h) fun v _ => v = .bool true := by
  have hp0 := Int.emod_nonneg n (show (300 : Int) ≠ 0 by omega)
  have hp1 := Int.emod_lt_of_pos n (show (0 : Int) < 300 by omega)
  obtain ⟨m, hm⟩ : ∃ m : Nat, n % 300 = (m : Int) - 1 := ⟨(n % 300).toNat + 1, by omega⟩
  have hm0 : 0 < m := by omega
  have hm0I : (0 : Int) < (m : Int) := by omega
  have hm1 : m ≤ 300 := by omega
  have hw1 : wrapF .i64 (1 + ((m : Int) - 1)) = (m : Int) := by rw [wrap_i64 (by omega) (by omega)]; omega
  have hmlim : m ≤ 140737488354304 := by omega
  have hmlimI : (m : Int) ≤ 140737488354304 := by omega
  have hq0 := Int.emod_nonneg att (show (m : Int) ≠ 0 by omega)
  have hq1 := Int.emod_lt_of_pos att hm0I
  obtain ⟨q, hq⟩ : ∃ q : Nat, att % (m : Int) = (q : Int) := ⟨(att % (m : Int)).toNat, by omega⟩
  have hqm : q < m := by omega
  have hqmI : (q : Int) < (m : Int) := by omega
  have tk : (bytesOf k).take 32 = bytesOf k := List.take_of_length_le (by rw [bytesOf_length]; omega)
  have tn : (bytesOf nn).take 12 = bytesOf nn := List.take_of_length_le (by rw [bytesOf_length]; omega)
  have ak := aggB_of hkl
  have an := aggB_of hnl
  generalize hblk : (fun c => blockF k c nn) = blk
  have hb64 : ∀ c, (blk c).length = 64 := fun c => by rw [← hblk]; exact blockF_length k c nn
  have hblt : ∀ c, ∀ y ∈ blk c, y < 256 := fun c => by rw [← hblk]; exact blockF_lt k c nn
  generalize hs : rawB m (n % 18446744073709551616) = s
  have hsl : s.length = m := by rw [← hs, rawB_length]
  have hslt : ∀ y ∈ s, y < 256 := by rw [← hs]; exact rawB_lt _ _
  have hsa := asB_bytesOf hslt
  generalize hx : applyF blk c s = x
  have hxl : x.length = m := by rw [← hx, applyF_length blk hb64 _ _ _ (Nat.le_refl _), hsl]
  have hxlt : ∀ y ∈ x, y < 256 := by rw [← hx]; exact applyF_lt blk hblt _ _ _ (Nat.le_refl _) hslt
  have hxa := asB_bytesOf hxlt
  have hqs : q < s.length := by omega
  have hqx : q < x.length := by omega
  have g7 : q + 1 ≤ m := by omega
  have g8 : (m ≤ q) = False := eq_false (by omega)
  have hsq := hslt s[q] (by simp)
  have hxq := hxlt x[q] (by simp)
  have hz1 := xor8 hsq hy
  have hz2 := xor8 hxq hy
  have hp1 := bytesOf_put s q (s[q] ^^^ y) hqs
  have hp2 := bytesOf_put x q (x[q] ^^^ y) hqx
  have hset := applyF_set blk hb64 y s.length c s q (Nat.le_refl _) hqs
  have hg1 : s.getD q 0 = s[q] := by rw [List.getD_eq_getElem?_getD, List.getElem?_eq_getElem hqs]; rfl
  have hg2 : x.getD q 0 = x[q] := by rw [List.getD_eq_getElem?_getD, List.getElem?_eq_getElem hqx]; rfl
  rw [hx, hg1, hg2] at hset
  generalize hs2 : s.set q (s[q] ^^^ y) = s2 at *
  generalize hx2 : x.set q (x[q] ^^^ y) = x2 at *
  have hs2l : s2.length = m := by rw [← hs2, List.length_set, hsl]
  have hx2l : x2.length = m := by rw [← hx2, List.length_set, hxl]
  have hs2t : ∀ y ∈ s2, y < 256 := by
    rw [← hs2]; intro z hz
    rcases List.mem_or_eq_of_mem_set hz with hz | rfl
    · exact hslt z hz
    · exact xor_lt hsq hy
  have hx2t : ∀ y ∈ x2, y < 256 := by
    rw [← hset]; exact applyF_lt blk hblt _ _ _ (Nat.le_refl _) hs2t
  have hs2a := asB_bytesOf hs2t
  have hx2a := asB_bytesOf hx2t
  have hself := xorB_self x2
  rw [hx2l] at hself
  generalize hzz : List.replicate m 0 = zz at *
  have hzl : zz.length = m := by rw [← hzz, List.length_replicate]
  have hzt : ∀ y ∈ zz, y < 256 := by
    rw [← hzz]; intro z hz
    have := (List.mem_replicate.1 hz).2
    omega
  have hza := asB_bytesOf hzt
  have hzn : zz ≠ [] := by rintro rfl; simp at hzl; omega
  have hxn : ∀ h, nilOr h 5 zz = (newV h zz.length, h.new (.cells (bytesOf zz) 5 1 true)) := fun h => by unfold nilOr; rw [if_neg hzn]
  have hzb : List.replicate m (V.int .u8 0) = bytesOf zz := by rw [← hzz]; simp [bytesOf]
  have ga : m ≤ 140737488355328 := by omega
  have gb : (m : Int) ≤ 140737488355328 := by omega
  have g6 : (m : Int) ≤ 4611686018427387904 := by omega
  refine ⟨1, ?_⟩
  simp (config := {maxSteps := 1000000, maxDischargeDepth := 9, implicitDefEqProofs := false}) [c5, mem_bytes_one, hPick, s_Pick, hm, hw1, hq, hBytes, s_Bytes, hmlim, hmlimI, hm0, hm0I, hApply, s_Apply, tk, tn, ak, an, hk, hn, hblk, hs, hsl, hsa, hx, hxl, hqm, hqmI, hknown, s_known, hxa, g6, g7, hz1, hz2, hp1, hp2, hset, hs2l, hx2l, hs2a, hx2a, hself, hX, s_XorR, modK, g8, hxn, hzl, hza, hzb, ga, gb]

end
end Go.Proofs.Ytjdofdokdemnkaa.ChachaTurns
