/- What the functions that the law ChachaBlocks reaches do, each told once, and the law by them. No condition. -/
import Derived.Test.YtjdofdokdemnkaaDoorCodeChachaBlocks
namespace Go.Proofs.YtjdofdokdemnkaaDoor.ChachaBlocks
open Go Go.Proofs.YtjdofdokdemnkaaDoorA
set_option linter.unusedSimpArgs false
set_option linter.unusedVariables false
set_option maxHeartbeats 4000000
set_option maxRecDepth 100000
attribute [local simp] body_eq exec_seq exec_region exec_skip exec_ret exec_exit exec_cond exec_block seqS_normal seqS_ret seqS_exit seqS_none seqS_bif regS_some regS_none regS_bif condS_bool condS_true
  condS_false blockS_normal blockS_ret blockS_exit blockS_none blockS_bif finS_normal finS_ret finS_bif steps_nil steps_cons steps_guard bindS_some bindS_none bindS_bif endS_some
  endS_skip endS_none endS_bif gstep_some gstep_true gstep_false wantV_true wantV_false wantV_undef wantV_gdv_true wantV_gdv_false gdv_true gdv_false aop_pick pickS_or pickS_and
  pickS_true pickS_false bif_bool put_some put_none Env.at_put Env.n_put at_init n_init Opd.ev ressA resA pack Heap.get_new Heap.get_set nextOf_new Heap.next_set nth fillV zeros over
  eqv read_eq read_zero readB_cells one_bool one_int one_str one_ptr one_nilptr one_slice one_nilslice cells_bool cells_int cells_str cells_ptr cells_nilptr cells_slice
  cells_nilslice cells_agg aop_move aop_box aop_boxv boxvS_agg boxvS_int boxvS_bool boxvS_str boxvS_slice boxvS_nilslice aop_build buildS_some aop_buildSlice buildSliceS_some
  aop_load loadS_ptr loadB_cells loadC_some aop_loadn loadnS_ptr aop_store storeS_ptr writeB_cells aop_bin binS_lss binS_leq binS_gtr binS_geq binS_eql binS_neq binS_add binS_sub
  binS_mul binS_quo binS_rem binS_and binS_or binS_xor binS_shl binS_shr binS_seql binS_sneq binS_sadd aop_eq eqS_some_f eqS_some_t aop_un unS_not unS_neg aop_conv convS_int
  aop_convStr convStrS_str aop_intStr intStrS_int aop_strBytes strBytesS_str aop_bytesStr bytesStrS_nil bytesStrS_slice aop_mkIface aop_mkFunc aop_makeSlice makeS_int aop_sliceStr
  sliceStrS_str sliceStrB_some someS_some aop_sliceSl aop_sliceArr sliceArrS_ptr aop_fieldAddr fieldAddrS_ptr aop_field fieldS_agg fieldS_aggn aop_indexAddrA indexAddrAS_ptr
  aop_indexAddrS indexAddrSS_slice aop_indexA indexAS_agg byteS_some aop_indexStr indexStrS_str aop_extract extractS_tuple aop_call callS_func aop_append aop_copy aop_lenS lenSS_str
  aop_lenL lenLS_nil lenLS_slice aop_minmax minmaxS_min minmaxS_max aop_convSame convSameS_slice convSameB_cells aop_lenC Heap.set_newE Heap.kill_newE Heap.set_new_ne
  Heap.set_gone_ne Heap.set_set Heap.get_gone Heap.next_gone loopE_n loopE_at Runs_some Ends_some Ends_none Runs_none VCL_nil VCL_cons VC_tuple VC_agg VC_bool VC_int VC_str VC_nil
  VC_nilptr VC_ptr VC_slice_nn VC_slice_ns VC_slice_s moved_at most_val lim_val next_add vlen_slice vlen_nil isSl_slice isSl_nil atP_slice newV sl_new slB_new slK_new sl_gone
  slB_gone slK_gone lt_slice lt_nil lt_ptr lt_cut sl_selfE slB_litE slK_litE asB asB_bytesOf asK asK_map slB_nil slK_nil slBs Fresh.new Fresh.gone indexE bytesStrE loadBE slice_lo
  slice_hi slice_lohi slB_cut vlen_cut isSl_cut one_cut cells_cut lenE IntKind.bits Int.fdiv_eq_ediv_of_nonneg bytesOf_length sameV_refl gval_true gval_false gval_some traceA_nil
  traceA_cons consT_some mapT_some stepV_none stepV_guard exec_any anyS_some chkOk_nil chkOk_cons sameS_some chk2_some chk1_eq envL_nil envL_cons heapL_nil heapL_cons heapO_some
  heapB_zero heapB_succ isWriter nth_bytesOf nth_ints str_hi str_lo wrap_i64 wrap_i32 wrap_u64 wrap_u32 wrap_u8
attribute [local congr] gstep_congr gval_congr
noncomputable section
/-- A word turned left. -/
def rotl (x : Int) (k : Nat) : Int := wrapF .u32 (((wrapF .u32 (x * 2 ^ k) % 4294967296).toNat ||| ((x / 2 ^ (32 - k)) % 4294967296).toNat : Nat) : Int)

/-- bits.RotateLeft32, by 16, 12, 8 or 7. -/
def s_Rot : List V → Heap → Option (V × Heap)
  | [.int .u32 x, .int .i64 k], h => if k = 16 ∨ k = 12 ∨ k = 8 ∨ k = 7 then some (.int .u32 (rotl x k.toNat), h) else none
  | _, _ => none
theorem Rot_ok (cf : ACall) : Sum cf c19 s_Rot := by
  intro args h v h' hf hsc hlt hs
  unfold s_Rot at hs
  split at hs
  · rename_i x k
    split at hs
    · rename_i hk
      simp only [Option.some.injEq, Prod.mk.injEq] at hs
      obtain ⟨rfl, rfl⟩ := hs
      refine ⟨1, ?_⟩
      rcases hk with rfl | rfl | rfl | rfl <;>
        (simp (config := {maxSteps := 1000000, maxDischargeDepth := 9, implicitDefEqProofs := false}) [c19, modK, rotl]
         exact Canon.keep hf hsc (Ext.refl _) (by simp only [V.lt]))
    · cases hs
  · cases hs

def add32 (a b : Int) : Int := wrapF .u32 (a + b)
def xor32 (a b : Int) : Int := wrapF .u32 (((a % 4294967296).toNat ^^^ (b % 4294967296).toNat : Nat) : Int)
/-- A quarter round. -/
def quarterF (a b c d : Int) : Int × Int × Int × Int :=
  let a1 := add32 a b
  let d1 := rotl (xor32 d a1) 16
  let c1 := add32 c d1
  let b1 := rotl (xor32 b c1) 12
  let a2 := add32 a1 b1
  let d2 := rotl (xor32 d1 a2) 8
  let c2 := add32 c1 d2
  let b2 := rotl (xor32 b1 c2) 7
  (a2, b2, c2, d2)

/-- chacha.Quarter. -/
def s_Quarter : List V → Heap → Option (V × Heap)
  | [.int .u32 a, .int .u32 b, .int .u32 c, .int .u32 d], h => some (.tuple [.int .u32 (quarterF a b c d).1, .int .u32 (quarterF a b c d).2.1, .int .u32 (quarterF a b c d).2.2.1, .int .u32 (quarterF a b c d).2.2.2], h)
  | _, _ => none
theorem Quarter_ok (cf : ACall) (hRot : ∀ a h, cf 19 a h = s_Rot a h) : Sum cf c6 s_Quarter := by
  intro args h v h' hf hsc hlt hs
  unfold s_Quarter at hs
  split at hs
  · rename_i a b c d
    simp only [Option.some.injEq, Prod.mk.injEq] at hs
    obtain ⟨rfl, rfl⟩ := hs
    refine ⟨1, ?_⟩
    have e1 : ∀ x y, wrapF .u32 (x + y) = add32 x y := fun _ _ => rfl
    have e2 : ∀ x y : Int, wrapF .u32 (((x % 4294967296).toNat ^^^ (y % 4294967296).toNat : Nat) : Int) = xor32 x y := fun _ _ => rfl
    simp (config := {maxSteps := 1000000, maxDischargeDepth := 9, implicitDefEqProofs := false}) [c6, hRot, s_Rot, modK, e1, e2, quarterF]
    exact Canon.keep hf hsc (Ext.refl _) (by simp only [V.lt, ltL, and_self])
  · cases hs

/-- A quarter round of four of a block's words. -/
def qr (v : List Int) (a b c d : Nat) : List Int :=
  let q := quarterF (v.getD a 0) (v.getD b 0) (v.getD c 0) (v.getD d 0)
  (((v.set a q.1).set b q.2.1).set c q.2.2.1).set d q.2.2.2
theorem qr_length (v : List Int) (a b c d : Nat) : (qr v a b c d).length = v.length := by simp [qr]

/-- The function within chacha.Block. -/
def s_Blk1 : List V → Heap → Option (V × Heap)
  | [.int .i64 a, .int .i64 b, .int .i64 c, .int .i64 d, .ptr p 0], h => match h.get p with
    | some (.cells cs t z true) => match asK .u32 cs with
      | some v => if v.length = 16 ∧ (0 ≤ a ∧ a < 16) ∧ (0 ≤ b ∧ b < 16) ∧ (0 ≤ c ∧ c < 16) ∧ (0 ≤ d ∧ d < 16) then some (.undef, h.set p (some (.cells ((qr v a.toNat b.toNat c.toNat d.toNat).map (V.int .u32)) t z true))) else none
      | none => none
    | _ => none
  | _, _ => none

theorem Blk1_ok (cf : ACall) (hQuarter : ∀ a h, cf 6 a h = s_Quarter a h) : Sum cf c22 s_Blk1 := by
  intro args h v h' hf hsc hlt hs
  unfold s_Blk1 at hs
  split at hs
  · rename_i a b c d p
    split at hs
    · rename_i cs t z hg
      split at hs
      · rename_i w hw
        split at hs
        · rename_i hc
          obtain ⟨hlen, ha, hb, hc, hd⟩ := hc
          simp only [Option.some.injEq, Prod.mk.injEq] at hs
          obtain ⟨rfl, rfl⟩ := hs
          have hcs := asK_some.1 hw
          subst hcs
          obtain ⟨a, rfl⟩ : ∃ n : Nat, a = (n : Int) := ⟨a.toNat, by omega⟩
          obtain ⟨b, rfl⟩ : ∃ n : Nat, b = (n : Int) := ⟨b.toNat, by omega⟩
          obtain ⟨c, rfl⟩ : ∃ n : Nat, c = (n : Int) := ⟨c.toNat, by omega⟩
          obtain ⟨d, rfl⟩ : ∃ n : Nat, d = (n : Int) := ⟨d.toNat, by omega⟩
          have a1 : a < 16 := by omega
          have b1 : b < 16 := by omega
          have c1 : c < 16 := by omega
          have d1 : d < 16 := by omega
          have a2 : (a : Int) < 16 := by omega
          have b2 : (b : Int) < 16 := by omega
          have c2 : (c : Int) < 16 := by omega
          have d2 : (d : Int) < 16 := by omega
          have ga : w[a]'(by omega) = w.getD a 0 := by rw [List.getD_eq_getElem?_getD, List.getElem?_eq_getElem (by omega)]; rfl
          have gb : w[b]'(by omega) = w.getD b 0 := by rw [List.getD_eq_getElem?_getD, List.getElem?_eq_getElem (by omega)]; rfl
          have gc : w[c]'(by omega) = w.getD c 0 := by rw [List.getD_eq_getElem?_getD, List.getElem?_eq_getElem (by omega)]; rfl
          have gd : w[d]'(by omega) = w.getD d 0 := by rw [List.getD_eq_getElem?_getD, List.getElem?_eq_getElem (by omega)]; rfl
          have hres : bodyA cf 1 c22 [.int .i64 a, .int .i64 b, .int .i64 c, .int .i64 d, .ptr p 0] h = some (.undef, h.set p (some (.cells ((qr w a b c d).map (V.int .u32)) t z true))) := by
            simp (config := {maxSteps := 1000000, maxDischargeDepth := 9, implicitDefEqProofs := false}) [c22, hg, hQuarter, s_Quarter, a1, b1, c1, d1, a2, b2, c2, d2, hlen, -over, over_set, map_set, Nat.succ_le_of_lt a1, Nat.succ_le_of_lt b1, Nat.succ_le_of_lt c1, Nat.succ_le_of_lt d1, -List.map_set, qr]
            rfl
          exact ⟨1, _, _, hres, Canon.self rfl (hf.setS hg) (hsc.setFlat (flat_ints _ _)) (by simp only [V.undef, V.lt, ltL])⟩
        · cases hs
      · cases hs
    · cases hs
  · cases hs

/-- A number of the first bytes, as it is gathered. -/
def orU (a b : Int) : Int := wrapF .u64 (((a % 18446744073709551616).toNat ||| (b % 18446744073709551616).toNat : Nat) : Int)
def getU (s : List Nat) : Nat → Int
  | 0 => 0
  | i + 1 => orU (getU s i) (wrapF .u64 ((s.getD i 0 : Int) * 2 ^ (8 * i)))

/-- octet.get. -/
def s_get : List V → Heap → Option (V × Heap)
  | [v, .int .i64 n], h => match slB h v with
    | some s => if 0 ≤ n ∧ n ≤ 8 then some (if (s.length : Int) < n then .tuple [.int .u64 0, .bool false] else .tuple [.int .u64 (getU s n.toNat), .bool true], h) else none
    | none => none
  | _, _ => none

theorem get_ok (cf : ACall) : Sum cf c37 s_get := by
  intro args h v h' hf hsc hlt hs
  unfold s_get at hs
  split at hs
  · rename_i vb n0
    split at hs
    · rename_i s hb
      split at hs
      · rename_i hn0
        simp only [Option.some.injEq, Prod.mk.injEq] at hs
        obtain ⟨rfl, rfl⟩ := hs
        obtain ⟨n, rfl⟩ : ∃ n : Nat, n0 = (n : Int) := ⟨n0.toNat, by omega⟩
        have hn8 : n ≤ 8 := by omega
        have hsl := slB_isSl hb
        have hvl := slB_vlen hb
        simp only [Int.toNat_natCast] at *
        refine ⟨n + 1, ?_⟩
        by_cases hc : s.length < n
        · have hc' : ((s.length : Int) < (n : Int)) := by omega
          rw [if_pos hc']
          simp (config := {maxSteps := 1000000, maxDischargeDepth := 9, implicitDefEqProofs := false}) [c37, hsl, hvl, hc]
          exact Canon.keep hf hsc (Ext.refl _) (by simp [V.lt, ltL])
        · have hc' : ¬ ((s.length : Int) < (n : Int)) := by omega
          rw [if_neg hc']
          have L := loop_count (cf := cf) (N := n + 1) (c := c37_l0) n
            (fun i e H => e.n = 28 ∧ e.at 0 = vb ∧ e.at 6 = .int .u64 (getU s i) ∧ e.at 12 = .int .i64 (n : Int) ∧ e.at 13 = .int .i64 (i : Int) ∧ H = h)
            (fun x' e H => x' = .exit 0 ∧ e.n = 28 ∧ e.at 6 = .int .u64 (getU s n) ∧ H = h)
            (by
              rintro i e H hi ⟨hn, h0, h6, h12, h13, rfl⟩
              have hsh : (8 * (i : Int)).toNat = 8 * i := by omega
              have hmin : min (8 * i) 64 = 8 * i := by omega
              have hw : wrapF .i64 (8 * (i : Int)) = 8 * (i : Int) := wrap_i64 (by omega) (by omega)
              have hby := slB_lt hb (s.getD i 0) (by rw [List.getD_eq_getElem?_getD, List.getElem?_eq_getElem (by omega)]; simp)
              have hwb : wrapF .u64 ((s.getD i 0 : Nat) : Int) = ((s.getD i 0 : Nat) : Int) := wrap_u64 (by omega) (by omega)
              rw [List.getD_eq_getElem?_getD, List.getElem?_eq_getElem (by omega), Option.getD_some] at hwb
              have hgu : getU s (i + 1) = orU (getU s i) (wrapF .u64 ((s[i] : Int) * 2 ^ (8 * i))) := by
                simp only [getU]; rw [List.getD_eq_getElem?_getD, List.getElem?_eq_getElem (by omega), Option.getD_some]
              simp (config := {maxSteps := 1000000, maxDischargeDepth := 9, implicitDefEqProofs := false}) [c37_l0, hn, h0, h6, h12, h13, hi, hsl, hvl, show i < s.length from by omega, hb, hw, hsh, hmin, hwb, hgu, orU, modK, show ¬ (8 * (i : Int) < 0) from by omega, wrap_i64 (x := (i : Int) + 1) (by omega) (by omega)])
            (by
              rintro e H ⟨hn, h0, h6, h12, h13, rfl⟩
              simp (config := {maxSteps := 1000000, maxDischargeDepth := 9, implicitDefEqProofs := false}) [c37_l0, hn, h0, h6, h12, h13])
          simp (config := {maxSteps := 1000000, maxDischargeDepth := 9, implicitDefEqProofs := false}) [c37, hsl, hvl, hc]
          refine loop_then (K := fun r => finS _ (seqS _ _ _ (blockS _ r))) (L 0 _ _ (Nat.zero_le _) ?_ (Nat.lt_succ_self _)) ?_
          · simp (config := {maxSteps := 1000000, maxDischargeDepth := 9, implicitDefEqProofs := false}) [getU]
          · rintro x e' H ⟨rfl, hn, h6, rfl⟩
            simp (config := {maxSteps := 1000000, maxDischargeDepth := 9, implicitDefEqProofs := false}) [hn, h6]
            exact Canon.keep hf hsc (Ext.refl _) (by simp [V.lt, ltL])
      · cases hs
    · cases hs
  · cases hs

/-- octet.Get32. -/
def s_Get32 : List V → Heap → Option (V × Heap)
  | [v], h => match slB h v with
    | some s => some (if (s.length : Int) < 4 then .tuple [.int .u32 0, .bool false] else .tuple [.int .u32 (wrapF .u32 (getU s 4)), .bool true], h)
    | none => none
  | _, _ => none

theorem Get32_ok (cf : ACall) (hget : ∀ a h, cf 37 a h = s_get a h) : Sum cf c32 s_Get32 := by
  intro args h v h' hf hsc hlt hs
  unfold s_Get32 at hs
  split at hs
  · rename_i vb
    split at hs
    · rename_i s hb
      simp only [Option.some.injEq, Prod.mk.injEq] at hs
      obtain ⟨rfl, rfl⟩ := hs
      refine ⟨1, ?_⟩
      by_cases hc : (s.length : Int) < 4
      · simp (config := {maxSteps := 1000000, maxDischargeDepth := 9, implicitDefEqProofs := false}) [c32, hget, s_get, hb, hc]
        exact Canon.keep hf hsc (Ext.refl _) (by simp [V.lt, ltL])
      · simp (config := {maxSteps := 1000000, maxDischargeDepth := 9, implicitDefEqProofs := false}) [c32, hget, s_get, hb, hc]
        exact Canon.keep hf hsc (Ext.refl _) (by simp [V.lt, ltL])
    · cases hs
  · cases hs

/-- The lowest bytes of a number. -/
def putB (v : Int) (n : Nat) : List Nat := (List.range n).map fun i => (v / 2 ^ (8 * i) % 256).toNat
theorem putB_length (v : Int) (n : Nat) : (putB v n).length = n := by simp [putB]
theorem putB_lt (v : Int) (n : Nat) : ∀ y ∈ putB v n, y < 256 := by
  intro y hy
  simp only [putB, List.mem_map] at hy
  obtain ⟨i, _, rfl⟩ := hy
  have := Int.emod_nonneg (v / 2 ^ (8 * i)) (show (256 : Int) ≠ 0 by omega)
  have := Int.emod_lt_of_pos (v / 2 ^ (8 * i)) (show (0 : Int) < 256 by omega)
  omega
theorem putB_succ (v : Int) (n : Nat) : putB v (n + 1) = putB v n ++ [(v / 2 ^ (8 * n) % 256).toNat] := by simp [putB, List.range_succ]

/-- octet.put. -/
def s_put : List V → Heap → Option (V × Heap)
  | [.int .u64 v, .int .i64 n], h => if 0 ≤ n ∧ n ≤ 8 then some (newV h n.toNat, h.new (.cells (bytesOf (putB v n.toNat)) 5 1 true)) else none
  | _, _ => none

theorem put_ok (cf : ACall) : Sum cf c33 s_put := by
  intro args h v h' hf hsc hlt hs
  unfold s_put at hs
  split at hs
  · rename_i x n0
    split at hs
    · rename_i hn0
      simp only [Option.some.injEq, Prod.mk.injEq] at hs
      obtain ⟨rfl, rfl⟩ := hs
      obtain ⟨n, rfl⟩ : ∃ n : Nat, n0 = (n : Int) := ⟨n0.toNat, by omega⟩
      have hn8 : n ≤ 8 := by omega
      simp only [Int.toNat_natCast] at *
      refine ⟨n + 1, ?_⟩
      have L := loop_count (cf := cf) (N := n + 1) (c := c33_l0) n
        (fun i e H => e.n = 24 ∧ e.at 0 = .int .u64 x ∧ e.at 5 = .slice h.next 0 n (some n) ∧ e.at 10 = .int .i64 (n : Int) ∧ e.at 11 = .int .i64 (i : Int) ∧ H = h.new (.cells (bytesOf (putB x i) ++ List.replicate (n - i) (.int .u8 0)) 5 1 true))
        (fun x' e H => x' = .exit 0 ∧ e.n = 24 ∧ e.at 5 = .slice h.next 0 n (some n) ∧ H = h.new (.cells (bytesOf (putB x n)) 5 1 true))
        (by
          rintro i e H hi ⟨hn, h0, h5, h10, h11, rfl⟩
          obtain ⟨k, hk⟩ : ∃ k, n - i = k + 1 := ⟨n - i - 1, by omega⟩
          have hk2 : n - (i + 1) = k := by omega
          have hov := over_fill (bytesOf (putB x i)) (.int .u8 0) (.int .u8 (x / 2 ^ (8 * i) % 256)) k
          rw [bytesOf_length, putB_length] at hov
          have hm0 := Int.emod_nonneg (x / 2 ^ (8 * i)) (show (256 : Int) ≠ 0 by omega)
          have hb : bytesOf (putB x (i + 1)) = bytesOf (putB x i) ++ [.int .u8 (x / 2 ^ (8 * i) % 256)] := by
            rw [putB_succ, bytesOf_append]
            simp only [bytesOf, List.map_cons, List.map_nil, Int.ofNat_eq_natCast]
            rw [Int.toNat_of_nonneg hm0]
          have hsh : (8 * (i : Int)).toNat = 8 * i := by omega
          have hmin : min (8 * i) 64 = 8 * i := by omega
          have hw : wrapF .i64 (8 * (i : Int)) = 8 * (i : Int) := wrap_i64 (by omega) (by omega)
          have hfd : ∀ y : Int, y.fdiv (2 ^ (8 * i)) = y / 2 ^ (8 * i) := fun y => Int.fdiv_eq_ediv_of_nonneg _ (Int.le_of_lt (Int.pow_pos (by decide)))
          simp (config := {maxSteps := 1000000, maxDischargeDepth := 9, implicitDefEqProofs := false}) [c33_l0, hn, h0, h5, h10, h11, hi, hk, hk2, hb, hov, -over, hw, hsh, hmin, hfd, putB_length, wrap_u8_mod, show ¬ (8 * (i : Int) < 0) from by omega, wrap_i64 (x := (i : Int) + 1) (by omega) (by omega)]
          )
        (by
          rintro e H ⟨hn, h0, h5, h10, h11, rfl⟩
          simp (config := {maxSteps := 1000000, maxDischargeDepth := 9, implicitDefEqProofs := false}) [c33_l0, hn, h0, h5, h10, h11])
      simp (config := {maxSteps := 1000000, maxDischargeDepth := 9, implicitDefEqProofs := false}) [c33, show n ≤ 140737488355328 from by omega, show (n : Int) ≤ 140737488355328 from by omega]
      refine loop_then (K := fun r => finS _ (seqS _ _ _ (blockS _ r))) (L 0 _ _ (Nat.zero_le _) ?_ (Nat.lt_succ_self _)) ?_
      · simp (config := {maxSteps := 1000000, maxDischargeDepth := 9, implicitDefEqProofs := false}) [putB, bytesOf_nil]
      · rintro x e' H ⟨rfl, hn, h5, rfl⟩
        simp (config := {maxSteps := 1000000, maxDischargeDepth := 9, implicitDefEqProofs := false}) [hn, h5]
        exact Canon.made hf hsc rfl (by simp [bytesOf_length, putB_length]) (flat_bytes _)
    · cases hs
  · cases hs

/-- octet.Put32. -/
def s_Put32 : List V → Heap → Option (V × Heap)
  | [.int .u32 v], h => if 0 ≤ v ∧ v < 4294967296 then some (newV h 4, h.new (.cells (bytesOf (putB v 4)) 5 1 true)) else none
  | _, _ => none

theorem Put32_ok (cf : ACall) (hput : ∀ a h, cf 33 a h = s_put a h) : Sum cf c23 s_Put32 := by
  intro args h v h' hf hsc hlt hs
  unfold s_Put32 at hs
  split at hs
  · rename_i x
    split at hs
    · rename_i hx
      simp only [Option.some.injEq, Prod.mk.injEq] at hs
      obtain ⟨rfl, rfl⟩ := hs
      refine ⟨1, ?_⟩
      simp (config := {maxSteps := 1000000, maxDischargeDepth := 9, implicitDefEqProofs := false}) [c23, hput, s_put, wrap_u64 (x := x) (by omega) (by omega)]
      exact Canon.tail (H := h) hf hsc (Ext.refl h) (flat_bytes _) (by simp)
    · cases hs
  · cases hs

/-- The key's words, one by one, and the nonce's. -/
def kw (k : List Nat) : Nat → List Int
  | 0 => [1634760805, 857760878, 2036477234, 1797285236, 0, 0, 0, 0, 0, 0, 0, 0, 0, 0, 0, 0]
  | i + 1 => (kw k i).set (4 + i) (wrapF .u32 (getU (k.drop (4 * i)) 4))
def nw (n : List Nat) (w : List Int) : Nat → List Int
  | 0 => w
  | i + 1 => (nw n w i).set (13 + i) (wrapF .u32 (getU (n.drop (4 * i)) 4))
def wordsF (k : List Nat) (c : Int) (n : List Nat) : List Int := nw n ((kw k 8).set 12 c) 3
theorem kw_length (k : List Nat) : ∀ i, (kw k i).length = 16
  | 0 => rfl
  | i + 1 => by simp [kw, kw_length k i]
theorem nw_length (n : List Nat) {w : List Int} (hw : w.length = 16) : ∀ i, (nw n w i).length = 16
  | 0 => hw
  | i + 1 => by simp [nw, nw_length n hw i]
theorem wordsF_length (k : List Nat) (c : Int) (n : List Nat) : (wordsF k c n).length = 16 := nw_length n (by simp [kw_length]) 3

/-- chacha.words. -/
def s_words : List V → Heap → Option (V × Heap)
  | [vk, .int .u32 c, vn], h => match aggB vk, aggB vn with
    | some k, some n => if k.length = 32 ∧ n.length = 12 then some (.agg ((wordsF k c n).map (V.int .u32)), h) else none
    | _, _ => none
  | _, _ => none

theorem words_ok (cf : ACall) (hGet : ∀ a h, cf 32 a h = s_Get32 a h) : Sum cf c21 s_words := by
  intro args h v h' hf hsc hlt hs
  unfold s_words at hs
  split at hs
  · rename_i vk c vn
    split at hs
    · rename_i k n hk hn
      split at hs
      · rename_i hl
        obtain ⟨hl1, hl2⟩ := hl
        simp only [Option.some.injEq, Prod.mk.injEq] at hs
        obtain ⟨rfl, rfl⟩ := hs
        obtain ⟨rfl, hkb⟩ := aggB_some hk
        obtain ⟨rfl, hnb⟩ := aggB_some hn
        generalize hA : Blk.cells (bytesOf k) 22 1 true = A
        generalize hB : Blk.cells (bytesOf n) 24 1 true = B
        generalize hR : Blk.cells (List.replicate 16 (V.int .u32 0)) 43 1 true = R
        refine ⟨12, ?_⟩
        have hsk : slB (h.new A) (.slice h.next 0 32 (some 32)) = some k := by
          subst hA; simp (config := {maxSteps := 1000000, maxDischargeDepth := 9, implicitDefEqProofs := false}) [hl1, asB_bytesOf hkb]
        have hsn : slB ((h.new A).new B) (.slice (h.next + 1) 0 12 (some 12)) = some n := by
          subst hB; simp (config := {maxSteps := 1000000, maxDischargeDepth := 9, implicitDefEqProofs := false}) [hl2, asB_bytesOf hnb]
        have L1 := loop_count (cf := cf) (N := 12) (c := c21_l0) 8
          (fun i e H => e.n = 42 ∧ e.at 1 = .int .u32 c ∧ e.at 3 = .ptr h.next 0 ∧ e.at 5 = .ptr (h.next + 1) 0 ∧ e.at 6 = .ptr (h.next + 2) 0 ∧ e.at 7 = .ptr (h.next + 3) 0 ∧ e.at 11 = .int .i64 (i : Int) ∧ H = (((h.new A).new B).new R).new (.cells ((kw k i).map (V.int .u32)) 43 1 true))
          (fun x e H => x = .exit 0 ∧ e.n = 42 ∧ e.at 1 = .int .u32 c ∧ e.at 3 = .ptr h.next 0 ∧ e.at 5 = .ptr (h.next + 1) 0 ∧ e.at 6 = .ptr (h.next + 2) 0 ∧ e.at 7 = .ptr (h.next + 3) 0 ∧ H = (((h.new A).new B).new R).new (.cells ((kw k 8).map (V.int .u32)) 43 1 true))
          (by
            rintro i e H hi ⟨hn', h1, h3, h5, h6, h7, h11, rfl⟩
            have w1 : wrapF .i64 (4 + (i : Int)) = 4 + (i : Int) := wrap_i64 (by omega) (by omega)
            have w2 : wrapF .i64 (4 * (i : Int)) = 4 * (i : Int) := wrap_i64 (by omega) (by omega)
            have w3 : (4 + (i : Int)).toNat = 4 + i := by omega
            have w4 : (4 * (i : Int)).toNat = 4 * i := by omega
            have g3 : ¬ ((((k.take 32).drop (4 * i)).length : Int) < 4) := by simp; omega
            have ht : k.take 32 = k := List.take_of_length_le (by omega)
            rw [ht] at g3
            have hkw : kw k (i + 1) = (kw k i).set (4 + i) (wrapF .u32 (getU (k.drop (4 * i)) 4)) := rfl
            simp (config := {maxSteps := 1000000, maxDischargeDepth := 9, implicitDefEqProofs := false}) [c21_l0, hn', h1, h3, h5, h6, h7, h11, hi, w1, w2, w3, w4, hsk, show 4 * (i : Int) ≤ 32 from by omega, show (0 : Int) ≤ 4 * (i : Int) from by omega, show 4 * i ≤ 32 from by omega, hGet, s_Get32, ht, g3, show (0 : Int) ≤ 4 + (i : Int) from by omega, show 4 + (i : Int) < 16 from by omega, kw_length, -over, over_set, show 4 + i < 16 from by omega, show 4 + i + 1 ≤ 16 from by omega, map_set, -List.map_set, hkw, show (i : Int) < 8 from by omega, wrap_i64 (x := (i : Int) + 1) (by omega) (by omega), -List.length_drop]
            )
          (by
            rintro e H ⟨hn', h1, h3, h5, h6, h7, h11, rfl⟩
            simp (config := {maxSteps := 1000000, maxDischargeDepth := 9, implicitDefEqProofs := false}) [c21_l0, hn', h1, h3, h5, h6, h7, h11])
        have L2 := loop_count (cf := cf) (N := 12) (c := c21_l1) 3
          (fun i e H => e.n = 42 ∧ e.at 5 = .ptr (h.next + 1) 0 ∧ e.at 6 = .ptr (h.next + 2) 0 ∧ e.at 7 = .ptr (h.next + 3) 0 ∧ e.at 27 = .int .i64 (i : Int) ∧ H = (((h.new A).new B).new R).new (.cells ((nw n ((kw k 8).set 12 c) i).map (V.int .u32)) 43 1 true))
          (fun x e H => x = .exit 2 ∧ e.n = 42 ∧ e.at 6 = .ptr (h.next + 2) 0 ∧ e.at 7 = .ptr (h.next + 3) 0 ∧ H = (((h.new A).new B).new R).new (.cells ((wordsF k c n).map (V.int .u32)) 43 1 true))
          (by
            rintro i e H hi ⟨hn', h5, h6, h7, h27, rfl⟩
            have w1 : wrapF .i64 (13 + (i : Int)) = 13 + (i : Int) := wrap_i64 (by omega) (by omega)
            have w2 : wrapF .i64 (4 * (i : Int)) = 4 * (i : Int) := wrap_i64 (by omega) (by omega)
            have w3 : (13 + (i : Int)).toNat = 13 + i := by omega
            have w4 : (4 * (i : Int)).toNat = 4 * i := by omega
            have g3 : ¬ ((((n.take 12).drop (4 * i)).length : Int) < 4) := by simp; omega
            have ht : n.take 12 = n := List.take_of_length_le (by omega)
            rw [ht] at g3
            have hnl := nw_length n (w := (kw k 8).set 12 c) (by simp [kw_length]) i
            have hnw : nw n ((kw k 8).set 12 c) (i + 1) = (nw n ((kw k 8).set 12 c) i).set (13 + i) (wrapF .u32 (getU (n.drop (4 * i)) 4)) := rfl
            simp (config := {maxSteps := 1000000, maxDischargeDepth := 9, implicitDefEqProofs := false}) [c21_l1, hn', h5, h6, h7, h27, hi, w1, w2, w3, w4, hsn, show 4 * (i : Int) ≤ 12 from by omega, show (0 : Int) ≤ 4 * (i : Int) from by omega, show 4 * i ≤ 12 from by omega, hGet, s_Get32, ht, g3, show (0 : Int) ≤ 13 + (i : Int) from by omega, show 13 + (i : Int) < 16 from by omega, hnl, -over, over_set, show 13 + i < 16 from by omega, show 13 + i + 1 ≤ 16 from by omega, map_set, -List.map_set, hnw, show (i : Int) < 3 from by omega, wrap_i64 (x := (i : Int) + 1) (by omega) (by omega), -List.length_drop])
          (by
            rintro e H ⟨hn', h5, h6, h7, h27, rfl⟩
            simp (config := {maxSteps := 1000000, maxDischargeDepth := 9, implicitDefEqProofs := false}) [c21_l1, hn', h5, h6, h7, h27]
            rfl)
        subst hA; subst hB; subst hR
        simp (config := {maxSteps := 1000000, maxDischargeDepth := 9, implicitDefEqProofs := false}) [c21, mem_bytes_one, mem_ints_one]
        refine loop_then (K := fun r => finS _ (seqS _ _ _ (blockS _ r))) (L1 0 _ _ (Nat.zero_le _) ?_ (by omega)) ?_
        · simp (config := {maxSteps := 1000000, maxDischargeDepth := 9, implicitDefEqProofs := false}) [kw]
        · rintro x e' H ⟨rfl, hn', h1, h3, h5, h6, h7, rfl⟩
          simp (config := {maxSteps := 1000000, maxDischargeDepth := 9, implicitDefEqProofs := false}) [hn', h1, h3, h5, h6, h7, kw_length, -over, over_set, map_set, -List.map_set]
          refine loop_then (K := fun r => finS _ (seqS _ _ _ (blockS _ r))) (L2 0 _ _ (Nat.zero_le _) ?_ (by omega)) ?_
          · simp (config := {maxSteps := 1000000, maxDischargeDepth := 9, implicitDefEqProofs := false}) [hn', h5, h6, h7, nw]
          · rintro x e' H ⟨rfl, hn', h6, h7, rfl⟩
            have htk : ((wordsF k c n).map (V.int .u32)).take 16 = (wordsF k c n).map (V.int .u32) := List.take_of_length_le (by simp [wordsF_length])
            simp (config := {maxSteps := 1000000, maxDischargeDepth := 9, implicitDefEqProofs := false}) [hn', h6, h7, wordsF_length, htk, mem_ints_one, -List.map_take]
            exact Canon.keep hf hsc (by repeat (first | exact Ext.refl _ | apply Ext.trans_new)) (flat_agg _ _ _)
      · cases hs
    · cases hs
  · cases hs

/-- The rounds. -/
def rows1 (v : List Int) : Nat → List Int
  | 0 => v
  | i + 1 => qr (rows1 v i) i (4 + i) (8 + i) (12 + i)
def rows2 (v : List Int) : Nat → List Int
  | 0 => v
  | i + 1 => qr (rows2 v i) i (4 + (i + 1) % 4) (8 + (i + 2) % 4) (12 + (i + 3) % 4)
def dround (v : List Int) : List Int := rows2 (rows1 v 4) 4
def rounds (v : List Int) : Nat → List Int
  | 0 => v
  | i + 1 => dround (rounds v i)
def outF (v w : List Int) : Nat → List Nat
  | 0 => []
  | i + 1 => outF v w i ++ putB (add32 (v.getD i 0) (w.getD i 0)) 4
/-- A block's bytes. -/
def blockF (k : List Nat) (c : Int) (n : List Nat) : List Nat := outF (rounds (wordsF k c n) 10) (wordsF k c n) 16

theorem rows1_length {v : List Int} : ∀ i, (rows1 v i).length = v.length
  | 0 => rfl
  | i + 1 => by simp [rows1, qr_length, rows1_length i]
theorem rows2_length {v : List Int} : ∀ i, (rows2 v i).length = v.length
  | 0 => rfl
  | i + 1 => by simp [rows2, qr_length, rows2_length i]
theorem rounds_length {v : List Int} : ∀ i, (rounds v i).length = v.length
  | 0 => rfl
  | i + 1 => by simp [rounds, dround, rows1_length, rows2_length, rounds_length i]
theorem outF_length (v w : List Int) : ∀ i, (outF v w i).length = 4 * i
  | 0 => rfl
  | i + 1 => by simp [outF, outF_length v w i, putB_length]; omega
theorem outF_lt (v w : List Int) : ∀ i, ∀ y ∈ outF v w i, y < 256
  | 0 => by simp [outF]
  | i + 1 => by
    intro y hy
    simp only [outF, List.mem_append] at hy
    rcases hy with hy | hy
    · exact outF_lt v w i y hy
    · exact putB_lt _ _ y hy
theorem blockF_length (k : List Nat) (c : Int) (n : List Nat) : (blockF k c n).length = 64 := by simp [blockF, outF_length]
theorem blockF_lt (k : List Nat) (c : Int) (n : List Nat) : ∀ y ∈ blockF k c n, y < 256 := outF_lt _ _ _

/-- chacha.Block. -/
def s_Block : List V → Heap → Option (V × Heap)
  | [vk, .int .u32 c, vn], h => match aggB vk, aggB vn with
    | some k, some n => if k.length = 32 ∧ n.length = 12 then some (.agg (bytesOf (blockF k c n)), h) else none
    | _, _ => none
  | _, _ => none

theorem Block_inner1 (cf : ACall) (hB : ∀ a h, cf 22 a h = s_Blk1 a h) (Hb : Heap) (p : Nat) (hnx : Hb.next = p) (v : List Int) (hv : v.length = 16) : ∀ e, e.n = 72 → e.at 9 = .func 22 [] [.ptr p 0] → e.at 22 = .int .i64 0 →
    YtjdofdokdemnkaaDoorA.Ends (execA cf 20 (.loop c9_l1) e (Hb.new (.cells (v.map (V.int .u32)) 43 1 true))) fun x e' H => x = .exit 2 ∧ H = Hb.new (.cells ((rows1 v 4).map (V.int .u32)) 43 1 true) := by
  intro e hn h9 h22
  refine loop_count (cf := cf) (N := 20) (c := c9_l1) 4
    (fun i e H => e.n = 72 ∧ e.at 9 = .func 22 [] [.ptr p 0] ∧ e.at 22 = .int .i64 (i : Int) ∧ H = Hb.new (.cells ((rows1 v i).map (V.int .u32)) 43 1 true))
    (fun x e' H => x = .exit 2 ∧ H = Hb.new (.cells ((rows1 v 4).map (V.int .u32)) 43 1 true)) ?_ ?_ 0 e _ (Nat.zero_le _) ⟨hn, h9, h22, rfl⟩ (by omega)
  · rintro i e H hi ⟨hn, h9, h22, rfl⟩
    have w1 : wrapF .i64 (4 + (i : Int)) = 4 + (i : Int) := wrap_i64 (by omega) (by omega)
    have w2 : wrapF .i64 (8 + (i : Int)) = 8 + (i : Int) := wrap_i64 (by omega) (by omega)
    have w3 : wrapF .i64 (12 + (i : Int)) = 12 + (i : Int) := wrap_i64 (by omega) (by omega)
    have t1 : (4 + (i : Int)).toNat = 4 + i := by omega
    have t2 : (8 + (i : Int)).toNat = 8 + i := by omega
    have t3 : (12 + (i : Int)).toNat = 12 + i := by omega
    have hr : rows1 v (i + 1) = qr (rows1 v i) i (4 + i) (8 + i) (12 + i) := rfl
    simp (config := {maxSteps := 1000000, maxDischargeDepth := 9, implicitDefEqProofs := false}) [c9_l1, hn, h9, h22, show (i : Int) < 4 from by omega, w1, w2, w3, t1, t2, t3, hB, s_Blk1, hnx, rows1_length, hv, hr, show (i : Int) < 16 from by omega, show 4 + (i : Int) < 16 from by omega, show 8 + (i : Int) < 16 from by omega, show 12 + (i : Int) < 16 from by omega, show (0 : Int) ≤ 4 + (i : Int) from by omega, show (0 : Int) ≤ 8 + (i : Int) from by omega, show (0 : Int) ≤ 12 + (i : Int) from by omega, wrap_i64 (x := (i : Int) + 1) (by omega) (by omega)]
  · rintro e H ⟨hn, h9, h22, rfl⟩
    simp (config := {maxSteps := 1000000, maxDischargeDepth := 9, implicitDefEqProofs := false}) [c9_l1, hn, h9, h22]
theorem Block_inner2 (cf : ACall) (hB : ∀ a h, cf 22 a h = s_Blk1 a h) (Hb : Heap) (p : Nat) (hnx : Hb.next = p) (v : List Int) (hv : v.length = 16) : ∀ e, e.n = 72 → e.at 9 = .func 22 [] [.ptr p 0] → e.at 35 = .int .i64 0 →
    YtjdofdokdemnkaaDoorA.Ends (execA cf 20 (.loop c9_l2) e (Hb.new (.cells (v.map (V.int .u32)) 43 1 true))) fun x e' H => x = .exit 4 ∧ H = Hb.new (.cells ((rows2 v 4).map (V.int .u32)) 43 1 true) := by
  intro e hn h9 h35
  refine loop_count (cf := cf) (N := 20) (c := c9_l2) 4
    (fun i e H => e.n = 72 ∧ e.at 9 = .func 22 [] [.ptr p 0] ∧ e.at 35 = .int .i64 (i : Int) ∧ H = Hb.new (.cells ((rows2 v i).map (V.int .u32)) 43 1 true))
    (fun x e' H => x = .exit 4 ∧ H = Hb.new (.cells ((rows2 v 4).map (V.int .u32)) 43 1 true)) ?_ ?_ 0 e _ (Nat.zero_le _) ⟨hn, h9, h35, rfl⟩ (by omega)
  · rintro i e H hi ⟨hn, h9, h35, rfl⟩
    have hv2 := rows2_length (v := v) i
    rw [hv] at hv2
    have hr : rows2 v (i + 1) = qr (rows2 v i) i (4 + (i + 1) % 4) (8 + (i + 2) % 4) (12 + (i + 3) % 4) := rfl
    have hii : i = 0 ∨ i = 1 ∨ i = 2 ∨ i = 3 := by omega
    generalize rows2 v i = vi at *
    generalize rows2 v (i + 1) = vj at *
    subst hr
    rcases hii with rfl | rfl | rfl | rfl <;>
      simp (config := {maxSteps := 1000000, maxDischargeDepth := 9, implicitDefEqProofs := false}) [c9_l2, hn, h9, h35, hB, s_Blk1, hnx, hv2]
  · rintro e H ⟨hn, h9, h35, rfl⟩
    simp (config := {maxSteps := 1000000, maxDischargeDepth := 9, implicitDefEqProofs := false}) [c9_l2, hn, h9, h35]

theorem Block_outer (cf : ACall) (hB : ∀ a h, cf 22 a h = s_Blk1 a h) (Hb : Heap) (p : Nat) (hnx : Hb.next = p) (v : List Int) (hv : v.length = 16) : ∀ e, e.n = 72 → e.at 9 = .func 22 [] [.ptr p 0] → e.at 20 = .int .i64 0 →
    YtjdofdokdemnkaaDoorA.Ends (execA cf 20 (.loop c9_l0) e (Hb.new (.cells (v.map (V.int .u32)) 43 1 true))) fun x e' H => x = .exit 0 ∧ H = Hb.new (.cells ((rounds v 10).map (V.int .u32)) 43 1 true) := by
  intro e hn h9 h20
  refine loop_count (cf := cf) (N := 20) (c := c9_l0) 10
    (fun i e H => e.n = 72 ∧ e.at 9 = .func 22 [] [.ptr p 0] ∧ e.at 20 = .int .i64 (i : Int) ∧ H = Hb.new (.cells ((rounds v i).map (V.int .u32)) 43 1 true))
    (fun x e' H => x = .exit 0 ∧ H = Hb.new (.cells ((rounds v 10).map (V.int .u32)) 43 1 true)) ?_ ?_ 0 e _ (Nat.zero_le _) ⟨hn, h9, h20, rfl⟩ (by omega)
  · rintro i e H hi ⟨hn, h9, h20, rfl⟩
    have hr : rounds v (i + 1) = rows2 (rows1 (rounds v i) 4) 4 := rfl
    have hl := rounds_length (v := v) i
    rw [hv] at hl
    have hl1 := rows1_length (v := rounds v i) 4
    rw [hl] at hl1
    simp (config := {maxSteps := 1000000, maxDischargeDepth := 9, implicitDefEqProofs := false}) [c9_l0, hn, h9, h20, show (i : Int) < 10 from by omega]
    refine loop_in (K := fun r => seqS _ _ _ (blockS _ (seqS _ _ _ (blockS _ r)))) (Block_inner1 cf hB Hb p hnx (rounds v i) hl _ ?_ ?_ ?_) ?_
    · simp (config := {maxSteps := 1000000, maxDischargeDepth := 9, implicitDefEqProofs := false}) [hn]
    · simp (config := {maxSteps := 1000000, maxDischargeDepth := 9, implicitDefEqProofs := false}) [hn, h9]
    · simp (config := {maxSteps := 1000000, maxDischargeDepth := 9, implicitDefEqProofs := false}) [hn]
    · rintro x H ⟨rfl, rfl⟩
      simp (config := {maxSteps := 1000000, maxDischargeDepth := 9, implicitDefEqProofs := false}) [hn]
      refine loop_in (K := fun r => seqS _ _ _ (blockS _ (blockS _ r))) (Block_inner2 cf hB Hb p hnx (rows1 (rounds v i) 4) hl1 _ ?_ ?_ ?_) ?_
      · simp (config := {maxSteps := 1000000, maxDischargeDepth := 9, implicitDefEqProofs := false}) [hn]
      · simp (config := {maxSteps := 1000000, maxDischargeDepth := 9, implicitDefEqProofs := false}) [hn, h9, c9_l1_wr]
      · simp (config := {maxSteps := 1000000, maxDischargeDepth := 9, implicitDefEqProofs := false}) [hn]
      · rintro x H ⟨rfl, rfl⟩
        simp (config := {maxSteps := 1000000, maxDischargeDepth := 9, implicitDefEqProofs := false}) [hn, h9, h20, c9_l1_wr, c9_l2_wr, hr, wrap_i64 (x := (i : Int) + 1) (by omega) (by omega)]
  · rintro e H ⟨hn, h9, h20, rfl⟩
    simp (config := {maxSteps := 1000000, maxDischargeDepth := 9, implicitDefEqProofs := false}) [c9_l0, hn, h9, h20]

theorem putB_len4 (x : Int) : (bytesOf (putB x 4)).length = 4 := by rw [bytesOf_length, putB_length]
theorem add32_range (a b : Int) : 0 ≤ add32 a b ∧ add32 a b < 4294967296 := by
  simp only [add32, wrap_u32_mod]; omega

theorem Block_out (cf : ACall) (hP : ∀ a h, cf 23 a h = s_Put32 a h) (h H0 : Heap) (R : List V) (v w : List Int) (hv : v.length = 16) (hw : w.length = 16) (hE0 : Ext h H0) (hF0 : Fresh H0) (hH0 : H0.next = h.next + 6)
    (gw0 : H0.get (h.next + 3) = some (.cells (w.map (V.int .u32)) 43 1 true)) (gv0 : H0.get (h.next + 4) = some (.cells (v.map (V.int .u32)) 43 1 true)) (go0 : H0.get (h.next + 5) = some (.cells (List.replicate 64 (.int .u8 0)) 28 1 true)) (g20 : ∃ t, H0.get (h.next + 2) = some (.cells R t 1 true)) :
    ∀ e, e.n = 72 → e.at 12 = .ptr (h.next + 5) 0 → e.at 8 = .ptr (h.next + 4) 0 → e.at 7 = .ptr (h.next + 3) 0 → e.at 55 = .int .i64 0 →
    YtjdofdokdemnkaaDoorA.Ends (execA cf 20 (.loop c9_l3) e H0) fun x e' H => x = .exit 6 ∧ Ext h H ∧ Fresh H ∧ h.next + 6 ≤ H.next ∧ H.get (h.next + 5) = some (.cells (bytesOf (outF v w 16)) 28 1 true) ∧ ∃ t, H.get (h.next + 2) = some (.cells R t 1 true) := by
  intro e hn h12 h8 h7 h55
  refine loop_count (cf := cf) (N := 20) (c := c9_l3) 16
    (fun i e H => e.n = 72 ∧ e.at 12 = .ptr (h.next + 5) 0 ∧ e.at 8 = .ptr (h.next + 4) 0 ∧ e.at 7 = .ptr (h.next + 3) 0 ∧ e.at 55 = .int .i64 (i : Int) ∧ Ext h H ∧ Fresh H ∧ h.next + 6 ≤ H.next ∧ H.get (h.next + 3) = some (.cells (w.map (V.int .u32)) 43 1 true) ∧ H.get (h.next + 4) = some (.cells (v.map (V.int .u32)) 43 1 true) ∧
      H.get (h.next + 5) = some (.cells (bytesOf (outF v w i) ++ List.replicate (64 - 4 * i) (.int .u8 0)) 28 1 true) ∧ ∃ t, H.get (h.next + 2) = some (.cells R t 1 true))
    (fun x e' H => x = .exit 6 ∧ Ext h H ∧ Fresh H ∧ h.next + 6 ≤ H.next ∧ H.get (h.next + 5) = some (.cells (bytesOf (outF v w 16)) 28 1 true) ∧ ∃ t, H.get (h.next + 2) = some (.cells R t 1 true)) ?_ ?_ 0 e _ (Nat.zero_le _) ⟨hn, h12, h8, h7, h55, hE0, hF0, by omega, gw0, gv0, by simpa [outF, bytesOf_nil] using go0, g20⟩ (by omega)
  · rintro i e H hi ⟨hn, h12, h8, h7, h55, hE, hF, hnx, gw, gv, go, g2⟩
    have w1 : wrapF .i64 (4 * (i : Int)) = 4 * (i : Int) := wrap_i64 (by omega) (by omega)
    have t1 : (4 * (i : Int)).toNat = 4 * i := by omega
    have hxr := add32_range (v.getD i 0) (w.getD i 0)
    have hgv : v.getD i 0 = v[i] := by rw [List.getD_eq_getElem?_getD, List.getElem?_eq_getElem (by omega)]; rfl
    have hgw : w.getD i 0 = w[i] := by rw [List.getD_eq_getElem?_getD, List.getElem?_eq_getElem (by omega)]; rfl
    rw [hgv, hgw] at hxr
    have hadd : wrapF .u32 (v[i] + w[i]) = add32 v[i] w[i] := rfl
    have hout : outF v w (i + 1) = outF v w i ++ putB (add32 v[i] w[i]) 4 := by simp only [outF, hgv, hgw]
    generalize hx : add32 v[i] w[i] = x at *
    have hlen := outF_length v w i
    have hbl : (bytesOf (outF v w i) ++ List.replicate (64 - 4 * i) (V.int .u8 0)).length = 64 := by simp [bytesOf_length, hlen]; omega
    -- the slice of the output
    have hsl : sliceV H 1 (.slice (h.next + 5) 0 64 (some 64)) (some (.int .i64 (4 * (i : Int)))) none none = some (.slice (h.next + 5) (4 * i) (64 - 4 * i) (some (64 - 4 * i))) := by
      have q1 : (0 : Int) ≤ 4 * (i : Int) := by omega
      have q2 : 4 * (i : Int) ≤ 64 := by omega
      have q3 : ¬ 64 = 4 * i := by omega
      simp [sliceV, bounds, maxOf, highOf, lowOf, bound, q1, q2, q3, t1]
    -- the copy
    have hq : (h.next + 5 = H.next) = False := by simp; omega
    have hcopy := copy_at (h := H.new (.cells (bytesOf (putB x 4)) 5 1 true)) (p := h.next + 5) (o := 4 * i) (n := 64 - 4 * i) (q := H.next) (m := 4) (c := some (64 - 4 * i)) (c' := none) (Q := bytesOf (outF v w i) ++ List.replicate (64 - 4 * i) (.int .u8 0)) (cs := bytesOf (putB x 4)) (t := 28) (z := 1)
      (by rw [Heap.get_new, if_neg (by omega)]; exact go) (by rw [read_self (by rw [putB_len4]; omega), List.drop_zero, List.take_of_length_le (by rw [putB_len4]; omega)]) (by omega) (by omega) (by rw [hbl]; omega) (bytesOf_one _) (putB_len4 x)
    have hover : over (bytesOf (outF v w i) ++ List.replicate (64 - 4 * i) (.int .u8 0)) (4 * i) (bytesOf (putB x 4)) = bytesOf (outF v w (i + 1)) ++ List.replicate (64 - 4 * (i + 1)) (.int .u8 0) := by
      have := over_fillL (bytesOf (outF v w i)) (bytesOf (putB x 4)) (.int .u8 0) (64 - 4 * (i + 1))
      rw [putB_len4, bytesOf_length, hlen, show 4 + (64 - 4 * (i + 1)) = 64 - 4 * i from by omega] at this
      rw [this, hout, bytesOf_append]
    rw [hover] at hcopy
    simp (config := {maxSteps := 1000000, maxDischargeDepth := 9, implicitDefEqProofs := false}) [c9_l3, hn, h12, h8, h7, h55, hi, show (i : Int) < 16 from by omega, w1, hsl, gv, gw, hv, hw, hadd, hx, hP, s_Put32, hxr.1, hxr.2, hcopy, wrap_i64 (x := (i : Int) + 1) (by omega) (by omega)]
    refine ⟨(hE.trans_new _).trans_set (by omega) _, (hF.new _).set (by simp; omega) _, by omega, by omega, by omega, ?_⟩
    rw [if_neg (by omega)]
    exact g2
  · rintro e H ⟨hn, h12, h8, h7, h55, hE, hF, hnx, gw, gv, go, g2⟩
    simp (config := {maxSteps := 1000000, maxDischargeDepth := 9, implicitDefEqProofs := false}) [c9_l3, hn, h12, h8, h7, h55]
    refine ⟨hE, hF, hnx, ?_, g2⟩
    simpa using go

theorem Block_ok (cf : ACall) (hB : ∀ a h, cf 22 a h = s_Blk1 a h) (hW : ∀ a h, cf 21 a h = s_words a h) (hP : ∀ a h, cf 23 a h = s_Put32 a h) : Sum cf c9 s_Block := by
  intro args h v h' hf hsc hlt hs
  unfold s_Block at hs
  split at hs
  · rename_i vk c vn
    split at hs
    · rename_i k n hk hn
      split at hs
      · rename_i hl
        obtain ⟨hl1, hl2⟩ := hl
        simp only [Option.some.injEq, Prod.mk.injEq] at hs
        obtain ⟨rfl, rfl⟩ := hs
        obtain ⟨rfl, hkb⟩ := aggB_some hk
        obtain ⟨rfl, hnb⟩ := aggB_some hn
        have tk : (bytesOf k).take 32 = bytesOf k := List.take_of_length_le (by rw [bytesOf_length]; omega)
        have tn : (bytesOf n).take 12 = bytesOf n := List.take_of_length_le (by rw [bytesOf_length]; omega)
        have hwl := wordsF_length k c n
        have tw : ((wordsF k c n).map (V.int .u32)).take 16 = (wordsF k c n).map (V.int .u32) := List.take_of_length_le (by simp [hwl])
        refine ⟨20, ?_⟩
        simp (config := {maxSteps := 1000000, maxDischargeDepth := 9, implicitDefEqProofs := false}) [c9, hW, s_words, hk, hn, hl1, hl2, tk, tn, tw, hwl, mem_bytes_one, mem_ints_one, -List.map_take]
        generalize hwq : wordsF k c n = w at *
        refine loop_thenE (K := fun r => finS _ (seqS _ _ _ (blockS _ r))) (Block_outer cf hB _ (h.next + 4) ?_ w hwl _ ?_ ?_ ?_) ?_
        · simp (config := {maxSteps := 1000000, maxDischargeDepth := 9, implicitDefEqProofs := false})
        · simp (config := {maxSteps := 1000000, maxDischargeDepth := 9, implicitDefEqProofs := false})
        · simp (config := {maxSteps := 1000000, maxDischargeDepth := 9, implicitDefEqProofs := false})
        · simp (config := {maxSteps := 1000000, maxDischargeDepth := 9, implicitDefEqProofs := false})
        · rintro x H ⟨rfl, rfl⟩
          have hrl := rounds_length (v := w) 10
          rw [hwl] at hrl
          simp (config := {maxSteps := 1000000, maxDischargeDepth := 9, implicitDefEqProofs := false}) [c9_l0_wr]
          obtain ⟨R, hRr⟩ : ∃ R : List V, R = List.replicate 64 (.int .u8 0) := ⟨_, rfl⟩
          have hRl : R.length = 64 := by rw [hRr]; simp
          refine loop_thenE (K := fun r => finS _ (seqS _ _ _ (blockS _ r))) (Block_out cf hP h _ R (rounds w 10) w hrl hwl ?_ ?_ ?_ ?_ ?_ ?_ ⟨28, ?_⟩ _ ?_ ?_ ?_ ?_ ?_) ?_
          · repeat (first | exact Ext.refl _ | apply Ext.trans_new)
          · exact ((((((hf.new _).new _).new _).new _).new _).new _)
          · simp (config := {maxSteps := 1000000, maxDischargeDepth := 9, implicitDefEqProofs := false})
          · simp (config := {maxSteps := 1000000, maxDischargeDepth := 9, implicitDefEqProofs := false})
          · simp (config := {maxSteps := 1000000, maxDischargeDepth := 9, implicitDefEqProofs := false})
          · simp (config := {maxSteps := 1000000, maxDischargeDepth := 9, implicitDefEqProofs := false})
          · simp (config := {maxSteps := 1000000, maxDischargeDepth := 9, implicitDefEqProofs := false}) [hRr]
          · simp (config := {maxSteps := 1000000, maxDischargeDepth := 9, implicitDefEqProofs := false}) [c9_l0_wr]
          · simp (config := {maxSteps := 1000000, maxDischargeDepth := 9, implicitDefEqProofs := false}) [c9_l0_wr]
          · simp (config := {maxSteps := 1000000, maxDischargeDepth := 9, implicitDefEqProofs := false}) [c9_l0_wr]
          · simp (config := {maxSteps := 1000000, maxDischargeDepth := 9, implicitDefEqProofs := false}) [c9_l0_wr]
          · simp (config := {maxSteps := 1000000, maxDischargeDepth := 9, implicitDefEqProofs := false}) [c9_l0_wr]
          · rintro x H ⟨rfl, hE, hF, hnx, go, t, g2⟩
            have hol : (outF (rounds w 10) w 16).length = 64 := outF_length (rounds w 10) w 16
            have tb : (bytesOf (outF (rounds w 10) w 16)).take 64 = bytesOf (outF (rounds w 10) w 16) := List.take_of_length_le (by rw [bytesOf_length, hol]; omega)
            have hn2 : ¬ (h.next + 5 = h.next + 2) := by omega
            have hbf : blockF k c n = outF (rounds w 10) w 16 := by unfold blockF; rw [hwq]
            rw [hbf]
            generalize outF (rounds w 10) w 16 = ob at *
            have hov : over R 0 (bytesOf ob) = bytesOf ob := by
              unfold over
              rw [bytesOf_length, hol, List.drop_eq_nil_of_le (by omega)]; simp
            simp (config := {maxSteps := 1000000, maxDischargeDepth := 9, implicitDefEqProofs := false}) [c9_l0_wr, c9_l3_wr, go, g2, hol, hRl, tb, mem_bytes_one, -List.map_take, -over, hov]
            exact Canon.keep hf hsc (hE.trans_set (by omega) _) (flat_aggB _ _)
      · cases hs
    · cases hs
  · cases hs

/-- portholeref4.turn. -/
def s_Turn : List V → Heap → Option (V × Heap)
  | [.int .u32 x, .int .u64 k], h => if k = 16 ∨ k = 12 ∨ k = 8 ∨ k = 7 then some (.int .u32 (rotl x k.toNat), h) else none
  | _, _ => none
theorem Turn_ok (cf : ACall) : Sum cf c20 s_Turn := by
  intro args h v h' hf hsc hlt hs
  unfold s_Turn at hs
  split at hs
  · rename_i x k
    split at hs
    · rename_i hk
      simp only [Option.some.injEq, Prod.mk.injEq] at hs
      obtain ⟨rfl, rfl⟩ := hs
      refine ⟨1, ?_⟩
      rcases hk with rfl | rfl | rfl | rfl <;>
        (simp (config := {maxSteps := 1000000, maxDischargeDepth := 9, implicitDefEqProofs := false}) [c20, modK, rotl]
         exact Canon.keep hf hsc (Ext.refl _) (by simp only [V.lt]))
    · cases hs
  · cases hs
theorem QuarterR_ok (cf : ACall) (hRot : ∀ a h, cf 20 a h = s_Turn a h) : Sum cf c7 s_Quarter := by
  intro args h v h' hf hsc hlt hs
  unfold s_Quarter at hs
  split at hs
  · rename_i a b c d
    simp only [Option.some.injEq, Prod.mk.injEq] at hs
    obtain ⟨rfl, rfl⟩ := hs
    refine ⟨1, ?_⟩
    have e1 : ∀ x y, wrapF .u32 (x + y) = add32 x y := fun _ _ => rfl
    have e2 : ∀ x y : Int, wrapF .u32 (((x % 4294967296).toNat ^^^ (y % 4294967296).toNat : Nat) : Int) = xor32 x y := fun _ _ => rfl
    simp (config := {maxSteps := 1000000, maxDischargeDepth := 9, implicitDefEqProofs := false}) [c7, hRot, s_Turn, modK, e1, e2, quarterF]
    exact Canon.keep hf hsc (Ext.refl _) (by simp only [V.lt, ltL, and_self])
  · cases hs
/-- A number of bytes, by sums. -/
theorem getU_sum (s : List Nat) (hs : ∀ y ∈ s, y < 256) : ∀ i, i ≤ 7 → ∃ m : Nat, getU s i = (m : Int) ∧ m < 2 ^ (8 * i) ∧ getU s (i + 1) = ((m + s.getD i 0 * 2 ^ (8 * i) : Nat) : Int)
  | 0, _ => by
    have hb : s.getD 0 0 < 256 := by
      rw [List.getD_eq_getElem?_getD]
      cases h : s[0]? with
      | none => simp
      | some y => simpa using hs y (List.mem_of_getElem? h)
    refine ⟨0, rfl, by simp, ?_⟩
    simp only [getU, orU, Nat.mul_zero, Int.pow_zero, Int.mul_one, Nat.pow_zero, Nat.mul_one, Nat.zero_add]
    rw [wrap_u64 (x := ((s.getD 0 0 : Nat) : Int)) (by omega) (by omega)]
    have h1 : (((s.getD 0 0 : Nat) : Int) % 18446744073709551616).toNat = s.getD 0 0 := by omega
    rw [h1]
    simp only [Int.zero_emod, Int.toNat_zero, Nat.zero_or]
    exact wrap_u64 (by omega) (by omega)
  | i + 1, hi => by
    obtain ⟨m, h1, h2, h3⟩ := getU_sum s hs i (by omega)
    have hb : ∀ j, s.getD j 0 < 256 := fun j => by
      rw [List.getD_eq_getElem?_getD]
      cases h : s[j]? with
      | none => simp
      | some y => simpa using hs y (List.mem_of_getElem? h)
    have hbi := hb i
    have hbj := hb (i + 1)
    generalize s.getD i 0 = x at *
    have hm1 : m + x * 2 ^ (8 * i) < 2 ^ (8 * (i + 1)) := by
      rw [show 8 * (i + 1) = 8 * i + 8 from by omega, Nat.pow_add]
      have : x * 2 ^ (8 * i) ≤ 255 * 2 ^ (8 * i) := Nat.mul_le_mul_right _ (by omega)
      omega
    refine ⟨m + x * 2 ^ (8 * i), h3, hm1, ?_⟩
    rw [getU, h3]
    generalize m + x * 2 ^ (8 * i) = M at *
    generalize s.getD (i + 1) 0 = y at *
    have hle : 2 ^ (8 * (i + 1)) ≤ 2 ^ 56 := Nat.pow_le_pow_right (by omega) (by omega)
    have hP : y * 2 ^ (8 * (i + 1)) ≤ 255 * 2 ^ 56 := Nat.mul_le_mul (by omega) hle
    have hcast : ((y : Nat) : Int) * 2 ^ (8 * (i + 1)) = ((y * 2 ^ (8 * (i + 1)) : Nat) : Int) := by simp
    rw [hcast]
    have hor : M ||| (y * 2 ^ (8 * (i + 1))) = M + y * 2 ^ (8 * (i + 1)) := by
      have h := (Nat.two_pow_add_eq_or_of_lt hm1 y).symm
      rw [Nat.or_comm, Nat.mul_comm y, h, Nat.add_comm]
    generalize hQ : y * 2 ^ (8 * (i + 1)) = Q at *
    have hML : M < 2 ^ 56 := by omega
    rw [wrap_u64 (x := (Q : Int)) (by omega) (by omega)]
    unfold orU
    have q1 : ((M : Int) % 18446744073709551616).toNat = M := by omega
    have q2 : ((Q : Int) % 18446744073709551616).toNat = Q := by omega
    rw [q1, q2, hor]
    exact wrap_u64 (by omega) (by omega)
theorem getU_four (s : List Nat) (hs : ∀ y ∈ s, y < 256) : getU s 4 = ((s.getD 0 0 + s.getD 1 0 * 256 + s.getD 2 0 * 65536 + s.getD 3 0 * 16777216 : Nat) : Int) := by
  obtain ⟨m0, a0, _, b0⟩ := getU_sum s hs 0 (by omega)
  obtain ⟨m1, a1, _, b1⟩ := getU_sum s hs 1 (by omega)
  obtain ⟨m2, a2, _, b2⟩ := getU_sum s hs 2 (by omega)
  obtain ⟨m3, a3, _, b3⟩ := getU_sum s hs 3 (by omega)
  have : m0 = 0 := by have := a0; simp [getU] at this; omega
  subst this
  rw [b3]
  rw [a1] at b0; rw [a2] at b1; rw [a3] at b2
  simp at b0 b1 b2 ⊢
  omega

/-- portholeref1.Get32. -/
def s_Get32R : List V → Heap → Option (V × Heap)
  | [v], h => match slB h v with
    | some s => if 4 ≤ s.length then some (.int .u32 (wrapF .u32 (getU s 4)), h) else none
    | none => none
  | _, _ => none
theorem Get32R_ok (cf : ACall) : Sum cf c24 s_Get32R := by
  intro args h v h' hf hsc hlt hs
  unfold s_Get32R at hs
  split at hs
  · rename_i vb
    split at hs
    · rename_i s hb
      split at hs
      · rename_i hl
        simp only [Option.some.injEq, Prod.mk.injEq] at hs
        obtain ⟨rfl, rfl⟩ := hs
        refine ⟨1, ?_⟩
        have hsl := slB_isSl hb
        have hvl := slB_vlen hb
        have hg := getU_four s (slB_lt hb)
        have hlt0 := slB_lt hb
        have hy : ∀ i, i < 4 → ∃ y, s[i]? = some y ∧ y < 256 ∧ s.getD i 0 = y := fun i hi => by
          have hi' : i < s.length := by omega
          exact ⟨s[i], List.getElem?_eq_getElem hi', hlt0 _ (List.getElem_mem hi'), by rw [List.getD_eq_getElem?_getD, List.getElem?_eq_getElem hi']; rfl⟩
        obtain ⟨y0, p0, q0, r0⟩ := hy 0 (by omega)
        obtain ⟨y1, p1, q1, r1⟩ := hy 1 (by omega)
        obtain ⟨y2, p2, q2, r2⟩ := hy 2 (by omega)
        obtain ⟨y3, p3, q3, r3⟩ := hy 3 (by omega)
        rw [r0, r1, r2, r3] at hg
        rw [hg]
        have k0 : 0 < s.length := by omega
        have k1 : 1 < s.length := by omega
        have k2 : 2 < s.length := by omega
        have k3 : 3 < s.length := by omega
        have e0 : s[0] = y0 := by rw [List.getElem?_eq_getElem k0] at p0; exact Option.some.inj p0
        have e1 : s[1] = y1 := by rw [List.getElem?_eq_getElem k1] at p1; exact Option.some.inj p1
        have e2 : s[2] = y2 := by rw [List.getElem?_eq_getElem k2] at p2; exact Option.some.inj p2
        have e3 : s[3] = y3 := by rw [List.getElem?_eq_getElem k3] at p3; exact Option.some.inj p3
        have i1 : (1 : Int) < (s.length : Int) := by omega
        have i2 : (2 : Int) < (s.length : Int) := by omega
        have i3 : (3 : Int) < (s.length : Int) := by omega
        simp (config := {maxSteps := 1000000, maxDischargeDepth := 9, implicitDefEqProofs := false}) [c24, hsl, hvl, hb, k0, k1, k2, k3, i1, i2, i3, e0, e1, e2, e3]
        have hr : wrapF .u32 (wrapF .u32 (wrapF .u32 (wrapF .u32 (y0 : Int) + wrapF .u32 (wrapF .u32 (y1 : Int) * 256)) + wrapF .u32 (wrapF .u32 (y2 : Int) * 65536)) + wrapF .u32 (wrapF .u32 (y3 : Int) * 16777216)) = wrapF .u32 ((y0 : Int) + (y1 : Int) * 256 + (y2 : Int) * 65536 + (y3 : Int) * 16777216) := by
          simp only [wrap_u32_mod]; omega
        rw [hr]
        exact Canon.keep hf hsc (Ext.refl _) (by simp only [V.lt])
      · cases hs
    · cases hs
  · cases hs
theorem putB_four (x : Int) : bytesOf (putB x 4) = [.int .u8 (wrapF .u8 x), .int .u8 (wrapF .u8 (x / 256)), .int .u8 (wrapF .u8 (x / 65536)), .int .u8 (wrapF .u8 (x / 16777216))] := by
  simp only [wrap_u8_mod]
  simp [putB, bytesOf, List.range_succ]
  omega
theorem Put32R_ok (cf : ACall) : Sum cf c25 s_Put32 := by
  intro args h v h' hf hsc hlt hs
  unfold s_Put32 at hs
  split at hs
  · rename_i x
    split at hs
    · rename_i hx
      simp only [Option.some.injEq, Prod.mk.injEq] at hs
      obtain ⟨rfl, rfl⟩ := hs
      refine ⟨1, ?_⟩
      rw [putB_four]
      simp (config := {maxSteps := 1000000, maxDischargeDepth := 9, implicitDefEqProofs := false}) [c25]
      exact Canon.made hf hsc rfl (by simp) (by simp only [ltL, V.lt, and_self])
    · cases hs
  · cases hs

/-- The document's rows. -/
def rowsL : List Int := [0, 4, 8, 12, 1, 5, 9, 13, 2, 6, 10, 14, 3, 7, 11, 15, 0, 5, 10, 15, 1, 6, 11, 12, 2, 7, 8, 13, 3, 4, 9, 14]
/-- The laid table stands in memory. -/
def hasRows (h : Heap) : Prop := ∃ t, h.get 0 = some (.cells (rowsL.map (V.int .i64)) t 1 false)
theorem hasRows_new {h : Heap} (B : Blk) (h0 : 0 < h.next) : hasRows (h.new B) = hasRows h := by
  unfold hasRows
  rw [Heap.get_new, if_neg (by omega)]
theorem hasRows_ext {h H : Heap} (hr : hasRows h) (hf : Fresh h) (he : Ext h H) : hasRows H := by
  obtain ⟨t, ht⟩ := hr
  exact ⟨t, he.get hf ht⟩
theorem hasRows_pos {h : Heap} (hr : hasRows h) (hf : Fresh h) : 0 < h.next := by
  obtain ⟨t, ht⟩ := hr
  exact hf.lt ht
/-- Memory within a block's rounds. -/
structure GR (h : Heap) (Rb Wb : Blk) (v : List Int) (H : Heap) : Prop where
  ext : Ext h H
  fresh : Fresh H
  next : h.next + 5 ≤ H.next
  g2 : H.get (h.next + 2) = some Rb
  g3 : H.get (h.next + 3) = some Wb
  g4 : H.get (h.next + 4) = some (.cells (v.map (V.int .u32)) 43 1 true)
def rrow (v : List Int) : Nat → List Int
  | 0 => v
  | i + 1 => qr (rrow v i) (rowsL.getD (4 * i) 0).toNat (rowsL.getD (4 * i + 1) 0).toNat (rowsL.getD (4 * i + 2) 0).toNat (rowsL.getD (4 * i + 3) 0).toNat
theorem rrow_length {v : List Int} : ∀ i, (rrow v i).length = v.length
  | 0 => rfl
  | i + 1 => by simp only [rrow, qr_length, rrow_length i]
theorem rrow_all (v : List Int) : rrow v 8 = dround v := rfl
theorem GR.step {h H : Heap} {Rb Wb : Blk} {v w : List Int} (g : GR h Rb Wb v H) (B : Blk) : GR h Rb Wb w ((H.set (h.next + 4) (some (.cells (w.map (V.int .u32)) 43 1 true))).new B) := by
  have := g.next
  refine ⟨(g.ext.trans_set (by omega) _).trans_new _, (g.fresh.set (by omega) _).new _, by simp; omega, ?_, ?_, ?_⟩
  · rw [Heap.get_new, if_neg (by simp; omega), Heap.get_set, if_neg (by omega)]; exact g.g2
  · rw [Heap.get_new, if_neg (by simp; omega), Heap.get_set, if_neg (by omega)]; exact g.g3
  · rw [Heap.get_new, if_neg (by simp; omega), Heap.get_set, if_pos rfl]

theorem over_four (a b c d x y z w : V) : over [a, b, c, d] 0 [x, y, z, w] = [x, y, z, w] := rfl
theorem BlockR_inner (cf : ACall) (hQ : ∀ a h, cf 7 a h = s_Quarter a h) (h : Heap) (hf : Fresh h) (hrows : hasRows h) (Rb Wb : Blk) (v : List Int) (hv : v.length = 16) : ∀ e H0, e.n = 124 → e.at 10 = .ptr (h.next + 4) 0 → e.at 12 = .int .i64 0 → GR h Rb Wb v H0 →
    YtjdofdokdemnkaaDoorA.Ends (execA cf 20 (.loop c10_l3) e H0) fun x e' H => x = .exit 6 ∧ GR h Rb Wb (dround v) H := by
  intro e H0 hn h10 h12 hG0
  refine loop_count (cf := cf) (N := 20) (c := c10_l3) 8
    (fun i e H => e.n = 124 ∧ e.at 10 = .ptr (h.next + 4) 0 ∧ e.at 12 = .int .i64 (i : Int) ∧ GR h Rb Wb (rrow v i) H)
    (fun x e' H => x = .exit 6 ∧ GR h Rb Wb (dround v) H) ?_ ?_ 0 e _ (Nat.zero_le _) ⟨hn, h10, h12, hG0⟩ (by omega)
  · rintro i e H hi ⟨hn, h10, h12, hG⟩
    obtain ⟨t, g0⟩ := hasRows_ext hrows hf hG.ext
    have hnx := hG.next
    have g4 := hG.g4
    have hp := hf.lt hrows.choose_spec
    have hq1 : (h.next + 4 = H.next) = False := by simp; omega
    have hq2 : (H.next = h.next + 4) = False := by simp; omega
    have hq3 : (0 = H.next) = False := by simp; omega
    have hl := rrow_length (v := v) i
    rw [hv] at hl
    have hr : rrow v (i + 1) = qr (rrow v i) (rowsL.getD (4 * i) 0).toNat (rowsL.getD (4 * i + 1) 0).toNat (rowsL.getD (4 * i + 2) 0).toNat (rowsL.getD (4 * i + 3) 0).toNat := rfl
    generalize rrow v i = vi at *
    generalize rrow v (i + 1) = vj at *
    subst hr
    have hii : i = 0 ∨ i = 1 ∨ i = 2 ∨ i = 3 ∨ i = 4 ∨ i = 5 ∨ i = 6 ∨ i = 7 := by omega
    rcases hii with rfl | rfl | rfl | rfl | rfl | rfl | rfl | rfl <;>
      (simp (config := {maxSteps := 1000000, maxDischargeDepth := 9, implicitDefEqProofs := false}) [c10_l3, over_four, hn, h10, h12, g0, g4, rowsL, hq1, hq2, hq3, hQ, s_Quarter, hl, -over, over_set, map_set, -List.map_set, qr, List.getD]
       exact hG.step _)
  · rintro e H ⟨hn, h10, h12, hG⟩
    simp (config := {maxSteps := 1000000, maxDischargeDepth := 9, implicitDefEqProofs := false}) [c10_l3, hn, h10, h12]
    exact hG

theorem BlockR_outer (cf : ACall) (hQ : ∀ a h, cf 7 a h = s_Quarter a h) (h : Heap) (hf : Fresh h) (hrows : hasRows h) (Rb Wb : Blk) (v : List Int) (hv : v.length = 16) : ∀ e H0, e.n = 124 → e.at 10 = .ptr (h.next + 4) 0 → e.at 11 = .int .i64 0 → GR h Rb Wb v H0 →
    YtjdofdokdemnkaaDoorA.Ends (execA cf 20 (.loop c10_l2) e H0) fun x e' H => x = .exit 4 ∧ GR h Rb Wb (rounds v 10) H := by
  intro e H0 hn h10 h11 hG0
  refine loop_count (cf := cf) (N := 20) (c := c10_l2) 10
    (fun i e H => e.n = 124 ∧ e.at 10 = .ptr (h.next + 4) 0 ∧ e.at 11 = .int .i64 (i : Int) ∧ GR h Rb Wb (rounds v i) H)
    (fun x e' H => x = .exit 4 ∧ GR h Rb Wb (rounds v 10) H) ?_ ?_ 0 e _ (Nat.zero_le _) ⟨hn, h10, h11, hG0⟩ (by omega)
  · rintro i e H hi ⟨hn, h10, h11, hG⟩
    have hr : rounds v (i + 1) = dround (rounds v i) := rfl
    have hl := rounds_length (v := v) i
    rw [hv] at hl
    simp (config := {maxSteps := 1000000, maxDischargeDepth := 9, implicitDefEqProofs := false}) [c10_l2, hn, h10, h11, show (i : Int) < 10 from by omega]
    refine loop_in (K := fun r => seqS _ _ _ (blockS _ (blockS _ r))) (BlockR_inner cf hQ h hf hrows Rb Wb (rounds v i) hl _ _ ?_ ?_ ?_ hG) ?_
    · simp (config := {maxSteps := 1000000, maxDischargeDepth := 9, implicitDefEqProofs := false}) [hn]
    · simp (config := {maxSteps := 1000000, maxDischargeDepth := 9, implicitDefEqProofs := false}) [hn, h10]
    · simp (config := {maxSteps := 1000000, maxDischargeDepth := 9, implicitDefEqProofs := false}) [hn]
    · rintro x H ⟨rfl, hG2⟩
      simp (config := {maxSteps := 1000000, maxDischargeDepth := 9, implicitDefEqProofs := false}) [hn, h10, h11, c10_l3_wr, wrap_i64 (x := (i : Int) + 1) (by omega) (by omega)]
      rw [hr]; exact hG2
  · rintro e H ⟨hn, h10, h11, hG⟩
    simp (config := {maxSteps := 1000000, maxDischargeDepth := 9, implicitDefEqProofs := false}) [c10_l2, hn, h10, h11]
    exact hG

/-- Memory while a block's bytes are written. -/
structure GO (h : Heap) (Rb Wb Vb : Blk) (p : Nat) (cs : List V) (H : Heap) : Prop where
  ext : Ext h H
  fresh : Fresh H
  hp : h.next + 5 ≤ p
  lt : p < H.next
  g2 : H.get (h.next + 2) = some Rb
  g3 : H.get (h.next + 3) = some Wb
  g4 : H.get (h.next + 4) = some Vb
  gp : H.get p = some (.cells cs 28 1 true)
theorem GO.set {h H : Heap} {Rb Wb Vb : Blk} {p : Nat} {cs : List V} (g : GO h Rb Wb Vb p cs H) (cs' : List V) : GO h Rb Wb Vb p cs' (H.set p (some (.cells cs' 28 1 true))) := by
  have := g.hp; have := g.lt
  refine ⟨g.ext.trans_set (by omega) _, g.fresh.set g.lt _, g.hp, by simpa using g.lt, ?_, ?_, ?_, ?_⟩
  · rw [Heap.get_set, if_neg (by omega)]; exact g.g2
  · rw [Heap.get_set, if_neg (by omega)]; exact g.g3
  · rw [Heap.get_set, if_neg (by omega)]; exact g.g4
  · rw [Heap.get_set, if_pos rfl]
theorem GO.new {h H : Heap} {Rb Wb Vb : Blk} {p : Nat} {cs : List V} (g : GO h Rb Wb Vb p cs H) (B : Blk) : GO h Rb Wb Vb p cs (H.new B) := by
  have := g.hp; have := g.lt
  refine ⟨g.ext.trans_new _, g.fresh.new _, g.hp, by simp; omega, ?_, ?_, ?_, ?_⟩
  · rw [Heap.get_new, if_neg (by omega)]; exact g.g2
  · rw [Heap.get_new, if_neg (by omega)]; exact g.g3
  · rw [Heap.get_new, if_neg (by omega)]; exact g.g4
  · rw [Heap.get_new, if_neg (by omega)]; exact g.gp

theorem BlockR_put (cf : ACall) (h : Heap) (Rb Wb Vb : Blk) (p q i : Nat) (o y : List Nat) (hi : i < 16) (ho : o.length = 4 * i) (hy : y.length = 4) (hpq : p < q) : ∀ e H0, e.n = 124 → e.at 14 = .ptr p 0 → e.at 15 = .int .i64 (i : Int) → e.at 16 = .slice q 0 4 none → e.at 17 = .int .i64 0 →
    GO h Rb Wb Vb p (bytesOf o ++ List.replicate (64 - 4 * i) (.int .u8 0)) H0 → H0.get q = some (.cells (bytesOf y) 5 1 true) →
    YtjdofdokdemnkaaDoorA.Ends (execA cf 20 (.loop c10_l5) e H0) fun x e' H => x = .exit 10 ∧ GO h Rb Wb Vb p (bytesOf (o ++ y) ++ List.replicate (64 - 4 * (i + 1)) (.int .u8 0)) H := by
  intro e H0 hn h14 h15 h16 h17 hG0 gq0
  refine loop_count (cf := cf) (N := 20) (c := c10_l5) 4
    (fun k e H => e.n = 124 ∧ e.at 14 = .ptr p 0 ∧ e.at 15 = .int .i64 (i : Int) ∧ e.at 16 = .slice q 0 4 none ∧ e.at 17 = .int .i64 (k : Int) ∧ GO h Rb Wb Vb p (bytesOf (o ++ y.take k) ++ List.replicate (64 - 4 * i - k) (.int .u8 0)) H ∧ H.get q = some (.cells (bytesOf y) 5 1 true))
    (fun x e' H => x = .exit 10 ∧ GO h Rb Wb Vb p (bytesOf (o ++ y) ++ List.replicate (64 - 4 * (i + 1)) (.int .u8 0)) H) ?_ ?_ 0 e _ (Nat.zero_le _) ⟨hn, h14, h15, h16, h17, by simpa using hG0, gq0⟩ (by omega)
  · rintro k e H hk ⟨hn, h14, h15, h16, h17, hG, gq⟩
    have gp := hG.gp
    have hset := hG.set
    have hq1 : (p = q) = False := by simp; omega
    have hq2 : (q = p) = False := by simp; omega
    obtain ⟨r, hr⟩ : ∃ r, 64 - 4 * i - k = r + 1 := ⟨64 - 4 * i - k - 1, by omega⟩
    have hr2 : 64 - 4 * i - (k + 1) = r := by omega
    have hky : k < y.length := by omega
    have hlen : (o ++ y.take k).length = 4 * i + k := by simp; omega
    have hov := over_fill (bytesOf (o ++ y.take k)) (.int .u8 0) (.int .u8 ((y[k] : Nat) : Int)) r
    rw [bytesOf_length, hlen] at hov
    have hb : bytesOf (o ++ y.take (k + 1)) = bytesOf (o ++ y.take k) ++ [.int .u8 ((y[k] : Nat) : Int)] := by
      rw [List.take_succ_eq_append_getElem hky, ← List.append_assoc, bytesOf_append]
      simp [bytesOf]
    have hcl : (bytesOf (o ++ y.take k) ++ List.replicate (r + 1) (V.int .u8 0)).length = 64 := by rw [List.length_append, bytesOf_length, hlen, List.length_replicate]; omega
    rw [hr] at gp
    rw [hr2]
    generalize hcs : bytesOf (o ++ y.take k) ++ List.replicate (r + 1) (V.int .u8 0) = cs at *
    rw [hb]
    generalize hcs2 : bytesOf (o ++ y.take k) ++ [V.int .u8 ((y[k] : Nat) : Int)] ++ List.replicate r (V.int .u8 0) = cs2 at *
    have w1 : wrapF .i64 (4 * (i : Int)) = 4 * (i : Int) := wrap_i64 (by omega) (by omega)
    have w2 : wrapF .i64 (4 * (i : Int) + (k : Int)) = 4 * (i : Int) + (k : Int) := wrap_i64 (by omega) (by omega)
    have t1 : (4 * (i : Int) + (k : Int)).toNat = 4 * i + k := by omega
    simp (config := {maxSteps := 1000000, maxDischargeDepth := 9, implicitDefEqProofs := false}) [c10_l5, hn, h14, h15, h16, h17, hk, show (k : Int) < 4 from by omega, gp, gq, hq1, hq2, w1, w2, t1, hky, hcl, hov, -over, show 4 * (i : Int) + (k : Int) < 64 from by omega, show (0 : Int) ≤ 4 * (i : Int) + (k : Int) from by omega, show 4 * i + k ≤ 63 from by omega, wrap_i64 (x := (k : Int) + 1) (by omega) (by omega)]
    exact hset _
  · rintro e H ⟨hn, h14, h15, h16, h17, hG, gq⟩
    rw [List.take_of_length_le (by omega), show 64 - 4 * i - 4 = 64 - 4 * (i + 1) from by omega] at hG
    simp (config := {maxSteps := 1000000, maxDischargeDepth := 9, implicitDefEqProofs := false}) [c10_l5, hn, h14, h17]
    exact hG

theorem BlockR_out (cf : ACall) (hP : ∀ a h, cf 25 a h = s_Put32 a h) (h : Heap) (Rb : Blk) (v w : List Int) (tw tv p : Nat) (hv : v.length = 16) (hw : w.length = 16) : ∀ e H0, e.n = 124 → e.at 14 = .ptr p 0 → e.at 10 = .ptr (h.next + 4) 0 → e.at 7 = .ptr (h.next + 3) 0 → e.at 15 = .int .i64 0 →
    GO h Rb (.cells (w.map (V.int .u32)) tw 1 true) (.cells (v.map (V.int .u32)) tv 1 true) p (List.replicate 64 (.int .u8 0)) H0 →
    YtjdofdokdemnkaaDoorA.Ends (execA cf 20 (.loop c10_l4) e H0) fun x e' H => x = .exit 8 ∧ GO h Rb (.cells (w.map (V.int .u32)) tw 1 true) (.cells (v.map (V.int .u32)) tv 1 true) p (bytesOf (outF v w 16)) H := by
  intro e H0 hn h14 h10 h7 h15 hG0
  refine loop_count (cf := cf) (N := 20) (c := c10_l4) 16
    (fun i e H => e.n = 124 ∧ e.at 14 = .ptr p 0 ∧ e.at 10 = .ptr (h.next + 4) 0 ∧ e.at 7 = .ptr (h.next + 3) 0 ∧ e.at 15 = .int .i64 (i : Int) ∧ GO h Rb (.cells (w.map (V.int .u32)) tw 1 true) (.cells (v.map (V.int .u32)) tv 1 true) p (bytesOf (outF v w i) ++ List.replicate (64 - 4 * i) (.int .u8 0)) H)
    (fun x e' H => x = .exit 8 ∧ GO h Rb (.cells (w.map (V.int .u32)) tw 1 true) (.cells (v.map (V.int .u32)) tv 1 true) p (bytesOf (outF v w 16)) H) ?_ ?_ 0 e _ (Nat.zero_le _) ⟨hn, h14, h10, h7, h15, by simpa [outF, bytesOf_nil] using hG0⟩ (by omega)
  · rintro i e H hi ⟨hn, h14, h10, h7, h15, hG⟩
    have gv := hG.g4
    have gw := hG.g3
    have hxr := add32_range (v.getD i 0) (w.getD i 0)
    have hgv : v.getD i 0 = v[i] := by rw [List.getD_eq_getElem?_getD, List.getElem?_eq_getElem (by omega)]; rfl
    have hgw : w.getD i 0 = w[i] := by rw [List.getD_eq_getElem?_getD, List.getElem?_eq_getElem (by omega)]; rfl
    rw [hgv, hgw] at hxr
    have hadd : wrapF .u32 (v[i] + w[i]) = add32 v[i] w[i] := rfl
    have hout : outF v w (i + 1) = outF v w i ++ putB (add32 v[i] w[i]) 4 := by simp only [outF, hgv, hgw]
    generalize hx : add32 v[i] w[i] = x at *
    have hlen := outF_length v w i
    simp (config := {maxSteps := 1000000, maxDischargeDepth := 9, implicitDefEqProofs := false}) [c10_l4, hn, h14, h10, h7, h15, hi, show (i : Int) < 16 from by omega, gv, gw, hv, hw, hadd, hx, hP, s_Put32, hxr.1, hxr.2]
    refine loop_in (K := fun r => seqS _ _ _ (blockS _ (blockS _ r))) (BlockR_put cf h Rb _ _ p H.next i (outF v w i) (putB x 4) hi hlen (putB_length x 4) hG.lt _ _ ?_ ?_ ?_ ?_ ?_ (hG.new _) ?_) ?_
    · simp (config := {maxSteps := 1000000, maxDischargeDepth := 9, implicitDefEqProofs := false}) [hn]
    · simp (config := {maxSteps := 1000000, maxDischargeDepth := 9, implicitDefEqProofs := false}) [hn, h14]
    · simp (config := {maxSteps := 1000000, maxDischargeDepth := 9, implicitDefEqProofs := false}) [hn, h15]
    · simp (config := {maxSteps := 1000000, maxDischargeDepth := 9, implicitDefEqProofs := false}) [hn]
    · simp (config := {maxSteps := 1000000, maxDischargeDepth := 9, implicitDefEqProofs := false}) [hn]
    · simp (config := {maxSteps := 1000000, maxDischargeDepth := 9, implicitDefEqProofs := false})
    · rintro x H ⟨rfl, hG2⟩
      rw [← hout] at hG2
      simp (config := {maxSteps := 1000000, maxDischargeDepth := 9, implicitDefEqProofs := false}) [hn, h14, h10, h7, h15, c10_l5_wr, wrap_i64 (x := (i : Int) + 1) (by omega) (by omega)]
      exact hG2
  · rintro e H ⟨hn, h14, h10, h7, h15, hG⟩
    simp (config := {maxSteps := 1000000, maxDischargeDepth := 9, implicitDefEqProofs := false}) [c10_l4, hn, h15]
    simpa using hG

theorem getU_take (s : List Nat) (n : Nat) : ∀ i, i ≤ n → getU (s.take n) i = getU s i
  | 0, _ => rfl
  | i + 1, h => by
    simp only [getU]
    rw [getU_take s n i (by omega), List.getD_eq_getElem?_getD, List.getD_eq_getElem?_getD, List.getElem?_take, if_pos (by omega)]
theorem getU_cut (s : List Nat) (l n : Nat) : getU ((s.take (l + n)).drop l) n = getU (s.drop l) n := by
  rw [List.drop_take, show l + n - l = n from by omega]
  exact getU_take _ _ _ (Nat.le_refl _)
/-- portholeref4.Block. -/
noncomputable def s_BlockR : List V → Heap → Option (V × Heap)
  | [vk, .int .u32 c, vn], h => match aggB vk, aggB vn with
    | some k, some n => open Classical in if k.length = 32 ∧ n.length = 12 ∧ hasRows h then some (.agg (bytesOf (blockF k c n)), h) else none
    | _, _ => none
  | _, _ => none

theorem BlockR_ok (cf : ACall) (hQ : ∀ a h, cf 7 a h = s_Quarter a h) (hG : ∀ a h, cf 24 a h = s_Get32R a h) (hP : ∀ a h, cf 25 a h = s_Put32 a h) : Sum cf c10 s_BlockR := by
  intro args h v h' hf hsc hlt hs
  unfold s_BlockR at hs
  split at hs
  · rename_i vk c vn
    split at hs
    · rename_i k n hk hn
      split at hs
      · rename_i hl
        obtain ⟨hl1, hl2, hrows⟩ := hl
        simp only [Option.some.injEq, Prod.mk.injEq] at hs
        obtain ⟨rfl, rfl⟩ := hs
        obtain ⟨rfl, hkb⟩ := aggB_some hk
        obtain ⟨rfl, hnb⟩ := aggB_some hn
        generalize hA : Blk.cells (bytesOf k) 22 1 true = A
        generalize hB : Blk.cells (bytesOf n) 24 1 true = B
        obtain ⟨R0, hR0⟩ : ∃ R0 : List V, R0 = List.replicate 64 (V.int .u8 0) := ⟨_, rfl⟩
        have hR0l : R0.length = 64 := by rw [hR0]; simp
        generalize hR : Blk.cells R0 28 1 true = R
        refine ⟨20, ?_⟩
        have hsk : slB (h.new A) (.slice h.next 0 32 (some 32)) = some k := by
          subst hA; simp (config := {maxSteps := 1000000, maxDischargeDepth := 9, implicitDefEqProofs := false}) [hl1, asB_bytesOf hkb]
        have hsn : slB ((h.new A).new B) (.slice (h.next + 1) 0 12 (some 12)) = some n := by
          subst hB; simp (config := {maxSteps := 1000000, maxDischargeDepth := 9, implicitDefEqProofs := false}) [hl2, asB_bytesOf hnb]
        have L1 := loop_count (cf := cf) (N := 20) (c := c10_l0) 8
          (fun i e H => e.n = 124 ∧ e.at 1 = .int .u32 c ∧ e.at 3 = .ptr h.next 0 ∧ e.at 5 = .ptr (h.next + 1) 0 ∧ e.at 6 = .ptr (h.next + 2) 0 ∧ e.at 7 = .ptr (h.next + 3) 0 ∧ e.at 8 = .int .i64 (i : Int) ∧ H = (((h.new A).new B).new R).new (.cells ((kw k i).map (V.int .u32)) 43 1 true))
          (fun x e H => x = .exit 0 ∧ e.n = 124 ∧ e.at 1 = .int .u32 c ∧ e.at 3 = .ptr h.next 0 ∧ e.at 5 = .ptr (h.next + 1) 0 ∧ e.at 6 = .ptr (h.next + 2) 0 ∧ e.at 7 = .ptr (h.next + 3) 0 ∧ H = (((h.new A).new B).new R).new (.cells ((kw k 8).map (V.int .u32)) 43 1 true))
          (by
            rintro i e H hi ⟨hn', h1, h3, h5, h6, h7, h8, rfl⟩
            have w1 : wrapF .i64 (4 + (i : Int)) = 4 + (i : Int) := wrap_i64 (by omega) (by omega)
            have w2 : wrapF .i64 (4 * (i : Int)) = 4 * (i : Int) := wrap_i64 (by omega) (by omega)
            have w2b : wrapF .i64 (4 * (i : Int) + 4) = 4 * (i : Int) + 4 := wrap_i64 (by omega) (by omega)
            have w3 : (4 + (i : Int)).toNat = 4 + i := by omega
            have w4 : (4 * (i : Int)).toNat = 4 * i := by omega
            have w5 : (4 * (i : Int) + 4).toNat = 4 * i + 4 := by omega
            have hgc := getU_cut k (4 * i) 4
            have hcl : ((k.take (4 * i + 4)).drop (4 * i)).length = 4 := by simp; omega
            generalize hcut : (k.take (4 * i + 4)).drop (4 * i) = ct at *
            have hkw : kw k (i + 1) = (kw k i).set (4 + i) (wrapF .u32 (getU (k.drop (4 * i)) 4)) := rfl
            simp (config := {maxSteps := 1000000, maxDischargeDepth := 9, implicitDefEqProofs := false}) [c10_l0, hn', h1, h3, h5, h6, h7, h8, hi, w1, w2, w2b, w3, w4, w5, hsk, show 4 * (i : Int) + 4 ≤ 32 from by omega, show (0 : Int) ≤ 4 * (i : Int) from by omega, show 4 * i + 4 ≤ 32 from by omega, show 4 * (i : Int) ≤ 4 * (i : Int) + 4 from by omega, hG, s_Get32R, hcut, hcl, hgc, show (0 : Int) ≤ 4 + (i : Int) from by omega, show 4 + (i : Int) < 16 from by omega, kw_length, -over, over_set, show 4 + i < 16 from by omega, show 4 + i + 1 ≤ 16 from by omega, map_set, -List.map_set, hkw, show (i : Int) < 8 from by omega, wrap_i64 (x := (i : Int) + 1) (by omega) (by omega), -List.length_drop]
            )
          (by
            rintro e H ⟨hn', h1, h3, h5, h6, h7, h8, rfl⟩
            simp (config := {maxSteps := 1000000, maxDischargeDepth := 9, implicitDefEqProofs := false}) [c10_l0, hn', h1, h3, h5, h6, h7, h8])
        have L2 := loop_count (cf := cf) (N := 20) (c := c10_l1) 3
          (fun i e H => e.n = 124 ∧ e.at 5 = .ptr (h.next + 1) 0 ∧ e.at 6 = .ptr (h.next + 2) 0 ∧ e.at 7 = .ptr (h.next + 3) 0 ∧ e.at 9 = .int .i64 (i : Int) ∧ H = (((h.new A).new B).new R).new (.cells ((nw n ((kw k 8).set 12 c) i).map (V.int .u32)) 43 1 true))
          (fun x e H => x = .exit 2 ∧ e.n = 124 ∧ e.at 6 = .ptr (h.next + 2) 0 ∧ e.at 7 = .ptr (h.next + 3) 0 ∧ H = (((h.new A).new B).new R).new (.cells ((wordsF k c n).map (V.int .u32)) 43 1 true))
          (by
            rintro i e H hi ⟨hn', h5, h6, h7, h9, rfl⟩
            have w1 : wrapF .i64 (13 + (i : Int)) = 13 + (i : Int) := wrap_i64 (by omega) (by omega)
            have w2 : wrapF .i64 (4 * (i : Int)) = 4 * (i : Int) := wrap_i64 (by omega) (by omega)
            have w2b : wrapF .i64 (4 * (i : Int) + 4) = 4 * (i : Int) + 4 := wrap_i64 (by omega) (by omega)
            have w3 : (13 + (i : Int)).toNat = 13 + i := by omega
            have w4 : (4 * (i : Int)).toNat = 4 * i := by omega
            have w5 : (4 * (i : Int) + 4).toNat = 4 * i + 4 := by omega
            have hgc := getU_cut n (4 * i) 4
            have hcl : ((n.take (4 * i + 4)).drop (4 * i)).length = 4 := by simp; omega
            generalize hcut : (n.take (4 * i + 4)).drop (4 * i) = ct at *
            have hnl := nw_length n (w := (kw k 8).set 12 c) (by simp [kw_length]) i
            have hnw : nw n ((kw k 8).set 12 c) (i + 1) = (nw n ((kw k 8).set 12 c) i).set (13 + i) (wrapF .u32 (getU (n.drop (4 * i)) 4)) := rfl
            simp (config := {maxSteps := 1000000, maxDischargeDepth := 9, implicitDefEqProofs := false}) [c10_l1, hn', h5, h6, h7, h9, hi, w1, w2, w2b, w3, w4, w5, hsn, show 4 * (i : Int) + 4 ≤ 12 from by omega, show (0 : Int) ≤ 4 * (i : Int) from by omega, show 4 * i + 4 ≤ 12 from by omega, show 4 * (i : Int) ≤ 4 * (i : Int) + 4 from by omega, hG, s_Get32R, hcut, hcl, hgc, show (0 : Int) ≤ 13 + (i : Int) from by omega, show 13 + (i : Int) < 16 from by omega, hnl, -over, over_set, show 13 + i < 16 from by omega, show 13 + i + 1 ≤ 16 from by omega, map_set, -List.map_set, hnw, show (i : Int) < 3 from by omega, wrap_i64 (x := (i : Int) + 1) (by omega) (by omega), -List.length_drop])
          (by
            rintro e H ⟨hn', h5, h6, h7, h9, rfl⟩
            simp (config := {maxSteps := 1000000, maxDischargeDepth := 9, implicitDefEqProofs := false}) [c10_l1, hn', h5, h6, h7, h9]
            rfl)
        have hwl := wordsF_length k c n
        generalize hwq : wordsF k c n = w at *
        have tw : (w.map (V.int .u32)).take 16 = w.map (V.int .u32) := List.take_of_length_le (by simp [hwl])
        have hrl := rounds_length (v := w) 10
        rw [hwl] at hrl
        have hol : (outF (rounds w 10) w 16).length = 64 := outF_length (rounds w 10) w 16
        have hbf : blockF k c n = outF (rounds w 10) w 16 := by unfold blockF; rw [hwq]
        rw [hbf]
        simp (config := {maxSteps := 1000000, maxDischargeDepth := 9, implicitDefEqProofs := false}) [c10, mem_bytes_one, mem_ints_one, hA, hB]
        refine loop_then (K := fun r => finS _ (seqS _ _ _ (blockS _ r))) (L1 0 _ _ (Nat.zero_le _) ?_ (by omega)) ?_
        · subst hR; simp (config := {maxSteps := 1000000, maxDischargeDepth := 9, implicitDefEqProofs := false}) [kw, hR0]
        · rintro x e' H ⟨rfl, hn', h1, h3, h5, h6, h7, rfl⟩
          simp (config := {maxSteps := 1000000, maxDischargeDepth := 9, implicitDefEqProofs := false}) [hn', h1, h3, h5, h6, h7, kw_length, -over, over_set, map_set, -List.map_set]
          refine loop_then (K := fun r => finS _ (seqS _ _ _ (blockS _ r))) (L2 0 _ _ (Nat.zero_le _) ?_ (by omega)) ?_
          · simp (config := {maxSteps := 1000000, maxDischargeDepth := 9, implicitDefEqProofs := false}) [hn', h5, h6, h7, nw]
          · rintro x e' H ⟨rfl, hn', h6, h7, rfl⟩
            simp (config := {maxSteps := 1000000, maxDischargeDepth := 9, implicitDefEqProofs := false}) [hn', h6, h7, hwl, tw, mem_ints_one, -List.map_take]
            have hgr : GR h R (.cells (w.map (V.int .u32)) 43 1 true) w (((((h.new A).new B).new R).new (.cells (w.map (V.int .u32)) 43 1 true)).new (.cells (w.map (V.int .u32)) 43 1 true)) := by
              refine ⟨by repeat (first | exact Ext.refl _ | apply Ext.trans_new), (((((hf.new _).new _).new _).new _).new _), ?_, ?_, ?_, ?_⟩
              · simp (config := {maxSteps := 1000000, maxDischargeDepth := 9, implicitDefEqProofs := false})
              · simp (config := {maxSteps := 1000000, maxDischargeDepth := 9, implicitDefEqProofs := false})
              · simp (config := {maxSteps := 1000000, maxDischargeDepth := 9, implicitDefEqProofs := false})
              · simp (config := {maxSteps := 1000000, maxDischargeDepth := 9, implicitDefEqProofs := false})
            refine loop_thenE (K := fun r => finS _ (seqS _ _ _ (blockS _ r))) (BlockR_outer cf hQ h hf hrows R _ w hwl _ _ ?_ ?_ ?_ hgr) ?_
            · simp (config := {maxSteps := 1000000, maxDischargeDepth := 9, implicitDefEqProofs := false}) [hn']
            · simp (config := {maxSteps := 1000000, maxDischargeDepth := 9, implicitDefEqProofs := false}) [hn']
            · simp (config := {maxSteps := 1000000, maxDischargeDepth := 9, implicitDefEqProofs := false}) [hn']
            · rintro x H ⟨rfl, hg⟩
              have hgn := hg.next
              simp (config := {maxSteps := 1000000, maxDischargeDepth := 9, implicitDefEqProofs := false}) [hn', h6, h7, c10_l2_wr]
              have hgo : GO h R (.cells (w.map (V.int .u32)) 43 1 true) (.cells ((rounds w 10).map (V.int .u32)) 43 1 true) H.next (List.replicate 64 (.int .u8 0)) (H.new (.cells (List.replicate 64 (.int .u8 0)) 28 1 true)) := by
                refine ⟨hg.ext.trans_new _, hg.fresh.new _, hg.next, by simp, ?_, ?_, ?_, ?_⟩
                · rw [Heap.get_new, if_neg (by omega)]; exact hg.g2
                · rw [Heap.get_new, if_neg (by omega)]; exact hg.g3
                · rw [Heap.get_new, if_neg (by omega)]; exact hg.g4
                · rw [Heap.get_new, if_pos rfl]
              refine loop_thenE (K := fun r => finS _ (seqS _ _ _ (blockS _ r))) (BlockR_out cf hP h R (rounds w 10) w 43 43 H.next hrl hwl _ _ ?_ ?_ ?_ ?_ ?_ hgo) ?_
              · simp (config := {maxSteps := 1000000, maxDischargeDepth := 9, implicitDefEqProofs := false}) [hn']
              · simp (config := {maxSteps := 1000000, maxDischargeDepth := 9, implicitDefEqProofs := false}) [hn']
              · simp (config := {maxSteps := 1000000, maxDischargeDepth := 9, implicitDefEqProofs := false}) [hn', c10_l2_wr]
              · simp (config := {maxSteps := 1000000, maxDischargeDepth := 9, implicitDefEqProofs := false}) [hn', h7, c10_l2_wr]
              · simp (config := {maxSteps := 1000000, maxDischargeDepth := 9, implicitDefEqProofs := false}) [hn']
              · rintro x H2 ⟨rfl, ho⟩
                have gp := ho.gp
                have g2 := ho.g2
                have hEo := ho.ext
                generalize outF (rounds w 10) w 16 = ob at *
                have tb : (bytesOf ob).take 64 = bytesOf ob := List.take_of_length_le (by rw [bytesOf_length, hol]; omega)
                have hov : over R0 0 (bytesOf ob) = bytesOf ob := by
                  unfold over
                  rw [bytesOf_length, hol, List.drop_eq_nil_of_le (by omega)]; simp
                subst hR
                simp (config := {maxSteps := 1000000, maxDischargeDepth := 9, implicitDefEqProofs := false}) [hn', h6, h7, c10_l2_wr, c10_l4_wr, gp, g2, hol, hR0l, tb, mem_bytes_one, -List.map_take, -over, hov]
                exact Canon.keep hf hsc (hEo.trans_set (by omega) _) (flat_aggB _ _)
      · cases hs
    · cases hs
  · cases hs

theorem eqInts_same : ∀ s : List Nat, eqInts (bytesOf s) (bytesOf s) = some true
  | [] => rfl
  | x :: s => by
    have h := eqInts_same s
    unfold bytesOf at h ⊢
    simp only [List.map_cons, eqInts, if_true]
    exact h
def eqArrS (n : Nat) (v w : V) (h : Heap) : Option (V × Heap) := match v, w with
  | .agg xs, .agg ys => if xs.length = n ∧ ys.length = n then (eqInts xs ys).map fun b => (.bool b, h) else none
  | _, _ => none
theorem aop_eqArr {cf : ACall} {e : Env} {h : Heap} {n : Nat} {x y : Opd} : aop cf (.eqArr false n x y) e h = eqArrS n (x.ev e) (y.ev e) h := by
  simp only [aop, eqArrS]
  cases x.ev e <;> try rfl
theorem eqArrS_same {h : Heap} {n : Nat} {s : List Nat} (hs : s.length = n) : eqArrS n (.agg (bytesOf s)) (.agg (bytesOf s)) h = some (.bool true, h) := by
  simp only [eqArrS, bytesOf_length, hs, and_self, if_true, eqInts_same, Option.map_some]
theorem law_ChachaBlocks (cf : ACall) (hknown : ∀ a h, cf 8 a h = s_known a h) (hQuarter : ∀ a h, cf 6 a h = s_Quarter a h) (hQuarterR : ∀ a h, cf 7 a h = s_Quarter a h) (hBlock : ∀ a h, cf 9 a h = s_Block a h) (hBlockR : ∀ a h, cf 10 a h = s_BlockR a h)
    (h : Heap) (k nn : List Nat) (c w x y z : Int) (hf : Fresh h) (hrows : hasRows h) (hk : k.length = 32) (hkl : ∀ y ∈ k, y < 256) (hn : nn.length = 12) (hnl : ∀ y ∈ nn, y < 256) :
    ∃ N, Runs (bodyA cf N c3 [.agg (bytesOf k), .int .u32 c, .agg (bytesOf nn), .int .u32 w, .int .u32 x, .int .u32 y, .int .u32 z] h) fun v _ => v = .bool true := by
  have tk : (bytesOf k).take 32 = bytesOf k := List.take_of_length_le (by rw [bytesOf_length]; omega)
  have tn : (bytesOf nn).take 12 = bytesOf nn := List.take_of_length_le (by rw [bytesOf_length]; omega)
  have ak := aggB_of hkl
  have an := aggB_of hnl
  have h0 := hasRows_pos hrows hf
  have hr2 : ∀ A B, hasRows ((h.new A).new B) := fun A B => by rw [hasRows_new _ (by simp), hasRows_new _ h0]; exact hrows
  have hbl := blockF_length k c nn
  refine ⟨1, ?_⟩
  simp (config := {maxSteps := 1000000, maxDischargeDepth := 9, implicitDefEqProofs := false}) [c3, mem_bytes_one, hQuarter, hQuarterR, s_Quarter, hknown, s_known, hBlock, s_Block, hBlockR, s_BlockR, tk, tn, ak, an, hk, hn, hr2, hbl, aop_eqArr, eqArrS_same]

end
end Go.Proofs.YtjdofdokdemnkaaDoor.ChachaBlocks
