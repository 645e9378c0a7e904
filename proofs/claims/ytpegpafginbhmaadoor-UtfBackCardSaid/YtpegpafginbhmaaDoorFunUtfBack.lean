/- What the functions that the law UtfBack reaches do, each told once, and the law by them. No condition. -/
import Derived.Test.YtpegpafginbhmaaDoorCodeUtfBack
namespace Go.Proofs.YtpegpafginbhmaaDoor.UtfBack
open Go Go.Proofs.YtpegpafginbhmaaDoorA
set_option linter.unusedSimpArgs false
set_option linter.unusedVariables false
set_option maxHeartbeats 4000000
set_option maxRecDepth 100000
attribute [local simp] body_eq exec_seq exec_region exec_skip exec_ret exec_exit exec_cond exec_block seqS_normal seqS_ret seqS_exit seqS_none seqS_bif regS_some regS_none regS_bif condS_bool condS_true
  condS_false blockS_normal blockS_ret blockS_exit blockS_none blockS_bif finS_normal finS_ret finS_bif steps_nil steps_cons steps_guard bindS_some bindS_none bindS_bif endS_some
  endS_skip endS_none endS_bif gstep_some gstep_true gstep_false wantV_true wantV_false wantV_undef wantV_gdv_true wantV_gdv_false gdv_true gdv_false aop_pick pickS_or pickS_and
  pickS_true pickS_false bif_bool put_some put_none Env.at_put Env.n_put at_init n_init Opd.ev ressA resA pack Heap.get_new Heap.get_set nextOf_new Heap.next_set nth fillV zeros over
  eqv read_eq read_zero readB_cells one_bool one_int one_str one_ptr one_nilptr one_slice one_nilslice cells_bool cells_int cells_str cells_ptr cells_nilptr cells_slice
  cells_nilslice cells_agg aop_move aop_box aop_boxv boxvS_agg boxvS_int boxvS_bool boxvS_str boxvS_slice boxvS_nilslice aop_build buildS_some aop_buildSlice buildSliceS_some
  aop_load loadS_ptr loadB_cells loadC_some aop_loadn loadnS_ptr aop_store storeS_ptr writeB_cells aop_bin binS_lss binS_leq binS_gtr binS_geq binS_eql binS_neq binS_add binS_sub
  binS_mul binS_quo binS_rem binS_and binS_or binS_xor binS_shl binS_shr binS_seql binS_sneq binS_sadd aop_eq eqS_some_f eqS_some_t aop_un unS_not unS_neg aop_conv convS_int
  aop_convStr convStrS_str aop_intStr intStrS_int aop_strBytes strBytesS_str aop_bytesStr bytesStrS_nil bytesStrS_slice aop_mkIface aop_mkFunc aop_makeSlice makeS_int aop_sliceStr
  sliceStrS_str sliceStrB_some someS_some aop_sliceSl aop_sliceArr sliceArrS_ptr aop_fieldAddr fieldAddrS_ptr aop_field fieldS_agg fieldS_aggn aop_indexAddrA indexAddrAS_ptr
  aop_indexAddrS indexAddrSS_slice aop_indexA indexAS_agg byteS_some aop_indexStr indexStrS_str aop_extract extractS_tuple aop_call callS_func aop_append aop_copy aop_lenS lenSS_str
  aop_lenL lenLS_nil lenLS_slice aop_minmax minmaxS_min minmaxS_max aop_convSame convSameS_slice convSameB_cells aop_lenC Heap.set_newE Heap.kill_newE Heap.set_new_ne
  Heap.set_gone_ne Heap.set_set Heap.get_gone Heap.next_gone loopE_n loopE_at Runs_some Ends_some Ends_none Runs_none VCL_nil VCL_cons VC_tuple VC_agg VC_bool VC_int VC_str VC_nil
  VC_nilptr VC_ptr VC_slice_nn VC_slice_ns VC_slice_s moved_at most_val lim_val next_add vlen_slice vlen_nil isSl_slice isSl_nil atP_slice newV sl_new slB_new slK_new sl_gone
  slB_gone slK_gone lt_slice lt_nil lt_ptr lt_cut sl_selfE slB_litE slK_litE asB asB_bytesOf asK asK_map slB_nil slK_nil slBs Fresh.new Fresh.gone indexE bytesStrE loadBE slice_lo
  slice_hi slice_lohi slB_cut vlen_cut isSl_cut one_cut cells_cut lenE aop_nilCheck nilCheckS_ptr aop_appendZ aop_eqArr IntKind.bits Int.fdiv_eq_ediv_of_nonneg bytesOf_length
  sameV_refl gval_true gval_false gval_some traceA_nil traceA_cons consT_some mapT_some stepV_none stepV_guard exec_any anyS_some chkOk_nil chkOk_cons sameS_some chk2_some chk1_eq
  envL_nil envL_cons heapL_nil heapL_cons heapO_some heapB_zero heapB_succ isWriter nth_bytesOf nth_ints str_hi str_lo wrap_i64 wrap_i32 wrap_u64 wrap_u32 wrap_u8 exec_float
  fltS_some traceG_nil traceG_cons consG_some viewS_some stepF_bif floatS_float isF isAlloc isReader actH_nil actH_cons1 act1_new act1_bare act1_new0 act1_bare0 read_gap sl_gap
  slB_gap slK_gap get_gap next_gap Fresh.gap aop_range rangeS_str aop_next aop_runesStr
attribute [local congr] gstep_congr gval_congr
noncomputable section
/-- portholehand.Pick: the remainder that is not below 0. -/
def s_Pick : List V → Heap → Option (V × Heap)
  | [.int .i64 n, .int .i64 m], h => if 0 < m ∧ m ≤ 4611686018427387904 then some (.int .i64 (n % m), h) else none
  | _, _ => none

theorem tmod_emod (n m : Int) (hm : 0 < m) : (if n.tmod m < 0 then n.tmod m + m else n.tmod m) = n % m := by
  rw [Int.tmod_eq_emod]
  have h1 := Int.emod_nonneg n (show m ≠ 0 by omega)
  have h2 := Int.emod_lt_of_pos n hm
  have h3 : (m.natAbs : Int) = m := by omega
  split <;> split <;> omega

theorem Pick_ok (cf : ACall) : Sum cf c19 s_Pick := by
  intro args h v h' hf hsc hlt hs
  unfold s_Pick at hs
  split at hs
  · rename_i n m
    split at hs
    · rename_i hm
      simp only [Option.some.injEq, Prod.mk.injEq] at hs
      obtain ⟨rfl, rfl⟩ := hs
      have hm0 : ¬ m = 0 := by omega
      have h1 := tmod_emod n m hm.1
      have h2 := Int.emod_nonneg n hm0
      have h3 := Int.emod_lt_of_pos n hm.1
      refine ⟨1, ?_⟩
      have hres : bodyA cf 1 c19 [.int .i64 n, .int .i64 m] h = some (.int .i64 (n % m), h) := by
        by_cases hq : n.tmod m < 0
        · have hd : decide (n.tmod m < 0) = true := by simpa using hq
          rw [if_pos hq] at h1
          simp (config := {maxSteps := 1000000, maxDischargeDepth := 9, implicitDefEqProofs := false}) [c19, hm0, hd]
          simp only [cond_true, h1, Option.some.injEq, Prod.mk.injEq, and_true, V.int.injEq, true_and]
          exact wrap_i64 (by omega) (by omega)
        · have hd : decide (n.tmod m < 0) = false := by simpa using hq
          rw [if_neg hq] at h1
          simp (config := {maxSteps := 1000000, maxDischargeDepth := 9, implicitDefEqProofs := false}) [c19, hm0, hd]
          simp only [cond_false, h1]
      exact ⟨_, _, hres, Canon.same hf hsc (fun _ _ hb => hb) (by simp only [V.lt])⟩
    · cases hs
  · cases hs

/-- portholelaw19.same. -/
def s_same : List V → Heap → Option (V × Heap)
  | [v, w], h => match slK .i32 h v, slK .i32 h w with
    | some a, some b => if a.length ≤ lim then some (.bool (decide (a = b)), h) else none
    | _, _ => none
  | _, _ => none
theorem same_ok (cf : ACall) : Sum cf c15 s_same := by
  intro args h v h' hf hsc hlt hs
  unfold s_same at hs
  split at hs
  · rename_i va vb
    split at hs
    · rename_i a b ha hb
      split at hs
      · rename_i hl
        have hlim : lim = 140737488354304 := rfl
        simp only [Option.some.injEq, Prod.mk.injEq] at hs
        obtain ⟨rfl, rfl⟩ := hs
        have h1 := slK_isSl ha
        have h2 := slK_vlen ha
        have h3 := slK_isSl hb
        have h4 := slK_vlen hb
        by_cases hab : a.length = b.length
        · have L := loop_count (cf := cf) (N := a.length + 1) (c := c15_l0) a.length
            (fun i e H => e.n = 26 ∧ e.at 0 = va ∧ e.at 1 = vb ∧ e.at 5 = .int .i64 (i : Int) ∧ a.take i = b.take i ∧ H = h)
            (fun x e H => e.n = 26 ∧ (x = .ret ∧ e.at 4 = .bool false ∧ ¬ a = b ∨ x = .exit 0 ∧ a = b) ∧ H = h)
            (by
              rintro i e H hi ⟨hn, h0, h1', h5, hall, rfl⟩
              have hib : i < b.length := by omega
              have la := rd_load (sl_rd (slK_sl ha)) (j := i) (x := .int .i32 a[i]) (by simp [hi])
              have lb := rd_load (sl_rd (slK_sl hb)) (j := i) (x := .int .i32 b[i]) (by simp [hib])
              by_cases hq : a[i] = b[i]
              · have hnext : a.take (i + 1) = b.take (i + 1) := by
                  rw [List.take_succ_eq_append_getElem hi, List.take_succ_eq_append_getElem hib, hall, hq]
                simp (config := {maxSteps := 1000000, maxDischargeDepth := 9, implicitDefEqProofs := false}) [c15_l0, hn, h0, h1', h5, h1, h2, h3, h4, ha, hb, hi, hib, hq, la, lb, wrap_i64 (x := (i : Int) + 1) (by omega) (by omega)]
                exact hnext
              · have hbad : ¬ a = b := by
                  rintro rfl
                  exact hq rfl
                simp (config := {maxSteps := 1000000, maxDischargeDepth := 9, implicitDefEqProofs := false}) [c15_l0, hn, h0, h1', h5, h1, h2, h3, h4, ha, hb, hi, hib, hq, la, lb, show (a[i] == b[i]) = false from by simpa using hq]
                exact hbad)
            (by
              rintro e H ⟨hn, h0, h1', h5, hall, rfl⟩
              rw [List.take_length, hab, List.take_length] at hall
              simp (config := {maxSteps := 1000000, maxDischargeDepth := 9, implicitDefEqProofs := false}) [c15_l0, hn, h0, h5, h1, h2]
              exact hall)
          refine ⟨a.length + 1, ?_⟩
          simp (config := {maxSteps := 1000000, maxDischargeDepth := 9, implicitDefEqProofs := false}) [c15, h1, h2, h3, h4, hab]
          rw [hab] at L
          refine loop_then (K := fun r => finS _ (seqS _ _ _ (blockS _ r))) (L 0 _ _ (Nat.zero_le _) ?_ (Nat.lt_succ_self _)) ?_
          · simp (config := {maxSteps := 1000000, maxDischargeDepth := 9, implicitDefEqProofs := false})
          · rintro x e' H ⟨hn, hx, rfl⟩
            rcases hx with ⟨rfl, h4', hbad⟩ | ⟨rfl, he⟩
            · have hd : decide (a = b) = false := by simp [hbad]
              rw [hd]
              simp (config := {maxSteps := 1000000, maxDischargeDepth := 9, implicitDefEqProofs := false}) [hn, h4']
              exact Canon.keep hf hsc (Ext.refl _) (by simp only [V.lt])
            · have hd : decide (a = b) = true := by simp [he]
              rw [hd]
              simp (config := {maxSteps := 1000000, maxDischargeDepth := 9, implicitDefEqProofs := false}) [hn]
              exact Canon.keep hf hsc (Ext.refl _) (by simp only [V.lt])
        · have hne : ¬ a = b := fun hh => hab (by rw [hh])
          have hd : decide (a = b) = false := by simp [hne]
          rw [hd]
          have hab2 : ((a.length : Int) == (b.length : Int)) = false := by
            have : ¬ (a.length : Int) = (b.length : Int) := by omega
            simpa using this
          refine ⟨1, ?_⟩
          simp (config := {maxSteps := 1000000, maxDischargeDepth := 9, implicitDefEqProofs := false}) [c15, h1, h2, h3, h4, hab, hab2]
          exact Canon.keep hf hsc (Ext.refl _) (by simp only [V.lt])
      · cases hs
    · cases hs
  · cases hs

/-- utf.New. -/
def s_New : List V → Heap → Option (V × Heap)
  | [], h => some (.ptr h.next 0, h.new (.cells [.nilslice] 50 1 true))
  | _, _ => none
theorem New_ok (cf : ACall) : Sum cf c9 s_New := by
  intro args h v h' hf hsc hlt hs
  unfold s_New at hs
  split at hs
  · simp only [Option.some.injEq, Prod.mk.injEq] at hs
    obtain ⟨rfl, rfl⟩ := hs
    refine ⟨1, ?_⟩
    simp (config := {maxSteps := 1000000, maxDischargeDepth := 9, implicitDefEqProofs := false}) [c9]
    refine Canon.tail (H := h) hf hsc (Ext.refl h) (by simp only [ltL, V.lt, and_self]) ?_
    simp (config := {maxSteps := 1000000, maxDischargeDepth := 9, implicitDefEqProofs := false})
  · cases hs
/-- (*utf.Decoder).Held. -/
def s_Held : List V → Heap → Option (V × Heap)
  | [.ptr p 0], h => match h.get p with
    | some (.cells [v] _ 1 _) => if isSl v = true then some (.int .i64 (vlen v : Int), h) else none
    | _ => none
  | _, _ => none
theorem Held_ok (cf : ACall) : Sum cf c13 s_Held := by
  intro args h v h' hf hsc hlt hs
  unfold s_Held at hs
  split at hs
  · rename_i p
    split at hs
    · rename_i w t own hg
      split at hs
      · rename_i hsl
        simp only [Option.some.injEq, Prod.mk.injEq] at hs
        obtain ⟨rfl, rfl⟩ := hs
        refine ⟨1, ?_⟩
        simp (config := {maxSteps := 1000000, maxDischargeDepth := 9, implicitDefEqProofs := false}) [c13, hg, hsl]
        exact Canon.keep hf hsc (Ext.refl _) (by simp only [V.lt])
      · cases hs
    · cases hs
  · cases hs
/-- utf8.RuneStart. -/
def startB (y : Int) : Bool := !(wrapF .u8 (((y % 256).toNat &&& (192 : Nat) : Nat) : Int) == 128)
def s_Start : List V → Heap → Option (V × Heap)
  | [.int .u8 y], h => some (.bool (startB y), h)
  | _, _ => none
theorem Start_ok (cf : ACall) : Sum cf c24 s_Start := by
  intro args h v h' hf hsc hlt hs
  unfold s_Start at hs
  split at hs
  · rename_i y
    simp only [Option.some.injEq, Prod.mk.injEq] at hs
    obtain ⟨rfl, rfl⟩ := hs
    refine ⟨1, ?_⟩
    simp (config := {maxSteps := 1000000, maxDischargeDepth := 9, implicitDefEqProofs := false}) [c24, modK]
    exact Canon.keep (v := .bool (startB y)) hf hsc (Ext.refl _) (by simp only [V.lt])
  · cases hs

/-- utf.Runes. -/
def s_Runes : List V → Heap → Option (V × Heap)
  | [.str s], h => if s.length ≤ 17592186044416 then (if s.length = 0 then some (.nilslice, h) else some (newV h (runesL s).length, h.new (.cells ((runesL s).map (V.int .i32)) 21 1 true))) else none
  | _, _ => none
theorem ownK_keep {h H H' : Heap} {k : IntKind} {v : V} {l : List Int} {t : Nat} (ho : OwnK k h H t v l) (hn : H.next ≤ H'.next) (hg : ∀ q cs, H.get q = some (.cells cs t 1 true) → H'.get q = H.get q) : OwnK k h H' t v l := by
  rcases ho with hh | ⟨b, c, k1, k2, k3, k4, k5, k6⟩
  · exact .inl hh
  · exact .inr ⟨b, c, k1, k2, k3, by omega, k5, by rw [hg _ _ k6]; exact k6⟩
theorem ownK_some {h H : Heap} {k : IntKind} {v : V} {l : List Int} {t : Nat} (ho : OwnK k h H t v l) (hl : 0 < l.length) : v ≠ .nilslice := by
  rcases ho with ⟨_, hh, _⟩ | ⟨b, c, rfl, _⟩
  · omega
  · intro e; cases e
theorem Runes_loop (cf : ACall) (h : Heap) (hf : Fresh h) (s : List Nat) (hl : s.length ≤ 17592186044416) :
    ∀ e, e.n = 16 → e.at 3 = .nilslice → e.at 7 = .ptr h.next 0 →
    YtpegpafginbhmaaDoorA.Ends (execA cf ((runesL s).length + 1) (.loop c16_l0) e (h.new (.iter s 0))) fun x e' H => x = .exit 0 ∧ e'.n = 16 ∧ OwnK .i32 h H 21 (e'.at 3) (runesL s) ∧ Ext h H ∧ Fresh H ∧ (0 < s.length → e'.at 3 ≠ .nilslice) ∧ (s.length = 0 → e'.at 3 = .nilslice) := by
  intro e hn q3 q7
  have hle := runesL_le s
  refine loop_count (cf := cf) (N := (runesL s).length + 1) (c := c16_l0) (runesL s).length
    (fun i e H => e.n = 16 ∧ e.at 7 = .ptr h.next 0 ∧ ∃ pos out, H.get h.next = some (.iter s pos) ∧ out.length = i ∧ out ++ runesL (s.drop pos) = runesL s ∧ OwnK .i32 h H 21 (e.at 3) out ∧ Ext h H ∧ Fresh H ∧ (0 < i → e.at 3 ≠ .nilslice) ∧ (i = 0 → e.at 3 = .nilslice))
    (fun x e' H => x = .exit 0 ∧ e'.n = 16 ∧ OwnK .i32 h H 21 (e'.at 3) (runesL s) ∧ Ext h H ∧ Fresh H ∧ (0 < s.length → e'.at 3 ≠ .nilslice) ∧ (s.length = 0 → e'.at 3 = .nilslice)) ?_ ?_ 0 e _ (Nat.zero_le _) ?_ (Nat.lt_succ_self _)
  · rintro i e H hi ⟨hn, q7, pos, out, hg, ho, hcat, hown, hE, hF, hne, hz⟩
    have hpos : pos < s.length := by
      rcases Nat.lt_or_ge pos s.length with h1 | h1
      · exact h1
      · rw [List.drop_eq_nil_of_le h1, runesL_nil, List.append_nil] at hcat
        rw [hcat] at ho; omega
    have hr := runesL_drop hpos
    have hw := utfDec_pos (s.drop pos)
    have hnx := nextS_more hg hpos
    generalize hR : (utfDec (s.drop pos)).1 = R at *
    generalize hW : (utfDec (s.drop pos)).2 = W at *
    obtain ⟨A1, hA1⟩ : ∃ A, A = H.set h.next (some (.iter s (pos + W))) := ⟨_, rfl⟩
    have hp := hF.lt hg
    have f1 : Fresh A1 := by rw [hA1]; exact hF.set hp _
    have e1 : Ext h A1 := by rw [hA1]; exact hE.trans_set (Nat.le_refl _) _
    obtain ⟨A2, hA2⟩ : ∃ A, A = A1.new (.cells [.int .i32 (R : Int)] 21 1 true) := ⟨_, rfl⟩
    have n1 : A1.next = H.next := by rw [hA1]; rfl
    have f2 : Fresh A2 := by rw [hA2]; exact f1.new _
    have e2 : Ext h A2 := by rw [hA2]; exact e1.trans_new _
    have g1 : A1.get h.next = some (.iter s (pos + W)) := by rw [hA1, Heap.get_set, if_pos rfl]
    have g2 : A2.get h.next = some (.iter s (pos + W)) := by rw [hA2]; exact (Ext.new A1 _).get f1 g1
    have hown1 : OwnK .i32 h A1 21 (e.at 3) out := ownK_keep hown (by omega) fun q cs hq => by
      rw [hA1, Heap.get_set, if_neg]
      rintro rfl
      rw [hg] at hq; cases hq
    have hown2 : OwnK .i32 h A2 21 (e.at 3) out := ownK_keep hown1 (by rw [hA2]; exact Nat.le_succ _) fun q cs hq => by rw [hA2, (Ext.new A1 _).get f1 hq, hq]
    have hol : out.length + 1 ≤ (runesL s).length := by omega
    have hadd : added A2 1 (.slice A1.next 0 1 (some 1)) = some ([V.int .i32 (R : Int)], 1) := by
      have : sl A2 1 (.slice A1.next 0 1 (some 1)) = some [V.int .i32 (R : Int)] := by rw [hA2]; exact sl_selfE rfl rfl (.inr rfl)
      exact rd_added (sl_rd this)
    obtain ⟨v2, A3, k1, k2, k3, k4, k5, k6, k7⟩ := OwnK.app (l := [(R : Int)]) (bytes := 4) e2 f2 hown2 hadd (by
      have : most = 140737488355328 := rfl
      rw [this, List.length_singleton]; omega) (by
      have : most = 140737488355328 := rfl
      rw [this, List.length_singleton]; omega)
    generalize q3 : e.at 3 = v at *
    simp (config := {maxSteps := 1000000, maxDischargeDepth := 9, implicitDefEqProofs := false}) [c16_l0, hn, q7, hnx, q3, ← hA1, ← hA2, k1]
    have hne2 := ownK_some k2 (by rw [List.length_append, List.length_singleton]; omega)
    have g3 : A3.get h.next = some (.iter s (pos + W)) := by
      rw [k7 h.next (f2.lt g2) fun o c hv => ?_]
      · exact g2
      · rcases hown2 with ⟨h0, _⟩ | ⟨b, c', k1', _, _, _, _, k6'⟩
        · rw [h0] at hv; cases hv
        · rw [k1'] at hv
          injection hv with e1
          subst e1
          rw [g2] at k6'; cases k6'
    refine ⟨pos + W, g3, out ++ [(R : Int)], by rw [List.length_append, List.length_singleton, ho], ?_, k2, k3, k4, hne2⟩
    rw [List.append_assoc, ← hcat, hr]; rfl
  · rintro e H ⟨hn, q7, pos, out, hg, ho, hcat, hown, hE, hF, hne, hz⟩
    have hpos : ¬ pos < s.length := by
      intro h1
      have hr := runesL_drop h1
      have := congrArg List.length hcat
      rw [List.length_append, hr, List.length_cons] at this; omega
    rw [List.drop_eq_nil_of_le (by omega), runesL_nil, List.append_nil] at hcat
    subst hcat
    have hnx := nextS_end hg hpos
    generalize q3 : e.at 3 = v at *
    simp (config := {maxSteps := 1000000, maxDischargeDepth := 9, implicitDefEqProofs := false}) [c16_l0, hn, q7, hnx, q3]
    refine ⟨hown, hE, hF, fun h0 => hne ?_, fun h0 => hz ?_⟩
    · rw [runesL_cons h0]; simp
    · subst h0; rfl
  · refine ⟨hn, q7, 0, [], by rw [Heap.get_new]; exact if_pos rfl, rfl, by rw [List.drop_zero]; rfl, ?_, Ext.new h _, hf.new _, fun h0 => absurd h0 (by omega), fun _ => q3⟩
    rw [q3]; exact .inl ⟨rfl, rfl, rfl⟩
theorem Runes_ok (cf : ACall) : Sum cf c16 s_Runes := by
  intro args h v h' hf hsc hlt hs
  unfold s_Runes at hs
  split at hs
  · rename_i s
    split at hs
    · rename_i hl
      refine ⟨(runesL s).length + 1, ?_⟩
      simp (config := {maxSteps := 1000000, maxDischargeDepth := 9, implicitDefEqProofs := false}) [c16]
      refine loop_then (K := fun r => finS _ (seqS _ _ _ (blockS _ r))) (Runes_loop cf h hf s hl _ ?_ ?_ ?_) ?_
      iterate 3 simp (config := {maxSteps := 1000000, maxDischargeDepth := 9, implicitDefEqProofs := false})
      rintro x e' H ⟨rfl, hn, hown, hE, hF, h1, h2⟩
      generalize q3 : e'.at 3 = w at *
      split at hs
      · rename_i h0
        simp only [Option.some.injEq, Prod.mk.injEq] at hs
        obtain ⟨rfl, rfl⟩ := hs
        have := h2 h0
        subst this
        simp (config := {maxSteps := 1000000, maxDischargeDepth := 9, implicitDefEqProofs := false}) [hn, q3]
        exact Canon.keep hf hsc hE (by simp only [V.lt])
      · rename_i h0
        simp only [Option.some.injEq, Prod.mk.injEq] at hs
        obtain ⟨rfl, rfl⟩ := hs
        simp (config := {maxSteps := 1000000, maxDischargeDepth := 9, implicitDefEqProofs := false}) [hn, q3]
        exact hown.canon hf hsc hE (h1 (by omega))
    · cases hs
  · cases hs

/-- utf.Text. -/
def s_Text : List V → Heap → Option (V × Heap)
  | [v], h => match slK .i32 h v with
    | some l => some (.str (encL l), h)
    | none => none
  | _, _ => none
theorem Text_ok (cf : ACall) : Sum cf c18 s_Text := by
  intro args h v h' hf hsc hlt hs
  unfold s_Text at hs
  split at hs
  · rename_i w
    split at hs
    · rename_i l hl
      simp only [Option.some.injEq, Prod.mk.injEq] at hs
      obtain ⟨rfl, rfl⟩ := hs
      have hr := runesStrS_of hl
      refine ⟨1, ?_⟩
      simp (config := {maxSteps := 1000000, maxDischargeDepth := 9, implicitDefEqProofs := false}) [c18, hr]
      exact Canon.keep hf hsc (Ext.refl _) (by simp only [V.lt])
    · cases hs
  · cases hs

/-- The tables, and that they stand in memory. -/
def laidOf (g : Nat) : List V := ((laidVals.find? fun x => x.1 == g).map fun x => x.2).getD []
def firstV : List V := laidOf 0
def accV : List V := laidOf 1
def natV : V → Nat | .int _ n => n.toNat | _ => 0
def firstN : List Nat := firstV.map natV
def accN : List Nat := accV.map natV
theorem firstV_eq : firstV = firstN.map fun n : Nat => V.int .u8 (n : Int) := by kernel_rfl
theorem accV_eq : accV = accN.map fun n : Nat => V.int .u8 (n : Int) := by kernel_rfl
theorem firstN_length : firstN.length = 256 := by kernel_rfl
theorem accN_length : accN.length = 32 := by kernel_rfl
theorem laid_first : (0, firstV) ∈ laidVals := List.mem_of_find?_eq_some (p := fun x => x.1 == 0) (by kernel_rfl)
theorem laid_acc : (1, accV) ∈ laidVals := List.mem_of_find?_eq_some (p := fun x => x.1 == 1) (by kernel_rfl)
/-- What the table's entries are. -/
theorem firstN_all : (List.range 256).all (fun c => decide (firstN.getD c 0 < 256 ∧ (firstN.getD c 0 % 8 ≤ 1 ∨ firstN.getD c 0 / 16 ≤ 4))) = true := by kernel_rfl
theorem firstN_fact {c : Nat} (hc : c < 256) : firstN.getD c 0 < 256 ∧ (firstN.getD c 0 % 8 ≤ 1 ∨ firstN.getD c 0 / 16 ≤ 4) := of_decide_eq_true (List.all_eq_true.1 firstN_all c (List.mem_range.2 hc))
theorem accN_all : (List.range 32).all (fun c => decide (accN.getD c 0 < 256)) = true := by kernel_rfl
theorem accN_lt {c : Nat} (hc : c < 32) : accN.getD c 0 < 256 := of_decide_eq_true (List.all_eq_true.1 accN_all c (List.mem_range.2 hc))
/-- Are these few bytes a whole rune, or none that may become one? -/
def fullB (s : List Nat) : Bool :=
  if s.length = 0 then false
  else if firstN.getD (s.getD 0 0) 0 % 8 ≤ s.length then true
  else if 1 < s.length ∧ (s.getD 1 0 < accN.getD (2 * (firstN.getD (s.getD 0 0) 0 / 16)) 0 ∨ accN.getD (2 * (firstN.getD (s.getD 0 0) 0 / 16) + 1) 0 < s.getD 1 0) then true
  else if 2 < s.length ∧ (s.getD 2 0 < 128 ∨ 191 < s.getD 2 0) then true
  else false
open Classical in
/-- utf8.FullRune. -/
noncomputable def s_Full : List V → Heap → Option (V × Heap)
  | [v], h => match slB h v with
    | some s => if hasLaid laidVals h then some (.bool (fullB s), h) else none
    | none => none
  | _, _ => none
theorem laid_cell {h : Heap} {g c : Nat} {vs : List V} {ns : List Nat} (hl : hasLaid laidVals h) (hm : (g, vs) ∈ laidVals) (he : vs = ns.map fun n : Nat => V.int .u8 (n : Int)) (hc : c < ns.length) : ∃ t, h.get g = some (.cells vs t 1 false) ∧ vs[c]? = some (.int .u8 (ns.getD c 0 : Nat)) := by
  obtain ⟨t, ht⟩ := hl _ hm
  refine ⟨t, ht, ?_⟩
  rw [he, List.getElem?_map, List.getD_eq_getElem?_getD, List.getElem?_eq_getElem hc]; rfl
theorem load_first {h : Heap} (hl : hasLaid laidVals h) {c : Nat} (hc : c < 256) : loadS (.ptr 0 c) h = some (.int .u8 (firstN.getD c 0 : Nat), h) := by
  obtain ⟨t, h1, h2⟩ := laid_cell hl laid_first firstV_eq (c := c) (by rw [firstN_length]; exact hc)
  rw [loadS_ptr, h1, loadB_cells]
  have : nth firstV c = firstV[c]? := nth_eq _ _
  rw [this, h2, loadC_some]
theorem read_acc {h : Heap} (hl : hasLaid laidVals h) {a : Nat} (ha : a < 16) : readB (h.get 1) (a * 2) 2 = some [.int .u8 (accN.getD (2 * a) 0 : Nat), .int .u8 (accN.getD (2 * a + 1) 0 : Nat)] := by
  obtain ⟨t, h1, h2⟩ := laid_cell hl laid_acc accV_eq (c := 2 * a) (by rw [accN_length]; omega)
  obtain ⟨_, _, h3⟩ := laid_cell hl laid_acc accV_eq (c := 2 * a + 1) (by rw [accN_length]; omega)
  have hlen : accV.length = 32 := by rw [accV_eq, List.length_map, accN_length]
  rw [h1, readB_cells, if_pos (by omega), Nat.mul_comm a 2]
  congr 1
  obtain ⟨k1, k2⟩ := List.getElem?_eq_some_iff.1 h2
  obtain ⟨k3, k4⟩ := List.getElem?_eq_some_iff.1 h3
  rw [List.drop_eq_getElem_cons k1, List.drop_eq_getElem_cons k3]
  simp only [List.take_succ_cons, List.take_zero, k2, k4]
theorem Full_ok (cf : ACall) : Sum cf c25 s_Full := by
  intro args h v h' hf hsc hlt hs
  unfold s_Full at hs
  split at hs
  · rename_i vb
    split at hs
    · rename_i s hb
      split at hs
      · rename_i hL
        simp only [Option.some.injEq, Prod.mk.injEq] at hs
        obtain ⟨rfl, rfl⟩ := hs
        have hsl := slB_isSl hb
        have hvl := slB_vlen hb
        have hlt := slB_lt hb
        refine ⟨1, ?_⟩
        by_cases h0 : s.length = 0
        · have : s = [] := List.length_eq_zero_iff.1 h0
          subst this
          simp (config := {maxSteps := 1000000, maxDischargeDepth := 9, implicitDefEqProofs := false}) [c25, lenE hsl, hvl, fullB]
          exact Canon.keep hf hsc (Ext.refl _) (by simp only [V.lt])
        · have h0' : ((s.length : Int) == 0) = false := beq_eq_false_iff_ne.2 (by omega)
          have hc := hlt (s.getD 0 0) (by rw [List.getD_eq_getElem?_getD, List.getElem?_eq_getElem (by omega)]; simp)
          have l0 := rd_load (sl_rd (slB_sl hb).1) (j := 0) (x := .int .u8 (s.getD 0 0 : Nat)) (by rw [bytesOf, List.getElem?_map, List.getD_eq_getElem?_getD, List.getElem?_eq_getElem (by omega)]; rfl)
          have i0 := indexE (z := 1) hsl h (k := .i64) (i := (0 : Int)) (by omega) (by rw [hvl]; omega)
          simp only [Int.toNat_zero, Nat.zero_mul] at i0
          generalize hC : s.getD 0 0 = c at *
          have lf := load_first hL hc
          have hx := firstN_fact hc
          have hcI : (c : Int) < 256 := by omega
          generalize hX : firstN.getD c 0 = x at *
          obtain ⟨y, hy⟩ : ∃ y, y = x % 8 := ⟨_, rfl⟩
          obtain ⟨a, ha⟩ : ∃ a, a = x / 16 := ⟨_, rfl⟩
          have hyI : (x : Int) % 8 = (y : Int) := by omega
          have haI : (x : Int) / 16 = (a : Int) := by omega
          have hand : wrapF .u8 ((((x : Int) % 256).toNat &&& 7 : Nat) : Int) = (y : Int) := by
            have h1 : ((x : Int) % 256).toNat = x := by omega
            have h2 : x &&& 7 = x % 8 := Nat.and_two_pow_sub_one_eq_mod x 3
            rw [h1, h2, ← hy]; exact wrap_u8 (by omega) (by omega)
          have hw8 : wrapF .i64 (y : Int) = (y : Int) := wrap_i64 (by omega) (by omega)
          by_cases h1 : y ≤ s.length
          · have h1I : (y : Int) ≤ (s.length : Int) := by omega
            have hfull : fullB s = true := by
              unfold fullB
              rw [if_neg h0, hC, hX, ← hy, if_pos h1]
            rw [hfull]
            simp (config := {maxSteps := 1000000, maxDischargeDepth := 9, implicitDefEqProofs := false}) [c25, lenE hsl, hvl, h0', i0, l0, lf, hc, hcI, modK, hand, hw8, h1I, h1]
            exact Canon.keep hf hsc (Ext.refl _) (by simp only [V.lt])
          have h1I : ¬ (y : Int) ≤ (s.length : Int) := by omega
          have ha4 : a ≤ 4 := by omega
          have ha16 : (a : Int) < 16 := by omega
          have rdacc : readB (h.get 1) (a * 2) 2 = some [.int .u8 (accN.getD (2 * a) 0 : Nat), .int .u8 (accN.getD (2 * a + 1) 0 : Nat)] := read_acc hL (by omega)
          have hlo := accN_lt (c := 2 * a) (by omega)
          have hhi := accN_lt (c := 2 * a + 1) (by omega)
          generalize hLO : accN.getD (2 * a) 0 = lo at *
          generalize hHI : accN.getD (2 * a + 1) 0 = hi at *
          have hfull : fullB s = (if 1 < s.length ∧ (s.getD 1 0 < lo ∨ hi < s.getD 1 0) then true else if 2 < s.length ∧ (s.getD 2 0 < 128 ∨ 191 < s.getD 2 0) then true else false) := by
            unfold fullB
            rw [if_neg h0, hC, hX, ← hy, if_neg h1, ← ha, hLO, hHI]
          by_cases g1 : 1 < s.length
          · have g1I : (1 : Int) < (s.length : Int) := by omega
            have l1 : ∀ K, Ext h K → loadS (atP vb 1) K = some (.int .u8 (s.getD 1 0 : Nat), K) := fun K hK => rd_load (sl_rd (slB_sl (slB_ext hK hf hb)).1) (j := 1) (by rw [bytesOf, List.getElem?_map, List.getD_eq_getElem?_getD, List.getElem?_eq_getElem (by omega)]; rfl)
            have l2 : 2 < s.length → ∀ K, Ext h K → loadS (atP vb 2) K = some (.int .u8 (s.getD 2 0 : Nat), K) := fun g2 K hK => rd_load (sl_rd (slB_sl (slB_ext hK hf hb)).1) (j := 2) (by rw [bytesOf, List.getElem?_map, List.getD_eq_getElem?_getD, List.getElem?_eq_getElem (by omega)]; rfl)
            obtain ⟨K, hK⟩ : ∃ K, K = h.new (.cells [.int .u8 (lo : Int), .int .u8 (hi : Int)] 55 1 true) := ⟨_, rfl⟩
            have eK : Ext h K := by rw [hK]; exact Ext.new h _
            have i1 := indexE (z := 1) hsl K (k := .i64) (i := (1 : Int)) (by omega) (by rw [hvl]; omega)
            simp only [Int.toNat_one, Nat.mul_one] at i1
            replace l1 := l1 K eK
            replace l2 := fun g => l2 g K eK
            generalize hU : s.getD 1 0 = u at *
            generalize hW : s.getD 2 0 = v at *
            have kget : K.get h.next = some (.cells [.int .u8 (lo : Int), .int .u8 (hi : Int)] 55 1 true) := by rw [hK, Heap.get_new]; exact if_pos rfl
            by_cases j1 : u < lo
            · have j1I : (u : Int) < (lo : Int) := by omega
              rw [show fullB s = true from by rw [hfull]; exact if_pos ⟨g1, .inl j1⟩]
              simp (config := {maxSteps := 1000000, maxDischargeDepth := 9, implicitDefEqProofs := false}) [c25, lenE hsl, hvl, h0', i0, l0, lf, hc, hcI, modK, hand, hw8, h1I, h1, haI, ha16, rdacc, ← hK, g1, g1I, i1, l1, kget, j1I, j1]
              exact Canon.keep hf hsc eK (by simp only [V.lt])
            have j1I : ¬ (u : Int) < (lo : Int) := by omega
            by_cases j2 : hi < u
            · have j2I : (hi : Int) < (u : Int) := by omega
              rw [show fullB s = true from by rw [hfull]; exact if_pos ⟨g1, .inr j2⟩]
              simp (config := {maxSteps := 1000000, maxDischargeDepth := 9, implicitDefEqProofs := false}) [c25, lenE hsl, hvl, h0', i0, l0, lf, hc, hcI, modK, hand, hw8, h1I, h1, haI, ha16, rdacc, ← hK, g1, g1I, i1, l1, kget, j1I, j1, j2, j2I]
              exact Canon.keep hf hsc eK (by simp only [V.lt])
            have j2I : ¬ (hi : Int) < (u : Int) := by omega
            have hfull2 : fullB s = (if 2 < s.length ∧ (v < 128 ∨ 191 < v) then true else false) := by rw [hfull]; exact if_neg (fun h => h.2.elim j1 j2)
            by_cases g2 : 2 < s.length
            · have g2I : (2 : Int) < (s.length : Int) := by omega
              have i2 := indexE (z := 1) hsl K (k := .i64) (i := (2 : Int)) (by omega) (by rw [hvl]; omega)
              simp only [Nat.mul_one, show (2 : Int).toNat = 2 from rfl] at i2
              have l2' := l2 g2
              by_cases j3 : v < 128
              · have j3I : (v : Int) < 128 := by omega
                rw [show fullB s = true from by rw [hfull]; rw [← hfull, hfull2]; exact if_pos ⟨g2, .inl j3⟩]
                simp (config := {maxSteps := 1000000, maxDischargeDepth := 9, implicitDefEqProofs := false}) [c25, lenE hsl, hvl, h0', i0, l0, lf, hc, hcI, modK, hand, hw8, h1I, h1, haI, ha16, rdacc, ← hK, g1, g1I, i1, l1, kget, j1, j1I, j2, j2I, g2, g2I, i2, l2', j3, j3I]
                exact Canon.keep hf hsc eK (by simp only [V.lt])
              have j3I : ¬ (v : Int) < 128 := by omega
              by_cases j4 : 191 < v
              · have j4I : 191 < (v : Int) := by omega
                rw [show fullB s = true from by rw [hfull]; rw [← hfull, hfull2]; exact if_pos ⟨g2, .inr j4⟩]
                simp (config := {maxSteps := 1000000, maxDischargeDepth := 9, implicitDefEqProofs := false}) [c25, lenE hsl, hvl, h0', i0, l0, lf, hc, hcI, modK, hand, hw8, h1I, h1, haI, ha16, rdacc, ← hK, g1, g1I, i1, l1, kget, j1, j1I, j2, j2I, g2, g2I, i2, l2', j3, j3I, j4, j4I]
                exact Canon.keep hf hsc eK (by simp only [V.lt])
              have j4I : ¬ 191 < (v : Int) := by omega
              rw [show fullB s = false from by rw [hfull]; rw [← hfull, hfull2]; exact if_neg (fun h => h.2.elim j3 j4)]
              simp (config := {maxSteps := 1000000, maxDischargeDepth := 9, implicitDefEqProofs := false}) [c25, lenE hsl, hvl, h0', i0, l0, lf, hc, hcI, modK, hand, hw8, h1I, h1, haI, ha16, rdacc, ← hK, g1, g1I, i1, l1, kget, j1, j1I, j2, j2I, g2, g2I, i2, l2', j3, j3I, j4, j4I]
              exact Canon.keep hf hsc eK (by simp only [V.lt])
            have g2I : ¬ (2 : Int) < (s.length : Int) := by omega
            rw [show fullB s = false from by rw [hfull]; rw [← hfull, hfull2]; exact if_neg (fun h => g2 h.1)]
            simp (config := {maxSteps := 1000000, maxDischargeDepth := 9, implicitDefEqProofs := false}) [c25, lenE hsl, hvl, h0', i0, l0, lf, hc, hcI, modK, hand, hw8, h1I, h1, haI, ha16, rdacc, ← hK, g1, g1I, i1, l1, kget, j1, j1I, j2, j2I, g2, g2I]
            exact Canon.keep hf hsc eK (by simp only [V.lt])
          · have g1I : ¬ (1 : Int) < (s.length : Int) := by omega
            have g2I : ¬ (2 : Int) < (s.length : Int) := by omega
            have g2 : ¬ 2 < s.length := by omega
            rw [show fullB s = false from by rw [hfull, if_neg (fun h => g1 h.1), if_neg (fun h => g2 h.1)]]
            simp (config := {maxSteps := 1000000, maxDischargeDepth := 9, implicitDefEqProofs := false}) [c25, lenE hsl, hvl, h0', i0, l0, lf, hc, hcI, modK, hand, hw8, h1I, h1, haI, ha16, rdacc, g1, g1I, g2, g2I]
            exact Canon.keep hf hsc (Ext.new _ _) (by simp only [V.lt])
      · cases hs
    · cases hs
  · cases hs

/-- May a rune that is not whole begin here? -/
def heldAt (s : List Nat) (k : Nat) : Bool := startB (s.getD k 0 : Nat) && !fullB (s.drop k)
def cutFrom (s : List Nat) : Nat → Nat → Nat
  | 0, _ => s.length
  | r + 1, k => if heldAt s k = true then k else cutFrom s r (k + 1)
/-- So many bytes are told at once. -/
def cutN (s : List Nat) : Nat := cutFrom s (min 3 s.length) (s.length - 3)
theorem cutFrom_spec (s : List Nat) : ∀ (r k : Nat), k + r = s.length → k ≤ cutFrom s r k ∧ cutFrom s r k ≤ s.length ∧ (∀ j, k ≤ j → j < cutFrom s r k → heldAt s j = false) ∧ (cutFrom s r k < s.length → heldAt s (cutFrom s r k) = true)
  | 0, k, h => ⟨by simp only [cutFrom]; omega, by simp only [cutFrom]; omega, fun j h1 h2 => by simp only [cutFrom] at h2; omega, fun h1 => by simp only [cutFrom] at h1; omega⟩
  | r + 1, k, h => by
    simp only [cutFrom]
    by_cases hk : heldAt s k = true
    · rw [if_pos hk]
      exact ⟨Nat.le_refl _, by omega, fun j h1 h2 => by omega, fun _ => hk⟩
    · rw [if_neg hk]
      obtain ⟨a, b, c, d⟩ := cutFrom_spec s r (k + 1) (by omega)
      refine ⟨by omega, b, fun j h1 h2 => ?_, d⟩
      by_cases hj : j = k
      · subst hj; simpa using hk
      · exact c j (by omega) h2
theorem cutN_spec (s : List Nat) : s.length - 3 ≤ cutN s ∧ cutN s ≤ s.length ∧ (∀ j, s.length - 3 ≤ j → j < cutN s → heldAt s j = false) ∧ (cutN s < s.length → heldAt s (cutN s) = true) :=
  cutFrom_spec s _ _ (by omega)
/-- The heap behind Feed: what is held, and what is told. -/
def feedH (h : Heap) (p t : Nat) (s : List Nat) : Heap := (h.set p (some (.cells [.slice h.next 0 (s.length - cutN s) none] t 1 true))).new (.cells (bytesOf (s.drop (cutN s))) 5 1 true)
open Classical in
/-- Feed. -/
noncomputable def s_Feed : List V → Heap → Option (V × Heap)
  | [.ptr p 0, vb], h => match h.get p with
    | some (.cells [vh] t 1 true) => match slB h vh, slB h vb with
      | some a, some b => if hasLaid laidVals h ∧ (a ++ b).length ≤ 17592186044416 then
          (if cutN (a ++ b) = 0 then some (.nilslice, feedH h p t (a ++ b))
          else some (.slice (h.next + 1) 0 (runesL ((a ++ b).take (cutN (a ++ b)))).length none, (feedH h p t (a ++ b)).new (.cells ((runesL ((a ++ b).take (cutN (a ++ b)))).map (V.int .i32)) 21 1 true))) else none
      | _, _ => none
    | _ => none
  | _, _ => none
theorem Feed_loop (cf : ACall) (hStart : ∀ a h, cf 24 a h = s_Start a h) (hFull : ∀ a h, cf 25 a h = s_Full a h) (H : Heap) (hL : hasLaid laidVals H) (s : List Nat) (hl : s.length ≤ 17592186044416) (v vp : V) (hv : slB H v = some s) :
    ∀ e, e.n = 51 → e.at 0 = vp → e.at 5 = v → e.at 6 = .int .i64 (s.length : Int) → e.at 7 = .int .i64 ((s.length - 3 : Nat) : Int) →
    YtpegpafginbhmaaDoorA.Ends (execA cf 6 (.loop c12_l0) e H) fun x e' H' => x = .exit 0 ∧ e'.n = 51 ∧ e'.at 0 = vp ∧ e'.at 5 = v ∧ e'.at 6 = .int .i64 (cutN s : Int) ∧ H' = H := by
  intro e hn q0 q5 q6 q7
  obtain ⟨c1, c2, c3, c4⟩ := cutN_spec s
  generalize cutN s = c at *
  have hsl := slB_isSl hv
  have hvl := slB_vlen hv
  have hlt := slB_lt hv
  obtain ⟨k0, hk0⟩ : ∃ k, k = s.length - 3 := ⟨_, rfl⟩
  rw [← hk0] at q7 c1 c3
  obtain ⟨M, hM⟩ : ∃ M, M = (if c < s.length then c - k0 + 1 else s.length - k0) := ⟨_, rfl⟩
  have hM4 : M ≤ 4 := by rw [hM]; split <;> omega
  refine loop_count (cf := cf) (N := 6) (c := c12_l0) M
    (fun i e H' => e.n = 51 ∧ e.at 0 = vp ∧ e.at 5 = v ∧ e.at 6 = .int .i64 ((if k0 + i ≤ c then s.length else c : Nat) : Int) ∧ e.at 7 = .int .i64 ((k0 + i : Nat) : Int) ∧ H' = H)
    (fun x e' H' => x = .exit 0 ∧ e'.n = 51 ∧ e'.at 0 = vp ∧ e'.at 5 = v ∧ e'.at 6 = .int .i64 (c : Int) ∧ H' = H) ?_ ?_ 0 e _ (Nat.zero_le _) ⟨hn, q0, q5, by rw [if_pos (by omega)]; exact q6, q7, rfl⟩ (by omega)
  · rintro i e H' hi ⟨hn, q0, q5, q6, q7, rfl⟩
    have hki : k0 + i ≤ c ∧ k0 + i < s.length := by rw [hM] at hi; split at hi <;> omega
    rw [if_pos hki.1] at q6
    obtain ⟨k, hk⟩ : ∃ k, k = k0 + i := ⟨_, rfl⟩
    rw [← hk] at q7 hki
    have hkI : (k : Int) < (s.length : Int) := by omega
    have wk : wrapF .i64 ((k : Int) + 1) = ((k + 1 : Nat) : Int) := by rw [wrap_i64 (by omega) (by omega)]; omega
    have i1 := indexE (z := 1) hsl H' (k := .i64) (i := (k : Int)) (by omega) (by rw [hvl]; omega)
    simp only [Int.toNat_natCast, Nat.mul_one] at i1
    have l1 : loadS (atP v k) H' = some (.int .u8 (s.getD k 0 : Nat), H') := rd_load (sl_rd (slB_sl hv).1) (j := k) (by rw [bytesOf, List.getElem?_map, List.getD_eq_getElem?_getD, List.getElem?_eq_getElem hki.2]; rfl)
    have cw : sliceV H' 1 v (some (.int .i64 (k : Int))) none none = some (cutV 1 v k s.length) := by
      have := slice_lo (k := .i64) (i := (k : Int)) (v := v) (h := H') (by rw [hv]; rfl) (by omega) (by omega)
      rw [this, Int.toNat_natCast, hvl]
    have sw : slB H' (cutV 1 v k s.length) = some (s.drop k) := by
      rw [(slB_cut' hv (l := k) (r := s.length) (by omega) (Nat.le_refl _)).1, List.take_length]
    have rF : s_Full [cutV 1 v k s.length] H' = some (.bool (fullB (s.drop k)), H') := by
      unfold s_Full
      simp only [sw]
      rw [if_pos hL]
    have rS : s_Start [.int .u8 (s.getD k 0 : Nat)] H' = some (.bool (startB (s.getD k 0 : Nat)), H') := rfl
    have hh : heldAt s k = (startB (s.getD k 0 : Nat) && !fullB (s.drop k)) := rfl
    generalize s.getD k 0 = y at *
    generalize cutV 1 v k s.length = w at *
    generalize fullB (s.drop k) = fb at *
    generalize hsb : startB (y : Nat) = sb at *
    by_cases hkc : k = c
    · have hb := c4 (by omega)
      rw [← hkc, hh] at hb
      simp only [Bool.and_eq_true, Bool.not_eq_true'] at hb
      obtain ⟨rfl, rfl⟩ := hb
      subst hkc
      have hnn : ¬ k + 1 ≤ k := by omega
      simp (config := {maxSteps := 1000000, maxDischargeDepth := 9, implicitDefEqProofs := false}) [c12_l0, hn, q0, q5, q6, q7, hkI, hki, i1, l1, hStart, rS, cw, hFull, rF, wk, hsb]
      exact ⟨by rw [if_neg (by omega)], by omega⟩
    · have hb := c3 k (by omega) (by omega)
      rw [hh] at hb
      have hkk : k + 1 ≤ c := by omega
      cases sb with
      | false =>
        simp (config := {maxSteps := 1000000, maxDischargeDepth := 9, implicitDefEqProofs := false}) [c12_l0, hn, q0, q5, q6, q7, hkI, hki, i1, l1, hStart, rS, cw, hFull, rF, wk, hsb]
        exact ⟨by rw [if_pos (by omega)], by omega⟩
      | true =>
        cases fb with
        | false => simp at hb
        | true =>
          simp (config := {maxSteps := 1000000, maxDischargeDepth := 9, implicitDefEqProofs := false}) [c12_l0, hn, q0, q5, q6, q7, hkI, hki, i1, l1, hStart, rS, cw, hFull, rF, wk, hsb]
          exact ⟨by rw [if_pos (by omega)], by omega⟩
  · rintro e H' ⟨hn, q0, q5, q6, q7, rfl⟩
    have hex : (if k0 + M ≤ c then s.length else c) = c ∧ ¬ ((k0 + M : Nat) : Int) < (c : Int) := by
      rw [hM]
      split
      · rw [if_neg (by omega)]; omega
      · rw [if_pos (by omega)]; omega
    rw [hex.1] at q6
    obtain ⟨hex1, hex2⟩ := hex
    generalize k0 + M = m at *
    simp (config := {maxSteps := 1000000, maxDischargeDepth := 9, implicitDefEqProofs := false}) [c12_l0, hn, q0, q5, q6, q7, hex2]
theorem cut_form {h H : Heap} {t L c : Nat} {v : V} {s : List Nat} (ho : OwnB h H t v s) (hn : v ≠ .nilslice) (hL : L = s.length) (hc : c ≤ L) : ∃ b δ cap, cutV 1 v c L = .slice b δ (L - c) cap ∧ h.next ≤ b ∧ b < H.next ∧ H.get b = some (.cells (bytesOf s) t 1 true) ∧ δ + (L - c) ≤ L ∧ (c < L → δ = c) ∧ (cap = none ∨ cap = some (L - c)) := by
  rcases ho with ⟨h0, _⟩ | ⟨b, cap, rfl, k2, k3, k4, k5, k6⟩
  · exact absurd h0 hn
  · rw [← hL]
    rcases k2 with rfl | rfl
    · simp only [cutV]
      split
      · rename_i h0
        refine ⟨b, 0, none, ?_, k3, k4, k6, by omega, fun h => by omega, .inl rfl⟩
        rw [show L - c = 0 from by omega]
      · exact ⟨b, 0 + c * 1, none, rfl, k3, k4, k6, by omega, fun h => by omega, .inl rfl⟩
    · simp only [cutV, ← hL]
      split
      · rename_i h0
        exact ⟨b, 0, some (L - c), rfl, k3, k4, k6, by omega, fun h => by omega, .inr rfl⟩
      · exact ⟨b, 0 + c * 1, some (L - c), rfl, k3, k4, k6, by omega, fun h => by omega, .inr rfl⟩
theorem slB_same4 {H H' : Heap} {q o n : Nat} {c : Option Nat} (hg : H'.get q = H.get q) : slB H' (.slice q o n c) = slB H (.slice q o n c) := by
  have h1 : wfS H' 1 (.slice q o n c) = wfS H 1 (.slice q o n c) := by dsimp only [wfS]; rw [hg]
  have h2 : rd H' 1 (.slice q o n c) = rd H 1 (.slice q o n c) := by
    show H'.read q o (n * 1) = H.read q o (n * 1)
    unfold Heap.read; rw [hg]
  unfold slB sl
  rw [h1, h2]
theorem Feed_ok (cf : ACall) (hStart : ∀ a h, cf 24 a h = s_Start a h) (hFull : ∀ a h, cf 25 a h = s_Full a h) (hRunes : ∀ a h, cf 16 a h = s_Runes a h) : Sum cf c12 s_Feed := by
  intro args h v h' hf hsc hlt hs
  unfold s_Feed at hs
  split at hs
  · rename_i p vb
    split at hs
    · rename_i vh t hg
      split at hs
      · rename_i a b ha hb
        split at hs
        · rename_i hc
          obtain ⟨hL, hl⟩ := hc
          obtain ⟨s, hs0⟩ : ∃ s, s = a ++ b := ⟨_, rfl⟩
          rw [← hs0] at hs hl
          have hlm : lim = 140737488354304 := rfl
          have hsl0 : s.length = a.length + b.length := by rw [hs0, List.length_append]
          have hpl := hf.lt hg
          obtain ⟨h1, hh1⟩ : ∃ A, A = h.new (.cells [] 5 1 true) := ⟨_, rfl⟩
          have e1 : Ext h h1 := by rw [hh1]; exact Ext.new h _
          have f1 : Fresh h1 := by rw [hh1]; exact hf.new _
          obtain ⟨v2, h2, r1, o2, e2, f2, n2, m2, _⟩ := OwnB.app (x := vh) (s := a) e1 f1 (by rw [hh1]; exact OwnB.start h 5) (slB_added (slB_ext e1 hf ha)) (by simp only [List.length_nil]; omega)
          obtain ⟨v3, h3, r2, o3, e3, f3, n3, m3, _⟩ := OwnB.app (x := vb) (s := b) e2 f2 o2 (slB_added (slB_ext e2 hf hb)) (by simp only [List.nil_append]; omega)
          rw [List.nil_append, ← hs0] at o3
          have hne3 : v3 ≠ .nilslice := m3 (m2 (by intro h; cases h))
          have hslt : ∀ y ∈ s, y < 256 := fun y hy => by
            rw [hs0] at hy
            rcases List.mem_append.1 hy with hy | hy
            · exact slB_lt ha y hy
            · exact slB_lt hb y hy
          have s3 : slB h3 v3 = some s := o3.slB hslt
          have hL3 := hasLaid_ext hL hf e3
          have hvl := slB_vlen s3
          have hsl := slB_isSl s3
          have lg : loadS (.ptr p 0) h1 = some (vh, h1) := by rw [loadS_ptr, e1.get hf hg]; rfl
          obtain ⟨k0, hk0⟩ : ∃ k, k = s.length - 3 := ⟨_, rfl⟩
          have w1 : wrapF .i64 ((s.length : Int) - 4) = (s.length : Int) - 4 := wrap_i64 (by omega) (by omega)
          have w2 : wrapF .i64 ((s.length : Int) - 4 + 1) = (s.length : Int) - 3 := by rw [wrap_i64 (by omega) (by omega)]; omega
          have w3 : (if (3 : Int) < (s.length : Int) then (s.length : Int) - 3 else 0) = (k0 : Int) := by split <;> omega
          refine ⟨6, ?_⟩
          simp (config := {maxSteps := 1000000, maxDischargeDepth := 9, implicitDefEqProofs := false}) [c12, ← hh1, lg, r1, r2, lenE hsl, hvl, w1, w2, w3]
          refine loop_then (K := fun r => finS _ (seqS _ _ _ (blockS _ r))) (Feed_loop cf hStart hFull h3 hL3 s hl v3 (.ptr p 0) s3 _ ?_ ?_ ?_ ?_ ?_) ?_
          iterate 5 simp (config := {maxSteps := 1000000, maxDischargeDepth := 9, implicitDefEqProofs := false}) [hk0]
          rintro x e' H ⟨rfl, hn', q0, q5, q6, rfl⟩
          obtain ⟨_, c2, _, _⟩ := cutN_spec s
          unfold feedH at hs
          generalize cutN s = c at *
          obtain ⟨q, δ, cap, hcut, b1, b2, b3, b4, b5, b6⟩ := cut_form (c := c) o3 hne3 rfl c2
          have cw : sliceV H 1 v3 (some (.int .i64 (c : Int))) none none = some (cutV 1 v3 c s.length) := by
            have := slice_lo (k := .i64) (i := (c : Int)) (v := v3) (h := H) (by rw [s3]; rfl) (by omega) (by omega)
            rw [this, Int.toNat_natCast, hvl]
          obtain ⟨w, hw⟩ : ∃ w, w = cutV 1 v3 c s.length := ⟨_, rfl⟩
          rw [← hw] at cw hcut
          have onew : w.one = true := by rw [hcut]; rfl
          have clw : w.cells = [w] := by rw [hcut]; rfl
          have hgp : H.get p = some (.cells [vh] t 1 true) := e3.get hf hg
          obtain ⟨h4, hh4⟩ : ∃ A, A = H.set p (some (.cells [w] t 1 true)) := ⟨_, rfl⟩
          have f4 : Fresh h4 := by rw [hh4]; exact f3.set (by have := e3.1; omega) _
          have hpq : p ≠ q := by omega
          have s4 : slB h4 v3 = some s := by
            rw [← s3]
            rcases o3 with ⟨h0, _⟩ | ⟨b', c', k1, k2, k3, _⟩
            · exact absurd h0 hne3
            · rw [k1]
              exact slB_same4 (by rw [hh4, Heap.get_set, if_neg (by omega)])
          have cu : sliceV h4 1 v3 none (some (.int .i64 (c : Int))) none = some (cutV 1 v3 0 c) := by
            have := slice_hi (k := .i64) (i := (c : Int)) (v := v3) (h := h4) (by rw [s4]; rfl) (by omega) (by omega)
            rw [this, Int.toNat_natCast]
          have su : slB h4 (cutV 1 v3 0 c) = some (s.take c) := by rw [(slB_cut' s4 (l := 0) (r := c) (Nat.zero_le _) c2).1, List.drop_zero]
          have bu : bytesStrS (cutV 1 v3 0 c) h4 = some (.str (s.take c), h4) := rdB_str (slB_rdB su)
          have htl : (s.take c).length = c := by rw [List.length_take]; omega
          have gk : ∀ b B, b ≠ p → h.get b = some B → h4.get b = some B := fun b B hb hB => by rw [hh4, Heap.get_set, if_neg hb]; exact e3.get hf hB
          have gp : h4.get p = some (.cells [w] t 1 true) := by rw [hh4, Heap.get_set]; exact if_pos rfl
          have gq : h4.get q = some (.cells (bytesOf s) 5 1 true) := by rw [hh4, Heap.get_set, if_neg (fun h => hpq h.symm)]; exact b3
          have lq : δ + (bytesOf (s.drop c)).length ≤ (bytesOf s).length := by rw [bytesOf_length, bytesOf_length, List.length_drop]; exact b4
          have gn : ∀ (i : Nat) (x : V), (bytesOf (s.drop c))[i]? = some x → (bytesOf s)[δ + i]? = some x := fun i x hi => by
            have hic : i < s.length - c := by
              have := (List.getElem?_eq_some_iff.1 hi).1
              rw [bytesOf_length, List.length_drop] at this; exact this
            rw [b5 (by omega)]
            simp only [bytesOf, List.getElem?_map, List.getElem?_drop] at hi ⊢
            exact hi
          have vcw : ∀ (h2 : Heap) (τ : Nat → Nat × Nat) (n : Nat), h.next < n → τ h.next = (q, δ) → h2.get q = some (.cells (bytesOf s) 5 1 true) → VC h2 τ n (.slice h.next 0 (s.length - c) none) w := fun h2 τ n hn hτ hgq => by
            rw [hcut]
            simp only [VC, hτ]
            refine ⟨hn, cap, rfl, fun m hm => ⟨_, _, _, _, hgq, ?_⟩⟩
            rcases b6 with hb6 | hb6
            · rw [hb6] at hm; cases hm
            · rw [hb6] at hm; cases hm; rw [bytesOf_length]; omega
          by_cases hc0 : c = 0
          · rw [if_pos hc0] at hs
            simp only [Option.some.injEq, Prod.mk.injEq] at hs
            obtain ⟨rfl, rfl⟩ := hs
            have rR : s_Runes [.str (s.take c)] h4 = some (.nilslice, h4) := by
              unfold s_Runes
              simp only
              rw [if_pos (by omega), if_pos (by omega)]
            simp (config := {maxSteps := 1000000, maxDischargeDepth := 9, implicitDefEqProofs := false}) [hn', q0, q5, q6, cw, hgp, onew, clw, ← hh4, cu, bu, hRunes, rR]
            refine ⟨_, Canon.mod1 (b2 := q) (δ := δ) (nc2 := bytesOf s) (cs2 := [w]) hf hsc hpl gk gp rfl ?_ b1 gq lq gn (flat_bytes _) (by simp only [VC])⟩
            intro i x hi
            cases i with
            | succ i => simp at hi
            | zero =>
              simp only [List.getElem?_cons_zero, Option.some.injEq] at hi
              subst hi
              exact ⟨w, rfl, vcw _ _ _ (by omega) moved_at gq⟩
          · rw [if_neg hc0] at hs
            simp only [Option.some.injEq, Prod.mk.injEq] at hs
            obtain ⟨rfl, rfl⟩ := hs
            have rR : s_Runes [.str (s.take c)] h4 = some (.slice h4.next 0 (runesL (s.take c)).length none, h4.new (.cells ((runesL (s.take c)).map (V.int .i32)) 21 1 true)) := by
              unfold s_Runes
              simp only
              rw [if_pos (by omega), if_neg (by omega)]; rfl
            simp (config := {maxSteps := 1000000, maxDischargeDepth := 9, implicitDefEqProofs := false}) [hn', q0, q5, q6, cw, hgp, onew, clw, ← hh4, cu, bu, hRunes, rR]
            have f5 := Ext.new h4 (.cells ((runesL (s.take c)).map (V.int .i32)) 21 1 true)
            have n4 : h4.next = H.next := by rw [hh4]; rfl
            refine ⟨_, Canon.mod2 (b2 := q) (δ := δ) (b3 := h4.next) (nc2 := bytesOf s) (cs2 := [w]) hf hsc hpl (fun b B hb hB => f5.get f4 (gk b B hb hB)) (f5.get f4 gp) rfl ?_ b1 (f5.get f4 gq) lq gn (flat_bytes _) (by have := e3.1; omega) (by omega) (by rw [Heap.get_new]; exact if_pos rfl) (flat_ints _ _) ?_⟩
            · intro i x hi
              cases i with
              | succ i => simp at hi
              | zero =>
                simp only [List.getElem?_cons_zero, Option.some.injEq] at hi
                subst hi
                exact ⟨w, rfl, vcw _ _ _ (by omega) (moved_two0 _ _ _ _) (f5.get f4 gq)⟩
            · simp only [VC, moved_two1]
              exact ⟨by omega, none, rfl, fun m hm => by cases hm⟩
        · cases hs
      · cases hs
    · cases hs
  · cases hs

/-- known, where the tables stand in memory. -/
noncomputable def s_kn : List V → Heap → Option (V × Heap) := s_knownG laidVals
theorem s_kn_ok {h : Heap} (hl : hasLaid laidVals h) : s_kn [] h = some (.bool true, h) := if_pos hl
/-- A decoder that holds these bytes. -/
def isDec (H : Heap) (p t : Nat) (s : List Nat) : Prop := (∃ vh, H.get p = some (.cells [vh] t 1 true) ∧ slB H vh = some s ∧ vh = .nilslice) ∨ ∃ q n cs, H.get p = some (.cells [.slice q 0 n none] t 1 true) ∧ slB H (.slice q 0 n none) = some s ∧ q ≠ p ∧ H.get q = some (.cells cs 5 1 true)
theorem isDec.get {H : Heap} {p t : Nat} {s : List Nat} (hd : isDec H p t s) : ∃ vh, H.get p = some (.cells [vh] t 1 true) ∧ slB H vh = some s := by
  obtain ⟨vh, h1, h2, _⟩ | ⟨q, n, cs, h1, h2, _⟩ := hd
  · exact ⟨_, h1, h2⟩
  · exact ⟨_, h1, h2⟩
theorem isDec.keep {H H' : Heap} {p t : Nat} {s : List Nat} (hd : isDec H p t s) (hp : H'.get p = H.get p) (hq : ∀ q cs, q ≠ p → H.get q = some (.cells cs 5 1 true) → H'.get q = H.get q) : isDec H' p t s := by
  obtain ⟨vh, h1, h2, rfl⟩ | ⟨q, n, cs, h1, h2, h3, h4⟩ := hd
  · exact .inl ⟨_, by rw [hp]; exact h1, (show slB H' .nilslice = slB H .nilslice from rfl).trans h2, rfl⟩
  · have := hq q cs h3 h4
    exact .inr ⟨q, n, cs, by rw [hp]; exact h1, by rw [slB_same4 this]; exact h2, h3, by rw [this]; exact h4⟩
theorem isDec.ext {H H' : Heap} {p t : Nat} {s : List Nat} (hd : isDec H p t s) (hF : Fresh H) (hE : Ext H H') : isDec H' p t s := by
  obtain ⟨vh, h1, _⟩ := hd.get
  exact hd.keep (by rw [hE.get hF h1, h1]) fun q cs _ hq => by rw [hE.get hF hq, hq]
theorem isDec_new (H : Heap) (t : Nat) : isDec (H.new (.cells [.nilslice] t 1 true)) H.next t [] := .inl ⟨_, by rw [Heap.get_new]; exact if_pos rfl, slB_nil, rfl⟩
theorem held_ret {H : Heap} {p t : Nat} {s : List Nat} (hd : isDec H p t s) : s_Held [.ptr p 0] H = some (.int .i64 (s.length : Int), H) := by
  obtain ⟨vh, h1, h2⟩ := hd.get
  unfold s_Held
  simp only [h1]
  rw [if_pos (slB_isSl h2), slB_vlen h2]
/-- What Feed does to a decoder, and what it tells. -/
theorem feed_run {H : Heap} {p t : Nat} {a b : List Nat} {vb : V} (hd : isDec H p t a) (hb : slB H vb = some b) (hF : Fresh H) (hL : hasLaid laidVals H) (hl : a.length + b.length ≤ 17592186044416) :
    ∃ H' v, s_Feed [.ptr p 0, vb] H = some (v, H') ∧ slK .i32 H' v = some (runesL ((a ++ b).take (cutN (a ++ b)))) ∧ isDec H' p t ((a ++ b).drop (cutN (a ++ b))) ∧ Fresh H' ∧ (∀ q, q ≠ p → q < H.next → H'.get q = H.get q) ∧ H.next ≤ H'.next ∧ (v = .nilslice ∨ ∃ q n cs, v = .slice q 0 n none ∧ H.next ≤ q ∧ H'.get q = some (.cells cs 21 1 true)) := by
  obtain ⟨vh, g1, g2⟩ := hd.get
  have hp := hF.lt g1
  have hlt : ∀ y ∈ (a ++ b).drop (cutN (a ++ b)), y < 256 := fun y hy => by
    have hy := List.mem_of_mem_drop hy
    rcases List.mem_append.1 hy with hy | hy
    · exact slB_lt g2 y hy
    · exact slB_lt hb y hy
  have hc := (cutN_spec (a ++ b)).2.1
  have hr : s_Feed [.ptr p 0, vb] H = (if cutN (a ++ b) = 0 then some (.nilslice, feedH H p t (a ++ b)) else some (.slice (H.next + 1) 0 (runesL ((a ++ b).take (cutN (a ++ b)))).length none, (feedH H p t (a ++ b)).new (.cells ((runesL ((a ++ b).take (cutN (a ++ b)))).map (V.int .i32)) 21 1 true))) := by
    unfold s_Feed
    simp only [g1, g2, hb]
    rw [if_pos ⟨hL, by rw [List.length_append]; exact hl⟩]
  have hdl : ((a ++ b).drop (cutN (a ++ b))).length = (a ++ b).length - cutN (a ++ b) := List.length_drop
  generalize hs : a ++ b = s at *
  have n1 : (feedH H p t s).next = H.next + 1 := rfl
  have f1 : Fresh (feedH H p t s) := by unfold feedH; exact (hF.set hp _).new _
  have gp : (feedH H p t s).get p = some (.cells [.slice H.next 0 (s.length - cutN s) none] t 1 true) := by
    unfold feedH
    rw [Heap.get_new, if_neg (by show ¬ p = H.next; omega), Heap.get_set, if_pos rfl]
  have gq : (feedH H p t s).get H.next = some (.cells (bytesOf (s.drop (cutN s))) 5 1 true) := by
    unfold feedH; rw [Heap.get_new]; exact if_pos rfl
  have sq : slB (feedH H p t s) (.slice H.next 0 (s.length - cutN s) none) = some (s.drop (cutN s)) := by
    rw [← hdl]
    exact slB_selfE (h := H.set p (some (.cells [.slice H.next 0 (s.length - cutN s) none] t 1 true))) rfl rfl (.inl rfl) hlt
  have hd1 : isDec (feedH H p t s) p t (s.drop (cutN s)) := .inr ⟨H.next, _, _, gp, sq, by omega, gq⟩
  have hk : ∀ q, q ≠ p → q < H.next → (feedH H p t s).get q = H.get q := fun q h1 h2 => by
    unfold feedH
    rw [Heap.get_new, if_neg (by show ¬ q = H.next; omega), Heap.get_set, if_neg h1]
  by_cases h0 : cutN s = 0
  · rw [if_pos h0] at hr
    refine ⟨_, _, hr, ?_, hd1, f1, hk, by omega, .inl rfl⟩
    rw [h0, List.take_zero, runesL_nil]
    exact slK_nil _
  · rw [if_neg h0] at hr
    refine ⟨_, _, hr, ?_, hd1.ext f1 (Ext.new _ _), f1.new _, fun q h1 h2 => ?_, by rw [Heap.next_new]; omega, .inr ⟨_, _, _, rfl, by omega, by rw [Heap.get_new]; exact if_pos rfl⟩⟩
    · exact slK_selfE rfl rfl (.inl rfl)
    · rw [Heap.get_new, if_neg (by rw [n1]; omega)]; exact hk q h1 h2

/-- The law's runes. -/
def runes8 : List Int := [97, 127, 128, 2047, 2048, 65533, 65536, 1114111]
def backOk (r : Int) : Bool := decide (runesL (utfEnc r) = [r]) && decide (1 ≤ (utfEnc r).length ∧ (utfEnc r).length ≤ 4) && (utfEnc r).all (fun y => decide (y < 256)) && (List.range (utfEnc r).length).all fun k => decide (cutN ((utfEnc r).take (k + 1)) = if k + 1 < (utfEnc r).length then 0 else (utfEnc r).length)
theorem back_all : runes8.all backOk = true := by kernel_rfl
def BInv (h H : Heap) (p : Nat) (s : List Nat) : Prop := Ext h H ∧ Fresh H ∧ isDec H p 50 s
theorem BInv.feed {h H : Heap} {p : Nat} {a b : List Nat} {vb : V} (hp : h.next ≤ p) (hf : Fresh h) (hL : hasLaid laidVals h) (hI : BInv h H p a) (hb : slB H vb = some b) (hl : a.length + b.length ≤ 17592186044416) :
    ∃ H' v, s_Feed [.ptr p 0, vb] H = some (v, H') ∧ slK .i32 H' v = some (runesL ((a ++ b).take (cutN (a ++ b)))) ∧ BInv h H' p ((a ++ b).drop (cutN (a ++ b))) ∧ (∀ q, q ≠ p → q < H.next → H'.get q = H.get q) ∧ H.next ≤ H'.next ∧ (v = .nilslice ∨ ∃ q n cs, v = .slice q 0 n none ∧ H.next ≤ q ∧ H'.get q = some (.cells cs 21 1 true)) := by
  obtain ⟨e, f, d⟩ := hI
  obtain ⟨H', v, r1, r2, r3, r4, r5, r6, r7⟩ := feed_run d hb f (hasLaid_ext hL hf e) hl
  refine ⟨H', v, r1, r2, ⟨⟨by have := e.1; omega, fun q hq => ?_⟩, r4, r3⟩, r5, r6, r7⟩
  rw [r5 q (by omega) (by have := e.1; omega)]; exact e.2 q hq
theorem BInv.ext {h H H' : Heap} {p : Nat} {s : List Nat} (hI : BInv h H p s) (hE : Ext H H') (hF : Fresh H') : BInv h H' p s := by
  obtain ⟨e, f, d⟩ := hI
  exact ⟨e.trans hE, hF, d.ext f hE⟩
theorem back_inner (cf : ACall) (hFeed : ∀ a h, cf 12 a h = s_Feed a h) (hHeld : ∀ a h, cf 13 a h = s_Held a h) (h : Heap) (hf : Fresh h) (hL : hasLaid laidVals h) (p : Nat) (hp : h.next ≤ p) (vl : V) (i : Nat) (r : Int) (b : List Nat) (hlt : ∀ y ∈ b, y < 256) (h1 : 1 ≤ b.length) (h4 : b.length ≤ 4) (hr : runesL b = [r]) (hcut : ∀ k, k < b.length → cutN (b.take (k + 1)) = if k + 1 < b.length then 0 else b.length) :
    ∀ e H, e.n = 89 → e.at 0 = vl → e.at 3 = .ptr p 0 → e.at 4 = .int .i64 (i : Int) → e.at 5 = .int .i32 r → e.at 6 = .str b → e.at 7 = .int .i64 0 → BInv h H p [] →
    YtpegpafginbhmaaDoorA.Ends (execA cf 60 (.loop c5_l1) e H) fun x e' H' => x = .exit 2 ∧ e'.n = 89 ∧ e'.at 0 = vl ∧ e'.at 3 = .ptr p 0 ∧ e'.at 4 = .int .i64 (i : Int) ∧ BInv h H' p [] := by
  intro e H hn q0 q3 q4 q5 q6 q7 hI
  refine loop_count (cf := cf) (N := 60) (c := c5_l1) b.length
    (fun k e H => e.n = 89 ∧ e.at 0 = vl ∧ e.at 3 = .ptr p 0 ∧ e.at 4 = .int .i64 (i : Int) ∧ e.at 5 = .int .i32 r ∧ e.at 6 = .str b ∧ e.at 7 = .int .i64 (k : Int) ∧ BInv h H p (if k < b.length then b.take k else []))
    (fun x e' H' => x = .exit 2 ∧ e'.n = 89 ∧ e'.at 0 = vl ∧ e'.at 3 = .ptr p 0 ∧ e'.at 4 = .int .i64 (i : Int) ∧ BInv h H' p []) ?_ ?_ 0 e _ (Nat.zero_le _) ⟨hn, q0, q3, q4, q5, q6, q7, by rw [if_pos (by omega)]; exact hI⟩ (by omega)
  · rintro k e H hk ⟨hn, q0, q3, q4, q5, q6, q7, hI⟩
    rw [if_pos hk] at hI
    have hkI : (k : Int) < (b.length : Int) := by omega
    obtain ⟨y, hy⟩ : ∃ y, y = b[k] := ⟨_, rfl⟩
    have hgy : ∀ hh : k < b.length, b[k]'hh = y := fun _ => hy.symm
    have hyl : y < 256 := by rw [hy]; exact hlt _ (List.getElem_mem _)
    have htk : b.take k ++ [y] = b.take (k + 1) := by rw [List.take_succ_eq_append_getElem hk, hy]
    obtain ⟨A1, hA1⟩ : ∃ A, A = H.new (.cells [.int .u8 (y : Nat)] 5 1 true) := ⟨_, rfl⟩
    have f1 : Fresh A1 := by rw [hA1]; exact hI.2.1.new _
    have e1 : Ext H A1 := by rw [hA1]; exact Ext.new H _
    have s1 : slB A1 (.slice H.next 0 1 (some 1)) = some [y] := by
      rw [hA1]
      have := slB_selfE (h := H) (t := 5) (s := [y]) (own := true) (n := 1) (c := some 1) rfl rfl (.inr rfl) (fun y hy => by rw [List.mem_singleton.1 hy]; exact hyl)
      exact this
    obtain ⟨A2, v, r1, r2, r3, r4, r5, r6⟩ := (hI.ext e1 f1).feed hp hf hL s1 (by rw [List.length_take, List.length_singleton]; omega)
    rw [htk, hcut k hk] at r2 r3
    have w1 : wrapF .i64 ((k : Int) + 1) = (k : Int) + 1 := wrap_i64 (by omega) (by omega)
    have w2 : wrapF .i64 ((b.length : Int) - 1) = (b.length : Int) - 1 := wrap_i64 (by omega) (by omega)
    have hvs := slK_isSl r2
    have hvk := slK_vlen r2
    have rH := held_ret r3.2.2
    by_cases hlast : k + 1 < b.length
    · rw [if_pos hlast, List.take_zero, runesL_nil] at r2 hvk
      rw [if_pos hlast, List.drop_zero] at r3 rH
      have hlI : (k : Int) < (b.length : Int) - 1 := by omega
      have hne : ((k : Int) == (b.length : Int) - 1) = false := beq_eq_false_iff_ne.2 (by omega)
      have htl : (b.take (k + 1)).length = k + 1 := by rw [List.length_take]; omega
      rw [htl] at rH
      simp (config := {maxSteps := 1000000, maxDischargeDepth := 9, implicitDefEqProofs := false}) [c5_l1, hn, q0, q3, q4, q5, q6, q7, hkI, hk, hgy, ← hA1, hFeed, r1, w1, w2, hlI, hlast, hne, lenE hvs, hvk, hHeld, rH]
      exact r3
    · rw [if_neg hlast] at r2 hvk r3 rH
      rw [List.take_of_length_le (show b.length ≤ k + 1 by omega)] at r2 hvk r3 rH
      rw [List.take_length, hr] at r2 hvk
      rw [List.drop_length] at r3 rH
      have hlI : ¬ (k : Int) < (b.length : Int) - 1 := by omega
      have heq : ((k : Int) == (b.length : Int) - 1) = true := beq_iff_eq.2 (by omega)
      have i1 := indexE (z := 1) hvs A2 (k := .i64) (i := (0 : Int)) (by omega) (by rw [hvk]; simp)
      simp only [Int.toNat_zero, Nat.zero_mul] at i1
      have l1 : loadS (atP v 0) A2 = some (.int .i32 r, A2) := rd_load (sl_rd (slK_sl r2)) (j := 0) rfl
      simp (config := {maxSteps := 1000000, maxDischargeDepth := 9, implicitDefEqProofs := false}) [c5_l1, hn, q0, q3, q4, q5, q6, q7, hkI, hk, hgy, ← hA1, hFeed, r1, w1, w2, hlI, hlast, heq, lenE hvs, hvk, hHeld, rH, i1, l1]
      exact r3
  · rintro e H ⟨hn, q0, q3, q4, q5, q6, q7, hI⟩
    rw [if_neg (by omega)] at hI
    simp (config := {maxSteps := 1000000, maxDischargeDepth := 9, implicitDefEqProofs := false}) [c5_l1, hn, q0, q3, q4, q6, q7]
    exact hI
theorem back_loop (cf : ACall) (hPick : ∀ a h, cf 19 a h = s_Pick a h) (hText : ∀ a h, cf 18 a h = s_Text a h) (hFeed : ∀ a h, cf 12 a h = s_Feed a h) (hHeld : ∀ a h, cf 13 a h = s_Held a h) (h : Heap) (hf : Fresh h) (hL : hasLaid laidVals h) (p : Nat) (hp : h.next ≤ p) (vl : V) (l : List Int) (hl : slK .i64 h vl = some l) :
    ∀ e H, e.n = 89 → e.at 0 = vl → e.at 3 = .ptr p 0 → e.at 4 = .int .i64 0 → BInv h H p [] →
    YtpegpafginbhmaaDoorA.Ends (execA cf 60 (.loop c5_l0) e H) fun x e' H' => x = .exit 0 ∧ e'.n = 89 := by
  intro e H hn q0 q3 q4 hI
  have hsl := slK_isSl hl
  have hvl := slK_vlen hl
  obtain ⟨M, hM⟩ : ∃ M, M = min 40 l.length := ⟨_, rfl⟩
  refine loop_count (cf := cf) (N := 60) (c := c5_l0) M
    (fun i e H => e.n = 89 ∧ e.at 0 = vl ∧ e.at 3 = .ptr p 0 ∧ e.at 4 = .int .i64 (i : Int) ∧ BInv h H p [])
    (fun x e' H' => x = .exit 0 ∧ e'.n = 89) ?_ ?_ 0 e _ (Nat.zero_le _) ⟨hn, q0, q3, q4, hI⟩ (by omega)
  · rintro i e H hi ⟨hn, q0, q3, q4, hI⟩
    have hil : i < l.length := by omega
    have hilI : (i : Int) < (l.length : Int) := by omega
    have hi40 : (i : Int) < 40 := by omega
    have hi40n : i < 40 := by omega
    have hload := rd_load (sl_rd (slK_sl (slK_ext hI.1 hf hl))) (j := i) (x := .int .i64 l[i]) (by rw [List.getElem?_map, List.getElem?_eq_getElem hil]; rfl)
    have hidx := indexE (z := 1) hsl H (k := .i64) (i := (i : Int)) (by omega) (by rw [hvl]; omega)
    simp only [Int.toNat_natCast, Nat.mul_one] at hidx
    have p0 := Int.emod_nonneg l[i] (show (8 : Int) ≠ 0 by omega)
    have p1 := Int.emod_lt_of_pos l[i] (show (0 : Int) < 8 by omega)
    obtain ⟨k, hk⟩ : ∃ k : Nat, l[i] % 8 = (k : Int) := ⟨(l[i] % 8).toNat, by omega⟩
    have rP : ∀ K, s_Pick [.int .i64 l[i], .int .i64 8] K = some (.int .i64 (k : Int), K) := fun K => by
      show (if (0 : Int) < 8 ∧ (8 : Int) ≤ 4611686018427387904 then some (V.int .i64 (l[i] % 8), K) else none) = _
      rw [if_pos (by omega), hk]
    have hk8 : k < 8 := by omega
    have hkI : (k : Int) < 8 := by omega
    obtain ⟨r, hr⟩ : ∃ r, runes8[k]? = some r := ⟨_, List.getElem?_eq_getElem (by exact hk8)⟩
    have hge : ∀ hh : k < ([V.int .i32 97, V.int .i32 127, V.int .i32 128, V.int .i32 2047, V.int .i32 2048, V.int .i32 65533, V.int .i32 65536, V.int .i32 1114111] : List V).length, ([V.int .i32 97, V.int .i32 127, V.int .i32 128, V.int .i32 2047, V.int .i32 2048, V.int .i32 65533, V.int .i32 65536, V.int .i32 1114111] : List V)[k]'hh = .int .i32 r := fun hh => by
      have h1 : ([V.int .i32 97, V.int .i32 127, V.int .i32 128, V.int .i32 2047, V.int .i32 2048, V.int .i32 65533, V.int .i32 65536, V.int .i32 1114111] : List V)[k]? = some (.int .i32 r) := by
        have : (runes8.map (V.int .i32))[k]? = some (.int .i32 r) := by rw [List.getElem?_map, hr]; rfl
        exact this
      exact (List.getElem?_eq_some_iff.1 h1).2
    have hok := List.all_eq_true.1 back_all r (List.mem_of_getElem? hr)
    unfold backOk at hok
    simp only [Bool.and_eq_true, decide_eq_true_eq, List.all_eq_true, List.mem_range] at hok
    obtain ⟨⟨⟨o1, o2, o3⟩, o4⟩, o5⟩ := hok
    obtain ⟨A1, hA1⟩ : ∃ A, A = H.new (.cells [.int .i32 r] 21 1 true) := ⟨_, rfl⟩
    have f1 : Fresh A1 := by rw [hA1]; exact hI.2.1.new _
    have e1 : Ext H A1 := by rw [hA1]; exact Ext.new H _
    have s1 : slK .i32 A1 (.slice H.next 0 1 (some 1)) = some [r] := by
      rw [hA1]; exact slK_selfE (li := [r]) rfl rfl (.inr rfl)
    have rT : s_Text [.slice H.next 0 1 (some 1)] A1 = some (.str (utfEnc r), A1) := by
      unfold s_Text
      simp only [s1]
      have : encL [r] = utfEnc r := by unfold encL; simp
      rw [this]
    generalize utfEnc r = b at *
    simp (config := {maxSteps := 1000000, maxDischargeDepth := 9, implicitDefEqProofs := false}) [c5_l0, hn, q0, q3, q4, lenE hsl, hvl, hilI, hil, hi40, hi40n, hidx, hload, hPick, rP, hkI, hk8, hge, ← hA1, hText, rT]
    have wi : wrapF .i64 ((i : Int) + 1) = (i : Int) + 1 := wrap_i64 (by omega) (by omega)
    refine ends_in (K := fun r => seqS _ _ _ (blockS _ (blockS _ r))) (back_inner cf hFeed hHeld h hf hL p hp vl i r b (by simpa using o4) o2 o3 o1 (fun k hk => by simpa using o5 k hk) _ A1 ?_ ?_ ?_ ?_ ?_ ?_ ?_ (hI.ext e1 f1)) ?_
    iterate 7 simp (config := {maxSteps := 1000000, maxDischargeDepth := 9, implicitDefEqProofs := false}) [hn, q0, q3, q4]
    rintro x e2 H2 ⟨rfl, hn2, t0, t3, t4, hI2⟩
    simp (config := {maxSteps := 1000000, maxDischargeDepth := 9, implicitDefEqProofs := false}) [hn2, t0, t3, t4, wi]
    exact hI2
  · rintro e H ⟨hn, q0, q3, q4, hI⟩
    by_cases h40 : 40 < l.length
    · have : M = 40 := by omega
      subst this
      simp (config := {maxSteps := 1000000, maxDischargeDepth := 9, implicitDefEqProofs := false}) [c5_l0, hn, q0, q4, lenE hsl, hvl, show (40 : Int) < (l.length : Int) from by omega, h40]
    · have : M = l.length := by omega
      subst this
      simp (config := {maxSteps := 1000000, maxDischargeDepth := 9, implicitDefEqProofs := false}) [c5_l0, hn, q0, q4, lenE hsl, hvl]
theorem law_UtfBack (cf : ACall) (hknown : ∀ a h, cf 10 a h = s_kn a h) (hNew : ∀ a h, cf 9 a h = s_New a h) (hPick : ∀ a h, cf 19 a h = s_Pick a h) (hText : ∀ a h, cf 18 a h = s_Text a h) (hFeed : ∀ a h, cf 12 a h = s_Feed a h) (hHeld : ∀ a h, cf 13 a h = s_Held a h)
    (h : Heap) (l : List Int) (vl : V) (hf : Fresh h) (hL : hasLaid laidVals h) (hl : slK .i64 h vl = some l) :
    ∃ N, Runs (bodyA cf N c5 [vl] h) fun v _ => v = .bool true := by
  obtain ⟨H0, hH0⟩ : ∃ A, A = h.new (.cells [.nilslice] 50 1 true) := ⟨_, rfl⟩
  have f0 : Fresh H0 := by rw [hH0]; exact hf.new _
  have e0 : Ext h H0 := by rw [hH0]; exact Ext.new h _
  have rN : s_New [] h = some (.ptr h.next 0, H0) := by rw [hH0]; rfl
  have rk := s_kn_ok (hasLaid_ext hL hf e0)
  have hI : BInv h H0 h.next [] := ⟨e0, f0, by rw [hH0]; exact isDec_new h _⟩
  refine ⟨60, ?_⟩
  simp (config := {maxSteps := 1000000, maxDischargeDepth := 9, implicitDefEqProofs := false}) [c5, hNew, rN, hknown, rk]
  refine loop_then (K := fun r => finS _ (seqS _ _ _ (blockS _ r))) (back_loop cf hPick hText hFeed hHeld h hf hL h.next (Nat.le_refl _) vl l hl _ _ ?_ ?_ ?_ ?_ hI) ?_
  iterate 4 simp (config := {maxSteps := 1000000, maxDischargeDepth := 9, implicitDefEqProofs := false})
  rintro x e' H ⟨rfl, hn'⟩
  simp (config := {maxSteps := 1000000, maxDischargeDepth := 9, implicitDefEqProofs := false}) [hn']

end
end Go.Proofs.YtpegpafginbhmaaDoor.UtfBack
