/- What the functions that the law UtfFeeds reaches do, each told once, and the law by them. No condition. -/
import Derived.Test.YtpegpafginbhmaaDoorCodeUtfFeeds
namespace Go.Proofs.YtpegpafginbhmaaDoor.UtfFeeds
open Go Go.Proofs.YtpegpafginbhmaaDoorA
set_option linter.unusedSimpArgs false
set_option linter.unusedVariables false
set_option maxHeartbeats 4000000
set_option maxRecDepth 100000
attribute [local simp] body_eq exec_seq exec_region exec_skip exec_ret exec_exit exec_cond exec_block seqS_normal seqS_ret seqS_exit seqS_none seqS_bif regS_some regS_none regS_bif condS_bool condS_true
  condS_false blockS_normal blockS_ret blockS_exit blockS_none blockS_bif finS_normal finS_ret finS_bif steps_nil steps_cons steps_guard bindS_some bindS_none bindS_bif endS_some
  endS_skip endS_none endS_bif gstep_some gstep_true gstep_false wantV_true wantV_false wantV_undef wantV_gdv_true wantV_gdv_false gdv_true gdv_false aop_pick pickS_or pickS_and
  pickS_true pickS_false bif_bool put_some put_none Env.at_put Env.n_put at_init n_init Opd.ev ressA resA pack Heap.get_new Heap.get_set nextOf_new Heap.next_set nth fillV zeros over
  eqv read_eq read_zero readB_cells one_bool one_int one_str one_ptr one_nilptr one_slice one_nilslice cells_bool cells_int cells_str cells_ptr cells_nilptr cells_slice
  cells_nilslice cells_agg aop_move aop_box aop_boxv boxvS_agg boxvS_int boxvS_bool boxvS_str boxvS_slice boxvS_nilslice aop_build buildS_some aop_buildSlice buildSliceS_some
  aop_load loadS_ptr loadB_cells loadC_some aop_loadn loadnS_ptr aop_store storeS_ptr writeB_cells aop_bin binS_lss binS_leq binS_gtr binS_geq binS_eql binS_neq binS_add binS_sub
  binS_mul binS_quo binS_rem binS_and binS_or binS_xor binS_shl binS_shr binS_seql binS_sneq binS_sadd aop_eq eqS_some_f eqS_some_t aop_un unS_not unS_neg aop_conv convS_int
  aop_convStr convStrS_str aop_intStr intStrS_int aop_strBytes strBytesS_str aop_bytesStr bytesStrS_nil bytesStrS_slice aop_mkIface aop_mkFunc aop_makeSlice makeS_int aop_sliceStr
  sliceStrS_str sliceStrB_some someS_some aop_sliceSl aop_sliceArr sliceArrS_ptr aop_fieldAddr fieldAddrS_ptr aop_field fieldS_agg fieldS_aggn aop_indexAddrA indexAddrAS_ptr
  aop_indexAddrS indexAddrSS_slice aop_indexA indexAS_agg byteS_some aop_indexStr indexStrS_str aop_extract extractS_tuple aop_call callS_func aop_append aop_copy aop_lenS lenSS_str
  aop_lenL lenLS_nil lenLS_slice aop_minmax minmaxS_min minmaxS_max aop_convSame convSameS_slice convSameB_cells aop_lenC Heap.set_newE Heap.kill_newE Heap.set_new_ne
  Heap.set_gone_ne Heap.set_set Heap.get_gone Heap.next_gone loopE_n loopE_at Runs_some Ends_some Ends_none Runs_none VCL_nil VCL_cons VC_tuple VC_agg VC_bool VC_int VC_str VC_nil
  VC_nilptr VC_ptr VC_slice_nn VC_slice_ns VC_slice_s moved_at most_val lim_val next_add vlen_slice vlen_nil isSl_slice isSl_nil atP_slice newV sl_new slB_new slK_new sl_gone
  slB_gone slK_gone lt_slice lt_nil lt_ptr lt_cut sl_selfE slB_litE slK_litE asB asB_bytesOf asK asK_map slB_nil slK_nil slBs Fresh.new Fresh.gone indexE bytesStrE loadBE slice_lo
  slice_hi slice_lohi slB_cut vlen_cut isSl_cut one_cut cells_cut lenE aop_nilCheck nilCheckS_ptr aop_appendZ aop_eqArr IntKind.bits Int.fdiv_eq_ediv_of_nonneg bytesOf_length
  sameV_refl gval_true gval_false gval_some traceA_nil traceA_cons consT_some mapT_some stepV_none stepV_guard exec_any anyS_some chkOk_nil chkOk_cons sameS_some chk2_some chk1_eq
  envL_nil envL_cons heapL_nil heapL_cons heapO_some heapB_zero heapB_succ isWriter nth_bytesOf nth_ints str_hi str_lo wrap_i64 wrap_i32 wrap_u64 wrap_u32 wrap_u8 exec_float
  fltS_some traceG_nil traceG_cons consG_some viewS_some stepF_bif floatS_float isF isAlloc isReader actH_nil actH_cons1 act1_new act1_bare act1_new0 act1_bare0 read_gap sl_gap
  slB_gap slK_gap get_gap next_gap Fresh.gap aop_range rangeS_str aop_next aop_runesStr
attribute [local congr] gstep_congr gval_congr
noncomputable section
/-- portholehand.Pick: the remainder that is not below 0. -/
def s_Pick : List V → Heap → Option (V × Heap)
  | [.int .i64 n, .int .i64 m], h => if 0 < m ∧ m ≤ 4611686018427387904 then some (.int .i64 (n % m), h) else none
  | _, _ => none

theorem tmod_emod (n m : Int) (hm : 0 < m) : (if n.tmod m < 0 then n.tmod m + m else n.tmod m) = n % m := by
  rw [Int.tmod_eq_emod]
  have h1 := Int.emod_nonneg n (show m ≠ 0 by omega)
  have h2 := Int.emod_lt_of_pos n hm
  have h3 : (m.natAbs : Int) = m := by omega
  split <;> split <;> omega

theorem Pick_ok (cf : ACall) : Sum cf c19 s_Pick := by
  intro args h v h' hf hsc hlt hs
  unfold s_Pick at hs
  split at hs
  · rename_i n m
    split at hs
    · rename_i hm
      simp only [Option.some.injEq, Prod.mk.injEq] at hs
      obtain ⟨rfl, rfl⟩ := hs
      have hm0 : ¬ m = 0 := by omega
      have h1 := tmod_emod n m hm.1
      have h2 := Int.emod_nonneg n hm0
      have h3 := Int.emod_lt_of_pos n hm.1
      refine ⟨1, ?_⟩
      have hres : bodyA cf 1 c19 [.int .i64 n, .int .i64 m] h = some (.int .i64 (n % m), h) := by
        by_cases hq : n.tmod m < 0
        · have hd : decide (n.tmod m < 0) = true := by simpa using hq
          rw [if_pos hq] at h1
          simp (config := {maxSteps := 1000000, maxDischargeDepth := 9, implicitDefEqProofs := false}) [c19, hm0, hd]
          simp only [cond_true, h1, Option.some.injEq, Prod.mk.injEq, and_true, V.int.injEq, true_and]
          exact wrap_i64 (by omega) (by omega)
        · have hd : decide (n.tmod m < 0) = false := by simpa using hq
          rw [if_neg hq] at h1
          simp (config := {maxSteps := 1000000, maxDischargeDepth := 9, implicitDefEqProofs := false}) [c19, hm0, hd]
          simp only [cond_false, h1]
      exact ⟨_, _, hres, Canon.same hf hsc (fun _ _ hb => hb) (by simp only [V.lt])⟩
    · cases hs
  · cases hs

/-- portholelaw19.same. -/
def s_same : List V → Heap → Option (V × Heap)
  | [v, w], h => match slK .i32 h v, slK .i32 h w with
    | some a, some b => if a.length ≤ lim then some (.bool (decide (a = b)), h) else none
    | _, _ => none
  | _, _ => none
theorem same_ok (cf : ACall) : Sum cf c15 s_same := by
  intro args h v h' hf hsc hlt hs
  unfold s_same at hs
  split at hs
  · rename_i va vb
    split at hs
    · rename_i a b ha hb
      split at hs
      · rename_i hl
        have hlim : lim = 140737488354304 := rfl
        simp only [Option.some.injEq, Prod.mk.injEq] at hs
        obtain ⟨rfl, rfl⟩ := hs
        have h1 := slK_isSl ha
        have h2 := slK_vlen ha
        have h3 := slK_isSl hb
        have h4 := slK_vlen hb
        by_cases hab : a.length = b.length
        · have L := loop_count (cf := cf) (N := a.length + 1) (c := c15_l0) a.length
            (fun i e H => e.n = 26 ∧ e.at 0 = va ∧ e.at 1 = vb ∧ e.at 5 = .int .i64 (i : Int) ∧ a.take i = b.take i ∧ H = h)
            (fun x e H => e.n = 26 ∧ (x = .ret ∧ e.at 4 = .bool false ∧ ¬ a = b ∨ x = .exit 0 ∧ a = b) ∧ H = h)
            (by
              rintro i e H hi ⟨hn, h0, h1', h5, hall, rfl⟩
              have hib : i < b.length := by omega
              have la := rd_load (sl_rd (slK_sl ha)) (j := i) (x := .int .i32 a[i]) (by simp [hi])
              have lb := rd_load (sl_rd (slK_sl hb)) (j := i) (x := .int .i32 b[i]) (by simp [hib])
              by_cases hq : a[i] = b[i]
              · have hnext : a.take (i + 1) = b.take (i + 1) := by
                  rw [List.take_succ_eq_append_getElem hi, List.take_succ_eq_append_getElem hib, hall, hq]
                simp (config := {maxSteps := 1000000, maxDischargeDepth := 9, implicitDefEqProofs := false}) [c15_l0, hn, h0, h1', h5, h1, h2, h3, h4, ha, hb, hi, hib, hq, la, lb, wrap_i64 (x := (i : Int) + 1) (by omega) (by omega)]
                exact hnext
              · have hbad : ¬ a = b := by
                  rintro rfl
                  exact hq rfl
                simp (config := {maxSteps := 1000000, maxDischargeDepth := 9, implicitDefEqProofs := false}) [c15_l0, hn, h0, h1', h5, h1, h2, h3, h4, ha, hb, hi, hib, hq, la, lb, show (a[i] == b[i]) = false from by simpa using hq]
                exact hbad)
            (by
              rintro e H ⟨hn, h0, h1', h5, hall, rfl⟩
              rw [List.take_length, hab, List.take_length] at hall
              simp (config := {maxSteps := 1000000, maxDischargeDepth := 9, implicitDefEqProofs := false}) [c15_l0, hn, h0, h5, h1, h2]
              exact hall)
          refine ⟨a.length + 1, ?_⟩
          simp (config := {maxSteps := 1000000, maxDischargeDepth := 9, implicitDefEqProofs := false}) [c15, h1, h2, h3, h4, hab]
          rw [hab] at L
          refine loop_then (K := fun r => finS _ (seqS _ _ _ (blockS _ r))) (L 0 _ _ (Nat.zero_le _) ?_ (Nat.lt_succ_self _)) ?_
          · simp (config := {maxSteps := 1000000, maxDischargeDepth := 9, implicitDefEqProofs := false})
          · rintro x e' H ⟨hn, hx, rfl⟩
            rcases hx with ⟨rfl, h4', hbad⟩ | ⟨rfl, he⟩
            · have hd : decide (a = b) = false := by simp [hbad]
              rw [hd]
              simp (config := {maxSteps := 1000000, maxDischargeDepth := 9, implicitDefEqProofs := false}) [hn, h4']
              exact Canon.keep hf hsc (Ext.refl _) (by simp only [V.lt])
            · have hd : decide (a = b) = true := by simp [he]
              rw [hd]
              simp (config := {maxSteps := 1000000, maxDischargeDepth := 9, implicitDefEqProofs := false}) [hn]
              exact Canon.keep hf hsc (Ext.refl _) (by simp only [V.lt])
        · have hne : ¬ a = b := fun hh => hab (by rw [hh])
          have hd : decide (a = b) = false := by simp [hne]
          rw [hd]
          have hab2 : ((a.length : Int) == (b.length : Int)) = false := by
            have : ¬ (a.length : Int) = (b.length : Int) := by omega
            simpa using this
          refine ⟨1, ?_⟩
          simp (config := {maxSteps := 1000000, maxDischargeDepth := 9, implicitDefEqProofs := false}) [c15, h1, h2, h3, h4, hab, hab2]
          exact Canon.keep hf hsc (Ext.refl _) (by simp only [V.lt])
      · cases hs
    · cases hs
  · cases hs

/-- utf.New. -/
def s_New : List V → Heap → Option (V × Heap)
  | [], h => some (.ptr h.next 0, h.new (.cells [.nilslice] 50 1 true))
  | _, _ => none
theorem New_ok (cf : ACall) : Sum cf c9 s_New := by
  intro args h v h' hf hsc hlt hs
  unfold s_New at hs
  split at hs
  · simp only [Option.some.injEq, Prod.mk.injEq] at hs
    obtain ⟨rfl, rfl⟩ := hs
    refine ⟨1, ?_⟩
    simp (config := {maxSteps := 1000000, maxDischargeDepth := 9, implicitDefEqProofs := false}) [c9]
    refine Canon.tail (H := h) hf hsc (Ext.refl h) (by simp only [ltL, V.lt, and_self]) ?_
    simp (config := {maxSteps := 1000000, maxDischargeDepth := 9, implicitDefEqProofs := false})
  · cases hs
/-- (*utf.Decoder).Held. -/
def s_Held : List V → Heap → Option (V × Heap)
  | [.ptr p 0], h => match h.get p with
    | some (.cells [v] _ 1 _) => if isSl v = true then some (.int .i64 (vlen v : Int), h) else none
    | _ => none
  | _, _ => none
theorem Held_ok (cf : ACall) : Sum cf c13 s_Held := by
  intro args h v h' hf hsc hlt hs
  unfold s_Held at hs
  split at hs
  · rename_i p
    split at hs
    · rename_i w t own hg
      split at hs
      · rename_i hsl
        simp only [Option.some.injEq, Prod.mk.injEq] at hs
        obtain ⟨rfl, rfl⟩ := hs
        refine ⟨1, ?_⟩
        simp (config := {maxSteps := 1000000, maxDischargeDepth := 9, implicitDefEqProofs := false}) [c13, hg, hsl]
        exact Canon.keep hf hsc (Ext.refl _) (by simp only [V.lt])
      · cases hs
    · cases hs
  · cases hs
/-- utf8.RuneStart. -/
def startB (y : Int) : Bool := !(wrapF .u8 (((y % 256).toNat &&& (192 : Nat) : Nat) : Int) == 128)
def s_Start : List V → Heap → Option (V × Heap)
  | [.int .u8 y], h => some (.bool (startB y), h)
  | _, _ => none
theorem Start_ok (cf : ACall) : Sum cf c24 s_Start := by
  intro args h v h' hf hsc hlt hs
  unfold s_Start at hs
  split at hs
  · rename_i y
    simp only [Option.some.injEq, Prod.mk.injEq] at hs
    obtain ⟨rfl, rfl⟩ := hs
    refine ⟨1, ?_⟩
    simp (config := {maxSteps := 1000000, maxDischargeDepth := 9, implicitDefEqProofs := false}) [c24, modK]
    exact Canon.keep (v := .bool (startB y)) hf hsc (Ext.refl _) (by simp only [V.lt])
  · cases hs

/-- utf.Runes. -/
def s_Runes : List V → Heap → Option (V × Heap)
  | [.str s], h => if s.length ≤ 17592186044416 then (if s.length = 0 then some (.nilslice, h) else some (newV h (runesL s).length, h.new (.cells ((runesL s).map (V.int .i32)) 21 1 true))) else none
  | _, _ => none
theorem ownK_keep {h H H' : Heap} {k : IntKind} {v : V} {l : List Int} {t : Nat} (ho : OwnK k h H t v l) (hn : H.next ≤ H'.next) (hg : ∀ q cs, H.get q = some (.cells cs t 1 true) → H'.get q = H.get q) : OwnK k h H' t v l := by
  rcases ho with hh | ⟨b, c, k1, k2, k3, k4, k5, k6⟩
  · exact .inl hh
  · exact .inr ⟨b, c, k1, k2, k3, by omega, k5, by rw [hg _ _ k6]; exact k6⟩
theorem ownK_some {h H : Heap} {k : IntKind} {v : V} {l : List Int} {t : Nat} (ho : OwnK k h H t v l) (hl : 0 < l.length) : v ≠ .nilslice := by
  rcases ho with ⟨_, hh, _⟩ | ⟨b, c, rfl, _⟩
  · omega
  · intro e; cases e
theorem Runes_loop (cf : ACall) (h : Heap) (hf : Fresh h) (s : List Nat) (hl : s.length ≤ 17592186044416) :
    ∀ e, e.n = 16 → e.at 3 = .nilslice → e.at 7 = .ptr h.next 0 →
    YtpegpafginbhmaaDoorA.Ends (execA cf ((runesL s).length + 1) (.loop c16_l0) e (h.new (.iter s 0))) fun x e' H => x = .exit 0 ∧ e'.n = 16 ∧ OwnK .i32 h H 21 (e'.at 3) (runesL s) ∧ Ext h H ∧ Fresh H ∧ (0 < s.length → e'.at 3 ≠ .nilslice) ∧ (s.length = 0 → e'.at 3 = .nilslice) := by
  intro e hn q3 q7
  have hle := runesL_le s
  refine loop_count (cf := cf) (N := (runesL s).length + 1) (c := c16_l0) (runesL s).length
    (fun i e H => e.n = 16 ∧ e.at 7 = .ptr h.next 0 ∧ ∃ pos out, H.get h.next = some (.iter s pos) ∧ out.length = i ∧ out ++ runesL (s.drop pos) = runesL s ∧ OwnK .i32 h H 21 (e.at 3) out ∧ Ext h H ∧ Fresh H ∧ (0 < i → e.at 3 ≠ .nilslice) ∧ (i = 0 → e.at 3 = .nilslice))
    (fun x e' H => x = .exit 0 ∧ e'.n = 16 ∧ OwnK .i32 h H 21 (e'.at 3) (runesL s) ∧ Ext h H ∧ Fresh H ∧ (0 < s.length → e'.at 3 ≠ .nilslice) ∧ (s.length = 0 → e'.at 3 = .nilslice)) ?_ ?_ 0 e _ (Nat.zero_le _) ?_ (Nat.lt_succ_self _)
  · rintro i e H hi ⟨hn, q7, pos, out, hg, ho, hcat, hown, hE, hF, hne, hz⟩
    have hpos : pos < s.length := by
      rcases Nat.lt_or_ge pos s.length with h1 | h1
      · exact h1
      · rw [List.drop_eq_nil_of_le h1, runesL_nil, List.append_nil] at hcat
        rw [hcat] at ho; omega
    have hr := runesL_drop hpos
    have hw := utfDec_pos (s.drop pos)
    have hnx := nextS_more hg hpos
    generalize hR : (utfDec (s.drop pos)).1 = R at *
    generalize hW : (utfDec (s.drop pos)).2 = W at *
    obtain ⟨A1, hA1⟩ : ∃ A, A = H.set h.next (some (.iter s (pos + W))) := ⟨_, rfl⟩
    have hp := hF.lt hg
    have f1 : Fresh A1 := by rw [hA1]; exact hF.set hp _
    have e1 : Ext h A1 := by rw [hA1]; exact hE.trans_set (Nat.le_refl _) _
    obtain ⟨A2, hA2⟩ : ∃ A, A = A1.new (.cells [.int .i32 (R : Int)] 21 1 true) := ⟨_, rfl⟩
    have n1 : A1.next = H.next := by rw [hA1]; rfl
    have f2 : Fresh A2 := by rw [hA2]; exact f1.new _
    have e2 : Ext h A2 := by rw [hA2]; exact e1.trans_new _
    have g1 : A1.get h.next = some (.iter s (pos + W)) := by rw [hA1, Heap.get_set, if_pos rfl]
    have g2 : A2.get h.next = some (.iter s (pos + W)) := by rw [hA2]; exact (Ext.new A1 _).get f1 g1
    have hown1 : OwnK .i32 h A1 21 (e.at 3) out := ownK_keep hown (by omega) fun q cs hq => by
      rw [hA1, Heap.get_set, if_neg]
      rintro rfl
      rw [hg] at hq; cases hq
    have hown2 : OwnK .i32 h A2 21 (e.at 3) out := ownK_keep hown1 (by rw [hA2]; exact Nat.le_succ _) fun q cs hq => by rw [hA2, (Ext.new A1 _).get f1 hq, hq]
    have hol : out.length + 1 ≤ (runesL s).length := by omega
    have hadd : added A2 1 (.slice A1.next 0 1 (some 1)) = some ([V.int .i32 (R : Int)], 1) := by
      have : sl A2 1 (.slice A1.next 0 1 (some 1)) = some [V.int .i32 (R : Int)] := by rw [hA2]; exact sl_selfE rfl rfl (.inr rfl)
      exact rd_added (sl_rd this)
    obtain ⟨v2, A3, k1, k2, k3, k4, k5, k6, k7⟩ := OwnK.app (l := [(R : Int)]) (bytes := 4) e2 f2 hown2 hadd (by
      have : most = 140737488355328 := rfl
      rw [this, List.length_singleton]; omega) (by
      have : most = 140737488355328 := rfl
      rw [this, List.length_singleton]; omega)
    generalize q3 : e.at 3 = v at *
    simp (config := {maxSteps := 1000000, maxDischargeDepth := 9, implicitDefEqProofs := false}) [c16_l0, hn, q7, hnx, q3, ← hA1, ← hA2, k1]
    have hne2 := ownK_some k2 (by rw [List.length_append, List.length_singleton]; omega)
    have g3 : A3.get h.next = some (.iter s (pos + W)) := by
      rw [k7 h.next (f2.lt g2) fun o c hv => ?_]
      · exact g2
      · rcases hown2 with ⟨h0, _⟩ | ⟨b, c', k1', _, _, _, _, k6'⟩
        · rw [h0] at hv; cases hv
        · rw [k1'] at hv
          injection hv with e1
          subst e1
          rw [g2] at k6'; cases k6'
    refine ⟨pos + W, g3, out ++ [(R : Int)], by rw [List.length_append, List.length_singleton, ho], ?_, k2, k3, k4, hne2⟩
    rw [List.append_assoc, ← hcat, hr]; rfl
  · rintro e H ⟨hn, q7, pos, out, hg, ho, hcat, hown, hE, hF, hne, hz⟩
    have hpos : ¬ pos < s.length := by
      intro h1
      have hr := runesL_drop h1
      have := congrArg List.length hcat
      rw [List.length_append, hr, List.length_cons] at this; omega
    rw [List.drop_eq_nil_of_le (by omega), runesL_nil, List.append_nil] at hcat
    subst hcat
    have hnx := nextS_end hg hpos
    generalize q3 : e.at 3 = v at *
    simp (config := {maxSteps := 1000000, maxDischargeDepth := 9, implicitDefEqProofs := false}) [c16_l0, hn, q7, hnx, q3]
    refine ⟨hown, hE, hF, fun h0 => hne ?_, fun h0 => hz ?_⟩
    · rw [runesL_cons h0]; simp
    · subst h0; rfl
  · refine ⟨hn, q7, 0, [], by rw [Heap.get_new]; exact if_pos rfl, rfl, by rw [List.drop_zero]; rfl, ?_, Ext.new h _, hf.new _, fun h0 => absurd h0 (by omega), fun _ => q3⟩
    rw [q3]; exact .inl ⟨rfl, rfl, rfl⟩
theorem Runes_ok (cf : ACall) : Sum cf c16 s_Runes := by
  intro args h v h' hf hsc hlt hs
  unfold s_Runes at hs
  split at hs
  · rename_i s
    split at hs
    · rename_i hl
      refine ⟨(runesL s).length + 1, ?_⟩
      simp (config := {maxSteps := 1000000, maxDischargeDepth := 9, implicitDefEqProofs := false}) [c16]
      refine loop_then (K := fun r => finS _ (seqS _ _ _ (blockS _ r))) (Runes_loop cf h hf s hl _ ?_ ?_ ?_) ?_
      iterate 3 simp (config := {maxSteps := 1000000, maxDischargeDepth := 9, implicitDefEqProofs := false})
      rintro x e' H ⟨rfl, hn, hown, hE, hF, h1, h2⟩
      generalize q3 : e'.at 3 = w at *
      split at hs
      · rename_i h0
        simp only [Option.some.injEq, Prod.mk.injEq] at hs
        obtain ⟨rfl, rfl⟩ := hs
        have := h2 h0
        subst this
        simp (config := {maxSteps := 1000000, maxDischargeDepth := 9, implicitDefEqProofs := false}) [hn, q3]
        exact Canon.keep hf hsc hE (by simp only [V.lt])
      · rename_i h0
        simp only [Option.some.injEq, Prod.mk.injEq] at hs
        obtain ⟨rfl, rfl⟩ := hs
        simp (config := {maxSteps := 1000000, maxDischargeDepth := 9, implicitDefEqProofs := false}) [hn, q3]
        exact hown.canon hf hsc hE (h1 (by omega))
    · cases hs
  · cases hs

/-! portholeref19.Runes: the same. -/
theorem RunesR_loop (cf : ACall) (h : Heap) (hf : Fresh h) (s : List Nat) (hl : s.length ≤ 17592186044416) :
    ∀ e, e.n = 16 → e.at 3 = .nilslice → e.at 7 = .ptr h.next 0 →
    YtpegpafginbhmaaDoorA.Ends (execA cf ((runesL s).length + 1) (.loop c17_l0) e (h.new (.iter s 0))) fun x e' H => x = .exit 0 ∧ e'.n = 16 ∧ OwnK .i32 h H 21 (e'.at 3) (runesL s) ∧ Ext h H ∧ Fresh H ∧ (0 < s.length → e'.at 3 ≠ .nilslice) ∧ (s.length = 0 → e'.at 3 = .nilslice) := by
  intro e hn q3 q7
  have hle := runesL_le s
  refine loop_count (cf := cf) (N := (runesL s).length + 1) (c := c17_l0) (runesL s).length
    (fun i e H => e.n = 16 ∧ e.at 7 = .ptr h.next 0 ∧ ∃ pos out, H.get h.next = some (.iter s pos) ∧ out.length = i ∧ out ++ runesL (s.drop pos) = runesL s ∧ OwnK .i32 h H 21 (e.at 3) out ∧ Ext h H ∧ Fresh H ∧ (0 < i → e.at 3 ≠ .nilslice) ∧ (i = 0 → e.at 3 = .nilslice))
    (fun x e' H => x = .exit 0 ∧ e'.n = 16 ∧ OwnK .i32 h H 21 (e'.at 3) (runesL s) ∧ Ext h H ∧ Fresh H ∧ (0 < s.length → e'.at 3 ≠ .nilslice) ∧ (s.length = 0 → e'.at 3 = .nilslice)) ?_ ?_ 0 e _ (Nat.zero_le _) ?_ (Nat.lt_succ_self _)
  · rintro i e H hi ⟨hn, q7, pos, out, hg, ho, hcat, hown, hE, hF, hne, hz⟩
    have hpos : pos < s.length := by
      rcases Nat.lt_or_ge pos s.length with h1 | h1
      · exact h1
      · rw [List.drop_eq_nil_of_le h1, runesL_nil, List.append_nil] at hcat
        rw [hcat] at ho; omega
    have hr := runesL_drop hpos
    have hw := utfDec_pos (s.drop pos)
    have hnx := nextS_more hg hpos
    generalize hR : (utfDec (s.drop pos)).1 = R at *
    generalize hW : (utfDec (s.drop pos)).2 = W at *
    obtain ⟨A1, hA1⟩ : ∃ A, A = H.set h.next (some (.iter s (pos + W))) := ⟨_, rfl⟩
    have hp := hF.lt hg
    have f1 : Fresh A1 := by rw [hA1]; exact hF.set hp _
    have e1 : Ext h A1 := by rw [hA1]; exact hE.trans_set (Nat.le_refl _) _
    obtain ⟨A2, hA2⟩ : ∃ A, A = A1.new (.cells [.int .i32 (R : Int)] 21 1 true) := ⟨_, rfl⟩
    have n1 : A1.next = H.next := by rw [hA1]; rfl
    have f2 : Fresh A2 := by rw [hA2]; exact f1.new _
    have e2 : Ext h A2 := by rw [hA2]; exact e1.trans_new _
    have g1 : A1.get h.next = some (.iter s (pos + W)) := by rw [hA1, Heap.get_set, if_pos rfl]
    have g2 : A2.get h.next = some (.iter s (pos + W)) := by rw [hA2]; exact (Ext.new A1 _).get f1 g1
    have hown1 : OwnK .i32 h A1 21 (e.at 3) out := ownK_keep hown (by omega) fun q cs hq => by
      rw [hA1, Heap.get_set, if_neg]
      rintro rfl
      rw [hg] at hq; cases hq
    have hown2 : OwnK .i32 h A2 21 (e.at 3) out := ownK_keep hown1 (by rw [hA2]; exact Nat.le_succ _) fun q cs hq => by rw [hA2, (Ext.new A1 _).get f1 hq, hq]
    have hol : out.length + 1 ≤ (runesL s).length := by omega
    have hadd : added A2 1 (.slice A1.next 0 1 (some 1)) = some ([V.int .i32 (R : Int)], 1) := by
      have : sl A2 1 (.slice A1.next 0 1 (some 1)) = some [V.int .i32 (R : Int)] := by rw [hA2]; exact sl_selfE rfl rfl (.inr rfl)
      exact rd_added (sl_rd this)
    obtain ⟨v2, A3, k1, k2, k3, k4, k5, k6, k7⟩ := OwnK.app (l := [(R : Int)]) (bytes := 4) e2 f2 hown2 hadd (by
      have : most = 140737488355328 := rfl
      rw [this, List.length_singleton]; omega) (by
      have : most = 140737488355328 := rfl
      rw [this, List.length_singleton]; omega)
    generalize q3 : e.at 3 = v at *
    simp (config := {maxSteps := 1000000, maxDischargeDepth := 9, implicitDefEqProofs := false}) [c17_l0, hn, q7, hnx, q3, ← hA1, ← hA2, k1]
    have hne2 := ownK_some k2 (by rw [List.length_append, List.length_singleton]; omega)
    have g3 : A3.get h.next = some (.iter s (pos + W)) := by
      rw [k7 h.next (f2.lt g2) fun o c hv => ?_]
      · exact g2
      · rcases hown2 with ⟨h0, _⟩ | ⟨b, c', k1', _, _, _, _, k6'⟩
        · rw [h0] at hv; cases hv
        · rw [k1'] at hv
          injection hv with e1
          subst e1
          rw [g2] at k6'; cases k6'
    refine ⟨pos + W, g3, out ++ [(R : Int)], by rw [List.length_append, List.length_singleton, ho], ?_, k2, k3, k4, hne2⟩
    rw [List.append_assoc, ← hcat, hr]; rfl
  · rintro e H ⟨hn, q7, pos, out, hg, ho, hcat, hown, hE, hF, hne, hz⟩
    have hpos : ¬ pos < s.length := by
      intro h1
      have hr := runesL_drop h1
      have := congrArg List.length hcat
      rw [List.length_append, hr, List.length_cons] at this; omega
    rw [List.drop_eq_nil_of_le (by omega), runesL_nil, List.append_nil] at hcat
    subst hcat
    have hnx := nextS_end hg hpos
    generalize q3 : e.at 3 = v at *
    simp (config := {maxSteps := 1000000, maxDischargeDepth := 9, implicitDefEqProofs := false}) [c17_l0, hn, q7, hnx, q3]
    refine ⟨hown, hE, hF, fun h0 => hne ?_, fun h0 => hz ?_⟩
    · rw [runesL_cons h0]; simp
    · subst h0; rfl
  · refine ⟨hn, q7, 0, [], by rw [Heap.get_new]; exact if_pos rfl, rfl, by rw [List.drop_zero]; rfl, ?_, Ext.new h _, hf.new _, fun h0 => absurd h0 (by omega), fun _ => q3⟩
    rw [q3]; exact .inl ⟨rfl, rfl, rfl⟩
theorem RunesR_ok (cf : ACall) : Sum cf c17 s_Runes := by
  intro args h v h' hf hsc hlt hs
  unfold s_Runes at hs
  split at hs
  · rename_i s
    split at hs
    · rename_i hl
      refine ⟨(runesL s).length + 1, ?_⟩
      simp (config := {maxSteps := 1000000, maxDischargeDepth := 9, implicitDefEqProofs := false}) [c17]
      refine loop_then (K := fun r => finS _ (seqS _ _ _ (blockS _ r))) (RunesR_loop cf h hf s hl _ ?_ ?_ ?_) ?_
      iterate 3 simp (config := {maxSteps := 1000000, maxDischargeDepth := 9, implicitDefEqProofs := false})
      rintro x e' H ⟨rfl, hn, hown, hE, hF, h1, h2⟩
      generalize q3 : e'.at 3 = w at *
      split at hs
      · rename_i h0
        simp only [Option.some.injEq, Prod.mk.injEq] at hs
        obtain ⟨rfl, rfl⟩ := hs
        have := h2 h0
        subst this
        simp (config := {maxSteps := 1000000, maxDischargeDepth := 9, implicitDefEqProofs := false}) [hn, q3]
        exact Canon.keep hf hsc hE (by simp only [V.lt])
      · rename_i h0
        simp only [Option.some.injEq, Prod.mk.injEq] at hs
        obtain ⟨rfl, rfl⟩ := hs
        simp (config := {maxSteps := 1000000, maxDischargeDepth := 9, implicitDefEqProofs := false}) [hn, q3]
        exact hown.canon hf hsc hE (h1 (by omega))
    · cases hs
  · cases hs

/-- The tables, and that they stand in memory. -/
def laidOf (g : Nat) : List V := ((laidVals.find? fun x => x.1 == g).map fun x => x.2).getD []
def firstV : List V := laidOf 0
def accV : List V := laidOf 1
def natV : V → Nat | .int _ n => n.toNat | _ => 0
def firstN : List Nat := firstV.map natV
def accN : List Nat := accV.map natV
theorem firstV_eq : firstV = firstN.map fun n : Nat => V.int .u8 (n : Int) := by kernel_rfl
theorem accV_eq : accV = accN.map fun n : Nat => V.int .u8 (n : Int) := by kernel_rfl
theorem firstN_length : firstN.length = 256 := by kernel_rfl
theorem accN_length : accN.length = 32 := by kernel_rfl
theorem laid_first : (0, firstV) ∈ laidVals := List.mem_of_find?_eq_some (p := fun x => x.1 == 0) (by kernel_rfl)
theorem laid_acc : (1, accV) ∈ laidVals := List.mem_of_find?_eq_some (p := fun x => x.1 == 1) (by kernel_rfl)
/-- What the table's entries are. -/
theorem firstN_all : (List.range 256).all (fun c => decide (firstN.getD c 0 < 256 ∧ (firstN.getD c 0 % 8 ≤ 1 ∨ firstN.getD c 0 / 16 ≤ 4))) = true := by kernel_rfl
theorem firstN_fact {c : Nat} (hc : c < 256) : firstN.getD c 0 < 256 ∧ (firstN.getD c 0 % 8 ≤ 1 ∨ firstN.getD c 0 / 16 ≤ 4) := of_decide_eq_true (List.all_eq_true.1 firstN_all c (List.mem_range.2 hc))
theorem accN_all : (List.range 32).all (fun c => decide (accN.getD c 0 < 256)) = true := by kernel_rfl
theorem accN_lt {c : Nat} (hc : c < 32) : accN.getD c 0 < 256 := of_decide_eq_true (List.all_eq_true.1 accN_all c (List.mem_range.2 hc))
/-- Are these few bytes a whole rune, or none that may become one? -/
def fullB (s : List Nat) : Bool :=
  if s.length = 0 then false
  else if firstN.getD (s.getD 0 0) 0 % 8 ≤ s.length then true
  else if 1 < s.length ∧ (s.getD 1 0 < accN.getD (2 * (firstN.getD (s.getD 0 0) 0 / 16)) 0 ∨ accN.getD (2 * (firstN.getD (s.getD 0 0) 0 / 16) + 1) 0 < s.getD 1 0) then true
  else if 2 < s.length ∧ (s.getD 2 0 < 128 ∨ 191 < s.getD 2 0) then true
  else false
open Classical in
/-- utf8.FullRune. -/
noncomputable def s_Full : List V → Heap → Option (V × Heap)
  | [v], h => match slB h v with
    | some s => if hasLaid laidVals h then some (.bool (fullB s), h) else none
    | none => none
  | _, _ => none
theorem laid_cell {h : Heap} {g c : Nat} {vs : List V} {ns : List Nat} (hl : hasLaid laidVals h) (hm : (g, vs) ∈ laidVals) (he : vs = ns.map fun n : Nat => V.int .u8 (n : Int)) (hc : c < ns.length) : ∃ t, h.get g = some (.cells vs t 1 false) ∧ vs[c]? = some (.int .u8 (ns.getD c 0 : Nat)) := by
  obtain ⟨t, ht⟩ := hl _ hm
  refine ⟨t, ht, ?_⟩
  rw [he, List.getElem?_map, List.getD_eq_getElem?_getD, List.getElem?_eq_getElem hc]; rfl
theorem load_first {h : Heap} (hl : hasLaid laidVals h) {c : Nat} (hc : c < 256) : loadS (.ptr 0 c) h = some (.int .u8 (firstN.getD c 0 : Nat), h) := by
  obtain ⟨t, h1, h2⟩ := laid_cell hl laid_first firstV_eq (c := c) (by rw [firstN_length]; exact hc)
  rw [loadS_ptr, h1, loadB_cells]
  have : nth firstV c = firstV[c]? := nth_eq _ _
  rw [this, h2, loadC_some]
theorem read_acc {h : Heap} (hl : hasLaid laidVals h) {a : Nat} (ha : a < 16) : readB (h.get 1) (a * 2) 2 = some [.int .u8 (accN.getD (2 * a) 0 : Nat), .int .u8 (accN.getD (2 * a + 1) 0 : Nat)] := by
  obtain ⟨t, h1, h2⟩ := laid_cell hl laid_acc accV_eq (c := 2 * a) (by rw [accN_length]; omega)
  obtain ⟨_, _, h3⟩ := laid_cell hl laid_acc accV_eq (c := 2 * a + 1) (by rw [accN_length]; omega)
  have hlen : accV.length = 32 := by rw [accV_eq, List.length_map, accN_length]
  rw [h1, readB_cells, if_pos (by omega), Nat.mul_comm a 2]
  congr 1
  obtain ⟨k1, k2⟩ := List.getElem?_eq_some_iff.1 h2
  obtain ⟨k3, k4⟩ := List.getElem?_eq_some_iff.1 h3
  rw [List.drop_eq_getElem_cons k1, List.drop_eq_getElem_cons k3]
  simp only [List.take_succ_cons, List.take_zero, k2, k4]
theorem Full_ok (cf : ACall) : Sum cf c25 s_Full := by
  intro args h v h' hf hsc hlt hs
  unfold s_Full at hs
  split at hs
  · rename_i vb
    split at hs
    · rename_i s hb
      split at hs
      · rename_i hL
        simp only [Option.some.injEq, Prod.mk.injEq] at hs
        obtain ⟨rfl, rfl⟩ := hs
        have hsl := slB_isSl hb
        have hvl := slB_vlen hb
        have hlt := slB_lt hb
        refine ⟨1, ?_⟩
        by_cases h0 : s.length = 0
        · have : s = [] := List.length_eq_zero_iff.1 h0
          subst this
          simp (config := {maxSteps := 1000000, maxDischargeDepth := 9, implicitDefEqProofs := false}) [c25, lenE hsl, hvl, fullB]
          exact Canon.keep hf hsc (Ext.refl _) (by simp only [V.lt])
        · have h0' : ((s.length : Int) == 0) = false := beq_eq_false_iff_ne.2 (by omega)
          have hc := hlt (s.getD 0 0) (by rw [List.getD_eq_getElem?_getD, List.getElem?_eq_getElem (by omega)]; simp)
          have l0 := rd_load (sl_rd (slB_sl hb).1) (j := 0) (x := .int .u8 (s.getD 0 0 : Nat)) (by rw [bytesOf, List.getElem?_map, List.getD_eq_getElem?_getD, List.getElem?_eq_getElem (by omega)]; rfl)
          have i0 := indexE (z := 1) hsl h (k := .i64) (i := (0 : Int)) (by omega) (by rw [hvl]; omega)
          simp only [Int.toNat_zero, Nat.zero_mul] at i0
          generalize hC : s.getD 0 0 = c at *
          have lf := load_first hL hc
          have hx := firstN_fact hc
          have hcI : (c : Int) < 256 := by omega
          generalize hX : firstN.getD c 0 = x at *
          obtain ⟨y, hy⟩ : ∃ y, y = x % 8 := ⟨_, rfl⟩
          obtain ⟨a, ha⟩ : ∃ a, a = x / 16 := ⟨_, rfl⟩
          have hyI : (x : Int) % 8 = (y : Int) := by omega
          have haI : (x : Int) / 16 = (a : Int) := by omega
          have hand : wrapF .u8 ((((x : Int) % 256).toNat &&& 7 : Nat) : Int) = (y : Int) := by
            have h1 : ((x : Int) % 256).toNat = x := by omega
            have h2 : x &&& 7 = x % 8 := Nat.and_two_pow_sub_one_eq_mod x 3
            rw [h1, h2, ← hy]; exact wrap_u8 (by omega) (by omega)
          have hw8 : wrapF .i64 (y : Int) = (y : Int) := wrap_i64 (by omega) (by omega)
          by_cases h1 : y ≤ s.length
          · have h1I : (y : Int) ≤ (s.length : Int) := by omega
            have hfull : fullB s = true := by
              unfold fullB
              rw [if_neg h0, hC, hX, ← hy, if_pos h1]
            rw [hfull]
            simp (config := {maxSteps := 1000000, maxDischargeDepth := 9, implicitDefEqProofs := false}) [c25, lenE hsl, hvl, h0', i0, l0, lf, hc, hcI, modK, hand, hw8, h1I, h1]
            exact Canon.keep hf hsc (Ext.refl _) (by simp only [V.lt])
          have h1I : ¬ (y : Int) ≤ (s.length : Int) := by omega
          have ha4 : a ≤ 4 := by omega
          have ha16 : (a : Int) < 16 := by omega
          have rdacc : readB (h.get 1) (a * 2) 2 = some [.int .u8 (accN.getD (2 * a) 0 : Nat), .int .u8 (accN.getD (2 * a + 1) 0 : Nat)] := read_acc hL (by omega)
          have hlo := accN_lt (c := 2 * a) (by omega)
          have hhi := accN_lt (c := 2 * a + 1) (by omega)
          generalize hLO : accN.getD (2 * a) 0 = lo at *
          generalize hHI : accN.getD (2 * a + 1) 0 = hi at *
          have hfull : fullB s = (if 1 < s.length ∧ (s.getD 1 0 < lo ∨ hi < s.getD 1 0) then true else if 2 < s.length ∧ (s.getD 2 0 < 128 ∨ 191 < s.getD 2 0) then true else false) := by
            unfold fullB
            rw [if_neg h0, hC, hX, ← hy, if_neg h1, ← ha, hLO, hHI]
          by_cases g1 : 1 < s.length
          · have g1I : (1 : Int) < (s.length : Int) := by omega
            have l1 : ∀ K, Ext h K → loadS (atP vb 1) K = some (.int .u8 (s.getD 1 0 : Nat), K) := fun K hK => rd_load (sl_rd (slB_sl (slB_ext hK hf hb)).1) (j := 1) (by rw [bytesOf, List.getElem?_map, List.getD_eq_getElem?_getD, List.getElem?_eq_getElem (by omega)]; rfl)
            have l2 : 2 < s.length → ∀ K, Ext h K → loadS (atP vb 2) K = some (.int .u8 (s.getD 2 0 : Nat), K) := fun g2 K hK => rd_load (sl_rd (slB_sl (slB_ext hK hf hb)).1) (j := 2) (by rw [bytesOf, List.getElem?_map, List.getD_eq_getElem?_getD, List.getElem?_eq_getElem (by omega)]; rfl)
            obtain ⟨K, hK⟩ : ∃ K, K = h.new (.cells [.int .u8 (lo : Int), .int .u8 (hi : Int)] 55 1 true) := ⟨_, rfl⟩
            have eK : Ext h K := by rw [hK]; exact Ext.new h _
            have i1 := indexE (z := 1) hsl K (k := .i64) (i := (1 : Int)) (by omega) (by rw [hvl]; omega)
            simp only [Int.toNat_one, Nat.mul_one] at i1
            replace l1 := l1 K eK
            replace l2 := fun g => l2 g K eK
            generalize hU : s.getD 1 0 = u at *
            generalize hW : s.getD 2 0 = v at *
            have kget : K.get h.next = some (.cells [.int .u8 (lo : Int), .int .u8 (hi : Int)] 55 1 true) := by rw [hK, Heap.get_new]; exact if_pos rfl
            by_cases j1 : u < lo
            · have j1I : (u : Int) < (lo : Int) := by omega
              rw [show fullB s = true from by rw [hfull]; exact if_pos ⟨g1, .inl j1⟩]
              simp (config := {maxSteps := 1000000, maxDischargeDepth := 9, implicitDefEqProofs := false}) [c25, lenE hsl, hvl, h0', i0, l0, lf, hc, hcI, modK, hand, hw8, h1I, h1, haI, ha16, rdacc, ← hK, g1, g1I, i1, l1, kget, j1I, j1]
              exact Canon.keep hf hsc eK (by simp only [V.lt])
            have j1I : ¬ (u : Int) < (lo : Int) := by omega
            by_cases j2 : hi < u
            · have j2I : (hi : Int) < (u : Int) := by omega
              rw [show fullB s = true from by rw [hfull]; exact if_pos ⟨g1, .inr j2⟩]
              simp (config := {maxSteps := 1000000, maxDischargeDepth := 9, implicitDefEqProofs := false}) [c25, lenE hsl, hvl, h0', i0, l0, lf, hc, hcI, modK, hand, hw8, h1I, h1, haI, ha16, rdacc, ← hK, g1, g1I, i1, l1, kget, j1I, j1, j2, j2I]
              exact Canon.keep hf hsc eK (by simp only [V.lt])
            have j2I : ¬ (hi : Int) < (u : Int) := by omega
            have hfull2 : fullB s = (if 2 < s.length ∧ (v < 128 ∨ 191 < v) then true else false) := by rw [hfull]; exact if_neg (fun h => h.2.elim j1 j2)
            by_cases g2 : 2 < s.length
            · have g2I : (2 : Int) < (s.length : Int) := by omega
              have i2 := indexE (z := 1) hsl K (k := .i64) (i := (2 : Int)) (by omega) (by rw [hvl]; omega)
              simp only [Nat.mul_one, show (2 : Int).toNat = 2 from rfl] at i2
              have l2' := l2 g2
              by_cases j3 : v < 128
              · have j3I : (v : Int) < 128 := by omega
                rw [show fullB s = true from by rw [hfull]; rw [← hfull, hfull2]; exact if_pos ⟨g2, .inl j3⟩]
                simp (config := {maxSteps := 1000000, maxDischargeDepth := 9, implicitDefEqProofs := false}) [c25, lenE hsl, hvl, h0', i0, l0, lf, hc, hcI, modK, hand, hw8, h1I, h1, haI, ha16, rdacc, ← hK, g1, g1I, i1, l1, kget, j1, j1I, j2, j2I, g2, g2I, i2, l2', j3, j3I]
                exact Canon.keep hf hsc eK (by simp only [V.lt])
              have j3I : ¬ (v : Int) < 128 := by omega
              by_cases j4 : 191 < v
              · have j4I : 191 < (v : Int) := by omega
                rw [show fullB s = true from by rw [hfull]; rw [← hfull, hfull2]; exact if_pos ⟨g2, .inr j4⟩]
                simp (config := {maxSteps := 1000000, maxDischargeDepth := 9, implicitDefEqProofs := false}) [c25, lenE hsl, hvl, h0', i0, l0, lf, hc, hcI, modK, hand, hw8, h1I, h1, haI, ha16, rdacc, ← hK, g1, g1I, i1, l1, kget, j1, j1I, j2, j2I, g2, g2I, i2, l2', j3, j3I, j4, j4I]
                exact Canon.keep hf hsc eK (by simp only [V.lt])
              have j4I : ¬ 191 < (v : Int) := by omega
              rw [show fullB s = false from by rw [hfull]; rw [← hfull, hfull2]; exact if_neg (fun h => h.2.elim j3 j4)]
              simp (config := {maxSteps := 1000000, maxDischargeDepth := 9, implicitDefEqProofs := false}) [c25, lenE hsl, hvl, h0', i0, l0, lf, hc, hcI, modK, hand, hw8, h1I, h1, haI, ha16, rdacc, ← hK, g1, g1I, i1, l1, kget, j1, j1I, j2, j2I, g2, g2I, i2, l2', j3, j3I, j4, j4I]
              exact Canon.keep hf hsc eK (by simp only [V.lt])
            have g2I : ¬ (2 : Int) < (s.length : Int) := by omega
            rw [show fullB s = false from by rw [hfull]; rw [← hfull, hfull2]; exact if_neg (fun h => g2 h.1)]
            simp (config := {maxSteps := 1000000, maxDischargeDepth := 9, implicitDefEqProofs := false}) [c25, lenE hsl, hvl, h0', i0, l0, lf, hc, hcI, modK, hand, hw8, h1I, h1, haI, ha16, rdacc, ← hK, g1, g1I, i1, l1, kget, j1, j1I, j2, j2I, g2, g2I]
            exact Canon.keep hf hsc eK (by simp only [V.lt])
          · have g1I : ¬ (1 : Int) < (s.length : Int) := by omega
            have g2I : ¬ (2 : Int) < (s.length : Int) := by omega
            have g2 : ¬ 2 < s.length := by omega
            rw [show fullB s = false from by rw [hfull, if_neg (fun h => g1 h.1), if_neg (fun h => g2 h.1)]]
            simp (config := {maxSteps := 1000000, maxDischargeDepth := 9, implicitDefEqProofs := false}) [c25, lenE hsl, hvl, h0', i0, l0, lf, hc, hcI, modK, hand, hw8, h1I, h1, haI, ha16, rdacc, g1, g1I, g2, g2I]
            exact Canon.keep hf hsc (Ext.new _ _) (by simp only [V.lt])
      · cases hs
    · cases hs
  · cases hs

/-- May a rune that is not whole begin here? -/
def heldAt (s : List Nat) (k : Nat) : Bool := startB (s.getD k 0 : Nat) && !fullB (s.drop k)
def cutFrom (s : List Nat) : Nat → Nat → Nat
  | 0, _ => s.length
  | r + 1, k => if heldAt s k = true then k else cutFrom s r (k + 1)
/-- So many bytes are told at once. -/
def cutN (s : List Nat) : Nat := cutFrom s (min 3 s.length) (s.length - 3)
theorem cutFrom_spec (s : List Nat) : ∀ (r k : Nat), k + r = s.length → k ≤ cutFrom s r k ∧ cutFrom s r k ≤ s.length ∧ (∀ j, k ≤ j → j < cutFrom s r k → heldAt s j = false) ∧ (cutFrom s r k < s.length → heldAt s (cutFrom s r k) = true)
  | 0, k, h => ⟨by simp only [cutFrom]; omega, by simp only [cutFrom]; omega, fun j h1 h2 => by simp only [cutFrom] at h2; omega, fun h1 => by simp only [cutFrom] at h1; omega⟩
  | r + 1, k, h => by
    simp only [cutFrom]
    by_cases hk : heldAt s k = true
    · rw [if_pos hk]
      exact ⟨Nat.le_refl _, by omega, fun j h1 h2 => by omega, fun _ => hk⟩
    · rw [if_neg hk]
      obtain ⟨a, b, c, d⟩ := cutFrom_spec s r (k + 1) (by omega)
      refine ⟨by omega, b, fun j h1 h2 => ?_, d⟩
      by_cases hj : j = k
      · subst hj; simpa using hk
      · exact c j (by omega) h2
theorem cutN_spec (s : List Nat) : s.length - 3 ≤ cutN s ∧ cutN s ≤ s.length ∧ (∀ j, s.length - 3 ≤ j → j < cutN s → heldAt s j = false) ∧ (cutN s < s.length → heldAt s (cutN s) = true) :=
  cutFrom_spec s _ _ (by omega)
/-- The heap behind Feed: what is held, and what is told. -/
def feedH (h : Heap) (p t : Nat) (s : List Nat) : Heap := (h.set p (some (.cells [.slice h.next 0 (s.length - cutN s) none] t 1 true))).new (.cells (bytesOf (s.drop (cutN s))) 5 1 true)
open Classical in
/-- Feed. -/
noncomputable def s_Feed : List V → Heap → Option (V × Heap)
  | [.ptr p 0, vb], h => match h.get p with
    | some (.cells [vh] t 1 true) => match slB h vh, slB h vb with
      | some a, some b => if hasLaid laidVals h ∧ (a ++ b).length ≤ 17592186044416 then
          (if cutN (a ++ b) = 0 then some (.nilslice, feedH h p t (a ++ b))
          else some (.slice (h.next + 1) 0 (runesL ((a ++ b).take (cutN (a ++ b)))).length none, (feedH h p t (a ++ b)).new (.cells ((runesL ((a ++ b).take (cutN (a ++ b)))).map (V.int .i32)) 21 1 true))) else none
      | _, _ => none
    | _ => none
  | _, _ => none
theorem Feed_loop (cf : ACall) (hStart : ∀ a h, cf 24 a h = s_Start a h) (hFull : ∀ a h, cf 25 a h = s_Full a h) (H : Heap) (hL : hasLaid laidVals H) (s : List Nat) (hl : s.length ≤ 17592186044416) (v vp : V) (hv : slB H v = some s) :
    ∀ e, e.n = 51 → e.at 0 = vp → e.at 5 = v → e.at 6 = .int .i64 (s.length : Int) → e.at 7 = .int .i64 ((s.length - 3 : Nat) : Int) →
    YtpegpafginbhmaaDoorA.Ends (execA cf 6 (.loop c12_l0) e H) fun x e' H' => x = .exit 0 ∧ e'.n = 51 ∧ e'.at 0 = vp ∧ e'.at 5 = v ∧ e'.at 6 = .int .i64 (cutN s : Int) ∧ H' = H := by
  intro e hn q0 q5 q6 q7
  obtain ⟨c1, c2, c3, c4⟩ := cutN_spec s
  generalize cutN s = c at *
  have hsl := slB_isSl hv
  have hvl := slB_vlen hv
  have hlt := slB_lt hv
  obtain ⟨k0, hk0⟩ : ∃ k, k = s.length - 3 := ⟨_, rfl⟩
  rw [← hk0] at q7 c1 c3
  obtain ⟨M, hM⟩ : ∃ M, M = (if c < s.length then c - k0 + 1 else s.length - k0) := ⟨_, rfl⟩
  have hM4 : M ≤ 4 := by rw [hM]; split <;> omega
  refine loop_count (cf := cf) (N := 6) (c := c12_l0) M
    (fun i e H' => e.n = 51 ∧ e.at 0 = vp ∧ e.at 5 = v ∧ e.at 6 = .int .i64 ((if k0 + i ≤ c then s.length else c : Nat) : Int) ∧ e.at 7 = .int .i64 ((k0 + i : Nat) : Int) ∧ H' = H)
    (fun x e' H' => x = .exit 0 ∧ e'.n = 51 ∧ e'.at 0 = vp ∧ e'.at 5 = v ∧ e'.at 6 = .int .i64 (c : Int) ∧ H' = H) ?_ ?_ 0 e _ (Nat.zero_le _) ⟨hn, q0, q5, by rw [if_pos (by omega)]; exact q6, q7, rfl⟩ (by omega)
  · rintro i e H' hi ⟨hn, q0, q5, q6, q7, rfl⟩
    have hki : k0 + i ≤ c ∧ k0 + i < s.length := by rw [hM] at hi; split at hi <;> omega
    rw [if_pos hki.1] at q6
    obtain ⟨k, hk⟩ : ∃ k, k = k0 + i := ⟨_, rfl⟩
    rw [← hk] at q7 hki
    have hkI : (k : Int) < (s.length : Int) := by omega
    have wk : wrapF .i64 ((k : Int) + 1) = ((k + 1 : Nat) : Int) := by rw [wrap_i64 (by omega) (by omega)]; omega
    have i1 := indexE (z := 1) hsl H' (k := .i64) (i := (k : Int)) (by omega) (by rw [hvl]; omega)
    simp only [Int.toNat_natCast, Nat.mul_one] at i1
    have l1 : loadS (atP v k) H' = some (.int .u8 (s.getD k 0 : Nat), H') := rd_load (sl_rd (slB_sl hv).1) (j := k) (by rw [bytesOf, List.getElem?_map, List.getD_eq_getElem?_getD, List.getElem?_eq_getElem hki.2]; rfl)
    have cw : sliceV H' 1 v (some (.int .i64 (k : Int))) none none = some (cutV 1 v k s.length) := by
      have := slice_lo (k := .i64) (i := (k : Int)) (v := v) (h := H') (by rw [hv]; rfl) (by omega) (by omega)
      rw [this, Int.toNat_natCast, hvl]
    have sw : slB H' (cutV 1 v k s.length) = some (s.drop k) := by
      rw [(slB_cut' hv (l := k) (r := s.length) (by omega) (Nat.le_refl _)).1, List.take_length]
    have rF : s_Full [cutV 1 v k s.length] H' = some (.bool (fullB (s.drop k)), H') := by
      unfold s_Full
      simp only [sw]
      rw [if_pos hL]
    have rS : s_Start [.int .u8 (s.getD k 0 : Nat)] H' = some (.bool (startB (s.getD k 0 : Nat)), H') := rfl
    have hh : heldAt s k = (startB (s.getD k 0 : Nat) && !fullB (s.drop k)) := rfl
    generalize s.getD k 0 = y at *
    generalize cutV 1 v k s.length = w at *
    generalize fullB (s.drop k) = fb at *
    generalize hsb : startB (y : Nat) = sb at *
    by_cases hkc : k = c
    · have hb := c4 (by omega)
      rw [← hkc, hh] at hb
      simp only [Bool.and_eq_true, Bool.not_eq_true'] at hb
      obtain ⟨rfl, rfl⟩ := hb
      subst hkc
      have hnn : ¬ k + 1 ≤ k := by omega
      simp (config := {maxSteps := 1000000, maxDischargeDepth := 9, implicitDefEqProofs := false}) [c12_l0, hn, q0, q5, q6, q7, hkI, hki, i1, l1, hStart, rS, cw, hFull, rF, wk, hsb]
      exact ⟨by rw [if_neg (by omega)], by omega⟩
    · have hb := c3 k (by omega) (by omega)
      rw [hh] at hb
      have hkk : k + 1 ≤ c := by omega
      cases sb with
      | false =>
        simp (config := {maxSteps := 1000000, maxDischargeDepth := 9, implicitDefEqProofs := false}) [c12_l0, hn, q0, q5, q6, q7, hkI, hki, i1, l1, hStart, rS, cw, hFull, rF, wk, hsb]
        exact ⟨by rw [if_pos (by omega)], by omega⟩
      | true =>
        cases fb with
        | false => simp at hb
        | true =>
          simp (config := {maxSteps := 1000000, maxDischargeDepth := 9, implicitDefEqProofs := false}) [c12_l0, hn, q0, q5, q6, q7, hkI, hki, i1, l1, hStart, rS, cw, hFull, rF, wk, hsb]
          exact ⟨by rw [if_pos (by omega)], by omega⟩
  · rintro e H' ⟨hn, q0, q5, q6, q7, rfl⟩
    have hex : (if k0 + M ≤ c then s.length else c) = c ∧ ¬ ((k0 + M : Nat) : Int) < (c : Int) := by
      rw [hM]
      split
      · rw [if_neg (by omega)]; omega
      · rw [if_pos (by omega)]; omega
    rw [hex.1] at q6
    obtain ⟨hex1, hex2⟩ := hex
    generalize k0 + M = m at *
    simp (config := {maxSteps := 1000000, maxDischargeDepth := 9, implicitDefEqProofs := false}) [c12_l0, hn, q0, q5, q6, q7, hex2]
theorem cut_form {h H : Heap} {t L c : Nat} {v : V} {s : List Nat} (ho : OwnB h H t v s) (hn : v ≠ .nilslice) (hL : L = s.length) (hc : c ≤ L) : ∃ b δ cap, cutV 1 v c L = .slice b δ (L - c) cap ∧ h.next ≤ b ∧ b < H.next ∧ H.get b = some (.cells (bytesOf s) t 1 true) ∧ δ + (L - c) ≤ L ∧ (c < L → δ = c) ∧ (cap = none ∨ cap = some (L - c)) := by
  rcases ho with ⟨h0, _⟩ | ⟨b, cap, rfl, k2, k3, k4, k5, k6⟩
  · exact absurd h0 hn
  · rw [← hL]
    rcases k2 with rfl | rfl
    · simp only [cutV]
      split
      · rename_i h0
        refine ⟨b, 0, none, ?_, k3, k4, k6, by omega, fun h => by omega, .inl rfl⟩
        rw [show L - c = 0 from by omega]
      · exact ⟨b, 0 + c * 1, none, rfl, k3, k4, k6, by omega, fun h => by omega, .inl rfl⟩
    · simp only [cutV, ← hL]
      split
      · rename_i h0
        exact ⟨b, 0, some (L - c), rfl, k3, k4, k6, by omega, fun h => by omega, .inr rfl⟩
      · exact ⟨b, 0 + c * 1, some (L - c), rfl, k3, k4, k6, by omega, fun h => by omega, .inr rfl⟩
theorem slB_same4 {H H' : Heap} {q o n : Nat} {c : Option Nat} (hg : H'.get q = H.get q) : slB H' (.slice q o n c) = slB H (.slice q o n c) := by
  have h1 : wfS H' 1 (.slice q o n c) = wfS H 1 (.slice q o n c) := by dsimp only [wfS]; rw [hg]
  have h2 : rd H' 1 (.slice q o n c) = rd H 1 (.slice q o n c) := by
    show H'.read q o (n * 1) = H.read q o (n * 1)
    unfold Heap.read; rw [hg]
  unfold slB sl
  rw [h1, h2]
theorem Feed_ok (cf : ACall) (hStart : ∀ a h, cf 24 a h = s_Start a h) (hFull : ∀ a h, cf 25 a h = s_Full a h) (hRunes : ∀ a h, cf 16 a h = s_Runes a h) : Sum cf c12 s_Feed := by
  intro args h v h' hf hsc hlt hs
  unfold s_Feed at hs
  split at hs
  · rename_i p vb
    split at hs
    · rename_i vh t hg
      split at hs
      · rename_i a b ha hb
        split at hs
        · rename_i hc
          obtain ⟨hL, hl⟩ := hc
          obtain ⟨s, hs0⟩ : ∃ s, s = a ++ b := ⟨_, rfl⟩
          rw [← hs0] at hs hl
          have hlm : lim = 140737488354304 := rfl
          have hsl0 : s.length = a.length + b.length := by rw [hs0, List.length_append]
          have hpl := hf.lt hg
          obtain ⟨h1, hh1⟩ : ∃ A, A = h.new (.cells [] 5 1 true) := ⟨_, rfl⟩
          have e1 : Ext h h1 := by rw [hh1]; exact Ext.new h _
          have f1 : Fresh h1 := by rw [hh1]; exact hf.new _
          obtain ⟨v2, h2, r1, o2, e2, f2, n2, m2, _⟩ := OwnB.app (x := vh) (s := a) e1 f1 (by rw [hh1]; exact OwnB.start h 5) (slB_added (slB_ext e1 hf ha)) (by simp only [List.length_nil]; omega)
          obtain ⟨v3, h3, r2, o3, e3, f3, n3, m3, _⟩ := OwnB.app (x := vb) (s := b) e2 f2 o2 (slB_added (slB_ext e2 hf hb)) (by simp only [List.nil_append]; omega)
          rw [List.nil_append, ← hs0] at o3
          have hne3 : v3 ≠ .nilslice := m3 (m2 (by intro h; cases h))
          have hslt : ∀ y ∈ s, y < 256 := fun y hy => by
            rw [hs0] at hy
            rcases List.mem_append.1 hy with hy | hy
            · exact slB_lt ha y hy
            · exact slB_lt hb y hy
          have s3 : slB h3 v3 = some s := o3.slB hslt
          have hL3 := hasLaid_ext hL hf e3
          have hvl := slB_vlen s3
          have hsl := slB_isSl s3
          have lg : loadS (.ptr p 0) h1 = some (vh, h1) := by rw [loadS_ptr, e1.get hf hg]; rfl
          obtain ⟨k0, hk0⟩ : ∃ k, k = s.length - 3 := ⟨_, rfl⟩
          have w1 : wrapF .i64 ((s.length : Int) - 4) = (s.length : Int) - 4 := wrap_i64 (by omega) (by omega)
          have w2 : wrapF .i64 ((s.length : Int) - 4 + 1) = (s.length : Int) - 3 := by rw [wrap_i64 (by omega) (by omega)]; omega
          have w3 : (if (3 : Int) < (s.length : Int) then (s.length : Int) - 3 else 0) = (k0 : Int) := by split <;> omega
          refine ⟨6, ?_⟩
          simp (config := {maxSteps := 1000000, maxDischargeDepth := 9, implicitDefEqProofs := false}) [c12, ← hh1, lg, r1, r2, lenE hsl, hvl, w1, w2, w3]
          refine loop_then (K := fun r => finS _ (seqS _ _ _ (blockS _ r))) (Feed_loop cf hStart hFull h3 hL3 s hl v3 (.ptr p 0) s3 _ ?_ ?_ ?_ ?_ ?_) ?_
          iterate 5 simp (config := {maxSteps := 1000000, maxDischargeDepth := 9, implicitDefEqProofs := false}) [hk0]
          rintro x e' H ⟨rfl, hn', q0, q5, q6, rfl⟩
          obtain ⟨_, c2, _, _⟩ := cutN_spec s
          unfold feedH at hs
          generalize cutN s = c at *
          obtain ⟨q, δ, cap, hcut, b1, b2, b3, b4, b5, b6⟩ := cut_form (c := c) o3 hne3 rfl c2
          have cw : sliceV H 1 v3 (some (.int .i64 (c : Int))) none none = some (cutV 1 v3 c s.length) := by
            have := slice_lo (k := .i64) (i := (c : Int)) (v := v3) (h := H) (by rw [s3]; rfl) (by omega) (by omega)
            rw [this, Int.toNat_natCast, hvl]
          obtain ⟨w, hw⟩ : ∃ w, w = cutV 1 v3 c s.length := ⟨_, rfl⟩
          rw [← hw] at cw hcut
          have onew : w.one = true := by rw [hcut]; rfl
          have clw : w.cells = [w] := by rw [hcut]; rfl
          have hgp : H.get p = some (.cells [vh] t 1 true) := e3.get hf hg
          obtain ⟨h4, hh4⟩ : ∃ A, A = H.set p (some (.cells [w] t 1 true)) := ⟨_, rfl⟩
          have f4 : Fresh h4 := by rw [hh4]; exact f3.set (by have := e3.1; omega) _
          have hpq : p ≠ q := by omega
          have s4 : slB h4 v3 = some s := by
            rw [← s3]
            rcases o3 with ⟨h0, _⟩ | ⟨b', c', k1, k2, k3, _⟩
            · exact absurd h0 hne3
            · rw [k1]
              exact slB_same4 (by rw [hh4, Heap.get_set, if_neg (by omega)])
          have cu : sliceV h4 1 v3 none (some (.int .i64 (c : Int))) none = some (cutV 1 v3 0 c) := by
            have := slice_hi (k := .i64) (i := (c : Int)) (v := v3) (h := h4) (by rw [s4]; rfl) (by omega) (by omega)
            rw [this, Int.toNat_natCast]
          have su : slB h4 (cutV 1 v3 0 c) = some (s.take c) := by rw [(slB_cut' s4 (l := 0) (r := c) (Nat.zero_le _) c2).1, List.drop_zero]
          have bu : bytesStrS (cutV 1 v3 0 c) h4 = some (.str (s.take c), h4) := rdB_str (slB_rdB su)
          have htl : (s.take c).length = c := by rw [List.length_take]; omega
          have gk : ∀ b B, b ≠ p → h.get b = some B → h4.get b = some B := fun b B hb hB => by rw [hh4, Heap.get_set, if_neg hb]; exact e3.get hf hB
          have gp : h4.get p = some (.cells [w] t 1 true) := by rw [hh4, Heap.get_set]; exact if_pos rfl
          have gq : h4.get q = some (.cells (bytesOf s) 5 1 true) := by rw [hh4, Heap.get_set, if_neg (fun h => hpq h.symm)]; exact b3
          have lq : δ + (bytesOf (s.drop c)).length ≤ (bytesOf s).length := by rw [bytesOf_length, bytesOf_length, List.length_drop]; exact b4
          have gn : ∀ (i : Nat) (x : V), (bytesOf (s.drop c))[i]? = some x → (bytesOf s)[δ + i]? = some x := fun i x hi => by
            have hic : i < s.length - c := by
              have := (List.getElem?_eq_some_iff.1 hi).1
              rw [bytesOf_length, List.length_drop] at this; exact this
            rw [b5 (by omega)]
            simp only [bytesOf, List.getElem?_map, List.getElem?_drop] at hi ⊢
            exact hi
          have vcw : ∀ (h2 : Heap) (τ : Nat → Nat × Nat) (n : Nat), h.next < n → τ h.next = (q, δ) → h2.get q = some (.cells (bytesOf s) 5 1 true) → VC h2 τ n (.slice h.next 0 (s.length - c) none) w := fun h2 τ n hn hτ hgq => by
            rw [hcut]
            simp only [VC, hτ]
            refine ⟨hn, cap, rfl, fun m hm => ⟨_, _, _, _, hgq, ?_⟩⟩
            rcases b6 with hb6 | hb6
            · rw [hb6] at hm; cases hm
            · rw [hb6] at hm; cases hm; rw [bytesOf_length]; omega
          by_cases hc0 : c = 0
          · rw [if_pos hc0] at hs
            simp only [Option.some.injEq, Prod.mk.injEq] at hs
            obtain ⟨rfl, rfl⟩ := hs
            have rR : s_Runes [.str (s.take c)] h4 = some (.nilslice, h4) := by
              unfold s_Runes
              simp only
              rw [if_pos (by omega), if_pos (by omega)]
            simp (config := {maxSteps := 1000000, maxDischargeDepth := 9, implicitDefEqProofs := false}) [hn', q0, q5, q6, cw, hgp, onew, clw, ← hh4, cu, bu, hRunes, rR]
            refine ⟨_, Canon.mod1 (b2 := q) (δ := δ) (nc2 := bytesOf s) (cs2 := [w]) hf hsc hpl gk gp rfl ?_ b1 gq lq gn (flat_bytes _) (by simp only [VC])⟩
            intro i x hi
            cases i with
            | succ i => simp at hi
            | zero =>
              simp only [List.getElem?_cons_zero, Option.some.injEq] at hi
              subst hi
              exact ⟨w, rfl, vcw _ _ _ (by omega) moved_at gq⟩
          · rw [if_neg hc0] at hs
            simp only [Option.some.injEq, Prod.mk.injEq] at hs
            obtain ⟨rfl, rfl⟩ := hs
            have rR : s_Runes [.str (s.take c)] h4 = some (.slice h4.next 0 (runesL (s.take c)).length none, h4.new (.cells ((runesL (s.take c)).map (V.int .i32)) 21 1 true)) := by
              unfold s_Runes
              simp only
              rw [if_pos (by omega), if_neg (by omega)]; rfl
            simp (config := {maxSteps := 1000000, maxDischargeDepth := 9, implicitDefEqProofs := false}) [hn', q0, q5, q6, cw, hgp, onew, clw, ← hh4, cu, bu, hRunes, rR]
            have f5 := Ext.new h4 (.cells ((runesL (s.take c)).map (V.int .i32)) 21 1 true)
            have n4 : h4.next = H.next := by rw [hh4]; rfl
            refine ⟨_, Canon.mod2 (b2 := q) (δ := δ) (b3 := h4.next) (nc2 := bytesOf s) (cs2 := [w]) hf hsc hpl (fun b B hb hB => f5.get f4 (gk b B hb hB)) (f5.get f4 gp) rfl ?_ b1 (f5.get f4 gq) lq gn (flat_bytes _) (by have := e3.1; omega) (by omega) (by rw [Heap.get_new]; exact if_pos rfl) (flat_ints _ _) ?_⟩
            · intro i x hi
              cases i with
              | succ i => simp at hi
              | zero =>
                simp only [List.getElem?_cons_zero, Option.some.injEq] at hi
                subst hi
                exact ⟨w, rfl, vcw _ _ _ (by omega) (moved_two0 _ _ _ _) (f5.get f4 gq)⟩
            · simp only [VC, moved_two1]
              exact ⟨by omega, none, rfl, fun m hm => by cases hm⟩
        · cases hs
      · cases hs
    · cases hs
  · cases hs

/-- What the tables say. -/
theorem cls_all : (List.range 256).all (fun c => decide (firstN.getD c 0 % 8 = sz c ∧ (2 ≤ sz c → accN.getD (2 * (firstN.getD c 0 / 16)) 0 = lo c ∧ accN.getD (2 * (firstN.getD c 0 / 16) + 1) 0 = hi c))) = true := by kernel_rfl
theorem cls {c : Nat} (hc : c < 256) : firstN.getD c 0 % 8 = sz c ∧ (2 ≤ sz c → accN.getD (2 * (firstN.getD c 0 / 16)) 0 = lo c ∧ accN.getD (2 * (firstN.getD c 0 / 16) + 1) 0 = hi c) := of_decide_eq_true (List.all_eq_true.1 cls_all c (List.mem_range.2 hc))
theorem start_all : (List.range 256).all (fun c => startB (c : Int) == decide (c < 128 ∨ 191 < c)) = true := by kernel_rfl
theorem startB_iff {c : Nat} (hc : c < 256) : startB (c : Int) = true ↔ startP c := by
  have h := beq_iff_eq.1 (List.all_eq_true.1 start_all c (List.mem_range.2 hc))
  rw [h]
  exact decide_eq_true_iff
theorem fullB_iff {s : List Nat} (hs : ∀ y ∈ s, y < 256) : fullB s = true ↔ fullP s := by
  unfold fullB fullP
  by_cases h0 : s.length = 0
  · rw [if_pos h0]
    constructor
    · intro h; cases h
    · intro h; omega
  have hb : s.getD 0 0 < 256 := hs _ (by rw [List.getD_eq_getElem?_getD, List.getElem?_eq_getElem (by omega)]; exact List.getElem_mem _)
  obtain ⟨k1, k2⟩ := cls hb
  rw [if_neg h0, k1]
  by_cases h1 : sz (s.getD 0 0) ≤ s.length
  · rw [if_pos h1]
    exact ⟨fun _ => ⟨by omega, .inl h1⟩, fun _ => rfl⟩
  obtain ⟨k3, k4⟩ := k2 (by omega)
  rw [if_neg h1, k3, k4]
  by_cases h2 : 1 < s.length ∧ (s.getD 1 0 < lo (s.getD 0 0) ∨ hi (s.getD 0 0) < s.getD 1 0)
  · rw [if_pos h2]
    exact ⟨fun _ => ⟨by omega, .inr (.inl h2)⟩, fun _ => rfl⟩
  rw [if_neg h2]
  by_cases h3 : 2 < s.length ∧ (s.getD 2 0 < 128 ∨ 191 < s.getD 2 0)
  · rw [if_pos h3]
    exact ⟨fun _ => ⟨by omega, .inr (.inr h3)⟩, fun _ => rfl⟩
  rw [if_neg h3]
  constructor
  · intro h; cases h
  · rintro ⟨_, h | h | h⟩
    · exact absurd h h1
    · exact absurd h h2
    · exact absurd h h3
theorem heldAt_iff {s : List Nat} (hs : ∀ y ∈ s, y < 256) {k : Nat} (hk : k < s.length) : heldAt s k = true ↔ heldP s k := by
  have hb : s.getD k 0 < 256 := hs _ (by rw [List.getD_eq_getElem?_getD, List.getElem?_eq_getElem hk]; exact List.getElem_mem _)
  have h1 := startB_iff hb
  have h2 := fullB_iff (s := s.drop k) (fun y hy => hs y (List.mem_of_mem_drop hy))
  unfold heldAt heldP
  rw [Bool.and_eq_true, Bool.not_eq_true', h1]
  constructor
  · rintro ⟨a, b⟩
    exact ⟨a, fun h => by rw [h2.2 h] at b; cases b⟩
  · rintro ⟨a, b⟩
    refine ⟨a, ?_⟩
    cases hf : fullB (s.drop k) with
    | false => rfl
    | true => exact absurd (h2.1 hf) b
theorem cutN_isCut {s : List Nat} (hs : ∀ y ∈ s, y < 256) : isCut s (cutN s) := by
  obtain ⟨a, b, c, d⟩ := cutN_spec s
  refine ⟨a, b, fun j h1 h2 h => ?_, fun h => (heldAt_iff hs h).1 (d h)⟩
  have := (heldAt_iff hs (by omega)).2 h
  rw [c j h1 h2] at this; cases this

/-- Flush: what is told of the bytes that are held; none is held then. -/
def s_Flush : List V → Heap → Option (V × Heap)
  | [.ptr p 0], h => match h.get p with
    | some (.cells [v] t 1 true) => match slB h v with
      | some s => if s.length ≤ 17592186044416 then (if s.length = 0 then some (.nilslice, h.set p (some (.cells [.nilslice] t 1 true))) else some (.slice h.next 0 s.length none, (h.set p (some (.cells [.nilslice] t 1 true))).new (.cells ((List.replicate s.length (65533 : Int)).map (V.int .i32)) 21 1 true))) else none
      | none => none
    | _ => none
  | _, _ => none
theorem Flush_loop (cf : ACall) (h : Heap) (hf : Fresh h) (n : Nat) (hn0 : n ≤ 17592186044416) (v0 : V) :
    ∀ e, e.n = 19 → e.at 0 = v0 → e.at 3 = .nilslice → e.at 8 = .int .i64 (n : Int) → e.at 9 = .int .i64 0 →
    YtpegpafginbhmaaDoorA.Ends (execA cf (n + 1) (.loop c22_l0) e h) fun x e' H => x = .exit 0 ∧ e'.n = 19 ∧ e'.at 0 = v0 ∧ OwnK .i32 h H 21 (e'.at 3) (List.replicate n 65533) ∧ Ext h H ∧ Fresh H ∧ (n = 0 → e'.at 3 = .nilslice) := by
  intro e hn q0 q3 q8 q9
  refine loop_count (cf := cf) (N := n + 1) (c := c22_l0) n
    (fun i e H => e.n = 19 ∧ e.at 0 = v0 ∧ e.at 8 = .int .i64 (n : Int) ∧ e.at 9 = .int .i64 (i : Int) ∧ OwnK .i32 h H 21 (e.at 3) (List.replicate i 65533) ∧ Ext h H ∧ Fresh H ∧ (i = 0 → e.at 3 = .nilslice))
    (fun x e' H => x = .exit 0 ∧ e'.n = 19 ∧ e'.at 0 = v0 ∧ OwnK .i32 h H 21 (e'.at 3) (List.replicate n 65533) ∧ Ext h H ∧ Fresh H ∧ (n = 0 → e'.at 3 = .nilslice)) ?_ ?_ 0 e _ (Nat.zero_le _) ⟨hn, q0, q8, q9, by rw [q3]; exact .inl ⟨rfl, rfl, rfl⟩, Ext.refl _, hf, fun _ => q3⟩ (Nat.lt_succ_self _)
  · rintro i e H hi ⟨hn, q0, q8, q9, ho, hE, hF, hz⟩
    have hiI : (i : Int) < (n : Int) := by omega
    obtain ⟨A2, hA2⟩ : ∃ A, A = H.new (.cells [.int .i32 65533] 21 1 true) := ⟨_, rfl⟩
    have e2 : Ext h A2 := by rw [hA2]; exact hE.trans_new _
    have f2 : Fresh A2 := by rw [hA2]; exact hF.new _
    have ho2 : OwnK .i32 h A2 21 (e.at 3) (List.replicate i 65533) := by rw [hA2]; exact Own.ext_new _ ho hF
    have hadd : added A2 1 (.slice H.next 0 1 (some 1)) = some ([(65533 : Int)].map (V.int .i32), [(65533 : Int)].length) := by
      have : sl A2 1 (.slice H.next 0 1 (some 1)) = some [V.int .i32 65533] := by rw [hA2]; exact sl_selfE rfl rfl (.inr rfl)
      exact rd_added (sl_rd this)
    obtain ⟨v2, A3, k1, k2, k3, k4, _⟩ := OwnK.app (bytes := 4) e2 f2 ho2 hadd (by
      have : most = 140737488355328 := rfl
      rw [this, List.length_singleton, List.length_replicate]; omega) (by
      have : most = 140737488355328 := rfl
      rw [this, List.length_singleton, List.length_replicate]; omega)
    rw [← List.replicate_succ'] at k2
    generalize q3 : e.at 3 = w at *
    simp (config := {maxSteps := 1000000, maxDischargeDepth := 9, implicitDefEqProofs := false}) [c22_l0, hn, q0, q3, q8, q9, hiI, hi, ← hA2, k1, wrap_i64 (x := (i : Int) + 1) (by omega) (by omega)]
    exact ⟨k2, k3, k4⟩
  · rintro e H ⟨hn, q0, q8, q9, ho, hE, hF, hz⟩
    simp (config := {maxSteps := 1000000, maxDischargeDepth := 9, implicitDefEqProofs := false}) [c22_l0, hn, q0, q8, q9]
    exact ⟨ho, hE, hF, hz⟩
theorem flush_canon {h H : Heap} {p t n : Nat} {w vh : V} (hf : Fresh h) (hsc : Scoped h) (hg : h.get p = some (.cells [vh] t 1 true)) (ho : OwnK .i32 h H 21 w (List.replicate n 65533)) (hE : Ext h H) (hF : Fresh H) (hz : n = 0 → w = .nilslice) (h2 : Heap) (v2 : V)
    (hs : (if n = 0 then some (V.nilslice, h.set p (some (.cells [.nilslice] t 1 true))) else some (.slice h.next 0 n none, (h.set p (some (.cells [.nilslice] t 1 true))).new (.cells ((List.replicate n (65533 : Int)).map (V.int .i32)) 21 1 true))) = some (v2, h2)) :
    ∃ τ, Canon h.next (H.set p (some (.cells [.nilslice] t 1 true))) w h2 v2 τ := by
  have hp := hf.lt hg
  obtain ⟨h1, hh1⟩ : ∃ A, A = h.set p (some (.cells [.nilslice] t 1 true)) := ⟨_, rfl⟩
  obtain ⟨H1, hH1⟩ : ∃ A, A = H.set p (some (.cells [.nilslice] t 1 true)) := ⟨_, rfl⟩
  have n1 : h1.next = h.next := by rw [hh1]; rfl
  have f1 : Fresh h1 := by rw [hh1]; exact hf.set hp _
  have sc1 : Scoped h1 := fun b cs t' z own hb => by
    rw [hh1, Heap.get_set] at hb
    rw [n1]
    split at hb
    · cases hb; simp only [ltL, V.lt, and_self]
    · exact hsc b cs t' z own hb
  have e1 : Ext h1 H1 := ⟨by rw [n1, hH1]; exact hE.1, fun q hq => by
    rw [n1] at hq
    rw [hh1, hH1, Heap.get_set, Heap.get_set]
    split
    · rfl
    · exact hE.2 q hq⟩
  have ho1 : OwnK .i32 h1 H1 21 w (List.replicate n 65533) := by
    rcases ho with hh | ⟨b, c, k1, k2, k3, k4, k5, k6⟩
    · exact .inl hh
    · exact .inr ⟨b, c, k1, k2, by omega, by rw [hH1]; exact k4, k5, by rw [hH1, Heap.get_set, if_neg (by omega)]; exact k6⟩
  rw [← hh1] at hs
  rw [← hH1, ← n1]
  by_cases h0 : n = 0
  · rw [if_pos h0] at hs
    simp only [Option.some.injEq, Prod.mk.injEq] at hs
    obtain ⟨rfl, rfl⟩ := hs
    have := hz h0
    subst this
    exact Canon.keep f1 sc1 e1 (by simp only [V.lt])
  · rw [if_neg h0] at hs
    simp only [Option.some.injEq, Prod.mk.injEq] at hs
    obtain ⟨rfl, rfl⟩ := hs
    have := ho1.canon f1 sc1 e1 (ownK_some ho1 (by rw [List.length_replicate]; omega))
    rw [List.length_replicate] at this
    unfold newV at this
    rw [n1] at this ⊢
    exact this
theorem Flush_ok (cf : ACall) : Sum cf c22 s_Flush := by
  intro args h v h' hf hsc hlt hs
  unfold s_Flush at hs
  split at hs
  · rename_i p
    split at hs
    · rename_i vh t hg
      split at hs
      · rename_i s hb
        split at hs
        · rename_i hl
          have hsl := slB_isSl hb
          have hvl := slB_vlen hb
          generalize s.length = n at *
          refine ⟨n + 1, ?_⟩
          simp (config := {maxSteps := 1000000, maxDischargeDepth := 9, implicitDefEqProofs := false}) [c22, hg, lenE hsl, hvl]
          refine loop_then (K := fun r => finS _ (seqS _ _ _ (blockS _ r))) (Flush_loop cf h hf n hl (.ptr p 0) _ ?_ ?_ ?_ ?_ ?_) ?_
          iterate 5 simp (config := {maxSteps := 1000000, maxDischargeDepth := 9, implicitDefEqProofs := false})
          rintro x e' H ⟨rfl, hn', q0, ho, hE, hF, hz⟩
          have hgp : H.get p = some (.cells [vh] t 1 true) := hE.get hf hg
          generalize q3 : e'.at 3 = w at *
          simp (config := {maxSteps := 1000000, maxDischargeDepth := 9, implicitDefEqProofs := false}) [hn', q0, q3, hgp]
          exact flush_canon hf hsc hg ho hE hF hz _ _ hs
        · cases hs
      · cases hs
    · cases hs
  · cases hs

/-- A text in pieces. -/
def cutP : Nat → List Int → List Nat → List (List Nat)
  | n + 1, c :: l, s => if s.length = 0 then [s] else s.take (min (c % 9).toNat s.length) :: cutP n l (s.drop (min (c % 9).toNat s.length))
  | _, _, s => [s]
theorem cutP_pos : ∀ (n : Nat) (l : List Int) (s : List Nat), 1 ≤ (cutP n l s).length
  | 0, _, _ => Nat.le_refl _
  | _ + 1, [], _ => Nat.le_refl _
  | n + 1, c :: l, s => by
    simp only [cutP]
    split
    · exact Nat.le_refl _
    · rw [List.length_cons]; omega
theorem cutP_one {n : Nat} {l : List Int} {s : List Nat} (h : (cutP n l s).length = 1) : cutP n l s = [s] ∧ (n = 0 ∨ l.length = 0 ∨ s.length = 0) := by
  cases n with
  | zero => exact ⟨rfl, .inl rfl⟩
  | succ n =>
    cases l with
    | nil => exact ⟨rfl, .inr (.inl rfl)⟩
    | cons c l =>
      simp only [cutP] at h ⊢
      by_cases h0 : s.length = 0
      · rw [if_pos h0]; exact ⟨rfl, .inr (.inr h0)⟩
      · rw [if_neg h0, List.length_cons] at h
        have := cutP_pos n l (s.drop (min (c % 9).toNat s.length))
        omega
theorem cutP_more {n : Nat} {l : List Int} {s : List Nat} (h : 2 ≤ (cutP n l s).length) : 0 < s.length ∧ ∃ m c r, n = m + 1 ∧ l = c :: r ∧ cutP n l s = s.take (min (c % 9).toNat s.length) :: cutP m r (s.drop (min (c % 9).toNat s.length)) := by
  cases n with
  | zero => simp [cutP] at h
  | succ n =>
    cases l with
    | nil => simp [cutP] at h
    | cons c l =>
      by_cases h0 : s.length = 0
      · simp only [cutP] at h; rw [if_pos h0] at h; simp at h
      · refine ⟨by omega, n, c, l, rfl, rfl, ?_⟩
        simp only [cutP]
        rw [if_neg h0]
theorem cutP_flat : ∀ (n : Nat) (l : List Int) (s : List Nat), (cutP n l s).flatten = s
  | 0, _, s => by simp [cutP]
  | _ + 1, [], s => by simp [cutP]
  | n + 1, c :: l, s => by
    simp only [cutP]
    split
    · simp
    · rw [List.flatten_cons, cutP_flat n l, List.take_append_drop]
theorem cutP_len : ∀ (n : Nat) (l : List Int) (s : List Nat), (cutP n l s).length ≤ n + 1
  | 0, _, _ => Nat.le_refl _
  | _ + 1, [], _ => by simp [cutP]
  | n + 1, c :: l, s => by
    simp only [cutP]
    split
    · simp
    · rw [List.length_cons]; have := cutP_len n l (s.drop (min (c % 9).toNat s.length)); omega
/-- The row of the pieces, whose blocks stand one behind the other. -/
def rowV : Nat → List (List Nat) → List V
  | _, [] => []
  | n, s :: r => .slice n 0 s.length none :: rowV (n + 1) r
theorem rowV_get : ∀ (xs : List (List Nat)) (n i : Nat), (rowV n xs)[i]? = xs[i]?.map fun s => .slice (n + i) 0 s.length none
  | [], n, i => rfl
  | s :: r, n, 0 => rfl
  | s :: r, n, i + 1 => by
    simp only [rowV, List.getElem?_cons_succ]
    rw [rowV_get r (n + 1) i, show n + 1 + i = n + (i + 1) from by omega]
theorem rowV_length : ∀ (xs : List (List Nat)) (n : Nat), (rowV n xs).length = xs.length
  | [], _ => rfl
  | s :: r, n => by simp only [rowV, List.length_cons, rowV_length r]
/-- The row as the run has it. -/
def rowR (bs : List Nat) (xs : List (List Nat)) : List V := List.zipWith (fun b (s : List Nat) => V.slice b 0 s.length none) bs xs
/-- The heap behind Cut. -/
def cutH (h : Heap) (xs : List (List Nat)) : Heap := newL h ((xs.map fun s => Blk.cells (bytesOf s) 5 1 true) ++ [Blk.cells (rowV h.next xs) 22 1 true])
/-- portholehand.Cut. -/
def s_Cut : List V → Heap → Option (V × Heap)
  | [.str s, vc], h => match slK .i64 h vc with
    | some l => if s.length ≤ 17592186044416 ∧ (∀ y ∈ s, y < 256) then some (.slice (h.next + (cutP 40 l s).length) 0 (cutP 40 l s).length none, cutH h (cutP 40 l s)) else none
    | none => none
  | _, _ => none
def CutInv (h H : Heap) (w : V) (bs : List Nat) (xs : List (List Nat)) : Prop :=
  bs.length = xs.length ∧ (∀ (j b : Nat) s, bs[j]? = some b → xs[j]? = some s → h.next ≤ b ∧ b < H.next ∧ H.get b = some (.cells (bytesOf s) 5 1 true)) ∧ (∀ (i j b : Nat), bs[i]? = some b → bs[j]? = some b → i = j) ∧ Own h H 22 1 w xs.length (rowR bs xs) ∧ Ext h H ∧ Fresh H
theorem cut_step {h H : Heap} {w : V} {bs : List Nat} {xs : List (List Nat)} {s : List Nat} (hI : CutInv h H w bs xs) (hl : xs.length ≤ 100) :
    ∃ v2 A3, appendV ((H.new (.cells (bytesOf s) 5 1 true)).new (.cells [.slice H.next 0 s.length none] 22 1 true)) 22 1 24 w (.slice (H.next + 1) 0 1 (some 1)) = some (v2, A3) ∧ CutInv h A3 v2 (bs ++ [H.next]) (xs ++ [s]) := by
  obtain ⟨i1, i2, i3, i4, i5, i6⟩ := hI
  obtain ⟨K1, hK1⟩ : ∃ A, A = H.new (.cells (bytesOf s) 5 1 true) := ⟨_, rfl⟩
  have e1 : Ext H K1 := by rw [hK1]; exact Ext.new H _
  have f1 : Fresh K1 := by rw [hK1]; exact i6.new _
  have n1 : K1.next = H.next + 1 := by rw [hK1]; rfl
  have g1 : K1.get H.next = some (.cells (bytesOf s) 5 1 true) := by rw [hK1, Heap.get_new]; exact if_pos rfl
  obtain ⟨K2, hK2⟩ : ∃ A, A = K1.new (.cells [.slice H.next 0 s.length none] 22 1 true) := ⟨_, rfl⟩
  have e2 : Ext K1 K2 := by rw [hK2]; exact Ext.new K1 _
  have f2 : Fresh K2 := by rw [hK2]; exact f1.new _
  have n2 : K2.next = H.next + 2 := by rw [hK2]; show K1.next + 1 = _; omega
  rw [← hK1, ← hK2, ← n1]
  have ho1 : Own h K1 22 1 w xs.length (rowR bs xs) := by rw [hK1]; exact Own.ext_new _ i4 i6
  have ho2 : Own h K2 22 1 w xs.length (rowR bs xs) := by rw [hK2]; exact Own.ext_new _ ho1 f1
  have hadd : added K2 1 (.slice K1.next 0 1 (some 1)) = some ([V.slice H.next 0 s.length none], 1) := by
    have : sl K2 1 (.slice K1.next 0 1 (some 1)) = some [V.slice H.next 0 s.length none] := by rw [hK2]; exact sl_selfE rfl rfl (.inr rfl)
    exact rd_added (sl_rd this)
  have hm : most = 140737488355328 := rfl
  obtain ⟨v2, A3, k1, k2, k3, k4, k5, k6, k7⟩ := Own.app (bytes := 24) (ys := [V.slice H.next 0 s.length none]) (i5.trans (e1.trans e2)) f2 ho2 (by simpa using hadd) (by simp) rfl (by rw [hm]; simp only [List.length_singleton, Nat.div_one]; omega) (by rw [hm]; simp only [List.length_singleton, Nat.div_one]; omega)
  have keep : ∀ b cs, K2.get b = some (.cells cs 5 1 true) → A3.get b = some (.cells cs 5 1 true) := fun b cs hb => by
    rw [k7 b (f2.lt hb) fun o c hw => ?_]
    · exact hb
    · rcases ho2 with ⟨h0, _⟩ | ⟨b', c', q1, q2, q3, q4, q5, q6⟩
      · rw [h0] at hw; cases hw
      · rw [q1] at hw
        injection hw with e
        subst e
        rw [hb] at q6
        injection q6 with q6
        injection q6 with _ ht
        exact absurd ht (by decide)
  refine ⟨v2, A3, k1, by rw [List.length_append, List.length_append, i1]; rfl, fun j b t hb ht => ?_, fun i j b hi hj => ?_, ?_, k3, k4⟩
  · rcases Nat.lt_trichotomy j bs.length with hj | hj | hj
    · rw [List.getElem?_append_left hj] at hb
      rw [List.getElem?_append_left (by omega)] at ht
      obtain ⟨a1, a2, a3⟩ := i2 j b t hb ht
      exact ⟨a1, by omega, keep b _ (e2.get f1 (e1.get i6 a3))⟩
    · subst hj
      rw [List.getElem?_append_right (Nat.le_refl _), Nat.sub_self, List.getElem?_cons_zero, Option.some.injEq] at hb
      rw [List.getElem?_append_right (by omega), i1, Nat.sub_self, List.getElem?_cons_zero, Option.some.injEq] at ht
      subst hb; subst ht
      exact ⟨i5.1, by omega, keep _ _ (e2.get f1 g1)⟩
    · rw [List.getElem?_eq_none (by rw [List.length_append, List.length_singleton]; omega)] at hb; cases hb
  · have hlt : ∀ (k c : Nat), bs[k]? = some c → c < H.next := fun k c hk => by
      have hkl := (List.getElem?_eq_some_iff.1 hk).1
      obtain ⟨t, ht⟩ : ∃ t, xs[k]? = some t := ⟨_, List.getElem?_eq_getElem (by omega)⟩
      exact (i2 k c t hk ht).2.1
    have hcase : ∀ (k c : Nat), (bs ++ [H.next])[k]? = some c → (k < bs.length ∧ bs[k]? = some c) ∨ (k = bs.length ∧ c = H.next) := fun k c hk => by
      rcases Nat.lt_trichotomy k bs.length with hj | hj | hj
      · rw [List.getElem?_append_left hj] at hk; exact .inl ⟨hj, hk⟩
      · subst hj
        rw [List.getElem?_append_right (Nat.le_refl _), Nat.sub_self, List.getElem?_cons_zero, Option.some.injEq] at hk
        exact .inr ⟨rfl, hk.symm⟩
      · rw [List.getElem?_eq_none (by rw [List.length_append, List.length_singleton]; omega)] at hk; cases hk
    rcases hcase i b hi with ⟨a1, a2⟩ | ⟨a1, a2⟩ <;> rcases hcase j b hj with ⟨b1, b2⟩ | ⟨b1, b2⟩
    · exact i3 i j b a2 b2
    · have := hlt i b a2; omega
    · have := hlt j b b2; omega
    · omega
  · have hr : rowR (bs ++ [H.next]) (xs ++ [s]) = rowR bs xs ++ [V.slice H.next 0 s.length none] := by
      unfold rowR
      rw [List.zipWith_append i1]; rfl
    rw [hr, List.length_append]
    simpa using k2
theorem cut_canon {h H : Heap} {w : V} {bs : List Nat} {xs : List (List Nat)} (hf : Fresh h) (hsc : Scoped h) (hI : CutInv h H w bs xs) (h0 : 0 < xs.length) : ∃ τ, Canon h.next H w (cutH h xs) (.slice (h.next + xs.length) 0 xs.length none) τ := by
  obtain ⟨i1, i2, i3, i4, i5, i6⟩ := hI
  rcases i4 with ⟨_, hh, _⟩ | ⟨q, c, rfl, k2, k3, k4, k5, k6⟩
  · omega
  have hlen : ((xs.map fun s => Blk.cells (bytesOf s) 5 1 true) ++ [Blk.cells (rowV h.next xs) 22 1 true]).length = xs.length + 1 := by rw [List.length_append, List.length_map]; rfl
  have hrl : (rowR bs xs).length = xs.length := by unfold rowR; rw [List.length_zipWith]; omega
  have hb : ∀ i s, xs[i]? = some s → ∃ b, bs[i]? = some b ∧ bs.getD i 0 = b ∧ h.next ≤ b ∧ b < H.next ∧ H.get b = some (.cells (bytesOf s) 5 1 true) := fun i s hi => by
    have hil := (List.getElem?_eq_some_iff.1 hi).1
    obtain ⟨b, hb⟩ : ∃ b, bs[i]? = some b := ⟨_, List.getElem?_eq_getElem (by omega)⟩
    obtain ⟨a1, a2, a3⟩ := i2 i b s hb hi
    exact ⟨b, hb, by rw [List.getD_eq_getElem?_getD, hb]; rfl, a1, a2, a3⟩
  have hnq : ∀ i s, xs[i]? = some s → bs.getD i 0 ≠ q := fun i s hi e => by
    obtain ⟨b, a1, a2, _, _, a5⟩ := hb i s hi
    rw [a2] at e
    rw [e, k6] at a5
    injection a5 with a5
    injection a5 with _ ht
    exact absurd ht (by decide)
  refine ⟨_, Canon.news (hb := h) (Bs := (xs.map fun s => Blk.cells (bytesOf s) 5 1 true) ++ [Blk.cells (rowV h.next xs) 22 1 true]) (τs := fun i => if i < xs.length then (bs.getD i 0, 0) else (q, 0)) rfl (fun b B hB => hf.lt hB) (hold_of hsc fun b B hB => i5.get hf hB) (fun i B hi => ?_) ?_⟩
  · rw [hlen]
    rcases Nat.lt_trichotomy i xs.length with hil | hil | hil
    · rw [List.getElem?_append_left (by rw [List.length_map]; exact hil), List.getElem?_map, List.getElem?_eq_getElem hil] at hi
      simp only [Option.map_some, Option.some.injEq] at hi
      subst hi
      obtain ⟨b, a1, a2, a3, a4, a5⟩ := hb i _ (List.getElem?_eq_getElem hil)
      refine ⟨by rw [if_pos hil]; show h.next ≤ bs.getD i 0; omega, fun j hj he => ?_, ⟨.cells (bytesOf (xs[i]'hil)) 5 1 true, by rw [if_pos hil]; show H.get (bs.getD i 0) = _; rw [a2]; exact a5, rfl, rfl, rfl, by rw [if_pos hil]; show 0 + _ ≤ _; omega, fun k v hk => ⟨v, by rw [if_pos hil]; show (bytesOf _)[0 + k]? = _; rw [Nat.zero_add]; exact hk, VC.refl (n0 := 0) (fun b hb => by omega) (Nat.zero_le _) v (ltL_mem.1 (flat_bytes _) v (List.mem_of_getElem? hk))⟩⟩⟩
      rw [if_pos hil] at he
      by_cases hjl : j < xs.length
      · rw [if_pos hjl] at he
        obtain ⟨b', c1, c2, _⟩ := hb j _ (List.getElem?_eq_getElem hjl)
        have he' : bs.getD i 0 = bs.getD j 0 := he
        rw [a2, c2] at he'
        subst he'
        exact i3 i j b a1 c1
      · rw [if_neg hjl] at he
        exact absurd he (hnq i _ (List.getElem?_eq_getElem hil))
    · subst hil
      rw [List.getElem?_append_right (by rw [List.length_map]; exact Nat.le_refl _), List.length_map, Nat.sub_self, List.getElem?_cons_zero, Option.some.injEq] at hi
      subst hi
      have hnn : ¬ xs.length < xs.length := by omega
      refine ⟨by rw [if_neg hnn]; exact k3, fun j hj he => ?_, ⟨.cells (rowR bs xs) 22 1 true, by rw [if_neg hnn]; exact k6, rfl, rfl, rfl, by rw [if_neg hnn]; show 0 + _ ≤ _; rw [rowV_length, hrl]; omega, fun k v hk => ?_⟩⟩
      · rw [if_neg hnn] at he
        by_cases hjl : j < xs.length
        · rw [if_pos hjl] at he
          exact absurd he.symm (hnq j _ (List.getElem?_eq_getElem hjl))
        · omega
      · rw [rowV_get] at hk
        cases hx : xs[k]? with
        | none => rw [hx] at hk; cases hk
        | some s =>
          rw [hx] at hk
          simp only [Option.map_some, Option.some.injEq] at hk
          subst hk
          have hkl := (List.getElem?_eq_some_iff.1 hx).1
          obtain ⟨b, a1, a2, a3, a4, a5⟩ := hb k s hx
          refine ⟨.slice b 0 s.length none, ?_, ?_⟩
          · rw [if_neg hnn]
            show (rowR bs xs)[0 + k]? = _
            rw [Nat.zero_add]
            unfold rowR
            rw [List.getElem?_zipWith, a1, hx]
          · simp only [VC, moved_add, if_pos hkl]
            exact ⟨by omega, none, by rw [a2], fun m hm => by cases hm⟩
    · rw [List.getElem?_eq_none (by rw [hlen]; omega)] at hi; cases hi
  · rw [hlen]
    simp only [VC, moved_add, if_neg (Nat.lt_irrefl _)]
    refine ⟨by omega, c, rfl, fun m hm => ⟨_, _, _, _, k6, ?_⟩⟩
    rcases k2 with k2 | k2
    · rw [k2] at hm; cases hm
    · rw [k2] at hm; cases hm; rw [hrl]; omega
theorem Cut_loop (cf : ACall) (hPick : ∀ a h, cf 19 a h = s_Pick a h) (h : Heap) (hf : Fresh h) (s : List Nat) (l : List Int) (vc : V) (hl : slK .i64 h vc = some l) (hs : s.length ≤ 17592186044416) (hlt : ∀ y ∈ s, y < 256) :
    ∀ e, e.n = 47 → e.at 0 = .str s → e.at 1 = vc → e.at 5 = .nilslice → e.at 6 = .int .i64 0 →
    YtpegpafginbhmaaDoorA.Ends (execA cf 60 (.loop c20_l0) e h) fun x e' H => x = .exit 0 ∧ e'.n = 47 ∧ ∃ rest bs xs, e'.at 0 = .str rest ∧ rest.length ≤ s.length ∧ (∀ y ∈ rest, y < 256) ∧ CutInv h H (e'.at 5) bs xs ∧ xs ++ [rest] = cutP 40 l s := by
  intro e hn q0 q1 q5 q6
  have hsl := slK_isSl hl
  have hvl := slK_vlen hl
  have hp := cutP_pos 40 l s
  have hle := cutP_len 40 l s
  obtain ⟨M, hM⟩ : ∃ M, M + 1 = (cutP 40 l s).length := ⟨(cutP 40 l s).length - 1, by omega⟩
  refine loop_count (cf := cf) (N := 60) (c := c20_l0) M
    (fun i e H => e.n = 47 ∧ e.at 1 = vc ∧ e.at 6 = .int .i64 (i : Int) ∧ ∃ rest bs xs, e.at 0 = .str rest ∧ rest.length ≤ s.length ∧ (∀ y ∈ rest, y < 256) ∧ CutInv h H (e.at 5) bs xs ∧ xs.length = i ∧ xs ++ cutP (40 - i) (l.drop i) rest = cutP 40 l s)
    (fun x e' H => x = .exit 0 ∧ e'.n = 47 ∧ ∃ rest bs xs, e'.at 0 = .str rest ∧ rest.length ≤ s.length ∧ (∀ y ∈ rest, y < 256) ∧ CutInv h H (e'.at 5) bs xs ∧ xs ++ [rest] = cutP 40 l s) ?_ ?_ 0 e _ (Nat.zero_le _) ⟨hn, q1, q6, s, [], [], q0, Nat.le_refl _, hlt, ?_, rfl, rfl⟩ (by omega)
  · rintro i e H hi ⟨hn, q1, q6, rest, bs, xs, q0, h1, h2, hI, h3, h4⟩
    have h5 := congrArg List.length h4
    rw [List.length_append] at h5
    obtain ⟨k1, m, c, r, k2, k3, k4⟩ := cutP_more (n := 40 - i) (l := l.drop i) (s := rest) (by omega)
    have hil : i < l.length := by
      have := congrArg List.length k3
      rw [List.length_drop, List.length_cons] at this; omega
    have hc : l[i] = c := by
      have := List.drop_eq_getElem_cons hil
      rw [k3] at this; injection this with a b; exact a.symm
    have hr : l.drop (i + 1) = r := by
      have := List.drop_eq_getElem_cons hil
      rw [k3] at this; injection this with a b; exact b.symm
    have hilI : (i : Int) < (l.length : Int) := by omega
    have hi40 : (i : Int) < 40 := by omega
    have hi40n : i < 40 := by omega
    have hr0 : (0 : Int) < (rest.length : Int) := by omega
    have hload := rd_load (sl_rd (slK_sl (slK_ext hI.2.2.2.2.1 hf hl))) (j := i) (x := .int .i64 c) (by rw [List.getElem?_map, List.getElem?_eq_getElem hil, hc]; rfl)
    have hidx := indexE (z := 1) hsl H (k := .i64) (i := (i : Int)) (by omega) (by rw [hvl]; omega)
    simp only [Int.toNat_natCast, Nat.mul_one] at hidx
    have p0 := Int.emod_nonneg c (show (9 : Int) ≠ 0 by omega)
    have p1 := Int.emod_lt_of_pos c (show (0 : Int) < 9 by omega)
    obtain ⟨k, hk⟩ : ∃ k : Nat, c % 9 = (k : Int) := ⟨(c % 9).toNat, by omega⟩
    have rP : ∀ K, s_Pick [.int .i64 c, .int .i64 9] K = some (.int .i64 (k : Int), K) := fun K => by
      show (if (0 : Int) < 9 ∧ (9 : Int) ≤ 4611686018427387904 then some (V.int .i64 (c % 9), K) else none) = _
      rw [if_pos (by omega), hk]
    rw [hk, Int.toNat_natCast] at k4
    obtain ⟨g, hg⟩ : ∃ g, g = min k rest.length := ⟨_, rfl⟩
    rw [← hg] at k4
    have hgI : (if rest.length < k then (rest.length : Int) else (k : Int)) = (g : Int) := by split <;> omega
    have hgl : g ≤ rest.length := by omega
    have htl : (rest.take g).length = g := by rw [List.length_take]; omega
    obtain ⟨v2, A3, a1, a2⟩ := cut_step (s := rest.take g) hI (by omega)
    obtain ⟨K1, hK1⟩ : ∃ A, A = H.new (.cells (bytesOf (rest.take g)) 5 1 true) := ⟨_, rfl⟩
    rw [← hK1] at a1
    have nK : K1.next = H.next + 1 := by rw [hK1]; rfl
    obtain ⟨K2, hK2⟩ : ∃ A, A = K1.new (.cells [.slice H.next 0 (rest.take g).length none] 22 1 true) := ⟨_, rfl⟩
    rw [← hK2] at a1
    rw [htl] at hK2
    have hg47 : g ≤ 140737488355328 := by omega
    generalize q5 : e.at 5 = w at *
    simp (config := {maxSteps := 1000000, maxDischargeDepth := 9, implicitDefEqProofs := false}) [c20_l0, hn, q0, q1, q5, q6, lenE hsl, hvl, hilI, hil, hi40, hi40n, hr0, k1, hidx, hload, hPick, rP, hgI, hgl, htl, hg47, ← hK1, nK, ← hK2, a1, wrap_i64 (x := (i : Int) + 1) (by omega) (by omega)]
    have cat : xs ++ [rest.take g] ++ cutP (40 - (i + 1)) (l.drop (i + 1)) (rest.drop g) = cutP 40 l s := by
      rw [hr, show 40 - (i + 1) = m from by omega, List.append_assoc, ← h4, k4]; rfl
    rw [show 40 - (i + 1) = 39 - i from by omega] at cat
    exact ⟨by omega, fun y hy => h2 y (List.mem_of_mem_drop hy), _, _, a2, by rw [List.length_append, List.length_singleton, h3], cat⟩
  · rintro e H ⟨hn, q1, q6, rest, bs, xs, q0, h1, h2, hI, h3, h4⟩
    have h5 := congrArg List.length h4
    rw [List.length_append] at h5
    obtain ⟨k1, k2⟩ := cutP_one (n := 40 - M) (l := l.drop M) (s := rest) (by omega)
    rw [k1] at h4
    generalize q5 : e.at 5 = w at *
    rw [List.length_drop] at k2
    by_cases c1 : M < l.length
    · have c1I : (M : Int) < (l.length : Int) := by omega
      by_cases c2 : M < 40
      · have c2I : (M : Int) < 40 := by omega
        have c3 : ¬ (0 : Int) < (rest.length : Int) := by omega
        have c4 : ¬ 0 < rest.length := by omega
        simp (config := {maxSteps := 1000000, maxDischargeDepth := 9, implicitDefEqProofs := false}) [c20_l0, hn, q0, q1, q5, q6, lenE hsl, hvl, c1, c1I, c2, c2I, c3, c4]
        exact ⟨h1, h2, bs, xs, hI, h4⟩
      · have c2I : ¬ (M : Int) < 40 := by omega
        simp (config := {maxSteps := 1000000, maxDischargeDepth := 9, implicitDefEqProofs := false}) [c20_l0, hn, q0, q1, q5, q6, lenE hsl, hvl, c1, c1I, c2, c2I]
        exact ⟨h1, h2, bs, xs, hI, h4⟩
    · have c1I : ¬ (M : Int) < (l.length : Int) := by omega
      simp (config := {maxSteps := 1000000, maxDischargeDepth := 9, implicitDefEqProofs := false}) [c20_l0, hn, q0, q1, q5, q6, lenE hsl, hvl, c1, c1I]
      exact ⟨h1, h2, bs, xs, hI, h4⟩
  · rw [q5]
    exact ⟨rfl, fun j b t hb => by simp at hb, fun i j b hb => by simp at hb, .inl ⟨rfl, rfl, rfl⟩, Ext.refl _, hf⟩
theorem Cut_ok (cf : ACall) (hPick : ∀ a h, cf 19 a h = s_Pick a h) : Sum cf c20 s_Cut := by
  intro args h v h' hf hsc hltA hs
  unfold s_Cut at hs
  split at hs
  · rename_i s vc
    split at hs
    · rename_i l hl
      split at hs
      · rename_i hc
        obtain ⟨hsl, hlt⟩ := hc
        simp only [Option.some.injEq, Prod.mk.injEq] at hs
        obtain ⟨rfl, rfl⟩ := hs
        have hle := cutP_len 40 l s
        have hpos := cutP_pos 40 l s
        refine ⟨60, ?_⟩
        simp (config := {maxSteps := 1000000, maxDischargeDepth := 9, implicitDefEqProofs := false}) [c20]
        refine loop_then (K := fun r => finS _ (seqS _ _ _ (blockS _ r))) (Cut_loop cf hPick h hf s l vc hl hsl hlt _ ?_ ?_ ?_ ?_ ?_) ?_
        iterate 5 simp (config := {maxSteps := 1000000, maxDischargeDepth := 9, implicitDefEqProofs := false})
        rintro x e' H ⟨rfl, hn', rest, bs, xs, q0, h1, h2, hI, h4⟩
        generalize q5 : e'.at 5 = w at *
        have h5 := congrArg List.length h4
        rw [List.length_append, List.length_singleton] at h5
        obtain ⟨v2, A3, a1, a2⟩ := cut_step (s := rest) hI (by omega)
        rw [h4] at a2
        obtain ⟨K1, hK1⟩ : ∃ A, A = H.new (.cells (bytesOf rest) 5 1 true) := ⟨_, rfl⟩
        rw [← hK1] at a1
        have nK : K1.next = H.next + 1 := by rw [hK1]; rfl
        obtain ⟨K2, hK2⟩ : ∃ A, A = K1.new (.cells [.slice H.next 0 rest.length none] 22 1 true) := ⟨_, rfl⟩
        rw [← hK2] at a1
        have hrl : rest.length ≤ 140737488355328 := by omega
        simp (config := {maxSteps := 1000000, maxDischargeDepth := 9, implicitDefEqProofs := false}) [hn', q0, q5, hrl, ← hK1, nK, ← hK2, a1]
        exact cut_canon hf hsc a2 (by omega)
      · cases hs
    · cases hs
  · cases hs

/-- known, where the tables stand in memory. -/
noncomputable def s_kn : List V → Heap → Option (V × Heap) := s_knownG laidVals
theorem s_kn_ok {h : Heap} (hl : hasLaid laidVals h) : s_kn [] h = some (.bool true, h) := if_pos hl
/-- A decoder that holds these bytes. -/
def isDec (H : Heap) (p t : Nat) (s : List Nat) : Prop := (∃ vh, H.get p = some (.cells [vh] t 1 true) ∧ slB H vh = some s ∧ vh = .nilslice) ∨ ∃ q n cs, H.get p = some (.cells [.slice q 0 n none] t 1 true) ∧ slB H (.slice q 0 n none) = some s ∧ q ≠ p ∧ H.get q = some (.cells cs 5 1 true)
theorem isDec.get {H : Heap} {p t : Nat} {s : List Nat} (hd : isDec H p t s) : ∃ vh, H.get p = some (.cells [vh] t 1 true) ∧ slB H vh = some s := by
  obtain ⟨vh, h1, h2, _⟩ | ⟨q, n, cs, h1, h2, _⟩ := hd
  · exact ⟨_, h1, h2⟩
  · exact ⟨_, h1, h2⟩
theorem isDec.keep {H H' : Heap} {p t : Nat} {s : List Nat} (hd : isDec H p t s) (hp : H'.get p = H.get p) (hq : ∀ q cs, q ≠ p → H.get q = some (.cells cs 5 1 true) → H'.get q = H.get q) : isDec H' p t s := by
  obtain ⟨vh, h1, h2, rfl⟩ | ⟨q, n, cs, h1, h2, h3, h4⟩ := hd
  · exact .inl ⟨_, by rw [hp]; exact h1, (show slB H' .nilslice = slB H .nilslice from rfl).trans h2, rfl⟩
  · have := hq q cs h3 h4
    exact .inr ⟨q, n, cs, by rw [hp]; exact h1, by rw [slB_same4 this]; exact h2, h3, by rw [this]; exact h4⟩
theorem isDec.ext {H H' : Heap} {p t : Nat} {s : List Nat} (hd : isDec H p t s) (hF : Fresh H) (hE : Ext H H') : isDec H' p t s := by
  obtain ⟨vh, h1, _⟩ := hd.get
  exact hd.keep (by rw [hE.get hF h1, h1]) fun q cs _ hq => by rw [hE.get hF hq, hq]
theorem isDec_new (H : Heap) (t : Nat) : isDec (H.new (.cells [.nilslice] t 1 true)) H.next t [] := .inl ⟨_, by rw [Heap.get_new]; exact if_pos rfl, slB_nil, rfl⟩
theorem held_ret {H : Heap} {p t : Nat} {s : List Nat} (hd : isDec H p t s) : s_Held [.ptr p 0] H = some (.int .i64 (s.length : Int), H) := by
  obtain ⟨vh, h1, h2⟩ := hd.get
  unfold s_Held
  simp only [h1]
  rw [if_pos (slB_isSl h2), slB_vlen h2]
/-- What Feed does to a decoder, and what it tells. -/
theorem feed_run {H : Heap} {p t : Nat} {a b : List Nat} {vb : V} (hd : isDec H p t a) (hb : slB H vb = some b) (hF : Fresh H) (hL : hasLaid laidVals H) (hl : a.length + b.length ≤ 17592186044416) :
    ∃ H' v, s_Feed [.ptr p 0, vb] H = some (v, H') ∧ slK .i32 H' v = some (runesL ((a ++ b).take (cutN (a ++ b)))) ∧ isDec H' p t ((a ++ b).drop (cutN (a ++ b))) ∧ Fresh H' ∧ (∀ q, q ≠ p → q < H.next → H'.get q = H.get q) ∧ H.next ≤ H'.next ∧ (v = .nilslice ∨ ∃ q n cs, v = .slice q 0 n none ∧ H.next ≤ q ∧ H'.get q = some (.cells cs 21 1 true)) := by
  obtain ⟨vh, g1, g2⟩ := hd.get
  have hp := hF.lt g1
  have hlt : ∀ y ∈ (a ++ b).drop (cutN (a ++ b)), y < 256 := fun y hy => by
    have hy := List.mem_of_mem_drop hy
    rcases List.mem_append.1 hy with hy | hy
    · exact slB_lt g2 y hy
    · exact slB_lt hb y hy
  have hc := (cutN_spec (a ++ b)).2.1
  have hr : s_Feed [.ptr p 0, vb] H = (if cutN (a ++ b) = 0 then some (.nilslice, feedH H p t (a ++ b)) else some (.slice (H.next + 1) 0 (runesL ((a ++ b).take (cutN (a ++ b)))).length none, (feedH H p t (a ++ b)).new (.cells ((runesL ((a ++ b).take (cutN (a ++ b)))).map (V.int .i32)) 21 1 true))) := by
    unfold s_Feed
    simp only [g1, g2, hb]
    rw [if_pos ⟨hL, by rw [List.length_append]; exact hl⟩]
  have hdl : ((a ++ b).drop (cutN (a ++ b))).length = (a ++ b).length - cutN (a ++ b) := List.length_drop
  generalize hs : a ++ b = s at *
  have n1 : (feedH H p t s).next = H.next + 1 := rfl
  have f1 : Fresh (feedH H p t s) := by unfold feedH; exact (hF.set hp _).new _
  have gp : (feedH H p t s).get p = some (.cells [.slice H.next 0 (s.length - cutN s) none] t 1 true) := by
    unfold feedH
    rw [Heap.get_new, if_neg (by show ¬ p = H.next; omega), Heap.get_set, if_pos rfl]
  have gq : (feedH H p t s).get H.next = some (.cells (bytesOf (s.drop (cutN s))) 5 1 true) := by
    unfold feedH; rw [Heap.get_new]; exact if_pos rfl
  have sq : slB (feedH H p t s) (.slice H.next 0 (s.length - cutN s) none) = some (s.drop (cutN s)) := by
    rw [← hdl]
    exact slB_selfE (h := H.set p (some (.cells [.slice H.next 0 (s.length - cutN s) none] t 1 true))) rfl rfl (.inl rfl) hlt
  have hd1 : isDec (feedH H p t s) p t (s.drop (cutN s)) := .inr ⟨H.next, _, _, gp, sq, by omega, gq⟩
  have hk : ∀ q, q ≠ p → q < H.next → (feedH H p t s).get q = H.get q := fun q h1 h2 => by
    unfold feedH
    rw [Heap.get_new, if_neg (by show ¬ q = H.next; omega), Heap.get_set, if_neg h1]
  by_cases h0 : cutN s = 0
  · rw [if_pos h0] at hr
    refine ⟨_, _, hr, ?_, hd1, f1, hk, by omega, .inl rfl⟩
    rw [h0, List.take_zero, runesL_nil]
    exact slK_nil _
  · rw [if_neg h0] at hr
    refine ⟨_, _, hr, ?_, hd1.ext f1 (Ext.new _ _), f1.new _, fun q h1 h2 => ?_, by rw [Heap.next_new]; omega, .inr ⟨_, _, _, rfl, by omega, by rw [Heap.get_new]; exact if_pos rfl⟩⟩
    · exact slK_selfE rfl rfl (.inl rfl)
    · rw [Heap.get_new, if_neg (by rw [n1]; omega)]; exact hk q h1 h2

/-- The bytes that the law draws of. -/
def tbl16 : List Nat := [65, 195, 169, 226, 130, 172, 240, 159, 152, 128, 237, 160, 244, 144, 192, 224]
def mk1 (z : Int) : Nat := tbl16.getD (z % 16).toNat 0
def mkB (l : List Int) : List Nat := (l.take 60).map mk1
theorem mk1_lt (z : Int) : mk1 z < 256 := by
  have h0 := Int.emod_nonneg z (show (16 : Int) ≠ 0 by omega)
  have h1 := Int.emod_lt_of_pos z (show (0 : Int) < 16 by omega)
  unfold mk1
  have : ∀ k, k < 16 → tbl16.getD k 0 < 256 := by decide
  exact this _ (by omega)
theorem mkB_lt (l : List Int) : ∀ y ∈ mkB l, y < 256 := fun y hy => by
  obtain ⟨z, _, rfl⟩ := List.mem_map.1 hy; exact mk1_lt z
theorem mkB_length (l : List Int) : (mkB l).length = min 60 l.length := by unfold mkB; rw [List.length_map, List.length_take]
/-- portholelaw19.bytes. -/
def s_lbytes : List V → Heap → Option (V × Heap)
  | [_, vb, .bool true], h => some (vb, h)
  | [vl, _, .bool false], h => match slK .i64 h vl with
    | some l => if l.length = 0 then some (.nilslice, h) else some (newV h (mkB l).length, h.new (.cells (bytesOf (mkB l)) 5 1 true))
    | none => none
  | _, _ => none
theorem lbytes_ok (cf : ACall) (hPick : ∀ a h, cf 19 a h = s_Pick a h) : Sum cf c14 s_lbytes := by
  intro args h v h' hf hsc hlt hs
  unfold s_lbytes at hs
  split at hs
  · rename_i vl vb
    simp only [Option.some.injEq, Prod.mk.injEq] at hs
    obtain ⟨rfl, rfl⟩ := hs
    have hlv : V.lt h.next vb := hlt.2.1
    refine ⟨1, ?_⟩
    simp (config := {maxSteps := 1000000, maxDischargeDepth := 9, implicitDefEqProofs := false}) [c14]
    exact Canon.keep hf hsc (Ext.refl _) hlv
  · rename_i vl vb
    split at hs
    · rename_i l hl
      have hsl := slK_isSl hl
      have hvl := slK_vlen hl
      obtain ⟨M, hM⟩ : ∃ M, M = min 60 l.length := ⟨_, rfl⟩
      have L := loop_count (cf := cf) (N := 70) (c := c14_l0) M
        (fun i e H => e.n = 32 ∧ e.at 0 = vl ∧ e.at 8 = .int .i64 (i : Int) ∧ OwnB h H 5 (e.at 7) ((l.take i).map mk1) ∧ Ext h H ∧ Fresh H ∧ (i = 0 → e.at 7 = .nilslice))
        (fun x e H => x = .exit 0 ∧ e.n = 32 ∧ OwnB h H 5 (e.at 7) (mkB l) ∧ Ext h H ∧ Fresh H ∧ (l.length = 0 → e.at 7 = .nilslice))
        (by
          rintro i e H hi ⟨hn, q0, q8, ho, hE, hF, hz⟩
          have hil : i < l.length := by omega
          have hi60 : (i : Int) < 60 := by omega
          have hilI : (i : Int) < (l.length : Int) := by omega
          have hload := rd_load (sl_rd (slK_sl (slK_ext hE hf hl))) (j := i) (x := .int .i64 l[i]) (by rw [List.getElem?_map, List.getElem?_eq_getElem hil]; rfl)
          have hidx := indexE (z := 1) hsl H (k := .i64) (i := (i : Int)) (by omega) (by rw [hvl]; omega)
          simp only [Int.toNat_natCast, Nat.mul_one] at hidx
          have p0 := Int.emod_nonneg l[i] (show (16 : Int) ≠ 0 by omega)
          have p1 := Int.emod_lt_of_pos l[i] (show (0 : Int) < 16 by omega)
          obtain ⟨k, hk⟩ : ∃ k : Nat, l[i] % 16 = (k : Int) := ⟨(l[i] % 16).toNat, by omega⟩
          have rP : ∀ K, s_Pick [.int .i64 l[i], .int .i64 16] K = some (.int .i64 (k : Int), K) := fun K => by
            show (if (0 : Int) < 16 ∧ (16 : Int) ≤ 4611686018427387904 then some (V.int .i64 (l[i] % 16), K) else none) = _
            rw [if_pos (by omega), hk]
          have hmk : mk1 l[i] = tbl16.getD k 0 := by unfold mk1; rw [hk]; rfl
          have hb := mk1_lt l[i]
          have hk16 : k < 16 := by omega
          have hkI : (k : Int) < 16 := by omega
          have hge : ∀ hh : k < ([V.int .u8 65, V.int .u8 195, V.int .u8 169, V.int .u8 226, V.int .u8 130, V.int .u8 172, V.int .u8 240, V.int .u8 159, V.int .u8 152, V.int .u8 128, V.int .u8 237, V.int .u8 160, V.int .u8 244, V.int .u8 144, V.int .u8 192, V.int .u8 224] : List V).length, ([V.int .u8 65, V.int .u8 195, V.int .u8 169, V.int .u8 226, V.int .u8 130, V.int .u8 172, V.int .u8 240, V.int .u8 159, V.int .u8 152, V.int .u8 128, V.int .u8 237, V.int .u8 160, V.int .u8 244, V.int .u8 144, V.int .u8 192, V.int .u8 224] : List V)[k]'hh = .int .u8 (mk1 l[i] : Nat) := fun hh => by
            have h1 : ([V.int .u8 65, V.int .u8 195, V.int .u8 169, V.int .u8 226, V.int .u8 130, V.int .u8 172, V.int .u8 240, V.int .u8 159, V.int .u8 152, V.int .u8 128, V.int .u8 237, V.int .u8 160, V.int .u8 244, V.int .u8 144, V.int .u8 192, V.int .u8 224] : List V)[k]? = some (.int .u8 (mk1 l[i] : Nat)) := by
              rw [hmk]
              have : (bytesOf tbl16)[k]? = some (.int .u8 (tbl16.getD k 0 : Nat)) := by
                rw [bytesOf, List.getElem?_map, List.getD_eq_getElem?_getD, List.getElem?_eq_getElem (by exact hk16)]; rfl
              exact this
            exact (List.getElem?_eq_some_iff.1 h1).2
          have hnext : (l.take (i + 1)).map mk1 = (l.take i).map mk1 ++ [mk1 l[i]] := by rw [List.take_succ_eq_append_getElem hil, List.map_append]; rfl
          have hll : ((l.take i).map mk1).length = i := by rw [List.length_map, List.length_take]; omega
          generalize mk1 l[i] = y at *
          obtain ⟨A2, hA2⟩ : ∃ A, A = H.new (.cells [.int .u8 (y : Int)] 5 1 true) := ⟨_, rfl⟩
          have e2 : Ext h A2 := by rw [hA2]; exact hE.trans_new _
          have f2 : Fresh A2 := by rw [hA2]; exact hF.new _
          have ho2 : OwnB h A2 5 (e.at 7) ((l.take i).map mk1) := by rw [hA2]; exact Own.ext_new _ ho hF
          have hadd : added A2 1 (.slice H.next 0 1 (some 1)) = some (bytesOf [y], [y].length) := by
            have : sl A2 1 (.slice H.next 0 1 (some 1)) = some (bytesOf [y]) := by rw [hA2]; exact sl_selfE rfl rfl (.inr rfl)
            exact rd_added (sl_rd this)
          obtain ⟨v2, A3, k1, k2, k3, k4, _⟩ := ho2.app e2 f2 hadd (by
            have : lim = 140737488354304 := rfl
            rw [hll, this, List.length_singleton]; omega)
          rw [← hnext] at k2
          generalize q7 : e.at 7 = w at *
          simp (config := {maxSteps := 1000000, maxDischargeDepth := 9, implicitDefEqProofs := false}) [c14_l0, hn, q0, q8, q7, lenE hsl, hvl, hilI, hil, hi60, show i < 60 from by omega, hidx, hload, hPick, rP, hkI, hk16, hge, ← hA2, k1, wrap_i64 (x := (i : Int) + 1) (by omega) (by omega)]
          exact ⟨by rw [← List.map_take]; exact k2, k3, k4⟩)
        (by
          rintro e H ⟨hn, q0, q8, ho, hE, hF, hz⟩
          have hmk : (l.take M).map mk1 = mkB l := by
            unfold mkB
            rw [hM]
            rcases Nat.lt_or_ge l.length 60 with h | h
            · rw [Nat.min_eq_right (by omega), List.take_length, List.take_of_length_le (by omega)]
            · rw [Nat.min_eq_left (by omega)]
          rw [hmk] at ho
          have hz2 : l.length = 0 → e.at 7 = .nilslice := fun h => hz (by omega)
          by_cases h60 : 60 ≤ l.length
          · have : M = 60 := by omega
            subst this
            simp (config := {maxSteps := 1000000, maxDischargeDepth := 9, implicitDefEqProofs := false}) [c14_l0, hn, q0, q8, lenE hsl, hvl]
            by_cases hq : (60 : Int) < (l.length : Int)
            · simp (config := {maxSteps := 1000000, maxDischargeDepth := 9, implicitDefEqProofs := false}) [hq, hn]
              exact ⟨ho, hE, hF, by simpa using hz2⟩
            · simp (config := {maxSteps := 1000000, maxDischargeDepth := 9, implicitDefEqProofs := false}) [hq, hn]
              exact ⟨ho, hE, hF, by simpa using hz2⟩
          · have : M = l.length := by omega
            subst this
            simp (config := {maxSteps := 1000000, maxDischargeDepth := 9, implicitDefEqProofs := false}) [c14_l0, hn, q0, q8, lenE hsl, hvl]
            exact ⟨ho, hE, hF, by simpa using hz2⟩)
      refine ⟨70, ?_⟩
      simp (config := {maxSteps := 1000000, maxDischargeDepth := 9, implicitDefEqProofs := false}) [c14]
      refine loop_then (K := fun r => finS _ (seqS _ _ _ (blockS _ r))) (L 0 _ _ (Nat.zero_le _) ?_ (by omega)) ?_
      · simp (config := {maxSteps := 1000000, maxDischargeDepth := 9, implicitDefEqProofs := false})
        exact ⟨.inl ⟨rfl, rfl, rfl⟩, Ext.refl _, hf⟩
      · rintro x e' H ⟨rfl, hn, ho, hE, hF, hz⟩
        generalize q7 : e'.at 7 = w at *
        split at hs
        · rename_i h0
          simp only [Option.some.injEq, Prod.mk.injEq] at hs
          obtain ⟨rfl, rfl⟩ := hs
          have := hz h0
          subst this
          simp (config := {maxSteps := 1000000, maxDischargeDepth := 9, implicitDefEqProofs := false}) [hn, q7]
          exact Canon.keep hf hsc hE (by simp only [V.lt])
        · rename_i h0
          simp only [Option.some.injEq, Prod.mk.injEq] at hs
          obtain ⟨rfl, rfl⟩ := hs
          have hne : w ≠ .nilslice := by
            rcases ho with ⟨_, hh, _⟩ | ⟨b, c, rfl, _⟩
            · rw [mkB_length] at hh; omega
            · intro e; cases e
          simp (config := {maxSteps := 1000000, maxDischargeDepth := 9, implicitDefEqProofs := false}) [hn, q7]
          exact ho.canon hf hsc hE hne
    · cases hs
  · cases hs

/-- What Flush does to a decoder, and what it tells. -/
theorem flush_run {H : Heap} {p t : Nat} {s : List Nat} (hd : isDec H p t s) (hF : Fresh H) (hl : s.length ≤ 17592186044416) :
    ∃ B v, s_Flush [.ptr p 0] H = some (v, B) ∧ slK .i32 B v = some (List.replicate s.length 65533) ∧ isDec B p t [] ∧ Fresh B ∧ (∀ q, q ≠ p → q < H.next → B.get q = H.get q) ∧ H.next ≤ B.next := by
  obtain ⟨vh, g1, g2⟩ := hd.get
  have hp := hF.lt g1
  obtain ⟨B1, hB1⟩ : ∃ A, A = H.set p (some (.cells [.nilslice] t 1 true)) := ⟨_, rfl⟩
  have f1 : Fresh B1 := by rw [hB1]; exact hF.set hp _
  have n1 : B1.next = H.next := by rw [hB1]; rfl
  have gp : B1.get p = some (.cells [.nilslice] t 1 true) := by rw [hB1, Heap.get_set]; exact if_pos rfl
  have hd1 : isDec B1 p t [] := .inl ⟨_, gp, slB_nil, rfl⟩
  have hk : ∀ q, q ≠ p → q < H.next → B1.get q = H.get q := fun q h1 _ => by rw [hB1, Heap.get_set, if_neg h1]
  have hr : s_Flush [.ptr p 0] H = (if s.length = 0 then some (.nilslice, B1) else some (.slice H.next 0 s.length none, B1.new (.cells ((List.replicate s.length (65533 : Int)).map (V.int .i32)) 21 1 true))) := by
    unfold s_Flush
    simp only [g1, g2]
    rw [if_pos hl, hB1]
  by_cases h0 : s.length = 0
  · rw [if_pos h0] at hr
    refine ⟨_, _, hr, ?_, hd1, f1, hk, by omega⟩
    rw [h0]; exact slK_nil _
  · rw [if_neg h0] at hr
    refine ⟨_, _, hr, ?_, hd1.ext f1 (Ext.new _ _), f1.new _, fun q h1 h2 => ?_, by rw [Heap.next_new]; omega⟩
    · exact slK_selfE (h := B1) n1.symm (List.length_replicate ..) (.inl rfl)
    · rw [Heap.get_new, if_neg (by omega)]; exact hk q h1 h2
theorem runes_run {H : Heap} {s : List Nat} (hF : Fresh H) (hl : s.length ≤ 17592186044416) :
    ∃ B v, s_Runes [.str s] H = some (v, B) ∧ slK .i32 B v = some (runesL s) ∧ Fresh B ∧ Ext H B := by
  by_cases h0 : s.length = 0
  · refine ⟨H, .nilslice, ?_, ?_, hF, Ext.refl _⟩
    · unfold s_Runes; simp only; rw [if_pos hl, if_pos h0]
    · have : s = [] := List.length_eq_zero_iff.1 h0
      subst this; exact slK_nil _
  · refine ⟨_, _, ?_, slK_selfE (h := H) (t := 21) (own := true) (n := (runesL s).length) (c := none) rfl rfl (.inl rfl), hF.new _, Ext.new _ _⟩
    unfold s_Runes; simp only; rw [if_pos hl, if_neg h0]; rfl
theorem same_run {H : Heap} {v w : V} {a : List Int} (hv : slK .i32 H v = some a) (hw : slK .i32 H w = some a) (hl : a.length ≤ 140737488354304) : s_same [v, w] H = some (.bool true, H) := by
  have hlm : lim = 140737488354304 := rfl
  unfold s_same
  simp only [hv, hw]
  rw [if_pos (by omega)]
  simp
theorem lbytes_run {h : Heap} {vl vb : V} {l : List Int} {b : List Nat} (any : Bool) (hf : Fresh h) (hl : slK .i64 h vl = some l) (hb : slB h vb = some b) (hbl : b.length ≤ 1048576) :
    ∃ va h1 s, s_lbytes [vl, vb, .bool any] h = some (va, h1) ∧ slB h1 va = some s ∧ Ext h h1 ∧ Fresh h1 ∧ s.length ≤ 1048576 ∧ ∀ y ∈ s, y < 256 := by
  cases any with
  | true => exact ⟨vb, h, b, rfl, hb, Ext.refl _, hf, hbl, slB_lt hb⟩
  | false =>
    have hml := mkB_length l
    by_cases h0 : l.length = 0
    · refine ⟨.nilslice, h, mkB l, by unfold s_lbytes; simp only [hl]; rw [if_pos h0], ?_, Ext.refl _, hf, by omega, mkB_lt l⟩
      have : l = [] := List.length_eq_zero_iff.1 h0
      subst this; rfl
    · exact ⟨_, _, mkB l, by unfold s_lbytes; simp only [hl]; rw [if_neg h0]; rfl, slB_selfE rfl rfl (.inl rfl) (mkB_lt l), Ext.new h _, hf.new _, by omega, mkB_lt l⟩

/-- portholeref19.may: may these few bytes be the beginning of a rune? -/
def mayB (s : List Nat) : Bool := decide (0 < s.length ∧ s.length ≤ 3 ∧ s.length < sz (s.getD 0 0) ∧ (1 < s.length → lo (s.getD 0 0) ≤ s.getD 1 0 ∧ s.getD 1 0 ≤ hi (s.getD 0 0)) ∧ (2 < s.length → 128 ≤ s.getD 2 0 ∧ s.getD 2 0 ≤ 191))
def s_may : List V → Heap → Option (V × Heap)
  | [v], h => match slB h v with
    | some s => some (.bool (mayB s), h)
    | none => none
  | _, _ => none
theorem may_ok (cf : ACall) : Sum cf c26 s_may := by
  intro args h v h' hf hsc hlt hs
  unfold s_may at hs
  split at hs
  · rename_i vb
    split at hs
    · rename_i s hb
      simp only [Option.some.injEq, Prod.mk.injEq] at hs
      obtain ⟨rfl, rfl⟩ := hs
      have hsl := slB_isSl hb
      have hvl := slB_vlen hb
      have hltb := slB_lt hb
      refine ⟨10, ?_⟩
      by_cases h0 : s.length = 0
      · have : mayB s = false := by unfold mayB; simp [h0]
        rw [this]
        have h0' : ((s.length : Int) == 0) = true := beq_iff_eq.2 (by omega)
        simp (config := {maxSteps := 1000000, maxDischargeDepth := 9, implicitDefEqProofs := false}) [c26, lenE hsl, hvl, h0']
        exact Canon.keep hf hsc (Ext.refl _) (by simp only [V.lt])
      have h0' : ((s.length : Int) == 0) = false := beq_eq_false_iff_ne.2 (by omega)
      by_cases h3 : 3 < s.length
      · have : mayB s = false := by unfold mayB; exact decide_eq_false fun h => by omega
        rw [this]
        have h3' : (3 : Int) < (s.length : Int) := by omega
        simp (config := {maxSteps := 1000000, maxDischargeDepth := 9, implicitDefEqProofs := false}) [c26, lenE hsl, hvl, h0', h3, h3']
        exact Canon.keep hf hsc (Ext.refl _) (by simp only [V.lt])
      have h3' : ¬ (3 : Int) < (s.length : Int) := by omega
      have ix : ∀ k, k < s.length → indexAddrSS 1 vb (.int .i64 (k : Int)) h = some (atP vb k, h) := fun k hk => by
        have := indexE (z := 1) hsl h (k := .i64) (i := (k : Int)) (by omega) (by rw [hvl]; omega)
        simpa only [Int.toNat_natCast, Nat.mul_one] using this
      have ld : ∀ k, k < s.length → loadS (atP vb k) h = some (.int .u8 (s.getD k 0 : Nat), h) := fun k hk => rd_load (sl_rd (slB_sl hb).1) (j := k) (by rw [bytesOf, List.getElem?_map, List.getD_eq_getElem?_getD, List.getElem?_eq_getElem hk]; rfl)
      have i0 : indexAddrSS 1 vb (.int .i64 0) h = some (atP vb 0, h) := ix 0 (by omega)
      have l0 := ld 0 (by omega)
      have hc := hltb (s.getD 0 0) (by rw [List.getD_eq_getElem?_getD, List.getElem?_eq_getElem (by omega)]; exact List.getElem_mem _)
      -- the class of the first byte
      have key : ∀ e H, e.n = 72 → e.at 0 = vb → e.at 4 = .int .i64 ((if sz (s.getD 0 0) ≤ 1 then 0 else sz (s.getD 0 0) : Nat) : Int) → e.at 5 = .int .u8 (lo (s.getD 0 0) : Nat) → e.at 6 = .int .u8 (hi (s.getD 0 0) : Nat) → H = h →
          Runs (finS [ARes.tmp 2] (execA cf 10 c26_s7 e H)) fun v2 h2 => ∃ τ, Canon h.next h2 v2 h (.bool (mayB s)) τ := by
        intro e H hn q0 q4 q5 q6 hH
        subst hH
        obtain ⟨n, hnn⟩ : ∃ n, n = (if sz (s.getD 0 0) ≤ 1 then 0 else sz (s.getD 0 0)) := ⟨_, rfl⟩
        rw [← hnn] at q4
        by_cases hlen : n ≤ s.length
        · have hm : mayB s = false := by
            unfold mayB
            refine decide_eq_false fun h => ?_
            split at hnn <;> omega
          rw [hm]
          have hlenI : (n : Int) ≤ (s.length : Int) := by omega
          simp (config := {maxSteps := 1000000, maxDischargeDepth := 9, implicitDefEqProofs := false}) [c26_s7, hn, q0, q4, lenE hsl, hvl, hlen, hlenI]
          exact Canon.keep hf hsc (Ext.refl _) (by simp only [V.lt])
        have hlenI : ¬ (n : Int) ≤ (s.length : Int) := by omega
        have hsz : s.length < sz (s.getD 0 0) := by split at hnn <;> omega
        have L := loop_count (cf := cf) (N := 10) (c := c26_l0) (s.length - 1)
          (fun i e H' => e.n = 72 ∧ e.at 0 = vb ∧ e.at 5 = .int .u8 ((if i = 0 then lo (s.getD 0 0) else 128 : Nat) : Int) ∧ e.at 6 = .int .u8 ((if i = 0 then hi (s.getD 0 0) else 191 : Nat) : Int) ∧ e.at 7 = .int .i64 ((i + 1 : Nat) : Int) ∧ H' = H ∧ (0 < i → lo (s.getD 0 0) ≤ s.getD 1 0 ∧ s.getD 1 0 ≤ hi (s.getD 0 0)) ∧ (1 < i → 128 ≤ s.getD 2 0 ∧ s.getD 2 0 ≤ 191))
          (fun x e' H' => (x = .ret ∧ e'.at 2 = .bool false ∧ mayB s = false ∨ x = .exit 1 ∧ mayB s = true) ∧ e'.n = 72 ∧ H' = H)
          (by
            rintro i e H' hik ⟨hn, q0, q5, q6, q7, rfl, g1, g2⟩
            have hk : i + 1 < s.length := by omega
            have hkI : ((i + 1 : Nat) : Int) < (s.length : Int) := by omega
            have i1 := ix (i + 1) hk
            have l1 := ld (i + 1) hk
            have w1 : wrapF .i64 (((i + 1 : Nat) : Int) + 1) = ((i + 1 + 1 : Nat) : Int) := by rw [wrap_i64 (by omega) (by omega)]; omega
            have hbad : (s.getD (i + 1) 0 < (if i = 0 then lo (s.getD 0 0) else 128) ∨ (if i = 0 then hi (s.getD 0 0) else 191) < s.getD (i + 1) 0) → mayB s = false := fun hb => by
              unfold mayB
              refine decide_eq_false fun h => ?_
              obtain ⟨_, _, _, h4, h5⟩ := h
              by_cases hi0 : i = 0
              · subst hi0
                have := h4 (by omega)
                rw [if_pos rfl, if_pos rfl] at hb
                simp only [Nat.zero_add] at hb
                omega
              · have hi1 : i = 1 := by omega
                subst hi1
                have := h5 (by omega)
                rw [if_neg hi0, if_neg hi0] at hb
                simp only [show 1 + 1 = 2 from rfl] at hb
                omega
            have hgood : ¬ (s.getD (i + 1) 0 < (if i = 0 then lo (s.getD 0 0) else 128) ∨ (if i = 0 then hi (s.getD 0 0) else 191) < s.getD (i + 1) 0) → (0 < i + 1 → lo (s.getD 0 0) ≤ s.getD 1 0 ∧ s.getD 1 0 ≤ hi (s.getD 0 0)) ∧ (1 < i + 1 → 128 ≤ s.getD 2 0 ∧ s.getD 2 0 ≤ 191) := fun hb => by
              by_cases hi0 : i = 0
              · subst hi0
                rw [if_pos rfl, if_pos rfl] at hb
                simp only [Nat.zero_add] at hb
                exact ⟨fun _ => by omega, fun h => by omega⟩
              · have hi1 : i = 1 := by omega
                subst hi1
                rw [if_neg hi0, if_neg hi0] at hb
                simp only [show 1 + 1 = 2 from rfl] at hb
                exact ⟨fun _ => g1 (by omega), fun _ => by omega⟩
            generalize (if i = 0 then lo (s.getD 0 0) else 128) = a at *
            generalize (if i = 0 then hi (s.getD 0 0) else 191) = b at *
            generalize hy : s.getD (i + 1) 0 = y at *
            have hi0 : ¬ i + 1 = 0 := by omega
            have e1 : ((if i + 1 = 0 then lo (s.getD 0 0) else 128 : Nat) : Int) = 128 := by rw [if_neg hi0]; rfl
            have e2 : ((if i + 1 = 0 then hi (s.getD 0 0) else 191 : Nat) : Int) = 191 := by rw [if_neg hi0]; rfl
            rw [e1, e2]
            generalize i + 1 = k at *
            by_cases c1 : y < a
            · have c1I : (y : Int) < (a : Int) := by omega
              have hm := hbad (.inl c1)
              simp (config := {maxSteps := 1000000, maxDischargeDepth := 9, implicitDefEqProofs := false}) [c26_l0, hn, q0, q5, q6, q7, lenE hsl, hvl, hk, hkI, i1, l1, c1, c1I]
              exact hm
            have c1I : ¬ (y : Int) < (a : Int) := by omega
            by_cases c2 : b < y
            · have c2I : (b : Int) < (y : Int) := by omega
              have hm := hbad (.inr c2)
              simp (config := {maxSteps := 1000000, maxDischargeDepth := 9, implicitDefEqProofs := false}) [c26_l0, hn, q0, q5, q6, q7, lenE hsl, hvl, hk, hkI, i1, l1, c1, c1I, c2, c2I]
              exact hm
            have c2I : ¬ (b : Int) < (y : Int) := by omega
            obtain ⟨m1, m2⟩ := hgood (fun h => h.elim c1 c2)
            simp (config := {maxSteps := 1000000, maxDischargeDepth := 9, implicitDefEqProofs := false}) [c26_l0, hn, q0, q5, q6, q7, lenE hsl, hvl, hk, hkI, i1, l1, c1, c1I, c2, c2I, w1]
            exact ⟨by simpa using m1, by simpa using m2⟩)
          (by
            rintro e H' ⟨hn, q0, q5, q6, q7, rfl, g1, g2⟩
            have hm : mayB s = true := by
              unfold mayB
              exact decide_eq_true ⟨by omega, by omega, hsz, fun h => g1 (by omega), fun h => g2 (by omega)⟩
            have hk : ¬ ((s.length - 1 + 1 : Nat) : Int) < (s.length : Int) := by omega
            generalize s.length - 1 + 1 = k at *
            simp (config := {maxSteps := 1000000, maxDischargeDepth := 9, implicitDefEqProofs := false}) [c26_l0, hn, q0, q7, lenE hsl, hvl, hk]
            exact hm)
        simp (config := {maxSteps := 1000000, maxDischargeDepth := 9, implicitDefEqProofs := false}) [c26_s7, hn, q0, q4, lenE hsl, hvl, hlen, hlenI]
        refine loop_then (K := fun r => finS _ (seqS _ _ _ (blockS _ r))) (L 0 _ _ (Nat.zero_le _) ?_ (by omega)) ?_
        · simp (config := {maxSteps := 1000000, maxDischargeDepth := 9, implicitDefEqProofs := false}) [hn, q0, q5, q6]
        · rintro x e2 H2 ⟨hx, hn2, rfl⟩
          rcases hx with ⟨rfl, p2, hm⟩ | ⟨rfl, hm⟩
          · rw [hm]
            simp (config := {maxSteps := 1000000, maxDischargeDepth := 9, implicitDefEqProofs := false}) [hn2, p2]
            exact Canon.keep hf hsc (Ext.refl _) (by simp only [V.lt])
          · rw [hm]
            simp (config := {maxSteps := 1000000, maxDischargeDepth := 9, implicitDefEqProofs := false}) [hn2]
            exact Canon.keep hf hsc (Ext.refl _) (by simp only [V.lt])
      generalize hC : s.getD 0 0 = c at *
      have cases : c < 194 ∨ 194 ≤ c ∧ c < 224 ∨ c = 224 ∨ 225 ≤ c ∧ c < 237 ∨ c = 237 ∨ 238 ≤ c ∧ c < 240 ∨ c = 240 ∨ 241 ≤ c ∧ c < 244 ∨ c = 244 ∨ 245 ≤ c := by omega
      rcases cases with hcl | hcl | hcl | hcl | hcl | hcl | hcl | hcl | hcl | hcl
      · have a1I : ¬ (194 : Int) ≤ (c : Int) := by omega
        have a1N : ¬ 194 ≤ c := by omega
        have a2I : (c : Int) ≤ 223 := by omega
        have a2N : c ≤ 223 := by omega
        have a3I : ¬ (224 : Int) ≤ (c : Int) := by omega
        have a3N : ¬ 224 ≤ c := by omega
        have a4I : (c : Int) ≤ 239 := by omega
        have a4N : c ≤ 239 := by omega
        have a5I : ¬ (240 : Int) ≤ (c : Int) := by omega
        have a5N : ¬ 240 ≤ c := by omega
        have a6I : (c : Int) ≤ 244 := by omega
        have a6N : c ≤ 244 := by omega
        have b1 : ((c : Int) == 224) = false := beq_eq_false_iff_ne.2 (by omega)
        have b2 : ((c : Int) == 237) = false := beq_eq_false_iff_ne.2 (by omega)
        have b3 : ((c : Int) == 240) = false := beq_eq_false_iff_ne.2 (by omega)
        have b4 : ((c : Int) == 244) = false := beq_eq_false_iff_ne.2 (by omega)
        have hz : (if sz c ≤ 1 then 0 else sz c) = 0 := by unfold sz; (repeat' split) <;> omega
        have hlo : lo c = 128 := by unfold lo; (repeat' split) <;> omega
        have hhi : hi c = 191 := by unfold hi; (repeat' split) <;> omega
        rw [hz, hlo, hhi] at key
        simp (config := {maxSteps := 1000000, maxDischargeDepth := 9, implicitDefEqProofs := false}) [c26, lenE hsl, hvl, h0', h3, h3', i0, l0, a1I, a1N, a2I, a2N, a3I, a3N, a4I, a4N, a5I, a5N, a6I, a6N, b1, b2, b3, b4]
        refine key _ _ ?_ ?_ ?_ ?_ ?_ rfl <;> simp (config := {maxSteps := 1000000, maxDischargeDepth := 9, implicitDefEqProofs := false})
      · have a1I : (194 : Int) ≤ (c : Int) := by omega
        have a1N : 194 ≤ c := by omega
        have a2I : (c : Int) ≤ 223 := by omega
        have a2N : c ≤ 223 := by omega
        have a3I : ¬ (224 : Int) ≤ (c : Int) := by omega
        have a3N : ¬ 224 ≤ c := by omega
        have a4I : (c : Int) ≤ 239 := by omega
        have a4N : c ≤ 239 := by omega
        have a5I : ¬ (240 : Int) ≤ (c : Int) := by omega
        have a5N : ¬ 240 ≤ c := by omega
        have a6I : (c : Int) ≤ 244 := by omega
        have a6N : c ≤ 244 := by omega
        have b1 : ((c : Int) == 224) = false := beq_eq_false_iff_ne.2 (by omega)
        have b2 : ((c : Int) == 237) = false := beq_eq_false_iff_ne.2 (by omega)
        have b3 : ((c : Int) == 240) = false := beq_eq_false_iff_ne.2 (by omega)
        have b4 : ((c : Int) == 244) = false := beq_eq_false_iff_ne.2 (by omega)
        have hz : (if sz c ≤ 1 then 0 else sz c) = 2 := by unfold sz; (repeat' split) <;> omega
        have hlo : lo c = 128 := by unfold lo; (repeat' split) <;> omega
        have hhi : hi c = 191 := by unfold hi; (repeat' split) <;> omega
        rw [hz, hlo, hhi] at key
        simp (config := {maxSteps := 1000000, maxDischargeDepth := 9, implicitDefEqProofs := false}) [c26, lenE hsl, hvl, h0', h3, h3', i0, l0, a1I, a1N, a2I, a2N, a3I, a3N, a4I, a4N, a5I, a5N, a6I, a6N, b1, b2, b3, b4]
        refine key _ _ ?_ ?_ ?_ ?_ ?_ rfl <;> simp (config := {maxSteps := 1000000, maxDischargeDepth := 9, implicitDefEqProofs := false})
      · have a1I : (194 : Int) ≤ (c : Int) := by omega
        have a1N : 194 ≤ c := by omega
        have a2I : ¬ (c : Int) ≤ 223 := by omega
        have a2N : ¬ c ≤ 223 := by omega
        have a3I : (224 : Int) ≤ (c : Int) := by omega
        have a3N : 224 ≤ c := by omega
        have a4I : (c : Int) ≤ 239 := by omega
        have a4N : c ≤ 239 := by omega
        have a5I : ¬ (240 : Int) ≤ (c : Int) := by omega
        have a5N : ¬ 240 ≤ c := by omega
        have a6I : (c : Int) ≤ 244 := by omega
        have a6N : c ≤ 244 := by omega
        have b1 : ((c : Int) == 224) = true := beq_iff_eq.2 (by omega)
        have b2 : ((c : Int) == 237) = false := beq_eq_false_iff_ne.2 (by omega)
        have b3 : ((c : Int) == 240) = false := beq_eq_false_iff_ne.2 (by omega)
        have b4 : ((c : Int) == 244) = false := beq_eq_false_iff_ne.2 (by omega)
        have hz : (if sz c ≤ 1 then 0 else sz c) = 3 := by unfold sz; (repeat' split) <;> omega
        have hlo : lo c = 160 := by unfold lo; (repeat' split) <;> omega
        have hhi : hi c = 191 := by unfold hi; (repeat' split) <;> omega
        rw [hz, hlo, hhi] at key
        simp (config := {maxSteps := 1000000, maxDischargeDepth := 9, implicitDefEqProofs := false}) [c26, lenE hsl, hvl, h0', h3, h3', i0, l0, a1I, a1N, a2I, a2N, a3I, a3N, a4I, a4N, a5I, a5N, a6I, a6N, b1, b2, b3, b4]
        refine key _ _ ?_ ?_ ?_ ?_ ?_ rfl <;> simp (config := {maxSteps := 1000000, maxDischargeDepth := 9, implicitDefEqProofs := false})
      · have a1I : (194 : Int) ≤ (c : Int) := by omega
        have a1N : 194 ≤ c := by omega
        have a2I : ¬ (c : Int) ≤ 223 := by omega
        have a2N : ¬ c ≤ 223 := by omega
        have a3I : (224 : Int) ≤ (c : Int) := by omega
        have a3N : 224 ≤ c := by omega
        have a4I : (c : Int) ≤ 239 := by omega
        have a4N : c ≤ 239 := by omega
        have a5I : ¬ (240 : Int) ≤ (c : Int) := by omega
        have a5N : ¬ 240 ≤ c := by omega
        have a6I : (c : Int) ≤ 244 := by omega
        have a6N : c ≤ 244 := by omega
        have b1 : ((c : Int) == 224) = false := beq_eq_false_iff_ne.2 (by omega)
        have b2 : ((c : Int) == 237) = false := beq_eq_false_iff_ne.2 (by omega)
        have b3 : ((c : Int) == 240) = false := beq_eq_false_iff_ne.2 (by omega)
        have b4 : ((c : Int) == 244) = false := beq_eq_false_iff_ne.2 (by omega)
        have hz : (if sz c ≤ 1 then 0 else sz c) = 3 := by unfold sz; (repeat' split) <;> omega
        have hlo : lo c = 128 := by unfold lo; (repeat' split) <;> omega
        have hhi : hi c = 191 := by unfold hi; (repeat' split) <;> omega
        rw [hz, hlo, hhi] at key
        simp (config := {maxSteps := 1000000, maxDischargeDepth := 9, implicitDefEqProofs := false}) [c26, lenE hsl, hvl, h0', h3, h3', i0, l0, a1I, a1N, a2I, a2N, a3I, a3N, a4I, a4N, a5I, a5N, a6I, a6N, b1, b2, b3, b4]
        refine key _ _ ?_ ?_ ?_ ?_ ?_ rfl <;> simp (config := {maxSteps := 1000000, maxDischargeDepth := 9, implicitDefEqProofs := false})
      · have a1I : (194 : Int) ≤ (c : Int) := by omega
        have a1N : 194 ≤ c := by omega
        have a2I : ¬ (c : Int) ≤ 223 := by omega
        have a2N : ¬ c ≤ 223 := by omega
        have a3I : (224 : Int) ≤ (c : Int) := by omega
        have a3N : 224 ≤ c := by omega
        have a4I : (c : Int) ≤ 239 := by omega
        have a4N : c ≤ 239 := by omega
        have a5I : ¬ (240 : Int) ≤ (c : Int) := by omega
        have a5N : ¬ 240 ≤ c := by omega
        have a6I : (c : Int) ≤ 244 := by omega
        have a6N : c ≤ 244 := by omega
        have b1 : ((c : Int) == 224) = false := beq_eq_false_iff_ne.2 (by omega)
        have b2 : ((c : Int) == 237) = true := beq_iff_eq.2 (by omega)
        have b3 : ((c : Int) == 240) = false := beq_eq_false_iff_ne.2 (by omega)
        have b4 : ((c : Int) == 244) = false := beq_eq_false_iff_ne.2 (by omega)
        have hz : (if sz c ≤ 1 then 0 else sz c) = 3 := by unfold sz; (repeat' split) <;> omega
        have hlo : lo c = 128 := by unfold lo; (repeat' split) <;> omega
        have hhi : hi c = 159 := by unfold hi; (repeat' split) <;> omega
        rw [hz, hlo, hhi] at key
        simp (config := {maxSteps := 1000000, maxDischargeDepth := 9, implicitDefEqProofs := false}) [c26, lenE hsl, hvl, h0', h3, h3', i0, l0, a1I, a1N, a2I, a2N, a3I, a3N, a4I, a4N, a5I, a5N, a6I, a6N, b1, b2, b3, b4]
        refine key _ _ ?_ ?_ ?_ ?_ ?_ rfl <;> simp (config := {maxSteps := 1000000, maxDischargeDepth := 9, implicitDefEqProofs := false})
      · have a1I : (194 : Int) ≤ (c : Int) := by omega
        have a1N : 194 ≤ c := by omega
        have a2I : ¬ (c : Int) ≤ 223 := by omega
        have a2N : ¬ c ≤ 223 := by omega
        have a3I : (224 : Int) ≤ (c : Int) := by omega
        have a3N : 224 ≤ c := by omega
        have a4I : (c : Int) ≤ 239 := by omega
        have a4N : c ≤ 239 := by omega
        have a5I : ¬ (240 : Int) ≤ (c : Int) := by omega
        have a5N : ¬ 240 ≤ c := by omega
        have a6I : (c : Int) ≤ 244 := by omega
        have a6N : c ≤ 244 := by omega
        have b1 : ((c : Int) == 224) = false := beq_eq_false_iff_ne.2 (by omega)
        have b2 : ((c : Int) == 237) = false := beq_eq_false_iff_ne.2 (by omega)
        have b3 : ((c : Int) == 240) = false := beq_eq_false_iff_ne.2 (by omega)
        have b4 : ((c : Int) == 244) = false := beq_eq_false_iff_ne.2 (by omega)
        have hz : (if sz c ≤ 1 then 0 else sz c) = 3 := by unfold sz; (repeat' split) <;> omega
        have hlo : lo c = 128 := by unfold lo; (repeat' split) <;> omega
        have hhi : hi c = 191 := by unfold hi; (repeat' split) <;> omega
        rw [hz, hlo, hhi] at key
        simp (config := {maxSteps := 1000000, maxDischargeDepth := 9, implicitDefEqProofs := false}) [c26, lenE hsl, hvl, h0', h3, h3', i0, l0, a1I, a1N, a2I, a2N, a3I, a3N, a4I, a4N, a5I, a5N, a6I, a6N, b1, b2, b3, b4]
        refine key _ _ ?_ ?_ ?_ ?_ ?_ rfl <;> simp (config := {maxSteps := 1000000, maxDischargeDepth := 9, implicitDefEqProofs := false})
      · have a1I : (194 : Int) ≤ (c : Int) := by omega
        have a1N : 194 ≤ c := by omega
        have a2I : ¬ (c : Int) ≤ 223 := by omega
        have a2N : ¬ c ≤ 223 := by omega
        have a3I : (224 : Int) ≤ (c : Int) := by omega
        have a3N : 224 ≤ c := by omega
        have a4I : ¬ (c : Int) ≤ 239 := by omega
        have a4N : ¬ c ≤ 239 := by omega
        have a5I : (240 : Int) ≤ (c : Int) := by omega
        have a5N : 240 ≤ c := by omega
        have a6I : (c : Int) ≤ 244 := by omega
        have a6N : c ≤ 244 := by omega
        have b1 : ((c : Int) == 224) = false := beq_eq_false_iff_ne.2 (by omega)
        have b2 : ((c : Int) == 237) = false := beq_eq_false_iff_ne.2 (by omega)
        have b3 : ((c : Int) == 240) = true := beq_iff_eq.2 (by omega)
        have b4 : ((c : Int) == 244) = false := beq_eq_false_iff_ne.2 (by omega)
        have hz : (if sz c ≤ 1 then 0 else sz c) = 4 := by unfold sz; (repeat' split) <;> omega
        have hlo : lo c = 144 := by unfold lo; (repeat' split) <;> omega
        have hhi : hi c = 191 := by unfold hi; (repeat' split) <;> omega
        rw [hz, hlo, hhi] at key
        simp (config := {maxSteps := 1000000, maxDischargeDepth := 9, implicitDefEqProofs := false}) [c26, lenE hsl, hvl, h0', h3, h3', i0, l0, a1I, a1N, a2I, a2N, a3I, a3N, a4I, a4N, a5I, a5N, a6I, a6N, b1, b2, b3, b4]
        refine key _ _ ?_ ?_ ?_ ?_ ?_ rfl <;> simp (config := {maxSteps := 1000000, maxDischargeDepth := 9, implicitDefEqProofs := false})
      · have a1I : (194 : Int) ≤ (c : Int) := by omega
        have a1N : 194 ≤ c := by omega
        have a2I : ¬ (c : Int) ≤ 223 := by omega
        have a2N : ¬ c ≤ 223 := by omega
        have a3I : (224 : Int) ≤ (c : Int) := by omega
        have a3N : 224 ≤ c := by omega
        have a4I : ¬ (c : Int) ≤ 239 := by omega
        have a4N : ¬ c ≤ 239 := by omega
        have a5I : (240 : Int) ≤ (c : Int) := by omega
        have a5N : 240 ≤ c := by omega
        have a6I : (c : Int) ≤ 244 := by omega
        have a6N : c ≤ 244 := by omega
        have b1 : ((c : Int) == 224) = false := beq_eq_false_iff_ne.2 (by omega)
        have b2 : ((c : Int) == 237) = false := beq_eq_false_iff_ne.2 (by omega)
        have b3 : ((c : Int) == 240) = false := beq_eq_false_iff_ne.2 (by omega)
        have b4 : ((c : Int) == 244) = false := beq_eq_false_iff_ne.2 (by omega)
        have hz : (if sz c ≤ 1 then 0 else sz c) = 4 := by unfold sz; (repeat' split) <;> omega
        have hlo : lo c = 128 := by unfold lo; (repeat' split) <;> omega
        have hhi : hi c = 191 := by unfold hi; (repeat' split) <;> omega
        rw [hz, hlo, hhi] at key
        simp (config := {maxSteps := 1000000, maxDischargeDepth := 9, implicitDefEqProofs := false}) [c26, lenE hsl, hvl, h0', h3, h3', i0, l0, a1I, a1N, a2I, a2N, a3I, a3N, a4I, a4N, a5I, a5N, a6I, a6N, b1, b2, b3, b4]
        refine key _ _ ?_ ?_ ?_ ?_ ?_ rfl <;> simp (config := {maxSteps := 1000000, maxDischargeDepth := 9, implicitDefEqProofs := false})
      · have a1I : (194 : Int) ≤ (c : Int) := by omega
        have a1N : 194 ≤ c := by omega
        have a2I : ¬ (c : Int) ≤ 223 := by omega
        have a2N : ¬ c ≤ 223 := by omega
        have a3I : (224 : Int) ≤ (c : Int) := by omega
        have a3N : 224 ≤ c := by omega
        have a4I : ¬ (c : Int) ≤ 239 := by omega
        have a4N : ¬ c ≤ 239 := by omega
        have a5I : (240 : Int) ≤ (c : Int) := by omega
        have a5N : 240 ≤ c := by omega
        have a6I : (c : Int) ≤ 244 := by omega
        have a6N : c ≤ 244 := by omega
        have b1 : ((c : Int) == 224) = false := beq_eq_false_iff_ne.2 (by omega)
        have b2 : ((c : Int) == 237) = false := beq_eq_false_iff_ne.2 (by omega)
        have b3 : ((c : Int) == 240) = false := beq_eq_false_iff_ne.2 (by omega)
        have b4 : ((c : Int) == 244) = true := beq_iff_eq.2 (by omega)
        have hz : (if sz c ≤ 1 then 0 else sz c) = 4 := by unfold sz; (repeat' split) <;> omega
        have hlo : lo c = 128 := by unfold lo; (repeat' split) <;> omega
        have hhi : hi c = 143 := by unfold hi; (repeat' split) <;> omega
        rw [hz, hlo, hhi] at key
        simp (config := {maxSteps := 1000000, maxDischargeDepth := 9, implicitDefEqProofs := false}) [c26, lenE hsl, hvl, h0', h3, h3', i0, l0, a1I, a1N, a2I, a2N, a3I, a3N, a4I, a4N, a5I, a5N, a6I, a6N, b1, b2, b3, b4]
        refine key _ _ ?_ ?_ ?_ ?_ ?_ rfl <;> simp (config := {maxSteps := 1000000, maxDischargeDepth := 9, implicitDefEqProofs := false})
      · have a1I : (194 : Int) ≤ (c : Int) := by omega
        have a1N : 194 ≤ c := by omega
        have a2I : ¬ (c : Int) ≤ 223 := by omega
        have a2N : ¬ c ≤ 223 := by omega
        have a3I : (224 : Int) ≤ (c : Int) := by omega
        have a3N : 224 ≤ c := by omega
        have a4I : ¬ (c : Int) ≤ 239 := by omega
        have a4N : ¬ c ≤ 239 := by omega
        have a5I : (240 : Int) ≤ (c : Int) := by omega
        have a5N : 240 ≤ c := by omega
        have a6I : ¬ (c : Int) ≤ 244 := by omega
        have a6N : ¬ c ≤ 244 := by omega
        have b1 : ((c : Int) == 224) = false := beq_eq_false_iff_ne.2 (by omega)
        have b2 : ((c : Int) == 237) = false := beq_eq_false_iff_ne.2 (by omega)
        have b3 : ((c : Int) == 240) = false := beq_eq_false_iff_ne.2 (by omega)
        have b4 : ((c : Int) == 244) = false := beq_eq_false_iff_ne.2 (by omega)
        have hz : (if sz c ≤ 1 then 0 else sz c) = 0 := by unfold sz; (repeat' split) <;> omega
        have hlo : lo c = 128 := by unfold lo; (repeat' split) <;> omega
        have hhi : hi c = 191 := by unfold hi; (repeat' split) <;> omega
        rw [hz, hlo, hhi] at key
        simp (config := {maxSteps := 1000000, maxDischargeDepth := 9, implicitDefEqProofs := false}) [c26, lenE hsl, hvl, h0', h3, h3', i0, l0, a1I, a1N, a2I, a2N, a3I, a3N, a4I, a4N, a5I, a5N, a6I, a6N, b1, b2, b3, b4]
        refine key _ _ ?_ ?_ ?_ ?_ ?_ rfl <;> simp (config := {maxSteps := 1000000, maxDischargeDepth := 9, implicitDefEqProofs := false})
    · cases hs
  · cases hs
theorem mayB_iff {s : List Nat} (h3 : s.length ≤ 3) (h0 : 0 < s.length) (hb : s.getD 0 0 < 256) : mayB s = true ↔ startP (s.getD 0 0) ∧ ¬ fullP s := by
  unfold mayB
  rw [decide_eq_true_iff]
  constructor
  · rintro ⟨_, _, h1, h2, h4⟩
    have hst : startP (s.getD 0 0) := by
      unfold startP
      unfold sz at h1
      split at h1
      · left; assumption
      · split at h1
        · omega
        · right; omega
    refine ⟨hst, fun h => ?_⟩
    obtain ⟨_, h | ⟨k1, k2⟩ | ⟨k1, k2⟩⟩ := h
    · omega
    · have := h2 k1; omega
    · have := h4 k1; omega
  · rintro ⟨_, h1⟩
    unfold fullP at h1
    refine ⟨h0, h3, ?_, fun k => ?_, fun k => ?_⟩
    · rcases Nat.lt_or_ge s.length (sz (s.getD 0 0)) with h | h
      · exact h
      · exact absurd ⟨h0, .inl h⟩ h1
    · have : ¬ (s.getD 1 0 < lo (s.getD 0 0) ∨ hi (s.getD 0 0) < s.getD 1 0) := fun h => h1 ⟨h0, .inr (.inl ⟨k, h⟩)⟩
      omega
    · have : ¬ (s.getD 2 0 < 128 ∨ 191 < s.getD 2 0) := fun h => h1 ⟨h0, .inr (.inr ⟨k, h⟩)⟩
      omega

/-! portholeref19's Feed: it does what Feed does. -/
theorem FeedR_loop (cf : ACall) (hmay : ∀ a h, cf 26 a h = s_may a h) (H : Heap) (s : List Nat) (hl : s.length ≤ 17592186044416) (v vp : V) (hv : slB H v = some s) :
    ∀ e, e.n = 49 → e.at 0 = vp → e.at 5 = v → e.at 6 = .int .i64 (s.length : Int) → e.at 7 = .int .i64 ((min 3 s.length : Nat) : Int) →
    YtpegpafginbhmaaDoorA.Ends (execA cf 6 (.loop c21_l0) e H) fun x e' H' => x = .exit 0 ∧ e'.n = 49 ∧ e'.at 0 = vp ∧ e'.at 5 = v ∧ e'.at 6 = .int .i64 (cutN s : Int) ∧ H' = H := by
  intro e hn q0 q5 q6 q7
  have hsl := slB_isSl hv
  have hvl := slB_vlen hv
  have hlt := slB_lt hv
  obtain ⟨M, hM⟩ : ∃ M, M = min 3 s.length := ⟨_, rfl⟩
  rw [← hM] at q7
  refine loop_count (cf := cf) (N := 6) (c := c21_l0) M
    (fun i e H' => e.n = 49 ∧ e.at 0 = vp ∧ e.at 5 = v ∧ e.at 6 = .int .i64 (s.length : Int) ∧ e.at 7 = .int .i64 ((M - i : Nat) : Int) ∧ H' = H ∧ ∀ j, s.length - M ≤ j → j < s.length - M + i → ¬ heldP s j)
    (fun x e' H' => x = .exit 0 ∧ e'.n = 49 ∧ e'.at 0 = vp ∧ e'.at 5 = v ∧ e'.at 6 = .int .i64 (cutN s : Int) ∧ H' = H) ?_ ?_ 0 e _ (Nat.zero_le _) ⟨hn, q0, q5, q6, q7, rfl, fun j h1 h2 => by omega⟩ (by omega)
  · rintro i e H' hi ⟨hn, q0, q5, q6, q7, rfl, hj⟩
    obtain ⟨k, hk⟩ : ∃ k, k = M - i := ⟨_, rfl⟩
    obtain ⟨o, ho⟩ : ∃ o, o = s.length - k := ⟨_, rfl⟩
    rw [← hk] at q7
    have hk0 : (0 : Int) < (k : Int) := by omega
    have hk0n : 0 < k := by omega
    have w1 : wrapF .i64 ((s.length : Int) - (k : Int)) = (o : Int) := by rw [wrap_i64 (by omega) (by omega)]; omega
    have w2 : wrapF .i64 ((k : Int) - 1) = ((M - (i + 1) : Nat) : Int) := by rw [wrap_i64 (by omega) (by omega)]; omega
    have cw : sliceV H' 1 v (some (.int .i64 (o : Int))) none none = some (cutV 1 v o s.length) := by
      have := slice_lo (k := .i64) (i := (o : Int)) (v := v) (h := H') (by rw [hv]; rfl) (by omega) (by rw [hvl]; omega)
      rw [this, Int.toNat_natCast, hvl]
    have sw : slB H' (cutV 1 v o s.length) = some (s.drop o) := by
      rw [(slB_cut' hv (l := o) (r := s.length) (by omega) (Nat.le_refl _)).1, List.take_length]
    have rM : s_may [cutV 1 v o s.length] H' = some (.bool (mayB (s.drop o)), H') := by
      unfold s_may
      simp only [sw]
    have hdl : (s.drop o).length = k := by rw [List.length_drop]; omega
    have hb : (s.drop o).getD 0 0 < 256 := by
      rw [getD_drop, Nat.add_zero, List.getD_eq_getElem?_getD, List.getElem?_eq_getElem (by omega)]
      exact hlt _ (List.getElem_mem _)
    have hiff := mayB_iff (s := s.drop o) (by omega) (by omega) hb
    rw [getD_drop, Nat.add_zero] at hiff
    generalize cutV 1 v o s.length = w at *
    cases hm : mayB (s.drop o) with
    | true =>
      rw [hm] at rM
      have hc : cutN s = o := isCut_unique (cutN_isCut hlt) ⟨by omega, by omega, fun j h1 h2 => hj j (by omega) (by omega), fun _ => hiff.1 hm⟩
      rw [hc]
      simp (config := {maxSteps := 1000000, maxDischargeDepth := 9, implicitDefEqProofs := false}) [c21_l0, hn, q0, q5, q6, q7, lenE hsl, hvl, hk0, hk0n, w1, cw, hmay, rM]
    | false =>
      rw [hm] at rM
      have hnot : ¬ heldP s o := fun h => by rw [hiff.2 h] at hm; cases hm
      simp (config := {maxSteps := 1000000, maxDischargeDepth := 9, implicitDefEqProofs := false}) [c21_l0, hn, q0, q5, q6, q7, lenE hsl, hvl, hk0, hk0n, w1, cw, hmay, rM, w2]
      intro j h1 h2
      by_cases h3 : j = o
      · rw [h3]; exact hnot
      · exact hj j (by omega) (by omega)
  · rintro e H' ⟨hn, q0, q5, q6, q7, rfl, hj⟩
    have hc : cutN s = s.length := isCut_unique (cutN_isCut hlt) ⟨by omega, by omega, fun j h1 h2 => hj j (by omega) (by omega), fun h => by omega⟩
    rw [Nat.sub_self] at q7
    rw [hc]
    simp (config := {maxSteps := 1000000, maxDischargeDepth := 9, implicitDefEqProofs := false}) [c21_l0, hn, q0, q5, q6, q7]
theorem FeedR_ok (cf : ACall) (hmay : ∀ a h, cf 26 a h = s_may a h) (hRunes : ∀ a h, cf 17 a h = s_Runes a h) : Sum cf c21 s_Feed := by
  intro args h v h' hf hsc hlt hs
  unfold s_Feed at hs
  split at hs
  · rename_i p vb
    split at hs
    · rename_i vh t hg
      split at hs
      · rename_i a b ha hb
        split at hs
        · rename_i hc
          obtain ⟨hL, hl⟩ := hc
          obtain ⟨s, hs0⟩ : ∃ s, s = a ++ b := ⟨_, rfl⟩
          rw [← hs0] at hs hl
          have hlm : lim = 140737488354304 := rfl
          have hsl0 : s.length = a.length + b.length := by rw [hs0, List.length_append]
          have hpl := hf.lt hg
          obtain ⟨h1, hh1⟩ : ∃ A, A = h.new (.cells [] 5 1 true) := ⟨_, rfl⟩
          have e1 : Ext h h1 := by rw [hh1]; exact Ext.new h _
          have f1 : Fresh h1 := by rw [hh1]; exact hf.new _
          obtain ⟨v2, h2, r1, o2, e2, f2, n2, m2, _⟩ := OwnB.app (x := vh) (s := a) e1 f1 (by rw [hh1]; exact OwnB.start h 5) (slB_added (slB_ext e1 hf ha)) (by simp only [List.length_nil]; omega)
          obtain ⟨v3, h3, r2, o3, e3, f3, n3, m3, _⟩ := OwnB.app (x := vb) (s := b) e2 f2 o2 (slB_added (slB_ext e2 hf hb)) (by simp only [List.nil_append]; omega)
          rw [List.nil_append, ← hs0] at o3
          have hne3 : v3 ≠ .nilslice := m3 (m2 (by intro h; cases h))
          have hslt : ∀ y ∈ s, y < 256 := fun y hy => by
            rw [hs0] at hy
            rcases List.mem_append.1 hy with hy | hy
            · exact slB_lt ha y hy
            · exact slB_lt hb y hy
          have s3 : slB h3 v3 = some s := o3.slB hslt
          have hvl := slB_vlen s3
          have hsl := slB_isSl s3
          have lg : loadS (.ptr p 0) h1 = some (vh, h1) := by rw [loadS_ptr, e1.get hf hg]; rfl
          obtain ⟨k0, hk0⟩ : ∃ k, k = min 3 s.length := ⟨_, rfl⟩
          have w3 : (if s.length < 3 then (s.length : Int) else 3) = (k0 : Int) := by split <;> omega
          refine ⟨6, ?_⟩
          simp (config := {maxSteps := 1000000, maxDischargeDepth := 9, implicitDefEqProofs := false}) [c21, ← hh1, lg, r1, r2, lenE hsl, hvl]
          refine loop_then (K := fun r => finS _ (seqS _ _ _ (blockS _ r))) (FeedR_loop cf hmay h3 s hl v3 (.ptr p 0) s3 _ ?_ ?_ ?_ ?_ ?_) ?_
          iterate 4 simp (config := {maxSteps := 1000000, maxDischargeDepth := 9, implicitDefEqProofs := false})
          · simp (config := {maxSteps := 1000000, maxDischargeDepth := 9, implicitDefEqProofs := false})
            split <;> omega
          rintro x e' H ⟨rfl, hn', q0, q5, q6, rfl⟩
          obtain ⟨_, c2, _, _⟩ := cutN_spec s
          unfold feedH at hs
          generalize cutN s = c at *
          have hdlt : ∀ y ∈ s.drop c, y < 256 := fun y hy => hslt y (List.mem_of_mem_drop hy)
          have hdl : (s.drop c).length = s.length - c := List.length_drop
          have cw : ∀ K, slB K v3 = some s → sliceV K 1 v3 (some (.int .i64 (c : Int))) none none = some (cutV 1 v3 c s.length) := fun K hK => by
            have := slice_lo (k := .i64) (i := (c : Int)) (v := v3) (h := K) (by rw [hK]; rfl) (by omega) (by omega)
            rw [this, Int.toNat_natCast, hvl]
          obtain ⟨H1, hH1⟩ : ∃ A, A = H.new (.cells [] 5 1 true) := ⟨_, rfl⟩
          have g1 : Fresh H1 := by rw [hH1]; exact f3.new _
          have x1 : Ext H H1 := by rw [hH1]; exact Ext.new H _
          have s31 := slB_ext x1 f3 s3
          have cw1 := cw H1 s31
          have sc : slB H1 (cutV 1 v3 c s.length) = some (s.drop c) := by
            rw [(slB_cut' s31 (l := c) (r := s.length) c2 (Nat.le_refl _)).1, List.take_length]
          obtain ⟨v4, h4, r4, o4, e4, f4, n4, m4, _⟩ := OwnB.app (h0 := H) (x := cutV 1 v3 c s.length) (s := s.drop c) x1 g1 (by rw [hH1]; exact OwnB.start H 5) (slB_added sc) (by simp only [List.length_nil]; omega)
          rw [List.nil_append] at o4
          have hne4 : v4 ≠ .nilslice := m4 (by intro h; cases h)
          generalize cutV 1 v3 c s.length = w at *
          obtain ⟨q, cap, hcut, b6, b1, b2, b3⟩ : ∃ q cap, v4 = .slice q 0 (s.length - c) cap ∧ (cap = none ∨ cap = some (s.length - c)) ∧ H.next ≤ q ∧ q < h4.next ∧ h4.get q = some (.cells (bytesOf (s.drop c)) 5 1 true) := by
            rcases o4 with ⟨h0, _⟩ | ⟨b', c', k1, k2, k3, k4, _, k6⟩
            · exact absurd h0 hne4
            · rw [hdl] at k1 k2
              exact ⟨b', c', k1, k2, k3, k4, k6⟩
          have onew : v4.one = true := by rw [hcut]; rfl
          have clw : v4.cells = [v4] := by rw [hcut]; rfl
          have eh4 : Ext h h4 := e3.trans e4
          have hgp : h4.get p = some (.cells [vh] t 1 true) := eh4.get hf hg
          obtain ⟨h5, hh5⟩ : ∃ A, A = h4.set p (some (.cells [v4] t 1 true)) := ⟨_, rfl⟩
          have f5 : Fresh h5 := by rw [hh5]; exact f4.set (by have := eh4.1; omega) _
          have hpq : p ≠ q := by have := e3.1; omega
          have s5 : slB h5 v3 = some s := by
            rw [← slB_ext e4 f3 s3]
            rcases o3 with ⟨h0, _⟩ | ⟨b', c', k1, k2, k3, _⟩
            · exact absurd h0 hne3
            · rw [k1]
              exact slB_same4 (by rw [hh5, Heap.get_set, if_neg (by omega)])
          have cu : sliceV h5 1 v3 none (some (.int .i64 (c : Int))) none = some (cutV 1 v3 0 c) := by
            have := slice_hi (k := .i64) (i := (c : Int)) (v := v3) (h := h5) (by rw [s5]; rfl) (by omega) (by omega)
            rw [this, Int.toNat_natCast]
          have su : slB h5 (cutV 1 v3 0 c) = some (s.take c) := by rw [(slB_cut' s5 (l := 0) (r := c) (Nat.zero_le _) c2).1, List.drop_zero]
          have bu : bytesStrS (cutV 1 v3 0 c) h5 = some (.str (s.take c), h5) := rdB_str (slB_rdB su)
          have htl : (s.take c).length = c := by rw [List.length_take]; omega
          have gk : ∀ b B, b ≠ p → h.get b = some B → h5.get b = some B := fun b B hb hB => by rw [hh5, Heap.get_set, if_neg hb]; exact eh4.get hf hB
          have gp : h5.get p = some (.cells [v4] t 1 true) := by rw [hh5, Heap.get_set]; exact if_pos rfl
          have gq : h5.get q = some (.cells (bytesOf (s.drop c)) 5 1 true) := by rw [hh5, Heap.get_set, if_neg (fun h => hpq h.symm)]; exact b3
          have lq : 0 + (bytesOf (s.drop c)).length ≤ (bytesOf (s.drop c)).length := by omega
          have gn : ∀ (i : Nat) (x : V), (bytesOf (s.drop c))[i]? = some x → (bytesOf (s.drop c))[0 + i]? = some x := fun i x hi => by rw [Nat.zero_add]; exact hi
          have vcw : ∀ (h2 : Heap) (τ : Nat → Nat × Nat) (n : Nat), h.next < n → τ h.next = (q, 0) → h2.get q = some (.cells (bytesOf (s.drop c)) 5 1 true) → VC h2 τ n (.slice h.next 0 (s.length - c) none) v4 := fun h2 τ n hn hτ hgq => by
            rw [hcut]
            simp only [VC, hτ]
            refine ⟨hn, cap, rfl, fun m hm => ⟨_, _, _, _, hgq, ?_⟩⟩
            rcases b6 with hb6 | hb6
            · rw [hb6] at hm; cases hm
            · rw [hb6] at hm; cases hm; rw [bytesOf_length, hdl]; omega
          have hbn : h.next ≤ q := by have := e3.1; omega
          by_cases hc0 : c = 0
          · rw [if_pos hc0] at hs
            simp only [Option.some.injEq, Prod.mk.injEq] at hs
            obtain ⟨rfl, rfl⟩ := hs
            have rR : s_Runes [.str (s.take c)] h5 = some (.nilslice, h5) := by
              unfold s_Runes
              simp only
              rw [if_pos (by omega), if_pos (by omega)]
            simp (config := {maxSteps := 1000000, maxDischargeDepth := 9, implicitDefEqProofs := false}) [hn', q0, q5, q6, ← hH1, cw1, r4, hgp, onew, clw, ← hh5, cu, bu, hRunes, rR]
            refine ⟨_, Canon.mod1 (b2 := q) (δ := 0) (nc2 := bytesOf (s.drop c)) (cs2 := [v4]) hf hsc hpl gk gp rfl ?_ hbn gq lq gn (flat_bytes _) (by simp only [VC])⟩
            intro i x hi
            cases i with
            | succ i => simp at hi
            | zero =>
              simp only [List.getElem?_cons_zero, Option.some.injEq] at hi
              subst hi
              exact ⟨v4, rfl, vcw _ _ _ (by omega) moved_at gq⟩
          · rw [if_neg hc0] at hs
            simp only [Option.some.injEq, Prod.mk.injEq] at hs
            obtain ⟨rfl, rfl⟩ := hs
            have rR : s_Runes [.str (s.take c)] h5 = some (.slice h5.next 0 (runesL (s.take c)).length none, h5.new (.cells ((runesL (s.take c)).map (V.int .i32)) 21 1 true)) := by
              unfold s_Runes
              simp only
              rw [if_pos (by omega), if_neg (by omega)]; rfl
            simp (config := {maxSteps := 1000000, maxDischargeDepth := 9, implicitDefEqProofs := false}) [hn', q0, q5, q6, ← hH1, cw1, r4, hgp, onew, clw, ← hh5, cu, bu, hRunes, rR]
            have fx := Ext.new h5 (.cells ((runesL (s.take c)).map (V.int .i32)) 21 1 true)
            have n5 : h5.next = h4.next := by rw [hh5]; rfl
            refine ⟨_, Canon.mod2 (b2 := q) (δ := 0) (b3 := h5.next) (nc2 := bytesOf (s.drop c)) (cs2 := [v4]) hf hsc hpl (fun b B hb hB => fx.get f5 (gk b B hb hB)) (fx.get f5 gp) rfl ?_ hbn (fx.get f5 gq) lq gn (flat_bytes _) (by have := eh4.1; omega) (by omega) (by rw [Heap.get_new]; exact if_pos rfl) (flat_ints _ _) ?_⟩
            · intro i x hi
              cases i with
              | succ i => simp at hi
              | zero =>
                simp only [List.getElem?_cons_zero, Option.some.injEq] at hi
                subst hi
                exact ⟨v4, rfl, vcw _ _ _ (by omega) (moved_two0 _ _ _ _) (fx.get f5 gq)⟩
            · simp only [VC, moved_two1]
              exact ⟨by omega, none, rfl, fun m hm => by cases hm⟩
        · cases hs
      · cases hs
    · cases hs
  · cases hs

/-! portholeref19's Flush: it does what Flush does. -/
theorem FlushR_loop (cf : ACall) (h : Heap) (hf : Fresh h) (n : Nat) (hn0 : n ≤ 17592186044416) (p t : Nat) (vh : V) (hg : h.get p = some (.cells [vh] t 1 true)) (hsl : isSl vh = true) (hvl : vlen vh = n) :
    ∀ e, e.n = 21 → e.at 0 = .ptr p 0 → e.at 3 = .nilslice → e.at 4 = .int .i64 0 →
    YtpegpafginbhmaaDoorA.Ends (execA cf (n + 1) (.loop c23_l0) e h) fun x e' H => x = .exit 0 ∧ e'.n = 21 ∧ e'.at 0 = .ptr p 0 ∧ OwnK .i32 h H 21 (e'.at 3) (List.replicate n 65533) ∧ Ext h H ∧ Fresh H ∧ (n = 0 → e'.at 3 = .nilslice) := by
  intro e hn q0 q3 q4
  refine loop_count (cf := cf) (N := n + 1) (c := c23_l0) n
    (fun i e H => e.n = 21 ∧ e.at 0 = .ptr p 0 ∧ e.at 4 = .int .i64 (i : Int) ∧ OwnK .i32 h H 21 (e.at 3) (List.replicate i 65533) ∧ Ext h H ∧ Fresh H ∧ (i = 0 → e.at 3 = .nilslice))
    (fun x e' H => x = .exit 0 ∧ e'.n = 21 ∧ e'.at 0 = .ptr p 0 ∧ OwnK .i32 h H 21 (e'.at 3) (List.replicate n 65533) ∧ Ext h H ∧ Fresh H ∧ (n = 0 → e'.at 3 = .nilslice)) ?_ ?_ 0 e _ (Nat.zero_le _) ⟨hn, q0, q4, by rw [q3]; exact .inl ⟨rfl, rfl, rfl⟩, Ext.refl _, hf, fun _ => q3⟩ (Nat.lt_succ_self _)
  · rintro i e H hi ⟨hn, q0, q4, ho, hE, hF, hz⟩
    have hgp : H.get p = some (.cells [vh] t 1 true) := hE.get hf hg
    have hiI : (i : Int) < (n : Int) := by omega
    obtain ⟨A2, hA2⟩ : ∃ A, A = H.new (.cells [.int .i32 65533] 21 1 true) := ⟨_, rfl⟩
    have e2 : Ext h A2 := by rw [hA2]; exact hE.trans_new _
    have f2 : Fresh A2 := by rw [hA2]; exact hF.new _
    have ho2 : OwnK .i32 h A2 21 (e.at 3) (List.replicate i 65533) := by rw [hA2]; exact Own.ext_new _ ho hF
    have hadd : added A2 1 (.slice H.next 0 1 (some 1)) = some ([(65533 : Int)].map (V.int .i32), [(65533 : Int)].length) := by
      have : sl A2 1 (.slice H.next 0 1 (some 1)) = some [V.int .i32 65533] := by rw [hA2]; exact sl_selfE rfl rfl (.inr rfl)
      exact rd_added (sl_rd this)
    obtain ⟨v2, A3, k1, k2, k3, k4, _⟩ := OwnK.app (bytes := 4) e2 f2 ho2 hadd (by
      have : most = 140737488355328 := rfl
      rw [this, List.length_singleton, List.length_replicate]; omega) (by
      have : most = 140737488355328 := rfl
      rw [this, List.length_singleton, List.length_replicate]; omega)
    rw [← List.replicate_succ'] at k2
    generalize q3 : e.at 3 = w at *
    simp (config := {maxSteps := 1000000, maxDischargeDepth := 9, implicitDefEqProofs := false}) [c23_l0, hn, q0, q3, q4, hgp, lenE hsl, hvl, hiI, hi, ← hA2, k1, wrap_i64 (x := (i : Int) + 1) (by omega) (by omega)]
    exact ⟨k2, k3, k4⟩
  · rintro e H ⟨hn, q0, q4, ho, hE, hF, hz⟩
    have hgp : H.get p = some (.cells [vh] t 1 true) := hE.get hf hg
    simp (config := {maxSteps := 1000000, maxDischargeDepth := 9, implicitDefEqProofs := false}) [c23_l0, hn, q0, q4, hgp, lenE hsl, hvl]
    exact ⟨ho, hE, hF, hz⟩
theorem FlushR_ok (cf : ACall) : Sum cf c23 s_Flush := by
  intro args h v h' hf hsc hlt hs
  unfold s_Flush at hs
  split at hs
  · rename_i p
    split at hs
    · rename_i vh t hg
      split at hs
      · rename_i s hb
        split at hs
        · rename_i hl
          have hsl := slB_isSl hb
          have hvl := slB_vlen hb
          generalize s.length = n at *
          refine ⟨n + 1, ?_⟩
          simp (config := {maxSteps := 1000000, maxDischargeDepth := 9, implicitDefEqProofs := false}) [c23, hg, lenE hsl, hvl]
          refine loop_then (K := fun r => finS _ (seqS _ _ _ (blockS _ r))) (FlushR_loop cf h hf n hl p t vh hg hsl hvl _ ?_ ?_ ?_ ?_) ?_
          iterate 4 simp (config := {maxSteps := 1000000, maxDischargeDepth := 9, implicitDefEqProofs := false})
          rintro x e' H ⟨rfl, hn', q0, ho, hE, hF, hz⟩
          have hgp : H.get p = some (.cells [vh] t 1 true) := hE.get hf hg
          generalize q3 : e'.at 3 = w at *
          simp (config := {maxSteps := 1000000, maxDischargeDepth := 9, implicitDefEqProofs := false}) [hn', q0, q3, hgp]
          exact flush_canon hf hsc hg ho hE hF hz _ _ hs
        · cases hs
      · cases hs
    · cases hs
  · cases hs

theorem newL_ext : ∀ (Bs : List Blk) (h : Heap), Ext h (newL h Bs)
  | [], h => Ext.refl h
  | B :: Bs, h => (Ext.new h B).trans (newL_ext Bs (h.new B))
theorem newL_fresh : ∀ (Bs : List Blk) (h : Heap), Fresh h → Fresh (newL h Bs)
  | [], h, hf => hf
  | B :: Bs, h, hf => newL_fresh Bs (h.new B) (hf.new B)
theorem sl_blk {H : Heap} {q t n : Nat} {own : Bool} {cs : List V} (hg : H.get q = some (.cells cs t 1 own)) (hn : cs.length = n) : sl H 1 (.slice q 0 n none) = some cs := by
  have hw : wfS H 1 (.slice q 0 n none) = true := by simp [wfS, hg, hn]
  unfold sl
  rw [if_pos hw]
  simp only [rd, Nat.mul_one]
  unfold Heap.read
  by_cases h0 : n = 0
  · rw [if_pos h0]
    have : cs = [] := List.length_eq_zero_iff.1 (by omega)
    rw [this]
  · rw [if_neg h0, hg]
    simp only
    rw [if_pos (by omega), List.drop_zero, List.take_of_length_le (by omega)]
theorem cutH_ext (h : Heap) (xs : List (List Nat)) : Ext h (cutH h xs) := newL_ext _ h
theorem cutH_fresh {h : Heap} (xs : List (List Nat)) (hf : Fresh h) : Fresh (cutH h xs) := newL_fresh _ h hf
theorem cutH_row (h : Heap) (xs : List (List Nat)) : sl (cutH h xs) 1 (.slice (h.next + xs.length) 0 xs.length none) = some (rowV h.next xs) := by
  refine sl_blk (t := 22) (own := true) ?_ (rowV_length _ _)
  unfold cutH
  rw [newL_get, List.length_append, List.length_map, List.length_singleton, if_pos (by omega), List.getElem?_append_right (by rw [List.length_map]; omega), List.length_map, show h.next + xs.length - h.next - xs.length = 0 from by omega]
  rfl
theorem cutH_piece (h : Heap) {xs : List (List Nat)} {i : Nat} {s : List Nat} (hi : xs[i]? = some s) (hs : ∀ y ∈ s, y < 256) : slB (cutH h xs) (.slice (h.next + i) 0 s.length none) = some s := by
  have hil := (List.getElem?_eq_some_iff.1 hi).1
  refine slB_of (sl_blk (t := 5) (own := true) ?_ (bytesOf_length _)) hs
  unfold cutH
  rw [newL_get, List.length_append, List.length_map, List.length_singleton, if_pos (by omega), List.getElem?_append_left (by rw [List.length_map]; omega), show h.next + i - h.next = i from by omega, List.getElem?_map, hi]
  rfl
theorem typ_ne {H : Heap} {p q t t' : Nat} {a b : List V} (h1 : H.get p = some (.cells a t 1 true)) (h2 : H.get q = some (.cells b t' 1 true)) (ht : t ≠ t') : q ≠ p := by
  rintro rfl
  rw [h1] at h2
  injection h2 with h2
  injection h2 with _ e
  exact ht e
theorem slK_same4 {H H' : Heap} {k : IntKind} {q o n : Nat} {c : Option Nat} (hg : H'.get q = H.get q) : slK k H' (.slice q o n c) = slK k H (.slice q o n c) := by
  have h1 : wfS H' 1 (.slice q o n c) = wfS H 1 (.slice q o n c) := by dsimp only [wfS]; rw [hg]
  have h2 : rd H' 1 (.slice q o n c) = rd H 1 (.slice q o n c) := by
    show H'.read q o (n * 1) = H.read q o (n * 1)
    unfold Heap.read; rw [hg]
  unfold slK sl
  rw [h1, h2]
theorem isDec_other2 {H H' : Heap} {p q t t' : Nat} {s s' : List Nat} (ht : t ≠ 5) (hd : isDec H p t s) (hq : isDec H q t' s') (hne : p ≠ q) (hF : Fresh H) (hk : ∀ b, b ≠ p → b < H.next → H'.get b = H.get b) : isDec H' q t' s' := by
  obtain ⟨vh, g1, _⟩ := hd.get
  obtain ⟨vq, g2, _⟩ := hq.get
  exact hq.keep (hk q (fun e => hne e.symm) (hF.lt g2)) fun b cs _ hb => hk b (typ_ne g1 hb ht) (hF.lt hb)
theorem told_keep {H H' : Heap} {p t : Nat} {s : List Nat} {v : V} {l : List Int} (ht : t ≠ 21) (hd : isDec H p t s) (hF : Fresh H) (hk : ∀ b, b ≠ p → b < H.next → H'.get b = H.get b) (hv : slK .i32 H v = some l) (hn : v = .nilslice ∨ ∃ q n cs, v = .slice q 0 n none ∧ H.get q = some (.cells cs 21 1 true)) : slK .i32 H' v = some l := by
  obtain ⟨vh, g1, _⟩ := hd.get
  rcases hn with rfl | ⟨q, n, cs, rfl, hq⟩
  · exact (show slK .i32 H' .nilslice = slK .i32 H .nilslice from rfl).trans hv
  · rw [slK_same4 (hk q (typ_ne g1 hq ht) (hF.lt hq))]; exact hv
theorem flush_run2 {H : Heap} {p t : Nat} {s : List Nat} (hd : isDec H p t s) (hF : Fresh H) (hl : s.length ≤ 17592186044416) :
    ∃ B v, s_Flush [.ptr p 0] H = some (v, B) ∧ slK .i32 B v = some (List.replicate s.length 65533) ∧ isDec B p t [] ∧ Fresh B ∧ (∀ q, q ≠ p → q < H.next → B.get q = H.get q) ∧ H.next ≤ B.next ∧ (v = .nilslice ∨ ∃ q n cs, v = .slice q 0 n none ∧ B.get q = some (.cells cs 21 1 true)) := by
  obtain ⟨B, v, h1, h2, h3, h4, h5, h6⟩ := flush_run hd hF hl
  refine ⟨B, v, h1, h2, h3, h4, h5, h6, ?_⟩
  obtain ⟨vh, g1, g2⟩ := hd.get
  unfold s_Flush at h1
  simp only [g1, g2] at h1
  rw [if_pos hl] at h1
  split at h1
  · simp only [Option.some.injEq, Prod.mk.injEq] at h1
    exact .inl h1.1.symm
  · simp only [Option.some.injEq, Prod.mk.injEq] at h1
    obtain ⟨rfl, rfl⟩ := h1
    exact .inr ⟨_, _, _, rfl, by rw [Heap.get_new]; exact if_pos rfl⟩
/-- The decoder and the reference's, which hold the same. -/
def FInv (h H : Heap) (p1 p2 : Nat) (s : List Nat) : Prop := Ext h H ∧ Fresh H ∧ isDec H p1 50 s ∧ isDec H p2 45 s ∧ h.next ≤ p1 ∧ h.next ≤ p2 ∧ p1 ≠ p2 ∧ s.length ≤ 3
theorem FInv.held {h H : Heap} {p1 p2 : Nat} {s : List Nat} (hI : FInv h H p1 p2 s) : s_Held [.ptr p1 0] H = some (.int .i64 (s.length : Int), H) ∧ ∃ vh, loadS (.ptr p2 0) H = some (vh, H) ∧ isSl vh = true ∧ vlen vh = s.length := by
  obtain ⟨i1, i2, i3, i4, i5, i6, i7, i8⟩ := hI
  refine ⟨held_ret i3, ?_⟩
  obtain ⟨vh, g1, g2⟩ := i4.get
  exact ⟨vh, by rw [loadS_ptr, g1]; rfl, slB_isSl g2, slB_vlen g2⟩
theorem fd_step {h H : Heap} {p1 p2 : Nat} {s b : List Nat} {vb : V} (hf : Fresh h) (hL : hasLaid laidVals h) (hI : FInv h H p1 p2 s) (hb : slB h vb = some b) (hl : b.length ≤ 1048576) :
    ∃ A1 v1 A2 v2 s', s_Feed [.ptr p1 0, vb] H = some (v1, A1) ∧ s_Feed [.ptr p2 0, vb] A1 = some (v2, A2) ∧ s_same [v1, v2] A2 = some (.bool true, A2) ∧ Ext h A1 ∧ FInv h A2 p1 p2 s' := by
  obtain ⟨i1, i2, i3, i4, i5, i6, i7, i8⟩ := hI
  obtain ⟨A1, v1, r1, r2, r3, r4, r5, r6, r7⟩ := feed_run i3 (slB_ext i1 hf hb) i2 (hasLaid_ext hL hf i1) (by omega)
  have d2 := isDec_other2 (by decide) i3 i4 i7 i2 r5
  have e1 : Ext h A1 := ⟨by have := i1.1; omega, fun q hq => by rw [r5 q (by omega) (by have := i1.1; omega)]; exact i1.2 q hq⟩
  obtain ⟨A2, v2, t1, t2, t3, t4, t5, t6, _⟩ := feed_run d2 (slB_ext e1 hf hb) r4 (hasLaid_ext hL hf e1) (by omega)
  have d1 := isDec_other2 (by decide) d2 r3 (fun e => i7 e.symm) r4 t5
  have e2 : Ext h A2 := ⟨by have := e1.1; omega, fun q hq => by rw [t5 q (by omega) (by have := e1.1; omega)]; exact e1.2 q hq⟩
  have k1 := told_keep (by decide) d2 r4 t5 r2 (r7.imp id fun ⟨q, n, cs, a, _, c⟩ => ⟨q, n, cs, a, c⟩)
  have hrl := runesL_le ((s ++ b).take (cutN (s ++ b)))
  have htl : ((s ++ b).take (cutN (s ++ b))).length ≤ s.length + b.length := by rw [List.length_take, List.length_append]; omega
  obtain ⟨c1, c2, _, _⟩ := cutN_spec (s ++ b)
  exact ⟨A1, v1, A2, v2, _, r1, t1, same_run k1 t2 (by omega), e1, e2, t4, d1, t3, i5, i6, i7, by rw [List.length_drop]; omega⟩
theorem fl_step {h H : Heap} {p1 p2 : Nat} {s : List Nat} (hf : Fresh h) (hI : FInv h H p1 p2 s) :
    ∃ B1 w1 B2 w2, s_Flush [.ptr p1 0] H = some (w1, B1) ∧ s_Flush [.ptr p2 0] B1 = some (w2, B2) ∧ s_same [w1, w2] B2 = some (.bool true, B2) ∧ FInv h B2 p1 p2 [] := by
  obtain ⟨i1, i2, i3, i4, i5, i6, i7, i8⟩ := hI
  obtain ⟨B1, w1, r1, r2, r3, r4, r5, r6, r7⟩ := flush_run2 i3 i2 (by omega)
  have d2 := isDec_other2 (by decide) i3 i4 i7 i2 r5
  have e1 : Ext h B1 := ⟨by have := i1.1; omega, fun q hq => by rw [r5 q (by omega) (by have := i1.1; omega)]; exact i1.2 q hq⟩
  obtain ⟨B2, w2, t1, t2, t3, t4, t5, t6, _⟩ := flush_run2 d2 r4 (by omega)
  have d1 := isDec_other2 (by decide) d2 r3 (fun e => i7 e.symm) r4 t5
  have e2 : Ext h B2 := ⟨by have := e1.1; omega, fun q hq => by rw [t5 q (by omega) (by have := e1.1; omega)]; exact e1.2 q hq⟩
  have k1 := told_keep (by decide) d2 r4 t5 r2 r7
  exact ⟨B1, w1, B2, w2, r1, t1, same_run k1 t2 (by rw [List.length_replicate]; omega), e2, t4, d1, t3, i5, i6, i7, by simp⟩
theorem fd_loop (cf : ACall) (hFeed : ∀ a h, cf 12 a h = s_Feed a h) (hFeedR : ∀ a h, cf 21 a h = s_Feed a h) (hHeld : ∀ a h, cf 13 a h = s_Held a h) (hFlush : ∀ a h, cf 22 a h = s_Flush a h) (hFlushR : ∀ a h, cf 23 a h = s_Flush a h) (hsame : ∀ a h, cf 15 a h = s_same a h)
    (h : Heap) (hf : Fresh h) (hL : hasLaid laidVals h) (xs : List (List Nat)) (bs : List Bool) (vx vf : V) (n0 p1 p2 : Nat) (hxs : ∀ (i : Nat) t, xs[i]? = some t → t.length ≤ 1048576) (hx : xs.length ≤ 41)
    (hrow : sl h 1 vx = some (rowV n0 xs)) (hpiece : ∀ (i : Nat) s, xs[i]? = some s → slB h (.slice (n0 + i) 0 s.length none) = some s) (hfl : sl h 1 vf = some (bs.map V.bool)) :
    ∀ e H, e.n = 87 → e.at 4 = vf → e.at 11 = vx → e.at 12 = .ptr p1 0 → e.at 13 = .ptr p2 0 → e.at 14 = .int .i64 0 → FInv h H p1 p2 [] →
    YtpegpafginbhmaaDoorA.Ends (execA cf 60 (.loop c6_l0) e H) fun x e' H' => x = .exit 0 ∧ e'.n = 87 ∧ e'.at 12 = .ptr p1 0 ∧ e'.at 13 = .ptr p2 0 ∧ ∃ s, FInv h H' p1 p2 s := by
  intro e H hn q4 q11 q12 q13 q14 hI
  have hvl : vlen vx = xs.length := by rw [rd_vlen (sl_rd hrow), rowV_length]
  have hvs := sl_isSl hrow
  have hfl1 : vlen vf = bs.length := by rw [rd_vlen (sl_rd hfl), List.length_map]
  have hfs := sl_isSl hfl
  refine loop_count (cf := cf) (N := 60) (c := c6_l0) xs.length
    (fun i e H => e.n = 87 ∧ e.at 4 = vf ∧ e.at 11 = vx ∧ e.at 12 = .ptr p1 0 ∧ e.at 13 = .ptr p2 0 ∧ e.at 14 = .int .i64 (i : Int) ∧ ∃ s, FInv h H p1 p2 s)
    (fun x e' H' => x = .exit 0 ∧ e'.n = 87 ∧ e'.at 12 = .ptr p1 0 ∧ e'.at 13 = .ptr p2 0 ∧ ∃ s, FInv h H' p1 p2 s) ?_ ?_ 0 e _ (Nat.zero_le _) ⟨hn, q4, q11, q12, q13, q14, [], hI⟩ (by omega)
  · rintro i e H hi ⟨hn, q4, q11, q12, q13, q14, s, hI⟩
    have hiI : (i : Int) < (xs.length : Int) := by omega
    obtain ⟨b, hb⟩ : ∃ b, xs[i]? = some b := ⟨_, List.getElem?_eq_getElem hi⟩
    obtain ⟨A1, v1, A2, v2, s', r1, r2, r3, r4, hI2⟩ := fd_step hf hL hI (hpiece i b hb) (hxs i b hb)
    have hload : ∀ K, Ext h K → loadS (atP vx i) K = some (.slice (n0 + i) 0 b.length none, K) := fun K hK => rd_load (sl_rd (sl_ext hK hf hrow)) (j := i) (by rw [rowV_get, hb]; rfl)
    have hidx : ∀ K, indexAddrSS 1 vx (.int .i64 (i : Int)) K = some (atP vx i, K) := fun K => by
      have := indexE (z := 1) hvs K (k := .i64) (i := (i : Int)) (by omega) (by rw [hvl]; omega)
      simpa only [Int.toNat_natCast, Nat.mul_one] using this
    have ld1 := hload H hI.1
    have ld2 := hload A1 r4
    obtain ⟨hH, vh, ld3, hs3, hv3⟩ := hI2.held
    have wi : wrapF .i64 ((i : Int) + 1) = (i : Int) + 1 := wrap_i64 (by omega) (by omega)
    by_cases hfi : i < bs.length
    · have hfiI : (i : Int) < (bs.length : Int) := by omega
      have fidx : indexAddrSS 1 vf (.int .i64 (i : Int)) A2 = some (atP vf i, A2) := by
        have := indexE (z := 1) hfs A2 (k := .i64) (i := (i : Int)) (by omega) (by rw [hfl1]; omega)
        simpa only [Int.toNat_natCast, Nat.mul_one] using this
      have fld : loadS (atP vf i) A2 = some (.bool bs[i], A2) := rd_load (sl_rd (sl_ext hI2.1 hf hfl)) (j := i) (by rw [List.getElem?_map, List.getElem?_eq_getElem hfi]; rfl)
      cases hbi : bs[i] with
      | false =>
        rw [hbi] at fld
        simp (config := {maxSteps := 1000000, maxDischargeDepth := 9, implicitDefEqProofs := false}) [c6_l0, hn, q4, q11, q12, q13, q14, lenE hvs, hvl, hiI, hi, hidx, ld1, ld2, hFeed, r1, hFeedR, r2, hsame, r3, hHeld, hH, ld3, lenE hs3, hv3, lenE hfs, hfl1, hfi, hfiI, fidx, fld, wi]
        exact ⟨_, hI2⟩
      | true =>
        rw [hbi] at fld
        obtain ⟨B1, w1, B2, w2, t1, t2, t3, hI3⟩ := fl_step hf hI2
        simp (config := {maxSteps := 1000000, maxDischargeDepth := 9, implicitDefEqProofs := false}) [c6_l0, hn, q4, q11, q12, q13, q14, lenE hvs, hvl, hiI, hi, hidx, ld1, ld2, hFeed, r1, hFeedR, r2, hsame, r3, hHeld, hH, ld3, lenE hs3, hv3, lenE hfs, hfl1, hfi, hfiI, fidx, fld, hFlush, t1, hFlushR, t2, t3, wi]
        exact ⟨_, hI3⟩
    · have hfiI : ¬ (i : Int) < (bs.length : Int) := by omega
      simp (config := {maxSteps := 1000000, maxDischargeDepth := 9, implicitDefEqProofs := false}) [c6_l0, hn, q4, q11, q12, q13, q14, lenE hvs, hvl, hiI, hi, hidx, ld1, ld2, hFeed, r1, hFeedR, r2, hsame, r3, hHeld, hH, ld3, lenE hs3, hv3, lenE hfs, hfl1, hfi, hfiI, wi]
      exact ⟨_, hI2⟩
  · rintro e H ⟨hn, q4, q11, q12, q13, q14, s, hI⟩
    simp (config := {maxSteps := 1000000, maxDischargeDepth := 9, implicitDefEqProofs := false}) [c6_l0, hn, q11, q12, q13, q14, lenE hvs, hvl]
    exact ⟨s, hI⟩
theorem law_UtfFeeds (cf : ACall) (hknown : ∀ a h, cf 10 a h = s_kn a h) (hbytes : ∀ a h, cf 14 a h = s_lbytes a h) (hCut : ∀ a h, cf 20 a h = s_Cut a h) (hNew : ∀ a h, cf 9 a h = s_New a h) (hFeed : ∀ a h, cf 12 a h = s_Feed a h) (hFeedR : ∀ a h, cf 21 a h = s_Feed a h) (hHeld : ∀ a h, cf 13 a h = s_Held a h) (hFlush : ∀ a h, cf 22 a h = s_Flush a h) (hFlushR : ∀ a h, cf 23 a h = s_Flush a h) (hsame : ∀ a h, cf 15 a h = s_same a h)
    (h : Heap) (l lc : List Int) (b : List Nat) (any : Bool) (bs : List Bool) (vl vb vc vf : V) (hf : Fresh h) (hL : hasLaid laidVals h) (hl : slK .i64 h vl = some l) (hb : slB h vb = some b) (hlc : slK .i64 h vc = some lc) (hfl : sl h 1 vf = some (bs.map V.bool)) (hbl : b.length ≤ 1048576) :
    ∃ N, Runs (bodyA cf N c6 [vl, vb, .bool any, vc, vf] h) fun v _ => v = .bool true := by
  obtain ⟨va, h1, s, r1, sa, e1, f1, hsl, hlt⟩ := lbytes_run any hf hl hb hbl
  have ba : bytesStrS va h1 = some (.str s, h1) := rdB_str (slB_rdB sa)
  obtain ⟨xs, hxs⟩ : ∃ xs, xs = cutP 40 lc s := ⟨_, rfl⟩
  have hxl := cutP_len 40 lc s
  have hxf := cutP_flat 40 lc s
  rw [← hxs] at hxl hxf
  obtain ⟨hb', hhb⟩ : ∃ A, A = cutH h1 xs := ⟨_, rfl⟩
  obtain ⟨vx, hvx⟩ : ∃ v : V, v = .slice (h1.next + xs.length) 0 xs.length none := ⟨_, rfl⟩
  have r2 : s_Cut [.str s, vc] h1 = some (vx, hb') := by
    unfold s_Cut
    simp only [slK_ext e1 hf hlc]
    rw [if_pos ⟨by omega, hlt⟩, ← hxs, hvx, hhb]
  have eb : Ext h1 hb' := by rw [hhb]; exact cutH_ext _ _
  have fb : Fresh hb' := by rw [hhb]; exact cutH_fresh _ f1
  have hrow : sl hb' 1 vx = some (rowV h1.next xs) := by rw [hhb, hvx]; exact cutH_row _ _
  have hpiece : ∀ (i : Nat) t, xs[i]? = some t → slB hb' (.slice (h1.next + i) 0 t.length none) = some t := fun i t hi => by
    rw [hhb]
    exact cutH_piece _ hi fun y hy => hlt y (by rw [← hxf]; exact List.mem_flatten.2 ⟨t, List.mem_of_getElem? hi, hy⟩)
  have hpl : ∀ (i : Nat) t, xs[i]? = some t → t.length ≤ 1048576 := fun i t hi => by
    have hil := (List.getElem?_eq_some_iff.1 hi).1
    have h2 := congrArg List.length (take_flatten_succ xs i hil)
    rw [List.length_append, List.getD_eq_getElem?_getD, hi, Option.getD_some] at h2
    have h3 : xs.flatten = (xs.take (i + 1)).flatten ++ (xs.drop (i + 1)).flatten := by rw [← List.flatten_append, List.take_append_drop]
    have h4 := congrArg List.length h3
    rw [List.length_append, hxf] at h4
    omega
  have hLb := hasLaid_ext (hasLaid_ext hL hf e1) f1 eb
  obtain ⟨H1, hH1⟩ : ∃ A, A = hb'.new (.cells [.nilslice] 50 1 true) := ⟨_, rfl⟩
  have g1 : Fresh H1 := by rw [hH1]; exact fb.new _
  have m1 : Ext hb' H1 := by rw [hH1]; exact Ext.new _ _
  have n1 : H1.next = hb'.next + 1 := by rw [hH1]; rfl
  obtain ⟨H2, hH2⟩ : ∃ A, A = H1.new (.cells [.nilslice] 45 1 true) := ⟨_, rfl⟩
  have g2 : Fresh H2 := by rw [hH2]; exact g1.new _
  have m2 : Ext H1 H2 := by rw [hH2]; exact Ext.new _ _
  have rN1 : s_New [] hb' = some (.ptr hb'.next 0, H1) := by rw [hH1]; rfl
  have rk := s_kn_ok (hasLaid_ext hLb fb (m1.trans m2))
  have hI : FInv hb' H2 hb'.next (hb'.next + 1) [] := by
    refine ⟨m1.trans m2, g2, ?_, ?_, Nat.le_refl _, Nat.le_succ _, by omega, by simp⟩
    · have := isDec_new hb' 50
      rw [← hH1] at this
      exact this.ext g1 m2
    · rw [hH2, ← n1]; exact isDec_new H1 _
  refine ⟨60, ?_⟩
  simp (config := {maxSteps := 1000000, maxDischargeDepth := 9, implicitDefEqProofs := false}) [c6, hbytes, r1, ba, hCut, r2, hNew, rN1, n1, ← hH2, hknown, rk]
  refine loop_then (K := fun r => finS _ (seqS _ _ _ (blockS _ r))) (fd_loop cf hFeed hFeedR hHeld hFlush hFlushR hsame hb' fb hLb xs bs vx vf h1.next hb'.next (hb'.next + 1) hpl (by omega) hrow hpiece (sl_ext (e1.trans eb) hf hfl) _ _ ?_ ?_ ?_ ?_ ?_ ?_ hI) ?_
  iterate 6 simp (config := {maxSteps := 1000000, maxDischargeDepth := 9, implicitDefEqProofs := false})
  rintro x e' H ⟨rfl, hn', q12, q13, t, hJ⟩
  obtain ⟨hH, vh, ld3, hs3, hv3⟩ := hJ.held
  simp (config := {maxSteps := 1000000, maxDischargeDepth := 9, implicitDefEqProofs := false}) [hn', q12, q13, hHeld, hH, ld3, lenE hs3, hv3]

end
end Go.Proofs.YtpegpafginbhmaaDoor.UtfFeeds
