/- What the functions that the law VtFeeds reaches do, each told once, and the law by them. No condition. -/
import Derived.Test.YthfbefjmenddkaaDoorCodeVtFeeds
namespace Go.Proofs.YthfbefjmenddkaaDoor.VtFeeds
open Go Go.Proofs.YthfbefjmenddkaaDoorA
set_option linter.unusedSimpArgs false
set_option linter.unusedVariables false
set_option maxHeartbeats 4000000
set_option maxRecDepth 100000
attribute [local simp] body_eq exec_seq exec_region exec_skip exec_ret exec_exit exec_cond exec_block seqS_normal seqS_ret seqS_exit seqS_none seqS_bif regS_some regS_none regS_bif condS_bool condS_true
  condS_false blockS_normal blockS_ret blockS_exit blockS_none blockS_bif finS_normal finS_ret finS_bif steps_nil steps_cons steps_guard bindS_some bindS_none bindS_bif endS_some
  endS_skip endS_none endS_bif gstep_some gstep_true gstep_false wantV_true wantV_false wantV_undef wantV_gdv_true wantV_gdv_false gdv_true gdv_false aop_pick pickS_or pickS_and
  pickS_true pickS_false bif_bool put_some put_none Env.at_put Env.n_put at_init n_init Opd.ev ressA resA pack Heap.get_new Heap.get_set nextOf_new Heap.next_set nth fillV zeros over
  eqv read_eq read_zero readB_cells one_bool one_int one_str one_ptr one_nilptr one_slice one_nilslice cells_bool cells_int cells_str cells_ptr cells_nilptr cells_slice
  cells_nilslice cells_agg aop_move aop_box aop_boxv boxvS_agg boxvS_int boxvS_bool boxvS_str boxvS_slice boxvS_nilslice aop_build buildS_some aop_buildSlice buildSliceS_some
  aop_load loadS_ptr loadB_cells loadC_some aop_loadn loadnS_ptr aop_store storeS_ptr writeB_cells aop_bin binS_lss binS_leq binS_gtr binS_geq binS_eql binS_neq binS_add binS_sub
  binS_mul binS_quo binS_rem binS_and binS_or binS_xor binS_shl binS_shr binS_seql binS_sneq binS_sadd aop_eq eqS_some_f eqS_some_t aop_un unS_not unS_neg aop_conv convS_int
  aop_convStr convStrS_str aop_intStr intStrS_int aop_strBytes strBytesS_str aop_bytesStr bytesStrS_nil bytesStrS_slice aop_mkIface aop_mkFunc aop_makeSlice makeS_int aop_sliceStr
  sliceStrS_str sliceStrB_some someS_some aop_sliceSl aop_sliceArr sliceArrS_ptr aop_fieldAddr fieldAddrS_ptr aop_field fieldS_agg fieldS_aggn aop_indexAddrA indexAddrAS_ptr
  aop_indexAddrS indexAddrSS_slice aop_indexA indexAS_agg byteS_some aop_indexStr indexStrS_str aop_extract extractS_tuple aop_call callS_func aop_append aop_copy aop_lenS lenSS_str
  aop_lenL lenLS_nil lenLS_slice aop_minmax minmaxS_min minmaxS_max aop_convSame convSameS_slice convSameB_cells aop_lenC Heap.set_newE Heap.kill_newE Heap.set_new_ne
  Heap.set_gone_ne Heap.set_set Heap.get_gone Heap.next_gone loopE_n loopE_at Runs_some Ends_some Ends_none Runs_none VCL_nil VCL_cons VC_tuple VC_agg VC_bool VC_int VC_str VC_nil
  VC_nilptr VC_ptr VC_slice_nn VC_slice_ns VC_slice_s moved_at most_val lim_val next_add vlen_slice vlen_nil isSl_slice isSl_nil atP_slice newV sl_new slB_new slK_new sl_gone
  slB_gone slK_gone lt_slice lt_nil lt_ptr lt_cut sl_selfE slB_litE slK_litE asB asB_bytesOf asK asK_map slB_nil slK_nil slBs Fresh.new Fresh.gone indexE bytesStrE loadBE slice_lo
  slice_hi slice_lohi slB_cut vlen_cut isSl_cut one_cut cells_cut lenE aop_nilCheck nilCheckS_ptr aop_appendZ aop_eqArr IntKind.bits Int.fdiv_eq_ediv_of_nonneg bytesOf_length
  sameV_refl gval_true gval_false gval_some traceA_nil traceA_cons consT_some mapT_some stepV_none stepV_guard exec_any anyS_some chkOk_nil chkOk_cons sameS_some chk2_some chk1_eq
  envL_nil envL_cons heapL_nil heapL_cons heapO_some heapB_zero heapB_succ isWriter nth_bytesOf nth_ints str_hi str_lo wrap_i64 wrap_i32 wrap_u64 wrap_u32 wrap_u8 exec_float
  fltS_some traceG_nil traceG_cons consG_some viewS_some stepF_bif floatS_float isF isAlloc isReader actH_nil actH_cons1 act1_new act1_bare act1_new0 act1_bare0 read_gap sl_gap
  slB_gap slK_gap get_gap next_gap Fresh.gap aop_range rangeS_str aop_next aop_runesStr
attribute [local congr] gstep_congr gval_congr
noncomputable section
/-- portholehand.Pick: the remainder that is not below 0. -/
def s_Pick : List V → Heap → Option (V × Heap)
  | [.int .i64 n, .int .i64 m], h => if 0 < m ∧ m ≤ 4611686018427387904 then some (.int .i64 (n % m), h) else none
  | _, _ => none

theorem tmod_emod (n m : Int) (hm : 0 < m) : (if n.tmod m < 0 then n.tmod m + m else n.tmod m) = n % m := by
  rw [Int.tmod_eq_emod]
  have h1 := Int.emod_nonneg n (show m ≠ 0 by omega)
  have h2 := Int.emod_lt_of_pos n hm
  have h3 : (m.natAbs : Int) = m := by omega
  split <;> split <;> omega

theorem Pick_ok (cf : ACall) : Sum cf c13 s_Pick := by
  intro args h v h' hf hsc hlt hs
  unfold s_Pick at hs
  split at hs
  · rename_i n m
    split at hs
    · rename_i hm
      simp only [Option.some.injEq, Prod.mk.injEq] at hs
      obtain ⟨rfl, rfl⟩ := hs
      have hm0 : ¬ m = 0 := by omega
      have h1 := tmod_emod n m hm.1
      have h2 := Int.emod_nonneg n hm0
      have h3 := Int.emod_lt_of_pos n hm.1
      refine ⟨1, ?_⟩
      have hres : bodyA cf 1 c13 [.int .i64 n, .int .i64 m] h = some (.int .i64 (n % m), h) := by
        by_cases hq : n.tmod m < 0
        · have hd : decide (n.tmod m < 0) = true := by simpa using hq
          rw [if_pos hq] at h1
          simp (config := {maxSteps := 1000000, maxDischargeDepth := 9, implicitDefEqProofs := false}) [c13, hm0, hd]
          simp only [cond_true, h1, Option.some.injEq, Prod.mk.injEq, and_true, V.int.injEq, true_and]
          exact wrap_i64 (by omega) (by omega)
        · have hd : decide (n.tmod m < 0) = false := by simpa using hq
          rw [if_neg hq] at h1
          simp (config := {maxSteps := 1000000, maxDischargeDepth := 9, implicitDefEqProofs := false}) [c13, hm0, hd]
          simp only [cond_false, h1]
      exact ⟨_, _, hres, Canon.same hf hsc (fun _ _ hb => hb) (by simp only [V.lt])⟩
    · cases hs
  · cases hs

/-- utf.New. -/
def s_New : List V → Heap → Option (V × Heap)
  | [], h => some (.ptr h.next 0, h.new (.cells [.nilslice] 69 1 true))
  | _, _ => none
theorem New_ok (cf : ACall) : Sum cf c24 s_New := by
  intro args h v h' hf hsc hlt hs
  unfold s_New at hs
  split at hs
  · simp only [Option.some.injEq, Prod.mk.injEq] at hs
    obtain ⟨rfl, rfl⟩ := hs
    refine ⟨1, ?_⟩
    simp (config := {maxSteps := 1000000, maxDischargeDepth := 9, implicitDefEqProofs := false}) [c24]
    refine Canon.tail (H := h) hf hsc (Ext.refl h) (by simp only [ltL, V.lt, and_self]) ?_
    simp (config := {maxSteps := 1000000, maxDischargeDepth := 9, implicitDefEqProofs := false})
  · cases hs
/-- utf8.RuneStart. -/
def startB (y : Int) : Bool := !(wrapF .u8 (((y % 256).toNat &&& (192 : Nat) : Nat) : Int) == 128)
def s_Start : List V → Heap → Option (V × Heap)
  | [.int .u8 y], h => some (.bool (startB y), h)
  | _, _ => none
theorem Start_ok (cf : ACall) : Sum cf c36 s_Start := by
  intro args h v h' hf hsc hlt hs
  unfold s_Start at hs
  split at hs
  · rename_i y
    simp only [Option.some.injEq, Prod.mk.injEq] at hs
    obtain ⟨rfl, rfl⟩ := hs
    refine ⟨1, ?_⟩
    simp (config := {maxSteps := 1000000, maxDischargeDepth := 9, implicitDefEqProofs := false}) [c36, modK]
    exact Canon.keep (v := .bool (startB y)) hf hsc (Ext.refl _) (by simp only [V.lt])
  · cases hs

/-- utf.Runes. -/
def s_Runes : List V → Heap → Option (V × Heap)
  | [.str s], h => if s.length ≤ 17592186044416 then (if s.length = 0 then some (.nilslice, h) else some (newV h (runesL s).length, h.new (.cells ((runesL s).map (V.int .i32)) 21 1 true))) else none
  | _, _ => none
theorem ownK_keep {h H H' : Heap} {k : IntKind} {v : V} {l : List Int} {t : Nat} (ho : OwnK k h H t v l) (hn : H.next ≤ H'.next) (hg : ∀ q cs, H.get q = some (.cells cs t 1 true) → H'.get q = H.get q) : OwnK k h H' t v l := by
  rcases ho with hh | ⟨b, c, k1, k2, k3, k4, k5, k6⟩
  · exact .inl hh
  · exact .inr ⟨b, c, k1, k2, k3, by omega, k5, by rw [hg _ _ k6]; exact k6⟩
theorem ownK_some {h H : Heap} {k : IntKind} {v : V} {l : List Int} {t : Nat} (ho : OwnK k h H t v l) (hl : 0 < l.length) : v ≠ .nilslice := by
  rcases ho with ⟨_, hh, _⟩ | ⟨b, c, rfl, _⟩
  · omega
  · intro e; cases e
theorem Runes_loop (cf : ACall) (h : Heap) (hf : Fresh h) (s : List Nat) (hl : s.length ≤ 17592186044416) :
    ∀ e, e.n = 16 → e.at 3 = .nilslice → e.at 7 = .ptr h.next 0 →
    YthfbefjmenddkaaDoorA.Ends (execA cf ((runesL s).length + 1) (.loop c38_l0) e (h.new (.iter s 0))) fun x e' H => x = .exit 0 ∧ e'.n = 16 ∧ OwnK .i32 h H 21 (e'.at 3) (runesL s) ∧ Ext h H ∧ Fresh H ∧ (0 < s.length → e'.at 3 ≠ .nilslice) ∧ (s.length = 0 → e'.at 3 = .nilslice) := by
  intro e hn q3 q7
  have hle := runesL_le s
  refine loop_count (cf := cf) (N := (runesL s).length + 1) (c := c38_l0) (runesL s).length
    (fun i e H => e.n = 16 ∧ e.at 7 = .ptr h.next 0 ∧ ∃ pos out, H.get h.next = some (.iter s pos) ∧ out.length = i ∧ out ++ runesL (s.drop pos) = runesL s ∧ OwnK .i32 h H 21 (e.at 3) out ∧ Ext h H ∧ Fresh H ∧ (0 < i → e.at 3 ≠ .nilslice) ∧ (i = 0 → e.at 3 = .nilslice))
    (fun x e' H => x = .exit 0 ∧ e'.n = 16 ∧ OwnK .i32 h H 21 (e'.at 3) (runesL s) ∧ Ext h H ∧ Fresh H ∧ (0 < s.length → e'.at 3 ≠ .nilslice) ∧ (s.length = 0 → e'.at 3 = .nilslice)) ?_ ?_ 0 e _ (Nat.zero_le _) ?_ (Nat.lt_succ_self _)
  · rintro i e H hi ⟨hn, q7, pos, out, hg, ho, hcat, hown, hE, hF, hne, hz⟩
    have hpos : pos < s.length := by
      rcases Nat.lt_or_ge pos s.length with h1 | h1
      · exact h1
      · rw [List.drop_eq_nil_of_le h1, runesL_nil, List.append_nil] at hcat
        rw [hcat] at ho; omega
    have hr := runesL_drop hpos
    have hw := utfDec_pos (s.drop pos)
    have hnx := nextS_more hg hpos
    generalize hR : (utfDec (s.drop pos)).1 = R at *
    generalize hW : (utfDec (s.drop pos)).2 = W at *
    obtain ⟨A1, hA1⟩ : ∃ A, A = H.set h.next (some (.iter s (pos + W))) := ⟨_, rfl⟩
    have hp := hF.lt hg
    have f1 : Fresh A1 := by rw [hA1]; exact hF.set hp _
    have e1 : Ext h A1 := by rw [hA1]; exact hE.trans_set (Nat.le_refl _) _
    obtain ⟨A2, hA2⟩ : ∃ A, A = A1.new (.cells [.int .i32 (R : Int)] 21 1 true) := ⟨_, rfl⟩
    have n1 : A1.next = H.next := by rw [hA1]; rfl
    have f2 : Fresh A2 := by rw [hA2]; exact f1.new _
    have e2 : Ext h A2 := by rw [hA2]; exact e1.trans_new _
    have g1 : A1.get h.next = some (.iter s (pos + W)) := by rw [hA1, Heap.get_set, if_pos rfl]
    have g2 : A2.get h.next = some (.iter s (pos + W)) := by rw [hA2]; exact (Ext.new A1 _).get f1 g1
    have hown1 : OwnK .i32 h A1 21 (e.at 3) out := ownK_keep hown (by omega) fun q cs hq => by
      rw [hA1, Heap.get_set, if_neg]
      rintro rfl
      rw [hg] at hq; cases hq
    have hown2 : OwnK .i32 h A2 21 (e.at 3) out := ownK_keep hown1 (by rw [hA2]; exact Nat.le_succ _) fun q cs hq => by rw [hA2, (Ext.new A1 _).get f1 hq, hq]
    have hol : out.length + 1 ≤ (runesL s).length := by omega
    have hadd : added A2 1 (.slice A1.next 0 1 (some 1)) = some ([V.int .i32 (R : Int)], 1) := by
      have : sl A2 1 (.slice A1.next 0 1 (some 1)) = some [V.int .i32 (R : Int)] := by rw [hA2]; exact sl_selfE rfl rfl (.inr rfl)
      exact rd_added (sl_rd this)
    obtain ⟨v2, A3, k1, k2, k3, k4, k5, k6, k7⟩ := OwnK.app (l := [(R : Int)]) (bytes := 4) e2 f2 hown2 hadd (by
      have : most = 140737488355328 := rfl
      rw [this, List.length_singleton]; omega) (by
      have : most = 140737488355328 := rfl
      rw [this, List.length_singleton]; omega)
    generalize q3 : e.at 3 = v at *
    simp (config := {maxSteps := 1000000, maxDischargeDepth := 9, implicitDefEqProofs := false}) [c38_l0, hn, q7, hnx, q3, ← hA1, ← hA2, k1]
    have hne2 := ownK_some k2 (by rw [List.length_append, List.length_singleton]; omega)
    have g3 : A3.get h.next = some (.iter s (pos + W)) := by
      rw [k7 h.next (f2.lt g2) fun o c hv => ?_]
      · exact g2
      · rcases hown2 with ⟨h0, _⟩ | ⟨b, c', k1', _, _, _, _, k6'⟩
        · rw [h0] at hv; cases hv
        · rw [k1'] at hv
          injection hv with e1
          subst e1
          rw [g2] at k6'; cases k6'
    refine ⟨pos + W, g3, out ++ [(R : Int)], by rw [List.length_append, List.length_singleton, ho], ?_, k2, k3, k4, hne2⟩
    rw [List.append_assoc, ← hcat, hr]; rfl
  · rintro e H ⟨hn, q7, pos, out, hg, ho, hcat, hown, hE, hF, hne, hz⟩
    have hpos : ¬ pos < s.length := by
      intro h1
      have hr := runesL_drop h1
      have := congrArg List.length hcat
      rw [List.length_append, hr, List.length_cons] at this; omega
    rw [List.drop_eq_nil_of_le (by omega), runesL_nil, List.append_nil] at hcat
    subst hcat
    have hnx := nextS_end hg hpos
    generalize q3 : e.at 3 = v at *
    simp (config := {maxSteps := 1000000, maxDischargeDepth := 9, implicitDefEqProofs := false}) [c38_l0, hn, q7, hnx, q3]
    refine ⟨hown, hE, hF, fun h0 => hne ?_, fun h0 => hz ?_⟩
    · rw [runesL_cons h0]; simp
    · subst h0; rfl
  · refine ⟨hn, q7, 0, [], by rw [Heap.get_new]; exact if_pos rfl, rfl, by rw [List.drop_zero]; rfl, ?_, Ext.new h _, hf.new _, fun h0 => absurd h0 (by omega), fun _ => q3⟩
    rw [q3]; exact .inl ⟨rfl, rfl, rfl⟩
theorem Runes_ok (cf : ACall) : Sum cf c38 s_Runes := by
  intro args h v h' hf hsc hlt hs
  unfold s_Runes at hs
  split at hs
  · rename_i s
    split at hs
    · rename_i hl
      refine ⟨(runesL s).length + 1, ?_⟩
      simp (config := {maxSteps := 1000000, maxDischargeDepth := 9, implicitDefEqProofs := false}) [c38]
      refine loop_then (K := fun r => finS _ (seqS _ _ _ (blockS _ r))) (Runes_loop cf h hf s hl _ ?_ ?_ ?_) ?_
      iterate 3 simp (config := {maxSteps := 1000000, maxDischargeDepth := 9, implicitDefEqProofs := false})
      rintro x e' H ⟨rfl, hn, hown, hE, hF, h1, h2⟩
      generalize q3 : e'.at 3 = w at *
      split at hs
      · rename_i h0
        simp only [Option.some.injEq, Prod.mk.injEq] at hs
        obtain ⟨rfl, rfl⟩ := hs
        have := h2 h0
        subst this
        simp (config := {maxSteps := 1000000, maxDischargeDepth := 9, implicitDefEqProofs := false}) [hn, q3]
        exact Canon.keep hf hsc hE (by simp only [V.lt])
      · rename_i h0
        simp only [Option.some.injEq, Prod.mk.injEq] at hs
        obtain ⟨rfl, rfl⟩ := hs
        simp (config := {maxSteps := 1000000, maxDischargeDepth := 9, implicitDefEqProofs := false}) [hn, q3]
        exact hown.canon hf hsc hE (h1 (by omega))
    · cases hs
  · cases hs

/-- The tables, and that they stand in memory. -/
def laidOf (g : Nat) : List V := ((laidVals.find? fun x => x.1 == g).map fun x => x.2).getD []
def firstV : List V := laidOf 2
def accV : List V := laidOf 3
def natV : V → Nat | .int _ n => n.toNat | _ => 0
def firstN : List Nat := firstV.map natV
def accN : List Nat := accV.map natV
theorem firstV_eq : firstV = firstN.map fun n : Nat => V.int .u8 (n : Int) := by kernel_rfl
theorem accV_eq : accV = accN.map fun n : Nat => V.int .u8 (n : Int) := by kernel_rfl
theorem firstN_length : firstN.length = 256 := by kernel_rfl
theorem accN_length : accN.length = 32 := by kernel_rfl
theorem laid_first : (2, firstV) ∈ laidVals := List.mem_of_find?_eq_some (p := fun x => x.1 == 2) (by kernel_rfl)
theorem laid_acc : (3, accV) ∈ laidVals := List.mem_of_find?_eq_some (p := fun x => x.1 == 3) (by kernel_rfl)
/-- What the table's entries are. -/
theorem firstN_all : (List.range 256).all (fun c => decide (firstN.getD c 0 < 256 ∧ (firstN.getD c 0 % 8 ≤ 1 ∨ firstN.getD c 0 / 16 ≤ 4))) = true := by kernel_rfl
theorem firstN_fact {c : Nat} (hc : c < 256) : firstN.getD c 0 < 256 ∧ (firstN.getD c 0 % 8 ≤ 1 ∨ firstN.getD c 0 / 16 ≤ 4) := of_decide_eq_true (List.all_eq_true.1 firstN_all c (List.mem_range.2 hc))
theorem accN_all : (List.range 32).all (fun c => decide (accN.getD c 0 < 256)) = true := by kernel_rfl
theorem accN_lt {c : Nat} (hc : c < 32) : accN.getD c 0 < 256 := of_decide_eq_true (List.all_eq_true.1 accN_all c (List.mem_range.2 hc))
/-- Are these few bytes a whole rune, or none that may become one? -/
def fullB (s : List Nat) : Bool :=
  if s.length = 0 then false
  else if firstN.getD (s.getD 0 0) 0 % 8 ≤ s.length then true
  else if 1 < s.length ∧ (s.getD 1 0 < accN.getD (2 * (firstN.getD (s.getD 0 0) 0 / 16)) 0 ∨ accN.getD (2 * (firstN.getD (s.getD 0 0) 0 / 16) + 1) 0 < s.getD 1 0) then true
  else if 2 < s.length ∧ (s.getD 2 0 < 128 ∨ 191 < s.getD 2 0) then true
  else false
open Classical in
/-- utf8.FullRune. -/
noncomputable def s_Full : List V → Heap → Option (V × Heap)
  | [v], h => match slB h v with
    | some s => if hasLaid laidVals h then some (.bool (fullB s), h) else none
    | none => none
  | _, _ => none
theorem laid_cell {h : Heap} {g c : Nat} {vs : List V} {ns : List Nat} (hl : hasLaid laidVals h) (hm : (g, vs) ∈ laidVals) (he : vs = ns.map fun n : Nat => V.int .u8 (n : Int)) (hc : c < ns.length) : ∃ t, h.get g = some (.cells vs t 1 false) ∧ vs[c]? = some (.int .u8 (ns.getD c 0 : Nat)) := by
  obtain ⟨t, ht⟩ := hl _ hm
  refine ⟨t, ht, ?_⟩
  rw [he, List.getElem?_map, List.getD_eq_getElem?_getD, List.getElem?_eq_getElem hc]; rfl
theorem load_first {h : Heap} (hl : hasLaid laidVals h) {c : Nat} (hc : c < 256) : loadS (.ptr 2 c) h = some (.int .u8 (firstN.getD c 0 : Nat), h) := by
  obtain ⟨t, h1, h2⟩ := laid_cell hl laid_first firstV_eq (c := c) (by rw [firstN_length]; exact hc)
  rw [loadS_ptr, h1, loadB_cells]
  have : nth firstV c = firstV[c]? := nth_eq _ _
  rw [this, h2, loadC_some]
theorem read_acc {h : Heap} (hl : hasLaid laidVals h) {a : Nat} (ha : a < 16) : readB (h.get 3) (a * 2) 2 = some [.int .u8 (accN.getD (2 * a) 0 : Nat), .int .u8 (accN.getD (2 * a + 1) 0 : Nat)] := by
  obtain ⟨t, h1, h2⟩ := laid_cell hl laid_acc accV_eq (c := 2 * a) (by rw [accN_length]; omega)
  obtain ⟨_, _, h3⟩ := laid_cell hl laid_acc accV_eq (c := 2 * a + 1) (by rw [accN_length]; omega)
  have hlen : accV.length = 32 := by rw [accV_eq, List.length_map, accN_length]
  rw [h1, readB_cells, if_pos (by omega), Nat.mul_comm a 2]
  congr 1
  obtain ⟨k1, k2⟩ := List.getElem?_eq_some_iff.1 h2
  obtain ⟨k3, k4⟩ := List.getElem?_eq_some_iff.1 h3
  rw [List.drop_eq_getElem_cons k1, List.drop_eq_getElem_cons k3]
  simp only [List.take_succ_cons, List.take_zero, k2, k4]
theorem Full_ok (cf : ACall) : Sum cf c37 s_Full := by
  intro args h v h' hf hsc hlt hs
  unfold s_Full at hs
  split at hs
  · rename_i vb
    split at hs
    · rename_i s hb
      split at hs
      · rename_i hL
        simp only [Option.some.injEq, Prod.mk.injEq] at hs
        obtain ⟨rfl, rfl⟩ := hs
        have hsl := slB_isSl hb
        have hvl := slB_vlen hb
        have hlt := slB_lt hb
        refine ⟨1, ?_⟩
        by_cases h0 : s.length = 0
        · have : s = [] := List.length_eq_zero_iff.1 h0
          subst this
          simp (config := {maxSteps := 1000000, maxDischargeDepth := 9, implicitDefEqProofs := false}) [c37, lenE hsl, hvl, fullB]
          exact Canon.keep hf hsc (Ext.refl _) (by simp only [V.lt])
        · have h0' : ((s.length : Int) == 0) = false := beq_eq_false_iff_ne.2 (by omega)
          have hc := hlt (s.getD 0 0) (by rw [List.getD_eq_getElem?_getD, List.getElem?_eq_getElem (by omega)]; simp)
          have l0 := rd_load (sl_rd (slB_sl hb).1) (j := 0) (x := .int .u8 (s.getD 0 0 : Nat)) (by rw [bytesOf, List.getElem?_map, List.getD_eq_getElem?_getD, List.getElem?_eq_getElem (by omega)]; rfl)
          have i0 := indexE (z := 1) hsl h (k := .i64) (i := (0 : Int)) (by omega) (by rw [hvl]; omega)
          simp only [Int.toNat_zero, Nat.zero_mul] at i0
          generalize hC : s.getD 0 0 = c at *
          have lf := load_first hL hc
          have hx := firstN_fact hc
          have hcI : (c : Int) < 256 := by omega
          generalize hX : firstN.getD c 0 = x at *
          obtain ⟨y, hy⟩ : ∃ y, y = x % 8 := ⟨_, rfl⟩
          obtain ⟨a, ha⟩ : ∃ a, a = x / 16 := ⟨_, rfl⟩
          have hyI : (x : Int) % 8 = (y : Int) := by omega
          have haI : (x : Int) / 16 = (a : Int) := by omega
          have hand : wrapF .u8 ((((x : Int) % 256).toNat &&& 7 : Nat) : Int) = (y : Int) := by
            have h1 : ((x : Int) % 256).toNat = x := by omega
            have h2 : x &&& 7 = x % 8 := Nat.and_two_pow_sub_one_eq_mod x 3
            rw [h1, h2, ← hy]; exact wrap_u8 (by omega) (by omega)
          have hw8 : wrapF .i64 (y : Int) = (y : Int) := wrap_i64 (by omega) (by omega)
          by_cases h1 : y ≤ s.length
          · have h1I : (y : Int) ≤ (s.length : Int) := by omega
            have hfull : fullB s = true := by
              unfold fullB
              rw [if_neg h0, hC, hX, ← hy, if_pos h1]
            rw [hfull]
            simp (config := {maxSteps := 1000000, maxDischargeDepth := 9, implicitDefEqProofs := false}) [c37, lenE hsl, hvl, h0', i0, l0, lf, hc, hcI, modK, hand, hw8, h1I, h1]
            exact Canon.keep hf hsc (Ext.refl _) (by simp only [V.lt])
          have h1I : ¬ (y : Int) ≤ (s.length : Int) := by omega
          have ha4 : a ≤ 4 := by omega
          have ha16 : (a : Int) < 16 := by omega
          have rdacc : readB (h.get 3) (a * 2) 2 = some [.int .u8 (accN.getD (2 * a) 0 : Nat), .int .u8 (accN.getD (2 * a + 1) 0 : Nat)] := read_acc hL (by omega)
          have hlo := accN_lt (c := 2 * a) (by omega)
          have hhi := accN_lt (c := 2 * a + 1) (by omega)
          generalize hLO : accN.getD (2 * a) 0 = lo at *
          generalize hHI : accN.getD (2 * a + 1) 0 = hi at *
          have hfull : fullB s = (if 1 < s.length ∧ (s.getD 1 0 < lo ∨ hi < s.getD 1 0) then true else if 2 < s.length ∧ (s.getD 2 0 < 128 ∨ 191 < s.getD 2 0) then true else false) := by
            unfold fullB
            rw [if_neg h0, hC, hX, ← hy, if_neg h1, ← ha, hLO, hHI]
          by_cases g1 : 1 < s.length
          · have g1I : (1 : Int) < (s.length : Int) := by omega
            have l1 : ∀ K, Ext h K → loadS (atP vb 1) K = some (.int .u8 (s.getD 1 0 : Nat), K) := fun K hK => rd_load (sl_rd (slB_sl (slB_ext hK hf hb)).1) (j := 1) (by rw [bytesOf, List.getElem?_map, List.getD_eq_getElem?_getD, List.getElem?_eq_getElem (by omega)]; rfl)
            have l2 : 2 < s.length → ∀ K, Ext h K → loadS (atP vb 2) K = some (.int .u8 (s.getD 2 0 : Nat), K) := fun g2 K hK => rd_load (sl_rd (slB_sl (slB_ext hK hf hb)).1) (j := 2) (by rw [bytesOf, List.getElem?_map, List.getD_eq_getElem?_getD, List.getElem?_eq_getElem (by omega)]; rfl)
            obtain ⟨K, hK⟩ : ∃ K, K = h.new (.cells [.int .u8 (lo : Int), .int .u8 (hi : Int)] 77 1 true) := ⟨_, rfl⟩
            have eK : Ext h K := by rw [hK]; exact Ext.new h _
            have i1 := indexE (z := 1) hsl K (k := .i64) (i := (1 : Int)) (by omega) (by rw [hvl]; omega)
            simp only [Int.toNat_one, Nat.mul_one] at i1
            replace l1 := l1 K eK
            replace l2 := fun g => l2 g K eK
            generalize hU : s.getD 1 0 = u at *
            generalize hW : s.getD 2 0 = v at *
            have kget : K.get h.next = some (.cells [.int .u8 (lo : Int), .int .u8 (hi : Int)] 77 1 true) := by rw [hK, Heap.get_new]; exact if_pos rfl
            by_cases j1 : u < lo
            · have j1I : (u : Int) < (lo : Int) := by omega
              rw [show fullB s = true from by rw [hfull]; exact if_pos ⟨g1, .inl j1⟩]
              simp (config := {maxSteps := 1000000, maxDischargeDepth := 9, implicitDefEqProofs := false}) [c37, lenE hsl, hvl, h0', i0, l0, lf, hc, hcI, modK, hand, hw8, h1I, h1, haI, ha16, rdacc, ← hK, g1, g1I, i1, l1, kget, j1I, j1]
              exact Canon.keep hf hsc eK (by simp only [V.lt])
            have j1I : ¬ (u : Int) < (lo : Int) := by omega
            by_cases j2 : hi < u
            · have j2I : (hi : Int) < (u : Int) := by omega
              rw [show fullB s = true from by rw [hfull]; exact if_pos ⟨g1, .inr j2⟩]
              simp (config := {maxSteps := 1000000, maxDischargeDepth := 9, implicitDefEqProofs := false}) [c37, lenE hsl, hvl, h0', i0, l0, lf, hc, hcI, modK, hand, hw8, h1I, h1, haI, ha16, rdacc, ← hK, g1, g1I, i1, l1, kget, j1I, j1, j2, j2I]
              exact Canon.keep hf hsc eK (by simp only [V.lt])
            have j2I : ¬ (hi : Int) < (u : Int) := by omega
            have hfull2 : fullB s = (if 2 < s.length ∧ (v < 128 ∨ 191 < v) then true else false) := by rw [hfull]; exact if_neg (fun h => h.2.elim j1 j2)
            by_cases g2 : 2 < s.length
            · have g2I : (2 : Int) < (s.length : Int) := by omega
              have i2 := indexE (z := 1) hsl K (k := .i64) (i := (2 : Int)) (by omega) (by rw [hvl]; omega)
              simp only [Nat.mul_one, show (2 : Int).toNat = 2 from rfl] at i2
              have l2' := l2 g2
              by_cases j3 : v < 128
              · have j3I : (v : Int) < 128 := by omega
                rw [show fullB s = true from by rw [hfull]; rw [← hfull, hfull2]; exact if_pos ⟨g2, .inl j3⟩]
                simp (config := {maxSteps := 1000000, maxDischargeDepth := 9, implicitDefEqProofs := false}) [c37, lenE hsl, hvl, h0', i0, l0, lf, hc, hcI, modK, hand, hw8, h1I, h1, haI, ha16, rdacc, ← hK, g1, g1I, i1, l1, kget, j1, j1I, j2, j2I, g2, g2I, i2, l2', j3, j3I]
                exact Canon.keep hf hsc eK (by simp only [V.lt])
              have j3I : ¬ (v : Int) < 128 := by omega
              by_cases j4 : 191 < v
              · have j4I : 191 < (v : Int) := by omega
                rw [show fullB s = true from by rw [hfull]; rw [← hfull, hfull2]; exact if_pos ⟨g2, .inr j4⟩]
                simp (config := {maxSteps := 1000000, maxDischargeDepth := 9, implicitDefEqProofs := false}) [c37, lenE hsl, hvl, h0', i0, l0, lf, hc, hcI, modK, hand, hw8, h1I, h1, haI, ha16, rdacc, ← hK, g1, g1I, i1, l1, kget, j1, j1I, j2, j2I, g2, g2I, i2, l2', j3, j3I, j4, j4I]
                exact Canon.keep hf hsc eK (by simp only [V.lt])
              have j4I : ¬ 191 < (v : Int) := by omega
              rw [show fullB s = false from by rw [hfull]; rw [← hfull, hfull2]; exact if_neg (fun h => h.2.elim j3 j4)]
              simp (config := {maxSteps := 1000000, maxDischargeDepth := 9, implicitDefEqProofs := false}) [c37, lenE hsl, hvl, h0', i0, l0, lf, hc, hcI, modK, hand, hw8, h1I, h1, haI, ha16, rdacc, ← hK, g1, g1I, i1, l1, kget, j1, j1I, j2, j2I, g2, g2I, i2, l2', j3, j3I, j4, j4I]
              exact Canon.keep hf hsc eK (by simp only [V.lt])
            have g2I : ¬ (2 : Int) < (s.length : Int) := by omega
            rw [show fullB s = false from by rw [hfull]; rw [← hfull, hfull2]; exact if_neg (fun h => g2 h.1)]
            simp (config := {maxSteps := 1000000, maxDischargeDepth := 9, implicitDefEqProofs := false}) [c37, lenE hsl, hvl, h0', i0, l0, lf, hc, hcI, modK, hand, hw8, h1I, h1, haI, ha16, rdacc, ← hK, g1, g1I, i1, l1, kget, j1, j1I, j2, j2I, g2, g2I]
            exact Canon.keep hf hsc eK (by simp only [V.lt])
          · have g1I : ¬ (1 : Int) < (s.length : Int) := by omega
            have g2I : ¬ (2 : Int) < (s.length : Int) := by omega
            have g2 : ¬ 2 < s.length := by omega
            rw [show fullB s = false from by rw [hfull, if_neg (fun h => g1 h.1), if_neg (fun h => g2 h.1)]]
            simp (config := {maxSteps := 1000000, maxDischargeDepth := 9, implicitDefEqProofs := false}) [c37, lenE hsl, hvl, h0', i0, l0, lf, hc, hcI, modK, hand, hw8, h1I, h1, haI, ha16, rdacc, g1, g1I, g2, g2I]
            exact Canon.keep hf hsc (Ext.new _ _) (by simp only [V.lt])
      · cases hs
    · cases hs
  · cases hs

/-- May a rune that is not whole begin here? -/
def heldAt (s : List Nat) (k : Nat) : Bool := startB (s.getD k 0 : Nat) && !fullB (s.drop k)
def cutFrom (s : List Nat) : Nat → Nat → Nat
  | 0, _ => s.length
  | r + 1, k => if heldAt s k = true then k else cutFrom s r (k + 1)
/-- So many bytes are told at once. -/
def cutN (s : List Nat) : Nat := cutFrom s (min 3 s.length) (s.length - 3)
theorem cutFrom_spec (s : List Nat) : ∀ (r k : Nat), k + r = s.length → k ≤ cutFrom s r k ∧ cutFrom s r k ≤ s.length ∧ (∀ j, k ≤ j → j < cutFrom s r k → heldAt s j = false) ∧ (cutFrom s r k < s.length → heldAt s (cutFrom s r k) = true)
  | 0, k, h => ⟨by simp only [cutFrom]; omega, by simp only [cutFrom]; omega, fun j h1 h2 => by simp only [cutFrom] at h2; omega, fun h1 => by simp only [cutFrom] at h1; omega⟩
  | r + 1, k, h => by
    simp only [cutFrom]
    by_cases hk : heldAt s k = true
    · rw [if_pos hk]
      exact ⟨Nat.le_refl _, by omega, fun j h1 h2 => by omega, fun _ => hk⟩
    · rw [if_neg hk]
      obtain ⟨a, b, c, d⟩ := cutFrom_spec s r (k + 1) (by omega)
      refine ⟨by omega, b, fun j h1 h2 => ?_, d⟩
      by_cases hj : j = k
      · subst hj; simpa using hk
      · exact c j (by omega) h2
theorem cutN_spec (s : List Nat) : s.length - 3 ≤ cutN s ∧ cutN s ≤ s.length ∧ (∀ j, s.length - 3 ≤ j → j < cutN s → heldAt s j = false) ∧ (cutN s < s.length → heldAt s (cutN s) = true) :=
  cutFrom_spec s _ _ (by omega)
/-- The heap behind Feed: what is held, and what is told. -/
def feedH (h : Heap) (p t : Nat) (s : List Nat) : Heap := (h.set p (some (.cells [.slice h.next 0 (s.length - cutN s) none] t 1 true))).new (.cells (bytesOf (s.drop (cutN s))) 5 1 true)
open Classical in
/-- Feed. -/
noncomputable def s_Feed : List V → Heap → Option (V × Heap)
  | [.ptr p 0, vb], h => match h.get p with
    | some (.cells [vh] t 1 true) => match slB h vh, slB h vb with
      | some a, some b => if hasLaid laidVals h ∧ (a ++ b).length ≤ 17592186044416 then
          (if cutN (a ++ b) = 0 then some (.nilslice, feedH h p t (a ++ b))
          else some (.slice (h.next + 1) 0 (runesL ((a ++ b).take (cutN (a ++ b)))).length none, (feedH h p t (a ++ b)).new (.cells ((runesL ((a ++ b).take (cutN (a ++ b)))).map (V.int .i32)) 21 1 true))) else none
      | _, _ => none
    | _ => none
  | _, _ => none
theorem Feed_loop (cf : ACall) (hStart : ∀ a h, cf 36 a h = s_Start a h) (hFull : ∀ a h, cf 37 a h = s_Full a h) (H : Heap) (hL : hasLaid laidVals H) (s : List Nat) (hl : s.length ≤ 17592186044416) (v vp : V) (hv : slB H v = some s) :
    ∀ e, e.n = 51 → e.at 0 = vp → e.at 5 = v → e.at 6 = .int .i64 (s.length : Int) → e.at 7 = .int .i64 ((s.length - 3 : Nat) : Int) →
    YthfbefjmenddkaaDoorA.Ends (execA cf 6 (.loop c25_l0) e H) fun x e' H' => x = .exit 0 ∧ e'.n = 51 ∧ e'.at 0 = vp ∧ e'.at 5 = v ∧ e'.at 6 = .int .i64 (cutN s : Int) ∧ H' = H := by
  intro e hn q0 q5 q6 q7
  obtain ⟨c1, c2, c3, c4⟩ := cutN_spec s
  generalize cutN s = c at *
  have hsl := slB_isSl hv
  have hvl := slB_vlen hv
  have hlt := slB_lt hv
  obtain ⟨k0, hk0⟩ : ∃ k, k = s.length - 3 := ⟨_, rfl⟩
  rw [← hk0] at q7 c1 c3
  obtain ⟨M, hM⟩ : ∃ M, M = (if c < s.length then c - k0 + 1 else s.length - k0) := ⟨_, rfl⟩
  have hM4 : M ≤ 4 := by rw [hM]; split <;> omega
  refine loop_count (cf := cf) (N := 6) (c := c25_l0) M
    (fun i e H' => e.n = 51 ∧ e.at 0 = vp ∧ e.at 5 = v ∧ e.at 6 = .int .i64 ((if k0 + i ≤ c then s.length else c : Nat) : Int) ∧ e.at 7 = .int .i64 ((k0 + i : Nat) : Int) ∧ H' = H)
    (fun x e' H' => x = .exit 0 ∧ e'.n = 51 ∧ e'.at 0 = vp ∧ e'.at 5 = v ∧ e'.at 6 = .int .i64 (c : Int) ∧ H' = H) ?_ ?_ 0 e _ (Nat.zero_le _) ⟨hn, q0, q5, by rw [if_pos (by omega)]; exact q6, q7, rfl⟩ (by omega)
  · rintro i e H' hi ⟨hn, q0, q5, q6, q7, rfl⟩
    have hki : k0 + i ≤ c ∧ k0 + i < s.length := by rw [hM] at hi; split at hi <;> omega
    rw [if_pos hki.1] at q6
    obtain ⟨k, hk⟩ : ∃ k, k = k0 + i := ⟨_, rfl⟩
    rw [← hk] at q7 hki
    have hkI : (k : Int) < (s.length : Int) := by omega
    have wk : wrapF .i64 ((k : Int) + 1) = ((k + 1 : Nat) : Int) := by rw [wrap_i64 (by omega) (by omega)]; omega
    have i1 := indexE (z := 1) hsl H' (k := .i64) (i := (k : Int)) (by omega) (by rw [hvl]; omega)
    simp only [Int.toNat_natCast, Nat.mul_one] at i1
    have l1 : loadS (atP v k) H' = some (.int .u8 (s.getD k 0 : Nat), H') := rd_load (sl_rd (slB_sl hv).1) (j := k) (by rw [bytesOf, List.getElem?_map, List.getD_eq_getElem?_getD, List.getElem?_eq_getElem hki.2]; rfl)
    have cw : sliceV H' 1 v (some (.int .i64 (k : Int))) none none = some (cutV 1 v k s.length) := by
      have := slice_lo (k := .i64) (i := (k : Int)) (v := v) (h := H') (by rw [hv]; rfl) (by omega) (by omega)
      rw [this, Int.toNat_natCast, hvl]
    have sw : slB H' (cutV 1 v k s.length) = some (s.drop k) := by
      rw [(slB_cut' hv (l := k) (r := s.length) (by omega) (Nat.le_refl _)).1, List.take_length]
    have rF : s_Full [cutV 1 v k s.length] H' = some (.bool (fullB (s.drop k)), H') := by
      unfold s_Full
      simp only [sw]
      rw [if_pos hL]
    have rS : s_Start [.int .u8 (s.getD k 0 : Nat)] H' = some (.bool (startB (s.getD k 0 : Nat)), H') := rfl
    have hh : heldAt s k = (startB (s.getD k 0 : Nat) && !fullB (s.drop k)) := rfl
    generalize s.getD k 0 = y at *
    generalize cutV 1 v k s.length = w at *
    generalize fullB (s.drop k) = fb at *
    generalize hsb : startB (y : Nat) = sb at *
    by_cases hkc : k = c
    · have hb := c4 (by omega)
      rw [← hkc, hh] at hb
      simp only [Bool.and_eq_true, Bool.not_eq_true'] at hb
      obtain ⟨rfl, rfl⟩ := hb
      subst hkc
      have hnn : ¬ k + 1 ≤ k := by omega
      simp (config := {maxSteps := 1000000, maxDischargeDepth := 9, implicitDefEqProofs := false}) [c25_l0, hn, q0, q5, q6, q7, hkI, hki, i1, l1, hStart, rS, cw, hFull, rF, wk, hsb]
      exact ⟨by rw [if_neg (by omega)], by omega⟩
    · have hb := c3 k (by omega) (by omega)
      rw [hh] at hb
      have hkk : k + 1 ≤ c := by omega
      cases sb with
      | false =>
        simp (config := {maxSteps := 1000000, maxDischargeDepth := 9, implicitDefEqProofs := false}) [c25_l0, hn, q0, q5, q6, q7, hkI, hki, i1, l1, hStart, rS, cw, hFull, rF, wk, hsb]
        exact ⟨by rw [if_pos (by omega)], by omega⟩
      | true =>
        cases fb with
        | false => simp at hb
        | true =>
          simp (config := {maxSteps := 1000000, maxDischargeDepth := 9, implicitDefEqProofs := false}) [c25_l0, hn, q0, q5, q6, q7, hkI, hki, i1, l1, hStart, rS, cw, hFull, rF, wk, hsb]
          exact ⟨by rw [if_pos (by omega)], by omega⟩
  · rintro e H' ⟨hn, q0, q5, q6, q7, rfl⟩
    have hex : (if k0 + M ≤ c then s.length else c) = c ∧ ¬ ((k0 + M : Nat) : Int) < (c : Int) := by
      rw [hM]
      split
      · rw [if_neg (by omega)]; omega
      · rw [if_pos (by omega)]; omega
    rw [hex.1] at q6
    obtain ⟨hex1, hex2⟩ := hex
    generalize k0 + M = m at *
    simp (config := {maxSteps := 1000000, maxDischargeDepth := 9, implicitDefEqProofs := false}) [c25_l0, hn, q0, q5, q6, q7, hex2]
theorem cut_form {h H : Heap} {t L c : Nat} {v : V} {s : List Nat} (ho : OwnB h H t v s) (hn : v ≠ .nilslice) (hL : L = s.length) (hc : c ≤ L) : ∃ b δ cap, cutV 1 v c L = .slice b δ (L - c) cap ∧ h.next ≤ b ∧ b < H.next ∧ H.get b = some (.cells (bytesOf s) t 1 true) ∧ δ + (L - c) ≤ L ∧ (c < L → δ = c) ∧ (cap = none ∨ cap = some (L - c)) := by
  rcases ho with ⟨h0, _⟩ | ⟨b, cap, rfl, k2, k3, k4, k5, k6⟩
  · exact absurd h0 hn
  · rw [← hL]
    rcases k2 with rfl | rfl
    · simp only [cutV]
      split
      · rename_i h0
        refine ⟨b, 0, none, ?_, k3, k4, k6, by omega, fun h => by omega, .inl rfl⟩
        rw [show L - c = 0 from by omega]
      · exact ⟨b, 0 + c * 1, none, rfl, k3, k4, k6, by omega, fun h => by omega, .inl rfl⟩
    · simp only [cutV, ← hL]
      split
      · rename_i h0
        exact ⟨b, 0, some (L - c), rfl, k3, k4, k6, by omega, fun h => by omega, .inr rfl⟩
      · exact ⟨b, 0 + c * 1, some (L - c), rfl, k3, k4, k6, by omega, fun h => by omega, .inr rfl⟩
theorem slB_same4 {H H' : Heap} {q o n : Nat} {c : Option Nat} (hg : H'.get q = H.get q) : slB H' (.slice q o n c) = slB H (.slice q o n c) := by
  have h1 : wfS H' 1 (.slice q o n c) = wfS H 1 (.slice q o n c) := by dsimp only [wfS]; rw [hg]
  have h2 : rd H' 1 (.slice q o n c) = rd H 1 (.slice q o n c) := by
    show H'.read q o (n * 1) = H.read q o (n * 1)
    unfold Heap.read; rw [hg]
  unfold slB sl
  rw [h1, h2]
theorem Feed_ok (cf : ACall) (hStart : ∀ a h, cf 36 a h = s_Start a h) (hFull : ∀ a h, cf 37 a h = s_Full a h) (hRunes : ∀ a h, cf 38 a h = s_Runes a h) : Sum cf c25 s_Feed := by
  intro args h v h' hf hsc hlt hs
  unfold s_Feed at hs
  split at hs
  · rename_i p vb
    split at hs
    · rename_i vh t hg
      split at hs
      · rename_i a b ha hb
        split at hs
        · rename_i hc
          obtain ⟨hL, hl⟩ := hc
          obtain ⟨s, hs0⟩ : ∃ s, s = a ++ b := ⟨_, rfl⟩
          rw [← hs0] at hs hl
          have hlm : lim = 140737488354304 := rfl
          have hsl0 : s.length = a.length + b.length := by rw [hs0, List.length_append]
          have hpl := hf.lt hg
          obtain ⟨h1, hh1⟩ : ∃ A, A = h.new (.cells [] 5 1 true) := ⟨_, rfl⟩
          have e1 : Ext h h1 := by rw [hh1]; exact Ext.new h _
          have f1 : Fresh h1 := by rw [hh1]; exact hf.new _
          obtain ⟨v2, h2, r1, o2, e2, f2, n2, m2, _⟩ := OwnB.app (x := vh) (s := a) e1 f1 (by rw [hh1]; exact OwnB.start h 5) (slB_added (slB_ext e1 hf ha)) (by simp only [List.length_nil]; omega)
          obtain ⟨v3, h3, r2, o3, e3, f3, n3, m3, _⟩ := OwnB.app (x := vb) (s := b) e2 f2 o2 (slB_added (slB_ext e2 hf hb)) (by simp only [List.nil_append]; omega)
          rw [List.nil_append, ← hs0] at o3
          have hne3 : v3 ≠ .nilslice := m3 (m2 (by intro h; cases h))
          have hslt : ∀ y ∈ s, y < 256 := fun y hy => by
            rw [hs0] at hy
            rcases List.mem_append.1 hy with hy | hy
            · exact slB_lt ha y hy
            · exact slB_lt hb y hy
          have s3 : slB h3 v3 = some s := o3.slB hslt
          have hL3 := hasLaid_ext hL hf e3
          have hvl := slB_vlen s3
          have hsl := slB_isSl s3
          have lg : loadS (.ptr p 0) h1 = some (vh, h1) := by rw [loadS_ptr, e1.get hf hg]; rfl
          obtain ⟨k0, hk0⟩ : ∃ k, k = s.length - 3 := ⟨_, rfl⟩
          have w1 : wrapF .i64 ((s.length : Int) - 4) = (s.length : Int) - 4 := wrap_i64 (by omega) (by omega)
          have w2 : wrapF .i64 ((s.length : Int) - 4 + 1) = (s.length : Int) - 3 := by rw [wrap_i64 (by omega) (by omega)]; omega
          have w3 : (if (3 : Int) < (s.length : Int) then (s.length : Int) - 3 else 0) = (k0 : Int) := by split <;> omega
          refine ⟨6, ?_⟩
          simp (config := {maxSteps := 1000000, maxDischargeDepth := 9, implicitDefEqProofs := false}) [c25, ← hh1, lg, r1, r2, lenE hsl, hvl, w1, w2, w3]
          refine loop_then (K := fun r => finS _ (seqS _ _ _ (blockS _ r))) (Feed_loop cf hStart hFull h3 hL3 s hl v3 (.ptr p 0) s3 _ ?_ ?_ ?_ ?_ ?_) ?_
          iterate 5 simp (config := {maxSteps := 1000000, maxDischargeDepth := 9, implicitDefEqProofs := false}) [hk0]
          rintro x e' H ⟨rfl, hn', q0, q5, q6, rfl⟩
          obtain ⟨_, c2, _, _⟩ := cutN_spec s
          unfold feedH at hs
          generalize cutN s = c at *
          obtain ⟨q, δ, cap, hcut, b1, b2, b3, b4, b5, b6⟩ := cut_form (c := c) o3 hne3 rfl c2
          have cw : sliceV H 1 v3 (some (.int .i64 (c : Int))) none none = some (cutV 1 v3 c s.length) := by
            have := slice_lo (k := .i64) (i := (c : Int)) (v := v3) (h := H) (by rw [s3]; rfl) (by omega) (by omega)
            rw [this, Int.toNat_natCast, hvl]
          obtain ⟨w, hw⟩ : ∃ w, w = cutV 1 v3 c s.length := ⟨_, rfl⟩
          rw [← hw] at cw hcut
          have onew : w.one = true := by rw [hcut]; rfl
          have clw : w.cells = [w] := by rw [hcut]; rfl
          have hgp : H.get p = some (.cells [vh] t 1 true) := e3.get hf hg
          obtain ⟨h4, hh4⟩ : ∃ A, A = H.set p (some (.cells [w] t 1 true)) := ⟨_, rfl⟩
          have f4 : Fresh h4 := by rw [hh4]; exact f3.set (by have := e3.1; omega) _
          have hpq : p ≠ q := by omega
          have s4 : slB h4 v3 = some s := by
            rw [← s3]
            rcases o3 with ⟨h0, _⟩ | ⟨b', c', k1, k2, k3, _⟩
            · exact absurd h0 hne3
            · rw [k1]
              exact slB_same4 (by rw [hh4, Heap.get_set, if_neg (by omega)])
          have cu : sliceV h4 1 v3 none (some (.int .i64 (c : Int))) none = some (cutV 1 v3 0 c) := by
            have := slice_hi (k := .i64) (i := (c : Int)) (v := v3) (h := h4) (by rw [s4]; rfl) (by omega) (by omega)
            rw [this, Int.toNat_natCast]
          have su : slB h4 (cutV 1 v3 0 c) = some (s.take c) := by rw [(slB_cut' s4 (l := 0) (r := c) (Nat.zero_le _) c2).1, List.drop_zero]
          have bu : bytesStrS (cutV 1 v3 0 c) h4 = some (.str (s.take c), h4) := rdB_str (slB_rdB su)
          have htl : (s.take c).length = c := by rw [List.length_take]; omega
          have gk : ∀ b B, b ≠ p → h.get b = some B → h4.get b = some B := fun b B hb hB => by rw [hh4, Heap.get_set, if_neg hb]; exact e3.get hf hB
          have gp : h4.get p = some (.cells [w] t 1 true) := by rw [hh4, Heap.get_set]; exact if_pos rfl
          have gq : h4.get q = some (.cells (bytesOf s) 5 1 true) := by rw [hh4, Heap.get_set, if_neg (fun h => hpq h.symm)]; exact b3
          have lq : δ + (bytesOf (s.drop c)).length ≤ (bytesOf s).length := by rw [bytesOf_length, bytesOf_length, List.length_drop]; exact b4
          have gn : ∀ (i : Nat) (x : V), (bytesOf (s.drop c))[i]? = some x → (bytesOf s)[δ + i]? = some x := fun i x hi => by
            have hic : i < s.length - c := by
              have := (List.getElem?_eq_some_iff.1 hi).1
              rw [bytesOf_length, List.length_drop] at this; exact this
            rw [b5 (by omega)]
            simp only [bytesOf, List.getElem?_map, List.getElem?_drop] at hi ⊢
            exact hi
          have vcw : ∀ (h2 : Heap) (τ : Nat → Nat × Nat) (n : Nat), h.next < n → τ h.next = (q, δ) → h2.get q = some (.cells (bytesOf s) 5 1 true) → VC h2 τ n (.slice h.next 0 (s.length - c) none) w := fun h2 τ n hn hτ hgq => by
            rw [hcut]
            simp only [VC, hτ]
            refine ⟨hn, cap, rfl, fun m hm => ⟨_, _, _, _, hgq, ?_⟩⟩
            rcases b6 with hb6 | hb6
            · rw [hb6] at hm; cases hm
            · rw [hb6] at hm; cases hm; rw [bytesOf_length]; omega
          by_cases hc0 : c = 0
          · rw [if_pos hc0] at hs
            simp only [Option.some.injEq, Prod.mk.injEq] at hs
            obtain ⟨rfl, rfl⟩ := hs
            have rR : s_Runes [.str (s.take c)] h4 = some (.nilslice, h4) := by
              unfold s_Runes
              simp only
              rw [if_pos (by omega), if_pos (by omega)]
            simp (config := {maxSteps := 1000000, maxDischargeDepth := 9, implicitDefEqProofs := false}) [hn', q0, q5, q6, cw, hgp, onew, clw, ← hh4, cu, bu, hRunes, rR]
            refine ⟨_, Canon.mod1 (b2 := q) (δ := δ) (nc2 := bytesOf s) (cs2 := [w]) hf hsc hpl gk gp rfl ?_ b1 gq lq gn (flat_bytes _) (by simp only [VC])⟩
            intro i x hi
            cases i with
            | succ i => simp at hi
            | zero =>
              simp only [List.getElem?_cons_zero, Option.some.injEq] at hi
              subst hi
              exact ⟨w, rfl, vcw _ _ _ (by omega) moved_at gq⟩
          · rw [if_neg hc0] at hs
            simp only [Option.some.injEq, Prod.mk.injEq] at hs
            obtain ⟨rfl, rfl⟩ := hs
            have rR : s_Runes [.str (s.take c)] h4 = some (.slice h4.next 0 (runesL (s.take c)).length none, h4.new (.cells ((runesL (s.take c)).map (V.int .i32)) 21 1 true)) := by
              unfold s_Runes
              simp only
              rw [if_pos (by omega), if_neg (by omega)]; rfl
            simp (config := {maxSteps := 1000000, maxDischargeDepth := 9, implicitDefEqProofs := false}) [hn', q0, q5, q6, cw, hgp, onew, clw, ← hh4, cu, bu, hRunes, rR]
            have f5 := Ext.new h4 (.cells ((runesL (s.take c)).map (V.int .i32)) 21 1 true)
            have n4 : h4.next = H.next := by rw [hh4]; rfl
            refine ⟨_, Canon.mod2 (b2 := q) (δ := δ) (b3 := h4.next) (nc2 := bytesOf s) (cs2 := [w]) hf hsc hpl (fun b B hb hB => f5.get f4 (gk b B hb hB)) (f5.get f4 gp) rfl ?_ b1 (f5.get f4 gq) lq gn (flat_bytes _) (by have := e3.1; omega) (by omega) (by rw [Heap.get_new]; exact if_pos rfl) (flat_ints _ _) ?_⟩
            · intro i x hi
              cases i with
              | succ i => simp at hi
              | zero =>
                simp only [List.getElem?_cons_zero, Option.some.injEq] at hi
                subst hi
                exact ⟨w, rfl, vcw _ _ _ (by omega) (moved_two0 _ _ _ _) (f5.get f4 gq)⟩
            · simp only [VC, moved_two1]
              exact ⟨by omega, none, rfl, fun m hm => by cases hm⟩
        · cases hs
      · cases hs
    · cases hs
  · cases hs

/-- known, where the tables stand in memory. -/
noncomputable def s_kn : List V → Heap → Option (V × Heap) := s_knownG laidVals
theorem s_kn_ok {h : Heap} (hl : hasLaid laidVals h) : s_kn [] h = some (.bool true, h) := if_pos hl
/-- A decoder that holds these bytes. -/
def isDec (H : Heap) (p t : Nat) (s : List Nat) : Prop := (∃ vh, H.get p = some (.cells [vh] t 1 true) ∧ slB H vh = some s ∧ vh = .nilslice) ∨ ∃ q n cs, H.get p = some (.cells [.slice q 0 n none] t 1 true) ∧ slB H (.slice q 0 n none) = some s ∧ q ≠ p ∧ H.get q = some (.cells cs 5 1 true)
theorem isDec.get {H : Heap} {p t : Nat} {s : List Nat} (hd : isDec H p t s) : ∃ vh, H.get p = some (.cells [vh] t 1 true) ∧ slB H vh = some s := by
  obtain ⟨vh, h1, h2, _⟩ | ⟨q, n, cs, h1, h2, _⟩ := hd
  · exact ⟨_, h1, h2⟩
  · exact ⟨_, h1, h2⟩
theorem isDec.keep {H H' : Heap} {p t : Nat} {s : List Nat} (hd : isDec H p t s) (hp : H'.get p = H.get p) (hq : ∀ q cs, q ≠ p → H.get q = some (.cells cs 5 1 true) → H'.get q = H.get q) : isDec H' p t s := by
  obtain ⟨vh, h1, h2, rfl⟩ | ⟨q, n, cs, h1, h2, h3, h4⟩ := hd
  · exact .inl ⟨_, by rw [hp]; exact h1, (show slB H' .nilslice = slB H .nilslice from rfl).trans h2, rfl⟩
  · have := hq q cs h3 h4
    exact .inr ⟨q, n, cs, by rw [hp]; exact h1, by rw [slB_same4 this]; exact h2, h3, by rw [this]; exact h4⟩
theorem isDec.ext {H H' : Heap} {p t : Nat} {s : List Nat} (hd : isDec H p t s) (hF : Fresh H) (hE : Ext H H') : isDec H' p t s := by
  obtain ⟨vh, h1, _⟩ := hd.get
  exact hd.keep (by rw [hE.get hF h1, h1]) fun q cs _ hq => by rw [hE.get hF hq, hq]
theorem isDec_new (H : Heap) (t : Nat) : isDec (H.new (.cells [.nilslice] t 1 true)) H.next t [] := .inl ⟨_, by rw [Heap.get_new]; exact if_pos rfl, slB_nil, rfl⟩
/-- What Feed does to a decoder, and what it tells. -/
theorem feed_run {H : Heap} {p t : Nat} {a b : List Nat} {vb : V} (hd : isDec H p t a) (hb : slB H vb = some b) (hF : Fresh H) (hL : hasLaid laidVals H) (hl : a.length + b.length ≤ 17592186044416) :
    ∃ H' v, s_Feed [.ptr p 0, vb] H = some (v, H') ∧ slK .i32 H' v = some (runesL ((a ++ b).take (cutN (a ++ b)))) ∧ isDec H' p t ((a ++ b).drop (cutN (a ++ b))) ∧ Fresh H' ∧ (∀ q, q ≠ p → q < H.next → H'.get q = H.get q) ∧ H.next ≤ H'.next ∧ (v = .nilslice ∨ ∃ q n cs, v = .slice q 0 n none ∧ H.next ≤ q ∧ H'.get q = some (.cells cs 21 1 true)) := by
  obtain ⟨vh, g1, g2⟩ := hd.get
  have hp := hF.lt g1
  have hlt : ∀ y ∈ (a ++ b).drop (cutN (a ++ b)), y < 256 := fun y hy => by
    have hy := List.mem_of_mem_drop hy
    rcases List.mem_append.1 hy with hy | hy
    · exact slB_lt g2 y hy
    · exact slB_lt hb y hy
  have hc := (cutN_spec (a ++ b)).2.1
  have hr : s_Feed [.ptr p 0, vb] H = (if cutN (a ++ b) = 0 then some (.nilslice, feedH H p t (a ++ b)) else some (.slice (H.next + 1) 0 (runesL ((a ++ b).take (cutN (a ++ b)))).length none, (feedH H p t (a ++ b)).new (.cells ((runesL ((a ++ b).take (cutN (a ++ b)))).map (V.int .i32)) 21 1 true))) := by
    unfold s_Feed
    simp only [g1, g2, hb]
    rw [if_pos ⟨hL, by rw [List.length_append]; exact hl⟩]
  have hdl : ((a ++ b).drop (cutN (a ++ b))).length = (a ++ b).length - cutN (a ++ b) := List.length_drop
  generalize hs : a ++ b = s at *
  have n1 : (feedH H p t s).next = H.next + 1 := rfl
  have f1 : Fresh (feedH H p t s) := by unfold feedH; exact (hF.set hp _).new _
  have gp : (feedH H p t s).get p = some (.cells [.slice H.next 0 (s.length - cutN s) none] t 1 true) := by
    unfold feedH
    rw [Heap.get_new, if_neg (by show ¬ p = H.next; omega), Heap.get_set, if_pos rfl]
  have gq : (feedH H p t s).get H.next = some (.cells (bytesOf (s.drop (cutN s))) 5 1 true) := by
    unfold feedH; rw [Heap.get_new]; exact if_pos rfl
  have sq : slB (feedH H p t s) (.slice H.next 0 (s.length - cutN s) none) = some (s.drop (cutN s)) := by
    rw [← hdl]
    exact slB_selfE (h := H.set p (some (.cells [.slice H.next 0 (s.length - cutN s) none] t 1 true))) rfl rfl (.inl rfl) hlt
  have hd1 : isDec (feedH H p t s) p t (s.drop (cutN s)) := .inr ⟨H.next, _, _, gp, sq, by omega, gq⟩
  have hk : ∀ q, q ≠ p → q < H.next → (feedH H p t s).get q = H.get q := fun q h1 h2 => by
    unfold feedH
    rw [Heap.get_new, if_neg (by show ¬ q = H.next; omega), Heap.get_set, if_neg h1]
  by_cases h0 : cutN s = 0
  · rw [if_pos h0] at hr
    refine ⟨_, _, hr, ?_, hd1, f1, hk, by omega, .inl rfl⟩
    rw [h0, List.take_zero, runesL_nil]
    exact slK_nil _
  · rw [if_neg h0] at hr
    refine ⟨_, _, hr, ?_, hd1.ext f1 (Ext.new _ _), f1.new _, fun q h1 h2 => ?_, by rw [Heap.next_new]; omega, .inr ⟨_, _, _, rfl, by omega, by rw [Heap.get_new]; exact if_pos rfl⟩⟩
    · exact slK_selfE rfl rfl (.inl rfl)
    · rw [Heap.get_new, if_neg (by rw [n1]; omega)]; exact hk q h1 h2

/-- What a parser of acts stands at. -/
structure PS where
  st : Nat
  mark : Bool
  odd : Bool
  begun : Bool
  over : Bool
  params : List Int
/-- Kind, rune, mark, params. -/
def ActP := Int × Int × Bool × List Int
def ctl (r : Int) : Bool := decide (7 ≤ r ∧ r ≤ 13)
def stPlain (r : Int) : Option ActP := if ctl r = true then some (2, r, false, []) else if r < 32 ∨ r = 127 then none else some (1, r, false, [])
def stEsc (s : PS) (r : Int) : PS × Option ActP :=
  if r = 91 then ({ st := 3, mark := false, odd := false, begun := false, over := false, params := [0] }, none)
  else if r = 93 ∨ r = 80 ∨ r = 88 ∨ r = 94 ∨ r = 95 then ({ s with st := 4 }, none)
  else if r = 40 ∨ r = 41 ∨ r = 42 ∨ r = 43 ∨ r = 35 then ({ s with st := 2 }, none)
  else if ctl r = true then ({ s with st := 1 }, some (2, r, false, []))
  else if 48 ≤ r ∧ r ≤ 126 then ({ s with st := 0 }, some (3, r, false, []))
  else ({ s with st := 0 }, none)
def digitP (l : List Int) (r : Int) : List Int := l.set (l.length - 1) (min (10 * l.getD (l.length - 1) 0 + (r - 48)) 9999)
def stCsi (s : PS) (r : Int) : PS × Option ActP :=
  if ctl r = true then (s, some (2, r, false, []))
  else if r = 24 ∨ r = 26 ∨ 127 < r then ({ s with st := 0 }, none)
  else if 48 ≤ r ∧ r ≤ 57 then ({ s with begun := true, params := if s.over = true then s.params else digitP s.params r }, none)
  else if r = 59 then ({ s with begun := true, over := s.over || s.params.length == 16, params := if (s.over || s.params.length == 16) = true then s.params else s.params ++ [0] }, none)
  else if r = 63 ∧ s.begun = false then ({ s with begun := true, mark := true }, none)
  else if 32 ≤ r ∧ r ≤ 63 then ({ s with begun := true, odd := true }, none)
  else if 64 ≤ r ∧ r ≤ 126 then ({ s with st := 0 }, if s.odd = true then none else some (4, r, s.mark, s.params))
  else (s, none)
def stRune (s : PS) (r : Int) : PS × Option ActP :=
  if r = 27 then ({ s with st := if s.st = 4 then 5 else 1 }, none)
  else if s.st = 1 then stEsc s r
  else if s.st = 2 then ({ s with st := 0 }, none)
  else if s.st = 3 then stCsi s r
  else if s.st = 4 then ({ s with st := if r = 7 ∨ r = 24 ∨ r = 26 then 0 else 4 }, none)
  else if s.st = 5 then (if r = 92 then ({ s with st := 0 }, none) else stEsc s r)
  else (s, stPlain r)
/-- What always holds of where a parser stands. -/
def wfPS (s : PS) : Prop := s.st ≤ 5 ∧ (s.st = 3 → 1 ≤ s.params.length) ∧ s.params.length ≤ 16 ∧ ∀ x ∈ s.params, 0 ≤ x ∧ x ≤ 9999
theorem wf_st {s : PS} (h : wfPS s) (n : Nat) (hn : n ≤ 5) (h3 : n ≠ 3) : wfPS { s with st := n } := by
  obtain ⟨a, b, c, d⟩ := h
  exact ⟨hn, fun h => absurd h h3, c, d⟩
theorem wf_esc {s : PS} (h : wfPS s) (r : Int) : wfPS (stEsc s r).1 := by
  unfold stEsc
  split
  · exact ⟨by show 3 ≤ 5; omega, fun _ => by show 1 ≤ 1; omega, by show 1 ≤ 16; omega, fun x hx => by
      have : x = 0 := by simpa using hx
      omega⟩
  split
  · exact wf_st h 4 (by omega) (by omega)
  split
  · exact wf_st h 2 (by omega) (by omega)
  split
  · exact wf_st h 1 (by omega) (by omega)
  split
  · exact wf_st h 0 (by omega) (by omega)
  · exact wf_st h 0 (by omega) (by omega)
theorem digitP_length (l : List Int) (r : Int) : (digitP l r).length = l.length := by unfold digitP; rw [List.length_set]
theorem wf_csi {s : PS} (h : wfPS s) (r : Int) : wfPS (stCsi s r).1 := by
  unfold stCsi
  obtain ⟨a, b, c, d⟩ := id h
  split
  · exact h
  split
  · exact wf_st h 0 (by omega) (by omega)
  split
  · rename_i hr
    refine ⟨a, fun h3 => ?_, ?_, fun x hx => ?_⟩
    · show 1 ≤ (if s.over = true then s.params else digitP s.params r).length
      split
      · exact b h3
      · rw [digitP_length]; exact b h3
    · show (if s.over = true then s.params else digitP s.params r).length ≤ 16
      split
      · exact c
      · rw [digitP_length]; exact c
    · have hx : x ∈ (if s.over = true then s.params else digitP s.params r) := hx
      split at hx
      · exact d x hx
      · unfold digitP at hx
        rcases List.mem_or_eq_of_mem_set hx with h1 | h1
        · exact d x h1
        · have h0 : 0 ≤ s.params.getD (s.params.length - 1) 0 := by
            rw [List.getD_eq_getElem?_getD]
            cases hq : s.params[s.params.length - 1]? with
            | none => simp
            | some y => exact (d y (List.mem_of_getElem? hq)).1
          omega
  split
  · refine ⟨a, fun h3 => ?_, ?_, fun x hx => ?_⟩
    · show 1 ≤ (if (s.over || s.params.length == 16) = true then s.params else s.params ++ [0]).length
      split
      · exact b h3
      · rw [List.length_append]; have := b h3; omega
    · show (if (s.over || s.params.length == 16) = true then s.params else s.params ++ [0]).length ≤ 16
      split
      · exact c
      · rename_i hne
        simp only [Bool.or_eq_true, beq_iff_eq, not_or] at hne
        rw [List.length_append, List.length_singleton]; have := hne.2; omega
    · have hx : x ∈ (if (s.over || s.params.length == 16) = true then s.params else s.params ++ [0]) := hx
      split at hx
      · exact d x hx
      · rcases List.mem_append.1 hx with h1 | h1
        · exact d x h1
        · have : x = 0 := by simpa using h1
          omega
  split
  · exact ⟨a, b, c, d⟩
  split
  · exact ⟨a, b, c, d⟩
  split
  · exact wf_st h 0 (by omega) (by omega)
  · exact h
theorem wf_rune {s : PS} (h : wfPS s) (r : Int) : wfPS (stRune s r).1 := by
  unfold stRune
  split
  · exact wf_st h _ (by split <;> omega) (by split <;> omega)
  split
  · exact wf_esc h r
  split
  · exact wf_st h 0 (by omega) (by omega)
  split
  · exact wf_csi h r
  split
  · exact wf_st h _ (by split <;> omega) (by split <;> omega)
  split
  · split
    · exact wf_st h 0 (by omega) (by omega)
    · exact wf_esc h r
  · exact h
/-- Two slices that do not stand in one block. -/
def apartV (v w : V) : Prop := ∀ b o n c o' n' c', v = .slice b o n c → w ≠ .slice b o' n' c'
theorem apartV.symm {v w : V} (h : apartV v w) : apartV w v := fun b o n c o' n' c' h1 h2 => h b _ _ _ _ _ _ h2 h1
theorem apartV_nil (v : V) : apartV .nilslice v := fun b o n c o' n' c' h => by cases h
/-- Where bytes are added, what comes stands in the same block, or in a new one. -/
theorem append_block {h h' : Heap} {t z bytes b o n : Nat} {c : Option Nat} {v v' x : V} (ha : appendV h t z bytes v x = some (v', h')) (hv : v' = .slice b o n c) : b = h.next ∨ ∃ o n c, v = .slice b o n c := by
  unfold appendV at ha
  subst hv
  split at ha
  · cases ha
  · unfold appendXs at ha
    split at ha
    · split at ha
      · simp at ha
      · split at ha
        · simp only [Option.some.injEq, Prod.mk.injEq, V.slice.injEq] at ha; exact .inl ha.1.1.symm
        · cases ha
    · split at ha
      · split at ha
        · simp only [Option.some.injEq, Prod.mk.injEq, V.slice.injEq] at ha; obtain ⟨⟨rfl, rfl, rfl, rfl⟩, _⟩ := ha; exact .inr ⟨_, _, _, rfl⟩
        · split at ha
          · simp only [Option.some.injEq, Prod.mk.injEq, V.slice.injEq] at ha; obtain ⟨⟨rfl, rfl, rfl, rfl⟩, _⟩ := ha; exact .inr ⟨_, _, _, rfl⟩
          · cases ha
      · split at ha
        · split at ha
          · simp only [Option.some.injEq, Prod.mk.injEq, V.slice.injEq] at ha; exact .inl ha.1.1.symm
          · cases ha
        · cases ha
    · split at ha
      · simp only [Option.some.injEq, Prod.mk.injEq, V.slice.injEq] at ha; obtain ⟨⟨rfl, rfl, rfl, rfl⟩, _⟩ := ha; exact .inr ⟨_, _, _, rfl⟩
      · split at ha
        · split at ha
          · split at ha
            · simp only [Option.some.injEq, Prod.mk.injEq, V.slice.injEq] at ha; exact .inl ha.1.1.symm
            · cases ha
          · cases ha
        · cases ha
    · cases ha
def ARaw := List V → Heap → Option (V × Heap)
def parCells (rp : V) (s : PS) (vps : V) : List V := [rp, .int .i64 (s.st : Int), .bool s.mark, .bool s.odd, .bool s.begun, .bool s.over, vps]
def isPar (hb H : Heap) (p : Nat) (rp : V) (s : PS) (vps : V) : Prop := H.get p = some (.cells (parCells rp s vps) 60 1 true) ∧ OwnK .i64 hb H 3 vps s.params
/-- What an answer says of an act. -/
def actR (H H' : Heap) (vps' v : V) : Option ActP → Prop
  | none => v = .tuple [.agg [.int .i64 0, .int .i32 0, .bool false, .nilslice], .bool false]
  | some (k, r, m, ps) => ∃ vp, v = .tuple [.agg [.int .i64 k, .int .i32 r, .bool m, vp], .bool true] ∧ OwnK .i64 H H' 3 vp ps ∧ apartV vps' vp
def Kept (H H' : Heap) (p : Nat) (vps : V) : Prop := ∀ q, q < H.next → q ≠ p → (∀ o n c, vps ≠ .slice q o n c) → H'.get q = H.get q
/-- The params stand where they stood, or in new memory. -/
def newOr (H : Heap) (vps vps' : V) : Prop := ∀ b o n c, vps' = .slice b o n c → (∃ o n c, vps = .slice b o n c) ∨ H.next ≤ b
theorem newOr_same (H : Heap) (v : V) : newOr H v v := fun b o n c h => .inl ⟨o, n, c, h⟩
theorem newOr_new (H : Heap) (v : V) {q n : Nat} {c : Option Nat} (hq : H.next ≤ q) : newOr H v (.slice q 0 n c) := fun b o n' c' h => by
  injection h with e; subst e; exact .inr hq
/-- What a step of a parser does to memory. -/
def StepTo (hb H : Heap) (p : Nat) (rp vps : V) (x : PS × Option ActP) (v : V) (H' : Heap) : Prop :=
  ∃ vps', Ext hb H' ∧ Fresh H' ∧ H.next ≤ H'.next ∧ isPar hb H' p rp x.1 vps' ∧ Kept H H' p vps ∧ newOr H vps vps' ∧ actR H H' vps' v x.2
def IsStep (pre : PS → Prop) (f : PS → Int → PS × Option ActP) (g : ARaw) : Prop :=
  ∀ (hb H : Heap) (p : Nat) (rp vps : V) (s : PS) (r : Int), Ext hb H → Fresh H → hb.next ≤ p → isPar hb H p rp s vps → wfPS s → pre s →
    ∃ v H', g [.ptr p 0, .int .i32 r] H = some (v, H') ∧ StepTo hb H p rp vps (f s r) v H'
theorem ownK_ne {hb H : Heap} {p q o n t t' : Nat} {k : IntKind} {c : Option Nat} {cs : List V} {l : List Int} (ho : OwnK k hb H t (.slice q o n c) l) (hp : H.get p = some (.cells cs t' 1 true)) (ht : t ≠ t') : q ≠ p := by
  rintro rfl
  rcases ho with ⟨h0, _⟩ | ⟨b, c', k1, k2, k3, k4, k5, k6⟩
  · cases h0
  · injection k1 with e
    subst e
    rw [hp] at k6
    injection k6 with k6
    injection k6 with _ e
    exact ht e.symm
/-- A step that changes the parser alone, and its params at most by new ones. -/
theorem step_fin {hb H H' : Heap} {p : Nat} {rp vps vps' v : V} {s s' : PS} {out : Option ActP} (hE : Ext hb H) (hF : Fresh H) (hp : hb.next ≤ p) (hI : isPar hb H p rp s vps) (hF' : Fresh H') (hn : H.next ≤ H'.next)
    (hg : H'.get p = some (.cells (parCells rp s' vps') 60 1 true)) (hk : ∀ q, q < H.next → q ≠ p → H'.get q = H.get q) (ho : OwnK .i64 hb H' 3 vps' s'.params) (hv : newOr H vps vps') (ha : actR H H' vps' v out) :
    StepTo hb H p rp vps (s', out) v H' :=
  ⟨vps', ⟨by have := hE.1; omega, fun q hq => by rw [hk q (by have := hE.1; omega) (by omega)]; exact hE.2 q hq⟩, hF', hn, ⟨hg, ho⟩, fun q h1 h2 _ => hk q h1 h2, hv, ha⟩
theorem ownK_set {hb H H' : Heap} {p : Nat} {rp vps : V} {s : PS} (hI : isPar hb H p rp s vps) (hF : Fresh H) (hn : H.next ≤ H'.next) (hk : ∀ q, q < H.next → q ≠ p → H'.get q = H.get q) : OwnK .i64 hb H' 3 vps s.params := by
  obtain ⟨g, ho⟩ := hI
  rcases id ho with hh | ⟨b, c, k1, k2, k3, k4, k5, k6⟩
  · exact .inl hh
  · refine .inr ⟨b, c, k1, k2, k3, by omega, k5, ?_⟩
    subst k1
    rw [hk b k4 (ownK_ne ho g (by decide))]; exact k6
theorem act_none (H H' : Heap) (vps : V) : actR H H' vps (.tuple [.agg [.int .i64 0, .int .i32 0, .bool false, .nilslice], .bool false]) none := rfl
theorem act_some (H H' : Heap) (vps : V) (k r : Int) : actR H H' vps (.tuple [.agg [.int .i64 k, .int .i32 r, .bool false, .nilslice], .bool true]) (some (k, r, false, [])) :=
  ⟨.nilslice, rfl, .inl ⟨rfl, rfl, rfl⟩, (apartV_nil vps).symm⟩
theorem step_box {hb H : Heap} {p : Nat} {rp vps v : V} {s s' : PS} {out : Option ActP} {B : Blk} (hE : Ext hb H) (hF : Fresh H) (hp : hb.next ≤ p) (hI : isPar hb H p rp s vps) (hs : s'.params = s.params) (ha : ∀ H', actR H H' vps v out) :
    StepTo hb H p rp vps (s', out) v ((H.set p (some (.cells (parCells rp s' vps) 60 1 true))).new B) := by
  have hpl := hF.lt hI.1
  have hk : ∀ q, q < H.next → q ≠ p → ((H.set p (some (.cells (parCells rp s' vps) 60 1 true))).new B).get q = H.get q := fun q h1 h2 => by
    rw [Heap.get_new, if_neg (by show ¬ q = H.next; omega), Heap.get_set, if_neg h2]
  refine step_fin (vps' := vps) hE hF hp hI ((hF.set hpl _).new _) (Nat.le_succ _) ?_ hk ?_ (newOr_same _ _) (ha _)
  · rw [Heap.get_new, if_neg (by show ¬ p = H.next; omega), Heap.get_set, if_pos rfl]
  · rw [hs]; exact ownK_set hI hF (Nat.le_succ _) hk
theorem step_same {hb H : Heap} {p : Nat} {rp vps v : V} {s : PS} {out : Option ActP} {B : Blk} (hE : Ext hb H) (hF : Fresh H) (hp : hb.next ≤ p) (hI : isPar hb H p rp s vps) (ha : ∀ H', actR H H' vps v out) :
    StepTo hb H p rp vps (s, out) v (H.new B) := by
  have hpl := hF.lt hI.1
  have hk : ∀ q, q < H.next → q ≠ p → (H.new B).get q = H.get q := fun q h1 h2 => by rw [Heap.get_new, if_neg (by omega)]
  refine step_fin (vps' := vps) hE hF hp hI (hF.new _) (Nat.le_succ _) ?_ hk ?_ (newOr_same _ _) (ha _)
  · rw [Heap.get_new, if_neg (by omega)]; exact hI.1
  · exact ownK_set hI hF (Nat.le_succ _) hk

/-- vt.control. -/
def s_control : List V → Heap → Option (V × Heap)
  | [.int .i32 r], h => some (.bool (ctl r), h)
  | _, _ => none
theorem control_ok (cf : ACall) : Sum cf c41 s_control := by
  intro args h v h' hf hsc hlt hs
  unfold s_control at hs
  split at hs
  · rename_i r
    simp only [Option.some.injEq, Prod.mk.injEq] at hs
    obtain ⟨rfl, rfl⟩ := hs
    refine ⟨1, ?_⟩
    unfold ctl
    by_cases h1 : 7 ≤ r
    · by_cases h2 : r ≤ 13
      · simp (config := {maxSteps := 1000000, maxDischargeDepth := 9, implicitDefEqProofs := false}) [c41, h1, h2]
        exact Canon.keep hf hsc (Ext.refl _) (by simp only [V.lt])
      · simp (config := {maxSteps := 1000000, maxDischargeDepth := 9, implicitDefEqProofs := false}) [c41, h1, h2]
        exact Canon.keep hf hsc (Ext.refl _) (by simp only [V.lt])
    · simp (config := {maxSteps := 1000000, maxDischargeDepth := 9, implicitDefEqProofs := false}) [c41, h1]
      exact Canon.keep hf hsc (Ext.refl _) (by simp only [V.lt])
  · cases hs
def actV : Option ActP → V
  | some (k, r, m, _) => .tuple [.agg [.int .i64 k, .int .i32 r, .bool m, .nilslice], .bool true]
  | none => .tuple [.agg [.int .i64 0, .int .i32 0, .bool false, .nilslice], .bool false]
/-- plain. -/
def s_plain : List V → Heap → Option (V × Heap)
  | [_, .int .i32 r], h => some (actV (stPlain r), h)
  | _, _ => none
theorem plain_ok (cf : ACall) (hctl : ∀ a h, cf 41 a h = s_control a h) : Sum cf c30 s_plain := by
  intro args h v h' hf hsc hlt hs
  unfold s_plain at hs
  split at hs
  · rename_i vp r
    simp only [Option.some.injEq, Prod.mk.injEq] at hs
    obtain ⟨rfl, rfl⟩ := hs
    refine ⟨1, ?_⟩
    unfold stPlain
    cases h1 : ctl r with
    | true =>
      simp (config := {maxSteps := 1000000, maxDischargeDepth := 9, implicitDefEqProofs := false}) [c30, hctl, s_control, h1, actV]
      exact Canon.keep hf hsc (Ext.new _ _) (by simp only [V.lt, ltL, and_self])
    | false =>
      by_cases h2 : r < 32
      · simp (config := {maxSteps := 1000000, maxDischargeDepth := 9, implicitDefEqProofs := false}) [c30, hctl, s_control, h1, h2, actV]
        exact Canon.keep hf hsc (Ext.new _ _) (by simp only [V.lt, ltL, and_self])
      · by_cases h3 : r = 127
        · subst h3
          simp (config := {maxSteps := 1000000, maxDischargeDepth := 9, implicitDefEqProofs := false}) [c30, hctl, s_control, h1, h2, actV]
          exact Canon.keep hf hsc (Ext.new _ _) (by simp only [V.lt, ltL, and_self])
        · have h3' : (r == 127) = false := beq_eq_false_iff_ne.2 h3
          simp (config := {maxSteps := 1000000, maxDischargeDepth := 9, implicitDefEqProofs := false}) [c30, hctl, s_control, h1, h2, h3, h3', actV]
          exact Canon.keep hf hsc (Ext.new _ _) (by simp only [V.lt, ltL, and_self])
  · cases hs

theorem esc_ok (cf : ACall) (hctl : ∀ a h, cf 41 a h = s_control a h) : IsStep (fun _ => True) stEsc (bodyA cf 20 c28) := by
  intro hb H p rp vps s r hE hF hp hI hw _
  have g0 : H.get p = some (.cells [rp, .int .i64 (s.st : Int), .bool s.mark, .bool s.odd, .bool s.begun, .bool s.over, vps] 60 1 true) := hI.1
  have hpl := hF.lt hI.1
  have hpn : ¬ p = H.next := by omega
  have hpn1 : ¬ p = H.next + 1 := by omega
  show Runs _ _
  unfold stEsc
  by_cases c1 : r = 91
  · subst c1
    rw [if_pos rfl]
    simp (config := {maxSteps := 1000000, maxDischargeDepth := 9, implicitDefEqProofs := false}) [c28, g0, hpn, hpn1]
    have hk : ∀ (X Y Z : Blk) q, q < H.next → q ≠ p → (((H.set p (some X)).new Y).new Z).get q = H.get q := fun X Y Z q h1 h2 => by
      rw [Heap.get_new, if_neg (by show ¬ q = H.next + 1; omega), Heap.get_new, if_neg (by show ¬ q = H.next; omega), Heap.get_set, if_neg h2]
    refine step_fin (vps' := .slice (H.next + 1) 0 1 (some 1)) hE hF hp hI (((hF.set hpl _).new _).new _) (by show H.next ≤ H.next + 1 + 1; omega) ?_ (hk _ _ _) ?_ (newOr_new _ _ (by omega)) (act_none _ _ _)
    · rw [Heap.get_new, if_neg (by show ¬ p = H.next + 1; omega), Heap.get_new, if_neg (by show ¬ p = H.next; omega), Heap.get_set, if_pos rfl]; rfl
    · refine .inr ⟨H.next + 1, some 1, rfl, .inr rfl, by have := hE.1; omega, by show H.next + 1 < H.next + 1 + 1; omega, rfl, ?_⟩
      rw [Heap.get_new]; exact if_pos rfl
  have c1b : (r == 91) = false := beq_eq_false_iff_ne.2 c1
  rw [if_neg c1]
  by_cases c2 : r = 93 ∨ r = 80 ∨ r = 88 ∨ r = 94 ∨ r = 95
  · rw [if_pos c2]
    rcases c2 with rfl | rfl | rfl | rfl | rfl
    all_goals
      simp (config := {maxSteps := 1000000, maxDischargeDepth := 9, implicitDefEqProofs := false}) [c28, g0, hpn, hpn1]
      exact step_box (s' := { s with st := 4 }) hE hF hp hI rfl fun _ => act_none _ _ _
  rw [if_neg c2]
  by_cases c3 : r = 40 ∨ r = 41 ∨ r = 42 ∨ r = 43 ∨ r = 35
  · rw [if_pos c3]
    rcases c3 with rfl | rfl | rfl | rfl | rfl
    all_goals
      simp (config := {maxSteps := 1000000, maxDischargeDepth := 9, implicitDefEqProofs := false}) [c28, g0, hpn, hpn1]
      exact step_box (s' := { s with st := 2 }) hE hF hp hI rfl fun _ => act_none _ _ _
  rw [if_neg c3]
  have b1 : (r == 93) = false := beq_eq_false_iff_ne.2 (by omega)
  have b2 : (r == 80) = false := beq_eq_false_iff_ne.2 (by omega)
  have b3 : (r == 88) = false := beq_eq_false_iff_ne.2 (by omega)
  have b4 : (r == 94) = false := beq_eq_false_iff_ne.2 (by omega)
  have b5 : (r == 95) = false := beq_eq_false_iff_ne.2 (by omega)
  have b6 : (r == 40) = false := beq_eq_false_iff_ne.2 (by omega)
  have b7 : (r == 41) = false := beq_eq_false_iff_ne.2 (by omega)
  have b8 : (r == 42) = false := beq_eq_false_iff_ne.2 (by omega)
  have b9 : (r == 43) = false := beq_eq_false_iff_ne.2 (by omega)
  have b10 : (r == 35) = false := beq_eq_false_iff_ne.2 (by omega)
  cases h1 : ctl r with
  | true =>
    rw [if_pos rfl]
    simp (config := {maxSteps := 1000000, maxDischargeDepth := 9, implicitDefEqProofs := false}) [c28, g0, hpn, hpn1, c1b, b1, b2, b3, b4, b5, b6, b7, b8, b9, b10, hctl, s_control, h1]
    exact step_box (s' := { s with st := 1 }) hE hF hp hI rfl fun _ => act_some _ _ _ _ _
  | false =>
    rw [if_neg (by intro h; cases h)]
    by_cases c4 : 48 ≤ r ∧ r ≤ 126
    · rw [if_pos c4]
      simp (config := {maxSteps := 1000000, maxDischargeDepth := 9, implicitDefEqProofs := false}) [c28, g0, hpn, hpn1, c1b, b1, b2, b3, b4, b5, b6, b7, b8, b9, b10, hctl, s_control, h1, c4.1, c4.2]
      exact step_box (s' := { s with st := 0 }) hE hF hp hI rfl fun _ => act_some _ _ _ _ _
    · rw [if_neg c4]
      by_cases c5 : 48 ≤ r
      · have c6 : ¬ r ≤ 126 := fun h => c4 ⟨c5, h⟩
        simp (config := {maxSteps := 1000000, maxDischargeDepth := 9, implicitDefEqProofs := false}) [c28, g0, hpn, hpn1, c1b, b1, b2, b3, b4, b5, b6, b7, b8, b9, b10, hctl, s_control, h1, c5, c6]
        exact step_box (s' := { s with st := 0 }) hE hF hp hI rfl fun _ => act_none _ _ _
      · simp (config := {maxSteps := 1000000, maxDischargeDepth := 9, implicitDefEqProofs := false}) [c28, g0, hpn, hpn1, c1b, b1, b2, b3, b4, b5, b6, b7, b8, b9, b10, hctl, s_control, h1, c5]
        exact step_box (s' := { s with st := 0 }) hE hF hp hI rfl fun _ => act_none _ _ _

theorem step_write {hb H : Heap} {p b n : Nat} {c : Option Nat} {rp v : V} {s s' : PS} {out : Option ActP} {B : Blk} (hE : Ext hb H) (hF : Fresh H) (hp : hb.next ≤ p) (hI : isPar hb H p rp s (.slice b 0 n c)) (hb1 : hb.next ≤ b) (hb2 : b < H.next) (hbp : b ≠ p) (hc : c = none ∨ c = some n) (hn : s'.params.length = n) (ha : ∀ H', actR H H' (.slice b 0 n c) v out) :
    StepTo hb H p rp (.slice b 0 n c) (s', out) v (((H.set p (some (.cells (parCells rp s' (.slice b 0 n c)) 60 1 true))).set b (some (.cells (s'.params.map (V.int .i64)) 3 1 true))).new B) := by
  have hpl := hF.lt hI.1
  obtain ⟨H', hH'⟩ : ∃ A, A = ((H.set p (some (.cells (parCells rp s' (.slice b 0 n c)) 60 1 true))).set b (some (.cells (s'.params.map (V.int .i64)) 3 1 true))).new B := ⟨_, rfl⟩
  have hk : ∀ q, q < H.next → q ≠ p → q ≠ b → H'.get q = H.get q := fun q h1 h2 h3 => by
    rw [hH', Heap.get_new, if_neg (by show ¬ q = H.next; omega), Heap.get_set, if_neg h3, Heap.get_set, if_neg h2]
  have n1 : H'.next = H.next + 1 := by rw [hH']; rfl
  have gp : H'.get p = some (.cells (parCells rp s' (.slice b 0 n c)) 60 1 true) := by
    rw [hH', Heap.get_new, if_neg (by show ¬ p = H.next; omega), Heap.get_set, if_neg (fun h => hbp h.symm), Heap.get_set, if_pos rfl]
  have gb : H'.get b = some (.cells (s'.params.map (V.int .i64)) 3 1 true) := by
    rw [hH', Heap.get_new, if_neg (by show ¬ b = H.next; omega), Heap.get_set, if_pos rfl]
  have f1 : Fresh H' := by rw [hH']; exact ((hF.set hpl _).set hb2 _).new _
  rw [← hH']
  refine ⟨.slice b 0 n c, ⟨by have := hE.1; omega, fun q hq => by rw [hk q (by have := hE.1; omega) (by omega) (by omega)]; exact hE.2 q hq⟩, f1, by omega, ⟨gp, ?_⟩, fun q h1 h2 h3 => hk q h1 h2 (fun e => h3 0 n c (by rw [e])), newOr_same _ _, ha _⟩
  exact .inr ⟨b, c, by rw [hn], by rw [hn]; exact hc, hb1, by omega, by simp, gb⟩
theorem csi_ok (cf : ACall) (hctl : ∀ a h, cf 41 a h = s_control a h) : IsStep (fun s => s.st = 3) stCsi (bodyA cf 20 c29) := by
  intro hb H p rp vps s r hE hF hp hI hw h3
  have g0 : H.get p = some (.cells [rp, .int .i64 (s.st : Int), .bool s.mark, .bool s.odd, .bool s.begun, .bool s.over, vps] 60 1 true) := hI.1
  have hpl := hF.lt hI.1
  have hpn : ¬ p = H.next := by omega
  have hpn1 : ¬ p = H.next + 1 := by omega
  obtain ⟨w1, w2, w3, w4⟩ := id hw
  have hn1 := w2 h3
  obtain ⟨b, c, hvp, k2, k3, k4, k5, k6⟩ : ∃ b c, vps = .slice b 0 s.params.length c ∧ (c = none ∨ c = some s.params.length) ∧ hb.next ≤ b ∧ b < H.next ∧ (s.params.map (V.int .i64)).length = s.params.length * 1 ∧ H.get b = some (.cells (s.params.map (V.int .i64)) 3 1 true) := by
    rcases hI.2 with ⟨_, h0, _⟩ | h
    · omega
    · exact h
  have hbp : ¬ b = p := by
    have := hI.2
    rw [hvp] at this
    exact ownK_ne this hI.1 (by decide)
  have hpb : ¬ p = b := fun h => hbp h.symm
  have hbn : ¬ b = H.next := by omega
  have hbn1 : ¬ b = H.next + 1 := by omega
  subst hvp
  obtain ⟨m, hm⟩ : ∃ m, s.params.length = m + 1 := ⟨s.params.length - 1, by omega⟩
  rw [hm] at hI g0 k2
  rw [hm]
  have hm15 : m ≤ 15 := by omega
  have hmlt : (m : Int) < (m : Int) + 1 := by omega
  have ov4 : ∀ a0 a1 a2 a3 a4 a5 a6 x : V, over [a0, a1, a2, a3, a4, a5, a6] 4 [x] = [a0, a1, a2, a3, x, a5, a6] := fun _ _ _ _ _ _ _ _ => rfl
  have ov0 : ∀ a0 a1 a2 a3 x0 x1 x2 x3 : V, over [a0, a1, a2, a3] 0 [x0, x1, x2, x3] = [x0, x1, x2, x3] := fun _ _ _ _ _ _ _ _ => rfl
  have wm : wrapF .i64 (m : Int) = (m : Int) := wrap_i64 (by omega) (by omega)
  show Runs _ _
  unfold stCsi
  cases h1 : ctl r with
  | true =>
    rw [if_pos rfl]
    simp (config := {maxSteps := 1000000, maxDischargeDepth := 9, implicitDefEqProofs := false}) [c29, g0, hpn, hpn1, hctl, s_control, h1]
    exact step_same hE hF hp hI fun _ => act_some _ _ _ _ _
  | false =>
  rw [if_neg (by intro h; cases h)]
  by_cases c1 : r = 24 ∨ r = 26 ∨ 127 < r
  · rw [if_pos c1]
    rcases c1 with rfl | rfl | c1
    · simp (config := {maxSteps := 1000000, maxDischargeDepth := 9, implicitDefEqProofs := false}) [c29, g0, hpn, hpn1, hctl, s_control, h1]
      exact step_box (s' := { s with st := 0 }) hE hF hp hI rfl fun _ => act_none _ _ _
    · simp (config := {maxSteps := 1000000, maxDischargeDepth := 9, implicitDefEqProofs := false}) [c29, g0, hpn, hpn1, hctl, s_control, h1]
      exact step_box (s' := { s with st := 0 }) hE hF hp hI rfl fun _ => act_none _ _ _
    · have e1 : (r == 24) = false := beq_eq_false_iff_ne.2 (by omega)
      have e2 : (r == 26) = false := beq_eq_false_iff_ne.2 (by omega)
      simp (config := {maxSteps := 1000000, maxDischargeDepth := 9, implicitDefEqProofs := false}) [c29, g0, hpn, hpn1, hctl, s_control, h1, e1, e2, c1]
      exact step_box (s' := { s with st := 0 }) hE hF hp hI rfl fun _ => act_none _ _ _
  rw [if_neg c1]
  have e1 : (r == 24) = false := beq_eq_false_iff_ne.2 (by omega)
  have e2 : (r == 26) = false := beq_eq_false_iff_ne.2 (by omega)
  have e3 : ¬ 127 < r := by omega
  by_cases c2 : 48 ≤ r ∧ r ≤ 57
  · rw [if_pos c2]
    obtain ⟨c2, c3⟩ := c2
    cases hov : s.over with
    | true =>
      rw [if_pos rfl]
      rw [hov] at g0
      simp (config := {maxSteps := 1000000, maxDischargeDepth := 9, implicitDefEqProofs := false}) [c29, g0, hpn, hpn1, hpb, hbp, hctl, s_control, h1, e1, e2, e3, c2, c3, k6, hm, wm, hmlt]
      exact step_box (s' := { s with begun := true, over := true }) hE hF hp hI rfl fun _ => act_none _ _ _
    | false =>
      rw [if_neg (by intro h; cases h)]
      rw [hov] at g0
      obtain ⟨x, hx⟩ : ∃ x, s.params[m]? = some x := ⟨_, List.getElem?_eq_getElem (by omega)⟩
      have hx2 := w4 x (List.mem_of_getElem? hx)
      have hge : ∀ hh : m < s.params.length, s.params[m]'hh = x := fun hh => (List.getElem?_eq_some_iff.1 hx).2
      have hgD : s.params.getD m 0 = x := by rw [List.getD_eq_getElem?_getD, hx]; rfl
      have hnth : nth (s.params.map (V.int .i64)) m = some (.int .i64 x) := by rw [nth_ints _ _ _ (by omega), hgD]
      have v1 : wrapF .i64 (10 * x) = 10 * x := wrap_i64 (by omega) (by omega)
      have v2 : wrapF .i32 (r - 48) = r - 48 := wrap_i32 (by omega) (by omega)
      have v3 : wrapF .i64 (r - 48) = r - 48 := wrap_i64 (by omega) (by omega)
      have v4 : wrapF .i64 (10 * x + (r - 48)) = 10 * x + (r - 48) := wrap_i64 (by omega) (by omega)
      obtain ⟨z, hz⟩ : ∃ z, z = min (10 * x + (r - 48)) 9999 := ⟨_, rfl⟩
      have hz1 : (if 9999 < 10 * x + (r - 48) then (9999 : Int) else 10 * x + (r - 48)) = z := by rw [hz]; split <;> omega
      have hdig : digitP s.params r = s.params.set m z := by unfold digitP; rw [hm, Nat.add_sub_cancel, hgD, hz]
      have hov2 : over (s.params.map (V.int .i64)) m [V.int .i64 z] = (s.params.set m z).map (V.int .i64) := by
        rw [over_set _ _ _ (by rw [List.length_map]; omega), List.map_set]
      rw [hdig]
      simp (config := {maxSteps := 1000000, maxDischargeDepth := 9, implicitDefEqProofs := false}) [c29, g0, hpn, hpn1, hpb, hbp, hbn, hbn1, hctl, s_control, h1, e1, e2, e3, c2, c3, k6, hm, wm, hmlt, hnth, ov4, ov0, v1, v2, v3, v4, hz1, hov2, -over]
      rw [← List.map_set]
      exact step_write (s' := { s with begun := true, over := false, params := s.params.set m z }) hE hF hp hI k3 k4 hbp k2 (by rw [List.length_set]; exact hm) fun _ => act_none _ _ _
  rw [if_neg c2]
  have d1 : 48 ≤ r → ¬ r ≤ 57 := fun a b => c2 ⟨a, b⟩
  by_cases c3 : r = 59
  · rw [if_pos c3]
    subst c3
    cases hov : s.over with
    | true =>
      rw [hov] at g0
      simp only [Bool.true_or, if_true]
      simp (config := {maxSteps := 1000000, maxDischargeDepth := 9, implicitDefEqProofs := false}) [c29, g0, hpn, hpn1, hctl, s_control, h1]
      exact step_box (s' := { s with begun := true, over := true }) hE hF hp hI rfl fun _ => act_none _ _ _
    | false =>
      rw [hov] at g0
      by_cases hm16 : m = 15
      · have hmI : ((m : Int) + 1 == 16) = true := beq_iff_eq.2 (by omega)
        have hmN : (m + 1 == 16) = true := beq_iff_eq.2 (by omega)
        rw [hm, hmN]
        simp only [Bool.or_true, if_true]
        simp (config := {maxSteps := 1000000, maxDischargeDepth := 9, implicitDefEqProofs := false}) [c29, g0, hpn, hpn1, hctl, s_control, h1, hmI]
        exact step_box (s' := { s with begun := true, over := true }) hE hF hp hI rfl fun _ => act_none _ _ _
      · have hmI : ((m : Int) + 1 == 16) = false := beq_eq_false_iff_ne.2 (by omega)
        have hmN : (m + 1 == 16) = false := beq_eq_false_iff_ne.2 (by omega)
        rw [hm, hmN]
        simp only [Bool.or_false, Bool.false_eq_true, if_false]
        obtain ⟨X, hX⟩ : ∃ X, X = Blk.cells [rp, .int .i64 (s.st : Int), .bool s.mark, .bool s.odd, .bool true, .bool false, .slice b 0 (m + 1) c] 60 1 true := ⟨_, rfl⟩
        obtain ⟨K0, hK0⟩ : ∃ A, A = (H.set p (some X)).new (.cells [.int .i64 0, .int .i32 0, .bool false, .nilslice] 30 1 true) := ⟨_, rfl⟩
        obtain ⟨K1, hK1⟩ : ∃ A, A = K0.new (.cells [.int .i64 0] 3 1 true) := ⟨_, rfl⟩
        have n0 : K0.next = H.next + 1 := by rw [hK0]; rfl
        have n1 : K1.next = H.next + 2 := by rw [hK1]; show K0.next + 1 = _; omega
        have q0 : Fresh K0 := by rw [hK0]; exact (hF.set hpl _).new _
        have q1 : Fresh K1 := by rw [hK1]; exact q0.new _
        have hk : ∀ q, q < H.next → q ≠ p → K1.get q = H.get q := fun q h1 h2 => by
          rw [hK1, Heap.get_new, if_neg (by omega), hK0, Heap.get_new, if_neg (by show ¬ q = H.next; omega), Heap.get_set, if_neg h2]
        have e1 : Ext hb K1 := ⟨by have := hE.1; omega, fun q hq => by rw [hk q (by have := hE.1; omega) (by omega)]; exact hE.2 q hq⟩
        have gp1 : K1.get p = some X := by rw [hK1, Heap.get_new, if_neg (by omega), hK0, Heap.get_new, if_neg (by show ¬ p = H.next; omega), Heap.get_set, if_pos rfl]
        have gx1 : K1.get H.next = some (.cells [.int .i64 0, .int .i32 0, .bool false, .nilslice] 30 1 true) := by rw [hK1, Heap.get_new, if_neg (by omega), hK0, Heap.get_new]; exact if_pos rfl
        have oK := ownK_set hI hF (H' := K1) (by omega) hk
        have hadd : added K1 1 (.slice (H.next + 1) 0 1 (some 1)) = some ([(0 : Int)].map (V.int .i64), [(0 : Int)].length) := by
          have : sl K1 1 (.slice K0.next 0 1 (some 1)) = some [V.int .i64 0] := by rw [hK1]; exact sl_selfE rfl rfl (.inr rfl)
          rw [n0] at this
          exact rd_added (sl_rd this)
        have hmost : most = 140737488355328 := rfl
        obtain ⟨w, K2, a1, a2, a3, a4, a5, a6, a7⟩ := OwnK.app (bytes := 8) e1 q1 oK hadd (by rw [hmost, List.length_singleton]; omega) (by rw [hmost, List.length_singleton]; omega)
        have gp2 : K2.get p = some X := by rw [a7 p (by omega) (fun o c' h => hbp (by injection h))]; exact gp1
        have gx2 : K2.get H.next = some (.cells [.int .i64 0, .int .i32 0, .bool false, .nilslice] 30 1 true) := by rw [a7 H.next (by omega) (fun o c' h => hbn (by injection h))]; exact gx1
        rw [hX] at gp2
        obtain ⟨w1', hw1⟩ : w.one = true ∧ w.cells = [w] := by
          rcases a2 with ⟨rfl, _⟩ | ⟨b', c', rfl, _⟩ <;> exact ⟨rfl, rfl⟩
        have ov6 : ∀ a0 a1 a2 a3 a4 a5 a6 x : V, over [a0, a1, a2, a3, a4, a5, a6] 6 [x] = [a0, a1, a2, a3, a4, a5, x] := fun _ _ _ _ _ _ _ _ => rfl
        have hK1f : K1 = ((H.set p (some (.cells [rp, .int .i64 (s.st : Int), .bool s.mark, .bool s.odd, .bool true, .bool false, .slice b 0 (m + 1) c] 60 1 true))).new (.cells [.int .i64 0, .int .i32 0, .bool false, .nilslice] 30 1 true)).new (.cells [.int .i64 0] 3 1 true) := by rw [hK1, hK0, hX]
        simp (config := {maxSteps := 1000000, maxDischargeDepth := 9, implicitDefEqProofs := false}) [c29, g0, hpn, hpn1, hctl, s_control, h1, hmI, ← hK1f, a1, gp2, gx2, w1', hw1, show ¬ H.next = p from fun h => hpn h.symm]
        have hk2 : ∀ q, q < H.next → q ≠ p → q ≠ b → K2.get q = H.get q := fun q h1 h2 h3 => by
          rw [a7 q (by omega) (fun o c' h => h3 (by injection h with h; exact h.symm))]; exact hk q h1 h2
        have fK := a4.set (show p < K2.next by omega) (some (.cells [rp, .int .i64 (s.st : Int), .bool s.mark, .bool s.odd, .bool true, .bool false, w] 60 1 true))
        have hkS : ∀ (X Y : Option Blk) q, q < H.next → q ≠ p → q ≠ b → ((K2.set p X).set H.next Y).get q = H.get q := fun X Y q h1 h2 h3 => by
          rw [Heap.get_set, if_neg (by omega), Heap.get_set, if_neg h2]; exact hk2 q h1 h2 h3
        refine ⟨w, ⟨by show hb.next ≤ K2.next; have := hE.1; omega, fun q hq => by rw [hkS _ _ q (by have := hE.1; omega) (by omega) (by omega)]; exact hE.2 q hq⟩, fK.set (by show H.next < K2.next; omega) _, by show H.next ≤ K2.next; omega, ⟨?_, ?_⟩, fun q h1 h2 h3 => hkS _ _ q h1 h2 (fun e => h3 0 (m + 1) c (by rw [e])), fun b' o n c' hw' => ?_, act_none _ _ _⟩
        · rw [Heap.get_set, if_neg hpn, Heap.get_set, if_pos rfl]; rfl
        · rcases id a2 with ⟨_, hh, _⟩ | ⟨b', c', z1, z2, z3, z4, z5, z6⟩
          · rw [List.length_append, List.length_singleton] at hh; omega
          · have hb'p : b' ≠ p := by
              rintro rfl
              rw [gp2] at z6
              injection z6 with z6
              injection z6 with _ e
              exact absurd e (by decide)
            have hb'x : b' ≠ H.next := by
              rintro rfl
              rw [gx2] at z6
              injection z6 with z6
              injection z6 with _ e
              exact absurd e (by decide)
            exact .inr ⟨b', c', z1, z2, z3, z4, z5, by rw [Heap.get_set, if_neg hb'x, Heap.get_set, if_neg hb'p]; exact z6⟩
        · rcases append_block a1 hw' with h | ⟨o2, n2, c2, h⟩
          · exact .inr (by omega)
          · exact .inl ⟨o2, n2, c2, h⟩
  rw [if_neg c3]
  have e4 : (r == 59) = false := beq_eq_false_iff_ne.2 c3
  by_cases c4 : r = 63 ∧ s.begun = false
  · rw [if_pos c4]
    obtain ⟨rfl, c4⟩ := c4
    rw [c4] at g0
    simp (config := {maxSteps := 1000000, maxDischargeDepth := 9, implicitDefEqProofs := false}) [c29, g0, hpn, hpn1, hctl, s_control, h1, c4]
    exact step_box (s' := { s with begun := true, mark := true }) hE hF hp hI rfl fun _ => act_none _ _ _
  rw [if_neg c4]
  by_cases c5 : 32 ≤ r ∧ r ≤ 63
  · rw [if_pos c5]
    by_cases hr : r = 63
    · subst hr
      have hbg : s.begun = true := by
        cases hq : s.begun with
        | true => rfl
        | false => exact absurd ⟨rfl, hq⟩ c4
      rw [hbg] at g0
      simp (config := {maxSteps := 1000000, maxDischargeDepth := 9, implicitDefEqProofs := false}) [c29, g0, hpn, hpn1, hctl, s_control, h1]
      exact step_box (s' := { s with begun := true, odd := true }) hE hF hp hI rfl fun _ => act_none _ _ _
    · have e5 : (r == 63) = false := beq_eq_false_iff_ne.2 hr
      by_cases c7 : 48 ≤ r
      · have c8 := d1 c7
        simp (config := {maxSteps := 1000000, maxDischargeDepth := 9, implicitDefEqProofs := false}) [c29, g0, hpn, hpn1, hctl, s_control, h1, e1, e2, e3, c7, c8, e4, e5, c5.1, c5.2]
        exact step_box (s' := { s with begun := true, odd := true }) hE hF hp hI rfl fun _ => act_none _ _ _
      · simp (config := {maxSteps := 1000000, maxDischargeDepth := 9, implicitDefEqProofs := false}) [c29, g0, hpn, hpn1, hctl, s_control, h1, e1, e2, e3, c7, e4, e5, c5.1, c5.2]
        exact step_box (s' := { s with begun := true, odd := true }) hE hF hp hI rfl fun _ => act_none _ _ _
  rw [if_neg c5]
  have c9 : 32 ≤ r → ¬ r ≤ 63 := fun a b => c5 ⟨a, b⟩
  by_cases c6 : 64 ≤ r ∧ r ≤ 126
  · rw [if_pos c6]
    obtain ⟨c6, c7⟩ := c6
    have e5 : (r == 63) = false := beq_eq_false_iff_ne.2 (by omega)
    have f1 : 48 ≤ r := by omega
    have f2 : ¬ r ≤ 57 := by omega
    have f3 : 32 ≤ r := by omega
    have f4 : ¬ r ≤ 63 := by omega
    cases hodd : s.odd with
    | true =>
      rw [if_pos rfl]
      rw [hodd] at g0
      simp (config := {maxSteps := 1000000, maxDischargeDepth := 9, implicitDefEqProofs := false}) [c29, g0, hpn, hpn1, hctl, s_control, h1, e1, e2, e3, f1, f2, e4, e5, f3, f4, c6, c7]
      exact step_box (s' := { s with st := 0, odd := true }) hE hF hp hI rfl fun _ => act_none _ _ _
    | false =>
      rw [if_neg (by intro h; cases h)]
      rw [hodd] at g0
      obtain ⟨X, hX⟩ : ∃ X, X = Blk.cells [rp, .int .i64 0, .bool s.mark, .bool false, .bool s.begun, .bool s.over, .slice b 0 (m + 1) c] 60 1 true := ⟨_, rfl⟩
      obtain ⟨K0, hK0⟩ : ∃ A, A = (H.set p (some X)).new (.cells [.int .i64 0, .int .i32 0, .bool false, .nilslice] 30 1 true) := ⟨_, rfl⟩
      obtain ⟨K1, hK1⟩ : ∃ A, A = K0.new (.cells [] 3 1 true) := ⟨_, rfl⟩
      have n0 : K0.next = H.next + 1 := by rw [hK0]; rfl
      have n1 : K1.next = H.next + 2 := by rw [hK1]; show K0.next + 1 = _; omega
      have q0 : Fresh K0 := by rw [hK0]; exact (hF.set hpl _).new _
      have q1 : Fresh K1 := by rw [hK1]; exact q0.new _
      have e1' : Ext K0 K1 := by rw [hK1]; exact Ext.new _ _
      have hk : ∀ q, q < H.next → q ≠ p → K1.get q = H.get q := fun q h1 h2 => by
        rw [hK1, Heap.get_new, if_neg (by omega), hK0, Heap.get_new, if_neg (by show ¬ q = H.next; omega), Heap.get_set, if_neg h2]
      have gp1 : K1.get p = some X := by rw [hK1, Heap.get_new, if_neg (by omega), hK0, Heap.get_new, if_neg (by show ¬ p = H.next; omega), Heap.get_set, if_pos rfl]
      have gx1 : K1.get H.next = some (.cells [.int .i64 0, .int .i32 0, .bool false, .nilslice] 30 1 true) := by rw [hK1, Heap.get_new, if_neg (by omega), hK0, Heap.get_new]; exact if_pos rfl
      have oK := ownK_set hI hF (H' := K1) (by omega) hk
      have hst : OwnK .i64 K0 K1 3 (.slice (H.next + 1) 0 0 (some 0)) [] := by
        have := OwnK.start .i64 K0 3
        rw [← hK1, n0] at this; exact this
      have hadd := slK_added oK.slK
      have hmost : most = 140737488355328 := rfl
      obtain ⟨w, K2, a1, a2, a3, a4, a5, a6, a7⟩ := OwnK.app (bytes := 8) e1' q1 hst hadd (by rw [hmost, List.length_nil]; omega) (by rw [hmost, List.length_nil]; omega)
      rw [List.nil_append] at a2
      have gp2 : K2.get p = some X := by rw [a7 p (by omega) (fun o c' h => by injection h; omega)]; exact gp1
      have gx2 : K2.get H.next = some (.cells [.int .i64 0, .int .i32 0, .bool false, .nilslice] 30 1 true) := by rw [a7 H.next (by omega) (fun o c' h => by injection h; omega)]; exact gx1
      have hk2 : ∀ q, q < H.next → q ≠ p → K2.get q = H.get q := fun q h1 h2 => by
        rw [a7 q (by omega) (fun o c' h => by injection h; omega)]; exact hk q h1 h2
      rw [hX] at gp1 gp2
      obtain ⟨w1', hw1⟩ : w.one = true ∧ w.cells = [w] := by
        rcases a2 with ⟨rfl, _⟩ | ⟨b', c', rfl, _⟩ <;> exact ⟨rfl, rfl⟩
      have hK1f : K1 = ((H.set p (some (.cells [rp, .int .i64 0, .bool s.mark, .bool false, .bool s.begun, .bool s.over, .slice b 0 (m + 1) c] 60 1 true))).new (.cells [.int .i64 0, .int .i32 0, .bool false, .nilslice] 30 1 true)).new (.cells [] 3 1 true) := by rw [hK1, hK0, hX]
      simp (config := {maxSteps := 1000000, maxDischargeDepth := 9, implicitDefEqProofs := false}) [c29, g0, hpn, hpn1, hctl, s_control, h1, e1, e2, e3, f1, f2, e4, e5, f3, f4, c6, c7, ← hK1f, a1, gp1, gp2, gx1, gx2, w1', hw1, show ¬ H.next = p from fun h => hpn h.symm]
      have fK := a4.set (show H.next < K2.next by omega) (some (.cells [.int .i64 4, .int .i32 r, .bool s.mark, w] 30 1 true))
      have hkS : ∀ (Y : Option Blk) q, q < H.next → q ≠ p → (K2.set H.next Y).get q = H.get q := fun Y q h1 h2 => by
        rw [Heap.get_set, if_neg (by omega)]; exact hk2 q h1 h2
      refine step_fin (s' := { s with st := 0, odd := false }) (vps' := .slice b 0 (m + 1) c) hE hF hp hI fK (by show H.next ≤ K2.next; omega) ?_ (hkS _) ?_ (newOr_same _ _) ⟨w, rfl, ?_, ?_⟩
      · rw [Heap.get_set, if_neg hpn]; exact gp2
      · exact ownK_set (s := s) hI hF (by show H.next ≤ K2.next; omega) (hkS _)
      · rcases id a2 with ⟨_, hh, _⟩ | ⟨b', c', z1, z2, z3, z4, z5, z6⟩
        · omega
        · have hb'x : b' ≠ H.next := by omega
          exact .inr ⟨b', c', z1, z2, by omega, z4, z5, by rw [Heap.get_set, if_neg hb'x]; exact z6⟩
      · intro b' o n c' o' n' c'' h1 h2
        injection h1 with h1
        rcases a2 with ⟨h0, _⟩ | ⟨b2, c2, z1, z2, z3, z4, z5, z6⟩
        · rw [h0] at h2; cases h2
        · rw [z1] at h2
          injection h2 with h2
          omega
  · rw [if_neg c6]
    by_cases f3 : 32 ≤ r
    · have f4 := c9 f3
      have f5 : 64 ≤ r := by omega
      have f6 : ¬ r ≤ 126 := fun h => c6 ⟨f5, h⟩
      have e5 : (r == 63) = false := beq_eq_false_iff_ne.2 (by omega)
      have f1 : 48 ≤ r := by omega
      have f2 : ¬ r ≤ 57 := by omega
      simp (config := {maxSteps := 1000000, maxDischargeDepth := 9, implicitDefEqProofs := false}) [c29, g0, hpn, hpn1, hctl, s_control, h1, e1, e2, e3, f1, f2, e4, e5, f3, f4, f5, f6]
      exact step_same hE hF hp hI fun _ => act_none _ _ _
    · have f5 : ¬ 64 ≤ r := by omega
      have e5 : (r == 63) = false := beq_eq_false_iff_ne.2 (by omega)
      have f1 : ¬ 48 ≤ r := by omega
      simp (config := {maxSteps := 1000000, maxDischargeDepth := 9, implicitDefEqProofs := false}) [c29, g0, hpn, hpn1, hctl, s_control, h1, e1, e2, e3, f1, e4, e5, f3, f5]
      exact step_same hE hF hp hI fun _ => act_none _ _ _

theorem rune_ok (cf : ACall) (hplain : ∀ a h, cf 30 a h = s_plain a h) (g_esc : ARaw) (hEsc : ∀ a h, cf 28 a h = g_esc a h) (kEsc : IsStep (fun _ => True) stEsc g_esc) (g_csi : ARaw) (hCsi : ∀ a h, cf 29 a h = g_csi a h) (kCsi : IsStep (fun s => s.st = 3) stCsi g_csi) : IsStep (fun _ => True) stRune (bodyA cf 20 c19) := by
  intro hb H p rp vps s r hE hF hp hI hw _
  have g0 : H.get p = some (.cells [rp, .int .i64 (s.st : Int), .bool s.mark, .bool s.odd, .bool s.begun, .bool s.over, vps] 60 1 true) := hI.1
  have hpl := hF.lt hI.1
  have hpn : ¬ p = H.next := by omega
  -- a step within, behind the box of the answer
  obtain ⟨H0, hH0⟩ : ∃ A, A = H.new (.cells [.int .i64 0, .int .i32 0, .bool false, .nilslice] 30 1 true) := ⟨_, rfl⟩
  have n0 : H0.next = H.next + 1 := by rw [hH0]; rfl
  have q0 : Fresh H0 := by rw [hH0]; exact hF.new _
  have e0 : Ext H H0 := by rw [hH0]; exact Ext.new H _
  have hI0 : isPar hb H0 p rp s vps := ⟨e0.get hF hI.1, ownK_set hI hF (by omega) fun q h1 _ => e0.2 q h1⟩
  have gx0 : H0.get H.next = some (.cells [.int .i64 0, .int .i32 0, .bool false, .nilslice] 30 1 true) := by rw [hH0, Heap.get_new]; exact if_pos rfl
  have within : ∀ (x : PS × Option ActP) (v : V) (H' : Heap), StepTo hb H0 p rp vps x v H' → ∃ cs ok, v = .tuple [.agg cs, .bool ok] ∧ cs.length = 4 ∧ (∃ c0 c1 c2 c3, cs = [c0, c1, c2, c3] ∧ c0.one = true ∧ c1.one = true ∧ c2.one = true ∧ c3.one = true) ∧ H'.get H.next = some (.cells [.int .i64 0, .int .i32 0, .bool false, .nilslice] 30 1 true) ∧ StepTo hb H p rp vps x v (H'.set H.next (some (.cells cs 30 1 true))) := by
    rintro ⟨s', out⟩ v H' ⟨vps', a1, a2, a3, ⟨a4, a5⟩, a6, a7, a8⟩
    have hnp : H.next ≠ p := by omega
    have hvb : ∀ o n c, vps ≠ .slice H.next o n c := fun o n c h => by
      rcases hI.2 with ⟨h0, _⟩ | ⟨b, c', k1, k2, k3, k4, k5, k6⟩
      · rw [h0] at h; cases h
      · rw [k1] at h; injection h; omega
    have gx' : H'.get H.next = some (.cells [.int .i64 0, .int .i32 0, .bool false, .nilslice] 30 1 true) := by rw [a6 H.next (by omega) hnp hvb]; exact gx0
    have hst : ∀ cs, actR H (H'.set H.next (some (.cells cs 30 1 true))) vps' v out → StepTo hb H p rp vps (s', out) v (H'.set H.next (some (.cells cs 30 1 true))) := fun cs ha => by
      have hk : ∀ q, q ≠ H.next → (H'.set H.next (some (.cells cs 30 1 true))).get q = H'.get q := fun q hq => by rw [Heap.get_set, if_neg hq]
      refine ⟨vps', ⟨a1.1, fun q hq => by rw [hk q (by have := hE.1; omega)]; exact a1.2 q hq⟩, a2.set (by omega) _, by show H.next ≤ H'.next; omega, ⟨by rw [hk p (by omega)]; exact a4, ?_⟩, fun q h1 h2 h3 => ?_, fun b o n c h => ?_, ha⟩
      · refine ownK_keep a5 (Nat.le_refl _) fun q cs' hq => hk q ?_
        rintro rfl
        rw [gx'] at hq
        injection hq with hq
        injection hq with _ e
        exact absurd e (by decide)
      · rw [hk q (by omega), a6 q (by omega) h2 h3]; exact e0.2 q h1
      · rcases a7 b o n c h with h1 | h1
        · exact .inl h1
        · exact .inr (by omega)
    cases out with
    | none =>
      have hv : v = _ := a8
      exact ⟨_, _, hv, rfl, ⟨_, _, _, _, rfl, rfl, rfl, rfl, rfl⟩, gx', hst _ a8⟩
    | some a =>
      obtain ⟨k, r', m, ps⟩ := a
      obtain ⟨vp, hv, b1, b2⟩ := a8
      have hone : vp.one = true := by rcases b1 with ⟨rfl, _⟩ | ⟨b, c, rfl, _⟩ <;> rfl
      refine ⟨_, _, hv, rfl, ⟨_, _, _, _, rfl, rfl, rfl, rfl, hone⟩, gx', hst _ ⟨vp, hv, ?_, b2⟩⟩
      rcases b1 with hh | ⟨b, c, k1, k2, k3, k4, k5, k6⟩
      · exact .inl hh
      · exact .inr ⟨b, c, k1, k2, by omega, k4, k5, by rw [Heap.get_set, if_neg (by omega)]; exact k6⟩
  show Runs _ _
  unfold stRune
  by_cases c1 : r = 27
  · rw [if_pos c1]
    subst c1
    by_cases c2 : s.st = 4
    · rw [c2] at g0
      rw [if_pos c2]
      simp (config := {maxSteps := 1000000, maxDischargeDepth := 9, implicitDefEqProofs := false}) [c19, g0, hpn]
      exact step_box (s' := { s with st := 5 }) hE hF hp hI rfl fun _ => act_none _ _ _
    · have c2' : ((s.st : Int) == 4) = false := beq_eq_false_iff_ne.2 (by omega)
      rw [if_neg c2]
      simp (config := {maxSteps := 1000000, maxDischargeDepth := 9, implicitDefEqProofs := false}) [c19, g0, hpn, c2']
      exact step_box (s' := { s with st := 1 }) hE hF hp hI rfl fun _ => act_none _ _ _
  rw [if_neg c1]
  have d1 : (r == 27) = false := beq_eq_false_iff_ne.2 c1
  by_cases c2 : s.st = 1
  · rw [if_pos c2]
    obtain ⟨v, H', k1, k2⟩ := kEsc hb H0 p rp vps s r (hE.trans e0) q0 hp hI0 hw trivial
    obtain ⟨cs, ok, rfl, _, ⟨x0, x1, x2, x3, rfl, o0, o1, o2, o3⟩, gx', hst⟩ := within _ _ _ k2
    rw [c2] at g0
    simp (config := {maxSteps := 1000000, maxDischargeDepth := 9, implicitDefEqProofs := false}) [c19, d1, ← hH0, g0, hI0.1, parCells, c2, hEsc, k1, gx', o0, o1, o2, o3]
    exact hst
  rw [if_neg c2]
  have f1 : ((s.st : Int) == 1) = false := beq_eq_false_iff_ne.2 (by omega)
  by_cases c3 : s.st = 2
  · rw [if_pos c3]
    rw [c3] at g0
    simp (config := {maxSteps := 1000000, maxDischargeDepth := 9, implicitDefEqProofs := false}) [c19, d1, g0, hpn]
    exact step_box (s' := { s with st := 0 }) hE hF hp hI rfl fun _ => act_none _ _ _
  rw [if_neg c3]
  have f2 : ((s.st : Int) == 2) = false := beq_eq_false_iff_ne.2 (by omega)
  by_cases c4 : s.st = 3
  · rw [if_pos c4]
    obtain ⟨v, H', k1, k2⟩ := kCsi hb H0 p rp vps s r (hE.trans e0) q0 hp hI0 hw c4
    obtain ⟨cs, ok, rfl, _, ⟨x0, x1, x2, x3, rfl, o0, o1, o2, o3⟩, gx', hst⟩ := within _ _ _ k2
    simp (config := {maxSteps := 1000000, maxDischargeDepth := 9, implicitDefEqProofs := false}) [c19, d1, ← hH0, g0, hI0.1, parCells, c4, hCsi, k1, gx', o0, o1, o2, o3]
    exact hst
  rw [if_neg c4]
  have f3 : ((s.st : Int) == 3) = false := beq_eq_false_iff_ne.2 (by omega)
  by_cases c5 : s.st = 4
  · rw [if_pos c5]
    rw [c5] at g0
    by_cases c6 : r = 7 ∨ r = 24 ∨ r = 26
    · rw [if_pos c6]
      rcases c6 with rfl | rfl | rfl
      all_goals
        simp (config := {maxSteps := 1000000, maxDischargeDepth := 9, implicitDefEqProofs := false}) [c19, d1, g0, hpn]
        exact step_box (s' := { s with st := 0 }) hE hF hp hI rfl fun _ => act_none _ _ _
    · rw [if_neg c6]
      have b1 : (r == 7) = false := beq_eq_false_iff_ne.2 (by omega)
      have b2 : (r == 24) = false := beq_eq_false_iff_ne.2 (by omega)
      have b3 : (r == 26) = false := beq_eq_false_iff_ne.2 (by omega)
      simp (config := {maxSteps := 1000000, maxDischargeDepth := 9, implicitDefEqProofs := false}) [c19, d1, g0, hpn, b1, b2, b3]
      have he : ({ s with st := 4 } : PS) = s := by rw [← c5]
      rw [he]
      exact step_same hE hF hp hI fun _ => act_none _ _ _
  rw [if_neg c5]
  have f4 : ((s.st : Int) == 4) = false := beq_eq_false_iff_ne.2 (by omega)
  by_cases c6 : s.st = 5
  · rw [if_pos c6]
    by_cases c7 : r = 92
    · rw [if_pos c7]
      subst c7
      rw [c6] at g0
      simp (config := {maxSteps := 1000000, maxDischargeDepth := 9, implicitDefEqProofs := false}) [c19, d1, g0, hpn]
      exact step_box (s' := { s with st := 0 }) hE hF hp hI rfl fun _ => act_none _ _ _
    · rw [if_neg c7]
      have d2 : (r == 92) = false := beq_eq_false_iff_ne.2 c7
      obtain ⟨v, H', k1, k2⟩ := kEsc hb H0 p rp vps s r (hE.trans e0) q0 hp hI0 hw trivial
      obtain ⟨cs, ok, rfl, _, ⟨x0, x1, x2, x3, rfl, o0, o1, o2, o3⟩, gx', hst⟩ := within _ _ _ k2
      simp (config := {maxSteps := 1000000, maxDischargeDepth := 9, implicitDefEqProofs := false}) [c19, d1, d2, ← hH0, g0, hI0.1, parCells, c6, hEsc, k1, gx', o0, o1, o2, o3]
      exact hst
  rw [if_neg c6]
  have f5 : ((s.st : Int) == 5) = false := beq_eq_false_iff_ne.2 (by omega)
  unfold stPlain
  cases h1 : ctl r with
  | true =>
    rw [if_pos rfl]
    simp (config := {maxSteps := 1000000, maxDischargeDepth := 9, implicitDefEqProofs := false}) [c19, d1, f1, f2, f3, f4, f5, g0, hpn, hplain, s_plain, stPlain, h1, actV]
    exact step_same hE hF hp hI fun _ => act_some _ _ _ _ _
  | false =>
    rw [if_neg (by intro h; cases h)]
    by_cases c7 : r < 32 ∨ r = 127
    · rw [if_pos c7]
      simp (config := {maxSteps := 1000000, maxDischargeDepth := 9, implicitDefEqProofs := false}) [c19, d1, f1, f2, f3, f4, f5, g0, hpn, hplain, s_plain, stPlain, h1, c7, actV]
      exact step_same hE hF hp hI fun _ => act_none _ _ _
    · rw [if_neg c7]
      simp (config := {maxSteps := 1000000, maxDischargeDepth := 9, implicitDefEqProofs := false}) [c19, d1, f1, f2, f3, f4, f5, g0, hpn, hplain, s_plain, stPlain, h1, c7, actV]
      exact step_same hE hF hp hI fun _ => act_some _ _ _ _ _

/-- A parser told runes, one by one. -/
def stRunes (s : PS) : List Int → PS × List ActP
  | [] => (s, [])
  | r :: l => ((stRunes (stRune s r).1 l).1, (stRune s r).2.toList ++ (stRunes (stRune s r).1 l).2)
theorem stRunes_append : ∀ (a b : List Int) (s : PS), stRunes s (a ++ b) = ((stRunes (stRunes s a).1 b).1, (stRunes s a).2 ++ (stRunes (stRunes s a).1 b).2)
  | [], b, s => by simp [stRunes]
  | r :: a, b, s => by
    simp only [List.cons_append, stRunes, stRunes_append a b, List.append_assoc]
theorem stRunes_snoc (a : List Int) (r : Int) (s : PS) : stRunes s (a ++ [r]) = ((stRune (stRunes s a).1 r).1, (stRunes s a).2 ++ (stRune (stRunes s a).1 r).2.toList) := by
  rw [stRunes_append]; simp [stRunes]
theorem stRunes_length : ∀ (a : List Int) (s : PS), (stRunes s a).2.length ≤ a.length
  | [], s => Nat.le_refl _
  | r :: a, s => by
    simp only [stRunes, List.length_append, List.length_cons]
    have := stRunes_length a (stRune s r).1
    have h1 : (stRune s r).2.toList.length ≤ 1 := by cases (stRune s r).2 <;> simp
    omega
theorem wf_runes : ∀ (a : List Int) (s : PS), wfPS s → wfPS (stRunes s a).1
  | [], s, h => h
  | r :: a, s, h => wf_runes a _ (wf_rune h r)
/-- The acts that stand in a row. -/
def actsR (h0 H : Heap) (vps : V) : List ActP → List V → Prop
  | [], cs => cs = []
  | a :: l, cs => ∃ vp cs', cs = .int .i64 a.1 :: .int .i32 a.2.1 :: .bool a.2.2.1 :: vp :: cs' ∧ OwnK .i64 h0 H 3 vp a.2.2.2 ∧ apartV vps vp ∧ actsR h0 H vps l cs'
theorem actsR_length {h0 H : Heap} {vps : V} : ∀ {l : List ActP} {cs : List V}, actsR h0 H vps l cs → cs.length = l.length * 4
  | [], cs, h => by
    have : cs = [] := h
    rw [this]; rfl
  | a :: l, cs, h => by
    obtain ⟨vp, cs', rfl, _, _, h4⟩ := h
    have := actsR_length h4
    simp only [List.length_cons, this]; omega
theorem actsR_keep {h0 H H' : Heap} {vps vps' : V} (hn : H.next ≤ H'.next) (hk : ∀ b cs, H.get b = some (.cells cs 3 1 true) → (∀ o n c, vps ≠ .slice b o n c) → H'.get b = H.get b) (hv : newOr H vps vps') : ∀ {l : List ActP} {cs : List V}, actsR h0 H vps l cs → actsR h0 H' vps' l cs
  | [], cs, h => h
  | a :: l, cs, h => by
    obtain ⟨vp, cs', h1, h4, h5, h6⟩ := h
    refine ⟨vp, cs', h1, ?_, ?_, actsR_keep hn hk hv h6⟩
    · rcases h4 with hh | ⟨b, c, k1, k2, k3, k4, k5, k6⟩
      · exact .inl hh
      · exact .inr ⟨b, c, k1, k2, k3, by omega, k5, by rw [hk b _ k6 (fun o n c' e => h5 _ _ _ _ _ _ _ e k1)]; exact k6⟩
    · intro b o n c o' n' c' e1 e2
      rcases hv b o n c e1 with ⟨o2, n2, c2, e3⟩ | hlt
      · exact h5 _ _ _ _ _ _ _ e3 e2
      · rcases h4 with ⟨h0, _⟩ | ⟨b2, c2, k1, k2, k3, k4, _⟩
        · rw [h0] at e2; cases e2
        · rw [k1] at e2; injection e2; omega
theorem actsR_snoc {h0 H : Heap} {vps vp : V} {x : ActP} (ho : OwnK .i64 h0 H 3 vp x.2.2.2) (ha : apartV vps vp) : ∀ {l : List ActP} {cs : List V}, actsR h0 H vps l cs → actsR h0 H vps (l ++ [x]) (cs ++ [.int .i64 x.1, .int .i32 x.2.1, .bool x.2.2.1, vp])
  | [], cs, h => by
    have : cs = [] := h
    subst this
    exact ⟨vp, [], rfl, ho, ha, rfl⟩
  | a :: l, cs, h => by
    obtain ⟨vq, cs', rfl, h4, h5, h6⟩ := h
    exact ⟨vq, _, rfl, h4, h5, actsR_snoc ho ha h6⟩
theorem typ_ne {H : Heap} {p q t t' : Nat} {a b : List V} (h1 : H.get p = some (.cells a t 1 true)) (h2 : H.get q = some (.cells b t' 1 true)) (ht : t ≠ t') : q ≠ p := by
  rintro rfl
  rw [h1] at h2
  injection h2 with h2
  injection h2 with _ e
  exact ht e
theorem slK_same4 {H H' : Heap} {k : IntKind} {q o n : Nat} {c : Option Nat} (hg : H'.get q = H.get q) : slK k H' (.slice q o n c) = slK k H (.slice q o n c) := by
  have h1 : wfS H' 1 (.slice q o n c) = wfS H 1 (.slice q o n c) := by dsimp only [wfS]; rw [hg]
  have h2 : rd H' 1 (.slice q o n c) = rd H 1 (.slice q o n c) := by
    show H'.read q o (n * 1) = H.read q o (n * 1)
    unfold Heap.read; rw [hg]
  unfold slK sl
  rw [h1, h2]
/-- A parser, its decoder, and the acts of one Feed. -/
def FdInv (hb h0 H : Heap) (p pd : Nat) (held : List Nat) (vps v0 w : V) (s : PS) (acts : List ActP) (v : V) (rs : List Int) : Prop :=
  Ext hb H ∧ Fresh H ∧ h0.next ≤ H.next ∧ isPar hb H p (.ptr pd 0) s vps ∧ wfPS s ∧ isDec H pd 69 held ∧ (∃ cs, Own hb H 30 4 w acts.length cs ∧ actsR h0 H vps acts cs) ∧ (∀ b o n c, w = .slice b o n c → h0.next ≤ b) ∧
  newOr h0 v0 vps ∧ slK .i32 H v = some rs ∧ (v = .nilslice ∨ ∃ q n cs, v = .slice q 0 n none ∧ H.get q = some (.cells cs 21 1 true)) ∧ (∀ q, q < h0.next → q ≠ p → q ≠ pd → (∀ o n c, v0 ≠ .slice q o n c) → H.get q = h0.get q)
theorem isDec_step {H H' : Heap} {p pd : Nat} {vps : V} {held : List Nat} {cs ps : List V} {b0 : V} (hd : isDec H pd 69 held) (hF : Fresh H) (hp : H.get p = some (.cells cs 60 1 true)) (hv : ∀ q o n c, vps = .slice q o n c → H.get q = some (.cells ps 3 1 true)) (hk : Kept H H' p vps) : isDec H' pd 69 held := by
  have key : ∀ q xs t, t ≠ 60 → t ≠ 3 → H.get q = some (.cells xs t 1 true) → H'.get q = H.get q := fun q xs t h1 h2 hq => by
    refine hk q (hF.lt hq) ?_ fun o n c e => ?_
    · rintro rfl
      rw [hp] at hq; injection hq with hq; injection hq with _ e; exact h1 e.symm
    · have := hv q o n c e
      rw [this] at hq; injection hq with hq; injection hq with _ e; exact h2 e.symm
  obtain ⟨vh, g1, _⟩ := hd.get
  exact hd.keep (key pd _ _ (by decide) (by decide) g1) fun q xs _ hq => key q _ _ (by decide) (by decide) hq
theorem FdInv.move {hb h0 H K : Heap} {p pd : Nat} {held : List Nat} {vps v0 w w' v : V} {s : PS} {acts acts' : List ActP} {rs : List Int} (hI : FdInv hb h0 H p pd held vps v0 w s acts v rs) (hn : H.next ≤ K.next) (eK : Ext hb K) (fK : Fresh K)
    (hk : ∀ q, q < H.next → (∀ o n c, w ≠ .slice q o n c) → K.get q = H.get q) (hw : (∃ cs, Own hb K 30 4 w' acts'.length cs ∧ actsR h0 K vps acts' cs)) (hw' : ∀ b o n c, w' = .slice b o n c → h0.next ≤ b) : FdInv hb h0 K p pd held vps v0 w' s acts' v rs := by
  obtain ⟨i1, i2, i3, i4, i5, i6, ⟨cs0, i7, i8⟩, i9, i10, i11, i12, i13⟩ := hI
  have key : ∀ q xs t, H.get q = some (.cells xs t 1 true) → K.get q = some (.cells xs t 1 true) := fun q xs t hq => by
    rw [hk q (i2.lt hq) fun o n c e => ?_]
    · exact hq
    · rcases i7 with ⟨h0, _⟩ | ⟨b, c', k1, k2, k3, k4, k5, k6⟩
      · rw [h0] at e; cases e
      · rw [k1] at e
        injection e with e
        subst e
        rw [hq] at k6
        injection k6 with k6
        injection k6 with _ _ e
        exact absurd e (by decide)
  refine ⟨eK, fK, by omega, ⟨key _ _ _ i4.1, ?_⟩, i5, ?_, hw, hw', i10, ?_, ?_, fun q h1 h2 h3 h4 => ?_⟩
  · exact ownK_keep i4.2 hn fun q cs hq => by rw [key _ _ _ hq, hq]
  · obtain ⟨vh, g1, _⟩ := i6.get
    exact i6.keep (by rw [key _ _ _ g1, g1]) fun q cs _ hq => by rw [key _ _ _ hq, hq]
  · rcases i12 with rfl | ⟨q, n, cs, rfl, hq⟩
    · exact (show slK .i32 K .nilslice = slK .i32 H .nilslice from rfl).trans i11
    · have e : K.get q = H.get q := by rw [key _ _ _ hq, hq]
      rw [slK_same4 e]; exact i11
  · rcases i12 with rfl | ⟨q, n, cs, rfl, hq⟩
    · exact .inl rfl
    · exact .inr ⟨q, n, cs, rfl, key _ _ _ hq⟩
  · rw [hk q (by omega) (fun o n c e => by have := i9 _ _ _ _ e; omega)]; exact i13 q h1 h2 h3 h4
theorem own4_keep {h H H' : Heap} {v : V} {n t : Nat} {l : List V} (ho : Own h H t 4 v n l) (hn : H.next ≤ H'.next) (hg : ∀ q cs, H.get q = some (.cells cs t 4 true) → H'.get q = H.get q) : Own h H' t 4 v n l := by
  rcases ho with hh | ⟨b, c, k1, k2, k3, k4, k5, k6⟩
  · exact .inl hh
  · exact .inr ⟨b, c, k1, k2, k3, by omega, k5, by rw [hg _ _ k6]; exact k6⟩
theorem FdInv.ext {hb h0 H K : Heap} {p pd : Nat} {held : List Nat} {vps v0 w v : V} {s : PS} {acts : List ActP} {rs : List Int} (hI : FdInv hb h0 H p pd held vps v0 w s acts v rs) (hE : Ext H K) (fK : Fresh K) : FdInv hb h0 K p pd held vps v0 w s acts v rs := by
  obtain ⟨i1, i2, i3, i4, i5, i6, ⟨cs0, i7, i8⟩, i9, i10⟩ := id hI
  exact hI.move hE.1 (i1.trans hE) fK (fun q hq _ => hE.2 q hq) ⟨cs0, own4_keep i7 hE.1 fun q cs hq => by rw [hE.get i2 hq, hq], actsR_keep hE.1 (fun b cs hb _ => by rw [hE.get i2 hb, hb]) (newOr_same _ _) i8⟩ i9
theorem FdInv.step {hb h0 H H1 : Heap} {p pd : Nat} {held : List Nat} {vps v0 w v vr : V} {s : PS} {acts : List ActP} {rs : List Int} {r : Int} (hI : FdInv hb h0 H p pd held vps v0 w s acts v rs) (hS : StepTo hb H p (.ptr pd 0) vps (stRune s r) vr H1) :
    ∃ vps', FdInv hb h0 H1 p pd held vps' v0 w (stRune s r).1 acts v rs ∧ actR H H1 vps' vr (stRune s r).2 := by
  obtain ⟨i1, i2, i3, i4, i5, i6, ⟨cs0, i7, i8⟩, i9, i10, i11, i12, i13⟩ := hI
  obtain ⟨vps', s1, s2, s3, s4, s5, s6, s7⟩ := hS
  have hvq : ∀ q o n c, vps = .slice q o n c → H.get q = some (.cells (s.params.map (V.int .i64)) 3 1 true) := fun q o n c e => by
    rcases i4.2 with ⟨h0, _⟩ | ⟨b, c', k1, k2, k3, k4, k5, k6⟩
    · rw [h0] at e; cases e
    · rw [k1] at e; injection e with e; subst e; exact k6
  have key : ∀ q xs t z, (t ≠ 60) → (t ≠ 3) → H.get q = some (.cells xs t z true) → H1.get q = H.get q := fun q xs t z h1 h2 hq => by
    refine s5 q (i2.lt hq) ?_ fun o n c e => ?_
    · rintro rfl
      rw [i4.1] at hq; injection hq with hq; injection hq with _ e; exact h1 e.symm
    · have := hvq q o n c e
      rw [this] at hq; injection hq with hq; injection hq with _ e; exact h2 e.symm
  refine ⟨vps', ⟨s1, s2, by omega, s4, wf_rune i5 r, ?_, ⟨cs0, own4_keep i7 s3 fun q cs hq => key _ _ _ _ (by decide) (by decide) hq, actsR_keep s3 (fun b cs hb hv => s5 b (i2.lt hb) ?_ hv) s6 i8⟩, i9, ?_, ?_, ?_, fun q h1 h2 h3 h4 => ?_⟩, s7⟩
  · obtain ⟨vh, g1, _⟩ := i6.get
    exact i6.keep (key _ _ _ _ (by decide) (by decide) g1) fun q cs _ hq => key _ _ _ _ (by decide) (by decide) hq
  · rintro rfl
    rw [i4.1] at hb; injection hb with hb; injection hb with _ e; exact absurd e (by decide)
  · intro b o n c e
    rcases s6 b o n c e with ⟨o2, n2, c2, e2⟩ | h
    · exact i10 b o2 n2 c2 e2
    · exact .inr (by omega)
  · rcases i12 with rfl | ⟨q, n, cs, rfl, hq⟩
    · exact (show slK .i32 H1 .nilslice = slK .i32 H .nilslice from rfl).trans i11
    · rw [slK_same4 (key _ _ _ _ (by decide) (by decide) hq)]; exact i11
  · rcases i12 with rfl | ⟨q, n, cs, rfl, hq⟩
    · exact .inl rfl
    · exact .inr ⟨q, n, cs, rfl, by rw [key _ _ _ _ (by decide) (by decide) hq]; exact hq⟩
  · rw [s5 q (by omega) h2 (fun o n c e => ?_)]
    · exact i13 q h1 h2 h3 h4
    · rcases i10 q o n c e with ⟨o2, n2, c2, e2⟩ | h
      · exact h4 _ _ _ e2
      · omega
theorem fd_more (hb h0 H H1 : Heap) {p pd : Nat} {held : List Nat} {vps v0 w v vr : V} {s : PS} {acts : List ActP} {rs : List Int} {r : Int} (hf0 : Fresh h0) (hp : hb.next ≤ p) (hpd : hb.next ≤ pd) (hpl : p < h0.next) (hI : FdInv hb h0 H p pd held vps v0 w s acts v rs) (hacts : acts.length ≤ 1000000000000)
    (hS : StepTo hb H p (.ptr pd 0) vps (stRune s r) vr H1) :
    ∃ cs ok c0 c1 c2 c3, vr = .tuple [.agg cs, .bool ok] ∧ cs = [c0, c1, c2, c3] ∧ c0.one = true ∧ c1.one = true ∧ c2.one = true ∧ c3.one = true ∧ ok = (stRune s r).2.isSome ∧
      (ok = false → ∃ vps', FdInv hb h0 (H1.new (.cells cs 30 1 true)) p pd held vps' v0 w (stRune s r).1 acts v rs) ∧
      (ok = true → ∃ vps' w' H4, appendV ((H1.new (.cells cs 30 1 true)).new (.cells cs 30 4 true)) 30 4 40 w (.slice (H1.next + 1) 0 1 (some 1)) = some (w', H4) ∧ FdInv hb h0 H4 p pd held vps' v0 w' (stRune s r).1 (acts ++ (stRune s r).2.toList) v rs) := by
  obtain ⟨vps', hI1, ha⟩ := hI.step hS
  have f1 : Fresh H1 := hI1.2.1
  cases hout : (stRune s r).2 with
  | none =>
    rw [hout] at ha
    have hv : vr = _ := ha
    exact ⟨_, _, _, _, _, _, hv, rfl, rfl, rfl, rfl, rfl, rfl, fun _ => ⟨vps', hI1.ext (Ext.new _ _) (f1.new _)⟩, fun h => by cases h⟩
  | some a =>
    rw [hout] at ha
    obtain ⟨k, r', m, ps⟩ := a
    obtain ⟨vp, hv, b1, b2⟩ := ha
    have hone : vp.one = true := by rcases b1 with ⟨rfl, _⟩ | ⟨b, c, rfl, _⟩ <;> rfl
    refine ⟨_, _, _, _, _, _, hv, rfl, rfl, rfl, rfl, hone, rfl, fun h => (by cases h), fun _ => ?_⟩
    obtain ⟨H2, hH2⟩ : ∃ A, A = H1.new (.cells [.int .i64 k, .int .i32 r', .bool m, vp] 30 1 true) := ⟨_, rfl⟩
    obtain ⟨H3, hH3⟩ : ∃ A, A = H2.new (.cells [.int .i64 k, .int .i32 r', .bool m, vp] 30 4 true) := ⟨_, rfl⟩
    have x2 : Ext H1 H2 := by rw [hH2]; exact Ext.new _ _
    have f2 : Fresh H2 := by rw [hH2]; exact f1.new _
    have n2 : H2.next = H1.next + 1 := by rw [hH2]; rfl
    have x3 : Ext H2 H3 := by rw [hH3]; exact Ext.new _ _
    have f3 : Fresh H3 := by rw [hH3]; exact f2.new _
    have hI3 := (hI1.ext x2 f2).ext x3 f3
    rw [← hH2, ← hH3, ← n2]
    have hadd : added H3 4 (.slice H2.next 0 1 (some 1)) = some ([V.int .i64 k, .int .i32 r', .bool m, vp], 1) := by
      have : sl H3 4 (.slice H2.next 0 1 (some 1)) = some [V.int .i64 k, .int .i32 r', .bool m, vp] := by rw [hH3]; exact sl_selfE rfl rfl (.inr rfl)
      exact rd_added (sl_rd this)
    obtain ⟨j1, j2, j3, j4, j5, j6, ⟨cs0, j7, j8⟩, j9, j10⟩ := id hI3
    have hm : most = 140737488355328 := rfl
    obtain ⟨w', H4, k1, k2, k3, k4, k5, k6, k7⟩ := Own.app (bytes := 40) (ys := [V.int .i64 k, .int .i32 r', .bool m, vp]) j1 j2 j7 (by simpa using hadd) (by simp) (by simp only [List.all_cons, List.all_nil, Bool.and_true, hone]; rfl) (by rw [hm]; simp only [List.length_cons, List.length_nil]; omega) (by rw [hm]; simp only [List.length_cons, List.length_nil]; omega)
    have k2' : Own hb H4 30 4 w' (acts.length + 1) (cs0 ++ [V.int .i64 k, .int .i32 r', .bool m, vp]) := by simpa using k2
    have hk7 : ∀ q, q < H3.next → (∀ o n c, w ≠ .slice q o n c) → H4.get q = H3.get q := fun q h1 h2 => k7 q h1 fun o c => h2 o _ c
    have key : ∀ q xs, H3.get q = some (.cells xs 3 1 true) → H4.get q = H3.get q := fun q xs hq => by
      refine hk7 q (j2.lt hq) fun o n c e => ?_
      rcases j7 with ⟨h0, _⟩ | ⟨b, c', z1, z2, z3, z4, z5, z6⟩
      · rw [h0] at e; cases e
      · rw [z1] at e
        injection e with e
        subst e
        rw [hq] at z6
        injection z6 with z6
        injection z6 with _ e
        exact absurd e (by decide)
    have o3 : OwnK .i64 h0 H3 3 vp ps := by
      have h1 : OwnK .i64 h0 H1 3 vp ps := Own.base b1 hI.2.2.1
      exact ownK_keep (ownK_keep h1 x2.1 fun q cs hq => by rw [x2.get f1 hq, hq]) x3.1 fun q cs hq => by rw [x3.get f2 hq, hq]
    refine ⟨vps', w', H4, k1, hI3.move k5 k3 k4 hk7 ⟨_, by rw [List.length_append]; exact k2', ?_⟩ fun b o n c e => ?_⟩
    · have h4 := actsR_keep k5 (fun b cs hb _ => key b cs hb) (newOr_same H3 vps') j8
      exact actsR_snoc (x := (k, r', m, ps)) (ownK_keep o3 k5 fun q cs hq => key q cs hq) b2 h4
    · rcases append_block k1 e with h | ⟨o2, n2', c2, h⟩
      · have := hI3.2.2.1; omega
      · exact j9 _ _ _ _ h
/-- What Feed does: the parser, its decoder, the acts. -/
def FedTo (hb H : Heap) (p pd : Nat) (vps : V) (s : PS) (held b : List Nat) (v : V) (H' : Heap) : Prop :=
  ∃ vps', Ext hb H' ∧ Fresh H' ∧ H.next ≤ H'.next ∧ isPar hb H' p (.ptr pd 0) (stRunes s (runesL ((held ++ b).take (cutN (held ++ b))))).1 vps' ∧ wfPS (stRunes s (runesL ((held ++ b).take (cutN (held ++ b))))).1 ∧ isDec H' pd 69 ((held ++ b).drop (cutN (held ++ b))) ∧
    (∃ cs, Own H H' 30 4 v (stRunes s (runesL ((held ++ b).take (cutN (held ++ b))))).2.length cs ∧ actsR H H' vps' (stRunes s (runesL ((held ++ b).take (cutN (held ++ b))))).2 cs) ∧ newOr H vps vps' ∧ (∀ q, q < H.next → q ≠ p → q ≠ pd → (∀ o n c, vps ≠ .slice q o n c) → H'.get q = H.get q)
def IsFeed (g : ARaw) : Prop :=
  ∀ (hb H : Heap) (p pd : Nat) (vps vb : V) (s : PS) (held b : List Nat), Fresh hb → hasLaid laidVals hb → Ext hb H → Fresh H → hb.next ≤ p → hb.next ≤ pd → isPar hb H p (.ptr pd 0) s vps → wfPS s → isDec H pd 69 held → slB H vb = some b → held.length + b.length ≤ 1100000 →
    ∃ v H', g [.ptr p 0, vb] H = some (v, H') ∧ FedTo hb H p pd vps s held b v H'
theorem feed_ok (cf : ACall) (hFeed : ∀ a h, cf 25 a h = s_Feed a h) (g_rune : ARaw) (hRune : ∀ a h, cf 19 a h = g_rune a h) (kRune : IsStep (fun _ => True) stRune g_rune) : IsFeed (bodyA cf 2000000 c12) := by
  intro hb H p pd vps vb s held b hfb hL hE hF hp hpd hI hw hd hb' hl
  obtain ⟨A1, v, r1, r2, r3, r4, r5, r6, r7⟩ := feed_run hd hb' hF (hasLaid_ext hL hfb hE) (by omega)
  have hrl := runesL_le ((held ++ b).take (cutN (held ++ b)))
  have htl : ((held ++ b).take (cutN (held ++ b))).length ≤ held.length + b.length := by rw [List.length_take, List.length_append]; omega
  unfold FedTo
  generalize runesL ((held ++ b).take (cutN (held ++ b))) = rs at *
  have g0 : H.get p = some (.cells [.ptr pd 0, .int .i64 (s.st : Int), .bool s.mark, .bool s.odd, .bool s.begun, .bool s.over, vps] 60 1 true) := hI.1
  obtain ⟨vd, gd, _⟩ := hd.get
  have hppd : p ≠ pd := typ_ne gd hI.1 (by decide)
  have hpl := hF.lt hI.1
  have eA : Ext hb A1 := ⟨by have := hE.1; omega, fun q hq => by rw [r5 q (by omega) (by have := hE.1; omega)]; exact hE.2 q hq⟩
  have hvs := slK_isSl r2
  have hvl := slK_vlen r2
  have hS : FdInv hb H A1 p pd ((held ++ b).drop (cutN (held ++ b))) vps vps .nilslice s [] v rs := by
    refine ⟨eA, r4, r6, ⟨by rw [r5 p hppd hpl]; exact hI.1, ownK_keep hI.2 r6 fun q cs hq => r5 q (typ_ne gd hq (by decide)) (hF.lt hq)⟩, hw, r3, ⟨[], .inl ⟨rfl, rfl, rfl⟩, rfl⟩, fun b o n c h => (by cases h), newOr_same _ _, r2, r7.imp id fun ⟨q, n, cs, a, _, c⟩ => ⟨q, n, cs, a, c⟩, fun q h1 h2 h3 h4 => r5 q h3 h1⟩
  have L := loop_count (cf := cf) (N := 2000000) (c := c12_l0) rs.length
    (fun i e K => e.n = 34 ∧ e.at 0 = .ptr p 0 ∧ e.at 15 = v ∧ e.at 16 = .int .i64 (rs.length : Int) ∧ e.at 17 = .int .i64 (i : Int) ∧ ∃ vps', FdInv hb H K p pd ((held ++ b).drop (cutN (held ++ b))) vps' vps (e.at 5) (stRunes s (rs.take i)).1 (stRunes s (rs.take i)).2 v rs)
    (fun x e K => x = .exit 0 ∧ e.n = 34 ∧ ∃ vps', FdInv hb H K p pd ((held ++ b).drop (cutN (held ++ b))) vps' vps (e.at 5) (stRunes s rs).1 (stRunes s rs).2 v rs)
    (by
      rintro i e K hi ⟨hn, q0, q15, q16, q17, vps1, hK⟩
      have hiI : (i : Int) < (rs.length : Int) := by omega
      obtain ⟨r, hr⟩ : ∃ r, rs[i]? = some r := ⟨_, List.getElem?_eq_getElem hi⟩
      have htk : rs.take (i + 1) = rs.take i ++ [r] := by
        rw [List.take_succ_eq_append_getElem hi, (List.getElem?_eq_some_iff.1 hr).2]
      have hsn := stRunes_snoc (rs.take i) r s
      rw [← htk] at hsn
      have hal := stRunes_length (rs.take i) s
      rw [List.length_take] at hal
      rw [hsn]
      generalize (stRunes s (rs.take i)).1 = s1 at *
      generalize (stRunes s (rs.take i)).2 = acts at *
      obtain ⟨j1, j2, j3, j4, j5, j6, j7, j8, j9, j10, j11, j12⟩ := id hK
      have hload := rd_load (sl_rd (slK_sl j10)) (j := i) (x := .int .i32 r) (by rw [List.getElem?_map, hr]; rfl)
      have hidx := indexE (z := 1) hvs K (k := .i64) (i := (i : Int)) (by omega) (by rw [hvl]; omega)
      simp only [Int.toNat_natCast, Nat.mul_one] at hidx
      obtain ⟨vr, H1, k1, k2⟩ := kRune hb K p (.ptr pd 0) vps1 s1 r j1 j2 hp j4 j5 trivial
      generalize q5 : e.at 5 = w at *
      obtain ⟨cs, ok, c0, c1, c2, c3, rfl, rfl, o0, o1, o2, o3, hok, m1, m2⟩ := fd_more hb H K H1 hF hp hpd hpl hK (by omega) k2
      have wi : wrapF .i64 ((i : Int) + 1) = (i : Int) + 1 := wrap_i64 (by omega) (by omega)
      have ov0 : ∀ a0 a1 a2 a3 x0 x1 x2 x3 : V, over [a0, a1, a2, a3] 0 [x0, x1, x2, x3] = [x0, x1, x2, x3] := fun _ _ _ _ _ _ _ _ => rfl
      cases ok with
      | false =>
        obtain ⟨vps2, hK2⟩ := m1 rfl
        have hnone : (stRune s1 r).2 = none := by
          cases hq : (stRune s1 r).2 with
          | none => rfl
          | some a => rw [hq] at hok; cases hok
        rw [hnone]
        simp (config := {maxSteps := 1000000, maxDischargeDepth := 9, implicitDefEqProofs := false}) [c12_l0, hn, q0, q5, q15, q16, q17, hiI, hi, hidx, hload, hRune, k1, o0, o1, o2, o3, ov0, wi, -over]
        exact ⟨vps2, hK2⟩
      | true =>
        obtain ⟨vps2, w', H4, a1, hK2⟩ := m2 rfl
        simp (config := {maxSteps := 1000000, maxDischargeDepth := 9, implicitDefEqProofs := false}) [c12_l0, hn, q0, q5, q15, q16, q17, hiI, hi, hidx, hload, hRune, k1, o0, o1, o2, o3, ov0, a1, wi, -over]
        exact ⟨vps2, hK2⟩)
    (by
      rintro e K ⟨hn, q0, q15, q16, q17, vps1, hK⟩
      rw [List.take_length] at hK
      generalize q5 : e.at 5 = w at *
      simp (config := {maxSteps := 1000000, maxDischargeDepth := 9, implicitDefEqProofs := false}) [c12_l0, hn, q5, q16, q17]
      exact ⟨vps1, hK⟩)
  show Runs _ _
  simp (config := {maxSteps := 1000000, maxDischargeDepth := 9, implicitDefEqProofs := false}) [c12, g0, hFeed, r1, lenE hvs, hvl]
  refine loop_then (K := fun r => finS _ (seqS _ _ _ (blockS _ r))) (L 0 _ _ (Nat.zero_le _) ?_ (by omega)) ?_
  · simp (config := {maxSteps := 1000000, maxDischargeDepth := 9, implicitDefEqProofs := false})
    exact ⟨vps, hS⟩
  · rintro x e' K ⟨rfl, hn', vps1, hK⟩
    generalize q5 : e'.at 5 = w at *
    simp (config := {maxSteps := 1000000, maxDischargeDepth := 9, implicitDefEqProofs := false}) [hn', q5]
    obtain ⟨j1, j2, j3, j4, j5, j6, ⟨cs0, j7, j8⟩, j9, j10, j11, j12, j13⟩ := hK
    have hO : Own H K 30 4 w (stRunes s rs).2.length cs0 := by
      rcases j7 with hh | ⟨b', c', z1, z2, z3, z4, z5, z6⟩
      · exact .inl hh
      · exact .inr ⟨b', c', z1, z2, j9 _ _ _ _ z1, z4, z5, z6⟩
    exact ⟨j1, j2, j3, vps1, j4, j5, j6, ⟨cs0, hO, j8⟩, j10, j13⟩

def ps0 : PS := { st := 0, mark := false, odd := false, begun := false, over := false, params := [] }
theorem wf_ps0 : wfPS ps0 := by
  refine ⟨?_, ?_, ?_, ?_⟩
  · show 0 ≤ 5; omega
  · intro h
    have h : 0 = 3 := h
    omega
  · show 0 ≤ 16; omega
  · intro x hx
    have hx : x ∈ ([] : List Int) := hx
    exact (List.not_mem_nil hx).elim
def newPar (H : Heap) : Heap := (H.new (.cells [.nilslice] 69 1 true)).new (.cells (parCells (.ptr H.next 0) ps0 .nilslice) 60 1 true)
def IsNew20 (g : ARaw) : Prop := ∀ H, g [] H = some (.ptr (H.next + 1) 0, newPar H)
theorem new20_ok (cf : ACall) (hNew : ∀ a h, cf 24 a h = s_New a h) : IsNew20 (bodyA cf 20 c10) := by
  intro H
  have h : Runs (bodyA cf 20 c10 [] H) fun v H' => v = .ptr (H.next + 1) 0 ∧ H' = newPar H := by
    unfold newPar parCells ps0
    simp (config := {maxSteps := 1000000, maxDischargeDepth := 9, implicitDefEqProofs := false}) [c10, hNew, s_New]
  obtain ⟨v, H', h1, rfl, rfl⟩ := h
  exact h1
/-- A new parser. -/
theorem newPar_ok {hb H : Heap} (hE : Ext hb H) (hF : Fresh H) : Ext hb (newPar H) ∧ Ext H (newPar H) ∧ Fresh (newPar H) ∧ isPar hb (newPar H) (H.next + 1) (.ptr H.next 0) ps0 .nilslice ∧ isDec (newPar H) H.next 69 [] := by
  have e1 := Ext.new H (.cells [.nilslice] 69 1 true)
  have f1 := hF.new (.cells [.nilslice] 69 1 true)
  have e2 := Ext.new (H.new (.cells [.nilslice] 69 1 true)) (.cells (parCells (.ptr H.next 0) ps0 .nilslice) 60 1 true)
  refine ⟨hE.trans (e1.trans e2), e1.trans e2, f1.new _, ⟨?_, .inl ⟨rfl, rfl, rfl⟩⟩, (isDec_new H 69).ext f1 e2⟩
  unfold newPar
  rw [Heap.get_new]; exact if_pos rfl

/-- What the tables say. -/
theorem cls_all : (List.range 256).all (fun c => decide (firstN.getD c 0 % 8 = sz c ∧ (2 ≤ sz c → accN.getD (2 * (firstN.getD c 0 / 16)) 0 = lo c ∧ accN.getD (2 * (firstN.getD c 0 / 16) + 1) 0 = hi c))) = true := by kernel_rfl
theorem cls {c : Nat} (hc : c < 256) : firstN.getD c 0 % 8 = sz c ∧ (2 ≤ sz c → accN.getD (2 * (firstN.getD c 0 / 16)) 0 = lo c ∧ accN.getD (2 * (firstN.getD c 0 / 16) + 1) 0 = hi c) := of_decide_eq_true (List.all_eq_true.1 cls_all c (List.mem_range.2 hc))
theorem start_all : (List.range 256).all (fun c => startB (c : Int) == decide (c < 128 ∨ 191 < c)) = true := by kernel_rfl
theorem startB_iff {c : Nat} (hc : c < 256) : startB (c : Int) = true ↔ startP c := by
  have h := beq_iff_eq.1 (List.all_eq_true.1 start_all c (List.mem_range.2 hc))
  rw [h]
  exact decide_eq_true_iff
theorem fullB_iff {s : List Nat} (hs : ∀ y ∈ s, y < 256) : fullB s = true ↔ fullP s := by
  unfold fullB fullP
  by_cases h0 : s.length = 0
  · rw [if_pos h0]
    constructor
    · intro h; cases h
    · intro h; omega
  have hb : s.getD 0 0 < 256 := hs _ (by rw [List.getD_eq_getElem?_getD, List.getElem?_eq_getElem (by omega)]; exact List.getElem_mem _)
  obtain ⟨k1, k2⟩ := cls hb
  rw [if_neg h0, k1]
  by_cases h1 : sz (s.getD 0 0) ≤ s.length
  · rw [if_pos h1]
    exact ⟨fun _ => ⟨by omega, .inl h1⟩, fun _ => rfl⟩
  obtain ⟨k3, k4⟩ := k2 (by omega)
  rw [if_neg h1, k3, k4]
  by_cases h2 : 1 < s.length ∧ (s.getD 1 0 < lo (s.getD 0 0) ∨ hi (s.getD 0 0) < s.getD 1 0)
  · rw [if_pos h2]
    exact ⟨fun _ => ⟨by omega, .inr (.inl h2)⟩, fun _ => rfl⟩
  rw [if_neg h2]
  by_cases h3 : 2 < s.length ∧ (s.getD 2 0 < 128 ∨ 191 < s.getD 2 0)
  · rw [if_pos h3]
    exact ⟨fun _ => ⟨by omega, .inr (.inr h3)⟩, fun _ => rfl⟩
  rw [if_neg h3]
  constructor
  · intro h; cases h
  · rintro ⟨_, h | h | h⟩
    · exact absurd h h1
    · exact absurd h h2
    · exact absurd h h3
theorem heldAt_iff {s : List Nat} (hs : ∀ y ∈ s, y < 256) {k : Nat} (hk : k < s.length) : heldAt s k = true ↔ heldP s k := by
  have hb : s.getD k 0 < 256 := hs _ (by rw [List.getD_eq_getElem?_getD, List.getElem?_eq_getElem hk]; exact List.getElem_mem _)
  have h1 := startB_iff hb
  have h2 := fullB_iff (s := s.drop k) (fun y hy => hs y (List.mem_of_mem_drop hy))
  unfold heldAt heldP
  rw [Bool.and_eq_true, Bool.not_eq_true', h1]
  constructor
  · rintro ⟨a, b⟩
    exact ⟨a, fun h => by rw [h2.2 h] at b; cases b⟩
  · rintro ⟨a, b⟩
    refine ⟨a, ?_⟩
    cases hf : fullB (s.drop k) with
    | false => rfl
    | true => exact absurd (h2.1 hf) b
theorem cutN_isCut {s : List Nat} (hs : ∀ y ∈ s, y < 256) : isCut s (cutN s) := by
  obtain ⟨a, b, c, d⟩ := cutN_spec s
  refine ⟨a, b, fun j h1 h2 h => ?_, fun h => (heldAt_iff hs h).1 (d h)⟩
  have := (heldAt_iff hs (by omega)).2 h
  rw [c j h1 h2] at this; cases this

/-! Acts, read out of a row. -/
theorem actsR_get {h0 H : Heap} {vps : V} : ∀ {l : List ActP} {cs : List V} {i : Nat} {a : ActP}, actsR h0 H vps l cs → l[i]? = some a → ∃ vp, cs[i * 4]? = some (.int .i64 a.1) ∧ cs[i * 4 + 1]? = some (.int .i32 a.2.1) ∧ cs[i * 4 + 2]? = some (.bool a.2.2.1) ∧ cs[i * 4 + 3]? = some vp ∧ OwnK .i64 h0 H 3 vp a.2.2.2
  | [], cs, i, a, h, hi => by simp at hi
  | b :: l, cs, 0, a, h, hi => by
    obtain ⟨vp, cs', rfl, h4, _⟩ := h
    simp only [List.getElem?_cons_zero, Option.some.injEq] at hi
    subst hi
    exact ⟨vp, rfl, rfl, rfl, rfl, h4⟩
  | b :: l, cs, i + 1, a, h, hi => by
    obtain ⟨vp, cs', rfl, _, _, h6⟩ := h
    rw [List.getElem?_cons_succ] at hi
    obtain ⟨vq, k1, k2, k3, k4, k5⟩ := actsR_get h6 hi
    refine ⟨vq, ?_, ?_, ?_, ?_, k5⟩
    · rw [show (i + 1) * 4 = i * 4 + 4 from by omega]; exact k1
    · rw [show (i + 1) * 4 + 1 = i * 4 + 1 + 4 from by omega]; exact k2
    · rw [show (i + 1) * 4 + 2 = i * 4 + 2 + 4 from by omega]; exact k3
    · rw [show (i + 1) * 4 + 3 = i * 4 + 3 + 4 from by omega]; exact k4
/-- A cell of a row of fours. -/
theorem row4_load {hb H : Heap} {t n : Nat} {v x : V} {cs : List V} {k : Nat} (ho : Own hb H t 4 v n cs) (hx : cs[k]? = some x) : ∃ b c, v = .slice b 0 n c ∧ loadS (.ptr b k) H = some (x, H) := by
  rcases ho with ⟨_, _, h0⟩ | ⟨b, c, rfl, _, _, _, _, k6⟩
  · rw [h0] at hx; simp at hx
  · refine ⟨b, c, rfl, ?_⟩
    rw [loadS_ptr, k6, loadB_cells]
    have : nth cs k = cs[k]? := nth_eq _ _
    rw [this, hx, loadC_some]
theorem isPar_ext {hb H K : Heap} {p : Nat} {rp vps : V} {s : PS} (hI : isPar hb H p rp s vps) (hF : Fresh H) (hE : Ext H K) : isPar hb K p rp s vps :=
  ⟨hE.get hF hI.1, ownK_keep hI.2 hE.1 fun q cs hq => by rw [hE.get hF hq, hq]⟩

/-- portholeref19.may: may these few bytes be the beginning of a rune? -/
def mayB (s : List Nat) : Bool := decide (0 < s.length ∧ s.length ≤ 3 ∧ s.length < sz (s.getD 0 0) ∧ (1 < s.length → lo (s.getD 0 0) ≤ s.getD 1 0 ∧ s.getD 1 0 ≤ hi (s.getD 0 0)) ∧ (2 < s.length → 128 ≤ s.getD 2 0 ∧ s.getD 2 0 ≤ 191))
def s_may : List V → Heap → Option (V × Heap)
  | [v], h => match slB h v with
    | some s => some (.bool (mayB s), h)
    | none => none
  | _, _ => none
theorem may_ok (cf : ACall) : Sum cf c39 s_may := by
  intro args h v h' hf hsc hlt hs
  unfold s_may at hs
  split at hs
  · rename_i vb
    split at hs
    · rename_i s hb
      simp only [Option.some.injEq, Prod.mk.injEq] at hs
      obtain ⟨rfl, rfl⟩ := hs
      have hsl := slB_isSl hb
      have hvl := slB_vlen hb
      have hltb := slB_lt hb
      refine ⟨10, ?_⟩
      by_cases h0 : s.length = 0
      · have : mayB s = false := by unfold mayB; simp [h0]
        rw [this]
        have h0' : ((s.length : Int) == 0) = true := beq_iff_eq.2 (by omega)
        simp (config := {maxSteps := 1000000, maxDischargeDepth := 9, implicitDefEqProofs := false}) [c39, lenE hsl, hvl, h0']
        exact Canon.keep hf hsc (Ext.refl _) (by simp only [V.lt])
      have h0' : ((s.length : Int) == 0) = false := beq_eq_false_iff_ne.2 (by omega)
      by_cases h3 : 3 < s.length
      · have : mayB s = false := by unfold mayB; exact decide_eq_false fun h => by omega
        rw [this]
        have h3' : (3 : Int) < (s.length : Int) := by omega
        simp (config := {maxSteps := 1000000, maxDischargeDepth := 9, implicitDefEqProofs := false}) [c39, lenE hsl, hvl, h0', h3, h3']
        exact Canon.keep hf hsc (Ext.refl _) (by simp only [V.lt])
      have h3' : ¬ (3 : Int) < (s.length : Int) := by omega
      have ix : ∀ k, k < s.length → indexAddrSS 1 vb (.int .i64 (k : Int)) h = some (atP vb k, h) := fun k hk => by
        have := indexE (z := 1) hsl h (k := .i64) (i := (k : Int)) (by omega) (by rw [hvl]; omega)
        simpa only [Int.toNat_natCast, Nat.mul_one] using this
      have ld : ∀ k, k < s.length → loadS (atP vb k) h = some (.int .u8 (s.getD k 0 : Nat), h) := fun k hk => rd_load (sl_rd (slB_sl hb).1) (j := k) (by rw [bytesOf, List.getElem?_map, List.getD_eq_getElem?_getD, List.getElem?_eq_getElem hk]; rfl)
      have i0 : indexAddrSS 1 vb (.int .i64 0) h = some (atP vb 0, h) := ix 0 (by omega)
      have l0 := ld 0 (by omega)
      have hc := hltb (s.getD 0 0) (by rw [List.getD_eq_getElem?_getD, List.getElem?_eq_getElem (by omega)]; exact List.getElem_mem _)
      -- the class of the first byte
      have key : ∀ e H, e.n = 72 → e.at 0 = vb → e.at 4 = .int .i64 ((if sz (s.getD 0 0) ≤ 1 then 0 else sz (s.getD 0 0) : Nat) : Int) → e.at 5 = .int .u8 (lo (s.getD 0 0) : Nat) → e.at 6 = .int .u8 (hi (s.getD 0 0) : Nat) → H = h →
          Runs (finS [ARes.tmp 2] (execA cf 10 c39_s7 e H)) fun v2 h2 => ∃ τ, Canon h.next h2 v2 h (.bool (mayB s)) τ := by
        intro e H hn q0 q4 q5 q6 hH
        subst hH
        obtain ⟨n, hnn⟩ : ∃ n, n = (if sz (s.getD 0 0) ≤ 1 then 0 else sz (s.getD 0 0)) := ⟨_, rfl⟩
        rw [← hnn] at q4
        by_cases hlen : n ≤ s.length
        · have hm : mayB s = false := by
            unfold mayB
            refine decide_eq_false fun h => ?_
            split at hnn <;> omega
          rw [hm]
          have hlenI : (n : Int) ≤ (s.length : Int) := by omega
          simp (config := {maxSteps := 1000000, maxDischargeDepth := 9, implicitDefEqProofs := false}) [c39_s7, hn, q0, q4, lenE hsl, hvl, hlen, hlenI]
          exact Canon.keep hf hsc (Ext.refl _) (by simp only [V.lt])
        have hlenI : ¬ (n : Int) ≤ (s.length : Int) := by omega
        have hsz : s.length < sz (s.getD 0 0) := by split at hnn <;> omega
        have L := loop_count (cf := cf) (N := 10) (c := c39_l0) (s.length - 1)
          (fun i e H' => e.n = 72 ∧ e.at 0 = vb ∧ e.at 5 = .int .u8 ((if i = 0 then lo (s.getD 0 0) else 128 : Nat) : Int) ∧ e.at 6 = .int .u8 ((if i = 0 then hi (s.getD 0 0) else 191 : Nat) : Int) ∧ e.at 7 = .int .i64 ((i + 1 : Nat) : Int) ∧ H' = H ∧ (0 < i → lo (s.getD 0 0) ≤ s.getD 1 0 ∧ s.getD 1 0 ≤ hi (s.getD 0 0)) ∧ (1 < i → 128 ≤ s.getD 2 0 ∧ s.getD 2 0 ≤ 191))
          (fun x e' H' => (x = .ret ∧ e'.at 2 = .bool false ∧ mayB s = false ∨ x = .exit 1 ∧ mayB s = true) ∧ e'.n = 72 ∧ H' = H)
          (by
            rintro i e H' hik ⟨hn, q0, q5, q6, q7, rfl, g1, g2⟩
            have hk : i + 1 < s.length := by omega
            have hkI : ((i + 1 : Nat) : Int) < (s.length : Int) := by omega
            have i1 := ix (i + 1) hk
            have l1 := ld (i + 1) hk
            have w1 : wrapF .i64 (((i + 1 : Nat) : Int) + 1) = ((i + 1 + 1 : Nat) : Int) := by rw [wrap_i64 (by omega) (by omega)]; omega
            have hbad : (s.getD (i + 1) 0 < (if i = 0 then lo (s.getD 0 0) else 128) ∨ (if i = 0 then hi (s.getD 0 0) else 191) < s.getD (i + 1) 0) → mayB s = false := fun hb => by
              unfold mayB
              refine decide_eq_false fun h => ?_
              obtain ⟨_, _, _, h4, h5⟩ := h
              by_cases hi0 : i = 0
              · subst hi0
                have := h4 (by omega)
                rw [if_pos rfl, if_pos rfl] at hb
                simp only [Nat.zero_add] at hb
                omega
              · have hi1 : i = 1 := by omega
                subst hi1
                have := h5 (by omega)
                rw [if_neg hi0, if_neg hi0] at hb
                simp only [show 1 + 1 = 2 from rfl] at hb
                omega
            have hgood : ¬ (s.getD (i + 1) 0 < (if i = 0 then lo (s.getD 0 0) else 128) ∨ (if i = 0 then hi (s.getD 0 0) else 191) < s.getD (i + 1) 0) → (0 < i + 1 → lo (s.getD 0 0) ≤ s.getD 1 0 ∧ s.getD 1 0 ≤ hi (s.getD 0 0)) ∧ (1 < i + 1 → 128 ≤ s.getD 2 0 ∧ s.getD 2 0 ≤ 191) := fun hb => by
              by_cases hi0 : i = 0
              · subst hi0
                rw [if_pos rfl, if_pos rfl] at hb
                simp only [Nat.zero_add] at hb
                exact ⟨fun _ => by omega, fun h => by omega⟩
              · have hi1 : i = 1 := by omega
                subst hi1
                rw [if_neg hi0, if_neg hi0] at hb
                simp only [show 1 + 1 = 2 from rfl] at hb
                exact ⟨fun _ => g1 (by omega), fun _ => by omega⟩
            generalize (if i = 0 then lo (s.getD 0 0) else 128) = a at *
            generalize (if i = 0 then hi (s.getD 0 0) else 191) = b at *
            generalize hy : s.getD (i + 1) 0 = y at *
            have hi0 : ¬ i + 1 = 0 := by omega
            have e1 : ((if i + 1 = 0 then lo (s.getD 0 0) else 128 : Nat) : Int) = 128 := by rw [if_neg hi0]; rfl
            have e2 : ((if i + 1 = 0 then hi (s.getD 0 0) else 191 : Nat) : Int) = 191 := by rw [if_neg hi0]; rfl
            rw [e1, e2]
            generalize i + 1 = k at *
            by_cases c1 : y < a
            · have c1I : (y : Int) < (a : Int) := by omega
              have hm := hbad (.inl c1)
              simp (config := {maxSteps := 1000000, maxDischargeDepth := 9, implicitDefEqProofs := false}) [c39_l0, hn, q0, q5, q6, q7, lenE hsl, hvl, hk, hkI, i1, l1, c1, c1I]
              exact hm
            have c1I : ¬ (y : Int) < (a : Int) := by omega
            by_cases c2 : b < y
            · have c2I : (b : Int) < (y : Int) := by omega
              have hm := hbad (.inr c2)
              simp (config := {maxSteps := 1000000, maxDischargeDepth := 9, implicitDefEqProofs := false}) [c39_l0, hn, q0, q5, q6, q7, lenE hsl, hvl, hk, hkI, i1, l1, c1, c1I, c2, c2I]
              exact hm
            have c2I : ¬ (b : Int) < (y : Int) := by omega
            obtain ⟨m1, m2⟩ := hgood (fun h => h.elim c1 c2)
            simp (config := {maxSteps := 1000000, maxDischargeDepth := 9, implicitDefEqProofs := false}) [c39_l0, hn, q0, q5, q6, q7, lenE hsl, hvl, hk, hkI, i1, l1, c1, c1I, c2, c2I, w1]
            exact ⟨by simpa using m1, by simpa using m2⟩)
          (by
            rintro e H' ⟨hn, q0, q5, q6, q7, rfl, g1, g2⟩
            have hm : mayB s = true := by
              unfold mayB
              exact decide_eq_true ⟨by omega, by omega, hsz, fun h => g1 (by omega), fun h => g2 (by omega)⟩
            have hk : ¬ ((s.length - 1 + 1 : Nat) : Int) < (s.length : Int) := by omega
            generalize s.length - 1 + 1 = k at *
            simp (config := {maxSteps := 1000000, maxDischargeDepth := 9, implicitDefEqProofs := false}) [c39_l0, hn, q0, q7, lenE hsl, hvl, hk]
            exact hm)
        simp (config := {maxSteps := 1000000, maxDischargeDepth := 9, implicitDefEqProofs := false}) [c39_s7, hn, q0, q4, lenE hsl, hvl, hlen, hlenI]
        refine loop_then (K := fun r => finS _ (seqS _ _ _ (blockS _ r))) (L 0 _ _ (Nat.zero_le _) ?_ (by omega)) ?_
        · simp (config := {maxSteps := 1000000, maxDischargeDepth := 9, implicitDefEqProofs := false}) [hn, q0, q5, q6]
        · rintro x e2 H2 ⟨hx, hn2, rfl⟩
          rcases hx with ⟨rfl, p2, hm⟩ | ⟨rfl, hm⟩
          · rw [hm]
            simp (config := {maxSteps := 1000000, maxDischargeDepth := 9, implicitDefEqProofs := false}) [hn2, p2]
            exact Canon.keep hf hsc (Ext.refl _) (by simp only [V.lt])
          · rw [hm]
            simp (config := {maxSteps := 1000000, maxDischargeDepth := 9, implicitDefEqProofs := false}) [hn2]
            exact Canon.keep hf hsc (Ext.refl _) (by simp only [V.lt])
      generalize hC : s.getD 0 0 = c at *
      have cases : c < 194 ∨ 194 ≤ c ∧ c < 224 ∨ c = 224 ∨ 225 ≤ c ∧ c < 237 ∨ c = 237 ∨ 238 ≤ c ∧ c < 240 ∨ c = 240 ∨ 241 ≤ c ∧ c < 244 ∨ c = 244 ∨ 245 ≤ c := by omega
      rcases cases with hcl | hcl | hcl | hcl | hcl | hcl | hcl | hcl | hcl | hcl
      · have a1I : ¬ (194 : Int) ≤ (c : Int) := by omega
        have a1N : ¬ 194 ≤ c := by omega
        have a2I : (c : Int) ≤ 223 := by omega
        have a2N : c ≤ 223 := by omega
        have a3I : ¬ (224 : Int) ≤ (c : Int) := by omega
        have a3N : ¬ 224 ≤ c := by omega
        have a4I : (c : Int) ≤ 239 := by omega
        have a4N : c ≤ 239 := by omega
        have a5I : ¬ (240 : Int) ≤ (c : Int) := by omega
        have a5N : ¬ 240 ≤ c := by omega
        have a6I : (c : Int) ≤ 244 := by omega
        have a6N : c ≤ 244 := by omega
        have b1 : ((c : Int) == 224) = false := beq_eq_false_iff_ne.2 (by omega)
        have b2 : ((c : Int) == 237) = false := beq_eq_false_iff_ne.2 (by omega)
        have b3 : ((c : Int) == 240) = false := beq_eq_false_iff_ne.2 (by omega)
        have b4 : ((c : Int) == 244) = false := beq_eq_false_iff_ne.2 (by omega)
        have hz : (if sz c ≤ 1 then 0 else sz c) = 0 := by unfold sz; (repeat' split) <;> omega
        have hlo : lo c = 128 := by unfold lo; (repeat' split) <;> omega
        have hhi : hi c = 191 := by unfold hi; (repeat' split) <;> omega
        rw [hz, hlo, hhi] at key
        simp (config := {maxSteps := 1000000, maxDischargeDepth := 9, implicitDefEqProofs := false}) [c39, lenE hsl, hvl, h0', h3, h3', i0, l0, a1I, a1N, a2I, a2N, a3I, a3N, a4I, a4N, a5I, a5N, a6I, a6N, b1, b2, b3, b4]
        refine key _ _ ?_ ?_ ?_ ?_ ?_ rfl <;> simp (config := {maxSteps := 1000000, maxDischargeDepth := 9, implicitDefEqProofs := false})
      · have a1I : (194 : Int) ≤ (c : Int) := by omega
        have a1N : 194 ≤ c := by omega
        have a2I : (c : Int) ≤ 223 := by omega
        have a2N : c ≤ 223 := by omega
        have a3I : ¬ (224 : Int) ≤ (c : Int) := by omega
        have a3N : ¬ 224 ≤ c := by omega
        have a4I : (c : Int) ≤ 239 := by omega
        have a4N : c ≤ 239 := by omega
        have a5I : ¬ (240 : Int) ≤ (c : Int) := by omega
        have a5N : ¬ 240 ≤ c := by omega
        have a6I : (c : Int) ≤ 244 := by omega
        have a6N : c ≤ 244 := by omega
        have b1 : ((c : Int) == 224) = false := beq_eq_false_iff_ne.2 (by omega)
        have b2 : ((c : Int) == 237) = false := beq_eq_false_iff_ne.2 (by omega)
        have b3 : ((c : Int) == 240) = false := beq_eq_false_iff_ne.2 (by omega)
        have b4 : ((c : Int) == 244) = false := beq_eq_false_iff_ne.2 (by omega)
        have hz : (if sz c ≤ 1 then 0 else sz c) = 2 := by unfold sz; (repeat' split) <;> omega
        have hlo : lo c = 128 := by unfold lo; (repeat' split) <;> omega
        have hhi : hi c = 191 := by unfold hi; (repeat' split) <;> omega
        rw [hz, hlo, hhi] at key
        simp (config := {maxSteps := 1000000, maxDischargeDepth := 9, implicitDefEqProofs := false}) [c39, lenE hsl, hvl, h0', h3, h3', i0, l0, a1I, a1N, a2I, a2N, a3I, a3N, a4I, a4N, a5I, a5N, a6I, a6N, b1, b2, b3, b4]
        refine key _ _ ?_ ?_ ?_ ?_ ?_ rfl <;> simp (config := {maxSteps := 1000000, maxDischargeDepth := 9, implicitDefEqProofs := false})
      · have a1I : (194 : Int) ≤ (c : Int) := by omega
        have a1N : 194 ≤ c := by omega
        have a2I : ¬ (c : Int) ≤ 223 := by omega
        have a2N : ¬ c ≤ 223 := by omega
        have a3I : (224 : Int) ≤ (c : Int) := by omega
        have a3N : 224 ≤ c := by omega
        have a4I : (c : Int) ≤ 239 := by omega
        have a4N : c ≤ 239 := by omega
        have a5I : ¬ (240 : Int) ≤ (c : Int) := by omega
        have a5N : ¬ 240 ≤ c := by omega
        have a6I : (c : Int) ≤ 244 := by omega
        have a6N : c ≤ 244 := by omega
        have b1 : ((c : Int) == 224) = true := beq_iff_eq.2 (by omega)
        have b2 : ((c : Int) == 237) = false := beq_eq_false_iff_ne.2 (by omega)
        have b3 : ((c : Int) == 240) = false := beq_eq_false_iff_ne.2 (by omega)
        have b4 : ((c : Int) == 244) = false := beq_eq_false_iff_ne.2 (by omega)
        have hz : (if sz c ≤ 1 then 0 else sz c) = 3 := by unfold sz; (repeat' split) <;> omega
        have hlo : lo c = 160 := by unfold lo; (repeat' split) <;> omega
        have hhi : hi c = 191 := by unfold hi; (repeat' split) <;> omega
        rw [hz, hlo, hhi] at key
        simp (config := {maxSteps := 1000000, maxDischargeDepth := 9, implicitDefEqProofs := false}) [c39, lenE hsl, hvl, h0', h3, h3', i0, l0, a1I, a1N, a2I, a2N, a3I, a3N, a4I, a4N, a5I, a5N, a6I, a6N, b1, b2, b3, b4]
        refine key _ _ ?_ ?_ ?_ ?_ ?_ rfl <;> simp (config := {maxSteps := 1000000, maxDischargeDepth := 9, implicitDefEqProofs := false})
      · have a1I : (194 : Int) ≤ (c : Int) := by omega
        have a1N : 194 ≤ c := by omega
        have a2I : ¬ (c : Int) ≤ 223 := by omega
        have a2N : ¬ c ≤ 223 := by omega
        have a3I : (224 : Int) ≤ (c : Int) := by omega
        have a3N : 224 ≤ c := by omega
        have a4I : (c : Int) ≤ 239 := by omega
        have a4N : c ≤ 239 := by omega
        have a5I : ¬ (240 : Int) ≤ (c : Int) := by omega
        have a5N : ¬ 240 ≤ c := by omega
        have a6I : (c : Int) ≤ 244 := by omega
        have a6N : c ≤ 244 := by omega
        have b1 : ((c : Int) == 224) = false := beq_eq_false_iff_ne.2 (by omega)
        have b2 : ((c : Int) == 237) = false := beq_eq_false_iff_ne.2 (by omega)
        have b3 : ((c : Int) == 240) = false := beq_eq_false_iff_ne.2 (by omega)
        have b4 : ((c : Int) == 244) = false := beq_eq_false_iff_ne.2 (by omega)
        have hz : (if sz c ≤ 1 then 0 else sz c) = 3 := by unfold sz; (repeat' split) <;> omega
        have hlo : lo c = 128 := by unfold lo; (repeat' split) <;> omega
        have hhi : hi c = 191 := by unfold hi; (repeat' split) <;> omega
        rw [hz, hlo, hhi] at key
        simp (config := {maxSteps := 1000000, maxDischargeDepth := 9, implicitDefEqProofs := false}) [c39, lenE hsl, hvl, h0', h3, h3', i0, l0, a1I, a1N, a2I, a2N, a3I, a3N, a4I, a4N, a5I, a5N, a6I, a6N, b1, b2, b3, b4]
        refine key _ _ ?_ ?_ ?_ ?_ ?_ rfl <;> simp (config := {maxSteps := 1000000, maxDischargeDepth := 9, implicitDefEqProofs := false})
      · have a1I : (194 : Int) ≤ (c : Int) := by omega
        have a1N : 194 ≤ c := by omega
        have a2I : ¬ (c : Int) ≤ 223 := by omega
        have a2N : ¬ c ≤ 223 := by omega
        have a3I : (224 : Int) ≤ (c : Int) := by omega
        have a3N : 224 ≤ c := by omega
        have a4I : (c : Int) ≤ 239 := by omega
        have a4N : c ≤ 239 := by omega
        have a5I : ¬ (240 : Int) ≤ (c : Int) := by omega
        have a5N : ¬ 240 ≤ c := by omega
        have a6I : (c : Int) ≤ 244 := by omega
        have a6N : c ≤ 244 := by omega
        have b1 : ((c : Int) == 224) = false := beq_eq_false_iff_ne.2 (by omega)
        have b2 : ((c : Int) == 237) = true := beq_iff_eq.2 (by omega)
        have b3 : ((c : Int) == 240) = false := beq_eq_false_iff_ne.2 (by omega)
        have b4 : ((c : Int) == 244) = false := beq_eq_false_iff_ne.2 (by omega)
        have hz : (if sz c ≤ 1 then 0 else sz c) = 3 := by unfold sz; (repeat' split) <;> omega
        have hlo : lo c = 128 := by unfold lo; (repeat' split) <;> omega
        have hhi : hi c = 159 := by unfold hi; (repeat' split) <;> omega
        rw [hz, hlo, hhi] at key
        simp (config := {maxSteps := 1000000, maxDischargeDepth := 9, implicitDefEqProofs := false}) [c39, lenE hsl, hvl, h0', h3, h3', i0, l0, a1I, a1N, a2I, a2N, a3I, a3N, a4I, a4N, a5I, a5N, a6I, a6N, b1, b2, b3, b4]
        refine key _ _ ?_ ?_ ?_ ?_ ?_ rfl <;> simp (config := {maxSteps := 1000000, maxDischargeDepth := 9, implicitDefEqProofs := false})
      · have a1I : (194 : Int) ≤ (c : Int) := by omega
        have a1N : 194 ≤ c := by omega
        have a2I : ¬ (c : Int) ≤ 223 := by omega
        have a2N : ¬ c ≤ 223 := by omega
        have a3I : (224 : Int) ≤ (c : Int) := by omega
        have a3N : 224 ≤ c := by omega
        have a4I : (c : Int) ≤ 239 := by omega
        have a4N : c ≤ 239 := by omega
        have a5I : ¬ (240 : Int) ≤ (c : Int) := by omega
        have a5N : ¬ 240 ≤ c := by omega
        have a6I : (c : Int) ≤ 244 := by omega
        have a6N : c ≤ 244 := by omega
        have b1 : ((c : Int) == 224) = false := beq_eq_false_iff_ne.2 (by omega)
        have b2 : ((c : Int) == 237) = false := beq_eq_false_iff_ne.2 (by omega)
        have b3 : ((c : Int) == 240) = false := beq_eq_false_iff_ne.2 (by omega)
        have b4 : ((c : Int) == 244) = false := beq_eq_false_iff_ne.2 (by omega)
        have hz : (if sz c ≤ 1 then 0 else sz c) = 3 := by unfold sz; (repeat' split) <;> omega
        have hlo : lo c = 128 := by unfold lo; (repeat' split) <;> omega
        have hhi : hi c = 191 := by unfold hi; (repeat' split) <;> omega
        rw [hz, hlo, hhi] at key
        simp (config := {maxSteps := 1000000, maxDischargeDepth := 9, implicitDefEqProofs := false}) [c39, lenE hsl, hvl, h0', h3, h3', i0, l0, a1I, a1N, a2I, a2N, a3I, a3N, a4I, a4N, a5I, a5N, a6I, a6N, b1, b2, b3, b4]
        refine key _ _ ?_ ?_ ?_ ?_ ?_ rfl <;> simp (config := {maxSteps := 1000000, maxDischargeDepth := 9, implicitDefEqProofs := false})
      · have a1I : (194 : Int) ≤ (c : Int) := by omega
        have a1N : 194 ≤ c := by omega
        have a2I : ¬ (c : Int) ≤ 223 := by omega
        have a2N : ¬ c ≤ 223 := by omega
        have a3I : (224 : Int) ≤ (c : Int) := by omega
        have a3N : 224 ≤ c := by omega
        have a4I : ¬ (c : Int) ≤ 239 := by omega
        have a4N : ¬ c ≤ 239 := by omega
        have a5I : (240 : Int) ≤ (c : Int) := by omega
        have a5N : 240 ≤ c := by omega
        have a6I : (c : Int) ≤ 244 := by omega
        have a6N : c ≤ 244 := by omega
        have b1 : ((c : Int) == 224) = false := beq_eq_false_iff_ne.2 (by omega)
        have b2 : ((c : Int) == 237) = false := beq_eq_false_iff_ne.2 (by omega)
        have b3 : ((c : Int) == 240) = true := beq_iff_eq.2 (by omega)
        have b4 : ((c : Int) == 244) = false := beq_eq_false_iff_ne.2 (by omega)
        have hz : (if sz c ≤ 1 then 0 else sz c) = 4 := by unfold sz; (repeat' split) <;> omega
        have hlo : lo c = 144 := by unfold lo; (repeat' split) <;> omega
        have hhi : hi c = 191 := by unfold hi; (repeat' split) <;> omega
        rw [hz, hlo, hhi] at key
        simp (config := {maxSteps := 1000000, maxDischargeDepth := 9, implicitDefEqProofs := false}) [c39, lenE hsl, hvl, h0', h3, h3', i0, l0, a1I, a1N, a2I, a2N, a3I, a3N, a4I, a4N, a5I, a5N, a6I, a6N, b1, b2, b3, b4]
        refine key _ _ ?_ ?_ ?_ ?_ ?_ rfl <;> simp (config := {maxSteps := 1000000, maxDischargeDepth := 9, implicitDefEqProofs := false})
      · have a1I : (194 : Int) ≤ (c : Int) := by omega
        have a1N : 194 ≤ c := by omega
        have a2I : ¬ (c : Int) ≤ 223 := by omega
        have a2N : ¬ c ≤ 223 := by omega
        have a3I : (224 : Int) ≤ (c : Int) := by omega
        have a3N : 224 ≤ c := by omega
        have a4I : ¬ (c : Int) ≤ 239 := by omega
        have a4N : ¬ c ≤ 239 := by omega
        have a5I : (240 : Int) ≤ (c : Int) := by omega
        have a5N : 240 ≤ c := by omega
        have a6I : (c : Int) ≤ 244 := by omega
        have a6N : c ≤ 244 := by omega
        have b1 : ((c : Int) == 224) = false := beq_eq_false_iff_ne.2 (by omega)
        have b2 : ((c : Int) == 237) = false := beq_eq_false_iff_ne.2 (by omega)
        have b3 : ((c : Int) == 240) = false := beq_eq_false_iff_ne.2 (by omega)
        have b4 : ((c : Int) == 244) = false := beq_eq_false_iff_ne.2 (by omega)
        have hz : (if sz c ≤ 1 then 0 else sz c) = 4 := by unfold sz; (repeat' split) <;> omega
        have hlo : lo c = 128 := by unfold lo; (repeat' split) <;> omega
        have hhi : hi c = 191 := by unfold hi; (repeat' split) <;> omega
        rw [hz, hlo, hhi] at key
        simp (config := {maxSteps := 1000000, maxDischargeDepth := 9, implicitDefEqProofs := false}) [c39, lenE hsl, hvl, h0', h3, h3', i0, l0, a1I, a1N, a2I, a2N, a3I, a3N, a4I, a4N, a5I, a5N, a6I, a6N, b1, b2, b3, b4]
        refine key _ _ ?_ ?_ ?_ ?_ ?_ rfl <;> simp (config := {maxSteps := 1000000, maxDischargeDepth := 9, implicitDefEqProofs := false})
      · have a1I : (194 : Int) ≤ (c : Int) := by omega
        have a1N : 194 ≤ c := by omega
        have a2I : ¬ (c : Int) ≤ 223 := by omega
        have a2N : ¬ c ≤ 223 := by omega
        have a3I : (224 : Int) ≤ (c : Int) := by omega
        have a3N : 224 ≤ c := by omega
        have a4I : ¬ (c : Int) ≤ 239 := by omega
        have a4N : ¬ c ≤ 239 := by omega
        have a5I : (240 : Int) ≤ (c : Int) := by omega
        have a5N : 240 ≤ c := by omega
        have a6I : (c : Int) ≤ 244 := by omega
        have a6N : c ≤ 244 := by omega
        have b1 : ((c : Int) == 224) = false := beq_eq_false_iff_ne.2 (by omega)
        have b2 : ((c : Int) == 237) = false := beq_eq_false_iff_ne.2 (by omega)
        have b3 : ((c : Int) == 240) = false := beq_eq_false_iff_ne.2 (by omega)
        have b4 : ((c : Int) == 244) = true := beq_iff_eq.2 (by omega)
        have hz : (if sz c ≤ 1 then 0 else sz c) = 4 := by unfold sz; (repeat' split) <;> omega
        have hlo : lo c = 128 := by unfold lo; (repeat' split) <;> omega
        have hhi : hi c = 143 := by unfold hi; (repeat' split) <;> omega
        rw [hz, hlo, hhi] at key
        simp (config := {maxSteps := 1000000, maxDischargeDepth := 9, implicitDefEqProofs := false}) [c39, lenE hsl, hvl, h0', h3, h3', i0, l0, a1I, a1N, a2I, a2N, a3I, a3N, a4I, a4N, a5I, a5N, a6I, a6N, b1, b2, b3, b4]
        refine key _ _ ?_ ?_ ?_ ?_ ?_ rfl <;> simp (config := {maxSteps := 1000000, maxDischargeDepth := 9, implicitDefEqProofs := false})
      · have a1I : (194 : Int) ≤ (c : Int) := by omega
        have a1N : 194 ≤ c := by omega
        have a2I : ¬ (c : Int) ≤ 223 := by omega
        have a2N : ¬ c ≤ 223 := by omega
        have a3I : (224 : Int) ≤ (c : Int) := by omega
        have a3N : 224 ≤ c := by omega
        have a4I : ¬ (c : Int) ≤ 239 := by omega
        have a4N : ¬ c ≤ 239 := by omega
        have a5I : (240 : Int) ≤ (c : Int) := by omega
        have a5N : 240 ≤ c := by omega
        have a6I : ¬ (c : Int) ≤ 244 := by omega
        have a6N : ¬ c ≤ 244 := by omega
        have b1 : ((c : Int) == 224) = false := beq_eq_false_iff_ne.2 (by omega)
        have b2 : ((c : Int) == 237) = false := beq_eq_false_iff_ne.2 (by omega)
        have b3 : ((c : Int) == 240) = false := beq_eq_false_iff_ne.2 (by omega)
        have b4 : ((c : Int) == 244) = false := beq_eq_false_iff_ne.2 (by omega)
        have hz : (if sz c ≤ 1 then 0 else sz c) = 0 := by unfold sz; (repeat' split) <;> omega
        have hlo : lo c = 128 := by unfold lo; (repeat' split) <;> omega
        have hhi : hi c = 191 := by unfold hi; (repeat' split) <;> omega
        rw [hz, hlo, hhi] at key
        simp (config := {maxSteps := 1000000, maxDischargeDepth := 9, implicitDefEqProofs := false}) [c39, lenE hsl, hvl, h0', h3, h3', i0, l0, a1I, a1N, a2I, a2N, a3I, a3N, a4I, a4N, a5I, a5N, a6I, a6N, b1, b2, b3, b4]
        refine key _ _ ?_ ?_ ?_ ?_ ?_ rfl <;> simp (config := {maxSteps := 1000000, maxDischargeDepth := 9, implicitDefEqProofs := false})
    · cases hs
  · cases hs
theorem mayB_iff {s : List Nat} (h3 : s.length ≤ 3) (h0 : 0 < s.length) (hb : s.getD 0 0 < 256) : mayB s = true ↔ startP (s.getD 0 0) ∧ ¬ fullP s := by
  unfold mayB
  rw [decide_eq_true_iff]
  constructor
  · rintro ⟨_, _, h1, h2, h4⟩
    have hst : startP (s.getD 0 0) := by
      unfold startP
      unfold sz at h1
      split at h1
      · left; assumption
      · split at h1
        · omega
        · right; omega
    refine ⟨hst, fun h => ?_⟩
    obtain ⟨_, h | ⟨k1, k2⟩ | ⟨k1, k2⟩⟩ := h
    · omega
    · have := h2 k1; omega
    · have := h4 k1; omega
  · rintro ⟨_, h1⟩
    unfold fullP at h1
    refine ⟨h0, h3, ?_, fun k => ?_, fun k => ?_⟩
    · rcases Nat.lt_or_ge s.length (sz (s.getD 0 0)) with h | h
      · exact h
      · exact absurd ⟨h0, .inl h⟩ h1
    · have : ¬ (s.getD 1 0 < lo (s.getD 0 0) ∨ hi (s.getD 0 0) < s.getD 1 0) := fun h => h1 ⟨h0, .inr (.inl ⟨k, h⟩)⟩
      omega
    · have : ¬ (s.getD 2 0 < 128 ∨ 191 < s.getD 2 0) := fun h => h1 ⟨h0, .inr (.inr ⟨k, h⟩)⟩
      omega

/-! portholeref19.Runes: the same. -/
theorem RunesR_loop (cf : ACall) (h : Heap) (hf : Fresh h) (s : List Nat) (hl : s.length ≤ 17592186044416) :
    ∀ e, e.n = 16 → e.at 3 = .nilslice → e.at 7 = .ptr h.next 0 →
    YthfbefjmenddkaaDoorA.Ends (execA cf ((runesL s).length + 1) (.loop c40_l0) e (h.new (.iter s 0))) fun x e' H => x = .exit 0 ∧ e'.n = 16 ∧ OwnK .i32 h H 21 (e'.at 3) (runesL s) ∧ Ext h H ∧ Fresh H ∧ (0 < s.length → e'.at 3 ≠ .nilslice) ∧ (s.length = 0 → e'.at 3 = .nilslice) := by
  intro e hn q3 q7
  have hle := runesL_le s
  refine loop_count (cf := cf) (N := (runesL s).length + 1) (c := c40_l0) (runesL s).length
    (fun i e H => e.n = 16 ∧ e.at 7 = .ptr h.next 0 ∧ ∃ pos out, H.get h.next = some (.iter s pos) ∧ out.length = i ∧ out ++ runesL (s.drop pos) = runesL s ∧ OwnK .i32 h H 21 (e.at 3) out ∧ Ext h H ∧ Fresh H ∧ (0 < i → e.at 3 ≠ .nilslice) ∧ (i = 0 → e.at 3 = .nilslice))
    (fun x e' H => x = .exit 0 ∧ e'.n = 16 ∧ OwnK .i32 h H 21 (e'.at 3) (runesL s) ∧ Ext h H ∧ Fresh H ∧ (0 < s.length → e'.at 3 ≠ .nilslice) ∧ (s.length = 0 → e'.at 3 = .nilslice)) ?_ ?_ 0 e _ (Nat.zero_le _) ?_ (Nat.lt_succ_self _)
  · rintro i e H hi ⟨hn, q7, pos, out, hg, ho, hcat, hown, hE, hF, hne, hz⟩
    have hpos : pos < s.length := by
      rcases Nat.lt_or_ge pos s.length with h1 | h1
      · exact h1
      · rw [List.drop_eq_nil_of_le h1, runesL_nil, List.append_nil] at hcat
        rw [hcat] at ho; omega
    have hr := runesL_drop hpos
    have hw := utfDec_pos (s.drop pos)
    have hnx := nextS_more hg hpos
    generalize hR : (utfDec (s.drop pos)).1 = R at *
    generalize hW : (utfDec (s.drop pos)).2 = W at *
    obtain ⟨A1, hA1⟩ : ∃ A, A = H.set h.next (some (.iter s (pos + W))) := ⟨_, rfl⟩
    have hp := hF.lt hg
    have f1 : Fresh A1 := by rw [hA1]; exact hF.set hp _
    have e1 : Ext h A1 := by rw [hA1]; exact hE.trans_set (Nat.le_refl _) _
    obtain ⟨A2, hA2⟩ : ∃ A, A = A1.new (.cells [.int .i32 (R : Int)] 21 1 true) := ⟨_, rfl⟩
    have n1 : A1.next = H.next := by rw [hA1]; rfl
    have f2 : Fresh A2 := by rw [hA2]; exact f1.new _
    have e2 : Ext h A2 := by rw [hA2]; exact e1.trans_new _
    have g1 : A1.get h.next = some (.iter s (pos + W)) := by rw [hA1, Heap.get_set, if_pos rfl]
    have g2 : A2.get h.next = some (.iter s (pos + W)) := by rw [hA2]; exact (Ext.new A1 _).get f1 g1
    have hown1 : OwnK .i32 h A1 21 (e.at 3) out := ownK_keep hown (by omega) fun q cs hq => by
      rw [hA1, Heap.get_set, if_neg]
      rintro rfl
      rw [hg] at hq; cases hq
    have hown2 : OwnK .i32 h A2 21 (e.at 3) out := ownK_keep hown1 (by rw [hA2]; exact Nat.le_succ _) fun q cs hq => by rw [hA2, (Ext.new A1 _).get f1 hq, hq]
    have hol : out.length + 1 ≤ (runesL s).length := by omega
    have hadd : added A2 1 (.slice A1.next 0 1 (some 1)) = some ([V.int .i32 (R : Int)], 1) := by
      have : sl A2 1 (.slice A1.next 0 1 (some 1)) = some [V.int .i32 (R : Int)] := by rw [hA2]; exact sl_selfE rfl rfl (.inr rfl)
      exact rd_added (sl_rd this)
    obtain ⟨v2, A3, k1, k2, k3, k4, k5, k6, k7⟩ := OwnK.app (l := [(R : Int)]) (bytes := 4) e2 f2 hown2 hadd (by
      have : most = 140737488355328 := rfl
      rw [this, List.length_singleton]; omega) (by
      have : most = 140737488355328 := rfl
      rw [this, List.length_singleton]; omega)
    generalize q3 : e.at 3 = v at *
    simp (config := {maxSteps := 1000000, maxDischargeDepth := 9, implicitDefEqProofs := false}) [c40_l0, hn, q7, hnx, q3, ← hA1, ← hA2, k1]
    have hne2 := ownK_some k2 (by rw [List.length_append, List.length_singleton]; omega)
    have g3 : A3.get h.next = some (.iter s (pos + W)) := by
      rw [k7 h.next (f2.lt g2) fun o c hv => ?_]
      · exact g2
      · rcases hown2 with ⟨h0, _⟩ | ⟨b, c', k1', _, _, _, _, k6'⟩
        · rw [h0] at hv; cases hv
        · rw [k1'] at hv
          injection hv with e1
          subst e1
          rw [g2] at k6'; cases k6'
    refine ⟨pos + W, g3, out ++ [(R : Int)], by rw [List.length_append, List.length_singleton, ho], ?_, k2, k3, k4, hne2⟩
    rw [List.append_assoc, ← hcat, hr]; rfl
  · rintro e H ⟨hn, q7, pos, out, hg, ho, hcat, hown, hE, hF, hne, hz⟩
    have hpos : ¬ pos < s.length := by
      intro h1
      have hr := runesL_drop h1
      have := congrArg List.length hcat
      rw [List.length_append, hr, List.length_cons] at this; omega
    rw [List.drop_eq_nil_of_le (by omega), runesL_nil, List.append_nil] at hcat
    subst hcat
    have hnx := nextS_end hg hpos
    generalize q3 : e.at 3 = v at *
    simp (config := {maxSteps := 1000000, maxDischargeDepth := 9, implicitDefEqProofs := false}) [c40_l0, hn, q7, hnx, q3]
    refine ⟨hown, hE, hF, fun h0 => hne ?_, fun h0 => hz ?_⟩
    · rw [runesL_cons h0]; simp
    · subst h0; rfl
  · refine ⟨hn, q7, 0, [], by rw [Heap.get_new]; exact if_pos rfl, rfl, by rw [List.drop_zero]; rfl, ?_, Ext.new h _, hf.new _, fun h0 => absurd h0 (by omega), fun _ => q3⟩
    rw [q3]; exact .inl ⟨rfl, rfl, rfl⟩
theorem RunesR_ok (cf : ACall) : Sum cf c40 s_Runes := by
  intro args h v h' hf hsc hlt hs
  unfold s_Runes at hs
  split at hs
  · rename_i s
    split at hs
    · rename_i hl
      refine ⟨(runesL s).length + 1, ?_⟩
      simp (config := {maxSteps := 1000000, maxDischargeDepth := 9, implicitDefEqProofs := false}) [c40]
      refine loop_then (K := fun r => finS _ (seqS _ _ _ (blockS _ r))) (RunesR_loop cf h hf s hl _ ?_ ?_ ?_) ?_
      iterate 3 simp (config := {maxSteps := 1000000, maxDischargeDepth := 9, implicitDefEqProofs := false})
      rintro x e' H ⟨rfl, hn, hown, hE, hF, h1, h2⟩
      generalize q3 : e'.at 3 = w at *
      split at hs
      · rename_i h0
        simp only [Option.some.injEq, Prod.mk.injEq] at hs
        obtain ⟨rfl, rfl⟩ := hs
        have := h2 h0
        subst this
        simp (config := {maxSteps := 1000000, maxDischargeDepth := 9, implicitDefEqProofs := false}) [hn, q3]
        exact Canon.keep hf hsc hE (by simp only [V.lt])
      · rename_i h0
        simp only [Option.some.injEq, Prod.mk.injEq] at hs
        obtain ⟨rfl, rfl⟩ := hs
        simp (config := {maxSteps := 1000000, maxDischargeDepth := 9, implicitDefEqProofs := false}) [hn, q3]
        exact hown.canon hf hsc hE (h1 (by omega))
    · cases hs
  · cases hs

/-! portholeref19's Feed, within a parser. -/
theorem FeedR_loop (cf : ACall) (hmay : ∀ a h, cf 39 a h = s_may a h) (H : Heap) (s : List Nat) (hl : s.length ≤ 17592186044416) (v vp : V) (hv : slB H v = some s) :
    ∀ e, e.n = 49 → e.at 0 = vp → e.at 5 = v → e.at 6 = .int .i64 (s.length : Int) → e.at 7 = .int .i64 ((min 3 s.length : Nat) : Int) →
    YthfbefjmenddkaaDoorA.Ends (execA cf 6 (.loop c27_l0) e H) fun x e' H' => x = .exit 0 ∧ e'.n = 49 ∧ e'.at 0 = vp ∧ e'.at 5 = v ∧ e'.at 6 = .int .i64 (cutN s : Int) ∧ H' = H := by
  intro e hn q0 q5 q6 q7
  have hsl := slB_isSl hv
  have hvl := slB_vlen hv
  have hlt := slB_lt hv
  obtain ⟨M, hM⟩ : ∃ M, M = min 3 s.length := ⟨_, rfl⟩
  rw [← hM] at q7
  refine loop_count (cf := cf) (N := 6) (c := c27_l0) M
    (fun i e H' => e.n = 49 ∧ e.at 0 = vp ∧ e.at 5 = v ∧ e.at 6 = .int .i64 (s.length : Int) ∧ e.at 7 = .int .i64 ((M - i : Nat) : Int) ∧ H' = H ∧ ∀ j, s.length - M ≤ j → j < s.length - M + i → ¬ heldP s j)
    (fun x e' H' => x = .exit 0 ∧ e'.n = 49 ∧ e'.at 0 = vp ∧ e'.at 5 = v ∧ e'.at 6 = .int .i64 (cutN s : Int) ∧ H' = H) ?_ ?_ 0 e _ (Nat.zero_le _) ⟨hn, q0, q5, q6, q7, rfl, fun j h1 h2 => by omega⟩ (by omega)
  · rintro i e H' hi ⟨hn, q0, q5, q6, q7, rfl, hj⟩
    obtain ⟨k, hk⟩ : ∃ k, k = M - i := ⟨_, rfl⟩
    obtain ⟨o, ho⟩ : ∃ o, o = s.length - k := ⟨_, rfl⟩
    rw [← hk] at q7
    have hk0 : (0 : Int) < (k : Int) := by omega
    have hk0n : 0 < k := by omega
    have w1 : wrapF .i64 ((s.length : Int) - (k : Int)) = (o : Int) := by rw [wrap_i64 (by omega) (by omega)]; omega
    have w2 : wrapF .i64 ((k : Int) - 1) = ((M - (i + 1) : Nat) : Int) := by rw [wrap_i64 (by omega) (by omega)]; omega
    have cw : sliceV H' 1 v (some (.int .i64 (o : Int))) none none = some (cutV 1 v o s.length) := by
      have := slice_lo (k := .i64) (i := (o : Int)) (v := v) (h := H') (by rw [hv]; rfl) (by omega) (by rw [hvl]; omega)
      rw [this, Int.toNat_natCast, hvl]
    have sw : slB H' (cutV 1 v o s.length) = some (s.drop o) := by
      rw [(slB_cut' hv (l := o) (r := s.length) (by omega) (Nat.le_refl _)).1, List.take_length]
    have rM : s_may [cutV 1 v o s.length] H' = some (.bool (mayB (s.drop o)), H') := by
      unfold s_may
      simp only [sw]
    have hdl : (s.drop o).length = k := by rw [List.length_drop]; omega
    have hb : (s.drop o).getD 0 0 < 256 := by
      rw [getD_drop, Nat.add_zero, List.getD_eq_getElem?_getD, List.getElem?_eq_getElem (by omega)]
      exact hlt _ (List.getElem_mem _)
    have hiff := mayB_iff (s := s.drop o) (by omega) (by omega) hb
    rw [getD_drop, Nat.add_zero] at hiff
    generalize cutV 1 v o s.length = w at *
    cases hm : mayB (s.drop o) with
    | true =>
      rw [hm] at rM
      have hc : cutN s = o := isCut_unique (cutN_isCut hlt) ⟨by omega, by omega, fun j h1 h2 => hj j (by omega) (by omega), fun _ => hiff.1 hm⟩
      rw [hc]
      simp (config := {maxSteps := 1000000, maxDischargeDepth := 9, implicitDefEqProofs := false}) [c27_l0, hn, q0, q5, q6, q7, lenE hsl, hvl, hk0, hk0n, w1, cw, hmay, rM]
    | false =>
      rw [hm] at rM
      have hnot : ¬ heldP s o := fun h => by rw [hiff.2 h] at hm; cases hm
      simp (config := {maxSteps := 1000000, maxDischargeDepth := 9, implicitDefEqProofs := false}) [c27_l0, hn, q0, q5, q6, q7, lenE hsl, hvl, hk0, hk0n, w1, cw, hmay, rM, w2]
      intro j h1 h2
      by_cases h3 : j = o
      · rw [h3]; exact hnot
      · exact hj j (by omega) (by omega)
  · rintro e H' ⟨hn, q0, q5, q6, q7, rfl, hj⟩
    have hc : cutN s = s.length := isCut_unique (cutN_isCut hlt) ⟨by omega, by omega, fun j h1 h2 => hj j (by omega) (by omega), fun h => by omega⟩
    rw [Nat.sub_self] at q7
    rw [hc]
    simp (config := {maxSteps := 1000000, maxDischargeDepth := 9, implicitDefEqProofs := false}) [c27_l0, hn, q0, q5, q6, q7]
/-- What a parser of the reference holds. -/
def isHeld (H : Heap) (vh : V) (s : List Nat) : Prop := slB H vh = some s ∧ (vh = .nilslice ∨ ∃ q n c cs, vh = .slice q 0 n c ∧ H.get q = some (.cells cs 5 1 true))
theorem isHeld.keep {H H' : Heap} {vh : V} {s : List Nat} (h : isHeld H vh s) (hk : ∀ q cs, H.get q = some (.cells cs 5 1 true) → H'.get q = some (.cells cs 5 1 true)) : isHeld H' vh s := by
  obtain ⟨h1, rfl | ⟨q, n, c, cs, rfl, h2⟩⟩ := h
  · exact ⟨(show slB H' .nilslice = slB H .nilslice from rfl).trans h1, .inl rfl⟩
  · exact ⟨by rw [slB_same4 (H' := H') (H := H) ((hk q cs h2).trans h2.symm)]; exact h1, .inr ⟨q, n, c, cs, rfl, hk q cs h2⟩⟩
theorem isHeld.ext {H H' : Heap} {vh : V} {s : List Nat} (h : isHeld H vh s) (hF : Fresh H) (hE : Ext H H') : isHeld H' vh s := h.keep fun q cs hq => hE.get hF hq
def DecTo (h : Heap) (p : Nat) (xs : List V) (s : List Nat) (v : V) (H' : Heap) : Prop :=
  slK .i32 H' v = some (runesL (s.take (cutN s))) ∧ (∃ vh', H'.get p = some (.cells (vh' :: xs) 40 1 true) ∧ isHeld H' vh' (s.drop (cutN s))) ∧ Fresh H' ∧ (∀ q, q ≠ p → q < h.next → H'.get q = h.get q) ∧ h.next ≤ H'.next ∧ (v = .nilslice ∨ ∃ q n cs, v = .slice q 0 n none ∧ h.next ≤ q ∧ H'.get q = some (.cells cs 21 1 true))
def IsDecR (g : ARaw) : Prop := ∀ (h : Heap) (p : Nat) (vh x1 x2 x3 x4 x5 vb : V) (a b : List Nat), Fresh h → h.get p = some (.cells [vh, x1, x2, x3, x4, x5] 40 1 true) → slB h vh = some a → slB h vb = some b → a.length + b.length ≤ 17592186044416 →
  ∃ v H', g [.ptr p 0, vb] h = some (v, H') ∧ DecTo h p [x1, x2, x3, x4, x5] (a ++ b) v H'
theorem decR_ok (cf : ACall) (hmay : ∀ a h, cf 39 a h = s_may a h) (hRunes : ∀ a h, cf 40 a h = s_Runes a h) : IsDecR (bodyA cf 6 c27) := by
  intro h p vh y1 y2 y3 y4 y5 vb a b hf hg ha hb hl
  obtain ⟨s, hs0⟩ : ∃ s, s = a ++ b := ⟨_, rfl⟩
  rw [← hs0]
  have hsl0 : s.length = a.length + b.length := by rw [hs0, List.length_append]
  rw [← hsl0] at hl
  have hlm : lim = 140737488354304 := rfl
  have hpl := hf.lt hg
  obtain ⟨h1, hh1⟩ : ∃ A, A = h.new (.cells [] 5 1 true) := ⟨_, rfl⟩
  have e1 : Ext h h1 := by rw [hh1]; exact Ext.new h _
  have f1 : Fresh h1 := by rw [hh1]; exact hf.new _
  obtain ⟨v2, h2, r1, o2, e2, f2, n2, m2, _⟩ := OwnB.app (x := vh) (s := a) e1 f1 (by rw [hh1]; exact OwnB.start h 5) (slB_added (slB_ext e1 hf ha)) (by simp only [List.length_nil]; omega)
  obtain ⟨v3, h3, r2, o3, e3, f3, n3, m3, _⟩ := OwnB.app (x := vb) (s := b) e2 f2 o2 (slB_added (slB_ext e2 hf hb)) (by simp only [List.nil_append]; omega)
  rw [List.nil_append, ← hs0] at o3
  have hne3 : v3 ≠ .nilslice := m3 (m2 (by intro h; cases h))
  have hslt : ∀ y ∈ s, y < 256 := fun y hy => by
    rw [hs0] at hy
    rcases List.mem_append.1 hy with hy | hy
    · exact slB_lt ha y hy
    · exact slB_lt hb y hy
  have s3 : slB h3 v3 = some s := o3.slB hslt
  have hvl := slB_vlen s3
  have hsl := slB_isSl s3
  have lg : loadS (.ptr p 0) h1 = some (vh, h1) := by rw [loadS_ptr, e1.get hf hg]; rfl
  obtain ⟨k0, hk0⟩ : ∃ k, k = min 3 s.length := ⟨_, rfl⟩
  have w3 : (if s.length < 3 then (s.length : Int) else 3) = (k0 : Int) := by split <;> omega
  show Runs _ _
  simp (config := {maxSteps := 1000000, maxDischargeDepth := 9, implicitDefEqProofs := false}) [c27, ← hh1, lg, r1, r2, lenE hsl, hvl]
  refine loop_then (K := fun r => finS _ (seqS _ _ _ (blockS _ r))) (FeedR_loop cf hmay h3 s hl v3 (.ptr p 0) s3 _ ?_ ?_ ?_ ?_ ?_) ?_
  iterate 4 simp (config := {maxSteps := 1000000, maxDischargeDepth := 9, implicitDefEqProofs := false})
  · simp (config := {maxSteps := 1000000, maxDischargeDepth := 9, implicitDefEqProofs := false})
    split <;> omega
  rintro x e' H ⟨rfl, hn', q0, q5, q6, rfl⟩
  obtain ⟨_, c2, _, _⟩ := cutN_spec s
  generalize hc : cutN s = c at *
  have hdlt : ∀ y ∈ s.drop c, y < 256 := fun y hy => hslt y (List.mem_of_mem_drop hy)
  have hdl : (s.drop c).length = s.length - c := List.length_drop
  have cw : ∀ K, slB K v3 = some s → sliceV K 1 v3 (some (.int .i64 (c : Int))) none none = some (cutV 1 v3 c s.length) := fun K hK => by
    have := slice_lo (k := .i64) (i := (c : Int)) (v := v3) (h := K) (by rw [hK]; rfl) (by omega) (by omega)
    rw [this, Int.toNat_natCast, hvl]
  obtain ⟨H1, hH1⟩ : ∃ A, A = H.new (.cells [] 5 1 true) := ⟨_, rfl⟩
  have g1 : Fresh H1 := by rw [hH1]; exact f3.new _
  have x1 : Ext H H1 := by rw [hH1]; exact Ext.new H _
  have s31 := slB_ext x1 f3 s3
  have cw1 := cw H1 s31
  have sc : slB H1 (cutV 1 v3 c s.length) = some (s.drop c) := by
    rw [(slB_cut' s31 (l := c) (r := s.length) c2 (Nat.le_refl _)).1, List.take_length]
  obtain ⟨v4, h4, r4, o4, e4, f4, n4, m4, _⟩ := OwnB.app (h0 := H) (x := cutV 1 v3 c s.length) (s := s.drop c) x1 g1 (by rw [hH1]; exact OwnB.start H 5) (slB_added sc) (by simp only [List.length_nil]; omega)
  rw [List.nil_append] at o4
  have hne4 : v4 ≠ .nilslice := m4 (by intro h; cases h)
  generalize cutV 1 v3 c s.length = w at *
  obtain ⟨q, cap, hcut, b6, b1, b2, b3⟩ : ∃ q cap, v4 = .slice q 0 (s.length - c) cap ∧ (cap = none ∨ cap = some (s.length - c)) ∧ H.next ≤ q ∧ q < h4.next ∧ h4.get q = some (.cells (bytesOf (s.drop c)) 5 1 true) := by
    rcases o4 with ⟨h0, _⟩ | ⟨b', c', k1, k2, k3, k4, _, k6⟩
    · exact absurd h0 hne4
    · rw [hdl] at k1 k2
      exact ⟨b', c', k1, k2, k3, k4, k6⟩
  have onew : v4.one = true := by rw [hcut]; rfl
  have clw : v4.cells = [v4] := by rw [hcut]; rfl
  have eh4 : Ext h h4 := e3.trans e4
  have hgp : h4.get p = some (.cells [vh, y1, y2, y3, y4, y5] 40 1 true) := eh4.get hf hg
  obtain ⟨h5, hh5⟩ : ∃ A, A = h4.set p (some (.cells [v4, y1, y2, y3, y4, y5] 40 1 true)) := ⟨_, rfl⟩
  have f5 : Fresh h5 := by rw [hh5]; exact f4.set (by have := eh4.1; omega) _
  have hpq : p ≠ q := by have := e3.1; omega
  have s5 : slB h5 v3 = some s := by
    rw [← slB_ext e4 f3 s3]
    rcases o3 with ⟨h0, _⟩ | ⟨b', c', k1, k2, k3, _⟩
    · exact absurd h0 hne3
    · rw [k1]
      exact slB_same4 (by rw [hh5, Heap.get_set, if_neg (by omega)])
  have cu : sliceV h5 1 v3 none (some (.int .i64 (c : Int))) none = some (cutV 1 v3 0 c) := by
    have := slice_hi (k := .i64) (i := (c : Int)) (v := v3) (h := h5) (by rw [s5]; rfl) (by omega) (by omega)
    rw [this, Int.toNat_natCast]
  have su : slB h5 (cutV 1 v3 0 c) = some (s.take c) := by rw [(slB_cut' s5 (l := 0) (r := c) (Nat.zero_le _) c2).1, List.drop_zero]
  have bu : bytesStrS (cutV 1 v3 0 c) h5 = some (.str (s.take c), h5) := rdB_str (slB_rdB su)
  have htl : (s.take c).length = c := by rw [List.length_take]; omega
  have gk : ∀ b B, b ≠ p → h.get b = some B → h5.get b = some B := fun b B hb hB => by rw [hh5, Heap.get_set, if_neg hb]; exact eh4.get hf hB
  have gp : h5.get p = some (.cells [v4, y1, y2, y3, y4, y5] 40 1 true) := by rw [hh5, Heap.get_set]; exact if_pos rfl
  have gq : h5.get q = some (.cells (bytesOf (s.drop c)) 5 1 true) := by rw [hh5, Heap.get_set, if_neg (fun h => hpq h.symm)]; exact b3
  have lq : 0 + (bytesOf (s.drop c)).length ≤ (bytesOf (s.drop c)).length := by omega
  have gn : ∀ (i : Nat) (x : V), (bytesOf (s.drop c))[i]? = some x → (bytesOf (s.drop c))[0 + i]? = some x := fun i x hi => by rw [Nat.zero_add]; exact hi
  have hbn : h.next ≤ q := by have := e3.1; omega
  have hnx : h5.next = h4.next := by rw [hh5]; rfl
  have hle : h.next ≤ h4.next := eh4.1
  have held : isHeld h5 v4 (s.drop c) := by
    rw [hcut]
    have s4 := o4.slB hdlt
    rw [hcut] at s4
    exact ⟨by rw [slB_same4 (H' := h5) (H := h4) (by rw [gq, b3])]; exact s4, .inr ⟨q, _, cap, _, rfl, gq⟩⟩
  have keep : ∀ q', q' ≠ p → q' < h.next → h5.get q' = h.get q' := fun q' h1 h2 => by rw [hh5, Heap.get_set, if_neg h1]; exact eh4.2 q' h2
  by_cases hc0 : c = 0
  · have rR : s_Runes [.str (s.take c)] h5 = some (.nilslice, h5) := by
      unfold s_Runes
      simp only
      rw [if_pos (by omega), if_pos (by omega)]
    simp (config := {maxSteps := 1000000, maxDischargeDepth := 9, implicitDefEqProofs := false}) [hn', q0, q5, q6, ← hH1, cw1, r4, hgp, onew, clw, ← hh5, cu, bu, hRunes, rR]
    unfold DecTo
    rw [hc]
    refine ⟨?_, ⟨_, gp, held⟩, f5, keep, by omega, .inl rfl⟩
    rw [hc0, List.take_zero, runesL_nil]
    exact slK_nil _
  · have rR : s_Runes [.str (s.take c)] h5 = some (.slice h5.next 0 (runesL (s.take c)).length none, h5.new (.cells ((runesL (s.take c)).map (V.int .i32)) 21 1 true)) := by
      unfold s_Runes
      simp only
      rw [if_pos (by omega), if_neg (by omega)]; rfl
    simp (config := {maxSteps := 1000000, maxDischargeDepth := 9, implicitDefEqProofs := false}) [hn', q0, q5, q6, ← hH1, cw1, r4, hgp, onew, clw, ← hh5, cu, bu, hRunes, rR]
    have fx := Ext.new h5 (.cells ((runesL (s.take c)).map (V.int .i32)) 21 1 true)
    unfold DecTo
    rw [hc]
    refine ⟨slK_selfE rfl rfl (.inl rfl), ⟨_, fx.get f5 gp, held.ext f5 fx⟩, f5.new _, fun q' h1 h2 => ?_, by rw [Heap.next_new]; omega, .inr ⟨_, _, _, rfl, by omega, by rw [Heap.get_new]; exact if_pos rfl⟩⟩
    rw [Heap.get_new, if_neg (by omega)]; exact keep q' h1 h2

/-! The reference's parser: it stands where vt's stands; what is over is one param more. -/
def refP (s : PS) : List Int := s.params ++ (if s.over = true then [0] else [])
def refCells (vh : V) (s : PS) (f : Bool) (vps : V) : List V := [vh, .int .i64 (s.st : Int), vps, .bool s.mark, .bool s.odd, .bool f]
def isRef (hb H : Heap) (p : Nat) (vh : V) (s : PS) (f : Bool) (vps : V) : Prop := H.get p = some (.cells (refCells vh s f vps) 40 1 true) ∧ OwnK .i64 hb H 3 vps (refP s) ∧ (s.st = 3 → f = !s.begun)
def StepR (hb H : Heap) (p : Nat) (vh vps : V) (x : PS × Option ActP) (v : V) (H' : Heap) : Prop :=
  ∃ vps' f', Ext hb H' ∧ Fresh H' ∧ H.next ≤ H'.next ∧ isRef hb H' p vh x.1 f' vps' ∧ Kept H H' p vps ∧ newOr H vps vps' ∧ actR H H' vps' v x.2
def IsStepR (pre : PS → Int → Prop) (f : PS → Int → PS × Option ActP) (g : ARaw) : Prop :=
  ∀ (hb H : Heap) (p : Nat) (vh vps : V) (s : PS) (fr : Bool) (r : Int), Ext hb H → Fresh H → hb.next ≤ p → isRef hb H p vh s fr vps → wfPS s → pre s r →
    ∃ v H', g [.ptr p 0, .int .i32 r] H = some (v, H') ∧ StepR hb H p vh vps (f s r) v H'
theorem step_finR {hb H H' : Heap} {p : Nat} {vh vps vps' v : V} {s' : PS} {f' : Bool} {out : Option ActP} (hE : Ext hb H) (hF : Fresh H) (hp : hb.next ≤ p) (hF' : Fresh H') (hn : H.next ≤ H'.next)
    (hg : H'.get p = some (.cells (refCells vh s' f' vps') 40 1 true)) (hk : ∀ q, q < H.next → q ≠ p → H'.get q = H.get q) (ho : OwnK .i64 hb H' 3 vps' (refP s')) (hf : s'.st = 3 → f' = !s'.begun) (hv : newOr H vps vps') (ha : actR H H' vps' v out) :
    StepR hb H p vh vps (s', out) v H' :=
  ⟨vps', f', ⟨by have := hE.1; omega, fun q hq => by rw [hk q (by have := hE.1; omega) (by omega)]; exact hE.2 q hq⟩, hF', hn, ⟨hg, ho, hf⟩, fun q h1 h2 _ => hk q h1 h2, hv, ha⟩
theorem ownK_setR {hb H H' : Heap} {p : Nat} {vh vps : V} {s : PS} {fr : Bool} (hI : isRef hb H p vh s fr vps) (hF : Fresh H) (hn : H.next ≤ H'.next) (hk : ∀ q, q < H.next → q ≠ p → H'.get q = H.get q) : OwnK .i64 hb H' 3 vps (refP s) := by
  obtain ⟨g, ho, _⟩ := hI
  rcases id ho with hh | ⟨b, c, k1, k2, k3, k4, k5, k6⟩
  · exact .inl hh
  · refine .inr ⟨b, c, k1, k2, k3, by omega, k5, ?_⟩
    subst k1
    rw [hk b k4 (ownK_ne ho g (by decide))]; exact k6
theorem step_boxR {hb H : Heap} {p : Nat} {vh vps v : V} {s s' : PS} {fr f' : Bool} {out : Option ActP} {B : Blk} (hE : Ext hb H) (hF : Fresh H) (hp : hb.next ≤ p) (hI : isRef hb H p vh s fr vps) (hs : refP s' = refP s) (hf : s'.st = 3 → f' = !s'.begun) (ha : ∀ H', actR H H' vps v out) :
    StepR hb H p vh vps (s', out) v ((H.set p (some (.cells (refCells vh s' f' vps) 40 1 true))).new B) := by
  have hpl := hF.lt hI.1
  have hk : ∀ q, q < H.next → q ≠ p → ((H.set p (some (.cells (refCells vh s' f' vps) 40 1 true))).new B).get q = H.get q := fun q h1 h2 => by
    rw [Heap.get_new, if_neg (by show ¬ q = H.next; omega), Heap.get_set, if_neg h2]
  refine step_finR (vps' := vps) (f' := f') hE hF hp ((hF.set hpl _).new _) (Nat.le_succ _) ?_ hk ?_ hf (newOr_same _ _) (ha _)
  · rw [Heap.get_new, if_neg (by show ¬ p = H.next; omega), Heap.get_set, if_pos rfl]
  · rw [hs]; exact ownK_setR hI hF (Nat.le_succ _) hk
theorem step_sameR {hb H : Heap} {p : Nat} {vh vps v : V} {s : PS} {fr : Bool} {out : Option ActP} {B : Blk} (hE : Ext hb H) (hF : Fresh H) (hp : hb.next ≤ p) (hI : isRef hb H p vh s fr vps) (ha : ∀ H', actR H H' vps v out) :
    StepR hb H p vh vps (s, out) v (H.new B) := by
  have hpl := hF.lt hI.1
  have hk : ∀ q, q < H.next → q ≠ p → (H.new B).get q = H.get q := fun q h1 h2 => by rw [Heap.get_new, if_neg (by omega)]
  refine step_finR (vps' := vps) (f' := fr) hE hF hp (hF.new _) (Nat.le_succ _) ?_ hk ?_ hI.2.2 (newOr_same _ _) (ha _)
  · rw [Heap.get_new, if_neg (by omega)]; exact hI.1
  · exact ownK_setR hI hF (Nat.le_succ _) hk
theorem controlR_ok (cf : ACall) : Sum cf c32 s_control := by
  intro args h v h' hf hsc hlt hs
  unfold s_control at hs
  split at hs
  · rename_i r
    simp only [Option.some.injEq, Prod.mk.injEq] at hs
    obtain ⟨rfl, rfl⟩ := hs
    refine ⟨1, ?_⟩
    unfold ctl
    by_cases h1 : 7 ≤ r
    · by_cases h2 : r ≤ 13
      · simp (config := {maxSteps := 1000000, maxDischargeDepth := 9, implicitDefEqProofs := false}) [c32, h1, h2]
        exact Canon.keep hf hsc (Ext.refl _) (by simp only [V.lt])
      · simp (config := {maxSteps := 1000000, maxDischargeDepth := 9, implicitDefEqProofs := false}) [c32, h1, h2]
        exact Canon.keep hf hsc (Ext.refl _) (by simp only [V.lt])
    · simp (config := {maxSteps := 1000000, maxDischargeDepth := 9, implicitDefEqProofs := false}) [c32, h1]
      exact Canon.keep hf hsc (Ext.refl _) (by simp only [V.lt])
  · cases hs
def s_noneR : List V → Heap → Option (V × Heap)
  | [], h => some (actV none, h)
  | _, _ => none
theorem noneR_ok (cf : ACall) : Sum cf c31 s_noneR := by
  intro args h v h' hf hsc hlt hs
  unfold s_noneR at hs
  split at hs
  · simp only [Option.some.injEq, Prod.mk.injEq] at hs
    obtain ⟨rfl, rfl⟩ := hs
    refine ⟨1, ?_⟩
    simp (config := {maxSteps := 1000000, maxDischargeDepth := 9, implicitDefEqProofs := false}) [c31, actV]
    exact Canon.keep hf hsc (Ext.new _ _) (by simp only [V.lt, ltL, and_self])
  · cases hs
def s_actR : List V → Heap → Option (V × Heap)
  | [.int .i64 k, .int .i32 r], h => some (.tuple [.agg [.int .i64 k, .int .i32 r, .bool false, .nilslice], .bool true], h)
  | _, _ => none
theorem actR_ok (cf : ACall) : Sum cf c33 s_actR := by
  intro args h v h' hf hsc hlt hs
  unfold s_actR at hs
  split at hs
  · rename_i k r
    simp only [Option.some.injEq, Prod.mk.injEq] at hs
    obtain ⟨rfl, rfl⟩ := hs
    refine ⟨1, ?_⟩
    simp (config := {maxSteps := 1000000, maxDischargeDepth := 9, implicitDefEqProofs := false}) [c33]
    exact Canon.keep hf hsc (Ext.new _ _) (by simp only [V.lt, ltL, and_self])
  · cases hs
def stEscR (s : PS) (r : Int) : PS × Option ActP := if r = 27 then ({ s with st := 1 }, none) else stEsc s r
theorem escR_ok (cf : ACall) (hctl : ∀ a h, cf 32 a h = s_control a h) (hnone : ∀ a h, cf 31 a h = s_noneR a h) (hact : ∀ a h, cf 33 a h = s_actR a h) : IsStepR (fun _ _ => True) stEscR (bodyA cf 20 c34) := by
  intro hb H p vh vps s fr r hE hF hp hI hw _
  have g0 : H.get p = some (.cells [vh, .int .i64 (s.st : Int), vps, .bool s.mark, .bool s.odd, .bool fr] 40 1 true) := hI.1
  have hpl := hF.lt hI.1
  have hpn : ¬ p = H.next := by omega
  have hpn1 : ¬ p = H.next + 1 := by omega
  show Runs _ _
  unfold stEscR
  by_cases c0 : r = 27
  · subst c0
    rw [if_pos rfl]
    simp (config := {maxSteps := 1000000, maxDischargeDepth := 9, implicitDefEqProofs := false}) [c34, g0, hpn, hpn1, hnone, s_noneR, actV]
    exact step_boxR (s' := { s with st := 1 }) (f' := fr) hE hF hp hI rfl (fun h => by cases h) fun _ => act_none _ _ _
  rw [if_neg c0]
  have e0 : (r == 27) = false := beq_eq_false_iff_ne.2 c0
  unfold stEsc
  by_cases c1 : r = 91
  · subst c1
    rw [if_pos rfl]
    simp (config := {maxSteps := 1000000, maxDischargeDepth := 9, implicitDefEqProofs := false}) [c34, g0, hpn, hpn1, hnone, s_noneR, actV, hctl, s_control, ctl]
    have hk : ∀ (X Y Z : Blk) q, q < H.next → q ≠ p → (((H.set p (some X)).new Y).new Z).get q = H.get q := fun X Y Z q h1 h2 => by
      rw [Heap.get_new, if_neg (by show ¬ q = H.next + 1; omega), Heap.get_new, if_neg (by show ¬ q = H.next; omega), Heap.get_set, if_neg h2]
    refine step_finR (s' := { st := 3, mark := false, odd := false, begun := false, over := false, params := [0] }) (vps' := .slice (H.next + 1) 0 1 (some 1)) (f' := true) hE hF hp (((hF.set hpl _).new _).new _) (by show H.next ≤ H.next + 1 + 1; omega) ?_ (hk _ _ _) ?_ (fun _ => rfl) (newOr_new _ _ (by omega)) (act_none _ _ _)
    · rw [Heap.get_new, if_neg (by show ¬ p = H.next + 1; omega), Heap.get_new, if_neg (by show ¬ p = H.next; omega), Heap.get_set, if_pos rfl]; rfl
    · refine .inr ⟨H.next + 1, some 1, rfl, .inr rfl, by have := hE.1; omega, by show H.next + 1 < H.next + 1 + 1; omega, rfl, ?_⟩
      rw [Heap.get_new]; exact if_pos rfl
  have c1b : (r == 91) = false := beq_eq_false_iff_ne.2 c1
  rw [if_neg c1]
  by_cases c2 : r = 93 ∨ r = 80 ∨ r = 88 ∨ r = 94 ∨ r = 95
  · rw [if_pos c2]
    rcases c2 with rfl | rfl | rfl | rfl | rfl
    all_goals
      simp (config := {maxSteps := 1000000, maxDischargeDepth := 9, implicitDefEqProofs := false}) [c34, g0, hpn, hpn1, hnone, s_noneR, actV, hctl, s_control, ctl]
      exact step_boxR (s' := { s with st := 4 }) (f' := fr) hE hF hp hI rfl (fun h => by cases h) fun _ => act_none _ _ _
  rw [if_neg c2]
  by_cases c3 : r = 40 ∨ r = 41 ∨ r = 42 ∨ r = 43 ∨ r = 35
  · rw [if_pos c3]
    rcases c3 with rfl | rfl | rfl | rfl | rfl
    all_goals
      simp (config := {maxSteps := 1000000, maxDischargeDepth := 9, implicitDefEqProofs := false}) [c34, g0, hpn, hpn1, hnone, s_noneR, actV, hctl, s_control, ctl]
      exact step_boxR (s' := { s with st := 2 }) (f' := fr) hE hF hp hI rfl (fun h => by cases h) fun _ => act_none _ _ _
  rw [if_neg c3]
  have b1 : (r == 93) = false := beq_eq_false_iff_ne.2 (by omega)
  have b2 : (r == 80) = false := beq_eq_false_iff_ne.2 (by omega)
  have b3 : (r == 88) = false := beq_eq_false_iff_ne.2 (by omega)
  have b4 : (r == 94) = false := beq_eq_false_iff_ne.2 (by omega)
  have b5 : (r == 95) = false := beq_eq_false_iff_ne.2 (by omega)
  have b6 : (r == 40) = false := beq_eq_false_iff_ne.2 (by omega)
  have b7 : (r == 41) = false := beq_eq_false_iff_ne.2 (by omega)
  have b8 : (r == 42) = false := beq_eq_false_iff_ne.2 (by omega)
  have b9 : (r == 43) = false := beq_eq_false_iff_ne.2 (by omega)
  have b10 : (r == 35) = false := beq_eq_false_iff_ne.2 (by omega)
  cases h1 : ctl r with
  | true =>
    rw [if_pos rfl]
    have hr : 7 ≤ r ∧ r ≤ 13 := of_decide_eq_true h1
    have b11 : (r == 24) = false := beq_eq_false_iff_ne.2 (by omega)
    have b12 : (r == 26) = false := beq_eq_false_iff_ne.2 (by omega)
    simp (config := {maxSteps := 1000000, maxDischargeDepth := 9, implicitDefEqProofs := false}) [c34, g0, hpn, hpn1, e0, b11, b12, hctl, s_control, h1, hact, s_actR]
    exact step_boxR (s' := { s with st := 1 }) (f' := fr) hE hF hp hI rfl (fun h => by cases h) fun _ => act_some _ _ _ _ _
  | false =>
    rw [if_neg (by intro h; cases h)]
    by_cases c4 : 48 ≤ r ∧ r ≤ 126
    · rw [if_pos c4]
      have b11 : (r == 24) = false := beq_eq_false_iff_ne.2 (by omega)
      have b12 : (r == 26) = false := beq_eq_false_iff_ne.2 (by omega)
      simp (config := {maxSteps := 1000000, maxDischargeDepth := 9, implicitDefEqProofs := false}) [c34, g0, hpn, hpn1, e0, b11, b12, c1b, b1, b2, b3, b4, b5, b6, b7, b8, b9, b10, hctl, s_control, h1, c4.1, c4.2, hact, s_actR]
      exact step_boxR (s' := { s with st := 0 }) (f' := fr) hE hF hp hI rfl (fun h => by cases h) fun _ => act_some _ _ _ _ _
    · rw [if_neg c4]
      by_cases d1 : r = 24
      · subst d1
        simp (config := {maxSteps := 1000000, maxDischargeDepth := 9, implicitDefEqProofs := false}) [c34, g0, hpn, hpn1, hnone, s_noneR, actV]
        exact step_boxR (s' := { s with st := 0 }) (f' := fr) hE hF hp hI rfl (fun h => by cases h) fun _ => act_none _ _ _
      by_cases d2 : r = 26
      · subst d2
        simp (config := {maxSteps := 1000000, maxDischargeDepth := 9, implicitDefEqProofs := false}) [c34, g0, hpn, hpn1, hnone, s_noneR, actV]
        exact step_boxR (s' := { s with st := 0 }) (f' := fr) hE hF hp hI rfl (fun h => by cases h) fun _ => act_none _ _ _
      have b11 : (r == 24) = false := beq_eq_false_iff_ne.2 d1
      have b12 : (r == 26) = false := beq_eq_false_iff_ne.2 d2
      by_cases c5 : 48 ≤ r
      · have c6 : ¬ r ≤ 126 := fun h => c4 ⟨c5, h⟩
        simp (config := {maxSteps := 1000000, maxDischargeDepth := 9, implicitDefEqProofs := false}) [c34, g0, hpn, hpn1, e0, b11, b12, c1b, b1, b2, b3, b4, b5, b6, b7, b8, b9, b10, hctl, s_control, h1, c5, c6, hnone, s_noneR, actV]
        exact step_boxR (s' := { s with st := 0 }) (f' := fr) hE hF hp hI rfl (fun h => by cases h) fun _ => act_none _ _ _
      · simp (config := {maxSteps := 1000000, maxDischargeDepth := 9, implicitDefEqProofs := false}) [c34, g0, hpn, hpn1, e0, b11, b12, c1b, b1, b2, b3, b4, b5, b6, b7, b8, b9, b10, hctl, s_control, h1, c5, hnone, s_noneR, actV]
        exact step_boxR (s' := { s with st := 0 }) (f' := fr) hE hF hp hI rfl (fun h => by cases h) fun _ => act_none _ _ _

theorem step_writeR {hb H : Heap} {p b n : Nat} {c : Option Nat} {vh v : V} {s s' : PS} {fr f' : Bool} {out : Option ActP} {B : Blk} (hE : Ext hb H) (hF : Fresh H) (hp : hb.next ≤ p) (hI : isRef hb H p vh s fr (.slice b 0 n c)) (hb1 : hb.next ≤ b) (hb2 : b < H.next) (hbp : b ≠ p) (hc : c = none ∨ c = some n) (hn : (refP s').length = n) (hf : s'.st = 3 → f' = !s'.begun) (ha : ∀ H', actR H H' (.slice b 0 n c) v out) :
    StepR hb H p vh (.slice b 0 n c) (s', out) v (((H.set p (some (.cells (refCells vh s' f' (.slice b 0 n c)) 40 1 true))).set b (some (.cells ((refP s').map (V.int .i64)) 3 1 true))).new B) := by
  have hpl := hF.lt hI.1
  obtain ⟨H', hH'⟩ : ∃ A, A = ((H.set p (some (.cells (refCells vh s' f' (.slice b 0 n c)) 40 1 true))).set b (some (.cells ((refP s').map (V.int .i64)) 3 1 true))).new B := ⟨_, rfl⟩
  have hk : ∀ q, q < H.next → q ≠ p → q ≠ b → H'.get q = H.get q := fun q h1 h2 h3 => by
    rw [hH', Heap.get_new, if_neg (by show ¬ q = H.next; omega), Heap.get_set, if_neg h3, Heap.get_set, if_neg h2]
  have n1 : H'.next = H.next + 1 := by rw [hH']; rfl
  have gp : H'.get p = some (.cells (refCells vh s' f' (.slice b 0 n c)) 40 1 true) := by
    rw [hH', Heap.get_new, if_neg (by show ¬ p = H.next; omega), Heap.get_set, if_neg (fun h => hbp h.symm), Heap.get_set, if_pos rfl]
  have gb : H'.get b = some (.cells ((refP s').map (V.int .i64)) 3 1 true) := by
    rw [hH', Heap.get_new, if_neg (by show ¬ b = H.next; omega), Heap.get_set, if_pos rfl]
  have f1 : Fresh H' := by rw [hH']; exact ((hF.set hpl _).set hb2 _).new _
  rw [← hH']
  refine ⟨.slice b 0 n c, f', ⟨by have := hE.1; omega, fun q hq => by rw [hk q (by have := hE.1; omega) (by omega) (by omega)]; exact hE.2 q hq⟩, f1, by omega, ⟨gp, ?_, hf⟩, fun q h1 h2 h3 => hk q h1 h2 (fun e => h3 0 n c (by rw [e])), newOr_same _ _, ha _⟩
  exact .inr ⟨b, c, by rw [hn], by rw [hn]; exact hc, hb1, by omega, by simp, gb⟩
def stCsiR (s : PS) (r : Int) : PS × Option ActP := if r = 27 then ({ s with st := 1 }, none) else stCsi s r
def IsCsiR (g : ARaw) : Prop := IsStepR (fun s _ => s.st = 3 ∧ (s.over = true → s.params.length = 16)) stCsiR g
theorem csiR_ok (cf : ACall) (hctl : ∀ a h, cf 32 a h = s_control a h) (hnone : ∀ a h, cf 31 a h = s_noneR a h) (hact : ∀ a h, cf 33 a h = s_actR a h) : IsCsiR (bodyA cf 20 c35) := by
  intro hb H p vh vps s fr r hE hF hp hI hw hpre
  obtain ⟨h3, hov16⟩ := hpre
  have hfr := hI.2.2 h3
  have g0 : H.get p = some (.cells [vh, .int .i64 (s.st : Int), vps, .bool s.mark, .bool s.odd, .bool fr] 40 1 true) := hI.1
  have hpl := hF.lt hI.1
  have hpn : ¬ p = H.next := by omega
  have hpn1 : ¬ p = H.next + 1 := by omega
  obtain ⟨w1, w2, w3, w4⟩ := id hw
  have hn1 := w2 h3
  obtain ⟨m, hm⟩ : ∃ m, (refP s).length = m + 1 := by
    have h1 : 1 ≤ (refP s).length := by unfold refP; rw [List.length_append]; omega
    exact ⟨(refP s).length - 1, by omega⟩
  have hm16 : m ≤ 16 := by
    have : (refP s).length ≤ 17 := by unfold refP; rw [List.length_append]; split <;> simp <;> omega
    omega
  obtain ⟨b, c, hvp, k2, k3, k4, k5, k6⟩ : ∃ b c, vps = .slice b 0 (refP s).length c ∧ (c = none ∨ c = some (refP s).length) ∧ hb.next ≤ b ∧ b < H.next ∧ ((refP s).map (V.int .i64)).length = (refP s).length * 1 ∧ H.get b = some (.cells ((refP s).map (V.int .i64)) 3 1 true) := by
    rcases hI.2.1 with ⟨_, h0, _⟩ | h
    · omega
    · exact h
  have hbp : ¬ b = p := by
    have := hI.2.1
    rw [hvp] at this
    exact ownK_ne this hI.1 (by decide)
  have hpb : ¬ p = b := fun h => hbp h.symm
  have hbn : ¬ b = H.next := by omega
  have hbn1 : ¬ b = H.next + 1 := by omega
  subst hvp
  rw [hm] at hI g0 k2
  rw [hm]
  have wm : wrapF .i64 (m : Int) = (m : Int) := wrap_i64 (by omega) (by omega)
  have hmlt : (m : Int) < (m : Int) + 1 := by omega
  have ovi : ∀ a0 a1 a2 a3 a4 a5 x : V, over [a0, a1, a2, a3, a4, a5] 5 [x] = [a0, a1, a2, a3, a4, x] := fun _ _ _ _ _ _ _ => rfl
  have ov0 : ∀ a0 a1 a2 a3 x0 x1 x2 x3 : V, over [a0, a1, a2, a3] 0 [x0, x1, x2, x3] = [x0, x1, x2, x3] := fun _ _ _ _ _ _ _ _ => rfl
  show Runs _ _
  unfold stCsiR
  by_cases c0 : r = 27
  · subst c0
    rw [if_pos rfl]
    simp (config := {maxSteps := 1000000, maxDischargeDepth := 9, implicitDefEqProofs := false}) [c35, g0, hpn, hpn1, hctl, s_control, ctl, hnone, s_noneR, actV]
    exact step_boxR (s' := { s with st := 1 }) (f' := fr) hE hF hp hI rfl (fun h => by cases h) fun _ => act_none _ _ _
  rw [if_neg c0]
  have e0 : (r == 27) = false := beq_eq_false_iff_ne.2 c0
  unfold stCsi
  cases h1 : ctl r with
  | true =>
    rw [if_pos rfl]
    simp (config := {maxSteps := 1000000, maxDischargeDepth := 9, implicitDefEqProofs := false}) [c35, g0, hpn, hpn1, hctl, s_control, h1, hact, s_actR]
    exact step_sameR hE hF hp hI fun _ => act_some _ _ _ _ _
  | false =>
  rw [if_neg (by intro h; cases h)]
  by_cases c1 : r = 24 ∨ r = 26 ∨ 127 < r
  · rw [if_pos c1]
    rcases c1 with rfl | rfl | c1
    · simp (config := {maxSteps := 1000000, maxDischargeDepth := 9, implicitDefEqProofs := false}) [c35, g0, hpn, hpn1, hctl, s_control, h1, hnone, s_noneR, actV]
      exact step_boxR (s' := { s with st := 0 }) (f' := fr) hE hF hp hI rfl (fun h => by cases h) fun _ => act_none _ _ _
    · simp (config := {maxSteps := 1000000, maxDischargeDepth := 9, implicitDefEqProofs := false}) [c35, g0, hpn, hpn1, hctl, s_control, h1, hnone, s_noneR, actV]
      exact step_boxR (s' := { s with st := 0 }) (f' := fr) hE hF hp hI rfl (fun h => by cases h) fun _ => act_none _ _ _
    · have e1 : (r == 24) = false := beq_eq_false_iff_ne.2 (by omega)
      have e2 : (r == 26) = false := beq_eq_false_iff_ne.2 (by omega)
      simp (config := {maxSteps := 1000000, maxDischargeDepth := 9, implicitDefEqProofs := false}) [c35, g0, hpn, hpn1, hctl, s_control, h1, e0, e1, e2, c1, hnone, s_noneR, actV]
      exact step_boxR (s' := { s with st := 0 }) (f' := fr) hE hF hp hI rfl (fun h => by cases h) fun _ => act_none _ _ _
  rw [if_neg c1]
  have e1 : (r == 24) = false := beq_eq_false_iff_ne.2 (by omega)
  have e2 : (r == 26) = false := beq_eq_false_iff_ne.2 (by omega)
  have e3 : ¬ 127 < r := by omega
  by_cases c32 : r < 32 ∨ r = 127
  · rw [if_neg (by omega), if_neg (by omega), if_neg (by omega), if_neg (by omega), if_neg (by omega)]
    by_cases q1 : r < 32
    · simp (config := {maxSteps := 1000000, maxDischargeDepth := 9, implicitDefEqProofs := false}) [c35, g0, hpn, hpn1, hctl, s_control, h1, e0, e1, e2, e3, q1, hnone, s_noneR, actV]
      exact step_sameR hE hF hp hI fun _ => act_none _ _ _
    · have q2 : r = 127 := by omega
      subst q2
      simp (config := {maxSteps := 1000000, maxDischargeDepth := 9, implicitDefEqProofs := false}) [c35, g0, hpn, hpn1, hctl, s_control, h1, hnone, s_noneR, actV]
      exact step_sameR hE hF hp hI fun _ => act_none _ _ _
  have q1 : ¬ r < 32 := by omega
  have q2 : (r == 127) = false := beq_eq_false_iff_ne.2 (by omega)
  by_cases c2 : 48 ≤ r ∧ r ≤ 57
  · rw [if_pos c2]
    obtain ⟨c2, c3⟩ := c2
    cases hov : s.over with
    | true =>
      rw [if_pos rfl]
      have hm17 : m = 16 := by
        have h1 := hov16 hov
        unfold refP at hm
        rw [hov, List.length_append, h1] at hm
        simp at hm; omega
      have hmn : ¬ ((m : Int) + 1 ≤ 16) := by omega
      have hmn2 : ¬ (m + 1 ≤ 16) := by omega
      simp (config := {maxSteps := 1000000, maxDischargeDepth := 9, implicitDefEqProofs := false}) [c35, g0, hpn, hpn1, hctl, s_control, h1, e0, e1, e2, e3, q1, q2, c2, c3, hmn, hmn2, hnone, s_noneR, actV]
      exact step_boxR (s' := { s with begun := true, over := true }) (f' := false) hE hF hp hI (by unfold refP; rw [hov]) (fun _ => rfl) fun _ => act_none _ _ _
    | false =>
      rw [if_neg (by intro h; cases h)]
      have hrp : refP s = s.params := by unfold refP; rw [hov]; simp
      rw [hrp] at hm k6
      have hmn : ((m : Int) + 1 ≤ 16) := by omega
      have hmn2 : (m + 1 ≤ 16) := by omega
      obtain ⟨x, hx⟩ : ∃ x, s.params[m]? = some x := ⟨_, List.getElem?_eq_getElem (by omega)⟩
      have hx2 := w4 x (List.mem_of_getElem? hx)
      have hgD : s.params.getD m 0 = x := by rw [List.getD_eq_getElem?_getD, hx]; rfl
      have hnth : nth (s.params.map (V.int .i64)) m = some (.int .i64 x) := by rw [nth_ints _ _ _ (by omega), hgD]
      have v1 : wrapF .i64 (10 * x) = 10 * x := wrap_i64 (by omega) (by omega)
      have v2 : wrapF .i32 (r - 48) = r - 48 := wrap_i32 (by omega) (by omega)
      have v3 : wrapF .i64 (r - 48) = r - 48 := wrap_i64 (by omega) (by omega)
      have v4 : wrapF .i64 (10 * x + (r - 48)) = 10 * x + (r - 48) := wrap_i64 (by omega) (by omega)
      obtain ⟨z, hz⟩ : ∃ z, z = min (10 * x + (r - 48)) 9999 := ⟨_, rfl⟩
      have hz1 : (if 10 * x + (r - 48) < 9999 then 10 * x + (r - 48) else (9999 : Int)) = z := by rw [hz]; split <;> omega
      have hdig : digitP s.params r = s.params.set m z := by unfold digitP; rw [hm, Nat.add_sub_cancel, hgD, hz]
      have hov2 : over (s.params.map (V.int .i64)) m [V.int .i64 z] = (s.params.set m z).map (V.int .i64) := by
        rw [over_set _ _ _ (by rw [List.length_map]; omega), List.map_set]
      rw [hdig]
      simp (config := {maxSteps := 1000000, maxDischargeDepth := 9, implicitDefEqProofs := false}) [c35, g0, hpn, hpn1, hpb, hbp, hbn, hbn1, hctl, s_control, h1, e0, e1, e2, e3, q1, q2, c2, c3, hmn, hmn2, k6, hm, wm, hmlt, hnth, ovi, ov0, v1, v2, v3, v4, hz1, hov2, hnone, s_noneR, actV, -over]
      rw [← List.map_set]
      have hrp' : refP { s with begun := true, over := false, params := s.params.set m z } = s.params.set m z := by unfold refP; simp
      have hw := step_writeR (s' := { s with begun := true, over := false, params := s.params.set m z }) (f' := false) (v := .tuple [.agg [.int .i64 0, .int .i32 0, .bool false, .nilslice], .bool false]) (out := none) (B := .cells [.int .i64 0, .int .i32 0, .bool false, .nilslice] 30 1 true) hE hF hp hI k3 k4 hbp k2 (by rw [hrp', List.length_set]; exact hm) (fun _ => rfl) fun _ => act_none _ _ _
      rw [hrp'] at hw
      exact hw
  rw [if_neg c2]
  have d1 : 48 ≤ r → ¬ r ≤ 57 := fun a b => c2 ⟨a, b⟩
  by_cases c3 : r = 59
  · rw [if_pos c3]
    subst c3
    cases hov : s.over with
    | true =>
      have hm17 : m = 16 := by
        have h1 := hov16 hov
        unfold refP at hm
        rw [hov, List.length_append, h1] at hm
        simp at hm; omega
      have hmn : ¬ ((m : Int) + 1 ≤ 16) := by omega
      have hmn2 : ¬ (m + 1 ≤ 16) := by omega
      simp only [Bool.true_or, if_true]
      simp (config := {maxSteps := 1000000, maxDischargeDepth := 9, implicitDefEqProofs := false}) [c35, g0, hpn, hpn1, hctl, s_control, h1, hmn, hmn2, hnone, s_noneR, actV]
      exact step_boxR (s' := { s with begun := true, over := true }) (f' := false) hE hF hp hI (by unfold refP; rw [hov]) (fun _ => rfl) fun _ => act_none _ _ _
    | false =>
      have hrp : refP s = s.params := by unfold refP; rw [hov]; simp
      have hmn : ((m : Int) + 1 ≤ 16) := by rw [hrp] at hm; omega
      have hmn2 : (m + 1 ≤ 16) := by rw [hrp] at hm; omega
      obtain ⟨s', hs'⟩ : ∃ s' : PS, s' = { s with begun := true, over := s.over || s.params.length == 16, params := if (s.over || s.params.length == 16) = true then s.params else s.params ++ [0] } := ⟨_, rfl⟩
      have hrp' : refP s' = s.params ++ [0] := by
        rw [hs']
        unfold refP
        rw [hov]
        simp only [Bool.false_or]
        by_cases h16 : (s.params.length == 16) = true
        · rw [h16]; simp
        · rw [Bool.not_eq_true] at h16
          rw [h16]; simp
      have hgoal : ({ st := s.st, mark := s.mark, odd := s.odd, begun := true, over := false || s.params.length == 16, params := if (false || s.params.length == 16) = true then s.params else s.params ++ [0] } : PS) = s' := by rw [hs', hov]
      rw [hgoal]
      obtain ⟨X, hX⟩ : ∃ X, X = Blk.cells [vh, .int .i64 (s.st : Int), .slice b 0 (m + 1) c, .bool s.mark, .bool s.odd, .bool false] 40 1 true := ⟨_, rfl⟩
      obtain ⟨K0, hK0⟩ : ∃ A, A = (H.set p (some X)).new (.cells [.int .i64 0, .int .i32 0, .bool false, .nilslice] 30 1 true) := ⟨_, rfl⟩
      obtain ⟨K1, hK1⟩ : ∃ A, A = K0.new (.cells [.int .i64 0] 3 1 true) := ⟨_, rfl⟩
      have n0 : K0.next = H.next + 1 := by rw [hK0]; rfl
      have n1 : K1.next = H.next + 2 := by rw [hK1]; show K0.next + 1 = _; omega
      have q0 : Fresh K0 := by rw [hK0]; exact (hF.set hpl _).new _
      have q1 : Fresh K1 := by rw [hK1]; exact q0.new _
      have hk : ∀ q, q < H.next → q ≠ p → K1.get q = H.get q := fun q h1 h2 => by
        rw [hK1, Heap.get_new, if_neg (by omega), hK0, Heap.get_new, if_neg (by show ¬ q = H.next; omega), Heap.get_set, if_neg h2]
      have x1 : Ext hb K1 := ⟨by have := hE.1; omega, fun q hq => by rw [hk q (by have := hE.1; omega) (by omega)]; exact hE.2 q hq⟩
      have gp1 : K1.get p = some X := by rw [hK1, Heap.get_new, if_neg (by omega), hK0, Heap.get_new, if_neg (by show ¬ p = H.next; omega), Heap.get_set, if_pos rfl]
      have gx1 : K1.get H.next = some (.cells [.int .i64 0, .int .i32 0, .bool false, .nilslice] 30 1 true) := by rw [hK1, Heap.get_new, if_neg (by omega), hK0, Heap.get_new]; exact if_pos rfl
      have oK := ownK_setR hI hF (H' := K1) (by omega) hk
      rw [hrp] at oK hm
      have hadd : added K1 1 (.slice (H.next + 1) 0 1 (some 1)) = some ([(0 : Int)].map (V.int .i64), [(0 : Int)].length) := by
        have : sl K1 1 (.slice K0.next 0 1 (some 1)) = some [V.int .i64 0] := by rw [hK1]; exact sl_selfE rfl rfl (.inr rfl)
        rw [n0] at this
        exact rd_added (sl_rd this)
      have hmost : most = 140737488355328 := rfl
      obtain ⟨w, K2, a1, a2, a3, a4, a5, a6, a7⟩ := OwnK.app (bytes := 8) x1 q1 oK hadd (by rw [hmost, List.length_singleton]; omega) (by rw [hmost, List.length_singleton]; omega)
      have gp2 : K2.get p = some X := by rw [a7 p (by omega) (fun o c' h => hbp (by injection h))]; exact gp1
      have gx2 : K2.get H.next = some (.cells [.int .i64 0, .int .i32 0, .bool false, .nilslice] 30 1 true) := by rw [a7 H.next (by omega) (fun o c' h => hbn (by injection h))]; exact gx1
      rw [hX] at gp2
      obtain ⟨w1', hw1⟩ : w.one = true ∧ w.cells = [w] := by
        rcases a2 with ⟨rfl, _⟩ | ⟨b', c', rfl, _⟩ <;> exact ⟨rfl, rfl⟩
      have hK1f : K1 = ((H.set p (some (.cells [vh, .int .i64 (s.st : Int), .slice b 0 (m + 1) c, .bool s.mark, .bool s.odd, .bool false] 40 1 true))).new (.cells [.int .i64 0, .int .i32 0, .bool false, .nilslice] 30 1 true)).new (.cells [.int .i64 0] 3 1 true) := by rw [hK1, hK0, hX]
      simp (config := {maxSteps := 1000000, maxDischargeDepth := 9, implicitDefEqProofs := false}) [c35, g0, hpn, hpn1, hctl, s_control, h1, hmn, hmn2, ← hK1f, a1, gp2, gx2, w1', hw1, hnone, s_noneR, actV, show ¬ H.next = p from fun h => hpn h.symm]
      have hk2 : ∀ q, q < H.next → q ≠ p → q ≠ b → K2.get q = H.get q := fun q h1 h2 h3 => by
        rw [a7 q (by omega) (fun o c' h => h3 (by injection h with h; exact h.symm))]; exact hk q h1 h2
      have fK := a4.set (show p < K2.next by omega) (some (.cells [vh, .int .i64 (s.st : Int), w, .bool s.mark, .bool s.odd, .bool false] 40 1 true))
      have hkS : ∀ (X Y : Option Blk) q, q < H.next → q ≠ p → q ≠ b → ((K2.set p X).set H.next Y).get q = H.get q := fun X Y q h1 h2 h3 => by
        rw [Heap.get_set, if_neg (by omega), Heap.get_set, if_neg h2]; exact hk2 q h1 h2 h3
      refine ⟨w, false, ⟨by show hb.next ≤ K2.next; have := hE.1; omega, fun q hq => by rw [hkS _ _ q (by have := hE.1; omega) (by omega) (by omega)]; exact hE.2 q hq⟩, fK.set (by show H.next < K2.next; omega) _, by show H.next ≤ K2.next; omega, ⟨?_, ?_, fun _ => by rw [hs']; rfl⟩, fun q h1 h2 h3 => hkS _ _ q h1 h2 (fun e => h3 0 (m + 1) c (by rw [e])), fun b' o n c' hw' => ?_, act_none _ _ _⟩
      · rw [Heap.get_set, if_neg hpn, Heap.get_set, if_pos rfl, hs']; rfl
      · show OwnK .i64 hb _ 3 w (refP s')
        rw [hrp']
        rcases id a2 with ⟨_, hh, _⟩ | ⟨b', c', z1, z2, z3, z4, z5, z6⟩
        · rw [List.length_append, List.length_singleton] at hh; omega
        · have hb'p : b' ≠ p := by
            rintro rfl
            rw [gp2] at z6
            injection z6 with z6
            injection z6 with _ e
            exact absurd e (by decide)
          have hb'x : b' ≠ H.next := by
            rintro rfl
            rw [gx2] at z6
            injection z6 with z6
            injection z6 with _ e
            exact absurd e (by decide)
          exact .inr ⟨b', c', z1, z2, z3, z4, z5, by rw [Heap.get_set, if_neg hb'x, Heap.get_set, if_neg hb'p]; exact z6⟩
      · rcases append_block a1 hw' with h | ⟨o2, n2, c2, h⟩
        · exact .inr (by omega)
        · exact .inl ⟨o2, n2, c2, h⟩
  rw [if_neg c3]
  have e4 : (r == 59) = false := beq_eq_false_iff_ne.2 c3
  by_cases c4 : r = 63 ∧ s.begun = false
  · rw [if_pos c4]
    obtain ⟨rfl, c4⟩ := c4
    have hft : fr = true := by rw [hfr, c4]; rfl
    rw [hft] at g0
    simp (config := {maxSteps := 1000000, maxDischargeDepth := 9, implicitDefEqProofs := false}) [c35, g0, hpn, hpn1, hctl, s_control, h1, hnone, s_noneR, actV]
    exact step_boxR (s' := { s with begun := true, mark := true }) (f' := false) hE hF hp hI rfl (fun _ => rfl) fun _ => act_none _ _ _
  rw [if_neg c4]
  by_cases c5 : 32 ≤ r ∧ r ≤ 63
  · rw [if_pos c5]
    have f5 : ¬ 64 ≤ r := by omega
    by_cases hr : r = 63
    · subst hr
      have hbg : s.begun = true := by
        cases hq : s.begun with
        | true => rfl
        | false => exact absurd ⟨rfl, hq⟩ c4
      have hft : fr = false := by rw [hfr, hbg]; rfl
      rw [hft] at g0
      simp (config := {maxSteps := 1000000, maxDischargeDepth := 9, implicitDefEqProofs := false}) [c35, g0, hpn, hpn1, hctl, s_control, h1, hnone, s_noneR, actV]
      exact step_boxR (s' := { s with begun := true, odd := true }) (f' := false) hE hF hp hI rfl (fun _ => rfl) fun _ => act_none _ _ _
    · have e5 : (r == 63) = false := beq_eq_false_iff_ne.2 hr
      by_cases c7 : 48 ≤ r
      · have c8 := d1 c7
        simp (config := {maxSteps := 1000000, maxDischargeDepth := 9, implicitDefEqProofs := false}) [c35, g0, hpn, hpn1, hctl, s_control, h1, e0, e1, e2, e3, q1, q2, c7, c8, e4, e5, f5, hnone, s_noneR, actV]
        exact step_boxR (s' := { s with begun := true, odd := true }) (f' := false) hE hF hp hI rfl (fun _ => rfl) fun _ => act_none _ _ _
      · simp (config := {maxSteps := 1000000, maxDischargeDepth := 9, implicitDefEqProofs := false}) [c35, g0, hpn, hpn1, hctl, s_control, h1, e0, e1, e2, e3, q1, q2, c7, e4, e5, f5, hnone, s_noneR, actV]
        exact step_boxR (s' := { s with begun := true, odd := true }) (f' := false) hE hF hp hI rfl (fun _ => rfl) fun _ => act_none _ _ _
  rw [if_neg c5]
  have c6 : 64 ≤ r ∧ r ≤ 126 := by omega
  rw [if_pos c6]
  obtain ⟨c6, c7⟩ := c6
  have e5 : (r == 63) = false := beq_eq_false_iff_ne.2 (by omega)
  have f1 : 48 ≤ r := by omega
  have f2 : ¬ r ≤ 57 := by omega
  cases hodd : s.odd with
  | true =>
    rw [if_pos rfl]
    rw [hodd] at g0
    simp (config := {maxSteps := 1000000, maxDischargeDepth := 9, implicitDefEqProofs := false}) [c35, g0, hpn, hpn1, hctl, s_control, h1, e0, e1, e2, e3, q1, q2, f1, f2, e4, e5, c6, hnone, s_noneR, actV]
    exact step_boxR (s' := { s with st := 0, odd := true }) (f' := fr) hE hF hp hI rfl (fun h => by cases h) fun _ => act_none _ _ _
  | false =>
    rw [if_neg (by intro h; cases h)]
    rw [hodd] at g0
    obtain ⟨X, hX⟩ : ∃ X, X = Blk.cells [vh, .int .i64 0, .slice b 0 (m + 1) c, .bool s.mark, .bool false, .bool fr] 40 1 true := ⟨_, rfl⟩
    obtain ⟨K0, hK0⟩ : ∃ A, A = (H.set p (some X)).new (.cells [.int .i64 0, .int .i32 0, .bool false, .nilslice] 30 1 true) := ⟨_, rfl⟩
    obtain ⟨K1, hK1⟩ : ∃ A, A = K0.new (.cells [] 3 1 true) := ⟨_, rfl⟩
    have n0 : K0.next = H.next + 1 := by rw [hK0]; rfl
    have n1 : K1.next = H.next + 2 := by rw [hK1]; show K0.next + 1 = _; omega
    have q0 : Fresh K0 := by rw [hK0]; exact (hF.set hpl _).new _
    have q1' : Fresh K1 := by rw [hK1]; exact q0.new _
    have e1' : Ext K0 K1 := by rw [hK1]; exact Ext.new _ _
    have hk0 : ∀ q, q < H.next → q ≠ p → K0.get q = H.get q := fun q h1 h2 => by
      rw [hK0, Heap.get_new, if_neg (by show ¬ q = H.next; omega), Heap.get_set, if_neg h2]
    have hk : ∀ q, q < H.next → q ≠ p → K1.get q = H.get q := fun q h1 h2 => by
      rw [hK1, Heap.get_new, if_neg (by omega)]; exact hk0 q h1 h2
    have gp1 : K1.get p = some X := by rw [hK1, Heap.get_new, if_neg (by omega), hK0, Heap.get_new, if_neg (by show ¬ p = H.next; omega), Heap.get_set, if_pos rfl]
    have gx1 : K1.get H.next = some (.cells [.int .i64 0, .int .i32 0, .bool false, .nilslice] 30 1 true) := by rw [hK1, Heap.get_new, if_neg (by omega), hK0, Heap.get_new]; exact if_pos rfl
    have oK := ownK_setR hI hF (H' := K1) (by omega) hk
    have oK0 := ownK_setR hI hF (H' := K0) (by omega) hk0
    have hst : OwnK .i64 K0 K1 3 (.slice (H.next + 1) 0 0 (some 0)) [] := by
      have := OwnK.start .i64 K0 3
      rw [← hK1, n0] at this; exact this
    have hK1f : K1 = ((H.set p (some (.cells [vh, .int .i64 0, .slice b 0 (m + 1) c, .bool s.mark, .bool false, .bool fr] 40 1 true))).new (.cells [.int .i64 0, .int .i32 0, .bool false, .nilslice] 30 1 true)).new (.cells [] 3 1 true) := by rw [hK1, hK0, hX]
    have hK0f : (H.set p (some (.cells [vh, .int .i64 0, .slice b 0 (m + 1) c, .bool s.mark, .bool false, .bool fr] 40 1 true))).new (.cells [.int .i64 0, .int .i32 0, .bool false, .nilslice] 30 1 true) = K0 := by rw [hK0, hX]
    -- the params that are told
    have fin : ∀ wl, slK .i64 K1 wl = some s.params → ∃ w K2, appendV K1 3 1 8 (.slice (H.next + 1) 0 0 (some 0)) wl = some (w, K2) ∧ K2.get p = some X ∧ K2.get H.next = some (.cells [.int .i64 0, .int .i32 0, .bool false, .nilslice] 30 1 true) ∧ w.one = true ∧ w.cells = [w] ∧
        StepR hb H p vh (.slice b 0 (m + 1) c) ({ s with st := 0, odd := false }, some (4, r, s.mark, s.params)) (.tuple [.agg [.int .i64 4, .int .i32 r, .bool s.mark, w], .bool true]) (K2.set H.next (some (.cells [.int .i64 4, .int .i32 r, .bool s.mark, w] 30 1 true))) := by
      intro wl hwl
      have hadd := slK_added hwl
      have hmost : most = 140737488355328 := rfl
      obtain ⟨w, K2, a1, a2, a3, a4, a5, a6, a7⟩ := OwnK.app (bytes := 8) e1' q1' hst hadd (by rw [hmost, List.length_nil]; omega) (by rw [hmost, List.length_nil]; omega)
      rw [List.nil_append] at a2
      have gp2 : K2.get p = some X := by rw [a7 p (by omega) (fun o c' h => by injection h; omega)]; exact gp1
      have gx2 : K2.get H.next = some (.cells [.int .i64 0, .int .i32 0, .bool false, .nilslice] 30 1 true) := by rw [a7 H.next (by omega) (fun o c' h => by injection h; omega)]; exact gx1
      have hk2 : ∀ q, q < H.next → q ≠ p → K2.get q = H.get q := fun q h1 h2 => by
        rw [a7 q (by omega) (fun o c' h => by injection h; omega)]; exact hk q h1 h2
      have hone : w.one = true ∧ w.cells = [w] := by
        rcases a2 with ⟨rfl, _⟩ | ⟨b', c', rfl, _⟩ <;> exact ⟨rfl, rfl⟩
      have fK := a4.set (show H.next < K2.next by omega) (some (.cells [.int .i64 4, .int .i32 r, .bool s.mark, w] 30 1 true))
      have hkS : ∀ (Y : Option Blk) q, q < H.next → q ≠ p → (K2.set H.next Y).get q = H.get q := fun Y q h1 h2 => by
        rw [Heap.get_set, if_neg (by omega)]; exact hk2 q h1 h2
      refine ⟨w, K2, a1, gp2, gx2, hone.1, hone.2, ?_⟩
      refine step_finR (s' := { s with st := 0, odd := false }) (f' := fr) (vps' := .slice b 0 (m + 1) c) hE hF hp fK (by show H.next ≤ K2.next; omega) ?_ (hkS _) ?_ (fun h => by cases h) (newOr_same _ _) ⟨w, rfl, ?_, ?_⟩
      · rw [Heap.get_set, if_neg hpn, gp2, hX]; rfl
      · exact ownK_setR (s := s) hI hF (by show H.next ≤ K2.next; omega) (hkS _)
      · rcases id a2 with ⟨_, hh, _⟩ | ⟨b', c', z1, z2, z3, z4, z5, z6⟩
        · omega
        · have hb'x : b' ≠ H.next := by omega
          exact .inr ⟨b', c', z1, z2, by omega, z4, z5, by rw [Heap.get_set, if_neg hb'x]; exact z6⟩
      · intro b' o n c' o' n' c'' h1 h2
        injection h1 with h1
        rcases a2 with ⟨h0, _⟩ | ⟨b2, c2, z1, z2, z3, z4, z5, z6⟩
        · rw [h0] at h2; cases h2
        · rw [z1] at h2
          injection h2 with h2
          omega
    by_cases hov : s.over = true
    · have h16 := hov16 hov
      have hm17 : m = 16 := by
        unfold refP at hm
        rw [hov, List.length_append, h16] at hm
        simp at hm; omega
      have hrp : refP s = s.params ++ [0] := by unfold refP; rw [hov]; simp
      have sl0 := slK_sl oK0.slK
      have sl1 := slK_sl oK.slK
      have cut0 := (sl_cut (l := 0) (r := 16) (lo := none) (hi := some (.int .i64 16)) sl0 (by omega) (by show 16 ≤ m + 1; omega) (.inl ⟨rfl, rfl⟩) (.inr ⟨.i64, rfl⟩)).1
      have cut1 := (sl_cut (l := 0) (r := 16) (lo := none) (hi := some (.int .i64 16)) sl1 (by omega) (by show 16 ≤ m + 1; omega) (.inl ⟨rfl, rfl⟩) (.inr ⟨.i64, rfl⟩)).2.1
      have hwl : slK .i64 K1 (cutV 1 (.slice b 0 (m + 1) c) 0 16) = some s.params := by
        refine slK_of (cut1.trans ?_)
        rw [hrp]
        simp only [Nat.zero_mul, List.drop_zero, Nat.mul_one]
        rw [List.map_append, List.take_append_of_le_length (by rw [List.length_map]; omega), List.take_of_length_le (by rw [List.length_map]; omega)]
      obtain ⟨w, K2, a1, gp2, gx2, o1, o2, hst'⟩ := fin _ hwl
      have hlt16 : (16 : Int) < (m : Int) + 1 := by omega
      have hlt16n : 16 < m + 1 := by omega
      have gp0 : K0.get p = some X := by rw [hK0, Heap.get_new, if_neg (by show ¬ p = H.next; omega), Heap.get_set, if_pos rfl]
      rw [hX] at gp0 gp1 gp2
      generalize cutV 1 (.slice b 0 (m + 1) c) 0 16 = wl at *
      simp (config := {maxSteps := 1000000, maxDischargeDepth := 9, implicitDefEqProofs := false}) [c35, g0, hpn, hpn1, hctl, s_control, h1, e0, e1, e2, e3, q1, q2, f1, f2, e4, e5, c6, hlt16, hlt16n, hK0f, gp0, cut0, ← hK1, n0, a1, gp1, gp2, gx1, gx2, o1, o2, show ¬ H.next = p from fun h => hpn h.symm]
      exact hst'
    · have hrp : refP s = s.params := by unfold refP; rw [Bool.not_eq_true] at hov; rw [hov]; simp
      have hwl := oK.slK
      rw [hrp] at hwl hm
      obtain ⟨w, K2, a1, gp2, gx2, o1, o2, hst'⟩ := fin _ hwl
      have hlt16 : ¬ (16 : Int) < (m : Int) + 1 := by omega
      have hlt16n : ¬ 16 < m + 1 := by omega
      rw [hX] at gp1 gp2
      simp (config := {maxSteps := 1000000, maxDischargeDepth := 9, implicitDefEqProofs := false}) [c35, g0, hpn, hpn1, hctl, s_control, h1, e0, e1, e2, e3, q1, q2, f1, f2, e4, e5, c6, hlt16, hlt16n, ← hK1f, a1, gp1, gp2, gx1, gx2, o1, o2, show ¬ H.next = p from fun h => hpn h.symm]
      exact hst'

end
end Go.Proofs.YthfbefjmenddkaaDoor.VtFeeds
