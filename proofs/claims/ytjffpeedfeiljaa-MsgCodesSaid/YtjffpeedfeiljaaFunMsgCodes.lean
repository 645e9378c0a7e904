/- What the functions that the law MsgCodes reaches do, each told once, and the law by them. No condition. -/
import Derived.Test.YtjffpeedfeiljaaCodeMsgCodes
namespace Go.Proofs.Ytjffpeedfeiljaa.MsgCodes
open Go Go.Proofs.YtjffpeedfeiljaaA
set_option linter.unusedSimpArgs false
set_option linter.unusedVariables false
set_option maxHeartbeats 4000000
set_option maxRecDepth 100000
attribute [local simp] body_eq exec_seq exec_region exec_skip exec_ret exec_exit exec_cond exec_block seqS_normal seqS_ret seqS_exit seqS_none seqS_bif regS_some regS_none regS_bif condS_bool condS_true
  condS_false blockS_normal blockS_ret blockS_exit blockS_none blockS_bif finS_normal finS_ret finS_bif steps_nil steps_cons steps_guard bindS_some bindS_none bindS_bif endS_some
  endS_skip endS_none endS_bif gstep_some gstep_true gstep_false wantV_true wantV_false wantV_undef wantV_gdv_true wantV_gdv_false gdv_true gdv_false aop_pick pickS_or pickS_and
  pickS_true pickS_false bif_bool put_some put_none Env.at_put Env.n_put at_init n_init Opd.ev ressA resA pack Heap.get_new Heap.get_set nextOf_new Heap.next_set nth fillV zeros over
  eqv read_eq read_zero readB_cells one_bool one_int one_str one_ptr one_nilptr one_slice one_nilslice cells_bool cells_int cells_str cells_ptr cells_nilptr cells_slice
  cells_nilslice cells_agg aop_move aop_box aop_boxv boxvS_agg boxvS_int boxvS_bool boxvS_str boxvS_slice boxvS_nilslice aop_build buildS_some aop_buildSlice buildSliceS_some
  aop_load loadS_ptr loadB_cells loadC_some aop_loadn loadnS_ptr aop_store storeS_ptr writeB_cells aop_bin binS_lss binS_leq binS_gtr binS_geq binS_eql binS_neq binS_add binS_sub
  binS_mul binS_quo binS_rem binS_and binS_or binS_xor binS_shl binS_shr binS_seql binS_sneq binS_sadd aop_eq eqS_some_f eqS_some_t aop_un unS_not unS_neg aop_conv convS_int
  aop_convStr convStrS_str aop_intStr intStrS_int aop_strBytes strBytesS_str aop_bytesStr bytesStrS_nil bytesStrS_slice aop_mkIface aop_mkFunc aop_makeSlice makeS_int aop_sliceStr
  sliceStrS_str sliceStrB_some someS_some aop_sliceSl aop_sliceArr sliceArrS_ptr aop_fieldAddr fieldAddrS_ptr aop_field fieldS_agg fieldS_aggn aop_indexAddrA indexAddrAS_ptr
  aop_indexAddrS indexAddrSS_slice aop_indexA indexAS_agg byteS_some aop_indexStr indexStrS_str aop_extract extractS_tuple aop_call callS_func aop_append aop_copy aop_lenS lenSS_str
  aop_lenL lenLS_nil lenLS_slice aop_minmax minmaxS_min minmaxS_max aop_convSame convSameS_slice convSameB_cells aop_lenC Heap.set_newE Heap.kill_newE Heap.set_new_ne
  Heap.set_gone_ne Heap.set_set Heap.get_gone Heap.next_gone loopE_n loopE_at Runs_some Ends_some Ends_none Runs_none VCL_nil VCL_cons VC_tuple VC_agg VC_bool VC_int VC_str VC_nil
  VC_nilptr VC_ptr VC_slice_nn VC_slice_ns VC_slice_s moved_at most_val lim_val next_add newV sl_new slB_new slK_new sl_gone slB_gone slK_gone lt_slice lt_nil lt_ptr lt_cut sl_selfE
  slB_litE slK_litE asB asB_bytesOf asK asK_map slB_nil slK_nil slBs Fresh.new Fresh.gone indexE bytesStrE loadBE slice_lo slice_hi slice_lohi slB_cut vlen_cut isSl_cut one_cut
  cells_cut lenE IntKind.bits Int.fdiv_eq_ediv_of_nonneg bytesOf_length sameV_refl gval_true gval_false gval_some traceA_nil traceA_cons consT_some mapT_some stepV_none stepV_guard
  exec_any anyS_some chkOk_nil chkOk_cons sameS_some chk2_some chk1_eq envL_nil envL_cons heapL_nil heapL_cons heapO_some heapB_zero heapB_succ isWriter nth_bytesOf nth_ints str_hi
  str_lo wrap_i64 wrap_i32 wrap_u64 wrap_u32 wrap_u8
attribute [local congr] gstep_congr gval_congr
noncomputable section
/-- octet.Clone: the same bytes, in new memory. -/
def s_Clone : List V → Heap → Option (V × Heap)
  | [v], h => match slB h v with
    | some s => if s.length ≤ lim then some (newV h s.length, h.new (.cells (bytesOf s) 5 1 true)) else none
    | none => none
  | _, _ => none

theorem Clone_ok (cf : ACall) : Sum cf c22 s_Clone := by
  intro args h v h' hf hsc hlt hs
  unfold s_Clone at hs
  split at hs
  · rename_i a
    split at hs
    · rename_i s ha
      split at hs
      · rename_i hl
        simp only [Option.some.injEq, Prod.mk.injEq] at hs
        obtain ⟨rfl, rfl⟩ := hs
        have ha' := slB_ext (Ext.new h (.cells [] 5 1 true)) hf ha
        obtain ⟨v2, h2, k1, k2, k3, k4, _, k6, _⟩ := (OwnB.start h 5).app (Ext.new h _) (hf.new _) (slB_added ha') (by simpa using hl)
        obtain ⟨τ, hc⟩ := k2.canon hf hsc k3 (k6 (by simp))
        refine ⟨1, v2, h2, ?_, τ, hc⟩
        simp (config := {maxSteps := 1000000, maxDischargeDepth := 9, implicitDefEqProofs := false}) [c22, k1]
      · cases hs
    · cases hs
  · cases hs

/-- octet.Join: rows of bytes, one behind the other, in new memory. -/
def s_Join : List V → Heap → Option (V × Heap)
  | [vl], h => match sl h 1 vl with
    | some vs => match slBs h vs with
      | some ss => if ss.flatten.length ≤ lim ∧ ss.length ≤ lim then some (newV h ss.flatten.length, h.new (.cells (bytesOf ss.flatten) 5 1 true)) else none
      | none => none
    | none => none
  | _, _ => none

theorem Join_ok (cf : ACall) : Sum cf c21 s_Join := by
  intro args h v h' hf hsc hlt hs
  unfold s_Join at hs
  split at hs
  · rename_i vl
    split at hs
    · rename_i vs hvl
      split at hs
      · rename_i ss hss
        split at hs
        · rename_i hl
          simp only [Option.some.injEq, Prod.mk.injEq] at hs
          obtain ⟨rfl, rfl⟩ := hs
          obtain ⟨hl, hl2⟩ := hl
          have hlim : lim = 140737488354304 := rfl
          obtain ⟨hlen, hget⟩ := slBs_get hss
          have hvlen : vlen vl = ss.length := by have := rd_vlen (sl_rd hvl); omega
          have hsl := sl_isSl hvl
          refine ⟨ss.length + 1, ?_⟩
          have L := loop_count (cf := cf) (N := ss.length + 1) (c := c21_l0) ss.length
            (fun i e H => e.n = 18 ∧ e.at 7 = vl ∧ e.at 8 = .int .i64 (ss.length : Int) ∧ e.at 9 = .int .i64 (i : Int) ∧ OwnB h H 5 (e.at 3) ((ss.take i).flatten) ∧ Ext h H ∧ Fresh H ∧ e.at 3 ≠ .nilslice)
            (fun x e H => x = .exit 0 ∧ e.n = 18 ∧ OwnB h H 5 (e.at 3) ss.flatten ∧ Ext h H ∧ Fresh H ∧ e.at 3 ≠ .nilslice)
            (by
              rintro i e H hi ⟨hn, h7, h8, h9, ho, hE, hF, hne⟩
              obtain ⟨w, hw1, hw2⟩ := hget hi
              have hload := rd_load (sl_rd (sl_ext hE hf hvl)) hw1
              have hidx := indexE (z := 1) hsl H (k := .i64) (i := (i : Int)) (by omega) (by omega)
              simp only [Int.toNat_natCast, Nat.mul_one] at hidx
              obtain ⟨v2, h2, k1, k2, k3, k4, _, k6, _⟩ := ho.app hE hF (slB_added (slB_ext hE hf hw2)) (by
                have h1 := congrArg List.length (take_flatten_succ ss i hi)
                have h2 : ((ss.take (i + 1)).flatten).length ≤ ss.flatten.length := by
                  have := congrArg List.length (congrArg List.flatten (List.take_append_drop (i + 1) ss))
                  rw [List.flatten_append, List.length_append] at this; omega
                rw [List.length_append] at h1; omega)
              simp (config := {maxSteps := 1000000, maxDischargeDepth := 9, implicitDefEqProofs := false}) [c21_l0, hn, h7, h8, h9, hidx, hload, k1, hi, wrap_i64 (x := (i : Int) + 1) (by omega) (by omega)]
              rw [take_flatten_succ ss i hi]
              exact ⟨k2, k3, k4, k6 hne⟩)
            (by
              rintro e H ⟨hn, h7, h8, h9, ho, hE, hF, hne⟩
              rw [List.take_length] at ho
              simp (config := {maxSteps := 1000000, maxDischargeDepth := 9, implicitDefEqProofs := false}) [c21_l0, hn, h7, h8, h9]
              exact ⟨ho, hE, hF, hne⟩)
          simp (config := {maxSteps := 1000000, maxDischargeDepth := 9, implicitDefEqProofs := false}) [c21, lenE hsl, hvlen, -List.length_flatten]
          refine loop_then (K := fun r => finS _ (seqS _ _ _ (blockS _ r))) (L 0 _ _ (Nat.zero_le _) ?_ (Nat.lt_succ_self _)) ?_
          · simp (config := {maxSteps := 1000000, maxDischargeDepth := 9, implicitDefEqProofs := false})
            exact ⟨by simpa using OwnB.start h 5, Ext.new h _, hf.new _⟩
          · rintro x e' H ⟨rfl, hn, ho, hE, hF, hne⟩
            simp (config := {maxSteps := 1000000, maxDischargeDepth := 9, implicitDefEqProofs := false}) [hn, -List.length_flatten]
            exact ho.canon hf hsc hE hne
        · cases hs
      · cases hs
    · cases hs
  · cases hs

/-- Which fields a kind of messages has. -/
def fieldT (k : Int) : Bool := k == 1 || k == 3 || k == 5
def fieldB (k : Int) : Bool := k == 2 || k == 7
def fieldC (k : Int) : Bool := k == 6 || k == 8 || k == 7

/-- msg.fields. -/
def s_fields : List V → Heap → Option (V × Heap)
  | [.int .i64 k], h => some (.tuple [.bool (fieldT k), .bool (fieldB k), .bool (fieldC k)], h)
  | _, _ => none

theorem fields_ok (cf : ACall) : Sum cf c20 s_fields := by
  intro args h v h' hf hsc hlt hs
  unfold s_fields at hs
  split at hs
  · rename_i k
    simp only [Option.some.injEq, Prod.mk.injEq] at hs
    obtain ⟨rfl, rfl⟩ := hs
    have hres : bodyA cf 1 c20 [.int .i64 k] h = some (.tuple [.bool (fieldT k), .bool (fieldB k), .bool (fieldC k)], h) := by
      simp (config := {maxSteps := 1000000, maxDischargeDepth := 9, implicitDefEqProofs := false}) [c20]
      cases h1 : k == 1 <;> cases h3 : k == 3 <;> cases h5 : k == 5 <;> cases h2 : k == 2 <;> cases h7 : k == 7 <;> cases h6 : k == 6 <;> cases h8 : k == 8 <;>
        simp [fieldT, fieldB, fieldC, h1, h2, h3, h5, h6, h7, h8] <;> simp_all
    exact ⟨1, _, _, hres, Canon.same hf hsc (fun _ _ hb => hb) (by simp only [V.lt, ltL, and_self])⟩
  · cases hs

/-- Is the message right? By its kind, its text's and its bytes' lengths, its code. -/
def rightP (k : Int) (t n : Nat) (c : Int) : Bool :=
  decide (1 ≤ k) && decide (k ≤ 8) && (fieldT k || t == 0) && (fieldB k || n == 0) && (fieldC k || c == 0) && !(k == 7 && decide (1 < c)) && decide (t ≤ 400) && decide (n ≤ 3000) && decide (0 ≤ c) && decide (c ≤ 255)

theorem rightP_eq (k : Int) (t b : List Nat) (c : Int) : rightP k t.length b.length c = bif decide (k < 1) || decide (8 < k) then false
    else bif !fieldT k && !t.isEmpty || !fieldB k && decide (0 < b.length) || !fieldC k && !c == 0 then false
    else bif k == 7 && decide (1 < c) then false
    else decide ((t.length : Int) ≤ 400) && decide ((b.length : Int) ≤ 3000) && decide (0 ≤ c) && decide (c ≤ 255) := by
  have e1 : decide (k < 1) = !decide (1 ≤ k) := by rw [← decide_not]; exact decide_eq_decide.2 (by omega)
  have e2 : decide (8 < k) = !decide (k ≤ 8) := by rw [← decide_not]; exact decide_eq_decide.2 (by omega)
  have e3 : decide (0 < b.length) = !(b.length == 0) := by cases b <;> simp
  have e4 : t.isEmpty = (t.length == 0) := by cases t <;> simp
  have e5 : decide ((t.length : Int) ≤ 400) = decide (t.length ≤ 400) := decide_eq_decide.2 (by omega)
  have e6 : decide ((b.length : Int) ≤ 3000) = decide (b.length ≤ 3000) := decide_eq_decide.2 (by omega)
  rw [e1, e2, e3, e4, e5, e6]
  unfold rightP
  generalize decide (1 ≤ k) = a1
  generalize decide (k ≤ 8) = a2
  generalize (k == 7 && decide (1 < c)) = a3
  generalize decide (t.length ≤ 400) = a4
  generalize decide (b.length ≤ 3000) = a5
  generalize decide (0 ≤ c) = a6
  generalize decide (c ≤ 255) = a7
  generalize fieldT k = f1
  generalize fieldB k = f2
  generalize fieldC k = f3
  generalize (t.length == 0) = b1
  generalize (b.length == 0) = b2
  generalize (c == 0) = b3
  cases a1 <;> cases a2 <;> try rfl
  cases f1 <;> cases b1 <;> try (cases f2 <;> cases b2 <;> cases f3 <;> cases b3 <;> cases a3 <;> rfl)
  all_goals (cases f2 <;> cases b2 <;> try (cases f3 <;> cases b3 <;> cases a3 <;> rfl))
  all_goals (cases f3 <;> cases b3 <;> try (cases a3 <;> rfl))

/-- msg.Right. -/
def s_Right : List V → Heap → Option (V × Heap)
  | [.agg [.int .i64 k, .str t, v, .int .i64 c]], h => match slB h v with
    | some b => some (.bool (rightP k t.length b.length c), h)
    | none => none
  | _, _ => none

theorem Right_ok (cf : ACall) (hfields : ∀ a h, cf 20 a h = s_fields a h) : Sum cf c11 s_Right := by
  intro args h v h' hf hsc hlt hs
  unfold s_Right at hs
  split at hs
  · rename_i k t vb c
    split at hs
    · rename_i b hb
      simp only [Option.some.injEq, Prod.mk.injEq] at hs
      obtain ⟨rfl, rfl⟩ := hs
      have h1 := slB_one hb
      have h2 := slB_isSl hb
      have h3 := slB_vlen hb
      refine ⟨1, ?_⟩
      have hres : bodyA cf 1 c11 [.agg [.int .i64 k, .str t, vb, .int .i64 c]] h = some (.bool (rightP k t.length b.length c), h.new (.cells [.int .i64 k, .str t, vb, .int .i64 c] 24 1 true)) := by
        simp (config := {contextual := true, maxSteps := 1000000, maxDischargeDepth := 9, implicitDefEqProofs := false}) [c11, hfields, s_fields, h1, lenE h2, h3]
        rw [rightP_eq]
        cases decide (k < 1) || decide (8 < k) <;> cases !fieldT k && !t.isEmpty || !fieldB k && decide (0 < b.length) || !fieldC k && !c == 0 <;> cases k == 7 && decide (1 < c) <;> rfl
      exact ⟨_, _, hres, Canon.same hf hsc (fun _ _ hb => (Ext.new h _).get hf hb) (by simp only [V.lt])⟩
    · cases hs
  · cases hs

theorem rightP_true {k c : Int} {t n : Nat} (h : rightP k t n c = true) : 1 ≤ k ∧ k ≤ 8 ∧ t ≤ 400 ∧ n ≤ 3000 ∧ 0 ≤ c ∧ c ≤ 255 := by
  simp only [rightP, Bool.and_eq_true, decide_eq_true_eq] at h
  omega

theorem fields_apart (k : Int) : (fieldT k = true → fieldB k = false ∧ fieldC k = false) := by
  intro h
  simp only [fieldT, Bool.or_eq_true, beq_iff_eq] at h
  rcases h with (h | h) | h <;> subst h <;> exact ⟨rfl, rfl⟩

theorem rightP_eq2 (k : Int) (t b : List Nat) (c : Int) : rightP k t.length b.length c = bif decide (400 < (t.length : Int)) || decide (3000 < (b.length : Int)) || decide (c < 0) || decide (255 < c) then false
    else decide (1 ≤ k) && decide (k ≤ 8) && (k == 1 || k == 3 || k == 5 || t.isEmpty) && (k == 2 || k == 7 || (b.length : Int) == 0) && (k == 6 || k == 8 || k == 7 || c == 0) && (!k == 7 || decide (c ≤ 1)) := by
  have e1 : decide (400 < (t.length : Int)) = !decide (t.length ≤ 400) := by rw [← decide_not]; exact decide_eq_decide.2 (by omega)
  have e2 : decide (3000 < (b.length : Int)) = !decide (b.length ≤ 3000) := by rw [← decide_not]; exact decide_eq_decide.2 (by omega)
  have e3 : decide (c < 0) = !decide (0 ≤ c) := by rw [← decide_not]; exact decide_eq_decide.2 (by omega)
  have e4 : decide (255 < c) = !decide (c ≤ 255) := by rw [← decide_not]; exact decide_eq_decide.2 (by omega)
  have e5 : t.isEmpty = (t.length == 0) := by cases t <;> simp
  have e6 : ((b.length : Int) == 0) = (b.length == 0) := by cases b <;> simp <;> omega
  have e7 : decide (c ≤ 1) = !decide (1 < c) := by rw [← decide_not]; exact decide_eq_decide.2 (by omega)
  rw [e1, e2, e3, e4, e5, e6, e7]
  unfold rightP fieldT fieldB fieldC
  generalize decide (1 ≤ k) = a1
  generalize decide (k ≤ 8) = a2
  generalize decide (t.length ≤ 400) = a4
  generalize decide (b.length ≤ 3000) = a5
  generalize decide (0 ≤ c) = a6
  generalize decide (c ≤ 255) = a7
  generalize decide (1 < c) = a8
  generalize (k == 7) = a3
  generalize (t.length == 0) = b1
  generalize (b.length == 0) = b2
  generalize (c == 0) = b3
  cases a1 <;> cases a2 <;> cases a4 <;> cases a5 <;> cases a6 <;> cases a7 <;> try (simp; done)
  all_goals (cases a3 <;> cases a8 <;> simp)

/-- portholeref22.RightMsg: the same. -/
theorem RightMsg_ok (cf : ACall) : Sum cf c19 s_Right := by
  intro args h v h' hf hsc hlt hs
  unfold s_Right at hs
  split at hs
  · rename_i k t vb c
    split at hs
    · rename_i b hb
      simp only [Option.some.injEq, Prod.mk.injEq] at hs
      obtain ⟨rfl, rfl⟩ := hs
      have h0 := slB_cells hb
      have h1 := slB_one hb
      have h2 := slB_isSl hb
      have h3 := slB_vlen hb
      refine ⟨1, ?_⟩
      have hres : bodyA cf 1 c19 [.agg [.int .i64 k, .str t, vb, .int .i64 c]] h = some (.bool (rightP k t.length b.length c), h.new (.cells [.int .i64 k, .str t, vb, .int .i64 c] 24 1 true)) := by
        simp (config := {contextual := true, maxSteps := 1000000, maxDischargeDepth := 9, implicitDefEqProofs := false}) [c19, h0, h1, h2, h3]
        rw [rightP_eq2]
        cases decide (400 < (t.length : Int)) || decide (3000 < (b.length : Int)) || decide (c < 0) || decide (255 < c) <;> rfl
      exact ⟨_, _, hres, Canon.keep hf hsc (Ext.new h _) (by simp only [V.lt])⟩
    · cases hs
  · cases hs

/-- A message's bytes. -/
def encP (k : Int) (t b : List Nat) (c : Int) : List Nat := k.toNat :: ((if fieldC k then [c.toNat] else []) ++ t ++ b)

/-- A message's bytes in new memory, or the refusal. -/
def s_Encode : List V → Heap → Option (V × Heap)
  | [.agg [.int .i64 k, .str t, v, .int .i64 c]], h => match slB h v with
    | some b => if t.all (· < 256) then
        if rightP k t.length b.length c then some (.tuple [newV h (encP k t b c).length, .int .i64 0], h.new (.cells (bytesOf (encP k t b c)) 5 1 true))
        else some (.tuple [.nilslice, .int .i64 1], h)
      else none
    | none => none
  | _, _ => none

theorem Encode_ok (cf : ACall) (hfields : ∀ a h, cf 20 a h = s_fields a h) (hRight : ∀ a h, cf 11 a h = s_Right a h) (hJoin : ∀ a h, cf 21 a h = s_Join a h) : Sum cf c8 s_Encode := by
  intro args h v h' hf hsc hlt hs
  unfold s_Encode at hs
  split at hs
  · rename_i k t vb c
    split at hs
    · rename_i b hb
      split at hs
      · rename_i ht
        have ht' : ∀ y ∈ t, y < 256 := by simpa using ht
        have hlv : V.lt h.next vb := by simp only [ltL, V.lt] at hlt; exact hlt.1.2.2.1
        have hlk := lt_add hlv
        have h1 := slB_one hb
        have h0 := slB_cells hb
        have h2 := slB_isSl hb
        have h3 := slB_vlen hb
        split at hs
        · rename_i hr
          simp only [Option.some.injEq, Prod.mk.injEq] at hs
          obtain ⟨rfl, rfl⟩ := hs
          obtain ⟨q1, q2, q3, q4, q5, q6⟩ := rightP_true hr
          refine ⟨1, ?_⟩
          cases hC : fieldC k with
          | false =>
            simp (config := {maxSteps := 1000000, maxDischargeDepth := 9, implicitDefEqProofs := false}) [c8, hfields, s_fields, hRight, s_Right, h0, h1, hb, hr, hJoin, s_Join, hf, hC, hlv, hlk, asB_bytesOf ht', q1, q5, show (0:Int) ≤ k from by omega, show k < 256 from by omega, show c < 256 from by omega, show t.length ≤ 140737488355328 from by omega, wrap_u8 (x := k) (by omega) (by omega), wrap_u8 (x := c) (by omega) (by omega)]
            rw [if_pos (by omega)]
            simp (config := {maxSteps := 1000000, maxDischargeDepth := 9, implicitDefEqProofs := false})
            have he : encP k t b c = k.toNat :: (t ++ b) := by simp [encP, hC]
            rw [he]
            refine Canon.tail hf hsc (by repeat (first | exact Ext.refl _ | apply Ext.trans_new)) (flat_bytes _) ?_
            simp
          | true =>
            simp (config := {maxSteps := 1000000, maxDischargeDepth := 9, implicitDefEqProofs := false}) [c8, hfields, s_fields, hRight, s_Right, h0, h1, hb, hr, hJoin, s_Join, hf, hC, hlv, hlk, asB_bytesOf ht', q1, q5, show (0:Int) ≤ k from by omega, show k < 256 from by omega, show c < 256 from by omega, show t.length ≤ 140737488355328 from by omega, wrap_u8 (x := k) (by omega) (by omega), wrap_u8 (x := c) (by omega) (by omega), appendV, appendXs, added]
            rw [if_pos (by omega)]
            simp (config := {maxSteps := 1000000, maxDischargeDepth := 9, implicitDefEqProofs := false})
            have he : encP k t b c = k.toNat :: c.toNat :: (t ++ b) := by simp [encP, hC]
            rw [he]
            refine Canon.tail hf hsc (by repeat (first | exact Ext.refl _ | apply Ext.trans_new)) (flat_bytes _) ?_
            simp
        · rename_i hr
          simp only [Option.some.injEq, Prod.mk.injEq] at hs
          obtain ⟨rfl, rfl⟩ := hs
          have hr : rightP k t.length b.length c = false := by simpa using hr
          have hres : bodyA cf 1 c8 [.agg [.int .i64 k, .str t, vb, .int .i64 c]] h = some (.tuple [.nilslice, .int .i64 1], h.new (.cells [.int .i64 k, .str t, vb, .int .i64 c] 24 1 true)) := by
            simp (config := {maxSteps := 1000000, maxDischargeDepth := 9, implicitDefEqProofs := false}) [c8, hRight, s_Right, h0, h1, hb, hr, hf, hlv, hlk]
          exact ⟨1, _, _, hres, Canon.same hf hsc (fun _ _ hb => (Ext.new h _).get hf hb) (by simp only [V.lt, ltL, and_self])⟩
      · cases hs
    · cases hs
  · cases hs

theorem encP_length (k : Int) (t b : List Nat) (c : Int) : (encP k t b c).length = t.length + b.length + (if fieldC k then 1 else 0) + 1 := by
  unfold encP
  split <;> simp <;> omega
theorem encP_zero (k : Int) (t b : List Nat) (c : Int) (d : Nat) : (encP k t b c).getD 0 d = k.toNat := rfl
theorem encP_lt {k : Int} {t b : List Nat} {c : Int} (hk : k < 256) (hc : c < 256) (ht : ∀ y ∈ t, y < 256) (hb : ∀ y ∈ b, y < 256) : ∀ y ∈ encP k t b c, y < 256 := by
  intro y hy
  simp only [encP, List.mem_cons, List.mem_append] at hy
  rcases hy with rfl | (hy | hy) | hy
  · omega
  · split at hy <;> simp at hy; omega
  · exact ht y hy
  · exact hb y hy
theorem encP_asB {k : Int} {t b : List Nat} {c : Int} (hk : k < 256) (hc : c < 256) (ht : ∀ y ∈ t, y < 256) (hb : ∀ y ∈ b, y < 256) : asB (bytesOf (encP k t b c)) = some (encP k t b c) := asB_bytesOf (encP_lt hk hc ht hb)
theorem encP_pos (k : Int) (t b : List Nat) (c : Int) : 0 < (encP k t b c).length := by rw [encP_length]; omega
theorem encP_lt1 (k : Int) (t b : List Nat) (c : Int) : (((encP k t b c).length : Int) < 1) = False := by
  have := encP_pos k t b c
  simp only [eq_iff_iff, iff_false]; omega
theorem encP_get0 (k : Int) (t b : List Nat) (c : Int) (h : 0 < (encP k t b c).length) : (encP k t b c)[0]'h = k.toNat := rfl

/-- portholeref22.EncodeMsg: the same. -/
theorem EncodeMsg_ok (cf : ACall) (hRight : ∀ a h, cf 19 a h = s_Right a h) : Sum cf c17 s_Encode := by
  intro args h v h' hf hsc hlt hs
  unfold s_Encode at hs
  split at hs
  · rename_i k t vb c
    split at hs
    · rename_i b hb
      split at hs
      · rename_i ht
        have ht' : ∀ y ∈ t, y < 256 := by simpa using ht
        have hlv : V.lt h.next vb := by simp only [ltL, V.lt] at hlt; exact hlt.1.2.2.1
        have hlk := lt_add hlv
        have h1 := slB_one hb
        have h0 := slB_cells hb
        have h2 := slB_isSl hb
        have h3 := slB_vlen hb
        split at hs
        · rename_i hr
          simp only [Option.some.injEq, Prod.mk.injEq] at hs
          obtain ⟨rfl, rfl⟩ := hs
          obtain ⟨q1, q2, q3, q4, q5, q6⟩ := rightP_true hr
          have hlim : lim = 140737488354304 := rfl
          refine ⟨1, ?_⟩
          cases hC : fieldC k with
          | false =>
            have hC' := hC
            simp only [fieldC, Bool.or_eq_false_iff] at hC'
            obtain ⟨⟨c6, c8⟩, c7⟩ := hC'
            generalize hA : Blk.cells [V.int .i64 k, .str t, vb, .int .i64 c] 24 1 true = A
            have ho : OwnB h ((h.new A).new (.cells (bytesOf [k.toNat]) 5 1 true)) 5 (.slice (h.next + 1) 0 1 (some 1)) [k.toNat] := .inr ⟨h.next + 1, some 1, rfl, .inr rfl, by omega, by simp, by simp [bytesOf], by simp [Heap.get_new]⟩
            have hF := ((hf.new A).new (.cells (bytesOf [k.toNat]) 5 1 true))
            have hE : Ext h ((h.new A).new (.cells (bytesOf [k.toNat]) 5 1 true)) := (Ext.new h _).trans_new _
            obtain ⟨v1, H1, a1, a2, a3, a4, a5, a6, a7⟩ := ho.app hE hF (x := .str t) (s := t) rfl (by simp; omega)
            have hg : H1.get h.next = some A := by rw [a7 h.next (by simp) (by intro o c hh; simp at hh)]; simp [Heap.get_new]
            obtain ⟨v2, H2, b1, b2, b3, b4, b5, b6, b7⟩ := a2.app a3 a4 (slB_added (slB_ext a3 hf hb)) (by simp; omega)
            obtain ⟨τ, hc⟩ := b2.canon hf hsc b3 (b6 (a6 (by simp)))
            have hn1 : bytesOf [k.toNat] = [.int .u8 k] := by simp [bytesOf]; omega
            rw [hn1] at a1
            subst hA
            simp (config := {maxSteps := 1000000, maxDischargeDepth := 9, implicitDefEqProofs := false}) [c17, hRight, s_Right, h0, h1, hb, hr, hlv, hlk, c6, c7, c8, wrap_u8 (x := k) (by omega) (by omega), a1, hg, b1]
            have he : encP k t b c = [k.toNat] ++ t ++ b := by simp [encP, hC]
            rw [he]
            exact ⟨τ, hc.pair (by simp only [V.lt])⟩
          | true =>
            generalize hA : Blk.cells [V.int .i64 k, .str t, vb, .int .i64 c] 24 1 true = A
            have hn1 : bytesOf [k.toNat] = [.int .u8 k] := by simp [bytesOf]; omega
            have hn2 : bytesOf [c.toNat] = [.int .u8 c] := by simp [bytesOf]; omega
            have hn3 : bytesOf [k.toNat, c.toNat] = [.int .u8 k, .int .u8 c] := by simp [bytesOf]; omega
            generalize hB : ((((h.new A).new (.cells [.int .u8 k] 5 1 true)).new (.cells [.int .u8 c] 5 1 true)).new (.cells [.int .u8 k, .int .u8 c] 5 1 true)) = B
            have ho : OwnB h B 5 (.slice (h.next + 3) 0 2 none) [k.toNat, c.toNat] := .inr ⟨h.next + 3, none, rfl, .inl rfl, by omega, by subst hB; simp, by simp [bytesOf], by subst hB; rw [hn3]; simp [Heap.get_new]⟩
            have hF : Fresh B := by subst hB; exact ((((hf.new _).new _).new _).new _)
            have hE : Ext h B := by subst hB; exact ((((Ext.new h _).trans_new _).trans_new _).trans_new _)
            obtain ⟨v1, H1, a1, a2, a3, a4, a5, a6, a7⟩ := ho.app hE hF (x := .str t) (s := t) rfl (by simp; omega)
            have hg : H1.get h.next = some A := by rw [a7 h.next (by subst hB; simp) (by intro o c hh; simp at hh)]; subst hB; simp [Heap.get_new]
            obtain ⟨v2, H2, b1, b2, b3, b4, b5, b6, b7⟩ := a2.app a3 a4 (slB_added (slB_ext a3 hf hb)) (by simp; omega)
            obtain ⟨τ, hc⟩ := b2.canon hf hsc b3 (b6 (a6 (by simp)))
            subst hB; subst hA
            have he : encP k t b c = [k.toNat, c.toNat] ++ t ++ b := by simp [encP, hC]
            have hfin : ∃ τ, Canon h.next H2 (.tuple [v2, .int .i64 0]) (h.new (.cells (bytesOf (encP k t b c)) 5 1 true)) (.tuple [newV h (encP k t b c).length, .int .i64 0]) τ := by
              rw [he]; exact ⟨τ, hc.pair (by simp only [V.lt])⟩
            have a0 : appendV (((h.new (.cells [.int .i64 k, .str t, vb, .int .i64 c] 24 1 true)).new (.cells [.int .u8 k] 5 1 true)).new (.cells [.int .u8 c] 5 1 true)) 5 1 1 (.slice (h.next + 1) 0 1 (some 1)) (.slice (h.next + 2) 0 1 (some 1)) = some (.slice (h.next + 3) 0 2 none, ((((h.new (.cells [.int .i64 k, .str t, vb, .int .i64 c] 24 1 true)).new (.cells [.int .u8 k] 5 1 true)).new (.cells [.int .u8 c] 5 1 true)).new (.cells [.int .u8 k, .int .u8 c] 5 1 true))) := by
              simp (config := {maxSteps := 1000000, maxDischargeDepth := 9, implicitDefEqProofs := false}) [appendV, appendXs, added]
            have hk678 : (k == 6) = true ∨ ((k == 6) = false ∧ (k == 8) = true) ∨ ((k == 6) = false ∧ (k == 8) = false ∧ (k == 7) = true) := by
              simp only [fieldC, Bool.or_eq_true, beq_iff_eq] at hC
              simp only [beq_iff_eq, beq_eq_false_iff_ne]; omega
            have hkw := wrap_u8 (x := k) (by omega) (by omega)
            have hcw := wrap_u8 (x := c) (by omega) (by omega)
            rcases hk678 with c6 | ⟨c6, c8⟩ | ⟨c6, c8, c7⟩
            · simp (config := {maxSteps := 1000000, maxDischargeDepth := 9, implicitDefEqProofs := false}) [c17, hRight, s_Right, h0, h1, hb, hr, hlv, hlk, hkw, hcw, a0, a1, hg, b1, c6]
              exact hfin
            · simp (config := {maxSteps := 1000000, maxDischargeDepth := 9, implicitDefEqProofs := false}) [c17, hRight, s_Right, h0, h1, hb, hr, hlv, hlk, hkw, hcw, a0, a1, hg, b1, c6, c8]
              exact hfin
            · simp (config := {maxSteps := 1000000, maxDischargeDepth := 9, implicitDefEqProofs := false}) [c17, hRight, s_Right, h0, h1, hb, hr, hlv, hlk, hkw, hcw, a0, a1, hg, b1, c6, c8, c7]
              exact hfin
        · rename_i hr
          have hr : rightP k t.length b.length c = false := by simpa using hr
          simp only [Option.some.injEq, Prod.mk.injEq] at hs
          obtain ⟨rfl, rfl⟩ := hs
          refine ⟨1, ?_⟩
          simp (config := {maxSteps := 1000000, maxDischargeDepth := 9, implicitDefEqProofs := false}) [c17, hRight, s_Right, h1, hb, hr, hf, hlv, hlk]
          exact Canon.keep hf hsc (Ext.new h _) (by simp only [V.lt, ltL, and_self])
      · cases hs
    · cases hs
  · cases hs

/-- portholehand.Pick: the remainder that is not below 0. -/
def s_Pick : List V → Heap → Option (V × Heap)
  | [.int .i64 n, .int .i64 m], h => if 0 < m ∧ m ≤ 4611686018427387904 then some (.int .i64 (n % m), h) else none
  | _, _ => none

theorem tmod_emod (n m : Int) (hm : 0 < m) : (if n.tmod m < 0 then n.tmod m + m else n.tmod m) = n % m := by
  rw [Int.tmod_eq_emod]
  have h1 := Int.emod_nonneg n (show m ≠ 0 by omega)
  have h2 := Int.emod_lt_of_pos n hm
  have h3 : (m.natAbs : Int) = m := by omega
  split <;> split <;> omega

theorem Pick_ok (cf : ACall) : Sum cf c13 s_Pick := by
  intro args h v h' hf hsc hlt hs
  unfold s_Pick at hs
  split at hs
  · rename_i n m
    split at hs
    · rename_i hm
      simp only [Option.some.injEq, Prod.mk.injEq] at hs
      obtain ⟨rfl, rfl⟩ := hs
      have hm0 : ¬ m = 0 := by omega
      have h1 := tmod_emod n m hm.1
      have h2 := Int.emod_nonneg n hm0
      have h3 := Int.emod_lt_of_pos n hm.1
      refine ⟨1, ?_⟩
      have hres : bodyA cf 1 c13 [.int .i64 n, .int .i64 m] h = some (.int .i64 (n % m), h) := by
        by_cases hq : n.tmod m < 0
        · have hd : decide (n.tmod m < 0) = true := by simpa using hq
          rw [if_pos hq] at h1
          simp (config := {maxSteps := 1000000, maxDischargeDepth := 9, implicitDefEqProofs := false}) [c13, hm0, hd]
          simp only [cond_true, h1, Option.some.injEq, Prod.mk.injEq, and_true, V.int.injEq, true_and]
          exact wrap_i64 (by omega) (by omega)
        · have hd : decide (n.tmod m < 0) = false := by simpa using hq
          rw [if_neg hq] at h1
          simp (config := {maxSteps := 1000000, maxDischargeDepth := 9, implicitDefEqProofs := false}) [c13, hm0, hd]
          simp only [cond_false, h1]
      exact ⟨_, _, hres, Canon.same hf hsc (fun _ _ hb => hb) (by simp only [V.lt])⟩
    · cases hs
  · cases hs

/-- The raw numbers, and the bytes of them. -/
def lcg (x : Int) : Int := (x * 6364136223846793005 + 1442695040888963407) % 18446744073709551616
def lcgs : Nat → Int → Int
  | 0, x => x
  | i + 1, x => lcg (lcgs i x)
def rawB (n : Nat) (x : Int) : List Nat := (List.range n).map fun i => ((lcgs (i + 1) x) / 1099511627776 % 256).toNat

theorem rawB_succ (n : Nat) (x : Int) : rawB (n + 1) x = rawB n x ++ [((lcgs (n + 1) x) / 1099511627776 % 256).toNat] := by simp [rawB, List.range_succ]
theorem rawB_length (n : Nat) (x : Int) : (rawB n x).length = n := by simp [rawB]
theorem rawB_lt (n : Nat) (x : Int) : ∀ y ∈ rawB n x, y < 256 := by
  intro y hy
  simp only [rawB, List.mem_map] at hy
  obtain ⟨i, _, rfl⟩ := hy
  omega
theorem lcg_wrap (x : Int) : wrapF .u64 (wrapF .u64 (x * 6364136223846793005) + 1442695040888963407) = lcg x := by
  simp only [wrap_u64_mod, lcg, Int.emod_add_emod]
theorem fdiv_nat (a : Int) (b : Nat) (hb : 0 < b) : a.fdiv (b : Int) = a / (b : Int) := Int.fdiv_eq_ediv_of_nonneg a (by omega)

/-- portholehand.Bytes. -/
def s_Bytes : List V → Heap → Option (V × Heap)
  | [.int .i64 n, .int .i64 seed], h => if 0 ≤ n ∧ n ≤ lim then some (newV h n.toNat, h.new (.cells (bytesOf (rawB n.toNat (seed % 18446744073709551616))) 5 1 true)) else none
  | _, _ => none

theorem Bytes_ok (cf : ACall) : Sum cf c16 s_Bytes := by
  intro args h v h' hf hsc hlt hs
  unfold s_Bytes at hs
  split at hs
  · rename_i n0 seed
    split at hs
    · rename_i hn0
      simp only [Option.some.injEq, Prod.mk.injEq] at hs
      obtain ⟨rfl, rfl⟩ := hs
      obtain ⟨n, rfl⟩ : ∃ n : Nat, n0 = (n : Int) := ⟨n0.toNat, by omega⟩
      have hlim : lim = 140737488354304 := rfl
      have hmost : most = 140737488355328 := rfl
      simp only [Int.toNat_natCast] at *
      generalize hx : seed % 18446744073709551616 = x0
      refine ⟨n + 1, ?_⟩
      have L := loop_count (cf := cf) (N := n + 1) (c := c16_l0) n
        (fun i e H => e.n = 27 ∧ e.at 0 = .int .i64 (n : Int) ∧ e.at 5 = .slice h.next 0 n (some n) ∧ e.at 6 = .int .u64 (lcgs i x0) ∧ e.at 7 = .int .i64 (i : Int) ∧ H = h.new (.cells (bytesOf (rawB i x0) ++ List.replicate (n - i) (.int .u8 0)) 5 1 true))
        (fun x e H => x = .exit 0 ∧ e.n = 27 ∧ e.at 5 = .slice h.next 0 n (some n) ∧ H = h.new (.cells (bytesOf (rawB n x0)) 5 1 true))
        (by
          rintro i e H hi ⟨hn, h0, h5, h6, h7, rfl⟩
          obtain ⟨k, hk⟩ : ∃ k, n - i = k + 1 := ⟨n - i - 1, by omega⟩
          have hk2 : n - (i + 1) = k := by omega
          have hov := over_fill (bytesOf (rawB i x0)) (.int .u8 0) (.int .u8 ((lcgs (i + 1) x0) / 1099511627776 % 256)) k
          rw [bytesOf_length, rawB_length] at hov
          have hb : bytesOf (rawB (i + 1) x0) = bytesOf (rawB i x0) ++ [.int .u8 ((lcgs (i + 1) x0) / 1099511627776 % 256)] := by
            rw [rawB_succ, bytesOf_append]
            simp only [bytesOf, List.map_cons, List.map_nil, Int.ofNat_eq_natCast]
            rw [Int.toNat_of_nonneg (by omega)]
          simp (config := {maxSteps := 1000000, maxDischargeDepth := 9, implicitDefEqProofs := false}) [c16_l0, hn, h0, h5, h6, h7, hi, hk, hk2, hb, hov, -over, rawB_length, wrap_u8_mod, lcg_wrap, lcgs, wrap_i64 (x := (i : Int) + 1) (by omega) (by omega)]
          rw [show lcg (lcgs i x0) = lcgs (i + 1) x0 from rfl, hov]
          simp)
        (by
          rintro e H ⟨hn, h0, h5, h6, h7, rfl⟩
          simp (config := {maxSteps := 1000000, maxDischargeDepth := 9, implicitDefEqProofs := false}) [c16_l0, hn, h0, h5, h6, h7])
      simp (config := {maxSteps := 1000000, maxDischargeDepth := 9, implicitDefEqProofs := false}) [c16, hx, show n ≤ 140737488355328 from by omega, show (n : Int) ≤ 140737488355328 from by omega, wrap_u64_mod]
      refine loop_then (K := fun r => finS _ (seqS _ _ _ (blockS _ r))) (L 0 _ _ (Nat.zero_le _) ?_ (Nat.lt_succ_self _)) ?_
      · simp (config := {maxSteps := 1000000, maxDischargeDepth := 9, implicitDefEqProofs := false}) [lcgs, rawB, bytesOf_nil]
      · rintro x e' H ⟨rfl, hn, h5, rfl⟩
        simp (config := {maxSteps := 1000000, maxDischargeDepth := 9, implicitDefEqProofs := false}) [hn, h5]
        exact Canon.made hf hsc rfl (by simp [bytesOf_length, rawB_length]) (flat_bytes _)
    · cases hs
  · cases hs

/-- What bytes are as a message: kind, text, bytes if it has some, code, and 0 or the refusal. -/
def decP (s : List Nat) : Int × List Nat × Option (List Nat) × Int × Int :=
  match s with
  | [] => (0, [], none, 0, 7)
  | k :: r =>
    if fieldC k then
      match r with
      | [] => (0, [], none, 0, 7)
      | c :: r => if fieldB k then (if rightP k 0 r.length c then (k, [], some r, c, 0) else (0, [], none, 0, 5))
        else if r = [] ∧ rightP k 0 0 c then (k, [], none, c, 0) else (0, [], none, 0, 5)
    else if fieldT k then (if rightP k r.length 0 0 then (k, r, none, 0, 0) else (0, [], none, 0, 5))
    else if fieldB k then (if rightP k 0 r.length 0 then (k, [], some r, 0, 0) else (0, [], none, 0, 5))
    else if r = [] ∧ rightP k 0 0 0 then (k, [], none, 0, 0) else (0, [], none, 0, 5)

/-- msg.Decode: bytes in new memory. -/
def s_Decode : List V → Heap → Option (V × Heap)
  | [v], h => match slB h v with
    | some s => if s.length ≤ lim then (match decP s with
      | (k, t, none, c, e) => some (.tuple [.agg [.int .i64 k, .str t, .nilslice, .int .i64 c], .int .i64 e], h)
      | (k, t, some b, c, e) => some (.tuple [.agg [.int .i64 k, .str t, newV h b.length, .int .i64 c], .int .i64 e], h.new (.cells (bytesOf b) 5 1 true))) else none
    | none => none
  | _, _ => none

/-- The same, the bytes being a part of what was handed in. -/
def s_DecodeRef : List V → Heap → Option (V × Heap)
  | [v], h => match slB h v with
    | some s => match decP s with
      | (k, t, none, c, e) => some (.tuple [.agg [.int .i64 k, .str t, .nilslice, .int .i64 c], .int .i64 e], h)
      | (k, t, some b, c, e) => some (.tuple [.agg [.int .i64 k, .str t, if fieldC k then cutV 1 (cutV 1 v 1 (vlen v)) 1 (vlen v - 1) else cutV 1 v 1 (vlen v), .int .i64 c], .int .i64 e], h)
    | none => none
  | _, _ => none

theorem Decode_ok (cf : ACall) (hfields : ∀ a h, cf 20 a h = s_fields a h) (hRight : ∀ a h, cf 11 a h = s_Right a h) (hClone : ∀ a h, cf 22 a h = s_Clone a h) : Sum cf c9 s_Decode := by
  intro args h v h' hf hsc hlt hs
  unfold s_Decode at hs
  split at hs
  · rename_i vb
    split at hs
    · rename_i s hb
      split at hs
      · rename_i hlen
        have hlv : V.lt h.next vb := by simp only [ltL] at hlt; exact hlt.1
        have hlk := lt_add hlv
        have h2 := slB_isSl hb
        have hvl := slB_vlen hb
        have hlt := slB_lt hb
        have hle : s.length ≤ 140737488354304 := hlen
        obtain ⟨n, hn⟩ : ∃ n, n = s.length := ⟨_, rfl⟩
        rw [← hn] at hvl
        refine ⟨1, ?_⟩
        cases s with
        | nil =>
          simp only [List.length_nil] at hn
          subst hn
          simp only [decP, Option.some.injEq, Prod.mk.injEq] at hs
          obtain ⟨rfl, rfl⟩ := hs
          simp (config := {maxSteps := 1000000, maxDischargeDepth := 9, implicitDefEqProofs := false}) [c9, hb, hlv, hlk, h2, hvl]
          exact Canon.keep hf hsc (by repeat (first | exact Ext.refl _ | apply Ext.trans_new)) (by simp [V.lt, ltL])
        | cons k r =>
          have hk : k < 256 := hlt k (by simp)
          have hkw := wrap_i64 (x := (k : Int)) (by omega) (by omega)
          simp only [List.length_cons] at hn hlen hle
          have e0 : ((n : Int) == 0) = false := by simp; omega
          have e1 : 0 < n := by omega
          have e2 : 1 ≤ n := by omega
          have e3 : (1 : Int) ≤ n := by omega
          have e4 : (k :: r).take n = k :: r := List.take_of_length_le (by simp; omega)
          cases hC : fieldC (k : Int) with
          | true =>
            have hT : fieldT (k : Int) = false := by cases hT : fieldT (k : Int); rfl; exact absurd (fields_apart _ hT).2 (by simp [hC])
            cases r with
            | nil =>
              simp only [decP, hC, if_true, Option.some.injEq, Prod.mk.injEq] at hs
              obtain ⟨rfl, rfl⟩ := hs
              have e5 : n = 1 := by simpa using hn
              subst e5
              simp (config := {maxSteps := 1000000, maxDischargeDepth := 9, implicitDefEqProofs := false}) [c9, hb, hlv, hlk, hvl, h2, hkw, hfields, s_fields, hC]
              exact Canon.keep hf hsc (by repeat (first | exact Ext.refl _ | apply Ext.trans_new)) (by simp [V.lt, ltL])
            | cons c r =>
              have hc : c < 256 := hlt c (by simp)
              have hbr : asB (bytesOf r) = some r := asB_bytesOf fun x hx => hlt x (by simp [hx])
              have hcw := wrap_i64 (x := (c : Int)) (by omega) (by omega)
              simp only [List.length_cons] at hn hlen hle
              have hl0 : r.length ≤ 140737488354304 := by omega
              have e5 : (((n - 1 : Nat) : Int) == 0) = false := by simp; omega
              have e6 : 0 < n - 1 := by omega
              have e7 : 1 ≤ n - 1 := by omega
              have f1 : 1 < n := by omega
              have f2 : 2 ≤ n := by omega
              have f3 : (2 : Int) ≤ n := by omega
              have f4 : (1 : Int) < n := by omega
              have e8 : (1 : Int) ≤ ((n - 1 : Nat) : Int) := by omega
              have e9 : (c :: r).take (n - 1) = c :: r := List.take_of_length_le (by simp; omega)
              cases hB : fieldB (k : Int) with
              | true =>
                cases hR : rightP k 0 r.length c with
                | true =>
                  simp only [decP, hC, hB, hR, if_true, Option.some.injEq, Prod.mk.injEq] at hs
                  obtain ⟨rfl, rfl⟩ := hs
                  simp (config := {maxSteps := 1000000, maxDischargeDepth := 9, implicitDefEqProofs := false}) [c9, hb, hlv, hlk, hvl, h2, hkw, hfields, s_fields, hClone, s_Clone, hRight, s_Right, hC, e0, e1, e2, e3, e4, hcw, hbr, hl0, hT, hB, hR, e5, e6, e7, e8, e9, f1, f2, f3, f4]
                  exact Canon.tail hf hsc (by repeat (first | exact Ext.refl _ | apply Ext.trans_new)) (flat_bytes _) (by simp)
                | false =>
                  simp only [decP, hC, hB, hR, if_true, Bool.false_eq_true, if_false, Option.some.injEq, Prod.mk.injEq] at hs
                  obtain ⟨rfl, rfl⟩ := hs
                  simp (config := {maxSteps := 1000000, maxDischargeDepth := 9, implicitDefEqProofs := false}) [c9, hb, hlv, hlk, hvl, h2, hkw, hfields, s_fields, hClone, s_Clone, hRight, s_Right, hC, e0, e1, e2, e3, e4, hcw, hbr, hl0, hT, hB, hR, e5, e6, e7, e8, e9, f1, f2, f3, f4]
                  exact Canon.keep hf hsc (by repeat (first | exact Ext.refl _ | apply Ext.trans_new)) (by simp [V.lt, ltL])
              | false =>
                cases r with
                | nil =>
                  have e10 : n = 2 := by simpa using hn
                  subst e10
                  cases hR : rightP k 0 0 c with
                  | true =>
                    simp only [decP, hC, hB, hR, if_true, Bool.false_eq_true, if_false, true_and, Option.some.injEq, Prod.mk.injEq] at hs
                    obtain ⟨rfl, rfl⟩ := hs
                    simp (config := {maxSteps := 1000000, maxDischargeDepth := 9, implicitDefEqProofs := false}) [c9, hb, hlv, hlk, hvl, h2, hkw, hfields, s_fields, hClone, s_Clone, hRight, s_Right, hC, e0, e1, e2, e3, e4, hcw, hT, hB, hR]
                    exact Canon.keep hf hsc (by repeat (first | exact Ext.refl _ | apply Ext.trans_new)) (by simp [V.lt, ltL])
                  | false =>
                    simp only [decP, hC, hB, hR, if_true, Bool.false_eq_true, if_false, and_false, Option.some.injEq, Prod.mk.injEq] at hs
                    obtain ⟨rfl, rfl⟩ := hs
                    simp (config := {maxSteps := 1000000, maxDischargeDepth := 9, implicitDefEqProofs := false}) [c9, hb, hlv, hlk, hvl, h2, hkw, hfields, s_fields, hClone, s_Clone, hRight, s_Right, hC, e0, e1, e2, e3, e4, hcw, hT, hB, hR]
                    exact Canon.keep hf hsc (by repeat (first | exact Ext.refl _ | apply Ext.trans_new)) (by simp [V.lt, ltL])
                | cons d r =>
                  simp only [List.length_cons] at hn
                  have f5 : 2 < n := by omega
                  have f6 : 0 < n - 1 - 1 := by omega
                  have f7 : 0 < n - 2 := by omega
                  simp only [decP, hC, hB, if_true, Bool.false_eq_true, if_false, reduceCtorEq, false_and, Option.some.injEq, Prod.mk.injEq] at hs
                  obtain ⟨rfl, rfl⟩ := hs
                  simp (config := {maxSteps := 1000000, maxDischargeDepth := 9, implicitDefEqProofs := false}) [c9, hb, hlv, hlk, hvl, h2, hkw, hfields, s_fields, hClone, s_Clone, hRight, s_Right, hC, e0, e1, e2, e3, e4, hcw, hT, hB, e5, e6, e7, e8, e9, f1, f2, f3, f4, f5, f6, f7]
                  exact Canon.keep hf hsc (by repeat (first | exact Ext.refl _ | apply Ext.trans_new)) (by simp [V.lt, ltL])
          | false =>
            cases hT : fieldT (k : Int) with
            | true =>
              have hB := (fields_apart _ hT).1
              cases hR : rightP k r.length 0 0 with
              | true =>
                simp only [decP, hC, hT, hR, if_true, Bool.false_eq_true, if_false, Option.some.injEq, Prod.mk.injEq] at hs
                obtain ⟨rfl, rfl⟩ := hs
                simp (config := {maxSteps := 1000000, maxDischargeDepth := 9, implicitDefEqProofs := false}) [c9, hb, hlv, hlk, hvl, h2, hkw, hfields, s_fields, hClone, s_Clone, hRight, s_Right, hC, e0, e1, e2, e3, e4, hT, hB, hR]
                exact Canon.keep hf hsc (by repeat (first | exact Ext.refl _ | apply Ext.trans_new)) (by simp [V.lt, ltL])
              | false =>
                simp only [decP, hC, hT, hR, if_true, Bool.false_eq_true, if_false, Option.some.injEq, Prod.mk.injEq] at hs
                obtain ⟨rfl, rfl⟩ := hs
                simp (config := {maxSteps := 1000000, maxDischargeDepth := 9, implicitDefEqProofs := false}) [c9, hb, hlv, hlk, hvl, h2, hkw, hfields, s_fields, hClone, s_Clone, hRight, s_Right, hC, e0, e1, e2, e3, e4, hT, hB, hR]
                exact Canon.keep hf hsc (by repeat (first | exact Ext.refl _ | apply Ext.trans_new)) (by simp [V.lt, ltL])
            | false =>
              have hl0 : r.length ≤ 140737488354304 := by omega
              have hbr : asB (bytesOf r) = some r := asB_bytesOf fun x hx => hlt x (by simp [hx])
              cases hB : fieldB (k : Int) with
              | true =>
                cases hR : rightP k 0 r.length 0 with
                | true =>
                  simp only [decP, hC, hT, hB, hR, if_true, Bool.false_eq_true, if_false, Option.some.injEq, Prod.mk.injEq] at hs
                  obtain ⟨rfl, rfl⟩ := hs
                  simp (config := {maxSteps := 1000000, maxDischargeDepth := 9, implicitDefEqProofs := false}) [c9, hb, hlv, hlk, hvl, h2, hkw, hfields, s_fields, hClone, s_Clone, hRight, s_Right, hC, e0, e1, e2, e3, e4, hbr, hl0, hT, hB, hR]
                  exact Canon.tail hf hsc (by repeat (first | exact Ext.refl _ | apply Ext.trans_new)) (flat_bytes _) (by simp)
                | false =>
                  simp only [decP, hC, hT, hB, hR, if_true, Bool.false_eq_true, if_false, Option.some.injEq, Prod.mk.injEq] at hs
                  obtain ⟨rfl, rfl⟩ := hs
                  simp (config := {maxSteps := 1000000, maxDischargeDepth := 9, implicitDefEqProofs := false}) [c9, hb, hlv, hlk, hvl, h2, hkw, hfields, s_fields, hClone, s_Clone, hRight, s_Right, hC, e0, e1, e2, e3, e4, hbr, hl0, hT, hB, hR]
                  exact Canon.keep hf hsc (by repeat (first | exact Ext.refl _ | apply Ext.trans_new)) (by simp [V.lt, ltL])
              | false =>
                cases r with
                | nil =>
                  have e10 : n = 1 := by simpa using hn
                  subst e10
                  cases hR : rightP k 0 0 0 with
                  | true =>
                    simp only [decP, hC, hT, hB, hR, if_true, Bool.false_eq_true, if_false, true_and, Option.some.injEq, Prod.mk.injEq] at hs
                    obtain ⟨rfl, rfl⟩ := hs
                    simp (config := {maxSteps := 1000000, maxDischargeDepth := 9, implicitDefEqProofs := false}) [c9, hb, hlv, hlk, hvl, h2, hkw, hfields, s_fields, hClone, s_Clone, hRight, s_Right, hC, e0, e1, e2, e3, e4, hT, hB, hR]
                    exact Canon.keep hf hsc (by repeat (first | exact Ext.refl _ | apply Ext.trans_new)) (by simp [V.lt, ltL])
                  | false =>
                    simp only [decP, hC, hT, hB, hR, if_true, Bool.false_eq_true, if_false, and_false, Option.some.injEq, Prod.mk.injEq] at hs
                    obtain ⟨rfl, rfl⟩ := hs
                    simp (config := {maxSteps := 1000000, maxDischargeDepth := 9, implicitDefEqProofs := false}) [c9, hb, hlv, hlk, hvl, h2, hkw, hfields, s_fields, hClone, s_Clone, hRight, s_Right, hC, e0, e1, e2, e3, e4, hT, hB, hR]
                    exact Canon.keep hf hsc (by repeat (first | exact Ext.refl _ | apply Ext.trans_new)) (by simp [V.lt, ltL])
                | cons d r =>
                  simp only [List.length_cons] at hn
                  have f5 : 1 < n := by omega
                  have f6 : 0 < n - 1 := by omega
                  simp only [decP, hC, hT, hB, if_true, Bool.false_eq_true, if_false, reduceCtorEq, false_and, Option.some.injEq, Prod.mk.injEq] at hs
                  obtain ⟨rfl, rfl⟩ := hs
                  simp (config := {maxSteps := 1000000, maxDischargeDepth := 9, implicitDefEqProofs := false}) [c9, hb, hlv, hlk, hvl, h2, hkw, hfields, s_fields, hClone, s_Clone, hRight, s_Right, hC, e0, e1, e2, e3, e4, hT, hB, f5, f6]
                  exact Canon.keep hf hsc (by repeat (first | exact Ext.refl _ | apply Ext.trans_new)) (by simp [V.lt, ltL])
      · cases hs
    · cases hs
  · cases hs

/-- portholeref22.DecodeMsg: the same, the bytes being those that were handed in. -/
theorem kinds_T {k : Int} (h : fieldT k = true) : (k == 1) = true ∨ ((k == 1) = false ∧ (k == 3) = true) ∨ ((k == 1) = false ∧ (k == 3) = false ∧ (k == 5) = true) := by
  simp only [fieldT, Bool.or_eq_true, beq_iff_eq] at h
  simp only [beq_iff_eq, beq_eq_false_iff_ne]; omega
theorem kinds_C {k : Int} (h : fieldC k = true) : (k == 1) = false ∧ (k == 3) = false ∧ (k == 5) = false ∧ (k == 2) = false ∧ ((k == 6) = true ∧ (k == 7) = false ∨ ((k == 6) = false ∧ (k == 8) = true ∧ (k == 7) = false) ∨ ((k == 6) = false ∧ (k == 8) = false ∧ (k == 7) = true)) := by
  simp only [fieldC, Bool.or_eq_true, beq_iff_eq] at h
  simp only [beq_iff_eq, beq_eq_false_iff_ne]; omega
theorem kinds_B {k : Int} (h : fieldC k = false) (h' : fieldB k = true) : (k == 1) = false ∧ (k == 3) = false ∧ (k == 5) = false ∧ (k == 2) = true := by
  simp only [fieldC, Bool.or_eq_false_iff, beq_eq_false_iff_ne] at h
  simp only [fieldB, Bool.or_eq_true, beq_iff_eq] at h'
  simp only [beq_iff_eq, beq_eq_false_iff_ne]; omega
theorem kinds_N {k : Int} (h : fieldC k = false) (h' : fieldB k = false) (h'' : fieldT k = false) : (k == 1) = false ∧ (k == 3) = false ∧ (k == 5) = false ∧ (k == 2) = false ∧ (k == 6) = false ∧ (k == 8) = false ∧ (k == 7) = false := by
  simp only [fieldC, Bool.or_eq_false_iff] at h
  simp only [fieldB, Bool.or_eq_false_iff] at h'
  simp only [fieldT, Bool.or_eq_false_iff] at h''
  exact ⟨h''.1.1, h''.1.2, h''.2, h'.1, h.1.1, h.1.2, h.2⟩
theorem fieldB_7 {k : Int} (h : fieldC k = true) : fieldB k = (k == 7) := by
  simp only [fieldC, Bool.or_eq_true, beq_iff_eq] at h
  have h2 : (k == 2) = false := by simp only [beq_eq_false_iff_ne]; omega
  simp [fieldB, h2]

theorem DecodeMsg_ok (cf : ACall) (hRight : ∀ a h, cf 19 a h = s_Right a h) : Sum cf c18 s_DecodeRef := by
  intro args h v h' hf hsc hlt hs
  unfold s_DecodeRef at hs
  split at hs
  · rename_i vb
    split at hs
    · rename_i s hb
      have hlv : V.lt h.next vb := by simp only [ltL] at hlt; exact hlt.1
      have hlk := lt_add hlv
      have h2 := slB_isSl hb
      have h1 := slB_one hb
      have hvl := slB_vlen hb
      have hlt := slB_lt hb
      obtain ⟨n, hn⟩ : ∃ n, n = s.length := ⟨_, rfl⟩
      rw [← hn] at hvl
      refine ⟨1, ?_⟩
      cases s with
      | nil =>
        simp only [List.length_nil] at hn
        subst hn
        simp only [decP, Option.some.injEq, Prod.mk.injEq] at hs
        obtain ⟨rfl, rfl⟩ := hs
        simp (config := {maxSteps := 1000000, maxDischargeDepth := 9, implicitDefEqProofs := false}) [c18, hb, hlv, hlk, h2, hvl]
        exact Canon.keep hf hsc (by repeat (first | exact Ext.refl _ | apply Ext.trans_new)) (by simp [V.lt, ltL, hlv])
      | cons k r =>
        have hk : k < 256 := hlt k (by simp)
        have hkw := wrap_i64 (x := (k : Int)) (by omega) (by omega)
        simp only [List.length_cons] at hn
        have e0 : ((n : Int) == 0) = false := by simp; omega
        have e1 : 0 < n := by omega
        have e2 : 1 ≤ n := by omega
        have e3 : (1 : Int) ≤ n := by omega
        have e4 : (k :: r).take n = k :: r := List.take_of_length_le (by simp; omega)
        cases hC : fieldC (k : Int) with
        | true =>
          obtain ⟨c1, c3, c5, c2, hkk⟩ := kinds_C hC
          cases r with
          | nil =>
            simp only [decP, hC, if_true, Option.some.injEq, Prod.mk.injEq] at hs
            obtain ⟨rfl, rfl⟩ := hs
            have e5 : n = 1 := by simpa using hn
            subst e5
            rcases hkk with ⟨c6, c7⟩ | ⟨c6, c8, c7⟩ | ⟨c6, c8, c7⟩
            · simp (config := {maxSteps := 1000000, maxDischargeDepth := 9, implicitDefEqProofs := false}) [c18, hb, hlv, hlk, hvl, h2, hkw, c1, c2, c3, c5, c6, c7]
              exact Canon.keep hf hsc (by repeat (first | exact Ext.refl _ | apply Ext.trans_new)) (by simp [V.lt, ltL, hlv])
            · simp (config := {maxSteps := 1000000, maxDischargeDepth := 9, implicitDefEqProofs := false}) [c18, hb, hlv, hlk, hvl, h2, hkw, c1, c2, c3, c5, c6, c7, c8]
              exact Canon.keep hf hsc (by repeat (first | exact Ext.refl _ | apply Ext.trans_new)) (by simp [V.lt, ltL, hlv])
            · simp (config := {maxSteps := 1000000, maxDischargeDepth := 9, implicitDefEqProofs := false}) [c18, hb, hlv, hlk, hvl, h2, hkw, c1, c2, c3, c5, c6, c7, c8]
              exact Canon.keep hf hsc (by repeat (first | exact Ext.refl _ | apply Ext.trans_new)) (by simp [V.lt, ltL, hlv])
          | cons c r =>
            have hc : c < 256 := hlt c (by simp)
            have hcw := wrap_i64 (x := (c : Int)) (by omega) (by omega)
            simp only [List.length_cons] at hn
            have e5 : (((n - 1 : Nat) : Int) == 0) = false := by simp; omega
            have e6 : 0 < n - 1 := by omega
            have e7 : 1 ≤ n - 1 := by omega
            have e8 : (1 : Int) ≤ ((n - 1 : Nat) : Int) := by omega
            have e9 : (c :: r).take (n - 1) = c :: r := List.take_of_length_le (by simp; omega)
            have f1 : 1 < n := by omega
            have f2 : 2 ≤ n := by omega
            have f8 : n - 1 - 1 = r.length := by omega
            have f9 : n - 2 = r.length := by omega
            rcases hkk with ⟨c6, c7⟩ | ⟨c6, c8, c7⟩ | ⟨c6, c8, c7⟩
            · have hB : fieldB (k : Int) = false := by rw [fieldB_7 hC]; exact c7
              cases r with
              | nil =>
                have e10 : n = 2 := by simpa using hn
                subst e10
                cases hR : rightP k 0 0 c with
                | true =>
                  simp only [decP, hC, hB, hR, if_true, Bool.false_eq_true, if_false, true_and, Option.some.injEq, Prod.mk.injEq] at hs
                  obtain ⟨rfl, rfl⟩ := hs
                  simp (config := {maxSteps := 1000000, maxDischargeDepth := 9, implicitDefEqProofs := false}) [c18, h1, hb, hlv, hlk, hvl, h2, hkw, hRight, s_Right, e0, e1, e2, e3, e4, hcw, c1, c2, c3, c5, c6, c7, hR]
                  exact Canon.keep hf hsc (by repeat (first | exact Ext.refl _ | apply Ext.trans_new)) (by simp [V.lt, ltL, hlv])
                | false =>
                  simp only [decP, hC, hB, hR, if_true, Bool.false_eq_true, if_false, and_false, Option.some.injEq, Prod.mk.injEq] at hs
                  obtain ⟨rfl, rfl⟩ := hs
                  simp (config := {maxSteps := 1000000, maxDischargeDepth := 9, implicitDefEqProofs := false}) [c18, h1, hb, hlv, hlk, hvl, h2, hkw, hRight, s_Right, e0, e1, e2, e3, e4, hcw, c1, c2, c3, c5, c6, c7, hR]
                  exact Canon.keep hf hsc (by repeat (first | exact Ext.refl _ | apply Ext.trans_new)) (by simp [V.lt, ltL, hlv])
              | cons d r =>
                simp only [List.length_cons] at hn
                have f5 : 2 < n := by omega
                have f6 : 0 < n - 1 - 1 := by omega
                have f7 : 0 < n - 2 := by omega
                simp only [decP, hC, hB, if_true, Bool.false_eq_true, if_false, reduceCtorEq, false_and, Option.some.injEq, Prod.mk.injEq] at hs
                obtain ⟨rfl, rfl⟩ := hs
                simp (config := {maxSteps := 1000000, maxDischargeDepth := 9, implicitDefEqProofs := false}) [c18, h1, hb, hlv, hlk, hvl, h2, hkw, hRight, s_Right, e0, e1, e2, e3, e4, hcw, e5, e6, e7, e8, e9, f1, f2, f5, f6, f7, c1, c2, c3, c5, c6, c7]
                exact Canon.keep hf hsc (by repeat (first | exact Ext.refl _ | apply Ext.trans_new)) (by simp [V.lt, ltL, hlv])
            · have hB : fieldB (k : Int) = false := by rw [fieldB_7 hC]; exact c7
              cases r with
              | nil =>
                have e10 : n = 2 := by simpa using hn
                subst e10
                cases hR : rightP k 0 0 c with
                | true =>
                  simp only [decP, hC, hB, hR, if_true, Bool.false_eq_true, if_false, true_and, Option.some.injEq, Prod.mk.injEq] at hs
                  obtain ⟨rfl, rfl⟩ := hs
                  simp (config := {maxSteps := 1000000, maxDischargeDepth := 9, implicitDefEqProofs := false}) [c18, h1, hb, hlv, hlk, hvl, h2, hkw, hRight, s_Right, e0, e1, e2, e3, e4, hcw, c1, c2, c3, c5, c6, c7, c8, hR]
                  exact Canon.keep hf hsc (by repeat (first | exact Ext.refl _ | apply Ext.trans_new)) (by simp [V.lt, ltL, hlv])
                | false =>
                  simp only [decP, hC, hB, hR, if_true, Bool.false_eq_true, if_false, and_false, Option.some.injEq, Prod.mk.injEq] at hs
                  obtain ⟨rfl, rfl⟩ := hs
                  simp (config := {maxSteps := 1000000, maxDischargeDepth := 9, implicitDefEqProofs := false}) [c18, h1, hb, hlv, hlk, hvl, h2, hkw, hRight, s_Right, e0, e1, e2, e3, e4, hcw, c1, c2, c3, c5, c6, c7, c8, hR]
                  exact Canon.keep hf hsc (by repeat (first | exact Ext.refl _ | apply Ext.trans_new)) (by simp [V.lt, ltL, hlv])
              | cons d r =>
                simp only [List.length_cons] at hn
                have f5 : 2 < n := by omega
                have f6 : 0 < n - 1 - 1 := by omega
                have f7 : 0 < n - 2 := by omega
                simp only [decP, hC, hB, if_true, Bool.false_eq_true, if_false, reduceCtorEq, false_and, Option.some.injEq, Prod.mk.injEq] at hs
                obtain ⟨rfl, rfl⟩ := hs
                simp (config := {maxSteps := 1000000, maxDischargeDepth := 9, implicitDefEqProofs := false}) [c18, h1, hb, hlv, hlk, hvl, h2, hkw, hRight, s_Right, e0, e1, e2, e3, e4, hcw, e5, e6, e7, e8, e9, f1, f2, f5, f6, f7, c1, c2, c3, c5, c8, c6, c7]
                exact Canon.keep hf hsc (by repeat (first | exact Ext.refl _ | apply Ext.trans_new)) (by simp [V.lt, ltL, hlv])
            · have hB : fieldB (k : Int) = true := by rw [fieldB_7 hC]; exact c7
              cases hR : rightP k 0 r.length c with
              | true =>
                simp only [decP, hC, hB, hR, if_true, hvl, Option.some.injEq, Prod.mk.injEq] at hs
                obtain ⟨rfl, rfl⟩ := hs
                simp (config := {maxSteps := 1000000, maxDischargeDepth := 9, implicitDefEqProofs := false}) [c18, h1, hb, hlv, hlk, hvl, h2, hkw, hRight, s_Right, e0, e1, e2, e3, e4, hcw, e5, e6, e7, e8, e9, f1, f2, f8, f9, c1, c2, c3, c5, c6, c7, c8, hR]
                exact Canon.keep hf hsc (by repeat (first | exact Ext.refl _ | apply Ext.trans_new)) (by simp [V.lt, ltL, hlv])
              | false =>
                simp only [decP, hC, hB, hR, if_true, Bool.false_eq_true, if_false, Option.some.injEq, Prod.mk.injEq] at hs
                obtain ⟨rfl, rfl⟩ := hs
                simp (config := {maxSteps := 1000000, maxDischargeDepth := 9, implicitDefEqProofs := false}) [c18, h1, hb, hlv, hlk, hvl, h2, hkw, hRight, s_Right, e0, e1, e2, e3, e4, hcw, e5, e6, e7, e8, e9, f1, f2, f8, f9, c1, c2, c3, c5, c6, c7, c8, hR]
                exact Canon.keep hf hsc (by repeat (first | exact Ext.refl _ | apply Ext.trans_new)) (by simp [V.lt, ltL, hlv])
        | false =>
          cases hT : fieldT (k : Int) with
          | true =>
            rcases kinds_T hT with c1 | ⟨c1, c3⟩ | ⟨c1, c3, c5⟩
            · cases hR : rightP k r.length 0 0 with
              | true =>
                simp only [decP, hC, hT, hR, if_true, Bool.false_eq_true, if_false, Option.some.injEq, Prod.mk.injEq] at hs
                obtain ⟨rfl, rfl⟩ := hs
                simp (config := {maxSteps := 1000000, maxDischargeDepth := 9, implicitDefEqProofs := false}) [c18, h1, hb, hlv, hlk, hvl, h2, hkw, hRight, s_Right, e0, e1, e2, e3, e4, c1, hR]
                exact Canon.keep hf hsc (by repeat (first | exact Ext.refl _ | apply Ext.trans_new)) (by simp [V.lt, ltL, hlv])
              | false =>
                simp only [decP, hC, hT, hR, if_true, Bool.false_eq_true, if_false, Option.some.injEq, Prod.mk.injEq] at hs
                obtain ⟨rfl, rfl⟩ := hs
                simp (config := {maxSteps := 1000000, maxDischargeDepth := 9, implicitDefEqProofs := false}) [c18, h1, hb, hlv, hlk, hvl, h2, hkw, hRight, s_Right, e0, e1, e2, e3, e4, c1, hR]
                exact Canon.keep hf hsc (by repeat (first | exact Ext.refl _ | apply Ext.trans_new)) (by simp [V.lt, ltL, hlv])
            · cases hR : rightP k r.length 0 0 with
              | true =>
                simp only [decP, hC, hT, hR, if_true, Bool.false_eq_true, if_false, Option.some.injEq, Prod.mk.injEq] at hs
                obtain ⟨rfl, rfl⟩ := hs
                simp (config := {maxSteps := 1000000, maxDischargeDepth := 9, implicitDefEqProofs := false}) [c18, h1, hb, hlv, hlk, hvl, h2, hkw, hRight, s_Right, e0, e1, e2, e3, e4, c1, c3, hR]
                exact Canon.keep hf hsc (by repeat (first | exact Ext.refl _ | apply Ext.trans_new)) (by simp [V.lt, ltL, hlv])
              | false =>
                simp only [decP, hC, hT, hR, if_true, Bool.false_eq_true, if_false, Option.some.injEq, Prod.mk.injEq] at hs
                obtain ⟨rfl, rfl⟩ := hs
                simp (config := {maxSteps := 1000000, maxDischargeDepth := 9, implicitDefEqProofs := false}) [c18, h1, hb, hlv, hlk, hvl, h2, hkw, hRight, s_Right, e0, e1, e2, e3, e4, c1, c3, hR]
                exact Canon.keep hf hsc (by repeat (first | exact Ext.refl _ | apply Ext.trans_new)) (by simp [V.lt, ltL, hlv])
            · cases hR : rightP k r.length 0 0 with
              | true =>
                simp only [decP, hC, hT, hR, if_true, Bool.false_eq_true, if_false, Option.some.injEq, Prod.mk.injEq] at hs
                obtain ⟨rfl, rfl⟩ := hs
                simp (config := {maxSteps := 1000000, maxDischargeDepth := 9, implicitDefEqProofs := false}) [c18, h1, hb, hlv, hlk, hvl, h2, hkw, hRight, s_Right, e0, e1, e2, e3, e4, c1, c3, c5, hR]
                exact Canon.keep hf hsc (by repeat (first | exact Ext.refl _ | apply Ext.trans_new)) (by simp [V.lt, ltL, hlv])
              | false =>
                simp only [decP, hC, hT, hR, if_true, Bool.false_eq_true, if_false, Option.some.injEq, Prod.mk.injEq] at hs
                obtain ⟨rfl, rfl⟩ := hs
                simp (config := {maxSteps := 1000000, maxDischargeDepth := 9, implicitDefEqProofs := false}) [c18, h1, hb, hlv, hlk, hvl, h2, hkw, hRight, s_Right, e0, e1, e2, e3, e4, c1, c3, c5, hR]
                exact Canon.keep hf hsc (by repeat (first | exact Ext.refl _ | apply Ext.trans_new)) (by simp [V.lt, ltL, hlv])
          | false =>
            cases hB : fieldB (k : Int) with
            | true =>
              obtain ⟨c1, c3, c5, c2⟩ := kinds_B hC hB
              have f9 : n - 1 = r.length := by omega
              cases hR : rightP k 0 r.length 0 with
              | true =>
                simp only [decP, hC, hT, hB, hR, if_true, Bool.false_eq_true, if_false, hvl, Option.some.injEq, Prod.mk.injEq] at hs
                obtain ⟨rfl, rfl⟩ := hs
                simp (config := {maxSteps := 1000000, maxDischargeDepth := 9, implicitDefEqProofs := false}) [c18, h1, hb, hlv, hlk, hvl, h2, hkw, hRight, s_Right, e0, e1, e2, e3, e4, c1, c2, c3, c5, f9, hR]
                exact Canon.keep hf hsc (by repeat (first | exact Ext.refl _ | apply Ext.trans_new)) (by simp [V.lt, ltL, hlv])
              | false =>
                simp only [decP, hC, hT, hB, hR, if_true, Bool.false_eq_true, if_false, Option.some.injEq, Prod.mk.injEq] at hs
                obtain ⟨rfl, rfl⟩ := hs
                simp (config := {maxSteps := 1000000, maxDischargeDepth := 9, implicitDefEqProofs := false}) [c18, h1, hb, hlv, hlk, hvl, h2, hkw, hRight, s_Right, e0, e1, e2, e3, e4, c1, c2, c3, c5, f9, hR]
                exact Canon.keep hf hsc (by repeat (first | exact Ext.refl _ | apply Ext.trans_new)) (by simp [V.lt, ltL, hlv])
            | false =>
              obtain ⟨c1, c3, c5, c2, c6, c8, c7⟩ := kinds_N hC hB hT
              cases r with
              | nil =>
                have e10 : n = 1 := by simpa using hn
                subst e10
                cases hR : rightP k 0 0 0 with
                | true =>
                  simp only [decP, hC, hT, hB, hR, if_true, Bool.false_eq_true, if_false, true_and, Option.some.injEq, Prod.mk.injEq] at hs
                  obtain ⟨rfl, rfl⟩ := hs
                  simp (config := {maxSteps := 1000000, maxDischargeDepth := 9, implicitDefEqProofs := false}) [c18, h1, hb, hlv, hlk, hvl, h2, hkw, hRight, s_Right, e0, e1, e2, e3, e4, c1, c2, c3, c5, c6, c7, c8, hR]
                  exact Canon.keep hf hsc (by repeat (first | exact Ext.refl _ | apply Ext.trans_new)) (by simp [V.lt, ltL, hlv])
                | false =>
                  simp only [decP, hC, hT, hB, hR, if_true, Bool.false_eq_true, if_false, and_false, Option.some.injEq, Prod.mk.injEq] at hs
                  obtain ⟨rfl, rfl⟩ := hs
                  simp (config := {maxSteps := 1000000, maxDischargeDepth := 9, implicitDefEqProofs := false}) [c18, h1, hb, hlv, hlk, hvl, h2, hkw, hRight, s_Right, e0, e1, e2, e3, e4, c1, c2, c3, c5, c6, c7, c8, hR]
                  exact Canon.keep hf hsc (by repeat (first | exact Ext.refl _ | apply Ext.trans_new)) (by simp [V.lt, ltL, hlv])
              | cons d r =>
                simp only [List.length_cons] at hn
                have f5 : 1 < n := by omega
                have f6 : 0 < n - 1 := by omega
                simp only [decP, hC, hT, hB, if_true, Bool.false_eq_true, if_false, reduceCtorEq, false_and, Option.some.injEq, Prod.mk.injEq] at hs
                obtain ⟨rfl, rfl⟩ := hs
                simp (config := {maxSteps := 1000000, maxDischargeDepth := 9, implicitDefEqProofs := false}) [c18, h1, hb, hlv, hlk, hvl, h2, hkw, hRight, s_Right, e0, e1, e2, e3, e4, f5, f6, c1, c2, c3, c5, c6, c7, c8]
                exact Canon.keep hf hsc (by repeat (first | exact Ext.refl _ | apply Ext.trans_new)) (by simp [V.lt, ltL, hlv])
    · cases hs
  · cases hs

/-- msg.Client. -/
def s_Client : List V → Heap → Option (V × Heap)
  | [.int .i64 k], h => some (.bool (decide (1 ≤ k) && decide (k ≤ 4)), h)
  | _, _ => none
theorem Client_ok (cf : ACall) : Sum cf c15 s_Client := by
  intro args h v h' hf hsc hlt hs
  unfold s_Client at hs
  split at hs
  · rename_i k
    simp only [Option.some.injEq, Prod.mk.injEq] at hs
    obtain ⟨rfl, rfl⟩ := hs
    refine ⟨1, ?_⟩
    simp (config := {contextual := true, maxSteps := 1000000, maxDischargeDepth := 9, implicitDefEqProofs := false}) [c15]
    exact Canon.keep hf hsc (Ext.refl _) (by simp only [V.lt])
  · cases hs

/-- portholeref22.SameMsg: are two the same? -/
def s_SameMsg : List V → Heap → Option (V × Heap)
  | [.agg [.int .i64 k, .str t, v, .int .i64 c], .agg [.int .i64 k', .str t', v', .int .i64 c']], h => match slB h v, slB h v' with
    | some b, some b' => some (.bool (k == k' && t == t' && b == b' && c == c'), h)
    | _, _ => none
  | _, _ => none
theorem SameMsg_ok (cf : ACall) : Sum cf c10 s_SameMsg := by
  intro args h v h' hf hsc hlt hs
  unfold s_SameMsg at hs
  split at hs
  · rename_i k t va c k' t' vb c'
    split at hs
    · rename_i a b ha hb
      simp only [Option.some.injEq, Prod.mk.injEq] at hs
      obtain ⟨rfl, rfl⟩ := hs
      have h0 := slB_cells ha
      have h1 := slB_one ha
      have h0' := slB_cells hb
      have h1' := slB_one hb
      simp only [ltL, V.lt] at hlt
      have hla : V.lt h.next va := hlt.1.2.2.1
      have hlb : V.lt h.next vb := hlt.2.1.2.2.1
      have hka := lt_add hla
      have hkb := lt_add hlb
      refine ⟨1, ?_⟩
      simp (config := {contextual := true, maxSteps := 1000000, maxDischargeDepth := 9, implicitDefEqProofs := false}) [c10, h0, h1, h0', h1', ha, hb, hla, hlb, hka, hkb]
      exact Canon.keep hf hsc (by repeat (first | exact Ext.refl _ | apply Ext.trans_new)) (by simp only [V.lt])
    · cases hs
  · cases hs

/-- portholelaw26.message: a message that is near to be right. -/
def s_message : List V → Heap → Option (V × Heap)
  | [.agg [.int .i64 k, .str t, v, .int .i64 c], .bool bare], h => match slB h v with
    | some _ =>
      let k' := k % 10
      let c' := c % 300
      some (if bare then
        (if fieldT k' then .agg [.int .i64 k', .str t, .nilslice, .int .i64 0]
        else if k' == 2 then .agg [.int .i64 k', .str [], v, .int .i64 0]
        else if k' == 7 then .agg [.int .i64 k', .str [], v, .int .i64 (c' % 3)]
        else if fieldC k' then .agg [.int .i64 k', .str [], .nilslice, .int .i64 c']
        else if k' == 4 then .agg [.int .i64 4, .str [], .nilslice, .int .i64 0]
        else .agg [.int .i64 k', .str t, v, .int .i64 c'])
      else .agg [.int .i64 k', .str t, v, .int .i64 c'], h)
    | none => none
  | _, _ => none

theorem tmod3 (c : Int) (h : 0 ≤ c) : c.tmod 3 = c % 3 := Int.tmod_eq_emod_of_nonneg h

theorem message_ok (cf : ACall) (hPick : ∀ a h, cf 13 a h = s_Pick a h) : Sum cf c7 s_message := by
  intro args h v h' hf hsc hlt hs
  unfold s_message at hs
  split at hs
  · rename_i k t vb c bare
    split at hs
    · rename_i b hb
      have h0 := slB_cells hb
      have h1 := slB_one hb
      have hlv : V.lt h.next vb := by simp only [ltL, V.lt] at hlt; exact hlt.1.2.2.1
      have hk0 := Int.emod_nonneg k (show (10 : Int) ≠ 0 by omega)
      have hk1 := Int.emod_lt_of_pos k (show (0 : Int) < 10 by omega)
      have hc0 := Int.emod_nonneg c (show (300 : Int) ≠ 0 by omega)
      have hc1 := Int.emod_lt_of_pos c (show (0 : Int) < 300 by omega)
      simp only [Option.some.injEq, Prod.mk.injEq] at hs
      obtain ⟨rfl, rfl⟩ := hs
      generalize hkq : k % 10 = k' at *
      generalize hcc : c % 300 = c' at *
      have h3 := tmod3 c' hc0
      refine ⟨1, ?_⟩
      cases bare with
      | false =>
        simp (config := {maxSteps := 1000000, maxDischargeDepth := 9, implicitDefEqProofs := false}) [c7, hPick, s_Pick, h0, h1, hcc, hkq]
        exact Canon.keep hf hsc (by repeat (first | exact Ext.refl _ | apply Ext.trans_new)) (by simp [V.lt, ltL, hlv])
      | true =>
        have hkk : k' = 0 ∨ k' = 1 ∨ k' = 2 ∨ k' = 3 ∨ k' = 4 ∨ k' = 5 ∨ k' = 6 ∨ k' = 7 ∨ k' = 8 ∨ k' = 9 := by omega
        rcases hkk with rfl | rfl | rfl | rfl | rfl | rfl | rfl | rfl | rfl | rfl <;>
          (simp (config := {maxSteps := 1000000, maxDischargeDepth := 9, implicitDefEqProofs := false}) [c7, hPick, s_Pick, h0, h1, hcc, hkq, fieldT, fieldC, h3]
           exact Canon.keep hf hsc (by repeat (first | exact Ext.refl _ | apply Ext.trans_new)) (by simp [V.lt, ltL, hlv]))
    · cases hs
  · cases hs

/-! Messages and their bytes: the plain laws. -/
theorem rightP_T {k c : Int} {t n : Nat} (h : rightP k t n c = true) (hT : fieldT k = false) : t = 0 := by
  simp only [rightP, hT, Bool.false_or, Bool.and_eq_true, beq_iff_eq] at h; exact h.1.1.1.1.1.1.1.2
theorem rightP_B {k c : Int} {t n : Nat} (h : rightP k t n c = true) (hB : fieldB k = false) : n = 0 := by
  simp only [rightP, hB, Bool.false_or, Bool.and_eq_true, beq_iff_eq] at h; exact h.1.1.1.1.1.1.2
theorem rightP_C {k c : Int} {t n : Nat} (h : rightP k t n c = true) (hC : fieldC k = false) : c = 0 := by
  simp only [rightP, hC, Bool.false_or, Bool.and_eq_true, beq_iff_eq] at h; exact h.1.1.1.1.1.2

theorem decP_encP {k c : Int} {t b : List Nat} (h : rightP k t.length b.length c = true) : decP (encP k t b c) = (k, t, if fieldB k then some b else none, c, 0) := by
  obtain ⟨q1, q2, q3, q4, q5, q6⟩ := rightP_true h
  have hk : ((k.toNat : Nat) : Int) = k := by omega
  have hc : ((c.toNat : Nat) : Int) = c := by omega
  unfold encP decP
  simp only [hk]
  cases hC : fieldC k with
  | true =>
    have hT : fieldT k = false := by cases hT : fieldT k; rfl; exact absurd (fields_apart _ hT).2 (by simp [hC])
    have ht : t = [] := List.length_eq_zero_iff.1 (rightP_T h hT)
    subst ht
    simp only [if_true, List.append_nil, List.cons_append, List.nil_append, hc]
    cases hB : fieldB k with
    | true =>
      simp only [List.length_nil] at h
      simp [h]
    | false =>
      have hb : b = [] := List.length_eq_zero_iff.1 (rightP_B h hB)
      subst hb
      simp only [List.length_nil] at h
      simp [h]
  | false =>
    have hc0 := rightP_C h hC
    subst hc0
    simp only [Bool.false_eq_true, if_false, List.nil_append]
    cases hT : fieldT k with
    | true =>
      have hB := (fields_apart _ hT).1
      have hb : b = [] := List.length_eq_zero_iff.1 (rightP_B h hB)
      subst hb
      simp only [List.length_nil] at h
      simp [h, hB]
    | false =>
      have ht : t = [] := List.length_eq_zero_iff.1 (rightP_T h hT)
      subst ht
      simp only [List.length_nil] at h
      cases hB : fieldB k with
      | true => simp [h]
      | false =>
        have hb : b = [] := List.length_eq_zero_iff.1 (rightP_B h hB)
        subst hb
        simp only [List.length_nil] at h
        simp [h]

/-- What decodes is right, and its bytes are those; what does not is the empty message. -/
theorem decP_cases (s : List Nat) (hs : ∀ y ∈ s, y < 256) : (∃ e : Int, e ≠ 0 ∧ decP s = (0, [], none, 0, e)) ∨
    ∃ k t ob c, decP s = (k, t, ob, c, 0) ∧ rightP k t.length (ob.getD []).length c = true ∧ encP k t (ob.getD []) c = s ∧ (∀ y ∈ t, y < 256) ∧ (∀ y ∈ ob.getD [], y < 256) ∧ (ob.getD []).length ≤ s.length ∧ (ob = none ∨ ∃ b, ob = some b) := by
  cases s with
  | nil => exact .inl ⟨7, by omega, rfl⟩
  | cons k r =>
    cases hC : fieldC (k : Int) with
    | true =>
      cases r with
      | nil => exact .inl ⟨7, by omega, by simp only [decP, hC, if_true]⟩
      | cons c r =>
        cases hB : fieldB (k : Int) with
        | true =>
          cases hR : rightP k 0 r.length c with
          | true => exact .inr ⟨k, [], some r, c, by simp only [decP, hC, hB, hR, if_true], by simpa using hR, by simp [encP, hC], by simp, fun y hy => hs y (by simp at hy; simp [hy]), by simp; omega, .inr ⟨_, rfl⟩⟩
          | false => exact .inl ⟨5, by omega, by simp only [decP, hC, hB, hR, if_true, Bool.false_eq_true, if_false]⟩
        | false =>
          by_cases hq : r = [] ∧ rightP k 0 0 c = true
          · obtain ⟨rfl, hR⟩ := hq
            exact .inr ⟨k, [], none, c, by simp only [decP, hC, hB, hR, if_true, Bool.false_eq_true, if_false, and_self], by simpa using hR, by simp [encP, hC], by simp, by simp, by simp, .inl rfl⟩
          · exact .inl ⟨5, by omega, by simp only [decP, hC, hB, if_true, Bool.false_eq_true, if_false, if_neg hq]⟩
    | false =>
      cases hT : fieldT (k : Int) with
      | true =>
        cases hR : rightP k r.length 0 0 with
        | true => exact .inr ⟨k, r, none, 0, by simp only [decP, hC, hT, hR, if_true, Bool.false_eq_true, if_false], by simpa using hR, by simp [encP, hC], fun y hy => hs y (by simp [hy]), by simp, by simp, .inl rfl⟩
        | false => exact .inl ⟨5, by omega, by simp only [decP, hC, hT, hR, if_true, Bool.false_eq_true, if_false]⟩
      | false =>
        cases hB : fieldB (k : Int) with
        | true =>
          cases hR : rightP k 0 r.length 0 with
          | true => exact .inr ⟨k, [], some r, 0, by simp only [decP, hC, hT, hB, hR, if_true, Bool.false_eq_true, if_false], by simpa using hR, by simp [encP, hC], by simp, fun y hy => hs y (by simp at hy; simp [hy]), by simp, .inr ⟨_, rfl⟩⟩
          | false => exact .inl ⟨5, by omega, by simp only [decP, hC, hT, hB, hR, if_true, Bool.false_eq_true, if_false]⟩
        | false =>
          by_cases hq : r = [] ∧ rightP k 0 0 0 = true
          · obtain ⟨rfl, hR⟩ := hq
            exact .inr ⟨k, [], none, 0, by simp only [decP, hC, hT, hB, hR, if_true, Bool.false_eq_true, if_false, and_self], by simpa using hR, by simp [encP, hC], by simp, by simp, by simp, .inl rfl⟩
          · exact .inl ⟨5, by omega, by simp only [decP, hC, hT, hB, if_true, Bool.false_eq_true, if_false, if_neg hq]⟩

/-- What the law makes of a raw message is a message. -/
theorem s_message_some {h : Heap} {k c : Int} {t : List Nat} {v : V} {b : List Nat} {bare : Bool} (hb : slB h v = some b) (hlv : V.lt h.next v) (ht : ∀ y ∈ t, y < 256) : ∃ k' t' v' c' b', s_message [.agg [.int .i64 k, .str t, v, .int .i64 c], .bool bare] h = some (.agg [.int .i64 k', .str t', v', .int .i64 c'], h) ∧ slB h v' = some b' ∧ V.lt h.next v' ∧ (∀ y ∈ t', y < 256) ∧ b'.length ≤ b.length ∧ v'.one = true ∧ v'.cells = [v'] ∧ (v' = v ∨ v' = .nilslice) ∧ 0 ≤ k' ∧ k' < 10 ∧ 0 ≤ c' ∧ c' < 300 ∧ (t' = t ∨ t' = []) := by
  have h1 := slB_one hb
  have h2 := slB_cells hb
  have hk := Int.emod_nonneg k (show (10 : Int) ≠ 0 by omega)
  have hk' := Int.emod_lt_of_pos k (show (0 : Int) < 10 by omega)
  have hc := Int.emod_nonneg c (show (300 : Int) ≠ 0 by omega)
  have hc' := Int.emod_lt_of_pos c (show (0 : Int) < 300 by omega)
  have hnil : slB h .nilslice = some [] := rfl
  have hltn : V.lt h.next .nilslice := by simp only [V.lt]
  simp only [s_message, hb]
  cases bare with
  | false => exact ⟨_, _, _, _, b, rfl, hb, hlv, ht, Nat.le_refl _, h1, h2, .inl rfl, hk, hk', hc, hc', .inl rfl⟩
  | true =>
    simp only [if_true]
    split
    · exact ⟨_, _, _, _, [], rfl, hnil, hltn, ht, Nat.zero_le _, rfl, rfl, .inr rfl, hk, hk', by omega, by omega, .inl rfl⟩
    · split
      · exact ⟨_, _, _, _, b, rfl, hb, hlv, by simp, Nat.le_refl _, h1, h2, .inl rfl, hk, hk', by omega, by omega, .inr rfl⟩
      · split
        · exact ⟨_, _, _, _, b, rfl, hb, hlv, by simp, Nat.le_refl _, h1, h2, .inl rfl, hk, hk', by omega, by omega, .inr rfl⟩
        · split
          · exact ⟨_, _, _, _, [], rfl, hnil, hltn, by simp, Nat.zero_le _, rfl, rfl, .inr rfl, hk, hk', hc, hc', .inr rfl⟩
          · split
            · exact ⟨_, _, _, _, [], rfl, hnil, hltn, by simp, Nat.zero_le _, rfl, rfl, .inr rfl, by omega, by omega, by omega, by omega, .inr rfl⟩
            · exact ⟨_, _, _, _, b, rfl, hb, hlv, ht, Nat.le_refl _, h1, h2, .inl rfl, hk, hk', hc, hc', .inl rfl⟩

theorem dec_ref_none {v : V} {s t : List Nat} {k c e : Int} (hd : decP s = (k, t, none, c, e)) : ∀ H, slB H v = some s → s_DecodeRef [v] H = some (.tuple [.agg [.int .i64 k, .str t, .nilslice, .int .i64 c], .int .i64 e], H) := by
  intro H h
  simp only [s_DecodeRef, h, hd]
theorem dec_ref_some {v : V} {s t b : List Nat} {k c : Int} (hd : decP s = (k, t, some b, c, 0)) (hen : encP k t b c = s) (ht : t = []) (hvl : vlen v = s.length) : ∃ w, (∀ H, slB H v = some s → s_DecodeRef [v] H = some (.tuple [.agg [.int .i64 k, .str t, w, .int .i64 c], .int .i64 0], H)) ∧ (∀ H, slB H v = some s → slB H w = some b) ∧ (∀ m, V.lt m v → V.lt m w) ∧ (∀ H, slB H v = some s → w.one = true ∧ w.cells = [w]) := by
  subst ht
  cases hC : fieldC k with
  | true =>
    have he : s = k.toNat :: c.toNat :: b := by rw [← hen]; simp [encP, hC]
    refine ⟨cutV 1 (cutV 1 v 1 (vlen v)) 1 (vlen v - 1), fun H h => by simp [s_DecodeRef, h, hd, hC], ?_, fun m hm => lt_cut (lt_cut hm _ _ _) _ _ _, fun H h => ?_⟩
    · intro H h
      have h2 : s.length = b.length + 2 := by rw [he]; simp
      obtain ⟨k1, k2⟩ := slB_cut' (l := 1) (r := vlen v) h (by omega) (by omega)
      rw [he, List.take_of_length_le (by simp; omega)] at k1
      obtain ⟨k3, k4⟩ := slB_cut' (l := 1) (r := vlen v - 1) k1 (by omega) (by simp; omega)
      rw [k3]
      simp only [List.drop_succ_cons, List.drop_zero]
      rw [List.take_of_length_le (by simp; omega)]
      rfl
    · have h1 := slB_isSl h
      rw [one_cut, one_cut]
      exact ⟨slB_one h, cells_cut _ _ _ _ (by rw [isSl_cut]; exact h1)⟩
  | false =>
    have he : s = k.toNat :: b := by rw [← hen]; simp [encP, hC]
    refine ⟨cutV 1 v 1 (vlen v), fun H h => by simp [s_DecodeRef, h, hd, hC], ?_, fun m hm => lt_cut hm _ _ _, fun H h => ?_⟩
    · intro H h
      have h2 : s.length = b.length + 1 := by rw [he]; simp
      obtain ⟨k1, k2⟩ := slB_cut' (l := 1) (r := vlen v) h (by omega) (by omega)
      rw [he, List.take_of_length_le (by simp; omega)] at k1
      rw [k1]; rfl
    · rw [one_cut]
      exact ⟨slB_one h, cells_cut _ _ _ _ (slB_isSl h)⟩

theorem decP_some_t {s t b : List Nat} {k c e : Int} (hd : decP s = (k, t, some b, c, e)) : t = [] := by
  unfold decP at hd
  split at hd
  · simp at hd
  · split at hd
    · split at hd
      · simp at hd
      · split at hd
        · split at hd <;> simp at hd; exact hd.2.1
        · split at hd <;> simp at hd
    · split at hd
      · split at hd <;> simp at hd
      · split at hd
        · split at hd <;> simp at hd; exact hd.2.1
        · split at hd <;> simp at hd

/-- Behind the message: what is said of it and of the bytes. -/
theorem codes_tail (cf : ACall) (hknown : ∀ a h, cf 12 a h = s_known a h) (hEncode : ∀ a h, cf 8 a h = s_Encode a h) (hDecode : ∀ a h, cf 9 a h = s_Decode a h) (hRight : ∀ a h, cf 11 a h = s_Right a h) (hClient : ∀ a h, cf 15 a h = s_Client a h)
    (hEncodeR : ∀ a h, cf 17 a h = s_Encode a h) (hDecodeR : ∀ a h, cf 18 a h = s_DecodeRef a h) (hRightR : ∀ a h, cf 19 a h = s_Right a h) (hSame : ∀ a h, cf 10 a h = s_SameMsg a h)
    (e : Env) (h : Heap) (p : Nat) (k c : Int) (t bm s0 : List Nat) (vm vb : V) (hf : Fresh h) (hlm : V.lt h.next vm) (hlb : V.lt h.next vb) (hbm : slB h vm = some bm) (hb : slB h vb = some s0) (hs0 : s0.length ≤ 140737488354304) (ht : ∀ y ∈ t, y < 256)
    (hp : p < h.next) (hg : h.get p = some (.cells [.int .i64 k, .str t, vm, .int .i64 c] 24 1 true)) (hn : e.n = 127) (h4 : e.at 4 = .ptr p 0) (h2 : e.at 2 = vb) :
    Runs (finS [ARes.tmp 8] (execA cf 1 c6_s4 e h)) fun v _ => v = .bool true := by
  have hta : (∀ x, x ∈ t → x < 256) = True := eq_true ht
  have hkm := lt_add hlm
  have hkb := lt_add hlb
  have hpk := lt_ne hp
  have hp0 : (p = h.next) = False := by simp; omega
  have hs0l := slB_lt hb
  have hbml := slB_lt hbm
  cases hR : rightP k t.length bm.length c with
  | false =>
    have hrn := dec_ref_none (v := .nilslice) (s := []) rfl
    rcases decP_cases s0 hs0l with ⟨er, her, hd2⟩ | ⟨k2, t2, ob, c2, hd2, hR2, hen, ht2, hb2, hbl2, hob⟩
    · have hr0 := dec_ref_none (v := vb) hd2
      cases e1 : decide (1 ≤ k) <;> simp (config := {maxSteps := 1000000, maxDischargeDepth := 9, implicitDefEqProofs := false}) [c6_s4, hn, h4, h2, hg, hpk, hp0, slB_one hbm, slB_cells hbm, hknown, s_known, hEncode, s_Encode, hDecode, s_Decode, hRight, s_Right, hClient, s_Client, hEncodeR, hDecodeR, hRightR, hSame, s_SameMsg, hbm, hb, hlm, hkm, hlb, hkb, hta, hs0, hd2, hr0, e1, hrn, hR, show decP [] = (0, [], none, 0, 7) from rfl]
    · rcases hob with rfl | ⟨b2, rfl⟩
      · have hr0 := dec_ref_none (v := vb) hd2
        cases e1 : decide (1 ≤ k) <;> simp (config := {maxSteps := 1000000, maxDischargeDepth := 9, implicitDefEqProofs := false}) [c6_s4, hn, h4, h2, hg, hpk, hp0, slB_one hbm, slB_cells hbm, hknown, s_known, hEncode, s_Encode, hDecode, s_Decode, hRight, s_Right, hClient, s_Client, hEncodeR, hDecodeR, hRightR, hSame, s_SameMsg, hbm, hb, hlm, hkm, hlb, hkb, hta, hs0, hd2, hr0, e1, hrn, hR, show decP [] = (0, [], none, 0, 7) from rfl]
      · simp only [Option.getD_some] at hb2 hen
        obtain ⟨w2, hr0, hw1, hw2, hw3⟩ := dec_ref_some (v := vb) hd2 hen (decP_some_t hd2) (slB_vlen hb)
        have hwl := hw2 _ hlb
        have hwk := lt_add hwl
        obtain ⟨hwo, hwc⟩ := hw3 h hb
        have hwb := hw1 h hb
        cases e1 : decide (1 ≤ k) <;> simp (config := {maxSteps := 1000000, maxDischargeDepth := 9, implicitDefEqProofs := false}) [c6_s4, hn, h4, h2, hg, hpk, hp0, slB_one hbm, slB_cells hbm, hknown, s_known, hEncode, s_Encode, hDecode, s_Decode, hRight, s_Right, hClient, s_Client, hEncodeR, hDecodeR, hRightR, hSame, s_SameMsg, hbm, hb, hlm, hkm, hlb, hkb, hta, hs0, hd2, hr0, hwb, hwl, hwk, hwo, hwc, asB_bytesOf hb2, e1, hrn, hR, show decP [] = (0, [], none, 0, 7) from rfl]
  | true =>
    have hd := decP_encP hR
    obtain ⟨q1, q2, q3, q4, q5, q6⟩ := rightP_true hR
    have g1 : k < 256 := by omega
    have g2 : c < 256 := by omega
    have hel : (encP k t bm c).length ≤ 140737488354304 := by rw [encP_length]; split <;> omega
    cases hB : fieldB k with
    | false =>
      have hbm0 : bm = [] := List.length_eq_zero_iff.1 (rightP_B hR hB)
      subst hbm0
      simp only [hB, Bool.false_eq_true, if_false] at hd
      simp only [List.length_nil] at hR
      have hrn := dec_ref_none (v := .slice (h.next + 1) 0 (encP k t [] c).length none) hd
      rcases decP_cases s0 hs0l with ⟨er, her, hd2⟩ | ⟨k2, t2, ob, c2, hd2, hR2, hen, ht2, hb2, hbl2, hob⟩
      · have hr0 := dec_ref_none (v := vb) hd2
        cases e1 : decide (1 ≤ k) <;> simp (config := {maxSteps := 1000000, maxDischargeDepth := 9, implicitDefEqProofs := false}) [c6_s4, hn, h4, h2, hg, hpk, hp0, slB_one hbm, slB_cells hbm, hknown, s_known, hEncode, s_Encode, hDecode, s_Decode, hRight, s_Right, hClient, s_Client, hEncodeR, hDecodeR, hRightR, hSame, s_SameMsg, hbm, hb, hlm, hkm, hlb, hkb, hta, hs0, hd2, hr0, e1, hrn, hR, hd, g1, g2, hel, encP_asB]
      · rcases hob with rfl | ⟨b2, rfl⟩
        · have hr0 := dec_ref_none (v := vb) hd2
          cases e1 : decide (1 ≤ k) <;> simp (config := {maxSteps := 1000000, maxDischargeDepth := 9, implicitDefEqProofs := false}) [c6_s4, hn, h4, h2, hg, hpk, hp0, slB_one hbm, slB_cells hbm, hknown, s_known, hEncode, s_Encode, hDecode, s_Decode, hRight, s_Right, hClient, s_Client, hEncodeR, hDecodeR, hRightR, hSame, s_SameMsg, hbm, hb, hlm, hkm, hlb, hkb, hta, hs0, hd2, hr0, e1, hrn, hR, hd, g1, g2, hel, encP_asB]
        · simp only [Option.getD_some] at hb2 hen
          obtain ⟨w2, hr0, hw1, hw2, hw3⟩ := dec_ref_some (v := vb) hd2 hen (decP_some_t hd2) (slB_vlen hb)
          have hwl := hw2 _ hlb
          have hwk := lt_add hwl
          obtain ⟨hwo, hwc⟩ := hw3 h hb
          have hwb := hw1 h hb
          cases e1 : decide (1 ≤ k) <;> simp (config := {maxSteps := 1000000, maxDischargeDepth := 9, implicitDefEqProofs := false}) [c6_s4, hn, h4, h2, hg, hpk, hp0, slB_one hbm, slB_cells hbm, hknown, s_known, hEncode, s_Encode, hDecode, s_Decode, hRight, s_Right, hClient, s_Client, hEncodeR, hDecodeR, hRightR, hSame, s_SameMsg, hbm, hb, hlm, hkm, hlb, hkb, hta, hs0, hd2, hr0, hwb, hwl, hwk, hwo, hwc, asB_bytesOf hb2, e1, hrn, hR, hd, g1, g2, hel, encP_asB]
    | true =>
      simp only [hB, if_true] at hd
      have hba : (∀ x, x ∈ bm → x < 256) = True := eq_true hbml
      obtain ⟨w, hrn, hv1, hv2, hv3⟩ := dec_ref_some (v := .slice (h.next + 1) 0 (encP k t bm c).length none) hd rfl (decP_some_t hd) rfl
      have hwl := hv2 (h.next + 2) (by simp only [V.lt]; omega)
      have hwk : ∀ j, 2 ≤ j → V.lt (h.next + j) w := fun j hj => V.lt_mono (by omega) _ hwl
      have hwo := hv3 (((h.new (.cells (bytesOf (encP k t bm c)) 5 1 true))).new (.cells (bytesOf (encP k t bm c)) 5 1 true))
      have hwb := hv1 (((h.new (.cells (bytesOf (encP k t bm c)) 5 1 true))).new (.cells (bytesOf (encP k t bm c)) 5 1 true))
      have hyb : slB (((h.new (.cells (bytesOf (encP k t bm c)) 5 1 true))).new (.cells (bytesOf (encP k t bm c)) 5 1 true)) (.slice (h.next + 1) 0 (encP k t bm c).length none) = some (encP k t bm c) := by
        simp (config := {maxSteps := 1000000, maxDischargeDepth := 9, implicitDefEqProofs := false}) [hta, hba, g1, g2, encP_asB]
      have hwo := hwo hyb
      have hwb := hwb hyb
      obtain ⟨hwo1, hwo2⟩ := hwo
      rcases decP_cases s0 hs0l with ⟨er, her, hd2⟩ | ⟨k2, t2, ob, c2, hd2, hR2, hen, ht2, hb2, hbl2, hob⟩
      · have hr0 := dec_ref_none (v := vb) hd2
        cases e1 : decide (1 ≤ k) <;> simp (config := {maxSteps := 1000000, maxDischargeDepth := 9, implicitDefEqProofs := false}) [c6_s4, hn, h4, h2, hg, hpk, hp0, slB_one hbm, slB_cells hbm, hknown, s_known, hEncode, s_Encode, hDecode, s_Decode, hRight, s_Right, hClient, s_Client, hEncodeR, hDecodeR, hRightR, hSame, s_SameMsg, hbm, hb, hlm, hkm, hlb, hkb, hta, hs0, hd2, hr0, e1, hrn, hR, hd, g1, g2, hel, encP_asB, hba, asB_bytesOf hbml, hwl, hwk, hwo1, hwo2, hwb]
      · rcases hob with rfl | ⟨b2, rfl⟩
        · have hr0 := dec_ref_none (v := vb) hd2
          cases e1 : decide (1 ≤ k) <;> simp (config := {maxSteps := 1000000, maxDischargeDepth := 9, implicitDefEqProofs := false}) [c6_s4, hn, h4, h2, hg, hpk, hp0, slB_one hbm, slB_cells hbm, hknown, s_known, hEncode, s_Encode, hDecode, s_Decode, hRight, s_Right, hClient, s_Client, hEncodeR, hDecodeR, hRightR, hSame, s_SameMsg, hbm, hb, hlm, hkm, hlb, hkb, hta, hs0, hd2, hr0, e1, hrn, hR, hd, g1, g2, hel, encP_asB, hba, asB_bytesOf hbml, hwl, hwk, hwo1, hwo2, hwb]
        · simp only [Option.getD_some] at hb2 hen
          obtain ⟨w2, hr0, hw1, hw2, hw3⟩ := dec_ref_some (v := vb) hd2 hen (decP_some_t hd2) (slB_vlen hb)
          have hwl2 := hw2 _ hlb
          have hwk2 := lt_add hwl2
          obtain ⟨hwo2', hwc2⟩ := hw3 h hb
          have hwb2 := hw1 h hb
          cases e1 : decide (1 ≤ k) <;> simp (config := {maxSteps := 1000000, maxDischargeDepth := 9, implicitDefEqProofs := false}) [c6_s4, hn, h4, h2, hg, hpk, hp0, slB_one hbm, slB_cells hbm, hknown, s_known, hEncode, s_Encode, hDecode, s_Decode, hRight, s_Right, hClient, s_Client, hEncodeR, hDecodeR, hRightR, hSame, s_SameMsg, hbm, hb, hlm, hkm, hlb, hkb, hta, hs0, hd2, hr0, hwb2, hwl2, hwk2, hwo2', hwc2, asB_bytesOf hb2, e1, hrn, hR, hd, g1, g2, hel, encP_asB, hba, asB_bytesOf hbml, hwl, hwk, hwo1, hwo2, hwb]

theorem law_MsgCodes (cf : ACall) (hknown : ∀ a h, cf 12 a h = s_known a h) (hmessage : ∀ a h, cf 7 a h = s_message a h) (hPick : ∀ a h, cf 13 a h = s_Pick a h) (hBytes : ∀ a h, cf 16 a h = s_Bytes a h) (hEncode : ∀ a h, cf 8 a h = s_Encode a h) (hDecode : ∀ a h, cf 9 a h = s_Decode a h) (hRight : ∀ a h, cf 11 a h = s_Right a h) (hClient : ∀ a h, cf 15 a h = s_Client a h)
    (hEncodeR : ∀ a h, cf 17 a h = s_Encode a h) (hDecodeR : ∀ a h, cf 18 a h = s_DecodeRef a h) (hRightR : ∀ a h, cf 19 a h = s_Right a h) (hSame : ∀ a h, cf 10 a h = s_SameMsg a h)
    (h : Heap) (k0 c0 long : Int) (bare : Bool) (t0 b0 s0 : List Nat) (va vb : V) (hf : Fresh h) (hla : V.lt h.next va) (hlb : V.lt h.next vb) (ha : slB h va = some b0) (hb : slB h vb = some s0) (hs0 : s0.length ≤ 140737488354304) (ht : ∀ y ∈ t0, y < 256) :
    ∃ N, Runs (bodyA cf N c6 [.agg [.int .i64 k0, .str t0, va, .int .i64 c0], .bool bare, vb, .int .i64 long] h) fun v _ => v = .bool true := by
  have h1 := slB_one ha
  have h2 := slB_cells ha
  generalize hA : Blk.cells [.int .i64 k0, .str t0, va, .int .i64 c0] 24 1 true = A
  obtain ⟨k, t, vm, c, bm, hm, hbm, hlm, htm, hlen, hm1, hm2, hmv, hk0, hk1, hc0, hc1, _⟩ := s_message_some (bare := bare) (h := h.new A) (k := k0) (c := c0) (t := t0) (v := va) (b := b0) (by rw [slB_new _ hla]; exact ha) (V.lt_mono (by simp) _ hla) ht
  have hlm' : V.lt h.next vm := by rcases hmv with rfl | rfl; exact hla; simp only [V.lt]
  have hkm := lt_add hlm'
  have hkb := lt_add hlb
  rw [slB_new _ hlm'] at hbm
  subst hA
  have hp0 := Int.emod_nonneg long (show (10 : Int) ≠ 0 by omega)
  have hp1 := Int.emod_lt_of_pos long (show (0 : Int) < 10 by omega)
  generalize hq : long % 10 = q at *
  refine ⟨1, ?_⟩
  by_cases e0 : long.tmod 6 = 0
  · have e0' : (long.tmod 6 == 0) = true := by simp [e0]
    have e1' : (long.tmod 6 == 1) = false := by simp [e0]
    have g1 : (0 : Int) ≤ 2995 + q := by omega
    have g2 : 2995 + q ≤ 140737488354304 := by omega
    obtain ⟨n, hn⟩ : ∃ n : Nat, 2995 + q = (n : Int) := ⟨(2995 + q).toNat, by omega⟩
    rw [hn] at g1 g2
    simp (config := {maxSteps := 1000000, maxDischargeDepth := 9, implicitDefEqProofs := false}) [c6, h1, h2, hmessage, hm, hm1, hm2, hPick, s_Pick, hq, hBytes, s_Bytes, wrap_i64 (x := (n : Int)) (by omega) (by omega), hn, g1, g2, e0', e1']
    refine codes_tail cf hknown hEncode hDecode hRight hClient hEncodeR hDecodeR hRightR hSame _ _ h.next k c t (rawB n (long % 18446744073709551616)) s0 (.slice (h.next + 1) 0 n none) vb ?_ ?_ ?_ ?_ ?_ hs0 htm ?_ ?_ ?_ ?_ ?_
    · exact (hf.new _).new _
    · simp [V.lt]
    · simp (config := {maxSteps := 1000000, maxDischargeDepth := 9, implicitDefEqProofs := false}) [hkb]
    · simp (config := {maxSteps := 1000000, maxDischargeDepth := 9, implicitDefEqProofs := false}) [asB_bytesOf (rawB_lt n _), rawB_length]
    · simp (config := {maxSteps := 1000000, maxDischargeDepth := 9, implicitDefEqProofs := false}) [hkb, hlb, hb]
    all_goals simp (config := {maxSteps := 1000000, maxDischargeDepth := 9, implicitDefEqProofs := false})
  · have e0' : (long.tmod 6 == 0) = false := by simp [e0]
    by_cases e1 : long.tmod 6 = 1
    · have e1' : (long.tmod 6 == 1) = true := by simp [e1]
      have g1 : (0 : Int) ≤ 396 + q := by omega
      have g2 : 396 + q ≤ 140737488354304 := by omega
      obtain ⟨n, hn⟩ : ∃ n : Nat, 396 + q = (n : Int) := ⟨(396 + q).toNat, by omega⟩
      rw [hn] at g1 g2
      simp (config := {maxSteps := 1000000, maxDischargeDepth := 9, implicitDefEqProofs := false}) [c6, h1, h2, hmessage, hm, hm1, hm2, hPick, s_Pick, hq, hBytes, s_Bytes, wrap_i64 (x := (n : Int)) (by omega) (by omega), hn, g1, g2, e0', e1', asB_bytesOf (rawB_lt n _), rawB_length]
      refine codes_tail cf hknown hEncode hDecode hRight hClient hEncodeR hDecodeR hRightR hSame _ _ h.next k c (rawB n (long % 18446744073709551616)) bm s0 vm vb ?_ ?_ ?_ ?_ ?_ hs0 (rawB_lt _ _) ?_ ?_ ?_ ?_ ?_
      · exact (hf.new _).new _
      · exact V.lt_mono (by simp) _ hlm'
      · exact V.lt_mono (by simp) _ hlb
      · simp (config := {maxSteps := 1000000, maxDischargeDepth := 9, implicitDefEqProofs := false}) [hkm, hlm', hbm]
      · simp (config := {maxSteps := 1000000, maxDischargeDepth := 9, implicitDefEqProofs := false}) [hkb, hlb, hb]
      all_goals simp (config := {maxSteps := 1000000, maxDischargeDepth := 9, implicitDefEqProofs := false})
    · have e1' : (long.tmod 6 == 1) = false := by simp [e1]
      simp (config := {maxSteps := 1000000, maxDischargeDepth := 9, implicitDefEqProofs := false}) [c6, h1, h2, hmessage, hm, hm1, hm2, e0', e1']
      refine codes_tail cf hknown hEncode hDecode hRight hClient hEncodeR hDecodeR hRightR hSame _ _ h.next k c t bm s0 vm vb ?_ ?_ ?_ ?_ ?_ hs0 htm ?_ ?_ ?_ ?_ ?_
      · exact (hf.new _)
      · exact V.lt_mono (by simp) _ hlm'
      · exact V.lt_mono (by simp) _ hlb
      · simp (config := {maxSteps := 1000000, maxDischargeDepth := 9, implicitDefEqProofs := false}) [hkm, hlm', hbm]
      · simp (config := {maxSteps := 1000000, maxDischargeDepth := 9, implicitDefEqProofs := false}) [hkb, hlb, hb]
      all_goals simp (config := {maxSteps := 1000000, maxDischargeDepth := 9, implicitDefEqProofs := false})

end
end Go.Proofs.Ytjffpeedfeiljaa.MsgCodes
