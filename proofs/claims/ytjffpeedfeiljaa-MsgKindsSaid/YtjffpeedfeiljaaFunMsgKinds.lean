/- What the functions that the law MsgKinds reaches do, each told once, and the law by them. No condition. -/
import Derived.Test.YtjffpeedfeiljaaCodeMsgKinds
namespace Go.Proofs.Ytjffpeedfeiljaa.MsgKinds
open Go Go.Proofs.YtjffpeedfeiljaaA
set_option linter.unusedSimpArgs false
set_option linter.unusedVariables false
set_option maxHeartbeats 4000000
set_option maxRecDepth 100000
attribute [local simp] body_eq exec_seq exec_region exec_skip exec_ret exec_exit exec_cond exec_block seqS_normal seqS_ret seqS_exit seqS_none seqS_bif regS_some regS_none regS_bif condS_bool condS_true
  condS_false blockS_normal blockS_ret blockS_exit blockS_none blockS_bif finS_normal finS_ret finS_bif steps_nil steps_cons steps_guard bindS_some bindS_none bindS_bif endS_some
  endS_skip endS_none endS_bif gstep_some gstep_true gstep_false wantV_true wantV_false wantV_undef wantV_gdv_true wantV_gdv_false gdv_true gdv_false aop_pick pickS_or pickS_and
  pickS_true pickS_false bif_bool put_some put_none Env.at_put Env.n_put at_init n_init Opd.ev ressA resA pack Heap.get_new Heap.get_set nextOf_new Heap.next_set nth fillV zeros over
  eqv read_eq read_zero readB_cells one_bool one_int one_str one_ptr one_nilptr one_slice one_nilslice cells_bool cells_int cells_str cells_ptr cells_nilptr cells_slice
  cells_nilslice cells_agg aop_move aop_box aop_boxv boxvS_agg boxvS_int boxvS_bool boxvS_str boxvS_slice boxvS_nilslice aop_build buildS_some aop_buildSlice buildSliceS_some
  aop_load loadS_ptr loadB_cells loadC_some aop_loadn loadnS_ptr aop_store storeS_ptr writeB_cells aop_bin binS_lss binS_leq binS_gtr binS_geq binS_eql binS_neq binS_add binS_sub
  binS_mul binS_quo binS_rem binS_and binS_or binS_xor binS_shl binS_shr binS_seql binS_sneq binS_sadd aop_eq eqS_some_f eqS_some_t aop_un unS_not unS_neg aop_conv convS_int
  aop_convStr convStrS_str aop_intStr intStrS_int aop_strBytes strBytesS_str aop_bytesStr bytesStrS_nil bytesStrS_slice aop_mkIface aop_mkFunc aop_makeSlice makeS_int aop_sliceStr
  sliceStrS_str sliceStrB_some someS_some aop_sliceSl aop_sliceArr sliceArrS_ptr aop_fieldAddr fieldAddrS_ptr aop_field fieldS_agg fieldS_aggn aop_indexAddrA indexAddrAS_ptr
  aop_indexAddrS indexAddrSS_slice aop_indexA indexAS_agg byteS_some aop_indexStr indexStrS_str aop_extract extractS_tuple aop_call callS_func aop_append aop_copy aop_lenS lenSS_str
  aop_lenL lenLS_nil lenLS_slice aop_minmax minmaxS_min minmaxS_max aop_convSame convSameS_slice convSameB_cells aop_lenC Heap.set_newE Heap.kill_newE Heap.set_new_ne
  Heap.set_gone_ne Heap.set_set Heap.get_gone Heap.next_gone loopE_n loopE_at Runs_some Ends_some Ends_none Runs_none VCL_nil VCL_cons VC_tuple VC_agg VC_bool VC_int VC_str VC_nil
  VC_nilptr VC_ptr VC_slice_nn VC_slice_ns VC_slice_s moved_at most_val lim_val next_add newV sl_new slB_new slK_new sl_gone slB_gone slK_gone lt_slice lt_nil lt_ptr lt_cut sl_selfE
  slB_litE slK_litE asB asB_bytesOf asK asK_map slB_nil slK_nil slBs Fresh.new Fresh.gone indexE bytesStrE loadBE slice_lo slice_hi slice_lohi slB_cut vlen_cut isSl_cut one_cut
  cells_cut lenE IntKind.bits Int.fdiv_eq_ediv_of_nonneg bytesOf_length sameV_refl gval_true gval_false gval_some traceA_nil traceA_cons consT_some mapT_some stepV_none stepV_guard
  exec_any anyS_some chkOk_nil chkOk_cons sameS_some chk2_some chk1_eq envL_nil envL_cons heapL_nil heapL_cons heapO_some heapB_zero heapB_succ isWriter nth_bytesOf nth_ints str_hi
  str_lo wrap_i64 wrap_i32 wrap_u64 wrap_u32 wrap_u8
attribute [local congr] gstep_congr gval_congr
noncomputable section
/-- octet.Clone: the same bytes, in new memory. -/
def s_Clone : List V → Heap → Option (V × Heap)
  | [v], h => match slB h v with
    | some s => if s.length ≤ lim then some (newV h s.length, h.new (.cells (bytesOf s) 5 1 true)) else none
    | none => none
  | _, _ => none

theorem Clone_ok (cf : ACall) : Sum cf c22 s_Clone := by
  intro args h v h' hf hsc hlt hs
  unfold s_Clone at hs
  split at hs
  · rename_i a
    split at hs
    · rename_i s ha
      split at hs
      · rename_i hl
        simp only [Option.some.injEq, Prod.mk.injEq] at hs
        obtain ⟨rfl, rfl⟩ := hs
        have ha' := slB_ext (Ext.new h (.cells [] 5 1 true)) hf ha
        obtain ⟨v2, h2, k1, k2, k3, k4, _, k6, _⟩ := (OwnB.start h 5).app (Ext.new h _) (hf.new _) (slB_added ha') (by simpa using hl)
        obtain ⟨τ, hc⟩ := k2.canon hf hsc k3 (k6 (by simp))
        refine ⟨1, v2, h2, ?_, τ, hc⟩
        simp (config := {maxSteps := 1000000, maxDischargeDepth := 9, implicitDefEqProofs := false}) [c22, k1]
      · cases hs
    · cases hs
  · cases hs

/-- octet.Join: rows of bytes, one behind the other, in new memory. -/
def s_Join : List V → Heap → Option (V × Heap)
  | [vl], h => match sl h 1 vl with
    | some vs => match slBs h vs with
      | some ss => if ss.flatten.length ≤ lim ∧ ss.length ≤ lim then some (newV h ss.flatten.length, h.new (.cells (bytesOf ss.flatten) 5 1 true)) else none
      | none => none
    | none => none
  | _, _ => none

theorem Join_ok (cf : ACall) : Sum cf c21 s_Join := by
  intro args h v h' hf hsc hlt hs
  unfold s_Join at hs
  split at hs
  · rename_i vl
    split at hs
    · rename_i vs hvl
      split at hs
      · rename_i ss hss
        split at hs
        · rename_i hl
          simp only [Option.some.injEq, Prod.mk.injEq] at hs
          obtain ⟨rfl, rfl⟩ := hs
          obtain ⟨hl, hl2⟩ := hl
          have hlim : lim = 140737488354304 := rfl
          obtain ⟨hlen, hget⟩ := slBs_get hss
          have hvlen : vlen vl = ss.length := by have := rd_vlen (sl_rd hvl); omega
          have hsl := sl_isSl hvl
          refine ⟨ss.length + 1, ?_⟩
          have L := loop_count (cf := cf) (N := ss.length + 1) (c := c21_l0) ss.length
            (fun i e H => e.n = 18 ∧ e.at 7 = vl ∧ e.at 8 = .int .i64 (ss.length : Int) ∧ e.at 9 = .int .i64 (i : Int) ∧ OwnB h H 5 (e.at 3) ((ss.take i).flatten) ∧ Ext h H ∧ Fresh H ∧ e.at 3 ≠ .nilslice)
            (fun x e H => x = .exit 0 ∧ e.n = 18 ∧ OwnB h H 5 (e.at 3) ss.flatten ∧ Ext h H ∧ Fresh H ∧ e.at 3 ≠ .nilslice)
            (by
              rintro i e H hi ⟨hn, h7, h8, h9, ho, hE, hF, hne⟩
              obtain ⟨w, hw1, hw2⟩ := hget hi
              have hload := rd_load (sl_rd (sl_ext hE hf hvl)) hw1
              have hidx := indexE (z := 1) hsl H (k := .i64) (i := (i : Int)) (by omega) (by omega)
              simp only [Int.toNat_natCast, Nat.mul_one] at hidx
              obtain ⟨v2, h2, k1, k2, k3, k4, _, k6, _⟩ := ho.app hE hF (slB_added (slB_ext hE hf hw2)) (by
                have h1 := congrArg List.length (take_flatten_succ ss i hi)
                have h2 : ((ss.take (i + 1)).flatten).length ≤ ss.flatten.length := by
                  have := congrArg List.length (congrArg List.flatten (List.take_append_drop (i + 1) ss))
                  rw [List.flatten_append, List.length_append] at this; omega
                rw [List.length_append] at h1; omega)
              simp (config := {maxSteps := 1000000, maxDischargeDepth := 9, implicitDefEqProofs := false}) [c21_l0, hn, h7, h8, h9, hidx, hload, k1, hi, wrap_i64 (x := (i : Int) + 1) (by omega) (by omega)]
              rw [take_flatten_succ ss i hi]
              exact ⟨k2, k3, k4, k6 hne⟩)
            (by
              rintro e H ⟨hn, h7, h8, h9, ho, hE, hF, hne⟩
              rw [List.take_length] at ho
              simp (config := {maxSteps := 1000000, maxDischargeDepth := 9, implicitDefEqProofs := false}) [c21_l0, hn, h7, h8, h9]
              exact ⟨ho, hE, hF, hne⟩)
          simp (config := {maxSteps := 1000000, maxDischargeDepth := 9, implicitDefEqProofs := false}) [c21, lenE hsl, hvlen, -List.length_flatten]
          refine loop_then (K := fun r => finS _ (seqS _ _ _ (blockS _ r))) (L 0 _ _ (Nat.zero_le _) ?_ (Nat.lt_succ_self _)) ?_
          · simp (config := {maxSteps := 1000000, maxDischargeDepth := 9, implicitDefEqProofs := false})
            exact ⟨by simpa using OwnB.start h 5, Ext.new h _, hf.new _⟩
          · rintro x e' H ⟨rfl, hn, ho, hE, hF, hne⟩
            simp (config := {maxSteps := 1000000, maxDischargeDepth := 9, implicitDefEqProofs := false}) [hn, -List.length_flatten]
            exact ho.canon hf hsc hE hne
        · cases hs
      · cases hs
    · cases hs
  · cases hs

/-- Which fields a kind of messages has. -/
def fieldT (k : Int) : Bool := k == 1 || k == 3 || k == 5
def fieldB (k : Int) : Bool := k == 2 || k == 7
def fieldC (k : Int) : Bool := k == 6 || k == 8 || k == 7

/-- msg.fields. -/
def s_fields : List V → Heap → Option (V × Heap)
  | [.int .i64 k], h => some (.tuple [.bool (fieldT k), .bool (fieldB k), .bool (fieldC k)], h)
  | _, _ => none

theorem fields_ok (cf : ACall) : Sum cf c20 s_fields := by
  intro args h v h' hf hsc hlt hs
  unfold s_fields at hs
  split at hs
  · rename_i k
    simp only [Option.some.injEq, Prod.mk.injEq] at hs
    obtain ⟨rfl, rfl⟩ := hs
    have hres : bodyA cf 1 c20 [.int .i64 k] h = some (.tuple [.bool (fieldT k), .bool (fieldB k), .bool (fieldC k)], h) := by
      simp (config := {maxSteps := 1000000, maxDischargeDepth := 9, implicitDefEqProofs := false}) [c20]
      cases h1 : k == 1 <;> cases h3 : k == 3 <;> cases h5 : k == 5 <;> cases h2 : k == 2 <;> cases h7 : k == 7 <;> cases h6 : k == 6 <;> cases h8 : k == 8 <;>
        simp [fieldT, fieldB, fieldC, h1, h2, h3, h5, h6, h7, h8] <;> simp_all
    exact ⟨1, _, _, hres, Canon.same hf hsc (fun _ _ hb => hb) (by simp only [V.lt, ltL, and_self])⟩
  · cases hs

/-- Is the message right? By its kind, its text's and its bytes' lengths, its code. -/
def rightP (k : Int) (t n : Nat) (c : Int) : Bool :=
  decide (1 ≤ k) && decide (k ≤ 8) && (fieldT k || t == 0) && (fieldB k || n == 0) && (fieldC k || c == 0) && !(k == 7 && decide (1 < c)) && decide (t ≤ 400) && decide (n ≤ 3000) && decide (0 ≤ c) && decide (c ≤ 255)

theorem rightP_eq (k : Int) (t b : List Nat) (c : Int) : rightP k t.length b.length c = bif decide (k < 1) || decide (8 < k) then false
    else bif !fieldT k && !t.isEmpty || !fieldB k && decide (0 < b.length) || !fieldC k && !c == 0 then false
    else bif k == 7 && decide (1 < c) then false
    else decide ((t.length : Int) ≤ 400) && decide ((b.length : Int) ≤ 3000) && decide (0 ≤ c) && decide (c ≤ 255) := by
  have e1 : decide (k < 1) = !decide (1 ≤ k) := by rw [← decide_not]; exact decide_eq_decide.2 (by omega)
  have e2 : decide (8 < k) = !decide (k ≤ 8) := by rw [← decide_not]; exact decide_eq_decide.2 (by omega)
  have e3 : decide (0 < b.length) = !(b.length == 0) := by cases b <;> simp
  have e4 : t.isEmpty = (t.length == 0) := by cases t <;> simp
  have e5 : decide ((t.length : Int) ≤ 400) = decide (t.length ≤ 400) := decide_eq_decide.2 (by omega)
  have e6 : decide ((b.length : Int) ≤ 3000) = decide (b.length ≤ 3000) := decide_eq_decide.2 (by omega)
  rw [e1, e2, e3, e4, e5, e6]
  unfold rightP
  generalize decide (1 ≤ k) = a1
  generalize decide (k ≤ 8) = a2
  generalize (k == 7 && decide (1 < c)) = a3
  generalize decide (t.length ≤ 400) = a4
  generalize decide (b.length ≤ 3000) = a5
  generalize decide (0 ≤ c) = a6
  generalize decide (c ≤ 255) = a7
  generalize fieldT k = f1
  generalize fieldB k = f2
  generalize fieldC k = f3
  generalize (t.length == 0) = b1
  generalize (b.length == 0) = b2
  generalize (c == 0) = b3
  cases a1 <;> cases a2 <;> try rfl
  cases f1 <;> cases b1 <;> try (cases f2 <;> cases b2 <;> cases f3 <;> cases b3 <;> cases a3 <;> rfl)
  all_goals (cases f2 <;> cases b2 <;> try (cases f3 <;> cases b3 <;> cases a3 <;> rfl))
  all_goals (cases f3 <;> cases b3 <;> try (cases a3 <;> rfl))

/-- msg.Right. -/
def s_Right : List V → Heap → Option (V × Heap)
  | [.agg [.int .i64 k, .str t, v, .int .i64 c]], h => match slB h v with
    | some b => some (.bool (rightP k t.length b.length c), h)
    | none => none
  | _, _ => none

theorem Right_ok (cf : ACall) (hfields : ∀ a h, cf 20 a h = s_fields a h) : Sum cf c11 s_Right := by
  intro args h v h' hf hsc hlt hs
  unfold s_Right at hs
  split at hs
  · rename_i k t vb c
    split at hs
    · rename_i b hb
      simp only [Option.some.injEq, Prod.mk.injEq] at hs
      obtain ⟨rfl, rfl⟩ := hs
      have h1 := slB_one hb
      have h2 := slB_isSl hb
      have h3 := slB_vlen hb
      refine ⟨1, ?_⟩
      have hres : bodyA cf 1 c11 [.agg [.int .i64 k, .str t, vb, .int .i64 c]] h = some (.bool (rightP k t.length b.length c), h.new (.cells [.int .i64 k, .str t, vb, .int .i64 c] 24 1 true)) := by
        simp (config := {contextual := true, maxSteps := 1000000, maxDischargeDepth := 9, implicitDefEqProofs := false}) [c11, hfields, s_fields, h1, lenE h2, h3]
        rw [rightP_eq]
        cases decide (k < 1) || decide (8 < k) <;> cases !fieldT k && !t.isEmpty || !fieldB k && decide (0 < b.length) || !fieldC k && !c == 0 <;> cases k == 7 && decide (1 < c) <;> rfl
      exact ⟨_, _, hres, Canon.same hf hsc (fun _ _ hb => (Ext.new h _).get hf hb) (by simp only [V.lt])⟩
    · cases hs
  · cases hs

theorem rightP_true {k c : Int} {t n : Nat} (h : rightP k t n c = true) : 1 ≤ k ∧ k ≤ 8 ∧ t ≤ 400 ∧ n ≤ 3000 ∧ 0 ≤ c ∧ c ≤ 255 := by
  simp only [rightP, Bool.and_eq_true, decide_eq_true_eq] at h
  omega

theorem fields_apart (k : Int) : (fieldT k = true → fieldB k = false ∧ fieldC k = false) := by
  intro h
  simp only [fieldT, Bool.or_eq_true, beq_iff_eq] at h
  rcases h with (h | h) | h <;> subst h <;> exact ⟨rfl, rfl⟩

/-- A message's bytes. -/
def encP (k : Int) (t b : List Nat) (c : Int) : List Nat := k.toNat :: ((if fieldC k then [c.toNat] else []) ++ t ++ b)

/-- A message's bytes in new memory, or the refusal. -/
def s_Encode : List V → Heap → Option (V × Heap)
  | [.agg [.int .i64 k, .str t, v, .int .i64 c]], h => match slB h v with
    | some b => if t.all (· < 256) then
        if rightP k t.length b.length c then some (.tuple [newV h (encP k t b c).length, .int .i64 0], h.new (.cells (bytesOf (encP k t b c)) 5 1 true))
        else some (.tuple [.nilslice, .int .i64 1], h)
      else none
    | none => none
  | _, _ => none

theorem Encode_ok (cf : ACall) (hfields : ∀ a h, cf 20 a h = s_fields a h) (hRight : ∀ a h, cf 11 a h = s_Right a h) (hJoin : ∀ a h, cf 21 a h = s_Join a h) : Sum cf c8 s_Encode := by
  intro args h v h' hf hsc hlt hs
  unfold s_Encode at hs
  split at hs
  · rename_i k t vb c
    split at hs
    · rename_i b hb
      split at hs
      · rename_i ht
        have ht' : ∀ y ∈ t, y < 256 := by simpa using ht
        have hlv : V.lt h.next vb := by simp only [ltL, V.lt] at hlt; exact hlt.1.2.2.1
        have hlk := lt_add hlv
        have h1 := slB_one hb
        have h0 := slB_cells hb
        have h2 := slB_isSl hb
        have h3 := slB_vlen hb
        split at hs
        · rename_i hr
          simp only [Option.some.injEq, Prod.mk.injEq] at hs
          obtain ⟨rfl, rfl⟩ := hs
          obtain ⟨q1, q2, q3, q4, q5, q6⟩ := rightP_true hr
          refine ⟨1, ?_⟩
          cases hC : fieldC k with
          | false =>
            simp (config := {maxSteps := 1000000, maxDischargeDepth := 9, implicitDefEqProofs := false}) [c8, hfields, s_fields, hRight, s_Right, h0, h1, hb, hr, hJoin, s_Join, hf, hC, hlv, hlk, asB_bytesOf ht', q1, q5, show (0:Int) ≤ k from by omega, show k < 256 from by omega, show c < 256 from by omega, show t.length ≤ 140737488355328 from by omega, wrap_u8 (x := k) (by omega) (by omega), wrap_u8 (x := c) (by omega) (by omega)]
            rw [if_pos (by omega)]
            simp (config := {maxSteps := 1000000, maxDischargeDepth := 9, implicitDefEqProofs := false})
            have he : encP k t b c = k.toNat :: (t ++ b) := by simp [encP, hC]
            rw [he]
            refine Canon.tail hf hsc (by repeat (first | exact Ext.refl _ | apply Ext.trans_new)) (flat_bytes _) ?_
            simp
          | true =>
            simp (config := {maxSteps := 1000000, maxDischargeDepth := 9, implicitDefEqProofs := false}) [c8, hfields, s_fields, hRight, s_Right, h0, h1, hb, hr, hJoin, s_Join, hf, hC, hlv, hlk, asB_bytesOf ht', q1, q5, show (0:Int) ≤ k from by omega, show k < 256 from by omega, show c < 256 from by omega, show t.length ≤ 140737488355328 from by omega, wrap_u8 (x := k) (by omega) (by omega), wrap_u8 (x := c) (by omega) (by omega), appendV, appendXs, added]
            rw [if_pos (by omega)]
            simp (config := {maxSteps := 1000000, maxDischargeDepth := 9, implicitDefEqProofs := false})
            have he : encP k t b c = k.toNat :: c.toNat :: (t ++ b) := by simp [encP, hC]
            rw [he]
            refine Canon.tail hf hsc (by repeat (first | exact Ext.refl _ | apply Ext.trans_new)) (flat_bytes _) ?_
            simp
        · rename_i hr
          simp only [Option.some.injEq, Prod.mk.injEq] at hs
          obtain ⟨rfl, rfl⟩ := hs
          have hr : rightP k t.length b.length c = false := by simpa using hr
          have hres : bodyA cf 1 c8 [.agg [.int .i64 k, .str t, vb, .int .i64 c]] h = some (.tuple [.nilslice, .int .i64 1], h.new (.cells [.int .i64 k, .str t, vb, .int .i64 c] 24 1 true)) := by
            simp (config := {maxSteps := 1000000, maxDischargeDepth := 9, implicitDefEqProofs := false}) [c8, hRight, s_Right, h0, h1, hb, hr, hf, hlv, hlk]
          exact ⟨1, _, _, hres, Canon.same hf hsc (fun _ _ hb => (Ext.new h _).get hf hb) (by simp only [V.lt, ltL, and_self])⟩
      · cases hs
    · cases hs
  · cases hs

theorem encP_length (k : Int) (t b : List Nat) (c : Int) : (encP k t b c).length = t.length + b.length + (if fieldC k then 1 else 0) + 1 := by
  unfold encP
  split <;> simp <;> omega
theorem encP_zero (k : Int) (t b : List Nat) (c : Int) (d : Nat) : (encP k t b c).getD 0 d = k.toNat := rfl
theorem encP_lt {k : Int} {t b : List Nat} {c : Int} (hk : k < 256) (hc : c < 256) (ht : ∀ y ∈ t, y < 256) (hb : ∀ y ∈ b, y < 256) : ∀ y ∈ encP k t b c, y < 256 := by
  intro y hy
  simp only [encP, List.mem_cons, List.mem_append] at hy
  rcases hy with rfl | (hy | hy) | hy
  · omega
  · split at hy <;> simp at hy; omega
  · exact ht y hy
  · exact hb y hy
theorem encP_asB {k : Int} {t b : List Nat} {c : Int} (hk : k < 256) (hc : c < 256) (ht : ∀ y ∈ t, y < 256) (hb : ∀ y ∈ b, y < 256) : asB (bytesOf (encP k t b c)) = some (encP k t b c) := asB_bytesOf (encP_lt hk hc ht hb)
theorem encP_pos (k : Int) (t b : List Nat) (c : Int) : 0 < (encP k t b c).length := by rw [encP_length]; omega
theorem encP_lt1 (k : Int) (t b : List Nat) (c : Int) : (((encP k t b c).length : Int) < 1) = False := by
  have := encP_pos k t b c
  simp only [eq_iff_iff, iff_false]; omega
theorem encP_get0 (k : Int) (t b : List Nat) (c : Int) (h : 0 < (encP k t b c).length) : (encP k t b c)[0]'h = k.toNat := rfl

/-- portholehand.Pick: the remainder that is not below 0. -/
def s_Pick : List V → Heap → Option (V × Heap)
  | [.int .i64 n, .int .i64 m], h => if 0 < m ∧ m ≤ 4611686018427387904 then some (.int .i64 (n % m), h) else none
  | _, _ => none

theorem tmod_emod (n m : Int) (hm : 0 < m) : (if n.tmod m < 0 then n.tmod m + m else n.tmod m) = n % m := by
  rw [Int.tmod_eq_emod]
  have h1 := Int.emod_nonneg n (show m ≠ 0 by omega)
  have h2 := Int.emod_lt_of_pos n hm
  have h3 : (m.natAbs : Int) = m := by omega
  split <;> split <;> omega

theorem Pick_ok (cf : ACall) : Sum cf c13 s_Pick := by
  intro args h v h' hf hsc hlt hs
  unfold s_Pick at hs
  split at hs
  · rename_i n m
    split at hs
    · rename_i hm
      simp only [Option.some.injEq, Prod.mk.injEq] at hs
      obtain ⟨rfl, rfl⟩ := hs
      have hm0 : ¬ m = 0 := by omega
      have h1 := tmod_emod n m hm.1
      have h2 := Int.emod_nonneg n hm0
      have h3 := Int.emod_lt_of_pos n hm.1
      refine ⟨1, ?_⟩
      have hres : bodyA cf 1 c13 [.int .i64 n, .int .i64 m] h = some (.int .i64 (n % m), h) := by
        by_cases hq : n.tmod m < 0
        · have hd : decide (n.tmod m < 0) = true := by simpa using hq
          rw [if_pos hq] at h1
          simp (config := {maxSteps := 1000000, maxDischargeDepth := 9, implicitDefEqProofs := false}) [c13, hm0, hd]
          simp only [cond_true, h1, Option.some.injEq, Prod.mk.injEq, and_true, V.int.injEq, true_and]
          exact wrap_i64 (by omega) (by omega)
        · have hd : decide (n.tmod m < 0) = false := by simpa using hq
          rw [if_neg hq] at h1
          simp (config := {maxSteps := 1000000, maxDischargeDepth := 9, implicitDefEqProofs := false}) [c13, hm0, hd]
          simp only [cond_false, h1]
      exact ⟨_, _, hres, Canon.same hf hsc (fun _ _ hb => hb) (by simp only [V.lt])⟩
    · cases hs
  · cases hs

/-- portholehand.Few: the first bytes, in new memory. -/
def s_Few : List V → Heap → Option (V × Heap)
  | [v, .int .i64 k], h => match slB h v with
    | some s => if s.length ≤ lim ∧ 0 ≤ k then some (newV h (s.take k.toNat).length, h.new (.cells (bytesOf (s.take k.toNat)) 5 1 true)) else none
    | none => none
  | _, _ => none

theorem Few_ok (cf : ACall) : Sum cf c14 s_Few := by
  intro args h v h' hf hsc hlt hs
  unfold s_Few at hs
  split at hs
  · rename_i a k
    split at hs
    · rename_i s ha
      split at hs
      · rename_i hl
        simp only [Option.some.injEq, Prod.mk.injEq] at hs
        obtain ⟨rfl, rfl⟩ := hs
        have hv := slB_vlen ha
        have hsl := slB_isSl ha
        have ha' := slB_ext (Ext.new h (.cells [] 5 1 true)) hf ha
        obtain ⟨m, hm⟩ : ∃ m : Int, m = if k < (s.length : Int) then k else (s.length : Int) := ⟨_, rfl⟩
        have hm0 : 0 ≤ m ∧ m ≤ vlen a := by rw [hm, hv]; split <;> omega
        have hcut := slice_hi (k := .i64) (h := h.new (.cells [] 5 1 true)) (by rw [ha']; rfl) hm0.1 hm0.2
        have hcb := slB_cut (l := 0) (r := m.toNat) (by rw [ha']; rfl) (Nat.zero_le _) (by omega)
        have htake : s.take m.toNat = s.take k.toNat := by
          rw [hm]; split
          · rfl
          · rw [List.take_of_length_le (by omega), List.take_of_length_le (by omega)]
        rw [ha', Option.map_some, List.drop_zero, htake] at hcb
        obtain ⟨v2, h2, k1, k2, k3, k4, _, k6, _⟩ := (OwnB.start h 5).app (Ext.new h _) (hf.new _) (slB_added hcb) (by simp only [List.length_nil, Nat.zero_add, List.length_take]; omega)
        obtain ⟨τ, hc⟩ := k2.canon hf hsc k3 (k6 (by simp))
        refine ⟨1, v2, h2, ?_, τ, hc⟩
        simp (config := {maxSteps := 1000000, maxDischargeDepth := 9, implicitDefEqProofs := false}) [c14, lenE hsl, hv, ← hm, hcut, k1]
      · cases hs
    · cases hs
  · cases hs

theorem law_MsgKinds (cf : ACall) (hknown : ∀ a h, cf 12 a h = s_known a h) (hPick : ∀ a h, cf 13 a h = s_Pick a h) (hFew : ∀ a h, cf 14 a h = s_Few a h) (hEncode : ∀ a h, cf 8 a h = s_Encode a h) (hRight : ∀ a h, cf 11 a h = s_Right a h)
    (h : Heap) (k0 c0 : Int) (t0 b0 : List Nat) (vb : V) (hf : Fresh h) (hlv : V.lt h.next vb) (hb : slB h vb = some b0) (hbl : b0.length ≤ 140737488354304) (ht : ∀ y ∈ t0, y < 256) :
    ∃ N, Runs (bodyA cf N c4 [.int .i64 k0, .int .i64 c0, .str t0, vb] h) fun v _ => v = .bool true := by
  have hlk := lt_add hlv
  have hk0 := Int.emod_nonneg k0 (show (8 : Int) ≠ 0 by omega)
  have hk1 := Int.emod_lt_of_pos k0 (show (0 : Int) < 8 by omega)
  have hc0 := Int.emod_nonneg c0 (show (2 : Int) ≠ 0 by omega)
  have hc1 := Int.emod_lt_of_pos c0 (show (0 : Int) < 2 by omega)
  have hbt : ∀ y ∈ b0.take 3000, y < 256 := fun y hy => slB_lt hb y (List.mem_of_mem_take hy)
  have hbl2 : (b0.take 3000).length ≤ 3000 := by simp; omega
  generalize hbq : b0.take 3000 = b at *
  have hm0 : (0 : Int) ≤ if (400 : Int) < t0.length then 400 else (t0.length : Int) := by split <;> omega
  have hm1 : (if (400 : Int) < t0.length then 400 else (t0.length : Int)) ≤ t0.length := by split <;> omega
  have hm2 : (if (400 : Int) < t0.length then 400 else (t0.length : Int)) ≤ 400 := by split <;> omega
  generalize hmq : (if (400 : Int) < t0.length then 400 else (t0.length : Int)) = m at *
  have htt : ∀ y ∈ t0.take m.toNat, y < 256 := fun y hy => ht y (List.mem_of_mem_take hy)
  have htl : (t0.take m.toNat).length ≤ 400 := by simp; omega
  generalize htq : t0.take m.toNat = t at *
  generalize hkq : k0 % 8 = k at *
  generalize hcq : c0 % 2 = c at *
  have hkk : k = 0 ∨ k = 1 ∨ k = 2 ∨ k = 3 ∨ k = 4 ∨ k = 5 ∨ k = 6 ∨ k = 7 := by omega
  have hta : (∀ x, x ∈ t → x < 256) = True := eq_true htt
  have hba : (∀ x, x ∈ b → x < 256) = True := eq_true hbt
  have g1 : c ≤ 255 := by omega
  have g2 : ¬ 1 < c := by omega
  have g3 : c < 256 := by omega
  refine ⟨1, ?_⟩
  rcases hkk with rfl | rfl | rfl | rfl | rfl | rfl | rfl | rfl <;>
    simp (config := {maxSteps := 1000000, maxDischargeDepth := 9, implicitDefEqProofs := false}) [c4, hknown, s_known, hPick, s_Pick, hFew, s_Few, hEncode, s_Encode, hRight, s_Right, hkq, hcq, hmq, htq, hb, hbl, hbq, hlv, hlk, hm0, hm1, asB_bytesOf hbt, hta, hba, hc0, g1, g2, g3, htl, hbl2, encP_asB, encP_zero, encP_get0, encP_pos, encP_lt1, rightP, fieldT, fieldB, fieldC]
  all_goals trace_state

end
end Go.Proofs.Ytjffpeedfeiljaa.MsgKinds
