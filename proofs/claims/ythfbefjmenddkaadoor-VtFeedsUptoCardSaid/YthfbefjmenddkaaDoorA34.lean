/- Summaries of functions: the words in which they are told, and rows that grow. -/
import Derived.Test.YthfbefjmenddkaaDoorA33
namespace Go.Proofs.YthfbefjmenddkaaDoorA
open Go
set_option linter.unusedVariables false
set_option linter.unusedSimpArgs false
noncomputable section

variable {h h' h0 h2 : Heap} {z n t : Nat} {v x : V} {xs ys : List V} {s acc : List Nat}

/-- A run that ends so. -/
def Runs (r : Option (V × Heap)) (Q : V → Heap → Prop) : Prop := ∃ v h, r = some (v, h) ∧ Q v h
theorem Runs_some (v : V) (h : Heap) (Q : V → Heap → Prop) : Runs (some (v, h)) Q ↔ Q v h := by
  constructor
  · rintro ⟨v', h', he, hq⟩; cases he; exact hq
  · intro hq; exact ⟨v, h, rfl, hq⟩
theorem Runs_none (Q : V → Heap → Prop) : Runs none Q ↔ False := by
  constructor
  · rintro ⟨v', h', he, hq⟩; cases he
  · exact False.elim
theorem Runs_bif (q : Bool) (x y : Option (V × Heap)) (Q : V → Heap → Prop) : Runs (bif q then x else y) Q = if q = true then Runs x Q else Runs y Q := by cases q <;> rfl

/-- A loop in the midst of a run. -/
theorem loop_then {cf : ACall} {N : Nat} {c : ACode} {e : Env} {h : Heap} {K : Out → Option (V × Heap)} {F : AExit → Env → Heap → Prop} {Q : V → Heap → Prop} (hl : Ends (execA cf N (.loop c) e h) F) (hk : ∀ x e' h', F x e' h' → Runs (K (some (x, e', h'))) Q) : Runs (K (execA cf N (.loop c) e h)) Q := by
  obtain ⟨x, e', h', h1, h2⟩ := hl
  rw [h1]; exact hk x e' h' h2

/-- A step in the midst of a run. -/
theorem step_then {r : Option (V × Heap)} {K : Option (V × Heap) → Option (V × Heap)} {F : V → Heap → Prop} {Q : V → Heap → Prop} (hl : ∃ v h, r = some (v, h) ∧ F v h) (hk : ∀ v h, F v h → Runs (K (some (v, h))) Q) : Runs (K r) Q := by
  obtain ⟨v, h, h1, h2⟩ := hl
  rw [h1]; exact hk v h h2

/-- A summary stands for the code of a function. -/
def Sum (cf : ACall) (fn : AFn) (spec : List V → Heap → Option (V × Heap)) : Prop :=
  ∀ args h v h', Fresh h → Scoped h → ltL h.next args → spec args h = some (v, h') → ∃ N, Runs (bodyA cf N fn args h) fun v2 h2 => ∃ τ, Canon h.next h2 v2 h' v τ

theorem answers_Sum {P : Program} {cf : ACall} {f : Nat} {g : Func} {fn : AFn} {spec : List V → Heap → Option (V × Heap)} (hm : P.follows .mixedOrders = true) (hcf : Answers P cf) (hg : P.funcs[f]? = some g) (hc : compFn P g = some fn) (hs : Sum cf fn spec) : Answers P (withSum cf f spec) :=
  answers_can hm hcf hg hc fun args h v h' h1 h2 h3 h4 => by
    obtain ⟨N, v2, h2, k1, τ, k2⟩ := hs args h v h' h1 h2 h3 h4
    exact ⟨N, v2, h2, τ, k1, k2⟩

theorem fresh_ne {b : Nat} {B : Blk} (hf : Fresh h) (hb : h.get b = some B) (k : Nat) : (b = h.next + k) = False := by
  have := hf.lt hb
  simp only [eq_iff_iff, iff_false]; omega
theorem lt_ne {b : Nat} (hb : b < h.next) (k : Nat) : (b = h.next + k) = False := by simp only [eq_iff_iff, iff_false]; omega

/-- The greatest row of bytes. -/
def lim : Nat := 140737488354304
theorem lim_eq : lim + 1024 = most := by decide
theorem most_val : most = 140737488355328 := rfl
theorem lim_val : lim = 140737488354304 := rfl

theorem append_slice {b o m bytes : Nat} {c : Option Nat} {v' : V} (ha : appendV h t z bytes (.slice b o m c) x = some (v', h')) : v' ≠ .nilslice := by
  unfold appendV at ha
  split at ha
  · cases ha
  · intro hv
    subst hv
    cases c with
    | some c =>
      simp only [appendXs] at ha
      split at ha
      · split at ha
        · cases ha
        · split at ha <;> cases ha
      · split at ha
        · split at ha <;> cases ha
        · cases ha
    | none =>
      simp only [appendXs] at ha
      split at ha
      · cases ha
      · split at ha
        · split at ha
          · split at ha <;> cases ha
          · cases ha
        · cases ha

/-- A row that grows by a slice's elements. -/
theorem Own.app {bytes : Nat} (he : Ext h0 h) (hf : Fresh h) (ho : Own h0 h t z v n xs) (hx : added h z x = some (ys, ys.length / z)) (hz : ys.length = (ys.length / z) * z) (h1 : ys.all V.one = true) (hb : (n + ys.length / z + 1024) * bytes ≤ most) (hm : n + ys.length / z ≤ most) :
    ∃ v' h', appendV h t z bytes v x = some (v', h') ∧ Own h0 h' t z v' (n + ys.length / z) (xs ++ ys) ∧ Ext h0 h' ∧ Fresh h' ∧ h.next ≤ h'.next ∧ (v ≠ .nilslice → v' ≠ .nilslice) ∧ (∀ b, b < h.next → (∀ o c, v ≠ .slice b o n c) → h'.get b = h.get b) := by
  obtain ⟨v', h', k1, k2, k3, k4, k5, k6⟩ := ho.append (bytes := bytes) he hf hx hz h1 hb hm
  refine ⟨v', h', k1, k2, k3, k4, k6, fun hv => ?_, k5⟩
  rcases ho with ⟨rfl, _⟩ | ⟨b, c, rfl, _⟩
  · exact absurd rfl hv
  · exact append_slice k1

/-- Bytes that grow. -/
def OwnB (h0 h : Heap) (t : Nat) (v : V) (acc : List Nat) : Prop := Own h0 h t 1 v acc.length (bytesOf acc)

theorem OwnB.app (he : Ext h0 h) (hf : Fresh h) (ho : OwnB h0 h t v acc) (hx : added h 1 x = some (bytesOf s, s.length)) (hl : acc.length + s.length ≤ lim) :
    ∃ v' h', appendV h t 1 1 v x = some (v', h') ∧ OwnB h0 h' t v' (acc ++ s) ∧ Ext h0 h' ∧ Fresh h' ∧ h.next ≤ h'.next ∧ (v ≠ .nilslice → v' ≠ .nilslice) ∧ (∀ b, b < h.next → (∀ o c, v ≠ .slice b o acc.length c) → h'.get b = h.get b) := by
  have hle := lim_eq
  obtain ⟨v', h', k1, k2, k3⟩ := Own.app (bytes := 1) he hf ho (ys := bytesOf s) (by simpa [bytesOf_length] using hx) (by simp) (bytesOf_one s) (by simp [bytesOf_length]; omega) (by simp [bytesOf_length]; omega)
  refine ⟨v', h', k1, ?_, k3⟩
  unfold OwnB
  rw [bytesOf_append, List.length_append]
  simpa [bytesOf_length] using k2
theorem rdB_added (hr : rdB h x = some s) : added h 1 x = some (bytesOf s, s.length) := by rw [rd_added (rdB_rd hr).1, rdB_vlen hr]
theorem OwnB.rdB (ho : OwnB h0 h t v acc) (hs : ∀ y ∈ acc, y < 256) : rdB h v = some acc := rdB_of (Own.rd ho) hs
theorem OwnB.start (h0 : Heap) (t : Nat) : OwnB h0 (h0.new (.cells [] t 1 true)) t (.slice h0.next 0 0 (some 0)) [] := Own.start h0 t 1
theorem OwnB.start_nil (h0 : Heap) (t : Nat) : OwnB h0 h0 t .nilslice [] := Own.start_nil h0 t 1
theorem OwnB.canon (hf : Fresh h) (hsc : Scoped h) (he : Ext h h2) (ho : OwnB h h2 t v acc) (hn : v ≠ .nilslice) : ∃ τ, Canon h.next h2 v (h.new (.cells (bytesOf acc) t 1 true)) (newV h acc.length) τ :=
  Own.canon hf hsc he ho hn (flat_bytes acc)

/-- Integers that grow. -/
def OwnK (k : IntKind) (h0 h : Heap) (t : Nat) (v : V) (acc : List Int) : Prop := Own h0 h t 1 v acc.length (acc.map (V.int k))

theorem OwnK.app {k : IntKind} {acc l : List Int} {bytes : Nat} (he : Ext h0 h) (hf : Fresh h) (ho : OwnK k h0 h t v acc) (hx : added h 1 x = some (l.map (V.int k), l.length)) (hb : (acc.length + l.length + 1024) * bytes ≤ most) (hm : acc.length + l.length ≤ most) :
    ∃ v' h', appendV h t 1 bytes v x = some (v', h') ∧ OwnK k h0 h' t v' (acc ++ l) ∧ Ext h0 h' ∧ Fresh h' ∧ h.next ≤ h'.next ∧ (v ≠ .nilslice → v' ≠ .nilslice) ∧ (∀ b, b < h.next → (∀ o c, v ≠ .slice b o acc.length c) → h'.get b = h.get b) := by
  obtain ⟨v', h', k1, k2, k3⟩ := Own.app (bytes := bytes) he hf ho (ys := l.map (V.int k)) (by simpa using hx) (by simp) (by simp [V.one]) (by simpa using hb) (by simpa using hm)
  refine ⟨v', h', k1, ?_, k3⟩
  unfold OwnK
  rw [List.map_append, List.length_append]
  simpa using k2
theorem rdK_added {k : IntKind} {l : List Int} (hr : rdK k h x = some l) : added h 1 x = some (l.map (V.int k), l.length) := by rw [rd_added (rdK_rd hr), rd_vlen (rdK_rd hr)]; simp
theorem OwnK.rdK {k : IntKind} {acc : List Int} (ho : OwnK k h0 h t v acc) : rdK k h v = some acc := rdK_of (Own.rd ho)
theorem OwnK.start (k : IntKind) (h0 : Heap) (t : Nat) : OwnK k h0 (h0.new (.cells [] t 1 true)) t (.slice h0.next 0 0 (some 0)) [] := Own.start h0 t 1
theorem OwnK.start_nil (k : IntKind) (h0 : Heap) (t : Nat) : OwnK k h0 h0 t .nilslice [] := Own.start_nil h0 t 1
theorem OwnK.canon {k : IntKind} {acc : List Int} (hf : Fresh h) (hsc : Scoped h) (he : Ext h h2) (ho : OwnK k h h2 t v acc) (hn : v ≠ .nilslice) : ∃ τ, Canon h.next h2 v (h.new (.cells (acc.map (V.int k)) t 1 true)) (newV h acc.length) τ :=
  Own.canon hf hsc he ho hn (flat_ints k acc)

/-- One element, as the run hands it to an append. -/
theorem added_one (hn : v.one = true) : added (h.new (.cells [v] t 1 true)) 1 (.slice h.next 0 1 (some 1)) = some ([v], 1) := by
  simp only [added]
  rw [read_self (by simp)]
  rfl
theorem Own.ext_new (B : Blk) (ho : Own h0 h t z v n xs) (hf : Fresh h) : Own h0 (h.new B) t z v n xs := by
  rcases ho with h1 | ⟨b, c, rfl, k2, k3, k4, k5, k6⟩
  · exact .inl h1
  · exact .inr ⟨b, c, rfl, k2, k3, by simp; omega, k5, by rw [Heap.get_new, if_neg (by omega)]; exact k6⟩

theorem wrap_i64 {x : Int} (h1 : -9223372036854775808 ≤ x) (h2 : x < 9223372036854775808) : wrapF .i64 x = x := by simp only [wrapF]; split <;> omega
theorem wrap_i32 {x : Int} (h1 : -2147483648 ≤ x) (h2 : x < 2147483648) : wrapF .i32 x = x := by simp only [wrapF]; split <;> omega
theorem wrap_u64 {x : Int} (h1 : 0 ≤ x) (h2 : x < 18446744073709551616) : wrapF .u64 x = x := by simp only [wrapF]; omega
theorem wrap_u32 {x : Int} (h1 : 0 ≤ x) (h2 : x < 4294967296) : wrapF .u32 x = x := by simp only [wrapF]; omega
theorem wrap_u8 {x : Int} (h1 : 0 ≤ x) (h2 : x < 256) : wrapF .u8 x = x := by simp only [wrapF]; omega
theorem wrap_u8_mod (x : Int) : wrapF .u8 x = x % 256 := rfl
theorem wrap_u32_mod (x : Int) : wrapF .u32 x = x % 4294967296 := rfl
theorem wrap_u64_mod (x : Int) : wrapF .u64 x = x % 18446744073709551616 := rfl

/-! Slices that may be read and cut. -/
variable {k k' : IntKind} {i j : Int} {l r : Nat} {li : List Int}

/-- May it be cut: is its length within its capacity, and what it holds there? -/
def wfS (h : Heap) (z : Nat) : V → Bool
  | .nilslice => true
  | .slice b o n c => (match c with | some m => decide (n ≤ m) | none => true) && ((n == 0 && c.isNone) || (match h.get b with | some (.cells cs _ z' _) => z' == z && decide (o + n * z ≤ cs.length) | _ => false))
  | _ => false

def sl (h : Heap) (z : Nat) (v : V) : Option (List V) := if wfS h z v then rd h z v else none
def slB (h : Heap) (v : V) : Option (List Nat) := (sl h 1 v).bind asB
def slK (k : IntKind) (h : Heap) (v : V) : Option (List Int) := (sl h 1 v).bind (asK k)

theorem sl_rd (hs : sl h z v = some xs) : rd h z v = some xs := by unfold sl at hs; split at hs; exact hs; cases hs
theorem sl_wf (hs : sl h z v = some xs) : wfS h z v = true := by unfold sl at hs; split at hs; assumption; cases hs

theorem sl_isS (hs : sl h z v = some xs) : IsS h z v (vlen v) xs := by
  have h1 := sl_rd hs
  have h2 := sl_wf hs
  cases v with
  | nilslice => simp only [rd, Option.some.injEq] at h1; exact .inl ⟨rfl, rfl, h1.symm⟩
  | slice b o n c =>
    have hl := rd_len h1
    simp only [vlen] at hl
    simp only [wfS, Bool.and_eq_true, Bool.or_eq_true] at h2
    refine .inr ⟨b, o, c, rfl, fun m hm => by subst hm; simpa [vlen] using h2.1, hl, ?_⟩
    rcases h2.2 with h3 | h3
    · simp only [beq_iff_eq] at h3
      exact .inl ⟨by simpa [vlen] using h3.1, by simpa using h3.2⟩
    · split at h3
      · rename_i cs t z' own hg
        simp only [Bool.and_eq_true, beq_iff_eq, decide_eq_true_eq] at h3
        obtain ⟨rfl, h4⟩ := h3
        refine .inr ⟨cs, t, own, hg, by simpa [vlen] using h4, ?_⟩
        simp only [rd] at h1
        unfold Heap.read at h1
        split at h1
        · rename_i h0
          have := Option.some.inj h1
          rw [← this]; simp [vlen, h0]
        · rw [hg] at h1
          simp only [if_pos h4] at h1
          simpa [vlen] using Option.some.inj h1
      · cases h3
  | _ => simp [wfS] at h2
theorem sl_of_isS (hs : IsS h z v n xs) : sl h z v = some xs := by
  rcases hs with ⟨rfl, rfl, rfl⟩ | ⟨b, o, c, rfl, h2, h3, h4⟩
  · rfl
  · have hw : wfS h z (.slice b o n c) = true := by
      simp only [wfS, Bool.and_eq_true, Bool.or_eq_true]
      refine ⟨by cases c <;> simp; exact h2 _ rfl, ?_⟩
      rcases h4 with ⟨rfl, rfl⟩ | ⟨cs, t, own, h5, h6, h7⟩
      · exact .inl (by simp)
      · exact .inr (by simp only [h5]; simp; omega)
    have hk : IsS h z (.slice b o n c) n xs := .inr ⟨b, o, c, rfl, h2, h3, h4⟩
    unfold sl
    rw [if_pos hw]
    exact hk.read

theorem slB_sl (hs : slB h v = some s) : sl h 1 v = some (bytesOf s) ∧ ∀ x ∈ s, x < 256 := by
  unfold slB at hs
  obtain ⟨cs, h1, h2⟩ := Option.bind_eq_some_iff.1 hs
  obtain ⟨rfl, h3⟩ := asB_some.1 h2
  exact ⟨h1, h3⟩
theorem slB_of (hr : sl h 1 v = some (bytesOf s)) (hs : ∀ x ∈ s, x < 256) : slB h v = some s := by unfold slB; rw [hr]; exact asB_bytesOf hs
theorem slK_sl (hs : slK k h v = some li) : sl h 1 v = some (li.map (V.int k)) := by
  unfold slK at hs
  obtain ⟨cs, h1, h2⟩ := Option.bind_eq_some_iff.1 hs
  rw [asK_some.1 h2] at h1; exact h1
theorem slK_of (hr : sl h 1 v = some (li.map (V.int k))) : slK k h v = some li := by unfold slK; rw [hr]; exact asK_map k li
theorem slB_rdB (hs : slB h v = some s) : rdB h v = some s := rdB_of (sl_rd (slB_sl hs).1) (slB_sl hs).2
theorem slK_rdK (hs : slK k h v = some li) : rdK k h v = some li := rdK_of (sl_rd (slK_sl hs))
theorem slB_lt (hs : slB h v = some s) : ∀ x ∈ s, x < 256 := (slB_sl hs).2
theorem sl_isSl (hs : sl h z v = some xs) : isSl v = true := rd_isSl (sl_rd hs)
theorem sl_one (hs : sl h z v = some xs) : v.one = true := rd_one (sl_rd hs)
theorem sl_cells (hs : sl h z v = some xs) : v.cells = [v] := rd_cells (sl_rd hs)
theorem slB_isSl (hs : slB h v = some s) : isSl v = true := sl_isSl (slB_sl hs).1
theorem slB_one (hs : slB h v = some s) : v.one = true := sl_one (slB_sl hs).1
theorem slB_cells (hs : slB h v = some s) : v.cells = [v] := sl_cells (slB_sl hs).1
theorem slB_vlen (hs : slB h v = some s) : vlen v = s.length := rdB_vlen (slB_rdB hs)
theorem slK_isSl (hs : slK k h v = some li) : isSl v = true := sl_isSl (slK_sl hs)
theorem slK_one (hs : slK k h v = some li) : v.one = true := sl_one (slK_sl hs)
theorem slK_vlen (hs : slK k h v = some li) : vlen v = li.length := by have := rd_vlen (sl_rd (slK_sl hs)); simpa using this
theorem slB_added (hs : slB h v = some s) : added h 1 v = some (bytesOf s, s.length) := rdB_added (slB_rdB hs)
theorem slK_added (hs : slK k h v = some li) : added h 1 v = some (li.map (V.int k), li.length) := rdK_added (slK_rdK hs)

theorem wfS_ext (he : Ext h h') (hf : Fresh h) (hw : wfS h z v = true) : wfS h' z v = true := by
  cases v with
  | slice b o m c =>
    simp only [wfS, Bool.and_eq_true, Bool.or_eq_true] at hw ⊢
    refine ⟨hw.1, hw.2.imp id fun h3 => ?_⟩
    cases hb : h.get b with
    | none => rw [hb] at h3; cases h3
    | some B => rw [hb] at h3; rw [he.get hf hb]; exact h3
  | _ => exact hw
theorem sl_ext (he : Ext h h') (hf : Fresh h) (hs : sl h z v = some xs) : sl h' z v = some xs := by
  unfold sl
  rw [if_pos (wfS_ext he hf (sl_wf hs))]
  exact he.rd hf (sl_rd hs)
theorem slB_ext (he : Ext h h') (hf : Fresh h) (hs : slB h v = some s) : slB h' v = some s := slB_of (sl_ext he hf (slB_sl hs).1) (slB_sl hs).2
theorem slK_ext (he : Ext h h') (hf : Fresh h) (hs : slK k h v = some li) : slK k h' v = some li := slK_of (sl_ext he hf (slK_sl hs))

/-- A slice that names an older block is what it was. -/
theorem read_newN {b o m : Nat} (B : Blk) (hb : b < h.next) : (h.new B).read b o m = h.read b o m := by
  unfold Heap.read
  rw [Heap.get_new, if_neg (Nat.ne_of_lt hb)]
theorem read_goneN {b o m : Nat} (hb : b < h.next) : h.gone.read b o m = h.read b o m := by
  unfold Heap.read
  rw [Heap.get_gone, if_neg (Nat.ne_of_lt hb)]
theorem rd_new' (B : Blk) (hv : V.lt h.next v) : rd (h.new B) z v = rd h z v := by
  cases v with
  | slice b o n c => exact read_newN B (by simpa only [V.lt] using hv)
  | _ => rfl
theorem rd_gone' (hv : V.lt h.next v) : rd h.gone z v = rd h z v := by
  cases v with
  | slice b o n c => exact read_goneN (by simpa only [V.lt] using hv)
  | _ => rfl
theorem wfS_new (B : Blk) (hv : V.lt h.next v) : wfS (h.new B) z v = wfS h z v := by
  cases v with
  | slice b o n c =>
    simp only [V.lt] at hv
    simp only [wfS]
    rw [Heap.get_new, if_neg (Nat.ne_of_lt hv)]
  | _ => rfl
theorem wfS_gone (hv : V.lt h.next v) : wfS h.gone z v = wfS h z v := by
  cases v with
  | slice b o n c =>
    simp only [V.lt] at hv
    simp only [wfS]
    rw [Heap.get_gone, if_neg (Nat.ne_of_lt hv)]
  | _ => rfl
theorem sl_new (B : Blk) (hv : V.lt h.next v) : sl (h.new B) z v = sl h z v := by unfold sl; rw [wfS_new B hv, rd_new' B hv]
theorem slB_new (B : Blk) (hv : V.lt h.next v) : slB (h.new B) v = slB h v := by unfold slB; rw [sl_new B hv]
theorem slK_new (B : Blk) (hv : V.lt h.next v) : slK k (h.new B) v = slK k h v := by unfold slK; rw [sl_new B hv]
theorem sl_gone (hv : V.lt h.next v) : sl h.gone z v = sl h z v := by unfold sl; rw [wfS_gone hv, rd_gone' hv]
theorem slB_gone (hv : V.lt h.next v) : slB h.gone v = slB h v := by unfold slB; rw [sl_gone hv]
theorem slK_gone (hv : V.lt h.next v) : slK k h.gone v = slK k h v := by unfold slK; rw [sl_gone hv]
theorem next_add (h : Heap) (a b : Nat) : h.next + a + b = h.next + (a + b) := Nat.add_assoc _ _ _
theorem lt_slice (n b o m : Nat) (c : Option Nat) : V.lt n (.slice b o m c) = (b < n) := by simp only [V.lt]
theorem lt_nil (n : Nat) : V.lt n .nilslice = True := by simp only [V.lt]
theorem lt_ptr (n b o : Nat) : V.lt n (.ptr b o) = (b < n) := by simp only [V.lt]
/-- What is below is below all that comes. -/
theorem lt_add {m : Nat} (hv : V.lt m v) (k : Nat) : V.lt (m + k) v := V.lt_mono (Nat.le_add_right m k) v hv
theorem lt_cut {m : Nat} (hv : V.lt m v) (z l r : Nat) : V.lt m (cutV z v l r) := by
  cases v with
  | slice b o n c =>
    cases c with
    | some c => simp only [cutV, V.lt] at hv ⊢; exact hv
    | none => simp only [cutV]; split <;> (simp only [V.lt] at hv ⊢; exact hv)
  | _ => exact hv

/-- The slice of a row that was just made. -/
theorem sl_selfE {cs : List V} {b : Nat} {c : Option Nat} {own : Bool} (hb : b = h.next) (hl : cs.length = n * z) (hc : c = none ∨ c = some n) : sl (h.new (.cells cs t z own)) z (.slice b 0 n c) = some cs := by
  subst hb
  refine sl_of_isS (n := n) (.inr ⟨h.next, 0, c, rfl, fun m hm => ?_, hl, .inr ⟨cs, t, own, Heap.get_new_self _ _, by omega, ?_⟩⟩)
  · subst hm
    rcases hc with hc | hc
    · cases hc
    · cases hc; exact Nat.le_refl _
  · rw [List.drop_zero, List.take_of_length_le (by omega)]
theorem slB_selfE {b : Nat} {c : Option Nat} {own : Bool} (hb : b = h.next) (hl : s.length = n) (hc : c = none ∨ c = some n) (hs : ∀ y ∈ s, y < 256) : slB (h.new (.cells (bytesOf s) t 1 own)) (.slice b 0 n c) = some s :=
  slB_of (sl_selfE hb (by rw [bytesOf_length]; omega) hc) hs
theorem slK_selfE {b : Nat} {c : Option Nat} {own : Bool} (hb : b = h.next) (hl : li.length = n) (hc : c = none ∨ c = some n) : slK k (h.new (.cells (li.map (V.int k)) t 1 own)) (.slice b 0 n c) = some li :=
  slK_of (sl_selfE hb (by simpa using hl) hc)
theorem OwnB.slB (ho : OwnB h0 h t v acc) (hs : ∀ y ∈ acc, y < 256) : slB h v = some acc := slB_of (sl_of_isS ho.isS) hs
theorem OwnK.slK {acc : List Int} (ho : OwnK k h0 h t v acc) : slK k h v = some acc := slK_of (sl_of_isS ho.isS)

/-- A row of one byte. -/
theorem slB_oneE {b : Nat} {c : Option Nat} {own : Bool} {y : Int} (hb : b = h.next) (hc : c = none ∨ c = some 1) (h0 : 0 ≤ y) (h1 : y < 256) : slB (h.new (.cells [.int .u8 y] t 1 own)) (.slice b 0 1 c) = some [y.toNat] := by
  have := slB_selfE (h := h) (t := t) (s := [y.toNat]) (n := 1) (own := own) hb rfl hc (by simp; omega)
  simp only [bytesOf, List.map_cons, List.map_nil, Int.ofNat_eq_natCast, Int.toNat_of_nonneg h0] at this
  exact this
theorem slB_litE {cs : List V} {b : Nat} {c : Option Nat} {own : Bool} (hb : b = h.next) (hl : cs.length = n) (hc : c = none ∨ c = some n) : slB (h.new (.cells cs t 1 own)) (.slice b 0 n c) = asB cs := by
  unfold slB
  rw [sl_selfE hb (by omega) hc]; rfl
theorem slK_litE {cs : List V} {b : Nat} {c : Option Nat} {own : Bool} (hb : b = h.next) (hl : cs.length = n) (hc : c = none ∨ c = some n) : slK k (h.new (.cells cs t 1 own)) (.slice b 0 n c) = asK k cs := by
  unfold slK
  rw [sl_selfE hb (by omega) hc]; rfl
theorem slB_nil : slB h .nilslice = some [] := rfl
theorem slK_nil (k : IntKind) : slK k h .nilslice = some [] := rfl

/-- A part of a slice. -/
theorem sl_cut {lo hi : Option V} (hs : sl h z v = some xs) (hlr : l ≤ r) (hrn : r ≤ vlen v) (hlo : lo = none ∧ l = 0 ∨ ∃ k, lo = some (.int k (l : Int))) (hhi : hi = none ∧ r = vlen v ∨ ∃ k, hi = some (.int k (r : Int))) :
    sliceV h z v lo hi none = some (cutV z v l r) ∧ sl h z (cutV z v l r) = some ((xs.take (r * z)).drop (l * z)) ∧ vlen (cutV z v l r) = r - l := by
  obtain ⟨k1, k2⟩ := (sl_isS hs).cut (lo := lo) (hi' := hi) hlr hrn hlo hhi
  exact ⟨k1, sl_of_isS k2, k2.vlen⟩
theorem slB_cut' (hs : slB h v = some s) (hlr : l ≤ r) (hrn : r ≤ s.length) : slB h (cutV 1 v l r) = some ((s.take r).drop l) ∧ vlen (cutV 1 v l r) = r - l := by
  have hv := slB_vlen hs
  obtain ⟨h1, h2⟩ := slB_sl hs
  obtain ⟨_, k2, k3⟩ := sl_cut (lo := some (.int .i64 (l : Int))) (hi := some (.int .i64 (r : Int))) h1 hlr (by omega) (.inr ⟨_, rfl⟩) (.inr ⟨_, rfl⟩)
  refine ⟨slB_of ?_ (fun x hx => h2 x ?_), k3⟩
  · rw [k2]; simp only [Nat.mul_one, bytesOf, List.map_take, List.map_drop]
  · exact List.mem_of_mem_take (List.mem_of_mem_drop hx)

/-! The same, as rules with tests. -/
theorem slB_cut (hs : (slB h v).isSome = true) (hlr : l ≤ r) (hrn : r ≤ vlen v) : slB h (cutV 1 v l r) = (slB h v).map fun s => (s.take r).drop l := by
  cases hq : slB h v with
  | none => rw [hq] at hs; cases hs
  | some s => exact (slB_cut' hq hlr (by rw [← slB_vlen hq]; exact hrn)).1
theorem vlen_cut (v : V) (z l r : Nat) (hrn : r ≤ vlen v) : vlen (cutV z v l r) = r - l := by
  cases v with
  | slice b o n c => cases c with
    | some c => rfl
    | none =>
      simp only [vlen] at hrn
      simp only [cutV]
      split
      · simp only [vlen]; omega
      · rfl
  | _ => simp only [vlen] at hrn; simp only [cutV, vlen]; omega
theorem isSl_cut (v : V) (z l r : Nat) : isSl (cutV z v l r) = isSl v := by
  cases v with
  | slice b o n c => cases c with
    | some c => rfl
    | none => simp only [cutV]; split <;> rfl
  | _ => rfl
theorem one_cut (v : V) (z l r : Nat) : (cutV z v l r).one = v.one := by
  cases v with
  | slice b o n c => cases c with
    | some c => rfl
    | none => simp only [cutV]; split <;> rfl
  | _ => rfl
theorem cells_cut (v : V) (z l r : Nat) (hv : isSl v = true) : (cutV z v l r).cells = [cutV z v l r] := by
  cases v with
  | slice b o n c => cases c with
    | some c => rfl
    | none => simp only [cutV]; split <;> rfl
  | nilslice => rfl
  | _ => simp [isSl] at hv
theorem toNat_int (h0 : 0 ≤ i) : (.int k i : V) = .int k (i.toNat : Int) := by congr 1; omega
theorem slice_lo (hs : (slB h v).isSome = true) (h0 : 0 ≤ i) (h1 : i ≤ vlen v) : sliceV h 1 v (some (.int k i)) none none = some (cutV 1 v i.toNat (vlen v)) := by
  cases hq : slB h v with
  | none => rw [hq] at hs; cases hs
  | some s => exact (sl_cut (slB_sl hq).1 (by omega) (Nat.le_refl _) (.inr ⟨k, by rw [← toNat_int h0]⟩) (.inl ⟨rfl, rfl⟩)).1
theorem slice_hi (hs : (slB h v).isSome = true) (h0 : 0 ≤ i) (h1 : i ≤ vlen v) : sliceV h 1 v none (some (.int k i)) none = some (cutV 1 v 0 i.toNat) := by
  cases hq : slB h v with
  | none => rw [hq] at hs; cases hs
  | some s => exact (sl_cut (slB_sl hq).1 (Nat.zero_le _) (by omega) (.inl ⟨rfl, rfl⟩) (.inr ⟨k, by rw [← toNat_int h0]⟩)).1
theorem slice_lohi (hs : (slB h v).isSome = true) (h0 : 0 ≤ i) (h1 : i ≤ j) (h2 : j ≤ vlen v) : sliceV h 1 v (some (.int k i)) (some (.int k' j)) none = some (cutV 1 v i.toNat j.toNat) := by
  cases hq : slB h v with
  | none => rw [hq] at hs; cases hs
  | some s => exact (sl_cut (slB_sl hq).1 (by omega) (by omega) (.inr ⟨k, by rw [← toNat_int h0]⟩) (.inr ⟨k', by rw [← toNat_int (by omega)]⟩)).1
theorem bytesStrE (hs : (slB h v).isSome = true) : bytesStrS v h = (slB h v).map fun s => (.str s, h) := by
  cases hq : slB h v with
  | none => rw [hq] at hs; cases hs
  | some s => exact rdB_str (slB_rdB hq)
theorem indexE (hs : isSl v = true) (h' : Heap) (h0 : 0 ≤ i) (h1 : i < vlen v) : indexAddrSS z v (.int k i) h' = some (atP v (i.toNat * z), h') := by
  cases v with
  | nilslice => simp [vlen] at h1; omega
  | slice b o n c => rw [indexAddrSS_slice, if_pos ⟨h0, h1⟩]; rfl
  | _ => simp [isSl] at hs
theorem loadBE {j : Nat} (hs : (slB h v).isSome = true) (hj : j < vlen v) : loadS (atP v j) h = (slB h v).map fun s => (.int .u8 (s.getD j 0 : Nat), h) := by
  cases hq : slB h v with
  | none => rw [hq] at hs; cases hs
  | some s => rw [rdB_load (slB_rdB hq) (by rw [← slB_vlen hq]; exact hj)]; rfl
theorem lenE (hs : isSl v = true) : lenLS v h = some (.int .i64 (vlen v), h) := lenLS_of h hs

/-- A row that was made, told as the next block. -/
theorem Canon.made {cs : List V} {b : Nat} (hf : Fresh h) (hsc : Scoped h) (hb : b = h.next) (hl : cs.length = n * z) (hfl : ltL 0 cs) : ∃ τ, Canon h.next (h.new (.cells cs t z true)) (.slice b 0 n (some n)) (h.new (.cells cs t z true)) (newV h n) τ := by
  subst hb
  exact Own.canon hf hsc (Ext.new h _) (.inr ⟨h.next, some n, rfl, .inr rfl, Nat.le_refl _, by simp, hl, Heap.get_new_self _ _⟩) (by simp) hfl

theorem bytesOf_nil : bytesOf [] = [] := rfl
theorem bytesOf_cons (x : Nat) (s : List Nat) : bytesOf (x :: s) = V.int .u8 (x : Int) :: bytesOf s := rfl

/-- The same value; all old blocks as they were. -/
theorem Canon.keep {v : V} (hf : Fresh h) (hsc : Scoped h) (he : Ext h h2) (hv : V.lt h.next v) : ∃ τ, Canon h.next h2 v h v τ := Canon.same hf hsc (fun b B hb => he.get hf hb) hv

/-- The last block that came is what is told. -/
theorem Canon.tail {H : Heap} {cs : List V} {v2 : V} (hf : Fresh h) (hsc : Scoped h) (he : Ext h H) (hfl : ltL 0 cs) (hv : VC (H.new (.cells cs t z true)) (moved h.next fun _ => (H.next, 0)) (h.next + 1) v v2) :
    ∃ τ, Canon h.next (H.new (.cells cs t z true)) v2 (h.new (.cells cs t z true)) v τ :=
  ⟨_, Canon.one (δ := 0) hf hsc (fun b B hB => (he.trans_new _).get hf hB) he.1 (Heap.get_new_self _ _) (by simp) (fun i v hi => by simpa using hi) hfl hv⟩
theorem VC_newV {H : Heap} {n0 m : Nat} {B : Blk} : VC (H.new B) (moved n0 fun _ => (H.next, 0)) (n0 + 1) (.slice n0 0 m none) (.slice H.next 0 m none) := by
  simp only [VC, moved_at]
  exact ⟨by omega, none, rfl, fun m hm => by cases hm⟩

section vc
variable {τ : Nat → Nat × Nat} {m b b' o o' q q' : Nat} {vs : List V}
theorem VCL_nil : VCL h τ m [] [] = True := by simp [VCL]
theorem VCL_cons : VCL h τ m (v :: vs) (x :: xs) = (VC h τ m v x ∧ VCL h τ m vs xs) := by
  simp only [VCL, List.cons.injEq, eq_iff_iff]
  constructor
  · rintro ⟨_, _, ⟨rfl, rfl⟩, h1⟩; exact h1
  · intro h1; exact ⟨_, _, ⟨rfl, rfl⟩, h1⟩
theorem VC_tuple : VC h τ m (.tuple vs) (.tuple xs) = VCL h τ m vs xs := by simp [VC]
theorem VC_agg : VC h τ m (.agg vs) (.agg xs) = VCL h τ m vs xs := by simp [VC]
theorem VC_bool (y : Bool) : VC h τ m (.bool y) x = (x = .bool y) := by simp [VC]
theorem VC_int (k : IntKind) (i : Int) : VC h τ m (.int k i) x = (x = .int k i) := by simp [VC]
theorem VC_str (s : List Nat) : VC h τ m (.str s) x = (x = .str s) := by simp [VC]
theorem VC_nil : VC h τ m .nilslice x = (x = .nilslice) := by simp [VC]
theorem VC_nilptr : VC h τ m .nilptr x = (x = .nilptr) := by simp [VC]
theorem VC_ptr : VC h τ m (.ptr b o) x = (b < m ∧ x = .ptr (τ b).1 ((τ b).2 + o)) := by simp [VC]
theorem VC_slice_nn : VC h τ m (.slice b o q none) (.slice b' o' q' none) = (b < m ∧ b' = (τ b).1 ∧ o' = (τ b).2 + o ∧ q' = q) := by
  simp only [VC, V.slice.injEq, eq_iff_iff]
  constructor
  · rintro ⟨h1, c', ⟨rfl, rfl, rfl, rfl⟩, _⟩; exact ⟨h1, rfl, rfl, rfl⟩
  · rintro ⟨h1, rfl, rfl, rfl⟩; exact ⟨h1, _, ⟨rfl, rfl, rfl, rfl⟩, fun m hm => by cases hm⟩
theorem VC_slice_ns {c : Nat} : VC h τ m (.slice b o q none) (.slice b' o' q' (some c)) = (b < m ∧ (b' = (τ b).1 ∧ o' = (τ b).2 + o ∧ q' = q) ∧ ∃ cs t z own, h.get (τ b).1 = some (.cells cs t z own) ∧ (τ b).2 + o + c * z ≤ cs.length) := by
  simp only [VC, V.slice.injEq, eq_iff_iff]
  constructor
  · rintro ⟨h1, c', ⟨rfl, rfl, rfl, rfl⟩, h2⟩; exact ⟨h1, ⟨rfl, rfl, rfl⟩, h2 c rfl⟩
  · rintro ⟨h1, ⟨rfl, rfl, rfl⟩, h2⟩; exact ⟨h1, _, ⟨rfl, rfl, rfl, rfl⟩, fun m hm => by cases hm; exact h2⟩
theorem VC_slice_s {c : Nat} : VC h τ m (.slice b o q (some c)) x = (b < m ∧ x = .slice (τ b).1 ((τ b).2 + o) q (some c)) := by simp [VC]
end vc

/-- A store behind what is filled already. -/
theorem over_fill (a : List V) (z x : V) (k : Nat) : over (a ++ List.replicate (k + 1) z) a.length [x] = (a ++ [x]) ++ List.replicate k z := by
  unfold over
  rw [List.take_left' rfl]
  simp only [List.length_singleton]
  rw [List.drop_append, List.drop_eq_nil_of_le (Nat.le_succ _)]
  simp [List.replicate_succ]

/-- A row of rows of bytes. -/
def slBs (h : Heap) : List V → Option (List (List Nat))
  | [] => some []
  | v :: vs => match slB h v, slBs h vs with
    | some s, some ss => some (s :: ss)
    | _, _ => none
theorem slBs_cons {vs : List V} {ss : List (List Nat)} (h1 : slB h v = some s) (h2 : slBs h vs = some ss) : slBs h (v :: vs) = some (s :: ss) := by simp only [slBs, h1, h2]
theorem slBs_get : ∀ {vs : List V} {ss : List (List Nat)}, slBs h vs = some ss → vs.length = ss.length ∧ ∀ {i : Nat}, i < ss.length → ∃ v, vs[i]? = some v ∧ slB h v = some (ss.getD i [])
  | [], ss, hs => by simp only [slBs, Option.some.injEq] at hs; subst hs; exact ⟨rfl, fun hi => by simp at hi⟩
  | v :: vs, ss, hs => by
    simp only [slBs] at hs
    split at hs
    · rename_i s ss' h1 h2
      have hs := Option.some.inj hs
      subst hs
      obtain ⟨k1, k2⟩ := slBs_get h2
      refine ⟨by simp [k1], fun {i} hi => ?_⟩
      cases i with
      | zero => exact ⟨v, rfl, by simpa using h1⟩
      | succ i => obtain ⟨w, q1, q2⟩ := k2 (i := i) (by simpa using hi); exact ⟨w, by simpa using q1, by simpa using q2⟩
    · cases hs
theorem slBs_ext (he : Ext h h') (hf : Fresh h) : ∀ {vs : List V} {ss : List (List Nat)}, slBs h vs = some ss → slBs h' vs = some ss
  | [], ss, hs => hs
  | v :: vs, ss, hs => by
    simp only [slBs] at hs
    split at hs
    · rename_i s ss' h1 h2
      rw [slBs_cons (slB_ext he hf h1) (slBs_ext he hf h2)]; exact hs
    · cases hs
theorem take_flatten_succ (ss : List (List Nat)) (i : Nat) (hi : i < ss.length) : (ss.take (i + 1)).flatten = (ss.take i).flatten ++ ss.getD i [] := by
  rw [List.take_succ_eq_append_getElem hi, List.flatten_append, List.getD_eq_getElem?_getD, List.getElem?_eq_getElem hi]; simp

end
end Go.Proofs.YthfbefjmenddkaaDoorA
