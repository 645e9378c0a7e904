/- Arguments, one by one, and what their kinds say of them. -/
import Derived.Test.YthfbefjmenddkaaDoorA36
import Derived.WideShapes
namespace Go.Proofs.YthfbefjmenddkaaDoorA
open Go
set_option linter.unusedVariables false
set_option linter.unusedSimpArgs false
noncomputable section

variable {P : Program} {ρ : Ren} {h h' : Heap} {w W : World} {H : Type} {n : Nat} {t e : TypeId} {d : DataW H} {a : V} {vs : List V}

/-- A whole argument. -/
def IsV (P : Program) (h : Heap) (n : Nat) (t : TypeId) (d : DataW H) (a : V) : Prop := match P.underlying t with
  | some (.struct _) => ∃ vs, a = .agg vs ∧ IsD P h n t d vs
  | some (.array _ _) => ∃ vs, a = .agg vs ∧ IsD P h n t d vs
  | _ => IsD P h n t d [a]

theorem IsV.le (hle : h.le h') (hd : IsV P h n t d a) : IsV P h' n t d a := by
  unfold IsV at hd ⊢
  split at hd
  · obtain ⟨vs, h1, h2⟩ := hd; exact ⟨vs, h1, h2.le hle⟩
  · obtain ⟨vs, h1, h2⟩ := hd; exact ⟨vs, h1, h2.le hle⟩
  · exact IsD.le hle _ _ _ _ hd

theorem okWide_array {m : Nat} {r : Reach} {base : Nat} {v : Value} (ht : P.underlying t = some (.array m e)) (h : Value.okWide P W r base t v) : ∃ cs, v = .agg cs := by
  simp only [Value.okWide, ht] at h
  obtain ⟨cs, h1, _⟩ := h
  exact ⟨cs, h1⟩

theorem arg_open {enc : TypeId × Value → H} {held : Bool} {base : Nat} {v : Value} {p : List MemPlace} (ht : argTy P n t = true) (hval : Value.okWide P W .any base t v) (hd : DataW.Trod enc P W 0 (fun _ => true) held t v d p) (r : Rel (base0 P W) ρ h W) :
    ∃ ρ' h' a, ρ.le ρ' ∧ h.le h' ∧ Rel (base0 P W) ρ' h' W ∧ VR ρ' a v ∧ IsV P h' n t d a := by
  obtain ⟨fuel, hf⟩ := hd
  obtain ⟨ρ', h', vs, k1, k2, k3, k4, k5⟩ := arg_of_trod n fuel ρ h ht hf r
  have hone : ∀ (x : Value), v = x → x.cells = #[x] → (∀ cs, x ≠ .agg cs) → ∃ a, vs = [a] ∧ VR ρ' a x := by
    intro x hx hc _
    subst hx
    rw [hc] at k4
    cases vs with
    | nil => simp [VRL] at k4
    | cons a l =>
      simp only [VRL] at k4
      obtain ⟨y, ys, he, h1, h2⟩ := k4
      simp only [List.cons.injEq] at he
      obtain ⟨rfl, rfl⟩ := he
      cases l with
      | nil => exact ⟨a, rfl, h1⟩
      | cons _ _ => simp [VRL] at h2
  cases n with
  | zero => simp [argTy] at ht
  | succ n =>
    have ht' := ht
    unfold argTy at ht
    split at ht
    · rename_i hu
      obtain ⟨b, rfl⟩ := WideShapes.okWide_bool hu hval
      obtain ⟨a, rfl, h1⟩ := hone _ rfl rfl (by intro cs hc; cases hc)
      exact ⟨ρ', h', a, k1, k2, k3, h1, by simp only [IsV, hu]; exact k5⟩
    · rename_i k hu
      obtain ⟨b, rfl⟩ := WideShapes.okWide_int hu hval
      obtain ⟨a, rfl, h1⟩ := hone _ rfl rfl (by intro cs hc; cases hc)
      exact ⟨ρ', h', a, k1, k2, k3, h1, by simp only [IsV, hu]; exact k5⟩
    · rename_i hu
      obtain ⟨b, rfl⟩ := WideShapes.okWide_string hu hval
      obtain ⟨a, rfl, h1⟩ := hone _ rfl rfl (by intro cs hc; cases hc)
      exact ⟨ρ', h', a, k1, k2, k3, h1, by simp only [IsV, hu]; exact k5⟩
    · rename_i m e hu
      obtain ⟨cs, rfl⟩ := okWide_array hu hval
      exact ⟨ρ', h', .agg vs, k1, k2, k3, by simp only [VR]; exact ⟨cs, rfl, k4⟩, by simp only [IsV, hu]; exact ⟨vs, rfl, k5⟩⟩
    · rename_i fs hu
      obtain ⟨cs, rfl, _⟩ := WideShapes.okWide_struct hu hval
      exact ⟨ρ', h', .agg vs, k1, k2, k3, by simp only [VR]; exact ⟨cs, rfl, k4⟩, by simp only [IsV, hu]; exact ⟨vs, rfl, k5⟩⟩
    · rename_i e hu
      obtain ⟨x, l, c, rfl⟩ := WideShapes.okWide_slice hu hval
      obtain ⟨a, rfl, h1⟩ := hone _ rfl rfl (by intro cs hc; cases hc)
      exact ⟨ρ', h', a, k1, k2, k3, h1, by simp only [IsV, hu]; exact k5⟩
    · cases ht

/-! What the kinds say. -/
theorem IsV.int {k : IntKind} (hu : P.underlying t = some (.int k)) (hd : IsV P h (n + 1) t d a) : ∃ z, d = .lit (.int k z) ∧ (Lit.int k z).wf = true ∧ a = .int k z := by
  simp only [IsV, IsD, hu] at hd
  obtain ⟨z, h1, h2, h3⟩ := hd
  exact ⟨z, h1, h2, by simpa using h3⟩
theorem IsV.bool (hu : P.underlying t = some .bool) (hd : IsV P h (n + 1) t d a) : ∃ b, d = .lit (.bool b) ∧ a = .bool b := by
  simp only [IsV, IsD, hu] at hd
  obtain ⟨z, h1, h3⟩ := hd
  exact ⟨z, h1, by simpa using h3⟩
theorem IsV.string (hu : P.underlying t = some .string) (hd : IsV P h (n + 1) t d a) : ∃ s : List Nat, a = .str s ∧ (∀ y ∈ s, y < 256) ∧ ∃ bs, d = .lit (.string bs) ∧ bs.length = s.length := by
  simp only [IsV, IsD, hu] at hd
  obtain ⟨s, h1, h3⟩ := hd
  refine ⟨s.map UInt8.toNat, by simpa using h3, ?_, s, h1, by simp⟩
  intro y hy
  simp only [List.mem_map] at hy
  obtain ⟨b, _, rfl⟩ := hy
  exact b.toNat_lt

/-- The cells of a row of integers. -/
theorem ints_flat {k : IntKind} (hu : P.underlying e = some (.int k)) : ∀ {ds : List (DataW H)} {vss : List (List V)}, vss.length = ds.length → (∀ (i : Nat) d' vs', ds[i]? = some d' → vss[i]? = some vs' → IsD P h (n + 1) e d' vs') → ∃ l : List Int, vss.flatten = l.map (V.int k) ∧ l.length = ds.length ∧ ∀ z ∈ l, (Lit.int k z).wf = true
  | [], vss, hl, _ => by
    have : vss = [] := List.length_eq_zero_iff.1 (by simpa using hl)
    subst this; exact ⟨[], rfl, rfl, by simp⟩
  | d :: ds, [], hl, _ => by simp at hl
  | d :: ds, v :: vss, hl, hi => by
    obtain ⟨l, h1, h2, h3⟩ := ints_flat hu (ds := ds) (vss := vss) (by simpa using hl) (fun i d' vs' a b => hi (i + 1) d' vs' (by simpa using a) (by simpa using b))
    have h4 := hi 0 d v rfl rfl
    simp only [IsD, hu] at h4
    obtain ⟨z, _, hw, rfl⟩ := h4
    refine ⟨z :: l, by simp [h1], by simp [h2], ?_⟩
    intro y hy
    rcases List.mem_cons.1 hy with rfl | hy
    · exact hw
    · exact h3 y hy
theorem bools_flat (hu : P.underlying e = some .bool) : ∀ {ds : List (DataW H)} {vss : List (List V)}, vss.length = ds.length → (∀ (i : Nat) d' vs', ds[i]? = some d' → vss[i]? = some vs' → IsD P h (n + 1) e d' vs') → ∃ l : List Bool, vss.flatten = l.map V.bool ∧ l.length = ds.length
  | [], vss, hl, _ => by
    have : vss = [] := List.length_eq_zero_iff.1 (by simpa using hl)
    subst this; exact ⟨[], rfl, rfl⟩
  | d :: ds, [], hl, _ => by simp at hl
  | d :: ds, v :: vss, hl, hi => by
    obtain ⟨l, h1, h2⟩ := bools_flat hu (ds := ds) (vss := vss) (by simpa using hl) (fun i d' vs' a b => hi (i + 1) d' vs' (by simpa using a) (by simpa using b))
    have h4 := hi 0 d v rfl rfl
    simp only [IsD, hu] at h4
    obtain ⟨z, _, rfl⟩ := h4
    exact ⟨z :: l, by simp [h1], by simp [h2]⟩

theorem wf_u8 {z : Int} (hw : (Lit.int .u8 z).wf = true) : 0 ≤ z ∧ z < 256 := by
  simp [Lit.wf, IntKind.min, IntKind.max, IntKind.signed, IntKind.bits] at hw; omega
theorem wf_i64 {z : Int} (hw : (Lit.int .i64 z).wf = true) : -9223372036854775808 ≤ z ∧ z < 9223372036854775808 := by
  simp [Lit.wf, IntKind.min, IntKind.max, IntKind.signed, IntKind.bits] at hw; omega
theorem wf_i32 {z : Int} (hw : (Lit.int .i32 z).wf = true) : -2147483648 ≤ z ∧ z < 2147483648 := by
  simp [Lit.wf, IntKind.min, IntKind.max, IntKind.signed, IntKind.bits] at hw; omega
theorem wf_u32 {z : Int} (hw : (Lit.int .u32 z).wf = true) : 0 ≤ z ∧ z < 4294967296 := by
  simp [Lit.wf, IntKind.min, IntKind.max, IntKind.signed, IntKind.bits] at hw; omega
theorem wf_u64 {z : Int} (hw : (Lit.int .u64 z).wf = true) : 0 ≤ z ∧ z < 18446744073709551616 := by
  simp [Lit.wf, IntKind.min, IntKind.max, IntKind.signed, IntKind.bits] at hw; omega

theorem bytes_of_ints {l : List Int} (hl : ∀ z ∈ l, (Lit.int .u8 z).wf = true) : l.map (V.int .u8) = bytesOf (l.map Int.toNat) ∧ ∀ y ∈ l.map Int.toNat, y < 256 := by
  refine ⟨?_, fun y hy => ?_⟩
  · simp only [bytesOf, List.map_map]
    apply List.map_congr_left
    intro z hz
    have := wf_u8 (hl z hz)
    simp only [Function.comp, V.int.injEq, true_and, Int.ofNat_eq_natCast]; omega
  · simp only [List.mem_map] at hy
    obtain ⟨z, hz, rfl⟩ := hy
    have := wf_u8 (hl z hz)
    omega

/-- A slice's datum: how many elements. -/
def dlen (d : DataW H) (n : Nat) : Prop := (d = .nil ∧ n = 0) ∨ ∃ ds rest, d = .slice ds rest ∧ ds.length = n

theorem IsD.bytes (hu : P.underlying t = some (.slice e)) (he : P.underlying e = some (.int .u8)) (hc : P.cellsOf e = 1) (hd : IsD P h (n + 2) t d vs) : ∃ v s, vs = [v] ∧ slB h v = some s ∧ dlen d s.length := by
  unfold IsD at hd
  simp only [hu] at hd
  obtain ⟨v, h1, ⟨rfl, rfl⟩ | ⟨ds, rest, vss, rfl, h3, _, h4, h5, h6⟩⟩ := hd
  · exact ⟨_, [], h1, rfl, .inl ⟨rfl, rfl⟩⟩
  · obtain ⟨l, k1, k2, k3⟩ := ints_flat he h3 h6
    obtain ⟨k4, k5⟩ := bytes_of_ints k3
    refine ⟨v, l.map Int.toNat, h1, slB_of ?_ k5, .inr ⟨ds, rest, rfl, by simpa using k2.symm⟩⟩
    rw [hc] at h5
    rw [h5, k1, k4]
theorem IsD.ints {k : IntKind} (hu : P.underlying t = some (.slice e)) (he : P.underlying e = some (.int k)) (hc : P.cellsOf e = 1) (hd : IsD P h (n + 2) t d vs) : ∃ v l, vs = [v] ∧ slK k h v = some l ∧ dlen d l.length ∧ ∀ z ∈ l, (Lit.int k z).wf = true := by
  unfold IsD at hd
  simp only [hu] at hd
  obtain ⟨v, h1, ⟨rfl, rfl⟩ | ⟨ds, rest, vss, rfl, h3, _, h4, h5, h6⟩⟩ := hd
  · exact ⟨_, [], h1, rfl, .inl ⟨rfl, rfl⟩, by simp⟩
  · obtain ⟨l, k1, k2, k3⟩ := ints_flat he h3 h6
    refine ⟨v, l, h1, slK_of ?_, .inr ⟨ds, rest, rfl, k2.symm⟩, k3⟩
    rw [hc] at h5
    rw [h5, k1]
theorem IsD.bools (hu : P.underlying t = some (.slice e)) (he : P.underlying e = some .bool) (hc : P.cellsOf e = 1) (hd : IsD P h (n + 2) t d vs) : ∃ v, ∃ l : List Bool, vs = [v] ∧ sl h 1 v = some (l.map V.bool) ∧ dlen d l.length := by
  unfold IsD at hd
  simp only [hu] at hd
  obtain ⟨v, h1, ⟨rfl, rfl⟩ | ⟨ds, rest, vss, rfl, h3, _, h4, h5, h6⟩⟩ := hd
  · exact ⟨_, [], h1, rfl, .inl ⟨rfl, rfl⟩⟩
  · obtain ⟨l, k1, k2⟩ := bools_flat he h3 h6
    refine ⟨v, l, h1, ?_, .inr ⟨ds, rest, rfl, k2.symm⟩⟩
    rw [hc] at h5
    rw [h5, k1]
theorem IsV.bytes (hu : P.underlying t = some (.slice e)) (he : P.underlying e = some (.int .u8)) (hc : P.cellsOf e = 1) (hd : IsV P h (n + 2) t d a) : ∃ s, slB h a = some s ∧ dlen d s.length := by
  simp only [IsV, hu] at hd
  obtain ⟨v, s, h1, h2, h3⟩ := hd.bytes hu he hc
  simp only [List.cons.injEq, and_true] at h1
  subst h1
  exact ⟨s, h2, h3⟩
theorem IsV.ints {k : IntKind} (hu : P.underlying t = some (.slice e)) (he : P.underlying e = some (.int k)) (hc : P.cellsOf e = 1) (hd : IsV P h (n + 2) t d a) : ∃ l, slK k h a = some l ∧ dlen d l.length ∧ ∀ z ∈ l, (Lit.int k z).wf = true := by
  simp only [IsV, hu] at hd
  obtain ⟨v, s, h1, h2, h3⟩ := hd.ints hu he hc
  simp only [List.cons.injEq, and_true] at h1
  subst h1
  exact ⟨s, h2, h3⟩
theorem IsV.bools (hu : P.underlying t = some (.slice e)) (he : P.underlying e = some .bool) (hc : P.cellsOf e = 1) (hd : IsV P h (n + 2) t d a) : ∃ l : List Bool, sl h 1 a = some (l.map V.bool) ∧ dlen d l.length := by
  simp only [IsV, hu] at hd
  obtain ⟨v, s, h1, h2, h3⟩ := hd.bools hu he hc
  simp only [List.cons.injEq, and_true] at h1
  subst h1
  exact ⟨s, h2, h3⟩
theorem IsV.arr {k : IntKind} {m : Nat} (hu : P.underlying t = some (.array m e)) (he : P.underlying e = some (.int k)) (hd : IsV P h (n + 2) t d a) : ∃ l : List Int, a = .agg (l.map (V.int k)) ∧ l.length = m ∧ ∀ z ∈ l, (Lit.int k z).wf = true := by
  simp only [IsV, hu] at hd
  obtain ⟨vs, rfl, hd⟩ := hd
  unfold IsD at hd
  simp only [hu] at hd
  obtain ⟨ds, vss, _, h2, h3, rfl, h5⟩ := hd
  obtain ⟨l, k1, k2, k3⟩ := ints_flat he (by omega) h5
  exact ⟨l, by rw [k1], by omega, k3⟩
/-- A row of rows of bytes. -/
theorem IsV.arrB {m : Nat} (hu : P.underlying t = some (.array m e)) (he : P.underlying e = some (.int .u8)) (hd : IsV P h (n + 2) t d a) : ∃ s : List Nat, a = .agg (bytesOf s) ∧ s.length = m ∧ ∀ y ∈ s, y < 256 := by
  obtain ⟨l, rfl, h2, h3⟩ := IsV.arr hu he hd
  obtain ⟨k1, k3⟩ := bytes_of_ints h3
  exact ⟨l.map Int.toNat, by rw [k1], by simpa using h2, k3⟩
theorem IsV.rows {q : TypeId} (hu : P.underlying t = some (.slice e)) (he : P.underlying e = some (.slice q)) (hq : P.underlying q = some (.int .u8)) (hce : P.cellsOf e = 1) (hcq : P.cellsOf q = 1) (hd : IsV P h (n + 3) t d a) : ∃ vs ss, sl h 1 a = some vs ∧ slBs h vs = some ss ∧ ((d = .nil ∧ ss = []) ∨ ∃ ds rest, d = .slice ds rest ∧ ds.length = ss.length ∧ ∀ (i : Nat) d' s, ds[i]? = some d' → ss[i]? = some s → dlen d' s.length) := by
  simp only [IsV, hu] at hd
  unfold IsD at hd
  simp only [hu] at hd
  obtain ⟨v, h1, ⟨rfl, rfl⟩ | ⟨ds, rest, vss, rfl, h3, _, h4, h5, h6⟩⟩ := hd
  · simp only [List.cons.injEq, and_true] at h1
    subst h1
    exact ⟨[], [], rfl, rfl, .inl ⟨rfl, rfl⟩⟩
  · simp only [List.cons.injEq, and_true] at h1
    subst h1
    rw [hce] at h5
    have key : ∀ {ds : List (DataW H)} {vss : List (List V)}, vss.length = ds.length → (∀ (i : Nat) d' vs', ds[i]? = some d' → vss[i]? = some vs' → IsD P h (n + 2) e d' vs') → ∃ ss, slBs h vss.flatten = some ss ∧ ds.length = ss.length ∧ ∀ (i : Nat) d' s, ds[i]? = some d' → ss[i]? = some s → dlen d' s.length := by
      intro ds
      induction ds with
      | nil =>
        intro vss hl _
        have : vss = [] := List.length_eq_zero_iff.1 (by simpa using hl)
        subst this
        exact ⟨[], rfl, rfl, fun i d' s hi => by simp at hi⟩
      | cons d ds ih =>
        intro vss hl hi
        cases vss with
        | nil => simp at hl
        | cons v vss =>
          obtain ⟨ss, k1, k2, k3⟩ := ih (by simpa using hl) (fun i d' vs' a b => hi (i + 1) d' vs' (by simpa using a) (by simpa using b))
          obtain ⟨w, s, rfl, q2, q3⟩ := (hi 0 d v rfl rfl).bytes he hq hcq
          refine ⟨s :: ss, slBs_cons q2 k1, by simp [k2], fun i d' s' hd' hs' => ?_⟩
          cases i with
          | zero => simp at hd' hs'; subst hd'; subst hs'; exact q3
          | succ i => exact k3 i d' s' (by simpa using hd') (by simpa using hs')
    obtain ⟨ss, k1, k2, k3⟩ := key h3 h6
    exact ⟨_, ss, h5, k1, .inr ⟨ds, rest, rfl, k2, k3⟩⟩

/-- How great a slice may be. -/
theorem dlen_sized {ts : List TypeId} {ds : List (DataW H)} {j m B : Nat} (hsz : (DataW.weightsEach P ts ds).all (· ≤ reachBytes) = true) (ht : ts[j]? = some t) (hd : ds[j]? = some d) (hu : P.underlying t = some (.slice e)) (hB : P.bytesOf e = B) (hl : dlen d m) : m * B ≤ 140737488351232 := by
  rcases hl with ⟨_, rfl⟩ | ⟨ds', rest, rfl, rfl⟩
  · simp
  · have := sized_slice hsz ht hd hu
    rw [hB] at this
    have h2 : ds'.length * B ≤ (ds'.length + rest.length) * B := Nat.mul_le_mul_right B (by omega)
    have h3 : reachBytes = 140737488351232 := rfl
    omega

theorem over_set (cs : List V) (i : Nat) (v : V) (hi : i < cs.length) : over cs i [v] = cs.set i v := by
  unfold over
  rw [List.set_eq_take_append_cons_drop, if_pos hi]; simp
theorem map_set (k : IntKind) (l : List Int) (i : Nat) (x : Int) : (l.map (V.int k)).set i (V.int k x) = (l.set i x).map (V.int k) := by rw [List.map_set]
theorem Scoped.setFlat {h : Heap} {p t z : Nat} {cs : List V} {own : Bool} (hs : Scoped h) (hc : ltL 0 cs) : Scoped (h.set p (some (.cells cs t z own))) := by
  intro b cs' t' z' own' hb
  rw [Heap.get_set] at hb
  split at hb
  · simp only [Option.some.injEq, Blk.cells.injEq] at hb
    obtain ⟨rfl, _⟩ := hb
    exact ltL_mono (Nat.zero_le _) _ hc
  · exact hs b cs' t' z' own' hb
/-- Just what the run leaves. -/
theorem Canon.self {h h' : Heap} {v : V} (hn : h'.next = h.next) (hf : Fresh h') (hsc : Scoped h') (hv : V.lt h.next v) : ∃ τ, Canon h.next h' v h' v τ := by
  refine ⟨_, Canon.news (h := h) (hb := h') (Bs := []) (τs := fun _ => (0, 0)) hn (fun b B hB => by have := hf.lt hB; omega) (fun b B hB => ⟨B, hB, BC.refl (fun _ hb => moved_old hb) (by omega) fun cs t z own he => ?_⟩) (fun i B hi => by simp at hi) (VC.refl (fun _ hb => moved_old hb) (by omega) v hv)⟩
  rw [← hn]
  exact hsc b cs t z own (he ▸ hB)
/-- Old blocks as told, and what is no more named. -/
theorem Canon.shrink {h hb h2 : Heap} {v : V} (hn : hb.next = h.next) (hlt : ∀ b B, hb.get b = some B → b < h.next) (hsc : Scoped hb) (hk : ∀ b B, hb.get b = some B → h2.get b = some B) (hv : V.lt h.next v) : ∃ τ, Canon h.next h2 v hb v τ := by
  refine ⟨_, Canon.news (h := h) (hb := hb) (Bs := []) (τs := fun _ => (0, 0)) hn hlt (fun b B hB => ⟨B, hk b B hB, BC.refl (fun _ hb => moved_old hb) (by omega) fun cs t z own he => ?_⟩) (fun i B hi => by simp at hi) (VC.refl (fun _ hb => moved_old hb) (by omega) v hv)⟩
  rw [← hn]
  exact hsc b cs t z own (he ▸ hB)

theorem flat_agg (k : IntKind) (l : List Int) (m : Nat) : V.lt m (.agg (l.map (V.int k))) := by
  simp only [V.lt]; exact ltL_mono (Nat.zero_le _) _ (flat_ints k l)
theorem flat_aggB (s : List Nat) (m : Nat) : V.lt m (.agg (bytesOf s)) := by
  simp only [V.lt]; exact ltL_mono (Nat.zero_le _) _ (flat_bytes s)
theorem mem_bytes_one {s : List Nat} : (∀ x, x ∈ bytesOf s → x.one = true) = True := by
  have := bytesOf_one s
  rw [List.all_eq_true] at this
  exact eq_true this
theorem mem_ints_one {k : IntKind} {l : List Int} : (∀ x, x ∈ l.map (V.int k) → x.one = true) = True := by
  refine eq_true fun x hx => ?_
  simp only [List.mem_map] at hx
  obtain ⟨y, _, rfl⟩ := hx
  rfl
/-- Bytes, as an array. -/
def aggB : V → Option (List Nat)
  | .agg cs => asB cs
  | _ => none
theorem aggB_some {v : V} {s : List Nat} (h : aggB v = some s) : v = .agg (bytesOf s) ∧ ∀ y ∈ s, y < 256 := by
  unfold aggB at h
  split at h
  · obtain ⟨rfl, h2⟩ := asB_some.1 h; exact ⟨rfl, h2⟩
  · cases h
theorem aggB_of {s : List Nat} (h : ∀ y ∈ s, y < 256) : aggB (.agg (bytesOf s)) = some s := asB_bytesOf h

/-- A copy of a whole slice to a place in a block. -/
theorem copy_at {h : Heap} {p o n q m : Nat} {c c' : Option Nat} {Q cs : List V} {t z : Nat} (hp : h.get p = some (.cells Q t z true)) (hs : h.read q 0 m = some cs) (hm : m ≤ n) (hm0 : 0 < m) (ho : o + m ≤ Q.length) (h1 : cs.all V.one = true) (hl : cs.length = m) :
    copyV h 1 (.slice p o n c) (.slice q 0 m c') = some (.int .i64 (m : Int), h.set p (some (.cells (over Q o cs) t z true))) := by
  have hmin : min m n = m := Nat.min_eq_left hm
  simp only [copyV, hmin, Nat.mul_one, hs]
  rw [if_neg (by omega), Heap.write_eq]
  unfold Heap.writeG
  rw [hp]
  simp only
  rw [if_pos ⟨by omega, h1⟩]
  rfl
theorem over_fillL (a cs : List V) (z : V) (k : Nat) : over (a ++ List.replicate (cs.length + k) z) a.length cs = (a ++ cs) ++ List.replicate k z := by
  unfold over
  rw [List.take_left' rfl, List.drop_append, List.drop_eq_nil_of_le (by omega)]
  simp

/-- A loop in the midst of a piece of code; the temporaries behind it, by name. -/
theorem loop_in {cf : ACall} {N : Nat} {c : ACode} {e : Env} {h : Heap} {K : Out → Out} {F Q : AExit → Env → Heap → Prop} (hl : Go.Proofs.YthfbefjmenddkaaDoorA.Ends (execA cf N (.loop c) e h) F) (hk : ∀ x h', F x (loopE cf N c e h) h' → Go.Proofs.YthfbefjmenddkaaDoorA.Ends (K (some (x, loopE cf N c e h, h'))) Q) : Go.Proofs.YthfbefjmenddkaaDoorA.Ends (K (execA cf N (.loop c) e h)) Q := by
  obtain ⟨x, e', h', h1, h2⟩ := hl
  have h3 := loopE_of h1
  rw [h1]
  subst h3
  exact hk x h' h2
theorem loop_thenE {cf : ACall} {N : Nat} {c : ACode} {e : Env} {h : Heap} {K : Out → Option (V × Heap)} {F : AExit → Env → Heap → Prop} {Q : V → Heap → Prop} (hl : Go.Proofs.YthfbefjmenddkaaDoorA.Ends (execA cf N (.loop c) e h) F) (hk : ∀ x h', F x (loopE cf N c e h) h' → Runs (K (some (x, loopE cf N c e h, h'))) Q) : Runs (K (execA cf N (.loop c) e h)) Q := by
  obtain ⟨x, e', h', h1, h2⟩ := hl
  have h3 := loopE_of h1
  rw [h1]
  subst h3
  exact hk x h' h2

theorem Own.base {h h0 H : Heap} {t z n : Nat} {v : V} {xs : List V} (ho : Own h0 H t z v n xs) (hn : h.next ≤ h0.next) : Own h H t z v n xs := by
  rcases ho with h1 | ⟨b, c, h2, h3, h4, h5⟩
  · exact .inl h1
  · exact .inr ⟨b, c, h2, h3, Nat.le_trans hn h4, h5⟩
theorem OwnB.base {h h0 H : Heap} {t : Nat} {v : V} {acc : List Nat} (ho : OwnB h0 H t v acc) (hn : h.next ≤ h0.next) : OwnB h H t v acc := Own.base ho hn

theorem list4 {α : Type} {l : List α} (h : l.length = 4) : ∃ a b c d, l = [a, b, c, d] := by
  match l, h with
  | [a, b, c, d], _ => exact ⟨a, b, c, d, rfl⟩

/-- A closed sentence, as it is called. -/
def s_known : List V → Heap → Option (V × Heap)
  | [], h => some (.bool true, h)
  | _, _ => none
theorem answers_known {f : Nat} {cf : ACall} (hcf : Answers P cf) (hf : ∃ fn, P.funcs[f]? = some fn ∧ (fn.name == "runtime.NumGoroutine") = false ∧ fn.body.isSome = true)
    (hc : ∀ W, Calls P f #[] W fun e W' => e = .returned (.bool true) ∧ RowKit.Below W.heap.size W W') : Answers P (withSum cf f s_known) := by
  have e : s_known = fun args h => match args with
      | [] => some (.bool true, h)
      | _ => none := by
    funext args h
    cases args <;> rfl
  rw [e]
  exact answers_true hcf hf hc

theorem law_run {f : Nat} {g : Func} {fn : AFn} {cf : ACall} {xs : List V} {us : Array Value} (hm : P.follows .mixedOrders = true) (hcf : Answers P cf) (hg : P.funcs[f]? = some g) (hc : compFn P g = some fn)
    (r : Rel (base0 P W) ρ h W) (hv : VRL ρ xs us.toList) (hr : ∃ N, Runs (bodyA cf N fn xs h) fun v _ => v = .bool true) : Calls P f us W fun e W' => e = .returned (.bool true) ∧ RowKit.Below W.heap.size W W' := by
  obtain ⟨N, v, h', k1, rfl⟩ := hr
  exact law_body hm hcf hg hc r hv ⟨h', k1⟩

end
end Go.Proofs.YthfbefjmenddkaaDoorA
