/- Arguments of whatever plain kind, rows of rows among them: their abstract values. -/
import Derived.Test.YthfbefjmenddkaaDoorA35
import Derived.ChangeSlices
import Derived.SizedLaws
namespace Go.Proofs.YthfbefjmenddkaaDoorA
open Go
set_option linter.unusedVariables false
set_option linter.unusedSimpArgs false
noncomputable section

variable {P : Program} {ρ : Ren} {h h' : Heap} {w W : World} {H : Type}

/-- Is it a type of numbers, texts, truths, arrays, structs and slices of them? -/
def argTy (P : Program) : Nat → TypeId → Bool
  | 0, _ => false
  | n + 1, t => match P.underlying t with
    | some .bool => true
    | some (.int _) => true
    | some .string => true
    | some (.array m e) => P.cellsOf t == m * P.cellsOf e && argTy P n e
    | some (.struct fs) => (fs.toList.foldl (fun (s : Option Nat) f => s.bind fun o => if f.offset == o && argTy P n f.type then some (o + P.cellsOf f.type) else none) (some 0)) == some (P.cellsOf t)
    | some (.slice e) => argTy P n e && decide (0 < P.cellsOf e)
    | _ => false

/-- What a datum is, in cells. -/
def IsD (P : Program) (h : Heap) : Nat → TypeId → DataW H → List V → Prop
  | 0, _, _, _ => False
  | n + 1, t, d, vs => match P.underlying t with
    | some .bool => ∃ b, d = .lit (.bool b) ∧ vs = [.bool b]
    | some (.int k) => ∃ z, d = .lit (.int k z) ∧ (Lit.int k z).wf = true ∧ vs = [.int k z]
    | some .string => ∃ s : List UInt8, d = .lit (.string s) ∧ vs = [.str (s.map UInt8.toNat)]
    | some (.array m e) => ∃ (ds : List (DataW H)) (vss : List (List V)), d = .agg ds ∧ ds.length = m ∧ vss.length = m ∧ vs = vss.flatten ∧ ∀ (i : Nat) d' vs', ds[i]? = some d' → vss[i]? = some vs' → IsD P h n e d' vs'
    | some (.struct fs) => ∃ (ds : List (DataW H)) (vss : List (List V)), d = .agg ds ∧ ds.length = fs.toList.length ∧ vss.length = fs.toList.length ∧ vs = vss.flatten ∧ ∀ (i : Nat) (f : Field) d' vs', fs.toList[i]? = some f → ds[i]? = some d' → vss[i]? = some vs' → IsD P h n f.type d' vs'
    | some (.slice e) => ∃ v, vs = [v] ∧ ((v = .nilslice ∧ d = .nil) ∨ ∃ (ds rest : List (DataW H)) (vss : List (List V)), d = .slice ds rest ∧ vss.length = ds.length ∧ (∀ vs' ∈ vss, vs'.length = P.cellsOf e) ∧ vlen v = ds.length ∧ sl h (P.cellsOf e) v = some vss.flatten ∧ ∀ (i : Nat) d' vs', ds[i]? = some d' → vss[i]? = some vs' → IsD P h n e d' vs')
    | _ => False

theorem sl_le {z : Nat} {v : V} {xs : List V} (hle : h.le h') (hs : sl h z v = some xs) : sl h' z v = some xs := by
  have h1 := sl_rd hs
  have h2 := sl_wf hs
  have k1 : rd h' z v = some xs := by
    cases v with
    | slice b o n c => exact Heap.read_le hle h1
    | _ => exact h1
  have k2 : wfS h' z v = true := by
    cases v with
    | slice b o n c =>
      simp only [wfS, Bool.and_eq_true, Bool.or_eq_true] at h2 ⊢
      refine ⟨h2.1, h2.2.imp id fun h3 => ?_⟩
      cases hb : h.get b with
      | none => rw [hb] at h3; cases h3
      | some B => rw [hb] at h3; rw [hle.2 b B hb]; exact h3
    | _ => exact h2
  unfold sl
  rw [if_pos k2]; exact k1

theorem IsD.le (hle : h.le h') : ∀ (n : Nat) (t : TypeId) (d : DataW H) (vs : List V), IsD P h n t d vs → IsD P h' n t d vs
  | 0, _, _, _, hd => hd.elim
  | n + 1, t, d, vs, hd => by
    unfold IsD at hd ⊢
    split at hd
    · exact hd
    · exact hd
    · exact hd
    · obtain ⟨ds, vss, h1, h2, h3, h4, h5⟩ := hd
      exact ⟨ds, vss, h1, h2, h3, h4, fun i d' vs' k1 k2 => IsD.le hle n _ _ _ (h5 i d' vs' k1 k2)⟩
    · obtain ⟨ds, vss, h1, h2, h3, h4, h5⟩ := hd
      exact ⟨ds, vss, h1, h2, h3, h4, fun i f d' vs' k0 k1 k2 => IsD.le hle n _ _ _ (h5 i f d' vs' k0 k1 k2)⟩
    · obtain ⟨v, h1, h2 | ⟨ds, rest, vss, h2, h3, h7, h4, h5, h6⟩⟩ := hd
      · exact ⟨v, h1, .inl h2⟩
      · exact ⟨v, h1, .inr ⟨ds, rest, vss, h2, h3, h7, h4, sl_le hle h5, fun i d' vs' k1 k2 => IsD.le hle n _ _ _ (h6 i d' vs' k1 k2)⟩⟩
    · exact hd.elim

theorem VRL.flatten {vss : List (List V)} {uss : List (List Value)} (hl : vss.length = uss.length) (hi : ∀ (i : Nat) vs us, vss[i]? = some vs → uss[i]? = some us → VRL ρ vs us) : VRL ρ vss.flatten uss.flatten := by
  induction vss generalizing uss with
  | nil => cases uss with
    | nil => exact VRL.nil
    | cons u us => simp at hl
  | cons v vs ih => cases uss with
    | nil => simp at hl
    | cons u us =>
      simp only [List.flatten_cons]
      exact (hi 0 v u rfl rfl).append (ih (by simpa using hl) fun i a b ha hb => hi (i + 1) a b (by simpa using ha) (by simpa using hb))

/-- A list of data, one behind the other. -/
theorem args_list {α : Type} {f : α → Option (DataW H × List MemPlace)} {g : α → List Value} {Q : α → Heap → DataW H → List V → Prop} (hQ : ∀ a h h' d vs, h.le h' → Q a h d vs → Q a h' d vs)
    (hf : ∀ a x, f a = some x → ∀ ρ h, Rel (base0 P W) ρ h W → ∃ ρ' h' vs, ρ.le ρ' ∧ h.le h' ∧ Rel (base0 P W) ρ' h' W ∧ VRL ρ' vs (g a) ∧ Q a h' x.1 vs) :
    ∀ (l : List α) (xs : List (DataW H × List MemPlace)), (∀ (i : Nat) a, l[i]? = some a → ∃ x, xs[i]? = some x ∧ f a = some x) → xs.length = l.length → ∀ ρ h, Rel (base0 P W) ρ h W → ∃ (ρ' : Ren) (h' : Heap) (vss : List (List V)), ρ.le ρ' ∧ h.le h' ∧ Rel (base0 P W) ρ' h' W ∧ vss.length = l.length ∧
      (∀ (i : Nat) a vs, l[i]? = some a → vss[i]? = some vs → VRL ρ' vs (g a)) ∧ ∀ (i : Nat) a x vs, l[i]? = some a → xs[i]? = some x → vss[i]? = some vs → Q a h' x.1 vs
  | [], xs, _, hx, ρ, h, r => ⟨ρ, h, [], Ren.le_refl ρ, Heap.le_refl h, r, rfl, fun i a vs hi => by simp at hi, fun i a x vs hi => by simp at hi⟩
  | a :: l, xs, hall, hx, ρ, h, r => by
    obtain ⟨x, hx0, hfa⟩ := hall 0 a rfl
    cases xs with
    | nil => simp at hx0
    | cons y ys =>
      simp only [List.getElem?_cons_zero, Option.some.injEq] at hx0
      subst hx0
      obtain ⟨ρ1, h1, vs, k1, k2, k3, k4, k5⟩ := hf a y hfa ρ h r
      obtain ⟨ρ2, h2, vss, q1, q2, q3, q4, q5, q6⟩ := args_list hQ hf l ys (fun i b hb => by
        obtain ⟨z, hz, hfz⟩ := hall (i + 1) b (by simpa using hb)
        exact ⟨z, by simpa using hz, hfz⟩) (by simpa using hx) ρ1 h1 k3
      refine ⟨ρ2, h2, vs :: vss, Ren.le_trans k1 q1, Heap.le_trans k2 q2, q3, by simp [q4], fun i b ws hb hw => ?_, fun i b z ws hb hz hw => ?_⟩
      · cases i with
        | zero => simp at hb hw; subst hb; subst hw; exact k4.mono q1 _ _
        | succ i => exact q5 i b ws (by simpa using hb) (by simpa using hw)
      · cases i with
        | zero => simp at hb hw hz; subst hb; subst hw; subst hz; exact hQ _ _ _ _ _ q2 k5
        | succ i => exact q6 i b z ws (by simpa using hb) (by simpa using hz) (by simpa using hw)

theorem mapM_get {α β : Type} {f : α → Option β} : ∀ {l : List α} {xs : List β}, l.mapM f = some xs → xs.length = l.length ∧ ∀ (i : Nat) a, l[i]? = some a → ∃ x, xs[i]? = some x ∧ f a = some x
  | [], xs, h => by simp at h; subst h; exact ⟨rfl, fun i a hi => by simp at hi⟩
  | a :: l, xs, h => by
    simp only [List.mapM_cons, Option.bind_eq_bind, Option.bind_eq_some_iff, Option.pure_def, Option.some.injEq] at h
    obtain ⟨x, hx, ys, hys, rfl⟩ := h
    obtain ⟨k1, k2⟩ := mapM_get hys
    refine ⟨by simp [k1], fun i b hb => ?_⟩
    cases i with
    | zero => simp at hb; subst hb; exact ⟨x, rfl, hx⟩
    | succ i => obtain ⟨y, h1, h2⟩ := k2 i b (by simpa using hb); exact ⟨y, by simpa using h1, h2⟩

theorem flatten_map_get {α : Type} (l : List α) (g : α → List Value) : (l.map g).flatten = l.flatMap g := by rw [List.flatMap_def]

theorem flatten_length_const {α : Type} {c : Nat} : ∀ {vss : List (List α)}, (∀ vs ∈ vss, vs.length = c) → vss.flatten.length = vss.length * c
  | [], _ => by simp
  | v :: vs, h => by
    rw [List.flatten_cons, List.length_append, flatten_length_const (fun x hx => h x (by simp [hx])), h v (by simp), List.length_cons, Nat.succ_mul]; omega
theorem flatten_get_const {α : Type} {c : Nat} : ∀ {vss : List (List α)}, (∀ vs ∈ vss, vs.length = c) → ∀ (i j : Nat) (vs : List α), vss[i]? = some vs → j < c → vss.flatten[i * c + j]? = vs[j]?
  | [], _, i, j, vs, hi, _ => by simp at hi
  | v :: vss, h, 0, j, vs, hi, hj => by
    simp only [List.getElem?_cons_zero, Option.some.injEq] at hi
    subst hi
    rw [List.flatten_cons, List.getElem?_append_left (by rw [h v (by simp)]; omega)]
    congr 1; omega
  | v :: vss, h, i + 1, j, vs, hi, hj => by
    simp only [List.getElem?_cons_succ] at hi
    have hv := h v (by simp)
    rw [List.flatten_cons, List.getElem?_append_right (by rw [hv, Nat.succ_mul]; omega), hv]
    rw [← flatten_get_const (fun x hx => h x (by simp [hx])) i j vs hi hj]
    congr 1
    rw [Nat.succ_mul]; omega

theorem foldl_none {α : Type} (f : Nat → α → Option Nat) : ∀ l : List α, l.foldl (fun (s : Option Nat) a => s.bind fun o => f o a) none = none
  | [] => rfl
  | _ :: l => foldl_none f l

theorem fields_flatA (cs : List Value) (P : Program) (n : Nat) : ∀ (fs : List Field) (o m : Nat),
    fs.foldl (fun (s : Option Nat) f => s.bind fun o => if f.offset == o && argTy P n f.type then some (o + P.cellsOf f.type) else none) (some o) = some m →
    (∀ f ∈ fs, argTy P n f.type = true) ∧ cs.take o ++ fs.flatMap (fun f => (cs.drop f.offset).take (P.cellsOf f.type)) = cs.take m
  | [], o, m, h => by simp at h; subst h; exact by constructor <;> simp
  | f :: fs, o, m, h => by
    simp only [List.foldl_cons, Option.bind_some] at h
    split at h
    · rename_i hc
      simp only [Bool.and_eq_true, beq_iff_eq] at hc
      obtain ⟨h1, h2⟩ := fields_flatA cs P n fs _ _ h
      refine ⟨fun g hg => ?_, ?_⟩
      · rcases List.mem_cons.1 hg with rfl | hg
        · exact hc.2
        · exact h1 g hg
      · rw [← h2, List.flatMap_cons, hc.1, List.take_add, List.append_assoc]
    · have h0 := foldl_none (fun o (f : Field) => if f.offset == o && argTy P n f.type then some (o + P.cellsOf f.type) else none) fs
      rw [h0] at h
      cases h

theorem cell_add {a : Addr} {i : Nat} {v : Value} (hv : W.cell? (a.add i) = some v) : ∃ us t fz, W.heap[a.block]? = some (.cells us t fz) ∧ us[a.off + i]? = some v ∧ (i ≠ 0 ∨ a.spot = none) := by
  unfold World.cell? Addr.add at hv
  split at hv
  · rename_i us t fz hb
    refine ⟨us, t, fz, ?_, ?_, ?_⟩
    · split at hb <;> exact hb
    · by_cases hi0 : i = 0
      · subst hi0; simp at hv ⊢; exact hv.2
      · simp [hi0] at hv ⊢; exact hv
    · by_cases hi0 : i = 0
      · subst hi0
        simp at hv
        exact .inr hv.1
      · exact .inl hi0
  · cases hv

/-- Reading an argument: its abstract value. -/
theorem arg_of_trod {enc : TypeId × Value → H} {held : Bool} : ∀ (n fuel : Nat) {t : TypeId} {cs : List Value} {x : DataW H × List MemPlace} (ρ : Ren) (h : Heap), argTy P n t = true →
    DataW.trod enc P W 0 (fun _ => true) held fuel t cs = some x → Rel (base0 P W) ρ h W → ∃ ρ' h' vs, ρ.le ρ' ∧ h.le h' ∧ Rel (base0 P W) ρ' h' W ∧ VRL ρ' vs cs ∧ IsD P h' n t x.1 vs
  | 0, _, _, _, _, _, _, ht, _, _ => by simp [argTy] at ht
  | n + 1, 0, _, _, _, _, _, _, hd, _ => by simp [DataW.trod] at hd
  | n + 1, fuel + 1, t, cs, x, ρ, h, ht, hd, r => by
    unfold argTy at ht
    split at ht
    · rename_i hu
      simp only [DataW.trod, hu] at hd
      split at hd <;> simp_all
      rename_i b
      subst hd
      exact ⟨ρ, Ren.le_refl ρ, h, Heap.le_refl h, r, [.bool b], VRL.cons (by simp [VR]) VRL.nil, by simp [IsD, hu]⟩
    · rename_i k hu
      obtain ⟨z, rfl, rfl, hw⟩ := DataW.trod_int hu hd
      exact ⟨ρ, h, [.int k z], Ren.le_refl ρ, Heap.le_refl h, r, VRL.cons (by simp [VR]) VRL.nil, by simp only [IsD, hu]; exact ⟨z, rfl, hw, rfl⟩⟩
    · rename_i hu
      obtain ⟨z, rfl, rfl, _⟩ := DataW.trod_string hu hd
      exact ⟨ρ, h, [.str (z.data.toList.map UInt8.toNat)], Ren.le_refl ρ, Heap.le_refl h, r, VRL.cons (by simp only [VR]; exact ⟨z, rfl, rfl⟩) VRL.nil, by simp only [IsD, hu]; exact ⟨_, rfl, rfl⟩⟩
    · rename_i m e hu
      simp only [Bool.and_eq_true, beq_iff_eq] at ht
      simp only [DataW.trod, hu] at hd
      split at hd
      · rename_i hl
        obtain ⟨xs, hm, rfl⟩ := Option.map_eq_some_iff.1 hd
        obtain ⟨q1, q2⟩ := mapM_get hm
        obtain ⟨ρ', h', vss, k1, k2, k3, k4, k5, k6⟩ := args_list (P := P) (W := W) (g := fun i => (cs.drop (i * P.cellsOf e)).take (P.cellsOf e)) (Q := fun _ h d vs => IsD P h n e d vs) (fun a h h' d vs hle hq => IsD.le hle n e d vs hq)
          (fun i x hx ρ h r => arg_of_trod n fuel ρ h ht.2 hx r) _ xs q2 q1 ρ h r
        refine ⟨ρ', h', vss.flatten, k1, k2, k3, ?_, ?_⟩
        · have := VRL.flatten (ρ := ρ') (vss := vss) (uss := (List.range m).map fun i => (cs.drop (i * P.cellsOf e)).take (P.cellsOf e)) (by simpa using k4) (fun i vs us hv hus => by
            rw [List.getElem?_map, Option.map_eq_some_iff] at hus
            obtain ⟨a, ha, rfl⟩ := hus
            exact k5 i a vs ha hv)
          rw [flatten_map_get, flat_cuts, List.take_of_length_le (by rw [hl, ht.1]; exact Nat.le_refl _)] at this
          exact this
        · simp only [IsD, hu]
          refine ⟨_, vss, rfl, by simpa using q1, by simpa using k4, rfl, fun i d' vs' hd' hv' => ?_⟩
          rw [List.getElem?_map, Option.map_eq_some_iff] at hd'
          obtain ⟨y, hy, rfl⟩ := hd'
          have hi : i < m := by
            have := (List.getElem?_eq_some_iff.1 hv').1
            simp only [List.length_range] at k4; omega
          exact k6 i i y vs' (by simp [hi]) hy hv'
      · cases hd
    · rename_i fs hu
      simp only [beq_iff_eq] at ht
      simp only [DataW.trod, hu] at hd
      split at hd
      · rename_i hl
        obtain ⟨xs, hm, rfl⟩ := Option.map_eq_some_iff.1 hd
        obtain ⟨q1, q2⟩ := mapM_get hm
        obtain ⟨h1, h2⟩ := fields_flatA cs P n _ _ _ ht
        obtain ⟨ρ', h', vss, k1, k2, k3, k4, k5, k6⟩ := args_list (P := P) (W := W) (f := fun f : {f : Field // f ∈ fs.toList} => DataW.trod enc P W 0 (fun _ => true) held fuel f.1.type ((cs.drop f.1.offset).take (P.cellsOf f.1.type))) (g := fun f => (cs.drop f.1.offset).take (P.cellsOf f.1.type)) (Q := fun f h d vs => IsD P h n f.1.type d vs) (fun a h h' d vs hle hq => IsD.le hle n _ d vs hq)
          (fun f x hx ρ h r => arg_of_trod n fuel ρ h (h1 f.1 f.2) hx r) fs.toList.attach xs (fun i a ha => by
            have ha' : fs.toList[i]? = some a.1 := by
              have := congrArg (Option.map Subtype.val) ha
              rw [← List.getElem?_map, List.attach_map_subtype_val] at this
              exact this
            exact q2 i a.1 ha') (by simpa using q1) ρ h r
        have hatt : ∀ (i : Nat) (f : Field), fs.toList[i]? = some f → ∃ a : {f : Field // f ∈ fs.toList}, fs.toList.attach[i]? = some a ∧ a.1 = f := by
          intro i f hf
          have : (fs.toList.attach.map Subtype.val)[i]? = some f := by rw [List.attach_map_subtype_val]; exact hf
          rw [List.getElem?_map, Option.map_eq_some_iff] at this
          exact this
        refine ⟨ρ', h', vss.flatten, k1, k2, k3, ?_, ?_⟩
        · have := VRL.flatten (ρ := ρ') (vss := vss) (uss := fs.toList.map fun f => (cs.drop f.offset).take (P.cellsOf f.type)) (by simpa using k4) (fun i vs us hv hus => by
            rw [List.getElem?_map, Option.map_eq_some_iff] at hus
            obtain ⟨f, hf, rfl⟩ := hus
            obtain ⟨a, ha, rfl⟩ := hatt i f hf
            exact k5 i a vs ha hv)
          simp only [List.take_zero, List.nil_append] at h2
          rw [flatten_map_get, h2, List.take_of_length_le (by rw [hl]; exact Nat.le_refl _)] at this
          exact this
        · simp only [IsD, hu]
          refine ⟨_, vss, rfl, by simpa using q1, by simpa using k4, rfl, fun i f d' vs' hf hd' hv' => ?_⟩
          rw [List.getElem?_map, Option.map_eq_some_iff] at hd'
          obtain ⟨y, hy, rfl⟩ := hd'
          obtain ⟨a, ha, rfl⟩ := hatt i f hf
          exact k6 i a y vs' ha hy hv'
      · cases hd
    · rename_i e hu
      simp only [Bool.and_eq_true, decide_eq_true_eq] at ht
      rcases DataW.trod_slice hu hd with ⟨rfl, rfl⟩ | ⟨a, len, cap, elems, rest, fl, hfl, rfl, rfl, hb, hl, hm, hlen, hel, hsp, hns⟩
      · exact ⟨ρ, h, [.nilslice], Ren.le_refl ρ, Heap.le_refl h, r, VRL.cons (by simp [VR]) VRL.nil, by unfold IsD; simp only [hu]; exact ⟨_, rfl, .inl ⟨rfl, by first | rfl | trivial⟩⟩⟩
      · obtain ⟨hrl, hr⟩ := hsp rfl
        have hz := ht.2
        -- the cells of each element
        have hcell : ∀ i, i < cap → ∃ cs, W.cells? 0 (a.add (i * P.cellsOf e)) (P.cellsOf e) = some cs := by
          intro i hi
          by_cases hi' : i < len
          · have h1 := hel i hi'
            rw [List.getElem?_eq_getElem (by omega)] at h1
            obtain ⟨cs, hcs, _⟩ := Option.bind_eq_some_iff.1 h1
            exact ⟨cs, hcs⟩
          · have h1 := hr (i - len) (by omega)
            rw [show len + (i - len) = i by omega, List.getElem?_eq_getElem (by omega)] at h1
            obtain ⟨cs, hcs, _⟩ := Option.bind_eq_some_iff.1 h1
            exact ⟨cs, hcs⟩
        by_cases h0 : cap = 0
        · subst h0
          have hl0 : len = 0 := by omega
          subst hl0
          have hel0 : elems = [] := List.length_eq_zero_iff.1 hlen
          subst hel0
          refine ⟨ρ.upd h.next ⟨a.block, 0, 0, 1⟩, h.skip, [.slice h.next 0 0 none], Ren.le_upd r.fresh _, ⟨by simp [Heap.skip], fun b B hb => hb⟩, r.skip _, VRL.cons ?_ VRL.nil, ?_⟩
          · simp only [VR]
            exact ⟨⟨a.block, 0, 0, 1⟩, a, 0, by simp [Ren.upd], Nat.le_refl _, .inl rfl, rfl⟩
          · simp only [IsD, hu]
            refine ⟨_, rfl, .inr ⟨[], _, [], rfl, rfl, fun vs hvs => by simp at hvs, rfl, ?_, fun i d' vs' hd' => by simp at hd'⟩⟩
            unfold sl
            rw [if_pos (by simp [wfS])]
            simp [rd, Heap.read]
        · -- the block
          obtain ⟨cs0, hcs0⟩ := hcell 0 (by omega)
          obtain ⟨_, hl0, hc0⟩ := World.cells?_some hcs0
          have hv0 := hc0 0 hz
          rw [List.getElem?_eq_getElem (by omega)] at hv0
          simp only [Nat.zero_mul] at hv0
          have hadd0 : (a.add 0).add 0 = a.add 0 := by simp [Addr.add]
          rw [hadd0] at hv0
          obtain ⟨us, tt, fz, hblk, _, hsp0⟩ := cell_add hv0
          have hspot : a.spot = none := hsp0.resolve_left (by simp)
          have haddr : ∀ i j, (a.add i).add j = a.add (i + j) := by
            intro i j
            cases a
            simp only at hspot
            subst hspot
            simp only [addr_add, Nat.add_assoc]
          have hus : ∀ i j, i < cap → j < P.cellsOf e → ∀ cs, W.cells? 0 (a.add (i * P.cellsOf e)) (P.cellsOf e) = some cs → us[a.off + (i * P.cellsOf e + j)]? = cs[j]? ∧ j < cs.length := by
            intro i j hi hj cs hcs
            obtain ⟨_, hl1, hc1⟩ := World.cells?_some hcs
            have hv1 := hc1 j hj
            rw [haddr, List.getElem?_eq_getElem (by omega)] at hv1
            obtain ⟨us', tt', fz', hblk', hu', _⟩ := cell_add hv1
            have := hblk.symm.trans hblk'
            simp only [Option.some.injEq, Obj.cells.injEq] at this
            obtain ⟨rfl, _, _⟩ := this
            exact ⟨by rw [hu', List.getElem?_eq_getElem (by omega)], by omega⟩
          have hsize : a.off + cap * P.cellsOf e ≤ us.size := by
            obtain ⟨cs, hcs⟩ := hcell (cap - 1) (by omega)
            obtain ⟨h1, h2⟩ := hus (cap - 1) (P.cellsOf e - 1) (by omega) (by omega) cs hcs
            rw [List.getElem?_eq_getElem h2] at h1
            have h3 := (Array.getElem?_eq_some_iff.1 h1).1
            have h4 : cap * P.cellsOf e = (cap - 1) * P.cellsOf e + P.cellsOf e := by
              rw [← Nat.succ_mul]; congr 1; omega
            omega
          -- the elements
          obtain ⟨ρ1, h1, vss, k1, k2, k3, k4, k5, k6⟩ := args_list (P := P) (W := W) (f := fun i => (W.cells? 0 (a.add (i * P.cellsOf e)) (P.cellsOf e)).bind (DataW.trod enc P W 0 (fun _ => true) held fl e)) (g := fun i => (W.cells? 0 (a.add (i * P.cellsOf e)) (P.cellsOf e)).getD []) (Q := fun _ h d vs => IsD P h n e d vs) (fun a h h' d vs hle hq => IsD.le hle n e d vs hq)
            (fun i x hx ρ h r => by
              obtain ⟨cs, hcs, hx⟩ := Option.bind_eq_some_iff.1 hx
              simp only [hcs, Option.getD_some]
              exact arg_of_trod n fl ρ h ht.1 hx r) (List.range len) elems (fun i b hb => by
                have hi : i < len := by
                  have := (List.getElem?_eq_some_iff.1 hb).1
                  simpa using this
                have hbi : b = i := by simpa [hi] using hb.symm
                subst hbi
                refine ⟨elems[b]'(by omega), List.getElem?_eq_getElem (by omega), ?_⟩
                rw [hel b hi]; exact List.getElem?_eq_getElem (by omega)) (by simpa using hlen) ρ h r
          simp only [List.length_range] at k4
          have hvl : ∀ vs ∈ vss, vs.length = P.cellsOf e := by
            intro vs hvs
            obtain ⟨i, hi⟩ := List.getElem?_of_mem hvs
            have hil : i < len := by rw [← k4]; exact (List.getElem?_eq_some_iff.1 hi).1
            have h2 := k5 i i vs (by simp [hil]) hi
            obtain ⟨cs, hcs⟩ := hcell i (by omega)
            simp only [hcs, Option.getD_some] at h2
            rw [← h2.length]; exact (World.cells?_some hcs).2.1
          have hfl := flatten_length_const hvl
          rw [k4] at hfl
          let L : Loc := ⟨a.block, a.off, cap * P.cellsOf e, P.cellsOf e⟩
          have hle2 := Ren.le_upd k3.fresh L
          have hB : BR (base0 P W) (ρ1.upd h1.next L) W L (.cells vss.flatten tt (P.cellsOf e) false) := by
            refine ⟨us, fz, hblk, ?_, hsize, rfl, fun hh => (by cases hh), fun q v hq => ?_⟩
            · rw [hfl]; exact Nat.mul_le_mul_right _ hl
            · have hql : q < len * P.cellsOf e := by rw [← hfl]; exact (List.getElem?_eq_some_iff.1 hq).1
              have hi : q / P.cellsOf e < len := Nat.div_lt_of_lt_mul (by rw [Nat.mul_comm]; exact hql)
              have hj : q % P.cellsOf e < P.cellsOf e := Nat.mod_lt _ hz
              have hqq : q / P.cellsOf e * P.cellsOf e + q % P.cellsOf e = q := by rw [Nat.mul_comm]; exact Nat.div_add_mod q _
              have hvi : vss[q / P.cellsOf e]? = some (vss[q / P.cellsOf e]'(by omega)) := List.getElem?_eq_getElem (by omega)
              have hg := flatten_get_const hvl _ _ _ hvi hj
              rw [hqq, hq] at hg
              obtain ⟨cs, hcs⟩ := hcell (q / P.cellsOf e) (by omega)
              have h5 := k5 _ (q / P.cellsOf e) _ (by simp [hi]) hvi
              simp only [hcs, Option.getD_some] at h5
              obtain ⟨u, hu1, hu2⟩ := h5.get hg.symm
              obtain ⟨h6, h7⟩ := hus _ _ (by omega) hj cs hcs
              rw [hqq, hu1] at h6
              exact ⟨u, h6, hu2.mono hle2 _ _⟩
          have hr2 := k3.addRo (L := L) (by simp [base0, L, hblk]) rfl hB
          refine ⟨ρ1.upd h1.next L, h1.new (.cells vss.flatten tt (P.cellsOf e) false), [.slice h1.next 0 len none], Ren.le_trans k1 hle2, Heap.le_trans k2 (Heap.le_new h1 _ k3.get_next), hr2, VRL.cons ?_ VRL.nil, ?_⟩
          · simp only [VR]
            refine ⟨L, a, cap, by simp [Ren.upd], hl, .inr ⟨?_, by simp [L]⟩, rfl⟩
            cases a
            simp only at hspot
            subst hspot
            simp [L]
          · simp only [IsD, hu]
            refine ⟨_, rfl, .inr ⟨_, _, vss, rfl, by simp [k4, hlen], hvl, by simp [vlen, hlen], sl_selfE rfl hfl (.inl rfl), fun i d' vs' hd' hv' => ?_⟩⟩
            rw [List.getElem?_map, Option.map_eq_some_iff] at hd'
            obtain ⟨y, hy, rfl⟩ := hd'
            have hi : i < len := by rw [← k4]; exact (List.getElem?_eq_some_iff.1 hv').1
            exact IsD.le (Heap.le_new h1 _ k3.get_next) n _ _ _ (k6 i i y vs' (by simp [hi]) hy hv')
    · cases ht

end
end Go.Proofs.YthfbefjmenddkaaDoorA
