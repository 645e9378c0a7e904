/- Package-level variables that are laid: their cells, as blocks that are only looked at. -/
import Derived.Test.YthfbefjmenddkaaDoorA26
import Derived.Lib.LaidU8
namespace Go.Proofs.YthfbefjmenddkaaDoorA
open Go

variable {P : Program} {ρ : Ren} {w W : World}

mutual
/-- The cells that a datum of plain numbers, texts and rows of them stands for. -/
def vals : DataW Unit → List V
  | .lit (.int k z) => [.int k z]
  | .lit (.string bs) => [.str (bs.map UInt8.toNat)]
  | .lit (.bool b) => [.bool b]
  | .agg ps => valsAll ps
  | _ => []
def valsAll : List (DataW Unit) → List V
  | [] => []
  | d :: ds => vals d ++ valsAll ds
end

/-- Is it a type of plain numbers and texts, its cells in order? -/
def plainTy (P : Program) : Nat → TypeId → Bool
  | 0, _ => false
  | n + 1, t => match P.underlying t with
    | some .bool => true
    | some (.int _) => true
    | some .string => true
    | some (.array m e) => P.cellsOf t == m * P.cellsOf e && plainTy P n e
    | some (.struct fs) => (fs.toList.foldl (fun (s : Option Nat) f => s.bind fun o => if f.offset == o && plainTy P n f.type then some (o + P.cellsOf f.type) else none) (some 0)) == some (P.cellsOf t)
    | _ => false

theorem valsAll_map {α : Type} (f : α → DataW Unit) (ρ : Ren) (g : α → List Value) : ∀ xs : List α, (∀ x ∈ xs, VRL ρ (vals (f x)) (g x)) → VRL ρ (valsAll (xs.map f)) (xs.flatMap g)
  | [], _ => by simpa [valsAll] using VRL.nil
  | x :: xs, h => by
    simp only [List.map_cons, valsAll, List.flatMap_cons]
    exact (h x (by simp)).append (valsAll_map f ρ g xs fun y hy => h y (by simp [hy]))

theorem flat_cuts (cs : List Value) (c : Nat) : ∀ n : Nat, (List.range n).flatMap (fun i => (cs.drop (i * c)).take c) = cs.take (n * c)
  | 0 => by simp
  | n + 1 => by
    rw [List.range_succ, List.flatMap_append, flat_cuts cs c n]
    simp only [List.flatMap_cons, List.flatMap_nil, List.append_nil]
    rw [Nat.succ_mul, List.take_add]

theorem vals_mapM {α : Type} {f : α → Option (DataW Unit × List MemPlace)} {g : α → List Value} (ρ : Ren) : ∀ (l : List α) {xs : List (DataW Unit × List MemPlace)}, l.mapM f = some xs →
    (∀ a ∈ l, ∀ x, f a = some x → VRL ρ (vals x.1) (g a)) → VRL ρ (valsAll (xs.map (·.1))) (l.flatMap g)
  | [], xs, hm, _ => by
    simp at hm
    subst hm
    simpa [valsAll] using VRL.nil
  | a :: l, xs, hm, h => by
    simp only [List.mapM_cons, Option.bind_eq_bind, Option.bind_eq_some_iff, Option.pure_def, Option.some.injEq] at hm
    obtain ⟨x, hx, ys, hys, rfl⟩ := hm
    simp only [List.map_cons, valsAll, List.flatMap_cons]
    exact (h a (by simp) x hx).append (vals_mapM ρ l hys fun b hb y hy => h b (by simp [hb]) y hy)

theorem fields_flat (cs : List Value) (P : Program) (n : Nat) : ∀ (fs : List Field) (o m : Nat),
    fs.foldl (fun (s : Option Nat) f => s.bind fun o => if f.offset == o && plainTy P n f.type then some (o + P.cellsOf f.type) else none) (some o) = some m →
    (∀ f ∈ fs, plainTy P n f.type = true) ∧ cs.take o ++ fs.flatMap (fun f => (cs.drop f.offset).take (P.cellsOf f.type)) = cs.take m
  | [], o, m, h => by simp at h; subst h; exact by constructor <;> simp
  | f :: fs, o, m, h => by
    simp only [List.foldl_cons, Option.bind_some] at h
    split at h
    · rename_i hc
      simp only [Bool.and_eq_true, beq_iff_eq] at hc
      obtain ⟨h1, h2⟩ := fields_flat cs P n fs _ _ h
      refine ⟨fun g hg => ?_, ?_⟩
      · rcases List.mem_cons.1 hg with rfl | hg
        · exact hc.2
        · exact h1 g hg
      · rw [← h2, List.flatMap_cons, hc.1, List.take_add, List.append_assoc]
    · have : ∀ l : List Field, l.foldl (fun (s : Option Nat) f => s.bind fun o => if f.offset == o && plainTy P n f.type then some (o + P.cellsOf f.type) else none) none = none := by
        intro l
        induction l with
        | nil => rfl
        | cons x l ih => exact ih
      rw [this] at h
      cases h

theorem vals_of_trod (ρ : Ren) : ∀ (n fuel : Nat) {t : TypeId} {cs : List Value} {d : DataW Unit} {p : List MemPlace}, plainTy P n t = true →
    DataW.trod (fun _ => ()) P w 0 (fun _ => true) false fuel t cs = some (d, p) → VRL ρ (vals d) cs
  | 0, _, _, _, _, _, ht, _ => by simp [plainTy] at ht
  | n + 1, 0, _, _, _, _, _, h => by simp [DataW.trod] at h
  | n + 1, fuel + 1, t, cs, d, p, ht, h => by
    unfold plainTy at ht
    split at ht
    · rename_i hu
      simp only [DataW.trod, hu] at h
      split at h <;> simp_all
      obtain ⟨rfl, _⟩ := h
      simp only [vals]
      exact VRL.cons (by simp [VR]) VRL.nil
    · rename_i k hu
      obtain ⟨z, rfl, hx, _⟩ := DataW.trod_int hu h
      cases hx
      simp only [vals]
      exact VRL.cons (by simp [VR]) VRL.nil
    · rename_i hu
      obtain ⟨z, rfl, hx, _⟩ := DataW.trod_string hu h
      cases hx
      simp only [vals]
      exact VRL.cons (by simp only [VR]; exact ⟨z, rfl, rfl⟩) VRL.nil
    · rename_i m e hu
      simp only [Bool.and_eq_true, beq_iff_eq] at ht
      simp only [DataW.trod, hu] at h
      split at h
      · rename_i hl
        obtain ⟨xs, hm, hx⟩ := Option.map_eq_some_iff.1 h
        simp only [Prod.mk.injEq] at hx
        obtain ⟨rfl, _⟩ := hx
        simp only [vals]
        have := vals_mapM (g := fun i => (cs.drop (i * P.cellsOf e)).take (P.cellsOf e)) ρ _ hm (fun i _ x hx => vals_of_trod ρ n fuel ht.2 hx)
        rw [flat_cuts, List.take_of_length_le (by rw [hl, ht.1]; exact Nat.le_refl _)] at this
        exact this
      · cases h
    · rename_i fs hu
      simp only [beq_iff_eq] at ht
      simp only [DataW.trod, hu] at h
      split at h
      · rename_i hl
        obtain ⟨xs, hm, hx⟩ := Option.map_eq_some_iff.1 h
        simp only [Prod.mk.injEq] at hx
        obtain ⟨rfl, _⟩ := hx
        simp only [vals]
        obtain ⟨h1, h2⟩ := fields_flat cs P n _ _ _ ht
        have := vals_mapM (g := fun f : Field => (cs.drop f.offset).take (P.cellsOf f.type)) ρ _ hm (fun f hf x hx => vals_of_trod ρ n fuel (h1 f hf) hx)
        simp only [List.take_zero, List.nil_append] at h2
        rw [h2, List.take_of_length_le (by rw [hl]; exact Nat.le_refl _)] at this
        exact this
      · cases h
    · cases ht

/-- What the row's condition gives of one variable: its block. -/
theorem laid_block {laid : List (String × DataW Unit)} (h : laidMet P laid W) {nm : String} {d : DataW Unit} (hm : (nm, d) ∈ laid) {g : Nat} {n : Nat} (hg : P.globalNamed nm = some g)
    (hp : ((P.globals[g]?).map (·.type)).any (plainTy P n) = true) (ρ : Ren) : ∃ us t fz, W.heap[g]? = some (.cells us t fz) ∧ VRL ρ (vals d) us.toList := by
  obtain ⟨g', t, cs, fuel, p, hg', hty, hvar, hd⟩ := Lib.laidMet.reads h hm
  obtain rfl := Option.some.inj (hg.symm.trans hg')
  rw [hty] at hp
  simp only [Option.any_some] at hp
  unfold World.var? at hvar
  rw [hg, Option.bind_some] at hvar
  split at hvar
  · rename_i cs' t' fz hb
    obtain rfl := Option.some.inj hvar
    exact ⟨cs', t', fz, hb, vals_of_trod ρ n fuel hp hd⟩
  · cases hvar

/-- The laid variables' blocks. -/
noncomputable def heapG (G : Nat) (l : List (Nat × List V)) (ts : Nat → Nat) : Heap := { next := G, t := l.foldr (fun x t => T.setF (x.1 + 1) t x.1 (some (.cells x.2 (ts x.1) 1 false))) .nil }

theorem heapG_get (G : Nat) (ts : Nat → Nat) : ∀ (l : List (Nat × List V)) {b : Nat} {B : Blk}, (heapG G l ts).get b = some B → ∃ vs, (b, vs) ∈ l ∧ B = .cells vs (ts b) 1 false
  | [], b, B, h => by simp [heapG, Heap.get, T.get_nil] at h
  | x :: l, b, B, h => by
    have h2 : T.get (T.setF (x.1 + 1) (heapG G l ts).t x.1 (some (.cells x.2 (ts x.1) 1 false))) b = some B := h
    rw [T.get_setF _ _ _ _ _ (Nat.lt_succ_self _)] at h2
    split at h2
    · rename_i e
      subst e
      exact ⟨x.2, by simp, (Option.some.inj h2).symm⟩
    · obtain ⟨vs, h3, h4⟩ := heapG_get G ts l (b := b) (B := B) h2
      exact ⟨vs, by simp [h3], h4⟩

noncomputable def renG (G : Nat) (h : Heap) : Ren := fun g => if g < G then some { block := g, off := 0, room := match h.get g with | some (.cells vs _ _ _) => vs.length | _ => 0, esz := 1 } else none

theorem relG {l : List (Nat × List V)} {ts : Nat → Nat} (hl : ∀ b vs, (b, vs) ∈ l → b < P.globals.size ∧ ∀ ρ : Ren, ∃ us fz, W.heap[b]? = some (.cells us (ts b) fz) ∧ VRL ρ vs us.toList) :
    Rel (base0 P W) (renG P.globals.size (heapG P.globals.size l ts)) (heapG P.globals.size l ts) W := by
  have hloc : ∀ b L, renG P.globals.size (heapG P.globals.size l ts) b = some L → b < P.globals.size ∧ L.block = b := by
    intro b L hb
    unfold renG at hb
    split at hb
    · exact ⟨by assumption, by rw [← Option.some.inj hb]⟩
    · cases hb
  refine ⟨rfl, rfl, rfl, fun k o hk => hk, fun b L hb => (hloc b L hb).1, fun b B hb => ?_, fun b b' B B' L L' _ _ hL hL' he => ?_, fun g hg => ⟨_, if_pos hg, rfl, rfl⟩, fun _ _ _ _ _ _ => rfl, fun _ h => by cases h⟩
  · obtain ⟨vs, hm, rfl⟩ := heapG_get _ _ _ hb
    obtain ⟨hlt, hx⟩ := hl b vs hm
    obtain ⟨us, fz, hw, hv⟩ := hx (renG P.globals.size (heapG P.globals.size l ts))
    refine ⟨_, if_pos hlt, us, fz, hw, ?_, ?_, rfl, fun h => (by cases h), fun i v hi => ?_⟩
    · simp only [hb]; exact Nat.le_refl _
    · simp only [hb]
      have := hv.length
      simp only [Array.length_toList] at this
      omega
    · obtain ⟨u, hu, hr⟩ := hv.get hi
      exact ⟨u, by simpa using hu, hr⟩
  · have h1 := (hloc _ _ hL).2
    have h2 := (hloc _ _ hL').2
    exact .inl (by rw [← h1, ← h2, he])

/-- The types that the laid variables' blocks bear. -/
def tsOf (W : World) (b : Nat) : Nat := match W.heap[b]? with | some (.cells _ t _) => t | _ => 0

/-- The listed variables, by number, and what they hold. -/
theorem relLaid {laid : List (String × DataW Unit)} {l : List (Nat × List V)} {n : Nat} (h : laidMet P laid W)
    (hl : (laid.map fun x => (P.globalNamed x.1, vals x.2)) = l.map fun x => (some x.1, x.2))
    (hp : (l.all fun x => decide (x.1 < P.globals.size) && ((P.globals[x.1]?).map (·.type)).any (plainTy P n)) = true) :
    Rel (base0 P W) (renG P.globals.size (heapG P.globals.size l (tsOf W))) (heapG P.globals.size l (tsOf W)) W := by
  refine relG fun b vs hb => ?_
  have h1 := List.all_eq_true.1 hp _ hb
  simp only [Bool.and_eq_true, decide_eq_true_eq] at h1
  refine ⟨h1.1, fun ρ => ?_⟩
  have h2 : (some b, vs) ∈ laid.map fun x => (P.globalNamed x.1, vals x.2) := by rw [hl]; exact List.mem_map.2 ⟨_, hb, rfl⟩
  obtain ⟨⟨nm, d⟩, hm, he⟩ := List.mem_map.1 h2
  simp only [Prod.mk.injEq] at he
  obtain ⟨hg, rfl⟩ := he
  obtain ⟨us, t, fz, hw, hv⟩ := laid_block h hm hg h1.2 ρ
  exact ⟨us, fz, by rw [tsOf, hw], hv⟩

/-- A law without parameters, over laid variables. -/
theorem closed_callsG {tab : Nat → Option AFn} {N n f : Nat} {laid : List (String × DataW Unit)} {l : List (Nat × List V)} {m : Nat} (hm : P.follows .mixedOrders = true) (ht : Holds P tab)
    (hl : (laid.map fun x => (P.globalNamed x.1, vals x.2)) = l.map fun x => (some x.1, x.2))
    (hp : (l.all fun x => decide (x.1 < P.globals.size) && ((P.globals[x.1]?).map (·.type)).any (plainTy P m)) = true)
    (hr : ∀ ts, (runA tab N n f [] (heapG P.globals.size l ts)).map (·.1) = some (.bool true)) (h : laidMet P laid W) :
    Calls P f #[] W fun e W' => e = .returned (.bool true) ∧ RowKit.Below W.heap.size W W' := by
  have hr := hr (tsOf W)
  cases hrun : runA tab N n f [] (heapG P.globals.size l (tsOf W)) with
  | none => rw [hrun] at hr; cases hr
  | some p =>
    obtain ⟨v, h'⟩ := p
    rw [hrun] at hr
    simp only [Option.map_some, Option.some.injEq] at hr
    subst hr
    obtain ⟨_, hc⟩ := answers_run hm ht n f [] _ _ _ hrun (base0 P W) _ W #[] (Nat.le_refl _) (relLaid h hl hp) VRL.nil
    refine hc.mono ?_
    rintro e W' ⟨u, ρ', rfl, _, r, hv⟩
    exact ⟨by rw [hv.bool_inv], r.below rfl rfl⟩

end Go.Proofs.YthfbefjmenddkaaDoorA
