/- Rows whose order is not fixed: the walk. -/
import Derived.Test.YthfbefjmenddkaaDoorA22
import Derived.Orders
namespace Go.Proofs.YthfbefjmenddkaaDoorA
open Go

variable {P : Program} {Z : Base} {ρ : Ren} {h h' h2 : Heap} {w : World} {a : Act} {e e' e2 : Env} {v : V} {cf : ACall}

theorem ER.like {tmps : Array Value} (he : ER ρ e tmps) (hl : e.like e2) : ER ρ e2 tmps := ⟨hl.1 ▸ he.1, fun i => hl.2 i ▸ he.2 i⟩

theorem St.like {ρ₀ : Ren} (hs : St Z ρ₀ e h a w) (hl : e.like e2) : St Z ρ₀ e2 h a w := by
  obtain ⟨⟨ρ, h1, h2, h3⟩, hd⟩ := hs
  exact ⟨⟨ρ, h1, h2, h3.like hl⟩, hd⟩

theorem St.drew {ρ₀ : Ren} (hs : St Z ρ₀ e h a w) (n : Nat) : St Z ρ₀ e h a { w with drawn := n } := by
  obtain ⟨⟨ρ, h1, h2, h3⟩, hd⟩ := hs
  exact ⟨⟨ρ, h1, h2.drew n, h3⟩, hd⟩

theorem compOpers_at {ops : List Oper} : ∀ {l : List Oper} {xs : List AOper}, compOpers P ops l = some xs → xs.length = l.length ∧ ∀ (i : Nat) (o : Oper), l[i]? = some o → ∃ x, xs[i]? = some x ∧ compOper P ops o = some x
  | [], xs, hc => by
    simp only [compOpers, Option.some.injEq] at hc
    subst hc
    exact ⟨rfl, fun i o hi => by simp at hi⟩
  | o :: l, xs, hc => by
    simp only [compOpers] at hc
    split at hc
    · rename_i x xs' h1 h2
      have hc := Option.some.inj hc
      subst hc
      obtain ⟨k1, k2⟩ := compOpers_at h2
      refine ⟨by simp [k1], fun i o' hi => ?_⟩
      cases i with
      | zero => simp at hi; subst hi; exact ⟨x, by simp, h1⟩
      | succ i => simp at hi; obtain ⟨y, y1, y2⟩ := k2 i o' hi; exact ⟨y, by simpa using y1, y2⟩
    · cases hc

theorem stepA_of {o : AOper} (hs : stepV cf o e h = some (v, h')) : stepA cf o e h = some (put e o.dst v, h') := by
  rw [stepV_eq] at hs
  rw [stepA_eq]
  split at hs
  · rename_i hw
    rw [if_pos hw, hs]
  · rename_i hw
    rw [if_neg hw]
    simp only [Option.some.injEq, Prod.mk.injEq] at hs
    obtain ⟨rfl, rfl⟩ := hs
    rfl

theorem count_less {p q : Nat → Bool} (hpq : ∀ x, q x = true → p x = true) : ∀ {l : List Nat} {y : Nat}, y ∈ l → p y = true → q y = false → (l.filter q).length < (l.filter p).length
  | [], y, hy, _, _ => by simp at hy
  | x :: l, y, hy, h1, h2 => by
    have hle : ∀ (l : List Nat), (l.filter q).length ≤ (l.filter p).length := by
      intro l
      induction l with
      | nil => simp
      | cons x l ih =>
        simp only [List.filter_cons]
        cases hq : q x with
        | true => rw [hpq x hq]; simpa using ih
        | false => simp only [Bool.false_eq_true, if_false]; split <;> (try simp only [List.length_cons]) <;> omega
    simp only [List.filter_cons]
    rcases List.mem_cons.1 hy with rfl | hy
    · rw [h1, h2]
      have := hle l
      simp; omega
    · have ih := count_less hpq hy h1 h2
      cases hq : q x with
      | true => rw [hpq x hq]; simpa using ih
      | false => simp only [Bool.false_eq_true, if_false]; split <;> (try simp only [List.length_cons]) <;> omega

/-- The set of those that have come up. -/
def sOf (listed : Array Bool) : Nat → Bool := fun i => listed.getD i false

structure Plan (ops : List AOper) (dep : List (List Nat)) : Prop where
  len : dep.length = ops.length
  low : ∀ j, j < dep.length → ∀ y ∈ dep.getD j [], y < j
  pair : ∀ i j x y, i < j → ops[i]? = some x → ops[j]? = some y → ((ancs [] dep).getD j 0).testBit i = true ∨ (apartA x y = true ∧ ¬ (isWriter x.op = true ∧ isWriter y.op = true))

theorem plan_of {ops : List AOper} {dep : List (List Nat)} (hp : planOk ops dep (ancs [] dep) = true) : Plan ops dep := by
  unfold planOk at hp
  simp only [Bool.and_eq_true, decide_eq_true_eq, List.all_eq_true, List.mem_range] at hp
  obtain ⟨⟨h1, h2⟩, h3⟩ := hp
  refine ⟨h1, fun j hj y hy => h2 j (by omega) y hy, fun i j x y hij hx hy => ?_⟩
  have hj : j < ops.length := (List.getElem?_eq_some_iff.1 hy).1
  have := h3 j hj i hij
  simp only [Bool.or_eq_true, Bool.and_eq_true, hx, hy, wat, Bool.not_eq_true'] at this
  rcases this with h | ⟨h4, h5⟩
  · exact .inl h
  · refine .inr ⟨h4, fun hh => ?_⟩
    rw [hh.1, hh.2] at h5
    cases h5

theorem apart_spec {x y : AOper} (ha : apartA x y = true) : (∀ d, x.dst = some d → d ∉ y.looks) ∧ (∀ d, y.dst = some d → d ∉ x.looks) ∧ (∀ d, x.dst = some d → y.dst ≠ some d) := by
  unfold apartA at ha
  simp only [Bool.and_eq_true, Bool.not_eq_true'] at ha
  obtain ⟨⟨h1, h2⟩, h3⟩ := ha
  refine ⟨fun d hd hm => ?_, fun d hd hm => ?_, fun d hd hy => ?_⟩
  · rw [hd] at h1; simp [hits] at h1; exact h1 hm
  · rw [hd] at h2; simp [hits] at h2; exact h2 hm
  · rw [hd, hy] at h3; simp [hits] at h3

theorem any_walk {ρ₀ : Ren} {ops : Array Oper} {xs : List AOper} {l : List It} (hG : P.globals.size ≤ Z.G) (hcf : Answers P cf) {Q : Exit → Act → World → Prop} (hc : compOpers P ops.toList ops.toList = some xs)
    (hplan : Plan xs (depsOf ops.toList)) (ht : traceA cf xs e h = some l) (hk : chkOk cf l e h (planChk xs (ancs [] (depsOf ops.toList))) = true)
    (hQ : ∀ a' w', St Z ρ₀ (envL (fun _ => true) 0 l e) (heapL (fun _ => true) 0 l h) a' w' → Q .normal a' w') :
    ∀ (fuel : Nat) (listed : Array Bool) (a : Act) (w : World), listed.size = xs.length → ((List.range xs.length).filter fun i => !sOf listed i).length ≤ fuel →
      (∀ j, j < xs.length → sOf listed j = true → ∀ y ∈ (depsOf ops.toList).getD j [], sOf listed y = true) →
      St Z ρ₀ (envL (sOf listed) 0 l e) (heapL (sOf listed) 0 l h) a w → wpAny P .any ops Q fuel listed a w := by
  obtain ⟨hlen, hat⟩ := compOpers_at hc
  have hops : l.map (·.o) = xs := trace_ops ht
  have hll : l.length = xs.length := by rw [← hops, List.length_map]
  have hdl : (depsOf ops.toList).length = xs.length := hplan.len
  have hsz : ops.size = xs.length := by rw [hlen, Array.length_toList]
  have hlx : ∀ (i : Nat) (x : It), l[i]? = some x → xs[i]? = some x.o := fun i x hx => by rw [← hops, List.getElem?_map, hx]; rfl
  have hxl : ∀ (i : Nat) (o : AOper), xs[i]? = some o → ∃ x : It, l[i]? = some x ∧ x.o = o := fun i o ho => by
    rw [← hops, List.getElem?_map, Option.map_eq_some_iff] at ho
    exact ho
  -- who waits for whom
  have hdep : ∀ i o, ops[i]? = some o → (depsOf ops.toList).getD i [] = (o.after.toList.filter (Region.binds .any)).map (·.on) := fun i o ho => by
    rw [List.getD_eq_getElem?_getD]
    unfold depsOf
    rw [List.getElem?_map, Array.getElem?_toList, ho]
    rfl
  -- all have come up where none is ready
  have hall : ∀ (listed : Array Bool), listed.size = xs.length → Region.ready .any ops listed = [] → ∀ i, i < xs.length → sOf listed i = true := by
    intro listed hs hr i
    induction i using Nat.strongRecOn with
    | _ i ih =>
      intro hi
      cases hsi : sOf listed i with
      | true => rfl
      | false =>
        exfalso
        have hio : i < ops.size := by omega
        have : i ∈ Region.ready .any ops listed := by
          refine mem_ready.2 ⟨?_, ops[i], Array.getElem?_eq_getElem hio, fun ed hed hb => ?_⟩
          · unfold sOf at hsi
            have : i < listed.size := by omega
            simp [this] at hsi ⊢
            exact hsi
          · have hm : ed.on ∈ (depsOf ops.toList).getD i [] := by
              rw [hdep i _ (Array.getElem?_eq_getElem hio)]
              exact List.mem_map.2 ⟨ed, List.mem_filter.2 ⟨Array.mem_toList_iff.2 hed, hb⟩, rfl⟩
            have hlt := hplan.low i (by omega) _ hm
            exact ih _ hlt (by omega)
        rw [hr] at this
        cases this
  have hfin : ∀ (listed : Array Bool) (a : Act) (w : World), listed.size = xs.length → Region.ready .any ops listed = [] → St Z ρ₀ (envL (sOf listed) 0 l e) (heapL (sOf listed) 0 l h) a w → Q .normal a w := by
    intro listed a w hs hr hst
    have ha := hall listed hs hr
    have e1 : heapL (sOf listed) 0 l h = heapL (fun _ => true) 0 l h := heapL_congr l 0 h (fun j x hj _ => by
      rw [Nat.zero_add]; exact ha j (by rw [← hll]; exact (List.getElem?_eq_some_iff.1 hj).1))
    rw [e1] at hst
    refine hQ a w (hst.like ⟨by rw [envL_n, envL_n], fun t => envL_at l 0 e e rfl rfl (fun j x hj hne => ?_)⟩)
    exact absurd (by rw [Nat.zero_add]; exact ha j (by rw [← hll]; exact (List.getElem?_eq_some_iff.1 hj).1)) hne
  intro fuel
  induction fuel with
  | zero =>
    intro listed a w hs hcnt hcl hst
    have hr : Region.ready .any ops listed = [] := by
      rw [List.eq_nil_iff_forall_not_mem]
      intro i hi
      obtain ⟨h1, o, h2, _⟩ := mem_ready.1 hi
      have hio : i < xs.length := by rw [← hsz]; exact (Array.getElem?_eq_some_iff.1 h2).1
      have hnot : sOf listed i = false := by
        unfold sOf
        have : i < listed.size := by omega
        simp [this] at h1 ⊢
        exact h1
      have hnil := List.length_eq_zero_iff.1 (Nat.le_zero.1 hcnt)
      have hm : i ∈ (List.range xs.length).filter fun i => !sOf listed i := List.mem_filter.2 ⟨List.mem_range.2 hio, by simp [hnot]⟩
      rw [hnil] at hm
      cases hm
    exact ⟨hr, hfin listed a w hs hr hst⟩
  | succ fuel ih =>
    intro listed a w hs hcnt hcl hst
    refine ⟨fun hr => hfin listed a w hs hr hst, fun i hi => ?_⟩
    obtain ⟨h1, o, h2, h3⟩ := mem_ready.1 hi
    have hio : i < xs.length := by rw [← hsz]; exact (Array.getElem?_eq_some_iff.1 h2).1
    have hsi : sOf listed i = false := by
      unfold sOf
      have : i < listed.size := by omega
      simp [this] at h1 ⊢
      exact h1
    have hready : ∀ y ∈ (depsOf ops.toList).getD i [], sOf listed y = true := by
      rw [hdep i o h2]
      intro y hy
      obtain ⟨ed, hed, rfl⟩ := List.mem_map.1 hy
      obtain ⟨hed1, hed2⟩ := List.mem_filter.1 hed
      exact h3 ed (Array.mem_toList_iff.1 hed1) hed2
    have hclD : ∀ j, j < (depsOf ops.toList).length → sOf listed j = true → ∀ y ∈ (depsOf ops.toList).getD j [], sOf listed y = true := fun j hj => hcl j (by omega)
    have hanc : ∀ x, ((ancs [] (depsOf ops.toList)).getD i 0).testBit x = true → sOf listed x = true := ancs_in hplan.low hclD i (by omega) hready
    have hdesc : ∀ j, j < xs.length → sOf listed j = true → ¬ ((ancs [] (depsOf ops.toList)).getD j 0).testBit i = true := by
      intro j hj hsj hm
      have := ancs_in hplan.low hclD j (by omega) (hclD j (by omega) hsj) i hm
      rw [hsi] at this
      cases this
    obtain ⟨ao, hao, hcomp⟩ := hat i o (by rw [Array.getElem?_toList]; exact h2)
    obtain ⟨x, hx, hxo⟩ := hxl i ao hao
    -- what came up, and what would have come up ahead of i, have nothing to do with i where they part
    have hpart : ∀ (j : Nat) (y : It), l[j]? = some y → sOf listed j ≠ decide (j < i) → (∀ d, y.o.dst = some d → d ∉ ao.looks) ∧ (∀ d, ao.dst = some d → y.o.dst ≠ some d) ∧ ¬ (isWriter y.o.op = true ∧ isWriter ao.op = true) := by
      intro j y hj hne
      have hjl : j < xs.length := by rw [← hll]; exact (List.getElem?_eq_some_iff.1 hj).1
      rcases Nat.lt_trichotomy j i with hlt | heq | hgt
      · have hsj : sOf listed j = false := by
          cases hh : sOf listed j with
          | false => rfl
          | true => exact absurd (by rw [hh]; simp [hlt]) hne
        rcases hplan.pair j i y.o ao hlt (hlx j y hj) hao with hm | ⟨h4, h5⟩
        · rw [hanc j hm] at hsj; cases hsj
        · obtain ⟨p1, p2, p3⟩ := apart_spec h4
          exact ⟨p1, fun d hd hy => p3 d hy hd, h5⟩
      · subst heq
        exact absurd (by rw [hsi]; simp) hne
      · have hsj : sOf listed j = true := by
          cases hh : sOf listed j with
          | true => rfl
          | false => exact absurd (by rw [hh]; simp; omega) hne
        rcases hplan.pair i j ao y.o hgt hao (hlx j y hj) with hm | ⟨h4, h5⟩
        · exact absurd hm (hdesc j hjl hsj)
        · obtain ⟨p1, p2, p3⟩ := apart_spec h4
          exact ⟨p2, p3, fun hh => h5 ⟨hh.2, hh.1⟩⟩
    have hcanon := trace_at 0 ht hx
    simp only [Nat.zero_add] at hcanon
    rw [hxo] at hcanon
    have hlook : ∀ t ∈ ao.looks, (envL (fun j => decide (j < i)) 0 l e).at t = (envL (sOf listed) 0 l e).at t := fun t htm =>
      (envL_at l 0 e e rfl rfl (fun j y hj hne hd => by
        rw [Nat.zero_add] at hne
        exact (hpart j y hj hne).1 t hd htm)).symm
    -- the step
    have hstep : ∃ H', stepV cf ao (envL (sOf listed) 0 l e) (heapL (sOf listed) 0 l h) = some (x.v, H') ∧ heapL (fun j => sOf listed j || decide (j = i)) 0 l h = H' := by
      by_cases hw : isWriter ao.op = true
      · refine ⟨x.h, ?_, ?_⟩
        · rw [← stepV_congr hlook]
          have e1 : heapL (sOf listed) 0 l h = heapL (fun j => decide (j < i)) 0 l h := heapL_congr l 0 h (fun j y hj hwy => by
            rw [Nat.zero_add]
            rcases Decidable.em (sOf listed j = decide (j < i)) with hh | hh
            · exact hh
            · exact absurd ⟨hwy, hw⟩ (hpart j y hj hh).2.2)
          rw [e1]
          exact hcanon
        · have e1 : heapL (fun j => sOf listed j || decide (j = i)) 0 l h = heapL (fun j => decide (j < i + 1)) 0 l h := heapL_congr l 0 h (fun j y hj hwy => by
            rw [Nat.zero_add]
            rcases Nat.lt_trichotomy j i with hlt | heq | hgt
            · rcases Decidable.em (sOf listed j = decide (j < i)) with hh | hh
              · rw [hh]
                have h6 : decide (j < i) = true := by simp [hlt]
                have h7 : decide (j < i + 1) = true := by simp; omega
                simp [h6, h7]
              · exact absurd ⟨hwy, hw⟩ (hpart j y hj hh).2.2
            · subst heq; simp
            · rcases Decidable.em (sOf listed j = decide (j < i)) with hh | hh
              · rw [hh]
                have h6 : decide (j < i) = false := by simp; omega
                have h7 : decide (j < i + 1) = false := by simp; omega
                have h8 : decide (j = i) = false := by simp; omega
                simp [h6, h7, h8]
              · exact absurd ⟨hwy, hw⟩ (hpart j y hj hh).2.2)
          rw [e1, heapL_last l h l 0 0 h (fun j y hj => by rw [Nat.zero_add]; exact hj) rfl]
          rcases lastB_spec (s := fun j => decide (j < i + 1)) (l.map (·.o)) 0 0 with ⟨_, hb2⟩ | ⟨i', o', hb1, hb2, hb3, hb4, hb5⟩
          · have := hb2 i ao (by rw [hops]; exact hao) hw
            simp at this
          · rw [hb2]
            rw [Nat.zero_add] at hb4 ⊢
            have h9 := hb5 i ao (by rw [hops]; exact hao) hw (by simp)
            have h10 : i' < i + 1 := by simpa using hb4
            have : i' = i := by omega
            subst this
            simp [heapB, hx]
      · have hw' : isWriter ao.op = false := by simpa using hw
        refine ⟨heapL (sOf listed) 0 l h, ?_, heapL_congr l 0 h (fun j y hj hwy => by
          rw [Nat.zero_add]
          by_cases hji : j = i
          · subst hji
            rw [hx] at hj
            have := Option.some.inj hj
            subst this
            rw [hxo, hw'] at hwy
            cases hwy
          · simp [hji])⟩
        rw [← stepV_congr hlook]
        by_cases hrd : isReader ao.op = true
        · -- a look at memory
          have hb := heapL_last (s := sOf listed) l h l 0 0 h (fun j y hj => by rw [Nat.zero_add]; exact hj) rfl
          have hb0 := heapL_last (s := fun j => decide (j < i)) l h l 0 0 h (fun j y hj => by rw [Nat.zero_add]; exact hj) rfl
          rw [hops] at hb hb0
          by_cases hsame : lastB (sOf listed) 0 xs 0 = lastB (fun j => decide (j < i)) 0 xs 0
          · have e1 : heapL (sOf listed) 0 l h = heapL (fun j => decide (j < i)) 0 l h := by rw [hb, hb0, hsame]
            rw [e1]
            have hst' := stepV_still hw' hcanon
            rw [← hst'] at hcanon ⊢
            exact hcanon
          · have hfeas : feasible xs (ancs [] (depsOf ops.toList)) i (lastB (sOf listed) 0 xs 0) = true ∧ lastB (sOf listed) 0 xs 0 < xs.length + 1 := by
              rcases lastB_spec (s := sOf listed) xs 0 0 with ⟨hb1, hb2⟩ | ⟨i', o', hb1, hb2, hb3, hb4, hb5⟩
              · rw [hb1]
                refine ⟨?_, by omega⟩
                unfold feasible
                simp only [Bool.not_eq_true', List.any_eq_false, Bool.and_eq_true, not_and]
                intro y _ hy hwy
                unfold wat at hwy
                split at hwy
                · rename_i oy hoy
                  have := hb2 y oy hoy hwy
                  rw [Nat.zero_add, hanc y hy] at this
                  cases this
                · cases hwy
              · rw [hb2]
                rw [Nat.zero_add] at hb4 ⊢
                have hi'l : i' < xs.length := (List.getElem?_eq_some_iff.1 hb1).1
                refine ⟨?_, by omega⟩
                unfold feasible
                simp only [Bool.and_eq_true, Bool.not_eq_true', List.all_eq_true, Bool.or_eq_true, decide_eq_true_eq]
                refine ⟨⟨by unfold wat; rw [hb1]; exact hb3, ?_⟩, fun y _ => ?_⟩
                · have := hdesc i' hi'l hb4
                  simpa using this
                · by_cases hy : ((ancs [] (depsOf ops.toList)).getD i 0).testBit y = true
                  case neg => exact .inl (.inl (by simpa using hy))
                  by_cases hwy : wat xs y = true
                  · refine .inr ?_
                    unfold wat at hwy
                    split at hwy
                    · rename_i oy hoy
                      exact hb5 y oy hoy hwy (by rw [Nat.zero_add]; exact hanc y hy)
                    · cases hwy
                  · exact .inl (.inr (by simpa using hwy))
            have hmem : (i, lastB (sOf listed) 0 xs 0) ∈ planChk xs (ancs [] (depsOf ops.toList)) := by
              unfold planChk
              refine List.mem_flatMap.2 ⟨i, List.mem_range.2 hio, ?_⟩
              rw [hao]
              simp only [hrd, if_true]
              refine List.mem_map.2 ⟨_, List.mem_filter.2 ⟨List.mem_range.2 hfeas.2, ?_⟩, rfl⟩
              rw [hfeas.1]
              simpa using hsame
            have hck := List.all_eq_true.1 hk _ hmem
            simp only [hx] at hck
            rw [hxo] at hck
            split at hck
            · rename_i v' H1 hv'
              have hvv := sameV_eq hck
              subst hvv
              rw [hb]
              have hst' := stepV_still hw' hv'
              rw [hst'] at hv'
              exact hv'
            · cases hck
        · exact stepV_any hw' (by simpa using hrd) hcanon
    obtain ⟨H', hsv, hH'⟩ := hstep
    have hs' : (fun j => sOf listed j || decide (j = i)) = sOf (listed.setIfInBounds i true) := by
      funext j
      unfold sOf
      by_cases hji : j = i
      · subst hji
        have : j < listed.size := by omega
        simp [this]
      · rw [getD_set_ne false (Ne.symm hji)]
        simp [hji]
    have hnext := ih (listed.setIfInBounds i true)
    unfold wpOp
    rw [h2]
    simp only
    have hwp := step_wp (Q := Q) (K := wpAny P .any ops Q fuel (listed.setIfInBounds i true)) hG hcf hcomp (stepA_of hsv) hst (fun a' w' hst' => by
      refine hnext a' w' (by simpa using hs) ?_ ?_ ?_
      · have hlt := count_less (p := fun j => !sOf listed j) (q := fun j => !sOf (listed.setIfInBounds i true) j) (fun j hj => by
          rw [← hs'] at hj
          simp only [Bool.not_or, Bool.and_eq_true] at hj
          exact hj.1) (List.mem_range.2 hio) (by simp [hsi]) (by rw [← hs']; simp)
        omega
      · intro j hj hsj y hy
        rw [← hs'] at hsj ⊢
        simp only [Bool.or_eq_true, decide_eq_true_eq] at hsj ⊢
        rcases hsj with hsj | rfl
        · exact .inl (hcl j hj hsj y hy)
        · exact .inl (hready y hy)
      · rw [← hs', hH']
        refine hst'.like ?_
        have hadd := envL_add hsi l 0 e x (by simpa using hx) (Nat.zero_le _) (fun j y hj hlt hsj d hd => by
          rw [Nat.zero_add] at hlt hsj
          rw [hxo] at hd
          exact (hpart j y hj (by rw [hsj]; simp; omega)).2.1 d hd)
        rw [hxo] at hadd
        exact ⟨hadd.1.symm, fun t => (hadd.2 t).symm⟩)
    split
    · rename_i hwant
      rw [if_pos hwant] at hwp
      exact .inl hwp
    · rename_i hwant
      rw [if_neg hwant] at hwp
      exact hwp

theorem any_wp {ρ₀ : Ren} {id : Nat} {ops : Array Oper} {xs : List AOper} (N : Nat) (hG : P.globals.size ≤ Z.G) (hcf : Answers P cf) (hm : P.follows .mixedOrders = true) {Q : Exit → Act → World → Prop} (hc : compOpers P ops.toList ops.toList = some xs)
    (hp : planOk xs (depsOf ops.toList) (ancs [] (depsOf ops.toList)) = true)
    (hs : execA cf N (.anyRegion xs (planChk xs (ancs [] (depsOf ops.toList)))) e h = some (.normal, e', h')) (hst : St Z ρ₀ e h a w)
    (hQ : ∀ a' w', St Z ρ₀ e' h' a' w' → Q .normal a' w') : (Code.region id ops true).wp P Q a w := by
  simp only [execA] at hs
  split at hs
  · rename_i l ht
    split at hs
    · rename_i hk
      simp only [Option.some.injEq, Prod.mk.injEq, true_and] at hs
      obtain ⟨rfl, rfl⟩ := hs
      obtain ⟨hlen, _⟩ := compOpers_at hc
      have hsz : ops.size = xs.length := by rw [hlen, Array.length_toList]
      have hno : ∀ j, 0 ≤ j → sOf (Array.replicate ops.size false) j = false := by
        intro j _
        unfold sOf
        simp only [Array.getD_eq_getD_getElem?, Array.getElem?_replicate]
        split <;> rfl
      refine wp_region_any hm (any_walk hG hcf hc (plan_of hp) ht hk hQ _ _ _ _ (by simp [hsz]) ?_ ?_ ?_)
      · rw [hsz]
        exact Nat.le_trans (List.length_filter_le _ _) (by simp)
      · intro j hj hsj
        rw [hno j (Nat.zero_le j)] at hsj
        cases hsj
      · rw [envL_none _ _ _ hno, heapL_none _ _ _ hno]
        exact hst.drew _
    · cases hs
  · cases hs

end Go.Proofs.YthfbefjmenddkaaDoorA
