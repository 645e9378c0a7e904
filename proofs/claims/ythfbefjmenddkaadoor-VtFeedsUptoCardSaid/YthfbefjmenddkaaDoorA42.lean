/- Rows whose order is not fixed, with blocks that may be made at several places: whatever the order, the end is the same. -/
import Derived.Test.YthfbefjmenddkaaDoorA41
namespace Go.Proofs.YthfbefjmenddkaaDoorA
open Go

variable {P : Program} {Z : Base} {ρ : Ren} {h h' h2 : Heap} {w : World} {a : Act} {e e' e2 : Env} {v : V} {cf : ACall}

theorem flat_lt {xs : List AOper} {i : Nat} (hf : flat xs i = true) : i < xs.length := by
  unfold flat at hf
  split at hf
  · rename_i o ho
    exact (List.getElem?_eq_some_iff.1 ho).1
  · cases hf

theorem actOf_spec {xs : List AOper} {anc : List Nat} {i : Nat} : actOf xs anc i = xs.length ∨ (actOf xs anc i < xs.length ∧ wat xs (actOf xs anc i) = true ∧ (anc.getD (actOf xs anc i) 0).testBit i = true) := by
  unfold actOf
  cases hf : (List.range xs.length).find? fun j => wat xs j && (anc.getD j 0).testBit i with
  | none => exact .inl rfl
  | some j =>
    have h1 := List.find?_some hf
    have h2 := List.mem_of_find?_eq_some hf
    simp only [Bool.and_eq_true] at h1
    exact .inr ⟨List.mem_range.1 h2, h1.1, h1.2⟩

theorem actsOf_mem {xs : List AOper} {anc : List Nat} {i j : Nat} (hj : j ≤ xs.length) : i ∈ (actsOf xs anc).getD j [] ↔ flat xs i = true ∧ actOf xs anc i = j := by
  unfold actsOf
  rw [List.getD_eq_getElem?_getD, List.getElem?_map, List.getElem?_range (by omega)]
  simp only [Option.map_some, Option.getD_some, List.mem_filter, List.mem_range, Bool.and_eq_true, beq_iff_eq]
  constructor
  · exact fun h => h.2
  · exact fun h => ⟨flat_lt h.1, h⟩

theorem actsOf_nodup {xs : List AOper} {anc : List Nat} {j : Nat} : ((actsOf xs anc).getD j []).Nodup := by
  unfold actsOf
  rw [List.getD_eq_getElem?_getD, List.getElem?_map]
  cases hj : (List.range (xs.length + 1))[j]? with
  | none => simp
  | some y =>
    simp only [Option.map_some, Option.getD_some]
    exact List.Pairwise.filter _ List.nodup_range

theorem any_walkF {ρ₀ : Ren} {ops : Array Oper} {xs0 xs : List AOper} {l : List It} {n0 : Nat} {f : Nat → AOper → Option Nat} (hG : P.globals.size ≤ Z.G) (hcf : Answers P cf) {Q : Exit → Act → World → Prop} (hc : compOpers P ops.toList ops.toList = some xs0) (hxs : xs = floatL f 0 xs0)
    (hviews : viewsOk xs (ancs [] (depsOf ops.toList)) = true) (hplan : Plan xs (depsOf ops.toList)) (ht : traceF cf n0 (actsOf xs (ancs [] (depsOf ops.toList))) [] xs e h = some l) (hk : chkOk cf l e h (planChk xs (ancs [] (depsOf ops.toList))) = true)
    (hQ : ∀ a' w', St Z ρ₀ (envL (fun _ => true) 0 l e) (actH n0 l ((actsOf xs (ancs [] (depsOf ops.toList))).getD xs.length []) (heapL (fun _ => true) 0 l h)) a' w' → Q .normal a' w') :
    ∀ (fuel : Nat) (listed : Array Bool) (a : Act) (w : World), listed.size = xs.length → ((List.range xs.length).filter fun i => !sOf listed i).length ≤ fuel →
      (∀ j, j < xs.length → sOf listed j = true → ∀ y ∈ (depsOf ops.toList).getD j [], sOf listed y = true) →
      FSt Z ρ₀ n0 (blkOf n0 l) (fun i => flat xs i = true ∧ sOf listed i = false) (fun i => flat xs i = true ∧ sOf listed i = true ∧ sOf listed (actOf xs (ancs [] (depsOf ops.toList)) i) = false) (envL (sOf listed) 0 l e) (heapL (sOf listed) 0 l h) a w →
      wpAny P .any ops Q fuel listed a w := by
  obtain ⟨hlen0, hat0⟩ := compOpers_at hc
  have hlen : xs.length = ops.toList.length := by rw [hxs, floatL_length, hlen0]
  have hat : ∀ (i : Nat) (o : Oper), ops.toList[i]? = some o → ∃ x0 x, xs[i]? = some x ∧ compOper P ops.toList o = some x0 ∧ ((x = x0 ∧ isF x.op = false) ∨ ∃ k, x = { x0 with op := .float k x0.op }) := by
    intro i o ho
    obtain ⟨x0, h1, h2⟩ := hat0 i o ho
    have hi : i < xs.length := by rw [hlen]; exact (List.getElem?_eq_some_iff.1 ho).1
    obtain ⟨x, hx⟩ : ∃ x, xs[i]? = some x := ⟨_, List.getElem?_eq_getElem hi⟩
    have hx' := hx
    rw [hxs] at hx'
    obtain ⟨x1, k1, k2⟩ := floatL_at f xs0 0 i x hx'
    have e1 : x1 = x0 := Option.some.inj (k1.symm.trans h1)
    subst e1
    refine ⟨x1, x, hx, h2, ?_⟩
    rcases k2 with k2 | k2
    · exact .inl ⟨k2, by rw [k2]; exact compOper_noFl h2⟩
    · exact .inr k2
  obtain ⟨r, hr0, hops, hcan⟩ := traceF_ok ht
  simp only [List.nil_append] at hr0
  subst hr0
  simp only [List.length_nil, Nat.zero_add, List.nil_append] at hcan
  have hll : l.length = xs.length := by rw [← hops, List.length_map]
  have hdl : (depsOf ops.toList).length = xs.length := hplan.len
  have hsz : ops.size = xs.length := by rw [hlen, Array.length_toList]
  have hlx : ∀ (i : Nat) (x : It), l[i]? = some x → xs[i]? = some x.o := fun i x hx => by rw [← hops, List.getElem?_map, hx]; rfl
  have hxl : ∀ (i : Nat) (o : AOper), xs[i]? = some o → ∃ x : It, l[i]? = some x ∧ x.o = o := fun i o ho => by
    rw [← hops, List.getElem?_map, Option.map_eq_some_iff] at ho
    exact ho
  -- who waits for whom
  have hdep : ∀ i o, ops[i]? = some o → (depsOf ops.toList).getD i [] = (o.after.toList.filter (Region.binds .any)).map (·.on) := fun i o ho => by
    rw [List.getD_eq_getElem?_getD]
    unfold depsOf
    rw [List.getElem?_map, Array.getElem?_toList, ho]
    rfl
  -- all have come up where none is ready
  have hall : ∀ (listed : Array Bool), listed.size = xs.length → Region.ready .any ops listed = [] → ∀ i, i < xs.length → sOf listed i = true := by
    intro listed hs hr i
    induction i using Nat.strongRecOn with
    | _ i ih =>
      intro hi
      cases hsi : sOf listed i with
      | true => rfl
      | false =>
        exfalso
        have hio : i < ops.size := by omega
        have : i ∈ Region.ready .any ops listed := by
          refine mem_ready.2 ⟨?_, ops[i], Array.getElem?_eq_getElem hio, fun ed hed hb => ?_⟩
          · unfold sOf at hsi
            have : i < listed.size := by omega
            simp [this] at hsi ⊢
            exact hsi
          · have hm : ed.on ∈ (depsOf ops.toList).getD i [] := by
              rw [hdep i _ (Array.getElem?_eq_getElem hio)]
              exact List.mem_map.2 ⟨ed, List.mem_filter.2 ⟨Array.mem_toList_iff.2 hed, hb⟩, rfl⟩
            have hlt := hplan.low i (by omega) _ hm
            exact ih _ hlt (by omega)
        rw [hr] at this
        cases this
  have hend : ∀ (listed : Array Bool), listed.size = xs.length → sOf listed xs.length = false := fun listed hs => by
    unfold sOf
    simp only [Array.getD_eq_getD_getElem?]
    rw [Array.getElem?_eq_none (by omega)]
    rfl
  have hfin : ∀ (listed : Array Bool) (a : Act) (w : World), listed.size = xs.length → Region.ready .any ops listed = [] →
      FSt Z ρ₀ n0 (blkOf n0 l) (fun i => flat xs i = true ∧ sOf listed i = false) (fun i => flat xs i = true ∧ sOf listed i = true ∧ sOf listed (actOf xs (ancs [] (depsOf ops.toList)) i) = false) (envL (sOf listed) 0 l e) (heapL (sOf listed) 0 l h) a w → Q .normal a w := by
    intro listed a w hs hr hst
    have ha := hall listed hs hr
    have e1 : heapL (sOf listed) 0 l h = heapL (fun _ => true) 0 l h := heapL_congr l 0 h (fun j x hj _ => by
      rw [Nat.zero_add]; exact ha j (by rw [← hll]; exact (List.getElem?_eq_some_iff.1 hj).1))
    rw [e1] at hst
    have hst2 := hst.shows (is := (actsOf xs (ancs [] (depsOf ops.toList))).getD xs.length []) actsOf_nodup (fun i hi => by
      obtain ⟨k1, k2⟩ := (actsOf_mem (Nat.le_refl _)).1 hi
      exact ⟨k1, ha i (flat_lt k1), by rw [k2]; exact hend listed hs⟩)
    refine hQ a w (hst2.st.like ⟨by rw [envL_n, envL_n], fun t => envL_at l 0 e e rfl rfl (fun j x hj hne => ?_)⟩)
    exact absurd (by rw [Nat.zero_add]; exact ha j (by rw [← hll]; exact (List.getElem?_eq_some_iff.1 hj).1)) hne
  intro fuel
  induction fuel with
  | zero =>
    intro listed a w hs hcnt hcl hst
    have hr : Region.ready .any ops listed = [] := by
      rw [List.eq_nil_iff_forall_not_mem]
      intro i hi
      obtain ⟨h1, o, h2, _⟩ := mem_ready.1 hi
      have hio : i < xs.length := by rw [← hsz]; exact (Array.getElem?_eq_some_iff.1 h2).1
      have hnot : sOf listed i = false := by
        unfold sOf
        have : i < listed.size := by omega
        simp [this] at h1 ⊢
        exact h1
      have hnil := List.length_eq_zero_iff.1 (Nat.le_zero.1 hcnt)
      have hm : i ∈ (List.range xs.length).filter fun i => !sOf listed i := List.mem_filter.2 ⟨List.mem_range.2 hio, by simp [hnot]⟩
      rw [hnil] at hm
      cases hm
    exact ⟨hr, hfin listed a w hs hr hst⟩
  | succ fuel ih =>
    intro listed a w hs hcnt hcl hst
    refine ⟨fun hr => hfin listed a w hs hr hst, fun i hi => ?_⟩
    obtain ⟨h1, o, h2, h3⟩ := mem_ready.1 hi
    have hio : i < xs.length := by rw [← hsz]; exact (Array.getElem?_eq_some_iff.1 h2).1
    have hsi : sOf listed i = false := by
      unfold sOf
      have : i < listed.size := by omega
      simp [this] at h1 ⊢
      exact h1
    have hready : ∀ y ∈ (depsOf ops.toList).getD i [], sOf listed y = true := by
      rw [hdep i o h2]
      intro y hy
      obtain ⟨ed, hed, rfl⟩ := List.mem_map.1 hy
      obtain ⟨hed1, hed2⟩ := List.mem_filter.1 hed
      exact h3 ed (Array.mem_toList_iff.1 hed1) hed2
    have hclD : ∀ j, j < (depsOf ops.toList).length → sOf listed j = true → ∀ y ∈ (depsOf ops.toList).getD j [], sOf listed y = true := fun j hj => hcl j (by omega)
    have hanc : ∀ x, ((ancs [] (depsOf ops.toList)).getD i 0).testBit x = true → sOf listed x = true := ancs_in hplan.low hclD i (by omega) hready
    have hdesc : ∀ j, j < xs.length → sOf listed j = true → ¬ ((ancs [] (depsOf ops.toList)).getD j 0).testBit i = true := by
      intro j hj hsj hm
      have := ancs_in hplan.low hclD j (by omega) (hclD j (by omega) hsj) i hm
      rw [hsi] at this
      cases this
    obtain ⟨x0, ao, hao, hcomp, hkind⟩ := hat i o (by rw [Array.getElem?_toList]; exact h2)
    obtain ⟨x, hx, hxo⟩ := hxl i ao hao
    have hflat : flat xs i = isFl ao.op := by unfold flat; rw [hao]
    have hdst : ao.dst = o.dst := by
      have : x0.dst = o.dst := by
        unfold compOper at hcomp
        split at hcomp
        · have hcomp := Option.some.inj hcomp; subst hcomp; rfl
        · cases hcomp
      rcases hkind with ⟨rfl, _⟩ | ⟨_, rfl⟩ <;> exact this
    have hlooks0 : ∀ t ∈ x0.looks, t ∈ ao.looks := by
      rcases hkind with ⟨rfl, _⟩ | ⟨_, rfl⟩
      · exact fun t ht => ht
      · exact fun t ht => ht
    -- what came up, and what would have come up ahead of i, have nothing to do with i where they part
    have hpart : ∀ (j : Nat) (y : It), l[j]? = some y → sOf listed j ≠ decide (j < i) → (∀ d, y.o.dst = some d → d ∉ ao.looks) ∧ (∀ d, ao.dst = some d → y.o.dst ≠ some d) ∧ ¬ (isWriter y.o.op = true ∧ isWriter ao.op = true) := by
      intro j y hj hne
      have hjl : j < xs.length := by rw [← hll]; exact (List.getElem?_eq_some_iff.1 hj).1
      rcases Nat.lt_trichotomy j i with hlt | heq | hgt
      · have hsj : sOf listed j = false := by
          cases hh : sOf listed j with
          | false => rfl
          | true => exact absurd (by rw [hh]; simp [hlt]) hne
        rcases hplan.pair j i y.o ao hlt (hlx j y hj) hao with hm | ⟨h4, h5⟩
        · rw [hanc j hm] at hsj; cases hsj
        · obtain ⟨p1, p2, p3⟩ := apart_spec h4
          exact ⟨p1, fun d hd hy => p3 d hy hd, h5⟩
      · subst heq
        exact absurd (by rw [hsi]; simp) hne
      · have hsj : sOf listed j = true := by
          cases hh : sOf listed j with
          | true => rfl
          | false => exact absurd (by rw [hh]; simp; omega) hne
        rcases hplan.pair i j ao y.o hgt hao (hlx j y hj) with hm | ⟨h4, h5⟩
        · exact absurd hm (hdesc j hjl hsj)
        · obtain ⟨p1, p2, p3⟩ := apart_spec h4
          exact ⟨p2, p3, fun hh => h5 ⟨hh.2, hh.1⟩⟩
    have hcanon := hcan i x hx
    rw [hxo] at hcanon
    have hlook : ∀ t ∈ ao.looks, (envL (fun j => decide (j < i)) 0 l e).at t = (envL (sOf listed) 0 l e).at t := fun t htm =>
      (envL_at l 0 e e rfl rfl (fun j y hj hne hd => by
        rw [Nat.zero_add] at hne
        exact (hpart j y hj hne).1 t hd htm)).symm
    have hs' : (fun j => sOf listed j || decide (j = i)) = sOf (listed.setIfInBounds i true) := by
      funext j
      unfold sOf
      by_cases hji : j = i
      · subst hji
        have : j < listed.size := by omega
        simp [this]
      · rw [getD_set_ne false (Ne.symm hji)]
        simp [hji]
    -- acts of this one: they have come up
    have hacts : ∀ j ∈ (actsOf xs (ancs [] (depsOf ops.toList))).getD i [], flat xs j = true ∧ actOf xs (ancs [] (depsOf ops.toList)) j = i ∧ sOf listed j = true ∧ wat xs i = true := by
      intro j hj
      obtain ⟨k1, k2⟩ := (actsOf_mem (Nat.le_of_lt hio)).1 hj
      rcases actOf_spec (xs := xs) (anc := ancs [] (depsOf ops.toList)) (i := j) with k3 | ⟨k3, k4, k5⟩
      · omega
      · rw [k2] at k4 k5
        exact ⟨k1, k2, hanc j k5, k4⟩
    have hwat : wat xs i = isWriter ao.op := by unfold wat; rw [hao]
    have hact0 : isWriter ao.op = false → (actsOf xs (ancs [] (depsOf ops.toList))).getD i [] = [] := fun hw => by
      rw [List.eq_nil_iff_forall_not_mem]
      intro j hj
      have := (hacts j hj).2.2.2
      rw [hwat, hw] at this
      cases this
    have hadd : (envL (fun j => sOf listed j || decide (j = i)) 0 l e).like (put (envL (sOf listed) 0 l e) o.dst x.v) := by
      have hadd := envL_add hsi l 0 e x (by simpa using hx) (Nat.zero_le _) (fun j y hj hlt hsj d hd => by
        rw [Nat.zero_add] at hlt hsj
        rw [hxo] at hd
        exact (hpart j y hj (by rw [hsj]; simp; omega)).2.1 d hd)
      rw [hxo, hdst] at hadd
      exact hadd
    have hlike : (put (envL (sOf listed) 0 l e) o.dst x.v).like (envL (fun j => sOf listed j || decide (j = i)) 0 l e) := ⟨hadd.1.symm, fun t => (hadd.2 t).symm⟩
    -- heap, where this one does not write
    have hheap0 : isWriter ao.op = false → heapL (fun j => sOf listed j || decide (j = i)) 0 l h = heapL (sOf listed) 0 l h := fun hw' => heapL_congr l 0 h (fun j y hj hwy => by
      rw [Nat.zero_add]
      by_cases hji : j = i
      · subst hji
        rw [hx] at hj
        have := Option.some.inj hj
        subst this
        rw [hxo, hw'] at hwy
        cases hwy
      · simp [hji])
    have hnext : ∀ a' w', FSt Z ρ₀ n0 (blkOf n0 l) (fun j => flat xs j = true ∧ sOf (listed.setIfInBounds i true) j = false) (fun j => flat xs j = true ∧ sOf (listed.setIfInBounds i true) j = true ∧ sOf (listed.setIfInBounds i true) (actOf xs (ancs [] (depsOf ops.toList)) j) = false)
        (envL (sOf (listed.setIfInBounds i true)) 0 l e) (heapL (sOf (listed.setIfInBounds i true)) 0 l h) a' w' → wpAny P .any ops Q fuel (listed.setIfInBounds i true) a' w' := by
      intro a' w' hst'
      refine ih (listed.setIfInBounds i true) a' w' (by simpa using hs) ?_ ?_ hst'
      · have hlt := count_less (p := fun j => !sOf listed j) (q := fun j => !sOf (listed.setIfInBounds i true) j) (fun j hj => by
          rw [← hs'] at hj
          simp only [Bool.not_or, Bool.and_eq_true] at hj
          exact hj.1) (List.mem_range.2 hio) (by simp [hsi]) (by rw [← hs']; simp)
        omega
      · intro j hj hsj y hy
        rw [← hs'] at hsj ⊢
        simp only [Bool.or_eq_true, decide_eq_true_eq] at hsj ⊢
        rcases hsj with hsj | rfl
        · exact .inl (hcl j hj hsj y hy)
        · exact .inl (hready y hy)
    have hout : ∀ {j}, sOf (listed.setIfInBounds i true) j = false → sOf listed j = false ∧ j ≠ i := fun {j} hj => by
      rw [← hs'] at hj
      simp only [Bool.or_eq_false_iff, decide_eq_false_iff_not] at hj
      exact hj
    have hin : ∀ {j}, sOf (listed.setIfInBounds i true) j = true → j ≠ i → sOf listed j = true := fun {j} hj hne => by
      rw [← hs'] at hj
      simp only [Bool.or_eq_true, decide_eq_true_eq] at hj
      exact hj.resolve_right hne
    have finish : (if Region.wanted o (yielded ops a.tmps) then o.wp P a w (fun a' w' => wpAny P .any ops Q fuel (listed.setIfInBounds i true) a' w') Q else wpAny P .any ops Q fuel (listed.setIfInBounds i true) (a.put o.dst undef) w) := by
      rcases hkind with ⟨rfl, hnf⟩ | ⟨kk, rfl⟩
      · -- not floating
        have hnotfl : isFl ao.op = false := by
          cases hop : ao.op <;> first
            | rfl
            | (rw [hop] at hnf; cases hnf)
        have hcanon' : stepV cf ao (envL (fun j => decide (j < i)) 0 l e) (actH n0 (l.take i) ((actsOf xs (ancs [] (depsOf ops.toList))).getD i []) (heapL (fun j => decide (j < i)) 0 l h)) = some (x.v, x.h) := by
          unfold stepF at hcanon
          split at hcanon
          · rename_i k0 op0 hop0
            rw [hop0] at hnf
            cases hnf
          · exact hcanon
        have htake : ∀ H, actH n0 (l.take i) ((actsOf xs (ancs [] (depsOf ops.toList))).getD i []) H = actH n0 l ((actsOf xs (ancs [] (depsOf ops.toList))).getD i []) H := fun H => actH_congr fun j hj => by
          obtain ⟨k1, k2⟩ := (actsOf_mem (Nat.le_of_lt hio)).1 hj
          have hjlt : j < i := by
            rcases actOf_spec (xs := xs) (anc := ancs [] (depsOf ops.toList)) (i := j) with k3 | ⟨k3, k4, k5⟩
            · omega
            · rw [k2] at k5
              rcases Nat.lt_trichotomy j i with hh | hh | hh
              · exact hh
              · subst hh
                have := hanc j k5
                rw [hsi] at this
                cases this
              · exfalso
                have hlow : ∀ (m : Nat), m < xs.length → ∀ y, ((ancs [] (depsOf ops.toList)).getD m 0).testBit y = true → y < m := by
                  intro m hm y hy
                  exact of_decide_eq_true (ancs_in (s := fun y => decide (y < m)) hplan.low (fun q hq hsq z hz => by
                    have := hplan.low q hq z hz
                    have h6 := of_decide_eq_true hsq
                    exact decide_eq_true (by omega)) m (by omega) (fun z hz => decide_eq_true (hplan.low m (by omega) z hz)) y hy)
                have := hlow i hio j k5
                omega
          rw [List.getElem?_take_of_lt hjlt]
        by_cases hw : isWriter ao.op = true
        · have e1 : heapL (sOf listed) 0 l h = heapL (fun j => decide (j < i)) 0 l h := heapL_congr l 0 h (fun j y hj hwy => by
            rw [Nat.zero_add]
            rcases Decidable.em (sOf listed j = decide (j < i)) with hh | hh
            · exact hh
            · exact absurd ⟨hwy, hw⟩ (hpart j y hj hh).2.2)
          have e2 : heapL (fun j => sOf listed j || decide (j = i)) 0 l h = x.h := by
            have e1 : heapL (fun j => sOf listed j || decide (j = i)) 0 l h = heapL (fun j => decide (j < i + 1)) 0 l h := heapL_congr l 0 h (fun j y hj hwy => by
              rw [Nat.zero_add]
              rcases Nat.lt_trichotomy j i with hlt | heq | hgt
              · rcases Decidable.em (sOf listed j = decide (j < i)) with hh | hh
                · rw [hh]
                  have h6 : decide (j < i) = true := by simp [hlt]
                  have h7 : decide (j < i + 1) = true := by simp; omega
                  simp [h6, h7]
                · exact absurd ⟨hwy, hw⟩ (hpart j y hj hh).2.2
              · subst heq; simp
              · rcases Decidable.em (sOf listed j = decide (j < i)) with hh | hh
                · rw [hh]
                  have h6 : decide (j < i) = false := by simp; omega
                  have h7 : decide (j < i + 1) = false := by simp; omega
                  have h8 : decide (j = i) = false := by simp; omega
                  simp [h6, h7, h8]
                · exact absurd ⟨hwy, hw⟩ (hpart j y hj hh).2.2)
            rw [e1, heapL_last l h l 0 0 h (fun j y hj => by rw [Nat.zero_add]; exact hj) rfl]
            rcases lastB_spec (s := fun j => decide (j < i + 1)) (l.map (·.o)) 0 0 with ⟨_, hb2⟩ | ⟨i', o', hb1, hb2, hb3, hb4, hb5⟩
            · have := hb2 i ao (by rw [hops]; exact hao) hw
              simp at this
            · rw [hb2]
              rw [Nat.zero_add] at hb4 ⊢
              have h9 := hb5 i ao (by rw [hops]; exact hao) hw (by simp)
              have h10 : i' < i + 1 := by simpa using hb4
              have : i' = i := by omega
              subst this
              simp [heapB, hx]
          rw [htake, ← e1, stepV_congr hlook] at hcanon'
          have hst2 := hst.shows (is := (actsOf xs (ancs [] (depsOf ops.toList))).getD i []) actsOf_nodup (fun j hj => by
            obtain ⟨k1, k2, k3, _⟩ := hacts j hj
            exact ⟨k1, k3, by rw [k2]; exact hsi⟩)
          refine FSt.step hG hcf hcomp (stepA_of hcanon') hst2 (fun a' w' hst' => hnext a' w' ?_)
          rw [← hs', e2]
          refine ((hst'.like ?_).less (fun j hj => ?_) (fun j hj => ?_))
          · rw [hdst]; exact hlike
          · have h6 := hj.2
            simp only [Bool.or_eq_false_iff] at h6
            exact ⟨hj.1, h6.1⟩
          · obtain ⟨k1, k2, k3⟩ := hj
            simp only [Bool.or_eq_false_iff, decide_eq_false_iff_not] at k3
            have hji : j ≠ i := fun hh => by
              subst hh
              rw [hflat, hnotfl] at k1
              cases k1
            simp only [Bool.or_eq_true, decide_eq_true_eq] at k2
            exact ⟨⟨k1, k2.resolve_right hji, k3.1⟩, fun hm => k3.2 ((hacts j hm).2.1)⟩
        · have hw' : isWriter ao.op = false := by simpa using hw
          rw [htake, hact0 hw'] at hcanon'
          simp only [actH] at hcanon'
          have hstep : stepV cf ao (envL (sOf listed) 0 l e) (heapL (sOf listed) 0 l h) = some (x.v, heapL (sOf listed) 0 l h) := by
            rw [← stepV_congr hlook]
            by_cases hrd : isReader ao.op = true
            · -- a look at memory
              have hb := heapL_last (s := sOf listed) l h l 0 0 h (fun j y hj => by rw [Nat.zero_add]; exact hj) rfl
              have hb0 := heapL_last (s := fun j => decide (j < i)) l h l 0 0 h (fun j y hj => by rw [Nat.zero_add]; exact hj) rfl
              rw [hops] at hb hb0
              by_cases hsame : lastB (sOf listed) 0 xs 0 = lastB (fun j => decide (j < i)) 0 xs 0
              · have e1 : heapL (sOf listed) 0 l h = heapL (fun j => decide (j < i)) 0 l h := by rw [hb, hb0, hsame]
                rw [e1]
                have hst' := stepV_still hw' hcanon'
                rw [hst'] at hcanon'
                exact hcanon'
              · have hfeas : feasible xs (ancs [] (depsOf ops.toList)) i (lastB (sOf listed) 0 xs 0) = true ∧ lastB (sOf listed) 0 xs 0 < xs.length + 1 := by
                  rcases lastB_spec (s := sOf listed) xs 0 0 with ⟨hb1, hb2⟩ | ⟨i', o', hb1, hb2, hb3, hb4, hb5⟩
                  · rw [hb1]
                    refine ⟨?_, by omega⟩
                    unfold feasible
                    simp only [Bool.not_eq_true', List.any_eq_false, Bool.and_eq_true, not_and]
                    intro y _ hy hwy
                    unfold wat at hwy
                    split at hwy
                    · rename_i oy hoy
                      have := hb2 y oy hoy hwy
                      rw [Nat.zero_add, hanc y hy] at this
                      cases this
                    · cases hwy
                  · rw [hb2]
                    rw [Nat.zero_add] at hb4 ⊢
                    have hi'l : i' < xs.length := (List.getElem?_eq_some_iff.1 hb1).1
                    refine ⟨?_, by omega⟩
                    unfold feasible
                    simp only [Bool.and_eq_true, Bool.not_eq_true', List.all_eq_true, Bool.or_eq_true, decide_eq_true_eq]
                    refine ⟨⟨by unfold wat; rw [hb1]; exact hb3, ?_⟩, fun y _ => ?_⟩
                    · have := hdesc i' hi'l hb4
                      simpa using this
                    · by_cases hy : ((ancs [] (depsOf ops.toList)).getD i 0).testBit y = true
                      case neg => exact .inl (.inl (by simpa using hy))
                      by_cases hwy : wat xs y = true
                      · refine .inr ?_
                        unfold wat at hwy
                        split at hwy
                        · rename_i oy hoy
                          exact hb5 y oy hoy hwy (by rw [Nat.zero_add]; exact hanc y hy)
                        · cases hwy
                      · exact .inl (.inr (by simpa using hwy))
                have hmem : (i, lastB (sOf listed) 0 xs 0) ∈ planChk xs (ancs [] (depsOf ops.toList)) := by
                  unfold planChk
                  refine List.mem_flatMap.2 ⟨i, List.mem_range.2 hio, ?_⟩
                  rw [hao]
                  simp only [hrd, if_true]
                  refine List.mem_map.2 ⟨_, List.mem_filter.2 ⟨List.mem_range.2 hfeas.2, ?_⟩, rfl⟩
                  rw [hfeas.1]
                  simpa using hsame
                have hck := List.all_eq_true.1 hk _ hmem
                simp only [hx] at hck
                rw [hxo] at hck
                split at hck
                · rename_i v' H1 hv'
                  have hvv := sameV_eq hck
                  subst hvv
                  rw [hb]
                  have hst' := stepV_still hw' hv'
                  rw [hst'] at hv'
                  exact hv'
                · cases hck
            · exact stepV_any hw' (by simpa using hrd) hcanon'
          refine FSt.step hG hcf hcomp (stepA_of hstep) hst (fun a' w' hst' => hnext a' w' ?_)
          rw [← hs', hheap0 hw']
          refine ((hst'.like ?_).less (fun j hj => ?_) (fun j hj => ?_))
          · rw [hdst]; exact hlike
          · have h6 := hj.2
            simp only [Bool.or_eq_false_iff] at h6
            exact ⟨hj.1, h6.1⟩
          · obtain ⟨k1, k2, k3⟩ := hj
            simp only [Bool.or_eq_false_iff, decide_eq_false_iff_not] at k3
            have hji : j ≠ i := fun hh => by
              subst hh
              rw [hflat, hnotfl] at k1
              cases k1
            simp only [Bool.or_eq_true, decide_eq_true_eq] at k2
            exact ⟨k1, k2.resolve_right hji, k3.1⟩
      · -- floating
        unfold stepF at hcanon
        simp only at hcanon
        split at hcanon
        · rename_i hal
          have hcanon' : stepV cf x0 (envL (fun j => decide (j < i)) 0 l e) (bare0 (n0 + i)) = some (x.v, x.h) := hcanon
          rw [stepV_congr (fun t ht => hlook t (hlooks0 t ht))] at hcanon'
          have hfl : flat xs i = true := by rw [hflat]; exact hal
          refine FSt.float hG hcomp hal hcanon' hst ⟨hfl, hsi⟩ (fun hh => by rw [hsi] at hh; cases hh.2.1) (by unfold blkOf; rw [hx]) (fun a' w' hst' => hnext a' w' ?_)
          rw [← hs', hheap0 rfl]
          refine ((hst'.like hlike).less (fun j hj => ?_) (fun j hj => ?_))
          · have h6 := hj.2
            simp only [Bool.or_eq_false_iff, decide_eq_false_iff_not] at h6
            exact ⟨⟨hj.1, h6.1⟩, h6.2⟩
          · obtain ⟨k1, k2, k3⟩ := hj
            simp only [Bool.or_eq_false_iff, decide_eq_false_iff_not] at k3
            simp only [Bool.or_eq_true, decide_eq_true_eq] at k2
            rcases k2 with k2 | k2
            · exact .inl ⟨k1, k2, k3.1⟩
            · exact .inr k2
        · rename_i hal
          have hnotfl : flat xs i = false := by rw [hflat]; simpa [isFl] using hal
          have hfin' : ∀ a' w', FSt Z ρ₀ n0 (blkOf n0 l) (fun i => flat xs i = true ∧ sOf listed i = false) (fun i => flat xs i = true ∧ sOf listed i = true ∧ sOf listed (actOf xs (ancs [] (depsOf ops.toList)) i) = false) (put (envL (sOf listed) 0 l e) o.dst x.v) (heapL (sOf listed) 0 l h) a' w' → wpAny P .any ops Q fuel (listed.setIfInBounds i true) a' w' := by
            intro a' w' hst'
            refine hnext a' w' ?_
            rw [← hs', hheap0 rfl]
            refine ((hst'.like hlike).less (fun j hj => ?_) (fun j hj => ?_))
            · have h6 := hj.2
              simp only [Bool.or_eq_false_iff] at h6
              exact ⟨hj.1, h6.1⟩
            · obtain ⟨k1, k2, k3⟩ := hj
              simp only [Bool.or_eq_false_iff, decide_eq_false_iff_not] at k3
              have hji : j ≠ i := fun hh => by
                subst hh
                rw [hnotfl] at k1
                cases k1
              simp only [Bool.or_eq_true, decide_eq_true_eq] at k2
              exact ⟨k1, k2.resolve_right hji, k3.1⟩
          split at hcanon
          · rename_i hcs
            split at hcanon
            · rename_i y hy
              have hcanon' : stepV cf x0 (envL (fun j => decide (j < i)) 0 l e) y.h = some (x.v, x.h) := hcanon
              rw [stepV_congr (fun t ht => hlook t (hlooks0 t ht))] at hcanon'
              have hx0dst : x0.dst = o.dst := hdst
              by_cases hw : wantedA x0.guard (envL (sOf listed) 0 l e) = true
              · -- the float that it looks at
                have hv := List.all_eq_true.1 hviews i (List.mem_range.2 hio)
                rw [hao] at hv
                simp only [Bool.or_eq_true, Bool.and_eq_true, beq_iff_eq] at hv
                have hv := hv.resolve_left hal
                obtain ⟨⟨v1, v2⟩, v3⟩ := hv
                have hylt : kk < i := by
                  rcases Nat.lt_or_ge kk i with h' | h'
                  · exact h'
                  · rw [List.getElem?_eq_none (by simp; omega)] at hy; cases hy
                rw [List.getElem?_take_of_lt hylt] at hy
                have hyo := hcan kk y hy
                have hyx := hlx kk y hy
                have hyF : isFl y.o.op = true := by unfold flat at v1; rw [hyx] at v1; exact v1
                unfold stepF at hyo
                split at hyo
                · rename_i k9 op9 hop9
                  rw [hop9] at hyF
                  have hyF : isAlloc op9 = true := hyF
                  rw [if_pos hyF, stepV_eq] at hyo
                  -- its memory
                  have hyh : y.h = bare0 (n0 + kk) ∨ ∃ B, y.h = (bare0 (n0 + kk)).new B := by
                    split at hyo
                    · exact .inr (aop_alloc_new hyF hyo)
                    · simp only [Option.some.injEq, Prod.mk.injEq] at hyo
                      exact .inl hyo.2.symm
                  rw [stepV_eq, if_pos hw] at hcanon'
                  rcases hyh with hyh | ⟨B, hyh⟩
                  · have hst3 : stepV cf x0 (envL (sOf listed) 0 l e) (heapL (sOf listed) 0 l h) = some (x.v, heapL (sOf listed) 0 l h) := by
                      rw [stepV_eq, if_pos hw]
                      refine reader_mono hcs (fun b B hb => ?_) hcanon'
                      rw [hyh] at hb
                      simp [bare0, Heap.get, T.get_nil] at hb
                    exact FSt.step hG hcf hcomp (stepA_of hst3) hst (fun a' w' hst' => hfin' a' w' (by rw [← hx0dst]; exact hst'))
                  · have hblk : blkOf n0 l kk = some B := by
                      unfold blkOf
                      rw [hy]
                      simp only
                      rw [hyh, Heap.get_new]
                      exact if_pos rfl
                    have hst3 : stepV cf x0 (envL (sOf listed) 0 l e) ((heapL (sOf listed) 0 l h).set (n0 + kk) (some B)) = some (x.v, (heapL (sOf listed) 0 l h).set (n0 + kk) (some B)) := by
                      rw [stepV_eq, if_pos hw]
                      refine reader_mono hcs (fun b B' hb => ?_) hcanon'
                      rw [hyh, Heap.get_new] at hb
                      rw [Heap.get_set]
                      split at hb
                      · rename_i hbn
                        have hbn : b = n0 + kk := hbn
                        rw [if_pos hbn]
                        exact hb
                      · simp [bare0, Heap.get, T.get_nil] at hb
                    refine FSt.view hG hcf hcomp hst (k := kk) ⟨v1, hanc kk v2, ?_⟩ hblk (stepA_of hst3) (fun a' w' hst' => hfin' a' w' (by rw [← hx0dst]; exact hst'))
                    rcases v3 with v3 | v3
                    · rw [v3]; exact hend listed hs
                    · cases hsj : sOf listed (actOf xs (ancs [] (depsOf ops.toList)) kk) with
                      | false => rfl
                      | true =>
                        rcases actOf_spec (xs := xs) (anc := ancs [] (depsOf ops.toList)) (i := kk) with u1 | ⟨u1, _, _⟩
                        · rw [u1, hend listed hs] at hsj; cases hsj
                        · exact absurd v3 (hdesc _ u1 hsj)
                · rename_i hnf
                  cases hop9 : y.o.op <;> rw [hop9] at hyF <;> first
                    | (cases hyF; done)
                    | exact absurd hop9 (hnf _ _)
              · rw [stepV_eq, if_neg hw] at hcanon'
                simp only [Option.some.injEq, Prod.mk.injEq] at hcanon'
                refine FSt.step hG hcf hcomp (stepA_of (v := x.v) (h' := heapL (sOf listed) 0 l h) ?_) hst (fun a' w' hst' => hfin' a' w' ?_)
                · rw [stepV_eq, if_neg hw, hcanon'.1]
                · rw [← hx0dst]; exact hst'
            · cases hcanon
          · cases hcanon
    unfold wpOp
    rw [h2]
    simp only
    split
    · rename_i hwant
      rw [if_pos hwant] at finish
      exact .inl finish
    · rename_i hwant
      rw [if_neg hwant] at finish
      exact finish

theorem any_wpF {ρ₀ : Ren} {id : Nat} {ops : Array Oper} {xs0 xs : List AOper} {f : Nat → AOper → Option Nat} (N : Nat) (hG : P.globals.size ≤ Z.G) (hcf : Answers P cf) (hm : P.follows .mixedOrders = true) {Q : Exit → Act → World → Prop} (hc : compOpers P ops.toList ops.toList = some xs0) (hxs : xs = floatL f 0 xs0)
    (hp : (planOk xs (depsOf ops.toList) (ancs [] (depsOf ops.toList)) && viewsOk xs (ancs [] (depsOf ops.toList))) = true)
    (hs : execA cf N (.floatRegion xs (actsOf xs (ancs [] (depsOf ops.toList))) (planChk xs (ancs [] (depsOf ops.toList)))) e h = some (.normal, e', h')) (hst : St Z ρ₀ e h a w)
    (hQ : ∀ a' w', St Z ρ₀ e' h' a' w' → Q .normal a' w') : (Code.region id ops true).wp P Q a w := by
  simp only [execA] at hs
  split at hs
  · rename_i l ht
    split at hs
    · rename_i hk
      simp only [Option.some.injEq, Prod.mk.injEq, true_and] at hs
      obtain ⟨rfl, rfl⟩ := hs
      obtain ⟨hlen, _⟩ := compOpers_at hc
      have hsz : ops.size = xs.length := by rw [hxs, floatL_length, hlen, Array.length_toList]
      have hno : ∀ j, 0 ≤ j → sOf (Array.replicate ops.size false) j = false := by
        intro j _
        unfold sOf
        simp only [Array.getD_eq_getD_getElem?, Array.getElem?_replicate]
        split <;> rfl
      rw [Bool.and_eq_true] at hp
      refine wp_region_any hm (any_walkF hG hcf hc hxs hp.2 (plan_of hp.1) ht hk hQ _ _ _ _ (by simp [hsz]) ?_ ?_ ?_)
      · rw [hsz]
        exact Nat.le_trans (List.length_filter_le _ _) (by simp)
      · intro j hj hsj
        rw [hno j (Nat.zero_le j)] at hsj
        cases hsj
      · rw [envL_none _ _ _ hno, heapL_none _ _ _ hno]
        obtain ⟨⟨ρ, k1, k2, k3⟩, hd⟩ := hst
        refine FSt.drew (Z := Z) ⟨⟨{ Z with R := fun b => Z.R b || (decide (h.next ≤ b) && decide (b < h.next + xs.length)) }, ρ, fun _ => ⟨0, 0, 0, 0⟩, k1, k2.gap xs.length, k3, rfl, rfl, fun _ _ hk => hk, fun _ hk => hk, fun b hb => ?_, fun i hi => ?_, fun i B hi => ?_, fun i j hi => ?_⟩, hd⟩ _
        · simp [hb]
        · have hlt := flat_lt hi.1
          refine ⟨?_, ?_⟩
          · simp only [Bool.or_eq_true, Bool.and_eq_true, decide_eq_true_eq]
            exact .inr ⟨by omega, by omega⟩
          · cases hR : Z.R (h.next + i) with
            | false => rfl
            | true => have := (k2.res _ hR).1; omega
        · have := hi.2.1
          rw [hno i (Nat.zero_le i)] at this
          cases this
        · have := hi.2.1
          rw [hno i (Nat.zero_le i)] at this
          cases this
    · cases hs
  · cases hs

end Go.Proofs.YthfbefjmenddkaaDoorA
