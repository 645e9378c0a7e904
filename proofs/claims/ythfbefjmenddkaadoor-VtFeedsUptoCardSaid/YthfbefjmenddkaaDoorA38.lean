/- A closed helper over laid variables: known, wherever the laid blocks stand in memory. No condition. -/
import Derived.Test.YthfbefjmenddkaaDoorA37
namespace Go.Proofs.YthfbefjmenddkaaDoorA
open Go
set_option linter.unusedVariables false
noncomputable section
variable {P : Program} {cf : ACall} {ρ : Ren} {h : Heap} {w : World} {Z : Base}

/-- A value that names no block. -/
def plainV : V → Bool
  | .bool _ => true
  | .int _ _ => true
  | .str _ => true
  | _ => false
theorem VR.plain {ρ' : Ren} {v : V} {u : Value} (hp : plainV v = true) (hv : VR ρ v u) : VR ρ' v u := by
  cases v <;> simp only [plainV, Bool.false_eq_true] at hp <;> simpa only [VR] using hv

/-- The laid blocks stand in memory. -/
def hasLaid (l : List (Nat × List V)) (h : Heap) : Prop := ∀ x ∈ l, ∃ t, h.get x.1 = some (.cells x.2 t 1 false)
theorem hasLaid_new {l : List (Nat × List V)} (B : Blk) (hl : hasLaid l h) (hf : Fresh h) : hasLaid l (h.new B) := fun x hx => by
  obtain ⟨t, ht⟩ := hl x hx
  exact ⟨t, (Ext.new h B).get hf ht⟩
theorem hasLaid_ext {l : List (Nat × List V)} {H : Heap} (hl : hasLaid l h) (hf : Fresh h) (he : Ext h H) : hasLaid l H := fun x hx => by
  obtain ⟨t, ht⟩ := hl x hx
  exact ⟨t, he.get hf ht⟩

open Classical in
def s_knownG (l : List (Nat × List V)) : List V → Heap → Option (V × Heap)
  | [], h => if hasLaid l h then some (.bool true, h) else none
  | _, _ => none

/-- Of a relation, what the laid blocks need. -/
theorem Rel.laid {l : List (Nat × List V)} (r : Rel Z ρ h w) (hG : P.globals.size ≤ Z.G) (hl : hasLaid l h) (hp : (l.all fun x => decide (x.1 < P.globals.size) && x.2.all plainV) = true) :
    ∃ ts, Rel (base0 P w) (fun g => if g < P.globals.size then ρ g else none) (heapG P.globals.size l ts) w := by
  refine ⟨fun b => match h.get b with | some (.cells _ t _ _) => t | _ => 0, rfl, rfl, rfl, fun k o hk => hk, fun b L hb => ?_, fun b B hb => ?_, fun b b' B B' L L' hb hb' _ _ _ => ?_, fun g hg => ?_, fun _ _ _ _ _ _ => rfl, fun _ h => by cases h⟩
  · split at hb
    · assumption
    · cases hb
  · obtain ⟨vs, hm, rfl⟩ := heapG_get _ _ _ hb
    have h1 := List.all_eq_true.1 hp _ hm
    simp only [Bool.and_eq_true, decide_eq_true_eq] at h1
    obtain ⟨t, ht⟩ := hl _ hm
    simp only at ht
    obtain ⟨L, hL, hB⟩ := r.live b _ ht
    refine ⟨L, (if_pos h1.1).trans hL, ?_⟩
    obtain ⟨us, fz, k1, k2, k3, k4, k5, k6⟩ := hB
    refine ⟨us, fz, by simp only [ht]; exact k1, k2, k3, k4, fun h => (by cases h), fun i v hi => ?_⟩
    obtain ⟨u, hu, hv⟩ := k6 i v hi
    exact ⟨u, hu, VR.plain (List.all_eq_true.1 h1.2 v (List.mem_of_getElem? hi)) hv⟩
  · obtain ⟨vs, _, rfl⟩ := heapG_get _ _ _ hb
    obtain ⟨vs', _, rfl⟩ := heapG_get _ _ _ hb'
    exact .inr ⟨rfl, rfl⟩
  · obtain ⟨L, h1, h2, h3⟩ := r.glob g (Nat.lt_of_lt_of_le hg hG)
    exact ⟨L, (if_pos hg).trans h1, h2, h3⟩

theorem answers_knownG {tab : Nat → Option AFn} {N n f : Nat} {l : List (Nat × List V)} (hm : P.follows .mixedOrders = true) (ht : Holds P tab) (hcf : Answers P cf) (hf : ∃ fn, P.funcs[f]? = some fn ∧ (fn.name == "runtime.NumGoroutine") = false ∧ fn.body.isSome = true)
    (hp : (l.all fun x => decide (x.1 < P.globals.size) && x.2.all plainV) = true) (hr : ∀ ts, (runA tab N n f [] (heapG P.globals.size l ts)).map (·.1) = some (.bool true)) : Answers P (withSum cf f (s_knownG l)) := by
  intro f' args h v h' hrr Z ρ w us hG r ha
  unfold withSum at hrr
  split at hrr
  · rename_i hff
    subst hff
    unfold s_knownG at hrr
    split at hrr
    · split at hrr
      · rename_i hl
        simp only [Option.some.injEq, Prod.mk.injEq] at hrr
        obtain ⟨rfl, rfl⟩ := hrr
        simp only [VRL] at ha
        have hus : us = #[] := Array.toList_inj.1 ha
        subst hus
        obtain ⟨ts, r2⟩ := r.laid hG hl hp
        have hr := hr ts
        cases hrun : runA tab N n f' [] (heapG P.globals.size l ts) with
        | none => rw [hrun] at hr; cases hr
        | some p =>
          obtain ⟨v, h'⟩ := p
          rw [hrun] at hr
          simp only [Option.map_some, Option.some.injEq] at hr
          subst hr
          obtain ⟨_, hc⟩ := answers_run hm ht n f' [] _ _ _ hrun (base0 P w) _ w #[] (Nat.le_refl _) r2 VRL.nil
          refine ⟨hf, hc.mono ?_⟩
          rintro e w' ⟨u, ρ', rfl, _, r', hv⟩
          exact ⟨u, ρ, rfl, Ren.le_refl ρ, r.behind (r'.below rfl rfl), by rw [hv.bool_inv]; exact VR.mk_bool⟩
      · cases hrr
    · cases hrr
  · exact hcf f' args h v h' hrr Z ρ w us hG r ha

/-! More words of symbolic runs. -/
def nilCheckS (v : V) (h : Heap) : Option (V × Heap) := match v with
  | .nilptr => none
  | .niliface => none
  | .nilfunc => none
  | v => some (v, h)
theorem aop_nilCheck {e : Env} (x : Opd) : aop cf (.nilCheck x) e h = nilCheckS (x.ev e) h := by
  simp only [aop, nilCheckS]; cases x.ev e <;> rfl
theorem nilCheckS_ptr (b o : Nat) : nilCheckS (.ptr b o) h = some (.ptr b o, h) := rfl
def appendZS (t z bytes : Nat) (zero : List V) (v n : V) (h : Heap) : Option (V × Heap) := match n with
  | .int k n => if k = .i64 ∧ 0 ≤ n ∧ n ≤ most ∧ n * bytes ≤ most then appendXs h t z bytes v (zeros zero n.toNat) n.toNat else none
  | _ => none
theorem aop_appendZ {e : Env} {t z bytes : Nat} {zero : List V} {s n : Opd} : aop cf (.appendZ t z bytes zero s n) e h = appendZS t z bytes zero (s.ev e) (n.ev e) h := by
  simp only [aop, appendZS]
  cases n.ev e <;> rfl
def eqArrS (neg : Bool) (n : Nat) (v w : V) (h : Heap) : Option (V × Heap) := match v, w with
  | .agg xs, .agg ys => if xs.length = n ∧ ys.length = n then (eqInts xs ys).map fun b => (.bool (if neg then !b else b), h) else none
  | _, _ => none
theorem aop_eqArr {e : Env} {neg : Bool} {n : Nat} {x y : Opd} : aop cf (.eqArr neg n x y) e h = eqArrS neg n (x.ev e) (y.ev e) h := by
  simp only [aop, eqArrS]
  cases x.ev e <;> try rfl

end
end Go.Proofs.YthfbefjmenddkaaDoorA
