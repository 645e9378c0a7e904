/- Summaries: a function's run, told once, stands for its calls. -/
import Derived.Test.YthfbefjmenddkaaDoorA25
namespace Go.Proofs.YthfbefjmenddkaaDoorA
open Go

variable {P : Program} {Z : Base} {ρ : Ren} {h h' h2 : Heap} {w w' W : World} {cf : ACall}

/-- Two heaps that hold the same. -/
def Heap.like (a b : Heap) : Prop := a.next = b.next ∧ ∀ i, a.get i = b.get i

/-- What lies there and is not named any more may be forgotten. -/
theorem Rel.forget (r : Rel Z ρ h w) (hn : h.next ≤ h2.next) (hg : ∀ b B, h2.get b = some B → h.get b = some B) : Rel Z ρ h2 w :=
  ⟨r.os, r.tape, r.output, r.keep, fun b L hb => Nat.lt_of_lt_of_le (r.dom b L hb) hn, fun b B hb => r.live b B (hg b B hb), fun b b' B B' L L' hb hb' => r.inj b b' B B' L L' (hg b B hb) (hg b' B' hb'), r.glob, fun b B L hb => r.hid b B L (hg b B hb), fun b hb => ⟨Nat.lt_of_lt_of_le (r.res b hb).1 hn, (r.res b hb).2⟩⟩

/-- Behind a call that leaves the world as it was below its end. -/
theorem Rel.behind (r : Rel Z ρ h w) (hb : RowKit.Below w.heap.size w w') : Rel Z ρ h w' := by
  have hk : ∀ {k : Nat} {o : Obj}, w.heap[k]? = some o → w'.heap[k]? = some o := fun {k o} ho => by
    rw [hb.block k (Array.getElem?_eq_some_iff.1 ho).1]; exact ho
  refine ⟨hb.os.trans r.os, hb.tape.trans r.tape, hb.output.trans r.output, fun k o ho => hk (r.keep k o ho), r.dom, fun b B hB => ?_, r.inj, r.glob, r.hid, r.res⟩
  obtain ⟨L, h1, h2⟩ := r.live b B hB
  refine ⟨L, h1, ?_⟩
  cases B with
  | cells c t z own => obtain ⟨us, fz, k1, k2⟩ := h2; exact ⟨us, fz, hk k1, k2⟩
  | iter s p => obtain ⟨bs, k1, k2⟩ := h2; exact ⟨bs, hk k1, k2⟩

/-- The run of a function's body. -/
noncomputable def bodyA (cf : ACall) (N : Nat) (fn : AFn) (args : List V) (h : Heap) : Option (V × Heap) :=
  match execA cf N fn.body (Env.init args fn.ntmps) h with
  | some (.normal, e, h') => (ressA e h' fn.results).map fun vs => (pack vs, h')
  | some (.ret, e, h') => (ressA e h' fn.results).map fun vs => (pack vs, h')
  | _ => none

/-- One function more, by its code. -/
theorem answers_body {f : Nat} {g : Func} {fn : AFn} {N : Nat} (hm : P.follows .mixedOrders = true) (hcf : Answers P cf) (hg : P.funcs[f]? = some g) (hc : compFn P g = some fn)
    {args : List V} {v : V} (hr : bodyA cf N fn args h = some (v, h')) (hG : P.globals.size ≤ Z.G) (r : Rel Z ρ h w) {us : Array Value} (ha : VRL ρ args us.toList) :
    (∃ fn, P.funcs[f]? = some fn ∧ (fn.name == "runtime.NumGoroutine") = false ∧ fn.body.isSome = true) ∧
    Calls P f us w fun e w' => ∃ u ρ', e = .returned u ∧ ρ.le ρ' ∧ Rel Z ρ' h' w' ∧ VR ρ' v u := by
  unfold compFn at hc
  split at hc
  · cases hc
  · rename_i hname
    split at hc
    · rename_i c hbody
      split at hc
      · rename_i b rs h1 h2
        have hc := Option.some.inj hc
        subst hc
        refine ⟨⟨g, hg, by simpa using hname, by rw [hbody]; rfl⟩, ?_⟩
        have hst : St Z ρ (Env.init args g.ntmps) h { tmps := us ++ Array.replicate (g.ntmps - us.size) Go.undef, defers := [] } w := ⟨⟨ρ, Ren.le_refl ρ, r, ER.init ha⟩, rfl⟩
        have fin : ∀ {e' : Env} {h1 : Heap} {a' : Act} {w' : World}, ((ressA e' h1 rs).map fun vs => (pack vs, h1)) = some (v, h') → St Z ρ e' h1 a' w' →
            a'.defers = [] ∧ ∃ v', (results g a'.tmps).run P w' = .ok v' w' ∧ (fun (e : Ending) (w' : World) => ∃ u ρ', e = .returned u ∧ ρ.le ρ' ∧ Rel Z ρ' h' w' ∧ VR ρ' v u) (Ending.returned v') w' := by
          intro e' h1 a' w' hres hst'
          simp only [Option.map_eq_some_iff, Prod.mk.injEq] at hres
          obtain ⟨vs, hvs, rfl, rfl⟩ := hres
          obtain ⟨⟨ρ', hle, r', he'⟩, hd⟩ := hst'
          obtain ⟨u, k1, k2⟩ := results_ok h2 r' he' hvs
          exact ⟨hd, u, k1, u, ρ', rfl, hle, r', k2⟩
        unfold bodyA at hr
        split at hr
        · rename_i e1 h1' hex
          exact calls_of_wp hg hbody (exec_wp hG hcf hm h1 hex hst _ (fun a' w' hst' => fin hr hst'))
        · rename_i e1 h1' hex
          exact calls_of_wp hg hbody (exec_wp hG hcf hm h1 hex hst _ (fun a' w' hst' => fin hr hst'))
        · cases hr
      · cases hc
    · cases hc

/-- No function at all. -/
def none0 : ACall := fun _ _ _ => none

theorem answers_none : Answers P none0 := fun f args h v h' hr => by simp [none0] at hr

/-- One function told by a summary. -/
def withSum (cf : ACall) (f : Nat) (spec : List V → Heap → Option (V × Heap)) : ACall := fun f' args h => if f' = f then spec args h else cf f' args h

/-- A summary stands, if the body's run gives what it says, in a heap that holds no less. -/
theorem answers_sum {f : Nat} {g : Func} {fn : AFn} {N : Nat} {spec : List V → Heap → Option (V × Heap)} (hm : P.follows .mixedOrders = true) (hcf : Answers P cf) (hg : P.funcs[f]? = some g) (hc : compFn P g = some fn)
    (hs : ∀ args h v h', spec args h = some (v, h') → h.get h.next = none → ∃ h2, bodyA cf N fn args h = some (v, h2) ∧ h2.next ≤ h'.next ∧ ∀ b B, h'.get b = some B → h2.get b = some B) : Answers P (withSum cf f spec) := by
  intro f' args h v h' hr Z ρ w us hG r ha
  unfold withSum at hr
  split at hr
  · rename_i hf
    subst hf
    obtain ⟨h2, k1, k2, k3⟩ := hs args h v h' hr r.get_next
    obtain ⟨q1, q2⟩ := answers_body hm hcf hg hc k1 hG r ha
    refine ⟨q1, q2.mono ?_⟩
    rintro e w' ⟨u, ρ', rfl, p1, p2, p3⟩
    exact ⟨u, ρ', rfl, p1, p2.forget k2 k3, p3⟩
  · exact hcf f' args h v h' hr Z ρ w us hG r ha

/-- A function without parameters that gives true, from every world. -/
theorem answers_true {f : Nat} (hcf : Answers P cf) (hf : ∃ fn, P.funcs[f]? = some fn ∧ (fn.name == "runtime.NumGoroutine") = false ∧ fn.body.isSome = true)
    (hc : ∀ W, Calls P f #[] W fun e W' => e = .returned (.bool true) ∧ RowKit.Below W.heap.size W W') :
    Answers P (withSum cf f fun args h => match args with
      | [] => some (.bool true, h)
      | _ => none) := by
  intro f' args h v h' hr Z ρ w us hG r ha
  unfold withSum at hr
  split at hr
  · rename_i hff
    subst hff
    dsimp only at hr
    split at hr
    · simp only [Option.some.injEq, Prod.mk.injEq] at hr
      obtain ⟨rfl, rfl⟩ := hr
      simp only [VRL] at ha
      have hus : us = #[] := Array.toList_inj.1 ha
      subst hus
      refine ⟨hf, (hc w).mono ?_⟩
      rintro e w' ⟨rfl, hb⟩
      exact ⟨.bool true, ρ, rfl, Ren.le_refl ρ, r.behind hb, VR.mk_bool⟩
    · cases hr
  · exact hcf f' args h v h' hr Z ρ w us hG r ha

/-- A law, by the run of its body. -/
theorem law_body {f : Nat} {g : Func} {fn : AFn} {N : Nat} {vs : List V} {us : Array Value} (hm : P.follows .mixedOrders = true) (hcf : Answers P cf) (hg : P.funcs[f]? = some g) (hc : compFn P g = some fn)
    (r : Rel (base0 P W) ρ h W) (hv : VRL ρ vs us.toList) (hr : ∃ h', bodyA cf N fn vs h = some (.bool true, h')) : Calls P f us W fun e W' => e = .returned (.bool true) ∧ RowKit.Below W.heap.size W W' := by
  obtain ⟨h', hrun⟩ := hr
  obtain ⟨_, hc⟩ := answers_body hm hcf hg hc hrun (Nat.le_refl _) r hv
  refine hc.mono ?_
  rintro e W' ⟨u, ρ', rfl, _, r', hv'⟩
  exact ⟨by rw [hv'.bool_inv], r'.below rfl rfl⟩

end Go.Proofs.YthfbefjmenddkaaDoorA
