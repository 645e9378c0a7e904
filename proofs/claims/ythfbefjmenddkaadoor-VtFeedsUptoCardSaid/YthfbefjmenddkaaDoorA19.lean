/- Rows of operations, code, functions: the abstract machine's run is the model's. -/
import Derived.Test.YthfbefjmenddkaaDoorA18
namespace Go.Proofs.YthfbefjmenddkaaDoorA
open Go

variable {P : Program} {Z : Base} {ρ : Ren} {h h' : Heap} {w : World} {a : Act} {e e' : Env} {v : V} {cf : ACall}

/-- What a call owes. -/
def Answers (P : Program) (cf : ACall) : Prop :=
  ∀ f args h v h', cf f args h = some (v, h') → ∀ (Z : Base) (ρ : Ren) (w : World) (us : Array Value), P.globals.size ≤ Z.G → Rel Z ρ h w → VRL ρ args us.toList →
    (∃ fn, P.funcs[f]? = some fn ∧ (fn.name == "runtime.NumGoroutine") = false ∧ fn.body.isSome = true) ∧
    Calls P f us w fun e w' => ∃ u ρ', e = .returned u ∧ ρ.le ρ' ∧ Rel Z ρ' h' w' ∧ VR ρ' v u

/-- The state that answers. -/
structure St (Z : Base) (ρ₀ : Ren) (e : Env) (h : Heap) (a : Act) (w : World) : Prop where
  ex : ∃ ρ, ρ₀.le ρ ∧ Rel Z ρ h w ∧ ER ρ e a.tmps
  defers : a.defers = []

theorem put_ok {ρ₀ : Ren} (hr : ρ₀.le ρ) (r : Rel Z ρ h w) (he : ER ρ e a.tmps) (hd : a.defers = []) {u : Value} (hv : VR ρ v u) (dst : Option Nat) : St Z ρ₀ (put e dst v) h (a.put dst u) w := by
  cases dst with
  | none => exact ⟨⟨ρ, hr, r, he⟩, hd⟩
  | some d => exact ⟨⟨ρ, hr, r, he.put hv d⟩, hd⟩

theorem vr_bool {u : Value} {b : Bool} (hv : VR ρ v u) (hu : u = .bool b) : v = .bool b := by
  subst hu
  cases v with
  | bool b' => have := hv.bool_inv; cases this; rfl
  | int _ _ => have := hv.int_inv; cases this
  | str _ => obtain ⟨_, h1, _⟩ := hv.str_inv; cases h1
  | nilptr => simp only [VR] at hv; cases hv
  | ptr _ _ => obtain ⟨_, _, h1⟩ := hv.ptr_inv; cases h1
  | nilslice => simp only [VR] at hv; cases hv
  | slice _ _ _ _ => obtain ⟨_, _, _, _, _, _, _, _, h1⟩ := hv.slice_inv; cases h1
  | func _ _ _ => simp only [VR] at hv; obtain ⟨_, _, h1, _⟩ := hv; cases h1
  | nilfunc => simp only [VR] at hv; cases hv
  | iface _ _ => simp only [VR] at hv; obtain ⟨_, h1, _⟩ := hv; cases h1
  | niliface => simp only [VR] at hv; cases hv
  | agg _ => obtain ⟨_, h1, _⟩ := hv.agg_inv; cases h1
  | tuple _ => obtain ⟨_, h1, _⟩ := hv.tuple_inv; cases h1

theorem wanted_ok {ops : Array Oper} {o : Oper} {g : Option (Nat × Bool)} (hg : compGuard ops.toList o.guard = some g) (he : ER ρ e a.tmps) : Region.wanted o (yielded ops a.tmps) = wantedA g e := by
  unfold Region.wanted
  cases hgd : o.guard with
  | none => rw [hgd] at hg; simp only [compGuard, Option.some.injEq] at hg; subst hg; rfl
  | some jw =>
    obtain ⟨j, want⟩ := jw
    rw [hgd] at hg
    simp only [compGuard] at hg
    split at hg
    · rename_i t ht
      have hg := Option.some.inj hg
      subst hg
      rw [Array.getElem?_toList] at ht
      simp only [wantedA, yielded, ht, Option.bind_some]
      have hv := he.2 t
      have hg : a.tmps.getD t undef = a.tmps[t]?.getD undef := by simp [Array.getD_eq_getD_getElem?]
      rw [hg] at hv
      generalize e.at t = x at hv ⊢
      cases hu : a.tmps[t]? with
      | none =>
        rw [hu] at hv
        have hx : ∀ b, x ≠ .bool b := by
          rintro b rfl
          have := hv.bool_inv
          cases this
        cases x <;> first
          | rfl
          | exact absurd rfl (hx _)
      | some u =>
        rw [hu] at hv
        simp only [Option.getD_some] at hv
        by_cases hb : ∃ b, x = .bool b
        · obtain ⟨b, rfl⟩ := hb
          have := hv.bool_inv
          subst this
          simp
        · have hne : ∀ b, u ≠ .bool b := fun b hu => hb ⟨b, vr_bool hv hu⟩
          cases x <;> first
            | (cases u <;> first
                | rfl
                | exact absurd rfl (hne _))
            | exact absurd ⟨_, rfl⟩ hb
    · cases hg

theorem comp_call {op : Op} {f : Opd} {args : List Opd} (h : compOp P op = some (.call f args)) : ∃ fx cargs argTypes, op = .call { callee := .value fx, args := cargs, argTypes } ∧ cOpd P fx = some f ∧ cOpds P cargs.toList = some args := by
  unfold compOp at h
  split at h <;> (repeat' split at h) <;> first
    | (cases h; done)
    | (simp only [Option.map_eq_some_iff] at h; obtain ⟨_, _, hh⟩ := h; cases hh; done)
    | (rename_i h1 h2; have h := Option.some.inj h; cases h; exact ⟨_, _, _, rfl, h1, h2⟩)

/-- One operation, in the walk's words. -/
theorem step_wp {ρ₀ : Ren} {ops : Array Oper} {o : Oper} {ao : AOper} (hG : P.globals.size ≤ Z.G) (hcf : Answers P cf) (hc : compOper P ops.toList o = some ao) (hs : stepA cf ao e h = some (e', h')) (hst : St Z ρ₀ e h a w)
    {K : Act → World → Prop} {Q : Exit → Act → World → Prop} (hK : ∀ a' w', St Z ρ₀ e' h' a' w' → K a' w') :
    if Region.wanted o (yielded ops a.tmps) then o.wp P a w K Q else K (a.put o.dst undef) w := by
  obtain ⟨⟨ρ, hle, r, he⟩, hd⟩ := hst
  unfold compOper at hc
  split at hc
  · rename_i op g hop hg
    have hc := Option.some.inj hc
    subst hc
    rw [wanted_ok hg he]
    rw [stepA_eq] at hs
    simp only at hs
    split at hs
    · rename_i hw
      rw [if_pos hw]
      split at hs
      · rename_i v h1 ha
        simp only [Option.some.injEq, Prod.mk.injEq] at hs
        obtain ⟨rfl, rfl⟩ := hs
        by_cases hcall : isCall op = false
        · obtain ⟨u, w', ρ', k1, k2, k3, k4⟩ := does_op hG hop hcall ha r he
          have hfin := hK _ _ (put_ok (dst := o.dst) (Ren.le_trans hle k2) k3 (he.mono k2) hd k4)
          rcases k1 with k1 | ⟨k1, rfl⟩
          · unfold Oper.wp; rw [k1]; exact hfin
          · unfold Oper.wp; rw [k1]; exact hfin
        · cases op <;> first
            | exact absurd rfl hcall
            | skip
          rename_i f' args'
          obtain ⟨fx, cargs, argTypes, hoo, h2, h3⟩ := comp_call hop
          have vf := cOpd_ok hG h2 r he
          have va := cOpds_ok hG r he h3
          simp only [aop] at ha
          split at ha
          · rename_i fid pre post hfv
            rw [hfv] at vf
            simp only [VR] at vf
            obtain ⟨ps, qs, hfu, vp, vq⟩ := vf
            have hargs : VRL ρ (pre ++ args'.map (·.ev e) ++ post) ((ps ++ cargs.map a.eval) ++ qs).toList := by
              rw [Array.toList_append, Array.toList_append, Array.toList_map]
              exact (vp.append va).append vq
            obtain ⟨⟨fn, g1, g2, g3⟩, hcalls⟩ := hcf _ _ _ _ _ ha Z ρ w _ hG r hargs
            have hrun : (execOp a.eval o).run P w = .ok (.enter fid ((ps ++ cargs.map a.eval) ++ qs)) w := by
              unfold execOp
              simp only [hoo, resolve, hfu, Deferred.ofValue, Sem.run_bind, Sem.run_pure, Result.andThen_ok, invoke, callFunc, run_program, g1, g2, Bool.false_eq_true, if_false]
              cases hb : fn.body with
              | none => rw [hb] at g3; cases g3
              | some c => simp
            unfold Oper.wp
            rw [hrun]
            show Calls P fid _ w _
            refine hcalls.mono ?_
            rintro en w' ⟨u, ρ', rfl, q1, q2, q3⟩
            exact hK _ _ (put_ok (dst := o.dst) (Ren.le_trans hle q1) q2 (he.mono q1) hd q3)
          · cases ha
      · cases hs
    · rename_i hw
      rw [if_neg hw]
      simp only [Option.some.injEq, Prod.mk.injEq] at hs
      obtain ⟨rfl, rfl⟩ := hs
      exact hK _ _ (put_ok (dst := o.dst) hle r he hd VR.undef)
  · cases hc

theorem steps_wp {ρ₀ : Ren} {ops : Array Oper} (hG : P.globals.size ≤ Z.G) (hcf : Answers P cf) {Q : Exit → Act → World → Prop} : ∀ {l : List Oper} {al : List AOper} {e : Env} {h : Heap} {a : Act} {w : World}, compOpers P ops.toList l = some al → stepsA cf al e h = some (e', h') → St Z ρ₀ e h a w →
    (∀ a' w', St Z ρ₀ e' h' a' w' → Q .normal a' w') → wpList P ops Q l a w
  | [], al, e, h, a, w, hc, hs, hst, hQ => by
    simp only [compOpers, Option.some.injEq] at hc
    subst hc
    simp only [stepsA, Option.some.injEq, Prod.mk.injEq] at hs
    obtain ⟨rfl, rfl⟩ := hs
    exact wpList_nil (hQ _ _ hst)
  | o :: l, al, e, h, a, w, hc, hs, hst, hQ => by
    simp only [compOpers] at hc
    split at hc
    · rename_i ao al' h1 h2
      have hc := Option.some.inj hc
      subst hc
      simp only [stepsA] at hs
      split at hs
      · rename_i e1 h1' hs1
        exact wpList_step fun K hK => step_wp hG hcf h1 hs1 hst (fun a' w' hst' => hK _ _ (steps_wp hG hcf h2 hs hst' hQ))
      · cases hs
    · cases hc

def toExit : AExit → Exit
  | .normal => .normal
  | .exit id => .exit id
  | .ret => .ret

end Go.Proofs.YthfbefjmenddkaaDoorA
