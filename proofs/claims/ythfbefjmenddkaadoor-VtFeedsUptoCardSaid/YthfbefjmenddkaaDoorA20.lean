/- Code and functions: the abstract machine's run is the model's. -/
import Derived.Test.YthfbefjmenddkaaDoorA42
namespace Go.Proofs.YthfbefjmenddkaaDoorA
open Go

variable {P : Program} {Z : Base} {ρ : Ren} {h h' : Heap} {w : World} {a : Act} {e e' : Env} {v : V} {cf : ACall}

theorem cond_bool {c : Operand} {c' : Opd} {b : Bool} (hG : P.globals.size ≤ Z.G) (hc : cOpd P c = some c') (r : Rel Z ρ h w) (he : ER ρ e a.tmps) (hv : c'.ev e = .bool b) : a.eval c = .bool b := by
  have := cOpd_ok hG hc r he
  rw [hv] at this
  exact this.bool_inv

theorem iter_wp {ρ₀ : Ren} {f : Env → Heap → Option (AExit × Env × Heap)} {c : Code} {Q : Exit → Act → World → Prop} {x : AExit}
    (hb : ∀ {e h a w x e' h'}, f e h = some (x, e', h') → St Z ρ₀ e h a w → ∀ Q : Exit → Act → World → Prop, (∀ a' w', St Z ρ₀ e' h' a' w' → Q (toExit x) a' w') → c.wp P Q a w) :
    ∀ {n : Nat} {e : Env} {h : Heap} {a : Act} {w : World}, iterA f n e h = some (x, e', h') → St Z ρ₀ e h a w → (∀ a' w', St Z ρ₀ e' h' a' w' → Q (toExit x) a' w') → x ≠ .normal → Code.rounds P c Q n a w
  | 0, e, h, a, w, hi, _, _, _ => by simp [iterA] at hi
  | n + 1, e, h, a, w, hi, hst, hQ, hx => by
    simp only [iterA] at hi
    split at hi
    · rename_i e1 h1 hf
      exact hb hf hst _ (fun a' w' hst' => iter_wp hb hi hst' hQ hx)
    · rename_i hne
      rw [rounds_succ]
      refine hb hi hst _ (fun a' w' hst' => ?_)
      have := hQ a' w' hst'
      cases x with
      | normal => exact absurd rfl hx
      | exit id => exact this
      | ret => exact this

theorem iter_not_normal {f : Env → Heap → Option (AExit × Env × Heap)} : ∀ {n : Nat} {e : Env} {h : Heap} {x : AExit}, iterA f n e h = some (x, e', h') → x ≠ .normal
  | 0, e, h, x, hi => by simp [iterA] at hi
  | n + 1, e, h, x, hi => by
    simp only [iterA] at hi
    split at hi
    · exact iter_not_normal hi
    · rename_i hne
      intro hx
      subst hx
      exact hne _ _ hi

theorem exec_wp {ρ₀ : Ren} {N : Nat} (hG : P.globals.size ≤ Z.G) (hcf : Answers P cf) (hm : P.follows .mixedOrders = true) : ∀ {c : Code} {ac : ACode}, compCode P c = some ac → ∀ {e h a w x e' h'}, execA cf N ac e h = some (x, e', h') → St Z ρ₀ e h a w →
    ∀ Q : Exit → Act → World → Prop, (∀ a' w', St Z ρ₀ e' h' a' w' → Q (toExit x) a' w') → c.wp P Q a w
  | .skip, ac, hc, e, h, a, w, x, e', h', hs, hst, Q, hQ => by
    simp only [compCode, Option.some.injEq] at hc
    subst hc
    simp only [execA, Option.some.injEq, Prod.mk.injEq] at hs
    obtain ⟨rfl, rfl, rfl⟩ := hs
    exact wp_skip (hQ _ _ hst)
  | .region id ops false, ac, hc, e, h, a, w, x, e', h', hs, hst, Q, hQ => by
    simp only [compCode, Option.map_eq_some_iff] at hc
    obtain ⟨xs, hxs, rfl⟩ := hc
    simp only [execA] at hs
    split at hs
    · rename_i e1 h1 hs1
      simp only [Option.some.injEq, Prod.mk.injEq] at hs
      obtain ⟨rfl, rfl, rfl⟩ := hs
      exact wp_region_list (steps_wp hG hcf hxs hs1 hst hQ)
    · cases hs
  | .region id ops true, ac, hc, e, h, a, w, x, e', h', hs, hst, Q, hQ => by
    simp only [compCode] at hc
    split at hc
    · rename_i xs hxs
      split at hc
      · rename_i hp
        have hc := Option.some.inj hc
        subst hc
        have hx : x = .normal := by
          simp only [execA] at hs
          split at hs
          · split at hs
            · simp only [Option.some.injEq, Prod.mk.injEq] at hs; exact hs.1.symm
            · cases hs
          · cases hs
        subst hx
        exact any_wp N hG hcf hm hxs hp hs hst hQ
      · split at hc
        · rename_i hp
          have hc := Option.some.inj hc
          subst hc
          have hx : x = .normal := by
            simp only [execA] at hs
            split at hs
            · split at hs
              · simp only [Option.some.injEq, Prod.mk.injEq] at hs; exact hs.1.symm
              · cases hs
            · cases hs
          subst hx
          exact any_wpF N hG hcf hm hxs rfl hp hs hst hQ
        · cases hc
    · cases hc
  | .seq c d, ac, hc, e, h, a, w, x, e', h', hs, hst, Q, hQ => by
    simp only [compCode] at hc
    split at hc
    · rename_i ac1 ac2 h1 h2
      have hc := Option.some.inj hc
      subst hc
      simp only [execA] at hs
      split at hs
      · rename_i e1 h1' hs1
        exact wp_seq (exec_wp hG hcf hm h1 hs1 hst _ (fun a' w' hst' => exec_wp hG hcf hm h2 hs hst' Q hQ))
      · rename_i hne
        refine wp_seq (exec_wp hG hcf hm h1 hs hst _ (fun a' w' hst' => ?_))
        have := hQ a' w' hst'
        cases x with
        | normal => exact absurd hs (hne _ _)
        | exit id => exact this
        | ret => exact this
    · cases hc
  | .cond c p q, ac, hc, e, h, a, w, x, e', h', hs, hst, Q, hQ => by
    simp only [compCode] at hc
    split at hc
    · rename_i c' p' q' h1 h2 h3
      have hc := Option.some.inj hc
      subst hc
      simp only [execA] at hs
      have hst' := hst
      obtain ⟨⟨ρ, hle, r, he⟩, hd⟩ := hst'
      split at hs
      · rename_i hv
        exact wp_cond_true (cond_bool hG h1 r he hv) (exec_wp hG hcf hm h2 hs hst Q hQ)
      · rename_i hv
        exact wp_cond_false (cond_bool hG h1 r he hv) (exec_wp hG hcf hm h3 hs hst Q hQ)
      · cases hs
    · cases hc
  | .block id c, ac, hc, e, h, a, w, x, e', h', hs, hst, Q, hQ => by
    simp only [compCode, Option.map_eq_some_iff] at hc
    obtain ⟨c', h1, rfl⟩ := hc
    simp only [execA] at hs
    split at hs
    · rename_i id' e1 h1' hs1
      refine wp_block (exec_wp hG hcf hm h1 hs1 hst _ (fun a' w' hst' => ?_))
      split at hs
      · rename_i hid
        simp only [Option.some.injEq, Prod.mk.injEq] at hs
        obtain ⟨rfl, rfl, rfl⟩ := hs
        simp only [toExit, Exit.inBlock, hid, if_true]
        exact hQ _ _ hst'
      · rename_i hid
        simp only [Option.some.injEq, Prod.mk.injEq] at hs
        obtain ⟨rfl, rfl, rfl⟩ := hs
        simp only [toExit, Exit.inBlock, hid, if_false]
        exact hQ _ _ hst'
    · rename_i hne
      refine wp_block (exec_wp hG hcf hm h1 hs hst _ (fun a' w' hst' => ?_))
      have := hQ a' w' hst'
      cases x with
      | normal => exact this
      | exit id => exact absurd hs (hne _ _ _)
      | ret => exact this
  | .loop c, ac, hc, e, h, a, w, x, e', h', hs, hst, Q, hQ => by
    simp only [compCode, Option.map_eq_some_iff] at hc
    obtain ⟨c', h1, rfl⟩ := hc
    simp only [execA] at hs
    exact wp_loop_rounds N (iter_wp (fun hf hst' Q' hQ' => exec_wp hG hcf hm h1 hf hst' Q' hQ') hs hst hQ (iter_not_normal hs))
  | .exit id, ac, hc, e, h, a, w, x, e', h', hs, hst, Q, hQ => by
    simp only [compCode, Option.some.injEq] at hc
    subst hc
    simp only [execA, Option.some.injEq, Prod.mk.injEq] at hs
    obtain ⟨rfl, rfl, rfl⟩ := hs
    exact wp_exit (hQ _ _ hst)
  | .label l, ac, hc, e, h, a, w, x, e', h', hs, hst, Q, hQ => by
    simp only [compCode, Option.some.injEq] at hc
    subst hc
    simp only [execA, Option.some.injEq, Prod.mk.injEq] at hs
    obtain ⟨rfl, rfl, rfl⟩ := hs
    exact wp_label (hQ _ _ hst)
  | .ret, ac, hc, e, h, a, w, x, e', h', hs, hst, Q, hQ => by
    simp only [compCode, Option.some.injEq] at hc
    subst hc
    simp only [execA, Option.some.injEq, Prod.mk.injEq] at hs
    obtain ⟨rfl, rfl, rfl⟩ := hs
    exact wp_ret (hQ _ _ hst)
  | .rangeFunc .., ac, hc, e, h, a, w, x, e', h', hs, hst, Q, hQ => by simp [compCode] at hc
  | .scope .., ac, hc, e, h, a, w, x, e', h', hs, hst, Q, hQ => by simp [compCode] at hc
  | .goto .., ac, hc, e, h, a, w, x, e', h', hs, hst, Q, hQ => by simp [compCode] at hc
  | .refuse .., ac, hc, e, h, a, w, x, e', h', hs, hst, Q, hQ => by simp [compCode] at hc

def resF (tmps : Array Value) : ResultVar → Sem Value
  | .tmp t => Pure.pure (tmps.getD t undef)
  | .cell b t => do loadVar t (← asAddr (tmps.getD b undef))

theorem results_eq (fn : Func) (tmps : Array Value) : results fn tmps = (do
  let vs ← fn.results.mapM (resF tmps)
  Pure.pure (if h : vs.size = 1 then vs[0] else .tuple vs)) := rfl

theorem res_ok {r0 : ResultVar} {x : ARes} (hc : compRes P [r0] = some [x]) (r : Rel Z ρ h w) (he : ER ρ e a.tmps) (hv : resA e h x = some v) :
    ∃ u, (resF a.tmps r0).run P w = .ok u w ∧ VR ρ v u := by
  cases r0 with
  | tmp t =>
    simp only [compRes, Option.map_some, Option.some.injEq, List.cons.injEq, and_true] at hc
    subst hc
    simp only [resA, Option.some.injEq] at hv
    subst hv
    refine ⟨_, rfl, ?_⟩
    exact he.2 t
  | cell b t =>
    simp only [compRes] at hc
    have vx := he.2 b
    split at hc
    · rename_i n rs' h1 h2 h3
      simp only [Option.some.injEq, List.cons.injEq] at hc
      obtain ⟨rfl, _⟩ := hc
      simp only [resA] at hv
      split at hv
      · rename_i bb o hxv
        rw [hxv] at vx
        simp only [Option.map_eq_some_iff] at hv
        obtain ⟨cs, hr, rfl⟩ := hv
        obtain ⟨L, hL, hxs⟩ := vx.ptr_inv
        obtain ⟨us, _, hvv, hl⟩ := r.loadCells (P := P) hL hr
        refine ⟨.agg us.toArray, ?_, by simp only [VR]; exact ⟨_, rfl, by simpa using hvv⟩⟩
        show (do loadVar t (← asAddr (a.tmps.getD b undef)) : Sem Value).run P w = _
        rw [hxs]
        simp only [asAddr, Sem.run_bind, Sem.run_pure, Result.andThen_ok, loadVar, run_aggA h1, if_true, run_sizeA h2, hl]
      · cases hv
    · rename_i rs' h1 h3
      simp only [Option.some.injEq, List.cons.injEq] at hc
      obtain ⟨rfl, _⟩ := hc
      simp only [resA] at hv
      split at hv
      · rename_i bb o hxv
        rw [hxv] at vx
        split at hv
        · rename_i v' hr
          have hv := Option.some.inj hv
          subst hv
          obtain ⟨L, hL, hxs⟩ := vx.ptr_inv
          obtain ⟨u, hvv, hl⟩ := r.load (P := P) hL hr
          refine ⟨u, ?_, hvv⟩
          show (do loadVar t (← asAddr (a.tmps.getD b undef)) : Sem Value).run P w = _
          rw [hxs]
          simp only [asAddr, Sem.run_bind, Sem.run_pure, Result.andThen_ok, loadVar, run_aggA h1, Bool.false_eq_true, if_false]
          exact hl
        · cases hv
      · cases hv
    · cases hc


theorem compRes_cons {r0 : ResultVar} {rs : List ResultVar} {xs : List ARes} (hc : compRes P (r0 :: rs) = some xs) : ∃ x xs', xs = x :: xs' ∧ compRes P [r0] = some [x] ∧ compRes P rs = some xs' := by
  cases r0 with
  | tmp t =>
    simp only [compRes, Option.map_eq_some_iff] at hc
    obtain ⟨ys, hys, rfl⟩ := hc
    exact ⟨_, ys, rfl, by simp [compRes], hys⟩
  | cell b t =>
    simp only [compRes] at hc
    split at hc
    · rename_i n ys h1 h2 h3
      have hc := Option.some.inj hc
      subst hc
      exact ⟨_, ys, rfl, by simp only [compRes, h1, h2], h3⟩
    · rename_i ys h1 h3
      have hc := Option.some.inj hc
      subst hc
      refine ⟨_, ys, rfl, ?_, h3⟩
      simp only [compRes, h1]
    · cases hc

theorem ress_ok (r : Rel Z ρ h w) (he : ER ρ e a.tmps) : ∀ {rs : List ResultVar} {xs : List ARes} {vs : List V}, compRes P rs = some xs → ressA e h xs = some vs →
    ∃ us, (rs.mapM (resF a.tmps)).run P w = .ok us w ∧ VRL ρ vs us
  | [], xs, vs, hc, hv => by
    simp only [compRes, Option.some.injEq] at hc
    subst hc
    simp only [ressA, Option.some.injEq] at hv
    subst hv
    exact ⟨[], rfl, VRL.nil⟩
  | r0 :: rs, xs, vs, hc, hv => by
    obtain ⟨x, xs', rfl, h1, h2⟩ := compRes_cons hc
    simp only [ressA] at hv
    split at hv
    · rename_i v' vs' hv1 hv2
      have hv := Option.some.inj hv
      subst hv
      obtain ⟨u, k1, k2⟩ := res_ok (P := P) h1 r he hv1
      obtain ⟨us, k3, k4⟩ := ress_ok r he h2 hv2
      refine ⟨u :: us, ?_, VRL.cons k2 k4⟩
      rw [List.mapM_cons]
      simp only [Sem.run_bind]
      rw [k1]
      simp only [Result.andThen_ok, k3, Sem.run_pure]
    · cases hv

theorem pack_ok {vs : List V} {us : List Value} (hv : VRL ρ vs us) : VR ρ (pack vs) (if h : us.toArray.size = 1 then us.toArray[0] else .tuple us.toArray) := by
  have hl := hv.length
  match vs, us, hl with
  | [v], [u], _ =>
    simp only [VRL] at hv
    obtain ⟨x, xs, e1, h1, _⟩ := hv
    have e1 := (List.cons.inj e1).1
    subst e1
    simpa [pack] using h1
  | [], [], _ => simp only [pack]; simp [VR, VRL]
  | v :: v2 :: vs, u :: u2 :: us, _ =>
    rw [dif_neg (by simp)]
    simp only [pack, VR]
    exact ⟨_, rfl, by simpa using hv⟩

theorem results_ok {fn : Func} {xs : List ARes} {vs : List V} (hc : compRes P fn.results.toList = some xs) (r : Rel Z ρ h w) (he : ER ρ e a.tmps) (hv : ressA e h xs = some vs) :
    ∃ u, (results fn a.tmps).run P w = .ok u w ∧ VR ρ (pack vs) u := by
  obtain ⟨us, h1, h2⟩ := ress_ok (P := P) r he hc hv
  refine ⟨_, ?_, pack_ok h2⟩
  rw [results_eq, Array.mapM_eq_mapM_toList]
  simp only [Sem.run_bind, Sem.run_map, Sem.run_pure]
  rw [h1]
  rfl

/-- The table holds functions of the program. -/
def Holds (P : Program) (tab : Nat → Option AFn) : Prop := ∀ f fn, tab f = some fn → ∃ g, P.funcs[f]? = some g ∧ compFn P g = some fn

theorem answers_run {tab : Nat → Option AFn} {N : Nat} (hm : P.follows .mixedOrders = true) (ht : Holds P tab) : ∀ n, Answers P (runA tab N n)
  | 0 => fun f args h v h' hr => by simp [runA] at hr
  | n + 1 => by
    intro f args h v h' hr Z ρ w us hG r ha
    simp only [runA] at hr
    split at hr
    · cases hr
    · rename_i fn hfn
      obtain ⟨g, hg, hcomp⟩ := ht f fn hfn
      unfold compFn at hcomp
      split at hcomp
      · cases hcomp
      · rename_i hname
        split at hcomp
        · rename_i c hbody
          split at hcomp
          · rename_i b rs h1 h2
            have hcomp := Option.some.inj hcomp
            subst hcomp
            refine ⟨⟨g, hg, by simpa using hname, by rw [hbody]; rfl⟩, ?_⟩
            have hst : St Z ρ (Env.init args g.ntmps) h { tmps := us ++ Array.replicate (g.ntmps - us.size) Go.undef, defers := [] } w := by
              exact ⟨⟨ρ, Ren.le_refl ρ, r, ER.init ha⟩, rfl⟩
            have fin : ∀ {e' : Env} {h1 : Heap} {a' : Act} {w' : World}, ((ressA e' h1 rs).map fun vs => (pack vs, h1)) = some (v, h') → St Z ρ e' h1 a' w' →
                a'.defers = [] ∧ ∃ v', (results g a'.tmps).run P w' = .ok v' w' ∧ (fun (e : Ending) (w' : World) => ∃ u ρ', e = .returned u ∧ ρ.le ρ' ∧ Rel Z ρ' h' w' ∧ VR ρ' v u) (Ending.returned v') w' := by
              intro e' h1 a' w' hres hst'
              simp only [Option.map_eq_some_iff, Prod.mk.injEq] at hres
              obtain ⟨vs, hvs, rfl, rfl⟩ := hres
              obtain ⟨⟨ρ', hle, r', he'⟩, hd⟩ := hst'
              obtain ⟨u, k1, k2⟩ := results_ok h2 r' he' hvs
              exact ⟨hd, u, k1, u, ρ', rfl, hle, r', k2⟩
            split at hr
            · rename_i e1 h1' hex
              exact calls_of_wp hg hbody (exec_wp hG (answers_run hm ht n) hm h1 hex hst _ (fun a' w' hst' => fin hr hst'))
            · rename_i e1 h1' hex
              exact calls_of_wp hg hbody (exec_wp hG (answers_run hm ht n) hm h1 hex hst _ (fun a' w' hst' => fin hr hst'))
            · cases hr
          · cases hcomp
        · cases hcomp

end Go.Proofs.YthfbefjmenddkaaDoorA
