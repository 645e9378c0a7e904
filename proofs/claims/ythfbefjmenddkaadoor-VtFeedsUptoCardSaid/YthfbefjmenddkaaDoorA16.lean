/- Every operation but the call: all of them in one law. -/
import Derived.Test.YthfbefjmenddkaaDoorA15
namespace Go.Proofs.YthfbefjmenddkaaDoorA
open Go

variable {P : Program} {Z : Base} {ρ : Ren} {h h' : Heap} {w : World} {a : Act} {e : Env} {v : V} {cf : ACall}

theorem dn_binOp {op : BinOp} {t y1 : TypeId} {x y : Operand} {ao : AOp} (hG : P.globals.size ≤ Z.G) (r : Rel Z ρ h w) (he : ER ρ e a.tmps) (hc : compOp P (.binOp op t x y y1) = some ao)
    (ha : aop cf ao e h = some (v, h')) : Does P Z ρ (do eqGuard op t x y (a.eval x) (a.eval y); binOp op t (a.eval x) (a.eval y)) w v h' := by
  simp only [compOp] at hc
  split at hc
  · rename_i x' y' hx hy
    have vx := cOpd_ok hG hx r he
    have vy := cOpd_ok hG hy r he
    split at hc
    · have hc := Option.some.inj hc
      subst hc
      simp only [aop, Option.map_eq_some_iff, Prod.mk.injEq] at ha
      obtain ⟨v', hb, rfl, rfl⟩ := ha
      obtain ⟨u, h1, h2⟩ := run_bin (P := P) (w := w) t vx vy hb
      refine Does.pure (u := u) ?_ r h2
      simp only [Sem.run_bind, run_eqGuard_bin (P := P) (w := w) t x y vx vy hb, Result.andThen_ok, h1]
    · split at hc
      · rename_i hop
        have hneg : ∀ {b : Bool}, (Op.equal t (a.eval x) (a.eval y)).run P w = .ok b w → (∀ op, (eqGuard op t x y (a.eval x) (a.eval y)).run P w = .ok () w) → (∀ k n k' n', ¬ (a.eval x = .int k n ∧ a.eval y = .int k' n')) → (∀ s s', ¬ (a.eval x = .string s ∧ a.eval y = .string s')) →
            (∀ k n k' n', ¬ (a.eval x = .float k n ∧ a.eval y = .float k' n')) → (∀ k n m k' n' m', ¬ (a.eval x = .complex k n m ∧ a.eval y = .complex k' n' m')) →
            (do eqGuard op t x y (a.eval x) (a.eval y); binOp op t (a.eval x) (a.eval y) : Sem Value).run P w = .ok (.bool (if (op == .neq) = true then !b else b)) w := by
          intro b h1 h2 n1 n2 n3 n4
          have hb1 : binOp .eql t (a.eval x) (a.eval y) = (do pure (.bool (← Op.equal t (a.eval x) (a.eval y)))) := by
            generalize a.eval x = p at *
            generalize a.eval y = q at *
            cases p <;> cases q <;> first
              | rfl
              | exact absurd ⟨rfl, rfl⟩ (n1 _ _ _ _)
              | exact absurd ⟨rfl, rfl⟩ (n2 _ _)
              | exact absurd ⟨rfl, rfl⟩ (n3 _ _ _ _)
              | exact absurd ⟨rfl, rfl⟩ (n4 _ _ _ _ _ _)
          have hb2 : binOp .neq t (a.eval x) (a.eval y) = (do pure (.bool (!(← Op.equal t (a.eval x) (a.eval y))))) := by
            generalize a.eval x = p at *
            generalize a.eval y = q at *
            cases p <;> cases q <;> first
              | rfl
              | exact absurd ⟨rfl, rfl⟩ (n1 _ _ _ _)
              | exact absurd ⟨rfl, rfl⟩ (n2 _ _)
              | exact absurd ⟨rfl, rfl⟩ (n3 _ _ _ _)
              | exact absurd ⟨rfl, rfl⟩ (n4 _ _ _ _ _ _)
          cases op <;> first
            | (cases hop; done)
            | (simp only [Sem.run_bind, h2, Result.andThen_ok, hb1, h1, Sem.run_pure]; rfl)
            | (simp only [Sem.run_bind, h2, Result.andThen_ok, hb2, h1, Sem.run_pure]; rfl)
        split at hc
        · rename_i n harr
          have hc := Option.some.inj hc
          subst hc
          simp only [aop] at ha
          split at ha
          · rename_i xs ys hxv hyv
            rw [hxv] at vx
            rw [hyv] at vy
            split at ha
            · rename_i hl
              simp only [Option.map_eq_some_iff, Prod.mk.injEq] at ha
              obtain ⟨b, hb, rfl, rfl⟩ := ha
              obtain ⟨h1, h2⟩ := run_eqArr (w := w) harr vx vy hl.1 hb
              obtain ⟨X, hX, _⟩ := vx.agg_inv
              exact Does.pure (hneg h1 (fun op => h2 op x y) (by rw [hX]; intro _ _ _ _ hh; cases hh.1) (by rw [hX]; intro _ _ hh; cases hh.1) (by rw [hX]; intro _ _ _ _ hh; cases hh.1) (by rw [hX]; intro _ _ _ _ _ _ hh; cases hh.1)) r VR.mk_bool
            · cases ha
          · cases ha
        · simp only [Option.map_eq_some_iff] at hc
          obtain ⟨k, hk, rfl⟩ := hc
          simp only [aop, Option.map_eq_some_iff, Prod.mk.injEq] at ha
          obtain ⟨b, hb, rfl, rfl⟩ := ha
          obtain ⟨d, hd1, hd2, hd3⟩ := eqKindA_fits hk
          have hkind : ∀ {z : V} {p : Value}, VR ρ z p → (z = x'.ev e ∨ z = y'.ev e) → (∀ k n, p ≠ .int k n) ∧ (∀ s, p ≠ .string s) ∧ (∀ k n, p ≠ .float k n) ∧ (∀ k n m, p ≠ .complex k n m) := by
            intro z p hz hzz
            have hnot : (∀ k n, z ≠ .int k n) ∧ ∀ s, z ≠ .str s := by
              unfold eqv at hb
              rcases hzz with hzz | hzz <;> (rw [hzz]; split at hb <;> first | (cases hb; done) | (simp_all))
            cases z with
            | int k n => exact absurd rfl (hnot.1 k n)
            | str s => exact absurd rfl (hnot.2 s)
            | bool b => simp only [VR] at hz; subst hz; simp
            | nilptr => simp only [VR] at hz; subst hz; simp
            | ptr _ _ => obtain ⟨_, _, rfl⟩ := hz.ptr_inv; simp
            | nilslice => simp only [VR] at hz; subst hz; simp
            | slice _ _ _ _ => obtain ⟨_, _, _, _, _, _, _, _, rfl⟩ := hz.slice_inv; simp
            | func _ _ _ => simp only [VR] at hz; obtain ⟨_, _, rfl, _⟩ := hz; simp
            | nilfunc => simp only [VR] at hz; subst hz; simp
            | iface _ _ => simp only [VR] at hz; obtain ⟨_, rfl, _⟩ := hz; simp
            | niliface => simp only [VR] at hz; subst hz; simp
            | agg _ => obtain ⟨_, rfl, _⟩ := hz.agg_inv; simp
            | tuple _ => obtain ⟨_, rfl, _⟩ := hz.tuple_inv; simp
          obtain ⟨m1, m2, m3, m4⟩ := hkind vx (.inl rfl)
          exact Does.pure (hneg (run_eqv hd1 hd2 vx vy hb) (fun op => run_eqGuard_eq t x y hd3 vx vy hb) (fun k n _ _ hh => m1 k n hh.1) (fun s _ hh => m2 s hh.1) (fun k n _ _ hh => m3 k n hh.1) (fun k n m _ _ _ hh => m4 k n m hh.1)) r VR.mk_bool
      · cases hc
  · cases hc

theorem dn_slice {t : TypeId} {x : Operand} {lo hi mx : Option Operand} {ao : AOp} (hG : P.globals.size ≤ Z.G) (r : Rel Z ρ h w) (he : ER ρ e a.tmps) (hc : compOp P (.slice t x lo hi mx) = some ao)
    (ha : aop cf ao e h = some (v, h')) : Does P Z ρ (Instr.sliceAt t (a.eval x) (lo.map a.eval) (hi.map a.eval) (mx.map a.eval)) w v h' := by
  simp only [compOp] at hc
  split at hc
  · rename_i x' lo' hi' mx' hx hlo hhi hmx
    have vx := cOpd_ok hG hx r he
    have vlo := cOpt_ok hG hlo r he
    have vhi := cOpt_ok hG hhi r he
    have vmx := cOpt_ok hG hmx r he
    split at hc
    · rename_i hu
      split at hc
      · rename_i hnone
        have hc := Option.some.inj hc
        subst hc
        simp only [aop] at ha
        split at ha
        · rename_i s hxv
          rw [hxv] at vx
          obtain ⟨bs, hbs, hs⟩ := vx.str_inv
          split at ha
          · rename_i l rr m hb
            simp only [Option.some.injEq, Prod.mk.injEq] at ha
            obtain ⟨rfl, rfl⟩ := ha
            have hmn : mx.map a.eval = none := by
              cases mx with
              | none => rfl
              | some _ =>
                simp only [cOpt, Option.map_eq_some_iff] at hmx
                obtain ⟨_, _, rfl⟩ := hmx
                simp at hnone
            have hsz : s.length = bs.size := by rw [← hs, List.length_map, ← ba_size]
            obtain ⟨m', h1, _⟩ := run_bounds (P := P) (w := w) (mx := none) (pmx := none) (cap := bs.size) false vlo vhi trivial (fun c' hc => by rw [← hsz]; exact Option.some.inj hc) (by omega) hb
            refine Does.pure (u := .string (bs.extract l rr)) ?_ r (VR.mk_str (sliceStr_ok hs))
            rw [hbs, hmn]
            rw [hsz] at h1
            unfold Instr.sliceAt
            simp only [Sem.run_bind, run_underlying hu, Result.andThen_ok, Instr.slice, Option.isSome_none, Bool.false_eq_true, if_false, h1, Sem.run_pure]
          · cases ha
        · cases ha
      · cases hc
    · rename_i el hu
      simp only [Option.map_eq_some_iff] at hc
      obtain ⟨n, hn, rfl⟩ := hc
      simp only [aop, Option.map_eq_some_iff, Prod.mk.injEq] at ha
      obtain ⟨v', hs, rfl, rfl⟩ := ha
      exact does_slice r hu hn vx vlo vhi vmx hs
    · rename_i n el hu
      simp only [Option.map_eq_some_iff] at hc
      obtain ⟨s, hs, rfl⟩ := hc
      simp only [aop] at ha
      split at ha
      · rename_i b o hxv
        rw [hxv] at vx
        obtain ⟨L, hL, hxs⟩ := vx.ptr_inv
        simp only [Option.map_eq_some_iff, Prod.mk.injEq] at ha
        obtain ⟨v', hsl, rfl, rfl⟩ := ha
        simp only [sliceV] at hsl
        split at hsl
        · rename_i l rr m hb
          have hsl := Option.some.inj hsl
          subst hsl
          obtain ⟨m', h1, h2, h3, h4, h5, _⟩ := run_bounds (P := P) (w := w) (cap := n) false vlo vhi vmx (fun c' hc => Option.some.inj hc) (Nat.le_refl _) hb
          have := h5 m rfl
          subst this
          refine Does.pure (u := .slice (some (if m' = l then ⟨L.block, L.off + o, none⟩ else (⟨L.block, L.off + o, none⟩ : Addr).add (l * s))) (rr - l) (m' - l)) ?_ r (VR.mk_slice hL (by omega) ?_)
          · rw [hxs]
            simp only [Instr.sliceAt, Sem.run_bind, run_underlying hu, Instr.sureAddr, Sem.run_pure, Result.andThen_ok, h1, run_sizeA hs]
          · split
            · rfl
            · rw [addr_add]; congr 1; omega
        · cases hsl
      · cases ha
    · cases hc
  · cases hc

theorem dn_range {t : TypeId} {x : Operand} {ao : AOp} (hG : P.globals.size ≤ Z.G) (r : Rel Z ρ h w) (he : ER ρ e a.tmps) (hc : compOp P (.range t x) = some ao)
    (ha : aop cf ao e h = some (v, h')) : Does P Z ρ (Instr.range t (a.eval x)) w v h' := by
  simp only [compOp] at hc
  split at hc
  · rename_i x' hu hx
    have vx := cOpd_ok hG hx r he
    have hc := Option.some.inj hc
    subst hc
    simp only [aop] at ha
    split at ha
    · rename_i s hxv
      rw [hxv] at vx
      obtain ⟨bs, hbs, hs⟩ := vx.str_inv
      simp only [Option.some.injEq, Prod.mk.injEq] at ha
      obtain ⟨rfl, rfl⟩ := ha
      let L : Loc := ⟨w.heap.size, 0, 0, 0⟩
      have hr := r.add (B := .iter s 0) (L := L) (w' := { w with heap := w.heap.push (.stringIter bs 0) }) rfl rfl rfl
        (fun k o hk => by
          have h1 := r.keep k o hk
          have h2 := (Array.getElem?_eq_some_iff.1 h1).1
          simp only
          rw [Array.getElem?_push, if_neg (by omega)]
          exact h1)
        (fun k hk hlt => by
          simp only
          rw [Array.getElem?_push, if_neg (by omega)])
        (fun b B L' hb hL => by
          have := r.lt hb hL
          show L'.block ≠ w.heap.size
          omega)
        ⟨bs, by simp [L], hs, rfl, r.new_none⟩
      refine ⟨.pointer (some ⟨w.heap.size, 0, none⟩), _, _, ?_, Ren.le_upd r.fresh L, hr, ?_⟩
      · rw [hbs]
        unfold Instr.range
        simp only [Sem.run_bind, run_underlying hu, Result.andThen_ok, Sem.run_pure, run_newObj]
      · simp only [VR]
        exact ⟨L, by simp [Ren.upd], by simp [L]⟩
    · cases ha
  · cases hc

theorem dn_next {x : Operand} {x' : Opd} {t : TypeId} (hG : P.globals.size ≤ Z.G) (r : Rel Z ρ h w) (he : ER ρ e a.tmps) (hx : cOpd P x = some x')
    (ha : aop cf (.next x') e h = some (v, h')) : Does P Z ρ (Instr.next (a.eval x) true t) w v h' := by
  have vx := cOpd_ok hG hx r he
  simp only [aop] at ha
  split at ha
  · rename_i b hxv
    rw [hxv] at vx
    obtain ⟨L, hL, hxs⟩ := vx.ptr_inv
    split at ha
    · rename_i s pos hget
      obtain ⟨L', hL', bs, hk, hs, hoff, hK⟩ := r.live b _ hget
      have eL : L' = L := Option.some.inj (hL'.symm.trans hL)
      subst eL
      have hsz : s.length = bs.size := by rw [← hs, List.length_map, ← ba_size]
      rw [hoff] at hxs
      split at ha
      · rename_i hlt
        simp only [Option.some.injEq, Prod.mk.injEq] at ha
        obtain ⟨rfl, rfl⟩ := ha
        have hdec := utfDec_ok bs pos (by omega)
        rw [hs] at hdec
        have hrun := Lib.run_next_any_at (P := P) w L'.block bs pos t hk (by omega)
        rw [hdec] at hrun
        refine ⟨_, _, ρ, by rw [hxs]; exact hrun, Ren.le_refl ρ, ?_, ?_⟩
        · have hoth : ∀ k, k ≠ L'.block → (w.iterAt L'.block bs (pos + (utfDec (s.drop pos)).2)).heap[k]? = w.heap[k]? := by
            intro k hk
            unfold World.iterAt
            simp only
            rw [Array.getElem?_setIfInBounds_ne (fun e => hk e.symm)]
          have hlt' := (Array.getElem?_eq_some_iff.1 hk).1
          refine ⟨r.os, r.tape, r.output, fun k ob hk' => ?_, r.dom, ?_, ?_, r.glob, fun i B L1 hi hro hL1 => ?_, r.res⟩
          · rw [hoth k (fun e => by subst e; rw [hK] at hk'; cases hk')]
            exact r.keep k ob hk'
          · intro i B hi
            rw [Heap.get_set] at hi
            by_cases e : i = b
            · rw [if_pos e] at hi
              have hi := Option.some.inj hi
              subst hi
              subst e
              refine ⟨L', hL, bs, ?_, hs, hoff, hK⟩
              unfold World.iterAt
              simp [hlt']
            · rw [if_neg e] at hi
              obtain ⟨Li, g1, g2⟩ := r.live i B hi
              refine ⟨Li, g1, ?_⟩
              have hne : Li.block ≠ L'.block := fun hE => e (r.inj1 hi hget g1 hL hE rfl)
              cases B with
              | cells c t0 z0 own => obtain ⟨us0, fz0, g3, g4⟩ := g2; exact ⟨us0, fz0, by rw [hoth _ hne]; exact g3, g4⟩
              | iter s p => obtain ⟨bs0, g3, g4⟩ := g2; exact ⟨bs0, by rw [hoth _ hne]; exact g3, g4⟩
          · intro i j B B' L1 L2 hi hj
            rw [Heap.get_set] at hi hj
            have hi' : ∃ B0, h.get i = some B0 ∧ B0.ro = B.ro := by
              by_cases e : i = b
              · rw [if_pos e] at hi
                have hi := Option.some.inj hi
                subst hi
                exact ⟨.iter s pos, by rw [e]; exact hget, rfl⟩
              · rw [if_neg e] at hi; exact ⟨_, hi, rfl⟩
            have hj' : ∃ B0, h.get j = some B0 ∧ B0.ro = B'.ro := by
              by_cases e : j = b
              · rw [if_pos e] at hj
                have hj := Option.some.inj hj
                subst hj
                exact ⟨.iter s pos, by rw [e]; exact hget, rfl⟩
              · rw [if_neg e] at hj; exact ⟨_, hj, rfl⟩
            obtain ⟨_, hi', ri⟩ := hi'
            obtain ⟨_, hj', rj⟩ := hj'
            rw [← ri, ← rj]
            exact r.inj i j _ _ L1 L2 hi' hj'
          · rw [Heap.get_set] at hi
            by_cases e : i = b
            · rw [if_pos e] at hi
              have hi := Option.some.inj hi
              subst hi
              cases hro
            · rw [if_neg e] at hi
              exact r.hid i B L1 hi hro hL1
        · simp only [VR]
          exact ⟨_, rfl, VRL.cons VR.mk_bool (VRL.cons VR.mk_int (VRL.cons VR.mk_int VRL.nil))⟩
      · rename_i hge
        simp only [Option.some.injEq, Prod.mk.injEq] at ha
        obtain ⟨rfl, rfl⟩ := ha
        refine Does.pure (u := .tuple #[.bool false]) (by rw [hxs]; exact Lib.run_next_end_at (P := P) w L'.block bs pos t hk (by omega)) r ?_
        simp only [VR]
        exact ⟨_, rfl, VRL.cons VR.mk_bool VRL.nil⟩
    · cases ha
  · cases ha

end Go.Proofs.YthfbefjmenddkaaDoorA
