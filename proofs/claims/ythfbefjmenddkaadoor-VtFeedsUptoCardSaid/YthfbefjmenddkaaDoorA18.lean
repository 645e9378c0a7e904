/- One operation; a row of operations; code; a function. -/
import Derived.Test.YthfbefjmenddkaaDoorA17
namespace Go.Proofs.YthfbefjmenddkaaDoorA
open Go

variable {P : Program} {Z : Base} {ρ : Ren} {h h' : Heap} {w : World} {a : Act} {e e' : Env} {v : V} {cf : ACall}

theorem nilCheck_value {p : Value} (h1 : p ≠ .pointer none) (h2 : p ≠ .nilIface) (h3 : p ≠ .nilFunc) (h4 : ∀ n f c, p ≠ .func (.method n) f c) {o : Oper} {x : Operand} (ho : o.op = .nilCheck x) (hp : a.eval x = p) :
    (execOp a.eval o).run P w = .ok (.value p) w := by
  unfold execOp
  simp only [ho, hp]
  rfl

theorem does_op {o : Oper} {ao : AOp} (hG : P.globals.size ≤ Z.G) (hc : compOp P o.op = some ao) (hcall : isCall ao = false) (ha : aop cf ao e h = some (v, h')) (r : Rel Z ρ h w) (he : ER ρ e a.tmps) :
    DoesN P Z ρ (execOp a.eval o) w v h' := by
  unfold execOp
  cases hop : o.op <;> rw [hop] at hc <;> first
    | (simp only [compOp, reduceCtorEq] at hc; done)
    | skip
  case move x =>
    simp only [compOp, Option.map_eq_some_iff] at hc
    obtain ⟨y, hy, rfl⟩ := hc
    simp only [aop, Option.some.injEq, Prod.mk.injEq] at ha
    obtain ⟨rfl, rfl⟩ := ha
    exact DoesN.value rfl r (cOpd_ok hG hy r he)
  case assign x =>
    simp only [compOp, Option.map_eq_some_iff] at hc
    obtain ⟨y, hy, rfl⟩ := hc
    simp only [aop, Option.some.injEq, Prod.mk.injEq] at ha
    obtain ⟨rfl, rfl⟩ := ha
    exact DoesN.value rfl r (cOpd_ok hG hy r he)
  case pick c x y =>
    simp only [compOp] at hc
    split at hc
    · rename_i c' x' y' h1 h2 h3
      have hc := Option.some.inj hc
      subst hc
      exact dn_pick hG r he h1 h2 h3 ha
    · cases hc
  case alloc t =>
    simp only [compOp] at hc
    split at hc
    · rename_i z hz
      split at hc
      · have hc := Option.some.inj hc
        subst hc
        simp only [aop, Option.some.injEq, Prod.mk.injEq] at ha
        obtain ⟨rfl, rfl⟩ := ha
        exact (does_alloc r hz).next
      · cases hc
    · cases hc
  case box t x =>
    simp only [compOp, Option.map_eq_some_iff] at hc
    obtain ⟨y, hy, rfl⟩ := hc
    simp only [aop] at ha
    split at ha
    · simp only [Option.some.injEq, Prod.mk.injEq] at ha
      obtain ⟨rfl, rfl⟩ := ha
      exact (dn_boxv r (cOpd_ok hG hy r he)).next
    · cases ha
  case build t parts => exact (dn_build hG r he hc ha).next
  case buildSlice t len parts => exact (dn_buildSlice hG r he hc ha).next
  case load t x =>
    simp only [compOp] at hc
    split at hc
    · rename_i n x' h1 h2 h3
      have hc := Option.some.inj hc
      subst hc
      have vx := cOpd_ok hG h3 r he
      simp only [aop] at ha
      split at ha
      · rename_i b o' hxv
        rw [hxv] at vx
        simp only [Option.map_eq_some_iff, Prod.mk.injEq] at ha
        obtain ⟨cs, hr, rfl, rfl⟩ := ha
        exact (does_loadn r vx h1 h2 hr).next
      · cases ha
    · rename_i x' h1 h3
      have hc := Option.some.inj hc
      subst hc
      have vx := cOpd_ok hG h3 r he
      simp only [aop] at ha
      split at ha
      · rename_i b o' hxv
        rw [hxv] at vx
        split at ha
        · rename_i cs t0 z0 own0 hget
          split at ha
          · rename_i v' hr
            simp only [Option.some.injEq, Prod.mk.injEq] at ha
            obtain ⟨rfl, rfl⟩ := ha
            rw [nth_eq] at hr
            have hlt := (List.getElem?_eq_some_iff.1 hr).1
            have hread : h.read b o' 1 = some [v'] := by
              unfold Heap.read
              rw [if_neg (by omega), hget]
              simp only
              rw [if_pos (by omega), List.take_one, List.head?_drop, hr]
              rfl
            exact (does_load r vx h1 hread).next
          · cases ha
        · cases ha
      · cases ha
    · cases hc
  case store t x y =>
    simp only [compOp] at hc
    split at hc
    · rename_i n x' y' h1 h2 h3
      have hc := Option.some.inj hc
      subst hc
      have vx := cOpd_ok hG h2 r he
      have vy := cOpd_ok hG h3 r he
      simp only [aop] at ha
      split at ha
      · rename_i b o' hxv
        rw [hxv] at vx
        split at ha
        · rename_i hl
          simp only [Option.map_eq_some_iff, Prod.mk.injEq] at ha
          obtain ⟨h1', hw, rfl, rfl⟩ := ha
          obtain ⟨w', k1, k2⟩ := run_storeVar_ok (P := P) r vx vy h1 hl hw
          exact ⟨undef, w', ρ, .inr ⟨run_value_unit k1, rfl⟩, Ren.le_refl ρ, k2, VR.undef⟩
        · cases ha
      · cases ha
    · cases hc
  case nilCheck x =>
    simp only [compOp, Option.map_eq_some_iff] at hc
    obtain ⟨y, hy, rfl⟩ := hc
    have vx := cOpd_ok hG hy r he
    simp only [aop] at ha
    have fin : y.ev e = v → h = h' → (∀ p, a.eval x = p → p ≠ .pointer none ∧ p ≠ .nilIface ∧ p ≠ .nilFunc ∧ ∀ n f c, p ≠ .func (.method n) f c) → DoesN P Z ρ (execOp a.eval o) w v h' := by
      rintro rfl rfl hp
      obtain ⟨p1, p2, p3, p4⟩ := hp _ rfl
      exact DoesN.value (nilCheck_value p1 p2 p3 p4 hop rfl) r vx
    have fin' := fin
    unfold execOp at fin'
    simp only [hop] at fin'
    split at ha
    · cases ha
    · cases ha
    · cases ha
    · rename_i n1 n2 n3
      simp only [Option.some.injEq, Prod.mk.injEq] at ha
      refine fin' ha.1 ha.2 ?_
      intro p hp
      rw [hp] at vx
      generalize y.ev e = z at *
      cases z with
      | nilptr => exact absurd rfl n1
      | niliface => exact absurd rfl n2
      | nilfunc => exact absurd rfl n3
      | int _ _ => simp only [VR] at vx; subst vx; simp
      | str _ => obtain ⟨_, rfl, _⟩ := vx.str_inv; simp
      | bool b => simp only [VR] at vx; subst vx; simp
      | ptr _ _ => obtain ⟨_, _, rfl⟩ := vx.ptr_inv; simp
      | nilslice => simp only [VR] at vx; subst vx; simp
      | slice _ _ _ _ => obtain ⟨_, _, _, _, _, _, _, _, rfl⟩ := vx.slice_inv; simp
      | func _ _ _ => simp only [VR] at vx; obtain ⟨_, _, rfl, _⟩ := vx; simp
      | iface _ _ => simp only [VR] at vx; obtain ⟨_, rfl, _⟩ := vx; simp
      | agg _ => obtain ⟨_, rfl, _⟩ := vx.agg_inv; simp
      | tuple _ => obtain ⟨_, rfl, _⟩ := vx.tuple_inv; simp
  case binOp op t x y t2 => exact (dn_binOp hG r he hc ha).next
  case unOp op t x =>
    simp only [compOp, Option.map_eq_some_iff] at hc
    obtain ⟨y, hy, rfl⟩ := hc
    simp only [aop, Option.map_eq_some_iff, Prod.mk.injEq] at ha
    obtain ⟨v', hb, rfl, rfl⟩ := ha
    obtain ⟨u, h1, h2⟩ := run_un (P := P) (w := w) (cOpd_ok hG hy r he) hb
    exact (Does.pure h1 r h2).next
  case convert src dst x => exact (dn_convert hG r he hc ha).next
  case makeInterface t x =>
    simp only [compOp] at hc
    split at hc
    · cases hc
    · rename_i d hd hu
      simp only [Option.map_eq_some_iff] at hc
      obtain ⟨y, hy, rfl⟩ := hc
      simp only [aop, Option.some.injEq, Prod.mk.injEq] at ha
      obtain ⟨rfl, rfl⟩ := ha
      refine Does.next (s := Instr.makeInterface t (a.eval x)) (Does.pure (u := .iface t (a.eval x)) ?_ r (by simp only [VR]; exact ⟨_, rfl, cOpd_ok hG hy r he⟩))
      unfold Instr.makeInterface
      simp only [Sem.run_bind, run_underlying hu, Result.andThen_ok]
      cases d <;> first
        | rfl
        | exact absurd rfl (hd _)
        | exact absurd hu (hd _)
    · cases hc
  case makeFunc fn pre post =>
    cases fn <;> first
      | (simp only [compOp, reduceCtorEq] at hc; done)
      | skip
    simp only [compOp] at hc
    split at hc
    · rename_i ps qs h1 h2
      have hc := Option.some.inj hc
      subst hc
      simp only [aop, Option.some.injEq, Prod.mk.injEq] at ha
      obtain ⟨rfl, rfl⟩ := ha
      refine Does.next (s := Instr.makeFunc _ _ _) (Does.pure rfl r (VR.mk_func ?_ ?_))
      · rw [Array.toList_map]; exact cOpds_ok hG r he h1
      · rw [Array.toList_map]; exact cOpds_ok hG r he h2
    · cases hc
  case makeSlice t n c => exact (dn_makeSlice hG r he hc ha).next
  case slice t x lo hi mx => exact (dn_slice hG r he hc ha).next
  case fieldAddr t x i => exact (dn_fieldAddr hG r he hc ha).next
  case field t x i => exact (dn_field hG r he hc ha).next
  case indexAddr t x i => exact (dn_indexAddr hG r he hc ha).next
  case index t x i => exact (dn_index hG r he hc ha).next
  case range t x => exact (dn_range hG r he hc ha).next
  case next x b =>
    cases b with
    | false => simp only [compOp, reduceCtorEq] at hc
    | true =>
      simp only [compOp, Option.map_eq_some_iff] at hc
      obtain ⟨y, hy, rfl⟩ := hc
      exact (dn_next hG r he hy ha).next
  case extract x i =>
    simp only [compOp, Option.map_eq_some_iff] at hc
    obtain ⟨y, hy, rfl⟩ := hc
    have vx := cOpd_ok hG hy r he
    simp only [aop] at ha
    split at ha
    · rename_i vs hxv
      rw [hxv] at vx
      obtain ⟨xs, hxs, hv⟩ := vx.tuple_inv
      split at ha
      · rename_i v' hi
        simp only [Option.some.injEq, Prod.mk.injEq] at ha
        obtain ⟨rfl, rfl⟩ := ha
        obtain ⟨u, h1, h2⟩ := hv.get hi
        refine Does.next (s := Instr.extract (a.eval x) i) (Does.pure (u := u) ?_ r h2)
        rw [hxs]
        rw [Array.getElem?_toList] at h1
        simp only [Instr.extract, h1, Sem.run_pure]
      · cases ha
    · cases ha
  case call c =>
    obtain ⟨callee, args, argTypes⟩ := c
    cases callee with
    | invoke x m => simp only [compOp, reduceCtorEq] at hc
    | value f =>
      simp only [compOp] at hc
      split at hc
      · have hc := Option.some.inj hc
        subst hc
        simp [isCall] at hcall
      · cases hc
    | builtin b =>
      have := dn_builtin (ty := o.type) (args.map fun | .const _ => true | _ => false) hG r he hc ha
      exact this

end Go.Proofs.YthfbefjmenddkaaDoorA
