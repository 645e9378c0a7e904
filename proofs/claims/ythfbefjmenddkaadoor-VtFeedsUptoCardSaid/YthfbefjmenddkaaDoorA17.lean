/- All operations; and what follows one another. -/
import Derived.Test.YthfbefjmenddkaaDoorA16
import Derived.LoopN
namespace Go.Proofs.YthfbefjmenddkaaDoorA
open Go

variable {P : Program} {Z : Base} {ρ : Ren} {h h' : Heap} {w : World} {a : Act} {e e' : Env} {v : V} {cf : ACall}

def isCall : AOp → Bool
  | .call _ _ => true
  | _ => false

theorem run_value_unit {s : Sem Unit} {w' : World} (hs : s.run P w = .ok () w') : (do s; Pure.pure Next.skip : Sem Next).run P w = .ok .skip w' := by
  simp only [Sem.run_bind, hs, Result.andThen_ok, Sem.run_pure]

theorem VR.mk_func {f : Nat} {pre post : List V} {ps qs : Array Value} (h1 : VRL ρ pre ps.toList) (h2 : VRL ρ post qs.toList) : VR ρ (.func f pre post) (.func (.func f) ps qs) := by
  simp only [VR]; exact ⟨ps, qs, rfl, h1, h2⟩

theorem dn_builtin {b : Builtin} {args : Array Operand} {argTypes : Array TypeId} {ty : TypeId} {ao : AOp} (consts : Array Bool) (hG : P.globals.size ≤ Z.G) (r : Rel Z ρ h w) (he : ER ρ e a.tmps) (hc : compOp P (.call { callee := .builtin b, args, argTypes }) = some ao)
    (ha : aop cf ao e h = some (v, h')) : DoesN P Z ρ (builtin b argTypes ty consts (args.map a.eval)) w v h' := by
  simp only [compOp] at hc
  split at hc
  · -- append
    rename_i s x t us hargs hats
    split at hc
    · rename_i el s' x' hel hs hx
      have vs := cOpd_ok hG hs r he
      have vx := cOpd_ok hG hx r he
      have hmap : args.map a.eval = #[a.eval s, a.eval x] := by apply Array.toList_inj.1; rw [Array.toList_map, hargs]; rfl
      have hu : P.underlying t = some (.slice el) := by
        unfold elemA at hel
        split at hel
        · rename_i e' hu'; have hel := Option.some.inj hel; subst hel; exact hu'
        · cases hel
      have ht0 : argTypes[0]? = some t := by rw [← Array.getElem?_toList, hats]; rfl
      have ht1 : argTypes[1]? = us.head? := by rw [← Array.getElem?_toList, hats]; cases us <;> rfl
      split at hc
      · rename_i z n bt hz hn hb
        split at hc
        · rename_i hh
          obtain ⟨hzl, hn0, hplain⟩ := hh
          have hc := Option.some.inj hc
          subst hc
          have hA : Adds P argTypes t el n false := by
            refine ⟨ht0, hu, hn, ?_⟩
            unfold plainArg at hplain
            cases us with
            | nil => exact .inl ⟨ht1, rfl⟩
            | cons u us =>
              simp only at hplain
              split at hplain
              · cases hplain
              · rename_i d hd hdu
                exact .inr ⟨u, d, ht1, hdu, by simp only [Bool.false_eq_true, if_false]; intro k hk; exact hd k hk⟩
              · cases hplain
          simp only [aop] at ha
          unfold appendV at ha
          split at ha
          · cases ha
          · rename_i xs m hadd
            obtain ⟨g1, g2, us', g3, g4⟩ := added_ok (P := P) r vx hadd
            have hd := does_core (ap := Builtin.append_ argTypes ty #[a.eval s, a.eval x]) r vs g3 g2 hn0 g4 hb hz hzl (fun base l c hp => by rw [hp]; exact append_core hA (g1 w)) ha
            have := hd.next
            rw [hmap]
            exact this
        · split at hc
          · rename_i hh
            obtain ⟨hzl, hn0, hone, hint⟩ := hh
            have hc := Option.some.inj hc
            subst hc
            have hA : Adds P argTypes t el n true := by
              refine ⟨ht0, hu, hn, ?_⟩
              cases us with
              | nil => simp at hint
              | cons u us =>
                simp only [List.head?_cons, Option.map_some, Option.some.injEq] at hint
                unfold isInt at hint
                split at hint
                · rename_i k hk
                  exact .inr ⟨u, _, ht1, hk, by simp only [if_true]; exact ⟨k, rfl⟩⟩
                · cases hint
            simp only [aop] at ha
            split at ha
            · rename_i k m hxv
              rw [hxv] at vx
              split at ha
              · rename_i hh2
                obtain ⟨rfl, m0, m1, m2⟩ := hh2
                obtain ⟨zv, z1, z2⟩ := run_zeroA (ρ := ρ) hz w
                have hzs : zv.cells.size = n := by rw [← hzl, ← z2.length, Array.length_toList]
                have hrow := zeroRow zv.cells m.toNat (by omega)
                have z1' : ∀ w, (zeroValue el).run P w = .ok zv w := by
                  intro w'
                  obtain ⟨zv', q1, _⟩ := run_zeroA (ρ := ρ) hz w'
                  have : zv' = zv := by
                    unfold zeroValue typeInfo at q1 z1
                    cases hi : P.info? el with
                    | none => simp [hi] at z1
                    | some i =>
                      cases hzz : i.zero with
                      | none => simp [hi, hzz] at z1
                      | some u => simp [hi, hzz] at z1 q1; rw [← z1, ← q1]
                  rw [← this]; exact q1
                have hd := does_core (ap := Builtin.append_ argTypes ty #[a.eval s, a.eval x]) (x := .int .i64 m) (zb := true) (us := ((List.replicate m.toNat zv.cells.toList).flatten).toArray) (app := (if m.toNat * n = 0 then pure #[] else do pure (Builtin.zeroCells (← zeroValue el).cells m.toNat)))
                  r vs (by unfold zeros; simpa using VRL.flatten_replicate z2 m.toNat) (by unfold zeros; simp [hzl]) hn0 (fun d => by
                    by_cases hm0 : m.toNat * n = 0
                    · rw [if_pos hm0]
                      have : m.toNat = 0 := by
                        rcases Nat.mul_eq_zero.1 hm0 with h' | h'
                        · exact h'
                        · exact absurd h' hn0
                      rw [this]; rfl
                    · rw [if_neg hm0]
                      have e1 : Builtin.zeroCells zv.cells m.toNat = ((List.replicate m.toNat zv.cells.toList).flatten).toArray := by
                        rw [← hrow]; rfl
                      simp only [Sem.run_bind, z1', Result.andThen_ok, Sem.run_pure, e1]) hb hz hzl (fun base l c hp => by
                    rw [hp, vx.int_inv]
                    exact append_coreZ hA hb m0 m1 m2) ha
                have := hd.next
                rw [hmap]
                exact this
              · cases ha
            · cases ha
          · cases hc
      · cases hc
    · cases hc
  · -- copy
    rename_i d s t us hargs hats
    split at hc
    · rename_i el d' s' hel hd hs
      simp only [Option.map_eq_some_iff] at hc
      obtain ⟨n, hn, rfl⟩ := hc
      have vd := cOpd_ok hG hd r he
      have vs := cOpd_ok hG hs r he
      have hmap : args.map a.eval = #[a.eval d, a.eval s] := by apply Array.toList_inj.1; rw [Array.toList_map, hargs]; rfl
      have hu : P.underlying t = some (.slice el) := by
        unfold elemA at hel
        split at hel
        · rename_i e' hu'; have hel := Option.some.inj hel; subst hel; exact hu'
        · cases hel
      have ht0 : argTypes[0]? = some t := by rw [← Array.getElem?_toList, hats]; rfl
      simp only [aop] at ha
      have := (run_copyV (ty := ty) r ht0 hu hn vd vs ha).next
      rw [hmap]
      exact this
    · cases hc
  · -- len
    rename_i x t us hargs hats
    have hmap : args.map a.eval = #[a.eval x] := by apply Array.toList_inj.1; rw [Array.toList_map, hargs]; rfl
    have ht0 : argTypes[0]? = some t := by rw [← Array.getElem?_toList, hats]; rfl
    have key : ∀ {s : Sem Value} {v : V} {h' : Heap}, Does P Z ρ (Builtin.len_ argTypes ty #[a.eval x]) w v h' → DoesN P Z ρ (builtin .len argTypes ty consts (args.map a.eval)) w v h' := by
      intro s v h' hd
      rw [hmap]
      exact hd.next
    split at hc
    · rename_i x' hu hx
      have vx := cOpd_ok hG hx r he
      have hc := Option.some.inj hc
      subst hc
      simp only [aop] at ha
      split at ha
      · rename_i s hxv
        rw [hxv] at vx
        simp only [Option.some.injEq, Prod.mk.injEq] at ha
        obtain ⟨rfl, rfl⟩ := ha
        obtain ⟨bs, hbs, hs⟩ := vx.str_inv
        have hsz : s.length = bs.size := by rw [← hs, List.length_map, ← ba_size]
        refine key (s := pure undef) (Does.pure (u := .int .i64 bs.size) ?_ r (by rw [hsz]; exact VR.mk_int))
        rw [hbs]
        unfold Builtin.len_
        simp only [ht0, List.getElem?_toArray, List.getElem?_cons_zero, Sem.run_bind, run_underlying hu, Result.andThen_ok]
        rfl
      · cases ha
    · rename_i el x' hu hx
      have vx := cOpd_ok hG hx r he
      have hc := Option.some.inj hc
      subst hc
      simp only [aop] at ha
      split at ha
      · rename_i hxv
        rw [hxv] at vx
        simp only [VR] at vx
        simp only [Option.some.injEq, Prod.mk.injEq] at ha
        obtain ⟨rfl, rfl⟩ := ha
        refine key (s := pure undef) (Does.pure (u := .int .i64 0) ?_ r VR.mk_int)
        rw [vx]
        unfold Builtin.len_
        simp only [ht0, List.getElem?_toArray, List.getElem?_cons_zero, Sem.run_bind, run_underlying hu, Result.andThen_ok]
        rfl
      · rename_i b o n c hxv
        rw [hxv] at vx
        simp only [Option.some.injEq, Prod.mk.injEq] at ha
        obtain ⟨rfl, rfl⟩ := ha
        obtain ⟨L, ad, cap, _, _, _, _, _, hxs⟩ := vx.slice_inv
        refine key (s := pure undef) (Does.pure (u := .int .i64 n) ?_ r VR.mk_int)
        rw [hxs]
        unfold Builtin.len_
        simp only [ht0, List.getElem?_toArray, List.getElem?_cons_zero, Sem.run_bind, run_underlying hu, Result.andThen_ok]
        rfl
      · cases ha
    · rename_i n el x' hu hx
      have hc := Option.some.inj hc
      subst hc
      simp only [aop, Option.some.injEq, Prod.mk.injEq] at ha
      obtain ⟨rfl, rfl⟩ := ha
      refine key (s := pure undef) (Does.pure (u := .int .i64 n) ?_ r VR.mk_int)
      unfold Builtin.len_
      simp only [ht0, List.getElem?_toArray, List.getElem?_cons_zero, Sem.run_bind, run_underlying hu, Result.andThen_ok]
      rfl
    · rename_i ar x' hu hx
      split at hc
      · rename_i n el hua
        have hc := Option.some.inj hc
        subst hc
        simp only [aop, Option.some.injEq, Prod.mk.injEq] at ha
        obtain ⟨rfl, rfl⟩ := ha
        refine key (s := pure undef) (Does.pure (u := .int .i64 n) ?_ r VR.mk_int)
        unfold Builtin.len_
        simp only [ht0, List.getElem?_toArray, List.getElem?_cons_zero, Sem.run_bind, run_underlying hu, Result.andThen_ok, run_underlying hua]
        rfl
      · cases hc
    · cases hc
  · -- cap
    rename_i x t us hargs hats
    have hmap : args.map a.eval = #[a.eval x] := by apply Array.toList_inj.1; rw [Array.toList_map, hargs]; rfl
    have ht0 : argTypes[0]? = some t := by rw [← Array.getElem?_toList, hats]; rfl
    split at hc
    · rename_i el x' hu hx
      have vx := cOpd_ok hG hx r he
      have hc := Option.some.inj hc
      subst hc
      simp only [aop, Option.map_eq_some_iff, Prod.mk.injEq] at ha
      obtain ⟨c, hcap, rfl, rfl⟩ := ha
      rw [hmap]
      refine Does.next (s := Builtin.cap_ argTypes ty #[a.eval x]) (Does.pure (u := .int .i64 c) ?_ r VR.mk_int)
      unfold Builtin.cap_
      simp only [ht0, List.getElem?_toArray, List.getElem?_cons_zero, Sem.run_bind, run_underlying hu, Result.andThen_ok]
      unfold capOf at hcap
      split at hcap
      · rename_i hxv
        rw [hxv] at vx
        simp only [VR] at vx
        have hcap := Option.some.inj hcap
        subst hcap
        rw [vx]
        rfl
      · rename_i b o n c0 hxv
        rw [hxv] at vx
        subst hcap
        obtain ⟨L, ad, cap, _, _, _, hk, _, hxs⟩ := vx.slice_inv
        obtain ⟨rfl, rfl⟩ := hk c rfl
        rw [hxs]
        rfl
      · cases hcap
    · cases hc
  · -- max
    rename_i xs
    simp only [Option.map_eq_some_iff] at hc
    obtain ⟨ys, hys, rfl⟩ := hc
    have vl := cOpds_ok hG r he hys
    simp only [aop] at ha
    split at ha
    · rename_i y1 ys1 hyv
      rw [hyv] at vl
      simp only [Option.map_eq_some_iff, Prod.mk.injEq] at ha
      obtain ⟨v', hv', rfl, rfl⟩ := ha
      simp only [VRL] at vl
      obtain ⟨u, us, hus, v1, v2⟩ := vl
      obtain ⟨q, q1, q2⟩ := run_minmax (P := P) (w := w) true v1 v2 hv'
      refine Does.next (s := Builtin.max_ argTypes ty (args.map a.eval)) (Does.pure (u := q) ?_ r q2)
      unfold Builtin.max_
      rw [Array.toList_map, hus]
      exact q1
    · cases ha
  · -- min
    rename_i xs
    simp only [Option.map_eq_some_iff] at hc
    obtain ⟨ys, hys, rfl⟩ := hc
    have vl := cOpds_ok hG r he hys
    simp only [aop] at ha
    split at ha
    · rename_i y1 ys1 hyv
      rw [hyv] at vl
      simp only [Option.map_eq_some_iff, Prod.mk.injEq] at ha
      obtain ⟨v', hv', rfl, rfl⟩ := ha
      simp only [VRL] at vl
      obtain ⟨u, us, hus, v1, v2⟩ := vl
      obtain ⟨q, q1, q2⟩ := run_minmax (P := P) (w := w) false v1 v2 hv'
      refine Does.next (s := Builtin.min_ argTypes ty (args.map a.eval)) (Does.pure (u := q) ?_ r q2)
      unfold Builtin.min_
      rw [Array.toList_map, hus]
      exact q1
    · cases ha
  · cases hc

end Go.Proofs.YthfbefjmenddkaaDoorA
