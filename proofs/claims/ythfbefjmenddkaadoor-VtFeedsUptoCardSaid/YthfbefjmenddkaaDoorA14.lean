/- Every operation but the call: what the abstract machine does, the model does. -/
import Derived.Test.YthfbefjmenddkaaDoorA13
namespace Go.Proofs.YthfbefjmenddkaaDoorA
open Go

variable {P : Program} {Z : Base} {ρ : Ren} {h h' : Heap} {w : World} {a : Act} {e : Env} {v : V} {cf : ACall}

theorem dn_pick {c x y : Operand} {c' x' y' : Opd} (hG : P.globals.size ≤ Z.G) (r : Rel Z ρ h w) (he : ER ρ e a.tmps) (h1 : cOpd P c = some c') (h2 : cOpd P x = some x') (h3 : cOpd P y = some y')
    (ha : aop cf (.pick c' x' y') e h = some (v, h')) : DoesN P Z ρ (do Pure.pure (.value (if ← asBool (a.eval c) then a.eval x else a.eval y))) w v h' := by
  have hc := cOpd_ok hG h1 r he
  simp only [aop] at ha
  split at ha
  · rename_i hcv
    rw [hcv] at hc
    simp only [Option.some.injEq, Prod.mk.injEq] at ha
    obtain ⟨rfl, rfl⟩ := ha
    exact DoesN.value (u := a.eval x) (by rw [hc.bool_inv]; rfl) r (cOpd_ok hG h2 r he)
  · rename_i hcv
    rw [hcv] at hc
    simp only [Option.some.injEq, Prod.mk.injEq] at ha
    obtain ⟨rfl, rfl⟩ := ha
    exact DoesN.value (u := a.eval y) (by rw [hc.bool_inv]; rfl) r (cOpd_ok hG h3 r he)
  · cases ha

theorem dn_boxv {t : TypeId} {p : Value} {x : V} (r : Rel Z ρ h w) (hp : VR ρ x p) : Does P Z ρ (Instr.box t p) w (.ptr h.next 0) (h.new (.cells x.cells t 1 true)) :=
  does_newVar r hp.cells

theorem dn_build {t : TypeId} {parts : Array (Nat × Operand)} {ao : AOp} (hG : P.globals.size ≤ Z.G) (r : Rel Z ρ h w) (he : ER ρ e a.tmps) (hc : compOp P (.build t parts) = some ao)
    (ha : aop cf ao e h = some (v, h')) : Does P Z ρ (Instr.build t (parts.map fun (i, x) => (i, a.eval x))) w v h' := by
  simp only [compOp] at hc
  split at hc
  · rename_i z fs hz hu
    split at hc
    · rename_i ps hps
      simp only [Option.map_eq_some_iff] at hc
      obtain ⟨q, hq, rfl⟩ := hc
      simp only [aop, Option.map_eq_some_iff, Prod.mk.injEq] at ha
      obtain ⟨cs, hf, rfl, rfl⟩ := ha
      unfold zeroA at hz
      cases hi : P.info? t with
      | none => simp [hi] at hz
      | some it =>
        simp only [hi] at hz
        cases hzz : it.zero with
        | none => simp [hzz] at hz
        | some zv =>
          simp only [hzz] at hz
          obtain ⟨us', k1, k2⟩ := built_ok hG r he hq (absL_ok hz) hf
          refine Does.pure (u := .agg us') (run_build w t _ us' ?_) r (by simp only [VR]; exact ⟨us', rfl, k2⟩)
          unfold Program.built
          simp only [hi, hu, hzz, places_ok hps, list_map_toList]
          simpa using k1
    · cases hc
  · rename_i z n el hz hu
    split at hc
    · rename_i sz hsz
      simp only [Option.map_eq_some_iff] at hc
      obtain ⟨q, hq, rfl⟩ := hc
      simp only [aop, Option.map_eq_some_iff, Prod.mk.injEq] at ha
      obtain ⟨cs, hf, rfl, rfl⟩ := ha
      unfold zeroA at hz
      cases hi : P.info? t with
      | none => simp [hi] at hz
      | some it =>
        simp only [hi] at hz
        cases hzz : it.zero with
        | none => simp [hzz] at hz
        | some zv =>
          simp only [hzz] at hz
          obtain ⟨us', k1, k2⟩ := built_ok hG r he hq (absL_ok hz) hf
          refine Does.pure (u := .agg us') (run_build w t _ us' ?_) r (by simp only [VR]; exact ⟨us', rfl, k2⟩)
          unfold Program.built
          unfold sizeA at hsz
          cases hie : P.info? el with
          | none => simp [hie] at hsz
          | some ie =>
            simp only [hie, Option.map_some, Option.some.injEq] at hsz
            simp only [hi, hu, hzz, hie, hsz, list_map_toList]
            exact k1
    · cases hc
  · cases hc

theorem dn_buildSlice {t : TypeId} {len : Nat} {parts : Array (Nat × Operand)} {ao : AOp} (hG : P.globals.size ≤ Z.G) (r : Rel Z ρ h w) (he : ER ρ e a.tmps) (hc : compOp P (.buildSlice t len parts) = some ao)
    (ha : aop cf ao e h = some (v, h')) : Does P Z ρ (Instr.buildSlice t len (parts.map fun (i, x) => (i, a.eval x))) w v h' := by
  simp only [compOp] at hc
  split at hc
  · rename_i el hel
    split at hc
    · rename_i z n hz hn
      split at hc
      · rename_i hh
        obtain ⟨hle, hzl, hn0⟩ := hh
        simp only [Option.map_eq_some_iff] at hc
        obtain ⟨q, hq, rfl⟩ := hc
        simp only [aop] at ha
        split at ha
        · rename_i cs hf
          split at ha
          · rename_i hone
            simp only [Option.some.injEq, Prod.mk.injEq] at ha
            obtain ⟨rfl, rfl⟩ := ha
            obtain ⟨zv, z1, z2⟩ := run_zeroA (ρ := ρ) hz w
            have hzs : zv.cells.size = n := by rw [← hzl, ← z2.length, Array.length_toList]
            have hrow := zeroRow zv.cells len (by omega)
            obtain ⟨us', k1, k2⟩ := built_ok (z := zeros z len) (us := ((Array.range (len * zv.cells.size)).map (zv.cells[· % zv.cells.size]!))) hG r he hq (by rw [hrow]; exact VRL.flatten_replicate z2 len) hf
            have hu : P.underlying t = some (.slice el) := by
              unfold elemA at hel
              split at hel
              · rename_i e' hu'; have hel := Option.some.inj hel; subst hel; exact hu'
              · cases hel
            refine Does.alloc (us := us'.toList) (rest := []) (esz := n) (fz := (0, 0)) (n := w.drawn) (u := .slice (some ⟨w.heap.size, 0, none⟩) len len) r k2 ?_ (fz0 _) (fun ρ' hρ => VR.mk_slice hρ (Nat.le_refl _) (by simp))
            unfold Instr.buildSlice
            have h0 : ¬ (len * n > 2 ^ 24) := by omega
            rw [hzs] at k1
            simp only [Sem.run_bind, run_underlying hu, Result.andThen_ok, run_sizeA hn, if_neg h0]
            by_cases hl0 : len * n = 0
            · have e0 : ((Array.range (len * n)).map fun x => zv.cells[x % n]!) = #[] := by rw [hl0]; simp
              have e1 : ((Array.range (len * n)).map fun x => (#[] : Array Value)[x % (#[] : Array Value).size]!) = #[] := by rw [hl0]; simp
              rw [e0] at k1
              simp only [hl0, if_true, Sem.run_bind, Sem.run_pure, Result.andThen_ok]
              rw [hl0] at e1
              rw [e1, list_map_toList, k1]
              simp [newRow]
            · simp only [if_neg hl0, Sem.run_bind, z1, Result.andThen_ok, Sem.run_pure, hzs, list_map_toList, k1]
              simp [newRow]
          · cases ha
        · cases ha
      · cases hc
    · cases hc
  · cases hc

theorem dn_makeSlice {t : TypeId} {x y : Operand} {ao : AOp} (hG : P.globals.size ≤ Z.G) (r : Rel Z ρ h w) (he : ER ρ e a.tmps) (hc : compOp P (.makeSlice t x y) = some ao)
    (ha : aop cf ao e h = some (v, h')) : Does P Z ρ (Instr.makeSlice t (a.eval x) (a.eval y)) w v h' := by
  simp only [compOp] at hc
  split at hc
  · rename_i el x' y' hel hx hy
    split at hc
    · rename_i z s b hz hs hb
      split at hc
      · rename_i hh
        obtain ⟨hzl, hs0, hone⟩ := hh
        have hc := Option.some.inj hc
        subst hc
        have vx := cOpd_ok hG hx r he
        have vy := cOpd_ok hG hy r he
        simp only [aop] at ha
        split at ha
        · rename_i k1 n k2 c hxv hyv
          rw [hxv] at vx
          rw [hyv] at vy
          split at ha
          · rename_i hh2
            obtain ⟨g1, g2, g3, g4⟩ := hh2
            simp only [Option.some.injEq, Prod.mk.injEq] at ha
            obtain ⟨rfl, rfl⟩ := ha
            rw [vx.int_inv, vy.int_inv]
            obtain ⟨zv, z1, z2⟩ := run_zeroA (ρ := ρ) hz w
            have hzs : zv.cells.size = s := by rw [← hzl, ← z2.length, Array.length_toList]
            have hrow := zeroRow zv.cells c.toNat (by omega)
            have hu : P.underlying t = some (.slice el) := by
              unfold elemA at hel
              split at hel
              · rename_i e' hu'; have hel := Option.some.inj hel; subst hel; exact hu'
              · cases hel
            have hwrap : ∀ m : Int, 0 ≤ m → m ≤ most → IntKind.i64.wrap m = m := by
              intro m m0 m1
              have e1 : IntKind.i64.bits = 64 := rfl
              have e2 : IntKind.i64.signed = true := rfl
              unfold IntKind.wrap
              unfold most at m1
              simp only [e1, e2, Bool.true_and]
              rw [if_neg (by simp; omega)]
              omega
            obtain ⟨i, hi, hib⟩ := run_bytesA hb w
            refine Does.alloc (us := (List.replicate c.toNat zv.cells.toList).flatten) (rest := []) (esz := s) (fz := (0, 0)) (n := w.drawn) (u := .slice (some ⟨w.heap.size, 0, none⟩) n.toNat c.toNat) r (VRL.flatten_replicate z2 c.toNat) ?_ (fz0 _) (fun ρ' hρ => VR.mk_slice hρ (by omega) (by simp))
            have hbc : ¬ ((b : Int) * c > 2 ^ 48) := by
              have e3 : ((c.toNat * b : Nat) : Int) = b * c := by rw [Int.natCast_mul, Int.toNat_of_nonneg (by omega), Int.mul_comm]
              unfold most at g4
              omega
            have hcond : (((decide (c < 0) || decide ((b : Int) * c > 2 ^ 48)) || decide (n < 0)) || decide (n > c)) = false := by
              simp only [Bool.or_eq_false_iff, decide_eq_false_iff_not]
              exact ⟨⟨⟨by omega, hbc⟩, by omega⟩, by omega⟩
            unfold Instr.makeSlice
            simp only [Sem.run_bind, run_underlying hu, Result.andThen_ok, asInt, asIntOf, Sem.run_pure, hi, hib, hwrap n g1 (by omega), hwrap c (by omega) g3, hcond, Bool.false_eq_true, if_false, run_askRoom, run_sizeA hs]
            by_cases hl0 : c.toNat * s = 0
            · have hc0 : c.toNat = 0 := by
                rcases Nat.mul_eq_zero.1 hl0 with h' | h'
                · exact h'
                · exact absurd h' hs0
              have e0 : Array.range 0 = #[] := Array.eq_empty_of_size_eq_zero (by simp)
              simp [hc0, newRow, e0]
            · rw [hzs] at hrow
              have hrow2 : (Array.range (c.toNat * s)).map (fun x => zv.cells[x % s]!) = ((List.replicate c.toNat zv.cells.toList).flatten).toArray := by
                rw [← hrow]
              simp only [if_neg hl0, Sem.run_bind, z1, Result.andThen_ok, Sem.run_pure, hzs, hrow2, newRow, run_newObj, List.append_nil]
          · cases ha
        · cases ha
      · cases hc
    · cases hc
  · cases hc

end Go.Proofs.YthfbefjmenddkaaDoorA
