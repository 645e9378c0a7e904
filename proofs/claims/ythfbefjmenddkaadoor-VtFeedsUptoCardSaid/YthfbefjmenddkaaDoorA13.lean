/- Every operation but the call: what the abstract machine does, the model does. -/
import Derived.Test.YthfbefjmenddkaaDoorA12
namespace Go.Proofs.YthfbefjmenddkaaDoorA
open Go

variable {P : Program} {Z : Base} {ρ : Ren} {h h' : Heap} {w : World} {a : Act} {e : Env} {v : V} {cf : ACall}

theorem cOpt_ok {x : Option Operand} {y : Option Opd} (hG : P.globals.size ≤ Z.G) (hx : cOpt P x = some y) (r : Rel Z ρ h w) (he : ER ρ e a.tmps) : VRO ρ (y.map (·.ev e)) (x.map a.eval) := by
  cases x with
  | none => simp only [cOpt, Option.some.injEq] at hx; subst hx; trivial
  | some x =>
    simp only [cOpt, Option.map_eq_some_iff] at hx
    obtain ⟨y', hy, rfl⟩ := hx
    exact cOpd_ok hG hy r he

theorem DoesN.value {s : Sem Next} {u : Value} (hs : s.run P w = .ok (.value u) w) (r : Rel Z ρ h w) (hv : VR ρ v u) : DoesN P Z ρ s w v h :=
  ⟨u, w, ρ, .inl hs, Ren.le_refl ρ, r, hv⟩

theorem parts_ok (hG : P.globals.size ≤ Z.G) (r : Rel Z ρ h w) (he : ER ρ e a.tmps) {place : Nat → Option (Nat × Nat)} : ∀ {ps : List (Nat × Operand)} {qs : List (Nat × Nat × Opd)}, partsAt P place ps = some qs →
    qs.length = ps.length ∧ ∀ (j o n : Nat) (v : V) (i : Nat) (u : Value), (qs.map fun p => (p.1, p.2.1, p.2.2.ev e))[j]? = some (o, n, v) → (ps.map fun p => (p.1, a.eval p.2))[j]? = some (i, u) → place i = some (o, n) ∧ VR ρ v u
  | [], qs, hq => by
    simp only [partsAt, Option.some.injEq] at hq
    subst hq
    exact ⟨rfl, fun j o n v i u h1 _ => by simp at h1⟩
  | (i0, x) :: ps, qs, hq => by
    simp only [partsAt] at hq
    split at hq
    · rename_i o0 n0 y qs' h1 h2 h3
      have hq := Option.some.inj hq
      subst hq
      obtain ⟨k1, k2⟩ := parts_ok hG r he h3
      refine ⟨by simp [k1], fun j o n v i u g1 g2 => ?_⟩
      cases j with
      | zero =>
        simp only [List.map_cons, List.getElem?_cons_zero, Option.some.injEq, Prod.mk.injEq] at g1 g2
        obtain ⟨rfl, rfl, rfl⟩ := g1
        obtain ⟨rfl, rfl⟩ := g2
        exact ⟨h1, cOpd_ok hG h2 r he⟩
      | succ j =>
        simp only [List.map_cons, List.getElem?_cons_succ] at g1 g2
        exact k2 j o n v i u g1 g2
    · cases hq

theorem built_ok (hG : P.globals.size ≤ Z.G) (r : Rel Z ρ h w) (he : ER ρ e a.tmps) {place : Nat → Option (Nat × Nat)} {ps : List (Nat × Operand)} {qs : List (Nat × Nat × Opd)} {z cs : List V} {us : Array Value}
    (hq : partsAt P place ps = some qs) (hz : VRL ρ z us.toList) (hf : fillV z (qs.map fun p => (p.1, p.2.1, p.2.2.ev e)) = some cs) :
    ∃ us', Instr.fill place us (ps.map fun p => (p.1, a.eval p.2)) = some us' ∧ VRL ρ cs us'.toList := by
  obtain ⟨k1, k2⟩ := parts_ok hG r he hq
  exact fill_ok (by simp [k1]) k2 hz hf

theorem places_ok : ∀ {fs : List Field} {ps : List (Nat × Nat)}, placesA P fs = some ps → fs.mapM (fun f => (P.info? f.type).map fun i => (f.offset, i.size)) = some ps
  | [], ps, hp => by simp only [placesA, Option.some.injEq] at hp; subst hp; rfl
  | f :: fs, ps, hp => by
    simp only [placesA] at hp
    split at hp
    · rename_i n ps' h1 h2
      have hp := Option.some.inj hp
      subst hp
      unfold sizeA at h1
      simp only [Option.map_eq_some_iff] at h1
      obtain ⟨i, hi, rfl⟩ := h1
      simp [List.mapM_cons, hi, places_ok h2]
    · cases hp

theorem list_map_toList (xs : Array (Nat × Operand)) : (xs.map fun (i, x) => (i, a.eval x)).toList = xs.toList.map fun p => (p.1, a.eval p.2) := by
  rw [Array.toList_map]

theorem sliceStr_ok {bs : ByteArray} {s : List Nat} {l r : Nat} (hs : bs.data.toList.map UInt8.toNat = s) : (bs.extract l r).data.toList.map UInt8.toNat = (s.take r).drop l := by
  subst hs
  rw [ByteArray.data_extract, Array.toList_extract]
  simp [List.map_take, List.map_drop, List.extract_eq_take_drop, List.drop_take]

end Go.Proofs.YthfbefjmenddkaaDoorA
