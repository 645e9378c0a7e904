/- The operations on memory, one by one. -/
import Derived.Test.YthfbefjmenddkaaDoorA7
namespace Go.Proofs.YthfbefjmenddkaaDoorA
open Go

variable {P : Program} {Z : Base} {ρ : Ren} {h h' : Heap} {w : World} {a : Act} {e : List V} {v : V} {cf : ACall}

theorem VR.mk_slice {b o n c : Nat} {L : Loc} (hb : ρ b = some L) (hn : n ≤ c) {ad : Addr} (had : ad = ⟨L.block, L.off + o, none⟩) : VR ρ (.slice b o n (some c)) (.slice (some ad) n c) := by
  subst had; simp only [VR]; exact ⟨L, hb, hn, rfl⟩

/-- A new block, with its value. -/
theorem Does.alloc {s : Sem Value} {cs : List V} {us rest : List Value} {elem esz : Nat} {u : Value} {x : V} {fz : Nat × Nat} {n : Nat} (r : Rel Z ρ h w) (hcs : VRL ρ cs us)
    (hs : s.run P w = .ok u { w with heap := w.heap.push (.cells (us ++ rest).toArray elem fz), drawn := n })
    (hfz : fz.1 = fz.2 ∨ us.length + rest.length ≤ fz.1)
    (hx : ∀ ρ' : Ren, ρ' h.next = some ⟨w.heap.size, 0, us.length + rest.length, esz⟩ → VR ρ' x u) : Does P Z ρ s w x (h.new (.cells cs elem esz true)) :=
  ⟨u, _, _, hs, Ren.le_upd r.fresh _, r.new elem esz hcs fz hfz n, hx _ (by simp [Ren.upd])⟩

theorem fz0 (n : Nat) : ((0, 0) : Nat × Nat).1 = ((0, 0) : Nat × Nat).2 ∨ n ≤ ((0, 0) : Nat × Nat).1 := .inl rfl

theorem does_newVar {elem : TypeId} {p : Value} {x : V} (r : Rel Z ρ h w) (hp : VRL ρ x.cells p.cells.toList) : Does P Z ρ (do Pure.pure (.pointer (some (← newVar elem p)))) w (.ptr h.next 0) (h.new (.cells x.cells elem 1 true)) := by
  refine Does.alloc (rest := []) (esz := 1) (fz := (0, 0)) (n := w.drawn) (u := .pointer (some ⟨w.heap.size, 0, none⟩)) r hp ?_ (fz0 _) ?_
  · simp [newVar, newRow]
  · intro ρ' hρ
    simp only [VR]
    exact ⟨_, hρ, by simp⟩

theorem does_alloc {elem : TypeId} {z : List V} (r : Rel Z ρ h w) (hz : zeroA P elem = some z) : Does P Z ρ (Instr.alloc elem true (.tuple #[])) w (.ptr h.next 0) (h.new (.cells z elem 1 true)) := by
  obtain ⟨u, h1, h2⟩ := run_zeroA hz w
  obtain ⟨u', w', ρ', k1, k2, k3, k4⟩ := does_newVar (P := P) (elem := elem) (p := u) (x := .agg z) r h2
  exact ⟨u', w', ρ', by simpa [Instr.alloc, h1] using k1, k2, k3, k4⟩

theorem does_load {t : TypeId} {b o : Nat} {p : Value} {v : V} (r : Rel Z ρ h w) (hp : VR ρ (.ptr b o) p) (ht : aggA P t = some false) (hr : h.read b o 1 = some [v]) : Does P Z ρ (Instr.loadAt t p) w v h := by
  obtain ⟨L, hL, rfl⟩ := hp.ptr_inv
  obtain ⟨u, hv, hl⟩ := r.load (P := P) hL hr
  exact Does.pure (by simp only [Instr.loadAt, Instr.sureAddr, loadVar, Sem.run_bind, Sem.run_pure, Result.andThen_ok, run_aggA ht, Bool.false_eq_true, if_false]; exact hl) r hv

theorem does_loadn {t : TypeId} {b o n : Nat} {p : Value} {cs : List V} (r : Rel Z ρ h w) (hp : VR ρ (.ptr b o) p) (ht : aggA P t = some true) (hn : sizeA P t = some n) (hr : h.read b o n = some cs) : Does P Z ρ (Instr.loadAt t p) w (.agg cs) h := by
  obtain ⟨L, hL, rfl⟩ := hp.ptr_inv
  obtain ⟨us, _, hv, hl⟩ := r.loadCells (P := P) hL hr
  refine Does.pure (u := .agg us.toArray) ?_ r (by simp only [VR]; exact ⟨_, rfl, by simpa using hv⟩)
  simp only [Instr.loadAt, Instr.sureAddr, loadVar, Sem.run_bind, Sem.run_pure, Result.andThen_ok, run_aggA ht, if_true, run_sizeA hn, hl]

theorem run_storeVar_ok {t : TypeId} {b o n : Nat} {p u : Value} {v : V} (r : Rel Z ρ h w) (hp : VR ρ (.ptr b o) p) (hv : VR ρ v u) (hn : sizeA P t = some n) (hl : v.cells.length = n) (hw : h.write b o v.cells = some h') :
    ∃ w', (Instr.storeAt t p u).run P w = .ok () w' ∧ Rel Z ρ h' w' := by
  obtain ⟨L, hL, rfl⟩ := hp.ptr_inv
  have hc := hv.cells
  obtain ⟨L', hL', w', h1, h2⟩ := r.write (P := P) hw hc
  have e : L' = L := Option.some.inj (hL'.symm.trans hL)
  subst e
  refine ⟨w', ?_, h2⟩
  have hs : u.cells.size = n := by rw [← hl, ← hc.length, Array.length_toList]
  simp only [Instr.storeAt, Instr.sureAddr, storeVar, Sem.run_bind, Sem.run_pure, Result.andThen_ok, run_sizeA hn, hs, ne_eq, not_true_eq_false, if_false]
  exact h1

theorem does_slice {t el : TypeId} {z : Nat} {x : V} {p : Value} {lo hi mx : Option V} {plo phi pmx : Option Value} {v : V} (r : Rel Z ρ h w) (ht : P.underlying t = some (.slice el)) (hz : sizeA P el = some z)
    (hp : VR ρ x p) (hlo : VRO ρ lo plo) (hhi : VRO ρ hi phi) (hmx : VRO ρ mx pmx) (hs : sliceV h z x lo hi mx = some v) : Does P Z ρ (Instr.sliceAt t p plo phi pmx) w v h := by
  have hu : ∀ w, (underlying t).run P w = .ok (.slice el) w := run_underlying ht
  unfold sliceV at hs
  split at hs
  · -- a nil slice
    simp only [VR] at hp
    subst hp
    split at hs
    · rename_i l rr m hb
      split at hs
      · rename_i hh
        obtain ⟨rfl, rfl, rfl⟩ := hh
        have hs := Option.some.inj hs
        subst hs
        obtain ⟨m', h1, _, _, _, h2, _⟩ := run_bounds (P := P) (w := w) (cap := 0) true hlo hhi hmx (fun c' hc => Option.some.inj hc) (Nat.le_refl _) hb
        have := h2 0 rfl
        subst this
        refine Does.pure (u := .slice none 0 0) ?_ r (by simp only [VR])
        simp [Instr.sliceAt, Instr.slice, hu, h1, run_sizeA hz]
      · cases hs
    · cases hs
  · -- known what it holds
    rename_i b o n c
    obtain ⟨L, ad, cap, hL, hn, _, hk, _, rfl⟩ := hp.slice_inv
    obtain ⟨rfl, rfl⟩ := hk c rfl
    split at hs
    · rename_i l rr m hb
      have hs := Option.some.inj hs
      subst hs
      obtain ⟨m', h1, h2, h3, h4, h5, _⟩ := run_bounds (P := P) (w := w) (cap := cap) true hlo hhi hmx (fun c' hc => Option.some.inj hc) hn hb
      have := h5 m rfl
      subst this
      refine Does.pure (u := .slice (some (if m' = l then ⟨L.block, L.off + o, none⟩ else (⟨L.block, L.off + o, none⟩ : Addr).add (l * z))) (rr - l) (m' - l)) ?_ r (VR.mk_slice hL (by omega) ?_)
      · simp only [Instr.sliceAt, Instr.slice, Sem.run_bind, hu, Result.andThen_ok, h1, run_sizeA hz, Sem.run_pure]
        split <;> rfl
      · split
        · rfl
        · rw [addr_add]; congr 1; omega
    · cases hs
  · -- it holds as much as its block
    rename_i b o n
    split at hs
    · rename_i hn00
      subst hn00
      split at hs
      · rename_i l rr hb
        have hs := Option.some.inj hs
        subst hs
        have hp0 := hp
        obtain ⟨L, ad, cap, hL, hn, ho, _, hroom, rfl⟩ := hp.slice_inv
        obtain ⟨m', h1, h2, h3, h4, _, h6⟩ := run_bounds (P := P) (w := w) (cap := cap) true hlo hhi hmx (fun c' hc => by cases hc) hn hb
        obtain ⟨rfl, _, hrl⟩ := h6 rfl
        have hr0 : rr = 0 := by omega
        have hl0 : l = 0 := by omega
        subst hr0; subst hl0
        refine Does.pure (u := .slice (some ad) 0 m') ?_ r hp0
        have hadd : ad.add (0 * z) = ad := by rw [Nat.zero_mul]; rfl
        simp only [Instr.sliceAt, Instr.slice, Sem.run_bind, hu, Result.andThen_ok, h1, run_sizeA hz, Sem.run_pure, Nat.sub_zero, Option.map_some, hadd]
        split <;> rfl
      · cases hs
    rename_i hn0
    split at hs
    · rename_i cs el' z' own hget
      split at hs
      · rename_i hzz
        subst hzz
        obtain ⟨L, ad, cap, hL, hn, ho, _, hroom, rfl⟩ := hp.slice_inv
        have hroom := hroom rfl
        have hez : L.esz = z' := by
          obtain ⟨L', hL', us, fz, _, _, _, h4, _⟩ := r.live b _ hget
          have e : L' = L := Option.some.inj (hL'.symm.trans hL)
          subst e
          exact h4
        split at hs
        · rename_i l rr m hb
          have hs := Option.some.inj hs
          subst hs
          obtain ⟨m', h1, h2, h3, h4, h5, _⟩ := run_bounds (P := P) (w := w) (cap := cap) true hlo hhi hmx (fun c' hc => by cases hc) hn hb
          have ho := ho.resolve_left (by omega)
          subst ho
          have := h5 m rfl
          subst this
          refine Does.pure (u := .slice (some (if m' = l then ⟨L.block, L.off + o, none⟩ else (⟨L.block, L.off + o, none⟩ : Addr).add (l * z'))) (rr - l) (m' - l)) ?_ r ?_
          · simp only [Instr.sliceAt, Instr.slice, Sem.run_bind, hu, Result.andThen_ok, h1, run_sizeA hz, Sem.run_pure]
            split <;> rfl
          · refine VR.mk_slice hL (by omega) ?_
            split
            · rfl
            · rw [addr_add]; congr 1; omega
        · rename_i l rr hb
          have hs := Option.some.inj hs
          subst hs
          obtain ⟨m', h1, h2, h3, h4, _, h6⟩ := run_bounds (P := P) (w := w) (cap := cap) true hlo hhi hmx (fun c' hc => by cases hc) hn hb
          obtain ⟨rfl, _, _⟩ := h6 rfl
          refine Does.pure (u := .slice (some (if m' = l then ad else ad.add (l * z'))) (rr - l) (m' - l)) ?_ r ?_
          · simp only [Instr.sliceAt, Instr.slice, Sem.run_bind, hu, Result.andThen_ok, h1, run_sizeA hz, Sem.run_pure]
            split <;> rfl
          · by_cases hml : m' = l
            · rw [if_pos hml]
              simp only [VR]
              exact ⟨L, ad, m' - l, hL, Nat.sub_le_sub_right h3 l, .inl (by omega), rfl⟩
            · rw [if_neg hml]
              have ho := ho.resolve_left (by omega)
              subst ho
              have hroom := hroom.resolve_left (by omega)
              simp only [VR]
              refine ⟨L, _, m' - l, hL, Nat.sub_le_sub_right h3 l, .inr ⟨by rw [addr_add, Nat.add_assoc], ?_⟩, rfl⟩
              rw [hez] at hroom ⊢
              have e1 : l * z' + (m' - l) * z' = m' * z' := by rw [← Nat.add_mul]; congr 1; omega
              omega
        · cases hs
      · cases hs
    · cases hs
  · cases hs

end Go.Proofs.YthfbefjmenddkaaDoorA
