/- Summaries, up to the numbers of the blocks: what a function leaves behind may be told with blocks numbered anew, and without those that nobody names. -/
import Derived.Test.YthfbefjmenddkaaDoorA30
namespace Go.Proofs.YthfbefjmenddkaaDoorA
open Go
set_option linter.unusedVariables false
set_option linter.unusedSimpArgs false

variable {P : Program} {Z : Base} {ρ : Ren} {h h' h2 : Heap} {w w' W : World} {cf : ACall}

mutual
/-- All blocks that the value names are below n. -/
def V.lt (n : Nat) : V → Prop
  | .ptr b _ => b < n
  | .slice b _ _ _ => b < n
  | .func _ p q => ltL n p ∧ ltL n q
  | .iface _ v => V.lt n v
  | .agg l => ltL n l
  | .tuple l => ltL n l
  | _ => True
def ltL (n : Nat) : List V → Prop
  | [] => True
  | v :: vs => V.lt n v ∧ ltL n vs
end

mutual
/-- A value as it is told, and what it is in the run's own heap. -/
def VC (h2 : Heap) (τ : Nat → Nat × Nat) (n : Nat) : V → V → Prop
  | .ptr b o, x => b < n ∧ x = .ptr (τ b).1 ((τ b).2 + o)
  | .slice b o k (some c), x => b < n ∧ x = .slice (τ b).1 ((τ b).2 + o) k (some c)
  | .slice b o k none, x => b < n ∧ ∃ c, x = .slice (τ b).1 ((τ b).2 + o) k c ∧ ∀ m, c = some m → ∃ cs t z own, h2.get (τ b).1 = some (.cells cs t z own) ∧ (τ b).2 + o + m * z ≤ cs.length
  | .func f p q, x => ∃ p' q', x = .func f p' q' ∧ VCL h2 τ n p p' ∧ VCL h2 τ n q q'
  | .iface t v, x => ∃ y, x = .iface t y ∧ VC h2 τ n v y
  | .agg l, x => ∃ l', x = .agg l' ∧ VCL h2 τ n l l'
  | .tuple l, x => ∃ l', x = .tuple l' ∧ VCL h2 τ n l l'
  | .bool b, x => x = .bool b
  | .int k i, x => x = .int k i
  | .str s, x => x = .str s
  | .nilptr, x => x = .nilptr
  | .nilslice, x => x = .nilslice
  | .nilfunc, x => x = .nilfunc
  | .niliface, x => x = .niliface
def VCL (h2 : Heap) (τ : Nat → Nat × Nat) (n : Nat) : List V → List V → Prop
  | [], l => l = []
  | v :: vs, l => ∃ x xs, l = x :: xs ∧ VC h2 τ n v x ∧ VCL h2 τ n vs xs
end

mutual
theorem VC.refl {τ : Nat → Nat × Nat} {n0 n : Nat} (hτ : ∀ b, b < n0 → τ b = (b, 0)) (hn : n0 ≤ n) : ∀ v : V, V.lt n0 v → VC h2 τ n v v
  | .ptr b o, h => by simp only [V.lt] at h; simp only [VC, hτ b h]; exact ⟨by omega, by simp⟩
  | .slice b o k (some c), h => by simp only [V.lt] at h; simp only [VC, hτ b h]; exact ⟨by omega, by simp⟩
  | .slice b o k none, h => by simp only [V.lt] at h; simp only [VC, hτ b h]; exact ⟨by omega, none, by simp, fun m hm => by cases hm⟩
  | .func f p q, h => by simp only [V.lt] at h; simp only [VC]; exact ⟨p, q, rfl, VCL.refl hτ hn p h.1, VCL.refl hτ hn q h.2⟩
  | .iface t v, h => by simp only [V.lt] at h; simp only [VC]; exact ⟨v, rfl, VC.refl hτ hn v h⟩
  | .agg l, h => by simp only [V.lt] at h; simp only [VC]; exact ⟨l, rfl, VCL.refl hτ hn l h⟩
  | .tuple l, h => by simp only [V.lt] at h; simp only [VC]; exact ⟨l, rfl, VCL.refl hτ hn l h⟩
  | .bool _, _ => by simp only [VC]
  | .int _ _, _ => by simp only [VC]
  | .str _, _ => by simp only [VC]
  | .nilptr, _ => by simp only [VC]
  | .nilslice, _ => by simp only [VC]
  | .nilfunc, _ => by simp only [VC]
  | .niliface, _ => by simp only [VC]
theorem VCL.refl {τ : Nat → Nat × Nat} {n0 n : Nat} (hτ : ∀ b, b < n0 → τ b = (b, 0)) (hn : n0 ≤ n) : ∀ l : List V, ltL n0 l → VCL h2 τ n l l
  | [], _ => by simp only [VCL]
  | v :: vs, h => by simp only [ltL] at h; simp only [VCL]; exact ⟨v, vs, rfl, VC.refl hτ hn v h.1, VCL.refl hτ hn vs h.2⟩
end

mutual
theorem V.lt_mono {n m : Nat} (hnm : n ≤ m) : ∀ v : V, V.lt n v → V.lt m v
  | .ptr b o, h => by simp only [V.lt] at h ⊢; omega
  | .slice b o k c, h => by simp only [V.lt] at h ⊢; omega
  | .func f p q, h => by simp only [V.lt] at h ⊢; exact ⟨ltL_mono hnm p h.1, ltL_mono hnm q h.2⟩
  | .iface t v, h => by simp only [V.lt] at h ⊢; exact V.lt_mono hnm v h
  | .agg l, h => by simp only [V.lt] at h ⊢; exact ltL_mono hnm l h
  | .tuple l, h => by simp only [V.lt] at h ⊢; exact ltL_mono hnm l h
  | .bool _, _ => by simp only [V.lt]
  | .int _ _, _ => by simp only [V.lt]
  | .str _, _ => by simp only [V.lt]
  | .nilptr, _ => by simp only [V.lt]
  | .nilslice, _ => by simp only [V.lt]
  | .nilfunc, _ => by simp only [V.lt]
  | .niliface, _ => by simp only [V.lt]
theorem ltL_mono {n m : Nat} (hnm : n ≤ m) : ∀ l : List V, ltL n l → ltL m l
  | [], _ => by simp only [ltL]
  | v :: vs, h => by simp only [ltL] at h ⊢; exact ⟨V.lt_mono hnm v h.1, ltL_mono hnm vs h.2⟩
end

theorem ltL_mem {n : Nat} : ∀ {l : List V}, ltL n l ↔ ∀ v ∈ l, V.lt n v
  | [] => by simp [ltL]
  | v :: vs => by simp [ltL, ltL_mem (l := vs)]

mutual
theorem VR.lt {n : Nat} (hd : ∀ b L, ρ b = some L → b < n) : ∀ (v : V) (u : Value), VR ρ v u → V.lt n v
  | .ptr b o, _, h => by simp only [VR] at h; obtain ⟨L, h1, _⟩ := h; simp only [V.lt]; exact hd b L h1
  | .slice b o k (some c), _, h => by simp only [VR] at h; obtain ⟨L, h1, _⟩ := h; simp only [V.lt]; exact hd b L h1
  | .slice b o k none, _, h => by simp only [VR] at h; obtain ⟨L, _, _, h1, _⟩ := h; simp only [V.lt]; exact hd b L h1
  | .func f p q, _, h => by simp only [VR] at h; obtain ⟨ps, qs, _, h2, h3⟩ := h; simp only [V.lt]; exact ⟨VRL.lt hd p _ h2, VRL.lt hd q _ h3⟩
  | .iface t v, _, h => by simp only [VR] at h; obtain ⟨x, _, h2⟩ := h; simp only [V.lt]; exact VR.lt hd v _ h2
  | .agg l, _, h => by simp only [VR] at h; obtain ⟨x, _, h2⟩ := h; simp only [V.lt]; exact VRL.lt hd l _ h2
  | .tuple l, _, h => by simp only [VR] at h; obtain ⟨x, _, h2⟩ := h; simp only [V.lt]; exact VRL.lt hd l _ h2
  | .bool _, _, _ => by simp only [V.lt]
  | .int _ _, _, _ => by simp only [V.lt]
  | .str _, _, _ => by simp only [V.lt]
  | .nilptr, _, _ => by simp only [V.lt]
  | .nilslice, _, _ => by simp only [V.lt]
  | .nilfunc, _, _ => by simp only [V.lt]
  | .niliface, _, _ => by simp only [V.lt]
theorem VRL.lt {n : Nat} (hd : ∀ b L, ρ b = some L → b < n) : ∀ (l : List V) (us : List Value), VRL ρ l us → ltL n l
  | [], _, _ => by simp only [ltL]
  | v :: vs, _, h => by simp only [VRL] at h; obtain ⟨x, xs, _, h2, h3⟩ := h; simp only [ltL]; exact ⟨VR.lt hd v _ h2, VRL.lt hd vs _ h3⟩
end

/-- No block names a block that is still to come. -/
def Scoped (h : Heap) : Prop := ∀ b cs t z own, h.get b = some (.cells cs t z own) → ltL h.next cs

theorem Rel.scoped (r : Rel Z ρ h w) : Scoped h := fun b cs t z own hb => by
  obtain ⟨L, h1, us, fz, _, _, _, _, _, h6⟩ := r.live b _ hb
  rw [ltL_mem]
  intro v hv
  obtain ⟨i, hi⟩ := List.mem_iff_getElem?.1 hv
  obtain ⟨u, _, k2⟩ := h6 i v hi
  exact VR.lt r.dom v u k2

/-- Where the blocks that are told lie. -/
def Ren.sh (ρ : Ren) (τ : Nat → Nat × Nat) (n : Nat) : Ren := fun b => if b < n then (ρ (τ b).1).map fun L => ⟨L.block, L.off + (τ b).2, L.room - (τ b).2, L.esz⟩ else none

theorem Ren.sh_some {τ : Nat → Nat × Nat} {n b : Nat} {L : Loc} (hb : b < n) (hL : ρ (τ b).1 = some L) : ρ.sh τ n b = some ⟨L.block, L.off + (τ b).2, L.room - (τ b).2, L.esz⟩ := by
  unfold Ren.sh; rw [if_pos hb, hL]; rfl

mutual
theorem VC.rel {τ : Nat → Nat × Nat} {n : Nat} (r : Rel Z ρ h2 w) : ∀ (v x : V) (u : Value), VC h2 τ n v x → VR ρ x u → VR (ρ.sh τ n) v u
  | .ptr b o, x, u, h, k => by
    simp only [VC] at h
    obtain ⟨hb, rfl⟩ := h
    simp only [VR] at k ⊢
    obtain ⟨L, k1, rfl⟩ := k
    exact ⟨_, Ren.sh_some hb k1, by simp [Nat.add_assoc]⟩
  | .slice b o m (some c), x, u, h, k => by
    simp only [VC] at h
    obtain ⟨hb, rfl⟩ := h
    simp only [VR] at k ⊢
    obtain ⟨L, k1, k2, rfl⟩ := k
    exact ⟨_, Ren.sh_some hb k1, k2, by simp [Nat.add_assoc]⟩
  | .slice b o m none, x, u, h, k => by
    simp only [VC] at h
    obtain ⟨hb, c, rfl, hc⟩ := h
    cases c with
    | none =>
      simp only [VR] at k ⊢
      obtain ⟨L, ad, cap, k1, k2, k3, rfl⟩ := k
      refine ⟨_, ad, cap, Ren.sh_some hb k1, k2, ?_, rfl⟩
      rcases k3 with k3 | ⟨k3, k4⟩
      · exact .inl k3
      · exact .inr ⟨by rw [k3]; simp [Nat.add_assoc], by simp only; omega⟩
    | some c =>
      simp only [VR] at k ⊢
      obtain ⟨L, k1, k2, rfl⟩ := k
      obtain ⟨cs, t, z, own, hg, hle⟩ := hc c rfl
      obtain ⟨L', h1, us, fz, _, hroom, _, hez, _⟩ := r.live _ _ hg
      have e : L' = L := Option.some.inj (h1.symm.trans k1)
      subst e
      refine ⟨_, ⟨L'.block, L'.off + ((τ b).2 + o), none⟩, c, Ren.sh_some hb k1, k2, .inr ⟨by simp [Nat.add_assoc], ?_⟩, rfl⟩
      simp only [hez]; omega
  | .func f p q, x, u, h, k => by
    simp only [VC] at h
    obtain ⟨p', q', rfl, h1, h3⟩ := h
    simp only [VR] at k ⊢
    obtain ⟨ps, qs, rfl, k1, k2⟩ := k
    exact ⟨ps, qs, rfl, VCL.rel r p _ _ h1 k1, VCL.rel r q _ _ h3 k2⟩
  | .iface t v, x, u, h, k => by
    simp only [VC] at h
    obtain ⟨y, rfl, h1⟩ := h
    simp only [VR] at k ⊢
    obtain ⟨x, rfl, k1⟩ := k
    exact ⟨x, rfl, VC.rel r v _ _ h1 k1⟩
  | .agg l, x, u, h, k => by
    simp only [VC] at h
    obtain ⟨y, rfl, h1⟩ := h
    simp only [VR] at k ⊢
    obtain ⟨x, rfl, k1⟩ := k
    exact ⟨x, rfl, VCL.rel r l _ _ h1 k1⟩
  | .tuple l, x, u, h, k => by
    simp only [VC] at h
    obtain ⟨y, rfl, h1⟩ := h
    simp only [VR] at k ⊢
    obtain ⟨x, rfl, k1⟩ := k
    exact ⟨x, rfl, VCL.rel r l _ _ h1 k1⟩
  | .bool _, x, u, h, k => by simp only [VC] at h; subst h; simp only [VR] at k ⊢; exact k
  | .int _ _, x, u, h, k => by simp only [VC] at h; subst h; simp only [VR] at k ⊢; exact k
  | .str _, x, u, h, k => by simp only [VC] at h; subst h; simp only [VR] at k ⊢; exact k
  | .nilptr, x, u, h, k => by simp only [VC] at h; subst h; simp only [VR] at k ⊢; exact k
  | .nilslice, x, u, h, k => by simp only [VC] at h; subst h; simp only [VR] at k ⊢; exact k
  | .nilfunc, x, u, h, k => by simp only [VC] at h; subst h; simp only [VR] at k ⊢; exact k
  | .niliface, x, u, h, k => by simp only [VC] at h; subst h; simp only [VR] at k ⊢; exact k
theorem VCL.rel {τ : Nat → Nat × Nat} {n : Nat} (r : Rel Z ρ h2 w) : ∀ (l x : List V) (us : List Value), VCL h2 τ n l x → VRL ρ x us → VRL (ρ.sh τ n) l us
  | [], x, us, h, k => by simp only [VCL] at h; subst h; simp only [VRL] at k ⊢; exact k
  | v :: vs, x, us, h, k => by
    simp only [VCL] at h
    obtain ⟨y, ys, rfl, h1, h3⟩ := h
    simp only [VRL] at k ⊢
    obtain ⟨x, xs, rfl, k1, k2⟩ := k
    exact ⟨x, xs, rfl, VC.rel r v _ _ h1 k1, VCL.rel r vs _ _ h3 k2⟩
end

/-- A block as it is told, and what it is in the run's own heap, from the cell δ on. -/
def BC (h2 : Heap) (τ : Nat → Nat × Nat) (n δ : Nat) : Blk → Blk → Prop
  | .cells cs t z own, .cells cs2 t2 z2 own2 => t2 = t ∧ z2 = z ∧ own2 = own ∧ δ + cs.length ≤ cs2.length ∧ ∀ i v, cs[i]? = some v → ∃ x, cs2[δ + i]? = some x ∧ VC h2 τ n v x
  | .iter s p, .iter s2 p2 => s2 = s ∧ p2 = p ∧ δ = 0
  | _, _ => False

theorem BC.ro {τ : Nat → Nat × Nat} {n δ : Nat} {B B2 : Blk} (hb : BC h2 τ n δ B B2) (h : B2.ro = true) : B.ro = true := by
  cases B with
  | cells cs t z own =>
    cases B2 with
    | iter s p => exact hb.elim
    | cells cs2 t2 z2 own2 => obtain ⟨_, _, e, _⟩ := hb; subst e; exact h
  | iter s p =>
    cases B2 with
    | cells cs2 t2 z2 own2 => exact hb.elim
    | iter s2 p2 => exact h

/-- The heap and the value as they are told, and what they are in the run. -/
structure Canon (n0 : Nat) (h2 : Heap) (v2 : V) (h' : Heap) (v : V) (τ : Nat → Nat × Nat) : Prop where
  old : ∀ b, b < n0 → τ b = (b, 0)
  le : n0 ≤ h'.next
  live : ∀ b B, h'.get b = some B → b < h'.next ∧ ∃ B2, h2.get (τ b).1 = some B2 ∧ BC h2 τ h'.next (τ b).2 B B2
  inj : ∀ b b' B B', h'.get b = some B → h'.get b' = some B' → (τ b).1 = (τ b').1 → b = b'
  val : VC h2 τ h'.next v v2

theorem BC.rel {τ : Nat → Nat × Nat} {n δ : Nat} {L : Loc} {B B2 : Blk} (r : Rel Z ρ h2 w) (hb : BC h2 τ n δ B B2) (k : BR Z ρ w L B2) : BR Z (ρ.sh τ n) w ⟨L.block, L.off + δ, L.room - δ, L.esz⟩ B := by
  cases B with
  | cells cs t z own =>
    cases B2 with
    | iter s p => exact hb.elim
    | cells cs2 t2 z2 own2 =>
      obtain ⟨rfl, rfl, rfl, h4, h5⟩ := hb
      obtain ⟨us, fz, k1, k2, k3, k4, k5, k6⟩ := k
      refine ⟨us, fz, k1, ?_, ?_, k4, k5, ?_⟩
      · simp only; omega
      · simp only; omega
      · intro i v hi
        obtain ⟨x, hx, hv⟩ := h5 i v hi
        obtain ⟨u, hu, hr⟩ := k6 _ x hx
        exact ⟨u, by simpa [Nat.add_assoc] using hu, hv.rel r _ _ _ hr⟩
  | iter s p =>
    cases B2 with
    | cells cs2 t2 z2 own2 => exact hb.elim
    | iter s2 p2 =>
      obtain ⟨rfl, rfl, rfl⟩ := hb
      obtain ⟨bs, k1, k2, k3, k4⟩ := k
      exact ⟨bs, k1, k2, by simpa using k3, k4⟩

theorem Canon.rel {n0 : Nat} {v v2 : V} {τ : Nat → Nat × Nat} (c : Canon n0 h2 v2 h' v τ) (r : Rel Z ρ h2 w) (hG : Z.G ≤ n0) (hR : ∀ b, Z.R b = true → b < n0) : Rel Z (ρ.sh τ h'.next) h' w := by
  refine ⟨r.os, r.tape, r.output, r.keep, fun b L hb => ?_, fun b B hb => ?_, fun b b' B B' L L' hb hb' h1 h3 he => ?_, fun g hg => ?_, fun b B L hb hro hL => ?_, fun b hb => ?_⟩
  · unfold Ren.sh at hb
    split at hb
    · assumption
    · cases hb
  · obtain ⟨h1, B2, h3, h4⟩ := c.live b B hb
    obtain ⟨L, h5, h6⟩ := r.live _ _ h3
    exact ⟨_, Ren.sh_some h1 h5, h4.rel r h6⟩
  · obtain ⟨k1, B2, k2, k3⟩ := c.live b B hb
    obtain ⟨q1, B2', q2, q3⟩ := c.live b' B' hb'
    obtain ⟨L1, k4, _⟩ := r.live _ _ k2
    obtain ⟨L2, q4, _⟩ := r.live _ _ q2
    rw [Ren.sh_some k1 k4] at h1
    rw [Ren.sh_some q1 q4] at h3
    have h1 := Option.some.inj h1
    have h3 := Option.some.inj h3
    subst h1; subst h3
    rcases r.inj _ _ _ _ _ _ k2 q2 k4 q4 he with h | ⟨h, h'⟩
    · exact .inl (c.inj b b' B B' hb hb' h)
    · exact .inr ⟨k3.ro h, q3.ro h'⟩
  · obtain ⟨L, h1, h3, h4⟩ := r.glob g hg
    have hτ := c.old g (by omega)
    have hlt : g < h'.next := Nat.lt_of_lt_of_le (by omega) c.le
    exact ⟨_, Ren.sh_some hlt (by rw [hτ]; exact h1), h3, by rw [hτ]; simpa using h4⟩
  · obtain ⟨k1, B2, k2, k3⟩ := c.live b B hb
    obtain ⟨L1, k4, _⟩ := r.live _ _ k2
    rw [Ren.sh_some k1 k4] at hL
    have hL := Option.some.inj hL
    subst hL
    refine r.hid _ B2 L1 k2 ?_ k4
    cases B with
    | iter s p => cases hro
    | cells cs t z own =>
      cases B2 with
      | iter s p => exact k3.elim
      | cells cs2 t2 z2 own2 => obtain ⟨_, _, e, _⟩ := k3; subst e; exact hro
  · have hlt := hR b hb
    refine ⟨Nat.lt_of_lt_of_le hlt c.le, ?_⟩
    unfold Ren.sh
    rw [c.old b hlt]
    simp only [(r.res b hb).2]
    split <;> rfl

/-- A summary stands, if the body's run gives what it says, up to the blocks' numbers. -/
theorem answers_can {f : Nat} {g : Func} {fn : AFn} {spec : List V → Heap → Option (V × Heap)} (hm : P.follows .mixedOrders = true) (hcf : Answers P cf) (hg : P.funcs[f]? = some g) (hc : compFn P g = some fn)
    (hs : ∀ args h v h', Fresh h → Scoped h → ltL h.next args → spec args h = some (v, h') → ∃ N v2 h2 τ, bodyA cf N fn args h = some (v2, h2) ∧ Canon h.next h2 v2 h' v τ) : Answers P (withSum cf f spec) := by
  intro f' args h v h' hr Z ρ w us hG r ha
  unfold withSum at hr
  split at hr
  · rename_i hf
    subst hf
    obtain ⟨N, v2, h2, τ, k1, k2⟩ := hs args h v h' r.fresh' r.scoped (VRL.lt r.dom _ _ ha) hr
    obtain ⟨q1, q2⟩ := answers_body hm hcf hg hc k1 hG r ha
    refine ⟨q1, q2.mono ?_⟩
    rintro e w' ⟨u, ρ', rfl, p1, p2, p3⟩
    have hGn : Z.G ≤ h.next := by
      rcases Nat.lt_or_ge h.next Z.G with hlt | hge
      · obtain ⟨L, h1, _⟩ := r.glob h.next hlt
        exact absurd (r.dom _ _ h1) (Nat.lt_irrefl _)
      · exact hge
    refine ⟨u, ρ'.sh τ h'.next, rfl, fun b L hb => ?_, k2.rel p2 hGn (fun b hb => (r.res b hb).1), k2.val.rel p2 _ _ _ p3⟩
    have hlt := r.dom b L hb
    have hτ := k2.old b hlt
    have := Ren.sh_some (ρ := ρ') (τ := τ) (n := h'.next) (Nat.lt_of_lt_of_le hlt k2.le) (by rw [hτ]; exact p1 b L hb)
    rw [this, hτ]
    simp
  · exact hcf f' args h v h' hr Z ρ w us hG r ha

end Go.Proofs.YthfbefjmenddkaaDoorA
