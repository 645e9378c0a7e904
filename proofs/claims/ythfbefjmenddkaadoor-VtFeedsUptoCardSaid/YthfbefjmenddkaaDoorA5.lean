/- The operations: what the abstract machine does, the model does. First those that turn no memory. -/
import Derived.Test.YthfbefjmenddkaaDoorA4
import Derived.Laws.StructEq
namespace Go.Proofs.YthfbefjmenddkaaDoorA
open Go

variable {P : Program} {Z : Base} {ρ : Ren} {h h' : Heap} {w : World} {a : Act} {e : Env} {v : V} {cf : ACall}

/-- The computation ends in a world and a value that answer the abstract ones. -/
def Does (P : Program) (Z : Base) (ρ : Ren) (s : Sem Value) (w : World) (v : V) (h' : Heap) : Prop :=
  ∃ u w' ρ', s.run P w = .ok u w' ∧ ρ.le ρ' ∧ Rel Z ρ' h' w' ∧ VR ρ' v u

theorem Does.pure {s : Sem Value} {u : Value} (hs : s.run P w = .ok u w) (r : Rel Z ρ h w) (hv : VR ρ v u) : Does P Z ρ s w v h :=
  ⟨u, w, ρ, hs, Ren.le_refl ρ, r, hv⟩

def DoesN (P : Program) (Z : Base) (ρ : Ren) (s : Sem Next) (w : World) (v : V) (h' : Heap) : Prop :=
  ∃ u w' ρ', (s.run P w = .ok (.value u) w' ∨ (s.run P w = .ok .skip w' ∧ u = undef)) ∧ ρ.le ρ' ∧ Rel Z ρ' h' w' ∧ VR ρ' v u

theorem Does.next {s : Sem Value} (hd : Does P Z ρ s w v h') : DoesN P Z ρ (do Pure.pure (.value (← s))) w v h' := by
  obtain ⟨u, w', ρ', h1, h2, h3, h4⟩ := hd
  exact ⟨u, w', ρ', .inl (by simp [h1]), h2, h3, h4⟩

theorem absC_ok : ∀ {u : Value} {v : V}, absC u = some v → VR ρ v u := by
  intro u v hu
  unfold absC at hu
  split at hu <;> first
    | (have hu := Option.some.inj hu; subst hu; simp [VR]; done)
    | (have hu := Option.some.inj hu; subst hu; simp only [VR]; exact ⟨_, rfl, rfl⟩)
    | cases hu

theorem absL_ok : ∀ {us : List Value} {vs : List V}, absL us = some vs → VRL ρ vs us
  | [], vs, hu => by simp only [absL] at hu; have hu := Option.some.inj hu; subst hu; exact VRL.nil
  | u :: us, vs, hu => by
    simp only [absL] at hu
    split at hu
    · rename_i v vs' h1 h2
      have hu := Option.some.inj hu
      subst hu
      exact VRL.cons (absC_ok h1) (absL_ok h2)
    · cases hu

theorem absK_ok {u : Value} {v : V} (hu : absK u = some v) : VR ρ v u := by
  unfold absK at hu
  split at hu
  · rename_i us
    cases hl : absL us.toList with
    | none => simp [hl] at hu
    | some vs => simp [hl] at hu; subst hu; simp only [VR]; exact ⟨us, rfl, absL_ok hl⟩
  · rename_i us
    cases hl : absL us.toList with
    | none => simp [hl] at hu
    | some vs => simp [hl] at hu; subst hu; simp only [VR]; exact ⟨us, rfl, absL_ok hl⟩
  · rename_i f ps qs
    split at hu
    · rename_i hc
      simp only [Bool.and_eq_true, List.isEmpty_iff] at hc
      have hu := Option.some.inj hu
      subst hu
      simp only [VR]
      exact ⟨ps, qs, rfl, by rw [hc.1]; exact VRL.nil, by rw [hc.2]; exact VRL.nil⟩
    · cases hu
  · exact absC_ok hu

/-- The temporaries answer one another. -/
def ER (ρ : Ren) (e : Env) (tmps : Array Value) : Prop := e.n = tmps.size ∧ ∀ i, VR ρ (e.at i) (tmps.getD i Go.undef)

theorem ER.mono {ρ' : Ren} {tmps : Array Value} (he : ER ρ e tmps) (hle : ρ.le ρ') : ER ρ' e tmps := ⟨he.1, fun i => (he.2 i).mono hle _ _⟩

theorem ER.put {tmps : Array Value} {u : Value} (he : ER ρ e tmps) (hv : VR ρ v u) (d : Nat) : ER ρ (e.put d v) (tmps.setIfInBounds d u) := by
  refine ⟨by rw [Env.n_put]; simpa using he.1, fun i => ?_⟩
  rw [Env.at_put, he.1]
  simp only [Array.getD_eq_getD_getElem?, Array.getElem?_setIfInBounds]
  have h0 := he.2 i
  simp only [Array.getD_eq_getD_getElem?] at h0
  by_cases hi : i = d
  · subst hi
    by_cases hd : i < tmps.size
    · simpa [hd] using hv
    · have : tmps[i]? = none := by simp; omega
      simpa [hd, this] using h0
  · have : ¬ d = i := fun e => hi e.symm
    simpa [hi, this] using h0

theorem ER.init {args : List V} {us : Array Value} {n : Nat} (ha : VRL ρ args us.toList) : ER ρ (Env.init args n) (us ++ Array.replicate (n - us.size) Go.undef) := by
  have hl : us.size = args.length := by rw [← ha.length, Array.length_toList]
  refine ⟨by simp only [Env.init, Array.size_append, Array.size_replicate, hl]; split <;> omega, fun i => ?_⟩
  unfold Env.init Env.at
  simp only
  rw [Env.fill_get]
  simp only [Nat.zero_le, true_and, Nat.zero_add, Nat.sub_zero, T.get_nil, Array.getD_eq_getD_getElem?]
  by_cases hi : i < args.length
  · rw [if_pos hi, Array.getElem?_append_left (by omega)]
    have hg : args[i]? = some args[i] := List.getElem?_eq_getElem hi
    obtain ⟨u, h1, h2⟩ := ha.get hg
    rw [Array.getElem?_toList] at h1
    rw [hg, h1]
    exact h2
  · rw [if_neg hi, Array.getElem?_append_right (by omega)]
    have : (Array.replicate (n - us.size) Go.undef)[i - us.size]?.getD Go.undef = Go.undef := by
      rw [Array.getElem?_replicate]
      split <;> rfl
    rw [this]
    exact VR.undef

theorem cOpd_ok {x : Operand} {y : Opd} (hG : P.globals.size ≤ Z.G) (hx : cOpd P x = some y) (r : Rel Z ρ h w) (he : ER ρ e a.tmps) : VR ρ (y.ev e) (a.eval x) := by
  cases x with
  | tmp t =>
    simp only [cOpd] at hx
    have hx := Option.some.inj hx
    subst hx
    exact he.2 t
  | const u =>
    simp only [cOpd] at hx
    cases hk : absK u with
    | none => simp [hk] at hx
    | some v => simp [hk] at hx; subst hx; exact absK_ok hk
  | global g =>
    simp only [cOpd] at hx
    split at hx
    · rename_i hg
      have hx := Option.some.inj hx
      subst hx
      obtain ⟨L, h1, h2, h3⟩ := r.glob g (by omega)
      simp only [Opd.ev, VR, Act.eval]
      exact ⟨L, h1, by rw [h2, h3]⟩
    · cases hx
  | func f =>
    simp only [cOpd] at hx
    have hx := Option.some.inj hx
    subst hx
    simp only [Opd.ev, VR, Act.eval]
    exact ⟨#[], #[], rfl, VRL.nil, VRL.nil⟩

theorem cOpds_ok (hG : P.globals.size ≤ Z.G) (r : Rel Z ρ h w) (he : ER ρ e a.tmps) : ∀ {xs : List Operand} {ys : List Opd}, cOpds P xs = some ys → VRL ρ (ys.map (·.ev e)) (xs.map a.eval)
  | [], ys, hx => by simp only [cOpds] at hx; have hx := Option.some.inj hx; subst hx; exact VRL.nil
  | x :: xs, ys, hx => by
    simp only [cOpds] at hx
    split at hx
    · rename_i y ys' h1 h2
      have hx := Option.some.inj hx
      subst hx
      exact VRL.cons (cOpd_ok hG h1 r he) (cOpds_ok hG r he h2)
    · cases hx

/-! ### Inversions -/

theorem VR.int_inv {k : IntKind} {n : Int} {u : Value} (hv : VR ρ (.int k n) u) : u = .int k n := by simpa only [VR] using hv
theorem VR.bool_inv {b : Bool} {u : Value} (hv : VR ρ (.bool b) u) : u = .bool b := by simpa only [VR] using hv
theorem VR.str_inv {s : List Nat} {u : Value} (hv : VR ρ (.str s) u) : ∃ bs : ByteArray, u = .string bs ∧ bs.data.toList.map UInt8.toNat = s := by simpa only [VR] using hv
theorem VR.ptr_inv {b o : Nat} {u : Value} (hv : VR ρ (.ptr b o) u) : ∃ L, ρ b = some L ∧ u = .pointer (some ⟨L.block, L.off + o, none⟩) := by simpa only [VR] using hv
theorem VR.agg_inv {cs : List V} {u : Value} (hv : VR ρ (.agg cs) u) : ∃ xs : Array Value, u = .agg xs ∧ VRL ρ cs xs.toList := by simpa only [VR] using hv
theorem VR.tuple_inv {cs : List V} {u : Value} (hv : VR ρ (.tuple cs) u) : ∃ xs : Array Value, u = .tuple xs ∧ VRL ρ cs xs.toList := by simpa only [VR] using hv
theorem VR.mk_int {k : IntKind} {n : Int} : VR ρ (.int k n) (.int k n) := by simp only [VR]
theorem VR.mk_bool {b : Bool} : VR ρ (.bool b) (.bool b) := by simp only [VR]
theorem VR.mk_str {bs : ByteArray} {s : List Nat} (hs : bs.data.toList.map UInt8.toNat = s) : VR ρ (.str s) (.string bs) := by simp only [VR]; exact ⟨bs, rfl, hs⟩

/-- A slice, known or not how much it may hold. -/
theorem VR.slice_inv {b o n : Nat} {c : Option Nat} {u : Value} (hv : VR ρ (.slice b o n c) u) : ∃ L ad cap, ρ b = some L ∧ n ≤ cap ∧ (cap = 0 ∨ ad = (⟨L.block, L.off + o, none⟩ : Addr)) ∧ (∀ c', c = some c' → cap = c' ∧ ad = (⟨L.block, L.off + o, none⟩ : Addr)) ∧
    (c = none → cap = 0 ∨ o + cap * L.esz ≤ L.room) ∧ u = .slice (some ad) n cap := by
  cases c with
  | none =>
    simp only [VR] at hv
    obtain ⟨L, ad, cap, h1, h2, h3, h4⟩ := hv
    exact ⟨L, ad, cap, h1, h2, h3.imp id (fun h => h.1), fun c' hc => (by cases hc), fun _ => h3.imp id (fun h => h.2), h4⟩
  | some c =>
    simp only [VR] at hv
    obtain ⟨L, h1, h2, h3⟩ := hv
    exact ⟨L, _, c, h1, h2, .inr rfl, fun c' hc => ⟨Option.some.inj hc, rfl⟩, fun hc => (by cases hc), h3⟩

theorem map_toNat_inj : ∀ {a b : List UInt8}, a.map UInt8.toNat = b.map UInt8.toNat → a = b
  | [], [], _ => rfl
  | [], _ :: _, h => by simp at h
  | _ :: _, [], h => by simp at h
  | x :: a, y :: b, h => by
    simp only [List.map_cons, List.cons.injEq] at h
    rw [UInt8.toNat_inj.1 h.1, map_toNat_inj h.2]

theorem ba_ext {x y : ByteArray} (hxy : x.data.toList.map UInt8.toNat = y.data.toList.map UInt8.toNat) : x = y := by
  have h1 : x.data.toList = y.data.toList := map_toNat_inj hxy
  cases x; cases y
  simp only [ByteArray.mk.injEq]
  exact Array.toList_inj.1 h1

theorem ba_size (bs : ByteArray) : bs.size = bs.data.toList.length := by
  show bs.data.size = _
  rw [Array.length_toList]

/-! ### Reckoning -/

theorem run_binInt {op : BinOp} {k : IntKind} {x y : Int} {v : V} (t : TypeId) (hs : isShift op = false) (hb : binInt op k x y = some v) : ∃ u, (binOp op t (.int k x) (.int k y)).run P w = .ok u w ∧ VR ρ v u := by
  cases op <;> simp only [binInt, isShift, wrapF_eq, ← modK_eq] at hb hs <;> first
    | (cases hs; done)
    | (cases hb; done)
    | (have hb := Option.some.inj hb; subst hb; exact ⟨_, by simp [binOp, Op.intArith, Op.intBits, Op.intCmp]; rfl, by simp only [VR]⟩)
    | (have hb := Option.some.inj hb; subst hb; exact ⟨_, by simp [binOp, Op.intArith, Op.intBits, Op.intCmp], by simp only [VR]⟩)
    | (split at hb
       · cases hb
       · rename_i hy
         have hb := Option.some.inj hb
         subst hb
         exact ⟨_, by simp [binOp, Op.intDiv, hy]; rfl, by simp only [VR]⟩)

theorem run_shiftInt {op : BinOp} {k k' : IntKind} {x y : Int} {v : V} (t : TypeId) (hb : shiftInt op k x y = some v) : ∃ u, (binOp op t (.int k x) (.int k' y)).run P w = .ok u w ∧ VR ρ v u := by
  unfold shiftInt at hb
  simp only [wrapF_eq, powF] at hb
  split at hb
  · cases hb
  · rename_i hy
    cases op <;> first
      | (simp at hb; done)
      | (have hb := Option.some.inj hb; subst hb; exact ⟨_, by simp [binOp, Op.shift, hy]; rfl, by simp only [VR]⟩)

theorem bytesLess_eq : ∀ (a b : List UInt8), Op.bytesLess a b = strLess (a.map UInt8.toNat) (b.map UInt8.toNat)
  | [], [] => rfl
  | _ :: _, [] => rfl
  | [], _ :: _ => rfl
  | x :: a, y :: b => by
    simp only [Op.bytesLess, strLess, List.map_cons, bytesLess_eq a b]
    have h1 : decide (x < y) = decide (x.toNat < y.toNat) := by simp [UInt8.lt_iff_toNat_lt]
    have h2 : (x == y) = (x.toNat == y.toNat) := by
      rw [Bool.eq_iff_iff]; simp [UInt8.toNat_inj]
    rw [h1, h2]

theorem list_eq_map (a b : List UInt8) : (a == b) = (a.map UInt8.toNat == b.map UInt8.toNat) := by
  rw [Bool.eq_iff_iff]
  simp only [beq_iff_eq]
  exact ⟨fun h => by rw [h], map_toNat_inj⟩

theorem ba_toList (bs : ByteArray) : bs.toList = bs.data.toList := by
  exact ByteArray.toList_eq bs

theorem run_binStr {op : BinOp} {x y : List Nat} {p q : ByteArray} {v : V} (t : TypeId) (hp : p.data.toList.map UInt8.toNat = x) (hq : q.data.toList.map UInt8.toNat = y) (hb : binStr op x y = some v) :
    ∃ u, (binOp op t (.string p) (.string q)).run P w = .ok u w ∧ VR ρ v u := by
  subst hp; subst hq
  have he : (p.toList == q.toList) = (p.data.toList.map UInt8.toNat == q.data.toList.map UInt8.toNat) := by rw [ba_toList, ba_toList, list_eq_map]
  have hl : Op.bytesLess p.toList q.toList = strLess (p.data.toList.map UInt8.toNat) (q.data.toList.map UInt8.toNat) := by rw [ba_toList, ba_toList, bytesLess_eq]
  cases op <;> simp only [binStr] at hb <;> first
    | (cases hb; done)
    | (split at hb
       · rename_i hle
         have hb := Option.some.inj hb
         subst hb
         have hle' : ¬ (((p.size + q.size : Nat) : Int) > IntKind.i64.max) := by
           rw [ba_size, ba_size]
           simp only [List.length_map] at hle
           have : IntKind.i64.max = 2 ^ 63 - 1 := by decide
           omega
         refine ⟨.string (p ++ q), by simp only [binOp, Op.stringOp, if_neg hle']; rfl, VR.mk_str ?_⟩
         simp
       · cases hb)
    | (have hb := Option.some.inj hb; subst hb; exact ⟨_, by simp only [binOp, Op.stringOp, he, hl]; rfl, by simp only [VR]⟩)

theorem run_bin {op : BinOp} {x y v : V} {p q : Value} (t : TypeId) (hp : VR ρ x p) (hq : VR ρ y q) (hb : bin op x y = some v) : ∃ u, (binOp op t p q).run P w = .ok u w ∧ VR ρ v u := by
  unfold bin at hb
  split at hb
  · rename_i k a k' b
    have e1 := hp.int_inv
    have e2 := hq.int_inv
    subst e1; subst e2
    split at hb
    · exact run_shiftInt t hb
    · rename_i hs
      split at hb
      · rename_i hk
        subst hk
        exact run_binInt t (by simpa using hs) hb
      · cases hb
  · obtain ⟨p', rfl, h1⟩ := hp.str_inv
    obtain ⟨q', rfl, h2⟩ := hq.str_inv
    exact run_binStr t h1 h2 hb
  · cases hb

/-- The guard in front of a comparison lets numbers and texts by. -/
theorem run_eqGuard_bin {op : BinOp} {x y v : V} {p q : Value} (t : TypeId) (X Y : Operand) (hp : VR ρ x p) (hq : VR ρ y q) (hb : bin op x y = some v) : (eqGuard op t X Y p q).run P w = .ok () w := by
  unfold bin at hb
  split at hb
  · have e1 := hp.int_inv
    have e2 := hq.int_inv
    subst e1; subst e2
    unfold eqGuard
    split <;> rfl
  · obtain ⟨p', rfl, h1⟩ := hp.str_inv
    obtain ⟨q', rfl, h2⟩ := hq.str_inv
    unfold eqGuard
    split <;> rfl
  · cases hb

end Go.Proofs.YthfbefjmenddkaaDoorA
