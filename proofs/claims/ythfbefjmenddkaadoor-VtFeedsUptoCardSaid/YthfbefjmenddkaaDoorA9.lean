/- append. -/
import Derived.Test.YthfbefjmenddkaaDoorA8
namespace Go.Proofs.YthfbefjmenddkaaDoorA
open Go

variable {P : Program} {Z : Base} {ρ : Ren} {h h' : Heap} {w : World} {a : Act} {e : List V} {v : V} {cf : ACall}

theorem growBy_le (n : Nat) : ∀ (r c : Nat), Builtin.growBy n r c ≤ max c (n + (n + 768) / 4)
  | 0, c => Nat.le_max_left _ _
  | r + 1, c => by
    unfold Builtin.growBy
    split
    · exact Nat.le_max_left _ _
    · have := growBy_le n r (c + (c + 768) / 4)
      omega

theorem nextslicecap_le {n c : Nat} (hc : c < n) : 4 * Builtin.nextslicecap n c ≤ 5 * n + 4096 := by
  unfold Builtin.nextslicecap
  split
  · omega
  · split
    · omega
    · have := growBy_le n 4 c
      omega

theorem room_ok {n c bt : Nat} (hc : c < n) (hb : (n + 1024) * bt ≤ most) : ¬ (Builtin.nextslicecap n c * bt > 2 ^ 48) := by
  have h1 := nextslicecap_le hc
  have h2 : 4 * Builtin.nextslicecap n c * bt ≤ (5 * n + 4096) * bt := Nat.mul_le_mul_right bt h1
  have h3 : (5 * n + 4096) * bt ≤ 5 * ((n + 1024) * bt) := by
    rw [← Nat.mul_assoc]
    exact Nat.mul_le_mul_right bt (by omega)
  have h4 : 4 * Builtin.nextslicecap n c * bt = 4 * (Builtin.nextslicecap n c * bt) := Nat.mul_assoc _ _ _
  unfold most at hb
  omega

def atDrawn (w : World) (d : Nat) : World := { w with drawn := d }

/-- What append does when it knows how much is added: zb: they are the zeros of a 'make'. -/
def appendCore (base : Option Addr) (l c n z : Nat) (el : TypeId) (x : Value) (zb : Bool) (appended : Sem (Array Value)) : Sem Value := do
  if l + n ≤ c then
    let new ← appended
    if let some a := base then storeCells (a.add (l * z)) new.toList
    pure (.slice base (l + n) c)
  else
    if ((l + n : Nat) : Int) > IntKind.i64.max ∧ (zb ∨ (← typeInfo el).bytes = 0) then runtimePanic (.error "growslice: len out of range")
    if Builtin.nextslicecap (l + n) c * (← typeInfo el).bytes > 2 ^ 48 then (if zb then runtimePanic (.error "growslice: len out of range") else do
      if !(← Builtin.mayShare z l n base x) then mark .noRoom
      unsupported (.resourceLimit "append: a slice or a string whose bytes no memory bears"))
    let newCap ← choose (.appendCap (l + n) c el)
    askRoom (newCap * (← typeInfo el).bytes)
    let old ← Builtin.firstCells z l (.slice base l c)
    let new ← appended
    let rest := Builtin.zeroCells (← zeroValue el).cells (newCap - (l + n))
    pure (.slice (some (← newRow el (old ++ new ++ rest))) (l + n) newCap)

theorem core_room {base : Option Addr} {l c n z : Nat} {el : TypeId} {x : Value} {zb : Bool} {s : Sem (Array Value)} {new : Array Value} {w' : World} (hc : l + n ≤ c) (hs : s.run P w = .ok new w)
    (hst : (match base with
      | some a => storeCells (a.add (l * z)) new.toList
      | none => Pure.pure () : Sem Unit).run P w = .ok () w') :
    (appendCore base l c n z el x zb s).run P w = .ok (.slice base (l + n) c) w' := by
  unfold appendCore
  cases base with
  | none =>
    simp only [Sem.run_pure, Result.ok.injEq, true_and] at hst
    subst hst
    simp only [Sem.run_bind, Result.andThen_ok, if_pos hc, hs, Sem.run_pure]
  | some a => simp only at hst; simp only [Sem.run_bind, Result.andThen_ok, if_pos hc, hs, hst, Sem.run_pure]

theorem core_new {base : Option Addr} {l c n z bt : Nat} {el : TypeId} {x : Value} {zb : Bool} {s : Sem (Array Value)} {new old : Array Value} {zero : List V} (hc : ¬ l + n ≤ c) (hbt : bytesA P el = some bt) (hzero : zeroA P el = some zero)
    (hm : (l + n + 1024) * bt ≤ most) (hm' : l + n ≤ most) (hold : ∀ d, (Builtin.firstCells z l (.slice base l c)).run P (atDrawn w d) = .ok old (atDrawn w d)) (hs : ∀ d, s.run P (atDrawn w d) = .ok new (atDrawn w d)) :
    ∃ cap, ∃ rest : List Value, l + n ≤ cap ∧ rest.length = (cap - (l + n)) * zero.length ∧ (appendCore base l c n z el x zb s).run P w =
      .ok (.slice (some ⟨w.heap.size, 0, none⟩) (l + n) cap) { w with heap := w.heap.push (.cells (old.toList ++ new.toList ++ rest).toArray el (0, 0)), drawn := w.drawn + 1 } := by
  obtain ⟨i, hi, hib⟩ := run_bytesA hbt w
  have hi' : ∀ w, (typeInfo el).run P w = .ok i w := by
    unfold typeInfo at hi ⊢
    intro w'
    cases hq : P.info? el with
    | none => simp [hq] at hi
    | some j => simp [hq] at hi ⊢; exact hi
  have hzv : ∃ u, (∀ w, (zeroValue el).run P w = .ok u w) ∧ u.cells.size = zero.length := by
    unfold zeroA at hzero
    cases hq : P.info? el with
    | none => simp [hq] at hzero
    | some j =>
      simp only [hq] at hzero
      cases hzz : j.zero with
      | none => simp [hzz] at hzero
      | some u =>
        simp only [hzz] at hzero
        exact ⟨u, fun w => by simp [zeroValue, typeInfo, hq, hzz], by rw [← Array.length_toList]; exact (absL_ok (ρ := fun _ => none) hzero).length⟩
  obtain ⟨zv, hzv, hzl⟩ := hzv
  have hn1 : ¬ (((l + n : Nat) : Int) > IntKind.i64.max ∧ (zb = true ∨ i.bytes = 0)) := by
    intro hh
    have : IntKind.i64.max = 2 ^ 63 - 1 := by decide
    unfold most at hm'
    omega
  have hn2 : ¬ (Builtin.nextslicecap (l + n) c * i.bytes > 2 ^ 48) := by rw [hib]; exact room_ok (by omega) hm
  let cap := Question.cut (.appendCap (l + n) c el) (w.tape w.drawn (.appendCap (l + n) c el))
  have hcap : l + n ≤ cap := by show l + n ≤ (l + n) + _; omega
  have hcells := hs (w.drawn + 1)
  have hold' := hold (w.drawn + 1)
  unfold atDrawn at hcells hold'
  refine ⟨cap, (Builtin.zeroCells zv.cells (cap - (l + n))).toList, hcap, ?_, ?_⟩
  · simp [Builtin.zeroCells, hzl]
  have hforced : Question.forced (.appendCap (l + n) c el) = false := rfl
  have ea : ∀ zs : Array Value, (old.toList ++ new.toList ++ zs.toList).toArray = old ++ new ++ zs := fun zs => by simp
  rw [ea]
  unfold appendCore
  simp only [Sem.run_bind, Result.andThen_ok, if_neg hc, hi', if_neg hn1, if_neg hn2, run_choose, hforced, Bool.false_eq_true, if_false, run_askRoom, hold', hcells, hzv, newRow, run_newObj, Sem.run_pure]
  rfl

/-- What stands behind: the types of what is appended. -/
structure Adds (P : Program) (argTypes : Array TypeId) (t el : TypeId) (z : Nat) (zb : Bool) : Prop where
  t0 : argTypes[0]? = some t
  u : P.underlying t = some (.slice el)
  sz : sizeA P el = some z
  val : (argTypes[1]? = none ∧ zb = false) ∨ ∃ u d, argTypes[1]? = some u ∧ P.underlying u = some d ∧ (if zb then ∃ k, d = .int k else ∀ k, d ≠ .int k)

theorem append_core {argTypes : Array TypeId} {t el ty : TypeId} {z n : Nat} {x : Value} {base : Option Addr} {l c : Nat} (hA : Adds P argTypes t el z false) (hn : (Builtin.lenOf x).run P w = .ok n w) :
    (Builtin.append_ argTypes ty #[.slice base l c, x]).run P w = (appendCore base l c n z el x false (Builtin.firstCells z n x)).run P w := by
  have hu : ∀ w, (underlying t).run P w = .ok (.slice el) w := run_underlying hA.u
  unfold Builtin.append_ appendCore
  rcases hA.val with ⟨h1, _⟩ | ⟨u, d, h1, h2, h3⟩
  · cases base <;> simp only [hA.t0, h1, List.getElem?_toArray, List.getElem?_cons_zero, List.getElem?_cons_succ, Sem.run_bind, hu, Result.andThen_ok, run_sizeA hA.sz, Sem.run_pure, Bool.false_eq_true, if_false, hn, Bool.not_false, if_true]
  · have hu2 := run_underlying h2
    simp only [Bool.false_eq_true, if_false] at h3
    cases d <;> first
      | exact absurd rfl (h3 _)
      | (cases base <;> simp only [hA.t0, h1, List.getElem?_toArray, List.getElem?_cons_zero, List.getElem?_cons_succ, Sem.run_bind, hu, hu2, Result.andThen_ok, run_sizeA hA.sz, Sem.run_pure, Bool.false_eq_true, if_false, hn, Bool.not_false, if_true])


theorem append_coreZ {argTypes : Array TypeId} {t el ty : TypeId} {z bt : Nat} {m : Int} {base : Option Addr} {l c : Nat} (hA : Adds P argTypes t el z true) (hbt : bytesA P el = some bt) (hm0 : 0 ≤ m) (hm1 : m ≤ most) (hm2 : m * bt ≤ most) :
    (Builtin.append_ argTypes ty #[.slice base l c, .int .i64 m]).run P w = (appendCore base l c m.toNat z el (.int .i64 m) true
      (if m.toNat * z = 0 then pure #[] else do pure (Builtin.zeroCells (← zeroValue el).cells m.toNat))).run P w := by
  have hu : ∀ w, (underlying t).run P w = .ok (.slice el) w := run_underlying hA.u
  obtain ⟨i, hi, hib⟩ := run_bytesA hbt w
  have hwrap : IntKind.i64.wrap m = m := by
    have e1 : IntKind.i64.bits = 64 := rfl
    have e2 : IntKind.i64.signed = true := rfl
    unfold IntKind.wrap
    unfold most at hm1
    simp only [e1, e2, Bool.true_and]
    rw [if_neg (by simp; omega)]
    omega
  have h1 : ¬ (m < 0) := by omega
  have h2 : ¬ (m * (i.bytes : Int) > 2 ^ 48) := by rw [hib]; unfold most at hm2; omega
  unfold Builtin.append_ appendCore
  rcases hA.val with ⟨_, h⟩ | ⟨u, d, h3, h4, h5⟩
  · cases h
  · have hu2 := run_underlying h4
    simp only [if_true] at h5
    obtain ⟨k, rfl⟩ := h5
    cases base <;> simp only [hA.t0, h3, List.getElem?_toArray, List.getElem?_cons_zero, List.getElem?_cons_succ, Sem.run_bind, hu, hu2, Result.andThen_ok, run_sizeA hA.sz, Sem.run_pure, if_true, asInt, asIntOf, hwrap, if_neg h1, hi, if_neg h2, Bool.not_true, Bool.false_eq_true, if_false]

end Go.Proofs.YthfbefjmenddkaaDoorA
