-- This session's own words beside the print's (wip/words/Mine.lean.in, laid by wip/lay_mine.py for a seat).
import Derived.Test.YtaaejidllnkpbaaWWords
import Derived.Test.YtaaejidllnkpbaaWLast
import Derived.Test.YtaaejidllnkpbaaWMore
import Derived.Test.YtaaejidllnkpbaaWGuard
import Derived.Test.YtaaejidllnkpbaaWShare
import Derived.Lib.SlBytesConst
import Derived.Lib.ConvBytes
namespace Go.Proofs.YtaaejidllnkpbaaW.PrintWords
open Go.RowKit
/-- The first n operations, those that have run: the bits of m. -/
def bset (n m : Nat) : Array Bool := ((List.range n).map fun i => m.testBit i).toArray
theorem sA_ {α : Type} {l : List α} {i : Nat} {a : α} : l.toArray.setIfInBounds i a = (l.set i a).toArray := List.setIfInBounds_toArray ..
theorem sZ_ {α : Type} {x : α} {xs : List α} {a : α} : (x :: xs).set 0 a = a :: xs := List.set_cons_zero
theorem sS_ {α : Type} {x : α} {xs : List α} {n : Nat} {a : α} : (x :: xs).set (n + 1) a = x :: xs.set n a := List.set_cons_succ
namespace Kd
section
variable {P : Program} {ops : Array Oper} {Q : Exit → Act → World → Prop} {rest : List Oper} {a : Act} {W : World} {o1 o2 : Oper}

/-- Bytes that lie in one block, from its head on. -/
theorem V_block {W : World} {g cap : Nat} {cur : Array Value} {e : TypeId} {fr : Nat × Nat} {xs : List Int} {e' base : Nat} {k : IntKind}
    (hb : W.heap[g]? = some (.cells cur e fr)) (hc : xs.length ≤ cap) (hm : xs.length ≤ 9223372036854775807) (hx : ∀ j, j < xs.length → cur[j]? = some (.int k (xs.getD j 0))) :
    V (Kd.int k) e' W base (fun i => i = g) (.slice (some ⟨g, 0, none⟩) xs.length cap) xs := by
  refine V_mk hc (fun W' hW => ?_)
  have hlt : g < W.heap.size := by
    rcases Nat.lt_or_ge g W.heap.size with h | h
    · exact h
    · rw [Array.getElem?_eq_none h] at hb; cases hb
  have hb' : W'.heap[g]? = some (.cells cur e fr) := (hW g rfl hlt).trans hb
  refine C_of_reads (enc := Value.int k) (d := (0 : Int)) (h1 := fun _ => rfl) ⟨rfl, hm, fun _ => ⟨_, rfl, fun j hj => ?_⟩⟩
  have : ((⟨g, 0, none⟩ : Addr).add j) = ⟨g, j, none⟩ := by cases j <;> simp [Addr.add]
  rw [this]
  simp [World.cell?, hb', hx j hj]

/-- '[]byte("..")' of a constant text: a literal, and the mark behind it. -/
theorem V_strlit (base e t : Nat) (hgd : o1.guard = none) {N : Tmp} (hd : o1.dst = some N) (ho2 : o2.op = .convert t t (.tmp N))
    (hw2 : ∀ v, Region.wanted o2 (yielded ops (a.put (some N) v).tmps) = true) (hev : ∀ v, (a.put (some N) v).eval (.tmp N) = v)
    (ht : P.underlying t = some (.slice e)) (he : P.underlying e = some (.int .u8)) {xs : List Int} {inner : List Value}
    (hrun : (execOp a.eval o1).run P W = .ok (.value (.slice (some ⟨W.heap.size, 0, none⟩) xs.length xs.length)) (W.alloc (.cells inner.toArray e)))
    (hin : inner = xs.map (Value.int .u8)) (hm : xs.length ≤ 9223372036854775807)
    (h : ∀ v1 w1, V (Kd.int .u8) e w1 base (fun k => W.heap.size ≤ k) v1 xs → Below W.heap.size W w1 → wpList P ops Q rest ((a.put (some N) v1).put o2.dst v1) w1) :
    wpList P ops Q (o1 :: o2 :: rest) a W := by
  refine event_run hgd hrun ?_
  rw [hd]
  refine gate_guard (hw2 _) ?_
  have hc := Lib.run_convert_bytes_const (P := P) W t e inner.toArray xs.length xs.length ht he
  have hexec : (execOp (a.put (some N) (.slice (some ⟨W.heap.size, 0, none⟩) xs.length xs.length)).eval { o2 with guard := none }).run P (W.alloc (.cells inner.toArray e))
      = .ok (.value (.slice (some ⟨W.heap.size, 0, none⟩) xs.length xs.length)) (W.alloc (.cells inner.toArray e (inner.toArray.size, inner.toArray.size + 1))) := by
    have ho2' : ({ o2 with guard := none } : Oper).op = .convert t t (.tmp N) := ho2
    unfold execOp
    rw [ho2']
    simp only [hev]
    simp [hc, Result.andThen]
  refine event_run rfl hexec (h _ _ ?_ (below_alloc (Below.refl _ _) _))
  have hb : (W.alloc (.cells inner.toArray e (inner.toArray.size, inner.toArray.size + 1))).heap[W.heap.size]? = some (.cells inner.toArray e (inner.toArray.size, inner.toArray.size + 1)) := by
    show (W.heap.push _)[W.heap.size]? = _
    simp
  refine V_mono (V_block hb (Nat.le_refl _) hm (fun j hj => ?_)) (fun k hk => Nat.le_of_eq hk.symm)
  subst hin
  simp [hj]

/-- '[]byte(s)' of any text: a new row. -/
theorem V_strb {o : Oper} (base e src dst : Nat) (hgd : o.guard = none) {x : Operand} (ho : o.op = .convert src dst x) {s : ByteArray} (hx : a.eval x = .string s)
    {u : TypeDesc} (hs : P.underlying src = some u) (hd : P.underlying dst = some (.slice e)) (he : P.underlying e = some (.int .u8)) (hm : s.size ≤ 9223372036854775807)
    (h : ∀ v1 w1, V (Kd.int .u8) e w1 base (fun k => W.heap.size ≤ k) v1 (bytesOf s) → Below W.heap.size W w1 → wpList P ops Q rest (a.put o.dst v1) w1) :
    wpList P ops Q (o :: rest) a W := by
  have hc := Lib.run_convert_string_bytes (P := P) W src dst e s hs hd he
  have hexec : (execOp a.eval o).run P W = .ok (.value (.slice (some ⟨W.heap.size, 0, none⟩) s.size (grownCap W s.size 0 e))) (Lib.bytesWorld W e s) := by
    unfold execOp
    rw [ho]
    simp only [hx]
    simp [hc, Result.andThen]
  have hl : (bytesOf s).length = s.size := by simp [bytesOf]
  have hsz : s.size ≤ grownCap W s.size 0 e := by simp [grownCap, Question.cut]
  refine event_run hgd hexec (h _ _ ?_ ⟨?_, ?_, ?_, ?_, ?_⟩)
  · have := V_block (e' := e) (base := base) (k := .u8) (xs := bytesOf s) (cap := grownCap W s.size 0 e) (Lib.bytesWorld_at_new W e s) (by rw [hl]; exact hsz) (by rw [hl]; exact hm) (fun j hj => by
      rw [hl] at hj
      have hj' : j < s.data.size := hj
      unfold Lib.bytesCells
      rw [Array.getElem?_append_left (by simpa using hj')]
      simp [bytesOf]
      exact ⟨_, Array.getElem?_eq_getElem hj', by rw [Array.getElem?_eq_getElem hj']; rfl⟩)
    rw [hl] at this
    exact V_mono this (fun k hk => Nat.le_of_eq hk.symm)
  · unfold Lib.bytesWorld World.freeze; split <;> rfl
  · unfold Lib.bytesWorld World.freeze; split <;> rfl
  · unfold Lib.bytesWorld World.freeze; split <;> rfl
  · rw [Lib.bytesWorld_size]; exact Nat.le_succ _
  · intro k hk; exact Lib.bytesWorld_at_old W e s k hk

/-- What came in and is only read: it leads to what is there. -/
theorem V_came {W : World} {A : Option Addr} {c e base : Nat} {xs : List Int} {k : IntKind} (h : (Kd.int k).C W A xs.length xs) (hc : xs.length ≤ c) :
    V (Kd.int k) e W base (fun _ => True) (.slice A xs.length c) xs := by
  refine V_mk hc (fun W' hW => ?_)
  have h2 := reads_of_C (enc := Value.int k) (d := (0 : Int)) (h1 := fun _ => rfl) h
  refine C_of_reads (enc := Value.int k) (d := (0 : Int)) (h1 := fun _ => rfl) ⟨h2.1, h2.2.1, fun hn => ?_⟩
  obtain ⟨ad, he, hcell⟩ := h2.2.2 hn
  refine ⟨ad, he, fun j hj => ?_⟩
  have hq := hcell j hj
  have hlt : (ad.add j).block < W.heap.size := by
    rcases Nat.lt_or_ge (ad.add j).block W.heap.size with h | h
    · exact h
    · simp [World.cell?, Array.getElem?_eq_none h] at hq
  rw [← hq]
  simp [World.cell?, hW _ trivial hlt]
end
end Kd
end Go.Proofs.YtaaejidllnkpbaaW.PrintWords
