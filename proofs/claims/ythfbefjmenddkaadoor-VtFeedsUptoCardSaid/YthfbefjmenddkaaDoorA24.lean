/- A law without parameters: what the abstract machine reckons is what the call gives back, and memory is as it was. -/
import Derived.Test.YthfbefjmenddkaaDoorA20
namespace Go.Proofs.YthfbefjmenddkaaDoorA
open Go

variable {P : Program}

def base0 (P : Program) (W : World) : Base := { W := W, K := fun k => W.heap[k]?, G := P.globals.size }

def ren0 (G : Nat) : Ren := fun g => if g < G then some { block := g, off := 0, room := 0, esz := 0 } else none

def heap0 (G : Nat) : Heap := { next := G, t := .nil }

theorem rel0 (W : World) : Rel (base0 P W) (ren0 P.globals.size) (heap0 P.globals.size) W := by
  refine ⟨rfl, rfl, rfl, fun k o hk => hk, fun b L hb => ?_, fun b B hb => ?_, fun b b' B B' L L' hb => ?_, fun g hg => ?_, fun _ _ _ _ _ _ => rfl, fun _ h => by cases h⟩
  · unfold ren0 at hb
    split at hb
    · assumption
    · cases hb
  · simp [Heap.get, heap0, T.get_nil] at hb
  · simp [Heap.get, heap0, T.get_nil] at hb
  · exact ⟨_, if_pos hg, rfl, rfl⟩

theorem Rel.below {Z : Base} {ρ : Ren} {h : Heap} {W w : World} (r : Rel Z ρ h w) (hW : Z.W = W) (hK : Z.K = fun k => W.heap[k]?) : RowKit.Below W.heap.size W w := by
  refine ⟨by rw [r.os, hW], by rw [r.tape, hW], by rw [r.output, hW], ?_, fun k hk => ?_⟩
  · rcases Nat.lt_or_ge w.heap.size W.heap.size with hlt | hge
    · have h1 := r.keep w.heap.size W.heap[w.heap.size] (by rw [hK]; exact Array.getElem?_eq_getElem hlt)
      exact absurd (Array.getElem?_eq_some_iff.1 h1).1 (Nat.lt_irrefl _)
    · exact hge
  · rw [r.keep k W.heap[k] (by rw [hK]; exact Array.getElem?_eq_getElem hk), Array.getElem?_eq_getElem hk]

theorem closed_calls {tab : Nat → Option AFn} {N n f : Nat} (hm : P.follows .mixedOrders = true) (ht : Holds P tab)
    (hr : (runA tab N n f [] (heap0 P.globals.size)).map (·.1) = some (.bool true)) (W : World) :
    Calls P f #[] W fun e W' => e = .returned (.bool true) ∧ RowKit.Below W.heap.size W W' := by
  cases hrun : runA tab N n f [] (heap0 P.globals.size) with
  | none => rw [hrun] at hr; cases hr
  | some p =>
    obtain ⟨v, h'⟩ := p
    rw [hrun] at hr
    simp only [Option.map_some, Option.some.injEq] at hr
    subst hr
    obtain ⟨_, hc⟩ := answers_run hm ht n f [] _ _ _ hrun (base0 P W) _ W #[] (Nat.le_refl _) (rel0 W) VRL.nil
    refine hc.mono ?_
    rintro e W' ⟨u, ρ', rfl, _, r, hv⟩
    exact ⟨by rw [hv.bool_inv], r.below rfl rfl⟩

end Go.Proofs.YthfbefjmenddkaaDoorA
