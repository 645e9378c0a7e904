/- Words of symbolic runs on the runes of texts. No condition. -/
import Derived.Test.YthfbefjmenddkaaDoorA43
namespace Go.Proofs.YthfbefjmenddkaaDoorA
open Go
set_option linter.unusedVariables false
noncomputable section
variable {cf : ACall} {e : Env} {h : Heap}

def rangeS (x : V) (h : Heap) : Option (V × Heap) := match x with
  | .str s => some (.ptr h.next 0, h.new (.iter s 0))
  | _ => none
theorem aop_range (x : Opd) : aop cf (.range x) e h = rangeS (x.ev e) h := by
  simp only [aop]
  cases x.ev e <;> rfl
theorem rangeS_str (s : List Nat) : rangeS (.str s) h = some (.ptr h.next 0, h.new (.iter s 0)) := rfl
def nextS (x : V) (h : Heap) : Option (V × Heap) := match x with
  | .ptr b 0 => match h.get b with
    | some (.iter s pos) =>
      if pos < s.length then some (.tuple [.bool true, .int .i64 pos, .int .i32 (utfDec (s.drop pos)).1], h.set b (some (.iter s (pos + (utfDec (s.drop pos)).2))))
      else some (.tuple [.bool false], h)
    | _ => none
  | _ => none
theorem aop_next (x : Opd) : aop cf (.next x) e h = nextS (x.ev e) h := by
  simp only [aop, nextS]
  cases x.ev e with
  | ptr b o =>
    cases o with
    | zero =>
      cases h.get b with
      | none => rfl
      | some B => cases B <;> rfl
    | succ o => rfl
  | _ => rfl
theorem nextS_more {b pos : Nat} {s : List Nat} (hg : h.get b = some (.iter s pos)) (hp : pos < s.length) :
    nextS (.ptr b 0) h = some (.tuple [.bool true, .int .i64 pos, .int .i32 (utfDec (s.drop pos)).1], h.set b (some (.iter s (pos + (utfDec (s.drop pos)).2)))) := by
  simp only [nextS, hg]; rw [if_pos hp]
theorem nextS_end {b pos : Nat} {s : List Nat} (hg : h.get b = some (.iter s pos)) (hp : ¬ pos < s.length) : nextS (.ptr b 0) h = some (.tuple [.bool false], h) := by
  simp only [nextS, hg]; rw [if_neg hp]
def runesStrS (x : V) (h : Heap) : Option (V × Heap) := match x with
  | .nilslice => some (.str [], h)
  | .slice b o n _ => match h.read b o n with
    | some cs => (runesEnc cs).map fun s => (.str s, h)
    | none => none
  | _ => none
theorem aop_runesStr (x : Opd) : aop cf (.runesStr x) e h = runesStrS (x.ev e) h := by
  simp only [aop]
  cases x.ev e with
  | slice b o n c =>
    simp only [runesStrS]
    cases h.read b o n <;> rfl
  | _ => rfl
/-- The bytes of runes. -/
def encL (l : List Int) : List Nat := (l.map utfEnc).flatten
theorem runesEnc_ints : ∀ l : List Int, runesEnc (l.map (V.int .i32)) = some (encL l)
  | [] => rfl
  | z :: l => by simp only [List.map_cons, runesEnc, runesEnc_ints l, Option.map_some, encL, List.flatten_cons]
theorem runesStrS_of {v : V} {l : List Int} (hs : slK .i32 h v = some l) : runesStrS v h = some (.str (encL l), h) := by
  rcases rd_isS (sl_rd (slK_sl hs)) with ⟨rfl, hl⟩ | ⟨b, o, n, c, rfl, hn, hr⟩
  · have : l = [] := by cases l with | nil => rfl | cons x l => simp at hl
    subst this; rfl
  · rw [Nat.mul_one] at hr
    simp only [runesStrS, hr, runesEnc_ints, Option.map_some]

/-- A run within a run. -/
theorem ends_in {r : Out} {K : Out → Out} {F Q : AExit → Env → Heap → Prop} (hl : Ends r F) (hk : ∀ x e' h', F x e' h' → Ends (K (some (x, e', h'))) Q) : Ends (K r) Q := by
  obtain ⟨x, e', h', h1, h2⟩ := hl
  rw [h1]; exact hk x e' h' h2

/-! The runes of a text, by its bytes. -/
theorem utfDec_pos (s : List Nat) : 1 ≤ (utfDec s).2 := by
  unfold utfDec
  simp only
  repeat' split
  all_goals simp
def runesF : Nat → List Nat → List Int
  | 0, _ => []
  | f + 1, s => if s.length = 0 then [] else ((utfDec s).1 : Int) :: runesF f (s.drop (utfDec s).2)
/-- The runes of a text. -/
def runesL (s : List Nat) : List Int := runesF s.length s
theorem runesF_fuel : ∀ (f : Nat) (s : List Nat), s.length ≤ f → runesF f s = runesL s := by
  have key : ∀ (n f g : Nat) (s : List Nat), s.length ≤ n → s.length ≤ f → s.length ≤ g → runesF f s = runesF g s := by
    intro n
    induction n with
    | zero =>
      intro f g s hn hf hg
      have h0 : s.length = 0 := by omega
      have e : ∀ k, runesF k s = [] := fun k => by cases k with | zero => rfl | succ k => simp only [runesF]; rw [if_pos h0]
      rw [e f, e g]
    | succ n ih =>
      intro f g s hn hf hg
      by_cases h0 : s.length = 0
      · have e : ∀ k, runesF k s = [] := fun k => by cases k with | zero => rfl | succ k => simp only [runesF]; rw [if_pos h0]
        rw [e f, e g]
      · have hp := utfDec_pos s
        obtain ⟨f, rfl⟩ : ∃ k, f = k + 1 := ⟨f - 1, by omega⟩
        obtain ⟨g, rfl⟩ : ∃ k, g = k + 1 := ⟨g - 1, by omega⟩
        simp only [runesF]
        rw [if_neg h0, if_neg h0, ih f g (s.drop (utfDec s).2) (by rw [List.length_drop]; omega) (by rw [List.length_drop]; omega) (by rw [List.length_drop]; omega)]
  exact fun f s h => key s.length f s.length s (Nat.le_refl _) h (Nat.le_refl _)
theorem runesL_nil : runesL [] = [] := rfl
theorem runesL_cons {s : List Nat} (hs : 0 < s.length) : runesL s = ((utfDec s).1 : Int) :: runesL (s.drop (utfDec s).2) := by
  have hp := utfDec_pos s
  obtain ⟨k, hk⟩ : ∃ k, s.length = k + 1 := ⟨s.length - 1, by omega⟩
  unfold runesL
  rw [hk]
  simp only [runesF]
  rw [if_neg (by omega), runesF_fuel k _ (by rw [List.length_drop]; omega)]
  rfl
theorem runesL_drop {s : List Nat} {i : Nat} (hi : i < s.length) : runesL (s.drop i) = ((utfDec (s.drop i)).1 : Int) :: runesL (s.drop (i + (utfDec (s.drop i)).2)) := by
  rw [runesL_cons (by rw [List.length_drop]; omega), List.drop_drop]
theorem runesL_length : ∀ (n : Nat) (s : List Nat), s.length ≤ n → (runesL s).length ≤ s.length
  | 0, s, hn => by
    have : s = [] := List.length_eq_zero_iff.1 (by omega)
    subst this; simp [runesL_nil]
  | n + 1, s, hn => by
    by_cases h0 : s.length = 0
    · have : s = [] := List.length_eq_zero_iff.1 h0
      subst this; simp [runesL_nil]
    · have hp := utfDec_pos s
      rw [runesL_cons (by omega), List.length_cons]
      have := runesL_length n (s.drop (utfDec s).2) (by rw [List.length_drop]; omega)
      rw [List.length_drop] at this
      omega
theorem runesL_le (s : List Nat) : (runesL s).length ≤ s.length := runesL_length _ s (Nat.le_refl _)

/-- Two new blocks: where they stand in the run. -/
def two (b2 δ b3 : Nat) : Nat → Nat × Nat := fun i => if i = 0 then (b2, δ) else (b3, 0)
theorem moved_two0 (n b2 δ b3 : Nat) : moved n (two b2 δ b3) n = (b2, δ) := by
  rw [moved_at]; rfl
theorem moved_two1 (n b2 δ b3 : Nat) : moved n (two b2 δ b3) (n + 1) = (b3, 0) := by
  rw [moved_add]; rfl
/-- One old block turned, two new ones. -/
theorem Canon.mod2 {h2 : Heap} {p t z b2 δ b3 t' t'' : Nat} {cs cs2 nc nc2 mc : List V} {v v2 : V} (hf : Fresh h) (hsc : Scoped h) (hp : p < h.next) (hk : ∀ b B, b ≠ p → h.get b = some B → h2.get b = some B) (hg : h2.get p = some (.cells cs2 t z true)) (hlen : cs.length = cs2.length)
    (hcs : ∀ (i : Nat) v, cs[i]? = some v → ∃ x, cs2[i]? = some x ∧ VC h2 (moved h.next (two b2 δ b3)) (h.next + 2) v x) (hb : h.next ≤ b2) (hg2 : h2.get b2 = some (.cells nc2 t' 1 true)) (hl : δ + nc.length ≤ nc2.length) (hnc : ∀ (i : Nat) v, nc[i]? = some v → nc2[δ + i]? = some v) (hfl : ltL 0 nc)
    (hb3 : h.next ≤ b3) (hne : b2 ≠ b3) (hg3 : h2.get b3 = some (.cells mc t'' 1 true)) (hfl3 : ltL 0 mc)
    (hv : VC h2 (moved h.next (two b2 δ b3)) (h.next + 2) v v2) : Canon h.next h2 v2 (((h.set p (some (.cells cs t z true))).new (.cells nc t' 1 true)).new (.cells mc t'' 1 true)) v (moved h.next (two b2 δ b3)) := by
  refine Canon.news (h := h) (hb := h.set p (some (.cells cs t z true))) (Bs := [.cells nc t' 1 true, .cells mc t'' 1 true]) (τs := two b2 δ b3) rfl (fun b B hB => ?_) (fun b B hB => ?_) (fun i B hi => ?_) hv
  · rw [Heap.get_set] at hB
    split at hB
    · rename_i e; rw [e]; exact hp
    · exact hf.lt hB
  · rw [Heap.get_set] at hB
    split at hB
    · rename_i e
      have hB := Option.some.inj hB
      subst hB
      subst e
      exact ⟨.cells cs2 t z true, hg, rfl, rfl, rfl, by omega, fun i v hi => by have := hcs i v hi; rw [Nat.zero_add]; exact this⟩
    · rename_i e
      exact ⟨B, hk b B e hB, BC.refl (fun _ hb => moved_old hb) (by omega) fun cs t z own he => hsc b cs t z own (he ▸ hB)⟩
  · cases i with
    | zero =>
      simp only [List.getElem?_cons_zero, Option.some.injEq] at hi
      subst hi
      refine ⟨hb, fun j hj he => ?_, .cells nc2 t' 1 true, hg2, rfl, rfl, rfl, hl, fun i v hi => ⟨v, hnc i v hi, VC.refl (n0 := 0) (fun b hb => by omega) (Nat.zero_le _) v (ltL_mem.1 hfl v (List.mem_of_getElem? hi))⟩⟩
      rcases Nat.eq_zero_or_pos j with h0 | h0
      · exact h0.symm
      · unfold two at he
        rw [if_pos rfl, if_neg (by omega)] at he
        exact absurd he hne
    | succ i =>
      cases i with
      | succ i => simp at hi
      | zero =>
        simp only [List.getElem?_cons_succ, List.getElem?_cons_zero, Option.some.injEq] at hi
        subst hi
        refine ⟨hb3, fun j hj he => ?_, .cells mc t'' 1 true, hg3, rfl, rfl, rfl, ?_, fun i v hi => ⟨v, ?_, VC.refl (n0 := 0) (fun b hb => by omega) (Nat.zero_le _) v (ltL_mem.1 hfl3 v (List.mem_of_getElem? hi))⟩⟩
        · have hj2 : j < 2 := hj
          rcases Nat.eq_zero_or_pos j with h0 | h0
          · subst h0
            unfold two at he
            rw [if_neg (by omega), if_pos rfl] at he
            exact absurd he.symm hne
          · omega
        · show 0 + mc.length ≤ mc.length; omega
        · show mc[0 + i]? = some v; rw [Nat.zero_add]; exact hi

end
end Go.Proofs.YthfbefjmenddkaaDoorA
