/- Rows with blocks that may be made at several places: symbolic runs. -/
import Derived.Test.YthfbefjmenddkaaDoorA38
namespace Go.Proofs.YthfbefjmenddkaaDoorA
open Go
set_option linter.unusedVariables false
set_option linter.unusedSimpArgs false
noncomputable section

variable {cf : ACall} {N : Nat} {e : Env} {h h' : Heap} {n0 : Nat}

def traceG (cf : ACall) (n0 : Nat) : Nat → List (List Nat) → List It → List AOper → Env → Heap → Option (List It)
  | _, _, done, [], _, _ => some done
  | i, ac, done, o :: os, e, h => match stepF cf (n0 + i) done o e (actH n0 done (ac.headD []) h) with
    | none => none
    | some (v, h') => traceG cf n0 (i + 1) ac.tail (done ++ [⟨o, v, h'⟩]) os (put e o.dst v) (if isWriter o.op then h' else h)

theorem traceF_eq (acts : List (List Nat)) : ∀ (os : List AOper) (done : List It) (e : Env) (h : Heap), traceF cf n0 acts done os e h = traceG cf n0 done.length (acts.drop done.length) done os e h
  | [], done, e, h => by simp only [traceF, traceG]
  | o :: os, done, e, h => by
    have h1 : (acts.drop done.length).headD [] = acts.getD done.length [] := by
      rw [List.headD_eq_head?_getD, List.head?_drop, List.getD_eq_getElem?_getD]
    simp only [traceF, traceG, h1]
    cases stepF cf (n0 + done.length) done o e (actH n0 done (acts.getD done.length []) h) with
    | none => rfl
    | some p =>
      obtain ⟨v, h'⟩ := p
      simp only
      rw [traceF_eq acts os]
      simp [List.tail_drop]

def consG (cf : ACall) (n0 i : Nat) (ac : List (List Nat)) (done : List It) (o : AOper) (os : List AOper) (e : Env) (h : Heap) (x : Option (V × Heap)) : Option (List It) := match x with
  | none => none
  | some (v, h') => traceG cf n0 (i + 1) ac (done ++ [⟨o, v, h'⟩]) os (put e o.dst v) (bif isWriter o.op then h' else h)
theorem traceG_nil (i : Nat) (ac : List (List Nat)) (done : List It) (e : Env) (h : Heap) : traceG cf n0 i ac done [] e h = some done := by simp only [traceG]
theorem traceG_cons (i : Nat) (a : List Nat) (ac : List (List Nat)) (done : List It) (o : AOper) (os : List AOper) (e : Env) (h : Heap) :
    traceG cf n0 i (a :: ac) done (o :: os) e h = consG cf n0 i ac done o os e h (stepF cf (n0 + i) done o e (actH n0 done a h)) := by
  simp only [traceG, consG, List.headD_cons, List.tail_cons]
  cases stepF cf (n0 + i) done o e (actH n0 done a h) with
  | none => rfl
  | some p => simp only; cases isWriter o.op <;> rfl
theorem consG_some (i : Nat) (ac : List (List Nat)) (done : List It) (o : AOper) (os : List AOper) (e : Env) (h : Heap) (v : V) (h' : Heap) :
    consG cf n0 i ac done o os e h (some (v, h')) = traceG cf n0 (i + 1) ac (done ++ [⟨o, v, h'⟩]) os (put e o.dst v) (bif isWriter o.op then h' else h) := rfl

def viewS (cf : ACall) (x : Option It) (o : AOper) (e : Env) : Option (V × Heap) := match x with
  | some y => stepV cf o e y.h
  | none => none
theorem viewS_some (o' : AOper) (v : V) (h : Heap) (o : AOper) (e : Env) : viewS cf (some ⟨o', v, h⟩) o e = stepV cf o e h := rfl
def floatS (cf : ACall) (n : Nat) (done : List It) (d : Option Nat) (op : AOp) (g : Option (Nat × Bool)) (e : Env) : Option (V × Heap) := match op with
  | .float k op => bif isAlloc op then stepV cf ⟨d, op, g⟩ e (bare0 n) else bif isReader op then viewS cf done[k]? ⟨d, op, g⟩ e else none
  | _ => none
theorem floatS_float (n : Nat) (done : List It) (d : Option Nat) (k : Nat) (op : AOp) (g : Option (Nat × Bool)) (e : Env) :
    floatS cf n done d (.float k op) g e = bif isAlloc op then stepV cf ⟨d, op, g⟩ e (bare0 n) else bif isReader op then viewS cf done[k]? ⟨d, op, g⟩ e else none := rfl
theorem stepF_bif (n : Nat) (done : List It) (d : Option Nat) (op : AOp) (g : Option (Nat × Bool)) (e : Env) (h : Heap) :
    stepF cf n done ⟨d, op, g⟩ e h = bif isF op then floatS cf n done d op g e else stepV cf ⟨d, op, g⟩ e h := by
  unfold stepF
  split
  · rename_i k op' hop
    simp only at hop
    subst hop
    simp only [isF, cond_true, floatS_float, viewS]
    cases isAlloc op' <;> cases isReader op' <;> simp
    cases done[k]? <;> rfl
  · rename_i hne
    have : isF op = false := by
      cases op <;> first
        | rfl
        | exact absurd rfl (hne _ _)
    rw [this]; rfl

def fltS (cf : ACall) (e : Env) (h : Heap) (acts : List (List Nat)) (n : Nat) (chk : List (Nat × Nat)) (x : Option (List It)) : Out := match x with
  | some l => bif chkOk cf l e (h.gap n) chk then some (.normal, envL (fun _ => true) 0 l e, actH h.next l (acts.getD n []) (heapL (fun _ => true) 0 l (h.gap n))) else none
  | none => none
theorem exec_float (ops : List AOper) (acts : List (List Nat)) (chk : List (Nat × Nat)) (e : Env) (h : Heap) :
    execA cf N (.floatRegion ops acts chk) e h = fltS cf e h acts ops.length chk (traceG cf h.next 0 acts [] ops e (h.gap ops.length)) := by
  have := traceF_eq (cf := cf) (n0 := h.next) acts ops [] e (h.gap ops.length)
  simp only [List.length_nil, List.drop_zero] at this
  simp only [execA, fltS, this]
  cases traceG cf h.next 0 acts [] ops e (h.gap ops.length) with
  | none => rfl
  | some l => simp only; cases chkOk cf l e (h.gap ops.length) chk <;> rfl
theorem fltS_some (e : Env) (h : Heap) (acts : List (List Nat)) (n : Nat) (chk : List (Nat × Nat)) (l : List It) :
    fltS cf e h acts n chk (some l) = bif chkOk cf l e (h.gap n) chk then some (.normal, envL (fun _ => true) 0 l e, actH h.next l (acts.getD n []) (heapL (fun _ => true) 0 l (h.gap n))) else none := rfl

def act1 (n0 i : Nat) (x : Option It) (h : Heap) : Heap := match x with
  | some x => match x.h.get (n0 + i) with
    | some B => h.set (n0 + i) (some B)
    | none => h
  | none => h
theorem actH_nil (n0 : Nat) (done : List It) (h : Heap) : actH n0 done [] h = h := rfl
theorem actH_cons1 (n0 : Nat) (done : List It) (i : Nat) (is : List Nat) (h : Heap) : actH n0 done (i :: is) h = actH n0 done is (act1 n0 i done[i]? h) := by
  simp only [actH, act1]
  cases done[i]? <;> rfl
theorem act1_new (n0 i : Nat) (o : AOper) (v : V) (B : Blk) (h : Heap) : act1 n0 i (some ⟨o, v, (bare0 (n0 + i)).new B⟩) h = h.set (n0 + i) (some B) := by
  have : ((bare0 (n0 + i)).new B).get (n0 + i) = some B := by rw [Heap.get_new]; exact if_pos rfl
  simp only [act1, this]
theorem act1_bare (n0 i : Nat) (o : AOper) (v : V) (h : Heap) : act1 n0 i (some ⟨o, v, bare0 (n0 + i)⟩) h = h := by
  have : (bare0 (n0 + i)).get (n0 + i) = none := by simp [bare0, Heap.get, T.get_nil]
  simp only [act1, this]
theorem get_gap (h : Heap) (n b : Nat) : (h.gap n).get b = h.get b := rfl
theorem act1_new0 (n0 : Nat) (o : AOper) (v : V) (B : Blk) (h : Heap) : act1 n0 0 (some ⟨o, v, (bare0 n0).new B⟩) h = h.set n0 (some B) := act1_new n0 0 o v B h
theorem act1_bare0 (n0 : Nat) (o : AOper) (v : V) (h : Heap) : act1 n0 0 (some ⟨o, v, bare0 n0⟩) h = h := act1_bare n0 0 o v h
theorem read_gap (h : Heap) (n b o k : Nat) : (h.gap n).read b o k = h.read b o k := rfl
theorem sl_gap (h : Heap) (n z : Nat) (v : V) : sl (h.gap n) z v = sl h z v := rfl
theorem slB_gap (h : Heap) (n : Nat) (v : V) : slB (h.gap n) v = slB h v := rfl
theorem slK_gap (k : IntKind) (h : Heap) (n : Nat) (v : V) : slK k (h.gap n) v = slK k h v := rfl
theorem next_gap (h : Heap) (n : Nat) : (h.gap n).next = h.next + n := rfl
theorem Fresh.gap {n : Nat} (hf : Fresh h) : Fresh (h.gap n) := fun b hb => hf b (by rw [next_gap] at hb; omega)
theorem Ext.gap (h : Heap) (n : Nat) : Ext h (h.gap n) := ⟨Nat.le_add_right _ _, fun b hb => rfl⟩


/-- One old block turned, one new one. -/
theorem Canon.mod1 {h2 : Heap} {p t z b2 δ t' : Nat} {cs cs2 nc nc2 : List V} {v v2 : V} (hf : Fresh h) (hsc : Scoped h) (hp : p < h.next) (hk : ∀ b B, b ≠ p → h.get b = some B → h2.get b = some B) (hg : h2.get p = some (.cells cs2 t z true)) (hlen : cs.length = cs2.length)
    (hcs : ∀ (i : Nat) v, cs[i]? = some v → ∃ x, cs2[i]? = some x ∧ VC h2 (moved h.next fun _ => (b2, δ)) (h.next + 1) v x) (hb : h.next ≤ b2) (hg2 : h2.get b2 = some (.cells nc2 t' 1 true)) (hl : δ + nc.length ≤ nc2.length) (hnc : ∀ (i : Nat) v, nc[i]? = some v → nc2[δ + i]? = some v) (hfl : ltL 0 nc)
    (hv : VC h2 (moved h.next fun _ => (b2, δ)) (h.next + 1) v v2) : Canon h.next h2 v2 ((h.set p (some (.cells cs t z true))).new (.cells nc t' 1 true)) v (moved h.next fun _ => (b2, δ)) := by
  refine Canon.news (h := h) (hb := h.set p (some (.cells cs t z true))) (Bs := [.cells nc t' 1 true]) (τs := fun _ => (b2, δ)) rfl (fun b B hB => ?_) (fun b B hB => ?_) (fun i B hi => ?_) hv
  · rw [Heap.get_set] at hB
    split at hB
    · rename_i e; rw [e]; exact hp
    · exact hf.lt hB
  · rw [Heap.get_set] at hB
    split at hB
    · rename_i e
      have hB := Option.some.inj hB
      subst hB
      subst e
      exact ⟨.cells cs2 t z true, hg, rfl, rfl, rfl, by omega, fun i v hi => by have := hcs i v hi; rw [Nat.zero_add]; exact this⟩
    · rename_i e
      exact ⟨B, hk b B e hB, BC.refl (fun _ hb => moved_old hb) (by omega) fun cs t z own he => hsc b cs t z own (he ▸ hB)⟩
  · cases i with
    | succ i => simp at hi
    | zero =>
      simp only [List.getElem?_cons_zero, Option.some.injEq] at hi
      subst hi
      refine ⟨hb, fun j hj _ => by have : j < 1 := hj; omega, .cells nc2 t' 1 true, hg2, rfl, rfl, rfl, hl, fun i v hi => ⟨v, hnc i v hi, VC.refl (n0 := 0) (fun b hb => by omega) (Nat.zero_le _) v (ltL_mem.1 hfl v (List.mem_of_getElem? hi))⟩⟩

end
end Go.Proofs.YthfbefjmenddkaaDoorA
