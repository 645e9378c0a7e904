/- Runs over values that are not known: the words with which 'simp' goes through a function's body. -/
import Derived.Test.YthfbefjmenddkaaDoorA27
namespace Go.Proofs.YthfbefjmenddkaaDoorA
open Go

noncomputable section

theorem at_init (args : List V) (n i : Nat) : (Env.init args n).at i = args.getD i .undef := by
  unfold Env.init Env.at
  simp only
  rw [Env.fill_get]
  simp only [Nat.zero_le, true_and, Nat.zero_add, Nat.sub_zero, T.get_nil]
  by_cases hi : i < args.length
  · rw [if_pos hi]; simp [List.getD_eq_getElem?_getD, List.getElem?_eq_getElem hi]
  · rw [if_neg hi]; simp [List.getD_eq_getElem?_getD, List.getElem?_eq_none (by omega : args.length ≤ i)]

theorem n_init (args : List V) (n : Nat) : (Env.init args n).n = if args.length < n then n else args.length := rfl

/-- A value that is there only if the test stands. -/
def gdv (q : Bool) (v : V) : V := bif q then v else .undef
theorem gdv_true (v : V) : gdv true v = v := rfl
theorem gdv_false (v : V) : gdv false v = .undef := rfl

/-- Does the value let the guarded operation run? -/
def wantV (v : V) (w : Bool) : Bool := match v with
  | .bool b => b == w
  | _ => false
theorem wantV_true (b : Bool) : wantV (.bool b) true = b := by cases b <;> rfl
theorem wantV_false (b : Bool) : wantV (.bool b) false = !b := by cases b <;> rfl
theorem wantV_undef (w : Bool) : wantV .undef w = false := rfl
theorem wantV_gdv_true (q b : Bool) : wantV (gdv q (.bool b)) true = (q && b) := by cases q <;> cases b <;> rfl
theorem wantV_gdv_false (q b : Bool) : wantV (gdv q (.bool b)) false = (q && !b) := by cases q <;> cases b <;> rfl

def gstep (q : Bool) (x : Option (V × Heap)) (d : Option Nat) (e : Env) (h : Heap) : Option (Env × Heap) :=
  bif q then (match x with
    | some (v, h') => some (put e d v, h')
    | none => none) else some (put e d .undef, h)

theorem gstep_some (q : Bool) (v : V) (d : Nat) (e : Env) (h : Heap) : gstep q (some (v, h)) (some d) e h = some (e.put d (gdv q v), h) := by cases q <;> rfl
theorem gstep_true (x : Option (V × Heap)) (d : Option Nat) (e : Env) (h : Heap) : gstep true x d e h = match x with
    | some (v, h') => some (put e d v, h')
    | none => none := rfl
theorem gstep_false (x : Option (V × Heap)) (d : Option Nat) (e : Env) (h : Heap) : gstep false x d e h = some (put e d .undef, h) := rfl
theorem gstep_congr {q q' : Bool} {x x' : Option (V × Heap)} {d : Option Nat} {e : Env} {h : Heap} (hq : q = q') (hx : q' = true → x = x') : gstep q x d e h = gstep q' x' d e h := by
  subst hq; cases q
  · rfl
  · rw [hx rfl]

theorem bif_congr {α : Type} {q q' : Bool} {x x' y y' : α} (hq : q = q') (hx : q' = true → x = x') (hy : q' = false → y = y') : (bif q then x else y) = (bif q' then x' else y') := by
  subst hq; cases q
  · exact hy rfl
  · exact hx rfl

/-- The rest of a row of operations. -/
def bindS (cf : ACall) (os : List AOper) (x : Option (Env × Heap)) : Option (Env × Heap) := match x with
  | some (e, h) => stepsA cf os e h
  | none => none
theorem bindS_some (cf : ACall) (os : List AOper) (e : Env) (h : Heap) : bindS cf os (some (e, h)) = stepsA cf os e h := rfl
theorem bindS_none (cf : ACall) (os : List AOper) : bindS cf os none = none := rfl
theorem bindS_bif (cf : ACall) (os : List AOper) (q : Bool) (x y : Option (Env × Heap)) : bindS cf os (bif q then x else y) = bif q then bindS cf os x else bindS cf os y := by cases q <;> rfl

/-- One operation's end. -/
def endS (d : Option Nat) (e : Env) (x : Option (V × Heap)) : Option (Env × Heap) := match x with
  | some (v, h') => some (put e d v, h')
  | none => none
theorem endS_some (d : Nat) (e : Env) (v : V) (h : Heap) : endS (some d) e (some (v, h)) = some (e.put d v, h) := rfl
theorem endS_skip (e : Env) (v : V) (h : Heap) : endS none e (some (v, h)) = some (e, h) := rfl
theorem endS_none (d : Option Nat) (e : Env) : endS d e none = none := rfl
theorem endS_bif (d : Option Nat) (e : Env) (q : Bool) (x y : Option (V × Heap)) : endS d e (bif q then x else y) = bif q then endS d e x else endS d e y := by cases q <;> rfl

theorem steps_nil (cf : ACall) (e : Env) (h : Heap) : stepsA cf [] e h = some (e, h) := rfl
theorem steps_cons (cf : ACall) (d : Option Nat) (op : AOp) (os : List AOper) (e : Env) (h : Heap) : stepsA cf (⟨d, op, none⟩ :: os) e h = bindS cf os (endS d e (aop cf op e h)) := by
  simp only [stepsA, stepA_eq, wantedA, bindS, endS, if_true]
  cases aop cf op e h <;> rfl
theorem steps_guard (cf : ACall) (d : Option Nat) (op : AOp) (t : Nat) (w : Bool) (os : List AOper) (e : Env) (h : Heap) : stepsA cf (⟨d, op, some (t, w)⟩ :: os) e h = bindS cf os (gstep (wantV (e.at t) w) (aop cf op e h) d e h) := by
  have hw : wantedA (some (t, w)) e = wantV (e.at t) w := by
    unfold wantedA wantV
    dsimp only
    cases e.at t <;> rfl
  simp only [stepsA, stepA_eq, hw]
  cases wantV (e.at t) w with
  | true => simp only [if_true, gstep_true, bindS]; cases aop cf op e h <;> rfl
  | false => rfl

abbrev Out := Option (AExit × Env × Heap)

def seqS (cf : ACall) (N : Nat) (b : ACode) (x : Out) : Out := match x with
  | some (.normal, e, h) => execA cf N b e h
  | r => r
theorem seqS_normal (cf : ACall) (N : Nat) (b : ACode) (e : Env) (h : Heap) : seqS cf N b (some (.normal, e, h)) = execA cf N b e h := rfl
theorem seqS_ret (cf : ACall) (N : Nat) (b : ACode) (e : Env) (h : Heap) : seqS cf N b (some (.ret, e, h)) = some (.ret, e, h) := rfl
theorem seqS_exit (cf : ACall) (N : Nat) (b : ACode) (i : Nat) (e : Env) (h : Heap) : seqS cf N b (some (.exit i, e, h)) = some (.exit i, e, h) := rfl
theorem seqS_none (cf : ACall) (N : Nat) (b : ACode) : seqS cf N b none = none := rfl
theorem seqS_bif (cf : ACall) (N : Nat) (b : ACode) (q : Bool) (x y : Out) : seqS cf N b (bif q then x else y) = bif q then seqS cf N b x else seqS cf N b y := by cases q <;> rfl
theorem exec_seq (cf : ACall) (N : Nat) (a b : ACode) (e : Env) (h : Heap) : execA cf N (.seq a b) e h = seqS cf N b (execA cf N a e h) := by
  simp only [execA, seqS]
  split <;> simp_all

def regS (x : Option (Env × Heap)) : Out := match x with
  | some (e, h) => some (.normal, e, h)
  | none => none
theorem regS_some (e : Env) (h : Heap) : regS (some (e, h)) = some (.normal, e, h) := rfl
theorem regS_none : regS none = none := rfl
theorem regS_bif (q : Bool) (x y : Option (Env × Heap)) : regS (bif q then x else y) = bif q then regS x else regS y := by cases q <;> rfl
theorem exec_region (cf : ACall) (N : Nat) (os : List AOper) (e : Env) (h : Heap) : execA cf N (.region os) e h = regS (stepsA cf os e h) := by
  simp only [execA]
  cases stepsA cf os e h <;> rfl

theorem exec_skip (cf : ACall) (N : Nat) (e : Env) (h : Heap) : execA cf N .skip e h = some (.normal, e, h) := by simp only [execA]
theorem exec_ret (cf : ACall) (N : Nat) (e : Env) (h : Heap) : execA cf N .ret e h = some (.ret, e, h) := by simp only [execA]
theorem exec_exit (cf : ACall) (N i : Nat) (e : Env) (h : Heap) : execA cf N (.exit i) e h = some (.exit i, e, h) := by simp only [execA]

def condS (cf : ACall) (N : Nat) (v : V) (a b : ACode) (e : Env) (h : Heap) : Out := match v with
  | .bool q => bif q then execA cf N a e h else execA cf N b e h
  | _ => none
theorem condS_bool (cf : ACall) (N : Nat) (q : Bool) (a b : ACode) (e : Env) (h : Heap) : condS cf N (.bool q) a b e h = bif q then execA cf N a e h else execA cf N b e h := rfl
theorem condS_true (cf : ACall) (N : Nat) (a b : ACode) (e : Env) (h : Heap) : condS cf N (.bool true) a b e h = execA cf N a e h := rfl
theorem condS_false (cf : ACall) (N : Nat) (a b : ACode) (e : Env) (h : Heap) : condS cf N (.bool false) a b e h = execA cf N b e h := rfl
theorem exec_cond (cf : ACall) (N : Nat) (c : Opd) (a b : ACode) (e : Env) (h : Heap) : execA cf N (.cond c a b) e h = condS cf N (c.ev e) a b e h := by
  simp only [execA, condS]
  split <;> simp_all

def blockS (id : Nat) (x : Out) : Out := match x with
  | some (.exit id', e', h') => if id' = id then some (.normal, e', h') else some (.exit id', e', h')
  | r => r
theorem blockS_normal (id : Nat) (e : Env) (h : Heap) : blockS id (some (.normal, e, h)) = some (.normal, e, h) := rfl
theorem blockS_ret (id : Nat) (e : Env) (h : Heap) : blockS id (some (.ret, e, h)) = some (.ret, e, h) := rfl
theorem blockS_exit (id i : Nat) (e : Env) (h : Heap) : blockS id (some (.exit i, e, h)) = if i = id then some (.normal, e, h) else some (.exit i, e, h) := rfl
theorem blockS_none (id : Nat) : blockS id none = none := rfl
theorem blockS_bif (id : Nat) (q : Bool) (x y : Out) : blockS id (bif q then x else y) = bif q then blockS id x else blockS id y := by cases q <;> rfl
theorem exec_block (cf : ACall) (N id : Nat) (b : ACode) (e : Env) (h : Heap) : execA cf N (.block id b) e h = blockS id (execA cf N b e h) := by
  simp only [execA]
  rfl

def finS (rs : List ARes) (x : Out) : Option (V × Heap) := match x with
  | some (.normal, e, h') => (ressA e h' rs).map fun vs => (pack vs, h')
  | some (.ret, e, h') => (ressA e h' rs).map fun vs => (pack vs, h')
  | _ => none
theorem finS_normal (rs : List ARes) (e : Env) (h : Heap) : finS rs (some (.normal, e, h)) = (ressA e h rs).map fun vs => (pack vs, h) := rfl
theorem finS_ret (rs : List ARes) (e : Env) (h : Heap) : finS rs (some (.ret, e, h)) = (ressA e h rs).map fun vs => (pack vs, h) := rfl
theorem finS_bif (rs : List ARes) (q : Bool) (x y : Out) : finS rs (bif q then x else y) = bif q then finS rs x else finS rs y := by cases q <;> rfl
theorem body_eq (cf : ACall) (N : Nat) (fn : AFn) (args : List V) (h : Heap) : bodyA cf N fn args h = finS fn.results (execA cf N fn.body (Env.init args fn.ntmps) h) := by
  simp only [bodyA, finS]
  split <;> simp_all

/-- A choice between two values. -/
def pickS (c a b : V) (h : Heap) : Option (V × Heap) := match c with
  | .bool q => some (bif q then a else b, h)
  | _ => none
theorem aop_pick (cf : ACall) (c a b : Opd) (e : Env) (h : Heap) : aop cf (.pick c a b) e h = pickS (c.ev e) (a.ev e) (b.ev e) h := by
  simp only [aop, pickS]
  split <;> simp_all
theorem pickS_or (q r b : Bool) (h : Heap) (hr : (!q) = r) : pickS (.bool q) (.bool true) (gdv r (.bool b)) h = some (.bool (q || b), h) := by subst hr; cases q <;> rfl
theorem pickS_and (q r b : Bool) (h : Heap) (hr : q = r) : pickS (.bool q) (gdv r (.bool b)) (.bool false) h = some (.bool (q && b), h) := by subst hr; cases q <;> rfl
theorem pickS_true (a b : V) (h : Heap) : pickS (.bool true) a b h = some (a, h) := rfl
theorem pickS_false (a b : V) (h : Heap) : pickS (.bool false) a b h = some (b, h) := rfl

theorem bif_bool (q a b : Bool) : (bif q then V.bool a else V.bool b) = V.bool (bif q then a else b) := by cases q <;> rfl

theorem put_some (e : Env) (d : Nat) (v : V) : put e (some d) v = e.put d v := rfl
theorem put_none (e : Env) (v : V) : put e none v = e := rfl

/-- Reading a block that lies there. -/
theorem read_of {h : Heap} {b o n : Nat} {cs : List V} {t z : Nat} {own : Bool} (hg : h.get b = some (.cells cs t z own)) (hn : o + n ≤ cs.length) : h.read b o n = some ((cs.drop o).take n) := by
  unfold Heap.read
  split
  · rename_i h0; subst h0; simp
  · rw [hg]; simp only [if_pos hn]

theorem nextOf_new (h : Heap) (B : Blk) : (h.new B).next = h.next + 1 := rfl

end
end Go.Proofs.YthfbefjmenddkaaDoorA
