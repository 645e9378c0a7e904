/- The abstract machine of these proofs: values, heaps, operations, code, and the function that runs them. Plain definitions and small laws on heaps. -/
import Derived.Test.YthfbefjmenddkaaDoorProg
import Derived.Tactics
import Derived.Below
namespace Go.Proofs.YthfbefjmenddkaaDoorA
open Go
noncomputable section

/-- An abstract value. A string is the list of its bytes; 'ptr b o': cell o of block b; 'slice b o n c': n elements from cell o of block b on; c: its capacity; none: as much as the block has room. -/
inductive V where
  | bool (b : Bool)
  | int (k : IntKind) (n : Int)
  | str (s : List Nat)
  | nilptr
  | ptr (b o : Nat)
  | nilslice
  | slice (b o n : Nat) (c : Option Nat)
  | func (f : Nat) (pre post : List V)
  | nilfunc
  | iface (t : Nat) (v : V)
  | niliface
  | agg (cs : List V)
  | tuple (vs : List V)
  deriving Inhabited

def V.undef : V := .tuple []

/-- May it stand in one cell? -/
def V.one : V → Bool
  | .agg _ => false
  | .tuple _ => false
  | _ => true

def V.cells : V → List V
  | .agg cs => cs
  | v => [v]

/-- A block: cells, with their type, the cells of an element, and whether the run may write it; or a string's iterator. -/
inductive Blk where
  | cells (cs : List V) (elem esz : Nat) (own : Bool)
  | iter (s : List Nat) (pos : Nat)

/-- A map from numbers, by their binary digits. -/
inductive T (α : Type) where
  | nil
  | node (v : Option α) (l r : T α)

def T.get {α : Type} (t : T α) : Nat → Option α :=
  T.rec (motive := fun _ => Nat → Option α) (fun _ => none)
    (fun v _ _ gl gr n => Bool.rec (motive := fun _ => Option α) (Bool.rec (motive := fun _ => Option α) (gr (Nat.pred (Nat.div n 2))) (gl (Nat.div n 2)) (Nat.beq (Nat.mod n 2) 1)) v (Nat.beq n 0)) t

def T.setF {α : Type} (f : Nat) : T α → Nat → Option α → T α :=
  Nat.rec (motive := fun _ => T α → Nat → Option α → T α) (fun t _ _ => t)
    (fun _ ih t n b => T.rec (motive := fun _ => T α)
      (Bool.rec (motive := fun _ => T α) (Bool.rec (motive := fun _ => T α) (.node none .nil (ih .nil (Nat.pred (Nat.div n 2)) b)) (.node none (ih .nil (Nat.div n 2) b) .nil) (Nat.beq (Nat.mod n 2) 1)) (.node b .nil .nil) (Nat.beq n 0))
      (fun v l r _ _ => Bool.rec (motive := fun _ => T α) (Bool.rec (motive := fun _ => T α) (.node v l (ih r (Nat.pred (Nat.div n 2)) b)) (.node v (ih l (Nat.div n 2) b) r) (Nat.beq (Nat.mod n 2) 1)) (.node b l r) (Nat.beq n 0)) t) f

theorem cond_beq {β : Type} (n m : Nat) (x y : β) : Bool.rec (motive := fun _ => β) y x (Nat.beq n m) = if n = m then x else y := by
  by_cases h : n = m
  · subst h; rw [if_pos rfl, Nat.beq_refl]
  · have : Nat.beq n m = false := by
      cases hb : Nat.beq n m with
      | false => rfl
      | true => exact absurd (Nat.eq_of_beq_eq_true hb) h
    rw [if_neg h, this]

theorem T.get_node {α : Type} (v : Option α) (l r : T α) (n : Nat) : (T.node v l r).get n = if n = 0 then v else if n % 2 = 1 then l.get (n / 2) else r.get (n / 2 - 1) :=
  (cond_beq n 0 v (Bool.rec (motive := fun _ => Option α) (r.get (Nat.pred (Nat.div n 2))) (l.get (Nat.div n 2)) (Nat.beq (Nat.mod n 2) 1))).trans (by rw [cond_beq]; rfl)

theorem T.setF_nil {α : Type} (f : Nat) (n : Nat) (b : Option α) : T.setF (f + 1) (.nil : T α) n b = if n = 0 then .node b .nil .nil else if n % 2 = 1 then .node none (T.setF f .nil (n / 2) b) .nil else .node none .nil (T.setF f .nil (n / 2 - 1) b) :=
  (cond_beq n 0 (T.node b .nil .nil : T α) (Bool.rec (motive := fun _ => T α) (T.node none .nil (T.setF f .nil (Nat.pred (Nat.div n 2)) b)) (T.node none (T.setF f .nil (Nat.div n 2) b) .nil) (Nat.beq (Nat.mod n 2) 1))).trans (by rw [cond_beq]; rfl)

theorem T.setF_node {α : Type} (f : Nat) (v : Option α) (l r : T α) (n : Nat) (b : Option α) : T.setF (f + 1) (.node v l r) n b = if n = 0 then .node b l r else if n % 2 = 1 then .node v (T.setF f l (n / 2) b) r else .node v l (T.setF f r (n / 2 - 1) b) :=
  (cond_beq n 0 (T.node b l r : T α) (Bool.rec (motive := fun _ => T α) (T.node v l (T.setF f r (Nat.pred (Nat.div n 2)) b)) (T.node v (T.setF f l (Nat.div n 2) b) r) (Nat.beq (Nat.mod n 2) 1))).trans (by rw [cond_beq]; rfl)

theorem T.get_nil {α : Type} (n : Nat) : T.get (.nil : T α) n = none := rfl

theorem T.get_setF {α : Type} (b : Option α) : ∀ (f : Nat) (t : T α) (n m : Nat), n < f → (T.setF f t n b).get m = if m = n then b else t.get m
  | 0, _, n, _, h => by omega
  | f + 1, .nil, n, m, h => by
    rw [T.setF_nil]
    by_cases h0 : n = 0
    · subst h0
      simp only [if_true, T.get_node, T.get_nil]
      by_cases hm : m = 0
      · simp [hm]
      · simp [hm]
    · simp only [h0, if_false]
      by_cases h1 : n % 2 = 1
      · simp only [h1, if_true]
        simp only [T.get_node, T.get_nil]
        by_cases hm : m = 0
        · subst hm; simp; omega
        · simp only [hm, if_false]
          by_cases hm1 : m % 2 = 1
          · simp only [hm1, if_true]
            rw [T.get_setF b f .nil (n / 2) (m / 2) (by omega), T.get_nil]
            by_cases he : m = n
            · subst he; simp
            · rw [if_neg he, if_neg (by omega)]
          · simp only [hm1, if_false]
            rw [if_neg (by omega)]
      · simp only [h1, if_false]
        simp only [T.get_node, T.get_nil]
        by_cases hm : m = 0
        · subst hm; simp; omega
        · simp only [hm, if_false]
          by_cases hm1 : m % 2 = 1
          · simp only [hm1, if_true]
            rw [if_neg (by omega)]
          · simp only [hm1, if_false]
            rw [T.get_setF b f .nil (n / 2 - 1) (m / 2 - 1) (by omega), T.get_nil]
            by_cases he : m = n
            · subst he; simp
            · rw [if_neg he, if_neg (by omega)]
  | f + 1, .node v l r, n, m, h => by
    rw [T.setF_node]
    by_cases h0 : n = 0
    · subst h0
      simp only [if_true]
      simp only [T.get_node]
      by_cases hm : m = 0
      · simp [hm]
      · simp [hm]
    · simp only [h0, if_false]
      by_cases h1 : n % 2 = 1
      · simp only [h1, if_true]
        simp only [T.get_node]
        by_cases hm : m = 0
        · subst hm; simp; omega
        · simp only [hm, if_false]
          by_cases hm1 : m % 2 = 1
          · simp only [hm1, if_true]
            rw [T.get_setF b f l (n / 2) (m / 2) (by omega)]
            by_cases he : m = n
            · subst he; simp
            · rw [if_neg he, if_neg (by omega)]
          · simp only [hm1, if_false]
            rw [if_neg (by omega)]
      · simp only [h1, if_false]
        simp only [T.get_node]
        by_cases hm : m = 0
        · subst hm; simp; omega
        · simp only [hm, if_false]
          by_cases hm1 : m % 2 = 1
          · simp only [hm1, if_true]
            rw [if_neg (by omega)]
          · simp only [hm1, if_false]
            rw [T.get_setF b f r (n / 2 - 1) (m / 2 - 1) (by omega)]
            by_cases he : m = n
            · subst he; simp
            · rw [if_neg he, if_neg (by omega)]

/-- The heap: the next number, and the blocks. -/
structure Heap where
  next : Nat
  t : T Blk

def Heap.get (h : Heap) (b : Nat) : Option Blk := h.t.get b
def Heap.set (h : Heap) (b : Nat) (x : Option Blk) : Heap := { h with t := T.setF (b + 1) h.t b x }
def Heap.new (h : Heap) (x : Blk) : Heap := { next := h.next + 1, t := T.setF (h.next + 1) h.t h.next (some x) }

theorem Heap.get_set (h : Heap) (b m : Nat) (x : Option Blk) : (h.set b x).get m = if m = b then x else h.get m := T.get_setF x (b + 1) h.t b m (Nat.lt_succ_self b)
theorem Heap.get_new (h : Heap) (m : Nat) (x : Blk) : (h.new x).get m = if m = h.next then some x else h.get m := T.get_setF (some x) (h.next + 1) h.t h.next m (Nat.lt_succ_self _)
@[simp] theorem Heap.next_set (h : Heap) (b : Nat) (x : Option Blk) : (h.set b x).next = h.next := rfl
@[simp] theorem Heap.next_new (h : Heap) (x : Blk) : (h.new x).next = h.next + 1 := rfl

inductive Opd where
  | tmp (t : Nat)
  | const (v : V)
  | glob (g : Nat)
  | func (f : Nat)
  deriving Inhabited

/-- The temporaries: how many, and what they hold. -/
structure Env where
  n : Nat
  t : T V

def Env.at (e : Env) (i : Nat) : V :=
  match e.t.get i with
  | some v => v
  | none => .undef

def Env.put (e : Env) (d : Nat) (v : V) : Env :=
  match e with
  | ⟨n, t⟩ => Bool.rec (motive := fun _ => Env) ⟨n, t⟩ ⟨n, T.setF (Nat.succ d) t d (some v)⟩ (Nat.ble (Nat.succ d) n)

theorem Env.put_eq (e : Env) (d : Nat) (v : V) : e.put d v = if d < e.n then { n := e.n, t := T.setF (d + 1) e.t d (some v) } else e := by
  obtain ⟨n, t⟩ := e
  show Bool.rec (motive := fun _ => Env) _ _ (Nat.ble (Nat.succ d) n) = _
  by_cases h : d < n
  · rw [if_pos h, Nat.ble_eq_true_of_le h]
  · have : Nat.ble (Nat.succ d) n = false := by
      cases hb : Nat.ble (Nat.succ d) n with
      | false => rfl
      | true => exact absurd (Nat.le_of_ble_eq_true hb) h
    rw [if_neg h, this]

def Env.fill : List V → Nat → T V → T V
  | [], _, t => t
  | v :: vs, i, t => Env.fill vs (i + 1) (T.setF (i + 1) t i (some v))

def Env.init (args : List V) (n : Nat) : Env := { n := if args.length < n then n else args.length, t := Env.fill args 0 .nil }

theorem Env.at_put (e : Env) (d i : Nat) (v : V) : (e.put d v).at i = if i = d ∧ d < e.n then v else e.at i := by
  rw [Env.put_eq]
  by_cases hd : d < e.n
  · rw [if_pos hd]
    unfold Env.at
    simp only
    rw [T.get_setF _ _ _ _ _ (by omega)]
    by_cases hi : i = d
    · simp [hi, hd]
    · simp [hi]
  · rw [if_neg hd, if_neg (fun h => hd h.2)]

theorem Env.n_put (e : Env) (d : Nat) (v : V) : (e.put d v).n = e.n := by
  rw [Env.put_eq]
  split <;> rfl

theorem Env.fill_get : ∀ (vs : List V) (k : Nat) (t : T V) (i : Nat), (Env.fill vs k t).get i = if k ≤ i ∧ i < k + vs.length then vs[i - k]? else t.get i
  | [], k, t, i => by
    unfold Env.fill
    rw [if_neg]
    simp only [List.length_nil]
    omega
  | v :: vs, k, t, i => by
    unfold Env.fill
    rw [Env.fill_get vs (k + 1) _ i, T.get_setF _ _ _ _ _ (by omega)]
    by_cases h1 : i = k
    · subst h1
      rw [if_neg (by omega), if_pos rfl, if_pos (by simp)]
      simp
    · by_cases h2 : k ≤ i ∧ i < k + (v :: vs).length
      · simp only [List.length_cons] at h2
        rw [if_pos (by omega), if_pos (by simp only [List.length_cons]; omega)]
        have e1 : i - k = (i - (k + 1)) + 1 := by omega
        rw [e1, List.getElem?_cons_succ]
      · simp only [List.length_cons] at h2
        rw [if_neg (by omega), if_neg h1, if_neg (by simp only [List.length_cons]; omega)]

def Opd.ev (e : Env) : Opd → V
  | .tmp t => e.at t
  | .const v => v
  | .glob g => .ptr g 0
  | .func f => .func f [] []

inductive EqKind where
  | bool | ptr | slice | iface | func
  deriving DecidableEq

inductive AOp where
  | move (x : Opd)
  | pick (c a b : Opd)
  | box (elem esz : Nat) (zero : List V)
  | boxv (elem esz : Nat) (x : Opd)
  | build (zero : List V) (parts : List (Nat × Nat × Opd))
  | buildSlice (elem esz : Nat) (zero : List V) (n : Nat) (parts : List (Nat × Nat × Opd))
  | load (x : Opd)
  | loadn (n : Nat) (x : Opd)
  | store (n : Nat) (x v : Opd)
  | nilCheck (x : Opd)
  | bin (op : BinOp) (x y : Opd)
  | eq (neg : Bool) (k : EqKind) (x y : Opd)
  | un (op : UnOp) (x : Opd)
  | conv (k : IntKind) (x : Opd)
  | convStr (x : Opd)
  | intStr (x : Opd)
  | strBytes (elem : Nat) (x : Opd)
  | bytesStr (x : Opd)
  | strRunes (elem : Nat) (x : Opd)
  | runesStr (x : Opd)
  | mkIface (t : Nat) (x : Opd)
  | mkFunc (f : Nat) (pre post : List Opd)
  | makeSlice (elem esz bytes : Nat) (zero : List V) (n c : Opd)
  | sliceStr (x : Opd) (lo hi : Option Opd)
  | sliceSl (esz : Nat) (x : Opd) (lo hi mx : Option Opd)
  | sliceArr (n esz : Nat) (x : Opd) (lo hi mx : Option Opd)
  | fieldAddr (off : Nat) (x : Opd)
  | field (off : Nat) (n : Option Nat) (x : Opd)
  | indexAddrA (len esz : Nat) (x i : Opd)
  | indexAddrS (esz : Nat) (x i : Opd)
  | indexA (len esz : Nat) (agg : Bool) (x i : Opd)
  | indexStr (x i : Opd)
  | range (x : Opd)
  | next (x : Opd)
  | extract (x : Opd) (i : Nat)
  | call (f : Opd) (args : List Opd)
  | append (elem esz bytes : Nat) (s x : Opd)
  | copy (esz : Nat) (d s : Opd)
  | lenS (x : Opd)
  | lenL (x : Opd)
  | cap (x : Opd)
  | lenC (n : Nat)
  | minmax (isMax : Bool) (xs : List Opd)
  | convSame (x : Opd)
  | eqArr (neg : Bool) (n : Nat) (x y : Opd)
  | appendZ (elem esz bytes : Nat) (zero : List V) (s n : Opd)
  | float (k : Nat) (op : AOp)

structure AOper where
  dst : Option Nat
  op : AOp
  guard : Option (Nat × Bool)

inductive ACode where
  | skip
  | region (ops : List AOper)
  | anyRegion (ops : List AOper) (chk : List (Nat × Nat))
  | floatRegion (ops : List AOper) (acts : List (List Nat)) (chk : List (Nat × Nat))
  | seq (a b : ACode)
  | cond (c : Opd) (a b : ACode)
  | block (id : Nat) (b : ACode)
  | loop (b : ACode)
  | exit (id : Nat)
  | ret

inductive AExit where
  | normal
  | exit (id : Nat)
  | ret

inductive ARes where
  | tmp (t : Nat)
  | cell (t : Nat)
  | cells (t n : Nat)

structure AFn where
  ntmps : Nat
  results : List ARes
  body : ACode

abbrev ACall := Nat → List V → Heap → Option (V × Heap)

/-! ### The operations -/

/-- Two to the number of a kind's bits, and half of it: written out. -/
def modK : IntKind → Int
  | .i8 => 256
  | .i16 => 65536
  | .i32 => 4294967296
  | .i64 => 18446744073709551616
  | .u8 => 256
  | .u16 => 65536
  | .u32 => 4294967296
  | .u64 => 18446744073709551616

def wrapF (k : IntKind) (n : Int) : Int :=
  match k with
  | .u8 => n % 256
  | .u16 => n % 65536
  | .u32 => n % 4294967296
  | .u64 => n % 18446744073709551616
  | .i8 => if n % 256 ≥ 128 then n % 256 - 256 else n % 256
  | .i16 => if n % 65536 ≥ 32768 then n % 65536 - 65536 else n % 65536
  | .i32 => if n % 4294967296 ≥ 2147483648 then n % 4294967296 - 4294967296 else n % 4294967296
  | .i64 => if n % 18446744073709551616 ≥ 9223372036854775808 then n % 18446744073709551616 - 18446744073709551616 else n % 18446744073709551616

theorem modK_eq (k : IntKind) : (2 : Int) ^ k.bits = modK k := by cases k <;> rfl

theorem wrapF_eq (k : IntKind) (n : Int) : wrapF k n = k.wrap n := by
  cases k <;> simp [wrapF, IntKind.wrap, IntKind.bits, IntKind.signed]

theorem powF (n : Nat) : ((2 ^ n : Nat) : Int) = 2 ^ n := by simp

def binInt (op : BinOp) (k : IntKind) (a b : Int) : Option V :=
  match op with
  | .add => some (.int k (wrapF k (a + b)))
  | .sub => some (.int k (wrapF k (a - b)))
  | .mul => some (.int k (wrapF k (a * b)))
  | .quo => if b = 0 then none else some (.int k (wrapF k (a.tdiv b)))
  | .rem => if b = 0 then none else some (.int k (a.tmod b))
  | .and => some (.int k (wrapF k (((a % modK k).toNat &&& (b % modK k).toNat : Nat) : Int)))
  | .or => some (.int k (wrapF k (((a % modK k).toNat ||| (b % modK k).toNat : Nat) : Int)))
  | .xor => some (.int k (wrapF k (((a % modK k).toNat ^^^ (b % modK k).toNat : Nat) : Int)))
  | .andNot => some (.int k (wrapF k (((a % modK k).toNat &&& (2 ^ k.bits - 1 - (b % modK k).toNat) : Nat) : Int)))
  | .eql => some (.bool (a == b))
  | .neq => some (.bool (a != b))
  | .lss => some (.bool (a < b))
  | .leq => some (.bool (a ≤ b))
  | .gtr => some (.bool (a > b))
  | .geq => some (.bool (a ≥ b))
  | _ => none

def shiftInt (op : BinOp) (k : IntKind) (a b : Int) : Option V :=
  if b < 0 then none else
  match op with
  | .shl => some (.int k (wrapF k (a * ((2 ^ (min b.toNat k.bits) : Nat) : Int))))
  | .shr => some (.int k (a.fdiv ((2 ^ (min b.toNat k.bits) : Nat) : Int)))
  | _ => none

def strLess : List Nat → List Nat → Bool
  | _, [] => false
  | [], _ :: _ => true
  | a :: x, b :: y => a < b || (a == b && strLess x y)

def binStr (op : BinOp) (a b : List Nat) : Option V :=
  match op with
  | .add => if a.length + b.length ≤ 2 ^ 62 then some (.str (a ++ b)) else none
  | .eql => some (.bool (a == b))
  | .neq => some (.bool !(a == b))
  | .lss => some (.bool (strLess a b))
  | .leq => some (.bool (strLess a b || a == b))
  | .gtr => some (.bool !(strLess a b || a == b))
  | .geq => some (.bool !(strLess a b))
  | _ => none

def isShift : BinOp → Bool
  | .shl => true
  | .shr => true
  | _ => false

def bin (op : BinOp) (x y : V) : Option V :=
  match x, y with
  | .int k a, .int k' b => if isShift op then shiftInt op k a b else if k = k' then binInt op k a b else none
  | .str a, .str b => binStr op a b
  | _, _ => none

def eqv (k : EqKind) (x y : V) : Option Bool :=
  match k, x, y with
  | .bool, .bool a, .bool b => some (a == b)
  | .ptr, .nilptr, .nilptr => some true
  | .ptr, .nilptr, .ptr _ _ => some false
  | .ptr, .ptr _ _, .nilptr => some false
  | .slice, .nilslice, .nilslice => some true
  | .slice, .nilslice, .slice _ _ _ _ => some false
  | .slice, .slice _ _ _ _, .nilslice => some false
  | .iface, .niliface, .niliface => some true
  | .iface, .niliface, .iface _ _ => some false
  | .iface, .iface _ _, .niliface => some false
  | .func, .nilfunc, .nilfunc => some true
  | .func, .nilfunc, .func _ _ _ => some false
  | .func, .func _ _ _, .nilfunc => some false
  | _, _, _ => none

def un (op : UnOp) (x : V) : Option V :=
  match op, x with
  | .neg, .int k n => some (.int k (wrapF k (0 - n)))
  | .xor, .int k n => binInt .xor k (if k.signed then -1 else k.max) n
  | .not, .bool b => some (.bool !b)
  | _, _ => none

/-- The cells of block b from o on, n of them. -/
def Heap.read (h : Heap) (b o n : Nat) : Option (List V) :=
  if n = 0 then some [] else
  match h.get b with
  | some (.cells cs _ _ _) => if o + n ≤ cs.length then some ((cs.drop o).take n) else none
  | _ => none

def over (cs : List V) (o : Nat) (vs : List V) : List V := cs.take o ++ vs ++ cs.drop (o + vs.length)

def nth : List V → Nat → Option V
  | [], _ => none
  | v :: _, 0 => some v
  | _ :: vs, n + 1 => nth vs n

theorem nth_eq : ∀ (vs : List V) (n : Nat), nth vs n = vs[n]?
  | [], _ => by simp [nth]
  | _ :: _, 0 => by simp [nth]
  | _ :: vs, n + 1 => by simp [nth, nth_eq vs n]

def put1 : List V → Nat → V → List V
  | [], _, _ => []
  | _ :: vs, 0, x => x :: vs
  | v :: vs, n + 1, x => v :: put1 vs n x

theorem put1_eq : ∀ (vs : List V) (n : Nat) (x : V), n < vs.length → put1 vs n x = over vs n [x]
  | [], _, _, h => by simp at h
  | _ :: _, 0, _, _ => by simp [put1, over]
  | v :: vs, n + 1, x, h => by
    simp only [put1]
    rw [put1_eq vs n x (by simpa using h)]
    simp [over]

def Heap.writeG (h : Heap) (b o : Nat) (vs : List V) : Option Heap :=
  match h.get b with
  | some (.cells cs t z true) => if o + vs.length ≤ cs.length ∧ vs.all V.one then some (h.set b (some (.cells (over cs o vs) t z true))) else none
  | _ => none

def Heap.write (h : Heap) (b o : Nat) (vs : List V) : Option Heap :=
  match vs with
  | [v] => match h.get b with
    | some (.cells cs t z true) => match nth cs o with
      | some _ => if v.one then some (h.set b (some (.cells (put1 cs o v) t z true))) else none
      | none => none
    | _ => none
  | vs => h.writeG b o vs

theorem Heap.write_eq (h : Heap) (b o : Nat) (vs : List V) : h.write b o vs = h.writeG b o vs := by
  unfold Heap.write
  split
  · rename_i v
    unfold Heap.writeG
    split
    · rename_i cs t z hb
      cases hn : nth cs o with
      | none =>
        rw [nth_eq, List.getElem?_eq_none_iff] at hn
        have hneg : ¬ (o + [v].length ≤ cs.length ∧ [v].all V.one = true) := by
          intro hh
          have := hh.1
          simp only [List.length_singleton] at this
          omega
        rw [if_neg hneg]
      | some x =>
        have hlt : o < cs.length := by
          rw [nth_eq] at hn
          exact (List.getElem?_eq_some_iff.1 hn).1
        simp only
        rw [put1_eq cs o v hlt]
        by_cases h1 : v.one = true
        · have hp : o + [v].length ≤ cs.length ∧ [v].all V.one = true := ⟨by simp only [List.length_singleton]; omega, by simp [h1]⟩
          rw [if_pos h1, if_pos hp]
        · have hp : ¬ (o + [v].length ≤ cs.length ∧ [v].all V.one = true) := by simp [h1]
          rw [if_neg h1, if_neg hp]
    · rfl
  · rfl

def alloc (h : Heap) (elem esz : Nat) (cs : List V) : Nat × Heap := (h.next, h.new (.cells cs elem esz true))

/-- A part laid over a row of cells. -/
def fillV : List V → List (Nat × Nat × V) → Option (List V)
  | cs, [] => some cs
  | cs, (o, n, v) :: ps => if v.cells.length = n ∧ o + n ≤ cs.length then fillV (over cs o v.cells) ps else none

def zeros (zero : List V) (n : Nat) : List V := (List.replicate n zero).flatten

def intOf : V → Option Int
  | .int _ n => some n
  | _ => none

/-- A bound of a slice: between 0 and y. -/
def bound (x : V) (y : Nat) : Option Nat :=
  match x with
  | .int _ i => if 0 ≤ i ∧ i ≤ y then some i.toNat else none
  | _ => none

def bytesOf (s : List Nat) : List V := s.map fun b => .int .u8 (Int.ofNat b)

/-- Bytes, out of cells. -/
def strOf : List V → Option (List Nat)
  | [] => some []
  | .int .u8 n :: vs => (strOf vs).map fun s => (n.toNat % 256) :: s
  | _ => none

def utfEnc (r : Int) : List Nat :=
  let c := if Utf8.valid r then r.toNat else Utf8.runeError
  if c < 0x80 then [c]
  else if c < 0x800 then [0xC0 + c / 64, 0x80 + c % 64]
  else if c < 0x10000 then [0xE0 + c / 4096, 0x80 + c / 64 % 64, 0x80 + c % 64]
  else [0xF0 + c / 262144, 0x80 + c / 4096 % 64, 0x80 + c / 64 % 64, 0x80 + c % 64]

def runesEnc : List V → Option (List Nat)
  | [] => some []
  | .int .i32 n :: vs => (runesEnc vs).map fun s => utfEnc n ++ s
  | _ => none

/-- The rune at the head of a text, and its width. -/
def utfDec (s : List Nat) : Nat × Nat :=
  let at' (k : Nat) : Nat := s.getD k 0
  let cont (k : Nat) : Bool := k < s.length && at' k / 64 == 2
  let b0 := at' 0
  if b0 < 0x80 then (b0, 1)
  else if b0 / 32 == 6 && cont 1 then
    let c := (b0 % 32) * 64 + at' 1 % 64
    if c ≥ 0x80 then (c, 2) else (Utf8.runeError, 1)
  else if b0 / 16 == 14 && cont 1 && cont 2 then
    let c := (b0 % 16) * 4096 + (at' 1 % 64) * 64 + at' 2 % 64
    if c ≥ 0x800 && Utf8.valid c then (c, 3) else (Utf8.runeError, 1)
  else if b0 / 8 == 30 && cont 1 && cont 2 && cont 3 then
    let c := (b0 % 8) * 262144 + (at' 1 % 64) * 4096 + (at' 2 % 64) * 64 + at' 3 % 64
    if c ≥ 0x10000 && Utf8.valid c then (c, 4) else (Utf8.runeError, 1)
  else (Utf8.runeError, 1)

def runesDec (s : List Nat) : (bound i : Nat) → List V
  | 0, _ => []
  | f + 1, i => if i < s.length then .int .i32 (utfDec (s.drop i)).1 :: runesDec s f (i + (utfDec (s.drop i)).2) else []

def minmax (isMax : Bool) : V → List V → Option V
  | .int k n, [] => some (.int k n)
  | .int k n, .int k' m :: vs => if k = k' then minmax isMax (.int k (if isMax then (if m > n then m else n) else (if m < n then m else n))) vs else none
  | _, _ => none

/-- What is appended, as cells, and their number in elements. -/
def added (h : Heap) (esz : Nat) : V → Option (List V × Nat)
  | .str s => if esz = 1 then some (bytesOf s, s.length) else none
  | .nilslice => some ([], 0)
  | .slice b o n _ => (h.read b o (n * esz)).map fun cs => (cs, n)
  | _ => none

def most : Nat := 2 ^ 47

def appendXs (h : Heap) (elem esz bytes : Nat) (s : V) (xs : List V) (n : Nat) : Option (V × Heap) :=
  match s with
  | .nilslice =>
    if n = 0 then some (.nilslice, h)
    else if (n + 1024) * bytes ≤ most ∧ n ≤ most then some (.slice h.next 0 n none, h.new (.cells xs elem esz true)) else none
  | .slice b o l (some c) =>
    if l + n ≤ c then
      if n = 0 then some (.slice b o l (some c), h) else
      match h.write b (o + l * esz) xs with
      | some h' => some (.slice b o (l + n) (some c), h')
      | none => none
    else if (l + n + 1024) * bytes ≤ most ∧ l + n ≤ most then
      match h.read b o (l * esz) with
      | some old => some (.slice h.next 0 (l + n) none, h.new (.cells (old ++ xs) elem esz true))
      | none => none
    else none
  | .slice b o l none =>
    if n = 0 then some (.slice b o l none, h)
    else if (l + n + 1024) * bytes ≤ most ∧ l + n ≤ most then
      match h.get b, h.read b o (l * esz) with
      | some (.cells _ t z true), some old => if z = esz ∧ t = elem ∧ xs.all V.one = true ∧ xs.length = n * esz then some (.slice h.next 0 (l + n) none, (h.set b none).new (.cells (old ++ xs) elem esz true)) else none
      | _, _ => none
    else none
  | _ => none

def appendV (h : Heap) (elem esz bytes : Nat) (s x : V) : Option (V × Heap) :=
  match added h esz x with
  | none => none
  | some (xs, n) => appendXs h elem esz bytes s xs n

def eqInts : List V → List V → Option Bool
  | [], [] => some true
  | .int k a :: xs, .int k' b :: ys => if k = k' then (if a = b then eqInts xs ys else some false) else none
  | _, _ => none

def copyV (h : Heap) (esz : Nat) (d s : V) : Option (V × Heap) :=
  match d, s with
  | .nilslice, .nilslice => some (.int .i64 0, h)
  | .nilslice, .slice _ _ _ _ => some (.int .i64 0, h)
  | .slice _ _ _ _, .nilslice => some (.int .i64 0, h)
  | .slice b o n _, .slice b' o' n' _ =>
    match h.read b' o' (min n' n * esz) with
    | some cs => if min n' n * esz = 0 then some (.int .i64 (min n' n : Nat), h) else (h.write b o cs).map fun h' => (.int .i64 (min n' n : Nat), h')
    | none => none
  | .slice b o n _, .str s => if esz = 1 then (if min s.length n = 0 then some (.int .i64 0, h) else (h.write b o (bytesOf (s.take n))).map fun h' => (.int .i64 (min s.length n : Nat), h')) else none
  | _, _ => none

def capOf : V → Option Nat
  | .nilslice => some 0
  | .slice _ _ _ c => c
  | _ => none

/-- Bounds: low, high, max. -/
def maxOf (len : Nat) (cap : Option Nat) (mx : Option V) : Option (Option Nat) :=
  match mx with
  | none => some cap
  | some v => match cap with
    | some c => (bound v c).map some
    | none => (bound v len).map some

def highOf (len : Nat) (m : Option Nat) (hi mx : Option V) : Option Nat :=
  match hi with
  | some v => match m with
    | some m => bound v m
    | none => bound v len
  | none => if mx.isSome then none else some len

def lowOf (h : Nat) (lo : Option V) : Option Nat :=
  match lo with
  | some v => bound v h
  | none => some 0

def bounds (len : Nat) (cap : Option Nat) (lo hi mx : Option V) : Option (Nat × Nat × Option Nat) :=
  match maxOf len cap mx with
  | none => none
  | some m => match highOf len m hi mx with
    | none => none
    | some h => match lowOf h lo with
      | none => none
      | some l => some (l, h, m)

def sliceV (h : Heap) (esz : Nat) (x : V) (lo hi mx : Option V) : Option V :=
  match x with
  | .nilslice => match bounds 0 (some 0) lo hi mx with
    | some (l, r, some m) => if l = 0 ∧ r = 0 ∧ m = 0 then some .nilslice else none
    | _ => none
  | .slice b o n (some c) => match bounds n (some c) lo hi mx with
    | some (l, r, some m) => some (.slice b (if m = l then o else o + l * esz) (r - l) (some (m - l)))
    | _ => none
  | .slice b o n none => if n = 0 then (match bounds 0 none lo hi mx with
      | some (_, _, none) => some (.slice b o 0 none)
      | _ => none) else match h.get b with
    | some (.cells _ _ z _) => if z = esz then match bounds n none lo hi mx with
      | some (l, r, some m) => some (.slice b (if m = l then o else o + l * esz) (r - l) (some (m - l)))
      | some (l, r, none) => some (.slice b (o + l * esz) (r - l) none)
      | none => none
      else none
    | _ => none
  | _ => none

def aop (cf : ACall) (o : AOp) (e : Env) (h : Heap) : Option (V × Heap) :=
  match o with
  | .move x => some (x.ev e, h)
  | .pick c a b => match c.ev e with
    | .bool true => some (a.ev e, h)
    | .bool false => some (b.ev e, h)
    | _ => none
  | .box elem esz zero => some (.ptr h.next 0, h.new (.cells zero elem esz true))
  | .boxv elem esz x => if (x.ev e).cells.all V.one then some (.ptr h.next 0, h.new (.cells (x.ev e).cells elem esz true)) else none
  | .build zero parts => (fillV zero (parts.map fun p => (p.1, p.2.1, p.2.2.ev e))).map fun cs => (.agg cs, h)
  | .buildSlice elem esz zero n parts =>
    match fillV (zeros zero n) (parts.map fun p => (p.1, p.2.1, p.2.2.ev e)) with
    | some cs => if cs.all V.one then some (.slice h.next 0 n (some n), h.new (.cells cs elem esz true)) else none
    | none => none
  | .load x => match x.ev e with
    | .ptr b o => match h.get b with
      | some (.cells cs _ _ _) => match nth cs o with
        | some v => some (v, h)
        | none => none
      | _ => none
    | _ => none
  | .loadn n x => match x.ev e with
    | .ptr b o => (h.read b o n).map fun cs => (.agg cs, h)
    | _ => none
  | .store n x v => match x.ev e with
    | .ptr b o => if (v.ev e).cells.length = n then (h.write b o (v.ev e).cells).map fun h' => (.undef, h') else none
    | _ => none
  | .nilCheck x => match x.ev e with
    | .nilptr => none
    | .niliface => none
    | .nilfunc => none
    | v => some (v, h)
  | .bin op x y => (bin op (x.ev e) (y.ev e)).map fun v => (v, h)
  | .eq neg k x y => (eqv k (x.ev e) (y.ev e)).map fun b => (.bool (if neg then !b else b), h)
  | .un op x => (un op (x.ev e)).map fun v => (v, h)
  | .conv k x => match x.ev e with
    | .int _ n => some (.int k (wrapF k n), h)
    | _ => none
  | .convStr x => match x.ev e with
    | .str s => some (.str s, h)
    | _ => none
  | .intStr x => match x.ev e with
    | .int _ n => some (.str (utfEnc n), h)
    | _ => none
  | .strBytes elem x => match x.ev e with
    | .str s => if s.length ≤ most then some (.slice h.next 0 s.length none, h.new (.cells (bytesOf s) elem 1 true)) else none
    | _ => none
  | .bytesStr x => match x.ev e with
    | .nilslice => some (.str [], h)
    | .slice b o n _ => match h.read b o n with
      | some cs => (strOf cs).map fun s => (.str s, h)
      | none => none
    | _ => none
  | .strRunes elem x => match x.ev e with
    | .str s => if s.length ≤ most then some (.slice h.next 0 (runesDec s s.length 0).length none, h.new (.cells (runesDec s s.length 0) elem 1 true)) else none
    | _ => none
  | .runesStr x => match x.ev e with
    | .nilslice => some (.str [], h)
    | .slice b o n _ => match h.read b o n with
      | some cs => (runesEnc cs).map fun s => (.str s, h)
      | none => none
    | _ => none
  | .mkIface t x => some (.iface t (x.ev e), h)
  | .mkFunc f pre post => some (.func f (pre.map (·.ev e)) (post.map (·.ev e)), h)
  | .makeSlice elem esz bytes zero n c =>
    match n.ev e, c.ev e with
    | .int _ n, .int _ c => if 0 ≤ n ∧ n ≤ c ∧ c ≤ most ∧ c.toNat * bytes ≤ most then some (.slice h.next 0 n.toNat (some c.toNat), h.new (.cells (zeros zero c.toNat) elem esz true)) else none
    | _, _ => none
  | .sliceStr x lo hi => match x.ev e with
    | .str s => match bounds s.length (some s.length) (lo.map (·.ev e)) (hi.map (·.ev e)) none with
      | some (l, r, _) => some (.str ((s.take r).drop l), h)
      | none => none
    | _ => none
  | .sliceSl esz x lo hi mx => (sliceV h esz (x.ev e) (lo.map (·.ev e)) (hi.map (·.ev e)) (mx.map (·.ev e))).map fun v => (v, h)
  | .sliceArr n esz x lo hi mx => match x.ev e with
    | .ptr b o => (sliceV h esz (.slice b o n (some n)) (lo.map (·.ev e)) (hi.map (·.ev e)) (mx.map (·.ev e))).map fun v => (v, h)
    | _ => none
  | .fieldAddr off x => match x.ev e with
    | .ptr b o => some (.ptr b (o + off), h)
    | _ => none
  | .field off n x => match x.ev e with
    | .agg cs => match n with
      | some n => if off + n ≤ cs.length then some (.agg ((cs.drop off).take n), h) else none
      | none => match cs[off]? with
        | some v => some (v, h)
        | none => none
    | _ => none
  | .indexAddrA len esz x i => match x.ev e, i.ev e with
    | .ptr b o, .int _ i => if 0 ≤ i ∧ i < len then some (.ptr b (o + i.toNat * esz), h) else none
    | _, _ => none
  | .indexAddrS esz x i => match x.ev e, i.ev e with
    | .slice b o n _, .int _ i => if 0 ≤ i ∧ i < n then some (.ptr b (o + i.toNat * esz), h) else none
    | _, _ => none
  | .indexA len esz agg x i => match x.ev e, i.ev e with
    | .agg cs, .int _ i => if 0 ≤ i ∧ i < len then
        (if agg then (if i.toNat * esz + esz ≤ cs.length then some (.agg ((cs.drop (i.toNat * esz)).take esz), h) else none)
         else match cs[i.toNat * esz]? with
          | some v => some (v, h)
          | none => none) else none
    | _, _ => none
  | .indexStr x i => match x.ev e, i.ev e with
    | .str s, .int _ i => if 0 ≤ i then (match s[i.toNat]? with
      | some b => some (.int .u8 b, h)
      | none => none) else none
    | _, _ => none
  | .range x => match x.ev e with
    | .str s => some (.ptr h.next 0, h.new (.iter s 0))
    | _ => none
  | .next x => match x.ev e with
    | .ptr b 0 => match h.get b with
      | some (.iter s pos) =>
        if pos < s.length then some (.tuple [.bool true, .int .i64 pos, .int .i32 (utfDec (s.drop pos)).1], h.set b (some (.iter s (pos + (utfDec (s.drop pos)).2))))
        else some (.tuple [.bool false], h)
      | _ => none
    | _ => none
  | .extract x i => match x.ev e with
    | .tuple vs => match vs[i]? with
      | some v => some (v, h)
      | none => none
    | _ => none
  | .call f args => match f.ev e with
    | .func f pre post => cf f (pre ++ args.map (·.ev e) ++ post) h
    | _ => none
  | .append elem esz bytes s x => appendV h elem esz bytes (s.ev e) (x.ev e)
  | .copy esz d s => copyV h esz (d.ev e) (s.ev e)
  | .lenS x => match x.ev e with
    | .str s => some (.int .i64 s.length, h)
    | _ => none
  | .lenL x => match x.ev e with
    | .nilslice => some (.int .i64 0, h)
    | .slice _ _ n _ => some (.int .i64 n, h)
    | _ => none
  | .cap x => (capOf (x.ev e)).map fun (c : Nat) => (.int .i64 (Int.ofNat c), h)
  | .lenC n => some (.int .i64 n, h)
  | .minmax b xs => match xs.map (·.ev e) with
    | v :: vs => (minmax b v vs).map fun v => (v, h)
    | [] => none
  | .convSame x => match x.ev e with
    | .slice b o n c => if n = 0 then none else match h.get b with
      | some (.cells _ _ _ true) => some (.slice b o n c, h)
      | _ => none
    | _ => none
  | .eqArr neg n x y => match x.ev e, y.ev e with
    | .agg xs, .agg ys => if xs.length = n ∧ ys.length = n then (eqInts xs ys).map fun b => (.bool (if neg then !b else b), h) else none
    | _, _ => none
  | .appendZ elem esz bytes zero s n => match n.ev e with
    | .int k n => if k = .i64 ∧ 0 ≤ n ∧ n ≤ most ∧ n * bytes ≤ most then appendXs h elem esz bytes (s.ev e) (zeros zero n.toNat) n.toNat else none
    | _ => none
  | .float _ _ => none

/-! The same, each operation by itself: what the kernel reckons with. -/

set_option linter.unusedVariables false

def fMove (cf : ACall) (e : Env) (h : Heap) (x : Opd) : Option (V × Heap) :=
    some (x.ev e, h)

def fPick (cf : ACall) (e : Env) (h : Heap) (c : Opd) (a : Opd) (b : Opd) : Option (V × Heap) :=
    match c.ev e with
    | .bool true => some (a.ev e, h)
    | .bool false => some (b.ev e, h)
    | _ => none

def fBox (cf : ACall) (e : Env) (h : Heap) (elem : Nat) (esz : Nat) (zero : List V) : Option (V × Heap) :=
    some (.ptr h.next 0, h.new (.cells zero elem esz true))

def fBoxv (cf : ACall) (e : Env) (h : Heap) (elem : Nat) (esz : Nat) (x : Opd) : Option (V × Heap) :=
    if (x.ev e).cells.all V.one then some (.ptr h.next 0, h.new (.cells (x.ev e).cells elem esz true)) else none

def fBuild (cf : ACall) (e : Env) (h : Heap) (zero : List V) (parts : List (Nat × Nat × Opd)) : Option (V × Heap) :=
    (fillV zero (parts.map fun p => (p.1, p.2.1, p.2.2.ev e))).map fun cs => (.agg cs, h)

def fBuildSlice (cf : ACall) (e : Env) (h : Heap) (elem : Nat) (esz : Nat) (zero : List V) (n : Nat) (parts : List (Nat × Nat × Opd)) : Option (V × Heap) :=
   
    match fillV (zeros zero n) (parts.map fun p => (p.1, p.2.1, p.2.2.ev e)) with
    | some cs => if cs.all V.one then some (.slice h.next 0 n (some n), h.new (.cells cs elem esz true)) else none
    | none => none

def fLoad (cf : ACall) (e : Env) (h : Heap) (x : Opd) : Option (V × Heap) :=
    match x.ev e with
    | .ptr b o => match h.get b with
      | some (.cells cs _ _ _) => match nth cs o with
        | some v => some (v, h)
        | none => none
      | _ => none
    | _ => none

def fLoadn (cf : ACall) (e : Env) (h : Heap) (n : Nat) (x : Opd) : Option (V × Heap) :=
    match x.ev e with
    | .ptr b o => (h.read b o n).map fun cs => (.agg cs, h)
    | _ => none

def fStore (cf : ACall) (e : Env) (h : Heap) (n : Nat) (x : Opd) (v : Opd) : Option (V × Heap) :=
    match x.ev e with
    | .ptr b o => if (v.ev e).cells.length = n then (h.write b o (v.ev e).cells).map fun h' => (.undef, h') else none
    | _ => none

def fNilCheck (cf : ACall) (e : Env) (h : Heap) (x : Opd) : Option (V × Heap) :=
    match x.ev e with
    | .nilptr => none
    | .niliface => none
    | .nilfunc => none
    | v => some (v, h)

def fBin (cf : ACall) (e : Env) (h : Heap) (op : BinOp) (x : Opd) (y : Opd) : Option (V × Heap) :=
    (bin op (x.ev e) (y.ev e)).map fun v => (v, h)

def fEq (cf : ACall) (e : Env) (h : Heap) (neg : Bool) (k : EqKind) (x : Opd) (y : Opd) : Option (V × Heap) :=
    (eqv k (x.ev e) (y.ev e)).map fun b => (.bool (if neg then !b else b), h)

def fUn (cf : ACall) (e : Env) (h : Heap) (op : UnOp) (x : Opd) : Option (V × Heap) :=
    (un op (x.ev e)).map fun v => (v, h)

def fConv (cf : ACall) (e : Env) (h : Heap) (k : IntKind) (x : Opd) : Option (V × Heap) :=
    match x.ev e with
    | .int _ n => some (.int k (wrapF k n), h)
    | _ => none

def fConvStr (cf : ACall) (e : Env) (h : Heap) (x : Opd) : Option (V × Heap) :=
    match x.ev e with
    | .str s => some (.str s, h)
    | _ => none

def fIntStr (cf : ACall) (e : Env) (h : Heap) (x : Opd) : Option (V × Heap) :=
    match x.ev e with
    | .int _ n => some (.str (utfEnc n), h)
    | _ => none

def fStrBytes (cf : ACall) (e : Env) (h : Heap) (elem : Nat) (x : Opd) : Option (V × Heap) :=
    match x.ev e with
    | .str s => if s.length ≤ most then some (.slice h.next 0 s.length none, h.new (.cells (bytesOf s) elem 1 true)) else none
    | _ => none

def fBytesStr (cf : ACall) (e : Env) (h : Heap) (x : Opd) : Option (V × Heap) :=
    match x.ev e with
    | .nilslice => some (.str [], h)
    | .slice b o n _ => match h.read b o n with
      | some cs => (strOf cs).map fun s => (.str s, h)
      | none => none
    | _ => none

def fStrRunes (cf : ACall) (e : Env) (h : Heap) (elem : Nat) (x : Opd) : Option (V × Heap) :=
    match x.ev e with
    | .str s => if s.length ≤ most then some (.slice h.next 0 (runesDec s s.length 0).length none, h.new (.cells (runesDec s s.length 0) elem 1 true)) else none
    | _ => none

def fRunesStr (cf : ACall) (e : Env) (h : Heap) (x : Opd) : Option (V × Heap) :=
    match x.ev e with
    | .nilslice => some (.str [], h)
    | .slice b o n _ => match h.read b o n with
      | some cs => (runesEnc cs).map fun s => (.str s, h)
      | none => none
    | _ => none

def fMkIface (cf : ACall) (e : Env) (h : Heap) (t : Nat) (x : Opd) : Option (V × Heap) :=
    some (.iface t (x.ev e), h)

def fMkFunc (cf : ACall) (e : Env) (h : Heap) (f : Nat) (pre : List Opd) (post : List Opd) : Option (V × Heap) :=
    some (.func f (pre.map (·.ev e)) (post.map (·.ev e)), h)

def fMakeSlice (cf : ACall) (e : Env) (h : Heap) (elem : Nat) (esz : Nat) (bytes : Nat) (zero : List V) (n : Opd) (c : Opd) : Option (V × Heap) :=
   
    match n.ev e, c.ev e with
    | .int _ n, .int _ c => if 0 ≤ n ∧ n ≤ c ∧ c ≤ most ∧ c.toNat * bytes ≤ most then some (.slice h.next 0 n.toNat (some c.toNat), h.new (.cells (zeros zero c.toNat) elem esz true)) else none
    | _, _ => none

def fSliceStr (cf : ACall) (e : Env) (h : Heap) (x : Opd) (lo : Option Opd) (hi : Option Opd) : Option (V × Heap) :=
    match x.ev e with
    | .str s => match bounds s.length (some s.length) (lo.map (·.ev e)) (hi.map (·.ev e)) none with
      | some (l, r, _) => some (.str ((s.take r).drop l), h)
      | none => none
    | _ => none

def fSliceSl (cf : ACall) (e : Env) (h : Heap) (esz : Nat) (x : Opd) (lo : Option Opd) (hi : Option Opd) (mx : Option Opd) : Option (V × Heap) :=
    (sliceV h esz (x.ev e) (lo.map (·.ev e)) (hi.map (·.ev e)) (mx.map (·.ev e))).map fun v => (v, h)

def fSliceArr (cf : ACall) (e : Env) (h : Heap) (n : Nat) (esz : Nat) (x : Opd) (lo : Option Opd) (hi : Option Opd) (mx : Option Opd) : Option (V × Heap) :=
    match x.ev e with
    | .ptr b o => (sliceV h esz (.slice b o n (some n)) (lo.map (·.ev e)) (hi.map (·.ev e)) (mx.map (·.ev e))).map fun v => (v, h)
    | _ => none

def fFieldAddr (cf : ACall) (e : Env) (h : Heap) (off : Nat) (x : Opd) : Option (V × Heap) :=
    match x.ev e with
    | .ptr b o => some (.ptr b (o + off), h)
    | _ => none

def fField (cf : ACall) (e : Env) (h : Heap) (off : Nat) (n : Option Nat) (x : Opd) : Option (V × Heap) :=
    match x.ev e with
    | .agg cs => match n with
      | some n => if off + n ≤ cs.length then some (.agg ((cs.drop off).take n), h) else none
      | none => match cs[off]? with
        | some v => some (v, h)
        | none => none
    | _ => none

def fIndexAddrA (cf : ACall) (e : Env) (h : Heap) (len : Nat) (esz : Nat) (x : Opd) (i : Opd) : Option (V × Heap) :=
    match x.ev e, i.ev e with
    | .ptr b o, .int _ i => if 0 ≤ i ∧ i < len then some (.ptr b (o + i.toNat * esz), h) else none
    | _, _ => none

def fIndexAddrS (cf : ACall) (e : Env) (h : Heap) (esz : Nat) (x : Opd) (i : Opd) : Option (V × Heap) :=
    match x.ev e, i.ev e with
    | .slice b o n _, .int _ i => if 0 ≤ i ∧ i < n then some (.ptr b (o + i.toNat * esz), h) else none
    | _, _ => none

def fIndexA (cf : ACall) (e : Env) (h : Heap) (len : Nat) (esz : Nat) (agg : Bool) (x : Opd) (i : Opd) : Option (V × Heap) :=
    match x.ev e, i.ev e with
    | .agg cs, .int _ i => if 0 ≤ i ∧ i < len then
        (if agg then (if i.toNat * esz + esz ≤ cs.length then some (.agg ((cs.drop (i.toNat * esz)).take esz), h) else none)
         else match cs[i.toNat * esz]? with
          | some v => some (v, h)
          | none => none) else none
    | _, _ => none

def fIndexStr (cf : ACall) (e : Env) (h : Heap) (x : Opd) (i : Opd) : Option (V × Heap) :=
    match x.ev e, i.ev e with
    | .str s, .int _ i => if 0 ≤ i then (match s[i.toNat]? with
      | some b => some (.int .u8 b, h)
      | none => none) else none
    | _, _ => none

def fRange (cf : ACall) (e : Env) (h : Heap) (x : Opd) : Option (V × Heap) :=
    match x.ev e with
    | .str s => some (.ptr h.next 0, h.new (.iter s 0))
    | _ => none

def fNext (cf : ACall) (e : Env) (h : Heap) (x : Opd) : Option (V × Heap) :=
    match x.ev e with
    | .ptr b 0 => match h.get b with
      | some (.iter s pos) =>
        if pos < s.length then some (.tuple [.bool true, .int .i64 pos, .int .i32 (utfDec (s.drop pos)).1], h.set b (some (.iter s (pos + (utfDec (s.drop pos)).2))))
        else some (.tuple [.bool false], h)
      | _ => none
    | _ => none

def fExtract (cf : ACall) (e : Env) (h : Heap) (x : Opd) (i : Nat) : Option (V × Heap) :=
    match x.ev e with
    | .tuple vs => match vs[i]? with
      | some v => some (v, h)
      | none => none
    | _ => none

def fCall (cf : ACall) (e : Env) (h : Heap) (f : Opd) (args : List Opd) : Option (V × Heap) :=
    match f.ev e with
    | .func f pre post => cf f (pre ++ args.map (·.ev e) ++ post) h
    | _ => none

def fAppend (cf : ACall) (e : Env) (h : Heap) (elem : Nat) (esz : Nat) (bytes : Nat) (s : Opd) (x : Opd) : Option (V × Heap) :=
    appendV h elem esz bytes (s.ev e) (x.ev e)

def fCopy (cf : ACall) (e : Env) (h : Heap) (esz : Nat) (d : Opd) (s : Opd) : Option (V × Heap) :=
    copyV h esz (d.ev e) (s.ev e)

def fLenS (cf : ACall) (e : Env) (h : Heap) (x : Opd) : Option (V × Heap) :=
    match x.ev e with
    | .str s => some (.int .i64 s.length, h)
    | _ => none

def fLenL (cf : ACall) (e : Env) (h : Heap) (x : Opd) : Option (V × Heap) :=
    match x.ev e with
    | .nilslice => some (.int .i64 0, h)
    | .slice _ _ n _ => some (.int .i64 n, h)
    | _ => none

def fCap (cf : ACall) (e : Env) (h : Heap) (x : Opd) : Option (V × Heap) :=
    (capOf (x.ev e)).map fun (c : Nat) => (.int .i64 (Int.ofNat c), h)

def fLenC (cf : ACall) (e : Env) (h : Heap) (n : Nat) : Option (V × Heap) :=
    some (.int .i64 n, h)

def fMinmax (cf : ACall) (e : Env) (h : Heap) (b : Bool) (xs : List Opd) : Option (V × Heap) :=
    match xs.map (·.ev e) with
    | v :: vs => (minmax b v vs).map fun v => (v, h)
    | [] => none

def fConvSame (cf : ACall) (e : Env) (h : Heap) (x : Opd) : Option (V × Heap) :=
    match x.ev e with
    | .slice b o n c => if n = 0 then none else match h.get b with
      | some (.cells _ _ _ true) => some (.slice b o n c, h)
      | _ => none
    | _ => none

def fEqArr (cf : ACall) (e : Env) (h : Heap) (neg : Bool) (n : Nat) (x : Opd) (y : Opd) : Option (V × Heap) :=
    match x.ev e, y.ev e with
    | .agg xs, .agg ys => if xs.length = n ∧ ys.length = n then (eqInts xs ys).map fun b => (.bool (if neg then !b else b), h) else none
    | _, _ => none

def fAppendZ (cf : ACall) (e : Env) (h : Heap) (elem : Nat) (esz : Nat) (bytes : Nat) (zero : List V) (s : Opd) (n : Opd) : Option (V × Heap) :=
    match n.ev e with
    | .int k n => if k = .i64 ∧ 0 ≤ n ∧ n ≤ most ∧ n * bytes ≤ most then appendXs h elem esz bytes (s.ev e) (zeros zero n.toNat) n.toNat else none
    | _ => none

def aopF (cf : ACall) (o : AOp) (e : Env) (h : Heap) : Option (V × Heap) :=
  match o with
  | .move a0 => fMove cf e h a0
  | .pick a0 a1 a2 => fPick cf e h a0 a1 a2
  | .box a0 a1 a2 => fBox cf e h a0 a1 a2
  | .boxv a0 a1 a2 => fBoxv cf e h a0 a1 a2
  | .build a0 a1 => fBuild cf e h a0 a1
  | .buildSlice a0 a1 a2 a3 a4 => fBuildSlice cf e h a0 a1 a2 a3 a4
  | .load a0 => fLoad cf e h a0
  | .loadn a0 a1 => fLoadn cf e h a0 a1
  | .store a0 a1 a2 => fStore cf e h a0 a1 a2
  | .nilCheck a0 => fNilCheck cf e h a0
  | .bin a0 a1 a2 => fBin cf e h a0 a1 a2
  | .eq a0 a1 a2 a3 => fEq cf e h a0 a1 a2 a3
  | .un a0 a1 => fUn cf e h a0 a1
  | .conv a0 a1 => fConv cf e h a0 a1
  | .convStr a0 => fConvStr cf e h a0
  | .intStr a0 => fIntStr cf e h a0
  | .strBytes a0 a1 => fStrBytes cf e h a0 a1
  | .bytesStr a0 => fBytesStr cf e h a0
  | .strRunes a0 a1 => fStrRunes cf e h a0 a1
  | .runesStr a0 => fRunesStr cf e h a0
  | .mkIface a0 a1 => fMkIface cf e h a0 a1
  | .mkFunc a0 a1 a2 => fMkFunc cf e h a0 a1 a2
  | .makeSlice a0 a1 a2 a3 a4 a5 => fMakeSlice cf e h a0 a1 a2 a3 a4 a5
  | .sliceStr a0 a1 a2 => fSliceStr cf e h a0 a1 a2
  | .sliceSl a0 a1 a2 a3 a4 => fSliceSl cf e h a0 a1 a2 a3 a4
  | .sliceArr a0 a1 a2 a3 a4 a5 => fSliceArr cf e h a0 a1 a2 a3 a4 a5
  | .fieldAddr a0 a1 => fFieldAddr cf e h a0 a1
  | .field a0 a1 a2 => fField cf e h a0 a1 a2
  | .indexAddrA a0 a1 a2 a3 => fIndexAddrA cf e h a0 a1 a2 a3
  | .indexAddrS a0 a1 a2 => fIndexAddrS cf e h a0 a1 a2
  | .indexA a0 a1 a2 a3 a4 => fIndexA cf e h a0 a1 a2 a3 a4
  | .indexStr a0 a1 => fIndexStr cf e h a0 a1
  | .range a0 => fRange cf e h a0
  | .next a0 => fNext cf e h a0
  | .extract a0 a1 => fExtract cf e h a0 a1
  | .call a0 a1 => fCall cf e h a0 a1
  | .append a0 a1 a2 a3 a4 => fAppend cf e h a0 a1 a2 a3 a4
  | .copy a0 a1 a2 => fCopy cf e h a0 a1 a2
  | .lenS a0 => fLenS cf e h a0
  | .lenL a0 => fLenL cf e h a0
  | .cap a0 => fCap cf e h a0
  | .lenC a0 => fLenC cf e h a0
  | .minmax a0 a1 => fMinmax cf e h a0 a1
  | .convSame a0 => fConvSame cf e h a0
  | .eqArr a0 a1 a2 a3 => fEqArr cf e h a0 a1 a2 a3
  | .appendZ a0 a1 a2 a3 a4 a5 => fAppendZ cf e h a0 a1 a2 a3 a4 a5
  | .float _ _ => none

theorem aopF_eq (cf : ACall) (o : AOp) (e : Env) (h : Heap) : aopF cf o e h = aop cf o e h := by cases o <;> rfl

def put (e : Env) (dst : Option Nat) (v : V) : Env :=
  match dst with
  | some d => e.put d v
  | none => e

def wantedA (g : Option (Nat × Bool)) (e : Env) : Bool :=
  match g with
  | none => true
  | some (t, want) => match e.at t with
    | .bool b => b == want
    | _ => false

def stepA (cf : ACall) (o : AOper) (e : Env) (h : Heap) : Option (Env × Heap) :=
  if wantedA o.guard e then
    match aopF cf o.op e h with
    | some (v, h') => some (put e o.dst v, h')
    | none => none
  else some (put e o.dst .undef, h)

theorem stepA_eq (cf : ACall) (o : AOper) (e : Env) (h : Heap) : stepA cf o e h = if wantedA o.guard e then (match aop cf o.op e h with
    | some (v, h') => some (put e o.dst v, h')
    | none => none) else some (put e o.dst .undef, h) := by
  unfold stepA
  rw [aopF_eq]

def stepsA (cf : ACall) : List AOper → Env → Heap → Option (Env × Heap)
  | [], e, h => some (e, h)
  | o :: os, e, h => match stepA cf o e h with
    | some (e', h') => stepsA cf os e' h'
    | none => none

/-! ### Rows whose order is not fixed -/

/-- May it turn memory? -/
def isWriter : AOp → Bool
  | .box _ _ _ => true
  | .boxv _ _ _ => true
  | .buildSlice _ _ _ _ _ => true
  | .store _ _ _ => true
  | .strBytes _ _ => true
  | .strRunes _ _ => true
  | .makeSlice _ _ _ _ _ _ => true
  | .range _ => true
  | .next _ => true
  | .call _ _ => true
  | .append _ _ _ _ _ => true
  | .appendZ _ _ _ _ _ _ => true
  | .copy _ _ _ => true
  | _ => false

/-- Does it look at memory? -/
def isReader : AOp → Bool
  | .load _ => true
  | .loadn _ _ => true
  | .bytesStr _ => true
  | .runesStr _ => true
  | .convSame _ => true
  | .sliceSl _ _ _ _ _ => true
  | _ => false

def AOp.opds : AOp → List Opd
  | .move x => [x]
  | .pick c a b => [c, a, b]
  | .box _ _ _ => []
  | .boxv _ _ x => [x]
  | .build _ ps => ps.map (·.2.2)
  | .buildSlice _ _ _ _ ps => ps.map (·.2.2)
  | .load x => [x]
  | .loadn _ x => [x]
  | .store _ x v => [x, v]
  | .nilCheck x => [x]
  | .bin _ x y => [x, y]
  | .eq _ _ x y => [x, y]
  | .un _ x => [x]
  | .conv _ x => [x]
  | .convStr x => [x]
  | .intStr x => [x]
  | .strBytes _ x => [x]
  | .bytesStr x => [x]
  | .strRunes _ x => [x]
  | .runesStr x => [x]
  | .mkIface _ x => [x]
  | .mkFunc _ ps qs => ps ++ qs
  | .makeSlice _ _ _ _ n c => [n, c]
  | .sliceStr x lo hi => x :: (lo.toList ++ hi.toList)
  | .sliceSl _ x lo hi mx => x :: (lo.toList ++ hi.toList ++ mx.toList)
  | .sliceArr _ _ x lo hi mx => x :: (lo.toList ++ hi.toList ++ mx.toList)
  | .fieldAddr _ x => [x]
  | .field _ _ x => [x]
  | .indexAddrA _ _ x i => [x, i]
  | .indexAddrS _ x i => [x, i]
  | .indexA _ _ _ x i => [x, i]
  | .indexStr x i => [x, i]
  | .range x => [x]
  | .next x => [x]
  | .extract x _ => [x]
  | .call f args => f :: args
  | .append _ _ _ s x => [s, x]
  | .copy _ d s => [d, s]
  | .lenS x => [x]
  | .lenL x => [x]
  | .cap x => [x]
  | .lenC _ => []
  | .minmax _ xs => xs
  | .convSame x => [x]
  | .eqArr _ _ x y => [x, y]
  | .appendZ _ _ _ _ s n => [s, n]
  | .float _ op => op.opds

def tmpOf : Opd → Option Nat
  | .tmp t => some t
  | _ => none

/-- The temporaries that an operation looks at. -/
def AOper.looks (o : AOper) : List Nat :=
  (match o.guard with
    | some (t, _) => [t]
    | none => []) ++ o.op.opds.filterMap tmpOf

def hits (d : Option Nat) (l : List Nat) : Bool :=
  match d with
  | some d => l.contains d
  | none => false

/-- Two operations that have no temporary to do with one another. -/
def apartA (x y : AOper) : Bool := !(hits x.dst y.looks) && !(hits y.dst x.looks) && !(hits x.dst y.dst.toList)

structure It where
  o : AOper
  v : V
  h : Heap

def stepV (cf : ACall) (o : AOper) (e : Env) (h : Heap) : Option (V × Heap) :=
  if wantedA o.guard e then aopF cf o.op e h else some (.undef, h)

theorem stepV_eq (cf : ACall) (o : AOper) (e : Env) (h : Heap) : stepV cf o e h = if wantedA o.guard e then aop cf o.op e h else some (.undef, h) := by
  unfold stepV
  rw [aopF_eq]

def traceA (cf : ACall) : List AOper → Env → Heap → Option (List It)
  | [], _, _ => some []
  | o :: os, e, h => match stepV cf o e h with
    | none => none
    | some (v, h') => match traceA cf os (put e o.dst v) h' with
      | none => none
      | some l => some (⟨o, v, h'⟩ :: l)

def envL (s : Nat → Bool) : Nat → List It → Env → Env
  | _, [], e => e
  | i, x :: r, e => envL s (i + 1) r (if s i then put e x.o.dst x.v else e)

def heapL (s : Nat → Bool) : Nat → List It → Heap → Heap
  | _, [], h => h
  | i, x :: r, h => heapL s (i + 1) r (if s i && isWriter x.o.op then x.h else h)

/-- The memory behind number b - 1; 0: at the beginning. -/
def heapB (l : List It) (h : Heap) : Nat → Heap
  | 0 => h
  | b + 1 => match l[b]? with
    | some x => x.h
    | none => h

/-- The last that writes, among those of s, and one. -/
def lastB (s : Nat → Bool) : Nat → List AOper → Nat → Nat
  | _, [], b => b
  | i, o :: r, b => lastB s (i + 1) r (if s i && isWriter o.op then i + 1 else b)

mutual
def sameV : V → V → Bool
  | .bool a, .bool b => a == b
  | .int k a, .int k' b => k == k' && a == b
  | .str a, .str b => a == b
  | .nilptr, .nilptr => true
  | .ptr a b, .ptr c d => a == c && b == d
  | .nilslice, .nilslice => true
  | .slice a b c d, .slice a' b' c' d' => a == a' && b == b' && c == c' && d == d'
  | .func f p q, .func f' p' q' => f == f' && sameL p p' && sameL q q'
  | .nilfunc, .nilfunc => true
  | .iface t v, .iface t' v' => t == t' && sameV v v'
  | .niliface, .niliface => true
  | .agg a, .agg b => sameL a b
  | .tuple a, .tuple b => sameL a b
  | _, _ => false
def sameL : List V → List V → Bool
  | [], [] => true
  | a :: l, b :: m => sameV a b && sameL l m
  | _, _ => false
end

def chkOk (cf : ACall) (l : List It) (e : Env) (h : Heap) (chk : List (Nat × Nat)) : Bool :=
  chk.all fun p => match l[p.1]? with
    | some x => match stepV cf x.o (envL (fun j => decide (j < p.1)) 0 l e) (heapB l h p.2) with
      | some (v, _) => sameV v x.v
      | none => false
    | none => false

/-- All that must come ahead, number by number: bit y of a number says: y must. -/
def maskOf (acc : List Nat) : List Nat → Nat
  | [] => 0
  | y :: d => (2 ^ y ||| acc.getD y 0) ||| maskOf acc d

def ancs : List Nat → List (List Nat) → List Nat
  | acc, [] => acc
  | acc, d :: ds => ancs (acc ++ [maskOf acc d]) ds

def wat (ops : List AOper) (i : Nat) : Bool := match ops[i]? with | some o => isWriter o.op | none => false

/-- Where a look might be taken: behind number b - 1. -/
def feasible (ops : List AOper) (anc : List Nat) (i b : Nat) : Bool :=
  match b with
  | 0 => !((List.range ops.length).any fun y => (anc.getD i 0).testBit y && wat ops y)
  | j + 1 => wat ops j && !((anc.getD j 0).testBit i) && (List.range ops.length).all fun y => !((anc.getD i 0).testBit y) || !(wat ops y) || decide (y ≤ j)

def planChk (ops : List AOper) (anc : List Nat) : List (Nat × Nat) :=
  (List.range ops.length).flatMap fun i =>
    if (match ops[i]? with | some o => isReader o.op | none => false) then
      ((List.range (ops.length + 1)).filter fun b => feasible ops anc i b && !(b == lastB (fun j => decide (j < i)) 0 ops 0)).map fun b => (i, b)
    else []

def planOk (ops : List AOper) (dep : List (List Nat)) (anc : List Nat) : Bool :=
  decide (dep.length = ops.length) &&
  ((List.range ops.length).all fun j => (dep.getD j []).all fun y => decide (y < j)) &&
  ((List.range ops.length).all fun j => (List.range j).all fun i => (anc.getD j 0).testBit i ||
    ((match ops[i]?, ops[j]? with | some x, some y => apartA x y | _, _ => true) && !(wat ops i && wat ops j)))

/-! Blocks that may be made at several places: their numbers are kept free from the region's beginning on, and they come into memory where one that writes waits for them. -/

def isAlloc : AOp → Bool
  | .box _ _ _ => true
  | .boxv _ _ _ => true
  | .buildSlice _ _ _ _ _ => true
  | .strBytes _ _ => true
  | .strRunes _ _ => true
  | .makeSlice _ _ _ _ _ _ => true
  | _ => false

/-- Does it make a block that floats? -/
def isFl : AOp → Bool
  | .float _ op => isAlloc op
  | _ => false

def isF : AOp → Bool
  | .float _ _ => true
  | _ => false

def floatL (f : Nat → AOper → Option Nat) : Nat → List AOper → List AOper
  | _, [] => []
  | i, o :: os => (match f i o with
    | some k => { o with op := .float k o.op }
    | none => o) :: floatL f (i + 1) os

/-- Which ones float: those that one that writes is not ordered with. -/
def floatB (ops : List AOper) (anc : List Nat) (i : Nat) (o : AOper) : Bool :=
  isAlloc o.op && (List.range ops.length).any fun j => wat ops j && !(j == i) && !((anc.getD j 0).testBit i) && !((anc.getD i 0).testBit j)

def float1 (ops : List AOper) (anc : List Nat) (i : Nat) (o : AOper) : Option Nat := if floatB ops anc i o then some 0 else none

def flat (ops : List AOper) (i : Nat) : Bool := match ops[i]? with | some o => isFl o.op | none => false

def actOf (ops : List AOper) (anc : List Nat) (i : Nat) : Nat :=
  ((List.range ops.length).find? fun j => wat ops j && (anc.getD j 0).testBit i).getD ops.length

/-- Whence a temporary has its value, before the i-th. -/
def origF (ops : List AOper) : Nat → Nat → Nat → Option Nat
  | 0, _, _ => none
  | f + 1, i, t => match (List.range i).reverse.find? fun k => (match ops[k]? with | some y => y.dst == some t | none => false) with
    | some k => if flat ops k then some k else match ops[k]? with
      | some y => match y.op with
        | .move (.tmp t') => origF ops f k t'
        | .convSame (.tmp t') => origF ops f k t'
        | .sliceSl _ (.tmp t') _ _ _ => origF ops f k t'
        | _ => none
      | none => none
    | none => none

/-- One that looks at a floating block while it is hidden: which one. -/
def view1 (ops : List AOper) (anc : List Nat) (i : Nat) (o : AOper) : Option Nat :=
  if isReader o.op then match o.op.opds with
    | .tmp t :: _ => match origF ops 9 i t with
      | some k => if (anc.getD i 0).testBit k && (actOf ops anc k == ops.length || (anc.getD (actOf ops anc k) 0).testBit i) then some k else none
      | none => none
    | _ => none
  else none

def floatAt (ops : List AOper) (anc : List Nat) (i : Nat) (o : AOper) : Option Nat :=
  match float1 ops anc i o with
  | some k => some k
  | none => view1 (floatL (float1 ops anc) 0 ops) anc i o

/-- Those that look at a floating block, or turn its mark: they come up while it is hidden. -/
def viewsOk (ops : List AOper) (anc : List Nat) : Bool :=
  (List.range ops.length).all fun i => match ops[i]? with
    | some o => match o.op with
      | .float k op => isAlloc op || (flat ops k && (anc.getD i 0).testBit k && (actOf ops anc k == ops.length || (anc.getD (actOf ops anc k) 0).testBit i))
      | _ => true
    | none => true

def actsOf (ops : List AOper) (anc : List Nat) : List (List Nat) :=
  (List.range (ops.length + 1)).map fun j => (List.range ops.length).filter fun i => flat ops i && actOf ops anc i == j

def Heap.gap (h : Heap) (n : Nat) : Heap := { next := h.next + n, t := h.t }

def bare0 (n : Nat) : Heap := { next := n, t := .nil }

def actH (n0 : Nat) (done : List It) : List Nat → Heap → Heap
  | [], h => h
  | i :: is, h => actH n0 done is (match done[i]? with
    | some x => match x.h.get (n0 + i) with
      | some B => h.set (n0 + i) (some B)
      | none => h
    | none => h)

def stepF (cf : ACall) (n : Nat) (done : List It) (o : AOper) (e : Env) (h : Heap) : Option (V × Heap) :=
  match o.op with
  | .float k op => if isAlloc op then stepV cf ⟨o.dst, op, o.guard⟩ e (bare0 n) else if isReader op then (match done[k]? with
    | some y => stepV cf ⟨o.dst, op, o.guard⟩ e y.h
    | none => none) else none
  | _ => stepV cf o e h

def traceF (cf : ACall) (n0 : Nat) (acts : List (List Nat)) : List It → List AOper → Env → Heap → Option (List It)
  | done, [], _, _ => some done
  | done, o :: os, e, h => match stepF cf (n0 + done.length) done o e (actH n0 done (acts.getD done.length []) h) with
    | none => none
    | some (v, h') => traceF cf n0 acts (done ++ [⟨o, v, h'⟩]) os (put e o.dst v) (if isWriter o.op then h' else h)

def iterA (f : Env → Heap → Option (AExit × Env × Heap)) : Nat → Env → Heap → Option (AExit × Env × Heap)
  | 0, _, _ => none
  | n + 1, e, h => match f e h with
    | some (.normal, e', h') => iterA f n e' h'
    | r => r

def execA (cf : ACall) (N : Nat) : ACode → Env → Heap → Option (AExit × Env × Heap)
  | .skip, e, h => some (.normal, e, h)
  | .region ops, e, h => match stepsA cf ops e h with
    | some (e', h') => some (.normal, e', h')
    | none => none
  | .anyRegion ops chk, e, h => match traceA cf ops e h with
    | some l => if chkOk cf l e h chk then some (.normal, envL (fun _ => true) 0 l e, heapL (fun _ => true) 0 l h) else none
    | none => none
  | .floatRegion ops acts chk, e, h => match traceF cf h.next acts [] ops e (h.gap ops.length) with
    | some l => if chkOk cf l e (h.gap ops.length) chk then some (.normal, envL (fun _ => true) 0 l e, actH h.next l (acts.getD ops.length []) (heapL (fun _ => true) 0 l (h.gap ops.length))) else none
    | none => none
  | .seq a b, e, h => match execA cf N a e h with
    | some (.normal, e', h') => execA cf N b e' h'
    | r => r
  | .cond c a b, e, h => match c.ev e with
    | .bool true => execA cf N a e h
    | .bool false => execA cf N b e h
    | _ => none
  | .block id b, e, h => match execA cf N b e h with
    | some (.exit id', e', h') => if id' = id then some (.normal, e', h') else some (.exit id', e', h')
    | r => r
  | .loop b, e, h => iterA (execA cf N b) N e h
  | .exit id, e, h => some (.exit id, e, h)
  | .ret, e, h => some (.ret, e, h)

def resA (e : Env) (h : Heap) : ARes → Option V
  | .tmp t => some (e.at t)
  | .cell t => match e.at t with
    | .ptr b o => match h.read b o 1 with
      | some [v] => some v
      | _ => none
    | _ => none
  | .cells t n => match e.at t with
    | .ptr b o => (h.read b o n).map V.agg
    | _ => none

def ressA (e : Env) (h : Heap) : List ARes → Option (List V)
  | [] => some []
  | r :: rs => match resA e h r, ressA e h rs with
    | some v, some vs => some (v :: vs)
    | _, _ => none

def pack : List V → V
  | [v] => v
  | vs => .tuple vs

def runA (tab : Nat → Option AFn) (N : Nat) : Nat → ACall
  | 0 => fun _ _ _ => none
  | n + 1 => fun f args h => match tab f with
    | none => none
    | some fn =>
      match execA (runA tab N n) N fn.body (Env.init args fn.ntmps) h with
      | some (.normal, e, h') => (ressA e h' fn.results).map fun vs => (pack vs, h')
      | some (.ret, e, h') => (ressA e h' fn.results).map fun vs => (pack vs, h')
      | _ => none

end
end Go.Proofs.YthfbefjmenddkaaDoorA
