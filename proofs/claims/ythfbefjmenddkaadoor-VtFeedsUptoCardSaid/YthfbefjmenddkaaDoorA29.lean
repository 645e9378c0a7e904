/- Each operation as a function of its values: for runs over values that are not known. -/
import Derived.Test.YthfbefjmenddkaaDoorA28
namespace Go.Proofs.YthfbefjmenddkaaDoorA
open Go

noncomputable section
variable (cf : ACall) (e : Env) (h : Heap)

theorem one_bool (b : Bool) : (V.bool b).one = true := rfl
theorem one_int (k : IntKind) (n : Int) : (V.int k n).one = true := rfl
theorem one_str (s : List Nat) : (V.str s).one = true := rfl
theorem one_ptr (b o : Nat) : (V.ptr b o).one = true := rfl
theorem one_nilptr : V.nilptr.one = true := rfl
theorem one_slice (b o n : Nat) (c : Option Nat) : (V.slice b o n c).one = true := rfl
theorem one_nilslice : V.nilslice.one = true := rfl
theorem cells_bool (b : Bool) : (V.bool b).cells = [.bool b] := rfl
theorem cells_int (k : IntKind) (n : Int) : (V.int k n).cells = [.int k n] := rfl
theorem cells_str (s : List Nat) : (V.str s).cells = [.str s] := rfl
theorem cells_ptr (b o : Nat) : (V.ptr b o).cells = [.ptr b o] := rfl
theorem cells_nilptr : V.nilptr.cells = [.nilptr] := rfl
theorem cells_slice (b o n : Nat) (c : Option Nat) : (V.slice b o n c).cells = [.slice b o n c] := rfl
theorem cells_nilslice : V.nilslice.cells = [.nilslice] := rfl
theorem cells_agg (cs : List V) : (V.agg cs).cells = cs := rfl

theorem aop_move (x : Opd) : aop cf (.move x) e h = some (x.ev e, h) := rfl

theorem aop_box (t z : Nat) (zs : List V) : aop cf (.box t z zs) e h = some (.ptr h.next 0, h.new (.cells zs t z true)) := rfl

def boxvS (t z : Nat) (v : V) (h : Heap) : Option (V × Heap) := if v.cells.all V.one then some (.ptr h.next 0, h.new (.cells v.cells t z true)) else none
theorem aop_boxv (t z : Nat) (x : Opd) : aop cf (.boxv t z x) e h = boxvS t z (x.ev e) h := rfl
theorem boxvS_agg (t z : Nat) (cs : List V) : boxvS t z (.agg cs) h = if cs.all V.one then some (.ptr h.next 0, h.new (.cells cs t z true)) else none := rfl
theorem boxvS_int (t z : Nat) (k : IntKind) (n : Int) : boxvS t z (.int k n) h = some (.ptr h.next 0, h.new (.cells [.int k n] t z true)) := rfl
theorem boxvS_bool (t z : Nat) (b : Bool) : boxvS t z (.bool b) h = some (.ptr h.next 0, h.new (.cells [.bool b] t z true)) := rfl
theorem boxvS_str (t z : Nat) (s : List Nat) : boxvS t z (.str s) h = some (.ptr h.next 0, h.new (.cells [.str s] t z true)) := rfl
theorem boxvS_slice (t z b o n : Nat) (c : Option Nat) : boxvS t z (.slice b o n c) h = some (.ptr h.next 0, h.new (.cells [.slice b o n c] t z true)) := rfl
theorem boxvS_nilslice (t z : Nat) : boxvS t z .nilslice h = some (.ptr h.next 0, h.new (.cells [.nilslice] t z true)) := rfl

def buildS (x : Option (List V)) (h : Heap) : Option (V × Heap) := match x with
  | some cs => some (.agg cs, h)
  | none => none
theorem aop_build (zero : List V) (parts : List (Nat × Nat × Opd)) : aop cf (.build zero parts) e h = buildS (fillV zero (parts.map fun p => (p.1, p.2.1, p.2.2.ev e))) h := by
  simp only [aop, buildS]; cases fillV zero (parts.map fun p => (p.1, p.2.1, p.2.2.ev e)) <;> rfl
theorem buildS_some (cs : List V) : buildS (some cs) h = some (.agg cs, h) := rfl

def buildSliceS (t z n : Nat) (x : Option (List V)) (h : Heap) : Option (V × Heap) := match x with
  | some cs => if cs.all V.one then some (.slice h.next 0 n (some n), h.new (.cells cs t z true)) else none
  | none => none
theorem aop_buildSlice (t z : Nat) (zero : List V) (n : Nat) (parts : List (Nat × Nat × Opd)) : aop cf (.buildSlice t z zero n parts) e h = buildSliceS t z n (fillV (zeros zero n) (parts.map fun p => (p.1, p.2.1, p.2.2.ev e))) h := rfl
theorem buildSliceS_some (t z n : Nat) (cs : List V) : buildSliceS t z n (some cs) h = if cs.all V.one then some (.slice h.next 0 n (some n), h.new (.cells cs t z true)) else none := rfl

def loadC (v : Option V) (h : Heap) : Option (V × Heap) := match v with
  | some v => some (v, h)
  | none => none
def loadB (b : Option Blk) (o : Nat) (h : Heap) : Option (V × Heap) := match b with
  | some (.cells cs _ _ _) => loadC (nth cs o) h
  | _ => none
def loadS (v : V) (h : Heap) : Option (V × Heap) := match v with
  | .ptr b o => loadB (h.get b) o h
  | _ => none
theorem aop_load (x : Opd) : aop cf (.load x) e h = loadS (x.ev e) h := by
  simp only [aop]
  cases x.ev e with
  | ptr b o =>
    simp only [loadS]
    cases h.get b with
    | none => rfl
    | some B =>
      cases B with
      | cells cs t z w => simp only [loadB]; cases nth cs o <;> rfl
      | iter s p => rfl
  | _ => rfl
theorem loadS_ptr (b o : Nat) : loadS (.ptr b o) h = loadB (h.get b) o h := rfl
theorem loadB_cells (cs : List V) (t z : Nat) (w : Bool) (o : Nat) : loadB (some (.cells cs t z w)) o h = loadC (nth cs o) h := rfl
theorem loadC_some (v : V) : loadC (some v) h = some (v, h) := rfl
theorem loadB_if (p : Prop) [Decidable p] (a b : Option Blk) (o : Nat) : loadB (if p then a else b) o h = if p then loadB a o h else loadB b o h := by split <;> rfl

def loadnS (n : Nat) (v : V) (h : Heap) : Option (V × Heap) := match v with
  | .ptr b o => buildS (h.read b o n) h
  | _ => none
theorem aop_loadn (n : Nat) (x : Opd) : aop cf (.loadn n x) e h = loadnS n (x.ev e) h := by
  simp only [aop]
  cases x.ev e with
  | ptr b o => simp only [loadnS]; cases h.read b o n <;> rfl
  | _ => rfl
theorem loadnS_ptr (n b o : Nat) : loadnS n (.ptr b o) h = buildS (h.read b o n) h := rfl

def readB (b : Option Blk) (o n : Nat) : Option (List V) := match b with
  | some (.cells cs _ _ _) => if o + n ≤ cs.length then some ((cs.drop o).take n) else none
  | _ => none
theorem readB_cells (cs : List V) (t z : Nat) (w : Bool) (o n : Nat) : readB (some (.cells cs t z w)) o n = if o + n ≤ cs.length then some ((cs.drop o).take n) else none := rfl
theorem read_eq (b o n : Nat) : h.read b o (n + 1) = readB (h.get b) o (n + 1) := by
  unfold Heap.read
  rw [if_neg (by omega)]
  unfold readB
  rfl
theorem read_zero (b o : Nat) : h.read b o 0 = some [] := rfl

def writeB (h : Heap) (b : Nat) (B : Option Blk) (o : Nat) (vs : List V) : Option (V × Heap) := match B with
  | some (.cells cs t z true) => if o + vs.length ≤ cs.length ∧ vs.all V.one then some (.undef, h.set b (some (.cells (over cs o vs) t z true))) else none
  | _ => none
def storeS (n : Nat) (x v : V) (h : Heap) : Option (V × Heap) := match x with
  | .ptr b o => if v.cells.length = n then writeB h b (h.get b) o v.cells else none
  | _ => none
theorem write_eqB (b o : Nat) (vs : List V) : (h.write b o vs).map (fun h' => (V.undef, h')) = writeB h b (h.get b) o vs := by
  rw [Heap.write_eq]
  unfold Heap.writeG writeB
  split
  · rename_i hb; simp only [hb]; split <;> rfl
  · rename_i hb
    split
    · rename_i h2; exact absurd h2 (by intro hh; exact hb _ _ _ hh)
    · rfl
theorem aop_store (n : Nat) (x v : Opd) : aop cf (.store n x v) e h = storeS n (x.ev e) (v.ev e) h := by
  simp only [aop]
  cases x.ev e with
  | ptr b o => simp only [storeS, write_eqB]
  | _ => rfl
theorem storeS_ptr (n b o : Nat) (v : V) : storeS n (.ptr b o) v h = if v.cells.length = n then writeB h b (h.get b) o v.cells else none := rfl
theorem writeB_cells (b : Nat) (cs : List V) (t z o : Nat) (vs : List V) : writeB h b (some (.cells cs t z true)) o vs = if o + vs.length ≤ cs.length ∧ vs.all V.one then some (.undef, h.set b (some (.cells (over cs o vs) t z true))) else none := rfl

def binS (op : BinOp) (x y : V) (h : Heap) : Option (V × Heap) := match bin op x y with
  | some v => some (v, h)
  | none => none
theorem aop_bin (op : BinOp) (x y : Opd) : aop cf (.bin op x y) e h = binS op (x.ev e) (y.ev e) h := by
  simp only [aop, binS]; cases bin op (x.ev e) (y.ev e) <;> rfl
theorem binS_lss (k : IntKind) (a b : Int) : binS .lss (.int k a) (.int k b) h = some (.bool (decide (a < b)), h) := by simp [binS, bin, isShift, binInt]
theorem binS_leq (k : IntKind) (a b : Int) : binS .leq (.int k a) (.int k b) h = some (.bool (decide (a ≤ b)), h) := by simp [binS, bin, isShift, binInt]
theorem binS_gtr (k : IntKind) (a b : Int) : binS .gtr (.int k a) (.int k b) h = some (.bool (decide (b < a)), h) := by simp [binS, bin, isShift, binInt]
theorem binS_geq (k : IntKind) (a b : Int) : binS .geq (.int k a) (.int k b) h = some (.bool (decide (b ≤ a)), h) := by simp [binS, bin, isShift, binInt]
theorem binS_eql (k : IntKind) (a b : Int) : binS .eql (.int k a) (.int k b) h = some (.bool (a == b), h) := by simp [binS, bin, isShift, binInt]
theorem binS_neq (k : IntKind) (a b : Int) : binS .neq (.int k a) (.int k b) h = some (.bool !(a == b), h) := by simp [binS, bin, isShift, binInt, bne]
theorem binS_add (k : IntKind) (a b : Int) : binS .add (.int k a) (.int k b) h = some (.int k (wrapF k (a + b)), h) := by simp [binS, bin, isShift, binInt]
theorem binS_sub (k : IntKind) (a b : Int) : binS .sub (.int k a) (.int k b) h = some (.int k (wrapF k (a - b)), h) := by simp [binS, bin, isShift, binInt]
theorem binS_mul (k : IntKind) (a b : Int) : binS .mul (.int k a) (.int k b) h = some (.int k (wrapF k (a * b)), h) := by simp [binS, bin, isShift, binInt]
theorem binS_quo (k : IntKind) (a b : Int) : binS .quo (.int k a) (.int k b) h = if b = 0 then none else some (.int k (wrapF k (a.tdiv b)), h) := by
  simp only [binS, bin, isShift, binInt]; by_cases hb : b = 0 <;> simp [hb]
theorem binS_rem (k : IntKind) (a b : Int) : binS .rem (.int k a) (.int k b) h = if b = 0 then none else some (.int k (a.tmod b), h) := by
  simp only [binS, bin, isShift, binInt]; by_cases hb : b = 0 <;> simp [hb]
theorem binS_and (k : IntKind) (a b : Int) : binS .and (.int k a) (.int k b) h = some (.int k (wrapF k (((a % modK k).toNat &&& (b % modK k).toNat : Nat) : Int)), h) := by simp [binS, bin, isShift, binInt]
theorem binS_or (k : IntKind) (a b : Int) : binS .or (.int k a) (.int k b) h = some (.int k (wrapF k (((a % modK k).toNat ||| (b % modK k).toNat : Nat) : Int)), h) := by simp [binS, bin, isShift, binInt]
theorem binS_xor (k : IntKind) (a b : Int) : binS .xor (.int k a) (.int k b) h = some (.int k (wrapF k (((a % modK k).toNat ^^^ (b % modK k).toNat : Nat) : Int)), h) := by simp [binS, bin, isShift, binInt]
theorem binS_shl (k k' : IntKind) (a b : Int) : binS .shl (.int k a) (.int k' b) h = if b < 0 then none else some (.int k (wrapF k (a * ((2 ^ (min b.toNat k.bits) : Nat) : Int))), h) := by
  simp only [binS, bin, isShift, if_true, shiftInt]; by_cases hb : b < 0 <;> simp [hb]
theorem binS_shr (k k' : IntKind) (a b : Int) : binS .shr (.int k a) (.int k' b) h = if b < 0 then none else some (.int k (a.fdiv ((2 ^ (min b.toNat k.bits) : Nat) : Int)), h) := by
  simp only [binS, bin, isShift, if_true, shiftInt]; by_cases hb : b < 0 <;> simp [hb]
theorem binS_seql (a b : List Nat) : binS .eql (.str a) (.str b) h = some (.bool (a == b), h) := by simp [binS, bin, binStr]
theorem binS_sneq (a b : List Nat) : binS .neq (.str a) (.str b) h = some (.bool !(a == b), h) := by simp [binS, bin, binStr]
theorem binS_sadd (a b : List Nat) : binS .add (.str a) (.str b) h = if a.length + b.length ≤ 2 ^ 62 then some (.str (a ++ b), h) else none := by
  simp only [binS, bin, binStr]; by_cases hb : a.length + b.length ≤ 2 ^ 62 <;> simp [hb]

def eqS (neg : Bool) (x : Option Bool) (h : Heap) : Option (V × Heap) := match x with
  | some b => some (.bool (if neg then !b else b), h)
  | none => none
theorem aop_eq (neg : Bool) (k : EqKind) (x y : Opd) : aop cf (.eq neg k x y) e h = eqS neg (eqv k (x.ev e) (y.ev e)) h := by
  simp only [aop, eqS]; cases eqv k (x.ev e) (y.ev e) <;> rfl
theorem eqS_some_f (b : Bool) : eqS false (some b) h = some (.bool b, h) := rfl
theorem eqS_some_t (b : Bool) : eqS true (some b) h = some (.bool !b, h) := rfl

def unS (op : UnOp) (x : V) (h : Heap) : Option (V × Heap) := match un op x with
  | some v => some (v, h)
  | none => none
theorem aop_un (op : UnOp) (x : Opd) : aop cf (.un op x) e h = unS op (x.ev e) h := by
  simp only [aop, unS]; cases un op (x.ev e) <;> rfl
theorem unS_not (b : Bool) : unS .not (.bool b) h = some (.bool !b, h) := rfl
theorem unS_neg (k : IntKind) (n : Int) : unS .neg (.int k n) h = some (.int k (wrapF k (0 - n)), h) := rfl

def convS (k : IntKind) (x : V) (h : Heap) : Option (V × Heap) := match x with
  | .int _ n => some (.int k (wrapF k n), h)
  | _ => none
theorem aop_conv (k : IntKind) (x : Opd) : aop cf (.conv k x) e h = convS k (x.ev e) h := by simp only [aop]; cases x.ev e <;> rfl
theorem convS_int (k k' : IntKind) (n : Int) : convS k (.int k' n) h = some (.int k (wrapF k n), h) := rfl

def convStrS (x : V) (h : Heap) : Option (V × Heap) := match x with
  | .str s => some (.str s, h)
  | _ => none
theorem aop_convStr (x : Opd) : aop cf (.convStr x) e h = convStrS (x.ev e) h := by simp only [aop]; cases x.ev e <;> rfl
theorem convStrS_str (s : List Nat) : convStrS (.str s) h = some (.str s, h) := rfl

def intStrS (x : V) (h : Heap) : Option (V × Heap) := match x with
  | .int _ n => some (.str (utfEnc n), h)
  | _ => none
theorem aop_intStr (x : Opd) : aop cf (.intStr x) e h = intStrS (x.ev e) h := by simp only [aop]; cases x.ev e <;> rfl
theorem intStrS_int (k : IntKind) (n : Int) : intStrS (.int k n) h = some (.str (utfEnc n), h) := rfl

def strBytesS (t : Nat) (x : V) (h : Heap) : Option (V × Heap) := match x with
  | .str s => if s.length ≤ most then some (.slice h.next 0 s.length none, h.new (.cells (bytesOf s) t 1 true)) else none
  | _ => none
theorem aop_strBytes (t : Nat) (x : Opd) : aop cf (.strBytes t x) e h = strBytesS t (x.ev e) h := by simp only [aop]; cases x.ev e <;> rfl
theorem strBytesS_str (t : Nat) (s : List Nat) : strBytesS t (.str s) h = if s.length ≤ most then some (.slice h.next 0 s.length none, h.new (.cells (bytesOf s) t 1 true)) else none := rfl

def strOfS (x : Option (List V)) (h : Heap) : Option (V × Heap) := match x with
  | some cs => match strOf cs with
    | some s => some (.str s, h)
    | none => none
  | none => none
def bytesStrS (x : V) (h : Heap) : Option (V × Heap) := match x with
  | .nilslice => some (.str [], h)
  | .slice b o n _ => strOfS (h.read b o n) h
  | _ => none
theorem aop_bytesStr (x : Opd) : aop cf (.bytesStr x) e h = bytesStrS (x.ev e) h := by
  simp only [aop]
  cases x.ev e with
  | slice b o n c =>
    simp only [bytesStrS]
    cases h.read b o n with
    | none => rfl
    | some cs => simp only [strOfS]; cases strOf cs <;> rfl
  | _ => rfl
theorem bytesStrS_nil : bytesStrS .nilslice h = some (.str [], h) := rfl
theorem bytesStrS_slice (b o n : Nat) (c : Option Nat) : bytesStrS (.slice b o n c) h = strOfS (h.read b o n) h := rfl

theorem aop_mkIface (t : Nat) (x : Opd) : aop cf (.mkIface t x) e h = some (.iface t (x.ev e), h) := rfl
theorem aop_mkFunc (f : Nat) (pre post : List Opd) : aop cf (.mkFunc f pre post) e h = some (.func f (pre.map (·.ev e)) (post.map (·.ev e)), h) := rfl

def makeS (t z bytes : Nat) (zero : List V) (n c : V) (h : Heap) : Option (V × Heap) := match n, c with
  | .int _ n, .int _ c => if 0 ≤ n ∧ n ≤ c ∧ c ≤ most ∧ c.toNat * bytes ≤ most then some (.slice h.next 0 n.toNat (some c.toNat), h.new (.cells (zeros zero c.toNat) t z true)) else none
  | _, _ => none
theorem aop_makeSlice (t z bytes : Nat) (zero : List V) (n c : Opd) : aop cf (.makeSlice t z bytes zero n c) e h = makeS t z bytes zero (n.ev e) (c.ev e) h := by simp only [aop]; cases n.ev e <;> first | rfl | (cases c.ev e <;> rfl)
theorem makeS_int (t z bytes : Nat) (zero : List V) (k k' : IntKind) (n c : Int) : makeS t z bytes zero (.int k n) (.int k' c) h = if 0 ≤ n ∧ n ≤ c ∧ c ≤ most ∧ c.toNat * bytes ≤ most then some (.slice h.next 0 n.toNat (some c.toNat), h.new (.cells (zeros zero c.toNat) t z true)) else none := rfl

def sliceStrB (s : List Nat) (x : Option (Nat × Nat × Option Nat)) (h : Heap) : Option (V × Heap) := match x with
  | some (l, r, _) => some (.str ((s.take r).drop l), h)
  | none => none
def sliceStrS (x : V) (lo hi : Option V) (h : Heap) : Option (V × Heap) := match x with
  | .str s => sliceStrB s (bounds s.length (some s.length) lo hi none) h
  | _ => none
theorem aop_sliceStr (x : Opd) (lo hi : Option Opd) : aop cf (.sliceStr x lo hi) e h = sliceStrS (x.ev e) (lo.map (·.ev e)) (hi.map (·.ev e)) h := by simp only [aop]; cases x.ev e <;> rfl
theorem sliceStrS_str (s : List Nat) (lo hi : Option V) : sliceStrS (.str s) lo hi h = sliceStrB s (bounds s.length (some s.length) lo hi none) h := rfl
theorem sliceStrB_some (s : List Nat) (l r : Nat) (m : Option Nat) : sliceStrB s (some (l, r, m)) h = some (.str ((s.take r).drop l), h) := rfl

def someS (x : Option V) (h : Heap) : Option (V × Heap) := match x with
  | some v => some (v, h)
  | none => none
theorem someS_some (v : V) : someS (some v) h = some (v, h) := rfl
theorem aop_sliceSl (z : Nat) (x : Opd) (lo hi mx : Option Opd) : aop cf (.sliceSl z x lo hi mx) e h = someS (sliceV h z (x.ev e) (lo.map (·.ev e)) (hi.map (·.ev e)) (mx.map (·.ev e))) h := by
  simp only [aop, someS]; cases sliceV h z (x.ev e) (lo.map (·.ev e)) (hi.map (·.ev e)) (mx.map (·.ev e)) <;> rfl

def sliceArrS (n z : Nat) (x : V) (lo hi mx : Option V) (h : Heap) : Option (V × Heap) := match x with
  | .ptr b o => someS (sliceV h z (.slice b o n (some n)) lo hi mx) h
  | _ => none
theorem aop_sliceArr (n z : Nat) (x : Opd) (lo hi mx : Option Opd) : aop cf (.sliceArr n z x lo hi mx) e h = sliceArrS n z (x.ev e) (lo.map (·.ev e)) (hi.map (·.ev e)) (mx.map (·.ev e)) h := by
  simp only [aop]
  cases x.ev e with
  | ptr b o => simp only [sliceArrS]; cases sliceV h z (.slice b o n (some n)) (lo.map (·.ev e)) (hi.map (·.ev e)) (mx.map (·.ev e)) <;> rfl
  | _ => rfl
theorem sliceArrS_ptr (n z b o : Nat) (lo hi mx : Option V) : sliceArrS n z (.ptr b o) lo hi mx h = someS (sliceV h z (.slice b o n (some n)) lo hi mx) h := rfl

def fieldAddrS (off : Nat) (x : V) (h : Heap) : Option (V × Heap) := match x with
  | .ptr b o => some (.ptr b (o + off), h)
  | _ => none
theorem aop_fieldAddr (off : Nat) (x : Opd) : aop cf (.fieldAddr off x) e h = fieldAddrS off (x.ev e) h := by simp only [aop]; cases x.ev e <;> rfl
theorem fieldAddrS_ptr (off b o : Nat) : fieldAddrS off (.ptr b o) h = some (.ptr b (o + off), h) := rfl

def fieldS (off : Nat) (n : Option Nat) (x : V) (h : Heap) : Option (V × Heap) := match x with
  | .agg cs => match n with
    | some n => if off + n ≤ cs.length then some (.agg ((cs.drop off).take n), h) else none
    | none => someS cs[off]? h
  | _ => none
theorem aop_field (off : Nat) (n : Option Nat) (x : Opd) : aop cf (.field off n x) e h = fieldS off n (x.ev e) h := by
  simp only [aop]
  cases x.ev e with
  | agg cs => cases n with
    | some n => rfl
    | none => simp only [fieldS]; cases cs[off]? <;> rfl
  | _ => rfl
theorem fieldS_agg (off : Nat) (cs : List V) : fieldS off none (.agg cs) h = someS cs[off]? h := rfl
theorem fieldS_aggn (off n : Nat) (cs : List V) : fieldS off (some n) (.agg cs) h = if off + n ≤ cs.length then some (.agg ((cs.drop off).take n), h) else none := rfl

def indexAddrAS (len z : Nat) (x i : V) (h : Heap) : Option (V × Heap) := match x, i with
  | .ptr b o, .int _ i => if 0 ≤ i ∧ i < len then some (.ptr b (o + i.toNat * z), h) else none
  | _, _ => none
theorem aop_indexAddrA (len z : Nat) (x i : Opd) : aop cf (.indexAddrA len z x i) e h = indexAddrAS len z (x.ev e) (i.ev e) h := by simp only [aop]; cases x.ev e <;> first | rfl | (cases i.ev e <;> rfl)
theorem indexAddrAS_ptr (len z b o : Nat) (k : IntKind) (i : Int) : indexAddrAS len z (.ptr b o) (.int k i) h = if 0 ≤ i ∧ i < len then some (.ptr b (o + i.toNat * z), h) else none := rfl

def indexAddrSS (z : Nat) (x i : V) (h : Heap) : Option (V × Heap) := match x, i with
  | .slice b o n _, .int _ i => if 0 ≤ i ∧ i < n then some (.ptr b (o + i.toNat * z), h) else none
  | _, _ => none
theorem aop_indexAddrS (z : Nat) (x i : Opd) : aop cf (.indexAddrS z x i) e h = indexAddrSS z (x.ev e) (i.ev e) h := by simp only [aop]; cases x.ev e <;> first | rfl | (cases i.ev e <;> rfl)
theorem indexAddrSS_slice (z b o n : Nat) (c : Option Nat) (k : IntKind) (i : Int) : indexAddrSS z (.slice b o n c) (.int k i) h = if 0 ≤ i ∧ i < n then some (.ptr b (o + i.toNat * z), h) else none := rfl

def indexAS (len z : Nat) (agg : Bool) (x i : V) (h : Heap) : Option (V × Heap) := match x, i with
  | .agg cs, .int _ i => if 0 ≤ i ∧ i < len then
      (if agg then (if i.toNat * z + z ≤ cs.length then some (.agg ((cs.drop (i.toNat * z)).take z), h) else none)
       else someS cs[i.toNat * z]? h) else none
  | _, _ => none
theorem aop_indexA (len z : Nat) (agg : Bool) (x i : Opd) : aop cf (.indexA len z agg x i) e h = indexAS len z agg (x.ev e) (i.ev e) h := by simp only [aop]; cases x.ev e <;> first | rfl | (cases i.ev e <;> rfl)
theorem indexAS_agg (len z : Nat) (agg : Bool) (cs : List V) (k : IntKind) (i : Int) : indexAS len z agg (.agg cs) (.int k i) h = if 0 ≤ i ∧ i < len then
      (if agg then (if i.toNat * z + z ≤ cs.length then some (.agg ((cs.drop (i.toNat * z)).take z), h) else none)
       else someS cs[i.toNat * z]? h) else none := rfl

def byteS (x : Option Nat) (h : Heap) : Option (V × Heap) := match x with
  | some b => some (.int .u8 b, h)
  | none => none
theorem byteS_some (b : Nat) : byteS (some b) h = some (.int .u8 b, h) := rfl
def indexStrS (x i : V) (h : Heap) : Option (V × Heap) := match x, i with
  | .str s, .int _ i => if 0 ≤ i then byteS s[i.toNat]? h else none
  | _, _ => none
theorem aop_indexStr (x i : Opd) : aop cf (.indexStr x i) e h = indexStrS (x.ev e) (i.ev e) h := by simp only [aop]; cases x.ev e <;> first | rfl | (cases i.ev e <;> rfl)
theorem indexStrS_str (s : List Nat) (k : IntKind) (i : Int) : indexStrS (.str s) (.int k i) h = if 0 ≤ i then byteS s[i.toNat]? h else none := rfl

def extractS (i : Nat) (x : V) (h : Heap) : Option (V × Heap) := match x with
  | .tuple vs => someS vs[i]? h
  | _ => none
theorem aop_extract (x : Opd) (i : Nat) : aop cf (.extract x i) e h = extractS i (x.ev e) h := by simp only [aop]; cases x.ev e <;> rfl
theorem extractS_tuple (i : Nat) (vs : List V) : extractS i (.tuple vs) h = someS vs[i]? h := rfl

def callS (cf : ACall) (f : V) (args : List V) (h : Heap) : Option (V × Heap) := match f with
  | .func f pre post => cf f (pre ++ args ++ post) h
  | _ => none
theorem aop_call (f : Opd) (args : List Opd) : aop cf (.call f args) e h = callS cf (f.ev e) (args.map (·.ev e)) h := by simp only [aop]; cases f.ev e <;> rfl
theorem callS_func (f : Nat) (pre post args : List V) : callS cf (.func f pre post) args h = cf f (pre ++ args ++ post) h := rfl

theorem aop_append (t z bytes : Nat) (s x : Opd) : aop cf (.append t z bytes s x) e h = appendV h t z bytes (s.ev e) (x.ev e) := rfl
theorem aop_copy (z : Nat) (d s : Opd) : aop cf (.copy z d s) e h = copyV h z (d.ev e) (s.ev e) := rfl

def lenSS (x : V) (h : Heap) : Option (V × Heap) := match x with
  | .str s => some (.int .i64 s.length, h)
  | _ => none
theorem aop_lenS (x : Opd) : aop cf (.lenS x) e h = lenSS (x.ev e) h := by simp only [aop]; cases x.ev e <;> rfl
theorem lenSS_str (s : List Nat) : lenSS (.str s) h = some (.int .i64 s.length, h) := rfl

/-- A slice's length. -/
def vlen : V → Nat
  | .slice _ _ n _ => n
  | _ => 0
def isSl : V → Bool
  | .nilslice => true
  | .slice _ _ _ _ => true
  | _ => false
def lenLS (x : V) (h : Heap) : Option (V × Heap) := bif isSl x then some (.int .i64 (vlen x), h) else none
theorem aop_lenL (x : Opd) : aop cf (.lenL x) e h = lenLS (x.ev e) h := by
  simp only [aop, lenLS]
  cases x.ev e <;> rfl
theorem lenLS_nil : lenLS .nilslice h = some (.int .i64 0, h) := rfl
theorem lenLS_slice (b o n : Nat) (c : Option Nat) : lenLS (.slice b o n c) h = some (.int .i64 n, h) := rfl
theorem lenLS_of {x : V} (hx : isSl x = true) : lenLS x h = some (.int .i64 (vlen x), h) := by simp only [lenLS, hx, cond_true]

def minmaxS (b : Bool) (xs : List V) (h : Heap) : Option (V × Heap) := match xs with
  | v :: vs => someS (minmax b v vs) h
  | [] => none
theorem aop_minmax (b : Bool) (xs : List Opd) : aop cf (.minmax b xs) e h = minmaxS b (xs.map (·.ev e)) h := by
  simp only [aop]
  cases xs.map (·.ev e) with
  | nil => rfl
  | cons v vs => simp only [minmaxS]; cases minmax b v vs <;> rfl
theorem minmaxS_min (k : IntKind) (a b : Int) : minmaxS false [.int k a, .int k b] h = some (.int k (if b < a then b else a), h) := by simp [minmaxS, minmax, someS]
theorem minmaxS_max (k : IntKind) (a b : Int) : minmaxS true [.int k a, .int k b] h = some (.int k (if b > a then b else a), h) := by simp [minmaxS, minmax, someS]

def convSameB (v : V) (b : Option Blk) (h : Heap) : Option (V × Heap) := match b with
  | some (.cells _ _ _ true) => some (v, h)
  | _ => none
def convSameS (x : V) (h : Heap) : Option (V × Heap) := match x with
  | .slice b o n c => if n = 0 then none else convSameB (.slice b o n c) (h.get b) h
  | _ => none
theorem aop_convSame (x : Opd) : aop cf (.convSame x) e h = convSameS (x.ev e) h := by simp only [aop]; cases x.ev e <;> rfl
theorem convSameS_slice (b o n : Nat) (c : Option Nat) : convSameS (.slice b o n c) h = if n = 0 then none else convSameB (.slice b o n c) (h.get b) h := rfl
theorem convSameB_cells (v : V) (cs : List V) (t z : Nat) : convSameB v (some (.cells cs t z true)) h = some (v, h) := rfl

theorem aop_lenC (n : Nat) : aop cf (.lenC n) e h = some (.int .i64 n, h) := rfl

end
end Go.Proofs.YthfbefjmenddkaaDoorA
