/- The model's code, read as the abstract machine's: a function of the program, to be evaluated. -/
import Derived.Test.YthfbefjmenddkaaDoorA3
namespace Go.Proofs.YthfbefjmenddkaaDoorA
open Go

/-- A constant of one cell. -/
def absC : Value → Option V
  | .bool b => some (.bool b)
  | .int k n => some (.int k n)
  | .string bs => some (.str (bs.data.toList.map UInt8.toNat))
  | .pointer none => some .nilptr
  | .slice none 0 0 => some .nilslice
  | .nilFunc => some .nilfunc
  | .nilIface => some .niliface
  | _ => none

def absL : List Value → Option (List V)
  | [] => some []
  | u :: us => match absC u, absL us with
    | some v, some vs => some (v :: vs)
    | _, _ => none

def absK : Value → Option V
  | .agg us => (absL us.toList).map .agg
  | .tuple us => (absL us.toList).map .tuple
  | .func (.func f) ps qs => if ps.toList.isEmpty && qs.toList.isEmpty then some (.func f [] []) else none
  | u => absC u

variable (P : Program)

def cOpd : Operand → Option Opd
  | .tmp t => some (.tmp t)
  | .const v => (absK v).map .const
  | .func f => some (.func f)
  | .global g => if g < P.globals.size then some (.glob g) else none

def cOpds : List Operand → Option (List Opd)
  | [] => some []
  | x :: xs => match cOpd P x, cOpds xs with
    | some y, some ys => some (y :: ys)
    | _, _ => none

def cOpt : Option Operand → Option (Option Opd)
  | none => some none
  | some x => (cOpd P x).map some

/-- The zero of a type, its cells. -/
def zeroA (t : TypeId) : Option (List V) :=
  match P.info? t with
  | some i => match i.zero with
    | some z => absL z.cells.toList
    | none => none
  | none => none

def sizeA (t : TypeId) : Option Nat := (P.info? t).map (·.size)
def bytesA (t : TypeId) : Option Nat := (P.info? t).map (·.bytes)

def aggA (t : TypeId) : Option Bool :=
  match P.underlying t with
  | some (.struct _) => some true
  | some (.array _ _) => some true
  | some _ => some false
  | none => none

def elemA (t : TypeId) : Option TypeId :=
  match P.underlying t with
  | some (.slice e) => some e
  | _ => none

def placesA : List Field → Option (List (Nat × Nat))
  | [] => some []
  | f :: fs => match sizeA P f.type, placesA fs with
    | some n, some ps => some ((f.offset, n) :: ps)
    | _, _ => none

def partsAt (place : Nat → Option (Nat × Nat)) : List (Nat × Operand) → Option (List (Nat × Nat × Opd))
  | [] => some []
  | (i, x) :: ps => match place i, cOpd P x, partsAt place ps with
    | some (o, n), some y, some qs => some ((o, n, y) :: qs)
    | _, _, _ => none

def eqKindA (t : TypeId) (x y : Operand) : Option EqKind :=
  match P.underlying t with
  | some .bool => some .bool
  | some (.pointer _) => some .ptr
  | some (.slice _) => some .slice
  | some (.interface _) => if Region.isConst x || Region.isConst y then some .iface else none
  | some (.func _ _ _) => some .func
  | _ => none

def numA (t : TypeId) : Bool :=
  match P.underlying t with
  | some (.int _) => true
  | some .string => true
  | _ => false

def isEq : BinOp → Bool
  | .eql => true
  | .neq => true
  | _ => false

def isU8 (t : TypeId) : Bool := match P.underlying t with | some (.int .u8) => true | _ => false
def isI32 (t : TypeId) : Bool := match P.underlying t with | some (.int .i32) => true | _ => false

/-- An array of integers: its length. -/
def arrA (t : TypeId) : Option Nat :=
  match P.underlying t with
  | some (.array n e) => match P.underlying e, sizeA P e with
    | some (.int _), some 1 => if P.eqGuardType P.depth t then none else some n
    | _, _ => none
  | _ => none

def isInt (t : TypeId) : Bool := match P.underlying t with | some (.int _) => true | _ => false

def plainArg : List TypeId → Bool
  | u :: _ => (match P.underlying u with | some (.int _) => false | some _ => true | none => false)
  | [] => true

def compOp (o : Op) : Option AOp :=
  match o with
  | .move x => (cOpd P x).map .move
  | .assign x => (cOpd P x).map .move
  | .pick c a b => match cOpd P c, cOpd P a, cOpd P b with
    | some c, some a, some b => some (.pick c a b)
    | _, _, _ => none
  | .alloc t => match zeroA P t with
    | some z => if z.all V.one then some (.box t 1 z) else none
    | none => none
  | .box t x => (cOpd P x).map fun x => .boxv t 1 x
  | .build t parts => match zeroA P t, P.underlying t with
    | some z, some (.struct fs) => match placesA P fs.toList with
      | some ps => (partsAt P (ps[·]?) parts.toList).map fun q => .build z q
      | none => none
    | some z, some (.array _ e) => match sizeA P e with
      | some n => (partsAt P (fun i => some (i * n, n)) parts.toList).map fun q => .build z q
      | none => none
    | _, _ => none
  | .buildSlice t len parts => match elemA P t with
    | some e => match zeroA P e, sizeA P e with
      | some z, some n => if len * n ≤ 2 ^ 24 ∧ z.length = n ∧ n ≠ 0 then (partsAt P (fun i => some (i * n, n)) parts.toList).map fun q => .buildSlice e n z len q else none
      | _, _ => none
    | none => none
  | .load t x => match aggA P t, sizeA P t, cOpd P x with
    | some true, some n, some x => some (.loadn n x)
    | some false, _, some x => some (.load x)
    | _, _, _ => none
  | .store t x v => match sizeA P t, cOpd P x, cOpd P v with
    | some n, some x, some v => some (.store n x v)
    | _, _, _ => none
  | .nilCheck x => (cOpd P x).map .nilCheck
  | .binOp op t x y _ => match cOpd P x, cOpd P y with
    | some x', some y' => if numA P t then some (.bin op x' y') else if isEq op then (match arrA P t with
      | some n => some (.eqArr (op == .neq) n x' y')
      | none => (eqKindA P t x y).map fun k => .eq (op == .neq) k x' y') else none
    | _, _ => none
  | .unOp op _ x => (cOpd P x).map fun x => .un op x
  | .convert src dst x => match P.underlying src, P.underlying dst, cOpd P x with
    | some _, some (.int k), some x => some (.conv k x)
    | some (.int _), some .string, some x => some (.intStr x)
    | some .string, some .string, some x => some (.convStr x)
    | some .string, some (.slice e), some x => if isU8 P e then some (.strBytes e x) else if isI32 P e then some (.strRunes e x) else none
    | some (.slice e), some (.slice e'), some x => if src = dst ∧ e = e' ∧ isU8 P e then some (.convSame x) else none
    | some (.slice e), some .string, some x => if isU8 P e then some (.bytesStr x) else if isI32 P e then some (.runesStr x) else none
    | _, _, _ => none
  | .makeInterface t x => match P.underlying t with
    | some (.interface _) => none
    | some _ => (cOpd P x).map fun x => .mkIface t x
    | none => none
  | .makeFunc (.func f) pre post => match cOpds P pre.toList, cOpds P post.toList with
    | some pre, some post => some (.mkFunc f pre post)
    | _, _ => none
  | .makeSlice t n c => match elemA P t, cOpd P n, cOpd P c with
    | some e, some n, some c => match zeroA P e, sizeA P e, bytesA P e with
      | some z, some s, some b => if z.length = s ∧ s ≠ 0 ∧ z.all V.one then some (.makeSlice e s b z n c) else none
      | _, _, _ => none
    | _, _, _ => none
  | .slice t x lo hi mx => match cOpd P x, cOpt P lo, cOpt P hi, cOpt P mx with
    | some x, some lo, some hi, some mx => match P.underlying t with
      | some .string => if mx.isNone then some (.sliceStr x lo hi) else none
      | some (.slice e) => (sizeA P e).map fun n => .sliceSl n x lo hi mx
      | some (.array n e) => (sizeA P e).map fun s => .sliceArr n s x lo hi mx
      | _ => none
    | _, _, _, _ => none
  | .fieldAddr t x i => match P.underlying t, cOpd P x with
    | some (.struct fs), some x => match fs[i]? with
      | some f => match sizeA P f.type with
        | some n => if n = 0 then none else some (.fieldAddr f.offset x)
        | none => none
      | none => none
    | _, _ => none
  | .field t x i => match P.underlying t, cOpd P x with
    | some (.struct fs), some x => match fs[i]? with
      | some f => match aggA P f.type, sizeA P f.type with
        | some true, some n => some (.field f.offset (some n) x)
        | some false, _ => some (.field f.offset none x)
        | _, _ => none
      | none => none
    | _, _ => none
  | .indexAddr t x i => match P.underlying t, cOpd P x, cOpd P i with
    | some (.array n e), some x, some i => (sizeA P e).map fun s => .indexAddrA n s x i
    | some (.slice e), some x, some i => (sizeA P e).map fun s => .indexAddrS s x i
    | _, _, _ => none
  | .index t x i => match P.underlying t, cOpd P x, cOpd P i with
    | some (.array n e), some x, some i => match aggA P e, sizeA P e with
      | some b, some s => some (.indexA n s b x i)
      | _, _ => none
    | some .string, some x, some i => some (.indexStr x i)
    | _, _, _ => none
  | .range t x => match P.underlying t, cOpd P x with
    | some .string, some x => some (.range x)
    | _, _ => none
  | .next x true => (cOpd P x).map .next
  | .extract x i => (cOpd P x).map fun x => .extract x i
  | .call { callee := .value f, args, argTypes := _ } => match cOpd P f, cOpds P args.toList with
    | some f, some args => some (.call f args)
    | _, _ => none
  | .call { callee := .builtin b, args, argTypes } => match b, args.toList, argTypes.toList with
    | .append, [s, x], t :: us => match elemA P t, cOpd P s, cOpd P x with
      | some e, some s, some x => match zeroA P e, sizeA P e, bytesA P e with
        | some z, some n, some b => if z.length = n ∧ n ≠ 0 ∧ plainArg P us = true then some (.append e n b s x)
          else if z.length = n ∧ n ≠ 0 ∧ z.all V.one = true ∧ (us.head?.map (isInt P)) = some true then some (.appendZ e n b z s x) else none
        | _, _, _ => none
      | _, _, _ => none
    | .copy, [d, s], t :: _ => match elemA P t, cOpd P d, cOpd P s with
      | some e, some d, some s => (sizeA P e).map fun n => .copy n d s
      | _, _, _ => none
    | .len, [x], t :: _ => match P.underlying t, cOpd P x with
      | some .string, some x => some (.lenS x)
      | some (.slice _), some x => some (.lenL x)
      | some (.array n _), some _ => some (.lenC n)
      | some (.pointer a), some _ => match P.underlying a with
        | some (.array n _) => some (.lenC n)
        | _ => none
      | _, _ => none
    | .cap, [x], t :: _ => match P.underlying t, cOpd P x with
      | some (.slice _), some x => some (.cap x)
      | _, _ => none
    | .max, xs, _ => (cOpds P xs).map fun xs => .minmax true xs
    | .min, xs, _ => (cOpds P xs).map fun xs => .minmax false xs
    | _, _, _ => none
  | _ => none

def compGuard (ops : List Oper) : Option (Nat × Bool) → Option (Option (Nat × Bool))
  | none => some none
  | some (j, want) => match (ops[j]?).bind (·.dst) with
    | some t => some (some (t, want))
    | none => none

def compOper (ops : List Oper) (o : Oper) : Option AOper :=
  match compOp P o.op, compGuard ops o.guard with
  | some op, some g => some { dst := o.dst, op, guard := g }
  | _, _ => none

def compOpers (ops : List Oper) : List Oper → Option (List AOper)
  | [] => some []
  | o :: os => match compOper P ops o, compOpers ops os with
    | some x, some xs => some (x :: xs)
    | _, _ => none

def depsOf (ops : List Oper) : List (List Nat) := ops.map fun o => (o.after.toList.filter (Region.binds .any)).map (·.on)

def compCode : Code → Option ACode
  | .skip => some .skip
  | .region _ ops false => (compOpers P ops.toList ops.toList).map .region
  | .region _ ops true => match compOpers P ops.toList ops.toList with
    | some xs => if planOk xs (depsOf ops.toList) (ancs [] (depsOf ops.toList)) then some (.anyRegion xs (planChk xs (ancs [] (depsOf ops.toList))))
      else if planOk (floatL (floatAt xs (ancs [] (depsOf ops.toList))) 0 xs) (depsOf ops.toList) (ancs [] (depsOf ops.toList)) && viewsOk (floatL (floatAt xs (ancs [] (depsOf ops.toList))) 0 xs) (ancs [] (depsOf ops.toList)) then
        some (.floatRegion (floatL (floatAt xs (ancs [] (depsOf ops.toList))) 0 xs) (actsOf (floatL (floatAt xs (ancs [] (depsOf ops.toList))) 0 xs) (ancs [] (depsOf ops.toList))) (planChk (floatL (floatAt xs (ancs [] (depsOf ops.toList))) 0 xs) (ancs [] (depsOf ops.toList))))
      else none
    | none => none
  | .seq a b => match compCode a, compCode b with
    | some a, some b => some (.seq a b)
    | _, _ => none
  | .cond c a b => match cOpd P c, compCode a, compCode b with
    | some c, some a, some b => some (.cond c a b)
    | _, _, _ => none
  | .block id b => (compCode b).map (.block id)
  | .loop b => (compCode b).map .loop
  | .exit id => some (.exit id)
  | .label _ => some .skip
  | .ret => some .ret
  | _ => none

def compRes : List ResultVar → Option (List ARes)
  | [] => some []
  | .tmp t :: rs => (compRes rs).map (.tmp t :: ·)
  | .cell t ty :: rs => match aggA P ty, sizeA P ty, compRes rs with
    | some true, some n, some rs => some (.cells t n :: rs)
    | some false, _, some rs => some (.cell t :: rs)
    | _, _, _ => none

def compFn (f : Func) : Option AFn :=
  if f.name == "runtime.NumGoroutine" then none else
  match f.body with
  | some c => match compCode P c, compRes P f.results.toList with
    | some b, some rs => some { ntmps := f.ntmps, results := rs, body := b }
    | _, _ => none
  | none => none

end Go.Proofs.YthfbefjmenddkaaDoorA
