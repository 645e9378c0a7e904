/- Blocks that may be made at several places: what makes one, told by itself; hidden blocks, and how they are shown. -/
import Derived.Test.YthfbefjmenddkaaDoorA19
namespace Go.Proofs.YthfbefjmenddkaaDoorA
open Go

variable {P : Program} {Z : Base} {ρ : Ren} {h h' h0 h1 : Heap} {w : World} {a : Act} {e e' : Env} {v : V} {cf : ACall}

/-- A computation that makes a block of such cells, and a value that names it. -/
def DoesB (P : Program) (ρ : Ren) (s : Sem Value) (w : World) (cs : List V) (elem esz : Nat) (x : Nat → V) : Prop :=
  ∃ us rest fz n u, VRL ρ cs us ∧ s.run P w = .ok u { w with heap := w.heap.push (.cells (us ++ rest).toArray elem fz), drawn := n } ∧ (fz.1 = fz.2 ∨ us.length + rest.length ≤ fz.1) ∧
    ∀ (ρ' : Ren) (k : Nat), ρ' k = some ⟨w.heap.size, 0, us.length + rest.length, esz⟩ → VR ρ' (x k) u

def DoesBN (P : Program) (ρ : Ren) (s : Sem Next) (w : World) (cs : List V) (elem esz : Nat) (x : Nat → V) : Prop :=
  ∃ us rest fz n u, VRL ρ cs us ∧ s.run P w = .ok (.value u) { w with heap := w.heap.push (.cells (us ++ rest).toArray elem fz), drawn := n } ∧ (fz.1 = fz.2 ∨ us.length + rest.length ≤ fz.1) ∧
    ∀ (ρ' : Ren) (k : Nat), ρ' k = some ⟨w.heap.size, 0, us.length + rest.length, esz⟩ → VR ρ' (x k) u

theorem DoesB.next {s : Sem Value} {cs : List V} {elem esz : Nat} {x : Nat → V} (hd : DoesB P ρ s w cs elem esz x) : DoesBN P ρ (do Pure.pure (.value (← s))) w cs elem esz x := by
  obtain ⟨us, rest, fz, n, u, h1, h2, h3, h4⟩ := hd
  exact ⟨us, rest, fz, n, u, h1, by simp [h2], h3, h4⟩

theorem DoesB.alloc {s : Sem Value} {cs : List V} {us rest : List Value} {elem esz : Nat} {u : Value} {x : Nat → V} {fz : Nat × Nat} {n : Nat} (hcs : VRL ρ cs us)
    (hs : s.run P w = .ok u { w with heap := w.heap.push (.cells (us ++ rest).toArray elem fz), drawn := n })
    (hfz : fz.1 = fz.2 ∨ us.length + rest.length ≤ fz.1)
    (hx : ∀ (ρ' : Ren) (k : Nat), ρ' k = some ⟨w.heap.size, 0, us.length + rest.length, esz⟩ → VR ρ' (x k) u) : DoesB P ρ s w cs elem esz x :=
  ⟨us, rest, fz, n, u, hcs, hs, hfz, hx⟩

theorem dB_newVar {elem : TypeId} {p : Value} {x : V} (hp : VRL ρ x.cells p.cells.toList) : DoesB P ρ (do Pure.pure (.pointer (some (← newVar elem p)))) w x.cells elem 1 (fun k => .ptr k 0) := by
  refine DoesB.alloc (rest := []) (esz := 1) (fz := (0, 0)) (n := w.drawn) (u := .pointer (some ⟨w.heap.size, 0, none⟩)) hp ?_ (fz0 _) ?_
  · simp [newVar, newRow]
  · intro ρ' k hρ
    simp only [VR]
    exact ⟨_, hρ, by simp⟩

theorem dB_alloc {elem : TypeId} {z : List V} (hz : zeroA P elem = some z) : DoesB P ρ (Instr.alloc elem true (.tuple #[])) w z elem 1 (fun k => .ptr k 0) := by
  obtain ⟨u, h1, h2⟩ := run_zeroA (ρ := ρ) hz w
  obtain ⟨us, rest, fz, n, u', k1, k2, k3, k4⟩ := dB_newVar (P := P) (w := w) (elem := elem) (p := u) (x := .agg z) h2
  exact ⟨us, rest, fz, n, u', k1, by simpa [Instr.alloc, h1] using k2, k3, k4⟩

theorem dB_strRunes {el : TypeId} {s : List Nat} {bs : ByteArray} (hs : bs.data.toList.map UInt8.toNat = s) :
    DoesB P ρ (Conv.stringToRunes el bs) w (runesDec s s.length 0) el 1 (fun k => .slice k 0 (runesDec s s.length 0).length none) := by
  subst hs
  have hv : VRL ρ (runesDec (bs.data.toList.map UInt8.toNat) (bs.data.toList.map UInt8.toNat).length 0) (Conv.runesFrom bs bs.size 0 #[]).toList := by
    rw [List.length_map, ← ba_size]
    exact runesDec_ok bs bs.size 0
  have hlen := hv.length
  generalize hE : Conv.runesFrom bs bs.size 0 #[] = E at hv hlen
  let c := Question.cut (.appendCap E.size 0 el) (w.tape w.drawn (.appendCap E.size 0 el))
  have hcap : E.size ≤ c := by show E.size ≤ E.size + _; omega
  have hforced : Question.forced (.appendCap E.size 0 el) = false := rfl
  refine DoesB.alloc (us := E.toList) (rest := List.replicate (c - E.size) (.int .i32 0)) (esz := 1) (fz := (0, 0)) (n := w.drawn + 1) (u := .slice (some ⟨w.heap.size, 0, none⟩) E.size c) hv ?_ (fz0 _) (fun ρ' k hρ => ?_)
  · unfold Conv.stringToRunes
    have ea : (E.toList ++ List.replicate (c - E.size) (Value.int .i32 0)).toArray = E ++ Array.replicate (c - E.size) (.int .i32 0) := by simp
    rw [ea]
    simp only [hE, Sem.run_bind, run_choose, hforced, Bool.false_eq_true, if_false, Result.andThen_ok, newRow, run_newObj, Sem.run_pure]
    rfl
  · rw [← hlen, Array.length_toList]
    exact vr_new hρ hcap (by simp; omega) rfl

theorem dB_strBytes {el : TypeId} {s : List Nat} {bs : ByteArray} (hs : bs.data.toList.map UInt8.toNat = s) :
    DoesB P ρ (Conv.stringToBytes el bs) w (bytesOf s) el 1 (fun k => .slice k 0 s.length none) := by
  subst hs
  let c := Question.cut (.appendCap bs.size 0 el) (w.tape w.drawn (.appendCap bs.size 0 el))
  have hcap : bs.size ≤ c := by show bs.size ≤ bs.size + _; omega
  have hforced : Question.forced (.appendCap bs.size 0 el) = false := rfl
  have hlen : (bs.data.toList.map fun b => Value.int .u8 b.toNat).length = bs.size := by rw [List.length_map, ← ba_size]
  refine DoesB.alloc (us := bs.data.toList.map fun b => Value.int .u8 b.toNat) (rest := List.replicate (c - bs.size) (.int .u8 0)) (esz := 1) (fz := (c, c + 1)) (n := w.drawn + 1) (u := .slice (some ⟨w.heap.size, 0, none⟩) bs.size c) VRL.bytesOf ?_ ?_ (fun ρ' k hρ => ?_)
  · have ea : ((bs.data.toList.map fun b => Value.int .u8 b.toNat) ++ List.replicate (c - bs.size) (Value.int .u8 0)).toArray = (bs.data.map fun b => Value.int .u8 b.toNat) ++ Array.replicate (c - bs.size) (.int .u8 0) := by
      apply Array.toList_inj.1; simp
    have es : ((bs.data.map fun b => Value.int .u8 b.toNat) ++ Array.replicate (c - bs.size) (Value.int .u8 0)).size = c := by
      rw [Array.size_append, Array.size_map, Array.size_replicate]
      show bs.size + (c - bs.size) = c
      omega
    rw [ea]
    unfold Conv.stringToBytes
    simp only [Sem.run_bind, run_choose, hforced, Bool.false_eq_true, if_false, Result.andThen_ok, newRow, run_newObj, Sem.run_pure]
    show (Result.andThen (Sem.run P (markStringish ⟨w.heap.size, 0, none⟩) { w with heap := w.heap.push (.cells ((bs.data.map fun b => Value.int .u8 b.toNat) ++ Array.replicate (c - bs.size) (Value.int .u8 0)) el (0, 0)), drawn := w.drawn + 1 }) _) = _
    generalize (bs.data.map fun b => Value.int .u8 b.toNat) ++ Array.replicate (c - bs.size) (Value.int .u8 0) = C at es
    rw [← es]
    have hm : (markStringish ⟨w.heap.size, 0, none⟩).run P { w with heap := w.heap.push (.cells C el (0, 0)), drawn := w.drawn + 1 } = .ok () { w with heap := w.heap.push (.cells C el (C.size, C.size + 1)), drawn := w.drawn + 1 } := by
      unfold markStringish
      simp only [Sem.run_bind, run_shape, World.shape?, Array.getElem?_push_size, Result.andThen_ok, run_freeze, World.freeze, Nat.one_ne_zero, if_false]
      rw [modify_push]
      simp
    rw [hm, es]
    rfl
  · refine .inr ?_
    rw [hlen, List.length_replicate]
    show bs.size + (c - bs.size) ≤ c
    omega
  · rw [List.length_map, ← ba_size]
    exact vr_new hρ hcap (by simp only [hlen, List.length_replicate]; omega) rfl

theorem dB_buildSlice {t : TypeId} {len : Nat} {parts : Array (Nat × Operand)} {ao : AOp} (hG : P.globals.size ≤ Z.G) (r : Rel Z ρ h w) (he : ER ρ e a.tmps) (hc : compOp P (.buildSlice t len parts) = some ao)
    (ha : aop cf ao e h0 = some (v, h1)) : ∃ cs elem esz x, v = x h0.next ∧ h1 = h0.new (.cells cs elem esz true) ∧ DoesB P ρ (Instr.buildSlice t len (parts.map fun (i, x) => (i, a.eval x))) w cs elem esz x := by
  simp only [compOp] at hc
  split at hc
  · rename_i el hel
    split at hc
    · rename_i z n hz hn
      split at hc
      · rename_i hh
        obtain ⟨hle, hzl, hn0⟩ := hh
        simp only [Option.map_eq_some_iff] at hc
        obtain ⟨q, hq, rfl⟩ := hc
        simp only [aop] at ha
        split at ha
        · rename_i cs hf
          split at ha
          · rename_i hone
            simp only [Option.some.injEq, Prod.mk.injEq] at ha
            obtain ⟨rfl, rfl⟩ := ha
            obtain ⟨zv, z1, z2⟩ := run_zeroA (ρ := ρ) hz w
            have hzs : zv.cells.size = n := by rw [← hzl, ← z2.length, Array.length_toList]
            have hrow := zeroRow zv.cells len (by omega)
            obtain ⟨us', k1, k2⟩ := built_ok (z := zeros z len) (us := ((Array.range (len * zv.cells.size)).map (zv.cells[· % zv.cells.size]!))) hG r he hq (by rw [hrow]; exact VRL.flatten_replicate z2 len) hf
            have hu : P.underlying t = some (.slice el) := by
              unfold elemA at hel
              split at hel
              · rename_i e' hu'; have hel := Option.some.inj hel; subst hel; exact hu'
              · cases hel
            refine ⟨_, _, n, fun k => .slice k 0 len (some len), rfl, rfl, DoesB.alloc (us := us'.toList) (rest := []) (fz := (0, 0)) (n := w.drawn) (u := .slice (some ⟨w.heap.size, 0, none⟩) len len) k2 ?_ (fz0 _) (fun ρ' k hρ => VR.mk_slice hρ (Nat.le_refl _) (by simp))⟩
            unfold Instr.buildSlice
            have h0 : ¬ (len * n > 2 ^ 24) := by omega
            rw [hzs] at k1
            simp only [Sem.run_bind, run_underlying hu, Result.andThen_ok, run_sizeA hn, if_neg h0]
            by_cases hl0 : len * n = 0
            · have e0 : ((Array.range (len * n)).map fun x => zv.cells[x % n]!) = #[] := by rw [hl0]; simp
              have e1 : ((Array.range (len * n)).map fun x => (#[] : Array Value)[x % (#[] : Array Value).size]!) = #[] := by rw [hl0]; simp
              rw [e0] at k1
              simp only [hl0, if_true, Sem.run_bind, Sem.run_pure, Result.andThen_ok]
              rw [hl0] at e1
              rw [e1, list_map_toList, k1]
              simp [newRow]
            · simp only [if_neg hl0, Sem.run_bind, z1, Result.andThen_ok, Sem.run_pure, hzs, list_map_toList, k1]
              simp [newRow]
          · cases ha
        · cases ha
      · cases hc
    · cases hc
  · cases hc

theorem dB_makeSlice {t : TypeId} {x y : Operand} {ao : AOp} (hG : P.globals.size ≤ Z.G) (r : Rel Z ρ h w) (he : ER ρ e a.tmps) (hc : compOp P (.makeSlice t x y) = some ao)
    (ha : aop cf ao e h0 = some (v, h1)) : ∃ cs elem esz x', v = x' h0.next ∧ h1 = h0.new (.cells cs elem esz true) ∧ DoesB P ρ (Instr.makeSlice t (a.eval x) (a.eval y)) w cs elem esz x' := by
  simp only [compOp] at hc
  split at hc
  · rename_i el x' y' hel hx hy
    split at hc
    · rename_i z s b hz hs hb
      split at hc
      · rename_i hh
        obtain ⟨hzl, hs0, hone⟩ := hh
        have hc := Option.some.inj hc
        subst hc
        have vx := cOpd_ok hG hx r he
        have vy := cOpd_ok hG hy r he
        simp only [aop] at ha
        split at ha
        · rename_i k1 n k2 c hxv hyv
          rw [hxv] at vx
          rw [hyv] at vy
          split at ha
          · rename_i hh2
            obtain ⟨g1, g2, g3, g4⟩ := hh2
            simp only [Option.some.injEq, Prod.mk.injEq] at ha
            obtain ⟨rfl, rfl⟩ := ha
            rw [vx.int_inv, vy.int_inv]
            obtain ⟨zv, z1, z2⟩ := run_zeroA (ρ := ρ) hz w
            have hzs : zv.cells.size = s := by rw [← hzl, ← z2.length, Array.length_toList]
            have hrow := zeroRow zv.cells c.toNat (by omega)
            have hu : P.underlying t = some (.slice el) := by
              unfold elemA at hel
              split at hel
              · rename_i e' hu'; have hel := Option.some.inj hel; subst hel; exact hu'
              · cases hel
            have hwrap : ∀ m : Int, 0 ≤ m → m ≤ most → IntKind.i64.wrap m = m := by
              intro m m0 m1
              have e1 : IntKind.i64.bits = 64 := rfl
              have e2 : IntKind.i64.signed = true := rfl
              unfold IntKind.wrap
              unfold most at m1
              simp only [e1, e2, Bool.true_and]
              rw [if_neg (by simp; omega)]
              omega
            obtain ⟨i, hi, hib⟩ := run_bytesA hb w
            refine ⟨_, _, s, fun k => .slice k 0 n.toNat (some c.toNat), rfl, rfl, DoesB.alloc (us := (List.replicate c.toNat zv.cells.toList).flatten) (rest := []) (fz := (0, 0)) (n := w.drawn) (u := .slice (some ⟨w.heap.size, 0, none⟩) n.toNat c.toNat) (VRL.flatten_replicate z2 c.toNat) ?_ (fz0 _) (fun ρ' k hρ => VR.mk_slice hρ (by omega) (by simp))⟩
            have hbc : ¬ ((b : Int) * c > 2 ^ 48) := by
              have e3 : ((c.toNat * b : Nat) : Int) = b * c := by rw [Int.natCast_mul, Int.toNat_of_nonneg (by omega), Int.mul_comm]
              unfold most at g4
              omega
            have hcond : (((decide (c < 0) || decide ((b : Int) * c > 2 ^ 48)) || decide (n < 0)) || decide (n > c)) = false := by
              simp only [Bool.or_eq_false_iff, decide_eq_false_iff_not]
              exact ⟨⟨⟨by omega, hbc⟩, by omega⟩, by omega⟩
            unfold Instr.makeSlice
            simp only [Sem.run_bind, run_underlying hu, Result.andThen_ok, asInt, asIntOf, Sem.run_pure, hi, hib, hwrap n g1 (by omega), hwrap c (by omega) g3, hcond, Bool.false_eq_true, if_false, run_askRoom, run_sizeA hs]
            by_cases hl0 : c.toNat * s = 0
            · have hc0 : c.toNat = 0 := by
                rcases Nat.mul_eq_zero.1 hl0 with h' | h'
                · exact h'
                · exact absurd h' hs0
              have e0 : Array.range 0 = #[] := Array.eq_empty_of_size_eq_zero (by simp)
              simp [hc0, newRow, e0]
            · rw [hzs] at hrow
              have hrow2 : (Array.range (c.toNat * s)).map (fun x => zv.cells[x % s]!) = ((List.replicate c.toNat zv.cells.toList).flatten).toArray := by
                rw [← hrow]
              simp only [if_neg hl0, Sem.run_bind, z1, Result.andThen_ok, Sem.run_pure, hzs, hrow2, newRow, run_newObj, List.append_nil]
          · cases ha
        · cases ha
      · cases hc
    · cases hc
  · cases hc

theorem dB_convert {src dst : TypeId} {x : Operand} {ao : AOp} (hG : P.globals.size ≤ Z.G) (r : Rel Z ρ h w) (he : ER ρ e a.tmps) (hc : compOp P (.convert src dst x) = some ao) (hal : isAlloc ao = true)
    (ha : aop cf ao e h0 = some (v, h1)) : ∃ cs elem esz x', v = x' h0.next ∧ h1 = h0.new (.cells cs elem esz true) ∧ DoesB P ρ (convert src dst (a.eval x)) w cs elem esz x' := by
  simp only [compOp] at hc
  split at hc
  · simp only [Option.some.injEq] at hc; subst hc; cases hal
  · simp only [Option.some.injEq] at hc; subst hc; cases hal
  · simp only [Option.some.injEq] at hc; subst hc; cases hal
  · rename_i el x' hs hd hx
    have vx := cOpd_ok hG hx r he
    split at hc
    · rename_i hu8
      have hc := Option.some.inj hc
      subst hc
      have hel : P.underlying el = some (.int .u8) := by
        unfold isU8 at hu8
        split at hu8
        · assumption
        · cases hu8
      simp only [aop] at ha
      split at ha
      · rename_i s hxv
        rw [hxv] at vx
        obtain ⟨bs, hbs, h2⟩ := vx.str_inv
        split at ha
        · simp only [Option.some.injEq, Prod.mk.injEq] at ha
          obtain ⟨rfl, rfl⟩ := ha
          obtain ⟨us, rest, fz, n, u, k1, k2, k3, k4⟩ := dB_strBytes (P := P) (w := w) (ρ := ρ) (el := el) h2
          refine ⟨_, _, 1, fun k => .slice k 0 s.length none, rfl, rfl, us, rest, fz, n, u, k1, ?_, k3, k4⟩
          rw [hbs]
          unfold convert
          simp only [Sem.run_bind, run_underlying hs, run_underlying hd, Result.andThen_ok, run_underlying hel]
          exact k2
        · cases ha
      · cases ha
    · split at hc
      · rename_i hi32
        have hc := Option.some.inj hc
        subst hc
        have hel : P.underlying el = some (.int .i32) := by
          unfold isI32 at hi32
          split at hi32
          · assumption
          · cases hi32
        simp only [aop] at ha
        split at ha
        · rename_i s hxv
          rw [hxv] at vx
          obtain ⟨bs, hbs, h2⟩ := vx.str_inv
          split at ha
          · simp only [Option.some.injEq, Prod.mk.injEq] at ha
            obtain ⟨rfl, rfl⟩ := ha
            obtain ⟨us, rest, fz, n, u, k1, k2, k3, k4⟩ := dB_strRunes (P := P) (w := w) (ρ := ρ) (el := el) h2
            refine ⟨_, _, 1, fun k => .slice k 0 (runesDec s s.length 0).length none, rfl, rfl, us, rest, fz, n, u, k1, ?_, k3, k4⟩
            rw [hbs]
            unfold convert
            simp only [Sem.run_bind, run_underlying hs, run_underlying hd, Result.andThen_ok, run_underlying hel]
            exact k2
          · cases ha
        · cases ha
      · cases hc
  · split at hc
    · simp only [Option.some.injEq] at hc; subst hc; cases hal
    · cases hc
  · split at hc
    · simp only [Option.some.injEq] at hc; subst hc; cases hal
    · split at hc
      · simp only [Option.some.injEq] at hc; subst hc; cases hal
      · cases hc
  · cases hc

theorem doesB_op {o : Oper} {ao : AOp} (hG : P.globals.size ≤ Z.G) (hc : compOp P o.op = some ao) (hal : isAlloc ao = true) (ha : aop cf ao e h0 = some (v, h1)) (r : Rel Z ρ h w) (he : ER ρ e a.tmps) :
    ∃ cs elem esz x, v = x h0.next ∧ h1 = h0.new (.cells cs elem esz true) ∧ DoesBN P ρ (execOp a.eval o) w cs elem esz x := by
  unfold execOp
  cases hop : o.op <;> rw [hop] at hc
  case alloc t =>
    simp only [compOp] at hc
    split at hc
    · rename_i z hz
      split at hc
      · have hc := Option.some.inj hc
        subst hc
        simp only [aop, Option.some.injEq, Prod.mk.injEq] at ha
        obtain ⟨rfl, rfl⟩ := ha
        exact ⟨_, _, 1, fun k => .ptr k 0, rfl, rfl, (dB_alloc hz).next⟩
      · cases hc
    · cases hc
  case box t x =>
    simp only [compOp, Option.map_eq_some_iff] at hc
    obtain ⟨y, hy, rfl⟩ := hc
    simp only [aop] at ha
    split at ha
    · simp only [Option.some.injEq, Prod.mk.injEq] at ha
      obtain ⟨rfl, rfl⟩ := ha
      exact ⟨_, _, 1, fun k => .ptr k 0, rfl, rfl, (dB_newVar (cOpd_ok hG hy r he).cells).next⟩
    · cases ha
  case buildSlice t len parts =>
    obtain ⟨cs, elem, esz, x, k1, k2, k3⟩ := dB_buildSlice hG r he hc ha
    exact ⟨cs, elem, esz, x, k1, k2, k3.next⟩
  case makeSlice t n c =>
    obtain ⟨cs, elem, esz, x, k1, k2, k3⟩ := dB_makeSlice hG r he hc ha
    exact ⟨cs, elem, esz, x, k1, k2, k3.next⟩
  case convert src dst x =>
    obtain ⟨cs, elem, esz, x, k1, k2, k3⟩ := dB_convert hG r he hc hal ha
    exact ⟨cs, elem, esz, x, k1, k2, k3.next⟩
  all_goals
    exfalso
    simp only [compOp] at hc
    (repeat' split at hc) <;> first
      | contradiction
      | (cases hc; done)
      | (simp only [Option.map_eq_some_iff] at hc; obtain ⟨_, _, rfl⟩ := hc; cases hal; done)
      | (simp only [Option.some.injEq] at hc; subst hc; cases hal; done)

/-- A block that is made, and hidden: the number that was kept free for it has a place from now on. -/
theorem Rel.hide (r : Rel Z ρ h w) {us rest : List Value} (elem esz : Nat) (fz : Nat × Nat) (d n : Nat) (hR : Z.R n = true) :
    Rel { Z with K := fun k => if k = w.heap.size then some (.cells (us ++ rest).toArray elem fz) else Z.K k, H := fun k => decide (k = w.heap.size) || Z.H k, R := fun b => Z.R b && !decide (b = n) }
      (ρ.upd n ⟨w.heap.size, 0, us.length + rest.length, esz⟩) h { w with heap := w.heap.push (.cells (us ++ rest).toArray elem fz), drawn := d } := by
  obtain ⟨hn, hρ⟩ := r.res n hR
  have hle : ρ.le (ρ.upd n ⟨w.heap.size, 0, us.length + rest.length, esz⟩) := Ren.le_upd hρ _
  have hne : ∀ b B L, h.get b = some B → ρ b = some L → L.block ≠ w.heap.size ∧ b ≠ n := fun b B L hb hL => by
    have := r.lt hb hL
    exact ⟨by omega, fun e => by subst e; rw [hρ] at hL; cases hL⟩
  have hback : ∀ b B L, h.get b = some B → (ρ.upd n ⟨w.heap.size, 0, us.length + rest.length, esz⟩) b = some L → ρ b = some L := fun b B L hb hL => by
    obtain ⟨L1, h1, _⟩ := r.live b B hb
    rw [← hL]
    exact h1.trans (hle _ _ h1).symm
  refine ⟨r.os, r.tape, r.output, fun k o hk => ?_, fun b L hb => ?_, fun b B hb => ?_, fun b b' B B' L L' hb hb' h1 h2 => ?_, fun g hg => ?_, fun b B L hb hro hL => ?_, fun b hb => ?_⟩
  · simp only at hk ⊢
    split at hk
    · rename_i e
      subst e
      rw [← hk]
      simp
    · have h1 := r.keep k o hk
      have h2 := (Array.getElem?_eq_some_iff.1 h1).1
      rw [Array.getElem?_push, if_neg (by omega)]
      exact h1
  · unfold Ren.upd at hb
    by_cases e : b = n
    · rw [e]; exact hn
    · rw [if_neg e] at hb; exact r.dom b L hb
  · obtain ⟨L, h1, h2⟩ := r.live b B hb
    obtain ⟨hne1, _⟩ := hne b B L hb h1
    have hlt := r.lt hb h1
    refine ⟨L, hle _ _ h1, ?_⟩
    cases B with
    | cells c t z own =>
      obtain ⟨us0, fz0, k1, k2, k3, k4, k5, k6⟩ := h2
      refine ⟨us0, fz0, ?_, k2, k3, k4, fun ho => ⟨?_, (k5 ho).2⟩, fun i v hi => ?_⟩
      · simp only
        rw [Array.getElem?_push, if_neg (by omega)]
        exact k1
      · simp only
        rw [if_neg hne1]
        exact (k5 ho).1
      · obtain ⟨u, hu, hv⟩ := k6 i v hi
        exact ⟨u, hu, hv.mono hle _ _⟩
    | iter s p =>
      obtain ⟨bs, k1, k2, k3, k4⟩ := h2
      refine ⟨bs, ?_, k2, k3, ?_⟩
      · simp only
        rw [Array.getElem?_push, if_neg (by omega)]
        exact k1
      · simp only
        rw [if_neg hne1]
        exact k4
  · exact r.inj b b' B B' L L' hb hb' (hback b B L hb h1) (hback b' B' L' hb' h2)
  · obtain ⟨L, h1, h2⟩ := r.glob g hg
    exact ⟨L, hle _ _ h1, h2⟩
  · have hL := hback b B L hb hL
    have := r.hid b B L hb hro hL
    simp only [Bool.or_eq_false_iff, decide_eq_false_iff_not]
    exact ⟨(hne b B L hb hL).1, this⟩
  · simp only [Bool.and_eq_true, Bool.not_eq_true', decide_eq_false_iff_not] at hb
    obtain ⟨h1, h2⟩ := r.res b hb.1
    exact ⟨h1, by unfold Ren.upd; rw [if_neg hb.2]; exact h2⟩

/-- A hidden block, shown. -/
theorem Rel.show (r : Rel Z ρ h w) {n : Nat} {L : Loc} {us : Array Value} {elem esz : Nat} {fz : Nat × Nat} {cs : List V} (hK : Z.K L.block = some (.cells us elem fz)) (hH : Z.H L.block = true) (hρ : ρ n = some L)
    (h1 : cs.length ≤ L.room) (h2 : L.off + L.room ≤ us.size) (h3 : L.esz = esz) (h4 : fz.1 = fz.2 ∨ us.size ≤ fz.1) (h5 : ∀ i v, cs[i]? = some v → ∃ u, us[L.off + i]? = some u ∧ VR ρ v u) :
    Rel { Z with K := fun k => if k = L.block then none else Z.K k } ρ (h.set n (some (.cells cs elem esz true))) w := by
  have hne : ∀ b B L', h.get b = some B → ρ b = some L' → L'.block ≠ L.block := by
    intro b B L' hb hL' he
    obtain ⟨L1, k1, k2⟩ := r.live b B hb
    have e1 : L1 = L' := Option.some.inj (k1.symm.trans hL')
    subst e1
    cases B with
    | cells c t z own =>
      cases own with
      | false =>
        have := r.hid b _ L1 hb rfl k1
        rw [he, hH] at this
        cases this
      | true =>
        obtain ⟨us, fz, _, _, _, _, k3, _⟩ := k2
        have := (k3 rfl).1
        rw [he, hK] at this
        cases this
    | iter s p =>
      obtain ⟨bs, _, _, _, k3⟩ := k2
      rw [he, hK] at k3
      cases k3
  refine ⟨r.os, r.tape, r.output, fun k o hk => ?_, r.dom, fun b B hb => ?_, fun b b' B B' L1 L2 hb hb' k1 k2 he => ?_, r.glob, fun b B L' hb hro hL => ?_, r.res⟩
  · simp only at hk
    split at hk
    · cases hk
    · exact r.keep k o hk
  · rw [Heap.get_set] at hb
    by_cases e : b = n
    · rw [if_pos e] at hb
      have hb := Option.some.inj hb
      subst hb
      subst e
      exact ⟨L, hρ, us, fz, r.keep _ _ hK, h1, h2, h3, fun _ => ⟨if_pos rfl, h4⟩, h5⟩
    · rw [if_neg e] at hb
      obtain ⟨L', k1, k2⟩ := r.live b B hb
      refine ⟨L', k1, ?_⟩
      have hh := hne b B L' hb k1
      cases B with
      | cells c t z own =>
        obtain ⟨us0, fz0, q1, q2, q3, q4, q5, q6⟩ := k2
        exact ⟨us0, fz0, q1, q2, q3, q4, fun ho => ⟨by simp only; rw [if_neg hh]; exact (q5 ho).1, (q5 ho).2⟩, q6⟩
      | iter s p =>
        obtain ⟨bs, q1, q2, q3, q4⟩ := k2
        exact ⟨bs, q1, q2, q3, by simp only; rw [if_neg hh]; exact q4⟩
  · rw [Heap.get_set] at hb hb'
    by_cases e : b = n
    · by_cases e' : b' = n
      · exact .inl (by rw [e, e'])
      · rw [if_neg e'] at hb'
        rw [e] at k1
        have : L1 = L := Option.some.inj (k1.symm.trans hρ)
        subst this
        exact absurd he.symm (hne b' B' L2 hb' k2)
    · by_cases e' : b' = n
      · rw [if_neg e] at hb
        rw [e'] at k2
        have : L2 = L := Option.some.inj (k2.symm.trans hρ)
        subst this
        exact absurd he (hne b B L1 hb k1)
      · rw [if_neg e] at hb
        rw [if_neg e'] at hb'
        exact r.inj b b' B B' L1 L2 hb hb' k1 k2 he
  · rw [Heap.get_set] at hb
    by_cases e : b = n
    · rw [if_pos e] at hb
      have hb := Option.some.inj hb
      subst hb
      cases hro
    · rw [if_neg e] at hb
      exact r.hid b B L' hb hro hL

/-- With less to be kept. -/
theorem Rel.less {Z2 : Base} (r : Rel Z ρ h w) (hW : Z2.W = Z.W) (hG : Z2.G = Z.G) (hK : ∀ k o, Z2.K k = some o → Z.K k = some o) (hH : ∀ k, Z2.H k = true → Z.H k = true) (hR : ∀ b, Z2.R b = true → Z.R b = true) : Rel Z2 ρ h w := by
  have hnone : ∀ {k}, Z.K k = none → Z2.K k = none := fun {k} hk => by
    cases hk2 : Z2.K k with
    | none => rfl
    | some o => rw [hK k o hk2] at hk; cases hk
  refine ⟨by rw [hW]; exact r.os, by rw [hW]; exact r.tape, by rw [hW]; exact r.output, fun k o hk => r.keep k o (hK k o hk), r.dom, fun b B hb => ?_, r.inj, fun g hg => r.glob g (by rw [← hG]; exact hg), fun b B L hb hro hL => ?_, fun b hb => r.res b (hR b hb)⟩
  · obtain ⟨L, h1, h2⟩ := r.live b B hb
    refine ⟨L, h1, ?_⟩
    cases B with
    | cells c t z own =>
      obtain ⟨us0, fz0, q1, q2, q3, q4, q5, q6⟩ := h2
      exact ⟨us0, fz0, q1, q2, q3, q4, fun ho => ⟨hnone (q5 ho).1, (q5 ho).2⟩, q6⟩
    | iter s p =>
      obtain ⟨bs, q1, q2, q3, q4⟩ := h2
      exact ⟨bs, q1, q2, q3, hnone q4⟩
  · have := r.hid b B L hb hro hL
    cases hh : Z2.H L.block with
    | false => rfl
    | true => rw [hH _ hh] at this; cases this

/-- Numbers kept free. -/
theorem Rel.gap (r : Rel Z ρ h w) (n : Nat) : Rel { Z with R := fun b => Z.R b || (decide (h.next ≤ b) && decide (b < h.next + n)) } ρ (h.gap n) w := by
  refine ⟨r.os, r.tape, r.output, r.keep, fun b L hb => ?_, r.live, r.inj, r.glob, r.hid, fun b hb => ?_⟩
  · have := r.dom b L hb
    unfold Heap.gap
    simp only; omega
  · unfold Heap.gap
    simp only [Bool.or_eq_true, Bool.and_eq_true, decide_eq_true_eq] at hb ⊢
    rcases hb with hb | hb
    · obtain ⟨h1, h2⟩ := r.res b hb
      exact ⟨by omega, h2⟩
    · refine ⟨hb.2, ?_⟩
      cases hρ : ρ b with
      | none => rfl
      | some L => have := r.dom b L hρ; omega

end Go.Proofs.YthfbefjmenddkaaDoorA
