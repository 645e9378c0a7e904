/- The functions that the law OctetJoins reaches, as the abstract machine has them. No condition. -/
import Derived.Test.YtaaejidllnkpbaaA43
import Derived.KernelRfl
namespace Go.Proofs.Ytaaejidllnkpbaa.OctetJoins
open Go Go.Proofs.YtaaejidllnkpbaaA
/-- A loop of function 7. -/
def c7_l0 : ACode :=
  ACode.seq (ACode.seq (ACode.region [⟨some 14, AOp.move (Opd.tmp 7), none⟩, ⟨some 15, AOp.move (Opd.tmp 0), none⟩, ⟨some 16, AOp.lenL (Opd.tmp 15), none⟩, ⟨some 17, AOp.bin (BinOp.lss) (Opd.tmp 14)
    (Opd.tmp 16), none⟩]) (ACode.cond (Opd.tmp 17) (ACode.skip) (ACode.exit 0))) (ACode.seq (ACode.block 1 (ACode.region [⟨some 20, AOp.move (Opd.tmp 6), none⟩, ⟨some 21, AOp.move (Opd.tmp 0), none⟩,
    ⟨some 22, AOp.move (Opd.tmp 7), none⟩, ⟨some 23, AOp.indexAddrS 1 (Opd.tmp 21) (Opd.tmp 22), none⟩, ⟨some 24, AOp.load (Opd.tmp 23), none⟩, ⟨some 25, AOp.bytesStr (Opd.tmp 24), none⟩, ⟨some 26,
    AOp.bin (BinOp.add) (Opd.tmp 20) (Opd.tmp 25), none⟩, ⟨some 6, AOp.move (Opd.tmp 26), none⟩])) (ACode.region [⟨some 18, AOp.move (Opd.tmp 7), none⟩, ⟨some 19, AOp.bin (BinOp.add) (Opd.tmp 18)
    (Opd.const (V.int (IntKind.i64) 1)), none⟩, ⟨some 7, AOp.move (Opd.tmp 19), none⟩]))
theorem c7_l0_wr : c7_l0.wr = [14, 15, 16, 17, 20, 21, 22, 23, 24, 25, 26, 6, 18, 19, 7] := by kernel_rfl
/-- Function 7: portholelaw1.OctetJoins. -/
def c7 : AFn :=
  ⟨84, [ARes.tmp 4], ACode.seq (ACode.region [⟨some 4, AOp.move (Opd.const (V.bool false)), none⟩]) (ACode.seq (ACode.region [⟨some 12, AOp.move (Opd.tmp 0), none⟩, ⟨some 13, AOp.call (Opd.func 24)
    [Opd.tmp 12], none⟩, ⟨some 5, AOp.move (Opd.tmp 13), none⟩]) (ACode.seq (ACode.region [⟨some 6, AOp.move (Opd.const (V.str [])), none⟩]) (ACode.seq (ACode.seq (ACode.region [⟨some 7, AOp.move
    (Opd.const (V.int (IntKind.i64) 0)), none⟩]) (ACode.block 0 (ACode.loop c7_l0))) (ACode.seq (ACode.region [⟨some 28, AOp.move (Opd.tmp 1), none⟩, ⟨some 29, AOp.call (Opd.func 18) [Opd.tmp 28],
    none⟩, ⟨some 30, AOp.move (Opd.tmp 5), none⟩, ⟨some 31, AOp.buildSlice 28 1 [V.nilslice] 2 [(0, 1, Opd.tmp 29), (1, 1, Opd.tmp 30)], none⟩, ⟨some 32, AOp.call (Opd.func 24) [Opd.tmp 31], none⟩,
    ⟨some 33, AOp.call (Opd.func 17) [Opd.tmp 32], none⟩, ⟨some 27, AOp.move (Opd.tmp 33), none⟩, ⟨some 34, AOp.extract (Opd.tmp 27) 0, none⟩, ⟨some 35, AOp.extract (Opd.tmp 27) 1, none⟩, ⟨some 8,
    AOp.move (Opd.tmp 34), none⟩, ⟨some 9, AOp.move (Opd.tmp 35), none⟩]) (ACode.seq (ACode.region [⟨some 37, AOp.move (Opd.tmp 1), none⟩, ⟨some 38, AOp.call (Opd.func 18) [Opd.tmp 37], none⟩, ⟨some
    39, AOp.call (Opd.func 15) [Opd.tmp 38], none⟩, ⟨some 36, AOp.move (Opd.tmp 39), none⟩, ⟨some 40, AOp.extract (Opd.tmp 36) 0, none⟩, ⟨some 41, AOp.extract (Opd.tmp 36) 1, none⟩, ⟨some 10, AOp.move
    (Opd.tmp 40), none⟩, ⟨some 11, AOp.move (Opd.tmp 41), none⟩]) (ACode.seq (ACode.floatRegion [⟨some 42, AOp.call (Opd.func 20) [], none⟩, ⟨some 43, AOp.move (Opd.tmp 42), none⟩, ⟨some 44, AOp.move
    (Opd.tmp 5), some (43, true)⟩, ⟨some 45, AOp.bytesStr (Opd.tmp 44), some (43, true)⟩, ⟨some 46, AOp.move (Opd.tmp 6), some (43, true)⟩, ⟨some 47, AOp.bin (BinOp.eql) (Opd.tmp 45) (Opd.tmp 46),
    some (43, true)⟩, ⟨some 48, AOp.pick (Opd.tmp 43) (Opd.tmp 47) (Opd.const (V.bool false)), none⟩, ⟨some 49, AOp.move (Opd.tmp 48), none⟩, ⟨some 50, AOp.move (Opd.tmp 8), some (49, true)⟩, ⟨some
    51, AOp.move (Opd.tmp 1), some (49, true)⟩, ⟨some 52, AOp.bin (BinOp.eql) (Opd.tmp 50) (Opd.tmp 51), some (49, true)⟩, ⟨some 53, AOp.pick (Opd.tmp 49) (Opd.tmp 52) (Opd.const (V.bool false)),
    none⟩, ⟨some 54, AOp.move (Opd.tmp 53), none⟩, ⟨some 55, AOp.move (Opd.tmp 9), some (54, true)⟩, ⟨some 56, AOp.pick (Opd.tmp 54) (Opd.tmp 55) (Opd.const (V.bool false)), none⟩, ⟨some 57, AOp.move
    (Opd.tmp 56), none⟩, ⟨some 58, AOp.move (Opd.tmp 10), some (57, true)⟩, ⟨some 59, AOp.move (Opd.tmp 1), some (57, true)⟩, ⟨some 60, AOp.conv (IntKind.u32) (Opd.tmp 59), some (57, true)⟩, ⟨some 61,
    AOp.bin (BinOp.eql) (Opd.tmp 58) (Opd.tmp 60), some (57, true)⟩, ⟨some 62, AOp.pick (Opd.tmp 57) (Opd.tmp 61) (Opd.const (V.bool false)), none⟩, ⟨some 63, AOp.move (Opd.tmp 62), none⟩, ⟨some 64,
    AOp.move (Opd.tmp 11), some (63, true)⟩, ⟨some 65, AOp.pick (Opd.tmp 63) (Opd.tmp 64) (Opd.const (V.bool false)), none⟩, ⟨some 66, AOp.move (Opd.tmp 65), none⟩, ⟨some 67, AOp.move (Opd.tmp 5),
    some (66, true)⟩, ⟨some 68, AOp.move (Opd.tmp 5), some (66, true)⟩, ⟨some 69, AOp.call (Opd.func 26) [Opd.tmp 67, Opd.tmp 68], some (66, true)⟩, ⟨some 70, AOp.move (Opd.tmp 5), some (66, true)⟩,
    ⟨some 71, AOp.lenL (Opd.tmp 70), some (66, true)⟩, ⟨some 72, AOp.float 0 (AOp.makeSlice 5 1 1 [V.int (IntKind.u8) 0] (Opd.tmp 71) (Opd.tmp 71)), some (66, true)⟩, ⟨some 73, AOp.call (Opd.func 23)
    [Opd.tmp 69, Opd.tmp 72], some (66, true)⟩, ⟨some 74, AOp.pick (Opd.tmp 66) (Opd.tmp 73) (Opd.const (V.bool false)), none⟩, ⟨some 75, AOp.move (Opd.tmp 74), none⟩, ⟨some 76, AOp.move (Opd.tmp 5),
    some (75, true)⟩, ⟨some 77, AOp.call (Opd.func 25) [Opd.tmp 76, Opd.const (V.int (IntKind.i64) 3)], some (75, true)⟩, ⟨some 78, AOp.lenL (Opd.tmp 77), some (75, true)⟩, ⟨some 79, AOp.move (Opd.tmp
    5), some (75, true)⟩, ⟨some 80, AOp.lenL (Opd.tmp 79), some (75, true)⟩, ⟨some 81, AOp.minmax false [Opd.const (V.int (IntKind.i64) 3), Opd.tmp 80], some (75, true)⟩, ⟨some 82, AOp.bin (BinOp.eql)
    (Opd.tmp 78) (Opd.tmp 81), some (75, true)⟩, ⟨some 83, AOp.pick (Opd.tmp 75) (Opd.tmp 82) (Opd.const (V.bool false)), none⟩, ⟨some 4, AOp.move (Opd.tmp 83), none⟩] [[], [], [], [], [], [], [], [],
    [], [], [], [], [], [], [], [], [], [], [], [], [], [], [], [], [], [], [], [], [], [], [], [30], [], [], [], [], [], [], [], [], [], [], [], []] []) (ACode.ret)))))))⟩
theorem h7 : compFn Try.prog Try.f7 = some c7 := by kernel_rfl
/-- Function 15: octet.Get32. -/
def c15 : AFn :=
  ⟨14, [ARes.tmp 2, ARes.tmp 3], ACode.seq (ACode.region [⟨some 2, AOp.move (Opd.const (V.int (IntKind.u32) 0)), none⟩, ⟨some 3, AOp.move (Opd.const (V.bool false)), none⟩]) (ACode.seq (ACode.region
    [⟨some 7, AOp.move (Opd.tmp 0), none⟩, ⟨some 8, AOp.call (Opd.func 31) [Opd.tmp 7, Opd.const (V.int (IntKind.i64) 4)], none⟩, ⟨some 6, AOp.move (Opd.tmp 8), none⟩, ⟨some 9, AOp.extract (Opd.tmp 6)
    0, none⟩, ⟨some 10, AOp.extract (Opd.tmp 6) 1, none⟩, ⟨some 4, AOp.move (Opd.tmp 9), none⟩, ⟨some 5, AOp.move (Opd.tmp 10), none⟩]) (ACode.seq (ACode.region [⟨some 11, AOp.move (Opd.tmp 4), none⟩,
    ⟨some 12, AOp.conv (IntKind.u32) (Opd.tmp 11), none⟩, ⟨some 13, AOp.move (Opd.tmp 5), none⟩, ⟨some 2, AOp.move (Opd.tmp 12), none⟩, ⟨some 3, AOp.move (Opd.tmp 13), none⟩]) (ACode.ret)))⟩
theorem h15 : compFn Try.prog Try.f15 = some c15 := by kernel_rfl
/-- Function 16: octet.Put32. -/
def c16 : AFn :=
  ⟨6, [ARes.tmp 2], ACode.seq (ACode.region [⟨some 2, AOp.move (Opd.const (V.nilslice)), none⟩]) (ACode.seq (ACode.region [⟨some 3, AOp.move (Opd.tmp 0), none⟩, ⟨some 4, AOp.conv (IntKind.u64)
    (Opd.tmp 3), none⟩, ⟨some 5, AOp.call (Opd.func 32) [Opd.tmp 4, Opd.const (V.int (IntKind.i64) 4)], none⟩, ⟨some 2, AOp.move (Opd.tmp 5), none⟩]) (ACode.ret))⟩
theorem h16 : compFn Try.prog Try.f16 = some c16 := by kernel_rfl
/-- Function 17: octet.Get64. -/
def c17 : AFn :=
  ⟨8, [ARes.tmp 2, ARes.tmp 3], ACode.seq (ACode.region [⟨some 2, AOp.move (Opd.const (V.int (IntKind.u64) 0)), none⟩, ⟨some 3, AOp.move (Opd.const (V.bool false)), none⟩]) (ACode.seq (ACode.region
    [⟨some 4, AOp.move (Opd.tmp 0), none⟩, ⟨some 5, AOp.call (Opd.func 31) [Opd.tmp 4, Opd.const (V.int (IntKind.i64) 8)], none⟩, ⟨some 6, AOp.extract (Opd.tmp 5) 0, none⟩, ⟨some 7, AOp.extract
    (Opd.tmp 5) 1, none⟩, ⟨some 2, AOp.move (Opd.tmp 6), none⟩, ⟨some 3, AOp.move (Opd.tmp 7), none⟩]) (ACode.ret))⟩
theorem h17 : compFn Try.prog Try.f17 = some c17 := by kernel_rfl
/-- Function 18: octet.Put64. -/
def c18 : AFn :=
  ⟨5, [ARes.tmp 2], ACode.seq (ACode.region [⟨some 2, AOp.move (Opd.const (V.nilslice)), none⟩]) (ACode.seq (ACode.region [⟨some 3, AOp.move (Opd.tmp 0), none⟩, ⟨some 4, AOp.call (Opd.func 32)
    [Opd.tmp 3, Opd.const (V.int (IntKind.i64) 8)], none⟩, ⟨some 2, AOp.move (Opd.tmp 4), none⟩]) (ACode.ret))⟩
theorem h18 : compFn Try.prog Try.f18 = some c18 := by kernel_rfl
/-- Function 20: portholelaw1.known. -/
def c20 : AFn :=
  ⟨25, [ARes.tmp 0], ACode.seq (ACode.region [⟨some 0, AOp.move (Opd.const (V.bool false)), none⟩]) (ACode.seq (ACode.region [⟨some 4, AOp.buildSlice 5 1 [V.int (IntKind.u8) 0] 5 [(0, 1, Opd.const
    (V.int (IntKind.u8) 1)), (1, 1, Opd.const (V.int (IntKind.u8) 2)), (2, 1, Opd.const (V.int (IntKind.u8) 0)), (3, 1, Opd.const (V.int (IntKind.u8) 0)), (4, 1, Opd.const (V.int (IntKind.u8) 9))],
    none⟩, ⟨some 5, AOp.call (Opd.func 15) [Opd.tmp 4], none⟩, ⟨some 3, AOp.move (Opd.tmp 5), none⟩, ⟨some 6, AOp.extract (Opd.tmp 3) 0, none⟩, ⟨some 7, AOp.extract (Opd.tmp 3) 1, none⟩, ⟨some 1,
    AOp.move (Opd.tmp 6), none⟩, ⟨some 2, AOp.move (Opd.tmp 7), none⟩]) (ACode.seq (ACode.region [⟨some 8, AOp.call (Opd.func 16) [Opd.const (V.int (IntKind.u32) 258)], none⟩, ⟨some 9, AOp.bytesStr
    (Opd.tmp 8), none⟩, ⟨some 10, AOp.bin (BinOp.eql) (Opd.tmp 9) (Opd.const (V.str [2, 1, 0, 0])), none⟩, ⟨some 11, AOp.move (Opd.tmp 10), none⟩, ⟨some 12, AOp.move (Opd.tmp 1), some (11, true)⟩,
    ⟨some 13, AOp.bin (BinOp.eql) (Opd.tmp 12) (Opd.const (V.int (IntKind.u32) 513)), some (11, true)⟩, ⟨some 14, AOp.pick (Opd.tmp 11) (Opd.tmp 13) (Opd.const (V.bool false)), none⟩, ⟨some 15,
    AOp.move (Opd.tmp 14), none⟩, ⟨some 16, AOp.move (Opd.tmp 2), some (15, true)⟩, ⟨some 17, AOp.pick (Opd.tmp 15) (Opd.tmp 16) (Opd.const (V.bool false)), none⟩, ⟨some 18, AOp.move (Opd.tmp 17),
    none⟩, ⟨some 19, AOp.buildSlice 5 1 [V.int (IntKind.u8) 0] 1 [(0, 1, Opd.const (V.int (IntKind.u8) 15))], some (18, true)⟩, ⟨some 20, AOp.buildSlice 5 1 [V.int (IntKind.u8) 0] 2 [(0, 1, Opd.const
    (V.int (IntKind.u8) 240)), (1, 1, Opd.const (V.int (IntKind.u8) 1))], some (18, true)⟩, ⟨some 21, AOp.call (Opd.func 26) [Opd.tmp 19, Opd.tmp 20], some (18, true)⟩, ⟨some 22, AOp.bytesStr (Opd.tmp
    21), some (18, true)⟩, ⟨some 23, AOp.bin (BinOp.eql) (Opd.tmp 22) (Opd.const (V.str [255])), some (18, true)⟩, ⟨some 24, AOp.pick (Opd.tmp 18) (Opd.tmp 23) (Opd.const (V.bool false)), none⟩, ⟨some
    0, AOp.move (Opd.tmp 24), none⟩]) (ACode.ret)))⟩
theorem h20 : compFn Try.prog Try.f20 = some c20 := by kernel_rfl
/-- A loop of function 23. -/
def c23_l0 : ACode :=
  ACode.seq (ACode.region [⟨some 15, AOp.bin (BinOp.lss) (Opd.tmp 14) (Opd.tmp 13), none⟩]) (ACode.seq (ACode.cond (Opd.tmp 15) (ACode.skip) (ACode.exit 0)) (ACode.seq (ACode.block 1 (ACode.seq
    (ACode.region [⟨some 16, AOp.move (Opd.tmp 14), none⟩, ⟨some 6, AOp.move (Opd.tmp 16), none⟩]) (ACode.anyRegion [⟨some 17, AOp.move (Opd.tmp 5), none⟩, ⟨some 18, AOp.move (Opd.tmp 0), none⟩, ⟨some
    19, AOp.move (Opd.tmp 6), none⟩, ⟨some 20, AOp.indexAddrS 1 (Opd.tmp 18) (Opd.tmp 19), none⟩, ⟨some 21, AOp.load (Opd.tmp 20), none⟩, ⟨some 22, AOp.move (Opd.tmp 1), none⟩, ⟨some 23, AOp.move
    (Opd.tmp 6), none⟩, ⟨some 24, AOp.indexAddrS 1 (Opd.tmp 22) (Opd.tmp 23), none⟩, ⟨some 25, AOp.load (Opd.tmp 24), none⟩, ⟨some 26, AOp.bin (BinOp.xor) (Opd.tmp 21) (Opd.tmp 25), none⟩, ⟨some 27,
    AOp.bin (BinOp.or) (Opd.tmp 17) (Opd.tmp 26), none⟩, ⟨some 5, AOp.move (Opd.tmp 27), none⟩] []))) (ACode.region [⟨some 28, AOp.bin (BinOp.add) (Opd.tmp 14) (Opd.const (V.int (IntKind.i64) 1)),
    none⟩, ⟨some 14, AOp.move (Opd.tmp 28), none⟩])))
theorem c23_l0_wr : c23_l0.wr = [15, 16, 6, 17, 18, 19, 20, 21, 22, 23, 24, 25, 26, 27, 5, 28, 14] := by kernel_rfl
/-- Function 23: octet.Same. -/
def c23 : AFn :=
  ⟨31, [ARes.tmp 4], ACode.seq (ACode.region [⟨some 4, AOp.move (Opd.const (V.bool false)), none⟩]) (ACode.seq (ACode.seq (ACode.region [⟨some 7, AOp.move (Opd.tmp 0), none⟩, ⟨some 8, AOp.lenL
    (Opd.tmp 7), none⟩, ⟨some 9, AOp.move (Opd.tmp 1), none⟩, ⟨some 10, AOp.lenL (Opd.tmp 9), none⟩, ⟨some 11, AOp.bin (BinOp.neq) (Opd.tmp 8) (Opd.tmp 10), none⟩]) (ACode.cond (Opd.tmp 11) (ACode.seq
    (ACode.region [⟨some 4, AOp.move (Opd.const (V.bool false)), none⟩]) (ACode.ret)) (ACode.skip))) (ACode.seq (ACode.region [⟨some 5, AOp.move (Opd.const (V.int (IntKind.u8) 0)), none⟩]) (ACode.seq
    (ACode.seq (ACode.region [⟨some 12, AOp.move (Opd.tmp 0), none⟩, ⟨some 13, AOp.lenL (Opd.tmp 12), none⟩, ⟨some 14, AOp.move (Opd.const (V.int (IntKind.i64) 0)), none⟩]) (ACode.block 0 (ACode.loop
    c23_l0))) (ACode.seq (ACode.region [⟨some 29, AOp.move (Opd.tmp 5), none⟩, ⟨some 30, AOp.bin (BinOp.eql) (Opd.tmp 29) (Opd.const (V.int (IntKind.u8) 0)), none⟩, ⟨some 4, AOp.move (Opd.tmp 30),
    none⟩]) (ACode.ret)))))⟩
theorem h23 : compFn Try.prog Try.f23 = some c23 := by kernel_rfl
/-- A loop of function 24. -/
def c24_l0 : ACode :=
  ACode.seq (ACode.region [⟨some 10, AOp.bin (BinOp.lss) (Opd.tmp 9) (Opd.tmp 8), none⟩]) (ACode.seq (ACode.cond (Opd.tmp 10) (ACode.skip) (ACode.exit 0)) (ACode.seq (ACode.block 1 (ACode.seq
    (ACode.region [⟨some 11, AOp.indexAddrS 1 (Opd.tmp 7) (Opd.tmp 9), none⟩, ⟨some 12, AOp.load (Opd.tmp 11), none⟩, ⟨some 5, AOp.move (Opd.tmp 12), none⟩]) (ACode.region [⟨some 13, AOp.move (Opd.tmp
    3), none⟩, ⟨some 14, AOp.move (Opd.tmp 5), none⟩, ⟨some 15, AOp.append 5 1 1 (Opd.tmp 13) (Opd.tmp 14), none⟩, ⟨some 3, AOp.move (Opd.tmp 15), none⟩]))) (ACode.region [⟨some 16, AOp.bin
    (BinOp.add) (Opd.tmp 9) (Opd.const (V.int (IntKind.i64) 1)), none⟩, ⟨some 9, AOp.move (Opd.tmp 16), none⟩])))
theorem c24_l0_wr : c24_l0.wr = [10, 11, 12, 5, 13, 14, 15, 3, 16, 9] := by kernel_rfl
/-- Function 24: octet.Join. -/
def c24 : AFn :=
  ⟨18, [ARes.tmp 2], ACode.seq (ACode.region [⟨some 2, AOp.move (Opd.const (V.nilslice)), none⟩]) (ACode.seq (ACode.region [⟨some 6, AOp.buildSlice 5 1 [V.int (IntKind.u8) 0] 0 [], none⟩, ⟨some 3,
    AOp.move (Opd.tmp 6), none⟩]) (ACode.seq (ACode.seq (ACode.region [⟨some 7, AOp.move (Opd.tmp 0), none⟩, ⟨some 8, AOp.lenL (Opd.tmp 7), none⟩, ⟨some 9, AOp.move (Opd.const (V.int (IntKind.i64)
    0)), none⟩]) (ACode.block 0 (ACode.loop c24_l0))) (ACode.seq (ACode.region [⟨some 17, AOp.move (Opd.tmp 3), none⟩, ⟨some 2, AOp.move (Opd.tmp 17), none⟩]) (ACode.ret))))⟩
theorem h24 : compFn Try.prog Try.f24 = some c24 := by kernel_rfl
/-- Function 25: portholehand.Few. -/
def c25 : AFn :=
  ⟨13, [ARes.tmp 4], ACode.seq (ACode.region [⟨some 4, AOp.move (Opd.const (V.nilslice)), none⟩]) (ACode.seq (ACode.region [⟨some 5, AOp.buildSlice 5 1 [V.int (IntKind.u8) 0] 0 [], none⟩, ⟨some 6,
    AOp.move (Opd.tmp 0), none⟩, ⟨some 7, AOp.move (Opd.tmp 0), none⟩, ⟨some 8, AOp.lenL (Opd.tmp 7), none⟩, ⟨some 9, AOp.move (Opd.tmp 1), none⟩, ⟨some 10, AOp.minmax false [Opd.tmp 8, Opd.tmp 9],
    none⟩, ⟨some 11, AOp.sliceSl 1 (Opd.tmp 6) none (some (Opd.tmp 10)) none, none⟩, ⟨some 12, AOp.append 5 1 1 (Opd.tmp 5) (Opd.tmp 11), none⟩, ⟨some 4, AOp.move (Opd.tmp 12), none⟩]) (ACode.ret))⟩
theorem h25 : compFn Try.prog Try.f25 = some c25 := by kernel_rfl
/-- A loop of function 26. -/
def c26_l0 : ACode :=
  ACode.seq (ACode.region [⟨some 16, AOp.bin (BinOp.lss) (Opd.tmp 15) (Opd.tmp 14), none⟩]) (ACode.seq (ACode.cond (Opd.tmp 16) (ACode.skip) (ACode.exit 0)) (ACode.seq (ACode.block 1 (ACode.seq
    (ACode.region [⟨some 17, AOp.move (Opd.tmp 15), none⟩, ⟨some 6, AOp.move (Opd.tmp 17), none⟩]) (ACode.anyRegion [⟨some 18, AOp.move (Opd.tmp 5), none⟩, ⟨some 19, AOp.move (Opd.tmp 6), none⟩, ⟨some
    20, AOp.move (Opd.tmp 0), none⟩, ⟨some 21, AOp.move (Opd.tmp 6), none⟩, ⟨some 22, AOp.indexAddrS 1 (Opd.tmp 20) (Opd.tmp 21), none⟩, ⟨some 23, AOp.load (Opd.tmp 22), none⟩, ⟨some 24, AOp.move
    (Opd.tmp 1), none⟩, ⟨some 25, AOp.move (Opd.tmp 6), none⟩, ⟨some 26, AOp.indexAddrS 1 (Opd.tmp 24) (Opd.tmp 25), none⟩, ⟨some 27, AOp.load (Opd.tmp 26), none⟩, ⟨some 28, AOp.bin (BinOp.xor)
    (Opd.tmp 23) (Opd.tmp 27), none⟩, ⟨some 29, AOp.indexAddrS 1 (Opd.tmp 18) (Opd.tmp 19), none⟩, ⟨none, AOp.store 1 (Opd.tmp 29) (Opd.tmp 28), none⟩] []))) (ACode.region [⟨some 30, AOp.bin
    (BinOp.add) (Opd.tmp 15) (Opd.const (V.int (IntKind.i64) 1)), none⟩, ⟨some 15, AOp.move (Opd.tmp 30), none⟩])))
theorem c26_l0_wr : c26_l0.wr = [16, 17, 6, 18, 19, 20, 21, 22, 23, 24, 25, 26, 27, 28, 29, 30, 15] := by kernel_rfl
/-- Function 26: octet.Xor. -/
def c26 : AFn :=
  ⟨32, [ARes.tmp 4], ACode.seq (ACode.region [⟨some 4, AOp.move (Opd.const (V.nilslice)), none⟩]) (ACode.seq (ACode.region [⟨some 7, AOp.move (Opd.tmp 0), none⟩, ⟨some 8, AOp.lenL (Opd.tmp 7), none⟩,
    ⟨some 9, AOp.move (Opd.tmp 1), none⟩, ⟨some 10, AOp.lenL (Opd.tmp 9), none⟩, ⟨some 11, AOp.minmax false [Opd.tmp 8, Opd.tmp 10], none⟩, ⟨some 12, AOp.makeSlice 5 1 1 [V.int (IntKind.u8) 0]
    (Opd.tmp 11) (Opd.tmp 11), none⟩, ⟨some 5, AOp.move (Opd.tmp 12), none⟩]) (ACode.seq (ACode.seq (ACode.region [⟨some 13, AOp.move (Opd.tmp 5), none⟩, ⟨some 14, AOp.lenL (Opd.tmp 13), none⟩, ⟨some
    15, AOp.move (Opd.const (V.int (IntKind.i64) 0)), none⟩]) (ACode.block 0 (ACode.loop c26_l0))) (ACode.seq (ACode.region [⟨some 31, AOp.move (Opd.tmp 5), none⟩, ⟨some 4, AOp.move (Opd.tmp 31),
    none⟩]) (ACode.ret))))⟩
theorem h26 : compFn Try.prog Try.f26 = some c26 := by kernel_rfl
/-- A loop of function 31. -/
def c31_l0 : ACode :=
  ACode.seq (ACode.region [⟨some 14, AOp.bin (BinOp.lss) (Opd.tmp 13) (Opd.tmp 12), none⟩]) (ACode.seq (ACode.cond (Opd.tmp 14) (ACode.skip) (ACode.exit 0)) (ACode.seq (ACode.block 1 (ACode.seq
    (ACode.region [⟨some 15, AOp.move (Opd.tmp 13), none⟩, ⟨some 7, AOp.move (Opd.tmp 15), none⟩]) (ACode.region [⟨some 16, AOp.move (Opd.tmp 6), none⟩, ⟨some 17, AOp.move (Opd.tmp 0), none⟩, ⟨some
    18, AOp.move (Opd.tmp 7), none⟩, ⟨some 19, AOp.indexAddrS 1 (Opd.tmp 17) (Opd.tmp 18), none⟩, ⟨some 20, AOp.load (Opd.tmp 19), none⟩, ⟨some 21, AOp.conv (IntKind.u64) (Opd.tmp 20), none⟩, ⟨some
    22, AOp.move (Opd.tmp 7), none⟩, ⟨some 23, AOp.bin (BinOp.mul) (Opd.const (V.int (IntKind.i64) 8)) (Opd.tmp 22), none⟩, ⟨some 24, AOp.bin (BinOp.shl) (Opd.tmp 21) (Opd.tmp 23), none⟩, ⟨some 25,
    AOp.bin (BinOp.or) (Opd.tmp 16) (Opd.tmp 24), none⟩, ⟨some 6, AOp.move (Opd.tmp 25), none⟩]))) (ACode.region [⟨some 26, AOp.bin (BinOp.add) (Opd.tmp 13) (Opd.const (V.int (IntKind.i64) 1)), none⟩,
    ⟨some 13, AOp.move (Opd.tmp 26), none⟩])))
theorem c31_l0_wr : c31_l0.wr = [14, 15, 7, 16, 17, 18, 19, 20, 21, 22, 23, 24, 25, 6, 26, 13] := by kernel_rfl
/-- Function 31: octet.get. -/
def c31 : AFn :=
  ⟨28, [ARes.tmp 4, ARes.tmp 5], ACode.seq (ACode.region [⟨some 4, AOp.move (Opd.const (V.int (IntKind.u64) 0)), none⟩, ⟨some 5, AOp.move (Opd.const (V.bool false)), none⟩]) (ACode.seq (ACode.seq
    (ACode.region [⟨some 8, AOp.move (Opd.tmp 0), none⟩, ⟨some 9, AOp.lenL (Opd.tmp 8), none⟩, ⟨some 10, AOp.move (Opd.tmp 1), none⟩, ⟨some 11, AOp.bin (BinOp.lss) (Opd.tmp 9) (Opd.tmp 10), none⟩])
    (ACode.cond (Opd.tmp 11) (ACode.seq (ACode.region [⟨some 4, AOp.move (Opd.const (V.int (IntKind.u64) 0)), none⟩, ⟨some 5, AOp.move (Opd.const (V.bool false)), none⟩]) (ACode.ret)) (ACode.skip)))
    (ACode.seq (ACode.region [⟨some 6, AOp.move (Opd.const (V.int (IntKind.u64) 0)), none⟩]) (ACode.seq (ACode.seq (ACode.region [⟨some 12, AOp.move (Opd.tmp 1), none⟩, ⟨some 13, AOp.move (Opd.const
    (V.int (IntKind.i64) 0)), none⟩]) (ACode.block 0 (ACode.loop c31_l0))) (ACode.seq (ACode.region [⟨some 27, AOp.move (Opd.tmp 6), none⟩, ⟨some 4, AOp.move (Opd.tmp 27), none⟩, ⟨some 5, AOp.move
    (Opd.const (V.bool true)), none⟩]) (ACode.ret)))))⟩
theorem h31 : compFn Try.prog Try.f31 = some c31 := by kernel_rfl
/-- A loop of function 32. -/
def c32_l0 : ACode :=
  ACode.seq (ACode.region [⟨some 12, AOp.bin (BinOp.lss) (Opd.tmp 11) (Opd.tmp 10), none⟩]) (ACode.seq (ACode.cond (Opd.tmp 12) (ACode.skip) (ACode.exit 0)) (ACode.seq (ACode.block 1 (ACode.seq
    (ACode.region [⟨some 13, AOp.move (Opd.tmp 11), none⟩, ⟨some 6, AOp.move (Opd.tmp 13), none⟩]) (ACode.region [⟨some 14, AOp.move (Opd.tmp 5), none⟩, ⟨some 15, AOp.move (Opd.tmp 6), none⟩, ⟨some
    16, AOp.move (Opd.tmp 0), none⟩, ⟨some 17, AOp.move (Opd.tmp 6), none⟩, ⟨some 18, AOp.bin (BinOp.mul) (Opd.const (V.int (IntKind.i64) 8)) (Opd.tmp 17), none⟩, ⟨some 19, AOp.bin (BinOp.shr)
    (Opd.tmp 16) (Opd.tmp 18), none⟩, ⟨some 20, AOp.conv (IntKind.u8) (Opd.tmp 19), none⟩, ⟨some 21, AOp.indexAddrS 1 (Opd.tmp 14) (Opd.tmp 15), none⟩, ⟨none, AOp.store 1 (Opd.tmp 21) (Opd.tmp 20),
    none⟩]))) (ACode.region [⟨some 22, AOp.bin (BinOp.add) (Opd.tmp 11) (Opd.const (V.int (IntKind.i64) 1)), none⟩, ⟨some 11, AOp.move (Opd.tmp 22), none⟩])))
theorem c32_l0_wr : c32_l0.wr = [12, 13, 6, 14, 15, 16, 17, 18, 19, 20, 21, 22, 11] := by kernel_rfl
/-- Function 32: octet.put. -/
def c32 : AFn :=
  ⟨24, [ARes.tmp 4], ACode.seq (ACode.region [⟨some 4, AOp.move (Opd.const (V.nilslice)), none⟩]) (ACode.seq (ACode.region [⟨some 7, AOp.move (Opd.tmp 1), none⟩, ⟨some 8, AOp.makeSlice 5 1 1 [V.int
    (IntKind.u8) 0] (Opd.tmp 7) (Opd.tmp 7), none⟩, ⟨some 5, AOp.move (Opd.tmp 8), none⟩]) (ACode.seq (ACode.seq (ACode.region [⟨some 9, AOp.move (Opd.tmp 5), none⟩, ⟨some 10, AOp.lenL (Opd.tmp 9),
    none⟩, ⟨some 11, AOp.move (Opd.const (V.int (IntKind.i64) 0)), none⟩]) (ACode.block 0 (ACode.loop c32_l0))) (ACode.seq (ACode.region [⟨some 23, AOp.move (Opd.tmp 5), none⟩, ⟨some 4, AOp.move
    (Opd.tmp 23), none⟩]) (ACode.ret))))⟩
theorem h32 : compFn Try.prog Try.f32 = some c32 := by kernel_rfl
def tab (f : Nat) : Option AFn :=
  if f = 7 then some c7 else if f = 15 then some c15 else if f = 16 then some c16 else if f = 17 then some c17 else if f = 18 then some c18 else if f = 20 then some c20 else if f = 23 then some c23 else if f = 24 then some c24 else if f = 25 then some c25 else if f = 26 then some c26 else if f = 31 then some c31 else if f = 32 then some c32 else none
theorem tab_holds : Holds Try.prog tab := by
  intro f fn hf
  unfold tab at hf
  by_cases e7 : f = 7
  · rw [if_pos e7] at hf; subst e7; cases hf; exact ⟨_, Try.func7, h7⟩
  rw [if_neg e7] at hf
  by_cases e15 : f = 15
  · rw [if_pos e15] at hf; subst e15; cases hf; exact ⟨_, Try.func15, h15⟩
  rw [if_neg e15] at hf
  by_cases e16 : f = 16
  · rw [if_pos e16] at hf; subst e16; cases hf; exact ⟨_, Try.func16, h16⟩
  rw [if_neg e16] at hf
  by_cases e17 : f = 17
  · rw [if_pos e17] at hf; subst e17; cases hf; exact ⟨_, Try.func17, h17⟩
  rw [if_neg e17] at hf
  by_cases e18 : f = 18
  · rw [if_pos e18] at hf; subst e18; cases hf; exact ⟨_, Try.func18, h18⟩
  rw [if_neg e18] at hf
  by_cases e20 : f = 20
  · rw [if_pos e20] at hf; subst e20; cases hf; exact ⟨_, Try.func20, h20⟩
  rw [if_neg e20] at hf
  by_cases e23 : f = 23
  · rw [if_pos e23] at hf; subst e23; cases hf; exact ⟨_, Try.func23, h23⟩
  rw [if_neg e23] at hf
  by_cases e24 : f = 24
  · rw [if_pos e24] at hf; subst e24; cases hf; exact ⟨_, Try.func24, h24⟩
  rw [if_neg e24] at hf
  by_cases e25 : f = 25
  · rw [if_pos e25] at hf; subst e25; cases hf; exact ⟨_, Try.func25, h25⟩
  rw [if_neg e25] at hf
  by_cases e26 : f = 26
  · rw [if_pos e26] at hf; subst e26; cases hf; exact ⟨_, Try.func26, h26⟩
  rw [if_neg e26] at hf
  by_cases e31 : f = 31
  · rw [if_pos e31] at hf; subst e31; cases hf; exact ⟨_, Try.func31, h31⟩
  rw [if_neg e31] at hf
  by_cases e32 : f = 32
  · rw [if_pos e32] at hf; subst e32; cases hf; exact ⟨_, Try.func32, h32⟩
  rw [if_neg e32] at hf
  cases hf
end Go.Proofs.Ytaaejidllnkpbaa.OctetJoins
