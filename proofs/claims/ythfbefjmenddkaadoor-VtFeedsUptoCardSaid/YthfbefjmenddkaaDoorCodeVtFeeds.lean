/- The functions that the law VtFeeds reaches, as the abstract machine has them. No condition. -/
import Derived.Test.YthfbefjmenddkaaDoorA45
import Derived.KernelRfl
namespace Go.Proofs.YthfbefjmenddkaaDoor.VtFeeds
open Go Go.Proofs.YthfbefjmenddkaaDoorA
/-- A loop of function 4. -/
def c4_l0 : ACode :=
  ACode.seq (ACode.seq (ACode.region [⟨some 40, AOp.move (Opd.tmp 15), none⟩, ⟨some 41, AOp.move (Opd.tmp 12), none⟩, ⟨some 42, AOp.lenL (Opd.tmp 41), none⟩, ⟨some 43, AOp.bin (BinOp.lss) (Opd.tmp 40)
    (Opd.tmp 42), none⟩]) (ACode.cond (Opd.tmp 43) (ACode.skip) (ACode.exit 1))) (ACode.seq (ACode.block 2 (ACode.seq (ACode.anyRegion [⟨some 46, AOp.move (Opd.tmp 13), none⟩, ⟨some 47, AOp.move
    (Opd.tmp 12), none⟩, ⟨some 48, AOp.move (Opd.tmp 15), none⟩, ⟨some 49, AOp.indexAddrS 1 (Opd.tmp 47) (Opd.tmp 48), none⟩, ⟨some 50, AOp.load (Opd.tmp 49), none⟩, ⟨some 51, AOp.call (Opd.func 12)
    [Opd.tmp 46, Opd.tmp 50], none⟩, ⟨some 52, AOp.move (Opd.tmp 14), none⟩, ⟨some 53, AOp.move (Opd.tmp 12), none⟩, ⟨some 54, AOp.move (Opd.tmp 15), none⟩, ⟨some 55, AOp.indexAddrS 1 (Opd.tmp 53)
    (Opd.tmp 54), none⟩, ⟨some 56, AOp.load (Opd.tmp 55), none⟩, ⟨some 57, AOp.call (Opd.func 18) [Opd.tmp 52, Opd.tmp 56], none⟩, ⟨some 58, AOp.call (Opd.func 17) [Opd.tmp 51, Opd.tmp 57], none⟩,
    ⟨some 59, AOp.un (UnOp.not) (Opd.tmp 58), none⟩] [(10, 0)]) (ACode.cond (Opd.tmp 59) (ACode.seq (ACode.region [⟨some 10, AOp.move (Opd.const (V.bool false)), none⟩]) (ACode.ret)) (ACode.skip))))
    (ACode.region [⟨some 44, AOp.move (Opd.tmp 15), none⟩, ⟨some 45, AOp.bin (BinOp.add) (Opd.tmp 44) (Opd.const (V.int (IntKind.i64) 1)), none⟩, ⟨some 15, AOp.move (Opd.tmp 45), none⟩]))
theorem c4_l0_wr : c4_l0.wr = [40, 41, 42, 43, 46, 47, 48, 49, 50, 51, 52, 53, 54, 55, 56, 57, 58, 59, 10, 44, 45, 15] := by kernel_rfl
/-- What follows in function 4. -/
def c4_s3 : ACode :=
  ACode.seq (ACode.region [⟨some 28, AOp.move (Opd.tmp 11), none⟩, ⟨some 29, AOp.move (Opd.tmp 4), none⟩, ⟨some 30, AOp.call (Opd.func 16) [Opd.tmp 28, Opd.tmp 29], none⟩, ⟨some 12, AOp.move (Opd.tmp
    30), none⟩]) (ACode.seq (ACode.region [⟨some 31, AOp.call (Opd.func 10) [], none⟩, ⟨some 13, AOp.move (Opd.tmp 31), none⟩]) (ACode.seq (ACode.region [⟨some 32, AOp.build [V.nilslice, V.int
    (IntKind.i64) 0, V.nilslice, V.bool false, V.bool false, V.bool false] [], none⟩, ⟨some 33, AOp.boxv 40 1 (Opd.tmp 32), none⟩, ⟨some 14, AOp.move (Opd.tmp 33), none⟩]) (ACode.seq (ACode.seq
    (ACode.region [⟨some 34, AOp.call (Opd.func 11) [], none⟩, ⟨some 35, AOp.un (UnOp.not) (Opd.tmp 34), none⟩, ⟨some 36, AOp.move (Opd.tmp 35), none⟩, ⟨some 37, AOp.move (Opd.tmp 13), some (36,
    false)⟩, ⟨some 38, AOp.eq false (EqKind.ptr) (Opd.tmp 37) (Opd.const (V.nilptr)), some (36, false)⟩, ⟨some 39, AOp.pick (Opd.tmp 36) (Opd.const (V.bool true)) (Opd.tmp 38), none⟩]) (ACode.cond
    (Opd.tmp 39) (ACode.seq (ACode.region [⟨some 10, AOp.move (Opd.const (V.bool false)), none⟩]) (ACode.ret)) (ACode.skip))) (ACode.seq (ACode.seq (ACode.region [⟨some 15, AOp.move (Opd.const (V.int
    (IntKind.i64) 0)), none⟩]) (ACode.block 1 (ACode.loop c4_l0))) (ACode.seq (ACode.region [⟨some 10, AOp.move (Opd.const (V.bool true)), none⟩]) (ACode.ret))))))
/-- Function 4: portholelaw20.VtFeeds. -/
def c4 : AFn :=
  ⟨60, [ARes.tmp 10], ACode.seq (ACode.region [⟨some 10, AOp.move (Opd.const (V.bool false)), none⟩]) (ACode.seq (ACode.region [⟨some 16, AOp.move (Opd.tmp 1), none⟩, ⟨some 17, AOp.bytesStr (Opd.tmp
    16), none⟩, ⟨some 11, AOp.move (Opd.tmp 17), none⟩]) (ACode.seq (ACode.seq (ACode.region [⟨some 18, AOp.move (Opd.tmp 3), none⟩, ⟨some 19, AOp.call (Opd.func 13) [Opd.tmp 18, Opd.const (V.int
    (IntKind.i64) 3)], none⟩]) (ACode.block 0 (ACode.seq (ACode.region [⟨some 21, AOp.bin (BinOp.eql) (Opd.tmp 19) (Opd.const (V.int (IntKind.i64) 0)), none⟩, ⟨some 20, AOp.move (Opd.tmp 21), none⟩])
    (ACode.cond (Opd.tmp 20) (ACode.region [⟨some 22, AOp.move (Opd.tmp 0), none⟩, ⟨some 23, AOp.call (Opd.func 14) [Opd.tmp 22], none⟩, ⟨some 11, AOp.move (Opd.tmp 23), none⟩]) (ACode.seq
    (ACode.region [⟨some 25, AOp.bin (BinOp.eql) (Opd.tmp 19) (Opd.const (V.int (IntKind.i64) 1)), none⟩, ⟨some 24, AOp.move (Opd.tmp 25), none⟩]) (ACode.cond (Opd.tmp 24) (ACode.region [⟨some 26,
    AOp.move (Opd.tmp 2), none⟩, ⟨some 27, AOp.call (Opd.func 15) [Opd.tmp 26, Opd.const (V.int (IntKind.i64) 9)], none⟩, ⟨some 11, AOp.move (Opd.tmp 27), none⟩]) (ACode.skip))))))) c4_s3))⟩
theorem h4 : compFn Tryd.prog Tryd.f4 = some c4 := by kernel_rfl
/-- Function 10: vt.New. -/
def c10 : AFn :=
  ⟨4, [ARes.tmp 0], ACode.seq (ACode.region [⟨some 0, AOp.move (Opd.const (V.nilptr)), none⟩]) (ACode.seq (ACode.region [⟨some 1, AOp.call (Opd.func 24) [], none⟩, ⟨some 2, AOp.build [V.nilptr, V.int
    (IntKind.i64) 0, V.bool false, V.bool false, V.bool false, V.bool false, V.nilslice] [(0, 1, Opd.tmp 1)], none⟩, ⟨some 3, AOp.boxv 60 1 (Opd.tmp 2), none⟩, ⟨some 0, AOp.move (Opd.tmp 3), none⟩])
    (ACode.ret))⟩
theorem h10 : compFn Tryd.prog Tryd.f10 = some c10 := by kernel_rfl
/-- Function 11: portholelaw20.known. -/
def c11 : AFn :=
  ⟨91, [ARes.tmp 0], ACode.seq (ACode.region [⟨some 0, AOp.move (Opd.const (V.bool false)), none⟩]) (ACode.seq (ACode.region [⟨some 4, AOp.call (Opd.func 10) [], none⟩, ⟨some 1, AOp.move (Opd.tmp 4),
    none⟩]) (ACode.seq (ACode.seq (ACode.region [⟨some 5, AOp.move (Opd.tmp 1), none⟩, ⟨some 6, AOp.eq false (EqKind.ptr) (Opd.tmp 5) (Opd.const (V.nilptr)), none⟩]) (ACode.cond (Opd.tmp 6) (ACode.seq
    (ACode.region [⟨some 0, AOp.move (Opd.const (V.bool false)), none⟩]) (ACode.ret)) (ACode.skip))) (ACode.seq (ACode.region [⟨some 7, AOp.move (Opd.tmp 1), none⟩, ⟨some 8, AOp.buildSlice 5 1 [V.int
    (IntKind.u8) 0] 6 [(0, 1, Opd.const (V.int (IntKind.u8) 27)), (1, 1, Opd.const (V.int (IntKind.u8) 91)), (2, 1, Opd.const (V.int (IntKind.u8) 51)), (3, 1, Opd.const (V.int (IntKind.u8) 59)), (4,
    1, Opd.const (V.int (IntKind.u8) 52)), (5, 1, Opd.const (V.int (IntKind.u8) 72))], none⟩, ⟨some 9, AOp.convSame (Opd.tmp 8), none⟩, ⟨some 10, AOp.call (Opd.func 12) [Opd.tmp 7, Opd.tmp 9], none⟩,
    ⟨some 2, AOp.move (Opd.tmp 10), none⟩]) (ACode.seq (ACode.region [⟨some 11, AOp.move (Opd.tmp 1), none⟩, ⟨some 12, AOp.buildSlice 5 1 [V.int (IntKind.u8) 0] 7 [(0, 1, Opd.const (V.int (IntKind.u8)
    27)), (1, 1, Opd.const (V.int (IntKind.u8) 93)), (2, 1, Opd.const (V.int (IntKind.u8) 48)), (3, 1, Opd.const (V.int (IntKind.u8) 59)), (4, 1, Opd.const (V.int (IntKind.u8) 120)), (5, 1, Opd.const
    (V.int (IntKind.u8) 7)), (6, 1, Opd.const (V.int (IntKind.u8) 97))], none⟩, ⟨some 13, AOp.convSame (Opd.tmp 12), none⟩, ⟨some 14, AOp.call (Opd.func 12) [Opd.tmp 11, Opd.tmp 13], none⟩, ⟨some 3,
    AOp.move (Opd.tmp 14), none⟩]) (ACode.seq (ACode.region [⟨some 15, AOp.move (Opd.tmp 2), none⟩, ⟨some 16, AOp.lenL (Opd.tmp 15), none⟩, ⟨some 17, AOp.bin (BinOp.eql) (Opd.tmp 16) (Opd.const (V.int
    (IntKind.i64) 1)), none⟩, ⟨some 18, AOp.move (Opd.tmp 17), none⟩, ⟨some 19, AOp.move (Opd.tmp 2), some (18, true)⟩, ⟨some 20, AOp.indexAddrS 4 (Opd.tmp 19) (Opd.const (V.int (IntKind.i64) 0)),
    some (18, true)⟩, ⟨some 21, AOp.fieldAddr 0 (Opd.tmp 20), some (18, true)⟩, ⟨some 22, AOp.load (Opd.tmp 21), some (18, true)⟩, ⟨some 23, AOp.bin (BinOp.eql) (Opd.tmp 22) (Opd.const (V.int
    (IntKind.i64) 4)), some (18, true)⟩, ⟨some 24, AOp.pick (Opd.tmp 18) (Opd.tmp 23) (Opd.const (V.bool false)), none⟩, ⟨some 25, AOp.move (Opd.tmp 24), none⟩, ⟨some 26, AOp.move (Opd.tmp 2), some
    (25, true)⟩, ⟨some 27, AOp.indexAddrS 4 (Opd.tmp 26) (Opd.const (V.int (IntKind.i64) 0)), some (25, true)⟩, ⟨some 28, AOp.fieldAddr 1 (Opd.tmp 27), some (25, true)⟩, ⟨some 29, AOp.load (Opd.tmp
    28), some (25, true)⟩, ⟨some 30, AOp.bin (BinOp.eql) (Opd.tmp 29) (Opd.const (V.int (IntKind.i32) 72)), some (25, true)⟩, ⟨some 31, AOp.pick (Opd.tmp 25) (Opd.tmp 30) (Opd.const (V.bool false)),
    none⟩, ⟨some 32, AOp.move (Opd.tmp 31), none⟩, ⟨some 33, AOp.move (Opd.tmp 2), some (32, true)⟩, ⟨some 34, AOp.indexAddrS 4 (Opd.tmp 33) (Opd.const (V.int (IntKind.i64) 0)), some (32, true)⟩,
    ⟨some 35, AOp.fieldAddr 3 (Opd.tmp 34), some (32, true)⟩, ⟨some 36, AOp.load (Opd.tmp 35), some (32, true)⟩, ⟨some 37, AOp.lenL (Opd.tmp 36), some (32, true)⟩, ⟨some 38, AOp.bin (BinOp.eql)
    (Opd.tmp 37) (Opd.const (V.int (IntKind.i64) 2)), some (32, true)⟩, ⟨some 39, AOp.pick (Opd.tmp 32) (Opd.tmp 38) (Opd.const (V.bool false)), none⟩, ⟨some 40, AOp.move (Opd.tmp 39), none⟩, ⟨some
    41, AOp.move (Opd.tmp 2), some (40, true)⟩, ⟨some 42, AOp.indexAddrS 4 (Opd.tmp 41) (Opd.const (V.int (IntKind.i64) 0)), some (40, true)⟩, ⟨some 43, AOp.fieldAddr 3 (Opd.tmp 42), some (40, true)⟩,
    ⟨some 44, AOp.load (Opd.tmp 43), some (40, true)⟩, ⟨some 45, AOp.indexAddrS 1 (Opd.tmp 44) (Opd.const (V.int (IntKind.i64) 0)), some (40, true)⟩, ⟨some 46, AOp.load (Opd.tmp 45), some (40, true)⟩,
    ⟨some 47, AOp.bin (BinOp.eql) (Opd.tmp 46) (Opd.const (V.int (IntKind.i64) 3)), some (40, true)⟩, ⟨some 48, AOp.pick (Opd.tmp 40) (Opd.tmp 47) (Opd.const (V.bool false)), none⟩, ⟨some 49, AOp.move
    (Opd.tmp 48), none⟩, ⟨some 50, AOp.move (Opd.tmp 2), some (49, true)⟩, ⟨some 51, AOp.indexAddrS 4 (Opd.tmp 50) (Opd.const (V.int (IntKind.i64) 0)), some (49, true)⟩, ⟨some 52, AOp.fieldAddr 3
    (Opd.tmp 51), some (49, true)⟩, ⟨some 53, AOp.load (Opd.tmp 52), some (49, true)⟩, ⟨some 54, AOp.indexAddrS 1 (Opd.tmp 53) (Opd.const (V.int (IntKind.i64) 1)), some (49, true)⟩, ⟨some 55, AOp.load
    (Opd.tmp 54), some (49, true)⟩, ⟨some 56, AOp.bin (BinOp.eql) (Opd.tmp 55) (Opd.const (V.int (IntKind.i64) 4)), some (49, true)⟩, ⟨some 57, AOp.pick (Opd.tmp 49) (Opd.tmp 56) (Opd.const (V.bool
    false)), none⟩, ⟨some 58, AOp.move (Opd.tmp 57), none⟩, ⟨some 59, AOp.move (Opd.tmp 3), some (58, true)⟩, ⟨some 60, AOp.lenL (Opd.tmp 59), some (58, true)⟩, ⟨some 61, AOp.bin (BinOp.eql) (Opd.tmp
    60) (Opd.const (V.int (IntKind.i64) 1)), some (58, true)⟩, ⟨some 62, AOp.pick (Opd.tmp 58) (Opd.tmp 61) (Opd.const (V.bool false)), none⟩, ⟨some 63, AOp.move (Opd.tmp 62), none⟩, ⟨some 64,
    AOp.move (Opd.tmp 3), some (63, true)⟩, ⟨some 65, AOp.indexAddrS 4 (Opd.tmp 64) (Opd.const (V.int (IntKind.i64) 0)), some (63, true)⟩, ⟨some 66, AOp.fieldAddr 0 (Opd.tmp 65), some (63, true)⟩,
    ⟨some 67, AOp.load (Opd.tmp 66), some (63, true)⟩, ⟨some 68, AOp.bin (BinOp.eql) (Opd.tmp 67) (Opd.const (V.int (IntKind.i64) 1)), some (63, true)⟩, ⟨some 69, AOp.pick (Opd.tmp 63) (Opd.tmp 68)
    (Opd.const (V.bool false)), none⟩, ⟨some 70, AOp.move (Opd.tmp 69), none⟩, ⟨some 71, AOp.move (Opd.tmp 3), some (70, true)⟩, ⟨some 72, AOp.indexAddrS 4 (Opd.tmp 71) (Opd.const (V.int (IntKind.i64)
    0)), some (70, true)⟩, ⟨some 73, AOp.fieldAddr 1 (Opd.tmp 72), some (70, true)⟩, ⟨some 74, AOp.load (Opd.tmp 73), some (70, true)⟩, ⟨some 75, AOp.bin (BinOp.eql) (Opd.tmp 74) (Opd.const (V.int
    (IntKind.i32) 97)), some (70, true)⟩, ⟨some 76, AOp.pick (Opd.tmp 70) (Opd.tmp 75) (Opd.const (V.bool false)), none⟩, ⟨some 77, AOp.move (Opd.tmp 76), none⟩, ⟨some 78, AOp.move (Opd.tmp 2), some
    (77, true)⟩, ⟨some 79, AOp.indexAddrS 4 (Opd.tmp 78) (Opd.const (V.int (IntKind.i64) 0)), some (77, true)⟩, ⟨some 80, AOp.loadn 4 (Opd.tmp 79), some (77, true)⟩, ⟨some 81, AOp.call (Opd.func 21)
    [Opd.tmp 80, Opd.const (V.int (IntKind.i64) 1), Opd.const (V.int (IntKind.i64) 9)], some (77, true)⟩, ⟨some 82, AOp.bin (BinOp.eql) (Opd.tmp 81) (Opd.const (V.int (IntKind.i64) 4)), some (77,
    true)⟩, ⟨some 83, AOp.pick (Opd.tmp 77) (Opd.tmp 82) (Opd.const (V.bool false)), none⟩, ⟨some 84, AOp.move (Opd.tmp 83), none⟩, ⟨some 85, AOp.move (Opd.tmp 2), some (84, true)⟩, ⟨some 86,
    AOp.indexAddrS 4 (Opd.tmp 85) (Opd.const (V.int (IntKind.i64) 0)), some (84, true)⟩, ⟨some 87, AOp.loadn 4 (Opd.tmp 86), some (84, true)⟩, ⟨some 88, AOp.call (Opd.func 21) [Opd.tmp 87, Opd.const
    (V.int (IntKind.i64) 2), Opd.const (V.int (IntKind.i64) 9)], some (84, true)⟩, ⟨some 89, AOp.bin (BinOp.eql) (Opd.tmp 88) (Opd.const (V.int (IntKind.i64) 9)), some (84, true)⟩, ⟨some 90, AOp.pick
    (Opd.tmp 84) (Opd.tmp 89) (Opd.const (V.bool false)), none⟩, ⟨some 0, AOp.move (Opd.tmp 90), none⟩]) (ACode.ret))))))⟩
theorem h11 : compFn Tryd.prog Tryd.f11 = some c11 := by kernel_rfl
/-- A loop of function 12. -/
def c12_l0 : ACode :=
  ACode.seq (ACode.region [⟨some 18, AOp.bin (BinOp.lss) (Opd.tmp 17) (Opd.tmp 16), none⟩]) (ACode.seq (ACode.cond (Opd.tmp 18) (ACode.skip) (ACode.exit 0)) (ACode.seq (ACode.block 1 (ACode.seq
    (ACode.region [⟨some 19, AOp.indexAddrS 1 (Opd.tmp 15) (Opd.tmp 17), none⟩, ⟨some 20, AOp.load (Opd.tmp 19), none⟩, ⟨some 7, AOp.move (Opd.tmp 20), none⟩]) (ACode.seq (ACode.region [⟨some 22,
    AOp.move (Opd.tmp 0), none⟩, ⟨some 23, AOp.move (Opd.tmp 7), none⟩, ⟨some 24, AOp.call (Opd.func 19) [Opd.tmp 22, Opd.tmp 23], none⟩, ⟨some 21, AOp.move (Opd.tmp 24), none⟩, ⟨some 25, AOp.extract
    (Opd.tmp 21) 0, none⟩, ⟨some 26, AOp.extract (Opd.tmp 21) 1, none⟩, ⟨some 8, AOp.box 30 1 [V.int (IntKind.i64) 0, V.int (IntKind.i32) 0, V.bool false, V.nilslice], none⟩, ⟨none, AOp.store 4
    (Opd.tmp 8) (Opd.tmp 25), none⟩, ⟨some 9, AOp.move (Opd.tmp 26), none⟩]) (ACode.seq (ACode.region [⟨some 27, AOp.move (Opd.tmp 9), none⟩]) (ACode.cond (Opd.tmp 27) (ACode.region [⟨some 28,
    AOp.move (Opd.tmp 5), none⟩, ⟨some 29, AOp.loadn 4 (Opd.tmp 8), none⟩, ⟨some 30, AOp.buildSlice 30 4 [V.int (IntKind.i64) 0, V.int (IntKind.i32) 0, V.bool false, V.nilslice] 1 [(0, 4, Opd.tmp
    29)], none⟩, ⟨some 31, AOp.append 30 4 40 (Opd.tmp 28) (Opd.tmp 30), none⟩, ⟨some 5, AOp.move (Opd.tmp 31), none⟩]) (ACode.skip)))))) (ACode.region [⟨some 32, AOp.bin (BinOp.add) (Opd.tmp 17)
    (Opd.const (V.int (IntKind.i64) 1)), none⟩, ⟨some 17, AOp.move (Opd.tmp 32), none⟩])))
theorem c12_l0_wr : c12_l0.wr = [18, 19, 20, 7, 22, 23, 24, 21, 25, 26, 8, 9, 27, 28, 29, 30, 31, 5, 32, 17] := by kernel_rfl
/-- Function 12: vt.Parser).Feed. -/
def c12 : AFn :=
  ⟨34, [ARes.tmp 4], ACode.seq (ACode.region [⟨some 4, AOp.move (Opd.const (V.nilslice)), none⟩]) (ACode.seq (ACode.region [⟨some 5, AOp.move (Opd.const (V.nilslice)), none⟩]) (ACode.seq (ACode.seq
    (ACode.region [⟨some 10, AOp.move (Opd.tmp 0), none⟩, ⟨some 11, AOp.nilCheck (Opd.tmp 10), none⟩, ⟨some 12, AOp.fieldAddr 0 (Opd.tmp 11), none⟩, ⟨some 13, AOp.load (Opd.tmp 12), none⟩, ⟨some 14,
    AOp.move (Opd.tmp 1), none⟩, ⟨some 15, AOp.call (Opd.func 25) [Opd.tmp 13, Opd.tmp 14], none⟩, ⟨some 16, AOp.lenL (Opd.tmp 15), none⟩, ⟨some 17, AOp.move (Opd.const (V.int (IntKind.i64) 0)),
    none⟩]) (ACode.block 0 (ACode.loop c12_l0))) (ACode.seq (ACode.region [⟨some 33, AOp.move (Opd.tmp 5), none⟩, ⟨some 4, AOp.move (Opd.tmp 33), none⟩]) (ACode.ret))))⟩
theorem h12 : compFn Tryd.prog Tryd.f12 = some c12 := by kernel_rfl
/-- Function 13: portholehand.Pick. -/
def c13 : AFn :=
  ⟨14, [ARes.tmp 4], ACode.seq (ACode.region [⟨some 4, AOp.move (Opd.const (V.int (IntKind.i64) 0)), none⟩]) (ACode.seq (ACode.region [⟨some 5, AOp.move (Opd.tmp 0), none⟩, ⟨some 6, AOp.move (Opd.tmp
    1), none⟩, ⟨some 7, AOp.bin (BinOp.rem) (Opd.tmp 5) (Opd.tmp 6), none⟩, ⟨some 0, AOp.move (Opd.tmp 7), none⟩]) (ACode.seq (ACode.seq (ACode.region [⟨some 8, AOp.move (Opd.tmp 0), none⟩, ⟨some 9,
    AOp.bin (BinOp.lss) (Opd.tmp 8) (Opd.const (V.int (IntKind.i64) 0)), none⟩]) (ACode.cond (Opd.tmp 9) (ACode.region [⟨some 10, AOp.move (Opd.tmp 0), none⟩, ⟨some 11, AOp.move (Opd.tmp 1), none⟩,
    ⟨some 12, AOp.bin (BinOp.add) (Opd.tmp 10) (Opd.tmp 11), none⟩, ⟨some 0, AOp.move (Opd.tmp 12), none⟩]) (ACode.skip))) (ACode.seq (ACode.region [⟨some 13, AOp.move (Opd.tmp 0), none⟩, ⟨some 4,
    AOp.move (Opd.tmp 13), none⟩]) (ACode.ret))))⟩
theorem h13 : compFn Tryd.prog Tryd.f13 = some c13 := by kernel_rfl
/-- A loop of function 14. -/
def c14_l0 : ACode :=
  ACode.seq (ACode.seq (ACode.region [⟨some 5, AOp.move (Opd.tmp 4), none⟩, ⟨some 6, AOp.move (Opd.tmp 0), none⟩, ⟨some 7, AOp.lenL (Opd.tmp 6), none⟩, ⟨some 8, AOp.bin (BinOp.lss) (Opd.tmp 5)
    (Opd.tmp 7), none⟩, ⟨some 9, AOp.move (Opd.tmp 8), none⟩, ⟨some 10, AOp.move (Opd.tmp 4), some (9, true)⟩, ⟨some 11, AOp.bin (BinOp.lss) (Opd.tmp 10) (Opd.const (V.int (IntKind.i64) 80)), some (9,
    true)⟩, ⟨some 12, AOp.pick (Opd.tmp 9) (Opd.tmp 11) (Opd.const (V.bool false)), none⟩]) (ACode.cond (Opd.tmp 12) (ACode.skip) (ACode.exit 0))) (ACode.seq (ACode.block 1 (ACode.region [⟨some 15,
    AOp.move (Opd.tmp 3), none⟩, ⟨some 16, AOp.build [V.str [], V.str [], V.str [], V.str [], V.str [], V.str [], V.str [], V.str [], V.str [], V.str [], V.str [], V.str [], V.str [], V.str [], V.str
    [], V.str [], V.str [], V.str [], V.str [], V.str [], V.str [], V.str [], V.str [], V.str [], V.str [], V.str [], V.str [], V.str []] [(0, 1, Opd.const (V.str [27])), (1, 1, Opd.const (V.str
    [91])), (2, 1, Opd.const (V.str [93])), (3, 1, Opd.const (V.str [80])), (4, 1, Opd.const (V.str [92])), (5, 1, Opd.const (V.str [7])), (6, 1, Opd.const (V.str [24])), (7, 1, Opd.const (V.str
    [26])), (8, 1, Opd.const (V.str [63])), (9, 1, Opd.const (V.str [59])), (10, 1, Opd.const (V.str [48])), (11, 1, Opd.const (V.str [49])), (12, 1, Opd.const (V.str [57])), (13, 1, Opd.const (V.str
    [50, 53])), (14, 1, Opd.const (V.str [109])), (15, 1, Opd.const (V.str [72])), (16, 1, Opd.const (V.str [104])), (17, 1, Opd.const (V.str [40])), (18, 1, Opd.const (V.str [35])), (19, 1, Opd.const
    (V.str [32])), (20, 1, Opd.const (V.str [33])), (21, 1, Opd.const (V.str [58])), (22, 1, Opd.const (V.str [127])), (23, 1, Opd.const (V.str [10])), (24, 1, Opd.const (V.str [1])), (25, 1,
    Opd.const (V.str [226, 130, 172])), (26, 1, Opd.const (V.str [55])), (27, 1, Opd.const (V.str [97]))], none⟩, ⟨some 17, AOp.move (Opd.tmp 0), none⟩, ⟨some 18, AOp.move (Opd.tmp 4), none⟩, ⟨some
    19, AOp.indexAddrS 1 (Opd.tmp 17) (Opd.tmp 18), none⟩, ⟨some 20, AOp.load (Opd.tmp 19), none⟩, ⟨some 21, AOp.call (Opd.func 13) [Opd.tmp 20, Opd.const (V.int (IntKind.i64) 28)], none⟩, ⟨some 22,
    AOp.indexA 28 1 false (Opd.tmp 16) (Opd.tmp 21), none⟩, ⟨some 23, AOp.bin (BinOp.add) (Opd.tmp 15) (Opd.tmp 22), none⟩, ⟨some 3, AOp.move (Opd.tmp 23), none⟩])) (ACode.region [⟨some 13, AOp.move
    (Opd.tmp 4), none⟩, ⟨some 14, AOp.bin (BinOp.add) (Opd.tmp 13) (Opd.const (V.int (IntKind.i64) 1)), none⟩, ⟨some 4, AOp.move (Opd.tmp 14), none⟩]))
theorem c14_l0_wr : c14_l0.wr = [5, 6, 7, 8, 9, 10, 11, 12, 15, 16, 17, 18, 19, 20, 21, 22, 23, 3, 13, 14, 4] := by kernel_rfl
/-- Function 14: portholelaw20.text. -/
def c14 : AFn :=
  ⟨25, [ARes.tmp 2], ACode.seq (ACode.region [⟨some 2, AOp.move (Opd.const (V.str [])), none⟩]) (ACode.seq (ACode.region [⟨some 3, AOp.move (Opd.const (V.str [])), none⟩]) (ACode.seq (ACode.seq
    (ACode.region [⟨some 4, AOp.move (Opd.const (V.int (IntKind.i64) 0)), none⟩]) (ACode.block 0 (ACode.loop c14_l0))) (ACode.seq (ACode.region [⟨some 24, AOp.move (Opd.tmp 3), none⟩, ⟨some 2,
    AOp.move (Opd.tmp 24), none⟩]) (ACode.ret))))⟩
theorem h14 : compFn Tryd.prog Tryd.f14 = some c14 := by kernel_rfl
/-- A loop of function 15. -/
def c15_l0 : ACode :=
  ACode.seq (ACode.seq (ACode.region [⟨some 9, AOp.move (Opd.tmp 6), none⟩, ⟨some 10, AOp.move (Opd.tmp 0), none⟩, ⟨some 11, AOp.lenL (Opd.tmp 10), none⟩, ⟨some 12, AOp.bin (BinOp.lss) (Opd.tmp 9)
    (Opd.tmp 11), none⟩, ⟨some 13, AOp.move (Opd.tmp 12), none⟩, ⟨some 14, AOp.move (Opd.tmp 6), some (13, true)⟩, ⟨some 15, AOp.bin (BinOp.lss) (Opd.tmp 14) (Opd.const (V.int (IntKind.i64) 80)), some
    (13, true)⟩, ⟨some 16, AOp.pick (Opd.tmp 13) (Opd.tmp 15) (Opd.const (V.bool false)), none⟩]) (ACode.cond (Opd.tmp 16) (ACode.skip) (ACode.exit 0))) (ACode.seq (ACode.block 1 (ACode.seq
    (ACode.region [⟨some 19, AOp.move (Opd.tmp 0), none⟩, ⟨some 20, AOp.move (Opd.tmp 6), none⟩, ⟨some 21, AOp.indexAddrS 1 (Opd.tmp 19) (Opd.tmp 20), none⟩, ⟨some 22, AOp.load (Opd.tmp 21), none⟩,
    ⟨some 7, AOp.move (Opd.tmp 22), none⟩]) (ACode.seq (ACode.region [⟨some 23, AOp.move (Opd.tmp 7), none⟩, ⟨some 24, AOp.call (Opd.func 13) [Opd.tmp 23, Opd.const (V.int (IntKind.i64) 64)], none⟩,
    ⟨some 8, AOp.move (Opd.tmp 24), none⟩]) (ACode.block 2 (ACode.seq (ACode.region [⟨some 40, AOp.move (Opd.tmp 8), none⟩, ⟨some 41, AOp.bin (BinOp.lss) (Opd.tmp 40) (Opd.const (V.int (IntKind.i64)
    34)), none⟩, ⟨some 39, AOp.move (Opd.tmp 41), none⟩]) (ACode.cond (Opd.tmp 39) (ACode.region [⟨some 42, AOp.move (Opd.tmp 5), none⟩, ⟨some 43, AOp.move (Opd.tmp 8), none⟩, ⟨some 44, AOp.indexAddrA
    34 1 (Opd.glob 0) (Opd.tmp 43), none⟩, ⟨some 45, AOp.load (Opd.tmp 44), none⟩, ⟨some 46, AOp.bin (BinOp.add) (Opd.tmp 42) (Opd.tmp 45), none⟩, ⟨some 5, AOp.move (Opd.tmp 46), none⟩]) (ACode.seq
    (ACode.region [⟨some 48, AOp.move (Opd.tmp 8), none⟩, ⟨some 49, AOp.bin (BinOp.lss) (Opd.tmp 48) (Opd.const (V.int (IntKind.i64) 56)), none⟩, ⟨some 47, AOp.move (Opd.tmp 49), none⟩]) (ACode.cond
    (Opd.tmp 47) (ACode.region [⟨some 50, AOp.move (Opd.tmp 5), none⟩, ⟨some 51, AOp.move (Opd.tmp 8), none⟩, ⟨some 52, AOp.bin (BinOp.sub) (Opd.tmp 51) (Opd.const (V.int (IntKind.i64) 34)), none⟩,
    ⟨some 53, AOp.indexAddrA 22 1 (Opd.glob 1) (Opd.tmp 52), none⟩, ⟨some 54, AOp.load (Opd.tmp 53), none⟩, ⟨some 55, AOp.bin (BinOp.add) (Opd.tmp 50) (Opd.tmp 54), none⟩, ⟨some 5, AOp.move (Opd.tmp
    55), none⟩]) (ACode.seq (ACode.region [⟨some 57, AOp.move (Opd.tmp 8), none⟩, ⟨some 58, AOp.bin (BinOp.lss) (Opd.tmp 57) (Opd.const (V.int (IntKind.i64) 59)), none⟩, ⟨some 56, AOp.move (Opd.tmp
    58), none⟩]) (ACode.cond (Opd.tmp 56) (ACode.region [⟨some 59, AOp.move (Opd.tmp 5), none⟩, ⟨some 60, AOp.bin (BinOp.add) (Opd.tmp 59) (Opd.const (V.str [27, 91])), none⟩, ⟨some 61, AOp.move
    (Opd.tmp 7), none⟩, ⟨some 62, AOp.bin (BinOp.quo) (Opd.tmp 61) (Opd.const (V.int (IntKind.i64) 64)), none⟩, ⟨some 63, AOp.move (Opd.tmp 1), none⟩, ⟨some 64, AOp.bin (BinOp.add) (Opd.tmp 63)
    (Opd.const (V.int (IntKind.i64) 2)), none⟩, ⟨some 65, AOp.call (Opd.func 13) [Opd.tmp 62, Opd.tmp 64], none⟩, ⟨some 66, AOp.call (Opd.func 26) [Opd.tmp 65], none⟩, ⟨some 67, AOp.bin (BinOp.add)
    (Opd.tmp 60) (Opd.tmp 66), none⟩, ⟨some 68, AOp.bin (BinOp.add) (Opd.tmp 67) (Opd.const (V.str [59])), none⟩, ⟨some 69, AOp.move (Opd.tmp 7), none⟩, ⟨some 70, AOp.bin (BinOp.quo) (Opd.tmp 69)
    (Opd.const (V.int (IntKind.i64) 640)), none⟩, ⟨some 71, AOp.move (Opd.tmp 1), none⟩, ⟨some 72, AOp.bin (BinOp.add) (Opd.tmp 71) (Opd.const (V.int (IntKind.i64) 3)), none⟩, ⟨some 73, AOp.call
    (Opd.func 13) [Opd.tmp 70, Opd.tmp 72], none⟩, ⟨some 74, AOp.call (Opd.func 26) [Opd.tmp 73], none⟩, ⟨some 75, AOp.bin (BinOp.add) (Opd.tmp 68) (Opd.tmp 74), none⟩, ⟨some 76, AOp.bin (BinOp.add)
    (Opd.tmp 75) (Opd.const (V.str [114])), none⟩, ⟨some 5, AOp.move (Opd.tmp 76), none⟩]) (ACode.region [⟨some 25, AOp.move (Opd.tmp 5), none⟩, ⟨some 26, AOp.bin (BinOp.add) (Opd.tmp 25) (Opd.const
    (V.str [27, 91])), none⟩, ⟨some 27, AOp.move (Opd.tmp 7), none⟩, ⟨some 28, AOp.bin (BinOp.quo) (Opd.tmp 27) (Opd.const (V.int (IntKind.i64) 64)), none⟩, ⟨some 29, AOp.call (Opd.func 13) [Opd.tmp
    28, Opd.const (V.int (IntKind.i64) 12)], none⟩, ⟨some 30, AOp.call (Opd.func 26) [Opd.tmp 29], none⟩, ⟨some 31, AOp.bin (BinOp.add) (Opd.tmp 26) (Opd.tmp 30), none⟩, ⟨some 32, AOp.move (Opd.tmp
    7), none⟩, ⟨some 33, AOp.bin (BinOp.quo) (Opd.tmp 32) (Opd.const (V.int (IntKind.i64) 800)), none⟩, ⟨some 34, AOp.call (Opd.func 13) [Opd.tmp 33, Opd.const (V.int (IntKind.i64) 18)], none⟩, ⟨some
    35, AOp.indexStr (Opd.const (V.str [65, 66, 67, 68, 69, 70, 71, 100, 76, 77, 64, 80, 88, 83, 84, 74, 75, 109])) (Opd.tmp 34), none⟩, ⟨some 36, AOp.buildSlice 5 1 [V.int (IntKind.u8) 0] 1 [(0, 1,
    Opd.tmp 35)], none⟩, ⟨some 37, AOp.bytesStr (Opd.tmp 36), none⟩, ⟨some 38, AOp.bin (BinOp.add) (Opd.tmp 31) (Opd.tmp 37), none⟩, ⟨some 5, AOp.move (Opd.tmp 38), none⟩]))))))))))) (ACode.region
    [⟨some 17, AOp.move (Opd.tmp 6), none⟩, ⟨some 18, AOp.bin (BinOp.add) (Opd.tmp 17) (Opd.const (V.int (IntKind.i64) 1)), none⟩, ⟨some 6, AOp.move (Opd.tmp 18), none⟩]))
theorem c15_l0_wr : c15_l0.wr = [9, 10, 11, 12, 13, 14, 15, 16, 19, 20, 21, 22, 7, 23, 24, 8, 40, 41, 39, 42, 43, 44, 45, 46, 5, 48, 49, 47, 50, 51, 52, 53, 54, 55, 5, 57, 58, 56, 59, 60, 61, 62, 63, 64, 65, 66, 67, 68, 69, 70, 71, 72, 73, 74, 75, 76, 5, 25, 26, 27, 28, 29, 30, 31, 32, 33, 34, 35, 36, 37, 38, 5, 17, 18, 6] := by kernel_rfl
/-- Function 15: portholehand.Output. -/
def c15 : AFn :=
  ⟨78, [ARes.tmp 4], ACode.seq (ACode.region [⟨some 4, AOp.move (Opd.const (V.str [])), none⟩]) (ACode.seq (ACode.region [⟨some 5, AOp.move (Opd.const (V.str [])), none⟩]) (ACode.seq (ACode.seq
    (ACode.region [⟨some 6, AOp.move (Opd.const (V.int (IntKind.i64) 0)), none⟩]) (ACode.block 0 (ACode.loop c15_l0))) (ACode.seq (ACode.region [⟨some 77, AOp.move (Opd.tmp 5), none⟩, ⟨some 4,
    AOp.move (Opd.tmp 77), none⟩]) (ACode.ret))))⟩
theorem h15 : compFn Tryd.prog Tryd.f15 = some c15 := by kernel_rfl
/-- A loop of function 16. -/
def c16_l0 : ACode :=
  ACode.seq (ACode.seq (ACode.region [⟨some 8, AOp.move (Opd.tmp 6), none⟩, ⟨some 9, AOp.move (Opd.tmp 1), none⟩, ⟨some 10, AOp.lenL (Opd.tmp 9), none⟩, ⟨some 11, AOp.bin (BinOp.lss) (Opd.tmp 8)
    (Opd.tmp 10), none⟩, ⟨some 12, AOp.move (Opd.tmp 11), none⟩, ⟨some 13, AOp.move (Opd.tmp 6), some (12, true)⟩, ⟨some 14, AOp.bin (BinOp.lss) (Opd.tmp 13) (Opd.const (V.int (IntKind.i64) 40)), some
    (12, true)⟩, ⟨some 15, AOp.pick (Opd.tmp 12) (Opd.tmp 14) (Opd.const (V.bool false)), none⟩, ⟨some 16, AOp.move (Opd.tmp 15), none⟩, ⟨some 17, AOp.move (Opd.tmp 0), some (16, true)⟩, ⟨some 18,
    AOp.lenS (Opd.tmp 17), some (16, true)⟩, ⟨some 19, AOp.bin (BinOp.gtr) (Opd.tmp 18) (Opd.const (V.int (IntKind.i64) 0)), some (16, true)⟩, ⟨some 20, AOp.pick (Opd.tmp 16) (Opd.tmp 19) (Opd.const
    (V.bool false)), none⟩]) (ACode.cond (Opd.tmp 20) (ACode.skip) (ACode.exit 0))) (ACode.seq (ACode.block 1 (ACode.seq (ACode.region [⟨some 23, AOp.move (Opd.tmp 1), none⟩, ⟨some 24, AOp.move
    (Opd.tmp 6), none⟩, ⟨some 25, AOp.indexAddrS 1 (Opd.tmp 23) (Opd.tmp 24), none⟩, ⟨some 26, AOp.load (Opd.tmp 25), none⟩, ⟨some 27, AOp.call (Opd.func 13) [Opd.tmp 26, Opd.const (V.int
    (IntKind.i64) 9)], none⟩, ⟨some 7, AOp.move (Opd.tmp 27), none⟩]) (ACode.seq (ACode.region [⟨some 28, AOp.move (Opd.tmp 7), none⟩, ⟨some 29, AOp.move (Opd.tmp 0), none⟩, ⟨some 30, AOp.lenS
    (Opd.tmp 29), none⟩, ⟨some 31, AOp.minmax false [Opd.tmp 28, Opd.tmp 30], none⟩, ⟨some 7, AOp.move (Opd.tmp 31), none⟩]) (ACode.seq (ACode.region [⟨some 32, AOp.move (Opd.tmp 5), none⟩, ⟨some 33,
    AOp.move (Opd.tmp 0), none⟩, ⟨some 34, AOp.move (Opd.tmp 7), none⟩, ⟨some 35, AOp.sliceStr (Opd.tmp 33) none (some (Opd.tmp 34)), none⟩, ⟨some 36, AOp.strBytes 5 (Opd.tmp 35), none⟩, ⟨some 37,
    AOp.buildSlice 27 1 [V.nilslice] 1 [(0, 1, Opd.tmp 36)], none⟩, ⟨some 38, AOp.append 27 1 24 (Opd.tmp 32) (Opd.tmp 37), none⟩, ⟨some 5, AOp.move (Opd.tmp 38), none⟩]) (ACode.region [⟨some 39,
    AOp.move (Opd.tmp 0), none⟩, ⟨some 40, AOp.move (Opd.tmp 7), none⟩, ⟨some 41, AOp.sliceStr (Opd.tmp 39) (some (Opd.tmp 40)) none, none⟩, ⟨some 0, AOp.move (Opd.tmp 41), none⟩]))))) (ACode.region
    [⟨some 21, AOp.move (Opd.tmp 6), none⟩, ⟨some 22, AOp.bin (BinOp.add) (Opd.tmp 21) (Opd.const (V.int (IntKind.i64) 1)), none⟩, ⟨some 6, AOp.move (Opd.tmp 22), none⟩]))
theorem c16_l0_wr : c16_l0.wr = [8, 9, 10, 11, 12, 13, 14, 15, 16, 17, 18, 19, 20, 23, 24, 25, 26, 27, 7, 28, 29, 30, 31, 7, 32, 33, 34, 35, 36, 37, 38, 5, 39, 40, 41, 0, 21, 22, 6] := by kernel_rfl
/-- Function 16: portholehand.Cut. -/
def c16 : AFn :=
  ⟨47, [ARes.tmp 4], ACode.seq (ACode.region [⟨some 4, AOp.move (Opd.const (V.nilslice)), none⟩]) (ACode.seq (ACode.region [⟨some 5, AOp.move (Opd.const (V.nilslice)), none⟩]) (ACode.seq (ACode.seq
    (ACode.region [⟨some 6, AOp.move (Opd.const (V.int (IntKind.i64) 0)), none⟩]) (ACode.block 0 (ACode.loop c16_l0))) (ACode.seq (ACode.region [⟨some 42, AOp.move (Opd.tmp 5), none⟩, ⟨some 43,
    AOp.move (Opd.tmp 0), none⟩, ⟨some 44, AOp.strBytes 5 (Opd.tmp 43), none⟩, ⟨some 45, AOp.buildSlice 27 1 [V.nilslice] 1 [(0, 1, Opd.tmp 44)], none⟩, ⟨some 46, AOp.append 27 1 24 (Opd.tmp 42)
    (Opd.tmp 45), none⟩, ⟨some 4, AOp.move (Opd.tmp 46), none⟩]) (ACode.ret))))⟩
theorem h16 : compFn Tryd.prog Tryd.f16 = some c16 := by kernel_rfl
/-- A loop of function 17. -/
def c17_l1 : ACode :=
  ACode.seq (ACode.seq (ACode.region [⟨some 70, AOp.move (Opd.tmp 6), none⟩, ⟨some 71, AOp.move (Opd.tmp 0), none⟩, ⟨some 72, AOp.move (Opd.tmp 5), none⟩, ⟨some 73, AOp.indexAddrS 4 (Opd.tmp 71)
    (Opd.tmp 72), none⟩, ⟨some 74, AOp.fieldAddr 3 (Opd.tmp 73), none⟩, ⟨some 75, AOp.load (Opd.tmp 74), none⟩, ⟨some 76, AOp.lenL (Opd.tmp 75), none⟩, ⟨some 77, AOp.bin (BinOp.lss) (Opd.tmp 70)
    (Opd.tmp 76), none⟩]) (ACode.cond (Opd.tmp 77) (ACode.skip) (ACode.exit 2))) (ACode.seq (ACode.block 3 (ACode.seq (ACode.anyRegion [⟨some 80, AOp.move (Opd.tmp 0), none⟩, ⟨some 81, AOp.move
    (Opd.tmp 5), none⟩, ⟨some 82, AOp.indexAddrS 4 (Opd.tmp 80) (Opd.tmp 81), none⟩, ⟨some 83, AOp.fieldAddr 3 (Opd.tmp 82), none⟩, ⟨some 84, AOp.load (Opd.tmp 83), none⟩, ⟨some 85, AOp.move (Opd.tmp
    6), none⟩, ⟨some 86, AOp.indexAddrS 1 (Opd.tmp 84) (Opd.tmp 85), none⟩, ⟨some 87, AOp.load (Opd.tmp 86), none⟩, ⟨some 88, AOp.move (Opd.tmp 1), none⟩, ⟨some 89, AOp.move (Opd.tmp 5), none⟩, ⟨some
    90, AOp.indexAddrS 4 (Opd.tmp 88) (Opd.tmp 89), none⟩, ⟨some 91, AOp.fieldAddr 3 (Opd.tmp 90), none⟩, ⟨some 92, AOp.load (Opd.tmp 91), none⟩, ⟨some 93, AOp.move (Opd.tmp 6), none⟩, ⟨some 94,
    AOp.indexAddrS 1 (Opd.tmp 92) (Opd.tmp 93), none⟩, ⟨some 95, AOp.load (Opd.tmp 94), none⟩, ⟨some 96, AOp.bin (BinOp.neq) (Opd.tmp 87) (Opd.tmp 95), none⟩] []) (ACode.cond (Opd.tmp 96) (ACode.seq
    (ACode.region [⟨some 4, AOp.move (Opd.const (V.bool false)), none⟩]) (ACode.ret)) (ACode.skip)))) (ACode.region [⟨some 78, AOp.move (Opd.tmp 6), none⟩, ⟨some 79, AOp.bin (BinOp.add) (Opd.tmp 78)
    (Opd.const (V.int (IntKind.i64) 1)), none⟩, ⟨some 6, AOp.move (Opd.tmp 79), none⟩]))
theorem c17_l1_wr : c17_l1.wr = [70, 71, 72, 73, 74, 75, 76, 77, 80, 81, 82, 83, 84, 85, 86, 87, 88, 89, 90, 91, 92, 93, 94, 95, 96, 4, 78, 79, 6] := by kernel_rfl
/-- A loop of function 17. -/
def c17_l0 : ACode :=
  ACode.seq (ACode.seq (ACode.region [⟨some 12, AOp.move (Opd.tmp 5), none⟩, ⟨some 13, AOp.move (Opd.tmp 0), none⟩, ⟨some 14, AOp.lenL (Opd.tmp 13), none⟩, ⟨some 15, AOp.bin (BinOp.lss) (Opd.tmp 12)
    (Opd.tmp 14), none⟩]) (ACode.cond (Opd.tmp 15) (ACode.skip) (ACode.exit 0))) (ACode.seq (ACode.block 1 (ACode.seq (ACode.seq (ACode.anyRegion [⟨some 18, AOp.move (Opd.tmp 0), none⟩, ⟨some 19,
    AOp.move (Opd.tmp 5), none⟩, ⟨some 20, AOp.indexAddrS 4 (Opd.tmp 18) (Opd.tmp 19), none⟩, ⟨some 21, AOp.fieldAddr 0 (Opd.tmp 20), none⟩, ⟨some 22, AOp.load (Opd.tmp 21), none⟩, ⟨some 23, AOp.move
    (Opd.tmp 1), none⟩, ⟨some 24, AOp.move (Opd.tmp 5), none⟩, ⟨some 25, AOp.indexAddrS 4 (Opd.tmp 23) (Opd.tmp 24), none⟩, ⟨some 26, AOp.fieldAddr 0 (Opd.tmp 25), none⟩, ⟨some 27, AOp.load (Opd.tmp
    26), none⟩, ⟨some 28, AOp.bin (BinOp.neq) (Opd.tmp 22) (Opd.tmp 27), none⟩, ⟨some 29, AOp.move (Opd.tmp 28), none⟩, ⟨some 30, AOp.move (Opd.tmp 0), some (29, false)⟩, ⟨some 31, AOp.move (Opd.tmp
    5), some (29, false)⟩, ⟨some 32, AOp.indexAddrS 4 (Opd.tmp 30) (Opd.tmp 31), some (29, false)⟩, ⟨some 33, AOp.fieldAddr 1 (Opd.tmp 32), some (29, false)⟩, ⟨some 34, AOp.load (Opd.tmp 33), some
    (29, false)⟩, ⟨some 35, AOp.move (Opd.tmp 1), some (29, false)⟩, ⟨some 36, AOp.move (Opd.tmp 5), some (29, false)⟩, ⟨some 37, AOp.indexAddrS 4 (Opd.tmp 35) (Opd.tmp 36), some (29, false)⟩, ⟨some
    38, AOp.fieldAddr 1 (Opd.tmp 37), some (29, false)⟩, ⟨some 39, AOp.load (Opd.tmp 38), some (29, false)⟩, ⟨some 40, AOp.bin (BinOp.neq) (Opd.tmp 34) (Opd.tmp 39), some (29, false)⟩, ⟨some 41,
    AOp.pick (Opd.tmp 29) (Opd.const (V.bool true)) (Opd.tmp 40), none⟩, ⟨some 42, AOp.move (Opd.tmp 41), none⟩, ⟨some 43, AOp.move (Opd.tmp 0), some (42, false)⟩, ⟨some 44, AOp.move (Opd.tmp 5), some
    (42, false)⟩, ⟨some 45, AOp.indexAddrS 4 (Opd.tmp 43) (Opd.tmp 44), some (42, false)⟩, ⟨some 46, AOp.fieldAddr 2 (Opd.tmp 45), some (42, false)⟩, ⟨some 47, AOp.load (Opd.tmp 46), some (42,
    false)⟩, ⟨some 48, AOp.move (Opd.tmp 1), some (42, false)⟩, ⟨some 49, AOp.move (Opd.tmp 5), some (42, false)⟩, ⟨some 50, AOp.indexAddrS 4 (Opd.tmp 48) (Opd.tmp 49), some (42, false)⟩, ⟨some 51,
    AOp.fieldAddr 2 (Opd.tmp 50), some (42, false)⟩, ⟨some 52, AOp.load (Opd.tmp 51), some (42, false)⟩, ⟨some 53, AOp.eq true (EqKind.bool) (Opd.tmp 47) (Opd.tmp 52), some (42, false)⟩, ⟨some 54,
    AOp.pick (Opd.tmp 42) (Opd.const (V.bool true)) (Opd.tmp 53), none⟩, ⟨some 55, AOp.move (Opd.tmp 54), none⟩, ⟨some 56, AOp.move (Opd.tmp 0), some (55, false)⟩, ⟨some 57, AOp.move (Opd.tmp 5), some
    (55, false)⟩, ⟨some 58, AOp.indexAddrS 4 (Opd.tmp 56) (Opd.tmp 57), some (55, false)⟩, ⟨some 59, AOp.fieldAddr 3 (Opd.tmp 58), some (55, false)⟩, ⟨some 60, AOp.load (Opd.tmp 59), some (55,
    false)⟩, ⟨some 61, AOp.lenL (Opd.tmp 60), some (55, false)⟩, ⟨some 62, AOp.move (Opd.tmp 1), some (55, false)⟩, ⟨some 63, AOp.move (Opd.tmp 5), some (55, false)⟩, ⟨some 64, AOp.indexAddrS 4
    (Opd.tmp 62) (Opd.tmp 63), some (55, false)⟩, ⟨some 65, AOp.fieldAddr 3 (Opd.tmp 64), some (55, false)⟩, ⟨some 66, AOp.load (Opd.tmp 65), some (55, false)⟩, ⟨some 67, AOp.lenL (Opd.tmp 66), some
    (55, false)⟩, ⟨some 68, AOp.bin (BinOp.neq) (Opd.tmp 61) (Opd.tmp 67), some (55, false)⟩, ⟨some 69, AOp.pick (Opd.tmp 55) (Opd.const (V.bool true)) (Opd.tmp 68), none⟩] []) (ACode.cond (Opd.tmp
    69) (ACode.seq (ACode.region [⟨some 4, AOp.move (Opd.const (V.bool false)), none⟩]) (ACode.ret)) (ACode.skip))) (ACode.seq (ACode.region [⟨some 6, AOp.move (Opd.const (V.int (IntKind.i64) 0)),
    none⟩]) (ACode.block 2 (ACode.loop c17_l1))))) (ACode.region [⟨some 16, AOp.move (Opd.tmp 5), none⟩, ⟨some 17, AOp.bin (BinOp.add) (Opd.tmp 16) (Opd.const (V.int (IntKind.i64) 1)), none⟩, ⟨some 5,
    AOp.move (Opd.tmp 17), none⟩]))
theorem c17_l0_wr : c17_l0.wr = [12, 13, 14, 15, 18, 19, 20, 21, 22, 23, 24, 25, 26, 27, 28, 29, 30, 31, 32, 33, 34, 35, 36, 37, 38, 39, 40, 41, 42, 43, 44, 45, 46, 47, 48, 49, 50, 51, 52, 53, 54, 55, 56, 57, 58, 59, 60, 61, 62, 63, 64, 65, 66, 67, 68, 69, 4, 6, 70, 71, 72, 73, 74, 75, 76, 77, 80, 81, 82, 83, 84, 85, 86, 87, 88, 89, 90, 91, 92, 93, 94, 95, 96, 4, 78, 79, 6, 16, 17, 5] := by kernel_rfl
/-- Function 17: portholelaw20.same. -/
def c17 : AFn :=
  ⟨97, [ARes.tmp 4], ACode.seq (ACode.region [⟨some 4, AOp.move (Opd.const (V.bool false)), none⟩]) (ACode.seq (ACode.seq (ACode.region [⟨some 7, AOp.move (Opd.tmp 0), none⟩, ⟨some 8, AOp.lenL
    (Opd.tmp 7), none⟩, ⟨some 9, AOp.move (Opd.tmp 1), none⟩, ⟨some 10, AOp.lenL (Opd.tmp 9), none⟩, ⟨some 11, AOp.bin (BinOp.neq) (Opd.tmp 8) (Opd.tmp 10), none⟩]) (ACode.cond (Opd.tmp 11) (ACode.seq
    (ACode.region [⟨some 4, AOp.move (Opd.const (V.bool false)), none⟩]) (ACode.ret)) (ACode.skip))) (ACode.seq (ACode.seq (ACode.region [⟨some 5, AOp.move (Opd.const (V.int (IntKind.i64) 0)), none⟩])
    (ACode.block 0 (ACode.loop c17_l0))) (ACode.seq (ACode.region [⟨some 4, AOp.move (Opd.const (V.bool true)), none⟩]) (ACode.ret))))⟩
theorem h17 : compFn Tryd.prog Tryd.f17 = some c17 := by kernel_rfl
/-- A loop of function 18. -/
def c18_l0 : ACode :=
  ACode.seq (ACode.seq (ACode.region [⟨some 15, AOp.move (Opd.tmp 7), none⟩, ⟨some 16, AOp.move (Opd.tmp 6), none⟩, ⟨some 17, AOp.lenL (Opd.tmp 16), none⟩, ⟨some 18, AOp.bin (BinOp.lss) (Opd.tmp 15)
    (Opd.tmp 17), none⟩]) (ACode.cond (Opd.tmp 18) (ACode.skip) (ACode.exit 0))) (ACode.seq (ACode.block 1 (ACode.seq (ACode.region [⟨some 22, AOp.move (Opd.tmp 0), none⟩, ⟨some 23, AOp.move (Opd.tmp
    6), none⟩, ⟨some 24, AOp.move (Opd.tmp 7), none⟩, ⟨some 25, AOp.indexAddrS 1 (Opd.tmp 23) (Opd.tmp 24), none⟩, ⟨some 26, AOp.load (Opd.tmp 25), none⟩, ⟨some 27, AOp.call (Opd.func 20) [Opd.tmp 22,
    Opd.tmp 26], none⟩, ⟨some 21, AOp.move (Opd.tmp 27), none⟩, ⟨some 28, AOp.extract (Opd.tmp 21) 0, none⟩, ⟨some 29, AOp.extract (Opd.tmp 21) 1, none⟩, ⟨some 8, AOp.box 30 1 [V.int (IntKind.i64) 0,
    V.int (IntKind.i32) 0, V.bool false, V.nilslice], none⟩, ⟨none, AOp.store 4 (Opd.tmp 8) (Opd.tmp 28), none⟩, ⟨some 9, AOp.move (Opd.tmp 29), none⟩]) (ACode.seq (ACode.region [⟨some 30, AOp.move
    (Opd.tmp 9), none⟩]) (ACode.cond (Opd.tmp 30) (ACode.region [⟨some 31, AOp.move (Opd.tmp 5), none⟩, ⟨some 32, AOp.loadn 4 (Opd.tmp 8), none⟩, ⟨some 33, AOp.buildSlice 30 4 [V.int (IntKind.i64) 0,
    V.int (IntKind.i32) 0, V.bool false, V.nilslice] 1 [(0, 4, Opd.tmp 32)], none⟩, ⟨some 34, AOp.append 30 4 40 (Opd.tmp 31) (Opd.tmp 33), none⟩, ⟨some 5, AOp.move (Opd.tmp 34), none⟩])
    (ACode.skip))))) (ACode.region [⟨some 19, AOp.move (Opd.tmp 7), none⟩, ⟨some 20, AOp.bin (BinOp.add) (Opd.tmp 19) (Opd.const (V.int (IntKind.i64) 1)), none⟩, ⟨some 7, AOp.move (Opd.tmp 20),
    none⟩]))
theorem c18_l0_wr : c18_l0.wr = [15, 16, 17, 18, 22, 23, 24, 25, 26, 27, 21, 28, 29, 8, 9, 30, 31, 32, 33, 34, 5, 19, 20, 7] := by kernel_rfl
/-- Function 18: portholeref19.Parser).Feed. -/
def c18 : AFn :=
  ⟨36, [ARes.tmp 4], ACode.seq (ACode.region [⟨some 4, AOp.move (Opd.const (V.nilslice)), none⟩]) (ACode.seq (ACode.region [⟨some 5, AOp.move (Opd.const (V.nilslice)), none⟩]) (ACode.seq (ACode.region
    [⟨some 10, AOp.move (Opd.tmp 0), none⟩, ⟨some 11, AOp.nilCheck (Opd.tmp 10), none⟩, ⟨some 12, AOp.fieldAddr 0 (Opd.tmp 11), none⟩, ⟨some 13, AOp.move (Opd.tmp 1), none⟩, ⟨some 14, AOp.call
    (Opd.func 27) [Opd.tmp 12, Opd.tmp 13], none⟩, ⟨some 6, AOp.move (Opd.tmp 14), none⟩]) (ACode.seq (ACode.seq (ACode.region [⟨some 7, AOp.move (Opd.const (V.int (IntKind.i64) 0)), none⟩])
    (ACode.block 0 (ACode.loop c18_l0))) (ACode.seq (ACode.region [⟨some 35, AOp.move (Opd.tmp 5), none⟩, ⟨some 4, AOp.move (Opd.tmp 35), none⟩]) (ACode.ret)))))⟩
theorem h18 : compFn Tryd.prog Tryd.f18 = some c18 := by kernel_rfl
/-- Function 19: vt.Parser).Rune. -/
def c19 : AFn :=
  ⟨85, [ARes.cells 4 4, ARes.tmp 5], ACode.seq (ACode.region [⟨some 4, AOp.box 30 1 [V.int (IntKind.i64) 0, V.int (IntKind.i32) 0, V.bool false, V.nilslice], none⟩, ⟨some 5, AOp.move (Opd.const
    (V.bool false)), none⟩]) (ACode.seq (ACode.block 0 (ACode.seq (ACode.region [⟨some 7, AOp.move (Opd.tmp 1), none⟩, ⟨some 8, AOp.bin (BinOp.eql) (Opd.tmp 7) (Opd.const (V.int (IntKind.i32) 27)),
    none⟩, ⟨some 9, AOp.move (Opd.tmp 8), none⟩, ⟨some 10, AOp.move (Opd.tmp 0), some (9, true)⟩, ⟨some 11, AOp.nilCheck (Opd.tmp 10), some (9, true)⟩, ⟨some 12, AOp.fieldAddr 1 (Opd.tmp 11), some (9,
    true)⟩, ⟨some 13, AOp.load (Opd.tmp 12), some (9, true)⟩, ⟨some 14, AOp.bin (BinOp.neq) (Opd.tmp 13) (Opd.const (V.int (IntKind.i64) 4)), some (9, true)⟩, ⟨some 15, AOp.pick (Opd.tmp 9) (Opd.tmp
    14) (Opd.const (V.bool false)), none⟩, ⟨some 6, AOp.move (Opd.tmp 15), none⟩]) (ACode.cond (Opd.tmp 6) (ACode.seq (ACode.region [⟨some 16, AOp.move (Opd.tmp 0), none⟩, ⟨some 17, AOp.nilCheck
    (Opd.tmp 16), none⟩, ⟨some 18, AOp.fieldAddr 1 (Opd.tmp 17), none⟩, ⟨none, AOp.store 1 (Opd.tmp 18) (Opd.const (V.int (IntKind.i64) 1)), none⟩]) (ACode.seq (ACode.region [⟨some 19, AOp.build
    [V.int (IntKind.i64) 0, V.int (IntKind.i32) 0, V.bool false, V.nilslice] [], none⟩, ⟨none, AOp.store 4 (Opd.tmp 4) (Opd.tmp 19), none⟩, ⟨some 5, AOp.move (Opd.const (V.bool false)), none⟩])
    (ACode.ret))) (ACode.seq (ACode.region [⟨some 21, AOp.move (Opd.tmp 1), none⟩, ⟨some 22, AOp.bin (BinOp.eql) (Opd.tmp 21) (Opd.const (V.int (IntKind.i32) 27)), none⟩, ⟨some 20, AOp.move (Opd.tmp
    22), none⟩]) (ACode.cond (Opd.tmp 20) (ACode.seq (ACode.region [⟨some 23, AOp.move (Opd.tmp 0), none⟩, ⟨some 24, AOp.nilCheck (Opd.tmp 23), none⟩, ⟨some 25, AOp.fieldAddr 1 (Opd.tmp 24), none⟩,
    ⟨none, AOp.store 1 (Opd.tmp 25) (Opd.const (V.int (IntKind.i64) 5)), none⟩]) (ACode.seq (ACode.region [⟨some 26, AOp.build [V.int (IntKind.i64) 0, V.int (IntKind.i32) 0, V.bool false, V.nilslice]
    [], none⟩, ⟨none, AOp.store 4 (Opd.tmp 4) (Opd.tmp 26), none⟩, ⟨some 5, AOp.move (Opd.const (V.bool false)), none⟩]) (ACode.ret))) (ACode.skip)))))) (ACode.seq (ACode.seq (ACode.region [⟨some 27,
    AOp.move (Opd.tmp 0), none⟩, ⟨some 28, AOp.nilCheck (Opd.tmp 27), none⟩, ⟨some 29, AOp.fieldAddr 1 (Opd.tmp 28), none⟩, ⟨some 30, AOp.load (Opd.tmp 29), none⟩]) (ACode.block 1 (ACode.seq
    (ACode.region [⟨some 32, AOp.bin (BinOp.eql) (Opd.tmp 30) (Opd.const (V.int (IntKind.i64) 1)), none⟩, ⟨some 31, AOp.move (Opd.tmp 32), none⟩]) (ACode.cond (Opd.tmp 31) (ACode.seq (ACode.region
    [⟨some 33, AOp.move (Opd.tmp 0), none⟩, ⟨some 34, AOp.move (Opd.tmp 1), none⟩, ⟨some 35, AOp.call (Opd.func 28) [Opd.tmp 33, Opd.tmp 34], none⟩, ⟨some 36, AOp.extract (Opd.tmp 35) 0, none⟩, ⟨some
    37, AOp.extract (Opd.tmp 35) 1, none⟩, ⟨none, AOp.store 4 (Opd.tmp 4) (Opd.tmp 36), none⟩, ⟨some 5, AOp.move (Opd.tmp 37), none⟩]) (ACode.ret)) (ACode.seq (ACode.region [⟨some 39, AOp.bin
    (BinOp.eql) (Opd.tmp 30) (Opd.const (V.int (IntKind.i64) 2)), none⟩, ⟨some 38, AOp.move (Opd.tmp 39), none⟩]) (ACode.cond (Opd.tmp 38) (ACode.seq (ACode.region [⟨some 40, AOp.move (Opd.tmp 0),
    none⟩, ⟨some 41, AOp.nilCheck (Opd.tmp 40), none⟩, ⟨some 42, AOp.fieldAddr 1 (Opd.tmp 41), none⟩, ⟨none, AOp.store 1 (Opd.tmp 42) (Opd.const (V.int (IntKind.i64) 0)), none⟩]) (ACode.seq
    (ACode.region [⟨some 43, AOp.build [V.int (IntKind.i64) 0, V.int (IntKind.i32) 0, V.bool false, V.nilslice] [], none⟩, ⟨none, AOp.store 4 (Opd.tmp 4) (Opd.tmp 43), none⟩, ⟨some 5, AOp.move
    (Opd.const (V.bool false)), none⟩]) (ACode.ret))) (ACode.seq (ACode.region [⟨some 45, AOp.bin (BinOp.eql) (Opd.tmp 30) (Opd.const (V.int (IntKind.i64) 3)), none⟩, ⟨some 44, AOp.move (Opd.tmp 45),
    none⟩]) (ACode.cond (Opd.tmp 44) (ACode.seq (ACode.region [⟨some 46, AOp.move (Opd.tmp 0), none⟩, ⟨some 47, AOp.move (Opd.tmp 1), none⟩, ⟨some 48, AOp.call (Opd.func 29) [Opd.tmp 46, Opd.tmp 47],
    none⟩, ⟨some 49, AOp.extract (Opd.tmp 48) 0, none⟩, ⟨some 50, AOp.extract (Opd.tmp 48) 1, none⟩, ⟨none, AOp.store 4 (Opd.tmp 4) (Opd.tmp 49), none⟩, ⟨some 5, AOp.move (Opd.tmp 50), none⟩])
    (ACode.ret)) (ACode.seq (ACode.region [⟨some 52, AOp.bin (BinOp.eql) (Opd.tmp 30) (Opd.const (V.int (IntKind.i64) 4)), none⟩, ⟨some 51, AOp.move (Opd.tmp 52), none⟩]) (ACode.cond (Opd.tmp 51)
    (ACode.seq (ACode.seq (ACode.region [⟨some 53, AOp.move (Opd.tmp 1), none⟩, ⟨some 54, AOp.bin (BinOp.eql) (Opd.tmp 53) (Opd.const (V.int (IntKind.i32) 7)), none⟩, ⟨some 55, AOp.move (Opd.tmp 54),
    none⟩, ⟨some 56, AOp.move (Opd.tmp 1), some (55, false)⟩, ⟨some 57, AOp.bin (BinOp.eql) (Opd.tmp 56) (Opd.const (V.int (IntKind.i32) 24)), some (55, false)⟩, ⟨some 58, AOp.pick (Opd.tmp 55)
    (Opd.const (V.bool true)) (Opd.tmp 57), none⟩, ⟨some 59, AOp.move (Opd.tmp 58), none⟩, ⟨some 60, AOp.move (Opd.tmp 1), some (59, false)⟩, ⟨some 61, AOp.bin (BinOp.eql) (Opd.tmp 60) (Opd.const
    (V.int (IntKind.i32) 26)), some (59, false)⟩, ⟨some 62, AOp.pick (Opd.tmp 59) (Opd.const (V.bool true)) (Opd.tmp 61), none⟩]) (ACode.cond (Opd.tmp 62) (ACode.region [⟨some 63, AOp.move (Opd.tmp
    0), none⟩, ⟨some 64, AOp.nilCheck (Opd.tmp 63), none⟩, ⟨some 65, AOp.fieldAddr 1 (Opd.tmp 64), none⟩, ⟨none, AOp.store 1 (Opd.tmp 65) (Opd.const (V.int (IntKind.i64) 0)), none⟩]) (ACode.skip)))
    (ACode.seq (ACode.region [⟨some 66, AOp.build [V.int (IntKind.i64) 0, V.int (IntKind.i32) 0, V.bool false, V.nilslice] [], none⟩, ⟨none, AOp.store 4 (Opd.tmp 4) (Opd.tmp 66), none⟩, ⟨some 5,
    AOp.move (Opd.const (V.bool false)), none⟩]) (ACode.ret))) (ACode.seq (ACode.region [⟨some 68, AOp.bin (BinOp.eql) (Opd.tmp 30) (Opd.const (V.int (IntKind.i64) 5)), none⟩, ⟨some 67, AOp.move
    (Opd.tmp 68), none⟩]) (ACode.cond (Opd.tmp 67) (ACode.seq (ACode.seq (ACode.region [⟨some 69, AOp.move (Opd.tmp 1), none⟩, ⟨some 70, AOp.bin (BinOp.eql) (Opd.tmp 69) (Opd.const (V.int
    (IntKind.i32) 92)), none⟩]) (ACode.cond (Opd.tmp 70) (ACode.seq (ACode.region [⟨some 71, AOp.move (Opd.tmp 0), none⟩, ⟨some 72, AOp.nilCheck (Opd.tmp 71), none⟩, ⟨some 73, AOp.fieldAddr 1 (Opd.tmp
    72), none⟩, ⟨none, AOp.store 1 (Opd.tmp 73) (Opd.const (V.int (IntKind.i64) 0)), none⟩]) (ACode.seq (ACode.region [⟨some 74, AOp.build [V.int (IntKind.i64) 0, V.int (IntKind.i32) 0, V.bool false,
    V.nilslice] [], none⟩, ⟨none, AOp.store 4 (Opd.tmp 4) (Opd.tmp 74), none⟩, ⟨some 5, AOp.move (Opd.const (V.bool false)), none⟩]) (ACode.ret))) (ACode.skip))) (ACode.seq (ACode.region [⟨some 75,
    AOp.move (Opd.tmp 0), none⟩, ⟨some 76, AOp.move (Opd.tmp 1), none⟩, ⟨some 77, AOp.call (Opd.func 28) [Opd.tmp 75, Opd.tmp 76], none⟩, ⟨some 78, AOp.extract (Opd.tmp 77) 0, none⟩, ⟨some 79,
    AOp.extract (Opd.tmp 77) 1, none⟩, ⟨none, AOp.store 4 (Opd.tmp 4) (Opd.tmp 78), none⟩, ⟨some 5, AOp.move (Opd.tmp 79), none⟩]) (ACode.ret))) (ACode.skip))))))))))))) (ACode.seq (ACode.region
    [⟨some 80, AOp.move (Opd.tmp 0), none⟩, ⟨some 81, AOp.move (Opd.tmp 1), none⟩, ⟨some 82, AOp.call (Opd.func 30) [Opd.tmp 80, Opd.tmp 81], none⟩, ⟨some 83, AOp.extract (Opd.tmp 82) 0, none⟩, ⟨some
    84, AOp.extract (Opd.tmp 82) 1, none⟩, ⟨none, AOp.store 4 (Opd.tmp 4) (Opd.tmp 83), none⟩, ⟨some 5, AOp.move (Opd.tmp 84), none⟩]) (ACode.ret))))⟩
theorem h19 : compFn Tryd.prog Tryd.f19 = some c19 := by kernel_rfl
/-- Function 20: portholeref19.Parser).Rune. -/
def c20 : AFn :=
  ⟨100, [ARes.cells 4 4, ARes.tmp 5], ACode.seq (ACode.region [⟨some 4, AOp.box 30 1 [V.int (IntKind.i64) 0, V.int (IntKind.i32) 0, V.bool false, V.nilslice], none⟩, ⟨some 5, AOp.move (Opd.const
    (V.bool false)), none⟩]) (ACode.seq (ACode.seq (ACode.region [⟨some 6, AOp.move (Opd.tmp 0), none⟩, ⟨some 7, AOp.nilCheck (Opd.tmp 6), none⟩, ⟨some 8, AOp.fieldAddr 1 (Opd.tmp 7), none⟩, ⟨some 9,
    AOp.load (Opd.tmp 8), none⟩]) (ACode.block 0 (ACode.seq (ACode.region [⟨some 11, AOp.bin (BinOp.eql) (Opd.tmp 9) (Opd.const (V.int (IntKind.i64) 0)), none⟩, ⟨some 10, AOp.move (Opd.tmp 11),
    none⟩]) (ACode.cond (Opd.tmp 10) (ACode.seq (ACode.block 1 (ACode.seq (ACode.region [⟨some 13, AOp.move (Opd.tmp 1), none⟩, ⟨some 14, AOp.bin (BinOp.eql) (Opd.tmp 13) (Opd.const (V.int
    (IntKind.i32) 27)), none⟩, ⟨some 12, AOp.move (Opd.tmp 14), none⟩]) (ACode.cond (Opd.tmp 12) (ACode.seq (ACode.region [⟨some 15, AOp.move (Opd.tmp 0), none⟩, ⟨some 16, AOp.nilCheck (Opd.tmp 15),
    none⟩, ⟨some 17, AOp.fieldAddr 1 (Opd.tmp 16), none⟩, ⟨none, AOp.store 1 (Opd.tmp 17) (Opd.const (V.int (IntKind.i64) 1)), none⟩]) (ACode.seq (ACode.region [⟨some 18, AOp.call (Opd.func 31) [],
    none⟩, ⟨some 19, AOp.extract (Opd.tmp 18) 0, none⟩, ⟨some 20, AOp.extract (Opd.tmp 18) 1, none⟩, ⟨none, AOp.store 4 (Opd.tmp 4) (Opd.tmp 19), none⟩, ⟨some 5, AOp.move (Opd.tmp 20), none⟩])
    (ACode.ret))) (ACode.seq (ACode.region [⟨some 22, AOp.move (Opd.tmp 1), none⟩, ⟨some 23, AOp.call (Opd.func 32) [Opd.tmp 22], none⟩, ⟨some 21, AOp.move (Opd.tmp 23), none⟩]) (ACode.cond (Opd.tmp
    21) (ACode.seq (ACode.region [⟨some 24, AOp.move (Opd.tmp 1), none⟩, ⟨some 25, AOp.call (Opd.func 33) [Opd.const (V.int (IntKind.i64) 2), Opd.tmp 24], none⟩, ⟨some 26, AOp.extract (Opd.tmp 25) 0,
    none⟩, ⟨some 27, AOp.extract (Opd.tmp 25) 1, none⟩, ⟨none, AOp.store 4 (Opd.tmp 4) (Opd.tmp 26), none⟩, ⟨some 5, AOp.move (Opd.tmp 27), none⟩]) (ACode.ret)) (ACode.seq (ACode.region [⟨some 29,
    AOp.move (Opd.tmp 1), none⟩, ⟨some 30, AOp.bin (BinOp.lss) (Opd.tmp 29) (Opd.const (V.int (IntKind.i32) 32)), none⟩, ⟨some 31, AOp.move (Opd.tmp 30), none⟩, ⟨some 32, AOp.move (Opd.tmp 1), some
    (31, false)⟩, ⟨some 33, AOp.bin (BinOp.eql) (Opd.tmp 32) (Opd.const (V.int (IntKind.i32) 127)), some (31, false)⟩, ⟨some 34, AOp.pick (Opd.tmp 31) (Opd.const (V.bool true)) (Opd.tmp 33), none⟩,
    ⟨some 28, AOp.move (Opd.tmp 34), none⟩]) (ACode.cond (Opd.tmp 28) (ACode.seq (ACode.region [⟨some 35, AOp.call (Opd.func 31) [], none⟩, ⟨some 36, AOp.extract (Opd.tmp 35) 0, none⟩, ⟨some 37,
    AOp.extract (Opd.tmp 35) 1, none⟩, ⟨none, AOp.store 4 (Opd.tmp 4) (Opd.tmp 36), none⟩, ⟨some 5, AOp.move (Opd.tmp 37), none⟩]) (ACode.ret)) (ACode.skip)))))))) (ACode.seq (ACode.region [⟨some 38,
    AOp.move (Opd.tmp 1), none⟩, ⟨some 39, AOp.call (Opd.func 33) [Opd.const (V.int (IntKind.i64) 1), Opd.tmp 38], none⟩, ⟨some 40, AOp.extract (Opd.tmp 39) 0, none⟩, ⟨some 41, AOp.extract (Opd.tmp
    39) 1, none⟩, ⟨none, AOp.store 4 (Opd.tmp 4) (Opd.tmp 40), none⟩, ⟨some 5, AOp.move (Opd.tmp 41), none⟩]) (ACode.ret))) (ACode.seq (ACode.region [⟨some 43, AOp.bin (BinOp.eql) (Opd.tmp 9)
    (Opd.const (V.int (IntKind.i64) 1)), none⟩, ⟨some 42, AOp.move (Opd.tmp 43), none⟩]) (ACode.cond (Opd.tmp 42) (ACode.seq (ACode.region [⟨some 44, AOp.move (Opd.tmp 0), none⟩, ⟨some 45, AOp.move
    (Opd.tmp 1), none⟩, ⟨some 46, AOp.call (Opd.func 34) [Opd.tmp 44, Opd.tmp 45], none⟩, ⟨some 47, AOp.extract (Opd.tmp 46) 0, none⟩, ⟨some 48, AOp.extract (Opd.tmp 46) 1, none⟩, ⟨none, AOp.store 4
    (Opd.tmp 4) (Opd.tmp 47), none⟩, ⟨some 5, AOp.move (Opd.tmp 48), none⟩]) (ACode.ret)) (ACode.seq (ACode.region [⟨some 50, AOp.bin (BinOp.eql) (Opd.tmp 9) (Opd.const (V.int (IntKind.i64) 2)),
    none⟩, ⟨some 49, AOp.move (Opd.tmp 50), none⟩]) (ACode.cond (Opd.tmp 49) (ACode.seq (ACode.region [⟨some 51, AOp.move (Opd.tmp 0), none⟩, ⟨some 52, AOp.nilCheck (Opd.tmp 51), none⟩, ⟨some 53,
    AOp.fieldAddr 1 (Opd.tmp 52), none⟩, ⟨none, AOp.store 1 (Opd.tmp 53) (Opd.const (V.int (IntKind.i64) 0)), none⟩]) (ACode.seq (ACode.seq (ACode.region [⟨some 54, AOp.move (Opd.tmp 1), none⟩, ⟨some
    55, AOp.bin (BinOp.eql) (Opd.tmp 54) (Opd.const (V.int (IntKind.i32) 27)), none⟩]) (ACode.cond (Opd.tmp 55) (ACode.region [⟨some 56, AOp.move (Opd.tmp 0), none⟩, ⟨some 57, AOp.nilCheck (Opd.tmp
    56), none⟩, ⟨some 58, AOp.fieldAddr 1 (Opd.tmp 57), none⟩, ⟨none, AOp.store 1 (Opd.tmp 58) (Opd.const (V.int (IntKind.i64) 1)), none⟩]) (ACode.skip))) (ACode.seq (ACode.region [⟨some 59, AOp.call
    (Opd.func 31) [], none⟩, ⟨some 60, AOp.extract (Opd.tmp 59) 0, none⟩, ⟨some 61, AOp.extract (Opd.tmp 59) 1, none⟩, ⟨none, AOp.store 4 (Opd.tmp 4) (Opd.tmp 60), none⟩, ⟨some 5, AOp.move (Opd.tmp
    61), none⟩]) (ACode.ret)))) (ACode.seq (ACode.region [⟨some 63, AOp.bin (BinOp.eql) (Opd.tmp 9) (Opd.const (V.int (IntKind.i64) 3)), none⟩, ⟨some 62, AOp.move (Opd.tmp 63), none⟩]) (ACode.cond
    (Opd.tmp 62) (ACode.seq (ACode.region [⟨some 64, AOp.move (Opd.tmp 0), none⟩, ⟨some 65, AOp.move (Opd.tmp 1), none⟩, ⟨some 66, AOp.call (Opd.func 35) [Opd.tmp 64, Opd.tmp 65], none⟩, ⟨some 67,
    AOp.extract (Opd.tmp 66) 0, none⟩, ⟨some 68, AOp.extract (Opd.tmp 66) 1, none⟩, ⟨none, AOp.store 4 (Opd.tmp 4) (Opd.tmp 67), none⟩, ⟨some 5, AOp.move (Opd.tmp 68), none⟩]) (ACode.ret)) (ACode.seq
    (ACode.region [⟨some 70, AOp.bin (BinOp.eql) (Opd.tmp 9) (Opd.const (V.int (IntKind.i64) 4)), none⟩, ⟨some 69, AOp.move (Opd.tmp 70), none⟩]) (ACode.cond (Opd.tmp 69) (ACode.seq (ACode.seq
    (ACode.region [⟨some 71, AOp.move (Opd.tmp 1), none⟩]) (ACode.block 2 (ACode.seq (ACode.seq (ACode.region [⟨some 73, AOp.bin (BinOp.eql) (Opd.tmp 71) (Opd.const (V.int (IntKind.i32) 7)), none⟩,
    ⟨some 72, AOp.move (Opd.tmp 73), none⟩]) (ACode.cond (Opd.tmp 72) (ACode.skip) (ACode.seq (ACode.region [⟨some 74, AOp.bin (BinOp.eql) (Opd.tmp 71) (Opd.const (V.int (IntKind.i32) 24)), none⟩,
    ⟨some 72, AOp.move (Opd.tmp 74), none⟩]) (ACode.cond (Opd.tmp 72) (ACode.skip) (ACode.region [⟨some 75, AOp.bin (BinOp.eql) (Opd.tmp 71) (Opd.const (V.int (IntKind.i32) 26)), none⟩, ⟨some 72,
    AOp.move (Opd.tmp 75), none⟩]))))) (ACode.cond (Opd.tmp 72) (ACode.region [⟨some 76, AOp.move (Opd.tmp 0), none⟩, ⟨some 77, AOp.nilCheck (Opd.tmp 76), none⟩, ⟨some 78, AOp.fieldAddr 1 (Opd.tmp
    77), none⟩, ⟨none, AOp.store 1 (Opd.tmp 78) (Opd.const (V.int (IntKind.i64) 0)), none⟩]) (ACode.seq (ACode.region [⟨some 80, AOp.bin (BinOp.eql) (Opd.tmp 71) (Opd.const (V.int (IntKind.i32) 27)),
    none⟩, ⟨some 79, AOp.move (Opd.tmp 80), none⟩]) (ACode.cond (Opd.tmp 79) (ACode.region [⟨some 81, AOp.move (Opd.tmp 0), none⟩, ⟨some 82, AOp.nilCheck (Opd.tmp 81), none⟩, ⟨some 83, AOp.fieldAddr 1
    (Opd.tmp 82), none⟩, ⟨none, AOp.store 1 (Opd.tmp 83) (Opd.const (V.int (IntKind.i64) 5)), none⟩]) (ACode.skip))))))) (ACode.seq (ACode.region [⟨some 84, AOp.call (Opd.func 31) [], none⟩, ⟨some 85,
    AOp.extract (Opd.tmp 84) 0, none⟩, ⟨some 86, AOp.extract (Opd.tmp 84) 1, none⟩, ⟨none, AOp.store 4 (Opd.tmp 4) (Opd.tmp 85), none⟩, ⟨some 5, AOp.move (Opd.tmp 86), none⟩]) (ACode.ret)))
    (ACode.skip))))))))))))) (ACode.seq (ACode.seq (ACode.region [⟨some 87, AOp.move (Opd.tmp 1), none⟩, ⟨some 88, AOp.bin (BinOp.eql) (Opd.tmp 87) (Opd.const (V.int (IntKind.i32) 92)), none⟩])
    (ACode.cond (Opd.tmp 88) (ACode.seq (ACode.region [⟨some 89, AOp.move (Opd.tmp 0), none⟩, ⟨some 90, AOp.nilCheck (Opd.tmp 89), none⟩, ⟨some 91, AOp.fieldAddr 1 (Opd.tmp 90), none⟩, ⟨none,
    AOp.store 1 (Opd.tmp 91) (Opd.const (V.int (IntKind.i64) 0)), none⟩]) (ACode.seq (ACode.region [⟨some 92, AOp.call (Opd.func 31) [], none⟩, ⟨some 93, AOp.extract (Opd.tmp 92) 0, none⟩, ⟨some 94,
    AOp.extract (Opd.tmp 92) 1, none⟩, ⟨none, AOp.store 4 (Opd.tmp 4) (Opd.tmp 93), none⟩, ⟨some 5, AOp.move (Opd.tmp 94), none⟩]) (ACode.ret))) (ACode.skip))) (ACode.seq (ACode.region [⟨some 95,
    AOp.move (Opd.tmp 0), none⟩, ⟨some 96, AOp.move (Opd.tmp 1), none⟩, ⟨some 97, AOp.call (Opd.func 34) [Opd.tmp 95, Opd.tmp 96], none⟩, ⟨some 98, AOp.extract (Opd.tmp 97) 0, none⟩, ⟨some 99,
    AOp.extract (Opd.tmp 97) 1, none⟩, ⟨none, AOp.store 4 (Opd.tmp 4) (Opd.tmp 98), none⟩, ⟨some 5, AOp.move (Opd.tmp 99), none⟩]) (ACode.ret))))⟩
theorem h20 : compFn Tryd.prog Tryd.f20 = some c20 := by kernel_rfl
/-- Function 21: vt.Params. -/
def c21 : AFn :=
  ⟨30, [ARes.tmp 6], ACode.seq (ACode.region [⟨some 3, AOp.boxv 30 1 (Opd.tmp 0), none⟩, ⟨some 6, AOp.move (Opd.const (V.int (IntKind.i64) 0)), none⟩]) (ACode.seq (ACode.seq (ACode.region [⟨some 7,
    AOp.move (Opd.tmp 1), none⟩, ⟨some 8, AOp.bin (BinOp.lss) (Opd.tmp 7) (Opd.const (V.int (IntKind.i64) 0)), none⟩, ⟨some 9, AOp.move (Opd.tmp 8), none⟩, ⟨some 10, AOp.move (Opd.tmp 1), some (9,
    false)⟩, ⟨some 11, AOp.fieldAddr 3 (Opd.tmp 3), some (9, false)⟩, ⟨some 12, AOp.load (Opd.tmp 11), some (9, false)⟩, ⟨some 13, AOp.lenL (Opd.tmp 12), some (9, false)⟩, ⟨some 14, AOp.bin
    (BinOp.geq) (Opd.tmp 10) (Opd.tmp 13), some (9, false)⟩, ⟨some 15, AOp.pick (Opd.tmp 9) (Opd.const (V.bool true)) (Opd.tmp 14), none⟩, ⟨some 16, AOp.move (Opd.tmp 15), none⟩, ⟨some 17,
    AOp.fieldAddr 3 (Opd.tmp 3), some (16, false)⟩, ⟨some 18, AOp.load (Opd.tmp 17), some (16, false)⟩, ⟨some 19, AOp.move (Opd.tmp 1), some (16, false)⟩, ⟨some 20, AOp.indexAddrS 1 (Opd.tmp 18)
    (Opd.tmp 19), some (16, false)⟩, ⟨some 21, AOp.load (Opd.tmp 20), some (16, false)⟩, ⟨some 22, AOp.bin (BinOp.eql) (Opd.tmp 21) (Opd.const (V.int (IntKind.i64) 0)), some (16, false)⟩, ⟨some 23,
    AOp.pick (Opd.tmp 16) (Opd.const (V.bool true)) (Opd.tmp 22), none⟩]) (ACode.cond (Opd.tmp 23) (ACode.seq (ACode.region [⟨some 24, AOp.move (Opd.tmp 2), none⟩, ⟨some 6, AOp.move (Opd.tmp 24),
    none⟩]) (ACode.ret)) (ACode.skip))) (ACode.seq (ACode.region [⟨some 25, AOp.fieldAddr 3 (Opd.tmp 3), none⟩, ⟨some 26, AOp.load (Opd.tmp 25), none⟩, ⟨some 27, AOp.move (Opd.tmp 1), none⟩, ⟨some 28,
    AOp.indexAddrS 1 (Opd.tmp 26) (Opd.tmp 27), none⟩, ⟨some 29, AOp.load (Opd.tmp 28), none⟩, ⟨some 6, AOp.move (Opd.tmp 29), none⟩]) (ACode.ret)))⟩
theorem h21 : compFn Tryd.prog Tryd.f21 = some c21 := by kernel_rfl
/-- Function 24: utf.New. -/
def c24 : AFn :=
  ⟨3, [ARes.tmp 0], ACode.seq (ACode.region [⟨some 0, AOp.move (Opd.const (V.nilptr)), none⟩]) (ACode.seq (ACode.region [⟨some 1, AOp.build [V.nilslice] [], none⟩, ⟨some 2, AOp.boxv 69 1 (Opd.tmp 1),
    none⟩, ⟨some 0, AOp.move (Opd.tmp 2), none⟩]) (ACode.ret))⟩
theorem h24 : compFn Tryd.prog Tryd.f24 = some c24 := by kernel_rfl
/-- A loop of function 25. -/
def c25_l0 : ACode :=
  ACode.seq (ACode.seq (ACode.region [⟨some 22, AOp.move (Opd.tmp 7), none⟩, ⟨some 23, AOp.move (Opd.tmp 6), none⟩, ⟨some 24, AOp.bin (BinOp.lss) (Opd.tmp 22) (Opd.tmp 23), none⟩]) (ACode.cond
    (Opd.tmp 24) (ACode.skip) (ACode.exit 0))) (ACode.seq (ACode.block 1 (ACode.seq (ACode.region [⟨some 27, AOp.move (Opd.tmp 5), none⟩, ⟨some 28, AOp.move (Opd.tmp 7), none⟩, ⟨some 29,
    AOp.indexAddrS 1 (Opd.tmp 27) (Opd.tmp 28), none⟩, ⟨some 30, AOp.load (Opd.tmp 29), none⟩, ⟨some 31, AOp.call (Opd.func 36) [Opd.tmp 30], none⟩, ⟨some 32, AOp.move (Opd.tmp 31), none⟩, ⟨some 33,
    AOp.move (Opd.tmp 5), some (32, true)⟩, ⟨some 34, AOp.move (Opd.tmp 7), some (32, true)⟩, ⟨some 35, AOp.sliceSl 1 (Opd.tmp 33) (some (Opd.tmp 34)) none none, some (32, true)⟩, ⟨some 36, AOp.call
    (Opd.func 37) [Opd.tmp 35], some (32, true)⟩, ⟨some 37, AOp.un (UnOp.not) (Opd.tmp 36), some (32, true)⟩, ⟨some 38, AOp.pick (Opd.tmp 32) (Opd.tmp 37) (Opd.const (V.bool false)), none⟩])
    (ACode.cond (Opd.tmp 38) (ACode.region [⟨some 39, AOp.move (Opd.tmp 7), none⟩, ⟨some 6, AOp.move (Opd.tmp 39), none⟩]) (ACode.skip)))) (ACode.region [⟨some 25, AOp.move (Opd.tmp 7), none⟩, ⟨some
    26, AOp.bin (BinOp.add) (Opd.tmp 25) (Opd.const (V.int (IntKind.i64) 1)), none⟩, ⟨some 7, AOp.move (Opd.tmp 26), none⟩]))
theorem c25_l0_wr : c25_l0.wr = [22, 23, 24, 27, 28, 29, 30, 31, 32, 33, 34, 35, 36, 37, 38, 39, 6, 25, 26, 7] := by kernel_rfl
/-- Function 25: utf.Decoder).Feed. -/
def c25 : AFn :=
  ⟨51, [ARes.tmp 4], ACode.seq (ACode.region [⟨some 4, AOp.move (Opd.const (V.nilslice)), none⟩]) (ACode.seq (ACode.region [⟨some 8, AOp.buildSlice 5 1 [V.int (IntKind.u8) 0] 0 [], none⟩, ⟨some 9,
    AOp.move (Opd.tmp 0), none⟩, ⟨some 10, AOp.nilCheck (Opd.tmp 9), none⟩, ⟨some 11, AOp.fieldAddr 0 (Opd.tmp 10), none⟩, ⟨some 12, AOp.load (Opd.tmp 11), none⟩, ⟨some 13, AOp.append 5 1 1 (Opd.tmp
    8) (Opd.tmp 12), none⟩, ⟨some 14, AOp.move (Opd.tmp 1), none⟩, ⟨some 15, AOp.append 5 1 1 (Opd.tmp 13) (Opd.tmp 14), none⟩, ⟨some 5, AOp.move (Opd.tmp 15), none⟩]) (ACode.seq (ACode.region [⟨some
    16, AOp.move (Opd.tmp 5), none⟩, ⟨some 17, AOp.lenL (Opd.tmp 16), none⟩, ⟨some 6, AOp.move (Opd.tmp 17), none⟩]) (ACode.seq (ACode.seq (ACode.region [⟨some 18, AOp.move (Opd.tmp 6), none⟩, ⟨some
    19, AOp.bin (BinOp.sub) (Opd.tmp 18) (Opd.const (V.int (IntKind.i64) 4)), none⟩, ⟨some 20, AOp.bin (BinOp.add) (Opd.tmp 19) (Opd.const (V.int (IntKind.i64) 1)), none⟩, ⟨some 21, AOp.minmax true
    [Opd.const (V.int (IntKind.i64) 0), Opd.tmp 20], none⟩, ⟨some 7, AOp.move (Opd.tmp 21), none⟩]) (ACode.block 0 (ACode.loop c25_l0))) (ACode.seq (ACode.region [⟨some 40, AOp.move (Opd.tmp 0),
    none⟩, ⟨some 41, AOp.move (Opd.tmp 5), none⟩, ⟨some 42, AOp.move (Opd.tmp 6), none⟩, ⟨some 43, AOp.sliceSl 1 (Opd.tmp 41) (some (Opd.tmp 42)) none none, none⟩, ⟨some 44, AOp.nilCheck (Opd.tmp 40),
    none⟩, ⟨some 45, AOp.fieldAddr 0 (Opd.tmp 44), none⟩, ⟨none, AOp.store 1 (Opd.tmp 45) (Opd.tmp 43), none⟩]) (ACode.seq (ACode.region [⟨some 46, AOp.move (Opd.tmp 5), none⟩, ⟨some 47, AOp.move
    (Opd.tmp 6), none⟩, ⟨some 48, AOp.sliceSl 1 (Opd.tmp 46) none (some (Opd.tmp 47)) none, none⟩, ⟨some 49, AOp.bytesStr (Opd.tmp 48), none⟩, ⟨some 50, AOp.call (Opd.func 38) [Opd.tmp 49], none⟩,
    ⟨some 4, AOp.move (Opd.tmp 50), none⟩]) (ACode.ret))))))⟩
theorem h25 : compFn Tryd.prog Tryd.f25 = some c25 := by kernel_rfl
/-- Function 26: portholehand.number. -/
def c26 : AFn :=
  ⟨17, [ARes.tmp 2], ACode.seq (ACode.region [⟨some 2, AOp.move (Opd.const (V.str [])), none⟩]) (ACode.seq (ACode.seq (ACode.region [⟨some 3, AOp.move (Opd.tmp 0), none⟩, ⟨some 4, AOp.bin (BinOp.lss)
    (Opd.tmp 3) (Opd.const (V.int (IntKind.i64) 10)), none⟩]) (ACode.cond (Opd.tmp 4) (ACode.seq (ACode.region [⟨some 5, AOp.move (Opd.tmp 0), none⟩, ⟨some 6, AOp.bin (BinOp.add) (Opd.const (V.int
    (IntKind.i64) 48)) (Opd.tmp 5), none⟩, ⟨some 7, AOp.conv (IntKind.u8) (Opd.tmp 6), none⟩, ⟨some 8, AOp.buildSlice 5 1 [V.int (IntKind.u8) 0] 1 [(0, 1, Opd.tmp 7)], none⟩, ⟨some 9, AOp.bytesStr
    (Opd.tmp 8), none⟩, ⟨some 2, AOp.move (Opd.tmp 9), none⟩]) (ACode.ret)) (ACode.skip))) (ACode.seq (ACode.region [⟨some 10, AOp.move (Opd.tmp 0), none⟩, ⟨some 11, AOp.bin (BinOp.quo) (Opd.tmp 10)
    (Opd.const (V.int (IntKind.i64) 10)), none⟩, ⟨some 12, AOp.call (Opd.func 26) [Opd.tmp 11], none⟩, ⟨some 13, AOp.move (Opd.tmp 0), none⟩, ⟨some 14, AOp.bin (BinOp.rem) (Opd.tmp 13) (Opd.const
    (V.int (IntKind.i64) 10)), none⟩, ⟨some 15, AOp.call (Opd.func 26) [Opd.tmp 14], none⟩, ⟨some 16, AOp.bin (BinOp.add) (Opd.tmp 12) (Opd.tmp 15), none⟩, ⟨some 2, AOp.move (Opd.tmp 16), none⟩])
    (ACode.ret)))⟩
theorem h26 : compFn Tryd.prog Tryd.f26 = some c26 := by kernel_rfl
/-- A loop of function 27. -/
def c27_l0 : ACode :=
  ACode.seq (ACode.seq (ACode.region [⟨some 21, AOp.move (Opd.tmp 7), none⟩, ⟨some 22, AOp.bin (BinOp.gtr) (Opd.tmp 21) (Opd.const (V.int (IntKind.i64) 0)), none⟩]) (ACode.cond (Opd.tmp 22)
    (ACode.skip) (ACode.exit 0))) (ACode.seq (ACode.block 1 (ACode.seq (ACode.region [⟨some 25, AOp.move (Opd.tmp 5), none⟩, ⟨some 26, AOp.move (Opd.tmp 5), none⟩, ⟨some 27, AOp.lenL (Opd.tmp 26),
    none⟩, ⟨some 28, AOp.move (Opd.tmp 7), none⟩, ⟨some 29, AOp.bin (BinOp.sub) (Opd.tmp 27) (Opd.tmp 28), none⟩, ⟨some 30, AOp.sliceSl 1 (Opd.tmp 25) (some (Opd.tmp 29)) none none, none⟩, ⟨some 31,
    AOp.call (Opd.func 39) [Opd.tmp 30], none⟩]) (ACode.cond (Opd.tmp 31) (ACode.seq (ACode.region [⟨some 32, AOp.move (Opd.tmp 5), none⟩, ⟨some 33, AOp.lenL (Opd.tmp 32), none⟩, ⟨some 34, AOp.move
    (Opd.tmp 7), none⟩, ⟨some 35, AOp.bin (BinOp.sub) (Opd.tmp 33) (Opd.tmp 34), none⟩, ⟨some 6, AOp.move (Opd.tmp 35), none⟩]) (ACode.exit 0)) (ACode.skip)))) (ACode.region [⟨some 23, AOp.move
    (Opd.tmp 7), none⟩, ⟨some 24, AOp.bin (BinOp.sub) (Opd.tmp 23) (Opd.const (V.int (IntKind.i64) 1)), none⟩, ⟨some 7, AOp.move (Opd.tmp 24), none⟩]))
theorem c27_l0_wr : c27_l0.wr = [21, 22, 25, 26, 27, 28, 29, 30, 31, 32, 33, 34, 35, 6, 23, 24, 7] := by kernel_rfl
/-- Function 27: portholeref19.Decoder).Feed. -/
def c27 : AFn :=
  ⟨49, [ARes.tmp 4], ACode.seq (ACode.region [⟨some 4, AOp.move (Opd.const (V.nilslice)), none⟩]) (ACode.seq (ACode.region [⟨some 8, AOp.buildSlice 5 1 [V.int (IntKind.u8) 0] 0 [], none⟩, ⟨some 9,
    AOp.move (Opd.tmp 0), none⟩, ⟨some 10, AOp.nilCheck (Opd.tmp 9), none⟩, ⟨some 11, AOp.fieldAddr 0 (Opd.tmp 10), none⟩, ⟨some 12, AOp.load (Opd.tmp 11), none⟩, ⟨some 13, AOp.append 5 1 1 (Opd.tmp
    8) (Opd.tmp 12), none⟩, ⟨some 14, AOp.move (Opd.tmp 1), none⟩, ⟨some 15, AOp.append 5 1 1 (Opd.tmp 13) (Opd.tmp 14), none⟩, ⟨some 5, AOp.move (Opd.tmp 15), none⟩]) (ACode.seq (ACode.region [⟨some
    16, AOp.move (Opd.tmp 5), none⟩, ⟨some 17, AOp.lenL (Opd.tmp 16), none⟩, ⟨some 6, AOp.move (Opd.tmp 17), none⟩]) (ACode.seq (ACode.seq (ACode.region [⟨some 18, AOp.move (Opd.tmp 5), none⟩, ⟨some
    19, AOp.lenL (Opd.tmp 18), none⟩, ⟨some 20, AOp.minmax false [Opd.const (V.int (IntKind.i64) 3), Opd.tmp 19], none⟩, ⟨some 7, AOp.move (Opd.tmp 20), none⟩]) (ACode.block 0 (ACode.loop c27_l0)))
    (ACode.seq (ACode.region [⟨some 36, AOp.move (Opd.tmp 0), none⟩, ⟨some 37, AOp.buildSlice 5 1 [V.int (IntKind.u8) 0] 0 [], none⟩, ⟨some 38, AOp.move (Opd.tmp 5), none⟩, ⟨some 39, AOp.move (Opd.tmp
    6), none⟩, ⟨some 40, AOp.sliceSl 1 (Opd.tmp 38) (some (Opd.tmp 39)) none none, none⟩, ⟨some 41, AOp.append 5 1 1 (Opd.tmp 37) (Opd.tmp 40), none⟩, ⟨some 42, AOp.nilCheck (Opd.tmp 36), none⟩, ⟨some
    43, AOp.fieldAddr 0 (Opd.tmp 42), none⟩, ⟨none, AOp.store 1 (Opd.tmp 43) (Opd.tmp 41), none⟩]) (ACode.seq (ACode.region [⟨some 44, AOp.move (Opd.tmp 5), none⟩, ⟨some 45, AOp.move (Opd.tmp 6),
    none⟩, ⟨some 46, AOp.sliceSl 1 (Opd.tmp 44) none (some (Opd.tmp 45)) none, none⟩, ⟨some 47, AOp.bytesStr (Opd.tmp 46), none⟩, ⟨some 48, AOp.call (Opd.func 40) [Opd.tmp 47], none⟩, ⟨some 4,
    AOp.move (Opd.tmp 48), none⟩]) (ACode.ret))))))⟩
theorem h27 : compFn Tryd.prog Tryd.f27 = some c27 := by kernel_rfl
/-- Function 28: vt.Parser).escaped. -/
def c28 : AFn :=
  ⟨70, [ARes.cells 4 4, ARes.tmp 5], ACode.seq (ACode.region [⟨some 4, AOp.box 30 1 [V.int (IntKind.i64) 0, V.int (IntKind.i32) 0, V.bool false, V.nilslice], none⟩, ⟨some 5, AOp.move (Opd.const
    (V.bool false)), none⟩]) (ACode.seq (ACode.region [⟨some 6, AOp.move (Opd.tmp 0), none⟩, ⟨some 7, AOp.nilCheck (Opd.tmp 6), none⟩, ⟨some 8, AOp.fieldAddr 1 (Opd.tmp 7), none⟩, ⟨none, AOp.store 1
    (Opd.tmp 8) (Opd.const (V.int (IntKind.i64) 0)), none⟩]) (ACode.seq (ACode.seq (ACode.region [⟨some 9, AOp.move (Opd.tmp 1), none⟩]) (ACode.block 0 (ACode.seq (ACode.region [⟨some 11, AOp.bin
    (BinOp.eql) (Opd.tmp 9) (Opd.const (V.int (IntKind.i32) 91)), none⟩, ⟨some 10, AOp.move (Opd.tmp 11), none⟩]) (ACode.cond (Opd.tmp 10) (ACode.seq (ACode.region [⟨some 12, AOp.move (Opd.tmp 0),
    none⟩, ⟨some 13, AOp.move (Opd.tmp 0), none⟩, ⟨some 14, AOp.move (Opd.tmp 0), none⟩, ⟨some 15, AOp.move (Opd.tmp 0), none⟩, ⟨some 16, AOp.move (Opd.tmp 0), none⟩, ⟨some 17, AOp.move (Opd.tmp 0),
    none⟩, ⟨some 18, AOp.buildSlice 3 1 [V.int (IntKind.i64) 0] 1 [(0, 1, Opd.const (V.int (IntKind.i64) 0))], none⟩, ⟨some 19, AOp.nilCheck (Opd.tmp 12), none⟩, ⟨some 20, AOp.fieldAddr 1 (Opd.tmp
    19), none⟩, ⟨none, AOp.store 1 (Opd.tmp 20) (Opd.const (V.int (IntKind.i64) 3)), none⟩, ⟨some 21, AOp.nilCheck (Opd.tmp 13), none⟩, ⟨some 22, AOp.fieldAddr 2 (Opd.tmp 21), none⟩, ⟨none, AOp.store
    1 (Opd.tmp 22) (Opd.const (V.bool false)), none⟩, ⟨some 23, AOp.nilCheck (Opd.tmp 14), none⟩, ⟨some 24, AOp.fieldAddr 3 (Opd.tmp 23), none⟩, ⟨none, AOp.store 1 (Opd.tmp 24) (Opd.const (V.bool
    false)), none⟩, ⟨some 25, AOp.nilCheck (Opd.tmp 15), none⟩, ⟨some 26, AOp.fieldAddr 4 (Opd.tmp 25), none⟩, ⟨none, AOp.store 1 (Opd.tmp 26) (Opd.const (V.bool false)), none⟩, ⟨some 27, AOp.nilCheck
    (Opd.tmp 16), none⟩, ⟨some 28, AOp.fieldAddr 5 (Opd.tmp 27), none⟩, ⟨none, AOp.store 1 (Opd.tmp 28) (Opd.const (V.bool false)), none⟩, ⟨some 29, AOp.nilCheck (Opd.tmp 17), none⟩, ⟨some 30,
    AOp.fieldAddr 6 (Opd.tmp 29), none⟩, ⟨none, AOp.store 1 (Opd.tmp 30) (Opd.tmp 18), none⟩]) (ACode.seq (ACode.region [⟨some 31, AOp.build [V.int (IntKind.i64) 0, V.int (IntKind.i32) 0, V.bool
    false, V.nilslice] [], none⟩, ⟨none, AOp.store 4 (Opd.tmp 4) (Opd.tmp 31), none⟩, ⟨some 5, AOp.move (Opd.const (V.bool false)), none⟩]) (ACode.ret))) (ACode.seq (ACode.seq (ACode.region [⟨some 33,
    AOp.bin (BinOp.eql) (Opd.tmp 9) (Opd.const (V.int (IntKind.i32) 93)), none⟩, ⟨some 32, AOp.move (Opd.tmp 33), none⟩]) (ACode.cond (Opd.tmp 32) (ACode.skip) (ACode.seq (ACode.region [⟨some 34,
    AOp.bin (BinOp.eql) (Opd.tmp 9) (Opd.const (V.int (IntKind.i32) 80)), none⟩, ⟨some 32, AOp.move (Opd.tmp 34), none⟩]) (ACode.cond (Opd.tmp 32) (ACode.skip) (ACode.seq (ACode.region [⟨some 35,
    AOp.bin (BinOp.eql) (Opd.tmp 9) (Opd.const (V.int (IntKind.i32) 88)), none⟩, ⟨some 32, AOp.move (Opd.tmp 35), none⟩]) (ACode.cond (Opd.tmp 32) (ACode.skip) (ACode.seq (ACode.region [⟨some 36,
    AOp.bin (BinOp.eql) (Opd.tmp 9) (Opd.const (V.int (IntKind.i32) 94)), none⟩, ⟨some 32, AOp.move (Opd.tmp 36), none⟩]) (ACode.cond (Opd.tmp 32) (ACode.skip) (ACode.region [⟨some 37, AOp.bin
    (BinOp.eql) (Opd.tmp 9) (Opd.const (V.int (IntKind.i32) 95)), none⟩, ⟨some 32, AOp.move (Opd.tmp 37), none⟩]))))))))) (ACode.cond (Opd.tmp 32) (ACode.seq (ACode.region [⟨some 38, AOp.move (Opd.tmp
    0), none⟩, ⟨some 39, AOp.nilCheck (Opd.tmp 38), none⟩, ⟨some 40, AOp.fieldAddr 1 (Opd.tmp 39), none⟩, ⟨none, AOp.store 1 (Opd.tmp 40) (Opd.const (V.int (IntKind.i64) 4)), none⟩]) (ACode.seq
    (ACode.region [⟨some 41, AOp.build [V.int (IntKind.i64) 0, V.int (IntKind.i32) 0, V.bool false, V.nilslice] [], none⟩, ⟨none, AOp.store 4 (Opd.tmp 4) (Opd.tmp 41), none⟩, ⟨some 5, AOp.move
    (Opd.const (V.bool false)), none⟩]) (ACode.ret))) (ACode.seq (ACode.seq (ACode.region [⟨some 43, AOp.bin (BinOp.eql) (Opd.tmp 9) (Opd.const (V.int (IntKind.i32) 40)), none⟩, ⟨some 42, AOp.move
    (Opd.tmp 43), none⟩]) (ACode.cond (Opd.tmp 42) (ACode.skip) (ACode.seq (ACode.region [⟨some 44, AOp.bin (BinOp.eql) (Opd.tmp 9) (Opd.const (V.int (IntKind.i32) 41)), none⟩, ⟨some 42, AOp.move
    (Opd.tmp 44), none⟩]) (ACode.cond (Opd.tmp 42) (ACode.skip) (ACode.seq (ACode.region [⟨some 45, AOp.bin (BinOp.eql) (Opd.tmp 9) (Opd.const (V.int (IntKind.i32) 42)), none⟩, ⟨some 42, AOp.move
    (Opd.tmp 45), none⟩]) (ACode.cond (Opd.tmp 42) (ACode.skip) (ACode.seq (ACode.region [⟨some 46, AOp.bin (BinOp.eql) (Opd.tmp 9) (Opd.const (V.int (IntKind.i32) 43)), none⟩, ⟨some 42, AOp.move
    (Opd.tmp 46), none⟩]) (ACode.cond (Opd.tmp 42) (ACode.skip) (ACode.region [⟨some 47, AOp.bin (BinOp.eql) (Opd.tmp 9) (Opd.const (V.int (IntKind.i32) 35)), none⟩, ⟨some 42, AOp.move (Opd.tmp 47),
    none⟩]))))))))) (ACode.cond (Opd.tmp 42) (ACode.seq (ACode.region [⟨some 48, AOp.move (Opd.tmp 0), none⟩, ⟨some 49, AOp.nilCheck (Opd.tmp 48), none⟩, ⟨some 50, AOp.fieldAddr 1 (Opd.tmp 49), none⟩,
    ⟨none, AOp.store 1 (Opd.tmp 50) (Opd.const (V.int (IntKind.i64) 2)), none⟩]) (ACode.seq (ACode.region [⟨some 51, AOp.build [V.int (IntKind.i64) 0, V.int (IntKind.i32) 0, V.bool false, V.nilslice]
    [], none⟩, ⟨none, AOp.store 4 (Opd.tmp 4) (Opd.tmp 51), none⟩, ⟨some 5, AOp.move (Opd.const (V.bool false)), none⟩]) (ACode.ret))) (ACode.skip))))))))) (ACode.seq (ACode.block 1 (ACode.seq
    (ACode.region [⟨some 53, AOp.move (Opd.tmp 1), none⟩, ⟨some 54, AOp.call (Opd.func 41) [Opd.tmp 53], none⟩, ⟨some 52, AOp.move (Opd.tmp 54), none⟩]) (ACode.cond (Opd.tmp 52) (ACode.seq
    (ACode.region [⟨some 55, AOp.move (Opd.tmp 0), none⟩, ⟨some 56, AOp.nilCheck (Opd.tmp 55), none⟩, ⟨some 57, AOp.fieldAddr 1 (Opd.tmp 56), none⟩, ⟨none, AOp.store 1 (Opd.tmp 57) (Opd.const (V.int
    (IntKind.i64) 1)), none⟩]) (ACode.seq (ACode.region [⟨some 58, AOp.move (Opd.tmp 1), none⟩, ⟨some 59, AOp.build [V.int (IntKind.i64) 0, V.int (IntKind.i32) 0, V.bool false, V.nilslice] [(0, 1,
    Opd.const (V.int (IntKind.i64) 2)), (1, 1, Opd.tmp 58)], none⟩, ⟨none, AOp.store 4 (Opd.tmp 4) (Opd.tmp 59), none⟩, ⟨some 5, AOp.move (Opd.const (V.bool true)), none⟩]) (ACode.ret))) (ACode.seq
    (ACode.region [⟨some 61, AOp.move (Opd.tmp 1), none⟩, ⟨some 62, AOp.bin (BinOp.geq) (Opd.tmp 61) (Opd.const (V.int (IntKind.i32) 48)), none⟩, ⟨some 63, AOp.move (Opd.tmp 62), none⟩, ⟨some 64,
    AOp.move (Opd.tmp 1), some (63, true)⟩, ⟨some 65, AOp.bin (BinOp.leq) (Opd.tmp 64) (Opd.const (V.int (IntKind.i32) 126)), some (63, true)⟩, ⟨some 66, AOp.pick (Opd.tmp 63) (Opd.tmp 65) (Opd.const
    (V.bool false)), none⟩, ⟨some 60, AOp.move (Opd.tmp 66), none⟩]) (ACode.cond (Opd.tmp 60) (ACode.seq (ACode.region [⟨some 67, AOp.move (Opd.tmp 1), none⟩, ⟨some 68, AOp.build [V.int (IntKind.i64)
    0, V.int (IntKind.i32) 0, V.bool false, V.nilslice] [(0, 1, Opd.const (V.int (IntKind.i64) 3)), (1, 1, Opd.tmp 67)], none⟩, ⟨none, AOp.store 4 (Opd.tmp 4) (Opd.tmp 68), none⟩, ⟨some 5, AOp.move
    (Opd.const (V.bool true)), none⟩]) (ACode.ret)) (ACode.skip)))))) (ACode.seq (ACode.region [⟨some 69, AOp.build [V.int (IntKind.i64) 0, V.int (IntKind.i32) 0, V.bool false, V.nilslice] [], none⟩,
    ⟨none, AOp.store 4 (Opd.tmp 4) (Opd.tmp 69), none⟩, ⟨some 5, AOp.move (Opd.const (V.bool false)), none⟩]) (ACode.ret)))))⟩
theorem h28 : compFn Tryd.prog Tryd.f28 = some c28 := by kernel_rfl
/-- Function 29: vt.Parser).csi. -/
def c29 : AFn :=
  ⟨157, [ARes.cells 4 4, ARes.tmp 5], ACode.seq (ACode.region [⟨some 4, AOp.box 30 1 [V.int (IntKind.i64) 0, V.int (IntKind.i32) 0, V.bool false, V.nilslice], none⟩, ⟨some 5, AOp.move (Opd.const
    (V.bool false)), none⟩]) (ACode.seq (ACode.region [⟨some 8, AOp.move (Opd.tmp 0), none⟩, ⟨some 9, AOp.nilCheck (Opd.tmp 8), none⟩, ⟨some 10, AOp.fieldAddr 4 (Opd.tmp 9), none⟩, ⟨some 11, AOp.load
    (Opd.tmp 10), none⟩, ⟨some 12, AOp.un (UnOp.not) (Opd.tmp 11), none⟩, ⟨some 6, AOp.move (Opd.tmp 12), none⟩]) (ACode.seq (ACode.block 0 (ACode.seq (ACode.region [⟨some 14, AOp.move (Opd.tmp 1),
    none⟩, ⟨some 15, AOp.call (Opd.func 41) [Opd.tmp 14], none⟩, ⟨some 13, AOp.move (Opd.tmp 15), none⟩]) (ACode.cond (Opd.tmp 13) (ACode.seq (ACode.region [⟨some 16, AOp.move (Opd.tmp 1), none⟩,
    ⟨some 17, AOp.build [V.int (IntKind.i64) 0, V.int (IntKind.i32) 0, V.bool false, V.nilslice] [(0, 1, Opd.const (V.int (IntKind.i64) 2)), (1, 1, Opd.tmp 16)], none⟩, ⟨none, AOp.store 4 (Opd.tmp 4)
    (Opd.tmp 17), none⟩, ⟨some 5, AOp.move (Opd.const (V.bool true)), none⟩]) (ACode.ret)) (ACode.seq (ACode.region [⟨some 19, AOp.move (Opd.tmp 1), none⟩, ⟨some 20, AOp.bin (BinOp.eql) (Opd.tmp 19)
    (Opd.const (V.int (IntKind.i32) 24)), none⟩, ⟨some 21, AOp.move (Opd.tmp 20), none⟩, ⟨some 22, AOp.move (Opd.tmp 1), some (21, false)⟩, ⟨some 23, AOp.bin (BinOp.eql) (Opd.tmp 22) (Opd.const (V.int
    (IntKind.i32) 26)), some (21, false)⟩, ⟨some 24, AOp.pick (Opd.tmp 21) (Opd.const (V.bool true)) (Opd.tmp 23), none⟩, ⟨some 25, AOp.move (Opd.tmp 24), none⟩, ⟨some 26, AOp.move (Opd.tmp 1), some
    (25, false)⟩, ⟨some 27, AOp.bin (BinOp.gtr) (Opd.tmp 26) (Opd.const (V.int (IntKind.i32) 127)), some (25, false)⟩, ⟨some 28, AOp.pick (Opd.tmp 25) (Opd.const (V.bool true)) (Opd.tmp 27), none⟩,
    ⟨some 18, AOp.move (Opd.tmp 28), none⟩]) (ACode.cond (Opd.tmp 18) (ACode.region [⟨some 29, AOp.move (Opd.tmp 0), none⟩, ⟨some 30, AOp.nilCheck (Opd.tmp 29), none⟩, ⟨some 31, AOp.fieldAddr 1
    (Opd.tmp 30), none⟩, ⟨none, AOp.store 1 (Opd.tmp 31) (Opd.const (V.int (IntKind.i64) 0)), none⟩]) (ACode.seq (ACode.region [⟨some 33, AOp.move (Opd.tmp 1), none⟩, ⟨some 34, AOp.bin (BinOp.geq)
    (Opd.tmp 33) (Opd.const (V.int (IntKind.i32) 48)), none⟩, ⟨some 35, AOp.move (Opd.tmp 34), none⟩, ⟨some 36, AOp.move (Opd.tmp 1), some (35, true)⟩, ⟨some 37, AOp.bin (BinOp.leq) (Opd.tmp 36)
    (Opd.const (V.int (IntKind.i32) 57)), some (35, true)⟩, ⟨some 38, AOp.pick (Opd.tmp 35) (Opd.tmp 37) (Opd.const (V.bool false)), none⟩, ⟨some 32, AOp.move (Opd.tmp 38), none⟩]) (ACode.cond
    (Opd.tmp 32) (ACode.seq (ACode.region [⟨some 39, AOp.move (Opd.tmp 0), none⟩, ⟨some 40, AOp.nilCheck (Opd.tmp 39), none⟩, ⟨some 41, AOp.fieldAddr 4 (Opd.tmp 40), none⟩, ⟨none, AOp.store 1 (Opd.tmp
    41) (Opd.const (V.bool true)), none⟩]) (ACode.seq (ACode.anyRegion [⟨some 42, AOp.move (Opd.tmp 0), none⟩, ⟨some 43, AOp.nilCheck (Opd.tmp 42), none⟩, ⟨some 44, AOp.fieldAddr 6 (Opd.tmp 43),
    none⟩, ⟨some 45, AOp.load (Opd.tmp 44), none⟩, ⟨some 46, AOp.move (Opd.tmp 0), none⟩, ⟨some 47, AOp.nilCheck (Opd.tmp 46), none⟩, ⟨some 48, AOp.fieldAddr 6 (Opd.tmp 47), none⟩, ⟨some 49, AOp.load
    (Opd.tmp 48), none⟩, ⟨some 50, AOp.lenL (Opd.tmp 49), none⟩, ⟨some 51, AOp.bin (BinOp.sub) (Opd.tmp 50) (Opd.const (V.int (IntKind.i64) 1)), none⟩, ⟨some 52, AOp.indexAddrS 1 (Opd.tmp 45) (Opd.tmp
    51), none⟩, ⟨some 7, AOp.move (Opd.tmp 52), none⟩] []) (ACode.seq (ACode.region [⟨some 53, AOp.move (Opd.tmp 0), none⟩, ⟨some 54, AOp.nilCheck (Opd.tmp 53), none⟩, ⟨some 55, AOp.fieldAddr 5
    (Opd.tmp 54), none⟩, ⟨some 56, AOp.load (Opd.tmp 55), none⟩, ⟨some 57, AOp.un (UnOp.not) (Opd.tmp 56), none⟩]) (ACode.cond (Opd.tmp 57) (ACode.region [⟨some 58, AOp.move (Opd.tmp 7), none⟩, ⟨some
    59, AOp.move (Opd.tmp 7), none⟩, ⟨some 60, AOp.nilCheck (Opd.tmp 59), none⟩, ⟨some 61, AOp.load (Opd.tmp 60), none⟩, ⟨some 62, AOp.bin (BinOp.mul) (Opd.const (V.int (IntKind.i64) 10)) (Opd.tmp
    61), none⟩, ⟨some 63, AOp.move (Opd.tmp 1), none⟩, ⟨some 64, AOp.bin (BinOp.sub) (Opd.tmp 63) (Opd.const (V.int (IntKind.i32) 48)), none⟩, ⟨some 65, AOp.conv (IntKind.i64) (Opd.tmp 64), none⟩,
    ⟨some 66, AOp.bin (BinOp.add) (Opd.tmp 62) (Opd.tmp 65), none⟩, ⟨some 67, AOp.minmax false [Opd.tmp 66, Opd.const (V.int (IntKind.i64) 9999)], none⟩, ⟨some 68, AOp.nilCheck (Opd.tmp 58), none⟩,
    ⟨none, AOp.store 1 (Opd.tmp 68) (Opd.tmp 67), none⟩]) (ACode.skip))))) (ACode.seq (ACode.region [⟨some 70, AOp.move (Opd.tmp 1), none⟩, ⟨some 71, AOp.bin (BinOp.eql) (Opd.tmp 70) (Opd.const (V.int
    (IntKind.i32) 59)), none⟩, ⟨some 69, AOp.move (Opd.tmp 71), none⟩]) (ACode.cond (Opd.tmp 69) (ACode.seq (ACode.region [⟨some 72, AOp.move (Opd.tmp 0), none⟩, ⟨some 73, AOp.nilCheck (Opd.tmp 72),
    none⟩, ⟨some 74, AOp.fieldAddr 4 (Opd.tmp 73), none⟩, ⟨none, AOp.store 1 (Opd.tmp 74) (Opd.const (V.bool true)), none⟩]) (ACode.seq (ACode.region [⟨some 75, AOp.move (Opd.tmp 0), none⟩, ⟨some 76,
    AOp.move (Opd.tmp 0), none⟩, ⟨some 77, AOp.nilCheck (Opd.tmp 76), none⟩, ⟨some 78, AOp.fieldAddr 5 (Opd.tmp 77), none⟩, ⟨some 79, AOp.load (Opd.tmp 78), none⟩, ⟨some 80, AOp.move (Opd.tmp 79),
    none⟩, ⟨some 81, AOp.move (Opd.tmp 0), some (80, false)⟩, ⟨some 82, AOp.nilCheck (Opd.tmp 81), some (80, false)⟩, ⟨some 83, AOp.fieldAddr 6 (Opd.tmp 82), some (80, false)⟩, ⟨some 84, AOp.load
    (Opd.tmp 83), some (80, false)⟩, ⟨some 85, AOp.lenL (Opd.tmp 84), some (80, false)⟩, ⟨some 86, AOp.bin (BinOp.eql) (Opd.tmp 85) (Opd.const (V.int (IntKind.i64) 16)), some (80, false)⟩, ⟨some 87,
    AOp.pick (Opd.tmp 80) (Opd.const (V.bool true)) (Opd.tmp 86), none⟩, ⟨some 88, AOp.nilCheck (Opd.tmp 75), none⟩, ⟨some 89, AOp.fieldAddr 5 (Opd.tmp 88), none⟩, ⟨none, AOp.store 1 (Opd.tmp 89)
    (Opd.tmp 87), none⟩]) (ACode.seq (ACode.region [⟨some 90, AOp.move (Opd.tmp 0), none⟩, ⟨some 91, AOp.nilCheck (Opd.tmp 90), none⟩, ⟨some 92, AOp.fieldAddr 5 (Opd.tmp 91), none⟩, ⟨some 93, AOp.load
    (Opd.tmp 92), none⟩, ⟨some 94, AOp.un (UnOp.not) (Opd.tmp 93), none⟩]) (ACode.cond (Opd.tmp 94) (ACode.region [⟨some 95, AOp.move (Opd.tmp 0), none⟩, ⟨some 96, AOp.move (Opd.tmp 0), none⟩, ⟨some
    97, AOp.nilCheck (Opd.tmp 96), none⟩, ⟨some 98, AOp.fieldAddr 6 (Opd.tmp 97), none⟩, ⟨some 99, AOp.load (Opd.tmp 98), none⟩, ⟨some 100, AOp.buildSlice 3 1 [V.int (IntKind.i64) 0] 1 [(0, 1,
    Opd.const (V.int (IntKind.i64) 0))], none⟩, ⟨some 101, AOp.append 3 1 8 (Opd.tmp 99) (Opd.tmp 100), none⟩, ⟨some 102, AOp.nilCheck (Opd.tmp 95), none⟩, ⟨some 103, AOp.fieldAddr 6 (Opd.tmp 102),
    none⟩, ⟨none, AOp.store 1 (Opd.tmp 103) (Opd.tmp 101), none⟩]) (ACode.skip))))) (ACode.seq (ACode.region [⟨some 105, AOp.move (Opd.tmp 1), none⟩, ⟨some 106, AOp.bin (BinOp.eql) (Opd.tmp 105)
    (Opd.const (V.int (IntKind.i32) 63)), none⟩, ⟨some 107, AOp.move (Opd.tmp 106), none⟩, ⟨some 108, AOp.move (Opd.tmp 6), some (107, true)⟩, ⟨some 109, AOp.pick (Opd.tmp 107) (Opd.tmp 108)
    (Opd.const (V.bool false)), none⟩, ⟨some 104, AOp.move (Opd.tmp 109), none⟩]) (ACode.cond (Opd.tmp 104) (ACode.region [⟨some 110, AOp.move (Opd.tmp 0), none⟩, ⟨some 111, AOp.move (Opd.tmp 0),
    none⟩, ⟨some 112, AOp.nilCheck (Opd.tmp 110), none⟩, ⟨some 113, AOp.fieldAddr 4 (Opd.tmp 112), none⟩, ⟨none, AOp.store 1 (Opd.tmp 113) (Opd.const (V.bool true)), none⟩, ⟨some 114, AOp.nilCheck
    (Opd.tmp 111), none⟩, ⟨some 115, AOp.fieldAddr 2 (Opd.tmp 114), none⟩, ⟨none, AOp.store 1 (Opd.tmp 115) (Opd.const (V.bool true)), none⟩]) (ACode.seq (ACode.region [⟨some 117, AOp.move (Opd.tmp
    1), none⟩, ⟨some 118, AOp.bin (BinOp.geq) (Opd.tmp 117) (Opd.const (V.int (IntKind.i32) 32)), none⟩, ⟨some 119, AOp.move (Opd.tmp 118), none⟩, ⟨some 120, AOp.move (Opd.tmp 1), some (119, true)⟩,
    ⟨some 121, AOp.bin (BinOp.leq) (Opd.tmp 120) (Opd.const (V.int (IntKind.i32) 63)), some (119, true)⟩, ⟨some 122, AOp.pick (Opd.tmp 119) (Opd.tmp 121) (Opd.const (V.bool false)), none⟩, ⟨some 116,
    AOp.move (Opd.tmp 122), none⟩]) (ACode.cond (Opd.tmp 116) (ACode.region [⟨some 123, AOp.move (Opd.tmp 0), none⟩, ⟨some 124, AOp.move (Opd.tmp 0), none⟩, ⟨some 125, AOp.nilCheck (Opd.tmp 123),
    none⟩, ⟨some 126, AOp.fieldAddr 4 (Opd.tmp 125), none⟩, ⟨none, AOp.store 1 (Opd.tmp 126) (Opd.const (V.bool true)), none⟩, ⟨some 127, AOp.nilCheck (Opd.tmp 124), none⟩, ⟨some 128, AOp.fieldAddr 3
    (Opd.tmp 127), none⟩, ⟨none, AOp.store 1 (Opd.tmp 128) (Opd.const (V.bool true)), none⟩]) (ACode.seq (ACode.region [⟨some 130, AOp.move (Opd.tmp 1), none⟩, ⟨some 131, AOp.bin (BinOp.geq) (Opd.tmp
    130) (Opd.const (V.int (IntKind.i32) 64)), none⟩, ⟨some 132, AOp.move (Opd.tmp 131), none⟩, ⟨some 133, AOp.move (Opd.tmp 1), some (132, true)⟩, ⟨some 134, AOp.bin (BinOp.leq) (Opd.tmp 133)
    (Opd.const (V.int (IntKind.i32) 126)), some (132, true)⟩, ⟨some 135, AOp.pick (Opd.tmp 132) (Opd.tmp 134) (Opd.const (V.bool false)), none⟩, ⟨some 129, AOp.move (Opd.tmp 135), none⟩]) (ACode.cond
    (Opd.tmp 129) (ACode.seq (ACode.region [⟨some 136, AOp.move (Opd.tmp 0), none⟩, ⟨some 137, AOp.nilCheck (Opd.tmp 136), none⟩, ⟨some 138, AOp.fieldAddr 1 (Opd.tmp 137), none⟩, ⟨none, AOp.store 1
    (Opd.tmp 138) (Opd.const (V.int (IntKind.i64) 0)), none⟩]) (ACode.seq (ACode.seq (ACode.region [⟨some 139, AOp.move (Opd.tmp 0), none⟩, ⟨some 140, AOp.nilCheck (Opd.tmp 139), none⟩, ⟨some 141,
    AOp.fieldAddr 3 (Opd.tmp 140), none⟩, ⟨some 142, AOp.load (Opd.tmp 141), none⟩]) (ACode.cond (Opd.tmp 142) (ACode.seq (ACode.region [⟨some 143, AOp.build [V.int (IntKind.i64) 0, V.int
    (IntKind.i32) 0, V.bool false, V.nilslice] [], none⟩, ⟨none, AOp.store 4 (Opd.tmp 4) (Opd.tmp 143), none⟩, ⟨some 5, AOp.move (Opd.const (V.bool false)), none⟩]) (ACode.ret)) (ACode.skip)))
    (ACode.seq (ACode.anyRegion [⟨some 144, AOp.move (Opd.tmp 1), none⟩, ⟨some 145, AOp.move (Opd.tmp 0), none⟩, ⟨some 146, AOp.nilCheck (Opd.tmp 145), none⟩, ⟨some 147, AOp.fieldAddr 2 (Opd.tmp 146),
    none⟩, ⟨some 148, AOp.load (Opd.tmp 147), none⟩, ⟨some 149, AOp.buildSlice 3 1 [V.int (IntKind.i64) 0] 0 [], none⟩, ⟨some 150, AOp.move (Opd.tmp 0), none⟩, ⟨some 151, AOp.nilCheck (Opd.tmp 150),
    none⟩, ⟨some 152, AOp.fieldAddr 6 (Opd.tmp 151), none⟩, ⟨some 153, AOp.load (Opd.tmp 152), none⟩, ⟨some 154, AOp.append 3 1 8 (Opd.tmp 149) (Opd.tmp 153), none⟩, ⟨some 155, AOp.build [V.int
    (IntKind.i64) 0, V.int (IntKind.i32) 0, V.bool false, V.nilslice] [(0, 1, Opd.const (V.int (IntKind.i64) 4)), (1, 1, Opd.tmp 144), (2, 1, Opd.tmp 148), (3, 1, Opd.tmp 154)], none⟩, ⟨none,
    AOp.store 4 (Opd.tmp 4) (Opd.tmp 155), none⟩, ⟨some 5, AOp.move (Opd.const (V.bool true)), none⟩] [(4, 6), (4, 11), (9, 0)]) (ACode.ret)))) (ACode.skip)))))))))))))))) (ACode.seq (ACode.region
    [⟨some 156, AOp.build [V.int (IntKind.i64) 0, V.int (IntKind.i32) 0, V.bool false, V.nilslice] [], none⟩, ⟨none, AOp.store 4 (Opd.tmp 4) (Opd.tmp 156), none⟩, ⟨some 5, AOp.move (Opd.const (V.bool
    false)), none⟩]) (ACode.ret))))⟩
theorem h29 : compFn Tryd.prog Tryd.f29 = some c29 := by kernel_rfl
/-- Function 30: vt.Parser).plain. -/
def c30 : AFn :=
  ⟨21, [ARes.cells 4 4, ARes.tmp 5], ACode.seq (ACode.region [⟨some 4, AOp.box 30 1 [V.int (IntKind.i64) 0, V.int (IntKind.i32) 0, V.bool false, V.nilslice], none⟩, ⟨some 5, AOp.move (Opd.const
    (V.bool false)), none⟩]) (ACode.seq (ACode.block 0 (ACode.seq (ACode.region [⟨some 7, AOp.move (Opd.tmp 1), none⟩, ⟨some 8, AOp.call (Opd.func 41) [Opd.tmp 7], none⟩, ⟨some 6, AOp.move (Opd.tmp
    8), none⟩]) (ACode.cond (Opd.tmp 6) (ACode.seq (ACode.region [⟨some 9, AOp.move (Opd.tmp 1), none⟩, ⟨some 10, AOp.build [V.int (IntKind.i64) 0, V.int (IntKind.i32) 0, V.bool false, V.nilslice]
    [(0, 1, Opd.const (V.int (IntKind.i64) 2)), (1, 1, Opd.tmp 9)], none⟩, ⟨none, AOp.store 4 (Opd.tmp 4) (Opd.tmp 10), none⟩, ⟨some 5, AOp.move (Opd.const (V.bool true)), none⟩]) (ACode.ret))
    (ACode.seq (ACode.region [⟨some 12, AOp.move (Opd.tmp 1), none⟩, ⟨some 13, AOp.bin (BinOp.lss) (Opd.tmp 12) (Opd.const (V.int (IntKind.i32) 32)), none⟩, ⟨some 14, AOp.move (Opd.tmp 13), none⟩,
    ⟨some 15, AOp.move (Opd.tmp 1), some (14, false)⟩, ⟨some 16, AOp.bin (BinOp.eql) (Opd.tmp 15) (Opd.const (V.int (IntKind.i32) 127)), some (14, false)⟩, ⟨some 17, AOp.pick (Opd.tmp 14) (Opd.const
    (V.bool true)) (Opd.tmp 16), none⟩, ⟨some 11, AOp.move (Opd.tmp 17), none⟩]) (ACode.cond (Opd.tmp 11) (ACode.seq (ACode.region [⟨some 18, AOp.build [V.int (IntKind.i64) 0, V.int (IntKind.i32) 0,
    V.bool false, V.nilslice] [], none⟩, ⟨none, AOp.store 4 (Opd.tmp 4) (Opd.tmp 18), none⟩, ⟨some 5, AOp.move (Opd.const (V.bool false)), none⟩]) (ACode.ret)) (ACode.skip)))))) (ACode.seq
    (ACode.region [⟨some 19, AOp.move (Opd.tmp 1), none⟩, ⟨some 20, AOp.build [V.int (IntKind.i64) 0, V.int (IntKind.i32) 0, V.bool false, V.nilslice] [(0, 1, Opd.const (V.int (IntKind.i64) 1)), (1,
    1, Opd.tmp 19)], none⟩, ⟨none, AOp.store 4 (Opd.tmp 4) (Opd.tmp 20), none⟩, ⟨some 5, AOp.move (Opd.const (V.bool true)), none⟩]) (ACode.ret)))⟩
theorem h30 : compFn Tryd.prog Tryd.f30 = some c30 := by kernel_rfl
/-- Function 31: portholeref19.none. -/
def c31 : AFn :=
  ⟨3, [ARes.cells 0 4, ARes.tmp 1], ACode.seq (ACode.region [⟨some 0, AOp.box 30 1 [V.int (IntKind.i64) 0, V.int (IntKind.i32) 0, V.bool false, V.nilslice], none⟩, ⟨some 1, AOp.move (Opd.const (V.bool
    false)), none⟩]) (ACode.seq (ACode.region [⟨some 2, AOp.build [V.int (IntKind.i64) 0, V.int (IntKind.i32) 0, V.bool false, V.nilslice] [], none⟩, ⟨none, AOp.store 4 (Opd.tmp 0) (Opd.tmp 2), none⟩,
    ⟨some 1, AOp.move (Opd.const (V.bool false)), none⟩]) (ACode.ret))⟩
theorem h31 : compFn Tryd.prog Tryd.f31 = some c31 := by kernel_rfl
/-- Function 32: portholeref19.control. -/
def c32 : AFn :=
  ⟨9, [ARes.tmp 2], ACode.seq (ACode.region [⟨some 2, AOp.move (Opd.const (V.bool false)), none⟩]) (ACode.seq (ACode.region [⟨some 3, AOp.move (Opd.tmp 0), none⟩, ⟨some 4, AOp.bin (BinOp.geq) (Opd.tmp
    3) (Opd.const (V.int (IntKind.i32) 7)), none⟩, ⟨some 5, AOp.move (Opd.tmp 4), none⟩, ⟨some 6, AOp.move (Opd.tmp 0), some (5, true)⟩, ⟨some 7, AOp.bin (BinOp.leq) (Opd.tmp 6) (Opd.const (V.int
    (IntKind.i32) 13)), some (5, true)⟩, ⟨some 8, AOp.pick (Opd.tmp 5) (Opd.tmp 7) (Opd.const (V.bool false)), none⟩, ⟨some 2, AOp.move (Opd.tmp 8), none⟩]) (ACode.ret))⟩
theorem h32 : compFn Tryd.prog Tryd.f32 = some c32 := by kernel_rfl
/-- Function 33: portholeref19.act. -/
def c33 : AFn :=
  ⟨9, [ARes.cells 4 4, ARes.tmp 5], ACode.seq (ACode.region [⟨some 4, AOp.box 30 1 [V.int (IntKind.i64) 0, V.int (IntKind.i32) 0, V.bool false, V.nilslice], none⟩, ⟨some 5, AOp.move (Opd.const (V.bool
    false)), none⟩]) (ACode.seq (ACode.region [⟨some 6, AOp.move (Opd.tmp 0), none⟩, ⟨some 7, AOp.move (Opd.tmp 1), none⟩, ⟨some 8, AOp.build [V.int (IntKind.i64) 0, V.int (IntKind.i32) 0, V.bool
    false, V.nilslice] [(0, 1, Opd.tmp 6), (1, 1, Opd.tmp 7)], none⟩, ⟨none, AOp.store 4 (Opd.tmp 4) (Opd.tmp 8), none⟩, ⟨some 5, AOp.move (Opd.const (V.bool true)), none⟩]) (ACode.ret))⟩
theorem h33 : compFn Tryd.prog Tryd.f33 = some c33 := by kernel_rfl
/-- Function 34: portholeref19.Parser).escape. -/
def c34 : AFn :=
  ⟨123, [ARes.cells 4 4, ARes.tmp 5], ACode.seq (ACode.region [⟨some 4, AOp.box 30 1 [V.int (IntKind.i64) 0, V.int (IntKind.i32) 0, V.bool false, V.nilslice], none⟩, ⟨some 5, AOp.move (Opd.const
    (V.bool false)), none⟩]) (ACode.seq (ACode.region [⟨some 6, AOp.move (Opd.tmp 0), none⟩, ⟨some 7, AOp.nilCheck (Opd.tmp 6), none⟩, ⟨some 8, AOp.fieldAddr 1 (Opd.tmp 7), none⟩, ⟨none, AOp.store 1
    (Opd.tmp 8) (Opd.const (V.int (IntKind.i64) 1)), none⟩]) (ACode.seq (ACode.block 0 (ACode.seq (ACode.region [⟨some 10, AOp.move (Opd.tmp 1), none⟩, ⟨some 11, AOp.bin (BinOp.eql) (Opd.tmp 10)
    (Opd.const (V.int (IntKind.i32) 27)), none⟩, ⟨some 9, AOp.move (Opd.tmp 11), none⟩]) (ACode.cond (Opd.tmp 9) (ACode.seq (ACode.region [⟨some 12, AOp.call (Opd.func 31) [], none⟩, ⟨some 13,
    AOp.extract (Opd.tmp 12) 0, none⟩, ⟨some 14, AOp.extract (Opd.tmp 12) 1, none⟩, ⟨none, AOp.store 4 (Opd.tmp 4) (Opd.tmp 13), none⟩, ⟨some 5, AOp.move (Opd.tmp 14), none⟩]) (ACode.ret)) (ACode.seq
    (ACode.region [⟨some 16, AOp.move (Opd.tmp 1), none⟩, ⟨some 17, AOp.bin (BinOp.eql) (Opd.tmp 16) (Opd.const (V.int (IntKind.i32) 24)), none⟩, ⟨some 18, AOp.move (Opd.tmp 17), none⟩, ⟨some 19,
    AOp.move (Opd.tmp 1), some (18, false)⟩, ⟨some 20, AOp.bin (BinOp.eql) (Opd.tmp 19) (Opd.const (V.int (IntKind.i32) 26)), some (18, false)⟩, ⟨some 21, AOp.pick (Opd.tmp 18) (Opd.const (V.bool
    true)) (Opd.tmp 20), none⟩, ⟨some 15, AOp.move (Opd.tmp 21), none⟩]) (ACode.cond (Opd.tmp 15) (ACode.seq (ACode.region [⟨some 22, AOp.move (Opd.tmp 0), none⟩, ⟨some 23, AOp.nilCheck (Opd.tmp 22),
    none⟩, ⟨some 24, AOp.fieldAddr 1 (Opd.tmp 23), none⟩, ⟨none, AOp.store 1 (Opd.tmp 24) (Opd.const (V.int (IntKind.i64) 0)), none⟩]) (ACode.seq (ACode.region [⟨some 25, AOp.call (Opd.func 31) [],
    none⟩, ⟨some 26, AOp.extract (Opd.tmp 25) 0, none⟩, ⟨some 27, AOp.extract (Opd.tmp 25) 1, none⟩, ⟨none, AOp.store 4 (Opd.tmp 4) (Opd.tmp 26), none⟩, ⟨some 5, AOp.move (Opd.tmp 27), none⟩])
    (ACode.ret))) (ACode.seq (ACode.region [⟨some 29, AOp.move (Opd.tmp 1), none⟩, ⟨some 30, AOp.call (Opd.func 32) [Opd.tmp 29], none⟩, ⟨some 28, AOp.move (Opd.tmp 30), none⟩]) (ACode.cond (Opd.tmp
    28) (ACode.seq (ACode.region [⟨some 31, AOp.move (Opd.tmp 1), none⟩, ⟨some 32, AOp.call (Opd.func 33) [Opd.const (V.int (IntKind.i64) 2), Opd.tmp 31], none⟩, ⟨some 33, AOp.extract (Opd.tmp 32) 0,
    none⟩, ⟨some 34, AOp.extract (Opd.tmp 32) 1, none⟩, ⟨none, AOp.store 4 (Opd.tmp 4) (Opd.tmp 33), none⟩, ⟨some 5, AOp.move (Opd.tmp 34), none⟩]) (ACode.ret)) (ACode.seq (ACode.region [⟨some 36,
    AOp.move (Opd.tmp 1), none⟩, ⟨some 37, AOp.bin (BinOp.eql) (Opd.tmp 36) (Opd.const (V.int (IntKind.i32) 91)), none⟩, ⟨some 35, AOp.move (Opd.tmp 37), none⟩]) (ACode.cond (Opd.tmp 35) (ACode.seq
    (ACode.region [⟨some 38, AOp.move (Opd.tmp 0), none⟩, ⟨some 39, AOp.nilCheck (Opd.tmp 38), none⟩, ⟨some 40, AOp.fieldAddr 1 (Opd.tmp 39), none⟩, ⟨none, AOp.store 1 (Opd.tmp 40) (Opd.const (V.int
    (IntKind.i64) 3)), none⟩]) (ACode.seq (ACode.region [⟨some 41, AOp.move (Opd.tmp 0), none⟩, ⟨some 42, AOp.buildSlice 3 1 [V.int (IntKind.i64) 0] 1 [(0, 1, Opd.const (V.int (IntKind.i64) 0))],
    none⟩, ⟨some 43, AOp.nilCheck (Opd.tmp 41), none⟩, ⟨some 44, AOp.fieldAddr 2 (Opd.tmp 43), none⟩, ⟨none, AOp.store 1 (Opd.tmp 44) (Opd.tmp 42), none⟩]) (ACode.seq (ACode.region [⟨some 45, AOp.move
    (Opd.tmp 0), none⟩, ⟨some 46, AOp.nilCheck (Opd.tmp 45), none⟩, ⟨some 47, AOp.fieldAddr 3 (Opd.tmp 46), none⟩, ⟨none, AOp.store 1 (Opd.tmp 47) (Opd.const (V.bool false)), none⟩]) (ACode.seq
    (ACode.region [⟨some 48, AOp.move (Opd.tmp 0), none⟩, ⟨some 49, AOp.nilCheck (Opd.tmp 48), none⟩, ⟨some 50, AOp.fieldAddr 4 (Opd.tmp 49), none⟩, ⟨none, AOp.store 1 (Opd.tmp 50) (Opd.const (V.bool
    false)), none⟩]) (ACode.seq (ACode.region [⟨some 51, AOp.move (Opd.tmp 0), none⟩, ⟨some 52, AOp.nilCheck (Opd.tmp 51), none⟩, ⟨some 53, AOp.fieldAddr 5 (Opd.tmp 52), none⟩, ⟨none, AOp.store 1
    (Opd.tmp 53) (Opd.const (V.bool true)), none⟩]) (ACode.seq (ACode.region [⟨some 54, AOp.call (Opd.func 31) [], none⟩, ⟨some 55, AOp.extract (Opd.tmp 54) 0, none⟩, ⟨some 56, AOp.extract (Opd.tmp
    54) 1, none⟩, ⟨none, AOp.store 4 (Opd.tmp 4) (Opd.tmp 55), none⟩, ⟨some 5, AOp.move (Opd.tmp 56), none⟩]) (ACode.ret))))))) (ACode.seq (ACode.region [⟨some 58, AOp.move (Opd.tmp 1), none⟩, ⟨some
    59, AOp.bin (BinOp.eql) (Opd.tmp 58) (Opd.const (V.int (IntKind.i32) 93)), none⟩, ⟨some 60, AOp.move (Opd.tmp 59), none⟩, ⟨some 61, AOp.move (Opd.tmp 1), some (60, false)⟩, ⟨some 62, AOp.bin
    (BinOp.eql) (Opd.tmp 61) (Opd.const (V.int (IntKind.i32) 80)), some (60, false)⟩, ⟨some 63, AOp.pick (Opd.tmp 60) (Opd.const (V.bool true)) (Opd.tmp 62), none⟩, ⟨some 64, AOp.move (Opd.tmp 63),
    none⟩, ⟨some 65, AOp.move (Opd.tmp 1), some (64, false)⟩, ⟨some 66, AOp.bin (BinOp.eql) (Opd.tmp 65) (Opd.const (V.int (IntKind.i32) 88)), some (64, false)⟩, ⟨some 67, AOp.pick (Opd.tmp 64)
    (Opd.const (V.bool true)) (Opd.tmp 66), none⟩, ⟨some 68, AOp.move (Opd.tmp 67), none⟩, ⟨some 69, AOp.move (Opd.tmp 1), some (68, false)⟩, ⟨some 70, AOp.bin (BinOp.eql) (Opd.tmp 69) (Opd.const
    (V.int (IntKind.i32) 94)), some (68, false)⟩, ⟨some 71, AOp.pick (Opd.tmp 68) (Opd.const (V.bool true)) (Opd.tmp 70), none⟩, ⟨some 72, AOp.move (Opd.tmp 71), none⟩, ⟨some 73, AOp.move (Opd.tmp 1),
    some (72, false)⟩, ⟨some 74, AOp.bin (BinOp.eql) (Opd.tmp 73) (Opd.const (V.int (IntKind.i32) 95)), some (72, false)⟩, ⟨some 75, AOp.pick (Opd.tmp 72) (Opd.const (V.bool true)) (Opd.tmp 74),
    none⟩, ⟨some 57, AOp.move (Opd.tmp 75), none⟩]) (ACode.cond (Opd.tmp 57) (ACode.seq (ACode.region [⟨some 76, AOp.move (Opd.tmp 0), none⟩, ⟨some 77, AOp.nilCheck (Opd.tmp 76), none⟩, ⟨some 78,
    AOp.fieldAddr 1 (Opd.tmp 77), none⟩, ⟨none, AOp.store 1 (Opd.tmp 78) (Opd.const (V.int (IntKind.i64) 4)), none⟩]) (ACode.seq (ACode.region [⟨some 79, AOp.call (Opd.func 31) [], none⟩, ⟨some 80,
    AOp.extract (Opd.tmp 79) 0, none⟩, ⟨some 81, AOp.extract (Opd.tmp 79) 1, none⟩, ⟨none, AOp.store 4 (Opd.tmp 4) (Opd.tmp 80), none⟩, ⟨some 5, AOp.move (Opd.tmp 81), none⟩]) (ACode.ret))) (ACode.seq
    (ACode.region [⟨some 83, AOp.move (Opd.tmp 1), none⟩, ⟨some 84, AOp.bin (BinOp.eql) (Opd.tmp 83) (Opd.const (V.int (IntKind.i32) 40)), none⟩, ⟨some 85, AOp.move (Opd.tmp 84), none⟩, ⟨some 86,
    AOp.move (Opd.tmp 1), some (85, false)⟩, ⟨some 87, AOp.bin (BinOp.eql) (Opd.tmp 86) (Opd.const (V.int (IntKind.i32) 41)), some (85, false)⟩, ⟨some 88, AOp.pick (Opd.tmp 85) (Opd.const (V.bool
    true)) (Opd.tmp 87), none⟩, ⟨some 89, AOp.move (Opd.tmp 88), none⟩, ⟨some 90, AOp.move (Opd.tmp 1), some (89, false)⟩, ⟨some 91, AOp.bin (BinOp.eql) (Opd.tmp 90) (Opd.const (V.int (IntKind.i32)
    42)), some (89, false)⟩, ⟨some 92, AOp.pick (Opd.tmp 89) (Opd.const (V.bool true)) (Opd.tmp 91), none⟩, ⟨some 93, AOp.move (Opd.tmp 92), none⟩, ⟨some 94, AOp.move (Opd.tmp 1), some (93, false)⟩,
    ⟨some 95, AOp.bin (BinOp.eql) (Opd.tmp 94) (Opd.const (V.int (IntKind.i32) 43)), some (93, false)⟩, ⟨some 96, AOp.pick (Opd.tmp 93) (Opd.const (V.bool true)) (Opd.tmp 95), none⟩, ⟨some 97,
    AOp.move (Opd.tmp 96), none⟩, ⟨some 98, AOp.move (Opd.tmp 1), some (97, false)⟩, ⟨some 99, AOp.bin (BinOp.eql) (Opd.tmp 98) (Opd.const (V.int (IntKind.i32) 35)), some (97, false)⟩, ⟨some 100,
    AOp.pick (Opd.tmp 97) (Opd.const (V.bool true)) (Opd.tmp 99), none⟩, ⟨some 82, AOp.move (Opd.tmp 100), none⟩]) (ACode.cond (Opd.tmp 82) (ACode.seq (ACode.region [⟨some 101, AOp.move (Opd.tmp 0),
    none⟩, ⟨some 102, AOp.nilCheck (Opd.tmp 101), none⟩, ⟨some 103, AOp.fieldAddr 1 (Opd.tmp 102), none⟩, ⟨none, AOp.store 1 (Opd.tmp 103) (Opd.const (V.int (IntKind.i64) 2)), none⟩]) (ACode.seq
    (ACode.region [⟨some 104, AOp.call (Opd.func 31) [], none⟩, ⟨some 105, AOp.extract (Opd.tmp 104) 0, none⟩, ⟨some 106, AOp.extract (Opd.tmp 104) 1, none⟩, ⟨none, AOp.store 4 (Opd.tmp 4) (Opd.tmp
    105), none⟩, ⟨some 5, AOp.move (Opd.tmp 106), none⟩]) (ACode.ret))) (ACode.skip)))))))))))))) (ACode.seq (ACode.region [⟨some 107, AOp.move (Opd.tmp 0), none⟩, ⟨some 108, AOp.nilCheck (Opd.tmp
    107), none⟩, ⟨some 109, AOp.fieldAddr 1 (Opd.tmp 108), none⟩, ⟨none, AOp.store 1 (Opd.tmp 109) (Opd.const (V.int (IntKind.i64) 0)), none⟩]) (ACode.seq (ACode.seq (ACode.region [⟨some 110, AOp.move
    (Opd.tmp 1), none⟩, ⟨some 111, AOp.bin (BinOp.geq) (Opd.tmp 110) (Opd.const (V.int (IntKind.i32) 48)), none⟩, ⟨some 112, AOp.move (Opd.tmp 111), none⟩, ⟨some 113, AOp.move (Opd.tmp 1), some (112,
    true)⟩, ⟨some 114, AOp.bin (BinOp.leq) (Opd.tmp 113) (Opd.const (V.int (IntKind.i32) 126)), some (112, true)⟩, ⟨some 115, AOp.pick (Opd.tmp 112) (Opd.tmp 114) (Opd.const (V.bool false)), none⟩])
    (ACode.cond (Opd.tmp 115) (ACode.seq (ACode.region [⟨some 116, AOp.move (Opd.tmp 1), none⟩, ⟨some 117, AOp.call (Opd.func 33) [Opd.const (V.int (IntKind.i64) 3), Opd.tmp 116], none⟩, ⟨some 118,
    AOp.extract (Opd.tmp 117) 0, none⟩, ⟨some 119, AOp.extract (Opd.tmp 117) 1, none⟩, ⟨none, AOp.store 4 (Opd.tmp 4) (Opd.tmp 118), none⟩, ⟨some 5, AOp.move (Opd.tmp 119), none⟩]) (ACode.ret))
    (ACode.skip))) (ACode.seq (ACode.region [⟨some 120, AOp.call (Opd.func 31) [], none⟩, ⟨some 121, AOp.extract (Opd.tmp 120) 0, none⟩, ⟨some 122, AOp.extract (Opd.tmp 120) 1, none⟩, ⟨none, AOp.store
    4 (Opd.tmp 4) (Opd.tmp 121), none⟩, ⟨some 5, AOp.move (Opd.tmp 122), none⟩]) (ACode.ret))))))⟩
theorem h34 : compFn Tryd.prog Tryd.f34 = some c34 := by kernel_rfl
/-- Function 35: portholeref19.Parser).csi. -/
def c35 : AFn :=
  ⟨155, [ARes.cells 4 4, ARes.tmp 5], ACode.seq (ACode.region [⟨some 4, AOp.box 30 1 [V.int (IntKind.i64) 0, V.int (IntKind.i32) 0, V.bool false, V.nilslice], none⟩, ⟨some 5, AOp.move (Opd.const
    (V.bool false)), none⟩]) (ACode.seq (ACode.seq (ACode.region [⟨some 9, AOp.move (Opd.tmp 1), none⟩, ⟨some 10, AOp.call (Opd.func 32) [Opd.tmp 9], none⟩]) (ACode.cond (Opd.tmp 10) (ACode.seq
    (ACode.region [⟨some 11, AOp.move (Opd.tmp 1), none⟩, ⟨some 12, AOp.call (Opd.func 33) [Opd.const (V.int (IntKind.i64) 2), Opd.tmp 11], none⟩, ⟨some 13, AOp.extract (Opd.tmp 12) 0, none⟩, ⟨some
    14, AOp.extract (Opd.tmp 12) 1, none⟩, ⟨none, AOp.store 4 (Opd.tmp 4) (Opd.tmp 13), none⟩, ⟨some 5, AOp.move (Opd.tmp 14), none⟩]) (ACode.ret)) (ACode.skip))) (ACode.seq (ACode.region [⟨some 15,
    AOp.move (Opd.tmp 0), none⟩, ⟨some 16, AOp.nilCheck (Opd.tmp 15), none⟩, ⟨some 17, AOp.fieldAddr 5 (Opd.tmp 16), none⟩, ⟨some 18, AOp.load (Opd.tmp 17), none⟩, ⟨some 6, AOp.move (Opd.tmp 18),
    none⟩]) (ACode.seq (ACode.block 0 (ACode.seq (ACode.region [⟨some 26, AOp.move (Opd.tmp 1), none⟩, ⟨some 27, AOp.bin (BinOp.eql) (Opd.tmp 26) (Opd.const (V.int (IntKind.i32) 27)), none⟩, ⟨some 25,
    AOp.move (Opd.tmp 27), none⟩]) (ACode.cond (Opd.tmp 25) (ACode.region [⟨some 28, AOp.move (Opd.tmp 0), none⟩, ⟨some 29, AOp.nilCheck (Opd.tmp 28), none⟩, ⟨some 30, AOp.fieldAddr 1 (Opd.tmp 29),
    none⟩, ⟨none, AOp.store 1 (Opd.tmp 30) (Opd.const (V.int (IntKind.i64) 1)), none⟩]) (ACode.seq (ACode.region [⟨some 32, AOp.move (Opd.tmp 1), none⟩, ⟨some 33, AOp.bin (BinOp.eql) (Opd.tmp 32)
    (Opd.const (V.int (IntKind.i32) 24)), none⟩, ⟨some 34, AOp.move (Opd.tmp 33), none⟩, ⟨some 35, AOp.move (Opd.tmp 1), some (34, false)⟩, ⟨some 36, AOp.bin (BinOp.eql) (Opd.tmp 35) (Opd.const (V.int
    (IntKind.i32) 26)), some (34, false)⟩, ⟨some 37, AOp.pick (Opd.tmp 34) (Opd.const (V.bool true)) (Opd.tmp 36), none⟩, ⟨some 38, AOp.move (Opd.tmp 37), none⟩, ⟨some 39, AOp.move (Opd.tmp 1), some
    (38, false)⟩, ⟨some 40, AOp.bin (BinOp.gtr) (Opd.tmp 39) (Opd.const (V.int (IntKind.i32) 127)), some (38, false)⟩, ⟨some 41, AOp.pick (Opd.tmp 38) (Opd.const (V.bool true)) (Opd.tmp 40), none⟩,
    ⟨some 31, AOp.move (Opd.tmp 41), none⟩]) (ACode.cond (Opd.tmp 31) (ACode.region [⟨some 42, AOp.move (Opd.tmp 0), none⟩, ⟨some 43, AOp.nilCheck (Opd.tmp 42), none⟩, ⟨some 44, AOp.fieldAddr 1
    (Opd.tmp 43), none⟩, ⟨none, AOp.store 1 (Opd.tmp 44) (Opd.const (V.int (IntKind.i64) 0)), none⟩]) (ACode.seq (ACode.region [⟨some 46, AOp.move (Opd.tmp 1), none⟩, ⟨some 47, AOp.bin (BinOp.lss)
    (Opd.tmp 46) (Opd.const (V.int (IntKind.i32) 32)), none⟩, ⟨some 48, AOp.move (Opd.tmp 47), none⟩, ⟨some 49, AOp.move (Opd.tmp 1), some (48, false)⟩, ⟨some 50, AOp.bin (BinOp.eql) (Opd.tmp 49)
    (Opd.const (V.int (IntKind.i32) 127)), some (48, false)⟩, ⟨some 51, AOp.pick (Opd.tmp 48) (Opd.const (V.bool true)) (Opd.tmp 50), none⟩, ⟨some 45, AOp.move (Opd.tmp 51), none⟩]) (ACode.cond
    (Opd.tmp 45) (ACode.skip) (ACode.seq (ACode.region [⟨some 53, AOp.move (Opd.tmp 1), none⟩, ⟨some 54, AOp.bin (BinOp.geq) (Opd.tmp 53) (Opd.const (V.int (IntKind.i32) 48)), none⟩, ⟨some 55,
    AOp.move (Opd.tmp 54), none⟩, ⟨some 56, AOp.move (Opd.tmp 1), some (55, true)⟩, ⟨some 57, AOp.bin (BinOp.leq) (Opd.tmp 56) (Opd.const (V.int (IntKind.i32) 57)), some (55, true)⟩, ⟨some 58,
    AOp.pick (Opd.tmp 55) (Opd.tmp 57) (Opd.const (V.bool false)), none⟩, ⟨some 52, AOp.move (Opd.tmp 58), none⟩]) (ACode.cond (Opd.tmp 52) (ACode.seq (ACode.region [⟨some 59, AOp.move (Opd.tmp 0),
    none⟩, ⟨some 60, AOp.nilCheck (Opd.tmp 59), none⟩, ⟨some 61, AOp.fieldAddr 5 (Opd.tmp 60), none⟩, ⟨none, AOp.store 1 (Opd.tmp 61) (Opd.const (V.bool false)), none⟩]) (ACode.seq (ACode.region
    [⟨some 62, AOp.move (Opd.tmp 0), none⟩, ⟨some 63, AOp.nilCheck (Opd.tmp 62), none⟩, ⟨some 64, AOp.fieldAddr 2 (Opd.tmp 63), none⟩, ⟨some 65, AOp.load (Opd.tmp 64), none⟩, ⟨some 66, AOp.lenL
    (Opd.tmp 65), none⟩, ⟨some 7, AOp.move (Opd.tmp 66), none⟩]) (ACode.seq (ACode.region [⟨some 67, AOp.move (Opd.tmp 7), none⟩, ⟨some 68, AOp.bin (BinOp.leq) (Opd.tmp 67) (Opd.const (V.int
    (IntKind.i64) 16)), none⟩]) (ACode.cond (Opd.tmp 68) (ACode.anyRegion [⟨some 69, AOp.move (Opd.tmp 0), none⟩, ⟨some 70, AOp.nilCheck (Opd.tmp 69), none⟩, ⟨some 71, AOp.fieldAddr 2 (Opd.tmp 70),
    none⟩, ⟨some 72, AOp.load (Opd.tmp 71), none⟩, ⟨some 73, AOp.move (Opd.tmp 7), none⟩, ⟨some 74, AOp.bin (BinOp.sub) (Opd.tmp 73) (Opd.const (V.int (IntKind.i64) 1)), none⟩, ⟨some 75, AOp.move
    (Opd.tmp 0), none⟩, ⟨some 76, AOp.nilCheck (Opd.tmp 75), none⟩, ⟨some 77, AOp.fieldAddr 2 (Opd.tmp 76), none⟩, ⟨some 78, AOp.load (Opd.tmp 77), none⟩, ⟨some 79, AOp.move (Opd.tmp 7), none⟩, ⟨some
    80, AOp.bin (BinOp.sub) (Opd.tmp 79) (Opd.const (V.int (IntKind.i64) 1)), none⟩, ⟨some 81, AOp.indexAddrS 1 (Opd.tmp 78) (Opd.tmp 80), none⟩, ⟨some 82, AOp.load (Opd.tmp 81), none⟩, ⟨some 83,
    AOp.bin (BinOp.mul) (Opd.const (V.int (IntKind.i64) 10)) (Opd.tmp 82), none⟩, ⟨some 84, AOp.move (Opd.tmp 1), none⟩, ⟨some 85, AOp.bin (BinOp.sub) (Opd.tmp 84) (Opd.const (V.int (IntKind.i32)
    48)), none⟩, ⟨some 86, AOp.conv (IntKind.i64) (Opd.tmp 85), none⟩, ⟨some 87, AOp.bin (BinOp.add) (Opd.tmp 83) (Opd.tmp 86), none⟩, ⟨some 88, AOp.minmax false [Opd.const (V.int (IntKind.i64) 9999),
    Opd.tmp 87], none⟩, ⟨some 89, AOp.indexAddrS 1 (Opd.tmp 72) (Opd.tmp 74), none⟩, ⟨none, AOp.store 1 (Opd.tmp 89) (Opd.tmp 88), none⟩] []) (ACode.skip))))) (ACode.seq (ACode.region [⟨some 91,
    AOp.move (Opd.tmp 1), none⟩, ⟨some 92, AOp.bin (BinOp.eql) (Opd.tmp 91) (Opd.const (V.int (IntKind.i32) 59)), none⟩, ⟨some 90, AOp.move (Opd.tmp 92), none⟩]) (ACode.cond (Opd.tmp 90) (ACode.seq
    (ACode.region [⟨some 93, AOp.move (Opd.tmp 0), none⟩, ⟨some 94, AOp.nilCheck (Opd.tmp 93), none⟩, ⟨some 95, AOp.fieldAddr 5 (Opd.tmp 94), none⟩, ⟨none, AOp.store 1 (Opd.tmp 95) (Opd.const (V.bool
    false)), none⟩]) (ACode.seq (ACode.region [⟨some 96, AOp.move (Opd.tmp 0), none⟩, ⟨some 97, AOp.nilCheck (Opd.tmp 96), none⟩, ⟨some 98, AOp.fieldAddr 2 (Opd.tmp 97), none⟩, ⟨some 99, AOp.load
    (Opd.tmp 98), none⟩, ⟨some 100, AOp.lenL (Opd.tmp 99), none⟩, ⟨some 101, AOp.bin (BinOp.leq) (Opd.tmp 100) (Opd.const (V.int (IntKind.i64) 16)), none⟩]) (ACode.cond (Opd.tmp 101) (ACode.region
    [⟨some 102, AOp.move (Opd.tmp 0), none⟩, ⟨some 103, AOp.move (Opd.tmp 0), none⟩, ⟨some 104, AOp.nilCheck (Opd.tmp 103), none⟩, ⟨some 105, AOp.fieldAddr 2 (Opd.tmp 104), none⟩, ⟨some 106, AOp.load
    (Opd.tmp 105), none⟩, ⟨some 107, AOp.buildSlice 3 1 [V.int (IntKind.i64) 0] 1 [(0, 1, Opd.const (V.int (IntKind.i64) 0))], none⟩, ⟨some 108, AOp.append 3 1 8 (Opd.tmp 106) (Opd.tmp 107), none⟩,
    ⟨some 109, AOp.nilCheck (Opd.tmp 102), none⟩, ⟨some 110, AOp.fieldAddr 2 (Opd.tmp 109), none⟩, ⟨none, AOp.store 1 (Opd.tmp 110) (Opd.tmp 108), none⟩]) (ACode.skip)))) (ACode.seq (ACode.region
    [⟨some 112, AOp.move (Opd.tmp 1), none⟩, ⟨some 113, AOp.bin (BinOp.eql) (Opd.tmp 112) (Opd.const (V.int (IntKind.i32) 63)), none⟩, ⟨some 114, AOp.move (Opd.tmp 113), none⟩, ⟨some 115, AOp.move
    (Opd.tmp 6), some (114, true)⟩, ⟨some 116, AOp.pick (Opd.tmp 114) (Opd.tmp 115) (Opd.const (V.bool false)), none⟩, ⟨some 111, AOp.move (Opd.tmp 116), none⟩]) (ACode.cond (Opd.tmp 111) (ACode.seq
    (ACode.region [⟨some 117, AOp.move (Opd.tmp 0), none⟩, ⟨some 118, AOp.nilCheck (Opd.tmp 117), none⟩, ⟨some 119, AOp.fieldAddr 5 (Opd.tmp 118), none⟩, ⟨none, AOp.store 1 (Opd.tmp 119) (Opd.const
    (V.bool false)), none⟩]) (ACode.region [⟨some 120, AOp.move (Opd.tmp 0), none⟩, ⟨some 121, AOp.nilCheck (Opd.tmp 120), none⟩, ⟨some 122, AOp.fieldAddr 3 (Opd.tmp 121), none⟩, ⟨none, AOp.store 1
    (Opd.tmp 122) (Opd.const (V.bool true)), none⟩])) (ACode.seq (ACode.region [⟨some 124, AOp.move (Opd.tmp 1), none⟩, ⟨some 125, AOp.bin (BinOp.geq) (Opd.tmp 124) (Opd.const (V.int (IntKind.i32)
    64)), none⟩, ⟨some 123, AOp.move (Opd.tmp 125), none⟩]) (ACode.cond (Opd.tmp 123) (ACode.seq (ACode.region [⟨some 126, AOp.move (Opd.tmp 0), none⟩, ⟨some 127, AOp.nilCheck (Opd.tmp 126), none⟩,
    ⟨some 128, AOp.fieldAddr 1 (Opd.tmp 127), none⟩, ⟨none, AOp.store 1 (Opd.tmp 128) (Opd.const (V.int (IntKind.i64) 0)), none⟩]) (ACode.seq (ACode.region [⟨some 129, AOp.move (Opd.tmp 0), none⟩,
    ⟨some 130, AOp.nilCheck (Opd.tmp 129), none⟩, ⟨some 131, AOp.fieldAddr 4 (Opd.tmp 130), none⟩, ⟨some 132, AOp.load (Opd.tmp 131), none⟩, ⟨some 133, AOp.un (UnOp.not) (Opd.tmp 132), none⟩])
    (ACode.cond (Opd.tmp 133) (ACode.seq (ACode.region [⟨some 134, AOp.move (Opd.tmp 0), none⟩, ⟨some 135, AOp.nilCheck (Opd.tmp 134), none⟩, ⟨some 136, AOp.fieldAddr 2 (Opd.tmp 135), none⟩, ⟨some
    137, AOp.load (Opd.tmp 136), none⟩, ⟨some 8, AOp.move (Opd.tmp 137), none⟩]) (ACode.seq (ACode.seq (ACode.region [⟨some 138, AOp.move (Opd.tmp 8), none⟩, ⟨some 139, AOp.lenL (Opd.tmp 138), none⟩,
    ⟨some 140, AOp.bin (BinOp.gtr) (Opd.tmp 139) (Opd.const (V.int (IntKind.i64) 16)), none⟩]) (ACode.cond (Opd.tmp 140) (ACode.region [⟨some 141, AOp.move (Opd.tmp 8), none⟩, ⟨some 142, AOp.sliceSl 1
    (Opd.tmp 141) none (some (Opd.const (V.int (IntKind.i64) 16))) none, none⟩, ⟨some 8, AOp.move (Opd.tmp 142), none⟩]) (ACode.skip))) (ACode.seq (ACode.anyRegion [⟨some 143, AOp.move (Opd.tmp 1),
    none⟩, ⟨some 144, AOp.move (Opd.tmp 0), none⟩, ⟨some 145, AOp.nilCheck (Opd.tmp 144), none⟩, ⟨some 146, AOp.fieldAddr 3 (Opd.tmp 145), none⟩, ⟨some 147, AOp.load (Opd.tmp 146), none⟩, ⟨some 148,
    AOp.buildSlice 3 1 [V.int (IntKind.i64) 0] 0 [], none⟩, ⟨some 149, AOp.move (Opd.tmp 8), none⟩, ⟨some 150, AOp.append 3 1 8 (Opd.tmp 148) (Opd.tmp 149), none⟩, ⟨some 151, AOp.build [V.int
    (IntKind.i64) 0, V.int (IntKind.i32) 0, V.bool false, V.nilslice] [(0, 1, Opd.const (V.int (IntKind.i64) 4)), (1, 1, Opd.tmp 143), (2, 1, Opd.tmp 147), (3, 1, Opd.tmp 150)], none⟩, ⟨none,
    AOp.store 4 (Opd.tmp 4) (Opd.tmp 151), none⟩, ⟨some 5, AOp.move (Opd.const (V.bool true)), none⟩] [(4, 6), (4, 8)]) (ACode.ret)))) (ACode.skip)))) (ACode.seq (ACode.region [⟨some 19, AOp.move
    (Opd.tmp 0), none⟩, ⟨some 20, AOp.nilCheck (Opd.tmp 19), none⟩, ⟨some 21, AOp.fieldAddr 5 (Opd.tmp 20), none⟩, ⟨none, AOp.store 1 (Opd.tmp 21) (Opd.const (V.bool false)), none⟩]) (ACode.region
    [⟨some 22, AOp.move (Opd.tmp 0), none⟩, ⟨some 23, AOp.nilCheck (Opd.tmp 22), none⟩, ⟨some 24, AOp.fieldAddr 4 (Opd.tmp 23), none⟩, ⟨none, AOp.store 1 (Opd.tmp 24) (Opd.const (V.bool true)),
    none⟩]))))))))))))))))) (ACode.seq (ACode.region [⟨some 152, AOp.call (Opd.func 31) [], none⟩, ⟨some 153, AOp.extract (Opd.tmp 152) 0, none⟩, ⟨some 154, AOp.extract (Opd.tmp 152) 1, none⟩, ⟨none,
    AOp.store 4 (Opd.tmp 4) (Opd.tmp 153), none⟩, ⟨some 5, AOp.move (Opd.tmp 154), none⟩]) (ACode.ret)))))⟩
theorem h35 : compFn Tryd.prog Tryd.f35 = some c35 := by kernel_rfl
/-- Function 36: utf8.RuneStart. -/
def c36 : AFn :=
  ⟨6, [ARes.tmp 2], ACode.seq (ACode.region [⟨some 2, AOp.move (Opd.const (V.bool false)), none⟩]) (ACode.seq (ACode.region [⟨some 3, AOp.move (Opd.tmp 0), none⟩, ⟨some 4, AOp.bin (BinOp.and) (Opd.tmp
    3) (Opd.const (V.int (IntKind.u8) 192)), none⟩, ⟨some 5, AOp.bin (BinOp.neq) (Opd.tmp 4) (Opd.const (V.int (IntKind.u8) 128)), none⟩, ⟨some 2, AOp.move (Opd.tmp 5), none⟩]) (ACode.ret))⟩
theorem h36 : compFn Tryd.prog Tryd.f36 = some c36 := by kernel_rfl
/-- Function 37: utf8.FullRune. -/
def c37 : AFn :=
  ⟨56, [ARes.tmp 2], ACode.seq (ACode.region [⟨some 2, AOp.move (Opd.const (V.bool false)), none⟩]) (ACode.seq (ACode.region [⟨some 6, AOp.move (Opd.tmp 0), none⟩, ⟨some 7, AOp.lenL (Opd.tmp 6),
    none⟩, ⟨some 3, AOp.move (Opd.tmp 7), none⟩]) (ACode.seq (ACode.seq (ACode.region [⟨some 8, AOp.move (Opd.tmp 3), none⟩, ⟨some 9, AOp.bin (BinOp.eql) (Opd.tmp 8) (Opd.const (V.int (IntKind.i64)
    0)), none⟩]) (ACode.cond (Opd.tmp 9) (ACode.seq (ACode.region [⟨some 2, AOp.move (Opd.const (V.bool false)), none⟩]) (ACode.ret)) (ACode.skip))) (ACode.seq (ACode.region [⟨some 10, AOp.move
    (Opd.tmp 0), none⟩, ⟨some 11, AOp.indexAddrS 1 (Opd.tmp 10) (Opd.const (V.int (IntKind.i64) 0)), none⟩, ⟨some 12, AOp.load (Opd.tmp 11), none⟩, ⟨some 13, AOp.indexAddrA 256 1 (Opd.glob 2) (Opd.tmp
    12), none⟩, ⟨some 14, AOp.load (Opd.tmp 13), none⟩, ⟨some 4, AOp.move (Opd.tmp 14), none⟩]) (ACode.seq (ACode.seq (ACode.region [⟨some 15, AOp.move (Opd.tmp 3), none⟩, ⟨some 16, AOp.move (Opd.tmp
    4), none⟩, ⟨some 17, AOp.bin (BinOp.and) (Opd.tmp 16) (Opd.const (V.int (IntKind.u8) 7)), none⟩, ⟨some 18, AOp.conv (IntKind.i64) (Opd.tmp 17), none⟩, ⟨some 19, AOp.bin (BinOp.geq) (Opd.tmp 15)
    (Opd.tmp 18), none⟩]) (ACode.cond (Opd.tmp 19) (ACode.seq (ACode.region [⟨some 2, AOp.move (Opd.const (V.bool true)), none⟩]) (ACode.ret)) (ACode.skip))) (ACode.seq (ACode.region [⟨some 20,
    AOp.move (Opd.tmp 4), none⟩, ⟨some 21, AOp.bin (BinOp.shr) (Opd.tmp 20) (Opd.const (V.int (IntKind.u64) 4)), none⟩, ⟨some 22, AOp.indexAddrA 16 2 (Opd.glob 3) (Opd.tmp 21), none⟩, ⟨some 23,
    AOp.loadn 2 (Opd.tmp 22), none⟩, ⟨some 5, AOp.box 77 1 [V.int (IntKind.u8) 0, V.int (IntKind.u8) 0], none⟩, ⟨none, AOp.store 2 (Opd.tmp 5) (Opd.tmp 23), none⟩]) (ACode.seq (ACode.seq
    (ACode.anyRegion [⟨some 24, AOp.move (Opd.tmp 3), none⟩, ⟨some 25, AOp.bin (BinOp.gtr) (Opd.tmp 24) (Opd.const (V.int (IntKind.i64) 1)), none⟩, ⟨some 26, AOp.move (Opd.tmp 25), none⟩, ⟨some 27,
    AOp.move (Opd.tmp 0), some (26, true)⟩, ⟨some 28, AOp.indexAddrS 1 (Opd.tmp 27) (Opd.const (V.int (IntKind.i64) 1)), some (26, true)⟩, ⟨some 29, AOp.load (Opd.tmp 28), some (26, true)⟩, ⟨some 30,
    AOp.fieldAddr 0 (Opd.tmp 5), some (26, true)⟩, ⟨some 31, AOp.load (Opd.tmp 30), some (26, true)⟩, ⟨some 32, AOp.bin (BinOp.lss) (Opd.tmp 29) (Opd.tmp 31), some (26, true)⟩, ⟨some 33, AOp.move
    (Opd.tmp 32), some (26, true)⟩, ⟨some 34, AOp.fieldAddr 1 (Opd.tmp 5), some (33, false)⟩, ⟨some 35, AOp.load (Opd.tmp 34), some (33, false)⟩, ⟨some 36, AOp.move (Opd.tmp 0), some (33, false)⟩,
    ⟨some 37, AOp.indexAddrS 1 (Opd.tmp 36) (Opd.const (V.int (IntKind.i64) 1)), some (33, false)⟩, ⟨some 38, AOp.load (Opd.tmp 37), some (33, false)⟩, ⟨some 39, AOp.bin (BinOp.lss) (Opd.tmp 35)
    (Opd.tmp 38), some (33, false)⟩, ⟨some 40, AOp.pick (Opd.tmp 33) (Opd.const (V.bool true)) (Opd.tmp 39), some (26, true)⟩, ⟨some 41, AOp.pick (Opd.tmp 26) (Opd.tmp 40) (Opd.const (V.bool false)),
    none⟩] []) (ACode.cond (Opd.tmp 41) (ACode.seq (ACode.region [⟨some 2, AOp.move (Opd.const (V.bool true)), none⟩]) (ACode.ret)) (ACode.seq (ACode.region [⟨some 42, AOp.move (Opd.tmp 3), none⟩,
    ⟨some 43, AOp.bin (BinOp.gtr) (Opd.tmp 42) (Opd.const (V.int (IntKind.i64) 2)), none⟩, ⟨some 44, AOp.move (Opd.tmp 43), none⟩, ⟨some 45, AOp.move (Opd.tmp 0), some (44, true)⟩, ⟨some 46,
    AOp.indexAddrS 1 (Opd.tmp 45) (Opd.const (V.int (IntKind.i64) 2)), some (44, true)⟩, ⟨some 47, AOp.load (Opd.tmp 46), some (44, true)⟩, ⟨some 48, AOp.bin (BinOp.lss) (Opd.tmp 47) (Opd.const (V.int
    (IntKind.u8) 128)), some (44, true)⟩, ⟨some 49, AOp.move (Opd.tmp 48), some (44, true)⟩, ⟨some 50, AOp.move (Opd.tmp 0), some (49, false)⟩, ⟨some 51, AOp.indexAddrS 1 (Opd.tmp 50) (Opd.const
    (V.int (IntKind.i64) 2)), some (49, false)⟩, ⟨some 52, AOp.load (Opd.tmp 51), some (49, false)⟩, ⟨some 53, AOp.bin (BinOp.lss) (Opd.const (V.int (IntKind.u8) 191)) (Opd.tmp 52), some (49, false)⟩,
    ⟨some 54, AOp.pick (Opd.tmp 49) (Opd.const (V.bool true)) (Opd.tmp 53), some (44, true)⟩, ⟨some 55, AOp.pick (Opd.tmp 44) (Opd.tmp 54) (Opd.const (V.bool false)), none⟩]) (ACode.cond (Opd.tmp 55)
    (ACode.seq (ACode.region [⟨some 2, AOp.move (Opd.const (V.bool true)), none⟩]) (ACode.ret)) (ACode.skip))))) (ACode.seq (ACode.region [⟨some 2, AOp.move (Opd.const (V.bool false)), none⟩])
    (ACode.ret))))))))⟩
theorem h37 : compFn Tryd.prog Tryd.f37 = some c37 := by kernel_rfl
/-- A loop of function 38. -/
def c38_l0 : ACode :=
  ACode.seq (ACode.region [⟨some 8, AOp.next (Opd.tmp 7), none⟩, ⟨some 9, AOp.extract (Opd.tmp 8) 0, none⟩]) (ACode.seq (ACode.cond (Opd.tmp 9) (ACode.skip) (ACode.exit 0)) (ACode.block 1 (ACode.seq
    (ACode.region [⟨some 10, AOp.extract (Opd.tmp 8) 2, none⟩, ⟨some 5, AOp.move (Opd.tmp 10), none⟩]) (ACode.region [⟨some 11, AOp.move (Opd.tmp 3), none⟩, ⟨some 12, AOp.move (Opd.tmp 5), none⟩,
    ⟨some 13, AOp.buildSlice 21 1 [V.int (IntKind.i32) 0] 1 [(0, 1, Opd.tmp 12)], none⟩, ⟨some 14, AOp.append 21 1 4 (Opd.tmp 11) (Opd.tmp 13), none⟩, ⟨some 3, AOp.move (Opd.tmp 14), none⟩]))))
theorem c38_l0_wr : c38_l0.wr = [8, 9, 10, 5, 11, 12, 13, 14, 3] := by kernel_rfl
/-- Function 38: utf.Runes. -/
def c38 : AFn :=
  ⟨16, [ARes.tmp 2], ACode.seq (ACode.region [⟨some 2, AOp.move (Opd.const (V.nilslice)), none⟩]) (ACode.seq (ACode.region [⟨some 3, AOp.move (Opd.const (V.nilslice)), none⟩]) (ACode.seq (ACode.seq
    (ACode.region [⟨some 6, AOp.move (Opd.tmp 0), none⟩, ⟨some 7, AOp.range (Opd.tmp 6), none⟩]) (ACode.block 0 (ACode.loop c38_l0))) (ACode.seq (ACode.region [⟨some 15, AOp.move (Opd.tmp 3), none⟩,
    ⟨some 2, AOp.move (Opd.tmp 15), none⟩]) (ACode.ret))))⟩
theorem h38 : compFn Tryd.prog Tryd.f38 = some c38 := by kernel_rfl
/-- A loop of function 39. -/
def c39_l0 : ACode :=
  ACode.seq (ACode.seq (ACode.region [⟨some 52, AOp.move (Opd.tmp 7), none⟩, ⟨some 53, AOp.move (Opd.tmp 0), none⟩, ⟨some 54, AOp.lenL (Opd.tmp 53), none⟩, ⟨some 55, AOp.bin (BinOp.lss) (Opd.tmp 52)
    (Opd.tmp 54), none⟩]) (ACode.cond (Opd.tmp 55) (ACode.skip) (ACode.exit 1))) (ACode.seq (ACode.block 2 (ACode.seq (ACode.seq (ACode.region [⟨some 58, AOp.move (Opd.tmp 0), none⟩, ⟨some 59,
    AOp.move (Opd.tmp 7), none⟩, ⟨some 60, AOp.indexAddrS 1 (Opd.tmp 58) (Opd.tmp 59), none⟩, ⟨some 61, AOp.load (Opd.tmp 60), none⟩, ⟨some 62, AOp.move (Opd.tmp 5), none⟩, ⟨some 63, AOp.bin
    (BinOp.lss) (Opd.tmp 61) (Opd.tmp 62), none⟩, ⟨some 64, AOp.move (Opd.tmp 63), none⟩, ⟨some 65, AOp.move (Opd.tmp 0), some (64, false)⟩, ⟨some 66, AOp.move (Opd.tmp 7), some (64, false)⟩, ⟨some
    67, AOp.indexAddrS 1 (Opd.tmp 65) (Opd.tmp 66), some (64, false)⟩, ⟨some 68, AOp.load (Opd.tmp 67), some (64, false)⟩, ⟨some 69, AOp.move (Opd.tmp 6), some (64, false)⟩, ⟨some 70, AOp.bin
    (BinOp.gtr) (Opd.tmp 68) (Opd.tmp 69), some (64, false)⟩, ⟨some 71, AOp.pick (Opd.tmp 64) (Opd.const (V.bool true)) (Opd.tmp 70), none⟩]) (ACode.cond (Opd.tmp 71) (ACode.seq (ACode.region [⟨some
    2, AOp.move (Opd.const (V.bool false)), none⟩]) (ACode.ret)) (ACode.skip))) (ACode.seq (ACode.region [⟨some 5, AOp.move (Opd.const (V.int (IntKind.u8) 128)), none⟩]) (ACode.region [⟨some 6,
    AOp.move (Opd.const (V.int (IntKind.u8) 191)), none⟩])))) (ACode.region [⟨some 56, AOp.move (Opd.tmp 7), none⟩, ⟨some 57, AOp.bin (BinOp.add) (Opd.tmp 56) (Opd.const (V.int (IntKind.i64) 1)),
    none⟩, ⟨some 7, AOp.move (Opd.tmp 57), none⟩]))
theorem c39_l0_wr : c39_l0.wr = [52, 53, 54, 55, 58, 59, 60, 61, 62, 63, 64, 65, 66, 67, 68, 69, 70, 71, 2, 5, 6, 56, 57, 7] := by kernel_rfl
/-- What follows in function 39. -/
def c39_s7 : ACode :=
  ACode.seq (ACode.seq (ACode.region [⟨some 48, AOp.move (Opd.tmp 0), none⟩, ⟨some 49, AOp.lenL (Opd.tmp 48), none⟩, ⟨some 50, AOp.move (Opd.tmp 4), none⟩, ⟨some 51, AOp.bin (BinOp.geq) (Opd.tmp 49)
    (Opd.tmp 50), none⟩]) (ACode.cond (Opd.tmp 51) (ACode.seq (ACode.region [⟨some 2, AOp.move (Opd.const (V.bool false)), none⟩]) (ACode.ret)) (ACode.skip))) (ACode.seq (ACode.seq (ACode.region
    [⟨some 7, AOp.move (Opd.const (V.int (IntKind.i64) 1)), none⟩]) (ACode.block 1 (ACode.loop c39_l0))) (ACode.seq (ACode.region [⟨some 2, AOp.move (Opd.const (V.bool true)), none⟩]) (ACode.ret)))
/-- Function 39: portholeref19.may. -/
def c39 : AFn :=
  ⟨72, [ARes.tmp 2], ACode.seq (ACode.region [⟨some 2, AOp.move (Opd.const (V.bool false)), none⟩]) (ACode.seq (ACode.seq (ACode.region [⟨some 8, AOp.move (Opd.tmp 0), none⟩, ⟨some 9, AOp.lenL
    (Opd.tmp 8), none⟩, ⟨some 10, AOp.bin (BinOp.eql) (Opd.tmp 9) (Opd.const (V.int (IntKind.i64) 0)), none⟩, ⟨some 11, AOp.move (Opd.tmp 10), none⟩, ⟨some 12, AOp.move (Opd.tmp 0), some (11, false)⟩,
    ⟨some 13, AOp.lenL (Opd.tmp 12), some (11, false)⟩, ⟨some 14, AOp.bin (BinOp.gtr) (Opd.tmp 13) (Opd.const (V.int (IntKind.i64) 3)), some (11, false)⟩, ⟨some 15, AOp.pick (Opd.tmp 11) (Opd.const
    (V.bool true)) (Opd.tmp 14), none⟩]) (ACode.cond (Opd.tmp 15) (ACode.seq (ACode.region [⟨some 2, AOp.move (Opd.const (V.bool false)), none⟩]) (ACode.ret)) (ACode.skip))) (ACode.seq (ACode.region
    [⟨some 16, AOp.move (Opd.tmp 0), none⟩, ⟨some 17, AOp.indexAddrS 1 (Opd.tmp 16) (Opd.const (V.int (IntKind.i64) 0)), none⟩, ⟨some 18, AOp.load (Opd.tmp 17), none⟩, ⟨some 3, AOp.move (Opd.tmp 18),
    none⟩]) (ACode.seq (ACode.region [⟨some 4, AOp.move (Opd.const (V.int (IntKind.i64) 0)), none⟩]) (ACode.seq (ACode.region [⟨some 5, AOp.move (Opd.const (V.int (IntKind.u8) 128)), none⟩])
    (ACode.seq (ACode.region [⟨some 6, AOp.move (Opd.const (V.int (IntKind.u8) 191)), none⟩]) (ACode.seq (ACode.block 0 (ACode.seq (ACode.region [⟨some 20, AOp.move (Opd.tmp 3), none⟩, ⟨some 21,
    AOp.bin (BinOp.geq) (Opd.tmp 20) (Opd.const (V.int (IntKind.u8) 194)), none⟩, ⟨some 22, AOp.move (Opd.tmp 21), none⟩, ⟨some 23, AOp.move (Opd.tmp 3), some (22, true)⟩, ⟨some 24, AOp.bin
    (BinOp.leq) (Opd.tmp 23) (Opd.const (V.int (IntKind.u8) 223)), some (22, true)⟩, ⟨some 25, AOp.pick (Opd.tmp 22) (Opd.tmp 24) (Opd.const (V.bool false)), none⟩, ⟨some 19, AOp.move (Opd.tmp 25),
    none⟩]) (ACode.cond (Opd.tmp 19) (ACode.region [⟨some 4, AOp.move (Opd.const (V.int (IntKind.i64) 2)), none⟩]) (ACode.seq (ACode.region [⟨some 27, AOp.move (Opd.tmp 3), none⟩, ⟨some 28, AOp.bin
    (BinOp.geq) (Opd.tmp 27) (Opd.const (V.int (IntKind.u8) 224)), none⟩, ⟨some 29, AOp.move (Opd.tmp 28), none⟩, ⟨some 30, AOp.move (Opd.tmp 3), some (29, true)⟩, ⟨some 31, AOp.bin (BinOp.leq)
    (Opd.tmp 30) (Opd.const (V.int (IntKind.u8) 239)), some (29, true)⟩, ⟨some 32, AOp.pick (Opd.tmp 29) (Opd.tmp 31) (Opd.const (V.bool false)), none⟩, ⟨some 26, AOp.move (Opd.tmp 32), none⟩])
    (ACode.cond (Opd.tmp 26) (ACode.seq (ACode.region [⟨some 4, AOp.move (Opd.const (V.int (IntKind.i64) 3)), none⟩]) (ACode.seq (ACode.seq (ACode.region [⟨some 33, AOp.move (Opd.tmp 3), none⟩, ⟨some
    34, AOp.bin (BinOp.eql) (Opd.tmp 33) (Opd.const (V.int (IntKind.u8) 224)), none⟩]) (ACode.cond (Opd.tmp 34) (ACode.region [⟨some 5, AOp.move (Opd.const (V.int (IntKind.u8) 160)), none⟩])
    (ACode.skip))) (ACode.seq (ACode.region [⟨some 35, AOp.move (Opd.tmp 3), none⟩, ⟨some 36, AOp.bin (BinOp.eql) (Opd.tmp 35) (Opd.const (V.int (IntKind.u8) 237)), none⟩]) (ACode.cond (Opd.tmp 36)
    (ACode.region [⟨some 6, AOp.move (Opd.const (V.int (IntKind.u8) 159)), none⟩]) (ACode.skip))))) (ACode.seq (ACode.region [⟨some 38, AOp.move (Opd.tmp 3), none⟩, ⟨some 39, AOp.bin (BinOp.geq)
    (Opd.tmp 38) (Opd.const (V.int (IntKind.u8) 240)), none⟩, ⟨some 40, AOp.move (Opd.tmp 39), none⟩, ⟨some 41, AOp.move (Opd.tmp 3), some (40, true)⟩, ⟨some 42, AOp.bin (BinOp.leq) (Opd.tmp 41)
    (Opd.const (V.int (IntKind.u8) 244)), some (40, true)⟩, ⟨some 43, AOp.pick (Opd.tmp 40) (Opd.tmp 42) (Opd.const (V.bool false)), none⟩, ⟨some 37, AOp.move (Opd.tmp 43), none⟩]) (ACode.cond
    (Opd.tmp 37) (ACode.seq (ACode.region [⟨some 4, AOp.move (Opd.const (V.int (IntKind.i64) 4)), none⟩]) (ACode.seq (ACode.seq (ACode.region [⟨some 44, AOp.move (Opd.tmp 3), none⟩, ⟨some 45, AOp.bin
    (BinOp.eql) (Opd.tmp 44) (Opd.const (V.int (IntKind.u8) 240)), none⟩]) (ACode.cond (Opd.tmp 45) (ACode.region [⟨some 5, AOp.move (Opd.const (V.int (IntKind.u8) 144)), none⟩]) (ACode.skip)))
    (ACode.seq (ACode.region [⟨some 46, AOp.move (Opd.tmp 3), none⟩, ⟨some 47, AOp.bin (BinOp.eql) (Opd.tmp 46) (Opd.const (V.int (IntKind.u8) 244)), none⟩]) (ACode.cond (Opd.tmp 47) (ACode.region
    [⟨some 6, AOp.move (Opd.const (V.int (IntKind.u8) 143)), none⟩]) (ACode.skip))))) (ACode.skip)))))))) c39_s7))))))⟩
theorem h39 : compFn Tryd.prog Tryd.f39 = some c39 := by kernel_rfl
/-- A loop of function 40. -/
def c40_l0 : ACode :=
  ACode.seq (ACode.region [⟨some 8, AOp.next (Opd.tmp 7), none⟩, ⟨some 9, AOp.extract (Opd.tmp 8) 0, none⟩]) (ACode.seq (ACode.cond (Opd.tmp 9) (ACode.skip) (ACode.exit 0)) (ACode.block 1 (ACode.seq
    (ACode.region [⟨some 10, AOp.extract (Opd.tmp 8) 2, none⟩, ⟨some 5, AOp.move (Opd.tmp 10), none⟩]) (ACode.region [⟨some 11, AOp.move (Opd.tmp 3), none⟩, ⟨some 12, AOp.move (Opd.tmp 5), none⟩,
    ⟨some 13, AOp.buildSlice 21 1 [V.int (IntKind.i32) 0] 1 [(0, 1, Opd.tmp 12)], none⟩, ⟨some 14, AOp.append 21 1 4 (Opd.tmp 11) (Opd.tmp 13), none⟩, ⟨some 3, AOp.move (Opd.tmp 14), none⟩]))))
theorem c40_l0_wr : c40_l0.wr = [8, 9, 10, 5, 11, 12, 13, 14, 3] := by kernel_rfl
/-- Function 40: portholeref19.Runes. -/
def c40 : AFn :=
  ⟨16, [ARes.tmp 2], ACode.seq (ACode.region [⟨some 2, AOp.move (Opd.const (V.nilslice)), none⟩]) (ACode.seq (ACode.region [⟨some 3, AOp.move (Opd.const (V.nilslice)), none⟩]) (ACode.seq (ACode.seq
    (ACode.region [⟨some 6, AOp.move (Opd.tmp 0), none⟩, ⟨some 7, AOp.range (Opd.tmp 6), none⟩]) (ACode.block 0 (ACode.loop c40_l0))) (ACode.seq (ACode.region [⟨some 15, AOp.move (Opd.tmp 3), none⟩,
    ⟨some 2, AOp.move (Opd.tmp 15), none⟩]) (ACode.ret))))⟩
theorem h40 : compFn Tryd.prog Tryd.f40 = some c40 := by kernel_rfl
/-- Function 41: vt.control. -/
def c41 : AFn :=
  ⟨9, [ARes.tmp 2], ACode.seq (ACode.region [⟨some 2, AOp.move (Opd.const (V.bool false)), none⟩]) (ACode.seq (ACode.region [⟨some 3, AOp.move (Opd.tmp 0), none⟩, ⟨some 4, AOp.bin (BinOp.geq) (Opd.tmp
    3) (Opd.const (V.int (IntKind.i32) 7)), none⟩, ⟨some 5, AOp.move (Opd.tmp 4), none⟩, ⟨some 6, AOp.move (Opd.tmp 0), some (5, true)⟩, ⟨some 7, AOp.bin (BinOp.leq) (Opd.tmp 6) (Opd.const (V.int
    (IntKind.i32) 13)), some (5, true)⟩, ⟨some 8, AOp.pick (Opd.tmp 5) (Opd.tmp 7) (Opd.const (V.bool false)), none⟩, ⟨some 2, AOp.move (Opd.tmp 8), none⟩]) (ACode.ret))⟩
theorem h41 : compFn Tryd.prog Tryd.f41 = some c41 := by kernel_rfl
/-- What the laid variables hold. -/
def laidVals : List (Nat × List V) :=
  [(3, [V.int .u8 128, V.int .u8 191, V.int .u8 160, V.int .u8 191, V.int .u8 128, V.int .u8 159, V.int .u8 144, V.int .u8 191, V.int .u8 128, V.int .u8 143, V.int .u8 0,
    V.int .u8 0, V.int .u8 0, V.int .u8 0, V.int .u8 0, V.int .u8 0, V.int .u8 0, V.int .u8 0, V.int .u8 0, V.int .u8 0, V.int .u8 0, V.int .u8 0, V.int .u8 0,
    V.int .u8 0, V.int .u8 0, V.int .u8 0, V.int .u8 0, V.int .u8 0, V.int .u8 0, V.int .u8 0, V.int .u8 0, V.int .u8 0]),
   (0, [V.str [97], V.str [66, 99], V.str [120,
    121, 122], V.str [195, 169], V.str [226, 130, 172], V.str [13, 10], V.str [10], V.str [13], V.str [8], V.str [9], V.str [27, 91, 65], V.str [27, 91, 50, 66],
    V.str [27, 91, 51, 67], V.str [27, 91, 68], V.str [27, 91, 72], V.str [27, 91, 50, 59, 51, 72], V.str [27, 91, 74], V.str [27, 91, 49, 74], V.str [27, 91, 50, 74],
    V.str [27, 91, 75], V.str [27, 91, 49, 75], V.str [27, 91, 76], V.str [27, 91, 77], V.str [27, 91, 50, 64], V.str [27, 91, 80], V.str [27, 91, 88], V.str [27, 91, 83],
    V.str [27, 91, 84], V.str [27, 91, 49, 59, 51, 49, 109], V.str [27, 91, 48, 109], V.str [27, 77], V.str [27, 55], V.str [27, 56], V.str [27, 91, 63, 49, 48, 52, 57,
    104]]),
   (1, [V.str [27, 91, 63, 49, 48, 52, 57, 108], V.str [27, 91, 63, 55, 108], V.str [27, 91, 63, 55, 104], V.str [27, 91, 63, 50, 53, 108], V.str [27, 91, 63,
    50, 53, 104], V.str [27, 91, 52, 104], V.str [27, 91, 52, 108], V.str [27, 72], V.str [27, 91, 103], V.str [27, 91, 51, 103], V.str [27, 99], V.str [27, 68],
    V.str [27, 69], V.str [27, 93, 48, 59, 116, 7], V.str [27, 40, 66], V.str [27, 91, 57, 57, 59, 57, 57, 72], V.str [27, 91, 51, 74], V.str [27, 91, 55, 59, 52, 50,
    109], V.str [27, 91, 51, 57, 59, 52, 57, 109], V.str [255], V.str [226, 130], V.str [27, 91, 53, 71]]),
   (2, [V.int .u8 240, V.int .u8 240, V.int .u8 240,
    V.int .u8 240, V.int .u8 240, V.int .u8 240, V.int .u8 240, V.int .u8 240, V.int .u8 240, V.int .u8 240, V.int .u8 240, V.int .u8 240, V.int .u8 240, V.int .u8 240,
    V.int .u8 240, V.int .u8 240, V.int .u8 240, V.int .u8 240, V.int .u8 240, V.int .u8 240, V.int .u8 240, V.int .u8 240, V.int .u8 240, V.int .u8 240, V.int .u8 240,
    V.int .u8 240, V.int .u8 240, V.int .u8 240, V.int .u8 240, V.int .u8 240, V.int .u8 240, V.int .u8 240, V.int .u8 240, V.int .u8 240, V.int .u8 240, V.int .u8 240,
    V.int .u8 240, V.int .u8 240, V.int .u8 240, V.int .u8 240, V.int .u8 240, V.int .u8 240, V.int .u8 240, V.int .u8 240, V.int .u8 240, V.int .u8 240, V.int .u8 240,
    V.int .u8 240, V.int .u8 240, V.int .u8 240, V.int .u8 240, V.int .u8 240, V.int .u8 240, V.int .u8 240, V.int .u8 240, V.int .u8 240, V.int .u8 240, V.int .u8 240,
    V.int .u8 240, V.int .u8 240, V.int .u8 240, V.int .u8 240, V.int .u8 240, V.int .u8 240, V.int .u8 240, V.int .u8 240, V.int .u8 240, V.int .u8 240, V.int .u8 240,
    V.int .u8 240, V.int .u8 240, V.int .u8 240, V.int .u8 240, V.int .u8 240, V.int .u8 240, V.int .u8 240, V.int .u8 240, V.int .u8 240, V.int .u8 240, V.int .u8 240,
    V.int .u8 240, V.int .u8 240, V.int .u8 240, V.int .u8 240, V.int .u8 240, V.int .u8 240, V.int .u8 240, V.int .u8 240, V.int .u8 240, V.int .u8 240, V.int .u8 240,
    V.int .u8 240, V.int .u8 240, V.int .u8 240, V.int .u8 240, V.int .u8 240, V.int .u8 240, V.int .u8 240, V.int .u8 240, V.int .u8 240, V.int .u8 240, V.int .u8 240,
    V.int .u8 240, V.int .u8 240, V.int .u8 240, V.int .u8 240, V.int .u8 240, V.int .u8 240, V.int .u8 240, V.int .u8 240, V.int .u8 240, V.int .u8 240, V.int .u8 240,
    V.int .u8 240, V.int .u8 240, V.int .u8 240, V.int .u8 240, V.int .u8 240, V.int .u8 240, V.int .u8 240, V.int .u8 240, V.int .u8 240, V.int .u8 240, V.int .u8 240,
    V.int .u8 240, V.int .u8 240, V.int .u8 240, V.int .u8 240, V.int .u8 241, V.int .u8 241, V.int .u8 241, V.int .u8 241, V.int .u8 241, V.int .u8 241, V.int .u8 241,
    V.int .u8 241, V.int .u8 241, V.int .u8 241, V.int .u8 241, V.int .u8 241, V.int .u8 241, V.int .u8 241, V.int .u8 241, V.int .u8 241, V.int .u8 241, V.int .u8 241,
    V.int .u8 241, V.int .u8 241, V.int .u8 241, V.int .u8 241, V.int .u8 241, V.int .u8 241, V.int .u8 241, V.int .u8 241, V.int .u8 241, V.int .u8 241, V.int .u8 241,
    V.int .u8 241, V.int .u8 241, V.int .u8 241, V.int .u8 241, V.int .u8 241, V.int .u8 241, V.int .u8 241, V.int .u8 241, V.int .u8 241, V.int .u8 241, V.int .u8 241,
    V.int .u8 241, V.int .u8 241, V.int .u8 241, V.int .u8 241, V.int .u8 241, V.int .u8 241, V.int .u8 241, V.int .u8 241, V.int .u8 241, V.int .u8 241, V.int .u8 241,
    V.int .u8 241, V.int .u8 241, V.int .u8 241, V.int .u8 241, V.int .u8 241, V.int .u8 241, V.int .u8 241, V.int .u8 241, V.int .u8 241, V.int .u8 241, V.int .u8 241,
    V.int .u8 241, V.int .u8 241, V.int .u8 241, V.int .u8 241, V.int .u8 2, V.int .u8 2, V.int .u8 2, V.int .u8 2, V.int .u8 2, V.int .u8 2, V.int .u8 2, V.int .u8 2,
    V.int .u8 2, V.int .u8 2, V.int .u8 2, V.int .u8 2, V.int .u8 2, V.int .u8 2, V.int .u8 2, V.int .u8 2, V.int .u8 2, V.int .u8 2, V.int .u8 2, V.int .u8 2,
    V.int .u8 2, V.int .u8 2, V.int .u8 2, V.int .u8 2, V.int .u8 2, V.int .u8 2, V.int .u8 2, V.int .u8 2, V.int .u8 2, V.int .u8 2, V.int .u8 19, V.int .u8 3,
    V.int .u8 3, V.int .u8 3, V.int .u8 3, V.int .u8 3, V.int .u8 3, V.int .u8 3, V.int .u8 3, V.int .u8 3, V.int .u8 3, V.int .u8 3, V.int .u8 3, V.int .u8 35,
    V.int .u8 3, V.int .u8 3, V.int .u8 52, V.int .u8 4, V.int .u8 4, V.int .u8 4, V.int .u8 68, V.int .u8 241, V.int .u8 241, V.int .u8 241, V.int .u8 241, V.int .u8 241,
    V.int .u8 241, V.int .u8 241, V.int .u8 241, V.int .u8 241, V.int .u8 241, V.int .u8 241])]
def tab (f : Nat) : Option AFn :=
  if f = 4 then some c4 else if f = 10 then some c10 else if f = 11 then some c11 else if f = 12 then some c12 else if f = 13 then some c13 else if f = 14 then some c14 else if f = 15 then some c15 else if f = 16 then some c16 else if f = 17 then some c17 else if f = 18 then some c18 else if f = 19 then some c19 else if f = 20 then some c20 else if f = 21 then some c21 else if f = 24 then some c24 else if f = 25 then some c25 else if f = 26 then some c26 else if f = 27 then some c27 else if f = 28 then some c28 else if f = 29 then some c29 else if f = 30 then some c30 else if f = 31 then some c31 else if f = 32 then some c32 else if f = 33 then some c33 else if f = 34 then some c34 else if f = 35 then some c35 else if f = 36 then some c36 else if f = 37 then some c37 else if f = 38 then some c38 else if f = 39 then some c39 else if f = 40 then some c40 else if f = 41 then some c41 else none
theorem tab_holds : Holds Tryd.prog tab := by
  intro f fn hf
  unfold tab at hf
  by_cases e4 : f = 4
  · rw [if_pos e4] at hf; subst e4; cases hf; exact ⟨_, Tryd.func4, h4⟩
  rw [if_neg e4] at hf
  by_cases e10 : f = 10
  · rw [if_pos e10] at hf; subst e10; cases hf; exact ⟨_, Tryd.func10, h10⟩
  rw [if_neg e10] at hf
  by_cases e11 : f = 11
  · rw [if_pos e11] at hf; subst e11; cases hf; exact ⟨_, Tryd.func11, h11⟩
  rw [if_neg e11] at hf
  by_cases e12 : f = 12
  · rw [if_pos e12] at hf; subst e12; cases hf; exact ⟨_, Tryd.func12, h12⟩
  rw [if_neg e12] at hf
  by_cases e13 : f = 13
  · rw [if_pos e13] at hf; subst e13; cases hf; exact ⟨_, Tryd.func13, h13⟩
  rw [if_neg e13] at hf
  by_cases e14 : f = 14
  · rw [if_pos e14] at hf; subst e14; cases hf; exact ⟨_, Tryd.func14, h14⟩
  rw [if_neg e14] at hf
  by_cases e15 : f = 15
  · rw [if_pos e15] at hf; subst e15; cases hf; exact ⟨_, Tryd.func15, h15⟩
  rw [if_neg e15] at hf
  by_cases e16 : f = 16
  · rw [if_pos e16] at hf; subst e16; cases hf; exact ⟨_, Tryd.func16, h16⟩
  rw [if_neg e16] at hf
  by_cases e17 : f = 17
  · rw [if_pos e17] at hf; subst e17; cases hf; exact ⟨_, Tryd.func17, h17⟩
  rw [if_neg e17] at hf
  by_cases e18 : f = 18
  · rw [if_pos e18] at hf; subst e18; cases hf; exact ⟨_, Tryd.func18, h18⟩
  rw [if_neg e18] at hf
  by_cases e19 : f = 19
  · rw [if_pos e19] at hf; subst e19; cases hf; exact ⟨_, Tryd.func19, h19⟩
  rw [if_neg e19] at hf
  by_cases e20 : f = 20
  · rw [if_pos e20] at hf; subst e20; cases hf; exact ⟨_, Tryd.func20, h20⟩
  rw [if_neg e20] at hf
  by_cases e21 : f = 21
  · rw [if_pos e21] at hf; subst e21; cases hf; exact ⟨_, Tryd.func21, h21⟩
  rw [if_neg e21] at hf
  by_cases e24 : f = 24
  · rw [if_pos e24] at hf; subst e24; cases hf; exact ⟨_, Tryd.func24, h24⟩
  rw [if_neg e24] at hf
  by_cases e25 : f = 25
  · rw [if_pos e25] at hf; subst e25; cases hf; exact ⟨_, Tryd.func25, h25⟩
  rw [if_neg e25] at hf
  by_cases e26 : f = 26
  · rw [if_pos e26] at hf; subst e26; cases hf; exact ⟨_, Tryd.func26, h26⟩
  rw [if_neg e26] at hf
  by_cases e27 : f = 27
  · rw [if_pos e27] at hf; subst e27; cases hf; exact ⟨_, Tryd.func27, h27⟩
  rw [if_neg e27] at hf
  by_cases e28 : f = 28
  · rw [if_pos e28] at hf; subst e28; cases hf; exact ⟨_, Tryd.func28, h28⟩
  rw [if_neg e28] at hf
  by_cases e29 : f = 29
  · rw [if_pos e29] at hf; subst e29; cases hf; exact ⟨_, Tryd.func29, h29⟩
  rw [if_neg e29] at hf
  by_cases e30 : f = 30
  · rw [if_pos e30] at hf; subst e30; cases hf; exact ⟨_, Tryd.func30, h30⟩
  rw [if_neg e30] at hf
  by_cases e31 : f = 31
  · rw [if_pos e31] at hf; subst e31; cases hf; exact ⟨_, Tryd.func31, h31⟩
  rw [if_neg e31] at hf
  by_cases e32 : f = 32
  · rw [if_pos e32] at hf; subst e32; cases hf; exact ⟨_, Tryd.func32, h32⟩
  rw [if_neg e32] at hf
  by_cases e33 : f = 33
  · rw [if_pos e33] at hf; subst e33; cases hf; exact ⟨_, Tryd.func33, h33⟩
  rw [if_neg e33] at hf
  by_cases e34 : f = 34
  · rw [if_pos e34] at hf; subst e34; cases hf; exact ⟨_, Tryd.func34, h34⟩
  rw [if_neg e34] at hf
  by_cases e35 : f = 35
  · rw [if_pos e35] at hf; subst e35; cases hf; exact ⟨_, Tryd.func35, h35⟩
  rw [if_neg e35] at hf
  by_cases e36 : f = 36
  · rw [if_pos e36] at hf; subst e36; cases hf; exact ⟨_, Tryd.func36, h36⟩
  rw [if_neg e36] at hf
  by_cases e37 : f = 37
  · rw [if_pos e37] at hf; subst e37; cases hf; exact ⟨_, Tryd.func37, h37⟩
  rw [if_neg e37] at hf
  by_cases e38 : f = 38
  · rw [if_pos e38] at hf; subst e38; cases hf; exact ⟨_, Tryd.func38, h38⟩
  rw [if_neg e38] at hf
  by_cases e39 : f = 39
  · rw [if_pos e39] at hf; subst e39; cases hf; exact ⟨_, Tryd.func39, h39⟩
  rw [if_neg e39] at hf
  by_cases e40 : f = 40
  · rw [if_pos e40] at hf; subst e40; cases hf; exact ⟨_, Tryd.func40, h40⟩
  rw [if_neg e40] at hf
  by_cases e41 : f = 41
  · rw [if_pos e41] at hf; subst e41; cases hf; exact ⟨_, Tryd.func41, h41⟩
  rw [if_neg e41] at hf
  cases hf
end Go.Proofs.YthfbefjmenddkaaDoor.VtFeeds
