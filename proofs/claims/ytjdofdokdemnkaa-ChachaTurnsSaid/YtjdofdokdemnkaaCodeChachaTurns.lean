/- The functions that the law ChachaTurns reaches, as the abstract machine has them. No condition. -/
import Derived.Test.YtjdofdokdemnkaaA43
import Derived.KernelRfl
namespace Go.Proofs.Ytjdofdokdemnkaa.ChachaTurns
open Go Go.Proofs.YtjdofdokdemnkaaA
/-- Function 5: portholelaw4.ChachaTurns. -/
def c5 : AFn :=
  ⟨85, [ARes.tmp 12], ACode.seq (ACode.region [⟨some 6, AOp.boxv 22 1 (Opd.tmp 0), none⟩, ⟨some 8, AOp.boxv 26 1 (Opd.tmp 2), none⟩, ⟨some 12, AOp.move (Opd.const (V.bool false)), none⟩]) (ACode.seq
    (ACode.region [⟨some 17, AOp.move (Opd.tmp 3), none⟩, ⟨some 18, AOp.call (Opd.func 14) [Opd.tmp 17, Opd.const (V.int (IntKind.i64) 300)], none⟩, ⟨some 19, AOp.bin (BinOp.add) (Opd.const (V.int
    (IntKind.i64) 1)) (Opd.tmp 18), none⟩, ⟨some 20, AOp.move (Opd.tmp 3), none⟩, ⟨some 21, AOp.call (Opd.func 13) [Opd.tmp 19, Opd.tmp 20], none⟩, ⟨some 13, AOp.move (Opd.tmp 21), none⟩]) (ACode.seq
    (ACode.region [⟨some 22, AOp.move (Opd.tmp 4), none⟩, ⟨some 23, AOp.move (Opd.tmp 13), none⟩, ⟨some 24, AOp.lenL (Opd.tmp 23), none⟩, ⟨some 25, AOp.call (Opd.func 14) [Opd.tmp 22, Opd.tmp 24],
    none⟩, ⟨some 14, AOp.move (Opd.tmp 25), none⟩]) (ACode.seq (ACode.region [⟨some 26, AOp.loadn 32 (Opd.tmp 6), none⟩, ⟨some 27, AOp.move (Opd.tmp 1), none⟩, ⟨some 28, AOp.loadn 12 (Opd.tmp 8),
    none⟩, ⟨some 29, AOp.move (Opd.tmp 13), none⟩, ⟨some 30, AOp.call (Opd.func 12) [Opd.tmp 26, Opd.tmp 27, Opd.tmp 28, Opd.tmp 29], none⟩, ⟨some 15, AOp.move (Opd.tmp 30), none⟩]) (ACode.seq
    (ACode.region [⟨some 31, AOp.move (Opd.tmp 13), none⟩, ⟨some 32, AOp.move (Opd.tmp 14), none⟩, ⟨some 33, AOp.move (Opd.tmp 13), none⟩, ⟨some 34, AOp.move (Opd.tmp 14), none⟩, ⟨some 35,
    AOp.indexAddrS 1 (Opd.tmp 33) (Opd.tmp 34), none⟩, ⟨some 36, AOp.load (Opd.tmp 35), none⟩, ⟨some 37, AOp.move (Opd.tmp 5), none⟩, ⟨some 38, AOp.bin (BinOp.xor) (Opd.tmp 36) (Opd.tmp 37), none⟩,
    ⟨some 39, AOp.indexAddrS 1 (Opd.tmp 31) (Opd.tmp 32), none⟩, ⟨none, AOp.store 1 (Opd.tmp 39) (Opd.tmp 38), none⟩]) (ACode.seq (ACode.region [⟨some 40, AOp.loadn 32 (Opd.tmp 6), none⟩, ⟨some 41,
    AOp.move (Opd.tmp 1), none⟩, ⟨some 42, AOp.loadn 12 (Opd.tmp 8), none⟩, ⟨some 43, AOp.move (Opd.tmp 13), none⟩, ⟨some 44, AOp.call (Opd.func 12) [Opd.tmp 40, Opd.tmp 41, Opd.tmp 42, Opd.tmp 43],
    none⟩, ⟨some 16, AOp.move (Opd.tmp 44), none⟩]) (ACode.seq (ACode.seq (ACode.region [⟨some 45, AOp.call (Opd.func 11) [], none⟩, ⟨some 46, AOp.un (UnOp.not) (Opd.tmp 45), none⟩, ⟨some 47, AOp.move
    (Opd.tmp 46), none⟩, ⟨some 48, AOp.move (Opd.tmp 15), some (47, false)⟩, ⟨some 49, AOp.lenL (Opd.tmp 48), some (47, false)⟩, ⟨some 50, AOp.move (Opd.tmp 16), some (47, false)⟩, ⟨some 51, AOp.lenL
    (Opd.tmp 50), some (47, false)⟩, ⟨some 52, AOp.bin (BinOp.neq) (Opd.tmp 49) (Opd.tmp 51), some (47, false)⟩, ⟨some 53, AOp.pick (Opd.tmp 47) (Opd.const (V.bool true)) (Opd.tmp 52), none⟩, ⟨some
    54, AOp.move (Opd.tmp 53), none⟩, ⟨some 55, AOp.move (Opd.tmp 15), some (54, false)⟩, ⟨some 56, AOp.lenL (Opd.tmp 55), some (54, false)⟩, ⟨some 57, AOp.move (Opd.tmp 14), some (54, false)⟩, ⟨some
    58, AOp.bin (BinOp.leq) (Opd.tmp 56) (Opd.tmp 57), some (54, false)⟩, ⟨some 59, AOp.pick (Opd.tmp 54) (Opd.const (V.bool true)) (Opd.tmp 58), none⟩]) (ACode.cond (Opd.tmp 59) (ACode.seq
    (ACode.region [⟨some 12, AOp.move (Opd.const (V.bool false)), none⟩]) (ACode.ret)) (ACode.skip))) (ACode.seq (ACode.region [⟨some 60, AOp.move (Opd.tmp 15), none⟩, ⟨some 61, AOp.move (Opd.tmp 14),
    none⟩, ⟨some 62, AOp.move (Opd.tmp 15), none⟩, ⟨some 63, AOp.move (Opd.tmp 14), none⟩, ⟨some 64, AOp.indexAddrS 1 (Opd.tmp 62) (Opd.tmp 63), none⟩, ⟨some 65, AOp.load (Opd.tmp 64), none⟩, ⟨some
    66, AOp.move (Opd.tmp 5), none⟩, ⟨some 67, AOp.bin (BinOp.xor) (Opd.tmp 65) (Opd.tmp 66), none⟩, ⟨some 68, AOp.indexAddrS 1 (Opd.tmp 60) (Opd.tmp 61), none⟩, ⟨none, AOp.store 1 (Opd.tmp 68)
    (Opd.tmp 67), none⟩]) (ACode.seq (ACode.floatRegion [⟨some 69, AOp.move (Opd.tmp 15), none⟩, ⟨some 70, AOp.bytesStr (Opd.tmp 69), none⟩, ⟨some 71, AOp.move (Opd.tmp 16), none⟩, ⟨some 72,
    AOp.bytesStr (Opd.tmp 71), none⟩, ⟨some 73, AOp.bin (BinOp.eql) (Opd.tmp 70) (Opd.tmp 72), none⟩, ⟨some 74, AOp.move (Opd.tmp 73), none⟩, ⟨some 75, AOp.move (Opd.tmp 15), some (74, true)⟩, ⟨some
    76, AOp.move (Opd.tmp 16), some (74, true)⟩, ⟨some 77, AOp.call (Opd.func 15) [Opd.tmp 75, Opd.tmp 76], some (74, true)⟩, ⟨some 78, AOp.bytesStr (Opd.tmp 77), some (74, true)⟩, ⟨some 79, AOp.move
    (Opd.tmp 15), some (74, true)⟩, ⟨some 80, AOp.lenL (Opd.tmp 79), some (74, true)⟩, ⟨some 81, AOp.float 0 (AOp.makeSlice 5 1 1 [V.int (IntKind.u8) 0] (Opd.tmp 80) (Opd.tmp 80)), some (74, true)⟩,
    ⟨some 82, AOp.float 12 (AOp.bytesStr (Opd.tmp 81)), some (74, true)⟩, ⟨some 83, AOp.bin (BinOp.eql) (Opd.tmp 78) (Opd.tmp 82), some (74, true)⟩, ⟨some 84, AOp.pick (Opd.tmp 74) (Opd.tmp 83)
    (Opd.const (V.bool false)), none⟩, ⟨some 12, AOp.move (Opd.tmp 84), none⟩] [[], [], [], [], [], [], [], [], [], [], [], [], [], [], [], [], [], [12]] []) (ACode.ret)))))))))⟩
theorem h5 : compFn Try.prog Try.f5 = some c5 := by kernel_rfl
/-- A loop of function 10. -/
def c10_l3 : ACode :=
  ACode.seq (ACode.region [⟨some 56, AOp.bin (BinOp.lss) (Opd.tmp 55) (Opd.const (V.int (IntKind.i64) 16)), none⟩]) (ACode.seq (ACode.cond (Opd.tmp 56) (ACode.skip) (ACode.exit 6)) (ACode.seq
    (ACode.block 7 (ACode.seq (ACode.region [⟨some 57, AOp.move (Opd.tmp 55), none⟩, ⟨some 13, AOp.move (Opd.tmp 57), none⟩]) (ACode.anyRegion [⟨some 58, AOp.move (Opd.tmp 13), none⟩, ⟨some 59,
    AOp.bin (BinOp.mul) (Opd.const (V.int (IntKind.i64) 4)) (Opd.tmp 58), none⟩, ⟨some 60, AOp.sliceArr 64 1 (Opd.tmp 12) (some (Opd.tmp 59)) none none, none⟩, ⟨some 61, AOp.move (Opd.tmp 13), none⟩,
    ⟨some 62, AOp.indexAddrA 16 1 (Opd.tmp 8) (Opd.tmp 61), none⟩, ⟨some 63, AOp.load (Opd.tmp 62), none⟩, ⟨some 64, AOp.move (Opd.tmp 13), none⟩, ⟨some 65, AOp.indexAddrA 16 1 (Opd.tmp 7) (Opd.tmp
    64), none⟩, ⟨some 66, AOp.load (Opd.tmp 65), none⟩, ⟨some 67, AOp.bin (BinOp.add) (Opd.tmp 63) (Opd.tmp 66), none⟩, ⟨some 68, AOp.call (Opd.func 25) [Opd.tmp 67], none⟩, ⟨some 69, AOp.copy 1
    (Opd.tmp 60) (Opd.tmp 68), none⟩] []))) (ACode.region [⟨some 70, AOp.bin (BinOp.add) (Opd.tmp 55) (Opd.const (V.int (IntKind.i64) 1)), none⟩, ⟨some 55, AOp.move (Opd.tmp 70), none⟩])))
theorem c10_l3_wr : c10_l3.wr = [56, 57, 13, 58, 59, 60, 61, 62, 63, 64, 65, 66, 67, 68, 69, 70, 55] := by kernel_rfl
/-- A loop of function 10. -/
def c10_l2 : ACode :=
  ACode.seq (ACode.region [⟨some 36, AOp.bin (BinOp.lss) (Opd.tmp 35) (Opd.const (V.int (IntKind.i64) 4)), none⟩]) (ACode.seq (ACode.cond (Opd.tmp 36) (ACode.skip) (ACode.exit 4)) (ACode.seq
    (ACode.block 5 (ACode.seq (ACode.region [⟨some 37, AOp.move (Opd.tmp 35), none⟩, ⟨some 11, AOp.move (Opd.tmp 37), none⟩]) (ACode.region [⟨some 38, AOp.move (Opd.tmp 9), none⟩, ⟨some 39, AOp.move
    (Opd.tmp 11), none⟩, ⟨some 40, AOp.move (Opd.tmp 11), none⟩, ⟨some 41, AOp.bin (BinOp.add) (Opd.tmp 40) (Opd.const (V.int (IntKind.i64) 1)), none⟩, ⟨some 42, AOp.bin (BinOp.rem) (Opd.tmp 41)
    (Opd.const (V.int (IntKind.i64) 4)), none⟩, ⟨some 43, AOp.bin (BinOp.add) (Opd.const (V.int (IntKind.i64) 4)) (Opd.tmp 42), none⟩, ⟨some 44, AOp.move (Opd.tmp 11), none⟩, ⟨some 45, AOp.bin
    (BinOp.add) (Opd.tmp 44) (Opd.const (V.int (IntKind.i64) 2)), none⟩, ⟨some 46, AOp.bin (BinOp.rem) (Opd.tmp 45) (Opd.const (V.int (IntKind.i64) 4)), none⟩, ⟨some 47, AOp.bin (BinOp.add) (Opd.const
    (V.int (IntKind.i64) 8)) (Opd.tmp 46), none⟩, ⟨some 48, AOp.move (Opd.tmp 11), none⟩, ⟨some 49, AOp.bin (BinOp.add) (Opd.tmp 48) (Opd.const (V.int (IntKind.i64) 3)), none⟩, ⟨some 50, AOp.bin
    (BinOp.rem) (Opd.tmp 49) (Opd.const (V.int (IntKind.i64) 4)), none⟩, ⟨some 51, AOp.bin (BinOp.add) (Opd.const (V.int (IntKind.i64) 12)) (Opd.tmp 50), none⟩, ⟨some 52, AOp.call (Opd.tmp 38)
    [Opd.tmp 39, Opd.tmp 43, Opd.tmp 47, Opd.tmp 51], none⟩]))) (ACode.region [⟨some 53, AOp.bin (BinOp.add) (Opd.tmp 35) (Opd.const (V.int (IntKind.i64) 1)), none⟩, ⟨some 35, AOp.move (Opd.tmp 53),
    none⟩])))
theorem c10_l2_wr : c10_l2.wr = [36, 37, 11, 38, 39, 40, 41, 42, 43, 44, 45, 46, 47, 48, 49, 50, 51, 52, 53, 35] := by kernel_rfl
/-- A loop of function 10. -/
def c10_l1 : ACode :=
  ACode.seq (ACode.region [⟨some 23, AOp.bin (BinOp.lss) (Opd.tmp 22) (Opd.const (V.int (IntKind.i64) 4)), none⟩]) (ACode.seq (ACode.cond (Opd.tmp 23) (ACode.skip) (ACode.exit 2)) (ACode.seq
    (ACode.block 3 (ACode.seq (ACode.region [⟨some 24, AOp.move (Opd.tmp 22), none⟩, ⟨some 10, AOp.move (Opd.tmp 24), none⟩]) (ACode.region [⟨some 25, AOp.move (Opd.tmp 9), none⟩, ⟨some 26, AOp.move
    (Opd.tmp 10), none⟩, ⟨some 27, AOp.move (Opd.tmp 10), none⟩, ⟨some 28, AOp.bin (BinOp.add) (Opd.const (V.int (IntKind.i64) 4)) (Opd.tmp 27), none⟩, ⟨some 29, AOp.move (Opd.tmp 10), none⟩, ⟨some
    30, AOp.bin (BinOp.add) (Opd.const (V.int (IntKind.i64) 8)) (Opd.tmp 29), none⟩, ⟨some 31, AOp.move (Opd.tmp 10), none⟩, ⟨some 32, AOp.bin (BinOp.add) (Opd.const (V.int (IntKind.i64) 12)) (Opd.tmp
    31), none⟩, ⟨some 33, AOp.call (Opd.tmp 25) [Opd.tmp 26, Opd.tmp 28, Opd.tmp 30, Opd.tmp 32], none⟩]))) (ACode.region [⟨some 34, AOp.bin (BinOp.add) (Opd.tmp 22) (Opd.const (V.int (IntKind.i64)
    1)), none⟩, ⟨some 22, AOp.move (Opd.tmp 34), none⟩])))
theorem c10_l1_wr : c10_l1.wr = [23, 24, 10, 25, 26, 27, 28, 29, 30, 31, 32, 33, 34, 22] := by kernel_rfl
/-- A loop of function 10. -/
def c10_l0 : ACode :=
  ACode.seq (ACode.region [⟨some 21, AOp.bin (BinOp.lss) (Opd.tmp 20) (Opd.const (V.int (IntKind.i64) 10)), none⟩]) (ACode.seq (ACode.cond (Opd.tmp 21) (ACode.skip) (ACode.exit 0)) (ACode.seq
    (ACode.block 1 (ACode.seq (ACode.seq (ACode.region [⟨some 22, AOp.move (Opd.const (V.int (IntKind.i64) 0)), none⟩]) (ACode.block 2 (ACode.loop c10_l1))) (ACode.seq (ACode.region [⟨some 35,
    AOp.move (Opd.const (V.int (IntKind.i64) 0)), none⟩]) (ACode.block 4 (ACode.loop c10_l2))))) (ACode.region [⟨some 54, AOp.bin (BinOp.add) (Opd.tmp 20) (Opd.const (V.int (IntKind.i64) 1)), none⟩,
    ⟨some 20, AOp.move (Opd.tmp 54), none⟩])))
theorem c10_l0_wr : c10_l0.wr = [21, 22, 23, 24, 10, 25, 26, 27, 28, 29, 30, 31, 32, 33, 34, 22, 35, 36, 37, 11, 38, 39, 40, 41, 42, 43, 44, 45, 46, 47, 48, 49, 50, 51, 52, 53, 35, 54, 20] := by kernel_rfl
/-- Function 10: chacha.Block. -/
def c10 : AFn :=
  ⟨72, [ARes.cells 6 64], ACode.seq (ACode.region [⟨some 3, AOp.boxv 22 1 (Opd.tmp 0), none⟩, ⟨some 5, AOp.boxv 26 1 (Opd.tmp 2), none⟩, ⟨some 6, AOp.box 23 1 [V.int (IntKind.u8) 0, V.int (IntKind.u8)
    0, V.int (IntKind.u8) 0, V.int (IntKind.u8) 0, V.int (IntKind.u8) 0, V.int (IntKind.u8) 0, V.int (IntKind.u8) 0, V.int (IntKind.u8) 0, V.int (IntKind.u8) 0, V.int (IntKind.u8) 0, V.int
    (IntKind.u8) 0, V.int (IntKind.u8) 0, V.int (IntKind.u8) 0, V.int (IntKind.u8) 0, V.int (IntKind.u8) 0, V.int (IntKind.u8) 0, V.int (IntKind.u8) 0, V.int (IntKind.u8) 0, V.int (IntKind.u8) 0,
    V.int (IntKind.u8) 0, V.int (IntKind.u8) 0, V.int (IntKind.u8) 0, V.int (IntKind.u8) 0, V.int (IntKind.u8) 0, V.int (IntKind.u8) 0, V.int (IntKind.u8) 0, V.int (IntKind.u8) 0, V.int (IntKind.u8)
    0, V.int (IntKind.u8) 0, V.int (IntKind.u8) 0, V.int (IntKind.u8) 0, V.int (IntKind.u8) 0, V.int (IntKind.u8) 0, V.int (IntKind.u8) 0, V.int (IntKind.u8) 0, V.int (IntKind.u8) 0, V.int
    (IntKind.u8) 0, V.int (IntKind.u8) 0, V.int (IntKind.u8) 0, V.int (IntKind.u8) 0, V.int (IntKind.u8) 0, V.int (IntKind.u8) 0, V.int (IntKind.u8) 0, V.int (IntKind.u8) 0, V.int (IntKind.u8) 0,
    V.int (IntKind.u8) 0, V.int (IntKind.u8) 0, V.int (IntKind.u8) 0, V.int (IntKind.u8) 0, V.int (IntKind.u8) 0, V.int (IntKind.u8) 0, V.int (IntKind.u8) 0, V.int (IntKind.u8) 0, V.int (IntKind.u8)
    0, V.int (IntKind.u8) 0, V.int (IntKind.u8) 0, V.int (IntKind.u8) 0, V.int (IntKind.u8) 0, V.int (IntKind.u8) 0, V.int (IntKind.u8) 0, V.int (IntKind.u8) 0, V.int (IntKind.u8) 0, V.int
    (IntKind.u8) 0, V.int (IntKind.u8) 0], none⟩]) (ACode.seq (ACode.region [⟨some 14, AOp.loadn 32 (Opd.tmp 3), none⟩, ⟨some 15, AOp.move (Opd.tmp 1), none⟩, ⟨some 16, AOp.loadn 12 (Opd.tmp 5),
    none⟩, ⟨some 17, AOp.call (Opd.func 22) [Opd.tmp 14, Opd.tmp 15, Opd.tmp 16], none⟩, ⟨some 7, AOp.box 46 1 [V.int (IntKind.u32) 0, V.int (IntKind.u32) 0, V.int (IntKind.u32) 0, V.int (IntKind.u32)
    0, V.int (IntKind.u32) 0, V.int (IntKind.u32) 0, V.int (IntKind.u32) 0, V.int (IntKind.u32) 0, V.int (IntKind.u32) 0, V.int (IntKind.u32) 0, V.int (IntKind.u32) 0, V.int (IntKind.u32) 0, V.int
    (IntKind.u32) 0, V.int (IntKind.u32) 0, V.int (IntKind.u32) 0, V.int (IntKind.u32) 0], none⟩, ⟨none, AOp.store 16 (Opd.tmp 7) (Opd.tmp 17), none⟩]) (ACode.seq (ACode.region [⟨some 18, AOp.loadn 16
    (Opd.tmp 7), none⟩, ⟨some 8, AOp.box 46 1 [V.int (IntKind.u32) 0, V.int (IntKind.u32) 0, V.int (IntKind.u32) 0, V.int (IntKind.u32) 0, V.int (IntKind.u32) 0, V.int (IntKind.u32) 0, V.int
    (IntKind.u32) 0, V.int (IntKind.u32) 0, V.int (IntKind.u32) 0, V.int (IntKind.u32) 0, V.int (IntKind.u32) 0, V.int (IntKind.u32) 0, V.int (IntKind.u32) 0, V.int (IntKind.u32) 0, V.int
    (IntKind.u32) 0, V.int (IntKind.u32) 0], none⟩, ⟨none, AOp.store 16 (Opd.tmp 8) (Opd.tmp 18), none⟩]) (ACode.seq (ACode.region [⟨some 19, AOp.mkFunc 23 [] [Opd.tmp 8], none⟩, ⟨some 9, AOp.move
    (Opd.tmp 19), none⟩]) (ACode.seq (ACode.seq (ACode.region [⟨some 20, AOp.move (Opd.const (V.int (IntKind.i64) 0)), none⟩]) (ACode.block 0 (ACode.loop c10_l0))) (ACode.seq (ACode.region [⟨some 12,
    AOp.box 23 1 [V.int (IntKind.u8) 0, V.int (IntKind.u8) 0, V.int (IntKind.u8) 0, V.int (IntKind.u8) 0, V.int (IntKind.u8) 0, V.int (IntKind.u8) 0, V.int (IntKind.u8) 0, V.int (IntKind.u8) 0, V.int
    (IntKind.u8) 0, V.int (IntKind.u8) 0, V.int (IntKind.u8) 0, V.int (IntKind.u8) 0, V.int (IntKind.u8) 0, V.int (IntKind.u8) 0, V.int (IntKind.u8) 0, V.int (IntKind.u8) 0, V.int (IntKind.u8) 0,
    V.int (IntKind.u8) 0, V.int (IntKind.u8) 0, V.int (IntKind.u8) 0, V.int (IntKind.u8) 0, V.int (IntKind.u8) 0, V.int (IntKind.u8) 0, V.int (IntKind.u8) 0, V.int (IntKind.u8) 0, V.int (IntKind.u8)
    0, V.int (IntKind.u8) 0, V.int (IntKind.u8) 0, V.int (IntKind.u8) 0, V.int (IntKind.u8) 0, V.int (IntKind.u8) 0, V.int (IntKind.u8) 0, V.int (IntKind.u8) 0, V.int (IntKind.u8) 0, V.int
    (IntKind.u8) 0, V.int (IntKind.u8) 0, V.int (IntKind.u8) 0, V.int (IntKind.u8) 0, V.int (IntKind.u8) 0, V.int (IntKind.u8) 0, V.int (IntKind.u8) 0, V.int (IntKind.u8) 0, V.int (IntKind.u8) 0,
    V.int (IntKind.u8) 0, V.int (IntKind.u8) 0, V.int (IntKind.u8) 0, V.int (IntKind.u8) 0, V.int (IntKind.u8) 0, V.int (IntKind.u8) 0, V.int (IntKind.u8) 0, V.int (IntKind.u8) 0, V.int (IntKind.u8)
    0, V.int (IntKind.u8) 0, V.int (IntKind.u8) 0, V.int (IntKind.u8) 0, V.int (IntKind.u8) 0, V.int (IntKind.u8) 0, V.int (IntKind.u8) 0, V.int (IntKind.u8) 0, V.int (IntKind.u8) 0, V.int
    (IntKind.u8) 0, V.int (IntKind.u8) 0, V.int (IntKind.u8) 0, V.int (IntKind.u8) 0], none⟩]) (ACode.seq (ACode.seq (ACode.region [⟨some 55, AOp.move (Opd.const (V.int (IntKind.i64) 0)), none⟩])
    (ACode.block 6 (ACode.loop c10_l3))) (ACode.seq (ACode.region [⟨some 71, AOp.loadn 64 (Opd.tmp 12), none⟩, ⟨none, AOp.store 64 (Opd.tmp 6) (Opd.tmp 71), none⟩]) (ACode.ret))))))))⟩
theorem h10 : compFn Try.prog Try.f10 = some c10 := by kernel_rfl
/-- Function 11: portholelaw4.known. -/
def c11 : AFn :=
  ⟨25, [ARes.tmp 0], ACode.seq (ACode.region [⟨some 0, AOp.move (Opd.const (V.bool false)), none⟩]) (ACode.seq (ACode.region [⟨some 6, AOp.call (Opd.func 24) [Opd.const (V.int (IntKind.u32)
    286331153), Opd.const (V.int (IntKind.u32) 16909060), Opd.const (V.int (IntKind.u32) 2609737539), Opd.const (V.int (IntKind.u32) 19088743)], none⟩, ⟨some 5, AOp.move (Opd.tmp 6), none⟩, ⟨some 7,
    AOp.extract (Opd.tmp 5) 0, none⟩, ⟨some 8, AOp.extract (Opd.tmp 5) 1, none⟩, ⟨some 9, AOp.extract (Opd.tmp 5) 2, none⟩, ⟨some 10, AOp.extract (Opd.tmp 5) 3, none⟩, ⟨some 1, AOp.move (Opd.tmp 7),
    none⟩, ⟨some 2, AOp.move (Opd.tmp 8), none⟩, ⟨some 3, AOp.move (Opd.tmp 9), none⟩, ⟨some 4, AOp.move (Opd.tmp 10), none⟩]) (ACode.seq (ACode.region [⟨some 11, AOp.move (Opd.tmp 1), none⟩, ⟨some
    12, AOp.bin (BinOp.eql) (Opd.tmp 11) (Opd.const (V.int (IntKind.u32) 3928658676)), none⟩, ⟨some 13, AOp.move (Opd.tmp 12), none⟩, ⟨some 14, AOp.move (Opd.tmp 2), some (13, true)⟩, ⟨some 15,
    AOp.bin (BinOp.eql) (Opd.tmp 14) (Opd.const (V.int (IntKind.u32) 3407673550)), some (13, true)⟩, ⟨some 16, AOp.pick (Opd.tmp 13) (Opd.tmp 15) (Opd.const (V.bool false)), none⟩, ⟨some 17, AOp.move
    (Opd.tmp 16), none⟩, ⟨some 18, AOp.move (Opd.tmp 3), some (17, true)⟩, ⟨some 19, AOp.bin (BinOp.eql) (Opd.tmp 18) (Opd.const (V.int (IntKind.u32) 1166100270)), some (17, true)⟩, ⟨some 20, AOp.pick
    (Opd.tmp 17) (Opd.tmp 19) (Opd.const (V.bool false)), none⟩, ⟨some 21, AOp.move (Opd.tmp 20), none⟩, ⟨some 22, AOp.move (Opd.tmp 4), some (21, true)⟩, ⟨some 23, AOp.bin (BinOp.eql) (Opd.tmp 22)
    (Opd.const (V.int (IntKind.u32) 1484899515)), some (21, true)⟩, ⟨some 24, AOp.pick (Opd.tmp 21) (Opd.tmp 23) (Opd.const (V.bool false)), none⟩, ⟨some 0, AOp.move (Opd.tmp 24), none⟩])
    (ACode.ret)))⟩
theorem h11 : compFn Try.prog Try.f11 = some c11 := by kernel_rfl
/-- A loop of function 12. -/
def c12_l0 : ACode :=
  ACode.seq (ACode.seq (ACode.region [⟨some 13, AOp.move (Opd.tmp 3), none⟩, ⟨some 14, AOp.lenL (Opd.tmp 13), none⟩, ⟨some 15, AOp.bin (BinOp.gtr) (Opd.tmp 14) (Opd.const (V.int (IntKind.i64) 0)),
    none⟩]) (ACode.cond (Opd.tmp 15) (ACode.skip) (ACode.exit 0))) (ACode.block 1 (ACode.seq (ACode.region [⟨some 16, AOp.loadn 32 (Opd.tmp 4), none⟩, ⟨some 17, AOp.move (Opd.tmp 1), none⟩, ⟨some 18,
    AOp.loadn 12 (Opd.tmp 6), none⟩, ⟨some 19, AOp.call (Opd.func 10) [Opd.tmp 16, Opd.tmp 17, Opd.tmp 18], none⟩, ⟨some 10, AOp.box 23 1 [V.int (IntKind.u8) 0, V.int (IntKind.u8) 0, V.int
    (IntKind.u8) 0, V.int (IntKind.u8) 0, V.int (IntKind.u8) 0, V.int (IntKind.u8) 0, V.int (IntKind.u8) 0, V.int (IntKind.u8) 0, V.int (IntKind.u8) 0, V.int (IntKind.u8) 0, V.int (IntKind.u8) 0,
    V.int (IntKind.u8) 0, V.int (IntKind.u8) 0, V.int (IntKind.u8) 0, V.int (IntKind.u8) 0, V.int (IntKind.u8) 0, V.int (IntKind.u8) 0, V.int (IntKind.u8) 0, V.int (IntKind.u8) 0, V.int (IntKind.u8)
    0, V.int (IntKind.u8) 0, V.int (IntKind.u8) 0, V.int (IntKind.u8) 0, V.int (IntKind.u8) 0, V.int (IntKind.u8) 0, V.int (IntKind.u8) 0, V.int (IntKind.u8) 0, V.int (IntKind.u8) 0, V.int
    (IntKind.u8) 0, V.int (IntKind.u8) 0, V.int (IntKind.u8) 0, V.int (IntKind.u8) 0, V.int (IntKind.u8) 0, V.int (IntKind.u8) 0, V.int (IntKind.u8) 0, V.int (IntKind.u8) 0, V.int (IntKind.u8) 0,
    V.int (IntKind.u8) 0, V.int (IntKind.u8) 0, V.int (IntKind.u8) 0, V.int (IntKind.u8) 0, V.int (IntKind.u8) 0, V.int (IntKind.u8) 0, V.int (IntKind.u8) 0, V.int (IntKind.u8) 0, V.int (IntKind.u8)
    0, V.int (IntKind.u8) 0, V.int (IntKind.u8) 0, V.int (IntKind.u8) 0, V.int (IntKind.u8) 0, V.int (IntKind.u8) 0, V.int (IntKind.u8) 0, V.int (IntKind.u8) 0, V.int (IntKind.u8) 0, V.int
    (IntKind.u8) 0, V.int (IntKind.u8) 0, V.int (IntKind.u8) 0, V.int (IntKind.u8) 0, V.int (IntKind.u8) 0, V.int (IntKind.u8) 0, V.int (IntKind.u8) 0, V.int (IntKind.u8) 0, V.int (IntKind.u8) 0,
    V.int (IntKind.u8) 0], none⟩, ⟨none, AOp.store 64 (Opd.tmp 10) (Opd.tmp 19), none⟩]) (ACode.seq (ACode.region [⟨some 20, AOp.move (Opd.tmp 3), none⟩, ⟨some 21, AOp.sliceArr 64 1 (Opd.tmp 10) none
    none none, none⟩, ⟨some 22, AOp.call (Opd.func 26) [Opd.tmp 20, Opd.tmp 21], none⟩, ⟨some 11, AOp.move (Opd.tmp 22), none⟩]) (ACode.seq (ACode.region [⟨some 23, AOp.move (Opd.tmp 9), none⟩, ⟨some
    24, AOp.move (Opd.tmp 11), none⟩, ⟨some 25, AOp.append 5 1 1 (Opd.tmp 23) (Opd.tmp 24), none⟩, ⟨some 9, AOp.move (Opd.tmp 25), none⟩]) (ACode.seq (ACode.region [⟨some 26, AOp.move (Opd.tmp 3),
    none⟩, ⟨some 27, AOp.move (Opd.tmp 11), none⟩, ⟨some 28, AOp.lenL (Opd.tmp 27), none⟩, ⟨some 29, AOp.sliceSl 1 (Opd.tmp 26) (some (Opd.tmp 28)) none none, none⟩, ⟨some 3, AOp.move (Opd.tmp 29),
    none⟩]) (ACode.region [⟨some 30, AOp.move (Opd.tmp 1), none⟩, ⟨some 31, AOp.bin (BinOp.add) (Opd.tmp 30) (Opd.const (V.int (IntKind.u32) 1)), none⟩, ⟨some 1, AOp.move (Opd.tmp 31), none⟩]))))))
theorem c12_l0_wr : c12_l0.wr = [13, 14, 15, 16, 17, 18, 19, 10, 20, 21, 22, 11, 23, 24, 25, 9, 26, 27, 28, 29, 3, 30, 31, 1] := by kernel_rfl
/-- Function 12: chacha.Apply. -/
def c12 : AFn :=
  ⟨33, [ARes.tmp 8], ACode.seq (ACode.region [⟨some 4, AOp.boxv 22 1 (Opd.tmp 0), none⟩, ⟨some 6, AOp.boxv 26 1 (Opd.tmp 2), none⟩, ⟨some 8, AOp.move (Opd.const (V.nilslice)), none⟩]) (ACode.seq
    (ACode.region [⟨some 12, AOp.buildSlice 5 1 [V.int (IntKind.u8) 0] 0 [], none⟩, ⟨some 9, AOp.move (Opd.tmp 12), none⟩]) (ACode.seq (ACode.block 0 (ACode.loop c12_l0)) (ACode.seq (ACode.region
    [⟨some 32, AOp.move (Opd.tmp 9), none⟩, ⟨some 8, AOp.move (Opd.tmp 32), none⟩]) (ACode.ret))))⟩
theorem h12 : compFn Try.prog Try.f12 = some c12 := by kernel_rfl
/-- A loop of function 13. -/
def c13_l0 : ACode :=
  ACode.seq (ACode.seq (ACode.region [⟨some 12, AOp.move (Opd.tmp 7), none⟩, ⟨some 13, AOp.move (Opd.tmp 0), none⟩, ⟨some 14, AOp.bin (BinOp.lss) (Opd.tmp 12) (Opd.tmp 13), none⟩]) (ACode.cond
    (Opd.tmp 14) (ACode.skip) (ACode.exit 0))) (ACode.seq (ACode.block 1 (ACode.seq (ACode.region [⟨some 17, AOp.move (Opd.tmp 6), none⟩, ⟨some 18, AOp.bin (BinOp.mul) (Opd.tmp 17) (Opd.const (V.int
    (IntKind.u64) 6364136223846793005)), none⟩, ⟨some 19, AOp.bin (BinOp.add) (Opd.tmp 18) (Opd.const (V.int (IntKind.u64) 1442695040888963407)), none⟩, ⟨some 6, AOp.move (Opd.tmp 19), none⟩])
    (ACode.region [⟨some 20, AOp.move (Opd.tmp 5), none⟩, ⟨some 21, AOp.move (Opd.tmp 7), none⟩, ⟨some 22, AOp.move (Opd.tmp 6), none⟩, ⟨some 23, AOp.bin (BinOp.shr) (Opd.tmp 22) (Opd.const (V.int
    (IntKind.u64) 40)), none⟩, ⟨some 24, AOp.conv (IntKind.u8) (Opd.tmp 23), none⟩, ⟨some 25, AOp.indexAddrS 1 (Opd.tmp 20) (Opd.tmp 21), none⟩, ⟨none, AOp.store 1 (Opd.tmp 25) (Opd.tmp 24), none⟩])))
    (ACode.region [⟨some 15, AOp.move (Opd.tmp 7), none⟩, ⟨some 16, AOp.bin (BinOp.add) (Opd.tmp 15) (Opd.const (V.int (IntKind.i64) 1)), none⟩, ⟨some 7, AOp.move (Opd.tmp 16), none⟩]))
theorem c13_l0_wr : c13_l0.wr = [12, 13, 14, 17, 18, 19, 6, 20, 21, 22, 23, 24, 25, 15, 16, 7] := by kernel_rfl
/-- Function 13: portholehand.Bytes. -/
def c13 : AFn :=
  ⟨27, [ARes.tmp 4], ACode.seq (ACode.region [⟨some 4, AOp.move (Opd.const (V.nilslice)), none⟩]) (ACode.seq (ACode.region [⟨some 8, AOp.move (Opd.tmp 0), none⟩, ⟨some 9, AOp.makeSlice 5 1 1 [V.int
    (IntKind.u8) 0] (Opd.tmp 8) (Opd.tmp 8), none⟩, ⟨some 5, AOp.move (Opd.tmp 9), none⟩]) (ACode.seq (ACode.region [⟨some 10, AOp.move (Opd.tmp 1), none⟩, ⟨some 11, AOp.conv (IntKind.u64) (Opd.tmp
    10), none⟩, ⟨some 6, AOp.move (Opd.tmp 11), none⟩]) (ACode.seq (ACode.seq (ACode.region [⟨some 7, AOp.move (Opd.const (V.int (IntKind.i64) 0)), none⟩]) (ACode.block 0 (ACode.loop c13_l0)))
    (ACode.seq (ACode.region [⟨some 26, AOp.move (Opd.tmp 5), none⟩, ⟨some 4, AOp.move (Opd.tmp 26), none⟩]) (ACode.ret)))))⟩
theorem h13 : compFn Try.prog Try.f13 = some c13 := by kernel_rfl
/-- Function 14: portholehand.Pick. -/
def c14 : AFn :=
  ⟨14, [ARes.tmp 4], ACode.seq (ACode.region [⟨some 4, AOp.move (Opd.const (V.int (IntKind.i64) 0)), none⟩]) (ACode.seq (ACode.region [⟨some 5, AOp.move (Opd.tmp 0), none⟩, ⟨some 6, AOp.move (Opd.tmp
    1), none⟩, ⟨some 7, AOp.bin (BinOp.rem) (Opd.tmp 5) (Opd.tmp 6), none⟩, ⟨some 0, AOp.move (Opd.tmp 7), none⟩]) (ACode.seq (ACode.seq (ACode.region [⟨some 8, AOp.move (Opd.tmp 0), none⟩, ⟨some 9,
    AOp.bin (BinOp.lss) (Opd.tmp 8) (Opd.const (V.int (IntKind.i64) 0)), none⟩]) (ACode.cond (Opd.tmp 9) (ACode.region [⟨some 10, AOp.move (Opd.tmp 0), none⟩, ⟨some 11, AOp.move (Opd.tmp 1), none⟩,
    ⟨some 12, AOp.bin (BinOp.add) (Opd.tmp 10) (Opd.tmp 11), none⟩, ⟨some 0, AOp.move (Opd.tmp 12), none⟩]) (ACode.skip))) (ACode.seq (ACode.region [⟨some 13, AOp.move (Opd.tmp 0), none⟩, ⟨some 4,
    AOp.move (Opd.tmp 13), none⟩]) (ACode.ret))))⟩
theorem h14 : compFn Try.prog Try.f14 = some c14 := by kernel_rfl
/-- A loop of function 15. -/
def c15_l0 : ACode :=
  ACode.seq (ACode.seq (ACode.region [⟨some 7, AOp.move (Opd.tmp 6), none⟩, ⟨some 8, AOp.move (Opd.tmp 0), none⟩, ⟨some 9, AOp.lenL (Opd.tmp 8), none⟩, ⟨some 10, AOp.bin (BinOp.lss) (Opd.tmp 7)
    (Opd.tmp 9), none⟩, ⟨some 11, AOp.move (Opd.tmp 10), none⟩, ⟨some 12, AOp.move (Opd.tmp 6), some (11, true)⟩, ⟨some 13, AOp.move (Opd.tmp 1), some (11, true)⟩, ⟨some 14, AOp.lenL (Opd.tmp 13),
    some (11, true)⟩, ⟨some 15, AOp.bin (BinOp.lss) (Opd.tmp 12) (Opd.tmp 14), some (11, true)⟩, ⟨some 16, AOp.pick (Opd.tmp 11) (Opd.tmp 15) (Opd.const (V.bool false)), none⟩]) (ACode.cond (Opd.tmp
    16) (ACode.skip) (ACode.exit 0))) (ACode.seq (ACode.block 1 (ACode.anyRegion [⟨some 19, AOp.move (Opd.tmp 5), none⟩, ⟨some 20, AOp.move (Opd.tmp 0), none⟩, ⟨some 21, AOp.move (Opd.tmp 6), none⟩,
    ⟨some 22, AOp.indexAddrS 1 (Opd.tmp 20) (Opd.tmp 21), none⟩, ⟨some 23, AOp.load (Opd.tmp 22), none⟩, ⟨some 24, AOp.move (Opd.tmp 1), none⟩, ⟨some 25, AOp.move (Opd.tmp 6), none⟩, ⟨some 26,
    AOp.indexAddrS 1 (Opd.tmp 24) (Opd.tmp 25), none⟩, ⟨some 27, AOp.load (Opd.tmp 26), none⟩, ⟨some 28, AOp.bin (BinOp.xor) (Opd.tmp 23) (Opd.tmp 27), none⟩, ⟨some 29, AOp.buildSlice 5 1 [V.int
    (IntKind.u8) 0] 1 [(0, 1, Opd.tmp 28)], none⟩, ⟨some 30, AOp.append 5 1 1 (Opd.tmp 19) (Opd.tmp 29), none⟩, ⟨some 5, AOp.move (Opd.tmp 30), none⟩] [])) (ACode.region [⟨some 17, AOp.move (Opd.tmp
    6), none⟩, ⟨some 18, AOp.bin (BinOp.add) (Opd.tmp 17) (Opd.const (V.int (IntKind.i64) 1)), none⟩, ⟨some 6, AOp.move (Opd.tmp 18), none⟩]))
theorem c15_l0_wr : c15_l0.wr = [7, 8, 9, 10, 11, 12, 13, 14, 15, 16, 19, 20, 21, 22, 23, 24, 25, 26, 27, 28, 29, 30, 5, 17, 18, 6] := by kernel_rfl
/-- Function 15: portholeref1.Xor. -/
def c15 : AFn :=
  ⟨32, [ARes.tmp 4], ACode.seq (ACode.region [⟨some 4, AOp.move (Opd.const (V.nilslice)), none⟩]) (ACode.seq (ACode.region [⟨some 5, AOp.move (Opd.const (V.nilslice)), none⟩]) (ACode.seq (ACode.seq
    (ACode.region [⟨some 6, AOp.move (Opd.const (V.int (IntKind.i64) 0)), none⟩]) (ACode.block 0 (ACode.loop c15_l0))) (ACode.seq (ACode.region [⟨some 31, AOp.move (Opd.tmp 5), none⟩, ⟨some 4,
    AOp.move (Opd.tmp 31), none⟩]) (ACode.ret))))⟩
theorem h15 : compFn Try.prog Try.f15 = some c15 := by kernel_rfl
/-- A loop of function 22. -/
def c22_l1 : ACode :=
  ACode.seq (ACode.region [⟨some 28, AOp.bin (BinOp.lss) (Opd.tmp 27) (Opd.const (V.int (IntKind.i64) 3)), none⟩]) (ACode.seq (ACode.cond (Opd.tmp 28) (ACode.skip) (ACode.exit 2)) (ACode.seq
    (ACode.block 3 (ACode.seq (ACode.region [⟨some 29, AOp.move (Opd.tmp 27), none⟩, ⟨some 9, AOp.move (Opd.tmp 29), none⟩]) (ACode.region [⟨some 31, AOp.move (Opd.tmp 9), none⟩, ⟨some 32, AOp.bin
    (BinOp.add) (Opd.const (V.int (IntKind.i64) 13)) (Opd.tmp 31), none⟩, ⟨some 33, AOp.move (Opd.tmp 9), none⟩, ⟨some 34, AOp.bin (BinOp.mul) (Opd.const (V.int (IntKind.i64) 4)) (Opd.tmp 33), none⟩,
    ⟨some 35, AOp.sliceArr 12 1 (Opd.tmp 5) (some (Opd.tmp 34)) none none, none⟩, ⟨some 36, AOp.call (Opd.func 30) [Opd.tmp 35], none⟩, ⟨some 30, AOp.move (Opd.tmp 36), none⟩, ⟨some 37, AOp.extract
    (Opd.tmp 30) 0, none⟩, ⟨some 38, AOp.extract (Opd.tmp 30) 1, none⟩, ⟨some 39, AOp.indexAddrA 16 1 (Opd.tmp 7) (Opd.tmp 32), none⟩, ⟨none, AOp.store 1 (Opd.tmp 39) (Opd.tmp 37), none⟩])))
    (ACode.region [⟨some 40, AOp.bin (BinOp.add) (Opd.tmp 27) (Opd.const (V.int (IntKind.i64) 1)), none⟩, ⟨some 27, AOp.move (Opd.tmp 40), none⟩])))
theorem c22_l1_wr : c22_l1.wr = [28, 29, 9, 31, 32, 33, 34, 35, 36, 30, 37, 38, 39, 40, 27] := by kernel_rfl
/-- A loop of function 22. -/
def c22_l0 : ACode :=
  ACode.seq (ACode.region [⟨some 12, AOp.bin (BinOp.lss) (Opd.tmp 11) (Opd.const (V.int (IntKind.i64) 8)), none⟩]) (ACode.seq (ACode.cond (Opd.tmp 12) (ACode.skip) (ACode.exit 0)) (ACode.seq
    (ACode.block 1 (ACode.seq (ACode.region [⟨some 13, AOp.move (Opd.tmp 11), none⟩, ⟨some 8, AOp.move (Opd.tmp 13), none⟩]) (ACode.region [⟨some 15, AOp.move (Opd.tmp 8), none⟩, ⟨some 16, AOp.bin
    (BinOp.add) (Opd.const (V.int (IntKind.i64) 4)) (Opd.tmp 15), none⟩, ⟨some 17, AOp.move (Opd.tmp 8), none⟩, ⟨some 18, AOp.bin (BinOp.mul) (Opd.const (V.int (IntKind.i64) 4)) (Opd.tmp 17), none⟩,
    ⟨some 19, AOp.sliceArr 32 1 (Opd.tmp 3) (some (Opd.tmp 18)) none none, none⟩, ⟨some 20, AOp.call (Opd.func 30) [Opd.tmp 19], none⟩, ⟨some 14, AOp.move (Opd.tmp 20), none⟩, ⟨some 21, AOp.extract
    (Opd.tmp 14) 0, none⟩, ⟨some 22, AOp.extract (Opd.tmp 14) 1, none⟩, ⟨some 23, AOp.indexAddrA 16 1 (Opd.tmp 7) (Opd.tmp 16), none⟩, ⟨none, AOp.store 1 (Opd.tmp 23) (Opd.tmp 21), none⟩])))
    (ACode.region [⟨some 24, AOp.bin (BinOp.add) (Opd.tmp 11) (Opd.const (V.int (IntKind.i64) 1)), none⟩, ⟨some 11, AOp.move (Opd.tmp 24), none⟩])))
theorem c22_l0_wr : c22_l0.wr = [12, 13, 8, 15, 16, 17, 18, 19, 20, 14, 21, 22, 23, 24, 11] := by kernel_rfl
/-- Function 22: chacha.words. -/
def c22 : AFn :=
  ⟨42, [ARes.cells 6 16], ACode.seq (ACode.region [⟨some 3, AOp.boxv 22 1 (Opd.tmp 0), none⟩, ⟨some 5, AOp.boxv 26 1 (Opd.tmp 2), none⟩, ⟨some 6, AOp.box 46 1 [V.int (IntKind.u32) 0, V.int
    (IntKind.u32) 0, V.int (IntKind.u32) 0, V.int (IntKind.u32) 0, V.int (IntKind.u32) 0, V.int (IntKind.u32) 0, V.int (IntKind.u32) 0, V.int (IntKind.u32) 0, V.int (IntKind.u32) 0, V.int
    (IntKind.u32) 0, V.int (IntKind.u32) 0, V.int (IntKind.u32) 0, V.int (IntKind.u32) 0, V.int (IntKind.u32) 0, V.int (IntKind.u32) 0, V.int (IntKind.u32) 0], none⟩]) (ACode.seq (ACode.region [⟨some
    10, AOp.build [V.int (IntKind.u32) 0, V.int (IntKind.u32) 0, V.int (IntKind.u32) 0, V.int (IntKind.u32) 0, V.int (IntKind.u32) 0, V.int (IntKind.u32) 0, V.int (IntKind.u32) 0, V.int (IntKind.u32)
    0, V.int (IntKind.u32) 0, V.int (IntKind.u32) 0, V.int (IntKind.u32) 0, V.int (IntKind.u32) 0, V.int (IntKind.u32) 0, V.int (IntKind.u32) 0, V.int (IntKind.u32) 0, V.int (IntKind.u32) 0] [(0, 1,
    Opd.const (V.int (IntKind.u32) 1634760805)), (1, 1, Opd.const (V.int (IntKind.u32) 857760878)), (2, 1, Opd.const (V.int (IntKind.u32) 2036477234)), (3, 1, Opd.const (V.int (IntKind.u32)
    1797285236))], none⟩, ⟨some 7, AOp.box 46 1 [V.int (IntKind.u32) 0, V.int (IntKind.u32) 0, V.int (IntKind.u32) 0, V.int (IntKind.u32) 0, V.int (IntKind.u32) 0, V.int (IntKind.u32) 0, V.int
    (IntKind.u32) 0, V.int (IntKind.u32) 0, V.int (IntKind.u32) 0, V.int (IntKind.u32) 0, V.int (IntKind.u32) 0, V.int (IntKind.u32) 0, V.int (IntKind.u32) 0, V.int (IntKind.u32) 0, V.int
    (IntKind.u32) 0, V.int (IntKind.u32) 0], none⟩, ⟨none, AOp.store 16 (Opd.tmp 7) (Opd.tmp 10), none⟩]) (ACode.seq (ACode.seq (ACode.region [⟨some 11, AOp.move (Opd.const (V.int (IntKind.i64) 0)),
    none⟩]) (ACode.block 0 (ACode.loop c22_l0))) (ACode.seq (ACode.region [⟨some 25, AOp.move (Opd.tmp 1), none⟩, ⟨some 26, AOp.indexAddrA 16 1 (Opd.tmp 7) (Opd.const (V.int (IntKind.i64) 12)), none⟩,
    ⟨none, AOp.store 1 (Opd.tmp 26) (Opd.tmp 25), none⟩]) (ACode.seq (ACode.seq (ACode.region [⟨some 27, AOp.move (Opd.const (V.int (IntKind.i64) 0)), none⟩]) (ACode.block 2 (ACode.loop c22_l1)))
    (ACode.seq (ACode.region [⟨some 41, AOp.loadn 16 (Opd.tmp 7), none⟩, ⟨none, AOp.store 16 (Opd.tmp 6) (Opd.tmp 41), none⟩]) (ACode.ret))))))⟩
theorem h22 : compFn Try.prog Try.f22 = some c22 := by kernel_rfl
/-- Function 23: chacha.Block$1. -/
def c23 : AFn :=
  ⟨35, [], ACode.anyRegion [⟨some 10, AOp.move (Opd.tmp 0), none⟩, ⟨some 11, AOp.move (Opd.tmp 1), none⟩, ⟨some 12, AOp.move (Opd.tmp 2), none⟩, ⟨some 13, AOp.move (Opd.tmp 3), none⟩, ⟨some 14,
    AOp.move (Opd.tmp 0), none⟩, ⟨some 15, AOp.indexAddrA 16 1 (Opd.tmp 4) (Opd.tmp 14), none⟩, ⟨some 16, AOp.load (Opd.tmp 15), none⟩, ⟨some 17, AOp.move (Opd.tmp 1), none⟩, ⟨some 18, AOp.indexAddrA
    16 1 (Opd.tmp 4) (Opd.tmp 17), none⟩, ⟨some 19, AOp.load (Opd.tmp 18), none⟩, ⟨some 20, AOp.move (Opd.tmp 2), none⟩, ⟨some 21, AOp.indexAddrA 16 1 (Opd.tmp 4) (Opd.tmp 20), none⟩, ⟨some 22,
    AOp.load (Opd.tmp 21), none⟩, ⟨some 23, AOp.move (Opd.tmp 3), none⟩, ⟨some 24, AOp.indexAddrA 16 1 (Opd.tmp 4) (Opd.tmp 23), none⟩, ⟨some 25, AOp.load (Opd.tmp 24), none⟩, ⟨some 26, AOp.call
    (Opd.func 24) [Opd.tmp 16, Opd.tmp 19, Opd.tmp 22, Opd.tmp 25], none⟩, ⟨some 9, AOp.move (Opd.tmp 26), none⟩, ⟨some 27, AOp.extract (Opd.tmp 9) 0, none⟩, ⟨some 28, AOp.extract (Opd.tmp 9) 1,
    none⟩, ⟨some 29, AOp.extract (Opd.tmp 9) 2, none⟩, ⟨some 30, AOp.extract (Opd.tmp 9) 3, none⟩, ⟨some 31, AOp.indexAddrA 16 1 (Opd.tmp 4) (Opd.tmp 10), none⟩, ⟨none, AOp.store 1 (Opd.tmp 31)
    (Opd.tmp 27), none⟩, ⟨some 32, AOp.indexAddrA 16 1 (Opd.tmp 4) (Opd.tmp 11), none⟩, ⟨none, AOp.store 1 (Opd.tmp 32) (Opd.tmp 28), none⟩, ⟨some 33, AOp.indexAddrA 16 1 (Opd.tmp 4) (Opd.tmp 12),
    none⟩, ⟨none, AOp.store 1 (Opd.tmp 33) (Opd.tmp 29), none⟩, ⟨some 34, AOp.indexAddrA 16 1 (Opd.tmp 4) (Opd.tmp 13), none⟩, ⟨none, AOp.store 1 (Opd.tmp 34) (Opd.tmp 30), none⟩] []⟩
theorem h23 : compFn Try.prog Try.f23 = some c23 := by kernel_rfl
/-- Function 24: chacha.Quarter. -/
def c24 : AFn :=
  ⟨44, [ARes.tmp 8, ARes.tmp 9, ARes.tmp 10, ARes.tmp 11], ACode.seq (ACode.region [⟨some 8, AOp.move (Opd.const (V.int (IntKind.u32) 0)), none⟩, ⟨some 9, AOp.move (Opd.const (V.int (IntKind.u32) 0)),
    none⟩, ⟨some 10, AOp.move (Opd.const (V.int (IntKind.u32) 0)), none⟩, ⟨some 11, AOp.move (Opd.const (V.int (IntKind.u32) 0)), none⟩]) (ACode.seq (ACode.region [⟨some 12, AOp.move (Opd.tmp 0),
    none⟩, ⟨some 13, AOp.move (Opd.tmp 1), none⟩, ⟨some 14, AOp.bin (BinOp.add) (Opd.tmp 12) (Opd.tmp 13), none⟩, ⟨some 0, AOp.move (Opd.tmp 14), none⟩]) (ACode.seq (ACode.region [⟨some 15, AOp.move
    (Opd.tmp 3), none⟩, ⟨some 16, AOp.move (Opd.tmp 0), none⟩, ⟨some 17, AOp.bin (BinOp.xor) (Opd.tmp 15) (Opd.tmp 16), none⟩, ⟨some 18, AOp.call (Opd.func 31) [Opd.tmp 17, Opd.const (V.int
    (IntKind.i64) 16)], none⟩, ⟨some 3, AOp.move (Opd.tmp 18), none⟩]) (ACode.seq (ACode.region [⟨some 19, AOp.move (Opd.tmp 2), none⟩, ⟨some 20, AOp.move (Opd.tmp 3), none⟩, ⟨some 21, AOp.bin
    (BinOp.add) (Opd.tmp 19) (Opd.tmp 20), none⟩, ⟨some 2, AOp.move (Opd.tmp 21), none⟩]) (ACode.seq (ACode.region [⟨some 22, AOp.move (Opd.tmp 1), none⟩, ⟨some 23, AOp.move (Opd.tmp 2), none⟩, ⟨some
    24, AOp.bin (BinOp.xor) (Opd.tmp 22) (Opd.tmp 23), none⟩, ⟨some 25, AOp.call (Opd.func 31) [Opd.tmp 24, Opd.const (V.int (IntKind.i64) 12)], none⟩, ⟨some 1, AOp.move (Opd.tmp 25), none⟩])
    (ACode.seq (ACode.region [⟨some 26, AOp.move (Opd.tmp 0), none⟩, ⟨some 27, AOp.move (Opd.tmp 1), none⟩, ⟨some 28, AOp.bin (BinOp.add) (Opd.tmp 26) (Opd.tmp 27), none⟩, ⟨some 0, AOp.move (Opd.tmp
    28), none⟩]) (ACode.seq (ACode.region [⟨some 29, AOp.move (Opd.tmp 3), none⟩, ⟨some 30, AOp.move (Opd.tmp 0), none⟩, ⟨some 31, AOp.bin (BinOp.xor) (Opd.tmp 29) (Opd.tmp 30), none⟩, ⟨some 32,
    AOp.call (Opd.func 31) [Opd.tmp 31, Opd.const (V.int (IntKind.i64) 8)], none⟩, ⟨some 3, AOp.move (Opd.tmp 32), none⟩]) (ACode.seq (ACode.region [⟨some 33, AOp.move (Opd.tmp 2), none⟩, ⟨some 34,
    AOp.move (Opd.tmp 3), none⟩, ⟨some 35, AOp.bin (BinOp.add) (Opd.tmp 33) (Opd.tmp 34), none⟩, ⟨some 2, AOp.move (Opd.tmp 35), none⟩]) (ACode.seq (ACode.region [⟨some 36, AOp.move (Opd.tmp 1),
    none⟩, ⟨some 37, AOp.move (Opd.tmp 2), none⟩, ⟨some 38, AOp.bin (BinOp.xor) (Opd.tmp 36) (Opd.tmp 37), none⟩, ⟨some 39, AOp.call (Opd.func 31) [Opd.tmp 38, Opd.const (V.int (IntKind.i64) 7)],
    none⟩, ⟨some 1, AOp.move (Opd.tmp 39), none⟩]) (ACode.seq (ACode.region [⟨some 40, AOp.move (Opd.tmp 0), none⟩, ⟨some 41, AOp.move (Opd.tmp 1), none⟩, ⟨some 42, AOp.move (Opd.tmp 2), none⟩, ⟨some
    43, AOp.move (Opd.tmp 3), none⟩, ⟨some 8, AOp.move (Opd.tmp 40), none⟩, ⟨some 9, AOp.move (Opd.tmp 41), none⟩, ⟨some 10, AOp.move (Opd.tmp 42), none⟩, ⟨some 11, AOp.move (Opd.tmp 43), none⟩])
    (ACode.ret))))))))))⟩
theorem h24 : compFn Try.prog Try.f24 = some c24 := by kernel_rfl
/-- Function 25: octet.Put32. -/
def c25 : AFn :=
  ⟨6, [ARes.tmp 2], ACode.seq (ACode.region [⟨some 2, AOp.move (Opd.const (V.nilslice)), none⟩]) (ACode.seq (ACode.region [⟨some 3, AOp.move (Opd.tmp 0), none⟩, ⟨some 4, AOp.conv (IntKind.u64)
    (Opd.tmp 3), none⟩, ⟨some 5, AOp.call (Opd.func 32) [Opd.tmp 4, Opd.const (V.int (IntKind.i64) 4)], none⟩, ⟨some 2, AOp.move (Opd.tmp 5), none⟩]) (ACode.ret))⟩
theorem h25 : compFn Try.prog Try.f25 = some c25 := by kernel_rfl
/-- A loop of function 26. -/
def c26_l0 : ACode :=
  ACode.seq (ACode.region [⟨some 16, AOp.bin (BinOp.lss) (Opd.tmp 15) (Opd.tmp 14), none⟩]) (ACode.seq (ACode.cond (Opd.tmp 16) (ACode.skip) (ACode.exit 0)) (ACode.seq (ACode.block 1 (ACode.seq
    (ACode.region [⟨some 17, AOp.move (Opd.tmp 15), none⟩, ⟨some 6, AOp.move (Opd.tmp 17), none⟩]) (ACode.anyRegion [⟨some 18, AOp.move (Opd.tmp 5), none⟩, ⟨some 19, AOp.move (Opd.tmp 6), none⟩, ⟨some
    20, AOp.move (Opd.tmp 0), none⟩, ⟨some 21, AOp.move (Opd.tmp 6), none⟩, ⟨some 22, AOp.indexAddrS 1 (Opd.tmp 20) (Opd.tmp 21), none⟩, ⟨some 23, AOp.load (Opd.tmp 22), none⟩, ⟨some 24, AOp.move
    (Opd.tmp 1), none⟩, ⟨some 25, AOp.move (Opd.tmp 6), none⟩, ⟨some 26, AOp.indexAddrS 1 (Opd.tmp 24) (Opd.tmp 25), none⟩, ⟨some 27, AOp.load (Opd.tmp 26), none⟩, ⟨some 28, AOp.bin (BinOp.xor)
    (Opd.tmp 23) (Opd.tmp 27), none⟩, ⟨some 29, AOp.indexAddrS 1 (Opd.tmp 18) (Opd.tmp 19), none⟩, ⟨none, AOp.store 1 (Opd.tmp 29) (Opd.tmp 28), none⟩] []))) (ACode.region [⟨some 30, AOp.bin
    (BinOp.add) (Opd.tmp 15) (Opd.const (V.int (IntKind.i64) 1)), none⟩, ⟨some 15, AOp.move (Opd.tmp 30), none⟩])))
theorem c26_l0_wr : c26_l0.wr = [16, 17, 6, 18, 19, 20, 21, 22, 23, 24, 25, 26, 27, 28, 29, 30, 15] := by kernel_rfl
/-- Function 26: octet.Xor. -/
def c26 : AFn :=
  ⟨32, [ARes.tmp 4], ACode.seq (ACode.region [⟨some 4, AOp.move (Opd.const (V.nilslice)), none⟩]) (ACode.seq (ACode.region [⟨some 7, AOp.move (Opd.tmp 0), none⟩, ⟨some 8, AOp.lenL (Opd.tmp 7), none⟩,
    ⟨some 9, AOp.move (Opd.tmp 1), none⟩, ⟨some 10, AOp.lenL (Opd.tmp 9), none⟩, ⟨some 11, AOp.minmax false [Opd.tmp 8, Opd.tmp 10], none⟩, ⟨some 12, AOp.makeSlice 5 1 1 [V.int (IntKind.u8) 0]
    (Opd.tmp 11) (Opd.tmp 11), none⟩, ⟨some 5, AOp.move (Opd.tmp 12), none⟩]) (ACode.seq (ACode.seq (ACode.region [⟨some 13, AOp.move (Opd.tmp 5), none⟩, ⟨some 14, AOp.lenL (Opd.tmp 13), none⟩, ⟨some
    15, AOp.move (Opd.const (V.int (IntKind.i64) 0)), none⟩]) (ACode.block 0 (ACode.loop c26_l0))) (ACode.seq (ACode.region [⟨some 31, AOp.move (Opd.tmp 5), none⟩, ⟨some 4, AOp.move (Opd.tmp 31),
    none⟩]) (ACode.ret))))⟩
theorem h26 : compFn Try.prog Try.f26 = some c26 := by kernel_rfl
/-- Function 30: octet.Get32. -/
def c30 : AFn :=
  ⟨14, [ARes.tmp 2, ARes.tmp 3], ACode.seq (ACode.region [⟨some 2, AOp.move (Opd.const (V.int (IntKind.u32) 0)), none⟩, ⟨some 3, AOp.move (Opd.const (V.bool false)), none⟩]) (ACode.seq (ACode.region
    [⟨some 7, AOp.move (Opd.tmp 0), none⟩, ⟨some 8, AOp.call (Opd.func 35) [Opd.tmp 7, Opd.const (V.int (IntKind.i64) 4)], none⟩, ⟨some 6, AOp.move (Opd.tmp 8), none⟩, ⟨some 9, AOp.extract (Opd.tmp 6)
    0, none⟩, ⟨some 10, AOp.extract (Opd.tmp 6) 1, none⟩, ⟨some 4, AOp.move (Opd.tmp 9), none⟩, ⟨some 5, AOp.move (Opd.tmp 10), none⟩]) (ACode.seq (ACode.region [⟨some 11, AOp.move (Opd.tmp 4), none⟩,
    ⟨some 12, AOp.conv (IntKind.u32) (Opd.tmp 11), none⟩, ⟨some 13, AOp.move (Opd.tmp 5), none⟩, ⟨some 2, AOp.move (Opd.tmp 12), none⟩, ⟨some 3, AOp.move (Opd.tmp 13), none⟩]) (ACode.ret)))⟩
theorem h30 : compFn Try.prog Try.f30 = some c30 := by kernel_rfl
/-- Function 31: bits.RotateLeft32. -/
def c31 : AFn :=
  ⟨17, [ARes.tmp 4], ACode.seq (ACode.region [⟨some 4, AOp.move (Opd.const (V.int (IntKind.u32) 0)), none⟩]) (ACode.seq (ACode.region [⟨some 6, AOp.move (Opd.tmp 1), none⟩, ⟨some 7, AOp.conv
    (IntKind.u64) (Opd.tmp 6), none⟩, ⟨some 8, AOp.bin (BinOp.and) (Opd.tmp 7) (Opd.const (V.int (IntKind.u64) 31)), none⟩, ⟨some 5, AOp.move (Opd.tmp 8), none⟩]) (ACode.seq (ACode.region [⟨some 9,
    AOp.move (Opd.tmp 0), none⟩, ⟨some 10, AOp.move (Opd.tmp 5), none⟩, ⟨some 11, AOp.bin (BinOp.shl) (Opd.tmp 9) (Opd.tmp 10), none⟩, ⟨some 12, AOp.move (Opd.tmp 0), none⟩, ⟨some 13, AOp.move
    (Opd.tmp 5), none⟩, ⟨some 14, AOp.bin (BinOp.sub) (Opd.const (V.int (IntKind.u64) 32)) (Opd.tmp 13), none⟩, ⟨some 15, AOp.bin (BinOp.shr) (Opd.tmp 12) (Opd.tmp 14), none⟩, ⟨some 16, AOp.bin
    (BinOp.or) (Opd.tmp 11) (Opd.tmp 15), none⟩, ⟨some 4, AOp.move (Opd.tmp 16), none⟩]) (ACode.ret)))⟩
theorem h31 : compFn Try.prog Try.f31 = some c31 := by kernel_rfl
/-- A loop of function 32. -/
def c32_l0 : ACode :=
  ACode.seq (ACode.region [⟨some 12, AOp.bin (BinOp.lss) (Opd.tmp 11) (Opd.tmp 10), none⟩]) (ACode.seq (ACode.cond (Opd.tmp 12) (ACode.skip) (ACode.exit 0)) (ACode.seq (ACode.block 1 (ACode.seq
    (ACode.region [⟨some 13, AOp.move (Opd.tmp 11), none⟩, ⟨some 6, AOp.move (Opd.tmp 13), none⟩]) (ACode.region [⟨some 14, AOp.move (Opd.tmp 5), none⟩, ⟨some 15, AOp.move (Opd.tmp 6), none⟩, ⟨some
    16, AOp.move (Opd.tmp 0), none⟩, ⟨some 17, AOp.move (Opd.tmp 6), none⟩, ⟨some 18, AOp.bin (BinOp.mul) (Opd.const (V.int (IntKind.i64) 8)) (Opd.tmp 17), none⟩, ⟨some 19, AOp.bin (BinOp.shr)
    (Opd.tmp 16) (Opd.tmp 18), none⟩, ⟨some 20, AOp.conv (IntKind.u8) (Opd.tmp 19), none⟩, ⟨some 21, AOp.indexAddrS 1 (Opd.tmp 14) (Opd.tmp 15), none⟩, ⟨none, AOp.store 1 (Opd.tmp 21) (Opd.tmp 20),
    none⟩]))) (ACode.region [⟨some 22, AOp.bin (BinOp.add) (Opd.tmp 11) (Opd.const (V.int (IntKind.i64) 1)), none⟩, ⟨some 11, AOp.move (Opd.tmp 22), none⟩])))
theorem c32_l0_wr : c32_l0.wr = [12, 13, 6, 14, 15, 16, 17, 18, 19, 20, 21, 22, 11] := by kernel_rfl
/-- Function 32: octet.put. -/
def c32 : AFn :=
  ⟨24, [ARes.tmp 4], ACode.seq (ACode.region [⟨some 4, AOp.move (Opd.const (V.nilslice)), none⟩]) (ACode.seq (ACode.region [⟨some 7, AOp.move (Opd.tmp 1), none⟩, ⟨some 8, AOp.makeSlice 5 1 1 [V.int
    (IntKind.u8) 0] (Opd.tmp 7) (Opd.tmp 7), none⟩, ⟨some 5, AOp.move (Opd.tmp 8), none⟩]) (ACode.seq (ACode.seq (ACode.region [⟨some 9, AOp.move (Opd.tmp 5), none⟩, ⟨some 10, AOp.lenL (Opd.tmp 9),
    none⟩, ⟨some 11, AOp.move (Opd.const (V.int (IntKind.i64) 0)), none⟩]) (ACode.block 0 (ACode.loop c32_l0))) (ACode.seq (ACode.region [⟨some 23, AOp.move (Opd.tmp 5), none⟩, ⟨some 4, AOp.move
    (Opd.tmp 23), none⟩]) (ACode.ret))))⟩
theorem h32 : compFn Try.prog Try.f32 = some c32 := by kernel_rfl
/-- A loop of function 35. -/
def c35_l0 : ACode :=
  ACode.seq (ACode.region [⟨some 14, AOp.bin (BinOp.lss) (Opd.tmp 13) (Opd.tmp 12), none⟩]) (ACode.seq (ACode.cond (Opd.tmp 14) (ACode.skip) (ACode.exit 0)) (ACode.seq (ACode.block 1 (ACode.seq
    (ACode.region [⟨some 15, AOp.move (Opd.tmp 13), none⟩, ⟨some 7, AOp.move (Opd.tmp 15), none⟩]) (ACode.region [⟨some 16, AOp.move (Opd.tmp 6), none⟩, ⟨some 17, AOp.move (Opd.tmp 0), none⟩, ⟨some
    18, AOp.move (Opd.tmp 7), none⟩, ⟨some 19, AOp.indexAddrS 1 (Opd.tmp 17) (Opd.tmp 18), none⟩, ⟨some 20, AOp.load (Opd.tmp 19), none⟩, ⟨some 21, AOp.conv (IntKind.u64) (Opd.tmp 20), none⟩, ⟨some
    22, AOp.move (Opd.tmp 7), none⟩, ⟨some 23, AOp.bin (BinOp.mul) (Opd.const (V.int (IntKind.i64) 8)) (Opd.tmp 22), none⟩, ⟨some 24, AOp.bin (BinOp.shl) (Opd.tmp 21) (Opd.tmp 23), none⟩, ⟨some 25,
    AOp.bin (BinOp.or) (Opd.tmp 16) (Opd.tmp 24), none⟩, ⟨some 6, AOp.move (Opd.tmp 25), none⟩]))) (ACode.region [⟨some 26, AOp.bin (BinOp.add) (Opd.tmp 13) (Opd.const (V.int (IntKind.i64) 1)), none⟩,
    ⟨some 13, AOp.move (Opd.tmp 26), none⟩])))
theorem c35_l0_wr : c35_l0.wr = [14, 15, 7, 16, 17, 18, 19, 20, 21, 22, 23, 24, 25, 6, 26, 13] := by kernel_rfl
/-- Function 35: octet.get. -/
def c35 : AFn :=
  ⟨28, [ARes.tmp 4, ARes.tmp 5], ACode.seq (ACode.region [⟨some 4, AOp.move (Opd.const (V.int (IntKind.u64) 0)), none⟩, ⟨some 5, AOp.move (Opd.const (V.bool false)), none⟩]) (ACode.seq (ACode.seq
    (ACode.region [⟨some 8, AOp.move (Opd.tmp 0), none⟩, ⟨some 9, AOp.lenL (Opd.tmp 8), none⟩, ⟨some 10, AOp.move (Opd.tmp 1), none⟩, ⟨some 11, AOp.bin (BinOp.lss) (Opd.tmp 9) (Opd.tmp 10), none⟩])
    (ACode.cond (Opd.tmp 11) (ACode.seq (ACode.region [⟨some 4, AOp.move (Opd.const (V.int (IntKind.u64) 0)), none⟩, ⟨some 5, AOp.move (Opd.const (V.bool false)), none⟩]) (ACode.ret)) (ACode.skip)))
    (ACode.seq (ACode.region [⟨some 6, AOp.move (Opd.const (V.int (IntKind.u64) 0)), none⟩]) (ACode.seq (ACode.seq (ACode.region [⟨some 12, AOp.move (Opd.tmp 1), none⟩, ⟨some 13, AOp.move (Opd.const
    (V.int (IntKind.i64) 0)), none⟩]) (ACode.block 0 (ACode.loop c35_l0))) (ACode.seq (ACode.region [⟨some 27, AOp.move (Opd.tmp 6), none⟩, ⟨some 4, AOp.move (Opd.tmp 27), none⟩, ⟨some 5, AOp.move
    (Opd.const (V.bool true)), none⟩]) (ACode.ret)))))⟩
theorem h35 : compFn Try.prog Try.f35 = some c35 := by kernel_rfl
def tab (f : Nat) : Option AFn :=
  if f = 5 then some c5 else if f = 10 then some c10 else if f = 11 then some c11 else if f = 12 then some c12 else if f = 13 then some c13 else if f = 14 then some c14 else if f = 15 then some c15 else if f = 22 then some c22 else if f = 23 then some c23 else if f = 24 then some c24 else if f = 25 then some c25 else if f = 26 then some c26 else if f = 30 then some c30 else if f = 31 then some c31 else if f = 32 then some c32 else if f = 35 then some c35 else none
theorem tab_holds : Holds Try.prog tab := by
  intro f fn hf
  unfold tab at hf
  by_cases e5 : f = 5
  · rw [if_pos e5] at hf; subst e5; cases hf; exact ⟨_, Try.func5, h5⟩
  rw [if_neg e5] at hf
  by_cases e10 : f = 10
  · rw [if_pos e10] at hf; subst e10; cases hf; exact ⟨_, Try.func10, h10⟩
  rw [if_neg e10] at hf
  by_cases e11 : f = 11
  · rw [if_pos e11] at hf; subst e11; cases hf; exact ⟨_, Try.func11, h11⟩
  rw [if_neg e11] at hf
  by_cases e12 : f = 12
  · rw [if_pos e12] at hf; subst e12; cases hf; exact ⟨_, Try.func12, h12⟩
  rw [if_neg e12] at hf
  by_cases e13 : f = 13
  · rw [if_pos e13] at hf; subst e13; cases hf; exact ⟨_, Try.func13, h13⟩
  rw [if_neg e13] at hf
  by_cases e14 : f = 14
  · rw [if_pos e14] at hf; subst e14; cases hf; exact ⟨_, Try.func14, h14⟩
  rw [if_neg e14] at hf
  by_cases e15 : f = 15
  · rw [if_pos e15] at hf; subst e15; cases hf; exact ⟨_, Try.func15, h15⟩
  rw [if_neg e15] at hf
  by_cases e22 : f = 22
  · rw [if_pos e22] at hf; subst e22; cases hf; exact ⟨_, Try.func22, h22⟩
  rw [if_neg e22] at hf
  by_cases e23 : f = 23
  · rw [if_pos e23] at hf; subst e23; cases hf; exact ⟨_, Try.func23, h23⟩
  rw [if_neg e23] at hf
  by_cases e24 : f = 24
  · rw [if_pos e24] at hf; subst e24; cases hf; exact ⟨_, Try.func24, h24⟩
  rw [if_neg e24] at hf
  by_cases e25 : f = 25
  · rw [if_pos e25] at hf; subst e25; cases hf; exact ⟨_, Try.func25, h25⟩
  rw [if_neg e25] at hf
  by_cases e26 : f = 26
  · rw [if_pos e26] at hf; subst e26; cases hf; exact ⟨_, Try.func26, h26⟩
  rw [if_neg e26] at hf
  by_cases e30 : f = 30
  · rw [if_pos e30] at hf; subst e30; cases hf; exact ⟨_, Try.func30, h30⟩
  rw [if_neg e30] at hf
  by_cases e31 : f = 31
  · rw [if_pos e31] at hf; subst e31; cases hf; exact ⟨_, Try.func31, h31⟩
  rw [if_neg e31] at hf
  by_cases e32 : f = 32
  · rw [if_pos e32] at hf; subst e32; cases hf; exact ⟨_, Try.func32, h32⟩
  rw [if_neg e32] at hf
  by_cases e35 : f = 35
  · rw [if_pos e35] at hf; subst e35; cases hf; exact ⟨_, Try.func35, h35⟩
  rw [if_neg e35] at hf
  cases hf
end Go.Proofs.Ytjdofdokdemnkaa.ChachaTurns
