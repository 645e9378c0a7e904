/- The functions that the law PadUnpads reaches, as the abstract machine has them. No condition. -/
import Derived.Test.YtaaejidllnkpbaaDoorA37
import Derived.KernelRfl
namespace Go.Proofs.YtaaejidllnkpbaaDoor.PadUnpads
open Go Go.Proofs.YtaaejidllnkpbaaDoorA
/-- What follows in function 4. -/
def c4_s2 : ACode :=
  ACode.seq (ACode.region [⟨some 61, AOp.move (Opd.tmp 0), none⟩, ⟨some 62, AOp.call (Opd.func 13) [Opd.tmp 61], none⟩, ⟨some 60, AOp.move (Opd.tmp 62), none⟩, ⟨some 63, AOp.extract (Opd.tmp 60) 0,
    none⟩, ⟨some 64, AOp.extract (Opd.tmp 60) 1, none⟩, ⟨some 13, AOp.move (Opd.tmp 63), none⟩, ⟨some 14, AOp.move (Opd.tmp 64), none⟩]) (ACode.seq (ACode.region [⟨some 66, AOp.move (Opd.tmp 0),
    none⟩, ⟨some 67, AOp.call (Opd.func 14) [Opd.tmp 66], none⟩, ⟨some 65, AOp.move (Opd.tmp 67), none⟩, ⟨some 68, AOp.extract (Opd.tmp 65) 0, none⟩, ⟨some 69, AOp.extract (Opd.tmp 65) 1, none⟩, ⟨some
    15, AOp.move (Opd.tmp 68), none⟩, ⟨some 16, AOp.move (Opd.tmp 69), none⟩]) (ACode.seq (ACode.region [⟨some 70, AOp.call (Opd.func 12) [], none⟩, ⟨some 71, AOp.move (Opd.tmp 70), none⟩, ⟨some 72,
    AOp.move (Opd.tmp 13), some (71, true)⟩, ⟨some 73, AOp.bytesStr (Opd.tmp 72), some (71, true)⟩, ⟨some 74, AOp.move (Opd.tmp 15), some (71, true)⟩, ⟨some 75, AOp.bytesStr (Opd.tmp 74), some (71,
    true)⟩, ⟨some 76, AOp.bin (BinOp.eql) (Opd.tmp 73) (Opd.tmp 75), some (71, true)⟩, ⟨some 77, AOp.pick (Opd.tmp 71) (Opd.tmp 76) (Opd.const (V.bool false)), none⟩, ⟨some 78, AOp.move (Opd.tmp 77),
    none⟩, ⟨some 79, AOp.move (Opd.tmp 14), some (78, true)⟩, ⟨some 80, AOp.move (Opd.tmp 16), some (78, true)⟩, ⟨some 81, AOp.bin (BinOp.eql) (Opd.tmp 79) (Opd.tmp 80), some (78, true)⟩, ⟨some 82,
    AOp.pick (Opd.tmp 78) (Opd.tmp 81) (Opd.const (V.bool false)), none⟩, ⟨some 10, AOp.move (Opd.tmp 82), none⟩]) (ACode.ret)))
/-- Function 4: portholelaw15.PadUnpads. -/
def c4 : AFn :=
  ⟨83, [ARes.tmp 10], ACode.seq (ACode.region [⟨some 10, AOp.move (Opd.const (V.bool false)), none⟩]) (ACode.seq (ACode.seq (ACode.region [⟨some 17, AOp.move (Opd.tmp 4), none⟩, ⟨some 18, AOp.bin
    (BinOp.rem) (Opd.tmp 17) (Opd.const (V.int (IntKind.i64) 4)), none⟩, ⟨some 19, AOp.bin (BinOp.gtr) (Opd.tmp 18) (Opd.const (V.int (IntKind.i64) 0)), none⟩]) (ACode.cond (Opd.tmp 19) (ACode.seq
    (ACode.region [⟨some 21, AOp.move (Opd.tmp 1), none⟩, ⟨some 22, AOp.call (Opd.func 7) [Opd.tmp 21, Opd.const (V.int (IntKind.i64) 3000)], none⟩, ⟨some 23, AOp.call (Opd.func 9) [Opd.tmp 22],
    none⟩, ⟨some 20, AOp.move (Opd.tmp 23), none⟩, ⟨some 24, AOp.extract (Opd.tmp 20) 0, none⟩, ⟨some 25, AOp.extract (Opd.tmp 20) 1, none⟩, ⟨some 11, AOp.move (Opd.tmp 24), none⟩, ⟨some 12, AOp.move
    (Opd.tmp 25), none⟩]) (ACode.seq (ACode.seq (ACode.region [⟨some 26, AOp.move (Opd.tmp 4), none⟩, ⟨some 27, AOp.call (Opd.func 6) [Opd.tmp 26, Opd.const (V.int (IntKind.i64) 6)], none⟩])
    (ACode.block 0 (ACode.seq (ACode.region [⟨some 29, AOp.bin (BinOp.eql) (Opd.tmp 27) (Opd.const (V.int (IntKind.i64) 0)), none⟩, ⟨some 28, AOp.move (Opd.tmp 29), none⟩]) (ACode.cond (Opd.tmp 28)
    (ACode.region [⟨some 30, AOp.move (Opd.tmp 11), none⟩, ⟨some 31, AOp.move (Opd.tmp 2), none⟩, ⟨some 32, AOp.move (Opd.tmp 11), none⟩, ⟨some 33, AOp.lenL (Opd.tmp 32), none⟩, ⟨some 34, AOp.call
    (Opd.func 6) [Opd.tmp 31, Opd.tmp 33], none⟩, ⟨some 35, AOp.indexAddrS 1 (Opd.tmp 30) (Opd.tmp 34), none⟩, ⟨some 36, AOp.load (Opd.tmp 35), none⟩, ⟨some 37, AOp.move (Opd.tmp 3), none⟩, ⟨some 38,
    AOp.bin (BinOp.xor) (Opd.tmp 36) (Opd.tmp 37), none⟩, ⟨some 39, AOp.indexAddrS 1 (Opd.tmp 30) (Opd.tmp 34), none⟩, ⟨none, AOp.store 1 (Opd.tmp 39) (Opd.tmp 38), none⟩]) (ACode.seq (ACode.region
    [⟨some 41, AOp.bin (BinOp.eql) (Opd.tmp 27) (Opd.const (V.int (IntKind.i64) 1)), none⟩, ⟨some 40, AOp.move (Opd.tmp 41), none⟩]) (ACode.cond (Opd.tmp 40) (ACode.region [⟨some 42, AOp.move (Opd.tmp
    11), none⟩, ⟨some 43, AOp.move (Opd.tmp 2), none⟩, ⟨some 44, AOp.move (Opd.tmp 11), none⟩, ⟨some 45, AOp.lenL (Opd.tmp 44), none⟩, ⟨some 46, AOp.bin (BinOp.add) (Opd.tmp 45) (Opd.const (V.int
    (IntKind.i64) 1)), none⟩, ⟨some 47, AOp.call (Opd.func 6) [Opd.tmp 43, Opd.tmp 46], none⟩, ⟨some 48, AOp.sliceSl 1 (Opd.tmp 42) none (some (Opd.tmp 47)) none, none⟩, ⟨some 11, AOp.move (Opd.tmp
    48), none⟩]) (ACode.seq (ACode.region [⟨some 50, AOp.bin (BinOp.eql) (Opd.tmp 27) (Opd.const (V.int (IntKind.i64) 2)), none⟩, ⟨some 49, AOp.move (Opd.tmp 50), none⟩]) (ACode.cond (Opd.tmp 49)
    (ACode.region [⟨some 51, AOp.move (Opd.tmp 11), none⟩, ⟨some 52, AOp.appendZ 5 1 1 [V.int (IntKind.u8) 0] (Opd.tmp 51) (Opd.const (V.int (IntKind.i64) 192)), none⟩, ⟨some 11, AOp.move (Opd.tmp
    52), none⟩]) (ACode.seq (ACode.region [⟨some 54, AOp.bin (BinOp.eql) (Opd.tmp 27) (Opd.const (V.int (IntKind.i64) 3)), none⟩, ⟨some 53, AOp.move (Opd.tmp 54), none⟩]) (ACode.cond (Opd.tmp 53)
    (ACode.region [⟨some 55, AOp.move (Opd.tmp 11), none⟩, ⟨some 56, AOp.move (Opd.tmp 3), none⟩, ⟨some 57, AOp.bin (BinOp.rem) (Opd.tmp 56) (Opd.const (V.int (IntKind.u8) 4)), none⟩, ⟨some 58,
    AOp.indexAddrS 1 (Opd.tmp 55) (Opd.const (V.int (IntKind.i64) 0)), none⟩, ⟨none, AOp.store 1 (Opd.tmp 58) (Opd.tmp 57), none⟩]) (ACode.skip))))))))))) (ACode.region [⟨some 59, AOp.move (Opd.tmp
    11), none⟩, ⟨some 0, AOp.move (Opd.tmp 59), none⟩]))) (ACode.skip))) c4_s2)⟩
theorem h4 : compFn Tryd.prog Tryd.f4 = some c4 := by kernel_rfl
/-- Function 6: portholehand.Pick. -/
def c6 : AFn :=
  ⟨14, [ARes.tmp 4], ACode.seq (ACode.region [⟨some 4, AOp.move (Opd.const (V.int (IntKind.i64) 0)), none⟩]) (ACode.seq (ACode.region [⟨some 5, AOp.move (Opd.tmp 0), none⟩, ⟨some 6, AOp.move (Opd.tmp
    1), none⟩, ⟨some 7, AOp.bin (BinOp.rem) (Opd.tmp 5) (Opd.tmp 6), none⟩, ⟨some 0, AOp.move (Opd.tmp 7), none⟩]) (ACode.seq (ACode.seq (ACode.region [⟨some 8, AOp.move (Opd.tmp 0), none⟩, ⟨some 9,
    AOp.bin (BinOp.lss) (Opd.tmp 8) (Opd.const (V.int (IntKind.i64) 0)), none⟩]) (ACode.cond (Opd.tmp 9) (ACode.region [⟨some 10, AOp.move (Opd.tmp 0), none⟩, ⟨some 11, AOp.move (Opd.tmp 1), none⟩,
    ⟨some 12, AOp.bin (BinOp.add) (Opd.tmp 10) (Opd.tmp 11), none⟩, ⟨some 0, AOp.move (Opd.tmp 12), none⟩]) (ACode.skip))) (ACode.seq (ACode.region [⟨some 13, AOp.move (Opd.tmp 0), none⟩, ⟨some 4,
    AOp.move (Opd.tmp 13), none⟩]) (ACode.ret))))⟩
theorem h6 : compFn Tryd.prog Tryd.f6 = some c6 := by kernel_rfl
/-- Function 7: portholehand.Few. -/
def c7 : AFn :=
  ⟨13, [ARes.tmp 4], ACode.seq (ACode.region [⟨some 4, AOp.move (Opd.const (V.nilslice)), none⟩]) (ACode.seq (ACode.region [⟨some 5, AOp.buildSlice 5 1 [V.int (IntKind.u8) 0] 0 [], none⟩, ⟨some 6,
    AOp.move (Opd.tmp 0), none⟩, ⟨some 7, AOp.move (Opd.tmp 0), none⟩, ⟨some 8, AOp.lenL (Opd.tmp 7), none⟩, ⟨some 9, AOp.move (Opd.tmp 1), none⟩, ⟨some 10, AOp.minmax false [Opd.tmp 8, Opd.tmp 9],
    none⟩, ⟨some 11, AOp.sliceSl 1 (Opd.tmp 6) none (some (Opd.tmp 10)) none, none⟩, ⟨some 12, AOp.append 5 1 1 (Opd.tmp 5) (Opd.tmp 11), none⟩, ⟨some 4, AOp.move (Opd.tmp 12), none⟩]) (ACode.ret))⟩
theorem h7 : compFn Tryd.prog Tryd.f7 = some c7 := by kernel_rfl
/-- A loop of function 9. -/
def c9_l0 : ACode :=
  ACode.seq (ACode.seq (ACode.region [⟨some 25, AOp.move (Opd.tmp 6), none⟩, ⟨some 26, AOp.lenL (Opd.tmp 25), none⟩, ⟨some 27, AOp.move (Opd.tmp 4), none⟩, ⟨some 28, AOp.bin (BinOp.lss) (Opd.tmp 26)
    (Opd.tmp 27), none⟩]) (ACode.cond (Opd.tmp 28) (ACode.skip) (ACode.exit 0))) (ACode.block 1 (ACode.region [⟨some 29, AOp.move (Opd.tmp 6), none⟩, ⟨some 30, AOp.buildSlice 5 1 [V.int (IntKind.u8)
    0] 1 [(0, 1, Opd.const (V.int (IntKind.u8) 0))], none⟩, ⟨some 31, AOp.append 5 1 1 (Opd.tmp 29) (Opd.tmp 30), none⟩, ⟨some 6, AOp.move (Opd.tmp 31), none⟩]))
theorem c9_l0_wr : c9_l0.wr = [25, 26, 27, 28, 29, 30, 31, 6] := by kernel_rfl
/-- Function 9: portholeref15.Pad. -/
def c9 : AFn :=
  ⟨33, [ARes.tmp 2, ARes.tmp 3], ACode.seq (ACode.region [⟨some 2, AOp.move (Opd.const (V.nilslice)), none⟩, ⟨some 3, AOp.move (Opd.const (V.int (IntKind.i64) 0)), none⟩]) (ACode.seq (ACode.region
    [⟨some 8, AOp.move (Opd.tmp 0), none⟩, ⟨some 9, AOp.lenL (Opd.tmp 8), none⟩, ⟨some 10, AOp.call (Opd.func 11) [Opd.tmp 9], none⟩, ⟨some 7, AOp.move (Opd.tmp 10), none⟩, ⟨some 11, AOp.extract
    (Opd.tmp 7) 0, none⟩, ⟨some 12, AOp.extract (Opd.tmp 7) 1, none⟩, ⟨some 4, AOp.move (Opd.tmp 11), none⟩, ⟨some 5, AOp.move (Opd.tmp 12), none⟩]) (ACode.seq (ACode.seq (ACode.region [⟨some 13,
    AOp.move (Opd.tmp 5), none⟩, ⟨some 14, AOp.un (UnOp.not) (Opd.tmp 13), none⟩]) (ACode.cond (Opd.tmp 14) (ACode.seq (ACode.region [⟨some 2, AOp.move (Opd.const (V.nilslice)), none⟩, ⟨some 3,
    AOp.move (Opd.const (V.int (IntKind.i64) 6)), none⟩]) (ACode.ret)) (ACode.skip))) (ACode.seq (ACode.region [⟨some 15, AOp.move (Opd.tmp 0), none⟩, ⟨some 16, AOp.lenL (Opd.tmp 15), none⟩, ⟨some 17,
    AOp.bin (BinOp.quo) (Opd.tmp 16) (Opd.const (V.int (IntKind.i64) 256)), none⟩, ⟨some 18, AOp.conv (IntKind.u8) (Opd.tmp 17), none⟩, ⟨some 19, AOp.move (Opd.tmp 0), none⟩, ⟨some 20, AOp.lenL
    (Opd.tmp 19), none⟩, ⟨some 21, AOp.conv (IntKind.u8) (Opd.tmp 20), none⟩, ⟨some 22, AOp.buildSlice 5 1 [V.int (IntKind.u8) 0] 2 [(0, 1, Opd.tmp 18), (1, 1, Opd.tmp 21)], none⟩, ⟨some 23, AOp.move
    (Opd.tmp 0), none⟩, ⟨some 24, AOp.append 5 1 1 (Opd.tmp 22) (Opd.tmp 23), none⟩, ⟨some 6, AOp.move (Opd.tmp 24), none⟩]) (ACode.seq (ACode.block 0 (ACode.loop c9_l0)) (ACode.seq (ACode.region
    [⟨some 32, AOp.move (Opd.tmp 6), none⟩, ⟨some 2, AOp.move (Opd.tmp 32), none⟩, ⟨some 3, AOp.move (Opd.const (V.int (IntKind.i64) 0)), none⟩]) (ACode.ret))))))⟩
theorem h9 : compFn Tryd.prog Tryd.f9 = some c9 := by kernel_rfl
/-- A loop of function 10. -/
def c10_l0 : ACode :=
  ACode.seq (ACode.region [⟨some 9, AOp.bin (BinOp.lss) (Opd.tmp 8) (Opd.tmp 7), none⟩]) (ACode.seq (ACode.cond (Opd.tmp 9) (ACode.skip) (ACode.exit 0)) (ACode.seq (ACode.block 1 (ACode.seq
    (ACode.region [⟨some 10, AOp.indexAddrS 1 (Opd.tmp 6) (Opd.tmp 8), none⟩, ⟨some 11, AOp.load (Opd.tmp 10), none⟩, ⟨some 5, AOp.move (Opd.tmp 11), none⟩]) (ACode.seq (ACode.region [⟨some 12,
    AOp.move (Opd.tmp 0), none⟩, ⟨some 13, AOp.bin (BinOp.geq) (Opd.tmp 12) (Opd.const (V.int (IntKind.i64) 0)), none⟩, ⟨some 14, AOp.move (Opd.tmp 13), none⟩, ⟨some 15, AOp.move (Opd.tmp 0), some
    (14, true)⟩, ⟨some 16, AOp.move (Opd.tmp 5), some (14, true)⟩, ⟨some 17, AOp.bin (BinOp.sub) (Opd.tmp 16) (Opd.const (V.int (IntKind.i64) 2)), some (14, true)⟩, ⟨some 18, AOp.bin (BinOp.leq)
    (Opd.tmp 15) (Opd.tmp 17), some (14, true)⟩, ⟨some 19, AOp.pick (Opd.tmp 14) (Opd.tmp 18) (Opd.const (V.bool false)), none⟩]) (ACode.cond (Opd.tmp 19) (ACode.seq (ACode.region [⟨some 20, AOp.move
    (Opd.tmp 5), none⟩, ⟨some 2, AOp.move (Opd.tmp 20), none⟩, ⟨some 3, AOp.move (Opd.const (V.bool true)), none⟩]) (ACode.ret)) (ACode.skip))))) (ACode.region [⟨some 21, AOp.bin (BinOp.add) (Opd.tmp
    8) (Opd.const (V.int (IntKind.i64) 1)), none⟩, ⟨some 8, AOp.move (Opd.tmp 21), none⟩])))
theorem c10_l0_wr : c10_l0.wr = [9, 10, 11, 5, 12, 13, 14, 15, 16, 17, 18, 19, 20, 2, 3, 21, 8] := by kernel_rfl
/-- Function 10: pad.Bucket. -/
def c10 : AFn :=
  ⟨22, [ARes.tmp 2, ARes.tmp 3], ACode.seq (ACode.region [⟨some 2, AOp.move (Opd.const (V.int (IntKind.i64) 0)), none⟩, ⟨some 3, AOp.move (Opd.const (V.bool false)), none⟩]) (ACode.seq (ACode.seq
    (ACode.region [⟨some 6, AOp.call (Opd.func 16) [], none⟩, ⟨some 7, AOp.lenL (Opd.tmp 6), none⟩, ⟨some 8, AOp.move (Opd.const (V.int (IntKind.i64) 0)), none⟩]) (ACode.block 0 (ACode.loop c10_l0)))
    (ACode.seq (ACode.region [⟨some 2, AOp.move (Opd.const (V.int (IntKind.i64) 0)), none⟩, ⟨some 3, AOp.move (Opd.const (V.bool false)), none⟩]) (ACode.ret)))⟩
theorem h10 : compFn Tryd.prog Tryd.f10 = some c10 := by kernel_rfl
/-- A loop of function 11. -/
def c11_l0 : ACode :=
  ACode.seq (ACode.seq (ACode.region [⟨some 5, AOp.move (Opd.tmp 4), none⟩, ⟨some 6, AOp.bin (BinOp.lss) (Opd.tmp 5) (Opd.const (V.int (IntKind.i64) 4)), none⟩, ⟨some 7, AOp.move (Opd.tmp 6), none⟩,
    ⟨some 8, AOp.move (Opd.tmp 0), some (7, true)⟩, ⟨some 9, AOp.bin (BinOp.geq) (Opd.tmp 8) (Opd.const (V.int (IntKind.i64) 0)), some (7, true)⟩, ⟨some 10, AOp.pick (Opd.tmp 7) (Opd.tmp 9) (Opd.const
    (V.bool false)), none⟩]) (ACode.cond (Opd.tmp 10) (ACode.skip) (ACode.exit 0))) (ACode.seq (ACode.block 1 (ACode.seq (ACode.region [⟨some 13, AOp.move (Opd.tmp 0), none⟩, ⟨some 14, AOp.move
    (Opd.tmp 4), none⟩, ⟨some 15, AOp.indexAddrA 4 1 (Opd.glob 0) (Opd.tmp 14), none⟩, ⟨some 16, AOp.load (Opd.tmp 15), none⟩, ⟨some 17, AOp.bin (BinOp.sub) (Opd.tmp 16) (Opd.const (V.int
    (IntKind.i64) 2)), none⟩, ⟨some 18, AOp.bin (BinOp.leq) (Opd.tmp 13) (Opd.tmp 17), none⟩]) (ACode.cond (Opd.tmp 18) (ACode.seq (ACode.region [⟨some 19, AOp.move (Opd.tmp 4), none⟩, ⟨some 20,
    AOp.indexAddrA 4 1 (Opd.glob 0) (Opd.tmp 19), none⟩, ⟨some 21, AOp.load (Opd.tmp 20), none⟩, ⟨some 2, AOp.move (Opd.tmp 21), none⟩, ⟨some 3, AOp.move (Opd.const (V.bool true)), none⟩])
    (ACode.ret)) (ACode.skip)))) (ACode.region [⟨some 11, AOp.move (Opd.tmp 4), none⟩, ⟨some 12, AOp.bin (BinOp.add) (Opd.tmp 11) (Opd.const (V.int (IntKind.i64) 1)), none⟩, ⟨some 4, AOp.move (Opd.tmp
    12), none⟩]))
theorem c11_l0_wr : c11_l0.wr = [5, 6, 7, 8, 9, 10, 13, 14, 15, 16, 17, 18, 19, 20, 21, 2, 3, 11, 12, 4] := by kernel_rfl
/-- Function 11: portholeref15.Bucket. -/
def c11 : AFn :=
  ⟨22, [ARes.tmp 2, ARes.tmp 3], ACode.seq (ACode.region [⟨some 2, AOp.move (Opd.const (V.int (IntKind.i64) 0)), none⟩, ⟨some 3, AOp.move (Opd.const (V.bool false)), none⟩]) (ACode.seq (ACode.seq
    (ACode.region [⟨some 4, AOp.move (Opd.const (V.int (IntKind.i64) 0)), none⟩]) (ACode.block 0 (ACode.loop c11_l0))) (ACode.seq (ACode.region [⟨some 2, AOp.move (Opd.const (V.int (IntKind.i64) 0)),
    none⟩, ⟨some 3, AOp.move (Opd.const (V.bool false)), none⟩]) (ACode.ret)))⟩
theorem h11 : compFn Tryd.prog Tryd.f11 = some c11 := by kernel_rfl
/-- Function 12: portholelaw15.known. -/
def c12 : AFn :=
  ⟨35, [ARes.tmp 0], ACode.seq (ACode.region [⟨some 0, AOp.move (Opd.const (V.bool false)), none⟩]) (ACode.seq (ACode.region [⟨some 8, AOp.call (Opd.func 10) [Opd.const (V.int (IntKind.i64) 62)],
    none⟩, ⟨some 7, AOp.move (Opd.tmp 8), none⟩, ⟨some 9, AOp.extract (Opd.tmp 7) 0, none⟩, ⟨some 10, AOp.extract (Opd.tmp 7) 1, none⟩, ⟨some 1, AOp.move (Opd.tmp 9), none⟩, ⟨some 2, AOp.move (Opd.tmp
    10), none⟩]) (ACode.seq (ACode.region [⟨some 12, AOp.call (Opd.func 10) [Opd.const (V.int (IntKind.i64) 63)], none⟩, ⟨some 11, AOp.move (Opd.tmp 12), none⟩, ⟨some 13, AOp.extract (Opd.tmp 11) 0,
    none⟩, ⟨some 14, AOp.extract (Opd.tmp 11) 1, none⟩, ⟨some 3, AOp.move (Opd.tmp 13), none⟩, ⟨some 4, AOp.move (Opd.tmp 14), none⟩]) (ACode.seq (ACode.region [⟨some 16, AOp.call (Opd.func 10)
    [Opd.const (V.int (IntKind.i64) 3967)], none⟩, ⟨some 15, AOp.move (Opd.tmp 16), none⟩, ⟨some 17, AOp.extract (Opd.tmp 15) 0, none⟩, ⟨some 18, AOp.extract (Opd.tmp 15) 1, none⟩, ⟨some 5, AOp.move
    (Opd.tmp 17), none⟩, ⟨some 6, AOp.move (Opd.tmp 18), none⟩]) (ACode.seq (ACode.region [⟨some 19, AOp.move (Opd.tmp 1), none⟩, ⟨some 20, AOp.bin (BinOp.eql) (Opd.tmp 19) (Opd.const (V.int
    (IntKind.i64) 64)), none⟩, ⟨some 21, AOp.move (Opd.tmp 20), none⟩, ⟨some 22, AOp.move (Opd.tmp 2), some (21, true)⟩, ⟨some 23, AOp.pick (Opd.tmp 21) (Opd.tmp 22) (Opd.const (V.bool false)), none⟩,
    ⟨some 24, AOp.move (Opd.tmp 23), none⟩, ⟨some 25, AOp.move (Opd.tmp 3), some (24, true)⟩, ⟨some 26, AOp.bin (BinOp.eql) (Opd.tmp 25) (Opd.const (V.int (IntKind.i64) 256)), some (24, true)⟩, ⟨some
    27, AOp.pick (Opd.tmp 24) (Opd.tmp 26) (Opd.const (V.bool false)), none⟩, ⟨some 28, AOp.move (Opd.tmp 27), none⟩, ⟨some 29, AOp.move (Opd.tmp 4), some (28, true)⟩, ⟨some 30, AOp.pick (Opd.tmp 28)
    (Opd.tmp 29) (Opd.const (V.bool false)), none⟩, ⟨some 31, AOp.move (Opd.tmp 30), none⟩, ⟨some 32, AOp.move (Opd.tmp 6), some (31, true)⟩, ⟨some 33, AOp.un (UnOp.not) (Opd.tmp 32), some (31,
    true)⟩, ⟨some 34, AOp.pick (Opd.tmp 31) (Opd.tmp 33) (Opd.const (V.bool false)), none⟩, ⟨some 0, AOp.move (Opd.tmp 34), none⟩]) (ACode.ret)))))⟩
theorem h12 : compFn Tryd.prog Tryd.f12 = some c12 := by kernel_rfl
/-- Function 13: pad.Unpad. -/
def c13 : AFn :=
  ⟨51, [ARes.tmp 2, ARes.tmp 3], ACode.seq (ACode.region [⟨some 2, AOp.move (Opd.const (V.nilslice)), none⟩, ⟨some 3, AOp.move (Opd.const (V.int (IntKind.i64) 0)), none⟩]) (ACode.seq (ACode.seq
    (ACode.region [⟨some 9, AOp.move (Opd.tmp 0), none⟩, ⟨some 10, AOp.lenL (Opd.tmp 9), none⟩, ⟨some 11, AOp.bin (BinOp.lss) (Opd.tmp 10) (Opd.const (V.int (IntKind.i64) 2)), none⟩]) (ACode.cond
    (Opd.tmp 11) (ACode.seq (ACode.region [⟨some 2, AOp.move (Opd.const (V.nilslice)), none⟩, ⟨some 3, AOp.move (Opd.const (V.int (IntKind.i64) 5)), none⟩]) (ACode.ret)) (ACode.skip))) (ACode.seq
    (ACode.anyRegion [⟨some 12, AOp.move (Opd.tmp 0), none⟩, ⟨some 13, AOp.indexAddrS 1 (Opd.tmp 12) (Opd.const (V.int (IntKind.i64) 0)), none⟩, ⟨some 14, AOp.load (Opd.tmp 13), none⟩, ⟨some 15,
    AOp.conv (IntKind.i64) (Opd.tmp 14), none⟩, ⟨some 16, AOp.bin (BinOp.shl) (Opd.tmp 15) (Opd.const (V.int (IntKind.u64) 8)), none⟩, ⟨some 17, AOp.move (Opd.tmp 0), none⟩, ⟨some 18, AOp.indexAddrS 1
    (Opd.tmp 17) (Opd.const (V.int (IntKind.i64) 1)), none⟩, ⟨some 19, AOp.load (Opd.tmp 18), none⟩, ⟨some 20, AOp.conv (IntKind.i64) (Opd.tmp 19), none⟩, ⟨some 21, AOp.bin (BinOp.or) (Opd.tmp 16)
    (Opd.tmp 20), none⟩, ⟨some 4, AOp.move (Opd.tmp 21), none⟩] []) (ACode.seq (ACode.seq (ACode.region [⟨some 23, AOp.move (Opd.tmp 4), none⟩, ⟨some 24, AOp.call (Opd.func 10) [Opd.tmp 23], none⟩,
    ⟨some 22, AOp.move (Opd.tmp 24), none⟩, ⟨some 25, AOp.extract (Opd.tmp 22) 0, none⟩, ⟨some 26, AOp.extract (Opd.tmp 22) 1, none⟩, ⟨some 5, AOp.move (Opd.tmp 25), none⟩, ⟨some 6, AOp.move (Opd.tmp
    26), none⟩]) (ACode.seq (ACode.region [⟨some 27, AOp.move (Opd.tmp 6), none⟩, ⟨some 28, AOp.un (UnOp.not) (Opd.tmp 27), none⟩, ⟨some 29, AOp.move (Opd.tmp 28), none⟩, ⟨some 30, AOp.move (Opd.tmp
    5), some (29, false)⟩, ⟨some 31, AOp.move (Opd.tmp 0), some (29, false)⟩, ⟨some 32, AOp.lenL (Opd.tmp 31), some (29, false)⟩, ⟨some 33, AOp.bin (BinOp.neq) (Opd.tmp 30) (Opd.tmp 32), some (29,
    false)⟩, ⟨some 34, AOp.pick (Opd.tmp 29) (Opd.const (V.bool true)) (Opd.tmp 33), none⟩]) (ACode.cond (Opd.tmp 34) (ACode.seq (ACode.region [⟨some 2, AOp.move (Opd.const (V.nilslice)), none⟩, ⟨some
    3, AOp.move (Opd.const (V.int (IntKind.i64) 5)), none⟩]) (ACode.ret)) (ACode.skip)))) (ACode.seq (ACode.anyRegion [⟨some 35, AOp.move (Opd.tmp 0), none⟩, ⟨some 36, AOp.move (Opd.tmp 4), none⟩,
    ⟨some 37, AOp.bin (BinOp.add) (Opd.const (V.int (IntKind.i64) 2)) (Opd.tmp 36), none⟩, ⟨some 38, AOp.sliceSl 1 (Opd.tmp 35) (some (Opd.const (V.int (IntKind.i64) 2))) (some (Opd.tmp 37)) none,
    none⟩, ⟨some 39, AOp.move (Opd.tmp 0), none⟩, ⟨some 40, AOp.move (Opd.tmp 4), none⟩, ⟨some 41, AOp.bin (BinOp.add) (Opd.const (V.int (IntKind.i64) 2)) (Opd.tmp 40), none⟩, ⟨some 42, AOp.sliceSl 1
    (Opd.tmp 39) (some (Opd.tmp 41)) none none, none⟩, ⟨some 7, AOp.move (Opd.tmp 38), none⟩, ⟨some 8, AOp.move (Opd.tmp 42), none⟩] []) (ACode.seq (ACode.seq (ACode.region [⟨some 43, AOp.move
    (Opd.tmp 8), none⟩, ⟨some 44, AOp.move (Opd.tmp 8), none⟩, ⟨some 45, AOp.lenL (Opd.tmp 44), none⟩, ⟨some 46, AOp.makeSlice 5 1 1 [V.int (IntKind.u8) 0] (Opd.tmp 45) (Opd.tmp 45), none⟩, ⟨some 47,
    AOp.call (Opd.func 17) [Opd.tmp 43, Opd.tmp 46], none⟩, ⟨some 48, AOp.un (UnOp.not) (Opd.tmp 47), none⟩]) (ACode.cond (Opd.tmp 48) (ACode.seq (ACode.region [⟨some 2, AOp.move (Opd.const
    (V.nilslice)), none⟩, ⟨some 3, AOp.move (Opd.const (V.int (IntKind.i64) 5)), none⟩]) (ACode.ret)) (ACode.skip))) (ACode.seq (ACode.region [⟨some 49, AOp.move (Opd.tmp 7), none⟩, ⟨some 50, AOp.call
    (Opd.func 18) [Opd.tmp 49], none⟩, ⟨some 2, AOp.move (Opd.tmp 50), none⟩, ⟨some 3, AOp.move (Opd.const (V.int (IntKind.i64) 0)), none⟩]) (ACode.ret)))))))⟩
theorem h13 : compFn Tryd.prog Tryd.f13 = some c13 := by kernel_rfl
/-- A loop of function 14. -/
def c14_l0 : ACode :=
  ACode.seq (ACode.seq (ACode.region [⟨some 36, AOp.move (Opd.tmp 7), none⟩, ⟨some 37, AOp.move (Opd.tmp 0), none⟩, ⟨some 38, AOp.lenL (Opd.tmp 37), none⟩, ⟨some 39, AOp.bin (BinOp.lss) (Opd.tmp 36)
    (Opd.tmp 38), none⟩]) (ACode.cond (Opd.tmp 39) (ACode.skip) (ACode.exit 0))) (ACode.seq (ACode.block 1 (ACode.seq (ACode.region [⟨some 42, AOp.move (Opd.tmp 0), none⟩, ⟨some 43, AOp.move (Opd.tmp
    7), none⟩, ⟨some 44, AOp.indexAddrS 1 (Opd.tmp 42) (Opd.tmp 43), none⟩, ⟨some 45, AOp.load (Opd.tmp 44), none⟩, ⟨some 46, AOp.bin (BinOp.neq) (Opd.tmp 45) (Opd.const (V.int (IntKind.u8) 0)),
    none⟩]) (ACode.cond (Opd.tmp 46) (ACode.seq (ACode.region [⟨some 2, AOp.move (Opd.const (V.nilslice)), none⟩, ⟨some 3, AOp.move (Opd.const (V.int (IntKind.i64) 5)), none⟩]) (ACode.ret))
    (ACode.skip)))) (ACode.region [⟨some 40, AOp.move (Opd.tmp 7), none⟩, ⟨some 41, AOp.bin (BinOp.add) (Opd.tmp 40) (Opd.const (V.int (IntKind.i64) 1)), none⟩, ⟨some 7, AOp.move (Opd.tmp 41),
    none⟩]))
theorem c14_l0_wr : c14_l0.wr = [36, 37, 38, 39, 42, 43, 44, 45, 46, 2, 3, 40, 41, 7] := by kernel_rfl
/-- Function 14: portholeref15.Unpad. -/
def c14 : AFn :=
  ⟨51, [ARes.tmp 2, ARes.tmp 3], ACode.seq (ACode.region [⟨some 2, AOp.move (Opd.const (V.nilslice)), none⟩, ⟨some 3, AOp.move (Opd.const (V.int (IntKind.i64) 0)), none⟩]) (ACode.seq (ACode.seq
    (ACode.region [⟨some 8, AOp.move (Opd.tmp 0), none⟩, ⟨some 9, AOp.lenL (Opd.tmp 8), none⟩, ⟨some 10, AOp.bin (BinOp.lss) (Opd.tmp 9) (Opd.const (V.int (IntKind.i64) 2)), none⟩]) (ACode.cond
    (Opd.tmp 10) (ACode.seq (ACode.region [⟨some 2, AOp.move (Opd.const (V.nilslice)), none⟩, ⟨some 3, AOp.move (Opd.const (V.int (IntKind.i64) 5)), none⟩]) (ACode.ret)) (ACode.skip))) (ACode.seq
    (ACode.anyRegion [⟨some 11, AOp.move (Opd.tmp 0), none⟩, ⟨some 12, AOp.indexAddrS 1 (Opd.tmp 11) (Opd.const (V.int (IntKind.i64) 0)), none⟩, ⟨some 13, AOp.load (Opd.tmp 12), none⟩, ⟨some 14,
    AOp.conv (IntKind.i64) (Opd.tmp 13), none⟩, ⟨some 15, AOp.bin (BinOp.mul) (Opd.const (V.int (IntKind.i64) 256)) (Opd.tmp 14), none⟩, ⟨some 16, AOp.move (Opd.tmp 0), none⟩, ⟨some 17, AOp.indexAddrS
    1 (Opd.tmp 16) (Opd.const (V.int (IntKind.i64) 1)), none⟩, ⟨some 18, AOp.load (Opd.tmp 17), none⟩, ⟨some 19, AOp.conv (IntKind.i64) (Opd.tmp 18), none⟩, ⟨some 20, AOp.bin (BinOp.add) (Opd.tmp 15)
    (Opd.tmp 19), none⟩, ⟨some 4, AOp.move (Opd.tmp 20), none⟩] []) (ACode.seq (ACode.region [⟨some 22, AOp.move (Opd.tmp 4), none⟩, ⟨some 23, AOp.call (Opd.func 11) [Opd.tmp 22], none⟩, ⟨some 21,
    AOp.move (Opd.tmp 23), none⟩, ⟨some 24, AOp.extract (Opd.tmp 21) 0, none⟩, ⟨some 25, AOp.extract (Opd.tmp 21) 1, none⟩, ⟨some 5, AOp.move (Opd.tmp 24), none⟩, ⟨some 6, AOp.move (Opd.tmp 25),
    none⟩]) (ACode.seq (ACode.seq (ACode.region [⟨some 26, AOp.move (Opd.tmp 6), none⟩, ⟨some 27, AOp.un (UnOp.not) (Opd.tmp 26), none⟩, ⟨some 28, AOp.move (Opd.tmp 27), none⟩, ⟨some 29, AOp.move
    (Opd.tmp 5), some (28, false)⟩, ⟨some 30, AOp.move (Opd.tmp 0), some (28, false)⟩, ⟨some 31, AOp.lenL (Opd.tmp 30), some (28, false)⟩, ⟨some 32, AOp.bin (BinOp.neq) (Opd.tmp 29) (Opd.tmp 31), some
    (28, false)⟩, ⟨some 33, AOp.pick (Opd.tmp 28) (Opd.const (V.bool true)) (Opd.tmp 32), none⟩]) (ACode.cond (Opd.tmp 33) (ACode.seq (ACode.region [⟨some 2, AOp.move (Opd.const (V.nilslice)), none⟩,
    ⟨some 3, AOp.move (Opd.const (V.int (IntKind.i64) 5)), none⟩]) (ACode.ret)) (ACode.skip))) (ACode.seq (ACode.seq (ACode.region [⟨some 34, AOp.move (Opd.tmp 4), none⟩, ⟨some 35, AOp.bin (BinOp.add)
    (Opd.const (V.int (IntKind.i64) 2)) (Opd.tmp 34), none⟩, ⟨some 7, AOp.move (Opd.tmp 35), none⟩]) (ACode.block 0 (ACode.loop c14_l0))) (ACode.seq (ACode.region [⟨some 47, AOp.move (Opd.tmp 0),
    none⟩, ⟨some 48, AOp.move (Opd.tmp 4), none⟩, ⟨some 49, AOp.bin (BinOp.add) (Opd.const (V.int (IntKind.i64) 2)) (Opd.tmp 48), none⟩, ⟨some 50, AOp.sliceSl 1 (Opd.tmp 47) (some (Opd.const (V.int
    (IntKind.i64) 2))) (some (Opd.tmp 49)) none, none⟩, ⟨some 2, AOp.move (Opd.tmp 50), none⟩, ⟨some 3, AOp.move (Opd.const (V.int (IntKind.i64) 0)), none⟩]) (ACode.ret)))))))⟩
theorem h14 : compFn Tryd.prog Tryd.f14 = some c14 := by kernel_rfl
/-- Function 16: pad.Sizes. -/
def c16 : AFn :=
  ⟨2, [ARes.tmp 0], ACode.seq (ACode.region [⟨some 0, AOp.move (Opd.const (V.nilslice)), none⟩]) (ACode.seq (ACode.region [⟨some 1, AOp.buildSlice 3 1 [V.int (IntKind.i64) 0] 4 [(0, 1, Opd.const
    (V.int (IntKind.i64) 64)), (1, 1, Opd.const (V.int (IntKind.i64) 256)), (2, 1, Opd.const (V.int (IntKind.i64) 1024)), (3, 1, Opd.const (V.int (IntKind.i64) 3968))], none⟩, ⟨some 0, AOp.move
    (Opd.tmp 1), none⟩]) (ACode.ret))⟩
theorem h16 : compFn Tryd.prog Tryd.f16 = some c16 := by kernel_rfl
/-- A loop of function 17. -/
def c17_l0 : ACode :=
  ACode.seq (ACode.region [⟨some 15, AOp.bin (BinOp.lss) (Opd.tmp 14) (Opd.tmp 13), none⟩]) (ACode.seq (ACode.cond (Opd.tmp 15) (ACode.skip) (ACode.exit 0)) (ACode.seq (ACode.block 1 (ACode.seq
    (ACode.region [⟨some 16, AOp.move (Opd.tmp 14), none⟩, ⟨some 6, AOp.move (Opd.tmp 16), none⟩]) (ACode.anyRegion [⟨some 17, AOp.move (Opd.tmp 5), none⟩, ⟨some 18, AOp.move (Opd.tmp 0), none⟩, ⟨some
    19, AOp.move (Opd.tmp 6), none⟩, ⟨some 20, AOp.indexAddrS 1 (Opd.tmp 18) (Opd.tmp 19), none⟩, ⟨some 21, AOp.load (Opd.tmp 20), none⟩, ⟨some 22, AOp.move (Opd.tmp 1), none⟩, ⟨some 23, AOp.move
    (Opd.tmp 6), none⟩, ⟨some 24, AOp.indexAddrS 1 (Opd.tmp 22) (Opd.tmp 23), none⟩, ⟨some 25, AOp.load (Opd.tmp 24), none⟩, ⟨some 26, AOp.bin (BinOp.xor) (Opd.tmp 21) (Opd.tmp 25), none⟩, ⟨some 27,
    AOp.bin (BinOp.or) (Opd.tmp 17) (Opd.tmp 26), none⟩, ⟨some 5, AOp.move (Opd.tmp 27), none⟩] []))) (ACode.region [⟨some 28, AOp.bin (BinOp.add) (Opd.tmp 14) (Opd.const (V.int (IntKind.i64) 1)),
    none⟩, ⟨some 14, AOp.move (Opd.tmp 28), none⟩])))
theorem c17_l0_wr : c17_l0.wr = [15, 16, 6, 17, 18, 19, 20, 21, 22, 23, 24, 25, 26, 27, 5, 28, 14] := by kernel_rfl
/-- Function 17: octet.Same. -/
def c17 : AFn :=
  ⟨31, [ARes.tmp 4], ACode.seq (ACode.region [⟨some 4, AOp.move (Opd.const (V.bool false)), none⟩]) (ACode.seq (ACode.seq (ACode.region [⟨some 7, AOp.move (Opd.tmp 0), none⟩, ⟨some 8, AOp.lenL
    (Opd.tmp 7), none⟩, ⟨some 9, AOp.move (Opd.tmp 1), none⟩, ⟨some 10, AOp.lenL (Opd.tmp 9), none⟩, ⟨some 11, AOp.bin (BinOp.neq) (Opd.tmp 8) (Opd.tmp 10), none⟩]) (ACode.cond (Opd.tmp 11) (ACode.seq
    (ACode.region [⟨some 4, AOp.move (Opd.const (V.bool false)), none⟩]) (ACode.ret)) (ACode.skip))) (ACode.seq (ACode.region [⟨some 5, AOp.move (Opd.const (V.int (IntKind.u8) 0)), none⟩]) (ACode.seq
    (ACode.seq (ACode.region [⟨some 12, AOp.move (Opd.tmp 0), none⟩, ⟨some 13, AOp.lenL (Opd.tmp 12), none⟩, ⟨some 14, AOp.move (Opd.const (V.int (IntKind.i64) 0)), none⟩]) (ACode.block 0 (ACode.loop
    c17_l0))) (ACode.seq (ACode.region [⟨some 29, AOp.move (Opd.tmp 5), none⟩, ⟨some 30, AOp.bin (BinOp.eql) (Opd.tmp 29) (Opd.const (V.int (IntKind.u8) 0)), none⟩, ⟨some 4, AOp.move (Opd.tmp 30),
    none⟩]) (ACode.ret)))))⟩
theorem h17 : compFn Tryd.prog Tryd.f17 = some c17 := by kernel_rfl
/-- Function 18: octet.Clone. -/
def c18 : AFn :=
  ⟨6, [ARes.tmp 2], ACode.seq (ACode.region [⟨some 2, AOp.move (Opd.const (V.nilslice)), none⟩]) (ACode.seq (ACode.region [⟨some 3, AOp.buildSlice 5 1 [V.int (IntKind.u8) 0] 0 [], none⟩, ⟨some 4,
    AOp.move (Opd.tmp 0), none⟩, ⟨some 5, AOp.append 5 1 1 (Opd.tmp 3) (Opd.tmp 4), none⟩, ⟨some 2, AOp.move (Opd.tmp 5), none⟩]) (ACode.ret))⟩
theorem h18 : compFn Tryd.prog Tryd.f18 = some c18 := by kernel_rfl
def tab (f : Nat) : Option AFn :=
  if f = 4 then some c4 else if f = 6 then some c6 else if f = 7 then some c7 else if f = 9 then some c9 else if f = 10 then some c10 else if f = 11 then some c11 else if f = 12 then some c12 else if f = 13 then some c13 else if f = 14 then some c14 else if f = 16 then some c16 else if f = 17 then some c17 else if f = 18 then some c18 else none
theorem tab_holds : Holds Tryd.prog tab := by
  intro f fn hf
  unfold tab at hf
  by_cases e4 : f = 4
  · rw [if_pos e4] at hf; subst e4; cases hf; exact ⟨_, Tryd.func4, h4⟩
  rw [if_neg e4] at hf
  by_cases e6 : f = 6
  · rw [if_pos e6] at hf; subst e6; cases hf; exact ⟨_, Tryd.func6, h6⟩
  rw [if_neg e6] at hf
  by_cases e7 : f = 7
  · rw [if_pos e7] at hf; subst e7; cases hf; exact ⟨_, Tryd.func7, h7⟩
  rw [if_neg e7] at hf
  by_cases e9 : f = 9
  · rw [if_pos e9] at hf; subst e9; cases hf; exact ⟨_, Tryd.func9, h9⟩
  rw [if_neg e9] at hf
  by_cases e10 : f = 10
  · rw [if_pos e10] at hf; subst e10; cases hf; exact ⟨_, Tryd.func10, h10⟩
  rw [if_neg e10] at hf
  by_cases e11 : f = 11
  · rw [if_pos e11] at hf; subst e11; cases hf; exact ⟨_, Tryd.func11, h11⟩
  rw [if_neg e11] at hf
  by_cases e12 : f = 12
  · rw [if_pos e12] at hf; subst e12; cases hf; exact ⟨_, Tryd.func12, h12⟩
  rw [if_neg e12] at hf
  by_cases e13 : f = 13
  · rw [if_pos e13] at hf; subst e13; cases hf; exact ⟨_, Tryd.func13, h13⟩
  rw [if_neg e13] at hf
  by_cases e14 : f = 14
  · rw [if_pos e14] at hf; subst e14; cases hf; exact ⟨_, Tryd.func14, h14⟩
  rw [if_neg e14] at hf
  by_cases e16 : f = 16
  · rw [if_pos e16] at hf; subst e16; cases hf; exact ⟨_, Tryd.func16, h16⟩
  rw [if_neg e16] at hf
  by_cases e17 : f = 17
  · rw [if_pos e17] at hf; subst e17; cases hf; exact ⟨_, Tryd.func17, h17⟩
  rw [if_neg e17] at hf
  by_cases e18 : f = 18
  · rw [if_pos e18] at hf; subst e18; cases hf; exact ⟨_, Tryd.func18, h18⟩
  rw [if_neg e18] at hf
  cases hf
end Go.Proofs.YtaaejidllnkpbaaDoor.PadUnpads
