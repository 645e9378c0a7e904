/- The functions that the law PadPads reaches, as the abstract machine has them. No condition. -/
import Derived.Test.YtaaejidllnkpbaaDoorA37
import Derived.KernelRfl
namespace Go.Proofs.YtaaejidllnkpbaaDoor.PadPads
open Go Go.Proofs.YtaaejidllnkpbaaDoorA
/-- What follows in function 3. -/
def c3_s2 : ACode :=
  ACode.seq (ACode.region [⟨some 34, AOp.move (Opd.tmp 0), none⟩, ⟨some 35, AOp.move (Opd.tmp 0), none⟩, ⟨some 36, AOp.lenL (Opd.tmp 35), none⟩, ⟨some 37, AOp.call (Opd.func 7) [Opd.tmp 34, Opd.tmp
    36], none⟩, ⟨some 9, AOp.move (Opd.tmp 37), none⟩]) (ACode.seq (ACode.region [⟨some 39, AOp.move (Opd.tmp 9), none⟩, ⟨some 40, AOp.call (Opd.func 8) [Opd.tmp 39], none⟩, ⟨some 38, AOp.move
    (Opd.tmp 40), none⟩, ⟨some 41, AOp.extract (Opd.tmp 38) 0, none⟩, ⟨some 42, AOp.extract (Opd.tmp 38) 1, none⟩, ⟨some 10, AOp.move (Opd.tmp 41), none⟩, ⟨some 11, AOp.move (Opd.tmp 42), none⟩])
    (ACode.seq (ACode.region [⟨some 44, AOp.move (Opd.tmp 0), none⟩, ⟨some 45, AOp.call (Opd.func 9) [Opd.tmp 44], none⟩, ⟨some 43, AOp.move (Opd.tmp 45), none⟩, ⟨some 46, AOp.extract (Opd.tmp 43) 0,
    none⟩, ⟨some 47, AOp.extract (Opd.tmp 43) 1, none⟩, ⟨some 12, AOp.move (Opd.tmp 46), none⟩, ⟨some 13, AOp.move (Opd.tmp 47), none⟩]) (ACode.seq (ACode.region [⟨some 49, AOp.move (Opd.tmp 0),
    none⟩, ⟨some 50, AOp.lenL (Opd.tmp 49), none⟩, ⟨some 51, AOp.call (Opd.func 10) [Opd.tmp 50], none⟩, ⟨some 48, AOp.move (Opd.tmp 51), none⟩, ⟨some 52, AOp.extract (Opd.tmp 48) 0, none⟩, ⟨some 53,
    AOp.extract (Opd.tmp 48) 1, none⟩, ⟨some 14, AOp.move (Opd.tmp 52), none⟩, ⟨some 15, AOp.move (Opd.tmp 53), none⟩]) (ACode.seq (ACode.region [⟨some 55, AOp.move (Opd.tmp 0), none⟩, ⟨some 56,
    AOp.lenL (Opd.tmp 55), none⟩, ⟨some 57, AOp.call (Opd.func 11) [Opd.tmp 56], none⟩, ⟨some 54, AOp.move (Opd.tmp 57), none⟩, ⟨some 58, AOp.extract (Opd.tmp 54) 0, none⟩, ⟨some 59, AOp.extract
    (Opd.tmp 54) 1, none⟩, ⟨some 16, AOp.move (Opd.tmp 58), none⟩, ⟨some 17, AOp.move (Opd.tmp 59), none⟩]) (ACode.seq (ACode.region [⟨some 61, AOp.move (Opd.tmp 1), none⟩, ⟨some 62, AOp.call
    (Opd.func 10) [Opd.tmp 61], none⟩, ⟨some 60, AOp.move (Opd.tmp 62), none⟩, ⟨some 63, AOp.extract (Opd.tmp 60) 0, none⟩, ⟨some 64, AOp.extract (Opd.tmp 60) 1, none⟩, ⟨some 18, AOp.move (Opd.tmp
    63), none⟩, ⟨some 19, AOp.move (Opd.tmp 64), none⟩]) (ACode.seq (ACode.region [⟨some 66, AOp.move (Opd.tmp 1), none⟩, ⟨some 67, AOp.call (Opd.func 11) [Opd.tmp 66], none⟩, ⟨some 65, AOp.move
    (Opd.tmp 67), none⟩, ⟨some 68, AOp.extract (Opd.tmp 65) 0, none⟩, ⟨some 69, AOp.extract (Opd.tmp 65) 1, none⟩, ⟨some 20, AOp.move (Opd.tmp 68), none⟩, ⟨some 21, AOp.move (Opd.tmp 69), none⟩])
    (ACode.seq (ACode.region [⟨some 70, AOp.call (Opd.func 12) [], none⟩, ⟨some 71, AOp.move (Opd.tmp 70), none⟩, ⟨some 72, AOp.move (Opd.tmp 10), some (71, true)⟩, ⟨some 73, AOp.bytesStr (Opd.tmp
    72), some (71, true)⟩, ⟨some 74, AOp.move (Opd.tmp 12), some (71, true)⟩, ⟨some 75, AOp.bytesStr (Opd.tmp 74), some (71, true)⟩, ⟨some 76, AOp.bin (BinOp.eql) (Opd.tmp 73) (Opd.tmp 75), some (71,
    true)⟩, ⟨some 77, AOp.pick (Opd.tmp 71) (Opd.tmp 76) (Opd.const (V.bool false)), none⟩, ⟨some 78, AOp.move (Opd.tmp 77), none⟩, ⟨some 79, AOp.move (Opd.tmp 11), some (78, true)⟩, ⟨some 80,
    AOp.move (Opd.tmp 13), some (78, true)⟩, ⟨some 81, AOp.bin (BinOp.eql) (Opd.tmp 79) (Opd.tmp 80), some (78, true)⟩, ⟨some 82, AOp.pick (Opd.tmp 78) (Opd.tmp 81) (Opd.const (V.bool false)), none⟩,
    ⟨some 83, AOp.move (Opd.tmp 82), none⟩, ⟨some 84, AOp.move (Opd.tmp 9), some (83, true)⟩, ⟨some 85, AOp.bytesStr (Opd.tmp 84), some (83, true)⟩, ⟨some 86, AOp.move (Opd.tmp 0), some (83, true)⟩,
    ⟨some 87, AOp.bytesStr (Opd.tmp 86), some (83, true)⟩, ⟨some 88, AOp.bin (BinOp.eql) (Opd.tmp 85) (Opd.tmp 87), some (83, true)⟩, ⟨some 89, AOp.pick (Opd.tmp 83) (Opd.tmp 88) (Opd.const (V.bool
    false)), none⟩, ⟨some 90, AOp.move (Opd.tmp 89), none⟩, ⟨some 91, AOp.move (Opd.tmp 14), some (90, true)⟩, ⟨some 92, AOp.move (Opd.tmp 16), some (90, true)⟩, ⟨some 93, AOp.bin (BinOp.eql) (Opd.tmp
    91) (Opd.tmp 92), some (90, true)⟩, ⟨some 94, AOp.pick (Opd.tmp 90) (Opd.tmp 93) (Opd.const (V.bool false)), none⟩, ⟨some 95, AOp.move (Opd.tmp 94), none⟩, ⟨some 96, AOp.move (Opd.tmp 15), some
    (95, true)⟩, ⟨some 97, AOp.move (Opd.tmp 17), some (95, true)⟩, ⟨some 98, AOp.eq false (EqKind.bool) (Opd.tmp 96) (Opd.tmp 97), some (95, true)⟩, ⟨some 99, AOp.pick (Opd.tmp 95) (Opd.tmp 98)
    (Opd.const (V.bool false)), none⟩, ⟨some 100, AOp.move (Opd.tmp 99), none⟩, ⟨some 101, AOp.move (Opd.tmp 18), some (100, true)⟩, ⟨some 102, AOp.move (Opd.tmp 20), some (100, true)⟩, ⟨some 103,
    AOp.bin (BinOp.eql) (Opd.tmp 101) (Opd.tmp 102), some (100, true)⟩, ⟨some 104, AOp.pick (Opd.tmp 100) (Opd.tmp 103) (Opd.const (V.bool false)), none⟩, ⟨some 105, AOp.move (Opd.tmp 104), none⟩,
    ⟨some 106, AOp.move (Opd.tmp 19), some (105, true)⟩, ⟨some 107, AOp.move (Opd.tmp 21), some (105, true)⟩, ⟨some 108, AOp.eq false (EqKind.bool) (Opd.tmp 106) (Opd.tmp 107), some (105, true)⟩,
    ⟨some 109, AOp.pick (Opd.tmp 105) (Opd.tmp 108) (Opd.const (V.bool false)), none⟩, ⟨some 8, AOp.move (Opd.tmp 109), none⟩]) (ACode.ret))))))))
/-- Function 3: portholelaw15.PadPads. -/
def c3 : AFn :=
  ⟨110, [ARes.tmp 8], ACode.seq (ACode.region [⟨some 8, AOp.move (Opd.const (V.bool false)), none⟩]) (ACode.seq (ACode.seq (ACode.region [⟨some 22, AOp.move (Opd.tmp 3), none⟩]) (ACode.cond (Opd.tmp
    22) (ACode.anyRegion [⟨some 23, AOp.build [V.int (IntKind.i64) 0, V.int (IntKind.i64) 0, V.int (IntKind.i64) 0, V.int (IntKind.i64) 0] [(0, 1, Opd.const (V.int (IntKind.i64) 64)), (1, 1, Opd.const
    (V.int (IntKind.i64) 256)), (2, 1, Opd.const (V.int (IntKind.i64) 1024)), (3, 1, Opd.const (V.int (IntKind.i64) 3968))], none⟩, ⟨some 24, AOp.move (Opd.tmp 2), none⟩, ⟨some 25, AOp.call (Opd.func
    6) [Opd.tmp 24, Opd.const (V.int (IntKind.i64) 4)], none⟩, ⟨some 26, AOp.indexA 4 1 false (Opd.tmp 23) (Opd.tmp 25), none⟩, ⟨some 27, AOp.bin (BinOp.sub) (Opd.tmp 26) (Opd.const (V.int
    (IntKind.i64) 5)), none⟩, ⟨some 28, AOp.move (Opd.tmp 1), none⟩, ⟨some 29, AOp.call (Opd.func 6) [Opd.tmp 28, Opd.const (V.int (IntKind.i64) 6)], none⟩, ⟨some 30, AOp.bin (BinOp.add) (Opd.tmp 27)
    (Opd.tmp 29), none⟩, ⟨some 31, AOp.minmax true [Opd.const (V.int (IntKind.i64) 0), Opd.tmp 30], none⟩, ⟨some 32, AOp.move (Opd.tmp 1), none⟩, ⟨some 33, AOp.call (Opd.func 5) [Opd.tmp 31, Opd.tmp
    32], none⟩, ⟨some 0, AOp.move (Opd.tmp 33), none⟩] []) (ACode.skip))) c3_s2)⟩
theorem h3 : compFn Tryd.prog Tryd.f3 = some c3 := by kernel_rfl
/-- A loop of function 5. -/
def c5_l0 : ACode :=
  ACode.seq (ACode.seq (ACode.region [⟨some 12, AOp.move (Opd.tmp 7), none⟩, ⟨some 13, AOp.move (Opd.tmp 0), none⟩, ⟨some 14, AOp.bin (BinOp.lss) (Opd.tmp 12) (Opd.tmp 13), none⟩]) (ACode.cond
    (Opd.tmp 14) (ACode.skip) (ACode.exit 0))) (ACode.seq (ACode.block 1 (ACode.seq (ACode.region [⟨some 17, AOp.move (Opd.tmp 6), none⟩, ⟨some 18, AOp.bin (BinOp.mul) (Opd.tmp 17) (Opd.const (V.int
    (IntKind.u64) 6364136223846793005)), none⟩, ⟨some 19, AOp.bin (BinOp.add) (Opd.tmp 18) (Opd.const (V.int (IntKind.u64) 1442695040888963407)), none⟩, ⟨some 6, AOp.move (Opd.tmp 19), none⟩])
    (ACode.region [⟨some 20, AOp.move (Opd.tmp 5), none⟩, ⟨some 21, AOp.move (Opd.tmp 7), none⟩, ⟨some 22, AOp.move (Opd.tmp 6), none⟩, ⟨some 23, AOp.bin (BinOp.shr) (Opd.tmp 22) (Opd.const (V.int
    (IntKind.u64) 40)), none⟩, ⟨some 24, AOp.conv (IntKind.u8) (Opd.tmp 23), none⟩, ⟨some 25, AOp.indexAddrS 1 (Opd.tmp 20) (Opd.tmp 21), none⟩, ⟨none, AOp.store 1 (Opd.tmp 25) (Opd.tmp 24), none⟩])))
    (ACode.region [⟨some 15, AOp.move (Opd.tmp 7), none⟩, ⟨some 16, AOp.bin (BinOp.add) (Opd.tmp 15) (Opd.const (V.int (IntKind.i64) 1)), none⟩, ⟨some 7, AOp.move (Opd.tmp 16), none⟩]))
theorem c5_l0_wr : c5_l0.wr = [12, 13, 14, 17, 18, 19, 6, 20, 21, 22, 23, 24, 25, 15, 16, 7] := by kernel_rfl
/-- Function 5: portholehand.Bytes. -/
def c5 : AFn :=
  ⟨27, [ARes.tmp 4], ACode.seq (ACode.region [⟨some 4, AOp.move (Opd.const (V.nilslice)), none⟩]) (ACode.seq (ACode.region [⟨some 8, AOp.move (Opd.tmp 0), none⟩, ⟨some 9, AOp.makeSlice 5 1 1 [V.int
    (IntKind.u8) 0] (Opd.tmp 8) (Opd.tmp 8), none⟩, ⟨some 5, AOp.move (Opd.tmp 9), none⟩]) (ACode.seq (ACode.region [⟨some 10, AOp.move (Opd.tmp 1), none⟩, ⟨some 11, AOp.conv (IntKind.u64) (Opd.tmp
    10), none⟩, ⟨some 6, AOp.move (Opd.tmp 11), none⟩]) (ACode.seq (ACode.seq (ACode.region [⟨some 7, AOp.move (Opd.const (V.int (IntKind.i64) 0)), none⟩]) (ACode.block 0 (ACode.loop c5_l0)))
    (ACode.seq (ACode.region [⟨some 26, AOp.move (Opd.tmp 5), none⟩, ⟨some 4, AOp.move (Opd.tmp 26), none⟩]) (ACode.ret)))))⟩
theorem h5 : compFn Tryd.prog Tryd.f5 = some c5 := by kernel_rfl
/-- Function 6: portholehand.Pick. -/
def c6 : AFn :=
  ⟨14, [ARes.tmp 4], ACode.seq (ACode.region [⟨some 4, AOp.move (Opd.const (V.int (IntKind.i64) 0)), none⟩]) (ACode.seq (ACode.region [⟨some 5, AOp.move (Opd.tmp 0), none⟩, ⟨some 6, AOp.move (Opd.tmp
    1), none⟩, ⟨some 7, AOp.bin (BinOp.rem) (Opd.tmp 5) (Opd.tmp 6), none⟩, ⟨some 0, AOp.move (Opd.tmp 7), none⟩]) (ACode.seq (ACode.seq (ACode.region [⟨some 8, AOp.move (Opd.tmp 0), none⟩, ⟨some 9,
    AOp.bin (BinOp.lss) (Opd.tmp 8) (Opd.const (V.int (IntKind.i64) 0)), none⟩]) (ACode.cond (Opd.tmp 9) (ACode.region [⟨some 10, AOp.move (Opd.tmp 0), none⟩, ⟨some 11, AOp.move (Opd.tmp 1), none⟩,
    ⟨some 12, AOp.bin (BinOp.add) (Opd.tmp 10) (Opd.tmp 11), none⟩, ⟨some 0, AOp.move (Opd.tmp 12), none⟩]) (ACode.skip))) (ACode.seq (ACode.region [⟨some 13, AOp.move (Opd.tmp 0), none⟩, ⟨some 4,
    AOp.move (Opd.tmp 13), none⟩]) (ACode.ret))))⟩
theorem h6 : compFn Tryd.prog Tryd.f6 = some c6 := by kernel_rfl
/-- Function 7: portholehand.Few. -/
def c7 : AFn :=
  ⟨13, [ARes.tmp 4], ACode.seq (ACode.region [⟨some 4, AOp.move (Opd.const (V.nilslice)), none⟩]) (ACode.seq (ACode.region [⟨some 5, AOp.buildSlice 5 1 [V.int (IntKind.u8) 0] 0 [], none⟩, ⟨some 6,
    AOp.move (Opd.tmp 0), none⟩, ⟨some 7, AOp.move (Opd.tmp 0), none⟩, ⟨some 8, AOp.lenL (Opd.tmp 7), none⟩, ⟨some 9, AOp.move (Opd.tmp 1), none⟩, ⟨some 10, AOp.minmax false [Opd.tmp 8, Opd.tmp 9],
    none⟩, ⟨some 11, AOp.sliceSl 1 (Opd.tmp 6) none (some (Opd.tmp 10)) none, none⟩, ⟨some 12, AOp.append 5 1 1 (Opd.tmp 5) (Opd.tmp 11), none⟩, ⟨some 4, AOp.move (Opd.tmp 12), none⟩]) (ACode.ret))⟩
theorem h7 : compFn Tryd.prog Tryd.f7 = some c7 := by kernel_rfl
/-- Function 8: pad.Pad. -/
def c8 : AFn :=
  ⟨31, [ARes.tmp 2, ARes.tmp 3], ACode.seq (ACode.region [⟨some 2, AOp.move (Opd.const (V.nilslice)), none⟩, ⟨some 3, AOp.move (Opd.const (V.int (IntKind.i64) 0)), none⟩]) (ACode.seq (ACode.region
    [⟨some 8, AOp.move (Opd.tmp 0), none⟩, ⟨some 9, AOp.lenL (Opd.tmp 8), none⟩, ⟨some 10, AOp.call (Opd.func 10) [Opd.tmp 9], none⟩, ⟨some 7, AOp.move (Opd.tmp 10), none⟩, ⟨some 11, AOp.extract
    (Opd.tmp 7) 0, none⟩, ⟨some 12, AOp.extract (Opd.tmp 7) 1, none⟩, ⟨some 4, AOp.move (Opd.tmp 11), none⟩, ⟨some 5, AOp.move (Opd.tmp 12), none⟩]) (ACode.seq (ACode.seq (ACode.region [⟨some 13,
    AOp.move (Opd.tmp 5), none⟩, ⟨some 14, AOp.un (UnOp.not) (Opd.tmp 13), none⟩]) (ACode.cond (Opd.tmp 14) (ACode.seq (ACode.region [⟨some 2, AOp.move (Opd.const (V.nilslice)), none⟩, ⟨some 3,
    AOp.move (Opd.const (V.int (IntKind.i64) 6)), none⟩]) (ACode.ret)) (ACode.skip))) (ACode.seq (ACode.region [⟨some 15, AOp.move (Opd.tmp 0), none⟩, ⟨some 16, AOp.lenL (Opd.tmp 15), none⟩, ⟨some 6,
    AOp.move (Opd.tmp 16), none⟩]) (ACode.seq (ACode.region [⟨some 17, AOp.move (Opd.tmp 6), none⟩, ⟨some 18, AOp.bin (BinOp.shr) (Opd.tmp 17) (Opd.const (V.int (IntKind.u64) 8)), none⟩, ⟨some 19,
    AOp.conv (IntKind.u8) (Opd.tmp 18), none⟩, ⟨some 20, AOp.move (Opd.tmp 6), none⟩, ⟨some 21, AOp.conv (IntKind.u8) (Opd.tmp 20), none⟩, ⟨some 22, AOp.buildSlice 5 1 [V.int (IntKind.u8) 0] 2 [(0, 1,
    Opd.tmp 19), (1, 1, Opd.tmp 21)], none⟩, ⟨some 23, AOp.move (Opd.tmp 0), none⟩, ⟨some 24, AOp.move (Opd.tmp 4), none⟩, ⟨some 25, AOp.bin (BinOp.sub) (Opd.tmp 24) (Opd.const (V.int (IntKind.i64)
    2)), none⟩, ⟨some 26, AOp.move (Opd.tmp 6), none⟩, ⟨some 27, AOp.bin (BinOp.sub) (Opd.tmp 25) (Opd.tmp 26), none⟩, ⟨some 28, AOp.makeSlice 5 1 1 [V.int (IntKind.u8) 0] (Opd.tmp 27) (Opd.tmp 27),
    none⟩, ⟨some 29, AOp.buildSlice 22 1 [V.nilslice] 3 [(0, 1, Opd.tmp 22), (1, 1, Opd.tmp 23), (2, 1, Opd.tmp 28)], none⟩, ⟨some 30, AOp.call (Opd.func 15) [Opd.tmp 29], none⟩, ⟨some 2, AOp.move
    (Opd.tmp 30), none⟩, ⟨some 3, AOp.move (Opd.const (V.int (IntKind.i64) 0)), none⟩]) (ACode.ret)))))⟩
theorem h8 : compFn Tryd.prog Tryd.f8 = some c8 := by kernel_rfl
/-- A loop of function 9. -/
def c9_l0 : ACode :=
  ACode.seq (ACode.seq (ACode.region [⟨some 25, AOp.move (Opd.tmp 6), none⟩, ⟨some 26, AOp.lenL (Opd.tmp 25), none⟩, ⟨some 27, AOp.move (Opd.tmp 4), none⟩, ⟨some 28, AOp.bin (BinOp.lss) (Opd.tmp 26)
    (Opd.tmp 27), none⟩]) (ACode.cond (Opd.tmp 28) (ACode.skip) (ACode.exit 0))) (ACode.block 1 (ACode.region [⟨some 29, AOp.move (Opd.tmp 6), none⟩, ⟨some 30, AOp.buildSlice 5 1 [V.int (IntKind.u8)
    0] 1 [(0, 1, Opd.const (V.int (IntKind.u8) 0))], none⟩, ⟨some 31, AOp.append 5 1 1 (Opd.tmp 29) (Opd.tmp 30), none⟩, ⟨some 6, AOp.move (Opd.tmp 31), none⟩]))
theorem c9_l0_wr : c9_l0.wr = [25, 26, 27, 28, 29, 30, 31, 6] := by kernel_rfl
/-- Function 9: portholeref15.Pad. -/
def c9 : AFn :=
  ⟨33, [ARes.tmp 2, ARes.tmp 3], ACode.seq (ACode.region [⟨some 2, AOp.move (Opd.const (V.nilslice)), none⟩, ⟨some 3, AOp.move (Opd.const (V.int (IntKind.i64) 0)), none⟩]) (ACode.seq (ACode.region
    [⟨some 8, AOp.move (Opd.tmp 0), none⟩, ⟨some 9, AOp.lenL (Opd.tmp 8), none⟩, ⟨some 10, AOp.call (Opd.func 11) [Opd.tmp 9], none⟩, ⟨some 7, AOp.move (Opd.tmp 10), none⟩, ⟨some 11, AOp.extract
    (Opd.tmp 7) 0, none⟩, ⟨some 12, AOp.extract (Opd.tmp 7) 1, none⟩, ⟨some 4, AOp.move (Opd.tmp 11), none⟩, ⟨some 5, AOp.move (Opd.tmp 12), none⟩]) (ACode.seq (ACode.seq (ACode.region [⟨some 13,
    AOp.move (Opd.tmp 5), none⟩, ⟨some 14, AOp.un (UnOp.not) (Opd.tmp 13), none⟩]) (ACode.cond (Opd.tmp 14) (ACode.seq (ACode.region [⟨some 2, AOp.move (Opd.const (V.nilslice)), none⟩, ⟨some 3,
    AOp.move (Opd.const (V.int (IntKind.i64) 6)), none⟩]) (ACode.ret)) (ACode.skip))) (ACode.seq (ACode.region [⟨some 15, AOp.move (Opd.tmp 0), none⟩, ⟨some 16, AOp.lenL (Opd.tmp 15), none⟩, ⟨some 17,
    AOp.bin (BinOp.quo) (Opd.tmp 16) (Opd.const (V.int (IntKind.i64) 256)), none⟩, ⟨some 18, AOp.conv (IntKind.u8) (Opd.tmp 17), none⟩, ⟨some 19, AOp.move (Opd.tmp 0), none⟩, ⟨some 20, AOp.lenL
    (Opd.tmp 19), none⟩, ⟨some 21, AOp.conv (IntKind.u8) (Opd.tmp 20), none⟩, ⟨some 22, AOp.buildSlice 5 1 [V.int (IntKind.u8) 0] 2 [(0, 1, Opd.tmp 18), (1, 1, Opd.tmp 21)], none⟩, ⟨some 23, AOp.move
    (Opd.tmp 0), none⟩, ⟨some 24, AOp.append 5 1 1 (Opd.tmp 22) (Opd.tmp 23), none⟩, ⟨some 6, AOp.move (Opd.tmp 24), none⟩]) (ACode.seq (ACode.block 0 (ACode.loop c9_l0)) (ACode.seq (ACode.region
    [⟨some 32, AOp.move (Opd.tmp 6), none⟩, ⟨some 2, AOp.move (Opd.tmp 32), none⟩, ⟨some 3, AOp.move (Opd.const (V.int (IntKind.i64) 0)), none⟩]) (ACode.ret))))))⟩
theorem h9 : compFn Tryd.prog Tryd.f9 = some c9 := by kernel_rfl
/-- A loop of function 10. -/
def c10_l0 : ACode :=
  ACode.seq (ACode.region [⟨some 9, AOp.bin (BinOp.lss) (Opd.tmp 8) (Opd.tmp 7), none⟩]) (ACode.seq (ACode.cond (Opd.tmp 9) (ACode.skip) (ACode.exit 0)) (ACode.seq (ACode.block 1 (ACode.seq
    (ACode.region [⟨some 10, AOp.indexAddrS 1 (Opd.tmp 6) (Opd.tmp 8), none⟩, ⟨some 11, AOp.load (Opd.tmp 10), none⟩, ⟨some 5, AOp.move (Opd.tmp 11), none⟩]) (ACode.seq (ACode.region [⟨some 12,
    AOp.move (Opd.tmp 0), none⟩, ⟨some 13, AOp.bin (BinOp.geq) (Opd.tmp 12) (Opd.const (V.int (IntKind.i64) 0)), none⟩, ⟨some 14, AOp.move (Opd.tmp 13), none⟩, ⟨some 15, AOp.move (Opd.tmp 0), some
    (14, true)⟩, ⟨some 16, AOp.move (Opd.tmp 5), some (14, true)⟩, ⟨some 17, AOp.bin (BinOp.sub) (Opd.tmp 16) (Opd.const (V.int (IntKind.i64) 2)), some (14, true)⟩, ⟨some 18, AOp.bin (BinOp.leq)
    (Opd.tmp 15) (Opd.tmp 17), some (14, true)⟩, ⟨some 19, AOp.pick (Opd.tmp 14) (Opd.tmp 18) (Opd.const (V.bool false)), none⟩]) (ACode.cond (Opd.tmp 19) (ACode.seq (ACode.region [⟨some 20, AOp.move
    (Opd.tmp 5), none⟩, ⟨some 2, AOp.move (Opd.tmp 20), none⟩, ⟨some 3, AOp.move (Opd.const (V.bool true)), none⟩]) (ACode.ret)) (ACode.skip))))) (ACode.region [⟨some 21, AOp.bin (BinOp.add) (Opd.tmp
    8) (Opd.const (V.int (IntKind.i64) 1)), none⟩, ⟨some 8, AOp.move (Opd.tmp 21), none⟩])))
theorem c10_l0_wr : c10_l0.wr = [9, 10, 11, 5, 12, 13, 14, 15, 16, 17, 18, 19, 20, 2, 3, 21, 8] := by kernel_rfl
/-- Function 10: pad.Bucket. -/
def c10 : AFn :=
  ⟨22, [ARes.tmp 2, ARes.tmp 3], ACode.seq (ACode.region [⟨some 2, AOp.move (Opd.const (V.int (IntKind.i64) 0)), none⟩, ⟨some 3, AOp.move (Opd.const (V.bool false)), none⟩]) (ACode.seq (ACode.seq
    (ACode.region [⟨some 6, AOp.call (Opd.func 16) [], none⟩, ⟨some 7, AOp.lenL (Opd.tmp 6), none⟩, ⟨some 8, AOp.move (Opd.const (V.int (IntKind.i64) 0)), none⟩]) (ACode.block 0 (ACode.loop c10_l0)))
    (ACode.seq (ACode.region [⟨some 2, AOp.move (Opd.const (V.int (IntKind.i64) 0)), none⟩, ⟨some 3, AOp.move (Opd.const (V.bool false)), none⟩]) (ACode.ret)))⟩
theorem h10 : compFn Tryd.prog Tryd.f10 = some c10 := by kernel_rfl
/-- A loop of function 11. -/
def c11_l0 : ACode :=
  ACode.seq (ACode.seq (ACode.region [⟨some 5, AOp.move (Opd.tmp 4), none⟩, ⟨some 6, AOp.bin (BinOp.lss) (Opd.tmp 5) (Opd.const (V.int (IntKind.i64) 4)), none⟩, ⟨some 7, AOp.move (Opd.tmp 6), none⟩,
    ⟨some 8, AOp.move (Opd.tmp 0), some (7, true)⟩, ⟨some 9, AOp.bin (BinOp.geq) (Opd.tmp 8) (Opd.const (V.int (IntKind.i64) 0)), some (7, true)⟩, ⟨some 10, AOp.pick (Opd.tmp 7) (Opd.tmp 9) (Opd.const
    (V.bool false)), none⟩]) (ACode.cond (Opd.tmp 10) (ACode.skip) (ACode.exit 0))) (ACode.seq (ACode.block 1 (ACode.seq (ACode.region [⟨some 13, AOp.move (Opd.tmp 0), none⟩, ⟨some 14, AOp.move
    (Opd.tmp 4), none⟩, ⟨some 15, AOp.indexAddrA 4 1 (Opd.glob 0) (Opd.tmp 14), none⟩, ⟨some 16, AOp.load (Opd.tmp 15), none⟩, ⟨some 17, AOp.bin (BinOp.sub) (Opd.tmp 16) (Opd.const (V.int
    (IntKind.i64) 2)), none⟩, ⟨some 18, AOp.bin (BinOp.leq) (Opd.tmp 13) (Opd.tmp 17), none⟩]) (ACode.cond (Opd.tmp 18) (ACode.seq (ACode.region [⟨some 19, AOp.move (Opd.tmp 4), none⟩, ⟨some 20,
    AOp.indexAddrA 4 1 (Opd.glob 0) (Opd.tmp 19), none⟩, ⟨some 21, AOp.load (Opd.tmp 20), none⟩, ⟨some 2, AOp.move (Opd.tmp 21), none⟩, ⟨some 3, AOp.move (Opd.const (V.bool true)), none⟩])
    (ACode.ret)) (ACode.skip)))) (ACode.region [⟨some 11, AOp.move (Opd.tmp 4), none⟩, ⟨some 12, AOp.bin (BinOp.add) (Opd.tmp 11) (Opd.const (V.int (IntKind.i64) 1)), none⟩, ⟨some 4, AOp.move (Opd.tmp
    12), none⟩]))
theorem c11_l0_wr : c11_l0.wr = [5, 6, 7, 8, 9, 10, 13, 14, 15, 16, 17, 18, 19, 20, 21, 2, 3, 11, 12, 4] := by kernel_rfl
/-- Function 11: portholeref15.Bucket. -/
def c11 : AFn :=
  ⟨22, [ARes.tmp 2, ARes.tmp 3], ACode.seq (ACode.region [⟨some 2, AOp.move (Opd.const (V.int (IntKind.i64) 0)), none⟩, ⟨some 3, AOp.move (Opd.const (V.bool false)), none⟩]) (ACode.seq (ACode.seq
    (ACode.region [⟨some 4, AOp.move (Opd.const (V.int (IntKind.i64) 0)), none⟩]) (ACode.block 0 (ACode.loop c11_l0))) (ACode.seq (ACode.region [⟨some 2, AOp.move (Opd.const (V.int (IntKind.i64) 0)),
    none⟩, ⟨some 3, AOp.move (Opd.const (V.bool false)), none⟩]) (ACode.ret)))⟩
theorem h11 : compFn Tryd.prog Tryd.f11 = some c11 := by kernel_rfl
/-- Function 12: portholelaw15.known. -/
def c12 : AFn :=
  ⟨35, [ARes.tmp 0], ACode.seq (ACode.region [⟨some 0, AOp.move (Opd.const (V.bool false)), none⟩]) (ACode.seq (ACode.region [⟨some 8, AOp.call (Opd.func 10) [Opd.const (V.int (IntKind.i64) 62)],
    none⟩, ⟨some 7, AOp.move (Opd.tmp 8), none⟩, ⟨some 9, AOp.extract (Opd.tmp 7) 0, none⟩, ⟨some 10, AOp.extract (Opd.tmp 7) 1, none⟩, ⟨some 1, AOp.move (Opd.tmp 9), none⟩, ⟨some 2, AOp.move (Opd.tmp
    10), none⟩]) (ACode.seq (ACode.region [⟨some 12, AOp.call (Opd.func 10) [Opd.const (V.int (IntKind.i64) 63)], none⟩, ⟨some 11, AOp.move (Opd.tmp 12), none⟩, ⟨some 13, AOp.extract (Opd.tmp 11) 0,
    none⟩, ⟨some 14, AOp.extract (Opd.tmp 11) 1, none⟩, ⟨some 3, AOp.move (Opd.tmp 13), none⟩, ⟨some 4, AOp.move (Opd.tmp 14), none⟩]) (ACode.seq (ACode.region [⟨some 16, AOp.call (Opd.func 10)
    [Opd.const (V.int (IntKind.i64) 3967)], none⟩, ⟨some 15, AOp.move (Opd.tmp 16), none⟩, ⟨some 17, AOp.extract (Opd.tmp 15) 0, none⟩, ⟨some 18, AOp.extract (Opd.tmp 15) 1, none⟩, ⟨some 5, AOp.move
    (Opd.tmp 17), none⟩, ⟨some 6, AOp.move (Opd.tmp 18), none⟩]) (ACode.seq (ACode.region [⟨some 19, AOp.move (Opd.tmp 1), none⟩, ⟨some 20, AOp.bin (BinOp.eql) (Opd.tmp 19) (Opd.const (V.int
    (IntKind.i64) 64)), none⟩, ⟨some 21, AOp.move (Opd.tmp 20), none⟩, ⟨some 22, AOp.move (Opd.tmp 2), some (21, true)⟩, ⟨some 23, AOp.pick (Opd.tmp 21) (Opd.tmp 22) (Opd.const (V.bool false)), none⟩,
    ⟨some 24, AOp.move (Opd.tmp 23), none⟩, ⟨some 25, AOp.move (Opd.tmp 3), some (24, true)⟩, ⟨some 26, AOp.bin (BinOp.eql) (Opd.tmp 25) (Opd.const (V.int (IntKind.i64) 256)), some (24, true)⟩, ⟨some
    27, AOp.pick (Opd.tmp 24) (Opd.tmp 26) (Opd.const (V.bool false)), none⟩, ⟨some 28, AOp.move (Opd.tmp 27), none⟩, ⟨some 29, AOp.move (Opd.tmp 4), some (28, true)⟩, ⟨some 30, AOp.pick (Opd.tmp 28)
    (Opd.tmp 29) (Opd.const (V.bool false)), none⟩, ⟨some 31, AOp.move (Opd.tmp 30), none⟩, ⟨some 32, AOp.move (Opd.tmp 6), some (31, true)⟩, ⟨some 33, AOp.un (UnOp.not) (Opd.tmp 32), some (31,
    true)⟩, ⟨some 34, AOp.pick (Opd.tmp 31) (Opd.tmp 33) (Opd.const (V.bool false)), none⟩, ⟨some 0, AOp.move (Opd.tmp 34), none⟩]) (ACode.ret)))))⟩
theorem h12 : compFn Tryd.prog Tryd.f12 = some c12 := by kernel_rfl
/-- A loop of function 15. -/
def c15_l0 : ACode :=
  ACode.seq (ACode.region [⟨some 10, AOp.bin (BinOp.lss) (Opd.tmp 9) (Opd.tmp 8), none⟩]) (ACode.seq (ACode.cond (Opd.tmp 10) (ACode.skip) (ACode.exit 0)) (ACode.seq (ACode.block 1 (ACode.seq
    (ACode.region [⟨some 11, AOp.indexAddrS 1 (Opd.tmp 7) (Opd.tmp 9), none⟩, ⟨some 12, AOp.load (Opd.tmp 11), none⟩, ⟨some 5, AOp.move (Opd.tmp 12), none⟩]) (ACode.region [⟨some 13, AOp.move (Opd.tmp
    3), none⟩, ⟨some 14, AOp.move (Opd.tmp 5), none⟩, ⟨some 15, AOp.append 5 1 1 (Opd.tmp 13) (Opd.tmp 14), none⟩, ⟨some 3, AOp.move (Opd.tmp 15), none⟩]))) (ACode.region [⟨some 16, AOp.bin
    (BinOp.add) (Opd.tmp 9) (Opd.const (V.int (IntKind.i64) 1)), none⟩, ⟨some 9, AOp.move (Opd.tmp 16), none⟩])))
theorem c15_l0_wr : c15_l0.wr = [10, 11, 12, 5, 13, 14, 15, 3, 16, 9] := by kernel_rfl
/-- Function 15: octet.Join. -/
def c15 : AFn :=
  ⟨18, [ARes.tmp 2], ACode.seq (ACode.region [⟨some 2, AOp.move (Opd.const (V.nilslice)), none⟩]) (ACode.seq (ACode.region [⟨some 6, AOp.buildSlice 5 1 [V.int (IntKind.u8) 0] 0 [], none⟩, ⟨some 3,
    AOp.move (Opd.tmp 6), none⟩]) (ACode.seq (ACode.seq (ACode.region [⟨some 7, AOp.move (Opd.tmp 0), none⟩, ⟨some 8, AOp.lenL (Opd.tmp 7), none⟩, ⟨some 9, AOp.move (Opd.const (V.int (IntKind.i64)
    0)), none⟩]) (ACode.block 0 (ACode.loop c15_l0))) (ACode.seq (ACode.region [⟨some 17, AOp.move (Opd.tmp 3), none⟩, ⟨some 2, AOp.move (Opd.tmp 17), none⟩]) (ACode.ret))))⟩
theorem h15 : compFn Tryd.prog Tryd.f15 = some c15 := by kernel_rfl
/-- Function 16: pad.Sizes. -/
def c16 : AFn :=
  ⟨2, [ARes.tmp 0], ACode.seq (ACode.region [⟨some 0, AOp.move (Opd.const (V.nilslice)), none⟩]) (ACode.seq (ACode.region [⟨some 1, AOp.buildSlice 3 1 [V.int (IntKind.i64) 0] 4 [(0, 1, Opd.const
    (V.int (IntKind.i64) 64)), (1, 1, Opd.const (V.int (IntKind.i64) 256)), (2, 1, Opd.const (V.int (IntKind.i64) 1024)), (3, 1, Opd.const (V.int (IntKind.i64) 3968))], none⟩, ⟨some 0, AOp.move
    (Opd.tmp 1), none⟩]) (ACode.ret))⟩
theorem h16 : compFn Tryd.prog Tryd.f16 = some c16 := by kernel_rfl
def tab (f : Nat) : Option AFn :=
  if f = 3 then some c3 else if f = 5 then some c5 else if f = 6 then some c6 else if f = 7 then some c7 else if f = 8 then some c8 else if f = 9 then some c9 else if f = 10 then some c10 else if f = 11 then some c11 else if f = 12 then some c12 else if f = 15 then some c15 else if f = 16 then some c16 else none
theorem tab_holds : Holds Tryd.prog tab := by
  intro f fn hf
  unfold tab at hf
  by_cases e3 : f = 3
  · rw [if_pos e3] at hf; subst e3; cases hf; exact ⟨_, Tryd.func3, h3⟩
  rw [if_neg e3] at hf
  by_cases e5 : f = 5
  · rw [if_pos e5] at hf; subst e5; cases hf; exact ⟨_, Tryd.func5, h5⟩
  rw [if_neg e5] at hf
  by_cases e6 : f = 6
  · rw [if_pos e6] at hf; subst e6; cases hf; exact ⟨_, Tryd.func6, h6⟩
  rw [if_neg e6] at hf
  by_cases e7 : f = 7
  · rw [if_pos e7] at hf; subst e7; cases hf; exact ⟨_, Tryd.func7, h7⟩
  rw [if_neg e7] at hf
  by_cases e8 : f = 8
  · rw [if_pos e8] at hf; subst e8; cases hf; exact ⟨_, Tryd.func8, h8⟩
  rw [if_neg e8] at hf
  by_cases e9 : f = 9
  · rw [if_pos e9] at hf; subst e9; cases hf; exact ⟨_, Tryd.func9, h9⟩
  rw [if_neg e9] at hf
  by_cases e10 : f = 10
  · rw [if_pos e10] at hf; subst e10; cases hf; exact ⟨_, Tryd.func10, h10⟩
  rw [if_neg e10] at hf
  by_cases e11 : f = 11
  · rw [if_pos e11] at hf; subst e11; cases hf; exact ⟨_, Tryd.func11, h11⟩
  rw [if_neg e11] at hf
  by_cases e12 : f = 12
  · rw [if_pos e12] at hf; subst e12; cases hf; exact ⟨_, Tryd.func12, h12⟩
  rw [if_neg e12] at hf
  by_cases e15 : f = 15
  · rw [if_pos e15] at hf; subst e15; cases hf; exact ⟨_, Tryd.func15, h15⟩
  rw [if_neg e15] at hf
  by_cases e16 : f = 16
  · rw [if_pos e16] at hf; subst e16; cases hf; exact ⟨_, Tryd.func16, h16⟩
  rw [if_neg e16] at hf
  cases hf
end Go.Proofs.YtaaejidllnkpbaaDoor.PadPads
