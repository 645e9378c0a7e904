/- The functions that the law KdfChains reaches, as the abstract machine has them. No condition. -/
import Derived.Test.YtobnkgajgodioaaDoorA43
import Derived.KernelRfl
namespace Go.Proofs.YtobnkgajgodioaaDoor.KdfChains
open Go Go.Proofs.YtobnkgajgodioaaDoorA
/-- Function 6: portholelaw8.KdfChains. -/
def c6 : AFn :=
  ⟨61, [ARes.tmp 4], ACode.seq (ACode.region [⟨some 2, AOp.boxv 25 1 (Opd.tmp 0), none⟩, ⟨some 4, AOp.move (Opd.const (V.bool false)), none⟩]) (ACode.seq (ACode.region [⟨some 9, AOp.loadn 32 (Opd.tmp
    2), none⟩, ⟨some 10, AOp.move (Opd.tmp 1), none⟩, ⟨some 11, AOp.call (Opd.func 8) [Opd.tmp 9, Opd.tmp 10, Opd.const (V.int (IntKind.i64) 3)], none⟩, ⟨some 5, AOp.move (Opd.tmp 11), none⟩])
    (ACode.seq (ACode.seq (ACode.region [⟨some 12, AOp.call (Opd.func 7) [], none⟩, ⟨some 13, AOp.un (UnOp.not) (Opd.tmp 12), none⟩, ⟨some 14, AOp.move (Opd.tmp 13), none⟩, ⟨some 15, AOp.move (Opd.tmp
    5), some (14, false)⟩, ⟨some 16, AOp.lenL (Opd.tmp 15), some (14, false)⟩, ⟨some 17, AOp.bin (BinOp.neq) (Opd.tmp 16) (Opd.const (V.int (IntKind.i64) 3)), some (14, false)⟩, ⟨some 18, AOp.pick
    (Opd.tmp 14) (Opd.const (V.bool true)) (Opd.tmp 17), none⟩]) (ACode.cond (Opd.tmp 18) (ACode.seq (ACode.region [⟨some 4, AOp.move (Opd.const (V.bool false)), none⟩]) (ACode.ret)) (ACode.skip)))
    (ACode.seq (ACode.region [⟨some 19, AOp.sliceArr 32 1 (Opd.tmp 2) none none none, none⟩, ⟨some 20, AOp.move (Opd.tmp 1), none⟩, ⟨some 21, AOp.call (Opd.func 9) [Opd.tmp 19, Opd.tmp 20], none⟩,
    ⟨some 6, AOp.box 25 1 [V.int (IntKind.u8) 0, V.int (IntKind.u8) 0, V.int (IntKind.u8) 0, V.int (IntKind.u8) 0, V.int (IntKind.u8) 0, V.int (IntKind.u8) 0, V.int (IntKind.u8) 0, V.int (IntKind.u8)
    0, V.int (IntKind.u8) 0, V.int (IntKind.u8) 0, V.int (IntKind.u8) 0, V.int (IntKind.u8) 0, V.int (IntKind.u8) 0, V.int (IntKind.u8) 0, V.int (IntKind.u8) 0, V.int (IntKind.u8) 0, V.int
    (IntKind.u8) 0, V.int (IntKind.u8) 0, V.int (IntKind.u8) 0, V.int (IntKind.u8) 0, V.int (IntKind.u8) 0, V.int (IntKind.u8) 0, V.int (IntKind.u8) 0, V.int (IntKind.u8) 0, V.int (IntKind.u8) 0,
    V.int (IntKind.u8) 0, V.int (IntKind.u8) 0, V.int (IntKind.u8) 0, V.int (IntKind.u8) 0, V.int (IntKind.u8) 0, V.int (IntKind.u8) 0, V.int (IntKind.u8) 0], none⟩, ⟨none, AOp.store 32 (Opd.tmp 6)
    (Opd.tmp 21), none⟩]) (ACode.seq (ACode.region [⟨some 22, AOp.buildSlice 5 1 [V.int (IntKind.u8) 0] 0 [], none⟩, ⟨some 23, AOp.move (Opd.tmp 5), none⟩, ⟨some 24, AOp.indexAddrS 32 (Opd.tmp 23)
    (Opd.const (V.int (IntKind.i64) 0)), none⟩, ⟨some 25, AOp.sliceArr 32 1 (Opd.tmp 24) none none none, none⟩, ⟨some 26, AOp.append 5 1 1 (Opd.tmp 22) (Opd.tmp 25), none⟩, ⟨some 7, AOp.move (Opd.tmp
    26), none⟩]) (ACode.seq (ACode.region [⟨some 27, AOp.buildSlice 5 1 [V.int (IntKind.u8) 0] 0 [], none⟩, ⟨some 28, AOp.move (Opd.tmp 5), none⟩, ⟨some 29, AOp.indexAddrS 32 (Opd.tmp 28) (Opd.const
    (V.int (IntKind.i64) 1)), none⟩, ⟨some 30, AOp.sliceArr 32 1 (Opd.tmp 29) none none none, none⟩, ⟨some 31, AOp.append 5 1 1 (Opd.tmp 27) (Opd.tmp 30), none⟩, ⟨some 8, AOp.move (Opd.tmp 31),
    none⟩]) (ACode.seq (ACode.anyRegion [⟨some 32, AOp.move (Opd.tmp 5), none⟩, ⟨some 33, AOp.indexAddrS 32 (Opd.tmp 32) (Opd.const (V.int (IntKind.i64) 0)), none⟩, ⟨some 34, AOp.loadn 32 (Opd.tmp
    33), none⟩, ⟨some 35, AOp.sliceArr 32 1 (Opd.tmp 6) none none none, none⟩, ⟨some 36, AOp.buildSlice 5 1 [V.int (IntKind.u8) 0] 1 [(0, 1, Opd.const (V.int (IntKind.u8) 1))], none⟩, ⟨some 37,
    AOp.call (Opd.func 9) [Opd.tmp 35, Opd.tmp 36], none⟩, ⟨some 38, AOp.eqArr false 32 (Opd.tmp 34) (Opd.tmp 37), none⟩, ⟨some 39, AOp.move (Opd.tmp 38), none⟩, ⟨some 40, AOp.move (Opd.tmp 5), some
    (39, true)⟩, ⟨some 41, AOp.indexAddrS 32 (Opd.tmp 40) (Opd.const (V.int (IntKind.i64) 1)), some (39, true)⟩, ⟨some 42, AOp.loadn 32 (Opd.tmp 41), some (39, true)⟩, ⟨some 43, AOp.sliceArr 32 1
    (Opd.tmp 6) none none none, some (39, true)⟩, ⟨some 44, AOp.move (Opd.tmp 7), some (39, true)⟩, ⟨some 45, AOp.buildSlice 5 1 [V.int (IntKind.u8) 0] 1 [(0, 1, Opd.const (V.int (IntKind.u8) 2))],
    some (39, true)⟩, ⟨some 46, AOp.append 5 1 1 (Opd.tmp 44) (Opd.tmp 45), some (39, true)⟩, ⟨some 47, AOp.call (Opd.func 9) [Opd.tmp 43, Opd.tmp 46], some (39, true)⟩, ⟨some 48, AOp.eqArr false 32
    (Opd.tmp 42) (Opd.tmp 47), some (39, true)⟩, ⟨some 49, AOp.pick (Opd.tmp 39) (Opd.tmp 48) (Opd.const (V.bool false)), none⟩, ⟨some 50, AOp.move (Opd.tmp 49), none⟩, ⟨some 51, AOp.move (Opd.tmp 5),
    some (50, true)⟩, ⟨some 52, AOp.indexAddrS 32 (Opd.tmp 51) (Opd.const (V.int (IntKind.i64) 2)), some (50, true)⟩, ⟨some 53, AOp.loadn 32 (Opd.tmp 52), some (50, true)⟩, ⟨some 54, AOp.sliceArr 32 1
    (Opd.tmp 6) none none none, some (50, true)⟩, ⟨some 55, AOp.move (Opd.tmp 8), some (50, true)⟩, ⟨some 56, AOp.buildSlice 5 1 [V.int (IntKind.u8) 0] 1 [(0, 1, Opd.const (V.int (IntKind.u8) 3))],
    some (50, true)⟩, ⟨some 57, AOp.append 5 1 1 (Opd.tmp 55) (Opd.tmp 56), some (50, true)⟩, ⟨some 58, AOp.call (Opd.func 9) [Opd.tmp 54, Opd.tmp 57], some (50, true)⟩, ⟨some 59, AOp.eqArr false 32
    (Opd.tmp 53) (Opd.tmp 58), some (50, true)⟩, ⟨some 60, AOp.pick (Opd.tmp 50) (Opd.tmp 59) (Opd.const (V.bool false)), none⟩, ⟨some 4, AOp.move (Opd.tmp 60), none⟩] [(2, 5), (2, 6), (10, 14), (10,
    15), (10, 16), (21, 25), (21, 26), (21, 27)]) (ACode.ret)))))))⟩
theorem h6 : compFn Tryd.prog Tryd.f6 = some c6 := by kernel_rfl
/-- Function 7: portholelaw8.known. -/
def c7 : AFn :=
  ⟨49, [ARes.tmp 0], ACode.seq (ACode.region [⟨some 0, AOp.move (Opd.const (V.bool false)), none⟩]) (ACode.seq (ACode.region [⟨some 3, AOp.call (Opd.func 15) [Opd.const (V.int (IntKind.i64) 1)],
    none⟩, ⟨some 4, AOp.buildSlice 5 1 [V.int (IntKind.u8) 0] 1 [(0, 1, Opd.const (V.int (IntKind.u8) 120))], none⟩, ⟨some 5, AOp.convSame (Opd.tmp 4), none⟩, ⟨some 6, AOp.call (Opd.func 8) [Opd.tmp
    3, Opd.tmp 5, Opd.const (V.int (IntKind.i64) 2)], none⟩, ⟨some 1, AOp.move (Opd.tmp 6), none⟩]) (ACode.seq (ACode.region [⟨some 7, AOp.call (Opd.func 15) [Opd.const (V.int (IntKind.i64) 1)],
    none⟩, ⟨some 8, AOp.buildSlice 5 1 [V.int (IntKind.u8) 0] 1 [(0, 1, Opd.const (V.int (IntKind.u8) 120))], none⟩, ⟨some 9, AOp.convSame (Opd.tmp 8), none⟩, ⟨some 10, AOp.call (Opd.func 8) [Opd.tmp
    7, Opd.tmp 9, Opd.const (V.int (IntKind.i64) 3)], none⟩, ⟨some 2, AOp.move (Opd.tmp 10), none⟩]) (ACode.seq (ACode.floatRegion [⟨some 11, AOp.move (Opd.tmp 1), none⟩, ⟨some 12, AOp.lenL (Opd.tmp
    11), none⟩, ⟨some 13, AOp.bin (BinOp.eql) (Opd.tmp 12) (Opd.const (V.int (IntKind.i64) 2)), none⟩, ⟨some 14, AOp.move (Opd.tmp 13), none⟩, ⟨some 15, AOp.move (Opd.tmp 2), some (14, true)⟩, ⟨some
    16, AOp.lenL (Opd.tmp 15), some (14, true)⟩, ⟨some 17, AOp.bin (BinOp.eql) (Opd.tmp 16) (Opd.const (V.int (IntKind.i64) 3)), some (14, true)⟩, ⟨some 18, AOp.pick (Opd.tmp 14) (Opd.tmp 17)
    (Opd.const (V.bool false)), none⟩, ⟨some 19, AOp.move (Opd.tmp 18), none⟩, ⟨some 20, AOp.move (Opd.tmp 1), some (19, true)⟩, ⟨some 21, AOp.indexAddrS 32 (Opd.tmp 20) (Opd.const (V.int
    (IntKind.i64) 0)), some (19, true)⟩, ⟨some 22, AOp.loadn 32 (Opd.tmp 21), some (19, true)⟩, ⟨some 23, AOp.move (Opd.tmp 2), some (19, true)⟩, ⟨some 24, AOp.indexAddrS 32 (Opd.tmp 23) (Opd.const
    (V.int (IntKind.i64) 0)), some (19, true)⟩, ⟨some 25, AOp.loadn 32 (Opd.tmp 24), some (19, true)⟩, ⟨some 26, AOp.eqArr false 32 (Opd.tmp 22) (Opd.tmp 25), some (19, true)⟩, ⟨some 27, AOp.pick
    (Opd.tmp 19) (Opd.tmp 26) (Opd.const (V.bool false)), none⟩, ⟨some 28, AOp.move (Opd.tmp 27), none⟩, ⟨some 29, AOp.move (Opd.tmp 1), some (28, true)⟩, ⟨some 30, AOp.indexAddrS 32 (Opd.tmp 29)
    (Opd.const (V.int (IntKind.i64) 1)), some (28, true)⟩, ⟨some 31, AOp.loadn 32 (Opd.tmp 30), some (28, true)⟩, ⟨some 32, AOp.move (Opd.tmp 2), some (28, true)⟩, ⟨some 33, AOp.indexAddrS 32 (Opd.tmp
    32) (Opd.const (V.int (IntKind.i64) 1)), some (28, true)⟩, ⟨some 34, AOp.loadn 32 (Opd.tmp 33), some (28, true)⟩, ⟨some 35, AOp.eqArr false 32 (Opd.tmp 31) (Opd.tmp 34), some (28, true)⟩, ⟨some
    36, AOp.pick (Opd.tmp 28) (Opd.tmp 35) (Opd.const (V.bool false)), none⟩, ⟨some 37, AOp.move (Opd.tmp 36), none⟩, ⟨some 38, AOp.move (Opd.tmp 1), some (37, true)⟩, ⟨some 39, AOp.indexAddrS 32
    (Opd.tmp 38) (Opd.const (V.int (IntKind.i64) 0)), some (37, true)⟩, ⟨some 40, AOp.loadn 32 (Opd.tmp 39), some (37, true)⟩, ⟨some 41, AOp.call (Opd.func 15) [Opd.const (V.int (IntKind.i64) 1)],
    some (37, true)⟩, ⟨some 42, AOp.float 0 (AOp.buildSlice 5 1 [V.int (IntKind.u8) 0] 1 [(0, 1, Opd.const (V.int (IntKind.u8) 120))]), some (37, true)⟩, ⟨some 43, AOp.float 31 (AOp.convSame (Opd.tmp
    42)), some (37, true)⟩, ⟨some 44, AOp.call (Opd.func 14) [Opd.tmp 41, Opd.tmp 43, Opd.const (V.int (IntKind.i64) 2)], some (37, true)⟩, ⟨some 45, AOp.indexAddrS 32 (Opd.tmp 44) (Opd.const (V.int
    (IntKind.i64) 0)), some (37, true)⟩, ⟨some 46, AOp.loadn 32 (Opd.tmp 45), some (37, true)⟩, ⟨some 47, AOp.eqArr false 32 (Opd.tmp 40) (Opd.tmp 46), some (37, true)⟩, ⟨some 48, AOp.pick (Opd.tmp
    37) (Opd.tmp 47) (Opd.const (V.bool false)), none⟩, ⟨some 0, AOp.move (Opd.tmp 48), none⟩] [[], [], [], [], [], [], [], [], [], [], [], [], [], [], [], [], [], [], [], [], [], [], [], [], [], [],
    [], [], [], [], [], [], [], [31], [], [], [], [], [], []] [(29, 31), (29, 34)]) (ACode.ret))))⟩
theorem h7 : compFn Tryd.prog Tryd.f7 = some c7 := by kernel_rfl
/-- A loop of function 8. -/
def c8_l0 : ACode :=
  ACode.seq (ACode.region [⟨some 23, AOp.bin (BinOp.lss) (Opd.tmp 22) (Opd.tmp 21), none⟩]) (ACode.seq (ACode.cond (Opd.tmp 23) (ACode.skip) (ACode.exit 0)) (ACode.seq (ACode.block 1 (ACode.seq
    (ACode.region [⟨some 24, AOp.move (Opd.tmp 22), none⟩, ⟨some 10, AOp.move (Opd.tmp 24), none⟩]) (ACode.seq (ACode.floatRegion [⟨some 25, AOp.sliceArr 32 1 (Opd.tmp 7) none none none, none⟩, ⟨some
    26, AOp.move (Opd.tmp 9), none⟩, ⟨some 27, AOp.move (Opd.tmp 10), none⟩, ⟨some 28, AOp.bin (BinOp.add) (Opd.tmp 27) (Opd.const (V.int (IntKind.i64) 1)), none⟩, ⟨some 29, AOp.conv (IntKind.u8)
    (Opd.tmp 28), none⟩, ⟨some 30, AOp.float 0 (AOp.buildSlice 5 1 [V.int (IntKind.u8) 0] 1 [(0, 1, Opd.tmp 29)]), none⟩, ⟨some 31, AOp.float 0 (AOp.buildSlice 27 1 [V.nilslice] 2 [(0, 1, Opd.tmp 26),
    (1, 1, Opd.tmp 30)]), none⟩, ⟨some 32, AOp.call (Opd.func 16) [Opd.tmp 31], none⟩, ⟨some 33, AOp.call (Opd.func 9) [Opd.tmp 25, Opd.tmp 32], none⟩, ⟨some 11, AOp.float 0 (AOp.box 25 1 [V.int
    (IntKind.u8) 0, V.int (IntKind.u8) 0, V.int (IntKind.u8) 0, V.int (IntKind.u8) 0, V.int (IntKind.u8) 0, V.int (IntKind.u8) 0, V.int (IntKind.u8) 0, V.int (IntKind.u8) 0, V.int (IntKind.u8) 0,
    V.int (IntKind.u8) 0, V.int (IntKind.u8) 0, V.int (IntKind.u8) 0, V.int (IntKind.u8) 0, V.int (IntKind.u8) 0, V.int (IntKind.u8) 0, V.int (IntKind.u8) 0, V.int (IntKind.u8) 0, V.int (IntKind.u8)
    0, V.int (IntKind.u8) 0, V.int (IntKind.u8) 0, V.int (IntKind.u8) 0, V.int (IntKind.u8) 0, V.int (IntKind.u8) 0, V.int (IntKind.u8) 0, V.int (IntKind.u8) 0, V.int (IntKind.u8) 0, V.int
    (IntKind.u8) 0, V.int (IntKind.u8) 0, V.int (IntKind.u8) 0, V.int (IntKind.u8) 0, V.int (IntKind.u8) 0, V.int (IntKind.u8) 0]), none⟩, ⟨none, AOp.store 32 (Opd.tmp 11) (Opd.tmp 33), none⟩] [[],
    [], [], [], [], [], [], [5, 6], [], [], [9], []] []) (ACode.seq (ACode.region [⟨some 34, AOp.move (Opd.tmp 8), none⟩, ⟨some 35, AOp.loadn 32 (Opd.tmp 11), none⟩, ⟨some 36, AOp.buildSlice 25 32
    [V.int (IntKind.u8) 0, V.int (IntKind.u8) 0, V.int (IntKind.u8) 0, V.int (IntKind.u8) 0, V.int (IntKind.u8) 0, V.int (IntKind.u8) 0, V.int (IntKind.u8) 0, V.int (IntKind.u8) 0, V.int (IntKind.u8)
    0, V.int (IntKind.u8) 0, V.int (IntKind.u8) 0, V.int (IntKind.u8) 0, V.int (IntKind.u8) 0, V.int (IntKind.u8) 0, V.int (IntKind.u8) 0, V.int (IntKind.u8) 0, V.int (IntKind.u8) 0, V.int
    (IntKind.u8) 0, V.int (IntKind.u8) 0, V.int (IntKind.u8) 0, V.int (IntKind.u8) 0, V.int (IntKind.u8) 0, V.int (IntKind.u8) 0, V.int (IntKind.u8) 0, V.int (IntKind.u8) 0, V.int (IntKind.u8) 0,
    V.int (IntKind.u8) 0, V.int (IntKind.u8) 0, V.int (IntKind.u8) 0, V.int (IntKind.u8) 0, V.int (IntKind.u8) 0, V.int (IntKind.u8) 0] 1 [(0, 32, Opd.tmp 35)], none⟩, ⟨some 37, AOp.append 25 32 32
    (Opd.tmp 34) (Opd.tmp 36), none⟩, ⟨some 8, AOp.move (Opd.tmp 37), none⟩]) (ACode.region [⟨some 38, AOp.sliceArr 32 1 (Opd.tmp 11) none none none, none⟩, ⟨some 9, AOp.move (Opd.tmp 38), none⟩])))))
    (ACode.region [⟨some 39, AOp.bin (BinOp.add) (Opd.tmp 22) (Opd.const (V.int (IntKind.i64) 1)), none⟩, ⟨some 22, AOp.move (Opd.tmp 39), none⟩])))
theorem c8_l0_wr : c8_l0.wr = [23, 24, 10, 25, 26, 27, 28, 29, 30, 31, 32, 33, 11, 34, 35, 36, 37, 8, 38, 9, 39, 22] := by kernel_rfl
/-- Function 8: kdf.Derive. -/
def c8 : AFn :=
  ⟨41, [ARes.tmp 6], ACode.seq (ACode.region [⟨some 3, AOp.boxv 25 1 (Opd.tmp 0), none⟩, ⟨some 6, AOp.move (Opd.const (V.nilslice)), none⟩]) (ACode.seq (ACode.seq (ACode.region [⟨some 12, AOp.move
    (Opd.tmp 2), none⟩, ⟨some 13, AOp.bin (BinOp.neq) (Opd.tmp 12) (Opd.const (V.int (IntKind.i64) 2)), none⟩, ⟨some 14, AOp.move (Opd.tmp 13), none⟩, ⟨some 15, AOp.move (Opd.tmp 2), some (14, true)⟩,
    ⟨some 16, AOp.bin (BinOp.neq) (Opd.tmp 15) (Opd.const (V.int (IntKind.i64) 3)), some (14, true)⟩, ⟨some 17, AOp.pick (Opd.tmp 14) (Opd.tmp 16) (Opd.const (V.bool false)), none⟩]) (ACode.cond
    (Opd.tmp 17) (ACode.seq (ACode.region [⟨some 6, AOp.move (Opd.const (V.nilslice)), none⟩]) (ACode.ret)) (ACode.skip))) (ACode.seq (ACode.region [⟨some 18, AOp.sliceArr 32 1 (Opd.tmp 3) none none
    none, none⟩, ⟨some 19, AOp.move (Opd.tmp 1), none⟩, ⟨some 20, AOp.call (Opd.func 9) [Opd.tmp 18, Opd.tmp 19], none⟩, ⟨some 7, AOp.box 25 1 [V.int (IntKind.u8) 0, V.int (IntKind.u8) 0, V.int
    (IntKind.u8) 0, V.int (IntKind.u8) 0, V.int (IntKind.u8) 0, V.int (IntKind.u8) 0, V.int (IntKind.u8) 0, V.int (IntKind.u8) 0, V.int (IntKind.u8) 0, V.int (IntKind.u8) 0, V.int (IntKind.u8) 0,
    V.int (IntKind.u8) 0, V.int (IntKind.u8) 0, V.int (IntKind.u8) 0, V.int (IntKind.u8) 0, V.int (IntKind.u8) 0, V.int (IntKind.u8) 0, V.int (IntKind.u8) 0, V.int (IntKind.u8) 0, V.int (IntKind.u8)
    0, V.int (IntKind.u8) 0, V.int (IntKind.u8) 0, V.int (IntKind.u8) 0, V.int (IntKind.u8) 0, V.int (IntKind.u8) 0, V.int (IntKind.u8) 0, V.int (IntKind.u8) 0, V.int (IntKind.u8) 0, V.int
    (IntKind.u8) 0, V.int (IntKind.u8) 0, V.int (IntKind.u8) 0, V.int (IntKind.u8) 0], none⟩, ⟨none, AOp.store 32 (Opd.tmp 7) (Opd.tmp 20), none⟩]) (ACode.seq (ACode.region [⟨some 8, AOp.move
    (Opd.const (V.nilslice)), none⟩]) (ACode.seq (ACode.region [⟨some 9, AOp.move (Opd.const (V.nilslice)), none⟩]) (ACode.seq (ACode.seq (ACode.region [⟨some 21, AOp.move (Opd.tmp 2), none⟩, ⟨some
    22, AOp.move (Opd.const (V.int (IntKind.i64) 0)), none⟩]) (ACode.block 0 (ACode.loop c8_l0))) (ACode.seq (ACode.region [⟨some 40, AOp.move (Opd.tmp 8), none⟩, ⟨some 6, AOp.move (Opd.tmp 40),
    none⟩]) (ACode.ret)))))))⟩
theorem h8 : compFn Tryd.prog Tryd.f8 = some c8 := by kernel_rfl
/-- A loop of function 9. -/
def c9_l0 : ACode :=
  ACode.seq (ACode.region [⟨some 28, AOp.bin (BinOp.lss) (Opd.tmp 27) (Opd.tmp 26), none⟩]) (ACode.seq (ACode.cond (Opd.tmp 28) (ACode.skip) (ACode.exit 0)) (ACode.seq (ACode.block 1 (ACode.seq
    (ACode.region [⟨some 29, AOp.move (Opd.tmp 27), none⟩, ⟨some 8, AOp.move (Opd.tmp 29), none⟩]) (ACode.seq (ACode.region [⟨some 30, AOp.move (Opd.tmp 6), none⟩, ⟨some 31, AOp.move (Opd.tmp 8),
    none⟩, ⟨some 32, AOp.indexAddrS 1 (Opd.tmp 30) (Opd.tmp 31), none⟩, ⟨some 33, AOp.load (Opd.tmp 32), none⟩, ⟨some 34, AOp.bin (BinOp.xor) (Opd.tmp 33) (Opd.const (V.int (IntKind.u8) 54)), none⟩,
    ⟨some 35, AOp.indexAddrS 1 (Opd.tmp 30) (Opd.tmp 31), none⟩, ⟨none, AOp.store 1 (Opd.tmp 35) (Opd.tmp 34), none⟩]) (ACode.region [⟨some 36, AOp.move (Opd.tmp 7), none⟩, ⟨some 37, AOp.move (Opd.tmp
    8), none⟩, ⟨some 38, AOp.indexAddrS 1 (Opd.tmp 36) (Opd.tmp 37), none⟩, ⟨some 39, AOp.load (Opd.tmp 38), none⟩, ⟨some 40, AOp.bin (BinOp.xor) (Opd.tmp 39) (Opd.const (V.int (IntKind.u8) 92)),
    none⟩, ⟨some 41, AOp.indexAddrS 1 (Opd.tmp 36) (Opd.tmp 37), none⟩, ⟨none, AOp.store 1 (Opd.tmp 41) (Opd.tmp 40), none⟩])))) (ACode.region [⟨some 42, AOp.bin (BinOp.add) (Opd.tmp 27) (Opd.const
    (V.int (IntKind.i64) 1)), none⟩, ⟨some 27, AOp.move (Opd.tmp 42), none⟩])))
theorem c9_l0_wr : c9_l0.wr = [28, 29, 8, 30, 31, 32, 33, 34, 35, 36, 37, 38, 39, 40, 41, 42, 27] := by kernel_rfl
/-- What follows in function 9. -/
def c9_s2 : ACode :=
  ACode.seq (ACode.floatRegion [⟨some 17, AOp.float 0 (AOp.makeSlice 5 1 1 [V.int (IntKind.u8) 0] (Opd.const (V.int (IntKind.i64) 64)) (Opd.const (V.int (IntKind.i64) 64))), none⟩, ⟨some 18, AOp.float
    0 (AOp.makeSlice 5 1 1 [V.int (IntKind.u8) 0] (Opd.const (V.int (IntKind.i64) 64)) (Opd.const (V.int (IntKind.i64) 64))), none⟩, ⟨some 6, AOp.move (Opd.tmp 17), none⟩, ⟨some 7, AOp.move (Opd.tmp
    18), none⟩] [[], [], [], [], [0, 1]] []) (ACode.seq (ACode.region [⟨some 19, AOp.move (Opd.tmp 6), none⟩, ⟨some 20, AOp.move (Opd.tmp 0), none⟩, ⟨some 21, AOp.copy 1 (Opd.tmp 19) (Opd.tmp 20),
    none⟩]) (ACode.seq (ACode.region [⟨some 22, AOp.move (Opd.tmp 7), none⟩, ⟨some 23, AOp.move (Opd.tmp 0), none⟩, ⟨some 24, AOp.copy 1 (Opd.tmp 22) (Opd.tmp 23), none⟩]) (ACode.seq (ACode.seq
    (ACode.region [⟨some 25, AOp.move (Opd.tmp 6), none⟩, ⟨some 26, AOp.lenL (Opd.tmp 25), none⟩, ⟨some 27, AOp.move (Opd.const (V.int (IntKind.i64) 0)), none⟩]) (ACode.block 0 (ACode.loop c9_l0)))
    (ACode.seq (ACode.region [⟨some 43, AOp.move (Opd.tmp 6), none⟩, ⟨some 44, AOp.move (Opd.tmp 1), none⟩, ⟨some 45, AOp.buildSlice 27 1 [V.nilslice] 2 [(0, 1, Opd.tmp 43), (1, 1, Opd.tmp 44)],
    none⟩, ⟨some 46, AOp.call (Opd.func 17) [Opd.tmp 45], none⟩, ⟨some 9, AOp.box 25 1 [V.int (IntKind.u8) 0, V.int (IntKind.u8) 0, V.int (IntKind.u8) 0, V.int (IntKind.u8) 0, V.int (IntKind.u8) 0,
    V.int (IntKind.u8) 0, V.int (IntKind.u8) 0, V.int (IntKind.u8) 0, V.int (IntKind.u8) 0, V.int (IntKind.u8) 0, V.int (IntKind.u8) 0, V.int (IntKind.u8) 0, V.int (IntKind.u8) 0, V.int (IntKind.u8)
    0, V.int (IntKind.u8) 0, V.int (IntKind.u8) 0, V.int (IntKind.u8) 0, V.int (IntKind.u8) 0, V.int (IntKind.u8) 0, V.int (IntKind.u8) 0, V.int (IntKind.u8) 0, V.int (IntKind.u8) 0, V.int
    (IntKind.u8) 0, V.int (IntKind.u8) 0, V.int (IntKind.u8) 0, V.int (IntKind.u8) 0, V.int (IntKind.u8) 0, V.int (IntKind.u8) 0, V.int (IntKind.u8) 0, V.int (IntKind.u8) 0, V.int (IntKind.u8) 0,
    V.int (IntKind.u8) 0], none⟩, ⟨none, AOp.store 32 (Opd.tmp 9) (Opd.tmp 46), none⟩]) (ACode.seq (ACode.region [⟨some 47, AOp.move (Opd.tmp 7), none⟩, ⟨some 48, AOp.sliceArr 32 1 (Opd.tmp 9) none
    none none, none⟩, ⟨some 49, AOp.buildSlice 27 1 [V.nilslice] 2 [(0, 1, Opd.tmp 47), (1, 1, Opd.tmp 48)], none⟩, ⟨some 50, AOp.call (Opd.func 17) [Opd.tmp 49], none⟩, ⟨none, AOp.store 32 (Opd.tmp
    4) (Opd.tmp 50), none⟩]) (ACode.ret))))))
/-- Function 9: kdf.Hmac. -/
def c9 : AFn :=
  ⟨51, [ARes.cells 4 32], ACode.seq (ACode.region [⟨some 4, AOp.box 25 1 [V.int (IntKind.u8) 0, V.int (IntKind.u8) 0, V.int (IntKind.u8) 0, V.int (IntKind.u8) 0, V.int (IntKind.u8) 0, V.int
    (IntKind.u8) 0, V.int (IntKind.u8) 0, V.int (IntKind.u8) 0, V.int (IntKind.u8) 0, V.int (IntKind.u8) 0, V.int (IntKind.u8) 0, V.int (IntKind.u8) 0, V.int (IntKind.u8) 0, V.int (IntKind.u8) 0,
    V.int (IntKind.u8) 0, V.int (IntKind.u8) 0, V.int (IntKind.u8) 0, V.int (IntKind.u8) 0, V.int (IntKind.u8) 0, V.int (IntKind.u8) 0, V.int (IntKind.u8) 0, V.int (IntKind.u8) 0, V.int (IntKind.u8)
    0, V.int (IntKind.u8) 0, V.int (IntKind.u8) 0, V.int (IntKind.u8) 0, V.int (IntKind.u8) 0, V.int (IntKind.u8) 0, V.int (IntKind.u8) 0, V.int (IntKind.u8) 0, V.int (IntKind.u8) 0, V.int
    (IntKind.u8) 0], none⟩]) (ACode.seq (ACode.seq (ACode.region [⟨some 10, AOp.move (Opd.tmp 0), none⟩, ⟨some 11, AOp.lenL (Opd.tmp 10), none⟩, ⟨some 12, AOp.bin (BinOp.gtr) (Opd.tmp 11) (Opd.const
    (V.int (IntKind.i64) 64)), none⟩]) (ACode.cond (Opd.tmp 12) (ACode.seq (ACode.region [⟨some 13, AOp.move (Opd.tmp 0), none⟩, ⟨some 14, AOp.buildSlice 27 1 [V.nilslice] 1 [(0, 1, Opd.tmp 13)],
    none⟩, ⟨some 15, AOp.call (Opd.func 17) [Opd.tmp 14], none⟩, ⟨some 5, AOp.box 25 1 [V.int (IntKind.u8) 0, V.int (IntKind.u8) 0, V.int (IntKind.u8) 0, V.int (IntKind.u8) 0, V.int (IntKind.u8) 0,
    V.int (IntKind.u8) 0, V.int (IntKind.u8) 0, V.int (IntKind.u8) 0, V.int (IntKind.u8) 0, V.int (IntKind.u8) 0, V.int (IntKind.u8) 0, V.int (IntKind.u8) 0, V.int (IntKind.u8) 0, V.int (IntKind.u8)
    0, V.int (IntKind.u8) 0, V.int (IntKind.u8) 0, V.int (IntKind.u8) 0, V.int (IntKind.u8) 0, V.int (IntKind.u8) 0, V.int (IntKind.u8) 0, V.int (IntKind.u8) 0, V.int (IntKind.u8) 0, V.int
    (IntKind.u8) 0, V.int (IntKind.u8) 0, V.int (IntKind.u8) 0, V.int (IntKind.u8) 0, V.int (IntKind.u8) 0, V.int (IntKind.u8) 0, V.int (IntKind.u8) 0, V.int (IntKind.u8) 0, V.int (IntKind.u8) 0,
    V.int (IntKind.u8) 0], none⟩, ⟨none, AOp.store 32 (Opd.tmp 5) (Opd.tmp 15), none⟩]) (ACode.region [⟨some 16, AOp.sliceArr 32 1 (Opd.tmp 5) none none none, none⟩, ⟨some 0, AOp.move (Opd.tmp 16),
    none⟩])) (ACode.skip))) c9_s2)⟩
theorem h9 : compFn Tryd.prog Tryd.f9 = some c9 := by kernel_rfl
/-- A loop of function 13. -/
def c13_l0 : ACode :=
  ACode.seq (ACode.seq (ACode.region [⟨some 24, AOp.move (Opd.tmp 8), none⟩, ⟨some 25, AOp.bin (BinOp.lss) (Opd.tmp 24) (Opd.const (V.int (IntKind.i64) 64)), none⟩]) (ACode.cond (Opd.tmp 25)
    (ACode.skip) (ACode.exit 0))) (ACode.seq (ACode.block 1 (ACode.seq (ACode.region [⟨some 28, AOp.move (Opd.tmp 6), none⟩, ⟨some 29, AOp.move (Opd.tmp 8), none⟩, ⟨some 30, AOp.move (Opd.tmp 6),
    none⟩, ⟨some 31, AOp.move (Opd.tmp 8), none⟩, ⟨some 32, AOp.indexAddrS 1 (Opd.tmp 30) (Opd.tmp 31), none⟩, ⟨some 33, AOp.load (Opd.tmp 32), none⟩, ⟨some 34, AOp.bin (BinOp.xor) (Opd.tmp 33)
    (Opd.const (V.int (IntKind.u8) 54)), none⟩, ⟨some 35, AOp.indexAddrS 1 (Opd.tmp 28) (Opd.tmp 29), none⟩, ⟨none, AOp.store 1 (Opd.tmp 35) (Opd.tmp 34), none⟩]) (ACode.region [⟨some 36, AOp.move
    (Opd.tmp 7), none⟩, ⟨some 37, AOp.move (Opd.tmp 8), none⟩, ⟨some 38, AOp.move (Opd.tmp 7), none⟩, ⟨some 39, AOp.move (Opd.tmp 8), none⟩, ⟨some 40, AOp.indexAddrS 1 (Opd.tmp 38) (Opd.tmp 39),
    none⟩, ⟨some 41, AOp.load (Opd.tmp 40), none⟩, ⟨some 42, AOp.bin (BinOp.xor) (Opd.tmp 41) (Opd.const (V.int (IntKind.u8) 92)), none⟩, ⟨some 43, AOp.indexAddrS 1 (Opd.tmp 36) (Opd.tmp 37), none⟩,
    ⟨none, AOp.store 1 (Opd.tmp 43) (Opd.tmp 42), none⟩]))) (ACode.region [⟨some 26, AOp.move (Opd.tmp 8), none⟩, ⟨some 27, AOp.bin (BinOp.add) (Opd.tmp 26) (Opd.const (V.int (IntKind.i64) 1)), none⟩,
    ⟨some 8, AOp.move (Opd.tmp 27), none⟩]))
theorem c13_l0_wr : c13_l0.wr = [24, 25, 28, 29, 30, 31, 32, 33, 34, 35, 36, 37, 38, 39, 40, 41, 42, 43, 26, 27, 8] := by kernel_rfl
/-- What follows in function 13. -/
def c13_s2 : ACode :=
  ACode.seq (ACode.region [⟨some 16, AOp.makeSlice 5 1 1 [V.int (IntKind.u8) 0] (Opd.const (V.int (IntKind.i64) 64)) (Opd.const (V.int (IntKind.i64) 64)), none⟩, ⟨some 6, AOp.move (Opd.tmp 16),
    none⟩]) (ACode.seq (ACode.region [⟨some 17, AOp.makeSlice 5 1 1 [V.int (IntKind.u8) 0] (Opd.const (V.int (IntKind.i64) 64)) (Opd.const (V.int (IntKind.i64) 64)), none⟩, ⟨some 7, AOp.move (Opd.tmp
    17), none⟩]) (ACode.seq (ACode.region [⟨some 18, AOp.move (Opd.tmp 6), none⟩, ⟨some 19, AOp.move (Opd.tmp 0), none⟩, ⟨some 20, AOp.copy 1 (Opd.tmp 18) (Opd.tmp 19), none⟩]) (ACode.seq
    (ACode.region [⟨some 21, AOp.move (Opd.tmp 7), none⟩, ⟨some 22, AOp.move (Opd.tmp 0), none⟩, ⟨some 23, AOp.copy 1 (Opd.tmp 21) (Opd.tmp 22), none⟩]) (ACode.seq (ACode.seq (ACode.region [⟨some 8,
    AOp.move (Opd.const (V.int (IntKind.i64) 0)), none⟩]) (ACode.block 0 (ACode.loop c13_l0))) (ACode.seq (ACode.region [⟨some 44, AOp.move (Opd.tmp 6), none⟩, ⟨some 45, AOp.move (Opd.tmp 1), none⟩,
    ⟨some 46, AOp.append 5 1 1 (Opd.tmp 44) (Opd.tmp 45), none⟩, ⟨some 47, AOp.call (Opd.func 18) [Opd.tmp 46], none⟩, ⟨some 9, AOp.box 25 1 [V.int (IntKind.u8) 0, V.int (IntKind.u8) 0, V.int
    (IntKind.u8) 0, V.int (IntKind.u8) 0, V.int (IntKind.u8) 0, V.int (IntKind.u8) 0, V.int (IntKind.u8) 0, V.int (IntKind.u8) 0, V.int (IntKind.u8) 0, V.int (IntKind.u8) 0, V.int (IntKind.u8) 0,
    V.int (IntKind.u8) 0, V.int (IntKind.u8) 0, V.int (IntKind.u8) 0, V.int (IntKind.u8) 0, V.int (IntKind.u8) 0, V.int (IntKind.u8) 0, V.int (IntKind.u8) 0, V.int (IntKind.u8) 0, V.int (IntKind.u8)
    0, V.int (IntKind.u8) 0, V.int (IntKind.u8) 0, V.int (IntKind.u8) 0, V.int (IntKind.u8) 0, V.int (IntKind.u8) 0, V.int (IntKind.u8) 0, V.int (IntKind.u8) 0, V.int (IntKind.u8) 0, V.int
    (IntKind.u8) 0, V.int (IntKind.u8) 0, V.int (IntKind.u8) 0, V.int (IntKind.u8) 0], none⟩, ⟨none, AOp.store 32 (Opd.tmp 9) (Opd.tmp 47), none⟩]) (ACode.seq (ACode.region [⟨some 48, AOp.move
    (Opd.tmp 7), none⟩, ⟨some 49, AOp.sliceArr 32 1 (Opd.tmp 9) none none none, none⟩, ⟨some 50, AOp.append 5 1 1 (Opd.tmp 48) (Opd.tmp 49), none⟩, ⟨some 51, AOp.call (Opd.func 18) [Opd.tmp 50],
    none⟩, ⟨none, AOp.store 32 (Opd.tmp 4) (Opd.tmp 51), none⟩]) (ACode.ret)))))))
/-- Function 13: portholeref4.Hmac. -/
def c13 : AFn :=
  ⟨52, [ARes.cells 4 32], ACode.seq (ACode.region [⟨some 4, AOp.box 25 1 [V.int (IntKind.u8) 0, V.int (IntKind.u8) 0, V.int (IntKind.u8) 0, V.int (IntKind.u8) 0, V.int (IntKind.u8) 0, V.int
    (IntKind.u8) 0, V.int (IntKind.u8) 0, V.int (IntKind.u8) 0, V.int (IntKind.u8) 0, V.int (IntKind.u8) 0, V.int (IntKind.u8) 0, V.int (IntKind.u8) 0, V.int (IntKind.u8) 0, V.int (IntKind.u8) 0,
    V.int (IntKind.u8) 0, V.int (IntKind.u8) 0, V.int (IntKind.u8) 0, V.int (IntKind.u8) 0, V.int (IntKind.u8) 0, V.int (IntKind.u8) 0, V.int (IntKind.u8) 0, V.int (IntKind.u8) 0, V.int (IntKind.u8)
    0, V.int (IntKind.u8) 0, V.int (IntKind.u8) 0, V.int (IntKind.u8) 0, V.int (IntKind.u8) 0, V.int (IntKind.u8) 0, V.int (IntKind.u8) 0, V.int (IntKind.u8) 0, V.int (IntKind.u8) 0, V.int
    (IntKind.u8) 0], none⟩]) (ACode.seq (ACode.seq (ACode.region [⟨some 10, AOp.move (Opd.tmp 0), none⟩, ⟨some 11, AOp.lenL (Opd.tmp 10), none⟩, ⟨some 12, AOp.bin (BinOp.gtr) (Opd.tmp 11) (Opd.const
    (V.int (IntKind.i64) 64)), none⟩]) (ACode.cond (Opd.tmp 12) (ACode.seq (ACode.region [⟨some 13, AOp.move (Opd.tmp 0), none⟩, ⟨some 14, AOp.call (Opd.func 18) [Opd.tmp 13], none⟩, ⟨some 5, AOp.box
    25 1 [V.int (IntKind.u8) 0, V.int (IntKind.u8) 0, V.int (IntKind.u8) 0, V.int (IntKind.u8) 0, V.int (IntKind.u8) 0, V.int (IntKind.u8) 0, V.int (IntKind.u8) 0, V.int (IntKind.u8) 0, V.int
    (IntKind.u8) 0, V.int (IntKind.u8) 0, V.int (IntKind.u8) 0, V.int (IntKind.u8) 0, V.int (IntKind.u8) 0, V.int (IntKind.u8) 0, V.int (IntKind.u8) 0, V.int (IntKind.u8) 0, V.int (IntKind.u8) 0,
    V.int (IntKind.u8) 0, V.int (IntKind.u8) 0, V.int (IntKind.u8) 0, V.int (IntKind.u8) 0, V.int (IntKind.u8) 0, V.int (IntKind.u8) 0, V.int (IntKind.u8) 0, V.int (IntKind.u8) 0, V.int (IntKind.u8)
    0, V.int (IntKind.u8) 0, V.int (IntKind.u8) 0, V.int (IntKind.u8) 0, V.int (IntKind.u8) 0, V.int (IntKind.u8) 0, V.int (IntKind.u8) 0], none⟩, ⟨none, AOp.store 32 (Opd.tmp 5) (Opd.tmp 14), none⟩])
    (ACode.region [⟨some 15, AOp.sliceArr 32 1 (Opd.tmp 5) none none none, none⟩, ⟨some 0, AOp.move (Opd.tmp 15), none⟩])) (ACode.skip))) c13_s2)⟩
theorem h13 : compFn Tryd.prog Tryd.f13 = some c13 := by kernel_rfl
/-- Function 14: portholeref4.Derive. -/
def c14 : AFn :=
  ⟨46, [ARes.tmp 6], ACode.seq (ACode.region [⟨some 3, AOp.boxv 25 1 (Opd.tmp 0), none⟩, ⟨some 6, AOp.move (Opd.const (V.nilslice)), none⟩]) (ACode.seq (ACode.seq (ACode.region [⟨some 11, AOp.move
    (Opd.tmp 2), none⟩, ⟨some 12, AOp.bin (BinOp.neq) (Opd.tmp 11) (Opd.const (V.int (IntKind.i64) 2)), none⟩, ⟨some 13, AOp.move (Opd.tmp 12), none⟩, ⟨some 14, AOp.move (Opd.tmp 2), some (13, true)⟩,
    ⟨some 15, AOp.bin (BinOp.neq) (Opd.tmp 14) (Opd.const (V.int (IntKind.i64) 3)), some (13, true)⟩, ⟨some 16, AOp.pick (Opd.tmp 13) (Opd.tmp 15) (Opd.const (V.bool false)), none⟩]) (ACode.cond
    (Opd.tmp 16) (ACode.seq (ACode.region [⟨some 6, AOp.move (Opd.const (V.nilslice)), none⟩]) (ACode.ret)) (ACode.skip))) (ACode.seq (ACode.region [⟨some 17, AOp.sliceArr 32 1 (Opd.tmp 3) none none
    none, none⟩, ⟨some 18, AOp.move (Opd.tmp 1), none⟩, ⟨some 19, AOp.call (Opd.func 13) [Opd.tmp 17, Opd.tmp 18], none⟩, ⟨some 7, AOp.box 25 1 [V.int (IntKind.u8) 0, V.int (IntKind.u8) 0, V.int
    (IntKind.u8) 0, V.int (IntKind.u8) 0, V.int (IntKind.u8) 0, V.int (IntKind.u8) 0, V.int (IntKind.u8) 0, V.int (IntKind.u8) 0, V.int (IntKind.u8) 0, V.int (IntKind.u8) 0, V.int (IntKind.u8) 0,
    V.int (IntKind.u8) 0, V.int (IntKind.u8) 0, V.int (IntKind.u8) 0, V.int (IntKind.u8) 0, V.int (IntKind.u8) 0, V.int (IntKind.u8) 0, V.int (IntKind.u8) 0, V.int (IntKind.u8) 0, V.int (IntKind.u8)
    0, V.int (IntKind.u8) 0, V.int (IntKind.u8) 0, V.int (IntKind.u8) 0, V.int (IntKind.u8) 0, V.int (IntKind.u8) 0, V.int (IntKind.u8) 0, V.int (IntKind.u8) 0, V.int (IntKind.u8) 0, V.int
    (IntKind.u8) 0, V.int (IntKind.u8) 0, V.int (IntKind.u8) 0, V.int (IntKind.u8) 0], none⟩, ⟨none, AOp.store 32 (Opd.tmp 7) (Opd.tmp 19), none⟩]) (ACode.seq (ACode.region [⟨some 20, AOp.sliceArr 32
    1 (Opd.tmp 7) none none none, none⟩, ⟨some 21, AOp.buildSlice 5 1 [V.int (IntKind.u8) 0] 1 [(0, 1, Opd.const (V.int (IntKind.u8) 1))], none⟩, ⟨some 22, AOp.call (Opd.func 13) [Opd.tmp 20, Opd.tmp
    21], none⟩, ⟨some 8, AOp.box 25 1 [V.int (IntKind.u8) 0, V.int (IntKind.u8) 0, V.int (IntKind.u8) 0, V.int (IntKind.u8) 0, V.int (IntKind.u8) 0, V.int (IntKind.u8) 0, V.int (IntKind.u8) 0, V.int
    (IntKind.u8) 0, V.int (IntKind.u8) 0, V.int (IntKind.u8) 0, V.int (IntKind.u8) 0, V.int (IntKind.u8) 0, V.int (IntKind.u8) 0, V.int (IntKind.u8) 0, V.int (IntKind.u8) 0, V.int (IntKind.u8) 0,
    V.int (IntKind.u8) 0, V.int (IntKind.u8) 0, V.int (IntKind.u8) 0, V.int (IntKind.u8) 0, V.int (IntKind.u8) 0, V.int (IntKind.u8) 0, V.int (IntKind.u8) 0, V.int (IntKind.u8) 0, V.int (IntKind.u8)
    0, V.int (IntKind.u8) 0, V.int (IntKind.u8) 0, V.int (IntKind.u8) 0, V.int (IntKind.u8) 0, V.int (IntKind.u8) 0, V.int (IntKind.u8) 0, V.int (IntKind.u8) 0], none⟩, ⟨none, AOp.store 32 (Opd.tmp 8)
    (Opd.tmp 22), none⟩]) (ACode.seq (ACode.floatRegion [⟨some 23, AOp.sliceArr 32 1 (Opd.tmp 7) none none none, none⟩, ⟨some 24, AOp.float 0 (AOp.buildSlice 5 1 [V.int (IntKind.u8) 0] 0 []), none⟩,
    ⟨some 25, AOp.sliceArr 32 1 (Opd.tmp 8) none none none, none⟩, ⟨some 26, AOp.append 5 1 1 (Opd.tmp 24) (Opd.tmp 25), none⟩, ⟨some 27, AOp.float 0 (AOp.buildSlice 5 1 [V.int (IntKind.u8) 0] 1 [(0,
    1, Opd.const (V.int (IntKind.u8) 2))]), none⟩, ⟨some 28, AOp.append 5 1 1 (Opd.tmp 26) (Opd.tmp 27), none⟩, ⟨some 29, AOp.call (Opd.func 13) [Opd.tmp 23, Opd.tmp 28], none⟩, ⟨some 9, AOp.float 0
    (AOp.box 25 1 [V.int (IntKind.u8) 0, V.int (IntKind.u8) 0, V.int (IntKind.u8) 0, V.int (IntKind.u8) 0, V.int (IntKind.u8) 0, V.int (IntKind.u8) 0, V.int (IntKind.u8) 0, V.int (IntKind.u8) 0, V.int
    (IntKind.u8) 0, V.int (IntKind.u8) 0, V.int (IntKind.u8) 0, V.int (IntKind.u8) 0, V.int (IntKind.u8) 0, V.int (IntKind.u8) 0, V.int (IntKind.u8) 0, V.int (IntKind.u8) 0, V.int (IntKind.u8) 0,
    V.int (IntKind.u8) 0, V.int (IntKind.u8) 0, V.int (IntKind.u8) 0, V.int (IntKind.u8) 0, V.int (IntKind.u8) 0, V.int (IntKind.u8) 0, V.int (IntKind.u8) 0, V.int (IntKind.u8) 0, V.int (IntKind.u8)
    0, V.int (IntKind.u8) 0, V.int (IntKind.u8) 0, V.int (IntKind.u8) 0, V.int (IntKind.u8) 0, V.int (IntKind.u8) 0, V.int (IntKind.u8) 0]), none⟩, ⟨none, AOp.store 32 (Opd.tmp 9) (Opd.tmp 29), none⟩]
    [[], [], [], [1], [], [4], [], [], [7], []] []) (ACode.seq (ACode.region [⟨some 30, AOp.loadn 32 (Opd.tmp 8), none⟩, ⟨some 31, AOp.loadn 32 (Opd.tmp 9), none⟩, ⟨some 32, AOp.buildSlice 25 32
    [V.int (IntKind.u8) 0, V.int (IntKind.u8) 0, V.int (IntKind.u8) 0, V.int (IntKind.u8) 0, V.int (IntKind.u8) 0, V.int (IntKind.u8) 0, V.int (IntKind.u8) 0, V.int (IntKind.u8) 0, V.int (IntKind.u8)
    0, V.int (IntKind.u8) 0, V.int (IntKind.u8) 0, V.int (IntKind.u8) 0, V.int (IntKind.u8) 0, V.int (IntKind.u8) 0, V.int (IntKind.u8) 0, V.int (IntKind.u8) 0, V.int (IntKind.u8) 0, V.int
    (IntKind.u8) 0, V.int (IntKind.u8) 0, V.int (IntKind.u8) 0, V.int (IntKind.u8) 0, V.int (IntKind.u8) 0, V.int (IntKind.u8) 0, V.int (IntKind.u8) 0, V.int (IntKind.u8) 0, V.int (IntKind.u8) 0,
    V.int (IntKind.u8) 0, V.int (IntKind.u8) 0, V.int (IntKind.u8) 0, V.int (IntKind.u8) 0, V.int (IntKind.u8) 0, V.int (IntKind.u8) 0] 2 [(0, 32, Opd.tmp 30), (32, 32, Opd.tmp 31)], none⟩, ⟨some 10,
    AOp.move (Opd.tmp 32), none⟩]) (ACode.seq (ACode.seq (ACode.region [⟨some 33, AOp.move (Opd.tmp 2), none⟩, ⟨some 34, AOp.bin (BinOp.eql) (Opd.tmp 33) (Opd.const (V.int (IntKind.i64) 3)), none⟩])
    (ACode.cond (Opd.tmp 34) (ACode.floatRegion [⟨some 35, AOp.move (Opd.tmp 10), none⟩, ⟨some 36, AOp.sliceArr 32 1 (Opd.tmp 7) none none none, none⟩, ⟨some 37, AOp.float 0 (AOp.buildSlice 5 1 [V.int
    (IntKind.u8) 0] 0 []), none⟩, ⟨some 38, AOp.sliceArr 32 1 (Opd.tmp 9) none none none, none⟩, ⟨some 39, AOp.append 5 1 1 (Opd.tmp 37) (Opd.tmp 38), none⟩, ⟨some 40, AOp.float 0 (AOp.buildSlice 5 1
    [V.int (IntKind.u8) 0] 1 [(0, 1, Opd.const (V.int (IntKind.u8) 3))]), none⟩, ⟨some 41, AOp.append 5 1 1 (Opd.tmp 39) (Opd.tmp 40), none⟩, ⟨some 42, AOp.call (Opd.func 13) [Opd.tmp 36, Opd.tmp 41],
    none⟩, ⟨some 43, AOp.buildSlice 25 32 [V.int (IntKind.u8) 0, V.int (IntKind.u8) 0, V.int (IntKind.u8) 0, V.int (IntKind.u8) 0, V.int (IntKind.u8) 0, V.int (IntKind.u8) 0, V.int (IntKind.u8) 0,
    V.int (IntKind.u8) 0, V.int (IntKind.u8) 0, V.int (IntKind.u8) 0, V.int (IntKind.u8) 0, V.int (IntKind.u8) 0, V.int (IntKind.u8) 0, V.int (IntKind.u8) 0, V.int (IntKind.u8) 0, V.int (IntKind.u8)
    0, V.int (IntKind.u8) 0, V.int (IntKind.u8) 0, V.int (IntKind.u8) 0, V.int (IntKind.u8) 0, V.int (IntKind.u8) 0, V.int (IntKind.u8) 0, V.int (IntKind.u8) 0, V.int (IntKind.u8) 0, V.int
    (IntKind.u8) 0, V.int (IntKind.u8) 0, V.int (IntKind.u8) 0, V.int (IntKind.u8) 0, V.int (IntKind.u8) 0, V.int (IntKind.u8) 0, V.int (IntKind.u8) 0, V.int (IntKind.u8) 0] 1 [(0, 32, Opd.tmp 42)],
    none⟩, ⟨some 44, AOp.append 25 32 32 (Opd.tmp 35) (Opd.tmp 43), none⟩, ⟨some 10, AOp.move (Opd.tmp 44), none⟩] [[], [], [], [], [2], [], [5], [], [], [], [], []] []) (ACode.skip))) (ACode.seq
    (ACode.region [⟨some 45, AOp.move (Opd.tmp 10), none⟩, ⟨some 6, AOp.move (Opd.tmp 45), none⟩]) (ACode.ret))))))))⟩
theorem h14 : compFn Tryd.prog Tryd.f14 = some c14 := by kernel_rfl
/-- A loop of function 15. -/
def c15_l0 : ACode :=
  ACode.seq (ACode.seq (ACode.region [⟨some 10, AOp.move (Opd.tmp 5), none⟩, ⟨some 11, AOp.bin (BinOp.lss) (Opd.tmp 10) (Opd.const (V.int (IntKind.i64) 32)), none⟩]) (ACode.cond (Opd.tmp 11)
    (ACode.skip) (ACode.exit 0))) (ACode.seq (ACode.block 1 (ACode.seq (ACode.region [⟨some 14, AOp.move (Opd.tmp 4), none⟩, ⟨some 15, AOp.bin (BinOp.mul) (Opd.tmp 14) (Opd.const (V.int (IntKind.u64)
    6364136223846793005)), none⟩, ⟨some 16, AOp.bin (BinOp.add) (Opd.tmp 15) (Opd.const (V.int (IntKind.u64) 1442695040888963407)), none⟩, ⟨some 4, AOp.move (Opd.tmp 16), none⟩]) (ACode.region [⟨some
    17, AOp.move (Opd.tmp 5), none⟩, ⟨some 18, AOp.move (Opd.tmp 4), none⟩, ⟨some 19, AOp.bin (BinOp.shr) (Opd.tmp 18) (Opd.const (V.int (IntKind.u64) 40)), none⟩, ⟨some 20, AOp.conv (IntKind.u8)
    (Opd.tmp 19), none⟩, ⟨some 21, AOp.indexAddrA 32 1 (Opd.tmp 3) (Opd.tmp 17), none⟩, ⟨none, AOp.store 1 (Opd.tmp 21) (Opd.tmp 20), none⟩]))) (ACode.region [⟨some 12, AOp.move (Opd.tmp 5), none⟩,
    ⟨some 13, AOp.bin (BinOp.add) (Opd.tmp 12) (Opd.const (V.int (IntKind.i64) 1)), none⟩, ⟨some 5, AOp.move (Opd.tmp 13), none⟩]))
theorem c15_l0_wr : c15_l0.wr = [10, 11, 14, 15, 16, 4, 17, 18, 19, 20, 21, 12, 13, 5] := by kernel_rfl
/-- Function 15: portholehand.Secret. -/
def c15 : AFn :=
  ⟨23, [ARes.cells 2 32], ACode.seq (ACode.region [⟨some 2, AOp.box 25 1 [V.int (IntKind.u8) 0, V.int (IntKind.u8) 0, V.int (IntKind.u8) 0, V.int (IntKind.u8) 0, V.int (IntKind.u8) 0, V.int
    (IntKind.u8) 0, V.int (IntKind.u8) 0, V.int (IntKind.u8) 0, V.int (IntKind.u8) 0, V.int (IntKind.u8) 0, V.int (IntKind.u8) 0, V.int (IntKind.u8) 0, V.int (IntKind.u8) 0, V.int (IntKind.u8) 0,
    V.int (IntKind.u8) 0, V.int (IntKind.u8) 0, V.int (IntKind.u8) 0, V.int (IntKind.u8) 0, V.int (IntKind.u8) 0, V.int (IntKind.u8) 0, V.int (IntKind.u8) 0, V.int (IntKind.u8) 0, V.int (IntKind.u8)
    0, V.int (IntKind.u8) 0, V.int (IntKind.u8) 0, V.int (IntKind.u8) 0, V.int (IntKind.u8) 0, V.int (IntKind.u8) 0, V.int (IntKind.u8) 0, V.int (IntKind.u8) 0, V.int (IntKind.u8) 0, V.int
    (IntKind.u8) 0], none⟩]) (ACode.seq (ACode.region [⟨some 3, AOp.box 25 1 [V.int (IntKind.u8) 0, V.int (IntKind.u8) 0, V.int (IntKind.u8) 0, V.int (IntKind.u8) 0, V.int (IntKind.u8) 0, V.int
    (IntKind.u8) 0, V.int (IntKind.u8) 0, V.int (IntKind.u8) 0, V.int (IntKind.u8) 0, V.int (IntKind.u8) 0, V.int (IntKind.u8) 0, V.int (IntKind.u8) 0, V.int (IntKind.u8) 0, V.int (IntKind.u8) 0,
    V.int (IntKind.u8) 0, V.int (IntKind.u8) 0, V.int (IntKind.u8) 0, V.int (IntKind.u8) 0, V.int (IntKind.u8) 0, V.int (IntKind.u8) 0, V.int (IntKind.u8) 0, V.int (IntKind.u8) 0, V.int (IntKind.u8)
    0, V.int (IntKind.u8) 0, V.int (IntKind.u8) 0, V.int (IntKind.u8) 0, V.int (IntKind.u8) 0, V.int (IntKind.u8) 0, V.int (IntKind.u8) 0, V.int (IntKind.u8) 0, V.int (IntKind.u8) 0, V.int
    (IntKind.u8) 0], none⟩]) (ACode.seq (ACode.region [⟨some 6, AOp.move (Opd.tmp 0), none⟩, ⟨some 7, AOp.conv (IntKind.u64) (Opd.tmp 6), none⟩, ⟨some 8, AOp.bin (BinOp.mul) (Opd.tmp 7) (Opd.const
    (V.int (IntKind.u64) 6364136223846793005)), none⟩, ⟨some 9, AOp.bin (BinOp.add) (Opd.tmp 8) (Opd.const (V.int (IntKind.u64) 1442695040888963407)), none⟩, ⟨some 4, AOp.move (Opd.tmp 9), none⟩])
    (ACode.seq (ACode.seq (ACode.region [⟨some 5, AOp.move (Opd.const (V.int (IntKind.i64) 0)), none⟩]) (ACode.block 0 (ACode.loop c15_l0))) (ACode.seq (ACode.region [⟨some 22, AOp.loadn 32 (Opd.tmp
    3), none⟩, ⟨none, AOp.store 32 (Opd.tmp 2) (Opd.tmp 22), none⟩]) (ACode.ret)))))⟩
theorem h15 : compFn Tryd.prog Tryd.f15 = some c15 := by kernel_rfl
/-- A loop of function 16. -/
def c16_l0 : ACode :=
  ACode.seq (ACode.region [⟨some 10, AOp.bin (BinOp.lss) (Opd.tmp 9) (Opd.tmp 8), none⟩]) (ACode.seq (ACode.cond (Opd.tmp 10) (ACode.skip) (ACode.exit 0)) (ACode.seq (ACode.block 1 (ACode.seq
    (ACode.region [⟨some 11, AOp.indexAddrS 1 (Opd.tmp 7) (Opd.tmp 9), none⟩, ⟨some 12, AOp.load (Opd.tmp 11), none⟩, ⟨some 5, AOp.move (Opd.tmp 12), none⟩]) (ACode.region [⟨some 13, AOp.move (Opd.tmp
    3), none⟩, ⟨some 14, AOp.move (Opd.tmp 5), none⟩, ⟨some 15, AOp.append 5 1 1 (Opd.tmp 13) (Opd.tmp 14), none⟩, ⟨some 3, AOp.move (Opd.tmp 15), none⟩]))) (ACode.region [⟨some 16, AOp.bin
    (BinOp.add) (Opd.tmp 9) (Opd.const (V.int (IntKind.i64) 1)), none⟩, ⟨some 9, AOp.move (Opd.tmp 16), none⟩])))
theorem c16_l0_wr : c16_l0.wr = [10, 11, 12, 5, 13, 14, 15, 3, 16, 9] := by kernel_rfl
/-- Function 16: octet.Join. -/
def c16 : AFn :=
  ⟨18, [ARes.tmp 2], ACode.seq (ACode.region [⟨some 2, AOp.move (Opd.const (V.nilslice)), none⟩]) (ACode.seq (ACode.region [⟨some 6, AOp.buildSlice 5 1 [V.int (IntKind.u8) 0] 0 [], none⟩, ⟨some 3,
    AOp.move (Opd.tmp 6), none⟩]) (ACode.seq (ACode.seq (ACode.region [⟨some 7, AOp.move (Opd.tmp 0), none⟩, ⟨some 8, AOp.lenL (Opd.tmp 7), none⟩, ⟨some 9, AOp.move (Opd.const (V.int (IntKind.i64)
    0)), none⟩]) (ACode.block 0 (ACode.loop c16_l0))) (ACode.seq (ACode.region [⟨some 17, AOp.move (Opd.tmp 3), none⟩, ⟨some 2, AOp.move (Opd.tmp 17), none⟩]) (ACode.ret))))⟩
theorem h16 : compFn Tryd.prog Tryd.f16 = some c16 := by kernel_rfl
/-- A loop of function 17. -/
def c17_l0 : ACode :=
  ACode.seq (ACode.region [⟨some 10, AOp.bin (BinOp.lss) (Opd.tmp 9) (Opd.tmp 8), none⟩]) (ACode.seq (ACode.cond (Opd.tmp 10) (ACode.skip) (ACode.exit 0)) (ACode.seq (ACode.block 1 (ACode.seq
    (ACode.region [⟨some 11, AOp.indexAddrS 1 (Opd.tmp 7) (Opd.tmp 9), none⟩, ⟨some 12, AOp.load (Opd.tmp 11), none⟩, ⟨some 5, AOp.move (Opd.tmp 12), none⟩]) (ACode.region [⟨some 13, AOp.move (Opd.tmp
    3), none⟩, ⟨some 14, AOp.move (Opd.tmp 5), none⟩, ⟨some 15, AOp.call (Opd.func 20) [Opd.tmp 13, Opd.tmp 14], none⟩]))) (ACode.region [⟨some 16, AOp.bin (BinOp.add) (Opd.tmp 9) (Opd.const (V.int
    (IntKind.i64) 1)), none⟩, ⟨some 9, AOp.move (Opd.tmp 16), none⟩])))
theorem c17_l0_wr : c17_l0.wr = [10, 11, 12, 5, 13, 14, 15, 16, 9] := by kernel_rfl
/-- Function 17: blake.Sum. -/
def c17 : AFn :=
  ⟨19, [ARes.cells 2 32], ACode.seq (ACode.region [⟨some 2, AOp.box 25 1 [V.int (IntKind.u8) 0, V.int (IntKind.u8) 0, V.int (IntKind.u8) 0, V.int (IntKind.u8) 0, V.int (IntKind.u8) 0, V.int
    (IntKind.u8) 0, V.int (IntKind.u8) 0, V.int (IntKind.u8) 0, V.int (IntKind.u8) 0, V.int (IntKind.u8) 0, V.int (IntKind.u8) 0, V.int (IntKind.u8) 0, V.int (IntKind.u8) 0, V.int (IntKind.u8) 0,
    V.int (IntKind.u8) 0, V.int (IntKind.u8) 0, V.int (IntKind.u8) 0, V.int (IntKind.u8) 0, V.int (IntKind.u8) 0, V.int (IntKind.u8) 0, V.int (IntKind.u8) 0, V.int (IntKind.u8) 0, V.int (IntKind.u8)
    0, V.int (IntKind.u8) 0, V.int (IntKind.u8) 0, V.int (IntKind.u8) 0, V.int (IntKind.u8) 0, V.int (IntKind.u8) 0, V.int (IntKind.u8) 0, V.int (IntKind.u8) 0, V.int (IntKind.u8) 0, V.int
    (IntKind.u8) 0], none⟩]) (ACode.seq (ACode.region [⟨some 6, AOp.call (Opd.func 19) [], none⟩, ⟨some 3, AOp.move (Opd.tmp 6), none⟩]) (ACode.seq (ACode.seq (ACode.region [⟨some 7, AOp.move (Opd.tmp
    0), none⟩, ⟨some 8, AOp.lenL (Opd.tmp 7), none⟩, ⟨some 9, AOp.move (Opd.const (V.int (IntKind.i64) 0)), none⟩]) (ACode.block 0 (ACode.loop c17_l0))) (ACode.seq (ACode.region [⟨some 17, AOp.move
    (Opd.tmp 3), none⟩, ⟨some 18, AOp.call (Opd.func 21) [Opd.tmp 17], none⟩, ⟨none, AOp.store 32 (Opd.tmp 2) (Opd.tmp 18), none⟩]) (ACode.ret))))⟩
theorem h17 : compFn Tryd.prog Tryd.f17 = some c17 := by kernel_rfl
/-- A loop of function 18. -/
def c18_l7 : ACode :=
  ACode.seq (ACode.seq (ACode.region [⟨some 146, AOp.move (Opd.tmp 18), none⟩, ⟨some 147, AOp.bin (BinOp.lss) (Opd.tmp 146) (Opd.const (V.int (IntKind.i64) 4)), none⟩]) (ACode.cond (Opd.tmp 147)
    (ACode.skip) (ACode.exit 14))) (ACode.seq (ACode.block 15 (ACode.region [⟨some 150, AOp.move (Opd.tmp 16), none⟩, ⟨some 151, AOp.bin (BinOp.mul) (Opd.const (V.int (IntKind.i64) 4)) (Opd.tmp 150),
    none⟩, ⟨some 152, AOp.move (Opd.tmp 18), none⟩, ⟨some 153, AOp.bin (BinOp.add) (Opd.tmp 151) (Opd.tmp 152), none⟩, ⟨some 154, AOp.move (Opd.tmp 17), none⟩, ⟨some 155, AOp.move (Opd.tmp 18), none⟩,
    ⟨some 156, AOp.indexAddrS 1 (Opd.tmp 154) (Opd.tmp 155), none⟩, ⟨some 157, AOp.load (Opd.tmp 156), none⟩, ⟨some 158, AOp.indexAddrA 32 1 (Opd.tmp 15) (Opd.tmp 153), none⟩, ⟨none, AOp.store 1
    (Opd.tmp 158) (Opd.tmp 157), none⟩])) (ACode.region [⟨some 148, AOp.move (Opd.tmp 18), none⟩, ⟨some 149, AOp.bin (BinOp.add) (Opd.tmp 148) (Opd.const (V.int (IntKind.i64) 1)), none⟩, ⟨some 18,
    AOp.move (Opd.tmp 149), none⟩]))
theorem c18_l7_wr : c18_l7.wr = [146, 147, 150, 151, 152, 153, 154, 155, 156, 157, 158, 148, 149, 18] := by kernel_rfl
/-- A loop of function 18. -/
def c18_l6 : ACode :=
  ACode.seq (ACode.seq (ACode.region [⟨some 138, AOp.move (Opd.tmp 16), none⟩, ⟨some 139, AOp.bin (BinOp.lss) (Opd.tmp 138) (Opd.const (V.int (IntKind.i64) 8)), none⟩]) (ACode.cond (Opd.tmp 139)
    (ACode.skip) (ACode.exit 12))) (ACode.seq (ACode.block 13 (ACode.seq (ACode.region [⟨some 142, AOp.move (Opd.tmp 16), none⟩, ⟨some 143, AOp.indexAddrA 8 1 (Opd.tmp 3) (Opd.tmp 142), none⟩, ⟨some
    144, AOp.load (Opd.tmp 143), none⟩, ⟨some 145, AOp.call (Opd.func 24) [Opd.tmp 144], none⟩, ⟨some 17, AOp.move (Opd.tmp 145), none⟩]) (ACode.seq (ACode.region [⟨some 18, AOp.move (Opd.const (V.int
    (IntKind.i64) 0)), none⟩]) (ACode.block 14 (ACode.loop c18_l7))))) (ACode.region [⟨some 140, AOp.move (Opd.tmp 16), none⟩, ⟨some 141, AOp.bin (BinOp.add) (Opd.tmp 140) (Opd.const (V.int
    (IntKind.i64) 1)), none⟩, ⟨some 16, AOp.move (Opd.tmp 141), none⟩]))
theorem c18_l6_wr : c18_l6.wr = [138, 139, 142, 143, 144, 145, 17, 18, 146, 147, 150, 151, 152, 153, 154, 155, 156, 157, 158, 148, 149, 18, 140, 141, 16] := by kernel_rfl
/-- A loop of function 18. -/
def c18_l5 : ACode :=
  ACode.seq (ACode.seq (ACode.region [⟨some 119, AOp.move (Opd.tmp 14), none⟩, ⟨some 120, AOp.bin (BinOp.lss) (Opd.tmp 119) (Opd.const (V.int (IntKind.i64) 8)), none⟩]) (ACode.cond (Opd.tmp 120)
    (ACode.skip) (ACode.exit 10))) (ACode.seq (ACode.block 11 (ACode.anyRegion [⟨some 123, AOp.move (Opd.tmp 14), none⟩, ⟨some 124, AOp.move (Opd.tmp 14), none⟩, ⟨some 125, AOp.indexAddrA 8 1 (Opd.tmp
    3) (Opd.tmp 124), none⟩, ⟨some 126, AOp.load (Opd.tmp 125), none⟩, ⟨some 127, AOp.move (Opd.tmp 14), none⟩, ⟨some 128, AOp.indexAddrA 16 1 (Opd.tmp 10) (Opd.tmp 127), none⟩, ⟨some 129, AOp.load
    (Opd.tmp 128), none⟩, ⟨some 130, AOp.bin (BinOp.xor) (Opd.tmp 126) (Opd.tmp 129), none⟩, ⟨some 131, AOp.move (Opd.tmp 14), none⟩, ⟨some 132, AOp.bin (BinOp.add) (Opd.const (V.int (IntKind.i64) 8))
    (Opd.tmp 131), none⟩, ⟨some 133, AOp.indexAddrA 16 1 (Opd.tmp 10) (Opd.tmp 132), none⟩, ⟨some 134, AOp.load (Opd.tmp 133), none⟩, ⟨some 135, AOp.bin (BinOp.xor) (Opd.tmp 130) (Opd.tmp 134), none⟩,
    ⟨some 136, AOp.indexAddrA 8 1 (Opd.tmp 3) (Opd.tmp 123), none⟩, ⟨none, AOp.store 1 (Opd.tmp 136) (Opd.tmp 135), none⟩] [])) (ACode.region [⟨some 121, AOp.move (Opd.tmp 14), none⟩, ⟨some 122,
    AOp.bin (BinOp.add) (Opd.tmp 121) (Opd.const (V.int (IntKind.i64) 1)), none⟩, ⟨some 14, AOp.move (Opd.tmp 122), none⟩]))
theorem c18_l5_wr : c18_l5.wr = [119, 120, 123, 124, 125, 126, 127, 128, 129, 130, 131, 132, 133, 134, 135, 136, 121, 122, 14] := by kernel_rfl
/-- A loop of function 18. -/
def c18_l4 : ACode :=
  ACode.seq (ACode.seq (ACode.region [⟨some 94, AOp.move (Opd.tmp 13), none⟩, ⟨some 95, AOp.bin (BinOp.lss) (Opd.tmp 94) (Opd.const (V.int (IntKind.i64) 8)), none⟩]) (ACode.cond (Opd.tmp 95)
    (ACode.skip) (ACode.exit 8))) (ACode.seq (ACode.block 9 (ACode.anyRegion [⟨some 98, AOp.move (Opd.tmp 13), none⟩, ⟨some 99, AOp.indexAddrA 8 4 (Opd.glob 1) (Opd.tmp 98), none⟩, ⟨some 100,
    AOp.loadn 4 (Opd.tmp 99), none⟩, ⟨some 101, AOp.move (Opd.tmp 12), none⟩, ⟨some 102, AOp.move (Opd.tmp 13), none⟩, ⟨some 103, AOp.bin (BinOp.mul) (Opd.const (V.int (IntKind.i64) 2)) (Opd.tmp 102),
    none⟩, ⟨some 104, AOp.indexAddrA 10 16 (Opd.glob 2) (Opd.tmp 101), none⟩, ⟨some 105, AOp.indexAddrA 16 1 (Opd.tmp 104) (Opd.tmp 103), none⟩, ⟨some 106, AOp.load (Opd.tmp 105), none⟩, ⟨some 107,
    AOp.indexAddrA 16 1 (Opd.tmp 8) (Opd.tmp 106), none⟩, ⟨some 108, AOp.load (Opd.tmp 107), none⟩, ⟨some 109, AOp.move (Opd.tmp 12), none⟩, ⟨some 110, AOp.move (Opd.tmp 13), none⟩, ⟨some 111, AOp.bin
    (BinOp.mul) (Opd.const (V.int (IntKind.i64) 2)) (Opd.tmp 110), none⟩, ⟨some 112, AOp.bin (BinOp.add) (Opd.tmp 111) (Opd.const (V.int (IntKind.i64) 1)), none⟩, ⟨some 113, AOp.indexAddrA 10 16
    (Opd.glob 2) (Opd.tmp 109), none⟩, ⟨some 114, AOp.indexAddrA 16 1 (Opd.tmp 113) (Opd.tmp 112), none⟩, ⟨some 115, AOp.load (Opd.tmp 114), none⟩, ⟨some 116, AOp.indexAddrA 16 1 (Opd.tmp 8) (Opd.tmp
    115), none⟩, ⟨some 117, AOp.load (Opd.tmp 116), none⟩, ⟨some 118, AOp.call (Opd.func 23) [Opd.tmp 10, Opd.tmp 100, Opd.tmp 108, Opd.tmp 117], none⟩] [])) (ACode.region [⟨some 96, AOp.move (Opd.tmp
    13), none⟩, ⟨some 97, AOp.bin (BinOp.add) (Opd.tmp 96) (Opd.const (V.int (IntKind.i64) 1)), none⟩, ⟨some 13, AOp.move (Opd.tmp 97), none⟩]))
theorem c18_l4_wr : c18_l4.wr = [94, 95, 98, 99, 100, 101, 102, 103, 104, 105, 106, 107, 108, 109, 110, 111, 112, 113, 114, 115, 116, 117, 118, 96, 97, 13] := by kernel_rfl
/-- A loop of function 18. -/
def c18_l3 : ACode :=
  ACode.seq (ACode.seq (ACode.region [⟨some 90, AOp.move (Opd.tmp 12), none⟩, ⟨some 91, AOp.bin (BinOp.lss) (Opd.tmp 90) (Opd.const (V.int (IntKind.i64) 10)), none⟩]) (ACode.cond (Opd.tmp 91)
    (ACode.skip) (ACode.exit 6))) (ACode.seq (ACode.block 7 (ACode.seq (ACode.region [⟨some 13, AOp.move (Opd.const (V.int (IntKind.i64) 0)), none⟩]) (ACode.block 8 (ACode.loop c18_l4))))
    (ACode.region [⟨some 92, AOp.move (Opd.tmp 12), none⟩, ⟨some 93, AOp.bin (BinOp.add) (Opd.tmp 92) (Opd.const (V.int (IntKind.i64) 1)), none⟩, ⟨some 12, AOp.move (Opd.tmp 93), none⟩]))
theorem c18_l3_wr : c18_l3.wr = [90, 91, 13, 94, 95, 98, 99, 100, 101, 102, 103, 104, 105, 106, 107, 108, 109, 110, 111, 112, 113, 114, 115, 116, 117, 118, 96, 97, 13, 92, 93, 12] := by kernel_rfl
/-- A loop of function 18. -/
def c18_l2 : ACode :=
  ACode.seq (ACode.seq (ACode.region [⟨some 57, AOp.move (Opd.tmp 11), none⟩, ⟨some 58, AOp.bin (BinOp.lss) (Opd.tmp 57) (Opd.const (V.int (IntKind.i64) 8)), none⟩]) (ACode.cond (Opd.tmp 58)
    (ACode.skip) (ACode.exit 4))) (ACode.seq (ACode.block 5 (ACode.seq (ACode.region [⟨some 61, AOp.move (Opd.tmp 11), none⟩, ⟨some 62, AOp.move (Opd.tmp 11), none⟩, ⟨some 63, AOp.indexAddrA 8 1
    (Opd.tmp 3) (Opd.tmp 62), none⟩, ⟨some 64, AOp.load (Opd.tmp 63), none⟩, ⟨some 65, AOp.indexAddrA 16 1 (Opd.tmp 10) (Opd.tmp 61), none⟩, ⟨none, AOp.store 1 (Opd.tmp 65) (Opd.tmp 64), none⟩])
    (ACode.region [⟨some 66, AOp.move (Opd.tmp 11), none⟩, ⟨some 67, AOp.bin (BinOp.add) (Opd.const (V.int (IntKind.i64) 8)) (Opd.tmp 66), none⟩, ⟨some 68, AOp.move (Opd.tmp 11), none⟩, ⟨some 69,
    AOp.indexAddrA 8 1 (Opd.glob 0) (Opd.tmp 68), none⟩, ⟨some 70, AOp.load (Opd.tmp 69), none⟩, ⟨some 71, AOp.indexAddrA 16 1 (Opd.tmp 10) (Opd.tmp 67), none⟩, ⟨none, AOp.store 1 (Opd.tmp 71)
    (Opd.tmp 70), none⟩]))) (ACode.region [⟨some 59, AOp.move (Opd.tmp 11), none⟩, ⟨some 60, AOp.bin (BinOp.add) (Opd.tmp 59) (Opd.const (V.int (IntKind.i64) 1)), none⟩, ⟨some 11, AOp.move (Opd.tmp
    60), none⟩]))
theorem c18_l2_wr : c18_l2.wr = [57, 58, 61, 62, 63, 64, 65, 66, 67, 68, 69, 70, 71, 59, 60, 11] := by kernel_rfl
/-- A loop of function 18. -/
def c18_l1 : ACode :=
  ACode.seq (ACode.seq (ACode.region [⟨some 43, AOp.move (Opd.tmp 9), none⟩, ⟨some 44, AOp.bin (BinOp.lss) (Opd.tmp 43) (Opd.const (V.int (IntKind.i64) 16)), none⟩]) (ACode.cond (Opd.tmp 44)
    (ACode.skip) (ACode.exit 2))) (ACode.seq (ACode.block 3 (ACode.region [⟨some 47, AOp.move (Opd.tmp 9), none⟩, ⟨some 48, AOp.move (Opd.tmp 7), none⟩, ⟨some 49, AOp.move (Opd.tmp 9), none⟩, ⟨some
    50, AOp.bin (BinOp.mul) (Opd.const (V.int (IntKind.i64) 4)) (Opd.tmp 49), none⟩, ⟨some 51, AOp.move (Opd.tmp 9), none⟩, ⟨some 52, AOp.bin (BinOp.mul) (Opd.const (V.int (IntKind.i64) 4)) (Opd.tmp
    51), none⟩, ⟨some 53, AOp.bin (BinOp.add) (Opd.tmp 52) (Opd.const (V.int (IntKind.i64) 4)), none⟩, ⟨some 54, AOp.sliceSl 1 (Opd.tmp 48) (some (Opd.tmp 50)) (some (Opd.tmp 53)) none, none⟩, ⟨some
    55, AOp.call (Opd.func 22) [Opd.tmp 54], none⟩, ⟨some 56, AOp.indexAddrA 16 1 (Opd.tmp 8) (Opd.tmp 47), none⟩, ⟨none, AOp.store 1 (Opd.tmp 56) (Opd.tmp 55), none⟩])) (ACode.region [⟨some 45,
    AOp.move (Opd.tmp 9), none⟩, ⟨some 46, AOp.bin (BinOp.add) (Opd.tmp 45) (Opd.const (V.int (IntKind.i64) 1)), none⟩, ⟨some 9, AOp.move (Opd.tmp 46), none⟩]))
theorem c18_l1_wr : c18_l1.wr = [43, 44, 47, 48, 49, 50, 51, 52, 53, 54, 55, 56, 45, 46, 9] := by kernel_rfl
/-- A loop of function 18. -/
def c18_l0 : ACode :=
  ACode.block 1 (ACode.seq (ACode.region [⟨some 24, AOp.move (Opd.tmp 0), none⟩, ⟨some 25, AOp.lenL (Opd.tmp 24), none⟩, ⟨some 26, AOp.bin (BinOp.leq) (Opd.tmp 25) (Opd.const (V.int (IntKind.i64)
    64)), none⟩, ⟨some 5, AOp.move (Opd.tmp 26), none⟩]) (ACode.seq (ACode.region [⟨some 27, AOp.move (Opd.tmp 0), none⟩, ⟨some 28, AOp.lenL (Opd.tmp 27), none⟩, ⟨some 29, AOp.minmax false [Opd.const
    (V.int (IntKind.i64) 64), Opd.tmp 28], none⟩, ⟨some 6, AOp.move (Opd.tmp 29), none⟩]) (ACode.seq (ACode.region [⟨some 30, AOp.makeSlice 5 1 1 [V.int (IntKind.u8) 0] (Opd.const (V.int (IntKind.i64)
    64)) (Opd.const (V.int (IntKind.i64) 64)), none⟩, ⟨some 7, AOp.move (Opd.tmp 30), none⟩]) (ACode.seq (ACode.region [⟨some 31, AOp.move (Opd.tmp 7), none⟩, ⟨some 32, AOp.move (Opd.tmp 0), none⟩,
    ⟨some 33, AOp.move (Opd.tmp 6), none⟩, ⟨some 34, AOp.sliceSl 1 (Opd.tmp 32) none (some (Opd.tmp 33)) none, none⟩, ⟨some 35, AOp.copy 1 (Opd.tmp 31) (Opd.tmp 34), none⟩]) (ACode.seq (ACode.region
    [⟨some 36, AOp.move (Opd.tmp 0), none⟩, ⟨some 37, AOp.move (Opd.tmp 6), none⟩, ⟨some 38, AOp.sliceSl 1 (Opd.tmp 36) (some (Opd.tmp 37)) none none, none⟩, ⟨some 0, AOp.move (Opd.tmp 38), none⟩])
    (ACode.seq (ACode.region [⟨some 39, AOp.move (Opd.tmp 4), none⟩, ⟨some 40, AOp.move (Opd.tmp 6), none⟩, ⟨some 41, AOp.conv (IntKind.u64) (Opd.tmp 40), none⟩, ⟨some 42, AOp.bin (BinOp.add) (Opd.tmp
    39) (Opd.tmp 41), none⟩, ⟨some 4, AOp.move (Opd.tmp 42), none⟩]) (ACode.seq (ACode.region [⟨some 8, AOp.box 47 1 [V.int (IntKind.u32) 0, V.int (IntKind.u32) 0, V.int (IntKind.u32) 0, V.int
    (IntKind.u32) 0, V.int (IntKind.u32) 0, V.int (IntKind.u32) 0, V.int (IntKind.u32) 0, V.int (IntKind.u32) 0, V.int (IntKind.u32) 0, V.int (IntKind.u32) 0, V.int (IntKind.u32) 0, V.int
    (IntKind.u32) 0, V.int (IntKind.u32) 0, V.int (IntKind.u32) 0, V.int (IntKind.u32) 0, V.int (IntKind.u32) 0], none⟩]) (ACode.seq (ACode.seq (ACode.region [⟨some 9, AOp.move (Opd.const (V.int
    (IntKind.i64) 0)), none⟩]) (ACode.block 2 (ACode.loop c18_l1))) (ACode.seq (ACode.region [⟨some 10, AOp.box 47 1 [V.int (IntKind.u32) 0, V.int (IntKind.u32) 0, V.int (IntKind.u32) 0, V.int
    (IntKind.u32) 0, V.int (IntKind.u32) 0, V.int (IntKind.u32) 0, V.int (IntKind.u32) 0, V.int (IntKind.u32) 0, V.int (IntKind.u32) 0, V.int (IntKind.u32) 0, V.int (IntKind.u32) 0, V.int
    (IntKind.u32) 0, V.int (IntKind.u32) 0, V.int (IntKind.u32) 0, V.int (IntKind.u32) 0, V.int (IntKind.u32) 0], none⟩]) (ACode.seq (ACode.seq (ACode.region [⟨some 11, AOp.move (Opd.const (V.int
    (IntKind.i64) 0)), none⟩]) (ACode.block 4 (ACode.loop c18_l2))) (ACode.seq (ACode.region [⟨some 72, AOp.indexAddrA 16 1 (Opd.tmp 10) (Opd.const (V.int (IntKind.i64) 12)), none⟩, ⟨some 73, AOp.load
    (Opd.tmp 72), none⟩, ⟨some 74, AOp.move (Opd.tmp 4), none⟩, ⟨some 75, AOp.conv (IntKind.u32) (Opd.tmp 74), none⟩, ⟨some 76, AOp.bin (BinOp.xor) (Opd.tmp 73) (Opd.tmp 75), none⟩, ⟨some 77,
    AOp.indexAddrA 16 1 (Opd.tmp 10) (Opd.const (V.int (IntKind.i64) 12)), none⟩, ⟨none, AOp.store 1 (Opd.tmp 77) (Opd.tmp 76), none⟩]) (ACode.seq (ACode.region [⟨some 78, AOp.indexAddrA 16 1 (Opd.tmp
    10) (Opd.const (V.int (IntKind.i64) 13)), none⟩, ⟨some 79, AOp.load (Opd.tmp 78), none⟩, ⟨some 80, AOp.move (Opd.tmp 4), none⟩, ⟨some 81, AOp.bin (BinOp.shr) (Opd.tmp 80) (Opd.const (V.int
    (IntKind.u64) 32)), none⟩, ⟨some 82, AOp.conv (IntKind.u32) (Opd.tmp 81), none⟩, ⟨some 83, AOp.bin (BinOp.xor) (Opd.tmp 79) (Opd.tmp 82), none⟩, ⟨some 84, AOp.indexAddrA 16 1 (Opd.tmp 10)
    (Opd.const (V.int (IntKind.i64) 13)), none⟩, ⟨none, AOp.store 1 (Opd.tmp 84) (Opd.tmp 83), none⟩]) (ACode.seq (ACode.seq (ACode.region [⟨some 85, AOp.move (Opd.tmp 5), none⟩]) (ACode.cond (Opd.tmp
    85) (ACode.region [⟨some 86, AOp.indexAddrA 16 1 (Opd.tmp 10) (Opd.const (V.int (IntKind.i64) 14)), none⟩, ⟨some 87, AOp.load (Opd.tmp 86), none⟩, ⟨some 88, AOp.un (UnOp.xor) (Opd.tmp 87), none⟩,
    ⟨some 89, AOp.indexAddrA 16 1 (Opd.tmp 10) (Opd.const (V.int (IntKind.i64) 14)), none⟩, ⟨none, AOp.store 1 (Opd.tmp 89) (Opd.tmp 88), none⟩]) (ACode.skip))) (ACode.seq (ACode.seq (ACode.region
    [⟨some 12, AOp.move (Opd.const (V.int (IntKind.i64) 0)), none⟩]) (ACode.block 6 (ACode.loop c18_l3))) (ACode.seq (ACode.seq (ACode.region [⟨some 14, AOp.move (Opd.const (V.int (IntKind.i64) 0)),
    none⟩]) (ACode.block 10 (ACode.loop c18_l5))) (ACode.seq (ACode.region [⟨some 137, AOp.move (Opd.tmp 5), none⟩]) (ACode.cond (Opd.tmp 137) (ACode.exit 0) (ACode.skip))))))))))))))))))
theorem c18_l0_wr : c18_l0.wr = [24, 25, 26, 5, 27, 28, 29, 6, 30, 7, 31, 32, 33, 34, 35, 36, 37, 38, 0, 39, 40, 41, 42, 4, 8, 9, 43, 44, 47, 48, 49, 50, 51, 52, 53, 54, 55, 56, 45, 46, 9, 10, 11, 57, 58, 61, 62, 63, 64, 65, 66, 67, 68, 69, 70, 71, 59, 60, 11, 72, 73, 74, 75, 76, 77, 78, 79, 80, 81, 82, 83, 84, 85, 86, 87, 88, 89, 12, 90, 91, 13, 94, 95, 98, 99, 100, 101, 102, 103, 104, 105, 106, 107, 108, 109, 110, 111, 112, 113, 114, 115, 116, 117, 118, 96, 97, 13, 92, 93, 12, 14, 119, 120, 123, 124, 125, 126, 127, 128, 129, 130, 131, 132, 133, 134, 135, 136, 121, 122, 14, 137] := by kernel_rfl
/-- Function 18: portholeref4.Sum. -/
def c18 : AFn :=
  ⟨160, [ARes.cells 2 32], ACode.seq (ACode.region [⟨some 2, AOp.box 25 1 [V.int (IntKind.u8) 0, V.int (IntKind.u8) 0, V.int (IntKind.u8) 0, V.int (IntKind.u8) 0, V.int (IntKind.u8) 0, V.int
    (IntKind.u8) 0, V.int (IntKind.u8) 0, V.int (IntKind.u8) 0, V.int (IntKind.u8) 0, V.int (IntKind.u8) 0, V.int (IntKind.u8) 0, V.int (IntKind.u8) 0, V.int (IntKind.u8) 0, V.int (IntKind.u8) 0,
    V.int (IntKind.u8) 0, V.int (IntKind.u8) 0, V.int (IntKind.u8) 0, V.int (IntKind.u8) 0, V.int (IntKind.u8) 0, V.int (IntKind.u8) 0, V.int (IntKind.u8) 0, V.int (IntKind.u8) 0, V.int (IntKind.u8)
    0, V.int (IntKind.u8) 0, V.int (IntKind.u8) 0, V.int (IntKind.u8) 0, V.int (IntKind.u8) 0, V.int (IntKind.u8) 0, V.int (IntKind.u8) 0, V.int (IntKind.u8) 0, V.int (IntKind.u8) 0, V.int
    (IntKind.u8) 0], none⟩]) (ACode.seq (ACode.region [⟨some 19, AOp.loadn 8 (Opd.glob 0), none⟩, ⟨some 3, AOp.box 46 1 [V.int (IntKind.u32) 0, V.int (IntKind.u32) 0, V.int (IntKind.u32) 0, V.int
    (IntKind.u32) 0, V.int (IntKind.u32) 0, V.int (IntKind.u32) 0, V.int (IntKind.u32) 0, V.int (IntKind.u32) 0], none⟩, ⟨none, AOp.store 8 (Opd.tmp 3) (Opd.tmp 19), none⟩]) (ACode.seq (ACode.region
    [⟨some 20, AOp.indexAddrA 8 1 (Opd.tmp 3) (Opd.const (V.int (IntKind.i64) 0)), none⟩, ⟨some 21, AOp.load (Opd.tmp 20), none⟩, ⟨some 22, AOp.bin (BinOp.xor) (Opd.tmp 21) (Opd.const (V.int
    (IntKind.u32) 16842784)), none⟩, ⟨some 23, AOp.indexAddrA 8 1 (Opd.tmp 3) (Opd.const (V.int (IntKind.i64) 0)), none⟩, ⟨none, AOp.store 1 (Opd.tmp 23) (Opd.tmp 22), none⟩]) (ACode.seq (ACode.region
    [⟨some 4, AOp.move (Opd.const (V.int (IntKind.u64) 0)), none⟩]) (ACode.seq (ACode.block 0 (ACode.loop c18_l0)) (ACode.seq (ACode.region [⟨some 15, AOp.box 25 1 [V.int (IntKind.u8) 0, V.int
    (IntKind.u8) 0, V.int (IntKind.u8) 0, V.int (IntKind.u8) 0, V.int (IntKind.u8) 0, V.int (IntKind.u8) 0, V.int (IntKind.u8) 0, V.int (IntKind.u8) 0, V.int (IntKind.u8) 0, V.int (IntKind.u8) 0,
    V.int (IntKind.u8) 0, V.int (IntKind.u8) 0, V.int (IntKind.u8) 0, V.int (IntKind.u8) 0, V.int (IntKind.u8) 0, V.int (IntKind.u8) 0, V.int (IntKind.u8) 0, V.int (IntKind.u8) 0, V.int (IntKind.u8)
    0, V.int (IntKind.u8) 0, V.int (IntKind.u8) 0, V.int (IntKind.u8) 0, V.int (IntKind.u8) 0, V.int (IntKind.u8) 0, V.int (IntKind.u8) 0, V.int (IntKind.u8) 0, V.int (IntKind.u8) 0, V.int
    (IntKind.u8) 0, V.int (IntKind.u8) 0, V.int (IntKind.u8) 0, V.int (IntKind.u8) 0, V.int (IntKind.u8) 0], none⟩]) (ACode.seq (ACode.seq (ACode.region [⟨some 16, AOp.move (Opd.const (V.int
    (IntKind.i64) 0)), none⟩]) (ACode.block 12 (ACode.loop c18_l6))) (ACode.seq (ACode.region [⟨some 159, AOp.loadn 32 (Opd.tmp 15), none⟩, ⟨none, AOp.store 32 (Opd.tmp 2) (Opd.tmp 159), none⟩])
    (ACode.ret))))))))⟩
theorem h18 : compFn Tryd.prog Tryd.f18 = some c18 := by kernel_rfl
/-- Function 19: blake.New. -/
def c19 : AFn :=
  ⟨15, [ARes.tmp 0], ACode.seq (ACode.region [⟨some 0, AOp.move (Opd.const (V.nilptr)), none⟩]) (ACode.seq (ACode.region [⟨some 2, AOp.call (Opd.func 25) [], none⟩, ⟨some 3, AOp.build [V.int
    (IntKind.u32) 0, V.int (IntKind.u32) 0, V.int (IntKind.u32) 0, V.int (IntKind.u32) 0, V.int (IntKind.u32) 0, V.int (IntKind.u32) 0, V.int (IntKind.u32) 0, V.int (IntKind.u32) 0, V.int
    (IntKind.u64) 0, V.nilslice] [(0, 8, Opd.tmp 2)], none⟩, ⟨some 4, AOp.boxv 58 1 (Opd.tmp 3), none⟩, ⟨some 1, AOp.move (Opd.tmp 4), none⟩]) (ACode.seq (ACode.anyRegion [⟨some 5, AOp.move (Opd.tmp
    1), none⟩, ⟨some 6, AOp.nilCheck (Opd.tmp 5), none⟩, ⟨some 7, AOp.fieldAddr 0 (Opd.tmp 6), none⟩, ⟨some 8, AOp.indexAddrA 8 1 (Opd.tmp 7) (Opd.const (V.int (IntKind.i64) 0)), none⟩, ⟨some 9,
    AOp.load (Opd.tmp 8), none⟩, ⟨some 10, AOp.bin (BinOp.xor) (Opd.tmp 9) (Opd.const (V.int (IntKind.u32) 16842784)), none⟩, ⟨some 11, AOp.nilCheck (Opd.tmp 5), none⟩, ⟨some 12, AOp.fieldAddr 0
    (Opd.tmp 11), none⟩, ⟨some 13, AOp.indexAddrA 8 1 (Opd.tmp 12) (Opd.const (V.int (IntKind.i64) 0)), none⟩, ⟨none, AOp.store 1 (Opd.tmp 13) (Opd.tmp 10), none⟩] []) (ACode.seq (ACode.region [⟨some
    14, AOp.move (Opd.tmp 1), none⟩, ⟨some 0, AOp.move (Opd.tmp 14), none⟩]) (ACode.ret))))⟩
theorem h19 : compFn Tryd.prog Tryd.f19 = some c19 := by kernel_rfl
/-- A loop of function 20. -/
def c20_l0 : ACode :=
  ACode.seq (ACode.seq (ACode.region [⟨some 14, AOp.move (Opd.tmp 0), none⟩, ⟨some 15, AOp.nilCheck (Opd.tmp 14), none⟩, ⟨some 16, AOp.fieldAddr 9 (Opd.tmp 15), none⟩, ⟨some 17, AOp.load (Opd.tmp 16),
    none⟩, ⟨some 18, AOp.lenL (Opd.tmp 17), none⟩, ⟨some 19, AOp.bin (BinOp.gtr) (Opd.tmp 18) (Opd.const (V.int (IntKind.i64) 64)), none⟩]) (ACode.cond (Opd.tmp 19) (ACode.skip) (ACode.exit 0)))
    (ACode.block 1 (ACode.seq (ACode.region [⟨some 20, AOp.move (Opd.tmp 0), none⟩, ⟨some 21, AOp.nilCheck (Opd.tmp 20), none⟩, ⟨some 22, AOp.fieldAddr 8 (Opd.tmp 21), none⟩, ⟨some 23, AOp.load
    (Opd.tmp 22), none⟩, ⟨some 24, AOp.bin (BinOp.add) (Opd.tmp 23) (Opd.const (V.int (IntKind.u64) 64)), none⟩, ⟨some 25, AOp.nilCheck (Opd.tmp 20), none⟩, ⟨some 26, AOp.fieldAddr 8 (Opd.tmp 25),
    none⟩, ⟨none, AOp.store 1 (Opd.tmp 26) (Opd.tmp 24), none⟩]) (ACode.seq (ACode.anyRegion [⟨some 27, AOp.move (Opd.tmp 0), none⟩, ⟨some 28, AOp.move (Opd.tmp 0), none⟩, ⟨some 29, AOp.nilCheck
    (Opd.tmp 28), none⟩, ⟨some 30, AOp.fieldAddr 0 (Opd.tmp 29), none⟩, ⟨some 31, AOp.loadn 8 (Opd.tmp 30), none⟩, ⟨some 32, AOp.move (Opd.tmp 0), none⟩, ⟨some 33, AOp.nilCheck (Opd.tmp 32), none⟩,
    ⟨some 34, AOp.fieldAddr 9 (Opd.tmp 33), none⟩, ⟨some 35, AOp.load (Opd.tmp 34), none⟩, ⟨some 36, AOp.sliceSl 1 (Opd.tmp 35) none (some (Opd.const (V.int (IntKind.i64) 64))) none, none⟩, ⟨some 37,
    AOp.move (Opd.tmp 0), none⟩, ⟨some 38, AOp.nilCheck (Opd.tmp 37), none⟩, ⟨some 39, AOp.fieldAddr 8 (Opd.tmp 38), none⟩, ⟨some 40, AOp.load (Opd.tmp 39), none⟩, ⟨some 41, AOp.call (Opd.func 26)
    [Opd.tmp 31, Opd.tmp 36, Opd.tmp 40, Opd.const (V.bool false)], none⟩, ⟨some 42, AOp.nilCheck (Opd.tmp 27), none⟩, ⟨some 43, AOp.fieldAddr 0 (Opd.tmp 42), none⟩, ⟨none, AOp.store 8 (Opd.tmp 43)
    (Opd.tmp 41), none⟩] []) (ACode.region [⟨some 44, AOp.move (Opd.tmp 0), none⟩, ⟨some 45, AOp.move (Opd.tmp 0), none⟩, ⟨some 46, AOp.nilCheck (Opd.tmp 45), none⟩, ⟨some 47, AOp.fieldAddr 9 (Opd.tmp
    46), none⟩, ⟨some 48, AOp.load (Opd.tmp 47), none⟩, ⟨some 49, AOp.sliceSl 1 (Opd.tmp 48) (some (Opd.const (V.int (IntKind.i64) 64))) none none, none⟩, ⟨some 50, AOp.nilCheck (Opd.tmp 44), none⟩,
    ⟨some 51, AOp.fieldAddr 9 (Opd.tmp 50), none⟩, ⟨none, AOp.store 1 (Opd.tmp 51) (Opd.tmp 49), none⟩]))))
theorem c20_l0_wr : c20_l0.wr = [14, 15, 16, 17, 18, 19, 20, 21, 22, 23, 24, 25, 26, 27, 28, 29, 30, 31, 32, 33, 34, 35, 36, 37, 38, 39, 40, 41, 42, 43, 44, 45, 46, 47, 48, 49, 50, 51] := by kernel_rfl
/-- Function 20: blake.Hash).Write. -/
def c20 : AFn :=
  ⟨52, [], ACode.seq (ACode.region [⟨some 4, AOp.move (Opd.tmp 0), none⟩, ⟨some 5, AOp.move (Opd.tmp 0), none⟩, ⟨some 6, AOp.nilCheck (Opd.tmp 5), none⟩, ⟨some 7, AOp.fieldAddr 9 (Opd.tmp 6), none⟩,
    ⟨some 8, AOp.load (Opd.tmp 7), none⟩, ⟨some 9, AOp.move (Opd.tmp 1), none⟩, ⟨some 10, AOp.buildSlice 27 1 [V.nilslice] 2 [(0, 1, Opd.tmp 8), (1, 1, Opd.tmp 9)], none⟩, ⟨some 11, AOp.call (Opd.func
    16) [Opd.tmp 10], none⟩, ⟨some 12, AOp.nilCheck (Opd.tmp 4), none⟩, ⟨some 13, AOp.fieldAddr 9 (Opd.tmp 12), none⟩, ⟨none, AOp.store 1 (Opd.tmp 13) (Opd.tmp 11), none⟩]) (ACode.block 0 (ACode.loop
    c20_l0))⟩
theorem h20 : compFn Tryd.prog Tryd.f20 = some c20 := by kernel_rfl
/-- A loop of function 21. -/
def c21_l0 : ACode :=
  ACode.seq (ACode.region [⟨some 34, AOp.bin (BinOp.lss) (Opd.tmp 33) (Opd.const (V.int (IntKind.i64) 8)), none⟩]) (ACode.seq (ACode.cond (Opd.tmp 34) (ACode.skip) (ACode.exit 0)) (ACode.seq
    (ACode.block 1 (ACode.seq (ACode.region [⟨some 35, AOp.move (Opd.tmp 33), none⟩, ⟨some 36, AOp.indexA 8 1 false (Opd.tmp 32) (Opd.tmp 33), none⟩, ⟨some 6, AOp.move (Opd.tmp 35), none⟩, ⟨some 7,
    AOp.move (Opd.tmp 36), none⟩]) (ACode.anyRegion [⟨some 37, AOp.move (Opd.tmp 6), none⟩, ⟨some 38, AOp.bin (BinOp.mul) (Opd.const (V.int (IntKind.i64) 4)) (Opd.tmp 37), none⟩, ⟨some 39,
    AOp.sliceArr 32 1 (Opd.tmp 5) (some (Opd.tmp 38)) none none, none⟩, ⟨some 40, AOp.move (Opd.tmp 7), none⟩, ⟨some 41, AOp.call (Opd.func 27) [Opd.tmp 40], none⟩, ⟨some 42, AOp.copy 1 (Opd.tmp 39)
    (Opd.tmp 41), none⟩] []))) (ACode.region [⟨some 43, AOp.bin (BinOp.add) (Opd.tmp 33) (Opd.const (V.int (IntKind.i64) 1)), none⟩, ⟨some 33, AOp.move (Opd.tmp 43), none⟩])))
theorem c21_l0_wr : c21_l0.wr = [34, 35, 36, 6, 7, 37, 38, 39, 40, 41, 42, 43, 33] := by kernel_rfl
/-- Function 21: blake.Hash).Sum. -/
def c21 : AFn :=
  ⟨45, [ARes.cells 2 32], ACode.seq (ACode.region [⟨some 2, AOp.box 25 1 [V.int (IntKind.u8) 0, V.int (IntKind.u8) 0, V.int (IntKind.u8) 0, V.int (IntKind.u8) 0, V.int (IntKind.u8) 0, V.int
    (IntKind.u8) 0, V.int (IntKind.u8) 0, V.int (IntKind.u8) 0, V.int (IntKind.u8) 0, V.int (IntKind.u8) 0, V.int (IntKind.u8) 0, V.int (IntKind.u8) 0, V.int (IntKind.u8) 0, V.int (IntKind.u8) 0,
    V.int (IntKind.u8) 0, V.int (IntKind.u8) 0, V.int (IntKind.u8) 0, V.int (IntKind.u8) 0, V.int (IntKind.u8) 0, V.int (IntKind.u8) 0, V.int (IntKind.u8) 0, V.int (IntKind.u8) 0, V.int (IntKind.u8)
    0, V.int (IntKind.u8) 0, V.int (IntKind.u8) 0, V.int (IntKind.u8) 0, V.int (IntKind.u8) 0, V.int (IntKind.u8) 0, V.int (IntKind.u8) 0, V.int (IntKind.u8) 0, V.int (IntKind.u8) 0, V.int
    (IntKind.u8) 0], none⟩]) (ACode.seq (ACode.region [⟨some 8, AOp.makeSlice 5 1 1 [V.int (IntKind.u8) 0] (Opd.const (V.int (IntKind.i64) 64)) (Opd.const (V.int (IntKind.i64) 64)), none⟩, ⟨some 3,
    AOp.move (Opd.tmp 8), none⟩]) (ACode.seq (ACode.region [⟨some 9, AOp.move (Opd.tmp 3), none⟩, ⟨some 10, AOp.move (Opd.tmp 0), none⟩, ⟨some 11, AOp.nilCheck (Opd.tmp 10), none⟩, ⟨some 12,
    AOp.fieldAddr 9 (Opd.tmp 11), none⟩, ⟨some 13, AOp.load (Opd.tmp 12), none⟩, ⟨some 14, AOp.copy 1 (Opd.tmp 9) (Opd.tmp 13), none⟩]) (ACode.seq (ACode.floatRegion [⟨some 15, AOp.move (Opd.tmp 0),
    none⟩, ⟨some 16, AOp.nilCheck (Opd.tmp 15), none⟩, ⟨some 17, AOp.fieldAddr 0 (Opd.tmp 16), none⟩, ⟨some 18, AOp.loadn 8 (Opd.tmp 17), none⟩, ⟨some 19, AOp.move (Opd.tmp 3), none⟩, ⟨some 20,
    AOp.move (Opd.tmp 0), none⟩, ⟨some 21, AOp.nilCheck (Opd.tmp 20), none⟩, ⟨some 22, AOp.fieldAddr 8 (Opd.tmp 21), none⟩, ⟨some 23, AOp.load (Opd.tmp 22), none⟩, ⟨some 24, AOp.move (Opd.tmp 0),
    none⟩, ⟨some 25, AOp.nilCheck (Opd.tmp 24), none⟩, ⟨some 26, AOp.fieldAddr 9 (Opd.tmp 25), none⟩, ⟨some 27, AOp.load (Opd.tmp 26), none⟩, ⟨some 28, AOp.lenL (Opd.tmp 27), none⟩, ⟨some 29, AOp.conv
    (IntKind.u64) (Opd.tmp 28), none⟩, ⟨some 30, AOp.bin (BinOp.add) (Opd.tmp 23) (Opd.tmp 29), none⟩, ⟨some 31, AOp.call (Opd.func 26) [Opd.tmp 18, Opd.tmp 19, Opd.tmp 30, Opd.const (V.bool true)],
    none⟩, ⟨some 4, AOp.float 0 (AOp.box 46 1 [V.int (IntKind.u32) 0, V.int (IntKind.u32) 0, V.int (IntKind.u32) 0, V.int (IntKind.u32) 0, V.int (IntKind.u32) 0, V.int (IntKind.u32) 0, V.int
    (IntKind.u32) 0, V.int (IntKind.u32) 0]), none⟩, ⟨none, AOp.store 8 (Opd.tmp 4) (Opd.tmp 31), none⟩] [[], [], [], [], [], [], [], [], [], [], [], [], [], [], [], [], [], [], [17], []] [])
    (ACode.seq (ACode.region [⟨some 5, AOp.box 25 1 [V.int (IntKind.u8) 0, V.int (IntKind.u8) 0, V.int (IntKind.u8) 0, V.int (IntKind.u8) 0, V.int (IntKind.u8) 0, V.int (IntKind.u8) 0, V.int
    (IntKind.u8) 0, V.int (IntKind.u8) 0, V.int (IntKind.u8) 0, V.int (IntKind.u8) 0, V.int (IntKind.u8) 0, V.int (IntKind.u8) 0, V.int (IntKind.u8) 0, V.int (IntKind.u8) 0, V.int (IntKind.u8) 0,
    V.int (IntKind.u8) 0, V.int (IntKind.u8) 0, V.int (IntKind.u8) 0, V.int (IntKind.u8) 0, V.int (IntKind.u8) 0, V.int (IntKind.u8) 0, V.int (IntKind.u8) 0, V.int (IntKind.u8) 0, V.int (IntKind.u8)
    0, V.int (IntKind.u8) 0, V.int (IntKind.u8) 0, V.int (IntKind.u8) 0, V.int (IntKind.u8) 0, V.int (IntKind.u8) 0, V.int (IntKind.u8) 0, V.int (IntKind.u8) 0, V.int (IntKind.u8) 0], none⟩])
    (ACode.seq (ACode.seq (ACode.region [⟨some 32, AOp.loadn 8 (Opd.tmp 4), none⟩, ⟨some 33, AOp.move (Opd.const (V.int (IntKind.i64) 0)), none⟩]) (ACode.block 0 (ACode.loop c21_l0))) (ACode.seq
    (ACode.region [⟨some 44, AOp.loadn 32 (Opd.tmp 5), none⟩, ⟨none, AOp.store 32 (Opd.tmp 2) (Opd.tmp 44), none⟩]) (ACode.ret)))))))⟩
theorem h21 : compFn Tryd.prog Tryd.f21 = some c21 := by kernel_rfl
/-- Function 22: portholeref1.Get32. -/
def c22 : AFn :=
  ⟨25, [ARes.tmp 2], ACode.seq (ACode.region [⟨some 2, AOp.move (Opd.const (V.int (IntKind.u32) 0)), none⟩]) (ACode.seq (ACode.anyRegion [⟨some 3, AOp.move (Opd.tmp 0), none⟩, ⟨some 4, AOp.indexAddrS
    1 (Opd.tmp 3) (Opd.const (V.int (IntKind.i64) 0)), none⟩, ⟨some 5, AOp.load (Opd.tmp 4), none⟩, ⟨some 6, AOp.conv (IntKind.u32) (Opd.tmp 5), none⟩, ⟨some 7, AOp.move (Opd.tmp 0), none⟩, ⟨some 8,
    AOp.indexAddrS 1 (Opd.tmp 7) (Opd.const (V.int (IntKind.i64) 1)), none⟩, ⟨some 9, AOp.load (Opd.tmp 8), none⟩, ⟨some 10, AOp.conv (IntKind.u32) (Opd.tmp 9), none⟩, ⟨some 11, AOp.bin (BinOp.shl)
    (Opd.tmp 10) (Opd.const (V.int (IntKind.u64) 8)), none⟩, ⟨some 12, AOp.bin (BinOp.add) (Opd.tmp 6) (Opd.tmp 11), none⟩, ⟨some 13, AOp.move (Opd.tmp 0), none⟩, ⟨some 14, AOp.indexAddrS 1 (Opd.tmp
    13) (Opd.const (V.int (IntKind.i64) 2)), none⟩, ⟨some 15, AOp.load (Opd.tmp 14), none⟩, ⟨some 16, AOp.conv (IntKind.u32) (Opd.tmp 15), none⟩, ⟨some 17, AOp.bin (BinOp.shl) (Opd.tmp 16) (Opd.const
    (V.int (IntKind.u64) 16)), none⟩, ⟨some 18, AOp.bin (BinOp.add) (Opd.tmp 12) (Opd.tmp 17), none⟩, ⟨some 19, AOp.move (Opd.tmp 0), none⟩, ⟨some 20, AOp.indexAddrS 1 (Opd.tmp 19) (Opd.const (V.int
    (IntKind.i64) 3)), none⟩, ⟨some 21, AOp.load (Opd.tmp 20), none⟩, ⟨some 22, AOp.conv (IntKind.u32) (Opd.tmp 21), none⟩, ⟨some 23, AOp.bin (BinOp.shl) (Opd.tmp 22) (Opd.const (V.int (IntKind.u64)
    24)), none⟩, ⟨some 24, AOp.bin (BinOp.add) (Opd.tmp 18) (Opd.tmp 23), none⟩, ⟨some 2, AOp.move (Opd.tmp 24), none⟩] []) (ACode.ret))⟩
theorem h22 : compFn Tryd.prog Tryd.f22 = some c22 := by kernel_rfl
/-- Function 23: portholeref4.mix. -/
def c23 : AFn :=
  ⟨93, [], ACode.seq (ACode.region [⟨some 5, AOp.boxv 51 1 (Opd.tmp 1), none⟩]) (ACode.seq (ACode.anyRegion [⟨some 12, AOp.move (Opd.tmp 0), none⟩, ⟨some 13, AOp.indexAddrA 4 1 (Opd.tmp 5) (Opd.const
    (V.int (IntKind.i64) 0)), none⟩, ⟨some 14, AOp.load (Opd.tmp 13), none⟩, ⟨some 15, AOp.nilCheck (Opd.tmp 12), none⟩, ⟨some 16, AOp.indexAddrA 16 1 (Opd.tmp 15) (Opd.tmp 14), none⟩, ⟨some 17,
    AOp.load (Opd.tmp 16), none⟩, ⟨some 18, AOp.move (Opd.tmp 0), none⟩, ⟨some 19, AOp.indexAddrA 4 1 (Opd.tmp 5) (Opd.const (V.int (IntKind.i64) 1)), none⟩, ⟨some 20, AOp.load (Opd.tmp 19), none⟩,
    ⟨some 21, AOp.nilCheck (Opd.tmp 18), none⟩, ⟨some 22, AOp.indexAddrA 16 1 (Opd.tmp 21) (Opd.tmp 20), none⟩, ⟨some 23, AOp.load (Opd.tmp 22), none⟩, ⟨some 24, AOp.bin (BinOp.add) (Opd.tmp 17)
    (Opd.tmp 23), none⟩, ⟨some 25, AOp.move (Opd.tmp 2), none⟩, ⟨some 26, AOp.bin (BinOp.add) (Opd.tmp 24) (Opd.tmp 25), none⟩, ⟨some 8, AOp.move (Opd.tmp 26), none⟩] []) (ACode.seq (ACode.anyRegion
    [⟨some 27, AOp.move (Opd.tmp 0), none⟩, ⟨some 28, AOp.indexAddrA 4 1 (Opd.tmp 5) (Opd.const (V.int (IntKind.i64) 3)), none⟩, ⟨some 29, AOp.load (Opd.tmp 28), none⟩, ⟨some 30, AOp.nilCheck (Opd.tmp
    27), none⟩, ⟨some 31, AOp.indexAddrA 16 1 (Opd.tmp 30) (Opd.tmp 29), none⟩, ⟨some 32, AOp.load (Opd.tmp 31), none⟩, ⟨some 33, AOp.move (Opd.tmp 8), none⟩, ⟨some 34, AOp.bin (BinOp.xor) (Opd.tmp
    32) (Opd.tmp 33), none⟩, ⟨some 35, AOp.call (Opd.func 28) [Opd.tmp 34, Opd.const (V.int (IntKind.u64) 16)], none⟩, ⟨some 9, AOp.move (Opd.tmp 35), none⟩] []) (ACode.seq (ACode.anyRegion [⟨some 36,
    AOp.move (Opd.tmp 0), none⟩, ⟨some 37, AOp.indexAddrA 4 1 (Opd.tmp 5) (Opd.const (V.int (IntKind.i64) 2)), none⟩, ⟨some 38, AOp.load (Opd.tmp 37), none⟩, ⟨some 39, AOp.nilCheck (Opd.tmp 36),
    none⟩, ⟨some 40, AOp.indexAddrA 16 1 (Opd.tmp 39) (Opd.tmp 38), none⟩, ⟨some 41, AOp.load (Opd.tmp 40), none⟩, ⟨some 42, AOp.move (Opd.tmp 9), none⟩, ⟨some 43, AOp.bin (BinOp.add) (Opd.tmp 41)
    (Opd.tmp 42), none⟩, ⟨some 10, AOp.move (Opd.tmp 43), none⟩] []) (ACode.seq (ACode.anyRegion [⟨some 44, AOp.move (Opd.tmp 0), none⟩, ⟨some 45, AOp.indexAddrA 4 1 (Opd.tmp 5) (Opd.const (V.int
    (IntKind.i64) 1)), none⟩, ⟨some 46, AOp.load (Opd.tmp 45), none⟩, ⟨some 47, AOp.nilCheck (Opd.tmp 44), none⟩, ⟨some 48, AOp.indexAddrA 16 1 (Opd.tmp 47) (Opd.tmp 46), none⟩, ⟨some 49, AOp.load
    (Opd.tmp 48), none⟩, ⟨some 50, AOp.move (Opd.tmp 10), none⟩, ⟨some 51, AOp.bin (BinOp.xor) (Opd.tmp 49) (Opd.tmp 50), none⟩, ⟨some 52, AOp.call (Opd.func 28) [Opd.tmp 51, Opd.const (V.int
    (IntKind.u64) 20)], none⟩, ⟨some 11, AOp.move (Opd.tmp 52), none⟩] []) (ACode.seq (ACode.region [⟨some 53, AOp.move (Opd.tmp 8), none⟩, ⟨some 54, AOp.move (Opd.tmp 11), none⟩, ⟨some 55, AOp.bin
    (BinOp.add) (Opd.tmp 53) (Opd.tmp 54), none⟩, ⟨some 56, AOp.move (Opd.tmp 3), none⟩, ⟨some 57, AOp.bin (BinOp.add) (Opd.tmp 55) (Opd.tmp 56), none⟩, ⟨some 8, AOp.move (Opd.tmp 57), none⟩])
    (ACode.seq (ACode.region [⟨some 58, AOp.move (Opd.tmp 9), none⟩, ⟨some 59, AOp.move (Opd.tmp 8), none⟩, ⟨some 60, AOp.bin (BinOp.xor) (Opd.tmp 58) (Opd.tmp 59), none⟩, ⟨some 61, AOp.call (Opd.func
    28) [Opd.tmp 60, Opd.const (V.int (IntKind.u64) 24)], none⟩, ⟨some 9, AOp.move (Opd.tmp 61), none⟩]) (ACode.seq (ACode.region [⟨some 62, AOp.move (Opd.tmp 10), none⟩, ⟨some 63, AOp.move (Opd.tmp
    9), none⟩, ⟨some 64, AOp.bin (BinOp.add) (Opd.tmp 62) (Opd.tmp 63), none⟩, ⟨some 10, AOp.move (Opd.tmp 64), none⟩]) (ACode.seq (ACode.region [⟨some 65, AOp.move (Opd.tmp 11), none⟩, ⟨some 66,
    AOp.move (Opd.tmp 10), none⟩, ⟨some 67, AOp.bin (BinOp.xor) (Opd.tmp 65) (Opd.tmp 66), none⟩, ⟨some 68, AOp.call (Opd.func 28) [Opd.tmp 67, Opd.const (V.int (IntKind.u64) 25)], none⟩, ⟨some 11,
    AOp.move (Opd.tmp 68), none⟩]) (ACode.seq (ACode.anyRegion [⟨some 69, AOp.move (Opd.tmp 0), none⟩, ⟨some 70, AOp.indexAddrA 4 1 (Opd.tmp 5) (Opd.const (V.int (IntKind.i64) 0)), none⟩, ⟨some 71,
    AOp.load (Opd.tmp 70), none⟩, ⟨some 72, AOp.move (Opd.tmp 8), none⟩, ⟨some 73, AOp.nilCheck (Opd.tmp 69), none⟩, ⟨some 74, AOp.indexAddrA 16 1 (Opd.tmp 73) (Opd.tmp 71), none⟩, ⟨none, AOp.store 1
    (Opd.tmp 74) (Opd.tmp 72), none⟩] []) (ACode.seq (ACode.anyRegion [⟨some 75, AOp.move (Opd.tmp 0), none⟩, ⟨some 76, AOp.indexAddrA 4 1 (Opd.tmp 5) (Opd.const (V.int (IntKind.i64) 1)), none⟩, ⟨some
    77, AOp.load (Opd.tmp 76), none⟩, ⟨some 78, AOp.move (Opd.tmp 11), none⟩, ⟨some 79, AOp.nilCheck (Opd.tmp 75), none⟩, ⟨some 80, AOp.indexAddrA 16 1 (Opd.tmp 79) (Opd.tmp 77), none⟩, ⟨none,
    AOp.store 1 (Opd.tmp 80) (Opd.tmp 78), none⟩] []) (ACode.seq (ACode.anyRegion [⟨some 81, AOp.move (Opd.tmp 0), none⟩, ⟨some 82, AOp.indexAddrA 4 1 (Opd.tmp 5) (Opd.const (V.int (IntKind.i64) 2)),
    none⟩, ⟨some 83, AOp.load (Opd.tmp 82), none⟩, ⟨some 84, AOp.move (Opd.tmp 10), none⟩, ⟨some 85, AOp.nilCheck (Opd.tmp 81), none⟩, ⟨some 86, AOp.indexAddrA 16 1 (Opd.tmp 85) (Opd.tmp 83), none⟩,
    ⟨none, AOp.store 1 (Opd.tmp 86) (Opd.tmp 84), none⟩] []) (ACode.anyRegion [⟨some 87, AOp.move (Opd.tmp 0), none⟩, ⟨some 88, AOp.indexAddrA 4 1 (Opd.tmp 5) (Opd.const (V.int (IntKind.i64) 3)),
    none⟩, ⟨some 89, AOp.load (Opd.tmp 88), none⟩, ⟨some 90, AOp.move (Opd.tmp 9), none⟩, ⟨some 91, AOp.nilCheck (Opd.tmp 87), none⟩, ⟨some 92, AOp.indexAddrA 16 1 (Opd.tmp 91) (Opd.tmp 89), none⟩,
    ⟨none, AOp.store 1 (Opd.tmp 92) (Opd.tmp 90), none⟩] []))))))))))))⟩
theorem h23 : compFn Tryd.prog Tryd.f23 = some c23 := by kernel_rfl
/-- Function 24: portholeref1.Put32. -/
def c24 : AFn :=
  ⟨15, [ARes.tmp 2], ACode.seq (ACode.region [⟨some 2, AOp.move (Opd.const (V.nilslice)), none⟩]) (ACode.seq (ACode.region [⟨some 3, AOp.move (Opd.tmp 0), none⟩, ⟨some 4, AOp.conv (IntKind.u8)
    (Opd.tmp 3), none⟩, ⟨some 5, AOp.move (Opd.tmp 0), none⟩, ⟨some 6, AOp.bin (BinOp.shr) (Opd.tmp 5) (Opd.const (V.int (IntKind.u64) 8)), none⟩, ⟨some 7, AOp.conv (IntKind.u8) (Opd.tmp 6), none⟩,
    ⟨some 8, AOp.move (Opd.tmp 0), none⟩, ⟨some 9, AOp.bin (BinOp.shr) (Opd.tmp 8) (Opd.const (V.int (IntKind.u64) 16)), none⟩, ⟨some 10, AOp.conv (IntKind.u8) (Opd.tmp 9), none⟩, ⟨some 11, AOp.move
    (Opd.tmp 0), none⟩, ⟨some 12, AOp.bin (BinOp.shr) (Opd.tmp 11) (Opd.const (V.int (IntKind.u64) 24)), none⟩, ⟨some 13, AOp.conv (IntKind.u8) (Opd.tmp 12), none⟩, ⟨some 14, AOp.buildSlice 5 1 [V.int
    (IntKind.u8) 0] 4 [(0, 1, Opd.tmp 4), (1, 1, Opd.tmp 7), (2, 1, Opd.tmp 10), (3, 1, Opd.tmp 13)], none⟩, ⟨some 2, AOp.move (Opd.tmp 14), none⟩]) (ACode.ret))⟩
theorem h24 : compFn Tryd.prog Tryd.f24 = some c24 := by kernel_rfl
/-- Function 25: blake.first. -/
def c25 : AFn :=
  ⟨2, [ARes.cells 0 8], ACode.seq (ACode.region [⟨some 0, AOp.box 46 1 [V.int (IntKind.u32) 0, V.int (IntKind.u32) 0, V.int (IntKind.u32) 0, V.int (IntKind.u32) 0, V.int (IntKind.u32) 0, V.int
    (IntKind.u32) 0, V.int (IntKind.u32) 0, V.int (IntKind.u32) 0], none⟩]) (ACode.seq (ACode.region [⟨some 1, AOp.build [V.int (IntKind.u32) 0, V.int (IntKind.u32) 0, V.int (IntKind.u32) 0, V.int
    (IntKind.u32) 0, V.int (IntKind.u32) 0, V.int (IntKind.u32) 0, V.int (IntKind.u32) 0, V.int (IntKind.u32) 0] [(0, 1, Opd.const (V.int (IntKind.u32) 1779033703)), (1, 1, Opd.const (V.int
    (IntKind.u32) 3144134277)), (2, 1, Opd.const (V.int (IntKind.u32) 1013904242)), (3, 1, Opd.const (V.int (IntKind.u32) 2773480762)), (4, 1, Opd.const (V.int (IntKind.u32) 1359893119)), (5, 1,
    Opd.const (V.int (IntKind.u32) 2600822924)), (6, 1, Opd.const (V.int (IntKind.u32) 528734635)), (7, 1, Opd.const (V.int (IntKind.u32) 1541459225))], none⟩, ⟨none, AOp.store 8 (Opd.tmp 0) (Opd.tmp
    1), none⟩]) (ACode.ret))⟩
theorem h25 : compFn Tryd.prog Tryd.f25 = some c25 := by kernel_rfl
/-- A loop of function 26. -/
def c26_l4 : ACode :=
  ACode.seq (ACode.region [⟨some 125, AOp.bin (BinOp.lss) (Opd.tmp 124) (Opd.const (V.int (IntKind.i64) 8)), none⟩]) (ACode.seq (ACode.cond (Opd.tmp 125) (ACode.skip) (ACode.exit 8)) (ACode.seq
    (ACode.block 9 (ACode.seq (ACode.region [⟨some 126, AOp.move (Opd.tmp 124), none⟩, ⟨some 18, AOp.move (Opd.tmp 126), none⟩]) (ACode.anyRegion [⟨some 127, AOp.move (Opd.tmp 18), none⟩, ⟨some 128,
    AOp.indexAddrA 8 1 (Opd.tmp 4) (Opd.tmp 127), none⟩, ⟨some 129, AOp.load (Opd.tmp 128), none⟩, ⟨some 130, AOp.move (Opd.tmp 18), none⟩, ⟨some 131, AOp.indexAddrA 16 1 (Opd.tmp 10) (Opd.tmp 130),
    none⟩, ⟨some 132, AOp.load (Opd.tmp 131), none⟩, ⟨some 133, AOp.move (Opd.tmp 18), none⟩, ⟨some 134, AOp.bin (BinOp.add) (Opd.tmp 133) (Opd.const (V.int (IntKind.i64) 8)), none⟩, ⟨some 135,
    AOp.indexAddrA 16 1 (Opd.tmp 10) (Opd.tmp 134), none⟩, ⟨some 136, AOp.load (Opd.tmp 135), none⟩, ⟨some 137, AOp.bin (BinOp.xor) (Opd.tmp 132) (Opd.tmp 136), none⟩, ⟨some 138, AOp.bin (BinOp.xor)
    (Opd.tmp 129) (Opd.tmp 137), none⟩, ⟨some 139, AOp.indexAddrA 8 1 (Opd.tmp 4) (Opd.tmp 127), none⟩, ⟨none, AOp.store 1 (Opd.tmp 139) (Opd.tmp 138), none⟩] []))) (ACode.region [⟨some 140, AOp.bin
    (BinOp.add) (Opd.tmp 124) (Opd.const (V.int (IntKind.i64) 1)), none⟩, ⟨some 124, AOp.move (Opd.tmp 140), none⟩])))
theorem c26_l4_wr : c26_l4.wr = [125, 126, 18, 127, 128, 129, 130, 131, 132, 133, 134, 135, 136, 137, 138, 139, 140, 124] := by kernel_rfl
/-- A loop of function 26. -/
def c26_l3 : ACode :=
  ACode.seq (ACode.region [⟨some 91, AOp.bin (BinOp.lss) (Opd.tmp 90) (Opd.const (V.int (IntKind.i64) 4)), none⟩]) (ACode.seq (ACode.cond (Opd.tmp 91) (ACode.skip) (ACode.exit 6)) (ACode.seq
    (ACode.block 7 (ACode.seq (ACode.region [⟨some 92, AOp.move (Opd.tmp 90), none⟩, ⟨some 17, AOp.move (Opd.tmp 92), none⟩]) (ACode.anyRegion [⟨some 93, AOp.move (Opd.tmp 13), none⟩, ⟨some 94,
    AOp.move (Opd.tmp 17), none⟩, ⟨some 95, AOp.move (Opd.tmp 17), none⟩, ⟨some 96, AOp.bin (BinOp.add) (Opd.tmp 95) (Opd.const (V.int (IntKind.i64) 1)), none⟩, ⟨some 97, AOp.bin (BinOp.rem) (Opd.tmp
    96) (Opd.const (V.int (IntKind.i64) 4)), none⟩, ⟨some 98, AOp.bin (BinOp.add) (Opd.const (V.int (IntKind.i64) 4)) (Opd.tmp 97), none⟩, ⟨some 99, AOp.move (Opd.tmp 17), none⟩, ⟨some 100, AOp.bin
    (BinOp.add) (Opd.tmp 99) (Opd.const (V.int (IntKind.i64) 2)), none⟩, ⟨some 101, AOp.bin (BinOp.rem) (Opd.tmp 100) (Opd.const (V.int (IntKind.i64) 4)), none⟩, ⟨some 102, AOp.bin (BinOp.add)
    (Opd.const (V.int (IntKind.i64) 8)) (Opd.tmp 101), none⟩, ⟨some 103, AOp.move (Opd.tmp 17), none⟩, ⟨some 104, AOp.bin (BinOp.add) (Opd.tmp 103) (Opd.const (V.int (IntKind.i64) 3)), none⟩, ⟨some
    105, AOp.bin (BinOp.rem) (Opd.tmp 104) (Opd.const (V.int (IntKind.i64) 4)), none⟩, ⟨some 106, AOp.bin (BinOp.add) (Opd.const (V.int (IntKind.i64) 12)) (Opd.tmp 105), none⟩, ⟨some 107, AOp.move
    (Opd.tmp 17), none⟩, ⟨some 108, AOp.bin (BinOp.mul) (Opd.const (V.int (IntKind.i64) 2)) (Opd.tmp 107), none⟩, ⟨some 109, AOp.bin (BinOp.add) (Opd.const (V.int (IntKind.i64) 8)) (Opd.tmp 108),
    none⟩, ⟨some 110, AOp.indexAddrA 16 1 (Opd.tmp 15) (Opd.tmp 109), none⟩, ⟨some 111, AOp.load (Opd.tmp 110), none⟩, ⟨some 112, AOp.indexAddrA 16 1 (Opd.tmp 9) (Opd.tmp 111), none⟩, ⟨some 113,
    AOp.load (Opd.tmp 112), none⟩, ⟨some 114, AOp.move (Opd.tmp 17), none⟩, ⟨some 115, AOp.bin (BinOp.mul) (Opd.const (V.int (IntKind.i64) 2)) (Opd.tmp 114), none⟩, ⟨some 116, AOp.bin (BinOp.add)
    (Opd.const (V.int (IntKind.i64) 9)) (Opd.tmp 115), none⟩, ⟨some 117, AOp.indexAddrA 16 1 (Opd.tmp 15) (Opd.tmp 116), none⟩, ⟨some 118, AOp.load (Opd.tmp 117), none⟩, ⟨some 119, AOp.indexAddrA 16 1
    (Opd.tmp 9) (Opd.tmp 118), none⟩, ⟨some 120, AOp.load (Opd.tmp 119), none⟩, ⟨some 121, AOp.call (Opd.tmp 93) [Opd.tmp 94, Opd.tmp 98, Opd.tmp 102, Opd.tmp 106, Opd.tmp 113, Opd.tmp 120], none⟩]
    []))) (ACode.region [⟨some 122, AOp.bin (BinOp.add) (Opd.tmp 90) (Opd.const (V.int (IntKind.i64) 1)), none⟩, ⟨some 90, AOp.move (Opd.tmp 122), none⟩])))
theorem c26_l3_wr : c26_l3.wr = [91, 92, 17, 93, 94, 95, 96, 97, 98, 99, 100, 101, 102, 103, 104, 105, 106, 107, 108, 109, 110, 111, 112, 113, 114, 115, 116, 117, 118, 119, 120, 121, 122, 90] := by kernel_rfl
/-- A loop of function 26. -/
def c26_l2 : ACode :=
  ACode.seq (ACode.region [⟨some 65, AOp.bin (BinOp.lss) (Opd.tmp 64) (Opd.const (V.int (IntKind.i64) 4)), none⟩]) (ACode.seq (ACode.cond (Opd.tmp 65) (ACode.skip) (ACode.exit 4)) (ACode.seq
    (ACode.block 5 (ACode.seq (ACode.region [⟨some 66, AOp.move (Opd.tmp 64), none⟩, ⟨some 16, AOp.move (Opd.tmp 66), none⟩]) (ACode.anyRegion [⟨some 67, AOp.move (Opd.tmp 13), none⟩, ⟨some 68,
    AOp.move (Opd.tmp 16), none⟩, ⟨some 69, AOp.move (Opd.tmp 16), none⟩, ⟨some 70, AOp.bin (BinOp.add) (Opd.const (V.int (IntKind.i64) 4)) (Opd.tmp 69), none⟩, ⟨some 71, AOp.move (Opd.tmp 16), none⟩,
    ⟨some 72, AOp.bin (BinOp.add) (Opd.const (V.int (IntKind.i64) 8)) (Opd.tmp 71), none⟩, ⟨some 73, AOp.move (Opd.tmp 16), none⟩, ⟨some 74, AOp.bin (BinOp.add) (Opd.const (V.int (IntKind.i64) 12))
    (Opd.tmp 73), none⟩, ⟨some 75, AOp.move (Opd.tmp 16), none⟩, ⟨some 76, AOp.bin (BinOp.mul) (Opd.const (V.int (IntKind.i64) 2)) (Opd.tmp 75), none⟩, ⟨some 77, AOp.indexAddrA 16 1 (Opd.tmp 15)
    (Opd.tmp 76), none⟩, ⟨some 78, AOp.load (Opd.tmp 77), none⟩, ⟨some 79, AOp.indexAddrA 16 1 (Opd.tmp 9) (Opd.tmp 78), none⟩, ⟨some 80, AOp.load (Opd.tmp 79), none⟩, ⟨some 81, AOp.move (Opd.tmp 16),
    none⟩, ⟨some 82, AOp.bin (BinOp.mul) (Opd.const (V.int (IntKind.i64) 2)) (Opd.tmp 81), none⟩, ⟨some 83, AOp.bin (BinOp.add) (Opd.tmp 82) (Opd.const (V.int (IntKind.i64) 1)), none⟩, ⟨some 84,
    AOp.indexAddrA 16 1 (Opd.tmp 15) (Opd.tmp 83), none⟩, ⟨some 85, AOp.load (Opd.tmp 84), none⟩, ⟨some 86, AOp.indexAddrA 16 1 (Opd.tmp 9) (Opd.tmp 85), none⟩, ⟨some 87, AOp.load (Opd.tmp 86), none⟩,
    ⟨some 88, AOp.call (Opd.tmp 67) [Opd.tmp 68, Opd.tmp 70, Opd.tmp 72, Opd.tmp 74, Opd.tmp 80, Opd.tmp 87], none⟩] []))) (ACode.region [⟨some 89, AOp.bin (BinOp.add) (Opd.tmp 64) (Opd.const (V.int
    (IntKind.i64) 1)), none⟩, ⟨some 64, AOp.move (Opd.tmp 89), none⟩])))
theorem c26_l2_wr : c26_l2.wr = [65, 66, 16, 67, 68, 69, 70, 71, 72, 73, 74, 75, 76, 77, 78, 79, 80, 81, 82, 83, 84, 85, 86, 87, 88, 89, 64] := by kernel_rfl
/-- A loop of function 26. -/
def c26_l1 : ACode :=
  ACode.seq (ACode.region [⟨some 60, AOp.bin (BinOp.lss) (Opd.tmp 59) (Opd.const (V.int (IntKind.i64) 10)), none⟩]) (ACode.seq (ACode.cond (Opd.tmp 60) (ACode.skip) (ACode.exit 2)) (ACode.seq
    (ACode.block 3 (ACode.seq (ACode.region [⟨some 61, AOp.move (Opd.tmp 59), none⟩, ⟨some 14, AOp.move (Opd.tmp 61), none⟩]) (ACode.seq (ACode.region [⟨some 62, AOp.move (Opd.tmp 14), none⟩, ⟨some
    63, AOp.call (Opd.func 32) [Opd.tmp 62], none⟩, ⟨some 15, AOp.box 53 1 [V.int (IntKind.i64) 0, V.int (IntKind.i64) 0, V.int (IntKind.i64) 0, V.int (IntKind.i64) 0, V.int (IntKind.i64) 0, V.int
    (IntKind.i64) 0, V.int (IntKind.i64) 0, V.int (IntKind.i64) 0, V.int (IntKind.i64) 0, V.int (IntKind.i64) 0, V.int (IntKind.i64) 0, V.int (IntKind.i64) 0, V.int (IntKind.i64) 0, V.int
    (IntKind.i64) 0, V.int (IntKind.i64) 0, V.int (IntKind.i64) 0], none⟩, ⟨none, AOp.store 16 (Opd.tmp 15) (Opd.tmp 63), none⟩]) (ACode.seq (ACode.seq (ACode.region [⟨some 64, AOp.move (Opd.const
    (V.int (IntKind.i64) 0)), none⟩]) (ACode.block 4 (ACode.loop c26_l2))) (ACode.seq (ACode.region [⟨some 90, AOp.move (Opd.const (V.int (IntKind.i64) 0)), none⟩]) (ACode.block 6 (ACode.loop
    c26_l3))))))) (ACode.region [⟨some 123, AOp.bin (BinOp.add) (Opd.tmp 59) (Opd.const (V.int (IntKind.i64) 1)), none⟩, ⟨some 59, AOp.move (Opd.tmp 123), none⟩])))
theorem c26_l1_wr : c26_l1.wr = [60, 61, 14, 62, 63, 15, 64, 65, 66, 16, 67, 68, 69, 70, 71, 72, 73, 74, 75, 76, 77, 78, 79, 80, 81, 82, 83, 84, 85, 86, 87, 88, 89, 64, 90, 91, 92, 17, 93, 94, 95, 96, 97, 98, 99, 100, 101, 102, 103, 104, 105, 106, 107, 108, 109, 110, 111, 112, 113, 114, 115, 116, 117, 118, 119, 120, 121, 122, 90, 123, 59] := by kernel_rfl
/-- A loop of function 26. -/
def c26_l0 : ACode :=
  ACode.seq (ACode.region [⟨some 20, AOp.bin (BinOp.lss) (Opd.tmp 19) (Opd.const (V.int (IntKind.i64) 16)), none⟩]) (ACode.seq (ACode.cond (Opd.tmp 20) (ACode.skip) (ACode.exit 0)) (ACode.seq
    (ACode.block 1 (ACode.seq (ACode.region [⟨some 21, AOp.move (Opd.tmp 19), none⟩, ⟨some 11, AOp.move (Opd.tmp 21), none⟩]) (ACode.region [⟨some 23, AOp.move (Opd.tmp 11), none⟩, ⟨some 24, AOp.move
    (Opd.tmp 1), none⟩, ⟨some 25, AOp.move (Opd.tmp 11), none⟩, ⟨some 26, AOp.bin (BinOp.mul) (Opd.const (V.int (IntKind.i64) 4)) (Opd.tmp 25), none⟩, ⟨some 27, AOp.sliceSl 1 (Opd.tmp 24) (some
    (Opd.tmp 26)) none none, none⟩, ⟨some 28, AOp.call (Opd.func 29) [Opd.tmp 27], none⟩, ⟨some 22, AOp.move (Opd.tmp 28), none⟩, ⟨some 29, AOp.extract (Opd.tmp 22) 0, none⟩, ⟨some 30, AOp.extract
    (Opd.tmp 22) 1, none⟩, ⟨some 31, AOp.indexAddrA 16 1 (Opd.tmp 9) (Opd.tmp 23), none⟩, ⟨none, AOp.store 1 (Opd.tmp 31) (Opd.tmp 29), none⟩]))) (ACode.region [⟨some 32, AOp.bin (BinOp.add) (Opd.tmp
    19) (Opd.const (V.int (IntKind.i64) 1)), none⟩, ⟨some 19, AOp.move (Opd.tmp 32), none⟩])))
theorem c26_l0_wr : c26_l0.wr = [20, 21, 11, 23, 24, 25, 26, 27, 28, 22, 29, 30, 31, 32, 19] := by kernel_rfl
/-- What follows in function 26. -/
def c26_s9 : ACode :=
  ACode.seq (ACode.region [⟨some 58, AOp.mkFunc 30 [] [Opd.tmp 10], none⟩, ⟨some 13, AOp.move (Opd.tmp 58), none⟩]) (ACode.seq (ACode.seq (ACode.region [⟨some 59, AOp.move (Opd.const (V.int
    (IntKind.i64) 0)), none⟩]) (ACode.block 2 (ACode.loop c26_l1))) (ACode.seq (ACode.seq (ACode.region [⟨some 124, AOp.move (Opd.const (V.int (IntKind.i64) 0)), none⟩]) (ACode.block 8 (ACode.loop
    c26_l4))) (ACode.seq (ACode.region [⟨some 141, AOp.loadn 8 (Opd.tmp 4), none⟩, ⟨none, AOp.store 8 (Opd.tmp 8) (Opd.tmp 141), none⟩]) (ACode.ret))))
/-- What follows in function 26. -/
def c26_s3 : ACode :=
  ACode.seq (ACode.region [⟨some 33, AOp.call (Opd.func 25) [], none⟩, ⟨some 12, AOp.box 46 1 [V.int (IntKind.u32) 0, V.int (IntKind.u32) 0, V.int (IntKind.u32) 0, V.int (IntKind.u32) 0, V.int
    (IntKind.u32) 0, V.int (IntKind.u32) 0, V.int (IntKind.u32) 0, V.int (IntKind.u32) 0], none⟩, ⟨none, AOp.store 8 (Opd.tmp 12) (Opd.tmp 33), none⟩]) (ACode.seq (ACode.anyRegion [⟨some 34,
    AOp.sliceArr 16 1 (Opd.tmp 10) none none none, none⟩, ⟨some 35, AOp.sliceArr 8 1 (Opd.tmp 4) none none none, none⟩, ⟨some 36, AOp.copy 1 (Opd.tmp 34) (Opd.tmp 35), none⟩] []) (ACode.seq
    (ACode.anyRegion [⟨some 37, AOp.sliceArr 16 1 (Opd.tmp 10) (some (Opd.const (V.int (IntKind.i64) 8))) none none, none⟩, ⟨some 38, AOp.sliceArr 8 1 (Opd.tmp 12) none none none, none⟩, ⟨some 39,
    AOp.copy 1 (Opd.tmp 37) (Opd.tmp 38), none⟩] []) (ACode.seq (ACode.region [⟨some 40, AOp.indexAddrA 16 1 (Opd.tmp 10) (Opd.const (V.int (IntKind.i64) 12)), none⟩, ⟨some 41, AOp.load (Opd.tmp 40),
    none⟩, ⟨some 42, AOp.move (Opd.tmp 2), none⟩, ⟨some 43, AOp.conv (IntKind.u32) (Opd.tmp 42), none⟩, ⟨some 44, AOp.bin (BinOp.xor) (Opd.tmp 41) (Opd.tmp 43), none⟩, ⟨some 45, AOp.indexAddrA 16 1
    (Opd.tmp 10) (Opd.const (V.int (IntKind.i64) 12)), none⟩, ⟨none, AOp.store 1 (Opd.tmp 45) (Opd.tmp 44), none⟩]) (ACode.seq (ACode.region [⟨some 46, AOp.indexAddrA 16 1 (Opd.tmp 10) (Opd.const
    (V.int (IntKind.i64) 13)), none⟩, ⟨some 47, AOp.load (Opd.tmp 46), none⟩, ⟨some 48, AOp.move (Opd.tmp 2), none⟩, ⟨some 49, AOp.bin (BinOp.shr) (Opd.tmp 48) (Opd.const (V.int (IntKind.u64) 32)),
    none⟩, ⟨some 50, AOp.conv (IntKind.u32) (Opd.tmp 49), none⟩, ⟨some 51, AOp.bin (BinOp.xor) (Opd.tmp 47) (Opd.tmp 50), none⟩, ⟨some 52, AOp.indexAddrA 16 1 (Opd.tmp 10) (Opd.const (V.int
    (IntKind.i64) 13)), none⟩, ⟨none, AOp.store 1 (Opd.tmp 52) (Opd.tmp 51), none⟩]) (ACode.seq (ACode.seq (ACode.region [⟨some 53, AOp.move (Opd.tmp 3), none⟩]) (ACode.cond (Opd.tmp 53) (ACode.region
    [⟨some 54, AOp.indexAddrA 16 1 (Opd.tmp 10) (Opd.const (V.int (IntKind.i64) 14)), none⟩, ⟨some 55, AOp.load (Opd.tmp 54), none⟩, ⟨some 56, AOp.un (UnOp.xor) (Opd.tmp 55), none⟩, ⟨some 57,
    AOp.indexAddrA 16 1 (Opd.tmp 10) (Opd.const (V.int (IntKind.i64) 14)), none⟩, ⟨none, AOp.store 1 (Opd.tmp 57) (Opd.tmp 56), none⟩]) (ACode.skip))) c26_s9)))))
/-- Function 26: blake.press. -/
def c26 : AFn :=
  ⟨142, [ARes.cells 8 8], ACode.seq (ACode.region [⟨some 4, AOp.boxv 46 1 (Opd.tmp 0), none⟩, ⟨some 8, AOp.box 46 1 [V.int (IntKind.u32) 0, V.int (IntKind.u32) 0, V.int (IntKind.u32) 0, V.int
    (IntKind.u32) 0, V.int (IntKind.u32) 0, V.int (IntKind.u32) 0, V.int (IntKind.u32) 0, V.int (IntKind.u32) 0], none⟩]) (ACode.seq (ACode.region [⟨some 9, AOp.box 47 1 [V.int (IntKind.u32) 0, V.int
    (IntKind.u32) 0, V.int (IntKind.u32) 0, V.int (IntKind.u32) 0, V.int (IntKind.u32) 0, V.int (IntKind.u32) 0, V.int (IntKind.u32) 0, V.int (IntKind.u32) 0, V.int (IntKind.u32) 0, V.int
    (IntKind.u32) 0, V.int (IntKind.u32) 0, V.int (IntKind.u32) 0, V.int (IntKind.u32) 0, V.int (IntKind.u32) 0, V.int (IntKind.u32) 0, V.int (IntKind.u32) 0], none⟩, ⟨some 10, AOp.box 47 1 [V.int
    (IntKind.u32) 0, V.int (IntKind.u32) 0, V.int (IntKind.u32) 0, V.int (IntKind.u32) 0, V.int (IntKind.u32) 0, V.int (IntKind.u32) 0, V.int (IntKind.u32) 0, V.int (IntKind.u32) 0, V.int
    (IntKind.u32) 0, V.int (IntKind.u32) 0, V.int (IntKind.u32) 0, V.int (IntKind.u32) 0, V.int (IntKind.u32) 0, V.int (IntKind.u32) 0, V.int (IntKind.u32) 0, V.int (IntKind.u32) 0], none⟩])
    (ACode.seq (ACode.seq (ACode.region [⟨some 19, AOp.move (Opd.const (V.int (IntKind.i64) 0)), none⟩]) (ACode.block 0 (ACode.loop c26_l0))) c26_s3))⟩
theorem h26 : compFn Tryd.prog Tryd.f26 = some c26 := by kernel_rfl
/-- Function 27: octet.Put32. -/
def c27 : AFn :=
  ⟨6, [ARes.tmp 2], ACode.seq (ACode.region [⟨some 2, AOp.move (Opd.const (V.nilslice)), none⟩]) (ACode.seq (ACode.region [⟨some 3, AOp.move (Opd.tmp 0), none⟩, ⟨some 4, AOp.conv (IntKind.u64)
    (Opd.tmp 3), none⟩, ⟨some 5, AOp.call (Opd.func 33) [Opd.tmp 4, Opd.const (V.int (IntKind.i64) 4)], none⟩, ⟨some 2, AOp.move (Opd.tmp 5), none⟩]) (ACode.ret))⟩
theorem h27 : compFn Tryd.prog Tryd.f27 = some c27 := by kernel_rfl
/-- Function 28: portholeref4.turn. -/
def c28 : AFn :=
  ⟨13, [ARes.tmp 4], ACode.seq (ACode.region [⟨some 4, AOp.move (Opd.const (V.int (IntKind.u32) 0)), none⟩]) (ACode.seq (ACode.region [⟨some 5, AOp.move (Opd.tmp 0), none⟩, ⟨some 6, AOp.move (Opd.tmp
    1), none⟩, ⟨some 7, AOp.bin (BinOp.shl) (Opd.tmp 5) (Opd.tmp 6), none⟩, ⟨some 8, AOp.move (Opd.tmp 0), none⟩, ⟨some 9, AOp.move (Opd.tmp 1), none⟩, ⟨some 10, AOp.bin (BinOp.sub) (Opd.const (V.int
    (IntKind.u64) 32)) (Opd.tmp 9), none⟩, ⟨some 11, AOp.bin (BinOp.shr) (Opd.tmp 8) (Opd.tmp 10), none⟩, ⟨some 12, AOp.bin (BinOp.or) (Opd.tmp 7) (Opd.tmp 11), none⟩, ⟨some 4, AOp.move (Opd.tmp 12),
    none⟩]) (ACode.ret))⟩
theorem h28 : compFn Tryd.prog Tryd.f28 = some c28 := by kernel_rfl
/-- Function 29: octet.Get32. -/
def c29 : AFn :=
  ⟨14, [ARes.tmp 2, ARes.tmp 3], ACode.seq (ACode.region [⟨some 2, AOp.move (Opd.const (V.int (IntKind.u32) 0)), none⟩, ⟨some 3, AOp.move (Opd.const (V.bool false)), none⟩]) (ACode.seq (ACode.region
    [⟨some 7, AOp.move (Opd.tmp 0), none⟩, ⟨some 8, AOp.call (Opd.func 34) [Opd.tmp 7, Opd.const (V.int (IntKind.i64) 4)], none⟩, ⟨some 6, AOp.move (Opd.tmp 8), none⟩, ⟨some 9, AOp.extract (Opd.tmp 6)
    0, none⟩, ⟨some 10, AOp.extract (Opd.tmp 6) 1, none⟩, ⟨some 4, AOp.move (Opd.tmp 9), none⟩, ⟨some 5, AOp.move (Opd.tmp 10), none⟩]) (ACode.seq (ACode.region [⟨some 11, AOp.move (Opd.tmp 4), none⟩,
    ⟨some 12, AOp.conv (IntKind.u32) (Opd.tmp 11), none⟩, ⟨some 13, AOp.move (Opd.tmp 5), none⟩, ⟨some 2, AOp.move (Opd.tmp 12), none⟩, ⟨some 3, AOp.move (Opd.tmp 13), none⟩]) (ACode.ret)))⟩
theorem h29 : compFn Tryd.prog Tryd.f29 = some c29 := by kernel_rfl
/-- What follows in function 30. -/
def c30_s7 : ACode :=
  ACode.anyRegion [⟨some 79, AOp.move (Opd.tmp 1), none⟩, ⟨some 80, AOp.move (Opd.tmp 1), none⟩, ⟨some 81, AOp.indexAddrA 16 1 (Opd.tmp 6) (Opd.tmp 80), none⟩, ⟨some 82, AOp.load (Opd.tmp 81), none⟩,
    ⟨some 83, AOp.move (Opd.tmp 2), none⟩, ⟨some 84, AOp.indexAddrA 16 1 (Opd.tmp 6) (Opd.tmp 83), none⟩, ⟨some 85, AOp.load (Opd.tmp 84), none⟩, ⟨some 86, AOp.bin (BinOp.xor) (Opd.tmp 82) (Opd.tmp
    85), none⟩, ⟨some 87, AOp.call (Opd.func 31) [Opd.tmp 86, Opd.const (V.int (IntKind.i64) (-7))], none⟩, ⟨some 88, AOp.indexAddrA 16 1 (Opd.tmp 6) (Opd.tmp 79), none⟩, ⟨none, AOp.store 1 (Opd.tmp
    88) (Opd.tmp 87), none⟩] []
/-- What follows in function 30. -/
def c30_s6 : ACode :=
  ACode.seq (ACode.anyRegion [⟨some 71, AOp.move (Opd.tmp 2), none⟩, ⟨some 72, AOp.indexAddrA 16 1 (Opd.tmp 6) (Opd.tmp 71), none⟩, ⟨some 73, AOp.load (Opd.tmp 72), none⟩, ⟨some 74, AOp.move (Opd.tmp
    3), none⟩, ⟨some 75, AOp.indexAddrA 16 1 (Opd.tmp 6) (Opd.tmp 74), none⟩, ⟨some 76, AOp.load (Opd.tmp 75), none⟩, ⟨some 77, AOp.bin (BinOp.add) (Opd.tmp 73) (Opd.tmp 76), none⟩, ⟨some 78,
    AOp.indexAddrA 16 1 (Opd.tmp 6) (Opd.tmp 71), none⟩, ⟨none, AOp.store 1 (Opd.tmp 78) (Opd.tmp 77), none⟩] []) c30_s7
/-- What follows in function 30. -/
def c30_s5 : ACode :=
  ACode.seq (ACode.anyRegion [⟨some 61, AOp.move (Opd.tmp 3), none⟩, ⟨some 62, AOp.move (Opd.tmp 3), none⟩, ⟨some 63, AOp.indexAddrA 16 1 (Opd.tmp 6) (Opd.tmp 62), none⟩, ⟨some 64, AOp.load (Opd.tmp
    63), none⟩, ⟨some 65, AOp.move (Opd.tmp 0), none⟩, ⟨some 66, AOp.indexAddrA 16 1 (Opd.tmp 6) (Opd.tmp 65), none⟩, ⟨some 67, AOp.load (Opd.tmp 66), none⟩, ⟨some 68, AOp.bin (BinOp.xor) (Opd.tmp 64)
    (Opd.tmp 67), none⟩, ⟨some 69, AOp.call (Opd.func 31) [Opd.tmp 68, Opd.const (V.int (IntKind.i64) (-8))], none⟩, ⟨some 70, AOp.indexAddrA 16 1 (Opd.tmp 6) (Opd.tmp 61), none⟩, ⟨none, AOp.store 1
    (Opd.tmp 70) (Opd.tmp 69), none⟩] []) c30_s6
/-- What follows in function 30. -/
def c30_s4 : ACode :=
  ACode.seq (ACode.anyRegion [⟨some 51, AOp.move (Opd.tmp 0), none⟩, ⟨some 52, AOp.indexAddrA 16 1 (Opd.tmp 6) (Opd.tmp 51), none⟩, ⟨some 53, AOp.load (Opd.tmp 52), none⟩, ⟨some 54, AOp.move (Opd.tmp
    1), none⟩, ⟨some 55, AOp.indexAddrA 16 1 (Opd.tmp 6) (Opd.tmp 54), none⟩, ⟨some 56, AOp.load (Opd.tmp 55), none⟩, ⟨some 57, AOp.move (Opd.tmp 5), none⟩, ⟨some 58, AOp.bin (BinOp.add) (Opd.tmp 56)
    (Opd.tmp 57), none⟩, ⟨some 59, AOp.bin (BinOp.add) (Opd.tmp 53) (Opd.tmp 58), none⟩, ⟨some 60, AOp.indexAddrA 16 1 (Opd.tmp 6) (Opd.tmp 51), none⟩, ⟨none, AOp.store 1 (Opd.tmp 60) (Opd.tmp 59),
    none⟩] []) c30_s5
/-- What follows in function 30. -/
def c30_s3 : ACode :=
  ACode.seq (ACode.anyRegion [⟨some 41, AOp.move (Opd.tmp 1), none⟩, ⟨some 42, AOp.move (Opd.tmp 1), none⟩, ⟨some 43, AOp.indexAddrA 16 1 (Opd.tmp 6) (Opd.tmp 42), none⟩, ⟨some 44, AOp.load (Opd.tmp
    43), none⟩, ⟨some 45, AOp.move (Opd.tmp 2), none⟩, ⟨some 46, AOp.indexAddrA 16 1 (Opd.tmp 6) (Opd.tmp 45), none⟩, ⟨some 47, AOp.load (Opd.tmp 46), none⟩, ⟨some 48, AOp.bin (BinOp.xor) (Opd.tmp 44)
    (Opd.tmp 47), none⟩, ⟨some 49, AOp.call (Opd.func 31) [Opd.tmp 48, Opd.const (V.int (IntKind.i64) (-12))], none⟩, ⟨some 50, AOp.indexAddrA 16 1 (Opd.tmp 6) (Opd.tmp 41), none⟩, ⟨none, AOp.store 1
    (Opd.tmp 50) (Opd.tmp 49), none⟩] []) c30_s4
/-- What follows in function 30. -/
def c30_s2 : ACode :=
  ACode.seq (ACode.anyRegion [⟨some 33, AOp.move (Opd.tmp 2), none⟩, ⟨some 34, AOp.indexAddrA 16 1 (Opd.tmp 6) (Opd.tmp 33), none⟩, ⟨some 35, AOp.load (Opd.tmp 34), none⟩, ⟨some 36, AOp.move (Opd.tmp
    3), none⟩, ⟨some 37, AOp.indexAddrA 16 1 (Opd.tmp 6) (Opd.tmp 36), none⟩, ⟨some 38, AOp.load (Opd.tmp 37), none⟩, ⟨some 39, AOp.bin (BinOp.add) (Opd.tmp 35) (Opd.tmp 38), none⟩, ⟨some 40,
    AOp.indexAddrA 16 1 (Opd.tmp 6) (Opd.tmp 33), none⟩, ⟨none, AOp.store 1 (Opd.tmp 40) (Opd.tmp 39), none⟩] []) c30_s3
/-- What follows in function 30. -/
def c30_s1 : ACode :=
  ACode.seq (ACode.anyRegion [⟨some 23, AOp.move (Opd.tmp 3), none⟩, ⟨some 24, AOp.move (Opd.tmp 3), none⟩, ⟨some 25, AOp.indexAddrA 16 1 (Opd.tmp 6) (Opd.tmp 24), none⟩, ⟨some 26, AOp.load (Opd.tmp
    25), none⟩, ⟨some 27, AOp.move (Opd.tmp 0), none⟩, ⟨some 28, AOp.indexAddrA 16 1 (Opd.tmp 6) (Opd.tmp 27), none⟩, ⟨some 29, AOp.load (Opd.tmp 28), none⟩, ⟨some 30, AOp.bin (BinOp.xor) (Opd.tmp 26)
    (Opd.tmp 29), none⟩, ⟨some 31, AOp.call (Opd.func 31) [Opd.tmp 30, Opd.const (V.int (IntKind.i64) (-16))], none⟩, ⟨some 32, AOp.indexAddrA 16 1 (Opd.tmp 6) (Opd.tmp 23), none⟩, ⟨none, AOp.store 1
    (Opd.tmp 32) (Opd.tmp 31), none⟩] []) c30_s2
/-- Function 30: blake.press$1. -/
def c30 : AFn :=
  ⟨89, [], ACode.seq (ACode.anyRegion [⟨some 13, AOp.move (Opd.tmp 0), none⟩, ⟨some 14, AOp.indexAddrA 16 1 (Opd.tmp 6) (Opd.tmp 13), none⟩, ⟨some 15, AOp.load (Opd.tmp 14), none⟩, ⟨some 16, AOp.move
    (Opd.tmp 1), none⟩, ⟨some 17, AOp.indexAddrA 16 1 (Opd.tmp 6) (Opd.tmp 16), none⟩, ⟨some 18, AOp.load (Opd.tmp 17), none⟩, ⟨some 19, AOp.move (Opd.tmp 4), none⟩, ⟨some 20, AOp.bin (BinOp.add)
    (Opd.tmp 18) (Opd.tmp 19), none⟩, ⟨some 21, AOp.bin (BinOp.add) (Opd.tmp 15) (Opd.tmp 20), none⟩, ⟨some 22, AOp.indexAddrA 16 1 (Opd.tmp 6) (Opd.tmp 13), none⟩, ⟨none, AOp.store 1 (Opd.tmp 22)
    (Opd.tmp 21), none⟩] []) c30_s1⟩
theorem h30 : compFn Tryd.prog Tryd.f30 = some c30 := by kernel_rfl
/-- Function 31: bits.RotateLeft32. -/
def c31 : AFn :=
  ⟨17, [ARes.tmp 4], ACode.seq (ACode.region [⟨some 4, AOp.move (Opd.const (V.int (IntKind.u32) 0)), none⟩]) (ACode.seq (ACode.region [⟨some 6, AOp.move (Opd.tmp 1), none⟩, ⟨some 7, AOp.conv
    (IntKind.u64) (Opd.tmp 6), none⟩, ⟨some 8, AOp.bin (BinOp.and) (Opd.tmp 7) (Opd.const (V.int (IntKind.u64) 31)), none⟩, ⟨some 5, AOp.move (Opd.tmp 8), none⟩]) (ACode.seq (ACode.region [⟨some 9,
    AOp.move (Opd.tmp 0), none⟩, ⟨some 10, AOp.move (Opd.tmp 5), none⟩, ⟨some 11, AOp.bin (BinOp.shl) (Opd.tmp 9) (Opd.tmp 10), none⟩, ⟨some 12, AOp.move (Opd.tmp 0), none⟩, ⟨some 13, AOp.move
    (Opd.tmp 5), none⟩, ⟨some 14, AOp.bin (BinOp.sub) (Opd.const (V.int (IntKind.u64) 32)) (Opd.tmp 13), none⟩, ⟨some 15, AOp.bin (BinOp.shr) (Opd.tmp 12) (Opd.tmp 14), none⟩, ⟨some 16, AOp.bin
    (BinOp.or) (Opd.tmp 11) (Opd.tmp 15), none⟩, ⟨some 4, AOp.move (Opd.tmp 16), none⟩]) (ACode.ret)))⟩
theorem h31 : compFn Tryd.prog Tryd.f31 = some c31 := by kernel_rfl
/-- Function 32: blake.sigma. -/
def c32 : AFn :=
  ⟨16, [ARes.cells 2 16], ACode.seq (ACode.region [⟨some 2, AOp.box 53 1 [V.int (IntKind.i64) 0, V.int (IntKind.i64) 0, V.int (IntKind.i64) 0, V.int (IntKind.i64) 0, V.int (IntKind.i64) 0, V.int
    (IntKind.i64) 0, V.int (IntKind.i64) 0, V.int (IntKind.i64) 0, V.int (IntKind.i64) 0, V.int (IntKind.i64) 0, V.int (IntKind.i64) 0, V.int (IntKind.i64) 0, V.int (IntKind.i64) 0, V.int
    (IntKind.i64) 0, V.int (IntKind.i64) 0, V.int (IntKind.i64) 0], none⟩]) (ACode.seq (ACode.region [⟨some 3, AOp.build [V.int (IntKind.i64) 0, V.int (IntKind.i64) 0, V.int (IntKind.i64) 0, V.int
    (IntKind.i64) 0, V.int (IntKind.i64) 0, V.int (IntKind.i64) 0, V.int (IntKind.i64) 0, V.int (IntKind.i64) 0, V.int (IntKind.i64) 0, V.int (IntKind.i64) 0, V.int (IntKind.i64) 0, V.int
    (IntKind.i64) 0, V.int (IntKind.i64) 0, V.int (IntKind.i64) 0, V.int (IntKind.i64) 0, V.int (IntKind.i64) 0] [(0, 1, Opd.const (V.int (IntKind.i64) 0)), (1, 1, Opd.const (V.int (IntKind.i64) 1)),
    (2, 1, Opd.const (V.int (IntKind.i64) 2)), (3, 1, Opd.const (V.int (IntKind.i64) 3)), (4, 1, Opd.const (V.int (IntKind.i64) 4)), (5, 1, Opd.const (V.int (IntKind.i64) 5)), (6, 1, Opd.const (V.int
    (IntKind.i64) 6)), (7, 1, Opd.const (V.int (IntKind.i64) 7)), (8, 1, Opd.const (V.int (IntKind.i64) 8)), (9, 1, Opd.const (V.int (IntKind.i64) 9)), (10, 1, Opd.const (V.int (IntKind.i64) 10)),
    (11, 1, Opd.const (V.int (IntKind.i64) 11)), (12, 1, Opd.const (V.int (IntKind.i64) 12)), (13, 1, Opd.const (V.int (IntKind.i64) 13)), (14, 1, Opd.const (V.int (IntKind.i64) 14)), (15, 1,
    Opd.const (V.int (IntKind.i64) 15))], none⟩, ⟨some 4, AOp.build [V.int (IntKind.i64) 0, V.int (IntKind.i64) 0, V.int (IntKind.i64) 0, V.int (IntKind.i64) 0, V.int (IntKind.i64) 0, V.int
    (IntKind.i64) 0, V.int (IntKind.i64) 0, V.int (IntKind.i64) 0, V.int (IntKind.i64) 0, V.int (IntKind.i64) 0, V.int (IntKind.i64) 0, V.int (IntKind.i64) 0, V.int (IntKind.i64) 0, V.int
    (IntKind.i64) 0, V.int (IntKind.i64) 0, V.int (IntKind.i64) 0] [(0, 1, Opd.const (V.int (IntKind.i64) 14)), (1, 1, Opd.const (V.int (IntKind.i64) 10)), (2, 1, Opd.const (V.int (IntKind.i64) 4)),
    (3, 1, Opd.const (V.int (IntKind.i64) 8)), (4, 1, Opd.const (V.int (IntKind.i64) 9)), (5, 1, Opd.const (V.int (IntKind.i64) 15)), (6, 1, Opd.const (V.int (IntKind.i64) 13)), (7, 1, Opd.const
    (V.int (IntKind.i64) 6)), (8, 1, Opd.const (V.int (IntKind.i64) 1)), (9, 1, Opd.const (V.int (IntKind.i64) 12)), (10, 1, Opd.const (V.int (IntKind.i64) 0)), (11, 1, Opd.const (V.int (IntKind.i64)
    2)), (12, 1, Opd.const (V.int (IntKind.i64) 11)), (13, 1, Opd.const (V.int (IntKind.i64) 7)), (14, 1, Opd.const (V.int (IntKind.i64) 5)), (15, 1, Opd.const (V.int (IntKind.i64) 3))], none⟩, ⟨some
    5, AOp.build [V.int (IntKind.i64) 0, V.int (IntKind.i64) 0, V.int (IntKind.i64) 0, V.int (IntKind.i64) 0, V.int (IntKind.i64) 0, V.int (IntKind.i64) 0, V.int (IntKind.i64) 0, V.int (IntKind.i64)
    0, V.int (IntKind.i64) 0, V.int (IntKind.i64) 0, V.int (IntKind.i64) 0, V.int (IntKind.i64) 0, V.int (IntKind.i64) 0, V.int (IntKind.i64) 0, V.int (IntKind.i64) 0, V.int (IntKind.i64) 0] [(0, 1,
    Opd.const (V.int (IntKind.i64) 11)), (1, 1, Opd.const (V.int (IntKind.i64) 8)), (2, 1, Opd.const (V.int (IntKind.i64) 12)), (3, 1, Opd.const (V.int (IntKind.i64) 0)), (4, 1, Opd.const (V.int
    (IntKind.i64) 5)), (5, 1, Opd.const (V.int (IntKind.i64) 2)), (6, 1, Opd.const (V.int (IntKind.i64) 15)), (7, 1, Opd.const (V.int (IntKind.i64) 13)), (8, 1, Opd.const (V.int (IntKind.i64) 10)),
    (9, 1, Opd.const (V.int (IntKind.i64) 14)), (10, 1, Opd.const (V.int (IntKind.i64) 3)), (11, 1, Opd.const (V.int (IntKind.i64) 6)), (12, 1, Opd.const (V.int (IntKind.i64) 7)), (13, 1, Opd.const
    (V.int (IntKind.i64) 1)), (14, 1, Opd.const (V.int (IntKind.i64) 9)), (15, 1, Opd.const (V.int (IntKind.i64) 4))], none⟩, ⟨some 6, AOp.build [V.int (IntKind.i64) 0, V.int (IntKind.i64) 0, V.int
    (IntKind.i64) 0, V.int (IntKind.i64) 0, V.int (IntKind.i64) 0, V.int (IntKind.i64) 0, V.int (IntKind.i64) 0, V.int (IntKind.i64) 0, V.int (IntKind.i64) 0, V.int (IntKind.i64) 0, V.int
    (IntKind.i64) 0, V.int (IntKind.i64) 0, V.int (IntKind.i64) 0, V.int (IntKind.i64) 0, V.int (IntKind.i64) 0, V.int (IntKind.i64) 0] [(0, 1, Opd.const (V.int (IntKind.i64) 7)), (1, 1, Opd.const
    (V.int (IntKind.i64) 9)), (2, 1, Opd.const (V.int (IntKind.i64) 3)), (3, 1, Opd.const (V.int (IntKind.i64) 1)), (4, 1, Opd.const (V.int (IntKind.i64) 13)), (5, 1, Opd.const (V.int (IntKind.i64)
    12)), (6, 1, Opd.const (V.int (IntKind.i64) 11)), (7, 1, Opd.const (V.int (IntKind.i64) 14)), (8, 1, Opd.const (V.int (IntKind.i64) 2)), (9, 1, Opd.const (V.int (IntKind.i64) 6)), (10, 1,
    Opd.const (V.int (IntKind.i64) 5)), (11, 1, Opd.const (V.int (IntKind.i64) 10)), (12, 1, Opd.const (V.int (IntKind.i64) 4)), (13, 1, Opd.const (V.int (IntKind.i64) 0)), (14, 1, Opd.const (V.int
    (IntKind.i64) 15)), (15, 1, Opd.const (V.int (IntKind.i64) 8))], none⟩, ⟨some 7, AOp.build [V.int (IntKind.i64) 0, V.int (IntKind.i64) 0, V.int (IntKind.i64) 0, V.int (IntKind.i64) 0, V.int
    (IntKind.i64) 0, V.int (IntKind.i64) 0, V.int (IntKind.i64) 0, V.int (IntKind.i64) 0, V.int (IntKind.i64) 0, V.int (IntKind.i64) 0, V.int (IntKind.i64) 0, V.int (IntKind.i64) 0, V.int
    (IntKind.i64) 0, V.int (IntKind.i64) 0, V.int (IntKind.i64) 0, V.int (IntKind.i64) 0] [(0, 1, Opd.const (V.int (IntKind.i64) 9)), (1, 1, Opd.const (V.int (IntKind.i64) 0)), (2, 1, Opd.const (V.int
    (IntKind.i64) 5)), (3, 1, Opd.const (V.int (IntKind.i64) 7)), (4, 1, Opd.const (V.int (IntKind.i64) 2)), (5, 1, Opd.const (V.int (IntKind.i64) 4)), (6, 1, Opd.const (V.int (IntKind.i64) 10)), (7,
    1, Opd.const (V.int (IntKind.i64) 15)), (8, 1, Opd.const (V.int (IntKind.i64) 14)), (9, 1, Opd.const (V.int (IntKind.i64) 1)), (10, 1, Opd.const (V.int (IntKind.i64) 11)), (11, 1, Opd.const (V.int
    (IntKind.i64) 12)), (12, 1, Opd.const (V.int (IntKind.i64) 6)), (13, 1, Opd.const (V.int (IntKind.i64) 8)), (14, 1, Opd.const (V.int (IntKind.i64) 3)), (15, 1, Opd.const (V.int (IntKind.i64)
    13))], none⟩, ⟨some 8, AOp.build [V.int (IntKind.i64) 0, V.int (IntKind.i64) 0, V.int (IntKind.i64) 0, V.int (IntKind.i64) 0, V.int (IntKind.i64) 0, V.int (IntKind.i64) 0, V.int (IntKind.i64) 0,
    V.int (IntKind.i64) 0, V.int (IntKind.i64) 0, V.int (IntKind.i64) 0, V.int (IntKind.i64) 0, V.int (IntKind.i64) 0, V.int (IntKind.i64) 0, V.int (IntKind.i64) 0, V.int (IntKind.i64) 0, V.int
    (IntKind.i64) 0] [(0, 1, Opd.const (V.int (IntKind.i64) 2)), (1, 1, Opd.const (V.int (IntKind.i64) 12)), (2, 1, Opd.const (V.int (IntKind.i64) 6)), (3, 1, Opd.const (V.int (IntKind.i64) 10)), (4,
    1, Opd.const (V.int (IntKind.i64) 0)), (5, 1, Opd.const (V.int (IntKind.i64) 11)), (6, 1, Opd.const (V.int (IntKind.i64) 8)), (7, 1, Opd.const (V.int (IntKind.i64) 3)), (8, 1, Opd.const (V.int
    (IntKind.i64) 4)), (9, 1, Opd.const (V.int (IntKind.i64) 13)), (10, 1, Opd.const (V.int (IntKind.i64) 7)), (11, 1, Opd.const (V.int (IntKind.i64) 5)), (12, 1, Opd.const (V.int (IntKind.i64) 15)),
    (13, 1, Opd.const (V.int (IntKind.i64) 14)), (14, 1, Opd.const (V.int (IntKind.i64) 1)), (15, 1, Opd.const (V.int (IntKind.i64) 9))], none⟩, ⟨some 9, AOp.build [V.int (IntKind.i64) 0, V.int
    (IntKind.i64) 0, V.int (IntKind.i64) 0, V.int (IntKind.i64) 0, V.int (IntKind.i64) 0, V.int (IntKind.i64) 0, V.int (IntKind.i64) 0, V.int (IntKind.i64) 0, V.int (IntKind.i64) 0, V.int
    (IntKind.i64) 0, V.int (IntKind.i64) 0, V.int (IntKind.i64) 0, V.int (IntKind.i64) 0, V.int (IntKind.i64) 0, V.int (IntKind.i64) 0, V.int (IntKind.i64) 0] [(0, 1, Opd.const (V.int (IntKind.i64)
    12)), (1, 1, Opd.const (V.int (IntKind.i64) 5)), (2, 1, Opd.const (V.int (IntKind.i64) 1)), (3, 1, Opd.const (V.int (IntKind.i64) 15)), (4, 1, Opd.const (V.int (IntKind.i64) 14)), (5, 1, Opd.const
    (V.int (IntKind.i64) 13)), (6, 1, Opd.const (V.int (IntKind.i64) 4)), (7, 1, Opd.const (V.int (IntKind.i64) 10)), (8, 1, Opd.const (V.int (IntKind.i64) 0)), (9, 1, Opd.const (V.int (IntKind.i64)
    7)), (10, 1, Opd.const (V.int (IntKind.i64) 6)), (11, 1, Opd.const (V.int (IntKind.i64) 3)), (12, 1, Opd.const (V.int (IntKind.i64) 9)), (13, 1, Opd.const (V.int (IntKind.i64) 2)), (14, 1,
    Opd.const (V.int (IntKind.i64) 8)), (15, 1, Opd.const (V.int (IntKind.i64) 11))], none⟩, ⟨some 10, AOp.build [V.int (IntKind.i64) 0, V.int (IntKind.i64) 0, V.int (IntKind.i64) 0, V.int
    (IntKind.i64) 0, V.int (IntKind.i64) 0, V.int (IntKind.i64) 0, V.int (IntKind.i64) 0, V.int (IntKind.i64) 0, V.int (IntKind.i64) 0, V.int (IntKind.i64) 0, V.int (IntKind.i64) 0, V.int
    (IntKind.i64) 0, V.int (IntKind.i64) 0, V.int (IntKind.i64) 0, V.int (IntKind.i64) 0, V.int (IntKind.i64) 0] [(0, 1, Opd.const (V.int (IntKind.i64) 13)), (1, 1, Opd.const (V.int (IntKind.i64)
    11)), (2, 1, Opd.const (V.int (IntKind.i64) 7)), (3, 1, Opd.const (V.int (IntKind.i64) 14)), (4, 1, Opd.const (V.int (IntKind.i64) 12)), (5, 1, Opd.const (V.int (IntKind.i64) 1)), (6, 1, Opd.const
    (V.int (IntKind.i64) 3)), (7, 1, Opd.const (V.int (IntKind.i64) 9)), (8, 1, Opd.const (V.int (IntKind.i64) 5)), (9, 1, Opd.const (V.int (IntKind.i64) 0)), (10, 1, Opd.const (V.int (IntKind.i64)
    15)), (11, 1, Opd.const (V.int (IntKind.i64) 4)), (12, 1, Opd.const (V.int (IntKind.i64) 8)), (13, 1, Opd.const (V.int (IntKind.i64) 6)), (14, 1, Opd.const (V.int (IntKind.i64) 2)), (15, 1,
    Opd.const (V.int (IntKind.i64) 10))], none⟩, ⟨some 11, AOp.build [V.int (IntKind.i64) 0, V.int (IntKind.i64) 0, V.int (IntKind.i64) 0, V.int (IntKind.i64) 0, V.int (IntKind.i64) 0, V.int
    (IntKind.i64) 0, V.int (IntKind.i64) 0, V.int (IntKind.i64) 0, V.int (IntKind.i64) 0, V.int (IntKind.i64) 0, V.int (IntKind.i64) 0, V.int (IntKind.i64) 0, V.int (IntKind.i64) 0, V.int
    (IntKind.i64) 0, V.int (IntKind.i64) 0, V.int (IntKind.i64) 0] [(0, 1, Opd.const (V.int (IntKind.i64) 6)), (1, 1, Opd.const (V.int (IntKind.i64) 15)), (2, 1, Opd.const (V.int (IntKind.i64) 14)),
    (3, 1, Opd.const (V.int (IntKind.i64) 9)), (4, 1, Opd.const (V.int (IntKind.i64) 11)), (5, 1, Opd.const (V.int (IntKind.i64) 3)), (6, 1, Opd.const (V.int (IntKind.i64) 0)), (7, 1, Opd.const (V.int
    (IntKind.i64) 8)), (8, 1, Opd.const (V.int (IntKind.i64) 12)), (9, 1, Opd.const (V.int (IntKind.i64) 2)), (10, 1, Opd.const (V.int (IntKind.i64) 13)), (11, 1, Opd.const (V.int (IntKind.i64) 7)),
    (12, 1, Opd.const (V.int (IntKind.i64) 1)), (13, 1, Opd.const (V.int (IntKind.i64) 4)), (14, 1, Opd.const (V.int (IntKind.i64) 10)), (15, 1, Opd.const (V.int (IntKind.i64) 5))], none⟩, ⟨some 12,
    AOp.build [V.int (IntKind.i64) 0, V.int (IntKind.i64) 0, V.int (IntKind.i64) 0, V.int (IntKind.i64) 0, V.int (IntKind.i64) 0, V.int (IntKind.i64) 0, V.int (IntKind.i64) 0, V.int (IntKind.i64) 0,
    V.int (IntKind.i64) 0, V.int (IntKind.i64) 0, V.int (IntKind.i64) 0, V.int (IntKind.i64) 0, V.int (IntKind.i64) 0, V.int (IntKind.i64) 0, V.int (IntKind.i64) 0, V.int (IntKind.i64) 0] [(0, 1,
    Opd.const (V.int (IntKind.i64) 10)), (1, 1, Opd.const (V.int (IntKind.i64) 2)), (2, 1, Opd.const (V.int (IntKind.i64) 8)), (3, 1, Opd.const (V.int (IntKind.i64) 4)), (4, 1, Opd.const (V.int
    (IntKind.i64) 7)), (5, 1, Opd.const (V.int (IntKind.i64) 6)), (6, 1, Opd.const (V.int (IntKind.i64) 1)), (7, 1, Opd.const (V.int (IntKind.i64) 5)), (8, 1, Opd.const (V.int (IntKind.i64) 15)), (9,
    1, Opd.const (V.int (IntKind.i64) 11)), (10, 1, Opd.const (V.int (IntKind.i64) 9)), (11, 1, Opd.const (V.int (IntKind.i64) 14)), (12, 1, Opd.const (V.int (IntKind.i64) 3)), (13, 1, Opd.const
    (V.int (IntKind.i64) 12)), (14, 1, Opd.const (V.int (IntKind.i64) 13)), (15, 1, Opd.const (V.int (IntKind.i64) 0))], none⟩, ⟨some 13, AOp.build [V.int (IntKind.i64) 0, V.int (IntKind.i64) 0, V.int
    (IntKind.i64) 0, V.int (IntKind.i64) 0, V.int (IntKind.i64) 0, V.int (IntKind.i64) 0, V.int (IntKind.i64) 0, V.int (IntKind.i64) 0, V.int (IntKind.i64) 0, V.int (IntKind.i64) 0, V.int
    (IntKind.i64) 0, V.int (IntKind.i64) 0, V.int (IntKind.i64) 0, V.int (IntKind.i64) 0, V.int (IntKind.i64) 0, V.int (IntKind.i64) 0, V.int (IntKind.i64) 0, V.int (IntKind.i64) 0, V.int
    (IntKind.i64) 0, V.int (IntKind.i64) 0, V.int (IntKind.i64) 0, V.int (IntKind.i64) 0, V.int (IntKind.i64) 0, V.int (IntKind.i64) 0, V.int (IntKind.i64) 0, V.int (IntKind.i64) 0, V.int
    (IntKind.i64) 0, V.int (IntKind.i64) 0, V.int (IntKind.i64) 0, V.int (IntKind.i64) 0, V.int (IntKind.i64) 0, V.int (IntKind.i64) 0, V.int (IntKind.i64) 0, V.int (IntKind.i64) 0, V.int
    (IntKind.i64) 0, V.int (IntKind.i64) 0, V.int (IntKind.i64) 0, V.int (IntKind.i64) 0, V.int (IntKind.i64) 0, V.int (IntKind.i64) 0, V.int (IntKind.i64) 0, V.int (IntKind.i64) 0, V.int
    (IntKind.i64) 0, V.int (IntKind.i64) 0, V.int (IntKind.i64) 0, V.int (IntKind.i64) 0, V.int (IntKind.i64) 0, V.int (IntKind.i64) 0, V.int (IntKind.i64) 0, V.int (IntKind.i64) 0, V.int
    (IntKind.i64) 0, V.int (IntKind.i64) 0, V.int (IntKind.i64) 0, V.int (IntKind.i64) 0, V.int (IntKind.i64) 0, V.int (IntKind.i64) 0, V.int (IntKind.i64) 0, V.int (IntKind.i64) 0, V.int
    (IntKind.i64) 0, V.int (IntKind.i64) 0, V.int (IntKind.i64) 0, V.int (IntKind.i64) 0, V.int (IntKind.i64) 0, V.int (IntKind.i64) 0, V.int (IntKind.i64) 0, V.int (IntKind.i64) 0, V.int
    (IntKind.i64) 0, V.int (IntKind.i64) 0, V.int (IntKind.i64) 0, V.int (IntKind.i64) 0, V.int (IntKind.i64) 0, V.int (IntKind.i64) 0, V.int (IntKind.i64) 0, V.int (IntKind.i64) 0, V.int
    (IntKind.i64) 0, V.int (IntKind.i64) 0, V.int (IntKind.i64) 0, V.int (IntKind.i64) 0, V.int (IntKind.i64) 0, V.int (IntKind.i64) 0, V.int (IntKind.i64) 0, V.int (IntKind.i64) 0, V.int
    (IntKind.i64) 0, V.int (IntKind.i64) 0, V.int (IntKind.i64) 0, V.int (IntKind.i64) 0, V.int (IntKind.i64) 0, V.int (IntKind.i64) 0, V.int (IntKind.i64) 0, V.int (IntKind.i64) 0, V.int
    (IntKind.i64) 0, V.int (IntKind.i64) 0, V.int (IntKind.i64) 0, V.int (IntKind.i64) 0, V.int (IntKind.i64) 0, V.int (IntKind.i64) 0, V.int (IntKind.i64) 0, V.int (IntKind.i64) 0, V.int
    (IntKind.i64) 0, V.int (IntKind.i64) 0, V.int (IntKind.i64) 0, V.int (IntKind.i64) 0, V.int (IntKind.i64) 0, V.int (IntKind.i64) 0, V.int (IntKind.i64) 0, V.int (IntKind.i64) 0, V.int
    (IntKind.i64) 0, V.int (IntKind.i64) 0, V.int (IntKind.i64) 0, V.int (IntKind.i64) 0, V.int (IntKind.i64) 0, V.int (IntKind.i64) 0, V.int (IntKind.i64) 0, V.int (IntKind.i64) 0, V.int
    (IntKind.i64) 0, V.int (IntKind.i64) 0, V.int (IntKind.i64) 0, V.int (IntKind.i64) 0, V.int (IntKind.i64) 0, V.int (IntKind.i64) 0, V.int (IntKind.i64) 0, V.int (IntKind.i64) 0, V.int
    (IntKind.i64) 0, V.int (IntKind.i64) 0, V.int (IntKind.i64) 0, V.int (IntKind.i64) 0, V.int (IntKind.i64) 0, V.int (IntKind.i64) 0, V.int (IntKind.i64) 0, V.int (IntKind.i64) 0, V.int
    (IntKind.i64) 0, V.int (IntKind.i64) 0, V.int (IntKind.i64) 0, V.int (IntKind.i64) 0, V.int (IntKind.i64) 0, V.int (IntKind.i64) 0, V.int (IntKind.i64) 0, V.int (IntKind.i64) 0, V.int
    (IntKind.i64) 0, V.int (IntKind.i64) 0, V.int (IntKind.i64) 0, V.int (IntKind.i64) 0, V.int (IntKind.i64) 0, V.int (IntKind.i64) 0, V.int (IntKind.i64) 0, V.int (IntKind.i64) 0, V.int
    (IntKind.i64) 0, V.int (IntKind.i64) 0, V.int (IntKind.i64) 0, V.int (IntKind.i64) 0, V.int (IntKind.i64) 0, V.int (IntKind.i64) 0, V.int (IntKind.i64) 0, V.int (IntKind.i64) 0, V.int
    (IntKind.i64) 0, V.int (IntKind.i64) 0, V.int (IntKind.i64) 0, V.int (IntKind.i64) 0, V.int (IntKind.i64) 0, V.int (IntKind.i64) 0] [(0, 16, Opd.tmp 3), (16, 16, Opd.tmp 4), (32, 16, Opd.tmp 5),
    (48, 16, Opd.tmp 6), (64, 16, Opd.tmp 7), (80, 16, Opd.tmp 8), (96, 16, Opd.tmp 9), (112, 16, Opd.tmp 10), (128, 16, Opd.tmp 11), (144, 16, Opd.tmp 12)], none⟩, ⟨some 14, AOp.move (Opd.tmp 0),
    none⟩, ⟨some 15, AOp.indexA 10 16 true (Opd.tmp 13) (Opd.tmp 14), none⟩, ⟨none, AOp.store 16 (Opd.tmp 2) (Opd.tmp 15), none⟩]) (ACode.ret))⟩
theorem h32 : compFn Tryd.prog Tryd.f32 = some c32 := by kernel_rfl
/-- A loop of function 33. -/
def c33_l0 : ACode :=
  ACode.seq (ACode.region [⟨some 12, AOp.bin (BinOp.lss) (Opd.tmp 11) (Opd.tmp 10), none⟩]) (ACode.seq (ACode.cond (Opd.tmp 12) (ACode.skip) (ACode.exit 0)) (ACode.seq (ACode.block 1 (ACode.seq
    (ACode.region [⟨some 13, AOp.move (Opd.tmp 11), none⟩, ⟨some 6, AOp.move (Opd.tmp 13), none⟩]) (ACode.region [⟨some 14, AOp.move (Opd.tmp 5), none⟩, ⟨some 15, AOp.move (Opd.tmp 6), none⟩, ⟨some
    16, AOp.move (Opd.tmp 0), none⟩, ⟨some 17, AOp.move (Opd.tmp 6), none⟩, ⟨some 18, AOp.bin (BinOp.mul) (Opd.const (V.int (IntKind.i64) 8)) (Opd.tmp 17), none⟩, ⟨some 19, AOp.bin (BinOp.shr)
    (Opd.tmp 16) (Opd.tmp 18), none⟩, ⟨some 20, AOp.conv (IntKind.u8) (Opd.tmp 19), none⟩, ⟨some 21, AOp.indexAddrS 1 (Opd.tmp 14) (Opd.tmp 15), none⟩, ⟨none, AOp.store 1 (Opd.tmp 21) (Opd.tmp 20),
    none⟩]))) (ACode.region [⟨some 22, AOp.bin (BinOp.add) (Opd.tmp 11) (Opd.const (V.int (IntKind.i64) 1)), none⟩, ⟨some 11, AOp.move (Opd.tmp 22), none⟩])))
theorem c33_l0_wr : c33_l0.wr = [12, 13, 6, 14, 15, 16, 17, 18, 19, 20, 21, 22, 11] := by kernel_rfl
/-- Function 33: octet.put. -/
def c33 : AFn :=
  ⟨24, [ARes.tmp 4], ACode.seq (ACode.region [⟨some 4, AOp.move (Opd.const (V.nilslice)), none⟩]) (ACode.seq (ACode.region [⟨some 7, AOp.move (Opd.tmp 1), none⟩, ⟨some 8, AOp.makeSlice 5 1 1 [V.int
    (IntKind.u8) 0] (Opd.tmp 7) (Opd.tmp 7), none⟩, ⟨some 5, AOp.move (Opd.tmp 8), none⟩]) (ACode.seq (ACode.seq (ACode.region [⟨some 9, AOp.move (Opd.tmp 5), none⟩, ⟨some 10, AOp.lenL (Opd.tmp 9),
    none⟩, ⟨some 11, AOp.move (Opd.const (V.int (IntKind.i64) 0)), none⟩]) (ACode.block 0 (ACode.loop c33_l0))) (ACode.seq (ACode.region [⟨some 23, AOp.move (Opd.tmp 5), none⟩, ⟨some 4, AOp.move
    (Opd.tmp 23), none⟩]) (ACode.ret))))⟩
theorem h33 : compFn Tryd.prog Tryd.f33 = some c33 := by kernel_rfl
/-- A loop of function 34. -/
def c34_l0 : ACode :=
  ACode.seq (ACode.region [⟨some 14, AOp.bin (BinOp.lss) (Opd.tmp 13) (Opd.tmp 12), none⟩]) (ACode.seq (ACode.cond (Opd.tmp 14) (ACode.skip) (ACode.exit 0)) (ACode.seq (ACode.block 1 (ACode.seq
    (ACode.region [⟨some 15, AOp.move (Opd.tmp 13), none⟩, ⟨some 7, AOp.move (Opd.tmp 15), none⟩]) (ACode.region [⟨some 16, AOp.move (Opd.tmp 6), none⟩, ⟨some 17, AOp.move (Opd.tmp 0), none⟩, ⟨some
    18, AOp.move (Opd.tmp 7), none⟩, ⟨some 19, AOp.indexAddrS 1 (Opd.tmp 17) (Opd.tmp 18), none⟩, ⟨some 20, AOp.load (Opd.tmp 19), none⟩, ⟨some 21, AOp.conv (IntKind.u64) (Opd.tmp 20), none⟩, ⟨some
    22, AOp.move (Opd.tmp 7), none⟩, ⟨some 23, AOp.bin (BinOp.mul) (Opd.const (V.int (IntKind.i64) 8)) (Opd.tmp 22), none⟩, ⟨some 24, AOp.bin (BinOp.shl) (Opd.tmp 21) (Opd.tmp 23), none⟩, ⟨some 25,
    AOp.bin (BinOp.or) (Opd.tmp 16) (Opd.tmp 24), none⟩, ⟨some 6, AOp.move (Opd.tmp 25), none⟩]))) (ACode.region [⟨some 26, AOp.bin (BinOp.add) (Opd.tmp 13) (Opd.const (V.int (IntKind.i64) 1)), none⟩,
    ⟨some 13, AOp.move (Opd.tmp 26), none⟩])))
theorem c34_l0_wr : c34_l0.wr = [14, 15, 7, 16, 17, 18, 19, 20, 21, 22, 23, 24, 25, 6, 26, 13] := by kernel_rfl
/-- Function 34: octet.get. -/
def c34 : AFn :=
  ⟨28, [ARes.tmp 4, ARes.tmp 5], ACode.seq (ACode.region [⟨some 4, AOp.move (Opd.const (V.int (IntKind.u64) 0)), none⟩, ⟨some 5, AOp.move (Opd.const (V.bool false)), none⟩]) (ACode.seq (ACode.seq
    (ACode.region [⟨some 8, AOp.move (Opd.tmp 0), none⟩, ⟨some 9, AOp.lenL (Opd.tmp 8), none⟩, ⟨some 10, AOp.move (Opd.tmp 1), none⟩, ⟨some 11, AOp.bin (BinOp.lss) (Opd.tmp 9) (Opd.tmp 10), none⟩])
    (ACode.cond (Opd.tmp 11) (ACode.seq (ACode.region [⟨some 4, AOp.move (Opd.const (V.int (IntKind.u64) 0)), none⟩, ⟨some 5, AOp.move (Opd.const (V.bool false)), none⟩]) (ACode.ret)) (ACode.skip)))
    (ACode.seq (ACode.region [⟨some 6, AOp.move (Opd.const (V.int (IntKind.u64) 0)), none⟩]) (ACode.seq (ACode.seq (ACode.region [⟨some 12, AOp.move (Opd.tmp 1), none⟩, ⟨some 13, AOp.move (Opd.const
    (V.int (IntKind.i64) 0)), none⟩]) (ACode.block 0 (ACode.loop c34_l0))) (ACode.seq (ACode.region [⟨some 27, AOp.move (Opd.tmp 6), none⟩, ⟨some 4, AOp.move (Opd.tmp 27), none⟩, ⟨some 5, AOp.move
    (Opd.const (V.bool true)), none⟩]) (ACode.ret)))))⟩
theorem h34 : compFn Tryd.prog Tryd.f34 = some c34 := by kernel_rfl
/-- What the laid variables hold. -/
def laidVals : List (Nat × List V) :=
  [(1, [V.int .i64 0, V.int .i64 4, V.int .i64 8, V.int .i64 12, V.int .i64 1, V.int .i64 5, V.int .i64 9, V.int .i64 13, V.int .i64 2, V.int .i64 6, V.int .i64 10,
    V.int .i64 14, V.int .i64 3, V.int .i64 7, V.int .i64 11, V.int .i64 15, V.int .i64 0, V.int .i64 5, V.int .i64 10, V.int .i64 15, V.int .i64 1, V.int .i64 6,
    V.int .i64 11, V.int .i64 12, V.int .i64 2, V.int .i64 7, V.int .i64 8, V.int .i64 13, V.int .i64 3, V.int .i64 4, V.int .i64 9, V.int .i64 14]),
   (0,
    [V.int .u32 1779033703, V.int .u32 3144134277, V.int .u32 1013904242, V.int .u32 2773480762, V.int .u32 1359893119, V.int .u32 2600822924, V.int .u32 528734635,
    V.int .u32 1541459225]),
   (2, [V.int .i64 0, V.int .i64 1, V.int .i64 2, V.int .i64 3, V.int .i64 4, V.int .i64 5, V.int .i64 6, V.int .i64 7, V.int .i64 8,
    V.int .i64 9, V.int .i64 10, V.int .i64 11, V.int .i64 12, V.int .i64 13, V.int .i64 14, V.int .i64 15, V.int .i64 14, V.int .i64 10, V.int .i64 4, V.int .i64 8,
    V.int .i64 9, V.int .i64 15, V.int .i64 13, V.int .i64 6, V.int .i64 1, V.int .i64 12, V.int .i64 0, V.int .i64 2, V.int .i64 11, V.int .i64 7, V.int .i64 5,
    V.int .i64 3, V.int .i64 11, V.int .i64 8, V.int .i64 12, V.int .i64 0, V.int .i64 5, V.int .i64 2, V.int .i64 15, V.int .i64 13, V.int .i64 10, V.int .i64 14,
    V.int .i64 3, V.int .i64 6, V.int .i64 7, V.int .i64 1, V.int .i64 9, V.int .i64 4, V.int .i64 7, V.int .i64 9, V.int .i64 3, V.int .i64 1, V.int .i64 13,
    V.int .i64 12, V.int .i64 11, V.int .i64 14, V.int .i64 2, V.int .i64 6, V.int .i64 5, V.int .i64 10, V.int .i64 4, V.int .i64 0, V.int .i64 15, V.int .i64 8,
    V.int .i64 9, V.int .i64 0, V.int .i64 5, V.int .i64 7, V.int .i64 2, V.int .i64 4, V.int .i64 10, V.int .i64 15, V.int .i64 14, V.int .i64 1, V.int .i64 11,
    V.int .i64 12, V.int .i64 6, V.int .i64 8, V.int .i64 3, V.int .i64 13, V.int .i64 2, V.int .i64 12, V.int .i64 6, V.int .i64 10, V.int .i64 0, V.int .i64 11,
    V.int .i64 8, V.int .i64 3, V.int .i64 4, V.int .i64 13, V.int .i64 7, V.int .i64 5, V.int .i64 15, V.int .i64 14, V.int .i64 1, V.int .i64 9, V.int .i64 12,
    V.int .i64 5, V.int .i64 1, V.int .i64 15, V.int .i64 14, V.int .i64 13, V.int .i64 4, V.int .i64 10, V.int .i64 0, V.int .i64 7, V.int .i64 6, V.int .i64 3,
    V.int .i64 9, V.int .i64 2, V.int .i64 8, V.int .i64 11, V.int .i64 13, V.int .i64 11, V.int .i64 7, V.int .i64 14, V.int .i64 12, V.int .i64 1, V.int .i64 3,
    V.int .i64 9, V.int .i64 5, V.int .i64 0, V.int .i64 15, V.int .i64 4, V.int .i64 8, V.int .i64 6, V.int .i64 2, V.int .i64 10, V.int .i64 6, V.int .i64 15,
    V.int .i64 14, V.int .i64 9, V.int .i64 11, V.int .i64 3, V.int .i64 0, V.int .i64 8, V.int .i64 12, V.int .i64 2, V.int .i64 13, V.int .i64 7, V.int .i64 1,
    V.int .i64 4, V.int .i64 10, V.int .i64 5, V.int .i64 10, V.int .i64 2, V.int .i64 8, V.int .i64 4, V.int .i64 7, V.int .i64 6, V.int .i64 1, V.int .i64 5,
    V.int .i64 15, V.int .i64 11, V.int .i64 9, V.int .i64 14, V.int .i64 3, V.int .i64 12, V.int .i64 13, V.int .i64 0])]
def tab (f : Nat) : Option AFn :=
  if f = 6 then some c6 else if f = 7 then some c7 else if f = 8 then some c8 else if f = 9 then some c9 else if f = 13 then some c13 else if f = 14 then some c14 else if f = 15 then some c15 else if f = 16 then some c16 else if f = 17 then some c17 else if f = 18 then some c18 else if f = 19 then some c19 else if f = 20 then some c20 else if f = 21 then some c21 else if f = 22 then some c22 else if f = 23 then some c23 else if f = 24 then some c24 else if f = 25 then some c25 else if f = 26 then some c26 else if f = 27 then some c27 else if f = 28 then some c28 else if f = 29 then some c29 else if f = 30 then some c30 else if f = 31 then some c31 else if f = 32 then some c32 else if f = 33 then some c33 else if f = 34 then some c34 else none
theorem tab_holds : Holds Tryd.prog tab := by
  intro f fn hf
  unfold tab at hf
  by_cases e6 : f = 6
  · rw [if_pos e6] at hf; subst e6; cases hf; exact ⟨_, Tryd.func6, h6⟩
  rw [if_neg e6] at hf
  by_cases e7 : f = 7
  · rw [if_pos e7] at hf; subst e7; cases hf; exact ⟨_, Tryd.func7, h7⟩
  rw [if_neg e7] at hf
  by_cases e8 : f = 8
  · rw [if_pos e8] at hf; subst e8; cases hf; exact ⟨_, Tryd.func8, h8⟩
  rw [if_neg e8] at hf
  by_cases e9 : f = 9
  · rw [if_pos e9] at hf; subst e9; cases hf; exact ⟨_, Tryd.func9, h9⟩
  rw [if_neg e9] at hf
  by_cases e13 : f = 13
  · rw [if_pos e13] at hf; subst e13; cases hf; exact ⟨_, Tryd.func13, h13⟩
  rw [if_neg e13] at hf
  by_cases e14 : f = 14
  · rw [if_pos e14] at hf; subst e14; cases hf; exact ⟨_, Tryd.func14, h14⟩
  rw [if_neg e14] at hf
  by_cases e15 : f = 15
  · rw [if_pos e15] at hf; subst e15; cases hf; exact ⟨_, Tryd.func15, h15⟩
  rw [if_neg e15] at hf
  by_cases e16 : f = 16
  · rw [if_pos e16] at hf; subst e16; cases hf; exact ⟨_, Tryd.func16, h16⟩
  rw [if_neg e16] at hf
  by_cases e17 : f = 17
  · rw [if_pos e17] at hf; subst e17; cases hf; exact ⟨_, Tryd.func17, h17⟩
  rw [if_neg e17] at hf
  by_cases e18 : f = 18
  · rw [if_pos e18] at hf; subst e18; cases hf; exact ⟨_, Tryd.func18, h18⟩
  rw [if_neg e18] at hf
  by_cases e19 : f = 19
  · rw [if_pos e19] at hf; subst e19; cases hf; exact ⟨_, Tryd.func19, h19⟩
  rw [if_neg e19] at hf
  by_cases e20 : f = 20
  · rw [if_pos e20] at hf; subst e20; cases hf; exact ⟨_, Tryd.func20, h20⟩
  rw [if_neg e20] at hf
  by_cases e21 : f = 21
  · rw [if_pos e21] at hf; subst e21; cases hf; exact ⟨_, Tryd.func21, h21⟩
  rw [if_neg e21] at hf
  by_cases e22 : f = 22
  · rw [if_pos e22] at hf; subst e22; cases hf; exact ⟨_, Tryd.func22, h22⟩
  rw [if_neg e22] at hf
  by_cases e23 : f = 23
  · rw [if_pos e23] at hf; subst e23; cases hf; exact ⟨_, Tryd.func23, h23⟩
  rw [if_neg e23] at hf
  by_cases e24 : f = 24
  · rw [if_pos e24] at hf; subst e24; cases hf; exact ⟨_, Tryd.func24, h24⟩
  rw [if_neg e24] at hf
  by_cases e25 : f = 25
  · rw [if_pos e25] at hf; subst e25; cases hf; exact ⟨_, Tryd.func25, h25⟩
  rw [if_neg e25] at hf
  by_cases e26 : f = 26
  · rw [if_pos e26] at hf; subst e26; cases hf; exact ⟨_, Tryd.func26, h26⟩
  rw [if_neg e26] at hf
  by_cases e27 : f = 27
  · rw [if_pos e27] at hf; subst e27; cases hf; exact ⟨_, Tryd.func27, h27⟩
  rw [if_neg e27] at hf
  by_cases e28 : f = 28
  · rw [if_pos e28] at hf; subst e28; cases hf; exact ⟨_, Tryd.func28, h28⟩
  rw [if_neg e28] at hf
  by_cases e29 : f = 29
  · rw [if_pos e29] at hf; subst e29; cases hf; exact ⟨_, Tryd.func29, h29⟩
  rw [if_neg e29] at hf
  by_cases e30 : f = 30
  · rw [if_pos e30] at hf; subst e30; cases hf; exact ⟨_, Tryd.func30, h30⟩
  rw [if_neg e30] at hf
  by_cases e31 : f = 31
  · rw [if_pos e31] at hf; subst e31; cases hf; exact ⟨_, Tryd.func31, h31⟩
  rw [if_neg e31] at hf
  by_cases e32 : f = 32
  · rw [if_pos e32] at hf; subst e32; cases hf; exact ⟨_, Tryd.func32, h32⟩
  rw [if_neg e32] at hf
  by_cases e33 : f = 33
  · rw [if_pos e33] at hf; subst e33; cases hf; exact ⟨_, Tryd.func33, h33⟩
  rw [if_neg e33] at hf
  by_cases e34 : f = 34
  · rw [if_pos e34] at hf; subst e34; cases hf; exact ⟨_, Tryd.func34, h34⟩
  rw [if_neg e34] at hf
  cases hf
end Go.Proofs.YtobnkgajgodioaaDoor.KdfChains
