/- The functions that the law UtfFeeds reaches, as the abstract machine has them. No condition. -/
import Derived.Test.YtpegpafginbhmaaDoorA45
import Derived.KernelRfl
namespace Go.Proofs.YtpegpafginbhmaaDoor.UtfFeeds
open Go Go.Proofs.YtpegpafginbhmaaDoorA
/-- A loop of function 6. -/
def c6_l0 : ACode :=
  ACode.seq (ACode.seq (ACode.region [⟨some 31, AOp.move (Opd.tmp 14), none⟩, ⟨some 32, AOp.move (Opd.tmp 11), none⟩, ⟨some 33, AOp.lenL (Opd.tmp 32), none⟩, ⟨some 34, AOp.bin (BinOp.lss) (Opd.tmp 31)
    (Opd.tmp 33), none⟩]) (ACode.cond (Opd.tmp 34) (ACode.skip) (ACode.exit 0))) (ACode.seq (ACode.block 1 (ACode.seq (ACode.seq (ACode.anyRegion [⟨some 37, AOp.move (Opd.tmp 12), none⟩, ⟨some 38,
    AOp.move (Opd.tmp 11), none⟩, ⟨some 39, AOp.move (Opd.tmp 14), none⟩, ⟨some 40, AOp.indexAddrS 1 (Opd.tmp 38) (Opd.tmp 39), none⟩, ⟨some 41, AOp.load (Opd.tmp 40), none⟩, ⟨some 42, AOp.call
    (Opd.func 12) [Opd.tmp 37, Opd.tmp 41], none⟩, ⟨some 43, AOp.move (Opd.tmp 13), none⟩, ⟨some 44, AOp.move (Opd.tmp 11), none⟩, ⟨some 45, AOp.move (Opd.tmp 14), none⟩, ⟨some 46, AOp.indexAddrS 1
    (Opd.tmp 44) (Opd.tmp 45), none⟩, ⟨some 47, AOp.load (Opd.tmp 46), none⟩, ⟨some 48, AOp.call (Opd.func 21) [Opd.tmp 43, Opd.tmp 47], none⟩, ⟨some 49, AOp.call (Opd.func 15) [Opd.tmp 42, Opd.tmp
    48], none⟩, ⟨some 50, AOp.un (UnOp.not) (Opd.tmp 49), none⟩, ⟨some 51, AOp.move (Opd.tmp 50), none⟩, ⟨some 52, AOp.move (Opd.tmp 12), some (51, false)⟩, ⟨some 53, AOp.call (Opd.func 13) [Opd.tmp
    52], some (51, false)⟩, ⟨some 54, AOp.move (Opd.tmp 13), some (51, false)⟩, ⟨some 55, AOp.nilCheck (Opd.tmp 54), some (51, false)⟩, ⟨some 56, AOp.fieldAddr 0 (Opd.tmp 55), some (51, false)⟩, ⟨some
    57, AOp.load (Opd.tmp 56), some (51, false)⟩, ⟨some 58, AOp.lenL (Opd.tmp 57), some (51, false)⟩, ⟨some 59, AOp.bin (BinOp.neq) (Opd.tmp 53) (Opd.tmp 58), some (51, false)⟩, ⟨some 60, AOp.pick
    (Opd.tmp 51) (Opd.const (V.bool true)) (Opd.tmp 59), none⟩] [(10, 0), (20, 13)]) (ACode.cond (Opd.tmp 60) (ACode.seq (ACode.region [⟨some 10, AOp.move (Opd.const (V.bool false)), none⟩])
    (ACode.ret)) (ACode.skip))) (ACode.seq (ACode.region [⟨some 61, AOp.move (Opd.tmp 14), none⟩, ⟨some 62, AOp.move (Opd.tmp 4), none⟩, ⟨some 63, AOp.lenL (Opd.tmp 62), none⟩, ⟨some 64, AOp.bin
    (BinOp.lss) (Opd.tmp 61) (Opd.tmp 63), none⟩, ⟨some 65, AOp.move (Opd.tmp 64), none⟩, ⟨some 66, AOp.move (Opd.tmp 4), some (65, true)⟩, ⟨some 67, AOp.move (Opd.tmp 14), some (65, true)⟩, ⟨some 68,
    AOp.indexAddrS 1 (Opd.tmp 66) (Opd.tmp 67), some (65, true)⟩, ⟨some 69, AOp.load (Opd.tmp 68), some (65, true)⟩, ⟨some 70, AOp.pick (Opd.tmp 65) (Opd.tmp 69) (Opd.const (V.bool false)), none⟩,
    ⟨some 71, AOp.move (Opd.tmp 70), none⟩, ⟨some 72, AOp.move (Opd.tmp 12), some (71, true)⟩, ⟨some 73, AOp.call (Opd.func 22) [Opd.tmp 72], some (71, true)⟩, ⟨some 74, AOp.move (Opd.tmp 13), some
    (71, true)⟩, ⟨some 75, AOp.call (Opd.func 23) [Opd.tmp 74], some (71, true)⟩, ⟨some 76, AOp.call (Opd.func 15) [Opd.tmp 73, Opd.tmp 75], some (71, true)⟩, ⟨some 77, AOp.un (UnOp.not) (Opd.tmp 76),
    some (71, true)⟩, ⟨some 78, AOp.pick (Opd.tmp 71) (Opd.tmp 77) (Opd.const (V.bool false)), none⟩]) (ACode.cond (Opd.tmp 78) (ACode.seq (ACode.region [⟨some 10, AOp.move (Opd.const (V.bool false)),
    none⟩]) (ACode.ret)) (ACode.skip))))) (ACode.region [⟨some 35, AOp.move (Opd.tmp 14), none⟩, ⟨some 36, AOp.bin (BinOp.add) (Opd.tmp 35) (Opd.const (V.int (IntKind.i64) 1)), none⟩, ⟨some 14,
    AOp.move (Opd.tmp 36), none⟩]))
theorem c6_l0_wr : c6_l0.wr = [31, 32, 33, 34, 37, 38, 39, 40, 41, 42, 43, 44, 45, 46, 47, 48, 49, 50, 51, 52, 53, 54, 55, 56, 57, 58, 59, 60, 10, 61, 62, 63, 64, 65, 66, 67, 68, 69, 70, 71, 72, 73, 74, 75, 76, 77, 78, 10, 35, 36, 14] := by kernel_rfl
/-- Function 6: portholelaw19.UtfFeeds. -/
def c6 : AFn :=
  ⟨87, [ARes.tmp 10], ACode.seq (ACode.region [⟨some 10, AOp.move (Opd.const (V.bool false)), none⟩]) (ACode.seq (ACode.region [⟨some 15, AOp.move (Opd.tmp 0), none⟩, ⟨some 16, AOp.move (Opd.tmp 1),
    none⟩, ⟨some 17, AOp.move (Opd.tmp 2), none⟩, ⟨some 18, AOp.call (Opd.func 14) [Opd.tmp 15, Opd.tmp 16, Opd.tmp 17], none⟩, ⟨some 19, AOp.bytesStr (Opd.tmp 18), none⟩, ⟨some 20, AOp.move (Opd.tmp
    3), none⟩, ⟨some 21, AOp.call (Opd.func 20) [Opd.tmp 19, Opd.tmp 20], none⟩, ⟨some 11, AOp.move (Opd.tmp 21), none⟩]) (ACode.seq (ACode.region [⟨some 22, AOp.call (Opd.func 9) [], none⟩, ⟨some 12,
    AOp.move (Opd.tmp 22), none⟩]) (ACode.seq (ACode.region [⟨some 23, AOp.build [V.nilslice] [], none⟩, ⟨some 24, AOp.boxv 45 1 (Opd.tmp 23), none⟩, ⟨some 13, AOp.move (Opd.tmp 24), none⟩])
    (ACode.seq (ACode.seq (ACode.region [⟨some 25, AOp.call (Opd.func 10) [], none⟩, ⟨some 26, AOp.un (UnOp.not) (Opd.tmp 25), none⟩, ⟨some 27, AOp.move (Opd.tmp 26), none⟩, ⟨some 28, AOp.move
    (Opd.tmp 12), some (27, false)⟩, ⟨some 29, AOp.eq false (EqKind.ptr) (Opd.tmp 28) (Opd.const (V.nilptr)), some (27, false)⟩, ⟨some 30, AOp.pick (Opd.tmp 27) (Opd.const (V.bool true)) (Opd.tmp 29),
    none⟩]) (ACode.cond (Opd.tmp 30) (ACode.seq (ACode.region [⟨some 10, AOp.move (Opd.const (V.bool false)), none⟩]) (ACode.ret)) (ACode.skip))) (ACode.seq (ACode.seq (ACode.region [⟨some 14,
    AOp.move (Opd.const (V.int (IntKind.i64) 0)), none⟩]) (ACode.block 0 (ACode.loop c6_l0))) (ACode.seq (ACode.anyRegion [⟨some 79, AOp.move (Opd.tmp 12), none⟩, ⟨some 80, AOp.call (Opd.func 13)
    [Opd.tmp 79], none⟩, ⟨some 81, AOp.move (Opd.tmp 13), none⟩, ⟨some 82, AOp.nilCheck (Opd.tmp 81), none⟩, ⟨some 83, AOp.fieldAddr 0 (Opd.tmp 82), none⟩, ⟨some 84, AOp.load (Opd.tmp 83), none⟩,
    ⟨some 85, AOp.lenL (Opd.tmp 84), none⟩, ⟨some 86, AOp.bin (BinOp.eql) (Opd.tmp 80) (Opd.tmp 85), none⟩, ⟨some 10, AOp.move (Opd.tmp 86), none⟩] [(5, 0)]) (ACode.ret)))))))⟩
theorem h6 : compFn Tryd.prog Tryd.f6 = some c6 := by kernel_rfl
/-- Function 9: utf.New. -/
def c9 : AFn :=
  ⟨3, [ARes.tmp 0], ACode.seq (ACode.region [⟨some 0, AOp.move (Opd.const (V.nilptr)), none⟩]) (ACode.seq (ACode.region [⟨some 1, AOp.build [V.nilslice] [], none⟩, ⟨some 2, AOp.boxv 50 1 (Opd.tmp 1),
    none⟩, ⟨some 0, AOp.move (Opd.tmp 2), none⟩]) (ACode.ret))⟩
theorem h9 : compFn Tryd.prog Tryd.f9 = some c9 := by kernel_rfl
/-- Function 10: portholelaw19.known. -/
def c10 : AFn :=
  ⟨37, [ARes.tmp 0], ACode.seq (ACode.region [⟨some 0, AOp.move (Opd.const (V.bool false)), none⟩]) (ACode.seq (ACode.region [⟨some 6, AOp.call (Opd.func 9) [], none⟩, ⟨some 1, AOp.move (Opd.tmp 6),
    none⟩]) (ACode.seq (ACode.seq (ACode.region [⟨some 7, AOp.move (Opd.tmp 1), none⟩, ⟨some 8, AOp.eq false (EqKind.ptr) (Opd.tmp 7) (Opd.const (V.nilptr)), none⟩]) (ACode.cond (Opd.tmp 8) (ACode.seq
    (ACode.region [⟨some 0, AOp.move (Opd.const (V.bool false)), none⟩]) (ACode.ret)) (ACode.skip))) (ACode.seq (ACode.region [⟨some 9, AOp.move (Opd.tmp 1), none⟩, ⟨some 10, AOp.buildSlice 5 1 [V.int
    (IntKind.u8) 0] 2 [(0, 1, Opd.const (V.int (IntKind.u8) 226)), (1, 1, Opd.const (V.int (IntKind.u8) 130))], none⟩, ⟨some 11, AOp.call (Opd.func 12) [Opd.tmp 9, Opd.tmp 10], none⟩, ⟨some 2,
    AOp.move (Opd.tmp 11), none⟩]) (ACode.seq (ACode.region [⟨some 12, AOp.move (Opd.tmp 1), none⟩, ⟨some 13, AOp.call (Opd.func 13) [Opd.tmp 12], none⟩, ⟨some 3, AOp.move (Opd.tmp 13), none⟩])
    (ACode.seq (ACode.region [⟨some 14, AOp.move (Opd.tmp 1), none⟩, ⟨some 15, AOp.buildSlice 5 1 [V.int (IntKind.u8) 0] 2 [(0, 1, Opd.const (V.int (IntKind.u8) 172)), (1, 1, Opd.const (V.int
    (IntKind.u8) 65))], none⟩, ⟨some 16, AOp.call (Opd.func 12) [Opd.tmp 14, Opd.tmp 15], none⟩, ⟨some 4, AOp.move (Opd.tmp 16), none⟩]) (ACode.seq (ACode.region [⟨some 17, AOp.move (Opd.tmp 1),
    none⟩, ⟨some 18, AOp.buildSlice 5 1 [V.int (IntKind.u8) 0] 2 [(0, 1, Opd.const (V.int (IntKind.u8) 224)), (1, 1, Opd.const (V.int (IntKind.u8) 128))], none⟩, ⟨some 19, AOp.call (Opd.func 12)
    [Opd.tmp 17, Opd.tmp 18], none⟩, ⟨some 5, AOp.move (Opd.tmp 19), none⟩]) (ACode.seq (ACode.region [⟨some 20, AOp.move (Opd.tmp 2), none⟩, ⟨some 21, AOp.lenL (Opd.tmp 20), none⟩, ⟨some 22, AOp.bin
    (BinOp.eql) (Opd.tmp 21) (Opd.const (V.int (IntKind.i64) 0)), none⟩, ⟨some 23, AOp.move (Opd.tmp 22), none⟩, ⟨some 24, AOp.move (Opd.tmp 3), some (23, true)⟩, ⟨some 25, AOp.bin (BinOp.eql)
    (Opd.tmp 24) (Opd.const (V.int (IntKind.i64) 2)), some (23, true)⟩, ⟨some 26, AOp.pick (Opd.tmp 23) (Opd.tmp 25) (Opd.const (V.bool false)), none⟩, ⟨some 27, AOp.move (Opd.tmp 26), none⟩, ⟨some
    28, AOp.move (Opd.tmp 4), some (27, true)⟩, ⟨some 29, AOp.buildSlice 21 1 [V.int (IntKind.i32) 0] 2 [(0, 1, Opd.const (V.int (IntKind.i32) 8364)), (1, 1, Opd.const (V.int (IntKind.i32) 65))], some
    (27, true)⟩, ⟨some 30, AOp.call (Opd.func 15) [Opd.tmp 28, Opd.tmp 29], some (27, true)⟩, ⟨some 31, AOp.pick (Opd.tmp 27) (Opd.tmp 30) (Opd.const (V.bool false)), none⟩, ⟨some 32, AOp.move
    (Opd.tmp 31), none⟩, ⟨some 33, AOp.move (Opd.tmp 5), some (32, true)⟩, ⟨some 34, AOp.buildSlice 21 1 [V.int (IntKind.i32) 0] 2 [(0, 1, Opd.const (V.int (IntKind.i32) 65533)), (1, 1, Opd.const
    (V.int (IntKind.i32) 65533))], some (32, true)⟩, ⟨some 35, AOp.call (Opd.func 15) [Opd.tmp 33, Opd.tmp 34], some (32, true)⟩, ⟨some 36, AOp.pick (Opd.tmp 32) (Opd.tmp 35) (Opd.const (V.bool
    false)), none⟩, ⟨some 0, AOp.move (Opd.tmp 36), none⟩]) (ACode.ret))))))))⟩
theorem h10 : compFn Tryd.prog Tryd.f10 = some c10 := by kernel_rfl
/-- A loop of function 12. -/
def c12_l0 : ACode :=
  ACode.seq (ACode.seq (ACode.region [⟨some 22, AOp.move (Opd.tmp 7), none⟩, ⟨some 23, AOp.move (Opd.tmp 6), none⟩, ⟨some 24, AOp.bin (BinOp.lss) (Opd.tmp 22) (Opd.tmp 23), none⟩]) (ACode.cond
    (Opd.tmp 24) (ACode.skip) (ACode.exit 0))) (ACode.seq (ACode.block 1 (ACode.seq (ACode.region [⟨some 27, AOp.move (Opd.tmp 5), none⟩, ⟨some 28, AOp.move (Opd.tmp 7), none⟩, ⟨some 29,
    AOp.indexAddrS 1 (Opd.tmp 27) (Opd.tmp 28), none⟩, ⟨some 30, AOp.load (Opd.tmp 29), none⟩, ⟨some 31, AOp.call (Opd.func 24) [Opd.tmp 30], none⟩, ⟨some 32, AOp.move (Opd.tmp 31), none⟩, ⟨some 33,
    AOp.move (Opd.tmp 5), some (32, true)⟩, ⟨some 34, AOp.move (Opd.tmp 7), some (32, true)⟩, ⟨some 35, AOp.sliceSl 1 (Opd.tmp 33) (some (Opd.tmp 34)) none none, some (32, true)⟩, ⟨some 36, AOp.call
    (Opd.func 25) [Opd.tmp 35], some (32, true)⟩, ⟨some 37, AOp.un (UnOp.not) (Opd.tmp 36), some (32, true)⟩, ⟨some 38, AOp.pick (Opd.tmp 32) (Opd.tmp 37) (Opd.const (V.bool false)), none⟩])
    (ACode.cond (Opd.tmp 38) (ACode.region [⟨some 39, AOp.move (Opd.tmp 7), none⟩, ⟨some 6, AOp.move (Opd.tmp 39), none⟩]) (ACode.skip)))) (ACode.region [⟨some 25, AOp.move (Opd.tmp 7), none⟩, ⟨some
    26, AOp.bin (BinOp.add) (Opd.tmp 25) (Opd.const (V.int (IntKind.i64) 1)), none⟩, ⟨some 7, AOp.move (Opd.tmp 26), none⟩]))
theorem c12_l0_wr : c12_l0.wr = [22, 23, 24, 27, 28, 29, 30, 31, 32, 33, 34, 35, 36, 37, 38, 39, 6, 25, 26, 7] := by kernel_rfl
/-- Function 12: utf.Decoder).Feed. -/
def c12 : AFn :=
  ⟨51, [ARes.tmp 4], ACode.seq (ACode.region [⟨some 4, AOp.move (Opd.const (V.nilslice)), none⟩]) (ACode.seq (ACode.region [⟨some 8, AOp.buildSlice 5 1 [V.int (IntKind.u8) 0] 0 [], none⟩, ⟨some 9,
    AOp.move (Opd.tmp 0), none⟩, ⟨some 10, AOp.nilCheck (Opd.tmp 9), none⟩, ⟨some 11, AOp.fieldAddr 0 (Opd.tmp 10), none⟩, ⟨some 12, AOp.load (Opd.tmp 11), none⟩, ⟨some 13, AOp.append 5 1 1 (Opd.tmp
    8) (Opd.tmp 12), none⟩, ⟨some 14, AOp.move (Opd.tmp 1), none⟩, ⟨some 15, AOp.append 5 1 1 (Opd.tmp 13) (Opd.tmp 14), none⟩, ⟨some 5, AOp.move (Opd.tmp 15), none⟩]) (ACode.seq (ACode.region [⟨some
    16, AOp.move (Opd.tmp 5), none⟩, ⟨some 17, AOp.lenL (Opd.tmp 16), none⟩, ⟨some 6, AOp.move (Opd.tmp 17), none⟩]) (ACode.seq (ACode.seq (ACode.region [⟨some 18, AOp.move (Opd.tmp 6), none⟩, ⟨some
    19, AOp.bin (BinOp.sub) (Opd.tmp 18) (Opd.const (V.int (IntKind.i64) 4)), none⟩, ⟨some 20, AOp.bin (BinOp.add) (Opd.tmp 19) (Opd.const (V.int (IntKind.i64) 1)), none⟩, ⟨some 21, AOp.minmax true
    [Opd.const (V.int (IntKind.i64) 0), Opd.tmp 20], none⟩, ⟨some 7, AOp.move (Opd.tmp 21), none⟩]) (ACode.block 0 (ACode.loop c12_l0))) (ACode.seq (ACode.region [⟨some 40, AOp.move (Opd.tmp 0),
    none⟩, ⟨some 41, AOp.move (Opd.tmp 5), none⟩, ⟨some 42, AOp.move (Opd.tmp 6), none⟩, ⟨some 43, AOp.sliceSl 1 (Opd.tmp 41) (some (Opd.tmp 42)) none none, none⟩, ⟨some 44, AOp.nilCheck (Opd.tmp 40),
    none⟩, ⟨some 45, AOp.fieldAddr 0 (Opd.tmp 44), none⟩, ⟨none, AOp.store 1 (Opd.tmp 45) (Opd.tmp 43), none⟩]) (ACode.seq (ACode.region [⟨some 46, AOp.move (Opd.tmp 5), none⟩, ⟨some 47, AOp.move
    (Opd.tmp 6), none⟩, ⟨some 48, AOp.sliceSl 1 (Opd.tmp 46) none (some (Opd.tmp 47)) none, none⟩, ⟨some 49, AOp.bytesStr (Opd.tmp 48), none⟩, ⟨some 50, AOp.call (Opd.func 16) [Opd.tmp 49], none⟩,
    ⟨some 4, AOp.move (Opd.tmp 50), none⟩]) (ACode.ret))))))⟩
theorem h12 : compFn Tryd.prog Tryd.f12 = some c12 := by kernel_rfl
/-- Function 13: utf.Decoder).Held. -/
def c13 : AFn :=
  ⟨8, [ARes.tmp 2], ACode.seq (ACode.region [⟨some 2, AOp.move (Opd.const (V.int (IntKind.i64) 0)), none⟩]) (ACode.seq (ACode.region [⟨some 3, AOp.move (Opd.tmp 0), none⟩, ⟨some 4, AOp.nilCheck
    (Opd.tmp 3), none⟩, ⟨some 5, AOp.fieldAddr 0 (Opd.tmp 4), none⟩, ⟨some 6, AOp.load (Opd.tmp 5), none⟩, ⟨some 7, AOp.lenL (Opd.tmp 6), none⟩, ⟨some 2, AOp.move (Opd.tmp 7), none⟩]) (ACode.ret))⟩
theorem h13 : compFn Tryd.prog Tryd.f13 = some c13 := by kernel_rfl
/-- A loop of function 14. -/
def c14_l0 : ACode :=
  ACode.seq (ACode.seq (ACode.region [⟨some 11, AOp.move (Opd.tmp 8), none⟩, ⟨some 12, AOp.move (Opd.tmp 0), none⟩, ⟨some 13, AOp.lenL (Opd.tmp 12), none⟩, ⟨some 14, AOp.bin (BinOp.lss) (Opd.tmp 11)
    (Opd.tmp 13), none⟩, ⟨some 15, AOp.move (Opd.tmp 14), none⟩, ⟨some 16, AOp.move (Opd.tmp 8), some (15, true)⟩, ⟨some 17, AOp.bin (BinOp.lss) (Opd.tmp 16) (Opd.const (V.int (IntKind.i64) 60)), some
    (15, true)⟩, ⟨some 18, AOp.pick (Opd.tmp 15) (Opd.tmp 17) (Opd.const (V.bool false)), none⟩]) (ACode.cond (Opd.tmp 18) (ACode.skip) (ACode.exit 0))) (ACode.seq (ACode.block 1 (ACode.region [⟨some
    21, AOp.move (Opd.tmp 7), none⟩, ⟨some 22, AOp.build [V.int (IntKind.u8) 0, V.int (IntKind.u8) 0, V.int (IntKind.u8) 0, V.int (IntKind.u8) 0, V.int (IntKind.u8) 0, V.int (IntKind.u8) 0, V.int
    (IntKind.u8) 0, V.int (IntKind.u8) 0, V.int (IntKind.u8) 0, V.int (IntKind.u8) 0, V.int (IntKind.u8) 0, V.int (IntKind.u8) 0, V.int (IntKind.u8) 0, V.int (IntKind.u8) 0, V.int (IntKind.u8) 0,
    V.int (IntKind.u8) 0] [(0, 1, Opd.const (V.int (IntKind.u8) 65)), (1, 1, Opd.const (V.int (IntKind.u8) 195)), (2, 1, Opd.const (V.int (IntKind.u8) 169)), (3, 1, Opd.const (V.int (IntKind.u8)
    226)), (4, 1, Opd.const (V.int (IntKind.u8) 130)), (5, 1, Opd.const (V.int (IntKind.u8) 172)), (6, 1, Opd.const (V.int (IntKind.u8) 240)), (7, 1, Opd.const (V.int (IntKind.u8) 159)), (8, 1,
    Opd.const (V.int (IntKind.u8) 152)), (9, 1, Opd.const (V.int (IntKind.u8) 128)), (10, 1, Opd.const (V.int (IntKind.u8) 237)), (11, 1, Opd.const (V.int (IntKind.u8) 160)), (12, 1, Opd.const (V.int
    (IntKind.u8) 244)), (13, 1, Opd.const (V.int (IntKind.u8) 144)), (14, 1, Opd.const (V.int (IntKind.u8) 192)), (15, 1, Opd.const (V.int (IntKind.u8) 224))], none⟩, ⟨some 23, AOp.move (Opd.tmp 0),
    none⟩, ⟨some 24, AOp.move (Opd.tmp 8), none⟩, ⟨some 25, AOp.indexAddrS 1 (Opd.tmp 23) (Opd.tmp 24), none⟩, ⟨some 26, AOp.load (Opd.tmp 25), none⟩, ⟨some 27, AOp.call (Opd.func 19) [Opd.tmp 26,
    Opd.const (V.int (IntKind.i64) 16)], none⟩, ⟨some 28, AOp.indexA 16 1 false (Opd.tmp 22) (Opd.tmp 27), none⟩, ⟨some 29, AOp.buildSlice 5 1 [V.int (IntKind.u8) 0] 1 [(0, 1, Opd.tmp 28)], none⟩,
    ⟨some 30, AOp.append 5 1 1 (Opd.tmp 21) (Opd.tmp 29), none⟩, ⟨some 7, AOp.move (Opd.tmp 30), none⟩])) (ACode.region [⟨some 19, AOp.move (Opd.tmp 8), none⟩, ⟨some 20, AOp.bin (BinOp.add) (Opd.tmp
    19) (Opd.const (V.int (IntKind.i64) 1)), none⟩, ⟨some 8, AOp.move (Opd.tmp 20), none⟩]))
theorem c14_l0_wr : c14_l0.wr = [11, 12, 13, 14, 15, 16, 17, 18, 21, 22, 23, 24, 25, 26, 27, 28, 29, 30, 7, 19, 20, 8] := by kernel_rfl
/-- Function 14: portholelaw19.bytes. -/
def c14 : AFn :=
  ⟨32, [ARes.tmp 6], ACode.seq (ACode.region [⟨some 6, AOp.move (Opd.const (V.nilslice)), none⟩]) (ACode.seq (ACode.seq (ACode.region [⟨some 9, AOp.move (Opd.tmp 2), none⟩]) (ACode.cond (Opd.tmp 9)
    (ACode.seq (ACode.region [⟨some 10, AOp.move (Opd.tmp 1), none⟩, ⟨some 6, AOp.move (Opd.tmp 10), none⟩]) (ACode.ret)) (ACode.skip))) (ACode.seq (ACode.region [⟨some 7, AOp.move (Opd.const
    (V.nilslice)), none⟩]) (ACode.seq (ACode.seq (ACode.region [⟨some 8, AOp.move (Opd.const (V.int (IntKind.i64) 0)), none⟩]) (ACode.block 0 (ACode.loop c14_l0))) (ACode.seq (ACode.region [⟨some 31,
    AOp.move (Opd.tmp 7), none⟩, ⟨some 6, AOp.move (Opd.tmp 31), none⟩]) (ACode.ret)))))⟩
theorem h14 : compFn Tryd.prog Tryd.f14 = some c14 := by kernel_rfl
/-- A loop of function 15. -/
def c15_l0 : ACode :=
  ACode.seq (ACode.seq (ACode.region [⟨some 11, AOp.move (Opd.tmp 5), none⟩, ⟨some 12, AOp.move (Opd.tmp 0), none⟩, ⟨some 13, AOp.lenL (Opd.tmp 12), none⟩, ⟨some 14, AOp.bin (BinOp.lss) (Opd.tmp 11)
    (Opd.tmp 13), none⟩]) (ACode.cond (Opd.tmp 14) (ACode.skip) (ACode.exit 0))) (ACode.seq (ACode.block 1 (ACode.seq (ACode.anyRegion [⟨some 17, AOp.move (Opd.tmp 0), none⟩, ⟨some 18, AOp.move
    (Opd.tmp 5), none⟩, ⟨some 19, AOp.indexAddrS 1 (Opd.tmp 17) (Opd.tmp 18), none⟩, ⟨some 20, AOp.load (Opd.tmp 19), none⟩, ⟨some 21, AOp.move (Opd.tmp 1), none⟩, ⟨some 22, AOp.move (Opd.tmp 5),
    none⟩, ⟨some 23, AOp.indexAddrS 1 (Opd.tmp 21) (Opd.tmp 22), none⟩, ⟨some 24, AOp.load (Opd.tmp 23), none⟩, ⟨some 25, AOp.bin (BinOp.neq) (Opd.tmp 20) (Opd.tmp 24), none⟩] []) (ACode.cond (Opd.tmp
    25) (ACode.seq (ACode.region [⟨some 4, AOp.move (Opd.const (V.bool false)), none⟩]) (ACode.ret)) (ACode.skip)))) (ACode.region [⟨some 15, AOp.move (Opd.tmp 5), none⟩, ⟨some 16, AOp.bin (BinOp.add)
    (Opd.tmp 15) (Opd.const (V.int (IntKind.i64) 1)), none⟩, ⟨some 5, AOp.move (Opd.tmp 16), none⟩]))
theorem c15_l0_wr : c15_l0.wr = [11, 12, 13, 14, 17, 18, 19, 20, 21, 22, 23, 24, 25, 4, 15, 16, 5] := by kernel_rfl
/-- Function 15: portholelaw19.same. -/
def c15 : AFn :=
  ⟨26, [ARes.tmp 4], ACode.seq (ACode.region [⟨some 4, AOp.move (Opd.const (V.bool false)), none⟩]) (ACode.seq (ACode.seq (ACode.region [⟨some 6, AOp.move (Opd.tmp 0), none⟩, ⟨some 7, AOp.lenL
    (Opd.tmp 6), none⟩, ⟨some 8, AOp.move (Opd.tmp 1), none⟩, ⟨some 9, AOp.lenL (Opd.tmp 8), none⟩, ⟨some 10, AOp.bin (BinOp.neq) (Opd.tmp 7) (Opd.tmp 9), none⟩]) (ACode.cond (Opd.tmp 10) (ACode.seq
    (ACode.region [⟨some 4, AOp.move (Opd.const (V.bool false)), none⟩]) (ACode.ret)) (ACode.skip))) (ACode.seq (ACode.seq (ACode.region [⟨some 5, AOp.move (Opd.const (V.int (IntKind.i64) 0)), none⟩])
    (ACode.block 0 (ACode.loop c15_l0))) (ACode.seq (ACode.region [⟨some 4, AOp.move (Opd.const (V.bool true)), none⟩]) (ACode.ret))))⟩
theorem h15 : compFn Tryd.prog Tryd.f15 = some c15 := by kernel_rfl
/-- A loop of function 16. -/
def c16_l0 : ACode :=
  ACode.seq (ACode.region [⟨some 8, AOp.next (Opd.tmp 7), none⟩, ⟨some 9, AOp.extract (Opd.tmp 8) 0, none⟩]) (ACode.seq (ACode.cond (Opd.tmp 9) (ACode.skip) (ACode.exit 0)) (ACode.block 1 (ACode.seq
    (ACode.region [⟨some 10, AOp.extract (Opd.tmp 8) 2, none⟩, ⟨some 5, AOp.move (Opd.tmp 10), none⟩]) (ACode.region [⟨some 11, AOp.move (Opd.tmp 3), none⟩, ⟨some 12, AOp.move (Opd.tmp 5), none⟩,
    ⟨some 13, AOp.buildSlice 21 1 [V.int (IntKind.i32) 0] 1 [(0, 1, Opd.tmp 12)], none⟩, ⟨some 14, AOp.append 21 1 4 (Opd.tmp 11) (Opd.tmp 13), none⟩, ⟨some 3, AOp.move (Opd.tmp 14), none⟩]))))
theorem c16_l0_wr : c16_l0.wr = [8, 9, 10, 5, 11, 12, 13, 14, 3] := by kernel_rfl
/-- Function 16: utf.Runes. -/
def c16 : AFn :=
  ⟨16, [ARes.tmp 2], ACode.seq (ACode.region [⟨some 2, AOp.move (Opd.const (V.nilslice)), none⟩]) (ACode.seq (ACode.region [⟨some 3, AOp.move (Opd.const (V.nilslice)), none⟩]) (ACode.seq (ACode.seq
    (ACode.region [⟨some 6, AOp.move (Opd.tmp 0), none⟩, ⟨some 7, AOp.range (Opd.tmp 6), none⟩]) (ACode.block 0 (ACode.loop c16_l0))) (ACode.seq (ACode.region [⟨some 15, AOp.move (Opd.tmp 3), none⟩,
    ⟨some 2, AOp.move (Opd.tmp 15), none⟩]) (ACode.ret))))⟩
theorem h16 : compFn Tryd.prog Tryd.f16 = some c16 := by kernel_rfl
/-- A loop of function 17. -/
def c17_l0 : ACode :=
  ACode.seq (ACode.region [⟨some 8, AOp.next (Opd.tmp 7), none⟩, ⟨some 9, AOp.extract (Opd.tmp 8) 0, none⟩]) (ACode.seq (ACode.cond (Opd.tmp 9) (ACode.skip) (ACode.exit 0)) (ACode.block 1 (ACode.seq
    (ACode.region [⟨some 10, AOp.extract (Opd.tmp 8) 2, none⟩, ⟨some 5, AOp.move (Opd.tmp 10), none⟩]) (ACode.region [⟨some 11, AOp.move (Opd.tmp 3), none⟩, ⟨some 12, AOp.move (Opd.tmp 5), none⟩,
    ⟨some 13, AOp.buildSlice 21 1 [V.int (IntKind.i32) 0] 1 [(0, 1, Opd.tmp 12)], none⟩, ⟨some 14, AOp.append 21 1 4 (Opd.tmp 11) (Opd.tmp 13), none⟩, ⟨some 3, AOp.move (Opd.tmp 14), none⟩]))))
theorem c17_l0_wr : c17_l0.wr = [8, 9, 10, 5, 11, 12, 13, 14, 3] := by kernel_rfl
/-- Function 17: portholeref19.Runes. -/
def c17 : AFn :=
  ⟨16, [ARes.tmp 2], ACode.seq (ACode.region [⟨some 2, AOp.move (Opd.const (V.nilslice)), none⟩]) (ACode.seq (ACode.region [⟨some 3, AOp.move (Opd.const (V.nilslice)), none⟩]) (ACode.seq (ACode.seq
    (ACode.region [⟨some 6, AOp.move (Opd.tmp 0), none⟩, ⟨some 7, AOp.range (Opd.tmp 6), none⟩]) (ACode.block 0 (ACode.loop c17_l0))) (ACode.seq (ACode.region [⟨some 15, AOp.move (Opd.tmp 3), none⟩,
    ⟨some 2, AOp.move (Opd.tmp 15), none⟩]) (ACode.ret))))⟩
theorem h17 : compFn Tryd.prog Tryd.f17 = some c17 := by kernel_rfl
/-- Function 19: portholehand.Pick. -/
def c19 : AFn :=
  ⟨14, [ARes.tmp 4], ACode.seq (ACode.region [⟨some 4, AOp.move (Opd.const (V.int (IntKind.i64) 0)), none⟩]) (ACode.seq (ACode.region [⟨some 5, AOp.move (Opd.tmp 0), none⟩, ⟨some 6, AOp.move (Opd.tmp
    1), none⟩, ⟨some 7, AOp.bin (BinOp.rem) (Opd.tmp 5) (Opd.tmp 6), none⟩, ⟨some 0, AOp.move (Opd.tmp 7), none⟩]) (ACode.seq (ACode.seq (ACode.region [⟨some 8, AOp.move (Opd.tmp 0), none⟩, ⟨some 9,
    AOp.bin (BinOp.lss) (Opd.tmp 8) (Opd.const (V.int (IntKind.i64) 0)), none⟩]) (ACode.cond (Opd.tmp 9) (ACode.region [⟨some 10, AOp.move (Opd.tmp 0), none⟩, ⟨some 11, AOp.move (Opd.tmp 1), none⟩,
    ⟨some 12, AOp.bin (BinOp.add) (Opd.tmp 10) (Opd.tmp 11), none⟩, ⟨some 0, AOp.move (Opd.tmp 12), none⟩]) (ACode.skip))) (ACode.seq (ACode.region [⟨some 13, AOp.move (Opd.tmp 0), none⟩, ⟨some 4,
    AOp.move (Opd.tmp 13), none⟩]) (ACode.ret))))⟩
theorem h19 : compFn Tryd.prog Tryd.f19 = some c19 := by kernel_rfl
/-- A loop of function 20. -/
def c20_l0 : ACode :=
  ACode.seq (ACode.seq (ACode.region [⟨some 8, AOp.move (Opd.tmp 6), none⟩, ⟨some 9, AOp.move (Opd.tmp 1), none⟩, ⟨some 10, AOp.lenL (Opd.tmp 9), none⟩, ⟨some 11, AOp.bin (BinOp.lss) (Opd.tmp 8)
    (Opd.tmp 10), none⟩, ⟨some 12, AOp.move (Opd.tmp 11), none⟩, ⟨some 13, AOp.move (Opd.tmp 6), some (12, true)⟩, ⟨some 14, AOp.bin (BinOp.lss) (Opd.tmp 13) (Opd.const (V.int (IntKind.i64) 40)), some
    (12, true)⟩, ⟨some 15, AOp.pick (Opd.tmp 12) (Opd.tmp 14) (Opd.const (V.bool false)), none⟩, ⟨some 16, AOp.move (Opd.tmp 15), none⟩, ⟨some 17, AOp.move (Opd.tmp 0), some (16, true)⟩, ⟨some 18,
    AOp.lenS (Opd.tmp 17), some (16, true)⟩, ⟨some 19, AOp.bin (BinOp.gtr) (Opd.tmp 18) (Opd.const (V.int (IntKind.i64) 0)), some (16, true)⟩, ⟨some 20, AOp.pick (Opd.tmp 16) (Opd.tmp 19) (Opd.const
    (V.bool false)), none⟩]) (ACode.cond (Opd.tmp 20) (ACode.skip) (ACode.exit 0))) (ACode.seq (ACode.block 1 (ACode.seq (ACode.region [⟨some 23, AOp.move (Opd.tmp 1), none⟩, ⟨some 24, AOp.move
    (Opd.tmp 6), none⟩, ⟨some 25, AOp.indexAddrS 1 (Opd.tmp 23) (Opd.tmp 24), none⟩, ⟨some 26, AOp.load (Opd.tmp 25), none⟩, ⟨some 27, AOp.call (Opd.func 19) [Opd.tmp 26, Opd.const (V.int
    (IntKind.i64) 9)], none⟩, ⟨some 7, AOp.move (Opd.tmp 27), none⟩]) (ACode.seq (ACode.region [⟨some 28, AOp.move (Opd.tmp 7), none⟩, ⟨some 29, AOp.move (Opd.tmp 0), none⟩, ⟨some 30, AOp.lenS
    (Opd.tmp 29), none⟩, ⟨some 31, AOp.minmax false [Opd.tmp 28, Opd.tmp 30], none⟩, ⟨some 7, AOp.move (Opd.tmp 31), none⟩]) (ACode.seq (ACode.region [⟨some 32, AOp.move (Opd.tmp 5), none⟩, ⟨some 33,
    AOp.move (Opd.tmp 0), none⟩, ⟨some 34, AOp.move (Opd.tmp 7), none⟩, ⟨some 35, AOp.sliceStr (Opd.tmp 33) none (some (Opd.tmp 34)), none⟩, ⟨some 36, AOp.strBytes 5 (Opd.tmp 35), none⟩, ⟨some 37,
    AOp.buildSlice 22 1 [V.nilslice] 1 [(0, 1, Opd.tmp 36)], none⟩, ⟨some 38, AOp.append 22 1 24 (Opd.tmp 32) (Opd.tmp 37), none⟩, ⟨some 5, AOp.move (Opd.tmp 38), none⟩]) (ACode.region [⟨some 39,
    AOp.move (Opd.tmp 0), none⟩, ⟨some 40, AOp.move (Opd.tmp 7), none⟩, ⟨some 41, AOp.sliceStr (Opd.tmp 39) (some (Opd.tmp 40)) none, none⟩, ⟨some 0, AOp.move (Opd.tmp 41), none⟩]))))) (ACode.region
    [⟨some 21, AOp.move (Opd.tmp 6), none⟩, ⟨some 22, AOp.bin (BinOp.add) (Opd.tmp 21) (Opd.const (V.int (IntKind.i64) 1)), none⟩, ⟨some 6, AOp.move (Opd.tmp 22), none⟩]))
theorem c20_l0_wr : c20_l0.wr = [8, 9, 10, 11, 12, 13, 14, 15, 16, 17, 18, 19, 20, 23, 24, 25, 26, 27, 7, 28, 29, 30, 31, 7, 32, 33, 34, 35, 36, 37, 38, 5, 39, 40, 41, 0, 21, 22, 6] := by kernel_rfl
/-- Function 20: portholehand.Cut. -/
def c20 : AFn :=
  ⟨47, [ARes.tmp 4], ACode.seq (ACode.region [⟨some 4, AOp.move (Opd.const (V.nilslice)), none⟩]) (ACode.seq (ACode.region [⟨some 5, AOp.move (Opd.const (V.nilslice)), none⟩]) (ACode.seq (ACode.seq
    (ACode.region [⟨some 6, AOp.move (Opd.const (V.int (IntKind.i64) 0)), none⟩]) (ACode.block 0 (ACode.loop c20_l0))) (ACode.seq (ACode.region [⟨some 42, AOp.move (Opd.tmp 5), none⟩, ⟨some 43,
    AOp.move (Opd.tmp 0), none⟩, ⟨some 44, AOp.strBytes 5 (Opd.tmp 43), none⟩, ⟨some 45, AOp.buildSlice 22 1 [V.nilslice] 1 [(0, 1, Opd.tmp 44)], none⟩, ⟨some 46, AOp.append 22 1 24 (Opd.tmp 42)
    (Opd.tmp 45), none⟩, ⟨some 4, AOp.move (Opd.tmp 46), none⟩]) (ACode.ret))))⟩
theorem h20 : compFn Tryd.prog Tryd.f20 = some c20 := by kernel_rfl
/-- A loop of function 21. -/
def c21_l0 : ACode :=
  ACode.seq (ACode.seq (ACode.region [⟨some 21, AOp.move (Opd.tmp 7), none⟩, ⟨some 22, AOp.bin (BinOp.gtr) (Opd.tmp 21) (Opd.const (V.int (IntKind.i64) 0)), none⟩]) (ACode.cond (Opd.tmp 22)
    (ACode.skip) (ACode.exit 0))) (ACode.seq (ACode.block 1 (ACode.seq (ACode.region [⟨some 25, AOp.move (Opd.tmp 5), none⟩, ⟨some 26, AOp.move (Opd.tmp 5), none⟩, ⟨some 27, AOp.lenL (Opd.tmp 26),
    none⟩, ⟨some 28, AOp.move (Opd.tmp 7), none⟩, ⟨some 29, AOp.bin (BinOp.sub) (Opd.tmp 27) (Opd.tmp 28), none⟩, ⟨some 30, AOp.sliceSl 1 (Opd.tmp 25) (some (Opd.tmp 29)) none none, none⟩, ⟨some 31,
    AOp.call (Opd.func 26) [Opd.tmp 30], none⟩]) (ACode.cond (Opd.tmp 31) (ACode.seq (ACode.region [⟨some 32, AOp.move (Opd.tmp 5), none⟩, ⟨some 33, AOp.lenL (Opd.tmp 32), none⟩, ⟨some 34, AOp.move
    (Opd.tmp 7), none⟩, ⟨some 35, AOp.bin (BinOp.sub) (Opd.tmp 33) (Opd.tmp 34), none⟩, ⟨some 6, AOp.move (Opd.tmp 35), none⟩]) (ACode.exit 0)) (ACode.skip)))) (ACode.region [⟨some 23, AOp.move
    (Opd.tmp 7), none⟩, ⟨some 24, AOp.bin (BinOp.sub) (Opd.tmp 23) (Opd.const (V.int (IntKind.i64) 1)), none⟩, ⟨some 7, AOp.move (Opd.tmp 24), none⟩]))
theorem c21_l0_wr : c21_l0.wr = [21, 22, 25, 26, 27, 28, 29, 30, 31, 32, 33, 34, 35, 6, 23, 24, 7] := by kernel_rfl
/-- Function 21: portholeref19.Decoder).Feed. -/
def c21 : AFn :=
  ⟨49, [ARes.tmp 4], ACode.seq (ACode.region [⟨some 4, AOp.move (Opd.const (V.nilslice)), none⟩]) (ACode.seq (ACode.region [⟨some 8, AOp.buildSlice 5 1 [V.int (IntKind.u8) 0] 0 [], none⟩, ⟨some 9,
    AOp.move (Opd.tmp 0), none⟩, ⟨some 10, AOp.nilCheck (Opd.tmp 9), none⟩, ⟨some 11, AOp.fieldAddr 0 (Opd.tmp 10), none⟩, ⟨some 12, AOp.load (Opd.tmp 11), none⟩, ⟨some 13, AOp.append 5 1 1 (Opd.tmp
    8) (Opd.tmp 12), none⟩, ⟨some 14, AOp.move (Opd.tmp 1), none⟩, ⟨some 15, AOp.append 5 1 1 (Opd.tmp 13) (Opd.tmp 14), none⟩, ⟨some 5, AOp.move (Opd.tmp 15), none⟩]) (ACode.seq (ACode.region [⟨some
    16, AOp.move (Opd.tmp 5), none⟩, ⟨some 17, AOp.lenL (Opd.tmp 16), none⟩, ⟨some 6, AOp.move (Opd.tmp 17), none⟩]) (ACode.seq (ACode.seq (ACode.region [⟨some 18, AOp.move (Opd.tmp 5), none⟩, ⟨some
    19, AOp.lenL (Opd.tmp 18), none⟩, ⟨some 20, AOp.minmax false [Opd.const (V.int (IntKind.i64) 3), Opd.tmp 19], none⟩, ⟨some 7, AOp.move (Opd.tmp 20), none⟩]) (ACode.block 0 (ACode.loop c21_l0)))
    (ACode.seq (ACode.region [⟨some 36, AOp.move (Opd.tmp 0), none⟩, ⟨some 37, AOp.buildSlice 5 1 [V.int (IntKind.u8) 0] 0 [], none⟩, ⟨some 38, AOp.move (Opd.tmp 5), none⟩, ⟨some 39, AOp.move (Opd.tmp
    6), none⟩, ⟨some 40, AOp.sliceSl 1 (Opd.tmp 38) (some (Opd.tmp 39)) none none, none⟩, ⟨some 41, AOp.append 5 1 1 (Opd.tmp 37) (Opd.tmp 40), none⟩, ⟨some 42, AOp.nilCheck (Opd.tmp 36), none⟩, ⟨some
    43, AOp.fieldAddr 0 (Opd.tmp 42), none⟩, ⟨none, AOp.store 1 (Opd.tmp 43) (Opd.tmp 41), none⟩]) (ACode.seq (ACode.region [⟨some 44, AOp.move (Opd.tmp 5), none⟩, ⟨some 45, AOp.move (Opd.tmp 6),
    none⟩, ⟨some 46, AOp.sliceSl 1 (Opd.tmp 44) none (some (Opd.tmp 45)) none, none⟩, ⟨some 47, AOp.bytesStr (Opd.tmp 46), none⟩, ⟨some 48, AOp.call (Opd.func 17) [Opd.tmp 47], none⟩, ⟨some 4,
    AOp.move (Opd.tmp 48), none⟩]) (ACode.ret))))))⟩
theorem h21 : compFn Tryd.prog Tryd.f21 = some c21 := by kernel_rfl
/-- A loop of function 22. -/
def c22_l0 : ACode :=
  ACode.seq (ACode.region [⟨some 10, AOp.bin (BinOp.lss) (Opd.tmp 9) (Opd.tmp 8), none⟩]) (ACode.seq (ACode.cond (Opd.tmp 10) (ACode.skip) (ACode.exit 0)) (ACode.seq (ACode.block 1 (ACode.region
    [⟨some 11, AOp.move (Opd.tmp 3), none⟩, ⟨some 12, AOp.buildSlice 21 1 [V.int (IntKind.i32) 0] 1 [(0, 1, Opd.const (V.int (IntKind.i32) 65533))], none⟩, ⟨some 13, AOp.append 21 1 4 (Opd.tmp 11)
    (Opd.tmp 12), none⟩, ⟨some 3, AOp.move (Opd.tmp 13), none⟩])) (ACode.region [⟨some 14, AOp.bin (BinOp.add) (Opd.tmp 9) (Opd.const (V.int (IntKind.i64) 1)), none⟩, ⟨some 9, AOp.move (Opd.tmp 14),
    none⟩])))
theorem c22_l0_wr : c22_l0.wr = [10, 11, 12, 13, 3, 14, 9] := by kernel_rfl
/-- Function 22: utf.Decoder).Flush. -/
def c22 : AFn :=
  ⟨19, [ARes.tmp 2], ACode.seq (ACode.region [⟨some 2, AOp.move (Opd.const (V.nilslice)), none⟩]) (ACode.seq (ACode.region [⟨some 3, AOp.move (Opd.const (V.nilslice)), none⟩]) (ACode.seq (ACode.seq
    (ACode.region [⟨some 4, AOp.move (Opd.tmp 0), none⟩, ⟨some 5, AOp.nilCheck (Opd.tmp 4), none⟩, ⟨some 6, AOp.fieldAddr 0 (Opd.tmp 5), none⟩, ⟨some 7, AOp.load (Opd.tmp 6), none⟩, ⟨some 8, AOp.lenL
    (Opd.tmp 7), none⟩, ⟨some 9, AOp.move (Opd.const (V.int (IntKind.i64) 0)), none⟩]) (ACode.block 0 (ACode.loop c22_l0))) (ACode.seq (ACode.region [⟨some 15, AOp.move (Opd.tmp 0), none⟩, ⟨some 16,
    AOp.nilCheck (Opd.tmp 15), none⟩, ⟨some 17, AOp.fieldAddr 0 (Opd.tmp 16), none⟩, ⟨none, AOp.store 1 (Opd.tmp 17) (Opd.const (V.nilslice)), none⟩]) (ACode.seq (ACode.region [⟨some 18, AOp.move
    (Opd.tmp 3), none⟩, ⟨some 2, AOp.move (Opd.tmp 18), none⟩]) (ACode.ret)))))⟩
theorem h22 : compFn Tryd.prog Tryd.f22 = some c22 := by kernel_rfl
/-- A loop of function 23. -/
def c23_l0 : ACode :=
  ACode.seq (ACode.seq (ACode.region [⟨some 5, AOp.move (Opd.tmp 4), none⟩, ⟨some 6, AOp.move (Opd.tmp 0), none⟩, ⟨some 7, AOp.nilCheck (Opd.tmp 6), none⟩, ⟨some 8, AOp.fieldAddr 0 (Opd.tmp 7), none⟩,
    ⟨some 9, AOp.load (Opd.tmp 8), none⟩, ⟨some 10, AOp.lenL (Opd.tmp 9), none⟩, ⟨some 11, AOp.bin (BinOp.lss) (Opd.tmp 5) (Opd.tmp 10), none⟩]) (ACode.cond (Opd.tmp 11) (ACode.skip) (ACode.exit 0)))
    (ACode.seq (ACode.block 1 (ACode.region [⟨some 14, AOp.move (Opd.tmp 3), none⟩, ⟨some 15, AOp.buildSlice 21 1 [V.int (IntKind.i32) 0] 1 [(0, 1, Opd.const (V.int (IntKind.i32) 65533))], none⟩,
    ⟨some 16, AOp.append 21 1 4 (Opd.tmp 14) (Opd.tmp 15), none⟩, ⟨some 3, AOp.move (Opd.tmp 16), none⟩])) (ACode.region [⟨some 12, AOp.move (Opd.tmp 4), none⟩, ⟨some 13, AOp.bin (BinOp.add) (Opd.tmp
    12) (Opd.const (V.int (IntKind.i64) 1)), none⟩, ⟨some 4, AOp.move (Opd.tmp 13), none⟩]))
theorem c23_l0_wr : c23_l0.wr = [5, 6, 7, 8, 9, 10, 11, 14, 15, 16, 3, 12, 13, 4] := by kernel_rfl
/-- Function 23: portholeref19.Decoder).Flush. -/
def c23 : AFn :=
  ⟨21, [ARes.tmp 2], ACode.seq (ACode.region [⟨some 2, AOp.move (Opd.const (V.nilslice)), none⟩]) (ACode.seq (ACode.region [⟨some 3, AOp.move (Opd.const (V.nilslice)), none⟩]) (ACode.seq (ACode.seq
    (ACode.region [⟨some 4, AOp.move (Opd.const (V.int (IntKind.i64) 0)), none⟩]) (ACode.block 0 (ACode.loop c23_l0))) (ACode.seq (ACode.region [⟨some 17, AOp.move (Opd.tmp 0), none⟩, ⟨some 18,
    AOp.nilCheck (Opd.tmp 17), none⟩, ⟨some 19, AOp.fieldAddr 0 (Opd.tmp 18), none⟩, ⟨none, AOp.store 1 (Opd.tmp 19) (Opd.const (V.nilslice)), none⟩]) (ACode.seq (ACode.region [⟨some 20, AOp.move
    (Opd.tmp 3), none⟩, ⟨some 2, AOp.move (Opd.tmp 20), none⟩]) (ACode.ret)))))⟩
theorem h23 : compFn Tryd.prog Tryd.f23 = some c23 := by kernel_rfl
/-- Function 24: utf8.RuneStart. -/
def c24 : AFn :=
  ⟨6, [ARes.tmp 2], ACode.seq (ACode.region [⟨some 2, AOp.move (Opd.const (V.bool false)), none⟩]) (ACode.seq (ACode.region [⟨some 3, AOp.move (Opd.tmp 0), none⟩, ⟨some 4, AOp.bin (BinOp.and) (Opd.tmp
    3) (Opd.const (V.int (IntKind.u8) 192)), none⟩, ⟨some 5, AOp.bin (BinOp.neq) (Opd.tmp 4) (Opd.const (V.int (IntKind.u8) 128)), none⟩, ⟨some 2, AOp.move (Opd.tmp 5), none⟩]) (ACode.ret))⟩
theorem h24 : compFn Tryd.prog Tryd.f24 = some c24 := by kernel_rfl
/-- Function 25: utf8.FullRune. -/
def c25 : AFn :=
  ⟨56, [ARes.tmp 2], ACode.seq (ACode.region [⟨some 2, AOp.move (Opd.const (V.bool false)), none⟩]) (ACode.seq (ACode.region [⟨some 6, AOp.move (Opd.tmp 0), none⟩, ⟨some 7, AOp.lenL (Opd.tmp 6),
    none⟩, ⟨some 3, AOp.move (Opd.tmp 7), none⟩]) (ACode.seq (ACode.seq (ACode.region [⟨some 8, AOp.move (Opd.tmp 3), none⟩, ⟨some 9, AOp.bin (BinOp.eql) (Opd.tmp 8) (Opd.const (V.int (IntKind.i64)
    0)), none⟩]) (ACode.cond (Opd.tmp 9) (ACode.seq (ACode.region [⟨some 2, AOp.move (Opd.const (V.bool false)), none⟩]) (ACode.ret)) (ACode.skip))) (ACode.seq (ACode.region [⟨some 10, AOp.move
    (Opd.tmp 0), none⟩, ⟨some 11, AOp.indexAddrS 1 (Opd.tmp 10) (Opd.const (V.int (IntKind.i64) 0)), none⟩, ⟨some 12, AOp.load (Opd.tmp 11), none⟩, ⟨some 13, AOp.indexAddrA 256 1 (Opd.glob 0) (Opd.tmp
    12), none⟩, ⟨some 14, AOp.load (Opd.tmp 13), none⟩, ⟨some 4, AOp.move (Opd.tmp 14), none⟩]) (ACode.seq (ACode.seq (ACode.region [⟨some 15, AOp.move (Opd.tmp 3), none⟩, ⟨some 16, AOp.move (Opd.tmp
    4), none⟩, ⟨some 17, AOp.bin (BinOp.and) (Opd.tmp 16) (Opd.const (V.int (IntKind.u8) 7)), none⟩, ⟨some 18, AOp.conv (IntKind.i64) (Opd.tmp 17), none⟩, ⟨some 19, AOp.bin (BinOp.geq) (Opd.tmp 15)
    (Opd.tmp 18), none⟩]) (ACode.cond (Opd.tmp 19) (ACode.seq (ACode.region [⟨some 2, AOp.move (Opd.const (V.bool true)), none⟩]) (ACode.ret)) (ACode.skip))) (ACode.seq (ACode.region [⟨some 20,
    AOp.move (Opd.tmp 4), none⟩, ⟨some 21, AOp.bin (BinOp.shr) (Opd.tmp 20) (Opd.const (V.int (IntKind.u64) 4)), none⟩, ⟨some 22, AOp.indexAddrA 16 2 (Opd.glob 1) (Opd.tmp 21), none⟩, ⟨some 23,
    AOp.loadn 2 (Opd.tmp 22), none⟩, ⟨some 5, AOp.box 55 1 [V.int (IntKind.u8) 0, V.int (IntKind.u8) 0], none⟩, ⟨none, AOp.store 2 (Opd.tmp 5) (Opd.tmp 23), none⟩]) (ACode.seq (ACode.seq
    (ACode.anyRegion [⟨some 24, AOp.move (Opd.tmp 3), none⟩, ⟨some 25, AOp.bin (BinOp.gtr) (Opd.tmp 24) (Opd.const (V.int (IntKind.i64) 1)), none⟩, ⟨some 26, AOp.move (Opd.tmp 25), none⟩, ⟨some 27,
    AOp.move (Opd.tmp 0), some (26, true)⟩, ⟨some 28, AOp.indexAddrS 1 (Opd.tmp 27) (Opd.const (V.int (IntKind.i64) 1)), some (26, true)⟩, ⟨some 29, AOp.load (Opd.tmp 28), some (26, true)⟩, ⟨some 30,
    AOp.fieldAddr 0 (Opd.tmp 5), some (26, true)⟩, ⟨some 31, AOp.load (Opd.tmp 30), some (26, true)⟩, ⟨some 32, AOp.bin (BinOp.lss) (Opd.tmp 29) (Opd.tmp 31), some (26, true)⟩, ⟨some 33, AOp.move
    (Opd.tmp 32), some (26, true)⟩, ⟨some 34, AOp.fieldAddr 1 (Opd.tmp 5), some (33, false)⟩, ⟨some 35, AOp.load (Opd.tmp 34), some (33, false)⟩, ⟨some 36, AOp.move (Opd.tmp 0), some (33, false)⟩,
    ⟨some 37, AOp.indexAddrS 1 (Opd.tmp 36) (Opd.const (V.int (IntKind.i64) 1)), some (33, false)⟩, ⟨some 38, AOp.load (Opd.tmp 37), some (33, false)⟩, ⟨some 39, AOp.bin (BinOp.lss) (Opd.tmp 35)
    (Opd.tmp 38), some (33, false)⟩, ⟨some 40, AOp.pick (Opd.tmp 33) (Opd.const (V.bool true)) (Opd.tmp 39), some (26, true)⟩, ⟨some 41, AOp.pick (Opd.tmp 26) (Opd.tmp 40) (Opd.const (V.bool false)),
    none⟩] []) (ACode.cond (Opd.tmp 41) (ACode.seq (ACode.region [⟨some 2, AOp.move (Opd.const (V.bool true)), none⟩]) (ACode.ret)) (ACode.seq (ACode.region [⟨some 42, AOp.move (Opd.tmp 3), none⟩,
    ⟨some 43, AOp.bin (BinOp.gtr) (Opd.tmp 42) (Opd.const (V.int (IntKind.i64) 2)), none⟩, ⟨some 44, AOp.move (Opd.tmp 43), none⟩, ⟨some 45, AOp.move (Opd.tmp 0), some (44, true)⟩, ⟨some 46,
    AOp.indexAddrS 1 (Opd.tmp 45) (Opd.const (V.int (IntKind.i64) 2)), some (44, true)⟩, ⟨some 47, AOp.load (Opd.tmp 46), some (44, true)⟩, ⟨some 48, AOp.bin (BinOp.lss) (Opd.tmp 47) (Opd.const (V.int
    (IntKind.u8) 128)), some (44, true)⟩, ⟨some 49, AOp.move (Opd.tmp 48), some (44, true)⟩, ⟨some 50, AOp.move (Opd.tmp 0), some (49, false)⟩, ⟨some 51, AOp.indexAddrS 1 (Opd.tmp 50) (Opd.const
    (V.int (IntKind.i64) 2)), some (49, false)⟩, ⟨some 52, AOp.load (Opd.tmp 51), some (49, false)⟩, ⟨some 53, AOp.bin (BinOp.lss) (Opd.const (V.int (IntKind.u8) 191)) (Opd.tmp 52), some (49, false)⟩,
    ⟨some 54, AOp.pick (Opd.tmp 49) (Opd.const (V.bool true)) (Opd.tmp 53), some (44, true)⟩, ⟨some 55, AOp.pick (Opd.tmp 44) (Opd.tmp 54) (Opd.const (V.bool false)), none⟩]) (ACode.cond (Opd.tmp 55)
    (ACode.seq (ACode.region [⟨some 2, AOp.move (Opd.const (V.bool true)), none⟩]) (ACode.ret)) (ACode.skip))))) (ACode.seq (ACode.region [⟨some 2, AOp.move (Opd.const (V.bool false)), none⟩])
    (ACode.ret))))))))⟩
theorem h25 : compFn Tryd.prog Tryd.f25 = some c25 := by kernel_rfl
/-- A loop of function 26. -/
def c26_l0 : ACode :=
  ACode.seq (ACode.seq (ACode.region [⟨some 52, AOp.move (Opd.tmp 7), none⟩, ⟨some 53, AOp.move (Opd.tmp 0), none⟩, ⟨some 54, AOp.lenL (Opd.tmp 53), none⟩, ⟨some 55, AOp.bin (BinOp.lss) (Opd.tmp 52)
    (Opd.tmp 54), none⟩]) (ACode.cond (Opd.tmp 55) (ACode.skip) (ACode.exit 1))) (ACode.seq (ACode.block 2 (ACode.seq (ACode.seq (ACode.region [⟨some 58, AOp.move (Opd.tmp 0), none⟩, ⟨some 59,
    AOp.move (Opd.tmp 7), none⟩, ⟨some 60, AOp.indexAddrS 1 (Opd.tmp 58) (Opd.tmp 59), none⟩, ⟨some 61, AOp.load (Opd.tmp 60), none⟩, ⟨some 62, AOp.move (Opd.tmp 5), none⟩, ⟨some 63, AOp.bin
    (BinOp.lss) (Opd.tmp 61) (Opd.tmp 62), none⟩, ⟨some 64, AOp.move (Opd.tmp 63), none⟩, ⟨some 65, AOp.move (Opd.tmp 0), some (64, false)⟩, ⟨some 66, AOp.move (Opd.tmp 7), some (64, false)⟩, ⟨some
    67, AOp.indexAddrS 1 (Opd.tmp 65) (Opd.tmp 66), some (64, false)⟩, ⟨some 68, AOp.load (Opd.tmp 67), some (64, false)⟩, ⟨some 69, AOp.move (Opd.tmp 6), some (64, false)⟩, ⟨some 70, AOp.bin
    (BinOp.gtr) (Opd.tmp 68) (Opd.tmp 69), some (64, false)⟩, ⟨some 71, AOp.pick (Opd.tmp 64) (Opd.const (V.bool true)) (Opd.tmp 70), none⟩]) (ACode.cond (Opd.tmp 71) (ACode.seq (ACode.region [⟨some
    2, AOp.move (Opd.const (V.bool false)), none⟩]) (ACode.ret)) (ACode.skip))) (ACode.seq (ACode.region [⟨some 5, AOp.move (Opd.const (V.int (IntKind.u8) 128)), none⟩]) (ACode.region [⟨some 6,
    AOp.move (Opd.const (V.int (IntKind.u8) 191)), none⟩])))) (ACode.region [⟨some 56, AOp.move (Opd.tmp 7), none⟩, ⟨some 57, AOp.bin (BinOp.add) (Opd.tmp 56) (Opd.const (V.int (IntKind.i64) 1)),
    none⟩, ⟨some 7, AOp.move (Opd.tmp 57), none⟩]))
theorem c26_l0_wr : c26_l0.wr = [52, 53, 54, 55, 58, 59, 60, 61, 62, 63, 64, 65, 66, 67, 68, 69, 70, 71, 2, 5, 6, 56, 57, 7] := by kernel_rfl
/-- What follows in function 26. -/
def c26_s7 : ACode :=
  ACode.seq (ACode.seq (ACode.region [⟨some 48, AOp.move (Opd.tmp 0), none⟩, ⟨some 49, AOp.lenL (Opd.tmp 48), none⟩, ⟨some 50, AOp.move (Opd.tmp 4), none⟩, ⟨some 51, AOp.bin (BinOp.geq) (Opd.tmp 49)
    (Opd.tmp 50), none⟩]) (ACode.cond (Opd.tmp 51) (ACode.seq (ACode.region [⟨some 2, AOp.move (Opd.const (V.bool false)), none⟩]) (ACode.ret)) (ACode.skip))) (ACode.seq (ACode.seq (ACode.region
    [⟨some 7, AOp.move (Opd.const (V.int (IntKind.i64) 1)), none⟩]) (ACode.block 1 (ACode.loop c26_l0))) (ACode.seq (ACode.region [⟨some 2, AOp.move (Opd.const (V.bool true)), none⟩]) (ACode.ret)))
/-- Function 26: portholeref19.may. -/
def c26 : AFn :=
  ⟨72, [ARes.tmp 2], ACode.seq (ACode.region [⟨some 2, AOp.move (Opd.const (V.bool false)), none⟩]) (ACode.seq (ACode.seq (ACode.region [⟨some 8, AOp.move (Opd.tmp 0), none⟩, ⟨some 9, AOp.lenL
    (Opd.tmp 8), none⟩, ⟨some 10, AOp.bin (BinOp.eql) (Opd.tmp 9) (Opd.const (V.int (IntKind.i64) 0)), none⟩, ⟨some 11, AOp.move (Opd.tmp 10), none⟩, ⟨some 12, AOp.move (Opd.tmp 0), some (11, false)⟩,
    ⟨some 13, AOp.lenL (Opd.tmp 12), some (11, false)⟩, ⟨some 14, AOp.bin (BinOp.gtr) (Opd.tmp 13) (Opd.const (V.int (IntKind.i64) 3)), some (11, false)⟩, ⟨some 15, AOp.pick (Opd.tmp 11) (Opd.const
    (V.bool true)) (Opd.tmp 14), none⟩]) (ACode.cond (Opd.tmp 15) (ACode.seq (ACode.region [⟨some 2, AOp.move (Opd.const (V.bool false)), none⟩]) (ACode.ret)) (ACode.skip))) (ACode.seq (ACode.region
    [⟨some 16, AOp.move (Opd.tmp 0), none⟩, ⟨some 17, AOp.indexAddrS 1 (Opd.tmp 16) (Opd.const (V.int (IntKind.i64) 0)), none⟩, ⟨some 18, AOp.load (Opd.tmp 17), none⟩, ⟨some 3, AOp.move (Opd.tmp 18),
    none⟩]) (ACode.seq (ACode.region [⟨some 4, AOp.move (Opd.const (V.int (IntKind.i64) 0)), none⟩]) (ACode.seq (ACode.region [⟨some 5, AOp.move (Opd.const (V.int (IntKind.u8) 128)), none⟩])
    (ACode.seq (ACode.region [⟨some 6, AOp.move (Opd.const (V.int (IntKind.u8) 191)), none⟩]) (ACode.seq (ACode.block 0 (ACode.seq (ACode.region [⟨some 20, AOp.move (Opd.tmp 3), none⟩, ⟨some 21,
    AOp.bin (BinOp.geq) (Opd.tmp 20) (Opd.const (V.int (IntKind.u8) 194)), none⟩, ⟨some 22, AOp.move (Opd.tmp 21), none⟩, ⟨some 23, AOp.move (Opd.tmp 3), some (22, true)⟩, ⟨some 24, AOp.bin
    (BinOp.leq) (Opd.tmp 23) (Opd.const (V.int (IntKind.u8) 223)), some (22, true)⟩, ⟨some 25, AOp.pick (Opd.tmp 22) (Opd.tmp 24) (Opd.const (V.bool false)), none⟩, ⟨some 19, AOp.move (Opd.tmp 25),
    none⟩]) (ACode.cond (Opd.tmp 19) (ACode.region [⟨some 4, AOp.move (Opd.const (V.int (IntKind.i64) 2)), none⟩]) (ACode.seq (ACode.region [⟨some 27, AOp.move (Opd.tmp 3), none⟩, ⟨some 28, AOp.bin
    (BinOp.geq) (Opd.tmp 27) (Opd.const (V.int (IntKind.u8) 224)), none⟩, ⟨some 29, AOp.move (Opd.tmp 28), none⟩, ⟨some 30, AOp.move (Opd.tmp 3), some (29, true)⟩, ⟨some 31, AOp.bin (BinOp.leq)
    (Opd.tmp 30) (Opd.const (V.int (IntKind.u8) 239)), some (29, true)⟩, ⟨some 32, AOp.pick (Opd.tmp 29) (Opd.tmp 31) (Opd.const (V.bool false)), none⟩, ⟨some 26, AOp.move (Opd.tmp 32), none⟩])
    (ACode.cond (Opd.tmp 26) (ACode.seq (ACode.region [⟨some 4, AOp.move (Opd.const (V.int (IntKind.i64) 3)), none⟩]) (ACode.seq (ACode.seq (ACode.region [⟨some 33, AOp.move (Opd.tmp 3), none⟩, ⟨some
    34, AOp.bin (BinOp.eql) (Opd.tmp 33) (Opd.const (V.int (IntKind.u8) 224)), none⟩]) (ACode.cond (Opd.tmp 34) (ACode.region [⟨some 5, AOp.move (Opd.const (V.int (IntKind.u8) 160)), none⟩])
    (ACode.skip))) (ACode.seq (ACode.region [⟨some 35, AOp.move (Opd.tmp 3), none⟩, ⟨some 36, AOp.bin (BinOp.eql) (Opd.tmp 35) (Opd.const (V.int (IntKind.u8) 237)), none⟩]) (ACode.cond (Opd.tmp 36)
    (ACode.region [⟨some 6, AOp.move (Opd.const (V.int (IntKind.u8) 159)), none⟩]) (ACode.skip))))) (ACode.seq (ACode.region [⟨some 38, AOp.move (Opd.tmp 3), none⟩, ⟨some 39, AOp.bin (BinOp.geq)
    (Opd.tmp 38) (Opd.const (V.int (IntKind.u8) 240)), none⟩, ⟨some 40, AOp.move (Opd.tmp 39), none⟩, ⟨some 41, AOp.move (Opd.tmp 3), some (40, true)⟩, ⟨some 42, AOp.bin (BinOp.leq) (Opd.tmp 41)
    (Opd.const (V.int (IntKind.u8) 244)), some (40, true)⟩, ⟨some 43, AOp.pick (Opd.tmp 40) (Opd.tmp 42) (Opd.const (V.bool false)), none⟩, ⟨some 37, AOp.move (Opd.tmp 43), none⟩]) (ACode.cond
    (Opd.tmp 37) (ACode.seq (ACode.region [⟨some 4, AOp.move (Opd.const (V.int (IntKind.i64) 4)), none⟩]) (ACode.seq (ACode.seq (ACode.region [⟨some 44, AOp.move (Opd.tmp 3), none⟩, ⟨some 45, AOp.bin
    (BinOp.eql) (Opd.tmp 44) (Opd.const (V.int (IntKind.u8) 240)), none⟩]) (ACode.cond (Opd.tmp 45) (ACode.region [⟨some 5, AOp.move (Opd.const (V.int (IntKind.u8) 144)), none⟩]) (ACode.skip)))
    (ACode.seq (ACode.region [⟨some 46, AOp.move (Opd.tmp 3), none⟩, ⟨some 47, AOp.bin (BinOp.eql) (Opd.tmp 46) (Opd.const (V.int (IntKind.u8) 244)), none⟩]) (ACode.cond (Opd.tmp 47) (ACode.region
    [⟨some 6, AOp.move (Opd.const (V.int (IntKind.u8) 143)), none⟩]) (ACode.skip))))) (ACode.skip)))))))) c26_s7))))))⟩
theorem h26 : compFn Tryd.prog Tryd.f26 = some c26 := by kernel_rfl
/-- What the laid variables hold. -/
def laidVals : List (Nat × List V) :=
  [(1, [V.int .u8 128, V.int .u8 191, V.int .u8 160, V.int .u8 191, V.int .u8 128, V.int .u8 159, V.int .u8 144, V.int .u8 191, V.int .u8 128, V.int .u8 143, V.int .u8 0,
    V.int .u8 0, V.int .u8 0, V.int .u8 0, V.int .u8 0, V.int .u8 0, V.int .u8 0, V.int .u8 0, V.int .u8 0, V.int .u8 0, V.int .u8 0, V.int .u8 0, V.int .u8 0,
    V.int .u8 0, V.int .u8 0, V.int .u8 0, V.int .u8 0, V.int .u8 0, V.int .u8 0, V.int .u8 0, V.int .u8 0, V.int .u8 0]),
   (0, [V.int .u8 240, V.int .u8 240,
    V.int .u8 240, V.int .u8 240, V.int .u8 240, V.int .u8 240, V.int .u8 240, V.int .u8 240, V.int .u8 240, V.int .u8 240, V.int .u8 240, V.int .u8 240, V.int .u8 240,
    V.int .u8 240, V.int .u8 240, V.int .u8 240, V.int .u8 240, V.int .u8 240, V.int .u8 240, V.int .u8 240, V.int .u8 240, V.int .u8 240, V.int .u8 240, V.int .u8 240,
    V.int .u8 240, V.int .u8 240, V.int .u8 240, V.int .u8 240, V.int .u8 240, V.int .u8 240, V.int .u8 240, V.int .u8 240, V.int .u8 240, V.int .u8 240, V.int .u8 240,
    V.int .u8 240, V.int .u8 240, V.int .u8 240, V.int .u8 240, V.int .u8 240, V.int .u8 240, V.int .u8 240, V.int .u8 240, V.int .u8 240, V.int .u8 240, V.int .u8 240,
    V.int .u8 240, V.int .u8 240, V.int .u8 240, V.int .u8 240, V.int .u8 240, V.int .u8 240, V.int .u8 240, V.int .u8 240, V.int .u8 240, V.int .u8 240, V.int .u8 240,
    V.int .u8 240, V.int .u8 240, V.int .u8 240, V.int .u8 240, V.int .u8 240, V.int .u8 240, V.int .u8 240, V.int .u8 240, V.int .u8 240, V.int .u8 240, V.int .u8 240,
    V.int .u8 240, V.int .u8 240, V.int .u8 240, V.int .u8 240, V.int .u8 240, V.int .u8 240, V.int .u8 240, V.int .u8 240, V.int .u8 240, V.int .u8 240, V.int .u8 240,
    V.int .u8 240, V.int .u8 240, V.int .u8 240, V.int .u8 240, V.int .u8 240, V.int .u8 240, V.int .u8 240, V.int .u8 240, V.int .u8 240, V.int .u8 240, V.int .u8 240,
    V.int .u8 240, V.int .u8 240, V.int .u8 240, V.int .u8 240, V.int .u8 240, V.int .u8 240, V.int .u8 240, V.int .u8 240, V.int .u8 240, V.int .u8 240, V.int .u8 240,
    V.int .u8 240, V.int .u8 240, V.int .u8 240, V.int .u8 240, V.int .u8 240, V.int .u8 240, V.int .u8 240, V.int .u8 240, V.int .u8 240, V.int .u8 240, V.int .u8 240,
    V.int .u8 240, V.int .u8 240, V.int .u8 240, V.int .u8 240, V.int .u8 240, V.int .u8 240, V.int .u8 240, V.int .u8 240, V.int .u8 240, V.int .u8 240, V.int .u8 240,
    V.int .u8 240, V.int .u8 240, V.int .u8 240, V.int .u8 240, V.int .u8 240, V.int .u8 241, V.int .u8 241, V.int .u8 241, V.int .u8 241, V.int .u8 241, V.int .u8 241,
    V.int .u8 241, V.int .u8 241, V.int .u8 241, V.int .u8 241, V.int .u8 241, V.int .u8 241, V.int .u8 241, V.int .u8 241, V.int .u8 241, V.int .u8 241, V.int .u8 241,
    V.int .u8 241, V.int .u8 241, V.int .u8 241, V.int .u8 241, V.int .u8 241, V.int .u8 241, V.int .u8 241, V.int .u8 241, V.int .u8 241, V.int .u8 241, V.int .u8 241,
    V.int .u8 241, V.int .u8 241, V.int .u8 241, V.int .u8 241, V.int .u8 241, V.int .u8 241, V.int .u8 241, V.int .u8 241, V.int .u8 241, V.int .u8 241, V.int .u8 241,
    V.int .u8 241, V.int .u8 241, V.int .u8 241, V.int .u8 241, V.int .u8 241, V.int .u8 241, V.int .u8 241, V.int .u8 241, V.int .u8 241, V.int .u8 241, V.int .u8 241,
    V.int .u8 241, V.int .u8 241, V.int .u8 241, V.int .u8 241, V.int .u8 241, V.int .u8 241, V.int .u8 241, V.int .u8 241, V.int .u8 241, V.int .u8 241, V.int .u8 241,
    V.int .u8 241, V.int .u8 241, V.int .u8 241, V.int .u8 241, V.int .u8 241, V.int .u8 2, V.int .u8 2, V.int .u8 2, V.int .u8 2, V.int .u8 2, V.int .u8 2, V.int .u8 2,
    V.int .u8 2, V.int .u8 2, V.int .u8 2, V.int .u8 2, V.int .u8 2, V.int .u8 2, V.int .u8 2, V.int .u8 2, V.int .u8 2, V.int .u8 2, V.int .u8 2, V.int .u8 2,
    V.int .u8 2, V.int .u8 2, V.int .u8 2, V.int .u8 2, V.int .u8 2, V.int .u8 2, V.int .u8 2, V.int .u8 2, V.int .u8 2, V.int .u8 2, V.int .u8 2, V.int .u8 19,
    V.int .u8 3, V.int .u8 3, V.int .u8 3, V.int .u8 3, V.int .u8 3, V.int .u8 3, V.int .u8 3, V.int .u8 3, V.int .u8 3, V.int .u8 3, V.int .u8 3, V.int .u8 3,
    V.int .u8 35, V.int .u8 3, V.int .u8 3, V.int .u8 52, V.int .u8 4, V.int .u8 4, V.int .u8 4, V.int .u8 68, V.int .u8 241, V.int .u8 241, V.int .u8 241, V.int .u8 241,
    V.int .u8 241, V.int .u8 241, V.int .u8 241, V.int .u8 241, V.int .u8 241, V.int .u8 241, V.int .u8 241])]
def tab (f : Nat) : Option AFn :=
  if f = 6 then some c6 else if f = 9 then some c9 else if f = 10 then some c10 else if f = 12 then some c12 else if f = 13 then some c13 else if f = 14 then some c14 else if f = 15 then some c15 else if f = 16 then some c16 else if f = 17 then some c17 else if f = 19 then some c19 else if f = 20 then some c20 else if f = 21 then some c21 else if f = 22 then some c22 else if f = 23 then some c23 else if f = 24 then some c24 else if f = 25 then some c25 else if f = 26 then some c26 else none
theorem tab_holds : Holds Tryd.prog tab := by
  intro f fn hf
  unfold tab at hf
  by_cases e6 : f = 6
  · rw [if_pos e6] at hf; subst e6; cases hf; exact ⟨_, Tryd.func6, h6⟩
  rw [if_neg e6] at hf
  by_cases e9 : f = 9
  · rw [if_pos e9] at hf; subst e9; cases hf; exact ⟨_, Tryd.func9, h9⟩
  rw [if_neg e9] at hf
  by_cases e10 : f = 10
  · rw [if_pos e10] at hf; subst e10; cases hf; exact ⟨_, Tryd.func10, h10⟩
  rw [if_neg e10] at hf
  by_cases e12 : f = 12
  · rw [if_pos e12] at hf; subst e12; cases hf; exact ⟨_, Tryd.func12, h12⟩
  rw [if_neg e12] at hf
  by_cases e13 : f = 13
  · rw [if_pos e13] at hf; subst e13; cases hf; exact ⟨_, Tryd.func13, h13⟩
  rw [if_neg e13] at hf
  by_cases e14 : f = 14
  · rw [if_pos e14] at hf; subst e14; cases hf; exact ⟨_, Tryd.func14, h14⟩
  rw [if_neg e14] at hf
  by_cases e15 : f = 15
  · rw [if_pos e15] at hf; subst e15; cases hf; exact ⟨_, Tryd.func15, h15⟩
  rw [if_neg e15] at hf
  by_cases e16 : f = 16
  · rw [if_pos e16] at hf; subst e16; cases hf; exact ⟨_, Tryd.func16, h16⟩
  rw [if_neg e16] at hf
  by_cases e17 : f = 17
  · rw [if_pos e17] at hf; subst e17; cases hf; exact ⟨_, Tryd.func17, h17⟩
  rw [if_neg e17] at hf
  by_cases e19 : f = 19
  · rw [if_pos e19] at hf; subst e19; cases hf; exact ⟨_, Tryd.func19, h19⟩
  rw [if_neg e19] at hf
  by_cases e20 : f = 20
  · rw [if_pos e20] at hf; subst e20; cases hf; exact ⟨_, Tryd.func20, h20⟩
  rw [if_neg e20] at hf
  by_cases e21 : f = 21
  · rw [if_pos e21] at hf; subst e21; cases hf; exact ⟨_, Tryd.func21, h21⟩
  rw [if_neg e21] at hf
  by_cases e22 : f = 22
  · rw [if_pos e22] at hf; subst e22; cases hf; exact ⟨_, Tryd.func22, h22⟩
  rw [if_neg e22] at hf
  by_cases e23 : f = 23
  · rw [if_pos e23] at hf; subst e23; cases hf; exact ⟨_, Tryd.func23, h23⟩
  rw [if_neg e23] at hf
  by_cases e24 : f = 24
  · rw [if_pos e24] at hf; subst e24; cases hf; exact ⟨_, Tryd.func24, h24⟩
  rw [if_neg e24] at hf
  by_cases e25 : f = 25
  · rw [if_pos e25] at hf; subst e25; cases hf; exact ⟨_, Tryd.func25, h25⟩
  rw [if_neg e25] at hf
  by_cases e26 : f = 26
  · rw [if_pos e26] at hf; subst e26; cases hf; exact ⟨_, Tryd.func26, h26⟩
  rw [if_neg e26] at hf
  cases hf
end Go.Proofs.YtpegpafginbhmaaDoor.UtfFeeds
