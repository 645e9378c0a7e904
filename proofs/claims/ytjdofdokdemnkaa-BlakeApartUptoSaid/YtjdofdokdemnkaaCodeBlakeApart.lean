/- The functions that the law BlakeApart reaches, as the abstract machine has them. No condition. -/
import Derived.Test.YtjdofdokdemnkaaA43
import Derived.KernelRfl
namespace Go.Proofs.Ytjdofdokdemnkaa.BlakeApart
open Go Go.Proofs.YtjdofdokdemnkaaA
/-- A loop of function 9. -/
def c9_l0 : ACode :=
  ACode.seq (ACode.seq (ACode.region [⟨some 22, AOp.move (Opd.tmp 9), none⟩, ⟨some 23, AOp.bin (BinOp.lss) (Opd.tmp 22) (Opd.const (V.int (IntKind.i64) 12)), none⟩]) (ACode.cond (Opd.tmp 23)
    (ACode.skip) (ACode.exit 0))) (ACode.seq (ACode.block 1 (ACode.seq (ACode.seq (ACode.region [⟨some 26, AOp.move (Opd.tmp 9), none⟩, ⟨some 27, AOp.move (Opd.tmp 0), none⟩, ⟨some 28, AOp.lenL
    (Opd.tmp 27), none⟩, ⟨some 29, AOp.bin (BinOp.lss) (Opd.tmp 26) (Opd.tmp 28), none⟩]) (ACode.cond (Opd.tmp 29) (ACode.seq (ACode.region [⟨some 30, AOp.move (Opd.tmp 5), none⟩, ⟨some 31, AOp.move
    (Opd.tmp 0), none⟩, ⟨some 32, AOp.move (Opd.tmp 9), none⟩, ⟨some 33, AOp.indexAddrS 1 (Opd.tmp 31) (Opd.tmp 32), none⟩, ⟨some 34, AOp.load (Opd.tmp 33), none⟩, ⟨some 35, AOp.call (Opd.func 19)
    [Opd.tmp 30, Opd.tmp 34], none⟩]) (ACode.region [⟨some 36, AOp.move (Opd.tmp 7), none⟩, ⟨some 37, AOp.move (Opd.tmp 0), none⟩, ⟨some 38, AOp.move (Opd.tmp 9), none⟩, ⟨some 39, AOp.indexAddrS 1
    (Opd.tmp 37) (Opd.tmp 38), none⟩, ⟨some 40, AOp.load (Opd.tmp 39), none⟩, ⟨some 41, AOp.append 5 1 1 (Opd.tmp 36) (Opd.tmp 40), none⟩, ⟨some 7, AOp.move (Opd.tmp 41), none⟩])) (ACode.skip)))
    (ACode.seq (ACode.seq (ACode.region [⟨some 42, AOp.move (Opd.tmp 9), none⟩, ⟨some 43, AOp.move (Opd.tmp 1), none⟩, ⟨some 44, AOp.lenL (Opd.tmp 43), none⟩, ⟨some 45, AOp.bin (BinOp.lss) (Opd.tmp
    42) (Opd.tmp 44), none⟩]) (ACode.cond (Opd.tmp 45) (ACode.seq (ACode.region [⟨some 46, AOp.move (Opd.tmp 6), none⟩, ⟨some 47, AOp.move (Opd.tmp 1), none⟩, ⟨some 48, AOp.move (Opd.tmp 9), none⟩,
    ⟨some 49, AOp.indexAddrS 1 (Opd.tmp 47) (Opd.tmp 48), none⟩, ⟨some 50, AOp.load (Opd.tmp 49), none⟩, ⟨some 51, AOp.call (Opd.func 19) [Opd.tmp 46, Opd.tmp 50], none⟩]) (ACode.region [⟨some 52,
    AOp.move (Opd.tmp 8), none⟩, ⟨some 53, AOp.move (Opd.tmp 1), none⟩, ⟨some 54, AOp.move (Opd.tmp 9), none⟩, ⟨some 55, AOp.indexAddrS 1 (Opd.tmp 53) (Opd.tmp 54), none⟩, ⟨some 56, AOp.load (Opd.tmp
    55), none⟩, ⟨some 57, AOp.append 5 1 1 (Opd.tmp 52) (Opd.tmp 56), none⟩, ⟨some 8, AOp.move (Opd.tmp 57), none⟩])) (ACode.skip))) (ACode.seq (ACode.region [⟨some 58, AOp.move (Opd.tmp 5), none⟩,
    ⟨some 59, AOp.call (Opd.func 18) [Opd.tmp 58], none⟩, ⟨some 60, AOp.move (Opd.tmp 7), none⟩, ⟨some 61, AOp.buildSlice 28 1 [V.nilslice] 1 [(0, 1, Opd.tmp 60)], none⟩, ⟨some 62, AOp.call (Opd.func
    20) [Opd.tmp 61], none⟩, ⟨some 63, AOp.eqArr true 32 (Opd.tmp 59) (Opd.tmp 62), none⟩, ⟨some 64, AOp.move (Opd.tmp 63), none⟩, ⟨some 65, AOp.move (Opd.tmp 6), some (64, false)⟩, ⟨some 66, AOp.call
    (Opd.func 18) [Opd.tmp 65], some (64, false)⟩, ⟨some 67, AOp.move (Opd.tmp 8), some (64, false)⟩, ⟨some 68, AOp.buildSlice 28 1 [V.nilslice] 1 [(0, 1, Opd.tmp 67)], some (64, false)⟩, ⟨some 69,
    AOp.call (Opd.func 20) [Opd.tmp 68], some (64, false)⟩, ⟨some 70, AOp.eqArr true 32 (Opd.tmp 66) (Opd.tmp 69), some (64, false)⟩, ⟨some 71, AOp.pick (Opd.tmp 64) (Opd.const (V.bool true)) (Opd.tmp
    70), none⟩]) (ACode.cond (Opd.tmp 71) (ACode.seq (ACode.region [⟨some 4, AOp.move (Opd.const (V.bool false)), none⟩]) (ACode.ret)) (ACode.skip)))))) (ACode.region [⟨some 24, AOp.move (Opd.tmp 9),
    none⟩, ⟨some 25, AOp.bin (BinOp.add) (Opd.tmp 24) (Opd.const (V.int (IntKind.i64) 1)), none⟩, ⟨some 9, AOp.move (Opd.tmp 25), none⟩]))
theorem c9_l0_wr : c9_l0.wr = [22, 23, 26, 27, 28, 29, 30, 31, 32, 33, 34, 35, 36, 37, 38, 39, 40, 41, 7, 42, 43, 44, 45, 46, 47, 48, 49, 50, 51, 52, 53, 54, 55, 56, 57, 8, 58, 59, 60, 61, 62, 63, 64, 65, 66, 67, 68, 69, 70, 71, 4, 24, 25, 9] := by kernel_rfl
/-- Function 9: portholelaw7.BlakeApart. -/
def c9 : AFn :=
  ⟨80, [ARes.tmp 4], ACode.seq (ACode.region [⟨some 4, AOp.move (Opd.const (V.bool false)), none⟩]) (ACode.seq (ACode.region [⟨some 10, AOp.call (Opd.func 16) [], none⟩, ⟨some 5, AOp.move (Opd.tmp
    10), none⟩]) (ACode.seq (ACode.region [⟨some 11, AOp.call (Opd.func 16) [], none⟩, ⟨some 6, AOp.move (Opd.tmp 11), none⟩]) (ACode.seq (ACode.seq (ACode.region [⟨some 12, AOp.call (Opd.func 17) [],
    none⟩, ⟨some 13, AOp.un (UnOp.not) (Opd.tmp 12), none⟩, ⟨some 14, AOp.move (Opd.tmp 13), none⟩, ⟨some 15, AOp.move (Opd.tmp 5), some (14, false)⟩, ⟨some 16, AOp.eq false (EqKind.ptr) (Opd.tmp 15)
    (Opd.const (V.nilptr)), some (14, false)⟩, ⟨some 17, AOp.pick (Opd.tmp 14) (Opd.const (V.bool true)) (Opd.tmp 16), none⟩, ⟨some 18, AOp.move (Opd.tmp 17), none⟩, ⟨some 19, AOp.move (Opd.tmp 6),
    some (18, false)⟩, ⟨some 20, AOp.eq false (EqKind.ptr) (Opd.tmp 19) (Opd.const (V.nilptr)), some (18, false)⟩, ⟨some 21, AOp.pick (Opd.tmp 18) (Opd.const (V.bool true)) (Opd.tmp 20), none⟩])
    (ACode.cond (Opd.tmp 21) (ACode.seq (ACode.region [⟨some 4, AOp.move (Opd.const (V.bool false)), none⟩]) (ACode.ret)) (ACode.skip))) (ACode.seq (ACode.region [⟨some 7, AOp.move (Opd.const
    (V.nilslice)), none⟩, ⟨some 8, AOp.move (Opd.const (V.nilslice)), none⟩]) (ACode.seq (ACode.seq (ACode.region [⟨some 9, AOp.move (Opd.const (V.int (IntKind.i64) 0)), none⟩]) (ACode.block 0
    (ACode.loop c9_l0))) (ACode.seq (ACode.anyRegion [⟨some 72, AOp.move (Opd.tmp 7), none⟩, ⟨some 73, AOp.move (Opd.tmp 7), none⟩, ⟨some 74, AOp.lenL (Opd.tmp 73), none⟩, ⟨some 75, AOp.call (Opd.func
    21) [Opd.tmp 72, Opd.tmp 74], none⟩, ⟨some 76, AOp.bytesStr (Opd.tmp 75), none⟩, ⟨some 77, AOp.move (Opd.tmp 7), none⟩, ⟨some 78, AOp.bytesStr (Opd.tmp 77), none⟩, ⟨some 79, AOp.bin (BinOp.eql)
    (Opd.tmp 76) (Opd.tmp 78), none⟩, ⟨some 4, AOp.move (Opd.tmp 79), none⟩] [(6, 0)]) (ACode.ret)))))))⟩
theorem h9 : compFn Try.prog Try.f9 = some c9 := by kernel_rfl
/-- Function 16: blake.New. -/
def c16 : AFn :=
  ⟨15, [ARes.tmp 0], ACode.seq (ACode.region [⟨some 0, AOp.move (Opd.const (V.nilptr)), none⟩]) (ACode.seq (ACode.region [⟨some 2, AOp.call (Opd.func 27) [], none⟩, ⟨some 3, AOp.build [V.int
    (IntKind.u32) 0, V.int (IntKind.u32) 0, V.int (IntKind.u32) 0, V.int (IntKind.u32) 0, V.int (IntKind.u32) 0, V.int (IntKind.u32) 0, V.int (IntKind.u32) 0, V.int (IntKind.u32) 0, V.int
    (IntKind.u64) 0, V.nilslice] [(0, 8, Opd.tmp 2)], none⟩, ⟨some 4, AOp.boxv 57 1 (Opd.tmp 3), none⟩, ⟨some 1, AOp.move (Opd.tmp 4), none⟩]) (ACode.seq (ACode.anyRegion [⟨some 5, AOp.move (Opd.tmp
    1), none⟩, ⟨some 6, AOp.nilCheck (Opd.tmp 5), none⟩, ⟨some 7, AOp.fieldAddr 0 (Opd.tmp 6), none⟩, ⟨some 8, AOp.indexAddrA 8 1 (Opd.tmp 7) (Opd.const (V.int (IntKind.i64) 0)), none⟩, ⟨some 9,
    AOp.load (Opd.tmp 8), none⟩, ⟨some 10, AOp.bin (BinOp.xor) (Opd.tmp 9) (Opd.const (V.int (IntKind.u32) 16842784)), none⟩, ⟨some 11, AOp.nilCheck (Opd.tmp 5), none⟩, ⟨some 12, AOp.fieldAddr 0
    (Opd.tmp 11), none⟩, ⟨some 13, AOp.indexAddrA 8 1 (Opd.tmp 12) (Opd.const (V.int (IntKind.i64) 0)), none⟩, ⟨none, AOp.store 1 (Opd.tmp 13) (Opd.tmp 10), none⟩] []) (ACode.seq (ACode.region [⟨some
    14, AOp.move (Opd.tmp 1), none⟩, ⟨some 0, AOp.move (Opd.tmp 14), none⟩]) (ACode.ret))))⟩
theorem h16 : compFn Try.prog Try.f16 = some c16 := by kernel_rfl
/-- Function 17: portholelaw7.known. -/
def c17 : AFn :=
  ⟨46, [ARes.tmp 0], ACode.seq (ACode.region [⟨some 0, AOp.move (Opd.const (V.bool false)), none⟩]) (ACode.seq (ACode.region [⟨some 3, AOp.buildSlice 5 1 [V.int (IntKind.u8) 0] 3 [(0, 1, Opd.const
    (V.int (IntKind.u8) 97)), (1, 1, Opd.const (V.int (IntKind.u8) 98)), (2, 1, Opd.const (V.int (IntKind.u8) 99))], none⟩, ⟨some 4, AOp.convSame (Opd.tmp 3), none⟩, ⟨some 5, AOp.buildSlice 28 1
    [V.nilslice] 1 [(0, 1, Opd.tmp 4)], none⟩, ⟨some 6, AOp.call (Opd.func 20) [Opd.tmp 5], none⟩, ⟨some 1, AOp.box 22 1 [V.int (IntKind.u8) 0, V.int (IntKind.u8) 0, V.int (IntKind.u8) 0, V.int
    (IntKind.u8) 0, V.int (IntKind.u8) 0, V.int (IntKind.u8) 0, V.int (IntKind.u8) 0, V.int (IntKind.u8) 0, V.int (IntKind.u8) 0, V.int (IntKind.u8) 0, V.int (IntKind.u8) 0, V.int (IntKind.u8) 0,
    V.int (IntKind.u8) 0, V.int (IntKind.u8) 0, V.int (IntKind.u8) 0, V.int (IntKind.u8) 0, V.int (IntKind.u8) 0, V.int (IntKind.u8) 0, V.int (IntKind.u8) 0, V.int (IntKind.u8) 0, V.int (IntKind.u8)
    0, V.int (IntKind.u8) 0, V.int (IntKind.u8) 0, V.int (IntKind.u8) 0, V.int (IntKind.u8) 0, V.int (IntKind.u8) 0, V.int (IntKind.u8) 0, V.int (IntKind.u8) 0, V.int (IntKind.u8) 0, V.int
    (IntKind.u8) 0, V.int (IntKind.u8) 0, V.int (IntKind.u8) 0], none⟩, ⟨none, AOp.store 32 (Opd.tmp 1) (Opd.tmp 6), none⟩]) (ACode.seq (ACode.region [⟨some 7, AOp.buildSlice 5 1 [V.int (IntKind.u8)
    0] 1 [(0, 1, Opd.const (V.int (IntKind.u8) 97))], none⟩, ⟨some 8, AOp.convSame (Opd.tmp 7), none⟩, ⟨some 9, AOp.buildSlice 5 1 [V.int (IntKind.u8) 0] 2 [(0, 1, Opd.const (V.int (IntKind.u8) 98)),
    (1, 1, Opd.const (V.int (IntKind.u8) 99))], none⟩, ⟨some 10, AOp.convSame (Opd.tmp 9), none⟩, ⟨some 11, AOp.buildSlice 28 1 [V.nilslice] 3 [(0, 1, Opd.tmp 8), (1, 1, Opd.const (V.nilslice)), (2,
    1, Opd.tmp 10)], none⟩, ⟨some 12, AOp.call (Opd.func 20) [Opd.tmp 11], none⟩, ⟨some 2, AOp.box 22 1 [V.int (IntKind.u8) 0, V.int (IntKind.u8) 0, V.int (IntKind.u8) 0, V.int (IntKind.u8) 0, V.int
    (IntKind.u8) 0, V.int (IntKind.u8) 0, V.int (IntKind.u8) 0, V.int (IntKind.u8) 0, V.int (IntKind.u8) 0, V.int (IntKind.u8) 0, V.int (IntKind.u8) 0, V.int (IntKind.u8) 0, V.int (IntKind.u8) 0,
    V.int (IntKind.u8) 0, V.int (IntKind.u8) 0, V.int (IntKind.u8) 0, V.int (IntKind.u8) 0, V.int (IntKind.u8) 0, V.int (IntKind.u8) 0, V.int (IntKind.u8) 0, V.int (IntKind.u8) 0, V.int (IntKind.u8)
    0, V.int (IntKind.u8) 0, V.int (IntKind.u8) 0, V.int (IntKind.u8) 0, V.int (IntKind.u8) 0, V.int (IntKind.u8) 0, V.int (IntKind.u8) 0, V.int (IntKind.u8) 0, V.int (IntKind.u8) 0, V.int
    (IntKind.u8) 0, V.int (IntKind.u8) 0], none⟩, ⟨none, AOp.store 32 (Opd.tmp 2) (Opd.tmp 12), none⟩]) (ACode.seq (ACode.region [⟨some 13, AOp.indexAddrA 32 1 (Opd.tmp 1) (Opd.const (V.int
    (IntKind.i64) 0)), none⟩, ⟨some 14, AOp.load (Opd.tmp 13), none⟩, ⟨some 15, AOp.bin (BinOp.eql) (Opd.tmp 14) (Opd.const (V.int (IntKind.u8) 80)), none⟩, ⟨some 16, AOp.move (Opd.tmp 15), none⟩,
    ⟨some 17, AOp.indexAddrA 32 1 (Opd.tmp 1) (Opd.const (V.int (IntKind.i64) 1)), some (16, true)⟩, ⟨some 18, AOp.load (Opd.tmp 17), some (16, true)⟩, ⟨some 19, AOp.bin (BinOp.eql) (Opd.tmp 18)
    (Opd.const (V.int (IntKind.u8) 140)), some (16, true)⟩, ⟨some 20, AOp.pick (Opd.tmp 16) (Opd.tmp 19) (Opd.const (V.bool false)), none⟩, ⟨some 21, AOp.move (Opd.tmp 20), none⟩, ⟨some 22,
    AOp.indexAddrA 32 1 (Opd.tmp 1) (Opd.const (V.int (IntKind.i64) 2)), some (21, true)⟩, ⟨some 23, AOp.load (Opd.tmp 22), some (21, true)⟩, ⟨some 24, AOp.bin (BinOp.eql) (Opd.tmp 23) (Opd.const
    (V.int (IntKind.u8) 94)), some (21, true)⟩, ⟨some 25, AOp.pick (Opd.tmp 21) (Opd.tmp 24) (Opd.const (V.bool false)), none⟩, ⟨some 26, AOp.move (Opd.tmp 25), none⟩, ⟨some 27, AOp.indexAddrA 32 1
    (Opd.tmp 1) (Opd.const (V.int (IntKind.i64) 3)), some (26, true)⟩, ⟨some 28, AOp.load (Opd.tmp 27), some (26, true)⟩, ⟨some 29, AOp.bin (BinOp.eql) (Opd.tmp 28) (Opd.const (V.int (IntKind.u8)
    140)), some (26, true)⟩, ⟨some 30, AOp.pick (Opd.tmp 26) (Opd.tmp 29) (Opd.const (V.bool false)), none⟩, ⟨some 31, AOp.move (Opd.tmp 30), none⟩, ⟨some 32, AOp.indexAddrA 32 1 (Opd.tmp 1)
    (Opd.const (V.int (IntKind.i64) 30)), some (31, true)⟩, ⟨some 33, AOp.load (Opd.tmp 32), some (31, true)⟩, ⟨some 34, AOp.bin (BinOp.eql) (Opd.tmp 33) (Opd.const (V.int (IntKind.u8) 89)), some (31,
    true)⟩, ⟨some 35, AOp.pick (Opd.tmp 31) (Opd.tmp 34) (Opd.const (V.bool false)), none⟩, ⟨some 36, AOp.move (Opd.tmp 35), none⟩, ⟨some 37, AOp.indexAddrA 32 1 (Opd.tmp 1) (Opd.const (V.int
    (IntKind.i64) 31)), some (36, true)⟩, ⟨some 38, AOp.load (Opd.tmp 37), some (36, true)⟩, ⟨some 39, AOp.bin (BinOp.eql) (Opd.tmp 38) (Opd.const (V.int (IntKind.u8) 130)), some (36, true)⟩, ⟨some
    40, AOp.pick (Opd.tmp 36) (Opd.tmp 39) (Opd.const (V.bool false)), none⟩, ⟨some 41, AOp.move (Opd.tmp 40), none⟩, ⟨some 42, AOp.loadn 32 (Opd.tmp 1), some (41, true)⟩, ⟨some 43, AOp.loadn 32
    (Opd.tmp 2), some (41, true)⟩, ⟨some 44, AOp.eqArr false 32 (Opd.tmp 42) (Opd.tmp 43), some (41, true)⟩, ⟨some 45, AOp.pick (Opd.tmp 41) (Opd.tmp 44) (Opd.const (V.bool false)), none⟩, ⟨some 0,
    AOp.move (Opd.tmp 45), none⟩]) (ACode.ret))))⟩
theorem h17 : compFn Try.prog Try.f17 = some c17 := by kernel_rfl
/-- A loop of function 18. -/
def c18_l0 : ACode :=
  ACode.seq (ACode.region [⟨some 34, AOp.bin (BinOp.lss) (Opd.tmp 33) (Opd.const (V.int (IntKind.i64) 8)), none⟩]) (ACode.seq (ACode.cond (Opd.tmp 34) (ACode.skip) (ACode.exit 0)) (ACode.seq
    (ACode.block 1 (ACode.seq (ACode.region [⟨some 35, AOp.move (Opd.tmp 33), none⟩, ⟨some 36, AOp.indexA 8 1 false (Opd.tmp 32) (Opd.tmp 33), none⟩, ⟨some 6, AOp.move (Opd.tmp 35), none⟩, ⟨some 7,
    AOp.move (Opd.tmp 36), none⟩]) (ACode.anyRegion [⟨some 37, AOp.move (Opd.tmp 6), none⟩, ⟨some 38, AOp.bin (BinOp.mul) (Opd.const (V.int (IntKind.i64) 4)) (Opd.tmp 37), none⟩, ⟨some 39,
    AOp.sliceArr 32 1 (Opd.tmp 5) (some (Opd.tmp 38)) none none, none⟩, ⟨some 40, AOp.move (Opd.tmp 7), none⟩, ⟨some 41, AOp.call (Opd.func 25) [Opd.tmp 40], none⟩, ⟨some 42, AOp.copy 1 (Opd.tmp 39)
    (Opd.tmp 41), none⟩] []))) (ACode.region [⟨some 43, AOp.bin (BinOp.add) (Opd.tmp 33) (Opd.const (V.int (IntKind.i64) 1)), none⟩, ⟨some 33, AOp.move (Opd.tmp 43), none⟩])))
theorem c18_l0_wr : c18_l0.wr = [34, 35, 36, 6, 7, 37, 38, 39, 40, 41, 42, 43, 33] := by kernel_rfl
/-- Function 18: blake.Hash).Sum. -/
def c18 : AFn :=
  ⟨45, [ARes.cells 2 32], ACode.seq (ACode.region [⟨some 2, AOp.box 22 1 [V.int (IntKind.u8) 0, V.int (IntKind.u8) 0, V.int (IntKind.u8) 0, V.int (IntKind.u8) 0, V.int (IntKind.u8) 0, V.int
    (IntKind.u8) 0, V.int (IntKind.u8) 0, V.int (IntKind.u8) 0, V.int (IntKind.u8) 0, V.int (IntKind.u8) 0, V.int (IntKind.u8) 0, V.int (IntKind.u8) 0, V.int (IntKind.u8) 0, V.int (IntKind.u8) 0,
    V.int (IntKind.u8) 0, V.int (IntKind.u8) 0, V.int (IntKind.u8) 0, V.int (IntKind.u8) 0, V.int (IntKind.u8) 0, V.int (IntKind.u8) 0, V.int (IntKind.u8) 0, V.int (IntKind.u8) 0, V.int (IntKind.u8)
    0, V.int (IntKind.u8) 0, V.int (IntKind.u8) 0, V.int (IntKind.u8) 0, V.int (IntKind.u8) 0, V.int (IntKind.u8) 0, V.int (IntKind.u8) 0, V.int (IntKind.u8) 0, V.int (IntKind.u8) 0, V.int
    (IntKind.u8) 0], none⟩]) (ACode.seq (ACode.region [⟨some 8, AOp.makeSlice 5 1 1 [V.int (IntKind.u8) 0] (Opd.const (V.int (IntKind.i64) 64)) (Opd.const (V.int (IntKind.i64) 64)), none⟩, ⟨some 3,
    AOp.move (Opd.tmp 8), none⟩]) (ACode.seq (ACode.region [⟨some 9, AOp.move (Opd.tmp 3), none⟩, ⟨some 10, AOp.move (Opd.tmp 0), none⟩, ⟨some 11, AOp.nilCheck (Opd.tmp 10), none⟩, ⟨some 12,
    AOp.fieldAddr 9 (Opd.tmp 11), none⟩, ⟨some 13, AOp.load (Opd.tmp 12), none⟩, ⟨some 14, AOp.copy 1 (Opd.tmp 9) (Opd.tmp 13), none⟩]) (ACode.seq (ACode.floatRegion [⟨some 15, AOp.move (Opd.tmp 0),
    none⟩, ⟨some 16, AOp.nilCheck (Opd.tmp 15), none⟩, ⟨some 17, AOp.fieldAddr 0 (Opd.tmp 16), none⟩, ⟨some 18, AOp.loadn 8 (Opd.tmp 17), none⟩, ⟨some 19, AOp.move (Opd.tmp 3), none⟩, ⟨some 20,
    AOp.move (Opd.tmp 0), none⟩, ⟨some 21, AOp.nilCheck (Opd.tmp 20), none⟩, ⟨some 22, AOp.fieldAddr 8 (Opd.tmp 21), none⟩, ⟨some 23, AOp.load (Opd.tmp 22), none⟩, ⟨some 24, AOp.move (Opd.tmp 0),
    none⟩, ⟨some 25, AOp.nilCheck (Opd.tmp 24), none⟩, ⟨some 26, AOp.fieldAddr 9 (Opd.tmp 25), none⟩, ⟨some 27, AOp.load (Opd.tmp 26), none⟩, ⟨some 28, AOp.lenL (Opd.tmp 27), none⟩, ⟨some 29, AOp.conv
    (IntKind.u64) (Opd.tmp 28), none⟩, ⟨some 30, AOp.bin (BinOp.add) (Opd.tmp 23) (Opd.tmp 29), none⟩, ⟨some 31, AOp.call (Opd.func 28) [Opd.tmp 18, Opd.tmp 19, Opd.tmp 30, Opd.const (V.bool true)],
    none⟩, ⟨some 4, AOp.float 0 (AOp.box 54 1 [V.int (IntKind.u32) 0, V.int (IntKind.u32) 0, V.int (IntKind.u32) 0, V.int (IntKind.u32) 0, V.int (IntKind.u32) 0, V.int (IntKind.u32) 0, V.int
    (IntKind.u32) 0, V.int (IntKind.u32) 0]), none⟩, ⟨none, AOp.store 8 (Opd.tmp 4) (Opd.tmp 31), none⟩] [[], [], [], [], [], [], [], [], [], [], [], [], [], [], [], [], [], [], [17], []] [])
    (ACode.seq (ACode.region [⟨some 5, AOp.box 22 1 [V.int (IntKind.u8) 0, V.int (IntKind.u8) 0, V.int (IntKind.u8) 0, V.int (IntKind.u8) 0, V.int (IntKind.u8) 0, V.int (IntKind.u8) 0, V.int
    (IntKind.u8) 0, V.int (IntKind.u8) 0, V.int (IntKind.u8) 0, V.int (IntKind.u8) 0, V.int (IntKind.u8) 0, V.int (IntKind.u8) 0, V.int (IntKind.u8) 0, V.int (IntKind.u8) 0, V.int (IntKind.u8) 0,
    V.int (IntKind.u8) 0, V.int (IntKind.u8) 0, V.int (IntKind.u8) 0, V.int (IntKind.u8) 0, V.int (IntKind.u8) 0, V.int (IntKind.u8) 0, V.int (IntKind.u8) 0, V.int (IntKind.u8) 0, V.int (IntKind.u8)
    0, V.int (IntKind.u8) 0, V.int (IntKind.u8) 0, V.int (IntKind.u8) 0, V.int (IntKind.u8) 0, V.int (IntKind.u8) 0, V.int (IntKind.u8) 0, V.int (IntKind.u8) 0, V.int (IntKind.u8) 0], none⟩])
    (ACode.seq (ACode.seq (ACode.region [⟨some 32, AOp.loadn 8 (Opd.tmp 4), none⟩, ⟨some 33, AOp.move (Opd.const (V.int (IntKind.i64) 0)), none⟩]) (ACode.block 0 (ACode.loop c18_l0))) (ACode.seq
    (ACode.region [⟨some 44, AOp.loadn 32 (Opd.tmp 5), none⟩, ⟨none, AOp.store 32 (Opd.tmp 2) (Opd.tmp 44), none⟩]) (ACode.ret)))))))⟩
theorem h18 : compFn Try.prog Try.f18 = some c18 := by kernel_rfl
/-- A loop of function 19. -/
def c19_l0 : ACode :=
  ACode.seq (ACode.seq (ACode.region [⟨some 14, AOp.move (Opd.tmp 0), none⟩, ⟨some 15, AOp.nilCheck (Opd.tmp 14), none⟩, ⟨some 16, AOp.fieldAddr 9 (Opd.tmp 15), none⟩, ⟨some 17, AOp.load (Opd.tmp 16),
    none⟩, ⟨some 18, AOp.lenL (Opd.tmp 17), none⟩, ⟨some 19, AOp.bin (BinOp.gtr) (Opd.tmp 18) (Opd.const (V.int (IntKind.i64) 64)), none⟩]) (ACode.cond (Opd.tmp 19) (ACode.skip) (ACode.exit 0)))
    (ACode.block 1 (ACode.seq (ACode.region [⟨some 20, AOp.move (Opd.tmp 0), none⟩, ⟨some 21, AOp.nilCheck (Opd.tmp 20), none⟩, ⟨some 22, AOp.fieldAddr 8 (Opd.tmp 21), none⟩, ⟨some 23, AOp.load
    (Opd.tmp 22), none⟩, ⟨some 24, AOp.bin (BinOp.add) (Opd.tmp 23) (Opd.const (V.int (IntKind.u64) 64)), none⟩, ⟨some 25, AOp.nilCheck (Opd.tmp 20), none⟩, ⟨some 26, AOp.fieldAddr 8 (Opd.tmp 25),
    none⟩, ⟨none, AOp.store 1 (Opd.tmp 26) (Opd.tmp 24), none⟩]) (ACode.seq (ACode.anyRegion [⟨some 27, AOp.move (Opd.tmp 0), none⟩, ⟨some 28, AOp.move (Opd.tmp 0), none⟩, ⟨some 29, AOp.nilCheck
    (Opd.tmp 28), none⟩, ⟨some 30, AOp.fieldAddr 0 (Opd.tmp 29), none⟩, ⟨some 31, AOp.loadn 8 (Opd.tmp 30), none⟩, ⟨some 32, AOp.move (Opd.tmp 0), none⟩, ⟨some 33, AOp.nilCheck (Opd.tmp 32), none⟩,
    ⟨some 34, AOp.fieldAddr 9 (Opd.tmp 33), none⟩, ⟨some 35, AOp.load (Opd.tmp 34), none⟩, ⟨some 36, AOp.sliceSl 1 (Opd.tmp 35) none (some (Opd.const (V.int (IntKind.i64) 64))) none, none⟩, ⟨some 37,
    AOp.move (Opd.tmp 0), none⟩, ⟨some 38, AOp.nilCheck (Opd.tmp 37), none⟩, ⟨some 39, AOp.fieldAddr 8 (Opd.tmp 38), none⟩, ⟨some 40, AOp.load (Opd.tmp 39), none⟩, ⟨some 41, AOp.call (Opd.func 28)
    [Opd.tmp 31, Opd.tmp 36, Opd.tmp 40, Opd.const (V.bool false)], none⟩, ⟨some 42, AOp.nilCheck (Opd.tmp 27), none⟩, ⟨some 43, AOp.fieldAddr 0 (Opd.tmp 42), none⟩, ⟨none, AOp.store 8 (Opd.tmp 43)
    (Opd.tmp 41), none⟩] []) (ACode.region [⟨some 44, AOp.move (Opd.tmp 0), none⟩, ⟨some 45, AOp.move (Opd.tmp 0), none⟩, ⟨some 46, AOp.nilCheck (Opd.tmp 45), none⟩, ⟨some 47, AOp.fieldAddr 9 (Opd.tmp
    46), none⟩, ⟨some 48, AOp.load (Opd.tmp 47), none⟩, ⟨some 49, AOp.sliceSl 1 (Opd.tmp 48) (some (Opd.const (V.int (IntKind.i64) 64))) none none, none⟩, ⟨some 50, AOp.nilCheck (Opd.tmp 44), none⟩,
    ⟨some 51, AOp.fieldAddr 9 (Opd.tmp 50), none⟩, ⟨none, AOp.store 1 (Opd.tmp 51) (Opd.tmp 49), none⟩]))))
theorem c19_l0_wr : c19_l0.wr = [14, 15, 16, 17, 18, 19, 20, 21, 22, 23, 24, 25, 26, 27, 28, 29, 30, 31, 32, 33, 34, 35, 36, 37, 38, 39, 40, 41, 42, 43, 44, 45, 46, 47, 48, 49, 50, 51] := by kernel_rfl
/-- Function 19: blake.Hash).Write. -/
def c19 : AFn :=
  ⟨52, [], ACode.seq (ACode.region [⟨some 4, AOp.move (Opd.tmp 0), none⟩, ⟨some 5, AOp.move (Opd.tmp 0), none⟩, ⟨some 6, AOp.nilCheck (Opd.tmp 5), none⟩, ⟨some 7, AOp.fieldAddr 9 (Opd.tmp 6), none⟩,
    ⟨some 8, AOp.load (Opd.tmp 7), none⟩, ⟨some 9, AOp.move (Opd.tmp 1), none⟩, ⟨some 10, AOp.buildSlice 28 1 [V.nilslice] 2 [(0, 1, Opd.tmp 8), (1, 1, Opd.tmp 9)], none⟩, ⟨some 11, AOp.call (Opd.func
    29) [Opd.tmp 10], none⟩, ⟨some 12, AOp.nilCheck (Opd.tmp 4), none⟩, ⟨some 13, AOp.fieldAddr 9 (Opd.tmp 12), none⟩, ⟨none, AOp.store 1 (Opd.tmp 13) (Opd.tmp 11), none⟩]) (ACode.block 0 (ACode.loop
    c19_l0))⟩
theorem h19 : compFn Try.prog Try.f19 = some c19 := by kernel_rfl
/-- A loop of function 20. -/
def c20_l0 : ACode :=
  ACode.seq (ACode.region [⟨some 10, AOp.bin (BinOp.lss) (Opd.tmp 9) (Opd.tmp 8), none⟩]) (ACode.seq (ACode.cond (Opd.tmp 10) (ACode.skip) (ACode.exit 0)) (ACode.seq (ACode.block 1 (ACode.seq
    (ACode.region [⟨some 11, AOp.indexAddrS 1 (Opd.tmp 7) (Opd.tmp 9), none⟩, ⟨some 12, AOp.load (Opd.tmp 11), none⟩, ⟨some 5, AOp.move (Opd.tmp 12), none⟩]) (ACode.region [⟨some 13, AOp.move (Opd.tmp
    3), none⟩, ⟨some 14, AOp.move (Opd.tmp 5), none⟩, ⟨some 15, AOp.call (Opd.func 19) [Opd.tmp 13, Opd.tmp 14], none⟩]))) (ACode.region [⟨some 16, AOp.bin (BinOp.add) (Opd.tmp 9) (Opd.const (V.int
    (IntKind.i64) 1)), none⟩, ⟨some 9, AOp.move (Opd.tmp 16), none⟩])))
theorem c20_l0_wr : c20_l0.wr = [10, 11, 12, 5, 13, 14, 15, 16, 9] := by kernel_rfl
/-- Function 20: blake.Sum. -/
def c20 : AFn :=
  ⟨19, [ARes.cells 2 32], ACode.seq (ACode.region [⟨some 2, AOp.box 22 1 [V.int (IntKind.u8) 0, V.int (IntKind.u8) 0, V.int (IntKind.u8) 0, V.int (IntKind.u8) 0, V.int (IntKind.u8) 0, V.int
    (IntKind.u8) 0, V.int (IntKind.u8) 0, V.int (IntKind.u8) 0, V.int (IntKind.u8) 0, V.int (IntKind.u8) 0, V.int (IntKind.u8) 0, V.int (IntKind.u8) 0, V.int (IntKind.u8) 0, V.int (IntKind.u8) 0,
    V.int (IntKind.u8) 0, V.int (IntKind.u8) 0, V.int (IntKind.u8) 0, V.int (IntKind.u8) 0, V.int (IntKind.u8) 0, V.int (IntKind.u8) 0, V.int (IntKind.u8) 0, V.int (IntKind.u8) 0, V.int (IntKind.u8)
    0, V.int (IntKind.u8) 0, V.int (IntKind.u8) 0, V.int (IntKind.u8) 0, V.int (IntKind.u8) 0, V.int (IntKind.u8) 0, V.int (IntKind.u8) 0, V.int (IntKind.u8) 0, V.int (IntKind.u8) 0, V.int
    (IntKind.u8) 0], none⟩]) (ACode.seq (ACode.region [⟨some 6, AOp.call (Opd.func 16) [], none⟩, ⟨some 3, AOp.move (Opd.tmp 6), none⟩]) (ACode.seq (ACode.seq (ACode.region [⟨some 7, AOp.move (Opd.tmp
    0), none⟩, ⟨some 8, AOp.lenL (Opd.tmp 7), none⟩, ⟨some 9, AOp.move (Opd.const (V.int (IntKind.i64) 0)), none⟩]) (ACode.block 0 (ACode.loop c20_l0))) (ACode.seq (ACode.region [⟨some 17, AOp.move
    (Opd.tmp 3), none⟩, ⟨some 18, AOp.call (Opd.func 18) [Opd.tmp 17], none⟩, ⟨none, AOp.store 32 (Opd.tmp 2) (Opd.tmp 18), none⟩]) (ACode.ret))))⟩
theorem h20 : compFn Try.prog Try.f20 = some c20 := by kernel_rfl
/-- Function 21: portholehand.Few. -/
def c21 : AFn :=
  ⟨13, [ARes.tmp 4], ACode.seq (ACode.region [⟨some 4, AOp.move (Opd.const (V.nilslice)), none⟩]) (ACode.seq (ACode.region [⟨some 5, AOp.buildSlice 5 1 [V.int (IntKind.u8) 0] 0 [], none⟩, ⟨some 6,
    AOp.move (Opd.tmp 0), none⟩, ⟨some 7, AOp.move (Opd.tmp 0), none⟩, ⟨some 8, AOp.lenL (Opd.tmp 7), none⟩, ⟨some 9, AOp.move (Opd.tmp 1), none⟩, ⟨some 10, AOp.minmax false [Opd.tmp 8, Opd.tmp 9],
    none⟩, ⟨some 11, AOp.sliceSl 1 (Opd.tmp 6) none (some (Opd.tmp 10)) none, none⟩, ⟨some 12, AOp.append 5 1 1 (Opd.tmp 5) (Opd.tmp 11), none⟩, ⟨some 4, AOp.move (Opd.tmp 12), none⟩]) (ACode.ret))⟩
theorem h21 : compFn Try.prog Try.f21 = some c21 := by kernel_rfl
/-- Function 25: octet.Put32. -/
def c25 : AFn :=
  ⟨6, [ARes.tmp 2], ACode.seq (ACode.region [⟨some 2, AOp.move (Opd.const (V.nilslice)), none⟩]) (ACode.seq (ACode.region [⟨some 3, AOp.move (Opd.tmp 0), none⟩, ⟨some 4, AOp.conv (IntKind.u64)
    (Opd.tmp 3), none⟩, ⟨some 5, AOp.call (Opd.func 32) [Opd.tmp 4, Opd.const (V.int (IntKind.i64) 4)], none⟩, ⟨some 2, AOp.move (Opd.tmp 5), none⟩]) (ACode.ret))⟩
theorem h25 : compFn Try.prog Try.f25 = some c25 := by kernel_rfl
/-- Function 27: blake.first. -/
def c27 : AFn :=
  ⟨2, [ARes.cells 0 8], ACode.seq (ACode.region [⟨some 0, AOp.box 54 1 [V.int (IntKind.u32) 0, V.int (IntKind.u32) 0, V.int (IntKind.u32) 0, V.int (IntKind.u32) 0, V.int (IntKind.u32) 0, V.int
    (IntKind.u32) 0, V.int (IntKind.u32) 0, V.int (IntKind.u32) 0], none⟩]) (ACode.seq (ACode.region [⟨some 1, AOp.build [V.int (IntKind.u32) 0, V.int (IntKind.u32) 0, V.int (IntKind.u32) 0, V.int
    (IntKind.u32) 0, V.int (IntKind.u32) 0, V.int (IntKind.u32) 0, V.int (IntKind.u32) 0, V.int (IntKind.u32) 0] [(0, 1, Opd.const (V.int (IntKind.u32) 1779033703)), (1, 1, Opd.const (V.int
    (IntKind.u32) 3144134277)), (2, 1, Opd.const (V.int (IntKind.u32) 1013904242)), (3, 1, Opd.const (V.int (IntKind.u32) 2773480762)), (4, 1, Opd.const (V.int (IntKind.u32) 1359893119)), (5, 1,
    Opd.const (V.int (IntKind.u32) 2600822924)), (6, 1, Opd.const (V.int (IntKind.u32) 528734635)), (7, 1, Opd.const (V.int (IntKind.u32) 1541459225))], none⟩, ⟨none, AOp.store 8 (Opd.tmp 0) (Opd.tmp
    1), none⟩]) (ACode.ret))⟩
theorem h27 : compFn Try.prog Try.f27 = some c27 := by kernel_rfl
/-- A loop of function 28. -/
def c28_l4 : ACode :=
  ACode.seq (ACode.region [⟨some 125, AOp.bin (BinOp.lss) (Opd.tmp 124) (Opd.const (V.int (IntKind.i64) 8)), none⟩]) (ACode.seq (ACode.cond (Opd.tmp 125) (ACode.skip) (ACode.exit 8)) (ACode.seq
    (ACode.block 9 (ACode.seq (ACode.region [⟨some 126, AOp.move (Opd.tmp 124), none⟩, ⟨some 18, AOp.move (Opd.tmp 126), none⟩]) (ACode.anyRegion [⟨some 127, AOp.move (Opd.tmp 18), none⟩, ⟨some 128,
    AOp.indexAddrA 8 1 (Opd.tmp 4) (Opd.tmp 127), none⟩, ⟨some 129, AOp.load (Opd.tmp 128), none⟩, ⟨some 130, AOp.move (Opd.tmp 18), none⟩, ⟨some 131, AOp.indexAddrA 16 1 (Opd.tmp 10) (Opd.tmp 130),
    none⟩, ⟨some 132, AOp.load (Opd.tmp 131), none⟩, ⟨some 133, AOp.move (Opd.tmp 18), none⟩, ⟨some 134, AOp.bin (BinOp.add) (Opd.tmp 133) (Opd.const (V.int (IntKind.i64) 8)), none⟩, ⟨some 135,
    AOp.indexAddrA 16 1 (Opd.tmp 10) (Opd.tmp 134), none⟩, ⟨some 136, AOp.load (Opd.tmp 135), none⟩, ⟨some 137, AOp.bin (BinOp.xor) (Opd.tmp 132) (Opd.tmp 136), none⟩, ⟨some 138, AOp.bin (BinOp.xor)
    (Opd.tmp 129) (Opd.tmp 137), none⟩, ⟨some 139, AOp.indexAddrA 8 1 (Opd.tmp 4) (Opd.tmp 127), none⟩, ⟨none, AOp.store 1 (Opd.tmp 139) (Opd.tmp 138), none⟩] []))) (ACode.region [⟨some 140, AOp.bin
    (BinOp.add) (Opd.tmp 124) (Opd.const (V.int (IntKind.i64) 1)), none⟩, ⟨some 124, AOp.move (Opd.tmp 140), none⟩])))
theorem c28_l4_wr : c28_l4.wr = [125, 126, 18, 127, 128, 129, 130, 131, 132, 133, 134, 135, 136, 137, 138, 139, 140, 124] := by kernel_rfl
/-- A loop of function 28. -/
def c28_l3 : ACode :=
  ACode.seq (ACode.region [⟨some 91, AOp.bin (BinOp.lss) (Opd.tmp 90) (Opd.const (V.int (IntKind.i64) 4)), none⟩]) (ACode.seq (ACode.cond (Opd.tmp 91) (ACode.skip) (ACode.exit 6)) (ACode.seq
    (ACode.block 7 (ACode.seq (ACode.region [⟨some 92, AOp.move (Opd.tmp 90), none⟩, ⟨some 17, AOp.move (Opd.tmp 92), none⟩]) (ACode.anyRegion [⟨some 93, AOp.move (Opd.tmp 13), none⟩, ⟨some 94,
    AOp.move (Opd.tmp 17), none⟩, ⟨some 95, AOp.move (Opd.tmp 17), none⟩, ⟨some 96, AOp.bin (BinOp.add) (Opd.tmp 95) (Opd.const (V.int (IntKind.i64) 1)), none⟩, ⟨some 97, AOp.bin (BinOp.rem) (Opd.tmp
    96) (Opd.const (V.int (IntKind.i64) 4)), none⟩, ⟨some 98, AOp.bin (BinOp.add) (Opd.const (V.int (IntKind.i64) 4)) (Opd.tmp 97), none⟩, ⟨some 99, AOp.move (Opd.tmp 17), none⟩, ⟨some 100, AOp.bin
    (BinOp.add) (Opd.tmp 99) (Opd.const (V.int (IntKind.i64) 2)), none⟩, ⟨some 101, AOp.bin (BinOp.rem) (Opd.tmp 100) (Opd.const (V.int (IntKind.i64) 4)), none⟩, ⟨some 102, AOp.bin (BinOp.add)
    (Opd.const (V.int (IntKind.i64) 8)) (Opd.tmp 101), none⟩, ⟨some 103, AOp.move (Opd.tmp 17), none⟩, ⟨some 104, AOp.bin (BinOp.add) (Opd.tmp 103) (Opd.const (V.int (IntKind.i64) 3)), none⟩, ⟨some
    105, AOp.bin (BinOp.rem) (Opd.tmp 104) (Opd.const (V.int (IntKind.i64) 4)), none⟩, ⟨some 106, AOp.bin (BinOp.add) (Opd.const (V.int (IntKind.i64) 12)) (Opd.tmp 105), none⟩, ⟨some 107, AOp.move
    (Opd.tmp 17), none⟩, ⟨some 108, AOp.bin (BinOp.mul) (Opd.const (V.int (IntKind.i64) 2)) (Opd.tmp 107), none⟩, ⟨some 109, AOp.bin (BinOp.add) (Opd.const (V.int (IntKind.i64) 8)) (Opd.tmp 108),
    none⟩, ⟨some 110, AOp.indexAddrA 16 1 (Opd.tmp 15) (Opd.tmp 109), none⟩, ⟨some 111, AOp.load (Opd.tmp 110), none⟩, ⟨some 112, AOp.indexAddrA 16 1 (Opd.tmp 9) (Opd.tmp 111), none⟩, ⟨some 113,
    AOp.load (Opd.tmp 112), none⟩, ⟨some 114, AOp.move (Opd.tmp 17), none⟩, ⟨some 115, AOp.bin (BinOp.mul) (Opd.const (V.int (IntKind.i64) 2)) (Opd.tmp 114), none⟩, ⟨some 116, AOp.bin (BinOp.add)
    (Opd.const (V.int (IntKind.i64) 9)) (Opd.tmp 115), none⟩, ⟨some 117, AOp.indexAddrA 16 1 (Opd.tmp 15) (Opd.tmp 116), none⟩, ⟨some 118, AOp.load (Opd.tmp 117), none⟩, ⟨some 119, AOp.indexAddrA 16 1
    (Opd.tmp 9) (Opd.tmp 118), none⟩, ⟨some 120, AOp.load (Opd.tmp 119), none⟩, ⟨some 121, AOp.call (Opd.tmp 93) [Opd.tmp 94, Opd.tmp 98, Opd.tmp 102, Opd.tmp 106, Opd.tmp 113, Opd.tmp 120], none⟩]
    []))) (ACode.region [⟨some 122, AOp.bin (BinOp.add) (Opd.tmp 90) (Opd.const (V.int (IntKind.i64) 1)), none⟩, ⟨some 90, AOp.move (Opd.tmp 122), none⟩])))
theorem c28_l3_wr : c28_l3.wr = [91, 92, 17, 93, 94, 95, 96, 97, 98, 99, 100, 101, 102, 103, 104, 105, 106, 107, 108, 109, 110, 111, 112, 113, 114, 115, 116, 117, 118, 119, 120, 121, 122, 90] := by kernel_rfl
/-- A loop of function 28. -/
def c28_l2 : ACode :=
  ACode.seq (ACode.region [⟨some 65, AOp.bin (BinOp.lss) (Opd.tmp 64) (Opd.const (V.int (IntKind.i64) 4)), none⟩]) (ACode.seq (ACode.cond (Opd.tmp 65) (ACode.skip) (ACode.exit 4)) (ACode.seq
    (ACode.block 5 (ACode.seq (ACode.region [⟨some 66, AOp.move (Opd.tmp 64), none⟩, ⟨some 16, AOp.move (Opd.tmp 66), none⟩]) (ACode.anyRegion [⟨some 67, AOp.move (Opd.tmp 13), none⟩, ⟨some 68,
    AOp.move (Opd.tmp 16), none⟩, ⟨some 69, AOp.move (Opd.tmp 16), none⟩, ⟨some 70, AOp.bin (BinOp.add) (Opd.const (V.int (IntKind.i64) 4)) (Opd.tmp 69), none⟩, ⟨some 71, AOp.move (Opd.tmp 16), none⟩,
    ⟨some 72, AOp.bin (BinOp.add) (Opd.const (V.int (IntKind.i64) 8)) (Opd.tmp 71), none⟩, ⟨some 73, AOp.move (Opd.tmp 16), none⟩, ⟨some 74, AOp.bin (BinOp.add) (Opd.const (V.int (IntKind.i64) 12))
    (Opd.tmp 73), none⟩, ⟨some 75, AOp.move (Opd.tmp 16), none⟩, ⟨some 76, AOp.bin (BinOp.mul) (Opd.const (V.int (IntKind.i64) 2)) (Opd.tmp 75), none⟩, ⟨some 77, AOp.indexAddrA 16 1 (Opd.tmp 15)
    (Opd.tmp 76), none⟩, ⟨some 78, AOp.load (Opd.tmp 77), none⟩, ⟨some 79, AOp.indexAddrA 16 1 (Opd.tmp 9) (Opd.tmp 78), none⟩, ⟨some 80, AOp.load (Opd.tmp 79), none⟩, ⟨some 81, AOp.move (Opd.tmp 16),
    none⟩, ⟨some 82, AOp.bin (BinOp.mul) (Opd.const (V.int (IntKind.i64) 2)) (Opd.tmp 81), none⟩, ⟨some 83, AOp.bin (BinOp.add) (Opd.tmp 82) (Opd.const (V.int (IntKind.i64) 1)), none⟩, ⟨some 84,
    AOp.indexAddrA 16 1 (Opd.tmp 15) (Opd.tmp 83), none⟩, ⟨some 85, AOp.load (Opd.tmp 84), none⟩, ⟨some 86, AOp.indexAddrA 16 1 (Opd.tmp 9) (Opd.tmp 85), none⟩, ⟨some 87, AOp.load (Opd.tmp 86), none⟩,
    ⟨some 88, AOp.call (Opd.tmp 67) [Opd.tmp 68, Opd.tmp 70, Opd.tmp 72, Opd.tmp 74, Opd.tmp 80, Opd.tmp 87], none⟩] []))) (ACode.region [⟨some 89, AOp.bin (BinOp.add) (Opd.tmp 64) (Opd.const (V.int
    (IntKind.i64) 1)), none⟩, ⟨some 64, AOp.move (Opd.tmp 89), none⟩])))
theorem c28_l2_wr : c28_l2.wr = [65, 66, 16, 67, 68, 69, 70, 71, 72, 73, 74, 75, 76, 77, 78, 79, 80, 81, 82, 83, 84, 85, 86, 87, 88, 89, 64] := by kernel_rfl
/-- A loop of function 28. -/
def c28_l1 : ACode :=
  ACode.seq (ACode.region [⟨some 60, AOp.bin (BinOp.lss) (Opd.tmp 59) (Opd.const (V.int (IntKind.i64) 10)), none⟩]) (ACode.seq (ACode.cond (Opd.tmp 60) (ACode.skip) (ACode.exit 2)) (ACode.seq
    (ACode.block 3 (ACode.seq (ACode.region [⟨some 61, AOp.move (Opd.tmp 59), none⟩, ⟨some 14, AOp.move (Opd.tmp 61), none⟩]) (ACode.seq (ACode.region [⟨some 62, AOp.move (Opd.tmp 14), none⟩, ⟨some
    63, AOp.call (Opd.func 34) [Opd.tmp 62], none⟩, ⟨some 15, AOp.box 66 1 [V.int (IntKind.i64) 0, V.int (IntKind.i64) 0, V.int (IntKind.i64) 0, V.int (IntKind.i64) 0, V.int (IntKind.i64) 0, V.int
    (IntKind.i64) 0, V.int (IntKind.i64) 0, V.int (IntKind.i64) 0, V.int (IntKind.i64) 0, V.int (IntKind.i64) 0, V.int (IntKind.i64) 0, V.int (IntKind.i64) 0, V.int (IntKind.i64) 0, V.int
    (IntKind.i64) 0, V.int (IntKind.i64) 0, V.int (IntKind.i64) 0], none⟩, ⟨none, AOp.store 16 (Opd.tmp 15) (Opd.tmp 63), none⟩]) (ACode.seq (ACode.seq (ACode.region [⟨some 64, AOp.move (Opd.const
    (V.int (IntKind.i64) 0)), none⟩]) (ACode.block 4 (ACode.loop c28_l2))) (ACode.seq (ACode.region [⟨some 90, AOp.move (Opd.const (V.int (IntKind.i64) 0)), none⟩]) (ACode.block 6 (ACode.loop
    c28_l3))))))) (ACode.region [⟨some 123, AOp.bin (BinOp.add) (Opd.tmp 59) (Opd.const (V.int (IntKind.i64) 1)), none⟩, ⟨some 59, AOp.move (Opd.tmp 123), none⟩])))
theorem c28_l1_wr : c28_l1.wr = [60, 61, 14, 62, 63, 15, 64, 65, 66, 16, 67, 68, 69, 70, 71, 72, 73, 74, 75, 76, 77, 78, 79, 80, 81, 82, 83, 84, 85, 86, 87, 88, 89, 64, 90, 91, 92, 17, 93, 94, 95, 96, 97, 98, 99, 100, 101, 102, 103, 104, 105, 106, 107, 108, 109, 110, 111, 112, 113, 114, 115, 116, 117, 118, 119, 120, 121, 122, 90, 123, 59] := by kernel_rfl
/-- A loop of function 28. -/
def c28_l0 : ACode :=
  ACode.seq (ACode.region [⟨some 20, AOp.bin (BinOp.lss) (Opd.tmp 19) (Opd.const (V.int (IntKind.i64) 16)), none⟩]) (ACode.seq (ACode.cond (Opd.tmp 20) (ACode.skip) (ACode.exit 0)) (ACode.seq
    (ACode.block 1 (ACode.seq (ACode.region [⟨some 21, AOp.move (Opd.tmp 19), none⟩, ⟨some 11, AOp.move (Opd.tmp 21), none⟩]) (ACode.region [⟨some 23, AOp.move (Opd.tmp 11), none⟩, ⟨some 24, AOp.move
    (Opd.tmp 1), none⟩, ⟨some 25, AOp.move (Opd.tmp 11), none⟩, ⟨some 26, AOp.bin (BinOp.mul) (Opd.const (V.int (IntKind.i64) 4)) (Opd.tmp 25), none⟩, ⟨some 27, AOp.sliceSl 1 (Opd.tmp 24) (some
    (Opd.tmp 26)) none none, none⟩, ⟨some 28, AOp.call (Opd.func 30) [Opd.tmp 27], none⟩, ⟨some 22, AOp.move (Opd.tmp 28), none⟩, ⟨some 29, AOp.extract (Opd.tmp 22) 0, none⟩, ⟨some 30, AOp.extract
    (Opd.tmp 22) 1, none⟩, ⟨some 31, AOp.indexAddrA 16 1 (Opd.tmp 9) (Opd.tmp 23), none⟩, ⟨none, AOp.store 1 (Opd.tmp 31) (Opd.tmp 29), none⟩]))) (ACode.region [⟨some 32, AOp.bin (BinOp.add) (Opd.tmp
    19) (Opd.const (V.int (IntKind.i64) 1)), none⟩, ⟨some 19, AOp.move (Opd.tmp 32), none⟩])))
theorem c28_l0_wr : c28_l0.wr = [20, 21, 11, 23, 24, 25, 26, 27, 28, 22, 29, 30, 31, 32, 19] := by kernel_rfl
/-- What follows in function 28. -/
def c28_s9 : ACode :=
  ACode.seq (ACode.region [⟨some 58, AOp.mkFunc 33 [] [Opd.tmp 10], none⟩, ⟨some 13, AOp.move (Opd.tmp 58), none⟩]) (ACode.seq (ACode.seq (ACode.region [⟨some 59, AOp.move (Opd.const (V.int
    (IntKind.i64) 0)), none⟩]) (ACode.block 2 (ACode.loop c28_l1))) (ACode.seq (ACode.seq (ACode.region [⟨some 124, AOp.move (Opd.const (V.int (IntKind.i64) 0)), none⟩]) (ACode.block 8 (ACode.loop
    c28_l4))) (ACode.seq (ACode.region [⟨some 141, AOp.loadn 8 (Opd.tmp 4), none⟩, ⟨none, AOp.store 8 (Opd.tmp 8) (Opd.tmp 141), none⟩]) (ACode.ret))))
/-- What follows in function 28. -/
def c28_s3 : ACode :=
  ACode.seq (ACode.region [⟨some 33, AOp.call (Opd.func 27) [], none⟩, ⟨some 12, AOp.box 54 1 [V.int (IntKind.u32) 0, V.int (IntKind.u32) 0, V.int (IntKind.u32) 0, V.int (IntKind.u32) 0, V.int
    (IntKind.u32) 0, V.int (IntKind.u32) 0, V.int (IntKind.u32) 0, V.int (IntKind.u32) 0], none⟩, ⟨none, AOp.store 8 (Opd.tmp 12) (Opd.tmp 33), none⟩]) (ACode.seq (ACode.anyRegion [⟨some 34,
    AOp.sliceArr 16 1 (Opd.tmp 10) none none none, none⟩, ⟨some 35, AOp.sliceArr 8 1 (Opd.tmp 4) none none none, none⟩, ⟨some 36, AOp.copy 1 (Opd.tmp 34) (Opd.tmp 35), none⟩] []) (ACode.seq
    (ACode.anyRegion [⟨some 37, AOp.sliceArr 16 1 (Opd.tmp 10) (some (Opd.const (V.int (IntKind.i64) 8))) none none, none⟩, ⟨some 38, AOp.sliceArr 8 1 (Opd.tmp 12) none none none, none⟩, ⟨some 39,
    AOp.copy 1 (Opd.tmp 37) (Opd.tmp 38), none⟩] []) (ACode.seq (ACode.region [⟨some 40, AOp.indexAddrA 16 1 (Opd.tmp 10) (Opd.const (V.int (IntKind.i64) 12)), none⟩, ⟨some 41, AOp.load (Opd.tmp 40),
    none⟩, ⟨some 42, AOp.move (Opd.tmp 2), none⟩, ⟨some 43, AOp.conv (IntKind.u32) (Opd.tmp 42), none⟩, ⟨some 44, AOp.bin (BinOp.xor) (Opd.tmp 41) (Opd.tmp 43), none⟩, ⟨some 45, AOp.indexAddrA 16 1
    (Opd.tmp 10) (Opd.const (V.int (IntKind.i64) 12)), none⟩, ⟨none, AOp.store 1 (Opd.tmp 45) (Opd.tmp 44), none⟩]) (ACode.seq (ACode.region [⟨some 46, AOp.indexAddrA 16 1 (Opd.tmp 10) (Opd.const
    (V.int (IntKind.i64) 13)), none⟩, ⟨some 47, AOp.load (Opd.tmp 46), none⟩, ⟨some 48, AOp.move (Opd.tmp 2), none⟩, ⟨some 49, AOp.bin (BinOp.shr) (Opd.tmp 48) (Opd.const (V.int (IntKind.u64) 32)),
    none⟩, ⟨some 50, AOp.conv (IntKind.u32) (Opd.tmp 49), none⟩, ⟨some 51, AOp.bin (BinOp.xor) (Opd.tmp 47) (Opd.tmp 50), none⟩, ⟨some 52, AOp.indexAddrA 16 1 (Opd.tmp 10) (Opd.const (V.int
    (IntKind.i64) 13)), none⟩, ⟨none, AOp.store 1 (Opd.tmp 52) (Opd.tmp 51), none⟩]) (ACode.seq (ACode.seq (ACode.region [⟨some 53, AOp.move (Opd.tmp 3), none⟩]) (ACode.cond (Opd.tmp 53) (ACode.region
    [⟨some 54, AOp.indexAddrA 16 1 (Opd.tmp 10) (Opd.const (V.int (IntKind.i64) 14)), none⟩, ⟨some 55, AOp.load (Opd.tmp 54), none⟩, ⟨some 56, AOp.un (UnOp.xor) (Opd.tmp 55), none⟩, ⟨some 57,
    AOp.indexAddrA 16 1 (Opd.tmp 10) (Opd.const (V.int (IntKind.i64) 14)), none⟩, ⟨none, AOp.store 1 (Opd.tmp 57) (Opd.tmp 56), none⟩]) (ACode.skip))) c28_s9)))))
/-- Function 28: blake.press. -/
def c28 : AFn :=
  ⟨142, [ARes.cells 8 8], ACode.seq (ACode.region [⟨some 4, AOp.boxv 54 1 (Opd.tmp 0), none⟩, ⟨some 8, AOp.box 54 1 [V.int (IntKind.u32) 0, V.int (IntKind.u32) 0, V.int (IntKind.u32) 0, V.int
    (IntKind.u32) 0, V.int (IntKind.u32) 0, V.int (IntKind.u32) 0, V.int (IntKind.u32) 0, V.int (IntKind.u32) 0], none⟩]) (ACode.seq (ACode.region [⟨some 9, AOp.box 46 1 [V.int (IntKind.u32) 0, V.int
    (IntKind.u32) 0, V.int (IntKind.u32) 0, V.int (IntKind.u32) 0, V.int (IntKind.u32) 0, V.int (IntKind.u32) 0, V.int (IntKind.u32) 0, V.int (IntKind.u32) 0, V.int (IntKind.u32) 0, V.int
    (IntKind.u32) 0, V.int (IntKind.u32) 0, V.int (IntKind.u32) 0, V.int (IntKind.u32) 0, V.int (IntKind.u32) 0, V.int (IntKind.u32) 0, V.int (IntKind.u32) 0], none⟩, ⟨some 10, AOp.box 46 1 [V.int
    (IntKind.u32) 0, V.int (IntKind.u32) 0, V.int (IntKind.u32) 0, V.int (IntKind.u32) 0, V.int (IntKind.u32) 0, V.int (IntKind.u32) 0, V.int (IntKind.u32) 0, V.int (IntKind.u32) 0, V.int
    (IntKind.u32) 0, V.int (IntKind.u32) 0, V.int (IntKind.u32) 0, V.int (IntKind.u32) 0, V.int (IntKind.u32) 0, V.int (IntKind.u32) 0, V.int (IntKind.u32) 0, V.int (IntKind.u32) 0], none⟩])
    (ACode.seq (ACode.seq (ACode.region [⟨some 19, AOp.move (Opd.const (V.int (IntKind.i64) 0)), none⟩]) (ACode.block 0 (ACode.loop c28_l0))) c28_s3))⟩
theorem h28 : compFn Try.prog Try.f28 = some c28 := by kernel_rfl
/-- A loop of function 29. -/
def c29_l0 : ACode :=
  ACode.seq (ACode.region [⟨some 10, AOp.bin (BinOp.lss) (Opd.tmp 9) (Opd.tmp 8), none⟩]) (ACode.seq (ACode.cond (Opd.tmp 10) (ACode.skip) (ACode.exit 0)) (ACode.seq (ACode.block 1 (ACode.seq
    (ACode.region [⟨some 11, AOp.indexAddrS 1 (Opd.tmp 7) (Opd.tmp 9), none⟩, ⟨some 12, AOp.load (Opd.tmp 11), none⟩, ⟨some 5, AOp.move (Opd.tmp 12), none⟩]) (ACode.region [⟨some 13, AOp.move (Opd.tmp
    3), none⟩, ⟨some 14, AOp.move (Opd.tmp 5), none⟩, ⟨some 15, AOp.append 5 1 1 (Opd.tmp 13) (Opd.tmp 14), none⟩, ⟨some 3, AOp.move (Opd.tmp 15), none⟩]))) (ACode.region [⟨some 16, AOp.bin
    (BinOp.add) (Opd.tmp 9) (Opd.const (V.int (IntKind.i64) 1)), none⟩, ⟨some 9, AOp.move (Opd.tmp 16), none⟩])))
theorem c29_l0_wr : c29_l0.wr = [10, 11, 12, 5, 13, 14, 15, 3, 16, 9] := by kernel_rfl
/-- Function 29: octet.Join. -/
def c29 : AFn :=
  ⟨18, [ARes.tmp 2], ACode.seq (ACode.region [⟨some 2, AOp.move (Opd.const (V.nilslice)), none⟩]) (ACode.seq (ACode.region [⟨some 6, AOp.buildSlice 5 1 [V.int (IntKind.u8) 0] 0 [], none⟩, ⟨some 3,
    AOp.move (Opd.tmp 6), none⟩]) (ACode.seq (ACode.seq (ACode.region [⟨some 7, AOp.move (Opd.tmp 0), none⟩, ⟨some 8, AOp.lenL (Opd.tmp 7), none⟩, ⟨some 9, AOp.move (Opd.const (V.int (IntKind.i64)
    0)), none⟩]) (ACode.block 0 (ACode.loop c29_l0))) (ACode.seq (ACode.region [⟨some 17, AOp.move (Opd.tmp 3), none⟩, ⟨some 2, AOp.move (Opd.tmp 17), none⟩]) (ACode.ret))))⟩
theorem h29 : compFn Try.prog Try.f29 = some c29 := by kernel_rfl
/-- Function 30: octet.Get32. -/
def c30 : AFn :=
  ⟨14, [ARes.tmp 2, ARes.tmp 3], ACode.seq (ACode.region [⟨some 2, AOp.move (Opd.const (V.int (IntKind.u32) 0)), none⟩, ⟨some 3, AOp.move (Opd.const (V.bool false)), none⟩]) (ACode.seq (ACode.region
    [⟨some 7, AOp.move (Opd.tmp 0), none⟩, ⟨some 8, AOp.call (Opd.func 35) [Opd.tmp 7, Opd.const (V.int (IntKind.i64) 4)], none⟩, ⟨some 6, AOp.move (Opd.tmp 8), none⟩, ⟨some 9, AOp.extract (Opd.tmp 6)
    0, none⟩, ⟨some 10, AOp.extract (Opd.tmp 6) 1, none⟩, ⟨some 4, AOp.move (Opd.tmp 9), none⟩, ⟨some 5, AOp.move (Opd.tmp 10), none⟩]) (ACode.seq (ACode.region [⟨some 11, AOp.move (Opd.tmp 4), none⟩,
    ⟨some 12, AOp.conv (IntKind.u32) (Opd.tmp 11), none⟩, ⟨some 13, AOp.move (Opd.tmp 5), none⟩, ⟨some 2, AOp.move (Opd.tmp 12), none⟩, ⟨some 3, AOp.move (Opd.tmp 13), none⟩]) (ACode.ret)))⟩
theorem h30 : compFn Try.prog Try.f30 = some c30 := by kernel_rfl
/-- Function 31: bits.RotateLeft32. -/
def c31 : AFn :=
  ⟨17, [ARes.tmp 4], ACode.seq (ACode.region [⟨some 4, AOp.move (Opd.const (V.int (IntKind.u32) 0)), none⟩]) (ACode.seq (ACode.region [⟨some 6, AOp.move (Opd.tmp 1), none⟩, ⟨some 7, AOp.conv
    (IntKind.u64) (Opd.tmp 6), none⟩, ⟨some 8, AOp.bin (BinOp.and) (Opd.tmp 7) (Opd.const (V.int (IntKind.u64) 31)), none⟩, ⟨some 5, AOp.move (Opd.tmp 8), none⟩]) (ACode.seq (ACode.region [⟨some 9,
    AOp.move (Opd.tmp 0), none⟩, ⟨some 10, AOp.move (Opd.tmp 5), none⟩, ⟨some 11, AOp.bin (BinOp.shl) (Opd.tmp 9) (Opd.tmp 10), none⟩, ⟨some 12, AOp.move (Opd.tmp 0), none⟩, ⟨some 13, AOp.move
    (Opd.tmp 5), none⟩, ⟨some 14, AOp.bin (BinOp.sub) (Opd.const (V.int (IntKind.u64) 32)) (Opd.tmp 13), none⟩, ⟨some 15, AOp.bin (BinOp.shr) (Opd.tmp 12) (Opd.tmp 14), none⟩, ⟨some 16, AOp.bin
    (BinOp.or) (Opd.tmp 11) (Opd.tmp 15), none⟩, ⟨some 4, AOp.move (Opd.tmp 16), none⟩]) (ACode.ret)))⟩
theorem h31 : compFn Try.prog Try.f31 = some c31 := by kernel_rfl
/-- A loop of function 32. -/
def c32_l0 : ACode :=
  ACode.seq (ACode.region [⟨some 12, AOp.bin (BinOp.lss) (Opd.tmp 11) (Opd.tmp 10), none⟩]) (ACode.seq (ACode.cond (Opd.tmp 12) (ACode.skip) (ACode.exit 0)) (ACode.seq (ACode.block 1 (ACode.seq
    (ACode.region [⟨some 13, AOp.move (Opd.tmp 11), none⟩, ⟨some 6, AOp.move (Opd.tmp 13), none⟩]) (ACode.region [⟨some 14, AOp.move (Opd.tmp 5), none⟩, ⟨some 15, AOp.move (Opd.tmp 6), none⟩, ⟨some
    16, AOp.move (Opd.tmp 0), none⟩, ⟨some 17, AOp.move (Opd.tmp 6), none⟩, ⟨some 18, AOp.bin (BinOp.mul) (Opd.const (V.int (IntKind.i64) 8)) (Opd.tmp 17), none⟩, ⟨some 19, AOp.bin (BinOp.shr)
    (Opd.tmp 16) (Opd.tmp 18), none⟩, ⟨some 20, AOp.conv (IntKind.u8) (Opd.tmp 19), none⟩, ⟨some 21, AOp.indexAddrS 1 (Opd.tmp 14) (Opd.tmp 15), none⟩, ⟨none, AOp.store 1 (Opd.tmp 21) (Opd.tmp 20),
    none⟩]))) (ACode.region [⟨some 22, AOp.bin (BinOp.add) (Opd.tmp 11) (Opd.const (V.int (IntKind.i64) 1)), none⟩, ⟨some 11, AOp.move (Opd.tmp 22), none⟩])))
theorem c32_l0_wr : c32_l0.wr = [12, 13, 6, 14, 15, 16, 17, 18, 19, 20, 21, 22, 11] := by kernel_rfl
/-- Function 32: octet.put. -/
def c32 : AFn :=
  ⟨24, [ARes.tmp 4], ACode.seq (ACode.region [⟨some 4, AOp.move (Opd.const (V.nilslice)), none⟩]) (ACode.seq (ACode.region [⟨some 7, AOp.move (Opd.tmp 1), none⟩, ⟨some 8, AOp.makeSlice 5 1 1 [V.int
    (IntKind.u8) 0] (Opd.tmp 7) (Opd.tmp 7), none⟩, ⟨some 5, AOp.move (Opd.tmp 8), none⟩]) (ACode.seq (ACode.seq (ACode.region [⟨some 9, AOp.move (Opd.tmp 5), none⟩, ⟨some 10, AOp.lenL (Opd.tmp 9),
    none⟩, ⟨some 11, AOp.move (Opd.const (V.int (IntKind.i64) 0)), none⟩]) (ACode.block 0 (ACode.loop c32_l0))) (ACode.seq (ACode.region [⟨some 23, AOp.move (Opd.tmp 5), none⟩, ⟨some 4, AOp.move
    (Opd.tmp 23), none⟩]) (ACode.ret))))⟩
theorem h32 : compFn Try.prog Try.f32 = some c32 := by kernel_rfl
/-- What follows in function 33. -/
def c33_s7 : ACode :=
  ACode.anyRegion [⟨some 79, AOp.move (Opd.tmp 1), none⟩, ⟨some 80, AOp.move (Opd.tmp 1), none⟩, ⟨some 81, AOp.indexAddrA 16 1 (Opd.tmp 6) (Opd.tmp 80), none⟩, ⟨some 82, AOp.load (Opd.tmp 81), none⟩,
    ⟨some 83, AOp.move (Opd.tmp 2), none⟩, ⟨some 84, AOp.indexAddrA 16 1 (Opd.tmp 6) (Opd.tmp 83), none⟩, ⟨some 85, AOp.load (Opd.tmp 84), none⟩, ⟨some 86, AOp.bin (BinOp.xor) (Opd.tmp 82) (Opd.tmp
    85), none⟩, ⟨some 87, AOp.call (Opd.func 31) [Opd.tmp 86, Opd.const (V.int (IntKind.i64) (-7))], none⟩, ⟨some 88, AOp.indexAddrA 16 1 (Opd.tmp 6) (Opd.tmp 79), none⟩, ⟨none, AOp.store 1 (Opd.tmp
    88) (Opd.tmp 87), none⟩] []
/-- What follows in function 33. -/
def c33_s6 : ACode :=
  ACode.seq (ACode.anyRegion [⟨some 71, AOp.move (Opd.tmp 2), none⟩, ⟨some 72, AOp.indexAddrA 16 1 (Opd.tmp 6) (Opd.tmp 71), none⟩, ⟨some 73, AOp.load (Opd.tmp 72), none⟩, ⟨some 74, AOp.move (Opd.tmp
    3), none⟩, ⟨some 75, AOp.indexAddrA 16 1 (Opd.tmp 6) (Opd.tmp 74), none⟩, ⟨some 76, AOp.load (Opd.tmp 75), none⟩, ⟨some 77, AOp.bin (BinOp.add) (Opd.tmp 73) (Opd.tmp 76), none⟩, ⟨some 78,
    AOp.indexAddrA 16 1 (Opd.tmp 6) (Opd.tmp 71), none⟩, ⟨none, AOp.store 1 (Opd.tmp 78) (Opd.tmp 77), none⟩] []) c33_s7
/-- What follows in function 33. -/
def c33_s5 : ACode :=
  ACode.seq (ACode.anyRegion [⟨some 61, AOp.move (Opd.tmp 3), none⟩, ⟨some 62, AOp.move (Opd.tmp 3), none⟩, ⟨some 63, AOp.indexAddrA 16 1 (Opd.tmp 6) (Opd.tmp 62), none⟩, ⟨some 64, AOp.load (Opd.tmp
    63), none⟩, ⟨some 65, AOp.move (Opd.tmp 0), none⟩, ⟨some 66, AOp.indexAddrA 16 1 (Opd.tmp 6) (Opd.tmp 65), none⟩, ⟨some 67, AOp.load (Opd.tmp 66), none⟩, ⟨some 68, AOp.bin (BinOp.xor) (Opd.tmp 64)
    (Opd.tmp 67), none⟩, ⟨some 69, AOp.call (Opd.func 31) [Opd.tmp 68, Opd.const (V.int (IntKind.i64) (-8))], none⟩, ⟨some 70, AOp.indexAddrA 16 1 (Opd.tmp 6) (Opd.tmp 61), none⟩, ⟨none, AOp.store 1
    (Opd.tmp 70) (Opd.tmp 69), none⟩] []) c33_s6
/-- What follows in function 33. -/
def c33_s4 : ACode :=
  ACode.seq (ACode.anyRegion [⟨some 51, AOp.move (Opd.tmp 0), none⟩, ⟨some 52, AOp.indexAddrA 16 1 (Opd.tmp 6) (Opd.tmp 51), none⟩, ⟨some 53, AOp.load (Opd.tmp 52), none⟩, ⟨some 54, AOp.move (Opd.tmp
    1), none⟩, ⟨some 55, AOp.indexAddrA 16 1 (Opd.tmp 6) (Opd.tmp 54), none⟩, ⟨some 56, AOp.load (Opd.tmp 55), none⟩, ⟨some 57, AOp.move (Opd.tmp 5), none⟩, ⟨some 58, AOp.bin (BinOp.add) (Opd.tmp 56)
    (Opd.tmp 57), none⟩, ⟨some 59, AOp.bin (BinOp.add) (Opd.tmp 53) (Opd.tmp 58), none⟩, ⟨some 60, AOp.indexAddrA 16 1 (Opd.tmp 6) (Opd.tmp 51), none⟩, ⟨none, AOp.store 1 (Opd.tmp 60) (Opd.tmp 59),
    none⟩] []) c33_s5
/-- What follows in function 33. -/
def c33_s3 : ACode :=
  ACode.seq (ACode.anyRegion [⟨some 41, AOp.move (Opd.tmp 1), none⟩, ⟨some 42, AOp.move (Opd.tmp 1), none⟩, ⟨some 43, AOp.indexAddrA 16 1 (Opd.tmp 6) (Opd.tmp 42), none⟩, ⟨some 44, AOp.load (Opd.tmp
    43), none⟩, ⟨some 45, AOp.move (Opd.tmp 2), none⟩, ⟨some 46, AOp.indexAddrA 16 1 (Opd.tmp 6) (Opd.tmp 45), none⟩, ⟨some 47, AOp.load (Opd.tmp 46), none⟩, ⟨some 48, AOp.bin (BinOp.xor) (Opd.tmp 44)
    (Opd.tmp 47), none⟩, ⟨some 49, AOp.call (Opd.func 31) [Opd.tmp 48, Opd.const (V.int (IntKind.i64) (-12))], none⟩, ⟨some 50, AOp.indexAddrA 16 1 (Opd.tmp 6) (Opd.tmp 41), none⟩, ⟨none, AOp.store 1
    (Opd.tmp 50) (Opd.tmp 49), none⟩] []) c33_s4
/-- What follows in function 33. -/
def c33_s2 : ACode :=
  ACode.seq (ACode.anyRegion [⟨some 33, AOp.move (Opd.tmp 2), none⟩, ⟨some 34, AOp.indexAddrA 16 1 (Opd.tmp 6) (Opd.tmp 33), none⟩, ⟨some 35, AOp.load (Opd.tmp 34), none⟩, ⟨some 36, AOp.move (Opd.tmp
    3), none⟩, ⟨some 37, AOp.indexAddrA 16 1 (Opd.tmp 6) (Opd.tmp 36), none⟩, ⟨some 38, AOp.load (Opd.tmp 37), none⟩, ⟨some 39, AOp.bin (BinOp.add) (Opd.tmp 35) (Opd.tmp 38), none⟩, ⟨some 40,
    AOp.indexAddrA 16 1 (Opd.tmp 6) (Opd.tmp 33), none⟩, ⟨none, AOp.store 1 (Opd.tmp 40) (Opd.tmp 39), none⟩] []) c33_s3
/-- What follows in function 33. -/
def c33_s1 : ACode :=
  ACode.seq (ACode.anyRegion [⟨some 23, AOp.move (Opd.tmp 3), none⟩, ⟨some 24, AOp.move (Opd.tmp 3), none⟩, ⟨some 25, AOp.indexAddrA 16 1 (Opd.tmp 6) (Opd.tmp 24), none⟩, ⟨some 26, AOp.load (Opd.tmp
    25), none⟩, ⟨some 27, AOp.move (Opd.tmp 0), none⟩, ⟨some 28, AOp.indexAddrA 16 1 (Opd.tmp 6) (Opd.tmp 27), none⟩, ⟨some 29, AOp.load (Opd.tmp 28), none⟩, ⟨some 30, AOp.bin (BinOp.xor) (Opd.tmp 26)
    (Opd.tmp 29), none⟩, ⟨some 31, AOp.call (Opd.func 31) [Opd.tmp 30, Opd.const (V.int (IntKind.i64) (-16))], none⟩, ⟨some 32, AOp.indexAddrA 16 1 (Opd.tmp 6) (Opd.tmp 23), none⟩, ⟨none, AOp.store 1
    (Opd.tmp 32) (Opd.tmp 31), none⟩] []) c33_s2
/-- Function 33: blake.press$1. -/
def c33 : AFn :=
  ⟨89, [], ACode.seq (ACode.anyRegion [⟨some 13, AOp.move (Opd.tmp 0), none⟩, ⟨some 14, AOp.indexAddrA 16 1 (Opd.tmp 6) (Opd.tmp 13), none⟩, ⟨some 15, AOp.load (Opd.tmp 14), none⟩, ⟨some 16, AOp.move
    (Opd.tmp 1), none⟩, ⟨some 17, AOp.indexAddrA 16 1 (Opd.tmp 6) (Opd.tmp 16), none⟩, ⟨some 18, AOp.load (Opd.tmp 17), none⟩, ⟨some 19, AOp.move (Opd.tmp 4), none⟩, ⟨some 20, AOp.bin (BinOp.add)
    (Opd.tmp 18) (Opd.tmp 19), none⟩, ⟨some 21, AOp.bin (BinOp.add) (Opd.tmp 15) (Opd.tmp 20), none⟩, ⟨some 22, AOp.indexAddrA 16 1 (Opd.tmp 6) (Opd.tmp 13), none⟩, ⟨none, AOp.store 1 (Opd.tmp 22)
    (Opd.tmp 21), none⟩] []) c33_s1⟩
theorem h33 : compFn Try.prog Try.f33 = some c33 := by kernel_rfl
/-- Function 34: blake.sigma. -/
def c34 : AFn :=
  ⟨16, [ARes.cells 2 16], ACode.seq (ACode.region [⟨some 2, AOp.box 66 1 [V.int (IntKind.i64) 0, V.int (IntKind.i64) 0, V.int (IntKind.i64) 0, V.int (IntKind.i64) 0, V.int (IntKind.i64) 0, V.int
    (IntKind.i64) 0, V.int (IntKind.i64) 0, V.int (IntKind.i64) 0, V.int (IntKind.i64) 0, V.int (IntKind.i64) 0, V.int (IntKind.i64) 0, V.int (IntKind.i64) 0, V.int (IntKind.i64) 0, V.int
    (IntKind.i64) 0, V.int (IntKind.i64) 0, V.int (IntKind.i64) 0], none⟩]) (ACode.seq (ACode.region [⟨some 3, AOp.build [V.int (IntKind.i64) 0, V.int (IntKind.i64) 0, V.int (IntKind.i64) 0, V.int
    (IntKind.i64) 0, V.int (IntKind.i64) 0, V.int (IntKind.i64) 0, V.int (IntKind.i64) 0, V.int (IntKind.i64) 0, V.int (IntKind.i64) 0, V.int (IntKind.i64) 0, V.int (IntKind.i64) 0, V.int
    (IntKind.i64) 0, V.int (IntKind.i64) 0, V.int (IntKind.i64) 0, V.int (IntKind.i64) 0, V.int (IntKind.i64) 0] [(0, 1, Opd.const (V.int (IntKind.i64) 0)), (1, 1, Opd.const (V.int (IntKind.i64) 1)),
    (2, 1, Opd.const (V.int (IntKind.i64) 2)), (3, 1, Opd.const (V.int (IntKind.i64) 3)), (4, 1, Opd.const (V.int (IntKind.i64) 4)), (5, 1, Opd.const (V.int (IntKind.i64) 5)), (6, 1, Opd.const (V.int
    (IntKind.i64) 6)), (7, 1, Opd.const (V.int (IntKind.i64) 7)), (8, 1, Opd.const (V.int (IntKind.i64) 8)), (9, 1, Opd.const (V.int (IntKind.i64) 9)), (10, 1, Opd.const (V.int (IntKind.i64) 10)),
    (11, 1, Opd.const (V.int (IntKind.i64) 11)), (12, 1, Opd.const (V.int (IntKind.i64) 12)), (13, 1, Opd.const (V.int (IntKind.i64) 13)), (14, 1, Opd.const (V.int (IntKind.i64) 14)), (15, 1,
    Opd.const (V.int (IntKind.i64) 15))], none⟩, ⟨some 4, AOp.build [V.int (IntKind.i64) 0, V.int (IntKind.i64) 0, V.int (IntKind.i64) 0, V.int (IntKind.i64) 0, V.int (IntKind.i64) 0, V.int
    (IntKind.i64) 0, V.int (IntKind.i64) 0, V.int (IntKind.i64) 0, V.int (IntKind.i64) 0, V.int (IntKind.i64) 0, V.int (IntKind.i64) 0, V.int (IntKind.i64) 0, V.int (IntKind.i64) 0, V.int
    (IntKind.i64) 0, V.int (IntKind.i64) 0, V.int (IntKind.i64) 0] [(0, 1, Opd.const (V.int (IntKind.i64) 14)), (1, 1, Opd.const (V.int (IntKind.i64) 10)), (2, 1, Opd.const (V.int (IntKind.i64) 4)),
    (3, 1, Opd.const (V.int (IntKind.i64) 8)), (4, 1, Opd.const (V.int (IntKind.i64) 9)), (5, 1, Opd.const (V.int (IntKind.i64) 15)), (6, 1, Opd.const (V.int (IntKind.i64) 13)), (7, 1, Opd.const
    (V.int (IntKind.i64) 6)), (8, 1, Opd.const (V.int (IntKind.i64) 1)), (9, 1, Opd.const (V.int (IntKind.i64) 12)), (10, 1, Opd.const (V.int (IntKind.i64) 0)), (11, 1, Opd.const (V.int (IntKind.i64)
    2)), (12, 1, Opd.const (V.int (IntKind.i64) 11)), (13, 1, Opd.const (V.int (IntKind.i64) 7)), (14, 1, Opd.const (V.int (IntKind.i64) 5)), (15, 1, Opd.const (V.int (IntKind.i64) 3))], none⟩, ⟨some
    5, AOp.build [V.int (IntKind.i64) 0, V.int (IntKind.i64) 0, V.int (IntKind.i64) 0, V.int (IntKind.i64) 0, V.int (IntKind.i64) 0, V.int (IntKind.i64) 0, V.int (IntKind.i64) 0, V.int (IntKind.i64)
    0, V.int (IntKind.i64) 0, V.int (IntKind.i64) 0, V.int (IntKind.i64) 0, V.int (IntKind.i64) 0, V.int (IntKind.i64) 0, V.int (IntKind.i64) 0, V.int (IntKind.i64) 0, V.int (IntKind.i64) 0] [(0, 1,
    Opd.const (V.int (IntKind.i64) 11)), (1, 1, Opd.const (V.int (IntKind.i64) 8)), (2, 1, Opd.const (V.int (IntKind.i64) 12)), (3, 1, Opd.const (V.int (IntKind.i64) 0)), (4, 1, Opd.const (V.int
    (IntKind.i64) 5)), (5, 1, Opd.const (V.int (IntKind.i64) 2)), (6, 1, Opd.const (V.int (IntKind.i64) 15)), (7, 1, Opd.const (V.int (IntKind.i64) 13)), (8, 1, Opd.const (V.int (IntKind.i64) 10)),
    (9, 1, Opd.const (V.int (IntKind.i64) 14)), (10, 1, Opd.const (V.int (IntKind.i64) 3)), (11, 1, Opd.const (V.int (IntKind.i64) 6)), (12, 1, Opd.const (V.int (IntKind.i64) 7)), (13, 1, Opd.const
    (V.int (IntKind.i64) 1)), (14, 1, Opd.const (V.int (IntKind.i64) 9)), (15, 1, Opd.const (V.int (IntKind.i64) 4))], none⟩, ⟨some 6, AOp.build [V.int (IntKind.i64) 0, V.int (IntKind.i64) 0, V.int
    (IntKind.i64) 0, V.int (IntKind.i64) 0, V.int (IntKind.i64) 0, V.int (IntKind.i64) 0, V.int (IntKind.i64) 0, V.int (IntKind.i64) 0, V.int (IntKind.i64) 0, V.int (IntKind.i64) 0, V.int
    (IntKind.i64) 0, V.int (IntKind.i64) 0, V.int (IntKind.i64) 0, V.int (IntKind.i64) 0, V.int (IntKind.i64) 0, V.int (IntKind.i64) 0] [(0, 1, Opd.const (V.int (IntKind.i64) 7)), (1, 1, Opd.const
    (V.int (IntKind.i64) 9)), (2, 1, Opd.const (V.int (IntKind.i64) 3)), (3, 1, Opd.const (V.int (IntKind.i64) 1)), (4, 1, Opd.const (V.int (IntKind.i64) 13)), (5, 1, Opd.const (V.int (IntKind.i64)
    12)), (6, 1, Opd.const (V.int (IntKind.i64) 11)), (7, 1, Opd.const (V.int (IntKind.i64) 14)), (8, 1, Opd.const (V.int (IntKind.i64) 2)), (9, 1, Opd.const (V.int (IntKind.i64) 6)), (10, 1,
    Opd.const (V.int (IntKind.i64) 5)), (11, 1, Opd.const (V.int (IntKind.i64) 10)), (12, 1, Opd.const (V.int (IntKind.i64) 4)), (13, 1, Opd.const (V.int (IntKind.i64) 0)), (14, 1, Opd.const (V.int
    (IntKind.i64) 15)), (15, 1, Opd.const (V.int (IntKind.i64) 8))], none⟩, ⟨some 7, AOp.build [V.int (IntKind.i64) 0, V.int (IntKind.i64) 0, V.int (IntKind.i64) 0, V.int (IntKind.i64) 0, V.int
    (IntKind.i64) 0, V.int (IntKind.i64) 0, V.int (IntKind.i64) 0, V.int (IntKind.i64) 0, V.int (IntKind.i64) 0, V.int (IntKind.i64) 0, V.int (IntKind.i64) 0, V.int (IntKind.i64) 0, V.int
    (IntKind.i64) 0, V.int (IntKind.i64) 0, V.int (IntKind.i64) 0, V.int (IntKind.i64) 0] [(0, 1, Opd.const (V.int (IntKind.i64) 9)), (1, 1, Opd.const (V.int (IntKind.i64) 0)), (2, 1, Opd.const (V.int
    (IntKind.i64) 5)), (3, 1, Opd.const (V.int (IntKind.i64) 7)), (4, 1, Opd.const (V.int (IntKind.i64) 2)), (5, 1, Opd.const (V.int (IntKind.i64) 4)), (6, 1, Opd.const (V.int (IntKind.i64) 10)), (7,
    1, Opd.const (V.int (IntKind.i64) 15)), (8, 1, Opd.const (V.int (IntKind.i64) 14)), (9, 1, Opd.const (V.int (IntKind.i64) 1)), (10, 1, Opd.const (V.int (IntKind.i64) 11)), (11, 1, Opd.const (V.int
    (IntKind.i64) 12)), (12, 1, Opd.const (V.int (IntKind.i64) 6)), (13, 1, Opd.const (V.int (IntKind.i64) 8)), (14, 1, Opd.const (V.int (IntKind.i64) 3)), (15, 1, Opd.const (V.int (IntKind.i64)
    13))], none⟩, ⟨some 8, AOp.build [V.int (IntKind.i64) 0, V.int (IntKind.i64) 0, V.int (IntKind.i64) 0, V.int (IntKind.i64) 0, V.int (IntKind.i64) 0, V.int (IntKind.i64) 0, V.int (IntKind.i64) 0,
    V.int (IntKind.i64) 0, V.int (IntKind.i64) 0, V.int (IntKind.i64) 0, V.int (IntKind.i64) 0, V.int (IntKind.i64) 0, V.int (IntKind.i64) 0, V.int (IntKind.i64) 0, V.int (IntKind.i64) 0, V.int
    (IntKind.i64) 0] [(0, 1, Opd.const (V.int (IntKind.i64) 2)), (1, 1, Opd.const (V.int (IntKind.i64) 12)), (2, 1, Opd.const (V.int (IntKind.i64) 6)), (3, 1, Opd.const (V.int (IntKind.i64) 10)), (4,
    1, Opd.const (V.int (IntKind.i64) 0)), (5, 1, Opd.const (V.int (IntKind.i64) 11)), (6, 1, Opd.const (V.int (IntKind.i64) 8)), (7, 1, Opd.const (V.int (IntKind.i64) 3)), (8, 1, Opd.const (V.int
    (IntKind.i64) 4)), (9, 1, Opd.const (V.int (IntKind.i64) 13)), (10, 1, Opd.const (V.int (IntKind.i64) 7)), (11, 1, Opd.const (V.int (IntKind.i64) 5)), (12, 1, Opd.const (V.int (IntKind.i64) 15)),
    (13, 1, Opd.const (V.int (IntKind.i64) 14)), (14, 1, Opd.const (V.int (IntKind.i64) 1)), (15, 1, Opd.const (V.int (IntKind.i64) 9))], none⟩, ⟨some 9, AOp.build [V.int (IntKind.i64) 0, V.int
    (IntKind.i64) 0, V.int (IntKind.i64) 0, V.int (IntKind.i64) 0, V.int (IntKind.i64) 0, V.int (IntKind.i64) 0, V.int (IntKind.i64) 0, V.int (IntKind.i64) 0, V.int (IntKind.i64) 0, V.int
    (IntKind.i64) 0, V.int (IntKind.i64) 0, V.int (IntKind.i64) 0, V.int (IntKind.i64) 0, V.int (IntKind.i64) 0, V.int (IntKind.i64) 0, V.int (IntKind.i64) 0] [(0, 1, Opd.const (V.int (IntKind.i64)
    12)), (1, 1, Opd.const (V.int (IntKind.i64) 5)), (2, 1, Opd.const (V.int (IntKind.i64) 1)), (3, 1, Opd.const (V.int (IntKind.i64) 15)), (4, 1, Opd.const (V.int (IntKind.i64) 14)), (5, 1, Opd.const
    (V.int (IntKind.i64) 13)), (6, 1, Opd.const (V.int (IntKind.i64) 4)), (7, 1, Opd.const (V.int (IntKind.i64) 10)), (8, 1, Opd.const (V.int (IntKind.i64) 0)), (9, 1, Opd.const (V.int (IntKind.i64)
    7)), (10, 1, Opd.const (V.int (IntKind.i64) 6)), (11, 1, Opd.const (V.int (IntKind.i64) 3)), (12, 1, Opd.const (V.int (IntKind.i64) 9)), (13, 1, Opd.const (V.int (IntKind.i64) 2)), (14, 1,
    Opd.const (V.int (IntKind.i64) 8)), (15, 1, Opd.const (V.int (IntKind.i64) 11))], none⟩, ⟨some 10, AOp.build [V.int (IntKind.i64) 0, V.int (IntKind.i64) 0, V.int (IntKind.i64) 0, V.int
    (IntKind.i64) 0, V.int (IntKind.i64) 0, V.int (IntKind.i64) 0, V.int (IntKind.i64) 0, V.int (IntKind.i64) 0, V.int (IntKind.i64) 0, V.int (IntKind.i64) 0, V.int (IntKind.i64) 0, V.int
    (IntKind.i64) 0, V.int (IntKind.i64) 0, V.int (IntKind.i64) 0, V.int (IntKind.i64) 0, V.int (IntKind.i64) 0] [(0, 1, Opd.const (V.int (IntKind.i64) 13)), (1, 1, Opd.const (V.int (IntKind.i64)
    11)), (2, 1, Opd.const (V.int (IntKind.i64) 7)), (3, 1, Opd.const (V.int (IntKind.i64) 14)), (4, 1, Opd.const (V.int (IntKind.i64) 12)), (5, 1, Opd.const (V.int (IntKind.i64) 1)), (6, 1, Opd.const
    (V.int (IntKind.i64) 3)), (7, 1, Opd.const (V.int (IntKind.i64) 9)), (8, 1, Opd.const (V.int (IntKind.i64) 5)), (9, 1, Opd.const (V.int (IntKind.i64) 0)), (10, 1, Opd.const (V.int (IntKind.i64)
    15)), (11, 1, Opd.const (V.int (IntKind.i64) 4)), (12, 1, Opd.const (V.int (IntKind.i64) 8)), (13, 1, Opd.const (V.int (IntKind.i64) 6)), (14, 1, Opd.const (V.int (IntKind.i64) 2)), (15, 1,
    Opd.const (V.int (IntKind.i64) 10))], none⟩, ⟨some 11, AOp.build [V.int (IntKind.i64) 0, V.int (IntKind.i64) 0, V.int (IntKind.i64) 0, V.int (IntKind.i64) 0, V.int (IntKind.i64) 0, V.int
    (IntKind.i64) 0, V.int (IntKind.i64) 0, V.int (IntKind.i64) 0, V.int (IntKind.i64) 0, V.int (IntKind.i64) 0, V.int (IntKind.i64) 0, V.int (IntKind.i64) 0, V.int (IntKind.i64) 0, V.int
    (IntKind.i64) 0, V.int (IntKind.i64) 0, V.int (IntKind.i64) 0] [(0, 1, Opd.const (V.int (IntKind.i64) 6)), (1, 1, Opd.const (V.int (IntKind.i64) 15)), (2, 1, Opd.const (V.int (IntKind.i64) 14)),
    (3, 1, Opd.const (V.int (IntKind.i64) 9)), (4, 1, Opd.const (V.int (IntKind.i64) 11)), (5, 1, Opd.const (V.int (IntKind.i64) 3)), (6, 1, Opd.const (V.int (IntKind.i64) 0)), (7, 1, Opd.const (V.int
    (IntKind.i64) 8)), (8, 1, Opd.const (V.int (IntKind.i64) 12)), (9, 1, Opd.const (V.int (IntKind.i64) 2)), (10, 1, Opd.const (V.int (IntKind.i64) 13)), (11, 1, Opd.const (V.int (IntKind.i64) 7)),
    (12, 1, Opd.const (V.int (IntKind.i64) 1)), (13, 1, Opd.const (V.int (IntKind.i64) 4)), (14, 1, Opd.const (V.int (IntKind.i64) 10)), (15, 1, Opd.const (V.int (IntKind.i64) 5))], none⟩, ⟨some 12,
    AOp.build [V.int (IntKind.i64) 0, V.int (IntKind.i64) 0, V.int (IntKind.i64) 0, V.int (IntKind.i64) 0, V.int (IntKind.i64) 0, V.int (IntKind.i64) 0, V.int (IntKind.i64) 0, V.int (IntKind.i64) 0,
    V.int (IntKind.i64) 0, V.int (IntKind.i64) 0, V.int (IntKind.i64) 0, V.int (IntKind.i64) 0, V.int (IntKind.i64) 0, V.int (IntKind.i64) 0, V.int (IntKind.i64) 0, V.int (IntKind.i64) 0] [(0, 1,
    Opd.const (V.int (IntKind.i64) 10)), (1, 1, Opd.const (V.int (IntKind.i64) 2)), (2, 1, Opd.const (V.int (IntKind.i64) 8)), (3, 1, Opd.const (V.int (IntKind.i64) 4)), (4, 1, Opd.const (V.int
    (IntKind.i64) 7)), (5, 1, Opd.const (V.int (IntKind.i64) 6)), (6, 1, Opd.const (V.int (IntKind.i64) 1)), (7, 1, Opd.const (V.int (IntKind.i64) 5)), (8, 1, Opd.const (V.int (IntKind.i64) 15)), (9,
    1, Opd.const (V.int (IntKind.i64) 11)), (10, 1, Opd.const (V.int (IntKind.i64) 9)), (11, 1, Opd.const (V.int (IntKind.i64) 14)), (12, 1, Opd.const (V.int (IntKind.i64) 3)), (13, 1, Opd.const
    (V.int (IntKind.i64) 12)), (14, 1, Opd.const (V.int (IntKind.i64) 13)), (15, 1, Opd.const (V.int (IntKind.i64) 0))], none⟩, ⟨some 13, AOp.build [V.int (IntKind.i64) 0, V.int (IntKind.i64) 0, V.int
    (IntKind.i64) 0, V.int (IntKind.i64) 0, V.int (IntKind.i64) 0, V.int (IntKind.i64) 0, V.int (IntKind.i64) 0, V.int (IntKind.i64) 0, V.int (IntKind.i64) 0, V.int (IntKind.i64) 0, V.int
    (IntKind.i64) 0, V.int (IntKind.i64) 0, V.int (IntKind.i64) 0, V.int (IntKind.i64) 0, V.int (IntKind.i64) 0, V.int (IntKind.i64) 0, V.int (IntKind.i64) 0, V.int (IntKind.i64) 0, V.int
    (IntKind.i64) 0, V.int (IntKind.i64) 0, V.int (IntKind.i64) 0, V.int (IntKind.i64) 0, V.int (IntKind.i64) 0, V.int (IntKind.i64) 0, V.int (IntKind.i64) 0, V.int (IntKind.i64) 0, V.int
    (IntKind.i64) 0, V.int (IntKind.i64) 0, V.int (IntKind.i64) 0, V.int (IntKind.i64) 0, V.int (IntKind.i64) 0, V.int (IntKind.i64) 0, V.int (IntKind.i64) 0, V.int (IntKind.i64) 0, V.int
    (IntKind.i64) 0, V.int (IntKind.i64) 0, V.int (IntKind.i64) 0, V.int (IntKind.i64) 0, V.int (IntKind.i64) 0, V.int (IntKind.i64) 0, V.int (IntKind.i64) 0, V.int (IntKind.i64) 0, V.int
    (IntKind.i64) 0, V.int (IntKind.i64) 0, V.int (IntKind.i64) 0, V.int (IntKind.i64) 0, V.int (IntKind.i64) 0, V.int (IntKind.i64) 0, V.int (IntKind.i64) 0, V.int (IntKind.i64) 0, V.int
    (IntKind.i64) 0, V.int (IntKind.i64) 0, V.int (IntKind.i64) 0, V.int (IntKind.i64) 0, V.int (IntKind.i64) 0, V.int (IntKind.i64) 0, V.int (IntKind.i64) 0, V.int (IntKind.i64) 0, V.int
    (IntKind.i64) 0, V.int (IntKind.i64) 0, V.int (IntKind.i64) 0, V.int (IntKind.i64) 0, V.int (IntKind.i64) 0, V.int (IntKind.i64) 0, V.int (IntKind.i64) 0, V.int (IntKind.i64) 0, V.int
    (IntKind.i64) 0, V.int (IntKind.i64) 0, V.int (IntKind.i64) 0, V.int (IntKind.i64) 0, V.int (IntKind.i64) 0, V.int (IntKind.i64) 0, V.int (IntKind.i64) 0, V.int (IntKind.i64) 0, V.int
    (IntKind.i64) 0, V.int (IntKind.i64) 0, V.int (IntKind.i64) 0, V.int (IntKind.i64) 0, V.int (IntKind.i64) 0, V.int (IntKind.i64) 0, V.int (IntKind.i64) 0, V.int (IntKind.i64) 0, V.int
    (IntKind.i64) 0, V.int (IntKind.i64) 0, V.int (IntKind.i64) 0, V.int (IntKind.i64) 0, V.int (IntKind.i64) 0, V.int (IntKind.i64) 0, V.int (IntKind.i64) 0, V.int (IntKind.i64) 0, V.int
    (IntKind.i64) 0, V.int (IntKind.i64) 0, V.int (IntKind.i64) 0, V.int (IntKind.i64) 0, V.int (IntKind.i64) 0, V.int (IntKind.i64) 0, V.int (IntKind.i64) 0, V.int (IntKind.i64) 0, V.int
    (IntKind.i64) 0, V.int (IntKind.i64) 0, V.int (IntKind.i64) 0, V.int (IntKind.i64) 0, V.int (IntKind.i64) 0, V.int (IntKind.i64) 0, V.int (IntKind.i64) 0, V.int (IntKind.i64) 0, V.int
    (IntKind.i64) 0, V.int (IntKind.i64) 0, V.int (IntKind.i64) 0, V.int (IntKind.i64) 0, V.int (IntKind.i64) 0, V.int (IntKind.i64) 0, V.int (IntKind.i64) 0, V.int (IntKind.i64) 0, V.int
    (IntKind.i64) 0, V.int (IntKind.i64) 0, V.int (IntKind.i64) 0, V.int (IntKind.i64) 0, V.int (IntKind.i64) 0, V.int (IntKind.i64) 0, V.int (IntKind.i64) 0, V.int (IntKind.i64) 0, V.int
    (IntKind.i64) 0, V.int (IntKind.i64) 0, V.int (IntKind.i64) 0, V.int (IntKind.i64) 0, V.int (IntKind.i64) 0, V.int (IntKind.i64) 0, V.int (IntKind.i64) 0, V.int (IntKind.i64) 0, V.int
    (IntKind.i64) 0, V.int (IntKind.i64) 0, V.int (IntKind.i64) 0, V.int (IntKind.i64) 0, V.int (IntKind.i64) 0, V.int (IntKind.i64) 0, V.int (IntKind.i64) 0, V.int (IntKind.i64) 0, V.int
    (IntKind.i64) 0, V.int (IntKind.i64) 0, V.int (IntKind.i64) 0, V.int (IntKind.i64) 0, V.int (IntKind.i64) 0, V.int (IntKind.i64) 0, V.int (IntKind.i64) 0, V.int (IntKind.i64) 0, V.int
    (IntKind.i64) 0, V.int (IntKind.i64) 0, V.int (IntKind.i64) 0, V.int (IntKind.i64) 0, V.int (IntKind.i64) 0, V.int (IntKind.i64) 0, V.int (IntKind.i64) 0, V.int (IntKind.i64) 0, V.int
    (IntKind.i64) 0, V.int (IntKind.i64) 0, V.int (IntKind.i64) 0, V.int (IntKind.i64) 0, V.int (IntKind.i64) 0, V.int (IntKind.i64) 0] [(0, 16, Opd.tmp 3), (16, 16, Opd.tmp 4), (32, 16, Opd.tmp 5),
    (48, 16, Opd.tmp 6), (64, 16, Opd.tmp 7), (80, 16, Opd.tmp 8), (96, 16, Opd.tmp 9), (112, 16, Opd.tmp 10), (128, 16, Opd.tmp 11), (144, 16, Opd.tmp 12)], none⟩, ⟨some 14, AOp.move (Opd.tmp 0),
    none⟩, ⟨some 15, AOp.indexA 10 16 true (Opd.tmp 13) (Opd.tmp 14), none⟩, ⟨none, AOp.store 16 (Opd.tmp 2) (Opd.tmp 15), none⟩]) (ACode.ret))⟩
theorem h34 : compFn Try.prog Try.f34 = some c34 := by kernel_rfl
/-- A loop of function 35. -/
def c35_l0 : ACode :=
  ACode.seq (ACode.region [⟨some 14, AOp.bin (BinOp.lss) (Opd.tmp 13) (Opd.tmp 12), none⟩]) (ACode.seq (ACode.cond (Opd.tmp 14) (ACode.skip) (ACode.exit 0)) (ACode.seq (ACode.block 1 (ACode.seq
    (ACode.region [⟨some 15, AOp.move (Opd.tmp 13), none⟩, ⟨some 7, AOp.move (Opd.tmp 15), none⟩]) (ACode.region [⟨some 16, AOp.move (Opd.tmp 6), none⟩, ⟨some 17, AOp.move (Opd.tmp 0), none⟩, ⟨some
    18, AOp.move (Opd.tmp 7), none⟩, ⟨some 19, AOp.indexAddrS 1 (Opd.tmp 17) (Opd.tmp 18), none⟩, ⟨some 20, AOp.load (Opd.tmp 19), none⟩, ⟨some 21, AOp.conv (IntKind.u64) (Opd.tmp 20), none⟩, ⟨some
    22, AOp.move (Opd.tmp 7), none⟩, ⟨some 23, AOp.bin (BinOp.mul) (Opd.const (V.int (IntKind.i64) 8)) (Opd.tmp 22), none⟩, ⟨some 24, AOp.bin (BinOp.shl) (Opd.tmp 21) (Opd.tmp 23), none⟩, ⟨some 25,
    AOp.bin (BinOp.or) (Opd.tmp 16) (Opd.tmp 24), none⟩, ⟨some 6, AOp.move (Opd.tmp 25), none⟩]))) (ACode.region [⟨some 26, AOp.bin (BinOp.add) (Opd.tmp 13) (Opd.const (V.int (IntKind.i64) 1)), none⟩,
    ⟨some 13, AOp.move (Opd.tmp 26), none⟩])))
theorem c35_l0_wr : c35_l0.wr = [14, 15, 7, 16, 17, 18, 19, 20, 21, 22, 23, 24, 25, 6, 26, 13] := by kernel_rfl
/-- Function 35: octet.get. -/
def c35 : AFn :=
  ⟨28, [ARes.tmp 4, ARes.tmp 5], ACode.seq (ACode.region [⟨some 4, AOp.move (Opd.const (V.int (IntKind.u64) 0)), none⟩, ⟨some 5, AOp.move (Opd.const (V.bool false)), none⟩]) (ACode.seq (ACode.seq
    (ACode.region [⟨some 8, AOp.move (Opd.tmp 0), none⟩, ⟨some 9, AOp.lenL (Opd.tmp 8), none⟩, ⟨some 10, AOp.move (Opd.tmp 1), none⟩, ⟨some 11, AOp.bin (BinOp.lss) (Opd.tmp 9) (Opd.tmp 10), none⟩])
    (ACode.cond (Opd.tmp 11) (ACode.seq (ACode.region [⟨some 4, AOp.move (Opd.const (V.int (IntKind.u64) 0)), none⟩, ⟨some 5, AOp.move (Opd.const (V.bool false)), none⟩]) (ACode.ret)) (ACode.skip)))
    (ACode.seq (ACode.region [⟨some 6, AOp.move (Opd.const (V.int (IntKind.u64) 0)), none⟩]) (ACode.seq (ACode.seq (ACode.region [⟨some 12, AOp.move (Opd.tmp 1), none⟩, ⟨some 13, AOp.move (Opd.const
    (V.int (IntKind.i64) 0)), none⟩]) (ACode.block 0 (ACode.loop c35_l0))) (ACode.seq (ACode.region [⟨some 27, AOp.move (Opd.tmp 6), none⟩, ⟨some 4, AOp.move (Opd.tmp 27), none⟩, ⟨some 5, AOp.move
    (Opd.const (V.bool true)), none⟩]) (ACode.ret)))))⟩
theorem h35 : compFn Try.prog Try.f35 = some c35 := by kernel_rfl
def tab (f : Nat) : Option AFn :=
  if f = 9 then some c9 else if f = 16 then some c16 else if f = 17 then some c17 else if f = 18 then some c18 else if f = 19 then some c19 else if f = 20 then some c20 else if f = 21 then some c21 else if f = 25 then some c25 else if f = 27 then some c27 else if f = 28 then some c28 else if f = 29 then some c29 else if f = 30 then some c30 else if f = 31 then some c31 else if f = 32 then some c32 else if f = 33 then some c33 else if f = 34 then some c34 else if f = 35 then some c35 else none
theorem tab_holds : Holds Try.prog tab := by
  intro f fn hf
  unfold tab at hf
  by_cases e9 : f = 9
  · rw [if_pos e9] at hf; subst e9; cases hf; exact ⟨_, Try.func9, h9⟩
  rw [if_neg e9] at hf
  by_cases e16 : f = 16
  · rw [if_pos e16] at hf; subst e16; cases hf; exact ⟨_, Try.func16, h16⟩
  rw [if_neg e16] at hf
  by_cases e17 : f = 17
  · rw [if_pos e17] at hf; subst e17; cases hf; exact ⟨_, Try.func17, h17⟩
  rw [if_neg e17] at hf
  by_cases e18 : f = 18
  · rw [if_pos e18] at hf; subst e18; cases hf; exact ⟨_, Try.func18, h18⟩
  rw [if_neg e18] at hf
  by_cases e19 : f = 19
  · rw [if_pos e19] at hf; subst e19; cases hf; exact ⟨_, Try.func19, h19⟩
  rw [if_neg e19] at hf
  by_cases e20 : f = 20
  · rw [if_pos e20] at hf; subst e20; cases hf; exact ⟨_, Try.func20, h20⟩
  rw [if_neg e20] at hf
  by_cases e21 : f = 21
  · rw [if_pos e21] at hf; subst e21; cases hf; exact ⟨_, Try.func21, h21⟩
  rw [if_neg e21] at hf
  by_cases e25 : f = 25
  · rw [if_pos e25] at hf; subst e25; cases hf; exact ⟨_, Try.func25, h25⟩
  rw [if_neg e25] at hf
  by_cases e27 : f = 27
  · rw [if_pos e27] at hf; subst e27; cases hf; exact ⟨_, Try.func27, h27⟩
  rw [if_neg e27] at hf
  by_cases e28 : f = 28
  · rw [if_pos e28] at hf; subst e28; cases hf; exact ⟨_, Try.func28, h28⟩
  rw [if_neg e28] at hf
  by_cases e29 : f = 29
  · rw [if_pos e29] at hf; subst e29; cases hf; exact ⟨_, Try.func29, h29⟩
  rw [if_neg e29] at hf
  by_cases e30 : f = 30
  · rw [if_pos e30] at hf; subst e30; cases hf; exact ⟨_, Try.func30, h30⟩
  rw [if_neg e30] at hf
  by_cases e31 : f = 31
  · rw [if_pos e31] at hf; subst e31; cases hf; exact ⟨_, Try.func31, h31⟩
  rw [if_neg e31] at hf
  by_cases e32 : f = 32
  · rw [if_pos e32] at hf; subst e32; cases hf; exact ⟨_, Try.func32, h32⟩
  rw [if_neg e32] at hf
  by_cases e33 : f = 33
  · rw [if_pos e33] at hf; subst e33; cases hf; exact ⟨_, Try.func33, h33⟩
  rw [if_neg e33] at hf
  by_cases e34 : f = 34
  · rw [if_pos e34] at hf; subst e34; cases hf; exact ⟨_, Try.func34, h34⟩
  rw [if_neg e34] at hf
  by_cases e35 : f = 35
  · rw [if_pos e35] at hf; subst e35; cases hf; exact ⟨_, Try.func35, h35⟩
  rw [if_neg e35] at hf
  cases hf
end Go.Proofs.Ytjdofdokdemnkaa.BlakeApart
