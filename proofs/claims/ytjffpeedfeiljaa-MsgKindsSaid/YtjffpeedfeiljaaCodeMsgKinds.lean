/- The functions that the law MsgKinds reaches, as the abstract machine has them. No condition. -/
import Derived.Test.YtjffpeedfeiljaaA37
import Derived.KernelRfl
namespace Go.Proofs.Ytjffpeedfeiljaa.MsgKinds
open Go Go.Proofs.YtjffpeedfeiljaaA
/-- Function 4: portholelaw26.MsgKinds. -/
def c4 : AFn :=
  ⟨115, [ARes.tmp 8], ACode.seq (ACode.region [⟨some 8, AOp.move (Opd.const (V.bool false)), none⟩]) (ACode.seq (ACode.region [⟨some 17, AOp.move (Opd.tmp 0), none⟩, ⟨some 18, AOp.call (Opd.func 13)
    [Opd.tmp 17, Opd.const (V.int (IntKind.i64) 8)], none⟩, ⟨some 19, AOp.bin (BinOp.add) (Opd.const (V.int (IntKind.i64) 1)) (Opd.tmp 18), none⟩, ⟨some 0, AOp.move (Opd.tmp 19), none⟩]) (ACode.seq
    (ACode.region [⟨some 20, AOp.move (Opd.tmp 1), none⟩, ⟨some 21, AOp.call (Opd.func 13) [Opd.tmp 20, Opd.const (V.int (IntKind.i64) 2)], none⟩, ⟨some 1, AOp.move (Opd.tmp 21), none⟩]) (ACode.seq
    (ACode.region [⟨some 22, AOp.move (Opd.tmp 2), none⟩, ⟨some 23, AOp.move (Opd.tmp 2), none⟩, ⟨some 24, AOp.lenS (Opd.tmp 23), none⟩, ⟨some 25, AOp.minmax false [Opd.tmp 24, Opd.const (V.int
    (IntKind.i64) 400)], none⟩, ⟨some 26, AOp.sliceStr (Opd.tmp 22) none (some (Opd.tmp 25)), none⟩, ⟨some 2, AOp.move (Opd.tmp 26), none⟩]) (ACode.seq (ACode.region [⟨some 27, AOp.move (Opd.tmp 3),
    none⟩, ⟨some 28, AOp.call (Opd.func 14) [Opd.tmp 27, Opd.const (V.int (IntKind.i64) 3000)], none⟩, ⟨some 3, AOp.move (Opd.tmp 28), none⟩]) (ACode.seq (ACode.region [⟨some 29, AOp.move (Opd.tmp 0),
    none⟩, ⟨some 30, AOp.build [V.int (IntKind.i64) 0, V.str [], V.nilslice, V.int (IntKind.i64) 0] [(0, 1, Opd.tmp 29)], none⟩, ⟨some 9, AOp.box 24 1 [V.int (IntKind.i64) 0, V.str [], V.nilslice,
    V.int (IntKind.i64) 0], none⟩, ⟨none, AOp.store 4 (Opd.tmp 9) (Opd.tmp 30), none⟩]) (ACode.seq (ACode.region [⟨some 31, AOp.move (Opd.tmp 0), none⟩, ⟨some 32, AOp.bin (BinOp.eql) (Opd.tmp 31)
    (Opd.const (V.int (IntKind.i64) 1)), none⟩, ⟨some 33, AOp.move (Opd.tmp 32), none⟩, ⟨some 34, AOp.move (Opd.tmp 0), some (33, false)⟩, ⟨some 35, AOp.bin (BinOp.eql) (Opd.tmp 34) (Opd.const (V.int
    (IntKind.i64) 3)), some (33, false)⟩, ⟨some 36, AOp.pick (Opd.tmp 33) (Opd.const (V.bool true)) (Opd.tmp 35), none⟩, ⟨some 37, AOp.move (Opd.tmp 36), none⟩, ⟨some 38, AOp.move (Opd.tmp 0), some
    (37, false)⟩, ⟨some 39, AOp.bin (BinOp.eql) (Opd.tmp 38) (Opd.const (V.int (IntKind.i64) 5)), some (37, false)⟩, ⟨some 40, AOp.pick (Opd.tmp 37) (Opd.const (V.bool true)) (Opd.tmp 39), none⟩,
    ⟨some 10, AOp.move (Opd.tmp 40), none⟩]) (ACode.seq (ACode.region [⟨some 41, AOp.move (Opd.tmp 0), none⟩, ⟨some 42, AOp.bin (BinOp.eql) (Opd.tmp 41) (Opd.const (V.int (IntKind.i64) 2)), none⟩,
    ⟨some 43, AOp.move (Opd.tmp 42), none⟩, ⟨some 44, AOp.move (Opd.tmp 0), some (43, false)⟩, ⟨some 45, AOp.bin (BinOp.eql) (Opd.tmp 44) (Opd.const (V.int (IntKind.i64) 7)), some (43, false)⟩, ⟨some
    46, AOp.pick (Opd.tmp 43) (Opd.const (V.bool true)) (Opd.tmp 45), none⟩, ⟨some 11, AOp.move (Opd.tmp 46), none⟩]) (ACode.seq (ACode.region [⟨some 47, AOp.move (Opd.tmp 0), none⟩, ⟨some 48, AOp.bin
    (BinOp.eql) (Opd.tmp 47) (Opd.const (V.int (IntKind.i64) 6)), none⟩, ⟨some 49, AOp.move (Opd.tmp 48), none⟩, ⟨some 50, AOp.move (Opd.tmp 0), some (49, false)⟩, ⟨some 51, AOp.bin (BinOp.eql)
    (Opd.tmp 50) (Opd.const (V.int (IntKind.i64) 8)), some (49, false)⟩, ⟨some 52, AOp.pick (Opd.tmp 49) (Opd.const (V.bool true)) (Opd.tmp 51), none⟩, ⟨some 53, AOp.move (Opd.tmp 52), none⟩, ⟨some
    54, AOp.move (Opd.tmp 0), some (53, false)⟩, ⟨some 55, AOp.bin (BinOp.eql) (Opd.tmp 54) (Opd.const (V.int (IntKind.i64) 7)), some (53, false)⟩, ⟨some 56, AOp.pick (Opd.tmp 53) (Opd.const (V.bool
    true)) (Opd.tmp 55), none⟩, ⟨some 12, AOp.move (Opd.tmp 56), none⟩]) (ACode.seq (ACode.seq (ACode.region [⟨some 57, AOp.move (Opd.tmp 10), none⟩]) (ACode.cond (Opd.tmp 57) (ACode.region [⟨some 58,
    AOp.move (Opd.tmp 2), none⟩, ⟨some 59, AOp.fieldAddr 1 (Opd.tmp 9), none⟩, ⟨none, AOp.store 1 (Opd.tmp 59) (Opd.tmp 58), none⟩]) (ACode.skip))) (ACode.seq (ACode.seq (ACode.region [⟨some 60,
    AOp.move (Opd.tmp 11), none⟩]) (ACode.cond (Opd.tmp 60) (ACode.region [⟨some 61, AOp.move (Opd.tmp 3), none⟩, ⟨some 62, AOp.fieldAddr 2 (Opd.tmp 9), none⟩, ⟨none, AOp.store 1 (Opd.tmp 62) (Opd.tmp
    61), none⟩]) (ACode.skip))) (ACode.seq (ACode.seq (ACode.region [⟨some 63, AOp.move (Opd.tmp 12), none⟩]) (ACode.cond (Opd.tmp 63) (ACode.region [⟨some 64, AOp.move (Opd.tmp 1), none⟩, ⟨some 65,
    AOp.fieldAddr 3 (Opd.tmp 9), none⟩, ⟨none, AOp.store 1 (Opd.tmp 65) (Opd.tmp 64), none⟩]) (ACode.skip))) (ACode.seq (ACode.region [⟨some 67, AOp.loadn 4 (Opd.tmp 9), none⟩, ⟨some 68, AOp.call
    (Opd.func 8) [Opd.tmp 67], none⟩, ⟨some 66, AOp.move (Opd.tmp 68), none⟩, ⟨some 69, AOp.extract (Opd.tmp 66) 0, none⟩, ⟨some 70, AOp.extract (Opd.tmp 66) 1, none⟩, ⟨some 13, AOp.move (Opd.tmp 69),
    none⟩, ⟨some 14, AOp.move (Opd.tmp 70), none⟩]) (ACode.seq (ACode.seq (ACode.region [⟨some 71, AOp.call (Opd.func 12) [], none⟩, ⟨some 72, AOp.un (UnOp.not) (Opd.tmp 71), none⟩, ⟨some 73, AOp.move
    (Opd.tmp 72), none⟩, ⟨some 74, AOp.move (Opd.tmp 14), some (73, false)⟩, ⟨some 75, AOp.bin (BinOp.neq) (Opd.tmp 74) (Opd.const (V.int (IntKind.i64) 0)), some (73, false)⟩, ⟨some 76, AOp.pick
    (Opd.tmp 73) (Opd.const (V.bool true)) (Opd.tmp 75), none⟩, ⟨some 77, AOp.move (Opd.tmp 76), none⟩, ⟨some 78, AOp.loadn 4 (Opd.tmp 9), some (77, false)⟩, ⟨some 79, AOp.call (Opd.func 11) [Opd.tmp
    78], some (77, false)⟩, ⟨some 80, AOp.un (UnOp.not) (Opd.tmp 79), some (77, false)⟩, ⟨some 81, AOp.pick (Opd.tmp 77) (Opd.const (V.bool true)) (Opd.tmp 80), none⟩, ⟨some 82, AOp.move (Opd.tmp 81),
    none⟩, ⟨some 83, AOp.move (Opd.tmp 13), some (82, false)⟩, ⟨some 84, AOp.lenL (Opd.tmp 83), some (82, false)⟩, ⟨some 85, AOp.bin (BinOp.lss) (Opd.tmp 84) (Opd.const (V.int (IntKind.i64) 1)), some
    (82, false)⟩, ⟨some 86, AOp.pick (Opd.tmp 82) (Opd.const (V.bool true)) (Opd.tmp 85), none⟩, ⟨some 87, AOp.move (Opd.tmp 86), none⟩, ⟨some 88, AOp.move (Opd.tmp 13), some (87, false)⟩, ⟨some 89,
    AOp.indexAddrS 1 (Opd.tmp 88) (Opd.const (V.int (IntKind.i64) 0)), some (87, false)⟩, ⟨some 90, AOp.load (Opd.tmp 89), some (87, false)⟩, ⟨some 91, AOp.conv (IntKind.i64) (Opd.tmp 90), some (87,
    false)⟩, ⟨some 92, AOp.move (Opd.tmp 0), some (87, false)⟩, ⟨some 93, AOp.bin (BinOp.neq) (Opd.tmp 91) (Opd.tmp 92), some (87, false)⟩, ⟨some 94, AOp.pick (Opd.tmp 87) (Opd.const (V.bool true))
    (Opd.tmp 93), none⟩]) (ACode.cond (Opd.tmp 94) (ACode.seq (ACode.region [⟨some 8, AOp.move (Opd.const (V.bool false)), none⟩]) (ACode.ret)) (ACode.skip))) (ACode.seq (ACode.seq (ACode.region
    [⟨some 95, AOp.move (Opd.tmp 10), none⟩, ⟨some 96, AOp.un (UnOp.not) (Opd.tmp 95), none⟩]) (ACode.cond (Opd.tmp 96) (ACode.region [⟨some 97, AOp.fieldAddr 1 (Opd.tmp 9), none⟩, ⟨none, AOp.store 1
    (Opd.tmp 97) (Opd.const (V.str [116])), none⟩]) (ACode.seq (ACode.region [⟨some 98, AOp.move (Opd.tmp 11), none⟩, ⟨some 99, AOp.un (UnOp.not) (Opd.tmp 98), none⟩]) (ACode.cond (Opd.tmp 99)
    (ACode.region [⟨some 100, AOp.buildSlice 5 1 [V.int (IntKind.u8) 0] 1 [(0, 1, Opd.const (V.int (IntKind.u8) 1))], none⟩, ⟨some 101, AOp.fieldAddr 2 (Opd.tmp 9), none⟩, ⟨none, AOp.store 1 (Opd.tmp
    101) (Opd.tmp 100), none⟩]) (ACode.region [⟨some 102, AOp.fieldAddr 3 (Opd.tmp 9), none⟩, ⟨none, AOp.store 1 (Opd.tmp 102) (Opd.const (V.int (IntKind.i64) 7)), none⟩]))))) (ACode.seq (ACode.region
    [⟨some 104, AOp.loadn 4 (Opd.tmp 9), none⟩, ⟨some 105, AOp.call (Opd.func 8) [Opd.tmp 104], none⟩, ⟨some 103, AOp.move (Opd.tmp 105), none⟩, ⟨some 106, AOp.extract (Opd.tmp 103) 0, none⟩, ⟨some
    107, AOp.extract (Opd.tmp 103) 1, none⟩, ⟨some 15, AOp.move (Opd.tmp 106), none⟩, ⟨some 16, AOp.move (Opd.tmp 107), none⟩]) (ACode.seq (ACode.region [⟨some 108, AOp.move (Opd.tmp 16), none⟩, ⟨some
    109, AOp.bin (BinOp.eql) (Opd.tmp 108) (Opd.const (V.int (IntKind.i64) 1)), none⟩, ⟨some 110, AOp.move (Opd.tmp 109), none⟩, ⟨some 111, AOp.loadn 4 (Opd.tmp 9), some (110, true)⟩, ⟨some 112,
    AOp.call (Opd.func 11) [Opd.tmp 111], some (110, true)⟩, ⟨some 113, AOp.un (UnOp.not) (Opd.tmp 112), some (110, true)⟩, ⟨some 114, AOp.pick (Opd.tmp 110) (Opd.tmp 113) (Opd.const (V.bool false)),
    none⟩, ⟨some 8, AOp.move (Opd.tmp 114), none⟩]) (ACode.ret)))))))))))))))))⟩
theorem h4 : compFn Try.prog Try.f4 = some c4 := by kernel_rfl
/-- Function 8: msg.Encode. -/
def c8 : AFn :=
  ⟨37, [ARes.tmp 2, ARes.tmp 3], ACode.seq (ACode.region [⟨some 1, AOp.boxv 24 1 (Opd.tmp 0), none⟩, ⟨some 2, AOp.move (Opd.const (V.nilslice)), none⟩, ⟨some 3, AOp.move (Opd.const (V.int
    (IntKind.i64) 0)), none⟩]) (ACode.seq (ACode.seq (ACode.region [⟨some 8, AOp.loadn 4 (Opd.tmp 1), none⟩, ⟨some 9, AOp.call (Opd.func 11) [Opd.tmp 8], none⟩, ⟨some 10, AOp.un (UnOp.not) (Opd.tmp
    9), none⟩]) (ACode.cond (Opd.tmp 10) (ACode.seq (ACode.region [⟨some 2, AOp.move (Opd.const (V.nilslice)), none⟩, ⟨some 3, AOp.move (Opd.const (V.int (IntKind.i64) 1)), none⟩]) (ACode.ret))
    (ACode.skip))) (ACode.seq (ACode.region [⟨some 11, AOp.fieldAddr 0 (Opd.tmp 1), none⟩, ⟨some 12, AOp.load (Opd.tmp 11), none⟩, ⟨some 13, AOp.conv (IntKind.u8) (Opd.tmp 12), none⟩, ⟨some 14,
    AOp.buildSlice 5 1 [V.int (IntKind.u8) 0] 1 [(0, 1, Opd.tmp 13)], none⟩, ⟨some 4, AOp.move (Opd.tmp 14), none⟩]) (ACode.seq (ACode.seq (ACode.region [⟨some 16, AOp.fieldAddr 0 (Opd.tmp 1), none⟩,
    ⟨some 17, AOp.load (Opd.tmp 16), none⟩, ⟨some 18, AOp.call (Opd.func 20) [Opd.tmp 17], none⟩, ⟨some 15, AOp.move (Opd.tmp 18), none⟩, ⟨some 19, AOp.extract (Opd.tmp 15) 0, none⟩, ⟨some 20,
    AOp.extract (Opd.tmp 15) 1, none⟩, ⟨some 21, AOp.extract (Opd.tmp 15) 2, none⟩, ⟨some 5, AOp.move (Opd.tmp 19), none⟩, ⟨some 6, AOp.move (Opd.tmp 20), none⟩, ⟨some 7, AOp.move (Opd.tmp 21),
    none⟩]) (ACode.seq (ACode.region [⟨some 22, AOp.move (Opd.tmp 7), none⟩]) (ACode.cond (Opd.tmp 22) (ACode.region [⟨some 23, AOp.move (Opd.tmp 4), none⟩, ⟨some 24, AOp.fieldAddr 3 (Opd.tmp 1),
    none⟩, ⟨some 25, AOp.load (Opd.tmp 24), none⟩, ⟨some 26, AOp.conv (IntKind.u8) (Opd.tmp 25), none⟩, ⟨some 27, AOp.buildSlice 5 1 [V.int (IntKind.u8) 0] 1 [(0, 1, Opd.tmp 26)], none⟩, ⟨some 28,
    AOp.append 5 1 1 (Opd.tmp 23) (Opd.tmp 27), none⟩, ⟨some 4, AOp.move (Opd.tmp 28), none⟩]) (ACode.skip)))) (ACode.seq (ACode.region [⟨some 29, AOp.move (Opd.tmp 4), none⟩, ⟨some 30, AOp.fieldAddr
    1 (Opd.tmp 1), none⟩, ⟨some 31, AOp.load (Opd.tmp 30), none⟩, ⟨some 32, AOp.strBytes 5 (Opd.tmp 31), none⟩, ⟨some 33, AOp.fieldAddr 2 (Opd.tmp 1), none⟩, ⟨some 34, AOp.load (Opd.tmp 33), none⟩,
    ⟨some 35, AOp.buildSlice 22 1 [V.nilslice] 3 [(0, 1, Opd.tmp 29), (1, 1, Opd.tmp 32), (2, 1, Opd.tmp 34)], none⟩, ⟨some 36, AOp.call (Opd.func 21) [Opd.tmp 35], none⟩, ⟨some 2, AOp.move (Opd.tmp
    36), none⟩, ⟨some 3, AOp.move (Opd.const (V.int (IntKind.i64) 0)), none⟩]) (ACode.ret)))))⟩
theorem h8 : compFn Try.prog Try.f8 = some c8 := by kernel_rfl
/-- Function 9: msg.Decode. -/
def c9 : AFn :=
  ⟨58, [ARes.cells 2 4, ARes.tmp 3], ACode.seq (ACode.region [⟨some 2, AOp.box 24 1 [V.int (IntKind.i64) 0, V.str [], V.nilslice, V.int (IntKind.i64) 0], none⟩, ⟨some 3, AOp.move (Opd.const (V.int
    (IntKind.i64) 0)), none⟩]) (ACode.seq (ACode.seq (ACode.region [⟨some 8, AOp.move (Opd.tmp 0), none⟩, ⟨some 9, AOp.lenL (Opd.tmp 8), none⟩, ⟨some 10, AOp.bin (BinOp.eql) (Opd.tmp 9) (Opd.const
    (V.int (IntKind.i64) 0)), none⟩]) (ACode.cond (Opd.tmp 10) (ACode.seq (ACode.region [⟨some 11, AOp.build [V.int (IntKind.i64) 0, V.str [], V.nilslice, V.int (IntKind.i64) 0] [], none⟩, ⟨none,
    AOp.store 4 (Opd.tmp 2) (Opd.tmp 11), none⟩, ⟨some 3, AOp.move (Opd.const (V.int (IntKind.i64) 7)), none⟩]) (ACode.ret)) (ACode.skip))) (ACode.seq (ACode.region [⟨some 12, AOp.move (Opd.tmp 0),
    none⟩, ⟨some 13, AOp.indexAddrS 1 (Opd.tmp 12) (Opd.const (V.int (IntKind.i64) 0)), none⟩, ⟨some 14, AOp.load (Opd.tmp 13), none⟩, ⟨some 15, AOp.conv (IntKind.i64) (Opd.tmp 14), none⟩, ⟨some 16,
    AOp.build [V.int (IntKind.i64) 0, V.str [], V.nilslice, V.int (IntKind.i64) 0] [(0, 1, Opd.tmp 15)], none⟩, ⟨some 4, AOp.box 24 1 [V.int (IntKind.i64) 0, V.str [], V.nilslice, V.int (IntKind.i64)
    0], none⟩, ⟨none, AOp.store 4 (Opd.tmp 4) (Opd.tmp 16), none⟩]) (ACode.seq (ACode.region [⟨some 17, AOp.move (Opd.tmp 0), none⟩, ⟨some 18, AOp.sliceSl 1 (Opd.tmp 17) (some (Opd.const (V.int
    (IntKind.i64) 1))) none none, none⟩, ⟨some 0, AOp.move (Opd.tmp 18), none⟩]) (ACode.seq (ACode.region [⟨some 20, AOp.fieldAddr 0 (Opd.tmp 4), none⟩, ⟨some 21, AOp.load (Opd.tmp 20), none⟩, ⟨some
    22, AOp.call (Opd.func 20) [Opd.tmp 21], none⟩, ⟨some 19, AOp.move (Opd.tmp 22), none⟩, ⟨some 23, AOp.extract (Opd.tmp 19) 0, none⟩, ⟨some 24, AOp.extract (Opd.tmp 19) 1, none⟩, ⟨some 25,
    AOp.extract (Opd.tmp 19) 2, none⟩, ⟨some 5, AOp.move (Opd.tmp 23), none⟩, ⟨some 6, AOp.move (Opd.tmp 24), none⟩, ⟨some 7, AOp.move (Opd.tmp 25), none⟩]) (ACode.seq (ACode.seq (ACode.region [⟨some
    26, AOp.move (Opd.tmp 7), none⟩]) (ACode.cond (Opd.tmp 26) (ACode.seq (ACode.seq (ACode.region [⟨some 27, AOp.move (Opd.tmp 0), none⟩, ⟨some 28, AOp.lenL (Opd.tmp 27), none⟩, ⟨some 29, AOp.bin
    (BinOp.eql) (Opd.tmp 28) (Opd.const (V.int (IntKind.i64) 0)), none⟩]) (ACode.cond (Opd.tmp 29) (ACode.seq (ACode.region [⟨some 30, AOp.build [V.int (IntKind.i64) 0, V.str [], V.nilslice, V.int
    (IntKind.i64) 0] [], none⟩, ⟨none, AOp.store 4 (Opd.tmp 2) (Opd.tmp 30), none⟩, ⟨some 3, AOp.move (Opd.const (V.int (IntKind.i64) 7)), none⟩]) (ACode.ret)) (ACode.skip))) (ACode.seq (ACode.region
    [⟨some 31, AOp.move (Opd.tmp 0), none⟩, ⟨some 32, AOp.indexAddrS 1 (Opd.tmp 31) (Opd.const (V.int (IntKind.i64) 0)), none⟩, ⟨some 33, AOp.load (Opd.tmp 32), none⟩, ⟨some 34, AOp.conv (IntKind.i64)
    (Opd.tmp 33), none⟩, ⟨some 35, AOp.fieldAddr 3 (Opd.tmp 4), none⟩, ⟨none, AOp.store 1 (Opd.tmp 35) (Opd.tmp 34), none⟩]) (ACode.region [⟨some 36, AOp.move (Opd.tmp 0), none⟩, ⟨some 37, AOp.sliceSl
    1 (Opd.tmp 36) (some (Opd.const (V.int (IntKind.i64) 1))) none none, none⟩, ⟨some 0, AOp.move (Opd.tmp 37), none⟩]))) (ACode.skip))) (ACode.seq (ACode.block 0 (ACode.seq (ACode.region [⟨some 39,
    AOp.move (Opd.tmp 5), none⟩, ⟨some 38, AOp.move (Opd.tmp 39), none⟩]) (ACode.cond (Opd.tmp 38) (ACode.region [⟨some 40, AOp.move (Opd.tmp 0), none⟩, ⟨some 41, AOp.bytesStr (Opd.tmp 40), none⟩,
    ⟨some 42, AOp.fieldAddr 1 (Opd.tmp 4), none⟩, ⟨none, AOp.store 1 (Opd.tmp 42) (Opd.tmp 41), none⟩]) (ACode.seq (ACode.region [⟨some 44, AOp.move (Opd.tmp 6), none⟩, ⟨some 43, AOp.move (Opd.tmp
    44), none⟩]) (ACode.cond (Opd.tmp 43) (ACode.region [⟨some 45, AOp.move (Opd.tmp 0), none⟩, ⟨some 46, AOp.call (Opd.func 22) [Opd.tmp 45], none⟩, ⟨some 47, AOp.fieldAddr 2 (Opd.tmp 4), none⟩,
    ⟨none, AOp.store 1 (Opd.tmp 47) (Opd.tmp 46), none⟩]) (ACode.seq (ACode.region [⟨some 49, AOp.move (Opd.tmp 0), none⟩, ⟨some 50, AOp.lenL (Opd.tmp 49), none⟩, ⟨some 51, AOp.bin (BinOp.gtr)
    (Opd.tmp 50) (Opd.const (V.int (IntKind.i64) 0)), none⟩, ⟨some 48, AOp.move (Opd.tmp 51), none⟩]) (ACode.cond (Opd.tmp 48) (ACode.seq (ACode.region [⟨some 52, AOp.build [V.int (IntKind.i64) 0,
    V.str [], V.nilslice, V.int (IntKind.i64) 0] [], none⟩, ⟨none, AOp.store 4 (Opd.tmp 2) (Opd.tmp 52), none⟩, ⟨some 3, AOp.move (Opd.const (V.int (IntKind.i64) 5)), none⟩]) (ACode.ret))
    (ACode.skip)))))))) (ACode.seq (ACode.seq (ACode.region [⟨some 53, AOp.loadn 4 (Opd.tmp 4), none⟩, ⟨some 54, AOp.call (Opd.func 11) [Opd.tmp 53], none⟩, ⟨some 55, AOp.un (UnOp.not) (Opd.tmp 54),
    none⟩]) (ACode.cond (Opd.tmp 55) (ACode.seq (ACode.region [⟨some 56, AOp.build [V.int (IntKind.i64) 0, V.str [], V.nilslice, V.int (IntKind.i64) 0] [], none⟩, ⟨none, AOp.store 4 (Opd.tmp 2)
    (Opd.tmp 56), none⟩, ⟨some 3, AOp.move (Opd.const (V.int (IntKind.i64) 5)), none⟩]) (ACode.ret)) (ACode.skip))) (ACode.seq (ACode.region [⟨some 57, AOp.loadn 4 (Opd.tmp 4), none⟩, ⟨none, AOp.store
    4 (Opd.tmp 2) (Opd.tmp 57), none⟩, ⟨some 3, AOp.move (Opd.const (V.int (IntKind.i64) 0)), none⟩]) (ACode.ret)))))))))⟩
theorem h9 : compFn Try.prog Try.f9 = some c9 := by kernel_rfl
/-- Function 11: msg.Right. -/
def c11 : AFn :=
  ⟨78, [ARes.tmp 2], ACode.seq (ACode.region [⟨some 1, AOp.boxv 24 1 (Opd.tmp 0), none⟩, ⟨some 2, AOp.move (Opd.const (V.bool false)), none⟩]) (ACode.seq (ACode.region [⟨some 7, AOp.fieldAddr 0
    (Opd.tmp 1), none⟩, ⟨some 8, AOp.load (Opd.tmp 7), none⟩, ⟨some 9, AOp.call (Opd.func 20) [Opd.tmp 8], none⟩, ⟨some 6, AOp.move (Opd.tmp 9), none⟩, ⟨some 10, AOp.extract (Opd.tmp 6) 0, none⟩,
    ⟨some 11, AOp.extract (Opd.tmp 6) 1, none⟩, ⟨some 12, AOp.extract (Opd.tmp 6) 2, none⟩, ⟨some 3, AOp.move (Opd.tmp 10), none⟩, ⟨some 4, AOp.move (Opd.tmp 11), none⟩, ⟨some 5, AOp.move (Opd.tmp
    12), none⟩]) (ACode.seq (ACode.block 0 (ACode.seq (ACode.region [⟨some 14, AOp.fieldAddr 0 (Opd.tmp 1), none⟩, ⟨some 15, AOp.load (Opd.tmp 14), none⟩, ⟨some 16, AOp.bin (BinOp.lss) (Opd.tmp 15)
    (Opd.const (V.int (IntKind.i64) 1)), none⟩, ⟨some 17, AOp.move (Opd.tmp 16), none⟩, ⟨some 18, AOp.fieldAddr 0 (Opd.tmp 1), some (17, false)⟩, ⟨some 19, AOp.load (Opd.tmp 18), some (17, false)⟩,
    ⟨some 20, AOp.bin (BinOp.gtr) (Opd.tmp 19) (Opd.const (V.int (IntKind.i64) 8)), some (17, false)⟩, ⟨some 21, AOp.pick (Opd.tmp 17) (Opd.const (V.bool true)) (Opd.tmp 20), none⟩, ⟨some 13, AOp.move
    (Opd.tmp 21), none⟩]) (ACode.cond (Opd.tmp 13) (ACode.seq (ACode.region [⟨some 2, AOp.move (Opd.const (V.bool false)), none⟩]) (ACode.ret)) (ACode.seq (ACode.region [⟨some 23, AOp.move (Opd.tmp
    3), none⟩, ⟨some 24, AOp.un (UnOp.not) (Opd.tmp 23), none⟩, ⟨some 25, AOp.move (Opd.tmp 24), none⟩, ⟨some 26, AOp.fieldAddr 1 (Opd.tmp 1), some (25, true)⟩, ⟨some 27, AOp.load (Opd.tmp 26), some
    (25, true)⟩, ⟨some 28, AOp.bin (BinOp.neq) (Opd.tmp 27) (Opd.const (V.str [])), some (25, true)⟩, ⟨some 29, AOp.pick (Opd.tmp 25) (Opd.tmp 28) (Opd.const (V.bool false)), none⟩, ⟨some 30, AOp.move
    (Opd.tmp 29), none⟩, ⟨some 31, AOp.move (Opd.tmp 4), some (30, false)⟩, ⟨some 32, AOp.un (UnOp.not) (Opd.tmp 31), some (30, false)⟩, ⟨some 33, AOp.move (Opd.tmp 32), some (30, false)⟩, ⟨some 34,
    AOp.fieldAddr 2 (Opd.tmp 1), some (33, true)⟩, ⟨some 35, AOp.load (Opd.tmp 34), some (33, true)⟩, ⟨some 36, AOp.lenL (Opd.tmp 35), some (33, true)⟩, ⟨some 37, AOp.bin (BinOp.gtr) (Opd.tmp 36)
    (Opd.const (V.int (IntKind.i64) 0)), some (33, true)⟩, ⟨some 38, AOp.pick (Opd.tmp 33) (Opd.tmp 37) (Opd.const (V.bool false)), some (30, false)⟩, ⟨some 39, AOp.pick (Opd.tmp 30) (Opd.const
    (V.bool true)) (Opd.tmp 38), none⟩, ⟨some 40, AOp.move (Opd.tmp 39), none⟩, ⟨some 41, AOp.move (Opd.tmp 5), some (40, false)⟩, ⟨some 42, AOp.un (UnOp.not) (Opd.tmp 41), some (40, false)⟩, ⟨some
    43, AOp.move (Opd.tmp 42), some (40, false)⟩, ⟨some 44, AOp.fieldAddr 3 (Opd.tmp 1), some (43, true)⟩, ⟨some 45, AOp.load (Opd.tmp 44), some (43, true)⟩, ⟨some 46, AOp.bin (BinOp.neq) (Opd.tmp 45)
    (Opd.const (V.int (IntKind.i64) 0)), some (43, true)⟩, ⟨some 47, AOp.pick (Opd.tmp 43) (Opd.tmp 46) (Opd.const (V.bool false)), some (40, false)⟩, ⟨some 48, AOp.pick (Opd.tmp 40) (Opd.const
    (V.bool true)) (Opd.tmp 47), none⟩, ⟨some 22, AOp.move (Opd.tmp 48), none⟩]) (ACode.cond (Opd.tmp 22) (ACode.seq (ACode.region [⟨some 2, AOp.move (Opd.const (V.bool false)), none⟩]) (ACode.ret))
    (ACode.seq (ACode.region [⟨some 50, AOp.fieldAddr 0 (Opd.tmp 1), none⟩, ⟨some 51, AOp.load (Opd.tmp 50), none⟩, ⟨some 52, AOp.bin (BinOp.eql) (Opd.tmp 51) (Opd.const (V.int (IntKind.i64) 7)),
    none⟩, ⟨some 53, AOp.move (Opd.tmp 52), none⟩, ⟨some 54, AOp.fieldAddr 3 (Opd.tmp 1), some (53, true)⟩, ⟨some 55, AOp.load (Opd.tmp 54), some (53, true)⟩, ⟨some 56, AOp.bin (BinOp.gtr) (Opd.tmp
    55) (Opd.const (V.int (IntKind.i64) 1)), some (53, true)⟩, ⟨some 57, AOp.pick (Opd.tmp 53) (Opd.tmp 56) (Opd.const (V.bool false)), none⟩, ⟨some 49, AOp.move (Opd.tmp 57), none⟩]) (ACode.cond
    (Opd.tmp 49) (ACode.seq (ACode.region [⟨some 2, AOp.move (Opd.const (V.bool false)), none⟩]) (ACode.ret)) (ACode.skip)))))))) (ACode.seq (ACode.region [⟨some 58, AOp.fieldAddr 1 (Opd.tmp 1),
    none⟩, ⟨some 59, AOp.load (Opd.tmp 58), none⟩, ⟨some 60, AOp.lenS (Opd.tmp 59), none⟩, ⟨some 61, AOp.bin (BinOp.leq) (Opd.tmp 60) (Opd.const (V.int (IntKind.i64) 400)), none⟩, ⟨some 62, AOp.move
    (Opd.tmp 61), none⟩, ⟨some 63, AOp.fieldAddr 2 (Opd.tmp 1), some (62, true)⟩, ⟨some 64, AOp.load (Opd.tmp 63), some (62, true)⟩, ⟨some 65, AOp.lenL (Opd.tmp 64), some (62, true)⟩, ⟨some 66,
    AOp.bin (BinOp.leq) (Opd.tmp 65) (Opd.const (V.int (IntKind.i64) 3000)), some (62, true)⟩, ⟨some 67, AOp.pick (Opd.tmp 62) (Opd.tmp 66) (Opd.const (V.bool false)), none⟩, ⟨some 68, AOp.move
    (Opd.tmp 67), none⟩, ⟨some 69, AOp.fieldAddr 3 (Opd.tmp 1), some (68, true)⟩, ⟨some 70, AOp.load (Opd.tmp 69), some (68, true)⟩, ⟨some 71, AOp.bin (BinOp.geq) (Opd.tmp 70) (Opd.const (V.int
    (IntKind.i64) 0)), some (68, true)⟩, ⟨some 72, AOp.pick (Opd.tmp 68) (Opd.tmp 71) (Opd.const (V.bool false)), none⟩, ⟨some 73, AOp.move (Opd.tmp 72), none⟩, ⟨some 74, AOp.fieldAddr 3 (Opd.tmp 1),
    some (73, true)⟩, ⟨some 75, AOp.load (Opd.tmp 74), some (73, true)⟩, ⟨some 76, AOp.bin (BinOp.leq) (Opd.tmp 75) (Opd.const (V.int (IntKind.i64) 255)), some (73, true)⟩, ⟨some 77, AOp.pick (Opd.tmp
    73) (Opd.tmp 76) (Opd.const (V.bool false)), none⟩, ⟨some 2, AOp.move (Opd.tmp 77), none⟩]) (ACode.ret))))⟩
theorem h11 : compFn Try.prog Try.f11 = some c11 := by kernel_rfl
/-- Function 12: portholelaw26.known. -/
def c12 : AFn :=
  ⟨40, [ARes.tmp 0], ACode.seq (ACode.region [⟨some 0, AOp.move (Opd.const (V.bool false)), none⟩]) (ACode.seq (ACode.region [⟨some 6, AOp.buildSlice 5 1 [V.int (IntKind.u8) 0] 3 [(0, 1, Opd.const
    (V.int (IntKind.u8) 2)), (1, 1, Opd.const (V.int (IntKind.u8) 97)), (2, 1, Opd.const (V.int (IntKind.u8) 98))], none⟩, ⟨some 7, AOp.convSame (Opd.tmp 6), none⟩, ⟨some 8, AOp.call (Opd.func 9)
    [Opd.tmp 7], none⟩, ⟨some 5, AOp.move (Opd.tmp 8), none⟩, ⟨some 9, AOp.extract (Opd.tmp 5) 0, none⟩, ⟨some 10, AOp.extract (Opd.tmp 5) 1, none⟩, ⟨some 1, AOp.box 24 1 [V.int (IntKind.i64) 0, V.str
    [], V.nilslice, V.int (IntKind.i64) 0], none⟩, ⟨none, AOp.store 4 (Opd.tmp 1) (Opd.tmp 9), none⟩, ⟨some 2, AOp.move (Opd.tmp 10), none⟩]) (ACode.seq (ACode.region [⟨some 12, AOp.buildSlice 5 1
    [V.int (IntKind.u8) 0] 2 [(0, 1, Opd.const (V.int (IntKind.u8) 97)), (1, 1, Opd.const (V.int (IntKind.u8) 98))], none⟩, ⟨some 13, AOp.convSame (Opd.tmp 12), none⟩, ⟨some 14, AOp.build [V.int
    (IntKind.i64) 0, V.str [], V.nilslice, V.int (IntKind.i64) 0] [(0, 1, Opd.const (V.int (IntKind.i64) 2)), (2, 1, Opd.tmp 13)], none⟩, ⟨some 15, AOp.call (Opd.func 8) [Opd.tmp 14], none⟩, ⟨some 11,
    AOp.move (Opd.tmp 15), none⟩, ⟨some 16, AOp.extract (Opd.tmp 11) 0, none⟩, ⟨some 17, AOp.extract (Opd.tmp 11) 1, none⟩, ⟨some 3, AOp.move (Opd.tmp 16), none⟩, ⟨some 4, AOp.move (Opd.tmp 17),
    none⟩]) (ACode.seq (ACode.region [⟨some 18, AOp.move (Opd.tmp 2), none⟩, ⟨some 19, AOp.bin (BinOp.eql) (Opd.tmp 18) (Opd.const (V.int (IntKind.i64) 0)), none⟩, ⟨some 20, AOp.move (Opd.tmp 19),
    none⟩, ⟨some 21, AOp.fieldAddr 0 (Opd.tmp 1), some (20, true)⟩, ⟨some 22, AOp.load (Opd.tmp 21), some (20, true)⟩, ⟨some 23, AOp.bin (BinOp.eql) (Opd.tmp 22) (Opd.const (V.int (IntKind.i64) 2)),
    some (20, true)⟩, ⟨some 24, AOp.pick (Opd.tmp 20) (Opd.tmp 23) (Opd.const (V.bool false)), none⟩, ⟨some 25, AOp.move (Opd.tmp 24), none⟩, ⟨some 26, AOp.fieldAddr 2 (Opd.tmp 1), some (25, true)⟩,
    ⟨some 27, AOp.load (Opd.tmp 26), some (25, true)⟩, ⟨some 28, AOp.bytesStr (Opd.tmp 27), some (25, true)⟩, ⟨some 29, AOp.bin (BinOp.eql) (Opd.tmp 28) (Opd.const (V.str [97, 98])), some (25, true)⟩,
    ⟨some 30, AOp.pick (Opd.tmp 25) (Opd.tmp 29) (Opd.const (V.bool false)), none⟩, ⟨some 31, AOp.move (Opd.tmp 30), none⟩, ⟨some 32, AOp.move (Opd.tmp 4), some (31, true)⟩, ⟨some 33, AOp.bin
    (BinOp.eql) (Opd.tmp 32) (Opd.const (V.int (IntKind.i64) 0)), some (31, true)⟩, ⟨some 34, AOp.pick (Opd.tmp 31) (Opd.tmp 33) (Opd.const (V.bool false)), none⟩, ⟨some 35, AOp.move (Opd.tmp 34),
    none⟩, ⟨some 36, AOp.move (Opd.tmp 3), some (35, true)⟩, ⟨some 37, AOp.bytesStr (Opd.tmp 36), some (35, true)⟩, ⟨some 38, AOp.bin (BinOp.eql) (Opd.tmp 37) (Opd.const (V.str [2, 97, 98])), some
    (35, true)⟩, ⟨some 39, AOp.pick (Opd.tmp 35) (Opd.tmp 38) (Opd.const (V.bool false)), none⟩, ⟨some 0, AOp.move (Opd.tmp 39), none⟩]) (ACode.ret))))⟩
theorem h12 : compFn Try.prog Try.f12 = some c12 := by kernel_rfl
/-- Function 13: portholehand.Pick. -/
def c13 : AFn :=
  ⟨14, [ARes.tmp 4], ACode.seq (ACode.region [⟨some 4, AOp.move (Opd.const (V.int (IntKind.i64) 0)), none⟩]) (ACode.seq (ACode.region [⟨some 5, AOp.move (Opd.tmp 0), none⟩, ⟨some 6, AOp.move (Opd.tmp
    1), none⟩, ⟨some 7, AOp.bin (BinOp.rem) (Opd.tmp 5) (Opd.tmp 6), none⟩, ⟨some 0, AOp.move (Opd.tmp 7), none⟩]) (ACode.seq (ACode.seq (ACode.region [⟨some 8, AOp.move (Opd.tmp 0), none⟩, ⟨some 9,
    AOp.bin (BinOp.lss) (Opd.tmp 8) (Opd.const (V.int (IntKind.i64) 0)), none⟩]) (ACode.cond (Opd.tmp 9) (ACode.region [⟨some 10, AOp.move (Opd.tmp 0), none⟩, ⟨some 11, AOp.move (Opd.tmp 1), none⟩,
    ⟨some 12, AOp.bin (BinOp.add) (Opd.tmp 10) (Opd.tmp 11), none⟩, ⟨some 0, AOp.move (Opd.tmp 12), none⟩]) (ACode.skip))) (ACode.seq (ACode.region [⟨some 13, AOp.move (Opd.tmp 0), none⟩, ⟨some 4,
    AOp.move (Opd.tmp 13), none⟩]) (ACode.ret))))⟩
theorem h13 : compFn Try.prog Try.f13 = some c13 := by kernel_rfl
/-- Function 14: portholehand.Few. -/
def c14 : AFn :=
  ⟨13, [ARes.tmp 4], ACode.seq (ACode.region [⟨some 4, AOp.move (Opd.const (V.nilslice)), none⟩]) (ACode.seq (ACode.region [⟨some 5, AOp.buildSlice 5 1 [V.int (IntKind.u8) 0] 0 [], none⟩, ⟨some 6,
    AOp.move (Opd.tmp 0), none⟩, ⟨some 7, AOp.move (Opd.tmp 0), none⟩, ⟨some 8, AOp.lenL (Opd.tmp 7), none⟩, ⟨some 9, AOp.move (Opd.tmp 1), none⟩, ⟨some 10, AOp.minmax false [Opd.tmp 8, Opd.tmp 9],
    none⟩, ⟨some 11, AOp.sliceSl 1 (Opd.tmp 6) none (some (Opd.tmp 10)) none, none⟩, ⟨some 12, AOp.append 5 1 1 (Opd.tmp 5) (Opd.tmp 11), none⟩, ⟨some 4, AOp.move (Opd.tmp 12), none⟩]) (ACode.ret))⟩
theorem h14 : compFn Try.prog Try.f14 = some c14 := by kernel_rfl
/-- Function 20: msg.fields. -/
def c20 : AFn :=
  ⟨17, [ARes.tmp 2, ARes.tmp 3, ARes.tmp 4], ACode.seq (ACode.region [⟨some 2, AOp.move (Opd.const (V.bool false)), none⟩, ⟨some 3, AOp.move (Opd.const (V.bool false)), none⟩, ⟨some 4, AOp.move
    (Opd.const (V.bool false)), none⟩]) (ACode.seq (ACode.seq (ACode.region [⟨some 5, AOp.move (Opd.tmp 0), none⟩]) (ACode.block 0 (ACode.seq (ACode.seq (ACode.region [⟨some 7, AOp.bin (BinOp.eql)
    (Opd.tmp 5) (Opd.const (V.int (IntKind.i64) 1)), none⟩, ⟨some 6, AOp.move (Opd.tmp 7), none⟩]) (ACode.cond (Opd.tmp 6) (ACode.skip) (ACode.seq (ACode.region [⟨some 8, AOp.bin (BinOp.eql) (Opd.tmp
    5) (Opd.const (V.int (IntKind.i64) 3)), none⟩, ⟨some 6, AOp.move (Opd.tmp 8), none⟩]) (ACode.cond (Opd.tmp 6) (ACode.skip) (ACode.region [⟨some 9, AOp.bin (BinOp.eql) (Opd.tmp 5) (Opd.const (V.int
    (IntKind.i64) 5)), none⟩, ⟨some 6, AOp.move (Opd.tmp 9), none⟩]))))) (ACode.cond (Opd.tmp 6) (ACode.seq (ACode.region [⟨some 2, AOp.move (Opd.const (V.bool true)), none⟩, ⟨some 3, AOp.move
    (Opd.const (V.bool false)), none⟩, ⟨some 4, AOp.move (Opd.const (V.bool false)), none⟩]) (ACode.ret)) (ACode.seq (ACode.region [⟨some 11, AOp.bin (BinOp.eql) (Opd.tmp 5) (Opd.const (V.int
    (IntKind.i64) 2)), none⟩, ⟨some 10, AOp.move (Opd.tmp 11), none⟩]) (ACode.cond (Opd.tmp 10) (ACode.seq (ACode.region [⟨some 2, AOp.move (Opd.const (V.bool false)), none⟩, ⟨some 3, AOp.move
    (Opd.const (V.bool true)), none⟩, ⟨some 4, AOp.move (Opd.const (V.bool false)), none⟩]) (ACode.ret)) (ACode.seq (ACode.seq (ACode.region [⟨some 13, AOp.bin (BinOp.eql) (Opd.tmp 5) (Opd.const
    (V.int (IntKind.i64) 6)), none⟩, ⟨some 12, AOp.move (Opd.tmp 13), none⟩]) (ACode.cond (Opd.tmp 12) (ACode.skip) (ACode.region [⟨some 14, AOp.bin (BinOp.eql) (Opd.tmp 5) (Opd.const (V.int
    (IntKind.i64) 8)), none⟩, ⟨some 12, AOp.move (Opd.tmp 14), none⟩]))) (ACode.cond (Opd.tmp 12) (ACode.seq (ACode.region [⟨some 2, AOp.move (Opd.const (V.bool false)), none⟩, ⟨some 3, AOp.move
    (Opd.const (V.bool false)), none⟩, ⟨some 4, AOp.move (Opd.const (V.bool true)), none⟩]) (ACode.ret)) (ACode.seq (ACode.region [⟨some 16, AOp.bin (BinOp.eql) (Opd.tmp 5) (Opd.const (V.int
    (IntKind.i64) 7)), none⟩, ⟨some 15, AOp.move (Opd.tmp 16), none⟩]) (ACode.cond (Opd.tmp 15) (ACode.seq (ACode.region [⟨some 2, AOp.move (Opd.const (V.bool false)), none⟩, ⟨some 3, AOp.move
    (Opd.const (V.bool true)), none⟩, ⟨some 4, AOp.move (Opd.const (V.bool true)), none⟩]) (ACode.ret)) (ACode.skip))))))))))) (ACode.seq (ACode.region [⟨some 2, AOp.move (Opd.const (V.bool false)),
    none⟩, ⟨some 3, AOp.move (Opd.const (V.bool false)), none⟩, ⟨some 4, AOp.move (Opd.const (V.bool false)), none⟩]) (ACode.ret)))⟩
theorem h20 : compFn Try.prog Try.f20 = some c20 := by kernel_rfl
/-- A loop of function 21. -/
def c21_l0 : ACode :=
  ACode.seq (ACode.region [⟨some 10, AOp.bin (BinOp.lss) (Opd.tmp 9) (Opd.tmp 8), none⟩]) (ACode.seq (ACode.cond (Opd.tmp 10) (ACode.skip) (ACode.exit 0)) (ACode.seq (ACode.block 1 (ACode.seq
    (ACode.region [⟨some 11, AOp.indexAddrS 1 (Opd.tmp 7) (Opd.tmp 9), none⟩, ⟨some 12, AOp.load (Opd.tmp 11), none⟩, ⟨some 5, AOp.move (Opd.tmp 12), none⟩]) (ACode.region [⟨some 13, AOp.move (Opd.tmp
    3), none⟩, ⟨some 14, AOp.move (Opd.tmp 5), none⟩, ⟨some 15, AOp.append 5 1 1 (Opd.tmp 13) (Opd.tmp 14), none⟩, ⟨some 3, AOp.move (Opd.tmp 15), none⟩]))) (ACode.region [⟨some 16, AOp.bin
    (BinOp.add) (Opd.tmp 9) (Opd.const (V.int (IntKind.i64) 1)), none⟩, ⟨some 9, AOp.move (Opd.tmp 16), none⟩])))
theorem c21_l0_wr : c21_l0.wr = [10, 11, 12, 5, 13, 14, 15, 3, 16, 9] := by kernel_rfl
/-- Function 21: octet.Join. -/
def c21 : AFn :=
  ⟨18, [ARes.tmp 2], ACode.seq (ACode.region [⟨some 2, AOp.move (Opd.const (V.nilslice)), none⟩]) (ACode.seq (ACode.region [⟨some 6, AOp.buildSlice 5 1 [V.int (IntKind.u8) 0] 0 [], none⟩, ⟨some 3,
    AOp.move (Opd.tmp 6), none⟩]) (ACode.seq (ACode.seq (ACode.region [⟨some 7, AOp.move (Opd.tmp 0), none⟩, ⟨some 8, AOp.lenL (Opd.tmp 7), none⟩, ⟨some 9, AOp.move (Opd.const (V.int (IntKind.i64)
    0)), none⟩]) (ACode.block 0 (ACode.loop c21_l0))) (ACode.seq (ACode.region [⟨some 17, AOp.move (Opd.tmp 3), none⟩, ⟨some 2, AOp.move (Opd.tmp 17), none⟩]) (ACode.ret))))⟩
theorem h21 : compFn Try.prog Try.f21 = some c21 := by kernel_rfl
/-- Function 22: octet.Clone. -/
def c22 : AFn :=
  ⟨6, [ARes.tmp 2], ACode.seq (ACode.region [⟨some 2, AOp.move (Opd.const (V.nilslice)), none⟩]) (ACode.seq (ACode.region [⟨some 3, AOp.buildSlice 5 1 [V.int (IntKind.u8) 0] 0 [], none⟩, ⟨some 4,
    AOp.move (Opd.tmp 0), none⟩, ⟨some 5, AOp.append 5 1 1 (Opd.tmp 3) (Opd.tmp 4), none⟩, ⟨some 2, AOp.move (Opd.tmp 5), none⟩]) (ACode.ret))⟩
theorem h22 : compFn Try.prog Try.f22 = some c22 := by kernel_rfl
def tab (f : Nat) : Option AFn :=
  if f = 4 then some c4 else if f = 8 then some c8 else if f = 9 then some c9 else if f = 11 then some c11 else if f = 12 then some c12 else if f = 13 then some c13 else if f = 14 then some c14 else if f = 20 then some c20 else if f = 21 then some c21 else if f = 22 then some c22 else none
theorem tab_holds : Holds Try.prog tab := by
  intro f fn hf
  unfold tab at hf
  by_cases e4 : f = 4
  · rw [if_pos e4] at hf; subst e4; cases hf; exact ⟨_, Try.func4, h4⟩
  rw [if_neg e4] at hf
  by_cases e8 : f = 8
  · rw [if_pos e8] at hf; subst e8; cases hf; exact ⟨_, Try.func8, h8⟩
  rw [if_neg e8] at hf
  by_cases e9 : f = 9
  · rw [if_pos e9] at hf; subst e9; cases hf; exact ⟨_, Try.func9, h9⟩
  rw [if_neg e9] at hf
  by_cases e11 : f = 11
  · rw [if_pos e11] at hf; subst e11; cases hf; exact ⟨_, Try.func11, h11⟩
  rw [if_neg e11] at hf
  by_cases e12 : f = 12
  · rw [if_pos e12] at hf; subst e12; cases hf; exact ⟨_, Try.func12, h12⟩
  rw [if_neg e12] at hf
  by_cases e13 : f = 13
  · rw [if_pos e13] at hf; subst e13; cases hf; exact ⟨_, Try.func13, h13⟩
  rw [if_neg e13] at hf
  by_cases e14 : f = 14
  · rw [if_pos e14] at hf; subst e14; cases hf; exact ⟨_, Try.func14, h14⟩
  rw [if_neg e14] at hf
  by_cases e20 : f = 20
  · rw [if_pos e20] at hf; subst e20; cases hf; exact ⟨_, Try.func20, h20⟩
  rw [if_neg e20] at hf
  by_cases e21 : f = 21
  · rw [if_pos e21] at hf; subst e21; cases hf; exact ⟨_, Try.func21, h21⟩
  rw [if_neg e21] at hf
  by_cases e22 : f = 22
  · rw [if_pos e22] at hf; subst e22; cases hf; exact ⟨_, Try.func22, h22⟩
  rw [if_neg e22] at hf
  cases hf
end Go.Proofs.Ytjffpeedfeiljaa.MsgKinds
