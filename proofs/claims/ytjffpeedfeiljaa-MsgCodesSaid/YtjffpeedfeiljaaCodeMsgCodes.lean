/- The functions that the law MsgCodes reaches, as the abstract machine has them. No condition. -/
import Derived.Test.YtjffpeedfeiljaaA37
import Derived.KernelRfl
namespace Go.Proofs.Ytjffpeedfeiljaa.MsgCodes
open Go Go.Proofs.YtjffpeedfeiljaaA
/-- What follows in function 6. -/
def c6_s4 : ACode :=
  ACode.seq (ACode.region [⟨some 44, AOp.loadn 4 (Opd.tmp 4), none⟩, ⟨some 45, AOp.call (Opd.func 8) [Opd.tmp 44], none⟩, ⟨some 43, AOp.move (Opd.tmp 45), none⟩, ⟨some 46, AOp.extract (Opd.tmp 43) 0,
    none⟩, ⟨some 47, AOp.extract (Opd.tmp 43) 1, none⟩, ⟨some 9, AOp.move (Opd.tmp 46), none⟩, ⟨some 10, AOp.move (Opd.tmp 47), none⟩]) (ACode.seq (ACode.region [⟨some 49, AOp.loadn 4 (Opd.tmp 4),
    none⟩, ⟨some 50, AOp.call (Opd.func 17) [Opd.tmp 49], none⟩, ⟨some 48, AOp.move (Opd.tmp 50), none⟩, ⟨some 51, AOp.extract (Opd.tmp 48) 0, none⟩, ⟨some 52, AOp.extract (Opd.tmp 48) 1, none⟩, ⟨some
    11, AOp.move (Opd.tmp 51), none⟩, ⟨some 12, AOp.move (Opd.tmp 52), none⟩]) (ACode.seq (ACode.region [⟨some 54, AOp.move (Opd.tmp 2), none⟩, ⟨some 55, AOp.call (Opd.func 9) [Opd.tmp 54], none⟩,
    ⟨some 53, AOp.move (Opd.tmp 55), none⟩, ⟨some 56, AOp.extract (Opd.tmp 53) 0, none⟩, ⟨some 57, AOp.extract (Opd.tmp 53) 1, none⟩, ⟨some 13, AOp.box 24 1 [V.int (IntKind.i64) 0, V.str [],
    V.nilslice, V.int (IntKind.i64) 0], none⟩, ⟨none, AOp.store 4 (Opd.tmp 13) (Opd.tmp 56), none⟩, ⟨some 14, AOp.move (Opd.tmp 57), none⟩]) (ACode.seq (ACode.region [⟨some 59, AOp.move (Opd.tmp 2),
    none⟩, ⟨some 60, AOp.call (Opd.func 18) [Opd.tmp 59], none⟩, ⟨some 58, AOp.move (Opd.tmp 60), none⟩, ⟨some 61, AOp.extract (Opd.tmp 58) 0, none⟩, ⟨some 62, AOp.extract (Opd.tmp 58) 1, none⟩, ⟨some
    15, AOp.box 24 1 [V.int (IntKind.i64) 0, V.str [], V.nilslice, V.int (IntKind.i64) 0], none⟩, ⟨none, AOp.store 4 (Opd.tmp 15) (Opd.tmp 61), none⟩, ⟨some 16, AOp.move (Opd.tmp 62), none⟩])
    (ACode.seq (ACode.region [⟨some 64, AOp.move (Opd.tmp 11), none⟩, ⟨some 65, AOp.call (Opd.func 9) [Opd.tmp 64], none⟩, ⟨some 63, AOp.move (Opd.tmp 65), none⟩, ⟨some 66, AOp.extract (Opd.tmp 63) 0,
    none⟩, ⟨some 67, AOp.extract (Opd.tmp 63) 1, none⟩, ⟨some 17, AOp.box 24 1 [V.int (IntKind.i64) 0, V.str [], V.nilslice, V.int (IntKind.i64) 0], none⟩, ⟨none, AOp.store 4 (Opd.tmp 17) (Opd.tmp
    66), none⟩, ⟨some 18, AOp.move (Opd.tmp 67), none⟩]) (ACode.seq (ACode.region [⟨some 69, AOp.move (Opd.tmp 11), none⟩, ⟨some 70, AOp.call (Opd.func 18) [Opd.tmp 69], none⟩, ⟨some 68, AOp.move
    (Opd.tmp 70), none⟩, ⟨some 71, AOp.extract (Opd.tmp 68) 0, none⟩, ⟨some 72, AOp.extract (Opd.tmp 68) 1, none⟩, ⟨some 19, AOp.box 24 1 [V.int (IntKind.i64) 0, V.str [], V.nilslice, V.int
    (IntKind.i64) 0], none⟩, ⟨none, AOp.store 4 (Opd.tmp 19) (Opd.tmp 71), none⟩, ⟨some 20, AOp.move (Opd.tmp 72), none⟩]) (ACode.seq (ACode.anyRegion [⟨some 73, AOp.call (Opd.func 12) [], none⟩,
    ⟨some 74, AOp.move (Opd.tmp 73), none⟩, ⟨some 75, AOp.move (Opd.tmp 9), some (74, true)⟩, ⟨some 76, AOp.bytesStr (Opd.tmp 75), some (74, true)⟩, ⟨some 77, AOp.move (Opd.tmp 11), some (74, true)⟩,
    ⟨some 78, AOp.bytesStr (Opd.tmp 77), some (74, true)⟩, ⟨some 79, AOp.bin (BinOp.eql) (Opd.tmp 76) (Opd.tmp 78), some (74, true)⟩, ⟨some 80, AOp.pick (Opd.tmp 74) (Opd.tmp 79) (Opd.const (V.bool
    false)), none⟩, ⟨some 81, AOp.move (Opd.tmp 80), none⟩, ⟨some 82, AOp.move (Opd.tmp 10), some (81, true)⟩, ⟨some 83, AOp.move (Opd.tmp 12), some (81, true)⟩, ⟨some 84, AOp.bin (BinOp.eql) (Opd.tmp
    82) (Opd.tmp 83), some (81, true)⟩, ⟨some 85, AOp.pick (Opd.tmp 81) (Opd.tmp 84) (Opd.const (V.bool false)), none⟩, ⟨some 86, AOp.move (Opd.tmp 85), none⟩, ⟨some 87, AOp.loadn 4 (Opd.tmp 4), some
    (86, true)⟩, ⟨some 88, AOp.call (Opd.func 11) [Opd.tmp 87], some (86, true)⟩, ⟨some 89, AOp.loadn 4 (Opd.tmp 4), some (86, true)⟩, ⟨some 90, AOp.call (Opd.func 19) [Opd.tmp 89], some (86, true)⟩,
    ⟨some 91, AOp.eq false (EqKind.bool) (Opd.tmp 88) (Opd.tmp 90), some (86, true)⟩, ⟨some 92, AOp.pick (Opd.tmp 86) (Opd.tmp 91) (Opd.const (V.bool false)), none⟩, ⟨some 93, AOp.move (Opd.tmp 92),
    none⟩, ⟨some 94, AOp.loadn 4 (Opd.tmp 13), some (93, true)⟩, ⟨some 95, AOp.loadn 4 (Opd.tmp 15), some (93, true)⟩, ⟨some 96, AOp.call (Opd.func 10) [Opd.tmp 94, Opd.tmp 95], some (93, true)⟩,
    ⟨some 97, AOp.pick (Opd.tmp 93) (Opd.tmp 96) (Opd.const (V.bool false)), none⟩, ⟨some 98, AOp.move (Opd.tmp 97), none⟩, ⟨some 99, AOp.move (Opd.tmp 14), some (98, true)⟩, ⟨some 100, AOp.move
    (Opd.tmp 16), some (98, true)⟩, ⟨some 101, AOp.bin (BinOp.eql) (Opd.tmp 99) (Opd.tmp 100), some (98, true)⟩, ⟨some 102, AOp.pick (Opd.tmp 98) (Opd.tmp 101) (Opd.const (V.bool false)), none⟩, ⟨some
    103, AOp.move (Opd.tmp 102), none⟩, ⟨some 104, AOp.loadn 4 (Opd.tmp 17), some (103, true)⟩, ⟨some 105, AOp.loadn 4 (Opd.tmp 19), some (103, true)⟩, ⟨some 106, AOp.call (Opd.func 10) [Opd.tmp 104,
    Opd.tmp 105], some (103, true)⟩, ⟨some 107, AOp.pick (Opd.tmp 103) (Opd.tmp 106) (Opd.const (V.bool false)), none⟩, ⟨some 108, AOp.move (Opd.tmp 107), none⟩, ⟨some 109, AOp.move (Opd.tmp 18), some
    (108, true)⟩, ⟨some 110, AOp.move (Opd.tmp 20), some (108, true)⟩, ⟨some 111, AOp.bin (BinOp.eql) (Opd.tmp 109) (Opd.tmp 110), some (108, true)⟩, ⟨some 112, AOp.pick (Opd.tmp 108) (Opd.tmp 111)
    (Opd.const (V.bool false)), none⟩, ⟨some 113, AOp.move (Opd.tmp 112), none⟩, ⟨some 114, AOp.fieldAddr 0 (Opd.tmp 4), some (113, true)⟩, ⟨some 115, AOp.load (Opd.tmp 114), some (113, true)⟩, ⟨some
    116, AOp.call (Opd.func 15) [Opd.tmp 115], some (113, true)⟩, ⟨some 117, AOp.fieldAddr 0 (Opd.tmp 4), some (113, true)⟩, ⟨some 118, AOp.load (Opd.tmp 117), some (113, true)⟩, ⟨some 119, AOp.bin
    (BinOp.geq) (Opd.tmp 118) (Opd.const (V.int (IntKind.i64) 1)), some (113, true)⟩, ⟨some 120, AOp.move (Opd.tmp 119), some (113, true)⟩, ⟨some 121, AOp.fieldAddr 0 (Opd.tmp 4), some (120, true)⟩,
    ⟨some 122, AOp.load (Opd.tmp 121), some (120, true)⟩, ⟨some 123, AOp.bin (BinOp.leq) (Opd.tmp 122) (Opd.const (V.int (IntKind.i64) 4)), some (120, true)⟩, ⟨some 124, AOp.pick (Opd.tmp 120)
    (Opd.tmp 123) (Opd.const (V.bool false)), some (113, true)⟩, ⟨some 125, AOp.eq false (EqKind.bool) (Opd.tmp 116) (Opd.tmp 124), some (113, true)⟩, ⟨some 126, AOp.pick (Opd.tmp 113) (Opd.tmp 125)
    (Opd.const (V.bool false)), none⟩, ⟨some 8, AOp.move (Opd.tmp 126), none⟩] [(16, 1), (45, 34)]) (ACode.ret)))))))
/-- Function 6: portholelaw26.MsgCodes. -/
def c6 : AFn :=
  ⟨127, [ARes.tmp 8], ACode.seq (ACode.region [⟨some 4, AOp.boxv 24 1 (Opd.tmp 0), none⟩, ⟨some 8, AOp.move (Opd.const (V.bool false)), none⟩]) (ACode.seq (ACode.region [⟨some 21, AOp.loadn 4 (Opd.tmp
    4), none⟩, ⟨some 22, AOp.move (Opd.tmp 1), none⟩, ⟨some 23, AOp.call (Opd.func 7) [Opd.tmp 21, Opd.tmp 22], none⟩, ⟨none, AOp.store 4 (Opd.tmp 4) (Opd.tmp 23), none⟩]) (ACode.seq (ACode.seq
    (ACode.region [⟨some 24, AOp.move (Opd.tmp 3), none⟩, ⟨some 25, AOp.bin (BinOp.rem) (Opd.tmp 24) (Opd.const (V.int (IntKind.i64) 6)), none⟩, ⟨some 26, AOp.bin (BinOp.eql) (Opd.tmp 25) (Opd.const
    (V.int (IntKind.i64) 0)), none⟩]) (ACode.cond (Opd.tmp 26) (ACode.region [⟨some 27, AOp.move (Opd.tmp 3), none⟩, ⟨some 28, AOp.call (Opd.func 13) [Opd.tmp 27, Opd.const (V.int (IntKind.i64) 10)],
    none⟩, ⟨some 29, AOp.bin (BinOp.add) (Opd.const (V.int (IntKind.i64) 2995)) (Opd.tmp 28), none⟩, ⟨some 30, AOp.move (Opd.tmp 3), none⟩, ⟨some 31, AOp.call (Opd.func 16) [Opd.tmp 29, Opd.tmp 30],
    none⟩, ⟨some 32, AOp.fieldAddr 2 (Opd.tmp 4), none⟩, ⟨none, AOp.store 1 (Opd.tmp 32) (Opd.tmp 31), none⟩]) (ACode.skip))) (ACode.seq (ACode.seq (ACode.region [⟨some 33, AOp.move (Opd.tmp 3),
    none⟩, ⟨some 34, AOp.bin (BinOp.rem) (Opd.tmp 33) (Opd.const (V.int (IntKind.i64) 6)), none⟩, ⟨some 35, AOp.bin (BinOp.eql) (Opd.tmp 34) (Opd.const (V.int (IntKind.i64) 1)), none⟩]) (ACode.cond
    (Opd.tmp 35) (ACode.region [⟨some 36, AOp.move (Opd.tmp 3), none⟩, ⟨some 37, AOp.call (Opd.func 13) [Opd.tmp 36, Opd.const (V.int (IntKind.i64) 10)], none⟩, ⟨some 38, AOp.bin (BinOp.add)
    (Opd.const (V.int (IntKind.i64) 396)) (Opd.tmp 37), none⟩, ⟨some 39, AOp.move (Opd.tmp 3), none⟩, ⟨some 40, AOp.call (Opd.func 16) [Opd.tmp 38, Opd.tmp 39], none⟩, ⟨some 41, AOp.bytesStr (Opd.tmp
    40), none⟩, ⟨some 42, AOp.fieldAddr 1 (Opd.tmp 4), none⟩, ⟨none, AOp.store 1 (Opd.tmp 42) (Opd.tmp 41), none⟩]) (ACode.skip))) c6_s4)))⟩
theorem h6 : compFn Try.prog Try.f6 = some c6 := by kernel_rfl
/-- Function 7: portholelaw26.message. -/
def c7 : AFn :=
  ⟨44, [ARes.cells 4 4], ACode.seq (ACode.region [⟨some 2, AOp.boxv 24 1 (Opd.tmp 0), none⟩, ⟨some 4, AOp.box 24 1 [V.int (IntKind.i64) 0, V.str [], V.nilslice, V.int (IntKind.i64) 0], none⟩])
    (ACode.seq (ACode.region [⟨some 5, AOp.fieldAddr 0 (Opd.tmp 2), none⟩, ⟨some 6, AOp.load (Opd.tmp 5), none⟩, ⟨some 7, AOp.call (Opd.func 13) [Opd.tmp 6, Opd.const (V.int (IntKind.i64) 10)], none⟩,
    ⟨some 8, AOp.fieldAddr 0 (Opd.tmp 2), none⟩, ⟨none, AOp.store 1 (Opd.tmp 8) (Opd.tmp 7), none⟩]) (ACode.seq (ACode.region [⟨some 9, AOp.fieldAddr 3 (Opd.tmp 2), none⟩, ⟨some 10, AOp.load (Opd.tmp
    9), none⟩, ⟨some 11, AOp.call (Opd.func 13) [Opd.tmp 10, Opd.const (V.int (IntKind.i64) 300)], none⟩, ⟨some 12, AOp.fieldAddr 3 (Opd.tmp 2), none⟩, ⟨none, AOp.store 1 (Opd.tmp 12) (Opd.tmp 11),
    none⟩]) (ACode.seq (ACode.seq (ACode.region [⟨some 13, AOp.move (Opd.tmp 1), none⟩, ⟨some 14, AOp.un (UnOp.not) (Opd.tmp 13), none⟩]) (ACode.cond (Opd.tmp 14) (ACode.seq (ACode.region [⟨some 15,
    AOp.loadn 4 (Opd.tmp 2), none⟩, ⟨none, AOp.store 4 (Opd.tmp 4) (Opd.tmp 15), none⟩]) (ACode.ret)) (ACode.skip))) (ACode.seq (ACode.seq (ACode.region [⟨some 16, AOp.fieldAddr 0 (Opd.tmp 2), none⟩,
    ⟨some 17, AOp.load (Opd.tmp 16), none⟩]) (ACode.block 0 (ACode.seq (ACode.seq (ACode.region [⟨some 19, AOp.bin (BinOp.eql) (Opd.tmp 17) (Opd.const (V.int (IntKind.i64) 1)), none⟩, ⟨some 18,
    AOp.move (Opd.tmp 19), none⟩]) (ACode.cond (Opd.tmp 18) (ACode.skip) (ACode.seq (ACode.region [⟨some 20, AOp.bin (BinOp.eql) (Opd.tmp 17) (Opd.const (V.int (IntKind.i64) 3)), none⟩, ⟨some 18,
    AOp.move (Opd.tmp 20), none⟩]) (ACode.cond (Opd.tmp 18) (ACode.skip) (ACode.region [⟨some 21, AOp.bin (BinOp.eql) (Opd.tmp 17) (Opd.const (V.int (IntKind.i64) 5)), none⟩, ⟨some 18, AOp.move
    (Opd.tmp 21), none⟩]))))) (ACode.cond (Opd.tmp 18) (ACode.seq (ACode.region [⟨some 22, AOp.fieldAddr 2 (Opd.tmp 2), none⟩, ⟨none, AOp.store 1 (Opd.tmp 22) (Opd.const (V.nilslice)), none⟩])
    (ACode.region [⟨some 23, AOp.fieldAddr 3 (Opd.tmp 2), none⟩, ⟨none, AOp.store 1 (Opd.tmp 23) (Opd.const (V.int (IntKind.i64) 0)), none⟩])) (ACode.seq (ACode.region [⟨some 25, AOp.bin (BinOp.eql)
    (Opd.tmp 17) (Opd.const (V.int (IntKind.i64) 2)), none⟩, ⟨some 24, AOp.move (Opd.tmp 25), none⟩]) (ACode.cond (Opd.tmp 24) (ACode.seq (ACode.region [⟨some 26, AOp.fieldAddr 1 (Opd.tmp 2), none⟩,
    ⟨none, AOp.store 1 (Opd.tmp 26) (Opd.const (V.str [])), none⟩]) (ACode.region [⟨some 27, AOp.fieldAddr 3 (Opd.tmp 2), none⟩, ⟨none, AOp.store 1 (Opd.tmp 27) (Opd.const (V.int (IntKind.i64) 0)),
    none⟩])) (ACode.seq (ACode.region [⟨some 29, AOp.bin (BinOp.eql) (Opd.tmp 17) (Opd.const (V.int (IntKind.i64) 7)), none⟩, ⟨some 28, AOp.move (Opd.tmp 29), none⟩]) (ACode.cond (Opd.tmp 28)
    (ACode.seq (ACode.region [⟨some 30, AOp.fieldAddr 1 (Opd.tmp 2), none⟩, ⟨none, AOp.store 1 (Opd.tmp 30) (Opd.const (V.str [])), none⟩]) (ACode.region [⟨some 31, AOp.fieldAddr 3 (Opd.tmp 2), none⟩,
    ⟨some 32, AOp.load (Opd.tmp 31), none⟩, ⟨some 33, AOp.bin (BinOp.rem) (Opd.tmp 32) (Opd.const (V.int (IntKind.i64) 3)), none⟩, ⟨some 34, AOp.fieldAddr 3 (Opd.tmp 2), none⟩, ⟨none, AOp.store 1
    (Opd.tmp 34) (Opd.tmp 33), none⟩])) (ACode.seq (ACode.seq (ACode.region [⟨some 36, AOp.bin (BinOp.eql) (Opd.tmp 17) (Opd.const (V.int (IntKind.i64) 6)), none⟩, ⟨some 35, AOp.move (Opd.tmp 36),
    none⟩]) (ACode.cond (Opd.tmp 35) (ACode.skip) (ACode.region [⟨some 37, AOp.bin (BinOp.eql) (Opd.tmp 17) (Opd.const (V.int (IntKind.i64) 8)), none⟩, ⟨some 35, AOp.move (Opd.tmp 37), none⟩])))
    (ACode.cond (Opd.tmp 35) (ACode.seq (ACode.region [⟨some 38, AOp.fieldAddr 1 (Opd.tmp 2), none⟩, ⟨none, AOp.store 1 (Opd.tmp 38) (Opd.const (V.str [])), none⟩]) (ACode.region [⟨some 39,
    AOp.fieldAddr 2 (Opd.tmp 2), none⟩, ⟨none, AOp.store 1 (Opd.tmp 39) (Opd.const (V.nilslice)), none⟩])) (ACode.seq (ACode.region [⟨some 41, AOp.bin (BinOp.eql) (Opd.tmp 17) (Opd.const (V.int
    (IntKind.i64) 4)), none⟩, ⟨some 40, AOp.move (Opd.tmp 41), none⟩]) (ACode.cond (Opd.tmp 40) (ACode.region [⟨some 42, AOp.build [V.int (IntKind.i64) 0, V.str [], V.nilslice, V.int (IntKind.i64) 0]
    [(0, 1, Opd.const (V.int (IntKind.i64) 4))], none⟩, ⟨none, AOp.store 4 (Opd.tmp 2) (Opd.tmp 42), none⟩]) (ACode.skip))))))))))))) (ACode.seq (ACode.region [⟨some 43, AOp.loadn 4 (Opd.tmp 2),
    none⟩, ⟨none, AOp.store 4 (Opd.tmp 4) (Opd.tmp 43), none⟩]) (ACode.ret))))))⟩
theorem h7 : compFn Try.prog Try.f7 = some c7 := by kernel_rfl
/-- Function 8: msg.Encode. -/
def c8 : AFn :=
  ⟨37, [ARes.tmp 2, ARes.tmp 3], ACode.seq (ACode.region [⟨some 1, AOp.boxv 24 1 (Opd.tmp 0), none⟩, ⟨some 2, AOp.move (Opd.const (V.nilslice)), none⟩, ⟨some 3, AOp.move (Opd.const (V.int
    (IntKind.i64) 0)), none⟩]) (ACode.seq (ACode.seq (ACode.region [⟨some 8, AOp.loadn 4 (Opd.tmp 1), none⟩, ⟨some 9, AOp.call (Opd.func 11) [Opd.tmp 8], none⟩, ⟨some 10, AOp.un (UnOp.not) (Opd.tmp
    9), none⟩]) (ACode.cond (Opd.tmp 10) (ACode.seq (ACode.region [⟨some 2, AOp.move (Opd.const (V.nilslice)), none⟩, ⟨some 3, AOp.move (Opd.const (V.int (IntKind.i64) 1)), none⟩]) (ACode.ret))
    (ACode.skip))) (ACode.seq (ACode.region [⟨some 11, AOp.fieldAddr 0 (Opd.tmp 1), none⟩, ⟨some 12, AOp.load (Opd.tmp 11), none⟩, ⟨some 13, AOp.conv (IntKind.u8) (Opd.tmp 12), none⟩, ⟨some 14,
    AOp.buildSlice 5 1 [V.int (IntKind.u8) 0] 1 [(0, 1, Opd.tmp 13)], none⟩, ⟨some 4, AOp.move (Opd.tmp 14), none⟩]) (ACode.seq (ACode.seq (ACode.region [⟨some 16, AOp.fieldAddr 0 (Opd.tmp 1), none⟩,
    ⟨some 17, AOp.load (Opd.tmp 16), none⟩, ⟨some 18, AOp.call (Opd.func 20) [Opd.tmp 17], none⟩, ⟨some 15, AOp.move (Opd.tmp 18), none⟩, ⟨some 19, AOp.extract (Opd.tmp 15) 0, none⟩, ⟨some 20,
    AOp.extract (Opd.tmp 15) 1, none⟩, ⟨some 21, AOp.extract (Opd.tmp 15) 2, none⟩, ⟨some 5, AOp.move (Opd.tmp 19), none⟩, ⟨some 6, AOp.move (Opd.tmp 20), none⟩, ⟨some 7, AOp.move (Opd.tmp 21),
    none⟩]) (ACode.seq (ACode.region [⟨some 22, AOp.move (Opd.tmp 7), none⟩]) (ACode.cond (Opd.tmp 22) (ACode.region [⟨some 23, AOp.move (Opd.tmp 4), none⟩, ⟨some 24, AOp.fieldAddr 3 (Opd.tmp 1),
    none⟩, ⟨some 25, AOp.load (Opd.tmp 24), none⟩, ⟨some 26, AOp.conv (IntKind.u8) (Opd.tmp 25), none⟩, ⟨some 27, AOp.buildSlice 5 1 [V.int (IntKind.u8) 0] 1 [(0, 1, Opd.tmp 26)], none⟩, ⟨some 28,
    AOp.append 5 1 1 (Opd.tmp 23) (Opd.tmp 27), none⟩, ⟨some 4, AOp.move (Opd.tmp 28), none⟩]) (ACode.skip)))) (ACode.seq (ACode.region [⟨some 29, AOp.move (Opd.tmp 4), none⟩, ⟨some 30, AOp.fieldAddr
    1 (Opd.tmp 1), none⟩, ⟨some 31, AOp.load (Opd.tmp 30), none⟩, ⟨some 32, AOp.strBytes 5 (Opd.tmp 31), none⟩, ⟨some 33, AOp.fieldAddr 2 (Opd.tmp 1), none⟩, ⟨some 34, AOp.load (Opd.tmp 33), none⟩,
    ⟨some 35, AOp.buildSlice 22 1 [V.nilslice] 3 [(0, 1, Opd.tmp 29), (1, 1, Opd.tmp 32), (2, 1, Opd.tmp 34)], none⟩, ⟨some 36, AOp.call (Opd.func 21) [Opd.tmp 35], none⟩, ⟨some 2, AOp.move (Opd.tmp
    36), none⟩, ⟨some 3, AOp.move (Opd.const (V.int (IntKind.i64) 0)), none⟩]) (ACode.ret)))))⟩
theorem h8 : compFn Try.prog Try.f8 = some c8 := by kernel_rfl
/-- Function 9: msg.Decode. -/
def c9 : AFn :=
  ⟨58, [ARes.cells 2 4, ARes.tmp 3], ACode.seq (ACode.region [⟨some 2, AOp.box 24 1 [V.int (IntKind.i64) 0, V.str [], V.nilslice, V.int (IntKind.i64) 0], none⟩, ⟨some 3, AOp.move (Opd.const (V.int
    (IntKind.i64) 0)), none⟩]) (ACode.seq (ACode.seq (ACode.region [⟨some 8, AOp.move (Opd.tmp 0), none⟩, ⟨some 9, AOp.lenL (Opd.tmp 8), none⟩, ⟨some 10, AOp.bin (BinOp.eql) (Opd.tmp 9) (Opd.const
    (V.int (IntKind.i64) 0)), none⟩]) (ACode.cond (Opd.tmp 10) (ACode.seq (ACode.region [⟨some 11, AOp.build [V.int (IntKind.i64) 0, V.str [], V.nilslice, V.int (IntKind.i64) 0] [], none⟩, ⟨none,
    AOp.store 4 (Opd.tmp 2) (Opd.tmp 11), none⟩, ⟨some 3, AOp.move (Opd.const (V.int (IntKind.i64) 7)), none⟩]) (ACode.ret)) (ACode.skip))) (ACode.seq (ACode.region [⟨some 12, AOp.move (Opd.tmp 0),
    none⟩, ⟨some 13, AOp.indexAddrS 1 (Opd.tmp 12) (Opd.const (V.int (IntKind.i64) 0)), none⟩, ⟨some 14, AOp.load (Opd.tmp 13), none⟩, ⟨some 15, AOp.conv (IntKind.i64) (Opd.tmp 14), none⟩, ⟨some 16,
    AOp.build [V.int (IntKind.i64) 0, V.str [], V.nilslice, V.int (IntKind.i64) 0] [(0, 1, Opd.tmp 15)], none⟩, ⟨some 4, AOp.box 24 1 [V.int (IntKind.i64) 0, V.str [], V.nilslice, V.int (IntKind.i64)
    0], none⟩, ⟨none, AOp.store 4 (Opd.tmp 4) (Opd.tmp 16), none⟩]) (ACode.seq (ACode.region [⟨some 17, AOp.move (Opd.tmp 0), none⟩, ⟨some 18, AOp.sliceSl 1 (Opd.tmp 17) (some (Opd.const (V.int
    (IntKind.i64) 1))) none none, none⟩, ⟨some 0, AOp.move (Opd.tmp 18), none⟩]) (ACode.seq (ACode.region [⟨some 20, AOp.fieldAddr 0 (Opd.tmp 4), none⟩, ⟨some 21, AOp.load (Opd.tmp 20), none⟩, ⟨some
    22, AOp.call (Opd.func 20) [Opd.tmp 21], none⟩, ⟨some 19, AOp.move (Opd.tmp 22), none⟩, ⟨some 23, AOp.extract (Opd.tmp 19) 0, none⟩, ⟨some 24, AOp.extract (Opd.tmp 19) 1, none⟩, ⟨some 25,
    AOp.extract (Opd.tmp 19) 2, none⟩, ⟨some 5, AOp.move (Opd.tmp 23), none⟩, ⟨some 6, AOp.move (Opd.tmp 24), none⟩, ⟨some 7, AOp.move (Opd.tmp 25), none⟩]) (ACode.seq (ACode.seq (ACode.region [⟨some
    26, AOp.move (Opd.tmp 7), none⟩]) (ACode.cond (Opd.tmp 26) (ACode.seq (ACode.seq (ACode.region [⟨some 27, AOp.move (Opd.tmp 0), none⟩, ⟨some 28, AOp.lenL (Opd.tmp 27), none⟩, ⟨some 29, AOp.bin
    (BinOp.eql) (Opd.tmp 28) (Opd.const (V.int (IntKind.i64) 0)), none⟩]) (ACode.cond (Opd.tmp 29) (ACode.seq (ACode.region [⟨some 30, AOp.build [V.int (IntKind.i64) 0, V.str [], V.nilslice, V.int
    (IntKind.i64) 0] [], none⟩, ⟨none, AOp.store 4 (Opd.tmp 2) (Opd.tmp 30), none⟩, ⟨some 3, AOp.move (Opd.const (V.int (IntKind.i64) 7)), none⟩]) (ACode.ret)) (ACode.skip))) (ACode.seq (ACode.region
    [⟨some 31, AOp.move (Opd.tmp 0), none⟩, ⟨some 32, AOp.indexAddrS 1 (Opd.tmp 31) (Opd.const (V.int (IntKind.i64) 0)), none⟩, ⟨some 33, AOp.load (Opd.tmp 32), none⟩, ⟨some 34, AOp.conv (IntKind.i64)
    (Opd.tmp 33), none⟩, ⟨some 35, AOp.fieldAddr 3 (Opd.tmp 4), none⟩, ⟨none, AOp.store 1 (Opd.tmp 35) (Opd.tmp 34), none⟩]) (ACode.region [⟨some 36, AOp.move (Opd.tmp 0), none⟩, ⟨some 37, AOp.sliceSl
    1 (Opd.tmp 36) (some (Opd.const (V.int (IntKind.i64) 1))) none none, none⟩, ⟨some 0, AOp.move (Opd.tmp 37), none⟩]))) (ACode.skip))) (ACode.seq (ACode.block 0 (ACode.seq (ACode.region [⟨some 39,
    AOp.move (Opd.tmp 5), none⟩, ⟨some 38, AOp.move (Opd.tmp 39), none⟩]) (ACode.cond (Opd.tmp 38) (ACode.region [⟨some 40, AOp.move (Opd.tmp 0), none⟩, ⟨some 41, AOp.bytesStr (Opd.tmp 40), none⟩,
    ⟨some 42, AOp.fieldAddr 1 (Opd.tmp 4), none⟩, ⟨none, AOp.store 1 (Opd.tmp 42) (Opd.tmp 41), none⟩]) (ACode.seq (ACode.region [⟨some 44, AOp.move (Opd.tmp 6), none⟩, ⟨some 43, AOp.move (Opd.tmp
    44), none⟩]) (ACode.cond (Opd.tmp 43) (ACode.region [⟨some 45, AOp.move (Opd.tmp 0), none⟩, ⟨some 46, AOp.call (Opd.func 22) [Opd.tmp 45], none⟩, ⟨some 47, AOp.fieldAddr 2 (Opd.tmp 4), none⟩,
    ⟨none, AOp.store 1 (Opd.tmp 47) (Opd.tmp 46), none⟩]) (ACode.seq (ACode.region [⟨some 49, AOp.move (Opd.tmp 0), none⟩, ⟨some 50, AOp.lenL (Opd.tmp 49), none⟩, ⟨some 51, AOp.bin (BinOp.gtr)
    (Opd.tmp 50) (Opd.const (V.int (IntKind.i64) 0)), none⟩, ⟨some 48, AOp.move (Opd.tmp 51), none⟩]) (ACode.cond (Opd.tmp 48) (ACode.seq (ACode.region [⟨some 52, AOp.build [V.int (IntKind.i64) 0,
    V.str [], V.nilslice, V.int (IntKind.i64) 0] [], none⟩, ⟨none, AOp.store 4 (Opd.tmp 2) (Opd.tmp 52), none⟩, ⟨some 3, AOp.move (Opd.const (V.int (IntKind.i64) 5)), none⟩]) (ACode.ret))
    (ACode.skip)))))))) (ACode.seq (ACode.seq (ACode.region [⟨some 53, AOp.loadn 4 (Opd.tmp 4), none⟩, ⟨some 54, AOp.call (Opd.func 11) [Opd.tmp 53], none⟩, ⟨some 55, AOp.un (UnOp.not) (Opd.tmp 54),
    none⟩]) (ACode.cond (Opd.tmp 55) (ACode.seq (ACode.region [⟨some 56, AOp.build [V.int (IntKind.i64) 0, V.str [], V.nilslice, V.int (IntKind.i64) 0] [], none⟩, ⟨none, AOp.store 4 (Opd.tmp 2)
    (Opd.tmp 56), none⟩, ⟨some 3, AOp.move (Opd.const (V.int (IntKind.i64) 5)), none⟩]) (ACode.ret)) (ACode.skip))) (ACode.seq (ACode.region [⟨some 57, AOp.loadn 4 (Opd.tmp 4), none⟩, ⟨none, AOp.store
    4 (Opd.tmp 2) (Opd.tmp 57), none⟩, ⟨some 3, AOp.move (Opd.const (V.int (IntKind.i64) 0)), none⟩]) (ACode.ret)))))))))⟩
theorem h9 : compFn Try.prog Try.f9 = some c9 := by kernel_rfl
/-- Function 10: portholeref22.SameMsg. -/
def c10 : AFn :=
  ⟨33, [ARes.tmp 4], ACode.seq (ACode.region [⟨some 2, AOp.boxv 24 1 (Opd.tmp 0), none⟩, ⟨some 3, AOp.boxv 24 1 (Opd.tmp 1), none⟩, ⟨some 4, AOp.move (Opd.const (V.bool false)), none⟩]) (ACode.seq
    (ACode.region [⟨some 5, AOp.fieldAddr 0 (Opd.tmp 2), none⟩, ⟨some 6, AOp.load (Opd.tmp 5), none⟩, ⟨some 7, AOp.fieldAddr 0 (Opd.tmp 3), none⟩, ⟨some 8, AOp.load (Opd.tmp 7), none⟩, ⟨some 9,
    AOp.bin (BinOp.eql) (Opd.tmp 6) (Opd.tmp 8), none⟩, ⟨some 10, AOp.move (Opd.tmp 9), none⟩, ⟨some 11, AOp.fieldAddr 1 (Opd.tmp 2), some (10, true)⟩, ⟨some 12, AOp.load (Opd.tmp 11), some (10,
    true)⟩, ⟨some 13, AOp.fieldAddr 1 (Opd.tmp 3), some (10, true)⟩, ⟨some 14, AOp.load (Opd.tmp 13), some (10, true)⟩, ⟨some 15, AOp.bin (BinOp.eql) (Opd.tmp 12) (Opd.tmp 14), some (10, true)⟩, ⟨some
    16, AOp.pick (Opd.tmp 10) (Opd.tmp 15) (Opd.const (V.bool false)), none⟩, ⟨some 17, AOp.move (Opd.tmp 16), none⟩, ⟨some 18, AOp.fieldAddr 2 (Opd.tmp 2), some (17, true)⟩, ⟨some 19, AOp.load
    (Opd.tmp 18), some (17, true)⟩, ⟨some 20, AOp.bytesStr (Opd.tmp 19), some (17, true)⟩, ⟨some 21, AOp.fieldAddr 2 (Opd.tmp 3), some (17, true)⟩, ⟨some 22, AOp.load (Opd.tmp 21), some (17, true)⟩,
    ⟨some 23, AOp.bytesStr (Opd.tmp 22), some (17, true)⟩, ⟨some 24, AOp.bin (BinOp.eql) (Opd.tmp 20) (Opd.tmp 23), some (17, true)⟩, ⟨some 25, AOp.pick (Opd.tmp 17) (Opd.tmp 24) (Opd.const (V.bool
    false)), none⟩, ⟨some 26, AOp.move (Opd.tmp 25), none⟩, ⟨some 27, AOp.fieldAddr 3 (Opd.tmp 2), some (26, true)⟩, ⟨some 28, AOp.load (Opd.tmp 27), some (26, true)⟩, ⟨some 29, AOp.fieldAddr 3
    (Opd.tmp 3), some (26, true)⟩, ⟨some 30, AOp.load (Opd.tmp 29), some (26, true)⟩, ⟨some 31, AOp.bin (BinOp.eql) (Opd.tmp 28) (Opd.tmp 30), some (26, true)⟩, ⟨some 32, AOp.pick (Opd.tmp 26)
    (Opd.tmp 31) (Opd.const (V.bool false)), none⟩, ⟨some 4, AOp.move (Opd.tmp 32), none⟩]) (ACode.ret))⟩
theorem h10 : compFn Try.prog Try.f10 = some c10 := by kernel_rfl
/-- Function 11: msg.Right. -/
def c11 : AFn :=
  ⟨78, [ARes.tmp 2], ACode.seq (ACode.region [⟨some 1, AOp.boxv 24 1 (Opd.tmp 0), none⟩, ⟨some 2, AOp.move (Opd.const (V.bool false)), none⟩]) (ACode.seq (ACode.region [⟨some 7, AOp.fieldAddr 0
    (Opd.tmp 1), none⟩, ⟨some 8, AOp.load (Opd.tmp 7), none⟩, ⟨some 9, AOp.call (Opd.func 20) [Opd.tmp 8], none⟩, ⟨some 6, AOp.move (Opd.tmp 9), none⟩, ⟨some 10, AOp.extract (Opd.tmp 6) 0, none⟩,
    ⟨some 11, AOp.extract (Opd.tmp 6) 1, none⟩, ⟨some 12, AOp.extract (Opd.tmp 6) 2, none⟩, ⟨some 3, AOp.move (Opd.tmp 10), none⟩, ⟨some 4, AOp.move (Opd.tmp 11), none⟩, ⟨some 5, AOp.move (Opd.tmp
    12), none⟩]) (ACode.seq (ACode.block 0 (ACode.seq (ACode.region [⟨some 14, AOp.fieldAddr 0 (Opd.tmp 1), none⟩, ⟨some 15, AOp.load (Opd.tmp 14), none⟩, ⟨some 16, AOp.bin (BinOp.lss) (Opd.tmp 15)
    (Opd.const (V.int (IntKind.i64) 1)), none⟩, ⟨some 17, AOp.move (Opd.tmp 16), none⟩, ⟨some 18, AOp.fieldAddr 0 (Opd.tmp 1), some (17, false)⟩, ⟨some 19, AOp.load (Opd.tmp 18), some (17, false)⟩,
    ⟨some 20, AOp.bin (BinOp.gtr) (Opd.tmp 19) (Opd.const (V.int (IntKind.i64) 8)), some (17, false)⟩, ⟨some 21, AOp.pick (Opd.tmp 17) (Opd.const (V.bool true)) (Opd.tmp 20), none⟩, ⟨some 13, AOp.move
    (Opd.tmp 21), none⟩]) (ACode.cond (Opd.tmp 13) (ACode.seq (ACode.region [⟨some 2, AOp.move (Opd.const (V.bool false)), none⟩]) (ACode.ret)) (ACode.seq (ACode.region [⟨some 23, AOp.move (Opd.tmp
    3), none⟩, ⟨some 24, AOp.un (UnOp.not) (Opd.tmp 23), none⟩, ⟨some 25, AOp.move (Opd.tmp 24), none⟩, ⟨some 26, AOp.fieldAddr 1 (Opd.tmp 1), some (25, true)⟩, ⟨some 27, AOp.load (Opd.tmp 26), some
    (25, true)⟩, ⟨some 28, AOp.bin (BinOp.neq) (Opd.tmp 27) (Opd.const (V.str [])), some (25, true)⟩, ⟨some 29, AOp.pick (Opd.tmp 25) (Opd.tmp 28) (Opd.const (V.bool false)), none⟩, ⟨some 30, AOp.move
    (Opd.tmp 29), none⟩, ⟨some 31, AOp.move (Opd.tmp 4), some (30, false)⟩, ⟨some 32, AOp.un (UnOp.not) (Opd.tmp 31), some (30, false)⟩, ⟨some 33, AOp.move (Opd.tmp 32), some (30, false)⟩, ⟨some 34,
    AOp.fieldAddr 2 (Opd.tmp 1), some (33, true)⟩, ⟨some 35, AOp.load (Opd.tmp 34), some (33, true)⟩, ⟨some 36, AOp.lenL (Opd.tmp 35), some (33, true)⟩, ⟨some 37, AOp.bin (BinOp.gtr) (Opd.tmp 36)
    (Opd.const (V.int (IntKind.i64) 0)), some (33, true)⟩, ⟨some 38, AOp.pick (Opd.tmp 33) (Opd.tmp 37) (Opd.const (V.bool false)), some (30, false)⟩, ⟨some 39, AOp.pick (Opd.tmp 30) (Opd.const
    (V.bool true)) (Opd.tmp 38), none⟩, ⟨some 40, AOp.move (Opd.tmp 39), none⟩, ⟨some 41, AOp.move (Opd.tmp 5), some (40, false)⟩, ⟨some 42, AOp.un (UnOp.not) (Opd.tmp 41), some (40, false)⟩, ⟨some
    43, AOp.move (Opd.tmp 42), some (40, false)⟩, ⟨some 44, AOp.fieldAddr 3 (Opd.tmp 1), some (43, true)⟩, ⟨some 45, AOp.load (Opd.tmp 44), some (43, true)⟩, ⟨some 46, AOp.bin (BinOp.neq) (Opd.tmp 45)
    (Opd.const (V.int (IntKind.i64) 0)), some (43, true)⟩, ⟨some 47, AOp.pick (Opd.tmp 43) (Opd.tmp 46) (Opd.const (V.bool false)), some (40, false)⟩, ⟨some 48, AOp.pick (Opd.tmp 40) (Opd.const
    (V.bool true)) (Opd.tmp 47), none⟩, ⟨some 22, AOp.move (Opd.tmp 48), none⟩]) (ACode.cond (Opd.tmp 22) (ACode.seq (ACode.region [⟨some 2, AOp.move (Opd.const (V.bool false)), none⟩]) (ACode.ret))
    (ACode.seq (ACode.region [⟨some 50, AOp.fieldAddr 0 (Opd.tmp 1), none⟩, ⟨some 51, AOp.load (Opd.tmp 50), none⟩, ⟨some 52, AOp.bin (BinOp.eql) (Opd.tmp 51) (Opd.const (V.int (IntKind.i64) 7)),
    none⟩, ⟨some 53, AOp.move (Opd.tmp 52), none⟩, ⟨some 54, AOp.fieldAddr 3 (Opd.tmp 1), some (53, true)⟩, ⟨some 55, AOp.load (Opd.tmp 54), some (53, true)⟩, ⟨some 56, AOp.bin (BinOp.gtr) (Opd.tmp
    55) (Opd.const (V.int (IntKind.i64) 1)), some (53, true)⟩, ⟨some 57, AOp.pick (Opd.tmp 53) (Opd.tmp 56) (Opd.const (V.bool false)), none⟩, ⟨some 49, AOp.move (Opd.tmp 57), none⟩]) (ACode.cond
    (Opd.tmp 49) (ACode.seq (ACode.region [⟨some 2, AOp.move (Opd.const (V.bool false)), none⟩]) (ACode.ret)) (ACode.skip)))))))) (ACode.seq (ACode.region [⟨some 58, AOp.fieldAddr 1 (Opd.tmp 1),
    none⟩, ⟨some 59, AOp.load (Opd.tmp 58), none⟩, ⟨some 60, AOp.lenS (Opd.tmp 59), none⟩, ⟨some 61, AOp.bin (BinOp.leq) (Opd.tmp 60) (Opd.const (V.int (IntKind.i64) 400)), none⟩, ⟨some 62, AOp.move
    (Opd.tmp 61), none⟩, ⟨some 63, AOp.fieldAddr 2 (Opd.tmp 1), some (62, true)⟩, ⟨some 64, AOp.load (Opd.tmp 63), some (62, true)⟩, ⟨some 65, AOp.lenL (Opd.tmp 64), some (62, true)⟩, ⟨some 66,
    AOp.bin (BinOp.leq) (Opd.tmp 65) (Opd.const (V.int (IntKind.i64) 3000)), some (62, true)⟩, ⟨some 67, AOp.pick (Opd.tmp 62) (Opd.tmp 66) (Opd.const (V.bool false)), none⟩, ⟨some 68, AOp.move
    (Opd.tmp 67), none⟩, ⟨some 69, AOp.fieldAddr 3 (Opd.tmp 1), some (68, true)⟩, ⟨some 70, AOp.load (Opd.tmp 69), some (68, true)⟩, ⟨some 71, AOp.bin (BinOp.geq) (Opd.tmp 70) (Opd.const (V.int
    (IntKind.i64) 0)), some (68, true)⟩, ⟨some 72, AOp.pick (Opd.tmp 68) (Opd.tmp 71) (Opd.const (V.bool false)), none⟩, ⟨some 73, AOp.move (Opd.tmp 72), none⟩, ⟨some 74, AOp.fieldAddr 3 (Opd.tmp 1),
    some (73, true)⟩, ⟨some 75, AOp.load (Opd.tmp 74), some (73, true)⟩, ⟨some 76, AOp.bin (BinOp.leq) (Opd.tmp 75) (Opd.const (V.int (IntKind.i64) 255)), some (73, true)⟩, ⟨some 77, AOp.pick (Opd.tmp
    73) (Opd.tmp 76) (Opd.const (V.bool false)), none⟩, ⟨some 2, AOp.move (Opd.tmp 77), none⟩]) (ACode.ret))))⟩
theorem h11 : compFn Try.prog Try.f11 = some c11 := by kernel_rfl
/-- Function 12: portholelaw26.known. -/
def c12 : AFn :=
  ⟨40, [ARes.tmp 0], ACode.seq (ACode.region [⟨some 0, AOp.move (Opd.const (V.bool false)), none⟩]) (ACode.seq (ACode.region [⟨some 6, AOp.buildSlice 5 1 [V.int (IntKind.u8) 0] 3 [(0, 1, Opd.const
    (V.int (IntKind.u8) 2)), (1, 1, Opd.const (V.int (IntKind.u8) 97)), (2, 1, Opd.const (V.int (IntKind.u8) 98))], none⟩, ⟨some 7, AOp.convSame (Opd.tmp 6), none⟩, ⟨some 8, AOp.call (Opd.func 9)
    [Opd.tmp 7], none⟩, ⟨some 5, AOp.move (Opd.tmp 8), none⟩, ⟨some 9, AOp.extract (Opd.tmp 5) 0, none⟩, ⟨some 10, AOp.extract (Opd.tmp 5) 1, none⟩, ⟨some 1, AOp.box 24 1 [V.int (IntKind.i64) 0, V.str
    [], V.nilslice, V.int (IntKind.i64) 0], none⟩, ⟨none, AOp.store 4 (Opd.tmp 1) (Opd.tmp 9), none⟩, ⟨some 2, AOp.move (Opd.tmp 10), none⟩]) (ACode.seq (ACode.region [⟨some 12, AOp.buildSlice 5 1
    [V.int (IntKind.u8) 0] 2 [(0, 1, Opd.const (V.int (IntKind.u8) 97)), (1, 1, Opd.const (V.int (IntKind.u8) 98))], none⟩, ⟨some 13, AOp.convSame (Opd.tmp 12), none⟩, ⟨some 14, AOp.build [V.int
    (IntKind.i64) 0, V.str [], V.nilslice, V.int (IntKind.i64) 0] [(0, 1, Opd.const (V.int (IntKind.i64) 2)), (2, 1, Opd.tmp 13)], none⟩, ⟨some 15, AOp.call (Opd.func 8) [Opd.tmp 14], none⟩, ⟨some 11,
    AOp.move (Opd.tmp 15), none⟩, ⟨some 16, AOp.extract (Opd.tmp 11) 0, none⟩, ⟨some 17, AOp.extract (Opd.tmp 11) 1, none⟩, ⟨some 3, AOp.move (Opd.tmp 16), none⟩, ⟨some 4, AOp.move (Opd.tmp 17),
    none⟩]) (ACode.seq (ACode.region [⟨some 18, AOp.move (Opd.tmp 2), none⟩, ⟨some 19, AOp.bin (BinOp.eql) (Opd.tmp 18) (Opd.const (V.int (IntKind.i64) 0)), none⟩, ⟨some 20, AOp.move (Opd.tmp 19),
    none⟩, ⟨some 21, AOp.fieldAddr 0 (Opd.tmp 1), some (20, true)⟩, ⟨some 22, AOp.load (Opd.tmp 21), some (20, true)⟩, ⟨some 23, AOp.bin (BinOp.eql) (Opd.tmp 22) (Opd.const (V.int (IntKind.i64) 2)),
    some (20, true)⟩, ⟨some 24, AOp.pick (Opd.tmp 20) (Opd.tmp 23) (Opd.const (V.bool false)), none⟩, ⟨some 25, AOp.move (Opd.tmp 24), none⟩, ⟨some 26, AOp.fieldAddr 2 (Opd.tmp 1), some (25, true)⟩,
    ⟨some 27, AOp.load (Opd.tmp 26), some (25, true)⟩, ⟨some 28, AOp.bytesStr (Opd.tmp 27), some (25, true)⟩, ⟨some 29, AOp.bin (BinOp.eql) (Opd.tmp 28) (Opd.const (V.str [97, 98])), some (25, true)⟩,
    ⟨some 30, AOp.pick (Opd.tmp 25) (Opd.tmp 29) (Opd.const (V.bool false)), none⟩, ⟨some 31, AOp.move (Opd.tmp 30), none⟩, ⟨some 32, AOp.move (Opd.tmp 4), some (31, true)⟩, ⟨some 33, AOp.bin
    (BinOp.eql) (Opd.tmp 32) (Opd.const (V.int (IntKind.i64) 0)), some (31, true)⟩, ⟨some 34, AOp.pick (Opd.tmp 31) (Opd.tmp 33) (Opd.const (V.bool false)), none⟩, ⟨some 35, AOp.move (Opd.tmp 34),
    none⟩, ⟨some 36, AOp.move (Opd.tmp 3), some (35, true)⟩, ⟨some 37, AOp.bytesStr (Opd.tmp 36), some (35, true)⟩, ⟨some 38, AOp.bin (BinOp.eql) (Opd.tmp 37) (Opd.const (V.str [2, 97, 98])), some
    (35, true)⟩, ⟨some 39, AOp.pick (Opd.tmp 35) (Opd.tmp 38) (Opd.const (V.bool false)), none⟩, ⟨some 0, AOp.move (Opd.tmp 39), none⟩]) (ACode.ret))))⟩
theorem h12 : compFn Try.prog Try.f12 = some c12 := by kernel_rfl
/-- Function 13: portholehand.Pick. -/
def c13 : AFn :=
  ⟨14, [ARes.tmp 4], ACode.seq (ACode.region [⟨some 4, AOp.move (Opd.const (V.int (IntKind.i64) 0)), none⟩]) (ACode.seq (ACode.region [⟨some 5, AOp.move (Opd.tmp 0), none⟩, ⟨some 6, AOp.move (Opd.tmp
    1), none⟩, ⟨some 7, AOp.bin (BinOp.rem) (Opd.tmp 5) (Opd.tmp 6), none⟩, ⟨some 0, AOp.move (Opd.tmp 7), none⟩]) (ACode.seq (ACode.seq (ACode.region [⟨some 8, AOp.move (Opd.tmp 0), none⟩, ⟨some 9,
    AOp.bin (BinOp.lss) (Opd.tmp 8) (Opd.const (V.int (IntKind.i64) 0)), none⟩]) (ACode.cond (Opd.tmp 9) (ACode.region [⟨some 10, AOp.move (Opd.tmp 0), none⟩, ⟨some 11, AOp.move (Opd.tmp 1), none⟩,
    ⟨some 12, AOp.bin (BinOp.add) (Opd.tmp 10) (Opd.tmp 11), none⟩, ⟨some 0, AOp.move (Opd.tmp 12), none⟩]) (ACode.skip))) (ACode.seq (ACode.region [⟨some 13, AOp.move (Opd.tmp 0), none⟩, ⟨some 4,
    AOp.move (Opd.tmp 13), none⟩]) (ACode.ret))))⟩
theorem h13 : compFn Try.prog Try.f13 = some c13 := by kernel_rfl
/-- Function 15: msg.Client. -/
def c15 : AFn :=
  ⟨9, [ARes.tmp 2], ACode.seq (ACode.region [⟨some 2, AOp.move (Opd.const (V.bool false)), none⟩]) (ACode.seq (ACode.region [⟨some 3, AOp.move (Opd.tmp 0), none⟩, ⟨some 4, AOp.bin (BinOp.geq) (Opd.tmp
    3) (Opd.const (V.int (IntKind.i64) 1)), none⟩, ⟨some 5, AOp.move (Opd.tmp 4), none⟩, ⟨some 6, AOp.move (Opd.tmp 0), some (5, true)⟩, ⟨some 7, AOp.bin (BinOp.leq) (Opd.tmp 6) (Opd.const (V.int
    (IntKind.i64) 4)), some (5, true)⟩, ⟨some 8, AOp.pick (Opd.tmp 5) (Opd.tmp 7) (Opd.const (V.bool false)), none⟩, ⟨some 2, AOp.move (Opd.tmp 8), none⟩]) (ACode.ret))⟩
theorem h15 : compFn Try.prog Try.f15 = some c15 := by kernel_rfl
/-- A loop of function 16. -/
def c16_l0 : ACode :=
  ACode.seq (ACode.seq (ACode.region [⟨some 12, AOp.move (Opd.tmp 7), none⟩, ⟨some 13, AOp.move (Opd.tmp 0), none⟩, ⟨some 14, AOp.bin (BinOp.lss) (Opd.tmp 12) (Opd.tmp 13), none⟩]) (ACode.cond
    (Opd.tmp 14) (ACode.skip) (ACode.exit 0))) (ACode.seq (ACode.block 1 (ACode.seq (ACode.region [⟨some 17, AOp.move (Opd.tmp 6), none⟩, ⟨some 18, AOp.bin (BinOp.mul) (Opd.tmp 17) (Opd.const (V.int
    (IntKind.u64) 6364136223846793005)), none⟩, ⟨some 19, AOp.bin (BinOp.add) (Opd.tmp 18) (Opd.const (V.int (IntKind.u64) 1442695040888963407)), none⟩, ⟨some 6, AOp.move (Opd.tmp 19), none⟩])
    (ACode.region [⟨some 20, AOp.move (Opd.tmp 5), none⟩, ⟨some 21, AOp.move (Opd.tmp 7), none⟩, ⟨some 22, AOp.move (Opd.tmp 6), none⟩, ⟨some 23, AOp.bin (BinOp.shr) (Opd.tmp 22) (Opd.const (V.int
    (IntKind.u64) 40)), none⟩, ⟨some 24, AOp.conv (IntKind.u8) (Opd.tmp 23), none⟩, ⟨some 25, AOp.indexAddrS 1 (Opd.tmp 20) (Opd.tmp 21), none⟩, ⟨none, AOp.store 1 (Opd.tmp 25) (Opd.tmp 24), none⟩])))
    (ACode.region [⟨some 15, AOp.move (Opd.tmp 7), none⟩, ⟨some 16, AOp.bin (BinOp.add) (Opd.tmp 15) (Opd.const (V.int (IntKind.i64) 1)), none⟩, ⟨some 7, AOp.move (Opd.tmp 16), none⟩]))
theorem c16_l0_wr : c16_l0.wr = [12, 13, 14, 17, 18, 19, 6, 20, 21, 22, 23, 24, 25, 15, 16, 7] := by kernel_rfl
/-- Function 16: portholehand.Bytes. -/
def c16 : AFn :=
  ⟨27, [ARes.tmp 4], ACode.seq (ACode.region [⟨some 4, AOp.move (Opd.const (V.nilslice)), none⟩]) (ACode.seq (ACode.region [⟨some 8, AOp.move (Opd.tmp 0), none⟩, ⟨some 9, AOp.makeSlice 5 1 1 [V.int
    (IntKind.u8) 0] (Opd.tmp 8) (Opd.tmp 8), none⟩, ⟨some 5, AOp.move (Opd.tmp 9), none⟩]) (ACode.seq (ACode.region [⟨some 10, AOp.move (Opd.tmp 1), none⟩, ⟨some 11, AOp.conv (IntKind.u64) (Opd.tmp
    10), none⟩, ⟨some 6, AOp.move (Opd.tmp 11), none⟩]) (ACode.seq (ACode.seq (ACode.region [⟨some 7, AOp.move (Opd.const (V.int (IntKind.i64) 0)), none⟩]) (ACode.block 0 (ACode.loop c16_l0)))
    (ACode.seq (ACode.region [⟨some 26, AOp.move (Opd.tmp 5), none⟩, ⟨some 4, AOp.move (Opd.tmp 26), none⟩]) (ACode.ret)))))⟩
theorem h16 : compFn Try.prog Try.f16 = some c16 := by kernel_rfl
/-- Function 17: portholeref22.EncodeMsg. -/
def c17 : AFn :=
  ⟨31, [ARes.tmp 2, ARes.tmp 3], ACode.seq (ACode.region [⟨some 1, AOp.boxv 24 1 (Opd.tmp 0), none⟩, ⟨some 2, AOp.move (Opd.const (V.nilslice)), none⟩, ⟨some 3, AOp.move (Opd.const (V.int
    (IntKind.i64) 0)), none⟩]) (ACode.seq (ACode.seq (ACode.region [⟨some 5, AOp.loadn 4 (Opd.tmp 1), none⟩, ⟨some 6, AOp.call (Opd.func 19) [Opd.tmp 5], none⟩, ⟨some 7, AOp.un (UnOp.not) (Opd.tmp 6),
    none⟩]) (ACode.cond (Opd.tmp 7) (ACode.seq (ACode.region [⟨some 2, AOp.move (Opd.const (V.nilslice)), none⟩, ⟨some 3, AOp.move (Opd.const (V.int (IntKind.i64) 1)), none⟩]) (ACode.ret))
    (ACode.skip))) (ACode.seq (ACode.region [⟨some 8, AOp.fieldAddr 0 (Opd.tmp 1), none⟩, ⟨some 9, AOp.load (Opd.tmp 8), none⟩, ⟨some 10, AOp.conv (IntKind.u8) (Opd.tmp 9), none⟩, ⟨some 11,
    AOp.buildSlice 5 1 [V.int (IntKind.u8) 0] 1 [(0, 1, Opd.tmp 10)], none⟩, ⟨some 4, AOp.move (Opd.tmp 11), none⟩]) (ACode.seq (ACode.seq (ACode.region [⟨some 12, AOp.fieldAddr 0 (Opd.tmp 1), none⟩,
    ⟨some 13, AOp.load (Opd.tmp 12), none⟩]) (ACode.block 0 (ACode.seq (ACode.seq (ACode.region [⟨some 15, AOp.bin (BinOp.eql) (Opd.tmp 13) (Opd.const (V.int (IntKind.i64) 6)), none⟩, ⟨some 14,
    AOp.move (Opd.tmp 15), none⟩]) (ACode.cond (Opd.tmp 14) (ACode.skip) (ACode.seq (ACode.region [⟨some 16, AOp.bin (BinOp.eql) (Opd.tmp 13) (Opd.const (V.int (IntKind.i64) 8)), none⟩, ⟨some 14,
    AOp.move (Opd.tmp 16), none⟩]) (ACode.cond (Opd.tmp 14) (ACode.skip) (ACode.region [⟨some 17, AOp.bin (BinOp.eql) (Opd.tmp 13) (Opd.const (V.int (IntKind.i64) 7)), none⟩, ⟨some 14, AOp.move
    (Opd.tmp 17), none⟩]))))) (ACode.cond (Opd.tmp 14) (ACode.region [⟨some 18, AOp.move (Opd.tmp 4), none⟩, ⟨some 19, AOp.fieldAddr 3 (Opd.tmp 1), none⟩, ⟨some 20, AOp.load (Opd.tmp 19), none⟩, ⟨some
    21, AOp.conv (IntKind.u8) (Opd.tmp 20), none⟩, ⟨some 22, AOp.buildSlice 5 1 [V.int (IntKind.u8) 0] 1 [(0, 1, Opd.tmp 21)], none⟩, ⟨some 23, AOp.append 5 1 1 (Opd.tmp 18) (Opd.tmp 22), none⟩, ⟨some
    4, AOp.move (Opd.tmp 23), none⟩]) (ACode.skip))))) (ACode.seq (ACode.anyRegion [⟨some 24, AOp.move (Opd.tmp 4), none⟩, ⟨some 25, AOp.fieldAddr 1 (Opd.tmp 1), none⟩, ⟨some 26, AOp.load (Opd.tmp
    25), none⟩, ⟨some 27, AOp.append 5 1 1 (Opd.tmp 24) (Opd.tmp 26), none⟩, ⟨some 28, AOp.fieldAddr 2 (Opd.tmp 1), none⟩, ⟨some 29, AOp.load (Opd.tmp 28), none⟩, ⟨some 30, AOp.append 5 1 1 (Opd.tmp
    27) (Opd.tmp 29), none⟩, ⟨some 2, AOp.move (Opd.tmp 30), none⟩, ⟨some 3, AOp.move (Opd.const (V.int (IntKind.i64) 0)), none⟩] [(5, 0)]) (ACode.ret)))))⟩
theorem h17 : compFn Try.prog Try.f17 = some c17 := by kernel_rfl
/-- Function 18: portholeref22.DecodeMsg. -/
def c18 : AFn :=
  ⟨60, [ARes.cells 2 4, ARes.tmp 3], ACode.seq (ACode.region [⟨some 2, AOp.box 24 1 [V.int (IntKind.i64) 0, V.str [], V.nilslice, V.int (IntKind.i64) 0], none⟩, ⟨some 3, AOp.move (Opd.const (V.int
    (IntKind.i64) 0)), none⟩]) (ACode.seq (ACode.seq (ACode.region [⟨some 6, AOp.move (Opd.tmp 0), none⟩, ⟨some 7, AOp.lenL (Opd.tmp 6), none⟩, ⟨some 8, AOp.bin (BinOp.eql) (Opd.tmp 7) (Opd.const
    (V.int (IntKind.i64) 0)), none⟩]) (ACode.cond (Opd.tmp 8) (ACode.seq (ACode.region [⟨some 9, AOp.build [V.int (IntKind.i64) 0, V.str [], V.nilslice, V.int (IntKind.i64) 0] [], none⟩, ⟨none,
    AOp.store 4 (Opd.tmp 2) (Opd.tmp 9), none⟩, ⟨some 3, AOp.move (Opd.const (V.int (IntKind.i64) 7)), none⟩]) (ACode.ret)) (ACode.skip))) (ACode.seq (ACode.region [⟨some 10, AOp.move (Opd.tmp 0),
    none⟩, ⟨some 11, AOp.indexAddrS 1 (Opd.tmp 10) (Opd.const (V.int (IntKind.i64) 0)), none⟩, ⟨some 12, AOp.load (Opd.tmp 11), none⟩, ⟨some 13, AOp.conv (IntKind.i64) (Opd.tmp 12), none⟩, ⟨some 14,
    AOp.build [V.int (IntKind.i64) 0, V.str [], V.nilslice, V.int (IntKind.i64) 0] [(0, 1, Opd.tmp 13)], none⟩, ⟨some 4, AOp.box 24 1 [V.int (IntKind.i64) 0, V.str [], V.nilslice, V.int (IntKind.i64)
    0], none⟩, ⟨none, AOp.store 4 (Opd.tmp 4) (Opd.tmp 14), none⟩]) (ACode.seq (ACode.region [⟨some 15, AOp.move (Opd.tmp 0), none⟩, ⟨some 16, AOp.sliceSl 1 (Opd.tmp 15) (some (Opd.const (V.int
    (IntKind.i64) 1))) none none, none⟩, ⟨some 5, AOp.move (Opd.tmp 16), none⟩]) (ACode.seq (ACode.seq (ACode.region [⟨some 17, AOp.fieldAddr 0 (Opd.tmp 4), none⟩, ⟨some 18, AOp.load (Opd.tmp 17),
    none⟩]) (ACode.block 0 (ACode.seq (ACode.seq (ACode.region [⟨some 20, AOp.bin (BinOp.eql) (Opd.tmp 18) (Opd.const (V.int (IntKind.i64) 1)), none⟩, ⟨some 19, AOp.move (Opd.tmp 20), none⟩])
    (ACode.cond (Opd.tmp 19) (ACode.skip) (ACode.seq (ACode.region [⟨some 21, AOp.bin (BinOp.eql) (Opd.tmp 18) (Opd.const (V.int (IntKind.i64) 3)), none⟩, ⟨some 19, AOp.move (Opd.tmp 21), none⟩])
    (ACode.cond (Opd.tmp 19) (ACode.skip) (ACode.region [⟨some 22, AOp.bin (BinOp.eql) (Opd.tmp 18) (Opd.const (V.int (IntKind.i64) 5)), none⟩, ⟨some 19, AOp.move (Opd.tmp 22), none⟩]))))) (ACode.cond
    (Opd.tmp 19) (ACode.seq (ACode.region [⟨some 23, AOp.move (Opd.tmp 5), none⟩, ⟨some 24, AOp.bytesStr (Opd.tmp 23), none⟩, ⟨some 25, AOp.fieldAddr 1 (Opd.tmp 4), none⟩, ⟨none, AOp.store 1 (Opd.tmp
    25) (Opd.tmp 24), none⟩]) (ACode.region [⟨some 5, AOp.move (Opd.const (V.nilslice)), none⟩])) (ACode.seq (ACode.region [⟨some 27, AOp.bin (BinOp.eql) (Opd.tmp 18) (Opd.const (V.int (IntKind.i64)
    2)), none⟩, ⟨some 26, AOp.move (Opd.tmp 27), none⟩]) (ACode.cond (Opd.tmp 26) (ACode.seq (ACode.region [⟨some 28, AOp.move (Opd.tmp 5), none⟩, ⟨some 29, AOp.fieldAddr 2 (Opd.tmp 4), none⟩, ⟨none,
    AOp.store 1 (Opd.tmp 29) (Opd.tmp 28), none⟩]) (ACode.region [⟨some 5, AOp.move (Opd.const (V.nilslice)), none⟩])) (ACode.seq (ACode.seq (ACode.region [⟨some 31, AOp.bin (BinOp.eql) (Opd.tmp 18)
    (Opd.const (V.int (IntKind.i64) 6)), none⟩, ⟨some 30, AOp.move (Opd.tmp 31), none⟩]) (ACode.cond (Opd.tmp 30) (ACode.skip) (ACode.seq (ACode.region [⟨some 32, AOp.bin (BinOp.eql) (Opd.tmp 18)
    (Opd.const (V.int (IntKind.i64) 8)), none⟩, ⟨some 30, AOp.move (Opd.tmp 32), none⟩]) (ACode.cond (Opd.tmp 30) (ACode.skip) (ACode.region [⟨some 33, AOp.bin (BinOp.eql) (Opd.tmp 18) (Opd.const
    (V.int (IntKind.i64) 7)), none⟩, ⟨some 30, AOp.move (Opd.tmp 33), none⟩]))))) (ACode.cond (Opd.tmp 30) (ACode.seq (ACode.seq (ACode.region [⟨some 34, AOp.move (Opd.tmp 5), none⟩, ⟨some 35,
    AOp.lenL (Opd.tmp 34), none⟩, ⟨some 36, AOp.bin (BinOp.eql) (Opd.tmp 35) (Opd.const (V.int (IntKind.i64) 0)), none⟩]) (ACode.cond (Opd.tmp 36) (ACode.seq (ACode.region [⟨some 37, AOp.build [V.int
    (IntKind.i64) 0, V.str [], V.nilslice, V.int (IntKind.i64) 0] [], none⟩, ⟨none, AOp.store 4 (Opd.tmp 2) (Opd.tmp 37), none⟩, ⟨some 3, AOp.move (Opd.const (V.int (IntKind.i64) 7)), none⟩])
    (ACode.ret)) (ACode.skip))) (ACode.seq (ACode.region [⟨some 38, AOp.move (Opd.tmp 5), none⟩, ⟨some 39, AOp.indexAddrS 1 (Opd.tmp 38) (Opd.const (V.int (IntKind.i64) 0)), none⟩, ⟨some 40, AOp.load
    (Opd.tmp 39), none⟩, ⟨some 41, AOp.conv (IntKind.i64) (Opd.tmp 40), none⟩, ⟨some 42, AOp.fieldAddr 3 (Opd.tmp 4), none⟩, ⟨none, AOp.store 1 (Opd.tmp 42) (Opd.tmp 41), none⟩]) (ACode.seq
    (ACode.region [⟨some 43, AOp.move (Opd.tmp 5), none⟩, ⟨some 44, AOp.sliceSl 1 (Opd.tmp 43) (some (Opd.const (V.int (IntKind.i64) 1))) none none, none⟩, ⟨some 5, AOp.move (Opd.tmp 44), none⟩])
    (ACode.seq (ACode.region [⟨some 45, AOp.fieldAddr 0 (Opd.tmp 4), none⟩, ⟨some 46, AOp.load (Opd.tmp 45), none⟩, ⟨some 47, AOp.bin (BinOp.eql) (Opd.tmp 46) (Opd.const (V.int (IntKind.i64) 7)),
    none⟩]) (ACode.cond (Opd.tmp 47) (ACode.seq (ACode.region [⟨some 48, AOp.move (Opd.tmp 5), none⟩, ⟨some 49, AOp.fieldAddr 2 (Opd.tmp 4), none⟩, ⟨none, AOp.store 1 (Opd.tmp 49) (Opd.tmp 48),
    none⟩]) (ACode.region [⟨some 5, AOp.move (Opd.const (V.nilslice)), none⟩])) (ACode.skip)))))) (ACode.skip))))))))) (ACode.seq (ACode.seq (ACode.region [⟨some 50, AOp.move (Opd.tmp 5), none⟩, ⟨some
    51, AOp.lenL (Opd.tmp 50), none⟩, ⟨some 52, AOp.bin (BinOp.gtr) (Opd.tmp 51) (Opd.const (V.int (IntKind.i64) 0)), none⟩, ⟨some 53, AOp.move (Opd.tmp 52), none⟩, ⟨some 54, AOp.loadn 4 (Opd.tmp 4),
    some (53, false)⟩, ⟨some 55, AOp.call (Opd.func 19) [Opd.tmp 54], some (53, false)⟩, ⟨some 56, AOp.un (UnOp.not) (Opd.tmp 55), some (53, false)⟩, ⟨some 57, AOp.pick (Opd.tmp 53) (Opd.const (V.bool
    true)) (Opd.tmp 56), none⟩]) (ACode.cond (Opd.tmp 57) (ACode.seq (ACode.region [⟨some 58, AOp.build [V.int (IntKind.i64) 0, V.str [], V.nilslice, V.int (IntKind.i64) 0] [], none⟩, ⟨none, AOp.store
    4 (Opd.tmp 2) (Opd.tmp 58), none⟩, ⟨some 3, AOp.move (Opd.const (V.int (IntKind.i64) 5)), none⟩]) (ACode.ret)) (ACode.skip))) (ACode.seq (ACode.region [⟨some 59, AOp.loadn 4 (Opd.tmp 4), none⟩,
    ⟨none, AOp.store 4 (Opd.tmp 2) (Opd.tmp 59), none⟩, ⟨some 3, AOp.move (Opd.const (V.int (IntKind.i64) 0)), none⟩]) (ACode.ret)))))))⟩
theorem h18 : compFn Try.prog Try.f18 = some c18 := by kernel_rfl
/-- Function 19: portholeref22.RightMsg. -/
def c19 : AFn :=
  ⟨103, [ARes.tmp 2], ACode.seq (ACode.region [⟨some 1, AOp.boxv 24 1 (Opd.tmp 0), none⟩, ⟨some 2, AOp.move (Opd.const (V.bool false)), none⟩]) (ACode.seq (ACode.seq (ACode.region [⟨some 6,
    AOp.fieldAddr 1 (Opd.tmp 1), none⟩, ⟨some 7, AOp.load (Opd.tmp 6), none⟩, ⟨some 8, AOp.lenS (Opd.tmp 7), none⟩, ⟨some 9, AOp.bin (BinOp.gtr) (Opd.tmp 8) (Opd.const (V.int (IntKind.i64) 400)),
    none⟩, ⟨some 10, AOp.move (Opd.tmp 9), none⟩, ⟨some 11, AOp.fieldAddr 2 (Opd.tmp 1), some (10, false)⟩, ⟨some 12, AOp.load (Opd.tmp 11), some (10, false)⟩, ⟨some 13, AOp.lenL (Opd.tmp 12), some
    (10, false)⟩, ⟨some 14, AOp.bin (BinOp.gtr) (Opd.tmp 13) (Opd.const (V.int (IntKind.i64) 3000)), some (10, false)⟩, ⟨some 15, AOp.pick (Opd.tmp 10) (Opd.const (V.bool true)) (Opd.tmp 14), none⟩,
    ⟨some 16, AOp.move (Opd.tmp 15), none⟩, ⟨some 17, AOp.fieldAddr 3 (Opd.tmp 1), some (16, false)⟩, ⟨some 18, AOp.load (Opd.tmp 17), some (16, false)⟩, ⟨some 19, AOp.bin (BinOp.lss) (Opd.tmp 18)
    (Opd.const (V.int (IntKind.i64) 0)), some (16, false)⟩, ⟨some 20, AOp.pick (Opd.tmp 16) (Opd.const (V.bool true)) (Opd.tmp 19), none⟩, ⟨some 21, AOp.move (Opd.tmp 20), none⟩, ⟨some 22,
    AOp.fieldAddr 3 (Opd.tmp 1), some (21, false)⟩, ⟨some 23, AOp.load (Opd.tmp 22), some (21, false)⟩, ⟨some 24, AOp.bin (BinOp.gtr) (Opd.tmp 23) (Opd.const (V.int (IntKind.i64) 255)), some (21,
    false)⟩, ⟨some 25, AOp.pick (Opd.tmp 21) (Opd.const (V.bool true)) (Opd.tmp 24), none⟩]) (ACode.cond (Opd.tmp 25) (ACode.seq (ACode.region [⟨some 2, AOp.move (Opd.const (V.bool false)), none⟩])
    (ACode.ret)) (ACode.skip))) (ACode.seq (ACode.region [⟨some 26, AOp.fieldAddr 0 (Opd.tmp 1), none⟩, ⟨some 27, AOp.load (Opd.tmp 26), none⟩, ⟨some 28, AOp.bin (BinOp.eql) (Opd.tmp 27) (Opd.const
    (V.int (IntKind.i64) 1)), none⟩, ⟨some 29, AOp.move (Opd.tmp 28), none⟩, ⟨some 30, AOp.fieldAddr 0 (Opd.tmp 1), some (29, false)⟩, ⟨some 31, AOp.load (Opd.tmp 30), some (29, false)⟩, ⟨some 32,
    AOp.bin (BinOp.eql) (Opd.tmp 31) (Opd.const (V.int (IntKind.i64) 3)), some (29, false)⟩, ⟨some 33, AOp.pick (Opd.tmp 29) (Opd.const (V.bool true)) (Opd.tmp 32), none⟩, ⟨some 34, AOp.move (Opd.tmp
    33), none⟩, ⟨some 35, AOp.fieldAddr 0 (Opd.tmp 1), some (34, false)⟩, ⟨some 36, AOp.load (Opd.tmp 35), some (34, false)⟩, ⟨some 37, AOp.bin (BinOp.eql) (Opd.tmp 36) (Opd.const (V.int (IntKind.i64)
    5)), some (34, false)⟩, ⟨some 38, AOp.pick (Opd.tmp 34) (Opd.const (V.bool true)) (Opd.tmp 37), none⟩, ⟨some 3, AOp.move (Opd.tmp 38), none⟩]) (ACode.seq (ACode.region [⟨some 39, AOp.fieldAddr 0
    (Opd.tmp 1), none⟩, ⟨some 40, AOp.load (Opd.tmp 39), none⟩, ⟨some 41, AOp.bin (BinOp.eql) (Opd.tmp 40) (Opd.const (V.int (IntKind.i64) 2)), none⟩, ⟨some 42, AOp.move (Opd.tmp 41), none⟩, ⟨some 43,
    AOp.fieldAddr 0 (Opd.tmp 1), some (42, false)⟩, ⟨some 44, AOp.load (Opd.tmp 43), some (42, false)⟩, ⟨some 45, AOp.bin (BinOp.eql) (Opd.tmp 44) (Opd.const (V.int (IntKind.i64) 7)), some (42,
    false)⟩, ⟨some 46, AOp.pick (Opd.tmp 42) (Opd.const (V.bool true)) (Opd.tmp 45), none⟩, ⟨some 4, AOp.move (Opd.tmp 46), none⟩]) (ACode.seq (ACode.region [⟨some 47, AOp.fieldAddr 0 (Opd.tmp 1),
    none⟩, ⟨some 48, AOp.load (Opd.tmp 47), none⟩, ⟨some 49, AOp.bin (BinOp.eql) (Opd.tmp 48) (Opd.const (V.int (IntKind.i64) 6)), none⟩, ⟨some 50, AOp.move (Opd.tmp 49), none⟩, ⟨some 51,
    AOp.fieldAddr 0 (Opd.tmp 1), some (50, false)⟩, ⟨some 52, AOp.load (Opd.tmp 51), some (50, false)⟩, ⟨some 53, AOp.bin (BinOp.eql) (Opd.tmp 52) (Opd.const (V.int (IntKind.i64) 8)), some (50,
    false)⟩, ⟨some 54, AOp.pick (Opd.tmp 50) (Opd.const (V.bool true)) (Opd.tmp 53), none⟩, ⟨some 55, AOp.move (Opd.tmp 54), none⟩, ⟨some 56, AOp.fieldAddr 0 (Opd.tmp 1), some (55, false)⟩, ⟨some 57,
    AOp.load (Opd.tmp 56), some (55, false)⟩, ⟨some 58, AOp.bin (BinOp.eql) (Opd.tmp 57) (Opd.const (V.int (IntKind.i64) 7)), some (55, false)⟩, ⟨some 59, AOp.pick (Opd.tmp 55) (Opd.const (V.bool
    true)) (Opd.tmp 58), none⟩, ⟨some 5, AOp.move (Opd.tmp 59), none⟩]) (ACode.seq (ACode.region [⟨some 60, AOp.fieldAddr 0 (Opd.tmp 1), none⟩, ⟨some 61, AOp.load (Opd.tmp 60), none⟩, ⟨some 62,
    AOp.bin (BinOp.geq) (Opd.tmp 61) (Opd.const (V.int (IntKind.i64) 1)), none⟩, ⟨some 63, AOp.move (Opd.tmp 62), none⟩, ⟨some 64, AOp.fieldAddr 0 (Opd.tmp 1), some (63, true)⟩, ⟨some 65, AOp.load
    (Opd.tmp 64), some (63, true)⟩, ⟨some 66, AOp.bin (BinOp.leq) (Opd.tmp 65) (Opd.const (V.int (IntKind.i64) 8)), some (63, true)⟩, ⟨some 67, AOp.pick (Opd.tmp 63) (Opd.tmp 66) (Opd.const (V.bool
    false)), none⟩, ⟨some 68, AOp.move (Opd.tmp 67), none⟩, ⟨some 69, AOp.move (Opd.tmp 3), some (68, true)⟩, ⟨some 70, AOp.move (Opd.tmp 69), some (68, true)⟩, ⟨some 71, AOp.fieldAddr 1 (Opd.tmp 1),
    some (70, false)⟩, ⟨some 72, AOp.load (Opd.tmp 71), some (70, false)⟩, ⟨some 73, AOp.bin (BinOp.eql) (Opd.tmp 72) (Opd.const (V.str [])), some (70, false)⟩, ⟨some 74, AOp.pick (Opd.tmp 70)
    (Opd.const (V.bool true)) (Opd.tmp 73), some (68, true)⟩, ⟨some 75, AOp.pick (Opd.tmp 68) (Opd.tmp 74) (Opd.const (V.bool false)), none⟩, ⟨some 76, AOp.move (Opd.tmp 75), none⟩, ⟨some 77, AOp.move
    (Opd.tmp 4), some (76, true)⟩, ⟨some 78, AOp.move (Opd.tmp 77), some (76, true)⟩, ⟨some 79, AOp.fieldAddr 2 (Opd.tmp 1), some (78, false)⟩, ⟨some 80, AOp.load (Opd.tmp 79), some (78, false)⟩,
    ⟨some 81, AOp.lenL (Opd.tmp 80), some (78, false)⟩, ⟨some 82, AOp.bin (BinOp.eql) (Opd.tmp 81) (Opd.const (V.int (IntKind.i64) 0)), some (78, false)⟩, ⟨some 83, AOp.pick (Opd.tmp 78) (Opd.const
    (V.bool true)) (Opd.tmp 82), some (76, true)⟩, ⟨some 84, AOp.pick (Opd.tmp 76) (Opd.tmp 83) (Opd.const (V.bool false)), none⟩, ⟨some 85, AOp.move (Opd.tmp 84), none⟩, ⟨some 86, AOp.move (Opd.tmp
    5), some (85, true)⟩, ⟨some 87, AOp.move (Opd.tmp 86), some (85, true)⟩, ⟨some 88, AOp.fieldAddr 3 (Opd.tmp 1), some (87, false)⟩, ⟨some 89, AOp.load (Opd.tmp 88), some (87, false)⟩, ⟨some 90,
    AOp.bin (BinOp.eql) (Opd.tmp 89) (Opd.const (V.int (IntKind.i64) 0)), some (87, false)⟩, ⟨some 91, AOp.pick (Opd.tmp 87) (Opd.const (V.bool true)) (Opd.tmp 90), some (85, true)⟩, ⟨some 92,
    AOp.pick (Opd.tmp 85) (Opd.tmp 91) (Opd.const (V.bool false)), none⟩, ⟨some 93, AOp.move (Opd.tmp 92), none⟩, ⟨some 94, AOp.fieldAddr 0 (Opd.tmp 1), some (93, true)⟩, ⟨some 95, AOp.load (Opd.tmp
    94), some (93, true)⟩, ⟨some 96, AOp.bin (BinOp.neq) (Opd.tmp 95) (Opd.const (V.int (IntKind.i64) 7)), some (93, true)⟩, ⟨some 97, AOp.move (Opd.tmp 96), some (93, true)⟩, ⟨some 98, AOp.fieldAddr
    3 (Opd.tmp 1), some (97, false)⟩, ⟨some 99, AOp.load (Opd.tmp 98), some (97, false)⟩, ⟨some 100, AOp.bin (BinOp.leq) (Opd.tmp 99) (Opd.const (V.int (IntKind.i64) 1)), some (97, false)⟩, ⟨some 101,
    AOp.pick (Opd.tmp 97) (Opd.const (V.bool true)) (Opd.tmp 100), some (93, true)⟩, ⟨some 102, AOp.pick (Opd.tmp 93) (Opd.tmp 101) (Opd.const (V.bool false)), none⟩, ⟨some 2, AOp.move (Opd.tmp 102),
    none⟩]) (ACode.ret))))))⟩
theorem h19 : compFn Try.prog Try.f19 = some c19 := by kernel_rfl
/-- Function 20: msg.fields. -/
def c20 : AFn :=
  ⟨17, [ARes.tmp 2, ARes.tmp 3, ARes.tmp 4], ACode.seq (ACode.region [⟨some 2, AOp.move (Opd.const (V.bool false)), none⟩, ⟨some 3, AOp.move (Opd.const (V.bool false)), none⟩, ⟨some 4, AOp.move
    (Opd.const (V.bool false)), none⟩]) (ACode.seq (ACode.seq (ACode.region [⟨some 5, AOp.move (Opd.tmp 0), none⟩]) (ACode.block 0 (ACode.seq (ACode.seq (ACode.region [⟨some 7, AOp.bin (BinOp.eql)
    (Opd.tmp 5) (Opd.const (V.int (IntKind.i64) 1)), none⟩, ⟨some 6, AOp.move (Opd.tmp 7), none⟩]) (ACode.cond (Opd.tmp 6) (ACode.skip) (ACode.seq (ACode.region [⟨some 8, AOp.bin (BinOp.eql) (Opd.tmp
    5) (Opd.const (V.int (IntKind.i64) 3)), none⟩, ⟨some 6, AOp.move (Opd.tmp 8), none⟩]) (ACode.cond (Opd.tmp 6) (ACode.skip) (ACode.region [⟨some 9, AOp.bin (BinOp.eql) (Opd.tmp 5) (Opd.const (V.int
    (IntKind.i64) 5)), none⟩, ⟨some 6, AOp.move (Opd.tmp 9), none⟩]))))) (ACode.cond (Opd.tmp 6) (ACode.seq (ACode.region [⟨some 2, AOp.move (Opd.const (V.bool true)), none⟩, ⟨some 3, AOp.move
    (Opd.const (V.bool false)), none⟩, ⟨some 4, AOp.move (Opd.const (V.bool false)), none⟩]) (ACode.ret)) (ACode.seq (ACode.region [⟨some 11, AOp.bin (BinOp.eql) (Opd.tmp 5) (Opd.const (V.int
    (IntKind.i64) 2)), none⟩, ⟨some 10, AOp.move (Opd.tmp 11), none⟩]) (ACode.cond (Opd.tmp 10) (ACode.seq (ACode.region [⟨some 2, AOp.move (Opd.const (V.bool false)), none⟩, ⟨some 3, AOp.move
    (Opd.const (V.bool true)), none⟩, ⟨some 4, AOp.move (Opd.const (V.bool false)), none⟩]) (ACode.ret)) (ACode.seq (ACode.seq (ACode.region [⟨some 13, AOp.bin (BinOp.eql) (Opd.tmp 5) (Opd.const
    (V.int (IntKind.i64) 6)), none⟩, ⟨some 12, AOp.move (Opd.tmp 13), none⟩]) (ACode.cond (Opd.tmp 12) (ACode.skip) (ACode.region [⟨some 14, AOp.bin (BinOp.eql) (Opd.tmp 5) (Opd.const (V.int
    (IntKind.i64) 8)), none⟩, ⟨some 12, AOp.move (Opd.tmp 14), none⟩]))) (ACode.cond (Opd.tmp 12) (ACode.seq (ACode.region [⟨some 2, AOp.move (Opd.const (V.bool false)), none⟩, ⟨some 3, AOp.move
    (Opd.const (V.bool false)), none⟩, ⟨some 4, AOp.move (Opd.const (V.bool true)), none⟩]) (ACode.ret)) (ACode.seq (ACode.region [⟨some 16, AOp.bin (BinOp.eql) (Opd.tmp 5) (Opd.const (V.int
    (IntKind.i64) 7)), none⟩, ⟨some 15, AOp.move (Opd.tmp 16), none⟩]) (ACode.cond (Opd.tmp 15) (ACode.seq (ACode.region [⟨some 2, AOp.move (Opd.const (V.bool false)), none⟩, ⟨some 3, AOp.move
    (Opd.const (V.bool true)), none⟩, ⟨some 4, AOp.move (Opd.const (V.bool true)), none⟩]) (ACode.ret)) (ACode.skip))))))))))) (ACode.seq (ACode.region [⟨some 2, AOp.move (Opd.const (V.bool false)),
    none⟩, ⟨some 3, AOp.move (Opd.const (V.bool false)), none⟩, ⟨some 4, AOp.move (Opd.const (V.bool false)), none⟩]) (ACode.ret)))⟩
theorem h20 : compFn Try.prog Try.f20 = some c20 := by kernel_rfl
/-- A loop of function 21. -/
def c21_l0 : ACode :=
  ACode.seq (ACode.region [⟨some 10, AOp.bin (BinOp.lss) (Opd.tmp 9) (Opd.tmp 8), none⟩]) (ACode.seq (ACode.cond (Opd.tmp 10) (ACode.skip) (ACode.exit 0)) (ACode.seq (ACode.block 1 (ACode.seq
    (ACode.region [⟨some 11, AOp.indexAddrS 1 (Opd.tmp 7) (Opd.tmp 9), none⟩, ⟨some 12, AOp.load (Opd.tmp 11), none⟩, ⟨some 5, AOp.move (Opd.tmp 12), none⟩]) (ACode.region [⟨some 13, AOp.move (Opd.tmp
    3), none⟩, ⟨some 14, AOp.move (Opd.tmp 5), none⟩, ⟨some 15, AOp.append 5 1 1 (Opd.tmp 13) (Opd.tmp 14), none⟩, ⟨some 3, AOp.move (Opd.tmp 15), none⟩]))) (ACode.region [⟨some 16, AOp.bin
    (BinOp.add) (Opd.tmp 9) (Opd.const (V.int (IntKind.i64) 1)), none⟩, ⟨some 9, AOp.move (Opd.tmp 16), none⟩])))
theorem c21_l0_wr : c21_l0.wr = [10, 11, 12, 5, 13, 14, 15, 3, 16, 9] := by kernel_rfl
/-- Function 21: octet.Join. -/
def c21 : AFn :=
  ⟨18, [ARes.tmp 2], ACode.seq (ACode.region [⟨some 2, AOp.move (Opd.const (V.nilslice)), none⟩]) (ACode.seq (ACode.region [⟨some 6, AOp.buildSlice 5 1 [V.int (IntKind.u8) 0] 0 [], none⟩, ⟨some 3,
    AOp.move (Opd.tmp 6), none⟩]) (ACode.seq (ACode.seq (ACode.region [⟨some 7, AOp.move (Opd.tmp 0), none⟩, ⟨some 8, AOp.lenL (Opd.tmp 7), none⟩, ⟨some 9, AOp.move (Opd.const (V.int (IntKind.i64)
    0)), none⟩]) (ACode.block 0 (ACode.loop c21_l0))) (ACode.seq (ACode.region [⟨some 17, AOp.move (Opd.tmp 3), none⟩, ⟨some 2, AOp.move (Opd.tmp 17), none⟩]) (ACode.ret))))⟩
theorem h21 : compFn Try.prog Try.f21 = some c21 := by kernel_rfl
/-- Function 22: octet.Clone. -/
def c22 : AFn :=
  ⟨6, [ARes.tmp 2], ACode.seq (ACode.region [⟨some 2, AOp.move (Opd.const (V.nilslice)), none⟩]) (ACode.seq (ACode.region [⟨some 3, AOp.buildSlice 5 1 [V.int (IntKind.u8) 0] 0 [], none⟩, ⟨some 4,
    AOp.move (Opd.tmp 0), none⟩, ⟨some 5, AOp.append 5 1 1 (Opd.tmp 3) (Opd.tmp 4), none⟩, ⟨some 2, AOp.move (Opd.tmp 5), none⟩]) (ACode.ret))⟩
theorem h22 : compFn Try.prog Try.f22 = some c22 := by kernel_rfl
def tab (f : Nat) : Option AFn :=
  if f = 6 then some c6 else if f = 7 then some c7 else if f = 8 then some c8 else if f = 9 then some c9 else if f = 10 then some c10 else if f = 11 then some c11 else if f = 12 then some c12 else if f = 13 then some c13 else if f = 15 then some c15 else if f = 16 then some c16 else if f = 17 then some c17 else if f = 18 then some c18 else if f = 19 then some c19 else if f = 20 then some c20 else if f = 21 then some c21 else if f = 22 then some c22 else none
theorem tab_holds : Holds Try.prog tab := by
  intro f fn hf
  unfold tab at hf
  by_cases e6 : f = 6
  · rw [if_pos e6] at hf; subst e6; cases hf; exact ⟨_, Try.func6, h6⟩
  rw [if_neg e6] at hf
  by_cases e7 : f = 7
  · rw [if_pos e7] at hf; subst e7; cases hf; exact ⟨_, Try.func7, h7⟩
  rw [if_neg e7] at hf
  by_cases e8 : f = 8
  · rw [if_pos e8] at hf; subst e8; cases hf; exact ⟨_, Try.func8, h8⟩
  rw [if_neg e8] at hf
  by_cases e9 : f = 9
  · rw [if_pos e9] at hf; subst e9; cases hf; exact ⟨_, Try.func9, h9⟩
  rw [if_neg e9] at hf
  by_cases e10 : f = 10
  · rw [if_pos e10] at hf; subst e10; cases hf; exact ⟨_, Try.func10, h10⟩
  rw [if_neg e10] at hf
  by_cases e11 : f = 11
  · rw [if_pos e11] at hf; subst e11; cases hf; exact ⟨_, Try.func11, h11⟩
  rw [if_neg e11] at hf
  by_cases e12 : f = 12
  · rw [if_pos e12] at hf; subst e12; cases hf; exact ⟨_, Try.func12, h12⟩
  rw [if_neg e12] at hf
  by_cases e13 : f = 13
  · rw [if_pos e13] at hf; subst e13; cases hf; exact ⟨_, Try.func13, h13⟩
  rw [if_neg e13] at hf
  by_cases e15 : f = 15
  · rw [if_pos e15] at hf; subst e15; cases hf; exact ⟨_, Try.func15, h15⟩
  rw [if_neg e15] at hf
  by_cases e16 : f = 16
  · rw [if_pos e16] at hf; subst e16; cases hf; exact ⟨_, Try.func16, h16⟩
  rw [if_neg e16] at hf
  by_cases e17 : f = 17
  · rw [if_pos e17] at hf; subst e17; cases hf; exact ⟨_, Try.func17, h17⟩
  rw [if_neg e17] at hf
  by_cases e18 : f = 18
  · rw [if_pos e18] at hf; subst e18; cases hf; exact ⟨_, Try.func18, h18⟩
  rw [if_neg e18] at hf
  by_cases e19 : f = 19
  · rw [if_pos e19] at hf; subst e19; cases hf; exact ⟨_, Try.func19, h19⟩
  rw [if_neg e19] at hf
  by_cases e20 : f = 20
  · rw [if_pos e20] at hf; subst e20; cases hf; exact ⟨_, Try.func20, h20⟩
  rw [if_neg e20] at hf
  by_cases e21 : f = 21
  · rw [if_pos e21] at hf; subst e21; cases hf; exact ⟨_, Try.func21, h21⟩
  rw [if_neg e21] at hf
  by_cases e22 : f = 22
  · rw [if_pos e22] at hf; subst e22; cases hf; exact ⟨_, Try.func22, h22⟩
  rw [if_neg e22] at hf
  cases hf
end Go.Proofs.Ytjffpeedfeiljaa.MsgCodes
