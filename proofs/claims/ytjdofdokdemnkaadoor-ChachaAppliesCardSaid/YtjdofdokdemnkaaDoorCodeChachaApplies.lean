/- The functions that the law ChachaApplies reaches, as the abstract machine has them. No condition. -/
import Derived.Test.YtjdofdokdemnkaaDoorA37
import Derived.KernelRfl
namespace Go.Proofs.YtjdofdokdemnkaaDoor.ChachaApplies
open Go Go.Proofs.YtjdofdokdemnkaaDoorA
/-- Function 4: portholelaw4.ChachaApplies. -/
def c4 : AFn :=
  ⟨52, [ARes.tmp 12], ACode.seq (ACode.region [⟨some 6, AOp.boxv 22 1 (Opd.tmp 0), none⟩, ⟨some 8, AOp.boxv 24 1 (Opd.tmp 2), none⟩, ⟨some 12, AOp.move (Opd.const (V.bool false)), none⟩]) (ACode.seq
    (ACode.seq (ACode.region [⟨some 14, AOp.move (Opd.tmp 4), none⟩, ⟨some 15, AOp.bin (BinOp.rem) (Opd.tmp 14) (Opd.const (V.int (IntKind.i64) 3)), none⟩, ⟨some 16, AOp.bin (BinOp.eql) (Opd.tmp 15)
    (Opd.const (V.int (IntKind.i64) 0)), none⟩]) (ACode.cond (Opd.tmp 16) (ACode.region [⟨some 17, AOp.move (Opd.tmp 4), none⟩, ⟨some 18, AOp.call (Opd.func 12) [Opd.tmp 17, Opd.const (V.int
    (IntKind.i64) 400)], none⟩, ⟨some 19, AOp.move (Opd.tmp 4), none⟩, ⟨some 20, AOp.call (Opd.func 11) [Opd.tmp 18, Opd.tmp 19], none⟩, ⟨some 3, AOp.move (Opd.tmp 20), none⟩]) (ACode.skip)))
    (ACode.seq (ACode.seq (ACode.region [⟨some 21, AOp.move (Opd.tmp 5), none⟩]) (ACode.cond (Opd.tmp 21) (ACode.region [⟨some 22, AOp.move (Opd.tmp 1), none⟩, ⟨some 23, AOp.bin (BinOp.rem) (Opd.tmp
    22) (Opd.const (V.int (IntKind.u32) 4)), none⟩, ⟨some 24, AOp.bin (BinOp.sub) (Opd.const (V.int (IntKind.u32) 4294967295)) (Opd.tmp 23), none⟩, ⟨some 1, AOp.move (Opd.tmp 24), none⟩])
    (ACode.skip))) (ACode.seq (ACode.region [⟨some 25, AOp.move (Opd.tmp 3), none⟩, ⟨some 26, AOp.move (Opd.tmp 3), none⟩, ⟨some 27, AOp.lenL (Opd.tmp 26), none⟩, ⟨some 28, AOp.call (Opd.func 13)
    [Opd.tmp 25, Opd.tmp 27], none⟩, ⟨some 13, AOp.move (Opd.tmp 28), none⟩]) (ACode.seq (ACode.anyRegion [⟨some 29, AOp.call (Opd.func 8) [], none⟩, ⟨some 30, AOp.move (Opd.tmp 29), none⟩, ⟨some 31,
    AOp.loadn 32 (Opd.tmp 6), some (30, true)⟩, ⟨some 32, AOp.move (Opd.tmp 1), some (30, true)⟩, ⟨some 33, AOp.loadn 12 (Opd.tmp 8), some (30, true)⟩, ⟨some 34, AOp.move (Opd.tmp 13), some (30,
    true)⟩, ⟨some 35, AOp.call (Opd.func 14) [Opd.tmp 31, Opd.tmp 32, Opd.tmp 33, Opd.tmp 34], some (30, true)⟩, ⟨some 36, AOp.bytesStr (Opd.tmp 35), some (30, true)⟩, ⟨some 37, AOp.loadn 32 (Opd.tmp
    6), some (30, true)⟩, ⟨some 38, AOp.move (Opd.tmp 1), some (30, true)⟩, ⟨some 39, AOp.loadn 12 (Opd.tmp 8), some (30, true)⟩, ⟨some 40, AOp.move (Opd.tmp 3), some (30, true)⟩, ⟨some 41, AOp.call
    (Opd.func 15) [Opd.tmp 37, Opd.tmp 38, Opd.tmp 39, Opd.tmp 40], some (30, true)⟩, ⟨some 42, AOp.bytesStr (Opd.tmp 41), some (30, true)⟩, ⟨some 43, AOp.bin (BinOp.eql) (Opd.tmp 36) (Opd.tmp 42),
    some (30, true)⟩, ⟨some 44, AOp.pick (Opd.tmp 30) (Opd.tmp 43) (Opd.const (V.bool false)), none⟩, ⟨some 45, AOp.move (Opd.tmp 44), none⟩, ⟨some 46, AOp.move (Opd.tmp 13), some (45, true)⟩, ⟨some
    47, AOp.bytesStr (Opd.tmp 46), some (45, true)⟩, ⟨some 48, AOp.move (Opd.tmp 3), some (45, true)⟩, ⟨some 49, AOp.bytesStr (Opd.tmp 48), some (45, true)⟩, ⟨some 50, AOp.bin (BinOp.eql) (Opd.tmp 47)
    (Opd.tmp 49), some (45, true)⟩, ⟨some 51, AOp.pick (Opd.tmp 45) (Opd.tmp 50) (Opd.const (V.bool false)), none⟩, ⟨some 12, AOp.move (Opd.tmp 51), none⟩] [(7, 13), (8, 1), (10, 1)]) (ACode.ret)))))⟩
theorem h4 : compFn Tryd.prog Tryd.f4 = some c4 := by kernel_rfl
/-- Function 6: chacha.Quarter. -/
def c6 : AFn :=
  ⟨44, [ARes.tmp 8, ARes.tmp 9, ARes.tmp 10, ARes.tmp 11], ACode.seq (ACode.region [⟨some 8, AOp.move (Opd.const (V.int (IntKind.u32) 0)), none⟩, ⟨some 9, AOp.move (Opd.const (V.int (IntKind.u32) 0)),
    none⟩, ⟨some 10, AOp.move (Opd.const (V.int (IntKind.u32) 0)), none⟩, ⟨some 11, AOp.move (Opd.const (V.int (IntKind.u32) 0)), none⟩]) (ACode.seq (ACode.region [⟨some 12, AOp.move (Opd.tmp 0),
    none⟩, ⟨some 13, AOp.move (Opd.tmp 1), none⟩, ⟨some 14, AOp.bin (BinOp.add) (Opd.tmp 12) (Opd.tmp 13), none⟩, ⟨some 0, AOp.move (Opd.tmp 14), none⟩]) (ACode.seq (ACode.region [⟨some 15, AOp.move
    (Opd.tmp 3), none⟩, ⟨some 16, AOp.move (Opd.tmp 0), none⟩, ⟨some 17, AOp.bin (BinOp.xor) (Opd.tmp 15) (Opd.tmp 16), none⟩, ⟨some 18, AOp.call (Opd.func 19) [Opd.tmp 17, Opd.const (V.int
    (IntKind.i64) 16)], none⟩, ⟨some 3, AOp.move (Opd.tmp 18), none⟩]) (ACode.seq (ACode.region [⟨some 19, AOp.move (Opd.tmp 2), none⟩, ⟨some 20, AOp.move (Opd.tmp 3), none⟩, ⟨some 21, AOp.bin
    (BinOp.add) (Opd.tmp 19) (Opd.tmp 20), none⟩, ⟨some 2, AOp.move (Opd.tmp 21), none⟩]) (ACode.seq (ACode.region [⟨some 22, AOp.move (Opd.tmp 1), none⟩, ⟨some 23, AOp.move (Opd.tmp 2), none⟩, ⟨some
    24, AOp.bin (BinOp.xor) (Opd.tmp 22) (Opd.tmp 23), none⟩, ⟨some 25, AOp.call (Opd.func 19) [Opd.tmp 24, Opd.const (V.int (IntKind.i64) 12)], none⟩, ⟨some 1, AOp.move (Opd.tmp 25), none⟩])
    (ACode.seq (ACode.region [⟨some 26, AOp.move (Opd.tmp 0), none⟩, ⟨some 27, AOp.move (Opd.tmp 1), none⟩, ⟨some 28, AOp.bin (BinOp.add) (Opd.tmp 26) (Opd.tmp 27), none⟩, ⟨some 0, AOp.move (Opd.tmp
    28), none⟩]) (ACode.seq (ACode.region [⟨some 29, AOp.move (Opd.tmp 3), none⟩, ⟨some 30, AOp.move (Opd.tmp 0), none⟩, ⟨some 31, AOp.bin (BinOp.xor) (Opd.tmp 29) (Opd.tmp 30), none⟩, ⟨some 32,
    AOp.call (Opd.func 19) [Opd.tmp 31, Opd.const (V.int (IntKind.i64) 8)], none⟩, ⟨some 3, AOp.move (Opd.tmp 32), none⟩]) (ACode.seq (ACode.region [⟨some 33, AOp.move (Opd.tmp 2), none⟩, ⟨some 34,
    AOp.move (Opd.tmp 3), none⟩, ⟨some 35, AOp.bin (BinOp.add) (Opd.tmp 33) (Opd.tmp 34), none⟩, ⟨some 2, AOp.move (Opd.tmp 35), none⟩]) (ACode.seq (ACode.region [⟨some 36, AOp.move (Opd.tmp 1),
    none⟩, ⟨some 37, AOp.move (Opd.tmp 2), none⟩, ⟨some 38, AOp.bin (BinOp.xor) (Opd.tmp 36) (Opd.tmp 37), none⟩, ⟨some 39, AOp.call (Opd.func 19) [Opd.tmp 38, Opd.const (V.int (IntKind.i64) 7)],
    none⟩, ⟨some 1, AOp.move (Opd.tmp 39), none⟩]) (ACode.seq (ACode.region [⟨some 40, AOp.move (Opd.tmp 0), none⟩, ⟨some 41, AOp.move (Opd.tmp 1), none⟩, ⟨some 42, AOp.move (Opd.tmp 2), none⟩, ⟨some
    43, AOp.move (Opd.tmp 3), none⟩, ⟨some 8, AOp.move (Opd.tmp 40), none⟩, ⟨some 9, AOp.move (Opd.tmp 41), none⟩, ⟨some 10, AOp.move (Opd.tmp 42), none⟩, ⟨some 11, AOp.move (Opd.tmp 43), none⟩])
    (ACode.ret))))))))))⟩
theorem h6 : compFn Tryd.prog Tryd.f6 = some c6 := by kernel_rfl
/-- Function 7: portholeref4.Quarter. -/
def c7 : AFn :=
  ⟨44, [ARes.tmp 8, ARes.tmp 9, ARes.tmp 10, ARes.tmp 11], ACode.seq (ACode.region [⟨some 8, AOp.move (Opd.const (V.int (IntKind.u32) 0)), none⟩, ⟨some 9, AOp.move (Opd.const (V.int (IntKind.u32) 0)),
    none⟩, ⟨some 10, AOp.move (Opd.const (V.int (IntKind.u32) 0)), none⟩, ⟨some 11, AOp.move (Opd.const (V.int (IntKind.u32) 0)), none⟩]) (ACode.seq (ACode.region [⟨some 12, AOp.move (Opd.tmp 0),
    none⟩, ⟨some 13, AOp.move (Opd.tmp 1), none⟩, ⟨some 14, AOp.bin (BinOp.add) (Opd.tmp 12) (Opd.tmp 13), none⟩, ⟨some 0, AOp.move (Opd.tmp 14), none⟩]) (ACode.seq (ACode.region [⟨some 15, AOp.move
    (Opd.tmp 3), none⟩, ⟨some 16, AOp.move (Opd.tmp 0), none⟩, ⟨some 17, AOp.bin (BinOp.xor) (Opd.tmp 15) (Opd.tmp 16), none⟩, ⟨some 18, AOp.call (Opd.func 20) [Opd.tmp 17, Opd.const (V.int
    (IntKind.u64) 16)], none⟩, ⟨some 3, AOp.move (Opd.tmp 18), none⟩]) (ACode.seq (ACode.region [⟨some 19, AOp.move (Opd.tmp 2), none⟩, ⟨some 20, AOp.move (Opd.tmp 3), none⟩, ⟨some 21, AOp.bin
    (BinOp.add) (Opd.tmp 19) (Opd.tmp 20), none⟩, ⟨some 2, AOp.move (Opd.tmp 21), none⟩]) (ACode.seq (ACode.region [⟨some 22, AOp.move (Opd.tmp 1), none⟩, ⟨some 23, AOp.move (Opd.tmp 2), none⟩, ⟨some
    24, AOp.bin (BinOp.xor) (Opd.tmp 22) (Opd.tmp 23), none⟩, ⟨some 25, AOp.call (Opd.func 20) [Opd.tmp 24, Opd.const (V.int (IntKind.u64) 12)], none⟩, ⟨some 1, AOp.move (Opd.tmp 25), none⟩])
    (ACode.seq (ACode.region [⟨some 26, AOp.move (Opd.tmp 0), none⟩, ⟨some 27, AOp.move (Opd.tmp 1), none⟩, ⟨some 28, AOp.bin (BinOp.add) (Opd.tmp 26) (Opd.tmp 27), none⟩, ⟨some 0, AOp.move (Opd.tmp
    28), none⟩]) (ACode.seq (ACode.region [⟨some 29, AOp.move (Opd.tmp 3), none⟩, ⟨some 30, AOp.move (Opd.tmp 0), none⟩, ⟨some 31, AOp.bin (BinOp.xor) (Opd.tmp 29) (Opd.tmp 30), none⟩, ⟨some 32,
    AOp.call (Opd.func 20) [Opd.tmp 31, Opd.const (V.int (IntKind.u64) 8)], none⟩, ⟨some 3, AOp.move (Opd.tmp 32), none⟩]) (ACode.seq (ACode.region [⟨some 33, AOp.move (Opd.tmp 2), none⟩, ⟨some 34,
    AOp.move (Opd.tmp 3), none⟩, ⟨some 35, AOp.bin (BinOp.add) (Opd.tmp 33) (Opd.tmp 34), none⟩, ⟨some 2, AOp.move (Opd.tmp 35), none⟩]) (ACode.seq (ACode.region [⟨some 36, AOp.move (Opd.tmp 1),
    none⟩, ⟨some 37, AOp.move (Opd.tmp 2), none⟩, ⟨some 38, AOp.bin (BinOp.xor) (Opd.tmp 36) (Opd.tmp 37), none⟩, ⟨some 39, AOp.call (Opd.func 20) [Opd.tmp 38, Opd.const (V.int (IntKind.u64) 7)],
    none⟩, ⟨some 1, AOp.move (Opd.tmp 39), none⟩]) (ACode.seq (ACode.region [⟨some 40, AOp.move (Opd.tmp 0), none⟩, ⟨some 41, AOp.move (Opd.tmp 1), none⟩, ⟨some 42, AOp.move (Opd.tmp 2), none⟩, ⟨some
    43, AOp.move (Opd.tmp 3), none⟩, ⟨some 8, AOp.move (Opd.tmp 40), none⟩, ⟨some 9, AOp.move (Opd.tmp 41), none⟩, ⟨some 10, AOp.move (Opd.tmp 42), none⟩, ⟨some 11, AOp.move (Opd.tmp 43), none⟩])
    (ACode.ret))))))))))⟩
theorem h7 : compFn Tryd.prog Tryd.f7 = some c7 := by kernel_rfl
/-- Function 8: portholelaw4.known. -/
def c8 : AFn :=
  ⟨25, [ARes.tmp 0], ACode.seq (ACode.region [⟨some 0, AOp.move (Opd.const (V.bool false)), none⟩]) (ACode.seq (ACode.region [⟨some 6, AOp.call (Opd.func 6) [Opd.const (V.int (IntKind.u32) 286331153),
    Opd.const (V.int (IntKind.u32) 16909060), Opd.const (V.int (IntKind.u32) 2609737539), Opd.const (V.int (IntKind.u32) 19088743)], none⟩, ⟨some 5, AOp.move (Opd.tmp 6), none⟩, ⟨some 7, AOp.extract
    (Opd.tmp 5) 0, none⟩, ⟨some 8, AOp.extract (Opd.tmp 5) 1, none⟩, ⟨some 9, AOp.extract (Opd.tmp 5) 2, none⟩, ⟨some 10, AOp.extract (Opd.tmp 5) 3, none⟩, ⟨some 1, AOp.move (Opd.tmp 7), none⟩, ⟨some
    2, AOp.move (Opd.tmp 8), none⟩, ⟨some 3, AOp.move (Opd.tmp 9), none⟩, ⟨some 4, AOp.move (Opd.tmp 10), none⟩]) (ACode.seq (ACode.region [⟨some 11, AOp.move (Opd.tmp 1), none⟩, ⟨some 12, AOp.bin
    (BinOp.eql) (Opd.tmp 11) (Opd.const (V.int (IntKind.u32) 3928658676)), none⟩, ⟨some 13, AOp.move (Opd.tmp 12), none⟩, ⟨some 14, AOp.move (Opd.tmp 2), some (13, true)⟩, ⟨some 15, AOp.bin
    (BinOp.eql) (Opd.tmp 14) (Opd.const (V.int (IntKind.u32) 3407673550)), some (13, true)⟩, ⟨some 16, AOp.pick (Opd.tmp 13) (Opd.tmp 15) (Opd.const (V.bool false)), none⟩, ⟨some 17, AOp.move (Opd.tmp
    16), none⟩, ⟨some 18, AOp.move (Opd.tmp 3), some (17, true)⟩, ⟨some 19, AOp.bin (BinOp.eql) (Opd.tmp 18) (Opd.const (V.int (IntKind.u32) 1166100270)), some (17, true)⟩, ⟨some 20, AOp.pick (Opd.tmp
    17) (Opd.tmp 19) (Opd.const (V.bool false)), none⟩, ⟨some 21, AOp.move (Opd.tmp 20), none⟩, ⟨some 22, AOp.move (Opd.tmp 4), some (21, true)⟩, ⟨some 23, AOp.bin (BinOp.eql) (Opd.tmp 22) (Opd.const
    (V.int (IntKind.u32) 1484899515)), some (21, true)⟩, ⟨some 24, AOp.pick (Opd.tmp 21) (Opd.tmp 23) (Opd.const (V.bool false)), none⟩, ⟨some 0, AOp.move (Opd.tmp 24), none⟩]) (ACode.ret)))⟩
theorem h8 : compFn Tryd.prog Tryd.f8 = some c8 := by kernel_rfl
/-- A loop of function 9. -/
def c9_l3 : ACode :=
  ACode.seq (ACode.region [⟨some 56, AOp.bin (BinOp.lss) (Opd.tmp 55) (Opd.const (V.int (IntKind.i64) 16)), none⟩]) (ACode.seq (ACode.cond (Opd.tmp 56) (ACode.skip) (ACode.exit 6)) (ACode.seq
    (ACode.block 7 (ACode.seq (ACode.region [⟨some 57, AOp.move (Opd.tmp 55), none⟩, ⟨some 13, AOp.move (Opd.tmp 57), none⟩]) (ACode.anyRegion [⟨some 58, AOp.move (Opd.tmp 13), none⟩, ⟨some 59,
    AOp.bin (BinOp.mul) (Opd.const (V.int (IntKind.i64) 4)) (Opd.tmp 58), none⟩, ⟨some 60, AOp.sliceArr 64 1 (Opd.tmp 12) (some (Opd.tmp 59)) none none, none⟩, ⟨some 61, AOp.move (Opd.tmp 13), none⟩,
    ⟨some 62, AOp.indexAddrA 16 1 (Opd.tmp 8) (Opd.tmp 61), none⟩, ⟨some 63, AOp.load (Opd.tmp 62), none⟩, ⟨some 64, AOp.move (Opd.tmp 13), none⟩, ⟨some 65, AOp.indexAddrA 16 1 (Opd.tmp 7) (Opd.tmp
    64), none⟩, ⟨some 66, AOp.load (Opd.tmp 65), none⟩, ⟨some 67, AOp.bin (BinOp.add) (Opd.tmp 63) (Opd.tmp 66), none⟩, ⟨some 68, AOp.call (Opd.func 23) [Opd.tmp 67], none⟩, ⟨some 69, AOp.copy 1
    (Opd.tmp 60) (Opd.tmp 68), none⟩] []))) (ACode.region [⟨some 70, AOp.bin (BinOp.add) (Opd.tmp 55) (Opd.const (V.int (IntKind.i64) 1)), none⟩, ⟨some 55, AOp.move (Opd.tmp 70), none⟩])))
theorem c9_l3_wr : c9_l3.wr = [56, 57, 13, 58, 59, 60, 61, 62, 63, 64, 65, 66, 67, 68, 69, 70, 55] := by kernel_rfl
/-- A loop of function 9. -/
def c9_l2 : ACode :=
  ACode.seq (ACode.region [⟨some 36, AOp.bin (BinOp.lss) (Opd.tmp 35) (Opd.const (V.int (IntKind.i64) 4)), none⟩]) (ACode.seq (ACode.cond (Opd.tmp 36) (ACode.skip) (ACode.exit 4)) (ACode.seq
    (ACode.block 5 (ACode.seq (ACode.region [⟨some 37, AOp.move (Opd.tmp 35), none⟩, ⟨some 11, AOp.move (Opd.tmp 37), none⟩]) (ACode.region [⟨some 38, AOp.move (Opd.tmp 9), none⟩, ⟨some 39, AOp.move
    (Opd.tmp 11), none⟩, ⟨some 40, AOp.move (Opd.tmp 11), none⟩, ⟨some 41, AOp.bin (BinOp.add) (Opd.tmp 40) (Opd.const (V.int (IntKind.i64) 1)), none⟩, ⟨some 42, AOp.bin (BinOp.rem) (Opd.tmp 41)
    (Opd.const (V.int (IntKind.i64) 4)), none⟩, ⟨some 43, AOp.bin (BinOp.add) (Opd.const (V.int (IntKind.i64) 4)) (Opd.tmp 42), none⟩, ⟨some 44, AOp.move (Opd.tmp 11), none⟩, ⟨some 45, AOp.bin
    (BinOp.add) (Opd.tmp 44) (Opd.const (V.int (IntKind.i64) 2)), none⟩, ⟨some 46, AOp.bin (BinOp.rem) (Opd.tmp 45) (Opd.const (V.int (IntKind.i64) 4)), none⟩, ⟨some 47, AOp.bin (BinOp.add) (Opd.const
    (V.int (IntKind.i64) 8)) (Opd.tmp 46), none⟩, ⟨some 48, AOp.move (Opd.tmp 11), none⟩, ⟨some 49, AOp.bin (BinOp.add) (Opd.tmp 48) (Opd.const (V.int (IntKind.i64) 3)), none⟩, ⟨some 50, AOp.bin
    (BinOp.rem) (Opd.tmp 49) (Opd.const (V.int (IntKind.i64) 4)), none⟩, ⟨some 51, AOp.bin (BinOp.add) (Opd.const (V.int (IntKind.i64) 12)) (Opd.tmp 50), none⟩, ⟨some 52, AOp.call (Opd.tmp 38)
    [Opd.tmp 39, Opd.tmp 43, Opd.tmp 47, Opd.tmp 51], none⟩]))) (ACode.region [⟨some 53, AOp.bin (BinOp.add) (Opd.tmp 35) (Opd.const (V.int (IntKind.i64) 1)), none⟩, ⟨some 35, AOp.move (Opd.tmp 53),
    none⟩])))
theorem c9_l2_wr : c9_l2.wr = [36, 37, 11, 38, 39, 40, 41, 42, 43, 44, 45, 46, 47, 48, 49, 50, 51, 52, 53, 35] := by kernel_rfl
/-- A loop of function 9. -/
def c9_l1 : ACode :=
  ACode.seq (ACode.region [⟨some 23, AOp.bin (BinOp.lss) (Opd.tmp 22) (Opd.const (V.int (IntKind.i64) 4)), none⟩]) (ACode.seq (ACode.cond (Opd.tmp 23) (ACode.skip) (ACode.exit 2)) (ACode.seq
    (ACode.block 3 (ACode.seq (ACode.region [⟨some 24, AOp.move (Opd.tmp 22), none⟩, ⟨some 10, AOp.move (Opd.tmp 24), none⟩]) (ACode.region [⟨some 25, AOp.move (Opd.tmp 9), none⟩, ⟨some 26, AOp.move
    (Opd.tmp 10), none⟩, ⟨some 27, AOp.move (Opd.tmp 10), none⟩, ⟨some 28, AOp.bin (BinOp.add) (Opd.const (V.int (IntKind.i64) 4)) (Opd.tmp 27), none⟩, ⟨some 29, AOp.move (Opd.tmp 10), none⟩, ⟨some
    30, AOp.bin (BinOp.add) (Opd.const (V.int (IntKind.i64) 8)) (Opd.tmp 29), none⟩, ⟨some 31, AOp.move (Opd.tmp 10), none⟩, ⟨some 32, AOp.bin (BinOp.add) (Opd.const (V.int (IntKind.i64) 12)) (Opd.tmp
    31), none⟩, ⟨some 33, AOp.call (Opd.tmp 25) [Opd.tmp 26, Opd.tmp 28, Opd.tmp 30, Opd.tmp 32], none⟩]))) (ACode.region [⟨some 34, AOp.bin (BinOp.add) (Opd.tmp 22) (Opd.const (V.int (IntKind.i64)
    1)), none⟩, ⟨some 22, AOp.move (Opd.tmp 34), none⟩])))
theorem c9_l1_wr : c9_l1.wr = [23, 24, 10, 25, 26, 27, 28, 29, 30, 31, 32, 33, 34, 22] := by kernel_rfl
/-- A loop of function 9. -/
def c9_l0 : ACode :=
  ACode.seq (ACode.region [⟨some 21, AOp.bin (BinOp.lss) (Opd.tmp 20) (Opd.const (V.int (IntKind.i64) 10)), none⟩]) (ACode.seq (ACode.cond (Opd.tmp 21) (ACode.skip) (ACode.exit 0)) (ACode.seq
    (ACode.block 1 (ACode.seq (ACode.seq (ACode.region [⟨some 22, AOp.move (Opd.const (V.int (IntKind.i64) 0)), none⟩]) (ACode.block 2 (ACode.loop c9_l1))) (ACode.seq (ACode.region [⟨some 35, AOp.move
    (Opd.const (V.int (IntKind.i64) 0)), none⟩]) (ACode.block 4 (ACode.loop c9_l2))))) (ACode.region [⟨some 54, AOp.bin (BinOp.add) (Opd.tmp 20) (Opd.const (V.int (IntKind.i64) 1)), none⟩, ⟨some 20,
    AOp.move (Opd.tmp 54), none⟩])))
theorem c9_l0_wr : c9_l0.wr = [21, 22, 23, 24, 10, 25, 26, 27, 28, 29, 30, 31, 32, 33, 34, 22, 35, 36, 37, 11, 38, 39, 40, 41, 42, 43, 44, 45, 46, 47, 48, 49, 50, 51, 52, 53, 35, 54, 20] := by kernel_rfl
/-- Function 9: chacha.Block. -/
def c9 : AFn :=
  ⟨72, [ARes.cells 6 64], ACode.seq (ACode.region [⟨some 3, AOp.boxv 22 1 (Opd.tmp 0), none⟩, ⟨some 5, AOp.boxv 24 1 (Opd.tmp 2), none⟩, ⟨some 6, AOp.box 28 1 [V.int (IntKind.u8) 0, V.int (IntKind.u8)
    0, V.int (IntKind.u8) 0, V.int (IntKind.u8) 0, V.int (IntKind.u8) 0, V.int (IntKind.u8) 0, V.int (IntKind.u8) 0, V.int (IntKind.u8) 0, V.int (IntKind.u8) 0, V.int (IntKind.u8) 0, V.int
    (IntKind.u8) 0, V.int (IntKind.u8) 0, V.int (IntKind.u8) 0, V.int (IntKind.u8) 0, V.int (IntKind.u8) 0, V.int (IntKind.u8) 0, V.int (IntKind.u8) 0, V.int (IntKind.u8) 0, V.int (IntKind.u8) 0,
    V.int (IntKind.u8) 0, V.int (IntKind.u8) 0, V.int (IntKind.u8) 0, V.int (IntKind.u8) 0, V.int (IntKind.u8) 0, V.int (IntKind.u8) 0, V.int (IntKind.u8) 0, V.int (IntKind.u8) 0, V.int (IntKind.u8)
    0, V.int (IntKind.u8) 0, V.int (IntKind.u8) 0, V.int (IntKind.u8) 0, V.int (IntKind.u8) 0, V.int (IntKind.u8) 0, V.int (IntKind.u8) 0, V.int (IntKind.u8) 0, V.int (IntKind.u8) 0, V.int
    (IntKind.u8) 0, V.int (IntKind.u8) 0, V.int (IntKind.u8) 0, V.int (IntKind.u8) 0, V.int (IntKind.u8) 0, V.int (IntKind.u8) 0, V.int (IntKind.u8) 0, V.int (IntKind.u8) 0, V.int (IntKind.u8) 0,
    V.int (IntKind.u8) 0, V.int (IntKind.u8) 0, V.int (IntKind.u8) 0, V.int (IntKind.u8) 0, V.int (IntKind.u8) 0, V.int (IntKind.u8) 0, V.int (IntKind.u8) 0, V.int (IntKind.u8) 0, V.int (IntKind.u8)
    0, V.int (IntKind.u8) 0, V.int (IntKind.u8) 0, V.int (IntKind.u8) 0, V.int (IntKind.u8) 0, V.int (IntKind.u8) 0, V.int (IntKind.u8) 0, V.int (IntKind.u8) 0, V.int (IntKind.u8) 0, V.int
    (IntKind.u8) 0, V.int (IntKind.u8) 0], none⟩]) (ACode.seq (ACode.region [⟨some 14, AOp.loadn 32 (Opd.tmp 3), none⟩, ⟨some 15, AOp.move (Opd.tmp 1), none⟩, ⟨some 16, AOp.loadn 12 (Opd.tmp 5),
    none⟩, ⟨some 17, AOp.call (Opd.func 21) [Opd.tmp 14, Opd.tmp 15, Opd.tmp 16], none⟩, ⟨some 7, AOp.box 43 1 [V.int (IntKind.u32) 0, V.int (IntKind.u32) 0, V.int (IntKind.u32) 0, V.int (IntKind.u32)
    0, V.int (IntKind.u32) 0, V.int (IntKind.u32) 0, V.int (IntKind.u32) 0, V.int (IntKind.u32) 0, V.int (IntKind.u32) 0, V.int (IntKind.u32) 0, V.int (IntKind.u32) 0, V.int (IntKind.u32) 0, V.int
    (IntKind.u32) 0, V.int (IntKind.u32) 0, V.int (IntKind.u32) 0, V.int (IntKind.u32) 0], none⟩, ⟨none, AOp.store 16 (Opd.tmp 7) (Opd.tmp 17), none⟩]) (ACode.seq (ACode.region [⟨some 18, AOp.loadn 16
    (Opd.tmp 7), none⟩, ⟨some 8, AOp.box 43 1 [V.int (IntKind.u32) 0, V.int (IntKind.u32) 0, V.int (IntKind.u32) 0, V.int (IntKind.u32) 0, V.int (IntKind.u32) 0, V.int (IntKind.u32) 0, V.int
    (IntKind.u32) 0, V.int (IntKind.u32) 0, V.int (IntKind.u32) 0, V.int (IntKind.u32) 0, V.int (IntKind.u32) 0, V.int (IntKind.u32) 0, V.int (IntKind.u32) 0, V.int (IntKind.u32) 0, V.int
    (IntKind.u32) 0, V.int (IntKind.u32) 0], none⟩, ⟨none, AOp.store 16 (Opd.tmp 8) (Opd.tmp 18), none⟩]) (ACode.seq (ACode.region [⟨some 19, AOp.mkFunc 22 [] [Opd.tmp 8], none⟩, ⟨some 9, AOp.move
    (Opd.tmp 19), none⟩]) (ACode.seq (ACode.seq (ACode.region [⟨some 20, AOp.move (Opd.const (V.int (IntKind.i64) 0)), none⟩]) (ACode.block 0 (ACode.loop c9_l0))) (ACode.seq (ACode.region [⟨some 12,
    AOp.box 28 1 [V.int (IntKind.u8) 0, V.int (IntKind.u8) 0, V.int (IntKind.u8) 0, V.int (IntKind.u8) 0, V.int (IntKind.u8) 0, V.int (IntKind.u8) 0, V.int (IntKind.u8) 0, V.int (IntKind.u8) 0, V.int
    (IntKind.u8) 0, V.int (IntKind.u8) 0, V.int (IntKind.u8) 0, V.int (IntKind.u8) 0, V.int (IntKind.u8) 0, V.int (IntKind.u8) 0, V.int (IntKind.u8) 0, V.int (IntKind.u8) 0, V.int (IntKind.u8) 0,
    V.int (IntKind.u8) 0, V.int (IntKind.u8) 0, V.int (IntKind.u8) 0, V.int (IntKind.u8) 0, V.int (IntKind.u8) 0, V.int (IntKind.u8) 0, V.int (IntKind.u8) 0, V.int (IntKind.u8) 0, V.int (IntKind.u8)
    0, V.int (IntKind.u8) 0, V.int (IntKind.u8) 0, V.int (IntKind.u8) 0, V.int (IntKind.u8) 0, V.int (IntKind.u8) 0, V.int (IntKind.u8) 0, V.int (IntKind.u8) 0, V.int (IntKind.u8) 0, V.int
    (IntKind.u8) 0, V.int (IntKind.u8) 0, V.int (IntKind.u8) 0, V.int (IntKind.u8) 0, V.int (IntKind.u8) 0, V.int (IntKind.u8) 0, V.int (IntKind.u8) 0, V.int (IntKind.u8) 0, V.int (IntKind.u8) 0,
    V.int (IntKind.u8) 0, V.int (IntKind.u8) 0, V.int (IntKind.u8) 0, V.int (IntKind.u8) 0, V.int (IntKind.u8) 0, V.int (IntKind.u8) 0, V.int (IntKind.u8) 0, V.int (IntKind.u8) 0, V.int (IntKind.u8)
    0, V.int (IntKind.u8) 0, V.int (IntKind.u8) 0, V.int (IntKind.u8) 0, V.int (IntKind.u8) 0, V.int (IntKind.u8) 0, V.int (IntKind.u8) 0, V.int (IntKind.u8) 0, V.int (IntKind.u8) 0, V.int
    (IntKind.u8) 0, V.int (IntKind.u8) 0, V.int (IntKind.u8) 0, V.int (IntKind.u8) 0], none⟩]) (ACode.seq (ACode.seq (ACode.region [⟨some 55, AOp.move (Opd.const (V.int (IntKind.i64) 0)), none⟩])
    (ACode.block 6 (ACode.loop c9_l3))) (ACode.seq (ACode.region [⟨some 71, AOp.loadn 64 (Opd.tmp 12), none⟩, ⟨none, AOp.store 64 (Opd.tmp 6) (Opd.tmp 71), none⟩]) (ACode.ret))))))))⟩
theorem h9 : compFn Tryd.prog Tryd.f9 = some c9 := by kernel_rfl
/-- A loop of function 10. -/
def c10_l5 : ACode :=
  ACode.seq (ACode.seq (ACode.region [⟨some 110, AOp.move (Opd.tmp 17), none⟩, ⟨some 111, AOp.bin (BinOp.lss) (Opd.tmp 110) (Opd.const (V.int (IntKind.i64) 4)), none⟩]) (ACode.cond (Opd.tmp 111)
    (ACode.skip) (ACode.exit 10))) (ACode.seq (ACode.block 11 (ACode.region [⟨some 114, AOp.move (Opd.tmp 15), none⟩, ⟨some 115, AOp.bin (BinOp.mul) (Opd.const (V.int (IntKind.i64) 4)) (Opd.tmp 114),
    none⟩, ⟨some 116, AOp.move (Opd.tmp 17), none⟩, ⟨some 117, AOp.bin (BinOp.add) (Opd.tmp 115) (Opd.tmp 116), none⟩, ⟨some 118, AOp.move (Opd.tmp 16), none⟩, ⟨some 119, AOp.move (Opd.tmp 17), none⟩,
    ⟨some 120, AOp.indexAddrS 1 (Opd.tmp 118) (Opd.tmp 119), none⟩, ⟨some 121, AOp.load (Opd.tmp 120), none⟩, ⟨some 122, AOp.indexAddrA 64 1 (Opd.tmp 14) (Opd.tmp 117), none⟩, ⟨none, AOp.store 1
    (Opd.tmp 122) (Opd.tmp 121), none⟩])) (ACode.region [⟨some 112, AOp.move (Opd.tmp 17), none⟩, ⟨some 113, AOp.bin (BinOp.add) (Opd.tmp 112) (Opd.const (V.int (IntKind.i64) 1)), none⟩, ⟨some 17,
    AOp.move (Opd.tmp 113), none⟩]))
theorem c10_l5_wr : c10_l5.wr = [110, 111, 114, 115, 116, 117, 118, 119, 120, 121, 122, 112, 113, 17] := by kernel_rfl
/-- A loop of function 10. -/
def c10_l4 : ACode :=
  ACode.seq (ACode.seq (ACode.region [⟨some 98, AOp.move (Opd.tmp 15), none⟩, ⟨some 99, AOp.bin (BinOp.lss) (Opd.tmp 98) (Opd.const (V.int (IntKind.i64) 16)), none⟩]) (ACode.cond (Opd.tmp 99)
    (ACode.skip) (ACode.exit 8))) (ACode.seq (ACode.block 9 (ACode.seq (ACode.anyRegion [⟨some 102, AOp.move (Opd.tmp 15), none⟩, ⟨some 103, AOp.indexAddrA 16 1 (Opd.tmp 10) (Opd.tmp 102), none⟩,
    ⟨some 104, AOp.load (Opd.tmp 103), none⟩, ⟨some 105, AOp.move (Opd.tmp 15), none⟩, ⟨some 106, AOp.indexAddrA 16 1 (Opd.tmp 7) (Opd.tmp 105), none⟩, ⟨some 107, AOp.load (Opd.tmp 106), none⟩, ⟨some
    108, AOp.bin (BinOp.add) (Opd.tmp 104) (Opd.tmp 107), none⟩, ⟨some 109, AOp.call (Opd.func 25) [Opd.tmp 108], none⟩, ⟨some 16, AOp.move (Opd.tmp 109), none⟩] []) (ACode.seq (ACode.region [⟨some
    17, AOp.move (Opd.const (V.int (IntKind.i64) 0)), none⟩]) (ACode.block 10 (ACode.loop c10_l5))))) (ACode.region [⟨some 100, AOp.move (Opd.tmp 15), none⟩, ⟨some 101, AOp.bin (BinOp.add) (Opd.tmp
    100) (Opd.const (V.int (IntKind.i64) 1)), none⟩, ⟨some 15, AOp.move (Opd.tmp 101), none⟩]))
theorem c10_l4_wr : c10_l4.wr = [98, 99, 102, 103, 104, 105, 106, 107, 108, 109, 16, 17, 110, 111, 114, 115, 116, 117, 118, 119, 120, 121, 122, 112, 113, 17, 100, 101, 15] := by kernel_rfl
/-- A loop of function 10. -/
def c10_l3 : ACode :=
  ACode.seq (ACode.seq (ACode.region [⟨some 57, AOp.move (Opd.tmp 12), none⟩, ⟨some 58, AOp.bin (BinOp.lss) (Opd.tmp 57) (Opd.const (V.int (IntKind.i64) 8)), none⟩]) (ACode.cond (Opd.tmp 58)
    (ACode.skip) (ACode.exit 6))) (ACode.seq (ACode.block 7 (ACode.seq (ACode.region [⟨some 61, AOp.move (Opd.tmp 12), none⟩, ⟨some 62, AOp.indexAddrA 8 4 (Opd.glob 0) (Opd.tmp 61), none⟩, ⟨some 63,
    AOp.loadn 4 (Opd.tmp 62), none⟩, ⟨some 13, AOp.box 48 1 [V.int (IntKind.i64) 0, V.int (IntKind.i64) 0, V.int (IntKind.i64) 0, V.int (IntKind.i64) 0], none⟩, ⟨none, AOp.store 4 (Opd.tmp 13)
    (Opd.tmp 63), none⟩]) (ACode.anyRegion [⟨some 65, AOp.indexAddrA 4 1 (Opd.tmp 13) (Opd.const (V.int (IntKind.i64) 0)), none⟩, ⟨some 66, AOp.load (Opd.tmp 65), none⟩, ⟨some 67, AOp.indexAddrA 4 1
    (Opd.tmp 13) (Opd.const (V.int (IntKind.i64) 1)), none⟩, ⟨some 68, AOp.load (Opd.tmp 67), none⟩, ⟨some 69, AOp.indexAddrA 4 1 (Opd.tmp 13) (Opd.const (V.int (IntKind.i64) 2)), none⟩, ⟨some 70,
    AOp.load (Opd.tmp 69), none⟩, ⟨some 71, AOp.indexAddrA 4 1 (Opd.tmp 13) (Opd.const (V.int (IntKind.i64) 3)), none⟩, ⟨some 72, AOp.load (Opd.tmp 71), none⟩, ⟨some 73, AOp.indexAddrA 4 1 (Opd.tmp
    13) (Opd.const (V.int (IntKind.i64) 0)), none⟩, ⟨some 74, AOp.load (Opd.tmp 73), none⟩, ⟨some 75, AOp.indexAddrA 16 1 (Opd.tmp 10) (Opd.tmp 74), none⟩, ⟨some 76, AOp.load (Opd.tmp 75), none⟩,
    ⟨some 77, AOp.indexAddrA 4 1 (Opd.tmp 13) (Opd.const (V.int (IntKind.i64) 1)), none⟩, ⟨some 78, AOp.load (Opd.tmp 77), none⟩, ⟨some 79, AOp.indexAddrA 16 1 (Opd.tmp 10) (Opd.tmp 78), none⟩, ⟨some
    80, AOp.load (Opd.tmp 79), none⟩, ⟨some 81, AOp.indexAddrA 4 1 (Opd.tmp 13) (Opd.const (V.int (IntKind.i64) 2)), none⟩, ⟨some 82, AOp.load (Opd.tmp 81), none⟩, ⟨some 83, AOp.indexAddrA 16 1
    (Opd.tmp 10) (Opd.tmp 82), none⟩, ⟨some 84, AOp.load (Opd.tmp 83), none⟩, ⟨some 85, AOp.indexAddrA 4 1 (Opd.tmp 13) (Opd.const (V.int (IntKind.i64) 3)), none⟩, ⟨some 86, AOp.load (Opd.tmp 85),
    none⟩, ⟨some 87, AOp.indexAddrA 16 1 (Opd.tmp 10) (Opd.tmp 86), none⟩, ⟨some 88, AOp.load (Opd.tmp 87), none⟩, ⟨some 89, AOp.call (Opd.func 7) [Opd.tmp 76, Opd.tmp 80, Opd.tmp 84, Opd.tmp 88],
    none⟩, ⟨some 64, AOp.move (Opd.tmp 89), none⟩, ⟨some 90, AOp.extract (Opd.tmp 64) 0, none⟩, ⟨some 91, AOp.extract (Opd.tmp 64) 1, none⟩, ⟨some 92, AOp.extract (Opd.tmp 64) 2, none⟩, ⟨some 93,
    AOp.extract (Opd.tmp 64) 3, none⟩, ⟨some 94, AOp.indexAddrA 16 1 (Opd.tmp 10) (Opd.tmp 66), none⟩, ⟨none, AOp.store 1 (Opd.tmp 94) (Opd.tmp 90), none⟩, ⟨some 95, AOp.indexAddrA 16 1 (Opd.tmp 10)
    (Opd.tmp 68), none⟩, ⟨none, AOp.store 1 (Opd.tmp 95) (Opd.tmp 91), none⟩, ⟨some 96, AOp.indexAddrA 16 1 (Opd.tmp 10) (Opd.tmp 70), none⟩, ⟨none, AOp.store 1 (Opd.tmp 96) (Opd.tmp 92), none⟩, ⟨some
    97, AOp.indexAddrA 16 1 (Opd.tmp 10) (Opd.tmp 72), none⟩, ⟨none, AOp.store 1 (Opd.tmp 97) (Opd.tmp 93), none⟩] [(1, 25), (3, 25), (3, 32), (5, 25), (5, 32), (5, 34), (7, 25), (7, 32), (7, 34), (7,
    36)]))) (ACode.region [⟨some 59, AOp.move (Opd.tmp 12), none⟩, ⟨some 60, AOp.bin (BinOp.add) (Opd.tmp 59) (Opd.const (V.int (IntKind.i64) 1)), none⟩, ⟨some 12, AOp.move (Opd.tmp 60), none⟩]))
theorem c10_l3_wr : c10_l3.wr = [57, 58, 61, 62, 63, 13, 65, 66, 67, 68, 69, 70, 71, 72, 73, 74, 75, 76, 77, 78, 79, 80, 81, 82, 83, 84, 85, 86, 87, 88, 89, 64, 90, 91, 92, 93, 94, 95, 96, 97, 59, 60, 12] := by kernel_rfl
/-- A loop of function 10. -/
def c10_l2 : ACode :=
  ACode.seq (ACode.seq (ACode.region [⟨some 53, AOp.move (Opd.tmp 11), none⟩, ⟨some 54, AOp.bin (BinOp.lss) (Opd.tmp 53) (Opd.const (V.int (IntKind.i64) 10)), none⟩]) (ACode.cond (Opd.tmp 54)
    (ACode.skip) (ACode.exit 4))) (ACode.seq (ACode.block 5 (ACode.seq (ACode.region [⟨some 12, AOp.move (Opd.const (V.int (IntKind.i64) 0)), none⟩]) (ACode.block 6 (ACode.loop c10_l3))))
    (ACode.region [⟨some 55, AOp.move (Opd.tmp 11), none⟩, ⟨some 56, AOp.bin (BinOp.add) (Opd.tmp 55) (Opd.const (V.int (IntKind.i64) 1)), none⟩, ⟨some 11, AOp.move (Opd.tmp 56), none⟩]))
theorem c10_l2_wr : c10_l2.wr = [53, 54, 12, 57, 58, 61, 62, 63, 13, 65, 66, 67, 68, 69, 70, 71, 72, 73, 74, 75, 76, 77, 78, 79, 80, 81, 82, 83, 84, 85, 86, 87, 88, 89, 64, 90, 91, 92, 93, 94, 95, 96, 97, 59, 60, 12, 55, 56, 11] := by kernel_rfl
/-- A loop of function 10. -/
def c10_l1 : ACode :=
  ACode.seq (ACode.seq (ACode.region [⟨some 38, AOp.move (Opd.tmp 9), none⟩, ⟨some 39, AOp.bin (BinOp.lss) (Opd.tmp 38) (Opd.const (V.int (IntKind.i64) 3)), none⟩]) (ACode.cond (Opd.tmp 39)
    (ACode.skip) (ACode.exit 2))) (ACode.seq (ACode.block 3 (ACode.region [⟨some 42, AOp.move (Opd.tmp 9), none⟩, ⟨some 43, AOp.bin (BinOp.add) (Opd.const (V.int (IntKind.i64) 13)) (Opd.tmp 42),
    none⟩, ⟨some 44, AOp.move (Opd.tmp 9), none⟩, ⟨some 45, AOp.bin (BinOp.mul) (Opd.const (V.int (IntKind.i64) 4)) (Opd.tmp 44), none⟩, ⟨some 46, AOp.move (Opd.tmp 9), none⟩, ⟨some 47, AOp.bin
    (BinOp.mul) (Opd.const (V.int (IntKind.i64) 4)) (Opd.tmp 46), none⟩, ⟨some 48, AOp.bin (BinOp.add) (Opd.tmp 47) (Opd.const (V.int (IntKind.i64) 4)), none⟩, ⟨some 49, AOp.sliceArr 12 1 (Opd.tmp 5)
    (some (Opd.tmp 45)) (some (Opd.tmp 48)) none, none⟩, ⟨some 50, AOp.call (Opd.func 24) [Opd.tmp 49], none⟩, ⟨some 51, AOp.indexAddrA 16 1 (Opd.tmp 7) (Opd.tmp 43), none⟩, ⟨none, AOp.store 1
    (Opd.tmp 51) (Opd.tmp 50), none⟩])) (ACode.region [⟨some 40, AOp.move (Opd.tmp 9), none⟩, ⟨some 41, AOp.bin (BinOp.add) (Opd.tmp 40) (Opd.const (V.int (IntKind.i64) 1)), none⟩, ⟨some 9, AOp.move
    (Opd.tmp 41), none⟩]))
theorem c10_l1_wr : c10_l1.wr = [38, 39, 42, 43, 44, 45, 46, 47, 48, 49, 50, 51, 40, 41, 9] := by kernel_rfl
/-- A loop of function 10. -/
def c10_l0 : ACode :=
  ACode.seq (ACode.seq (ACode.region [⟨some 22, AOp.move (Opd.tmp 8), none⟩, ⟨some 23, AOp.bin (BinOp.lss) (Opd.tmp 22) (Opd.const (V.int (IntKind.i64) 8)), none⟩]) (ACode.cond (Opd.tmp 23)
    (ACode.skip) (ACode.exit 0))) (ACode.seq (ACode.block 1 (ACode.region [⟨some 26, AOp.move (Opd.tmp 8), none⟩, ⟨some 27, AOp.bin (BinOp.add) (Opd.const (V.int (IntKind.i64) 4)) (Opd.tmp 26), none⟩,
    ⟨some 28, AOp.move (Opd.tmp 8), none⟩, ⟨some 29, AOp.bin (BinOp.mul) (Opd.const (V.int (IntKind.i64) 4)) (Opd.tmp 28), none⟩, ⟨some 30, AOp.move (Opd.tmp 8), none⟩, ⟨some 31, AOp.bin (BinOp.mul)
    (Opd.const (V.int (IntKind.i64) 4)) (Opd.tmp 30), none⟩, ⟨some 32, AOp.bin (BinOp.add) (Opd.tmp 31) (Opd.const (V.int (IntKind.i64) 4)), none⟩, ⟨some 33, AOp.sliceArr 32 1 (Opd.tmp 3) (some
    (Opd.tmp 29)) (some (Opd.tmp 32)) none, none⟩, ⟨some 34, AOp.call (Opd.func 24) [Opd.tmp 33], none⟩, ⟨some 35, AOp.indexAddrA 16 1 (Opd.tmp 7) (Opd.tmp 27), none⟩, ⟨none, AOp.store 1 (Opd.tmp 35)
    (Opd.tmp 34), none⟩])) (ACode.region [⟨some 24, AOp.move (Opd.tmp 8), none⟩, ⟨some 25, AOp.bin (BinOp.add) (Opd.tmp 24) (Opd.const (V.int (IntKind.i64) 1)), none⟩, ⟨some 8, AOp.move (Opd.tmp 25),
    none⟩]))
theorem c10_l0_wr : c10_l0.wr = [22, 23, 26, 27, 28, 29, 30, 31, 32, 33, 34, 35, 24, 25, 8] := by kernel_rfl
/-- Function 10: portholeref4.Block. -/
def c10 : AFn :=
  ⟨124, [ARes.cells 6 64], ACode.seq (ACode.region [⟨some 3, AOp.boxv 22 1 (Opd.tmp 0), none⟩, ⟨some 5, AOp.boxv 24 1 (Opd.tmp 2), none⟩, ⟨some 6, AOp.box 28 1 [V.int (IntKind.u8) 0, V.int
    (IntKind.u8) 0, V.int (IntKind.u8) 0, V.int (IntKind.u8) 0, V.int (IntKind.u8) 0, V.int (IntKind.u8) 0, V.int (IntKind.u8) 0, V.int (IntKind.u8) 0, V.int (IntKind.u8) 0, V.int (IntKind.u8) 0,
    V.int (IntKind.u8) 0, V.int (IntKind.u8) 0, V.int (IntKind.u8) 0, V.int (IntKind.u8) 0, V.int (IntKind.u8) 0, V.int (IntKind.u8) 0, V.int (IntKind.u8) 0, V.int (IntKind.u8) 0, V.int (IntKind.u8)
    0, V.int (IntKind.u8) 0, V.int (IntKind.u8) 0, V.int (IntKind.u8) 0, V.int (IntKind.u8) 0, V.int (IntKind.u8) 0, V.int (IntKind.u8) 0, V.int (IntKind.u8) 0, V.int (IntKind.u8) 0, V.int
    (IntKind.u8) 0, V.int (IntKind.u8) 0, V.int (IntKind.u8) 0, V.int (IntKind.u8) 0, V.int (IntKind.u8) 0, V.int (IntKind.u8) 0, V.int (IntKind.u8) 0, V.int (IntKind.u8) 0, V.int (IntKind.u8) 0,
    V.int (IntKind.u8) 0, V.int (IntKind.u8) 0, V.int (IntKind.u8) 0, V.int (IntKind.u8) 0, V.int (IntKind.u8) 0, V.int (IntKind.u8) 0, V.int (IntKind.u8) 0, V.int (IntKind.u8) 0, V.int (IntKind.u8)
    0, V.int (IntKind.u8) 0, V.int (IntKind.u8) 0, V.int (IntKind.u8) 0, V.int (IntKind.u8) 0, V.int (IntKind.u8) 0, V.int (IntKind.u8) 0, V.int (IntKind.u8) 0, V.int (IntKind.u8) 0, V.int
    (IntKind.u8) 0, V.int (IntKind.u8) 0, V.int (IntKind.u8) 0, V.int (IntKind.u8) 0, V.int (IntKind.u8) 0, V.int (IntKind.u8) 0, V.int (IntKind.u8) 0, V.int (IntKind.u8) 0, V.int (IntKind.u8) 0,
    V.int (IntKind.u8) 0, V.int (IntKind.u8) 0], none⟩]) (ACode.seq (ACode.region [⟨some 7, AOp.box 43 1 [V.int (IntKind.u32) 0, V.int (IntKind.u32) 0, V.int (IntKind.u32) 0, V.int (IntKind.u32) 0,
    V.int (IntKind.u32) 0, V.int (IntKind.u32) 0, V.int (IntKind.u32) 0, V.int (IntKind.u32) 0, V.int (IntKind.u32) 0, V.int (IntKind.u32) 0, V.int (IntKind.u32) 0, V.int (IntKind.u32) 0, V.int
    (IntKind.u32) 0, V.int (IntKind.u32) 0, V.int (IntKind.u32) 0, V.int (IntKind.u32) 0], none⟩]) (ACode.seq (ACode.region [⟨some 18, AOp.indexAddrA 16 1 (Opd.tmp 7) (Opd.const (V.int (IntKind.i64)
    0)), none⟩, ⟨none, AOp.store 1 (Opd.tmp 18) (Opd.const (V.int (IntKind.u32) 1634760805)), none⟩]) (ACode.seq (ACode.region [⟨some 19, AOp.indexAddrA 16 1 (Opd.tmp 7) (Opd.const (V.int
    (IntKind.i64) 1)), none⟩, ⟨none, AOp.store 1 (Opd.tmp 19) (Opd.const (V.int (IntKind.u32) 857760878)), none⟩]) (ACode.seq (ACode.region [⟨some 20, AOp.indexAddrA 16 1 (Opd.tmp 7) (Opd.const (V.int
    (IntKind.i64) 2)), none⟩, ⟨none, AOp.store 1 (Opd.tmp 20) (Opd.const (V.int (IntKind.u32) 2036477234)), none⟩]) (ACode.seq (ACode.region [⟨some 21, AOp.indexAddrA 16 1 (Opd.tmp 7) (Opd.const
    (V.int (IntKind.i64) 3)), none⟩, ⟨none, AOp.store 1 (Opd.tmp 21) (Opd.const (V.int (IntKind.u32) 1797285236)), none⟩]) (ACode.seq (ACode.seq (ACode.region [⟨some 8, AOp.move (Opd.const (V.int
    (IntKind.i64) 0)), none⟩]) (ACode.block 0 (ACode.loop c10_l0))) (ACode.seq (ACode.region [⟨some 36, AOp.move (Opd.tmp 1), none⟩, ⟨some 37, AOp.indexAddrA 16 1 (Opd.tmp 7) (Opd.const (V.int
    (IntKind.i64) 12)), none⟩, ⟨none, AOp.store 1 (Opd.tmp 37) (Opd.tmp 36), none⟩]) (ACode.seq (ACode.seq (ACode.region [⟨some 9, AOp.move (Opd.const (V.int (IntKind.i64) 0)), none⟩]) (ACode.block 2
    (ACode.loop c10_l1))) (ACode.seq (ACode.region [⟨some 52, AOp.loadn 16 (Opd.tmp 7), none⟩, ⟨some 10, AOp.box 43 1 [V.int (IntKind.u32) 0, V.int (IntKind.u32) 0, V.int (IntKind.u32) 0, V.int
    (IntKind.u32) 0, V.int (IntKind.u32) 0, V.int (IntKind.u32) 0, V.int (IntKind.u32) 0, V.int (IntKind.u32) 0, V.int (IntKind.u32) 0, V.int (IntKind.u32) 0, V.int (IntKind.u32) 0, V.int
    (IntKind.u32) 0, V.int (IntKind.u32) 0, V.int (IntKind.u32) 0, V.int (IntKind.u32) 0, V.int (IntKind.u32) 0], none⟩, ⟨none, AOp.store 16 (Opd.tmp 10) (Opd.tmp 52), none⟩]) (ACode.seq (ACode.seq
    (ACode.region [⟨some 11, AOp.move (Opd.const (V.int (IntKind.i64) 0)), none⟩]) (ACode.block 4 (ACode.loop c10_l2))) (ACode.seq (ACode.region [⟨some 14, AOp.box 28 1 [V.int (IntKind.u8) 0, V.int
    (IntKind.u8) 0, V.int (IntKind.u8) 0, V.int (IntKind.u8) 0, V.int (IntKind.u8) 0, V.int (IntKind.u8) 0, V.int (IntKind.u8) 0, V.int (IntKind.u8) 0, V.int (IntKind.u8) 0, V.int (IntKind.u8) 0,
    V.int (IntKind.u8) 0, V.int (IntKind.u8) 0, V.int (IntKind.u8) 0, V.int (IntKind.u8) 0, V.int (IntKind.u8) 0, V.int (IntKind.u8) 0, V.int (IntKind.u8) 0, V.int (IntKind.u8) 0, V.int (IntKind.u8)
    0, V.int (IntKind.u8) 0, V.int (IntKind.u8) 0, V.int (IntKind.u8) 0, V.int (IntKind.u8) 0, V.int (IntKind.u8) 0, V.int (IntKind.u8) 0, V.int (IntKind.u8) 0, V.int (IntKind.u8) 0, V.int
    (IntKind.u8) 0, V.int (IntKind.u8) 0, V.int (IntKind.u8) 0, V.int (IntKind.u8) 0, V.int (IntKind.u8) 0, V.int (IntKind.u8) 0, V.int (IntKind.u8) 0, V.int (IntKind.u8) 0, V.int (IntKind.u8) 0,
    V.int (IntKind.u8) 0, V.int (IntKind.u8) 0, V.int (IntKind.u8) 0, V.int (IntKind.u8) 0, V.int (IntKind.u8) 0, V.int (IntKind.u8) 0, V.int (IntKind.u8) 0, V.int (IntKind.u8) 0, V.int (IntKind.u8)
    0, V.int (IntKind.u8) 0, V.int (IntKind.u8) 0, V.int (IntKind.u8) 0, V.int (IntKind.u8) 0, V.int (IntKind.u8) 0, V.int (IntKind.u8) 0, V.int (IntKind.u8) 0, V.int (IntKind.u8) 0, V.int
    (IntKind.u8) 0, V.int (IntKind.u8) 0, V.int (IntKind.u8) 0, V.int (IntKind.u8) 0, V.int (IntKind.u8) 0, V.int (IntKind.u8) 0, V.int (IntKind.u8) 0, V.int (IntKind.u8) 0, V.int (IntKind.u8) 0,
    V.int (IntKind.u8) 0, V.int (IntKind.u8) 0], none⟩]) (ACode.seq (ACode.seq (ACode.region [⟨some 15, AOp.move (Opd.const (V.int (IntKind.i64) 0)), none⟩]) (ACode.block 8 (ACode.loop c10_l4)))
    (ACode.seq (ACode.region [⟨some 123, AOp.loadn 64 (Opd.tmp 14), none⟩, ⟨none, AOp.store 64 (Opd.tmp 6) (Opd.tmp 123), none⟩]) (ACode.ret))))))))))))))⟩
theorem h10 : compFn Tryd.prog Tryd.f10 = some c10 := by kernel_rfl
/-- A loop of function 11. -/
def c11_l0 : ACode :=
  ACode.seq (ACode.seq (ACode.region [⟨some 12, AOp.move (Opd.tmp 7), none⟩, ⟨some 13, AOp.move (Opd.tmp 0), none⟩, ⟨some 14, AOp.bin (BinOp.lss) (Opd.tmp 12) (Opd.tmp 13), none⟩]) (ACode.cond
    (Opd.tmp 14) (ACode.skip) (ACode.exit 0))) (ACode.seq (ACode.block 1 (ACode.seq (ACode.region [⟨some 17, AOp.move (Opd.tmp 6), none⟩, ⟨some 18, AOp.bin (BinOp.mul) (Opd.tmp 17) (Opd.const (V.int
    (IntKind.u64) 6364136223846793005)), none⟩, ⟨some 19, AOp.bin (BinOp.add) (Opd.tmp 18) (Opd.const (V.int (IntKind.u64) 1442695040888963407)), none⟩, ⟨some 6, AOp.move (Opd.tmp 19), none⟩])
    (ACode.region [⟨some 20, AOp.move (Opd.tmp 5), none⟩, ⟨some 21, AOp.move (Opd.tmp 7), none⟩, ⟨some 22, AOp.move (Opd.tmp 6), none⟩, ⟨some 23, AOp.bin (BinOp.shr) (Opd.tmp 22) (Opd.const (V.int
    (IntKind.u64) 40)), none⟩, ⟨some 24, AOp.conv (IntKind.u8) (Opd.tmp 23), none⟩, ⟨some 25, AOp.indexAddrS 1 (Opd.tmp 20) (Opd.tmp 21), none⟩, ⟨none, AOp.store 1 (Opd.tmp 25) (Opd.tmp 24), none⟩])))
    (ACode.region [⟨some 15, AOp.move (Opd.tmp 7), none⟩, ⟨some 16, AOp.bin (BinOp.add) (Opd.tmp 15) (Opd.const (V.int (IntKind.i64) 1)), none⟩, ⟨some 7, AOp.move (Opd.tmp 16), none⟩]))
theorem c11_l0_wr : c11_l0.wr = [12, 13, 14, 17, 18, 19, 6, 20, 21, 22, 23, 24, 25, 15, 16, 7] := by kernel_rfl
/-- Function 11: portholehand.Bytes. -/
def c11 : AFn :=
  ⟨27, [ARes.tmp 4], ACode.seq (ACode.region [⟨some 4, AOp.move (Opd.const (V.nilslice)), none⟩]) (ACode.seq (ACode.region [⟨some 8, AOp.move (Opd.tmp 0), none⟩, ⟨some 9, AOp.makeSlice 5 1 1 [V.int
    (IntKind.u8) 0] (Opd.tmp 8) (Opd.tmp 8), none⟩, ⟨some 5, AOp.move (Opd.tmp 9), none⟩]) (ACode.seq (ACode.region [⟨some 10, AOp.move (Opd.tmp 1), none⟩, ⟨some 11, AOp.conv (IntKind.u64) (Opd.tmp
    10), none⟩, ⟨some 6, AOp.move (Opd.tmp 11), none⟩]) (ACode.seq (ACode.seq (ACode.region [⟨some 7, AOp.move (Opd.const (V.int (IntKind.i64) 0)), none⟩]) (ACode.block 0 (ACode.loop c11_l0)))
    (ACode.seq (ACode.region [⟨some 26, AOp.move (Opd.tmp 5), none⟩, ⟨some 4, AOp.move (Opd.tmp 26), none⟩]) (ACode.ret)))))⟩
theorem h11 : compFn Tryd.prog Tryd.f11 = some c11 := by kernel_rfl
/-- Function 12: portholehand.Pick. -/
def c12 : AFn :=
  ⟨14, [ARes.tmp 4], ACode.seq (ACode.region [⟨some 4, AOp.move (Opd.const (V.int (IntKind.i64) 0)), none⟩]) (ACode.seq (ACode.region [⟨some 5, AOp.move (Opd.tmp 0), none⟩, ⟨some 6, AOp.move (Opd.tmp
    1), none⟩, ⟨some 7, AOp.bin (BinOp.rem) (Opd.tmp 5) (Opd.tmp 6), none⟩, ⟨some 0, AOp.move (Opd.tmp 7), none⟩]) (ACode.seq (ACode.seq (ACode.region [⟨some 8, AOp.move (Opd.tmp 0), none⟩, ⟨some 9,
    AOp.bin (BinOp.lss) (Opd.tmp 8) (Opd.const (V.int (IntKind.i64) 0)), none⟩]) (ACode.cond (Opd.tmp 9) (ACode.region [⟨some 10, AOp.move (Opd.tmp 0), none⟩, ⟨some 11, AOp.move (Opd.tmp 1), none⟩,
    ⟨some 12, AOp.bin (BinOp.add) (Opd.tmp 10) (Opd.tmp 11), none⟩, ⟨some 0, AOp.move (Opd.tmp 12), none⟩]) (ACode.skip))) (ACode.seq (ACode.region [⟨some 13, AOp.move (Opd.tmp 0), none⟩, ⟨some 4,
    AOp.move (Opd.tmp 13), none⟩]) (ACode.ret))))⟩
theorem h12 : compFn Tryd.prog Tryd.f12 = some c12 := by kernel_rfl
/-- Function 13: portholehand.Few. -/
def c13 : AFn :=
  ⟨13, [ARes.tmp 4], ACode.seq (ACode.region [⟨some 4, AOp.move (Opd.const (V.nilslice)), none⟩]) (ACode.seq (ACode.region [⟨some 5, AOp.buildSlice 5 1 [V.int (IntKind.u8) 0] 0 [], none⟩, ⟨some 6,
    AOp.move (Opd.tmp 0), none⟩, ⟨some 7, AOp.move (Opd.tmp 0), none⟩, ⟨some 8, AOp.lenL (Opd.tmp 7), none⟩, ⟨some 9, AOp.move (Opd.tmp 1), none⟩, ⟨some 10, AOp.minmax false [Opd.tmp 8, Opd.tmp 9],
    none⟩, ⟨some 11, AOp.sliceSl 1 (Opd.tmp 6) none (some (Opd.tmp 10)) none, none⟩, ⟨some 12, AOp.append 5 1 1 (Opd.tmp 5) (Opd.tmp 11), none⟩, ⟨some 4, AOp.move (Opd.tmp 12), none⟩]) (ACode.ret))⟩
theorem h13 : compFn Tryd.prog Tryd.f13 = some c13 := by kernel_rfl
/-- A loop of function 14. -/
def c14_l0 : ACode :=
  ACode.seq (ACode.seq (ACode.region [⟨some 13, AOp.move (Opd.tmp 3), none⟩, ⟨some 14, AOp.lenL (Opd.tmp 13), none⟩, ⟨some 15, AOp.bin (BinOp.gtr) (Opd.tmp 14) (Opd.const (V.int (IntKind.i64) 0)),
    none⟩]) (ACode.cond (Opd.tmp 15) (ACode.skip) (ACode.exit 0))) (ACode.block 1 (ACode.seq (ACode.region [⟨some 16, AOp.loadn 32 (Opd.tmp 4), none⟩, ⟨some 17, AOp.move (Opd.tmp 1), none⟩, ⟨some 18,
    AOp.loadn 12 (Opd.tmp 6), none⟩, ⟨some 19, AOp.call (Opd.func 9) [Opd.tmp 16, Opd.tmp 17, Opd.tmp 18], none⟩, ⟨some 10, AOp.box 28 1 [V.int (IntKind.u8) 0, V.int (IntKind.u8) 0, V.int (IntKind.u8)
    0, V.int (IntKind.u8) 0, V.int (IntKind.u8) 0, V.int (IntKind.u8) 0, V.int (IntKind.u8) 0, V.int (IntKind.u8) 0, V.int (IntKind.u8) 0, V.int (IntKind.u8) 0, V.int (IntKind.u8) 0, V.int
    (IntKind.u8) 0, V.int (IntKind.u8) 0, V.int (IntKind.u8) 0, V.int (IntKind.u8) 0, V.int (IntKind.u8) 0, V.int (IntKind.u8) 0, V.int (IntKind.u8) 0, V.int (IntKind.u8) 0, V.int (IntKind.u8) 0,
    V.int (IntKind.u8) 0, V.int (IntKind.u8) 0, V.int (IntKind.u8) 0, V.int (IntKind.u8) 0, V.int (IntKind.u8) 0, V.int (IntKind.u8) 0, V.int (IntKind.u8) 0, V.int (IntKind.u8) 0, V.int (IntKind.u8)
    0, V.int (IntKind.u8) 0, V.int (IntKind.u8) 0, V.int (IntKind.u8) 0, V.int (IntKind.u8) 0, V.int (IntKind.u8) 0, V.int (IntKind.u8) 0, V.int (IntKind.u8) 0, V.int (IntKind.u8) 0, V.int
    (IntKind.u8) 0, V.int (IntKind.u8) 0, V.int (IntKind.u8) 0, V.int (IntKind.u8) 0, V.int (IntKind.u8) 0, V.int (IntKind.u8) 0, V.int (IntKind.u8) 0, V.int (IntKind.u8) 0, V.int (IntKind.u8) 0,
    V.int (IntKind.u8) 0, V.int (IntKind.u8) 0, V.int (IntKind.u8) 0, V.int (IntKind.u8) 0, V.int (IntKind.u8) 0, V.int (IntKind.u8) 0, V.int (IntKind.u8) 0, V.int (IntKind.u8) 0, V.int (IntKind.u8)
    0, V.int (IntKind.u8) 0, V.int (IntKind.u8) 0, V.int (IntKind.u8) 0, V.int (IntKind.u8) 0, V.int (IntKind.u8) 0, V.int (IntKind.u8) 0, V.int (IntKind.u8) 0, V.int (IntKind.u8) 0, V.int
    (IntKind.u8) 0], none⟩, ⟨none, AOp.store 64 (Opd.tmp 10) (Opd.tmp 19), none⟩]) (ACode.seq (ACode.region [⟨some 20, AOp.move (Opd.tmp 3), none⟩, ⟨some 21, AOp.sliceArr 64 1 (Opd.tmp 10) none none
    none, none⟩, ⟨some 22, AOp.call (Opd.func 26) [Opd.tmp 20, Opd.tmp 21], none⟩, ⟨some 11, AOp.move (Opd.tmp 22), none⟩]) (ACode.seq (ACode.region [⟨some 23, AOp.move (Opd.tmp 9), none⟩, ⟨some 24,
    AOp.move (Opd.tmp 11), none⟩, ⟨some 25, AOp.append 5 1 1 (Opd.tmp 23) (Opd.tmp 24), none⟩, ⟨some 9, AOp.move (Opd.tmp 25), none⟩]) (ACode.seq (ACode.region [⟨some 26, AOp.move (Opd.tmp 3), none⟩,
    ⟨some 27, AOp.move (Opd.tmp 11), none⟩, ⟨some 28, AOp.lenL (Opd.tmp 27), none⟩, ⟨some 29, AOp.sliceSl 1 (Opd.tmp 26) (some (Opd.tmp 28)) none none, none⟩, ⟨some 3, AOp.move (Opd.tmp 29), none⟩])
    (ACode.region [⟨some 30, AOp.move (Opd.tmp 1), none⟩, ⟨some 31, AOp.bin (BinOp.add) (Opd.tmp 30) (Opd.const (V.int (IntKind.u32) 1)), none⟩, ⟨some 1, AOp.move (Opd.tmp 31), none⟩]))))))
theorem c14_l0_wr : c14_l0.wr = [13, 14, 15, 16, 17, 18, 19, 10, 20, 21, 22, 11, 23, 24, 25, 9, 26, 27, 28, 29, 3, 30, 31, 1] := by kernel_rfl
/-- Function 14: chacha.Apply. -/
def c14 : AFn :=
  ⟨33, [ARes.tmp 8], ACode.seq (ACode.region [⟨some 4, AOp.boxv 22 1 (Opd.tmp 0), none⟩, ⟨some 6, AOp.boxv 24 1 (Opd.tmp 2), none⟩, ⟨some 8, AOp.move (Opd.const (V.nilslice)), none⟩]) (ACode.seq
    (ACode.region [⟨some 12, AOp.buildSlice 5 1 [V.int (IntKind.u8) 0] 0 [], none⟩, ⟨some 9, AOp.move (Opd.tmp 12), none⟩]) (ACode.seq (ACode.block 0 (ACode.loop c14_l0)) (ACode.seq (ACode.region
    [⟨some 32, AOp.move (Opd.tmp 9), none⟩, ⟨some 8, AOp.move (Opd.tmp 32), none⟩]) (ACode.ret))))⟩
theorem h14 : compFn Tryd.prog Tryd.f14 = some c14 := by kernel_rfl
/-- A loop of function 15. -/
def c15_l0 : ACode :=
  ACode.seq (ACode.seq (ACode.region [⟨some 12, AOp.move (Opd.tmp 3), none⟩, ⟨some 13, AOp.lenL (Opd.tmp 12), none⟩, ⟨some 14, AOp.bin (BinOp.gtr) (Opd.tmp 13) (Opd.const (V.int (IntKind.i64) 0)),
    none⟩]) (ACode.cond (Opd.tmp 14) (ACode.skip) (ACode.exit 0))) (ACode.block 1 (ACode.seq (ACode.region [⟨some 15, AOp.loadn 32 (Opd.tmp 4), none⟩, ⟨some 16, AOp.move (Opd.tmp 1), none⟩, ⟨some 17,
    AOp.loadn 12 (Opd.tmp 6), none⟩, ⟨some 18, AOp.call (Opd.func 10) [Opd.tmp 15, Opd.tmp 16, Opd.tmp 17], none⟩, ⟨some 10, AOp.box 28 1 [V.int (IntKind.u8) 0, V.int (IntKind.u8) 0, V.int
    (IntKind.u8) 0, V.int (IntKind.u8) 0, V.int (IntKind.u8) 0, V.int (IntKind.u8) 0, V.int (IntKind.u8) 0, V.int (IntKind.u8) 0, V.int (IntKind.u8) 0, V.int (IntKind.u8) 0, V.int (IntKind.u8) 0,
    V.int (IntKind.u8) 0, V.int (IntKind.u8) 0, V.int (IntKind.u8) 0, V.int (IntKind.u8) 0, V.int (IntKind.u8) 0, V.int (IntKind.u8) 0, V.int (IntKind.u8) 0, V.int (IntKind.u8) 0, V.int (IntKind.u8)
    0, V.int (IntKind.u8) 0, V.int (IntKind.u8) 0, V.int (IntKind.u8) 0, V.int (IntKind.u8) 0, V.int (IntKind.u8) 0, V.int (IntKind.u8) 0, V.int (IntKind.u8) 0, V.int (IntKind.u8) 0, V.int
    (IntKind.u8) 0, V.int (IntKind.u8) 0, V.int (IntKind.u8) 0, V.int (IntKind.u8) 0, V.int (IntKind.u8) 0, V.int (IntKind.u8) 0, V.int (IntKind.u8) 0, V.int (IntKind.u8) 0, V.int (IntKind.u8) 0,
    V.int (IntKind.u8) 0, V.int (IntKind.u8) 0, V.int (IntKind.u8) 0, V.int (IntKind.u8) 0, V.int (IntKind.u8) 0, V.int (IntKind.u8) 0, V.int (IntKind.u8) 0, V.int (IntKind.u8) 0, V.int (IntKind.u8)
    0, V.int (IntKind.u8) 0, V.int (IntKind.u8) 0, V.int (IntKind.u8) 0, V.int (IntKind.u8) 0, V.int (IntKind.u8) 0, V.int (IntKind.u8) 0, V.int (IntKind.u8) 0, V.int (IntKind.u8) 0, V.int
    (IntKind.u8) 0, V.int (IntKind.u8) 0, V.int (IntKind.u8) 0, V.int (IntKind.u8) 0, V.int (IntKind.u8) 0, V.int (IntKind.u8) 0, V.int (IntKind.u8) 0, V.int (IntKind.u8) 0, V.int (IntKind.u8) 0,
    V.int (IntKind.u8) 0], none⟩, ⟨none, AOp.store 64 (Opd.tmp 10) (Opd.tmp 18), none⟩]) (ACode.seq (ACode.region [⟨some 19, AOp.move (Opd.tmp 3), none⟩, ⟨some 20, AOp.lenL (Opd.tmp 19), none⟩, ⟨some
    21, AOp.minmax false [Opd.const (V.int (IntKind.i64) 64), Opd.tmp 20], none⟩, ⟨some 11, AOp.move (Opd.tmp 21), none⟩]) (ACode.seq (ACode.anyRegion [⟨some 22, AOp.move (Opd.tmp 9), none⟩, ⟨some 23,
    AOp.move (Opd.tmp 3), none⟩, ⟨some 24, AOp.move (Opd.tmp 11), none⟩, ⟨some 25, AOp.sliceSl 1 (Opd.tmp 23) none (some (Opd.tmp 24)) none, none⟩, ⟨some 26, AOp.sliceArr 64 1 (Opd.tmp 10) none none
    none, none⟩, ⟨some 27, AOp.call (Opd.func 27) [Opd.tmp 25, Opd.tmp 26], none⟩, ⟨some 28, AOp.append 5 1 1 (Opd.tmp 22) (Opd.tmp 27), none⟩, ⟨some 9, AOp.move (Opd.tmp 28), none⟩] []) (ACode.seq
    (ACode.region [⟨some 29, AOp.move (Opd.tmp 3), none⟩, ⟨some 30, AOp.move (Opd.tmp 11), none⟩, ⟨some 31, AOp.sliceSl 1 (Opd.tmp 29) (some (Opd.tmp 30)) none none, none⟩, ⟨some 3, AOp.move (Opd.tmp
    31), none⟩]) (ACode.region [⟨some 32, AOp.move (Opd.tmp 1), none⟩, ⟨some 33, AOp.bin (BinOp.add) (Opd.tmp 32) (Opd.const (V.int (IntKind.u32) 1)), none⟩, ⟨some 1, AOp.move (Opd.tmp 33),
    none⟩]))))))
theorem c15_l0_wr : c15_l0.wr = [12, 13, 14, 15, 16, 17, 18, 10, 19, 20, 21, 11, 22, 23, 24, 25, 26, 27, 28, 9, 29, 30, 31, 3, 32, 33, 1] := by kernel_rfl
/-- Function 15: portholeref4.Apply. -/
def c15 : AFn :=
  ⟨35, [ARes.tmp 8], ACode.seq (ACode.region [⟨some 4, AOp.boxv 22 1 (Opd.tmp 0), none⟩, ⟨some 6, AOp.boxv 24 1 (Opd.tmp 2), none⟩, ⟨some 8, AOp.move (Opd.const (V.nilslice)), none⟩]) (ACode.seq
    (ACode.region [⟨some 9, AOp.move (Opd.const (V.nilslice)), none⟩]) (ACode.seq (ACode.block 0 (ACode.loop c15_l0)) (ACode.seq (ACode.region [⟨some 34, AOp.move (Opd.tmp 9), none⟩, ⟨some 8, AOp.move
    (Opd.tmp 34), none⟩]) (ACode.ret))))⟩
theorem h15 : compFn Tryd.prog Tryd.f15 = some c15 := by kernel_rfl
/-- Function 19: bits.RotateLeft32. -/
def c19 : AFn :=
  ⟨17, [ARes.tmp 4], ACode.seq (ACode.region [⟨some 4, AOp.move (Opd.const (V.int (IntKind.u32) 0)), none⟩]) (ACode.seq (ACode.region [⟨some 6, AOp.move (Opd.tmp 1), none⟩, ⟨some 7, AOp.conv
    (IntKind.u64) (Opd.tmp 6), none⟩, ⟨some 8, AOp.bin (BinOp.and) (Opd.tmp 7) (Opd.const (V.int (IntKind.u64) 31)), none⟩, ⟨some 5, AOp.move (Opd.tmp 8), none⟩]) (ACode.seq (ACode.region [⟨some 9,
    AOp.move (Opd.tmp 0), none⟩, ⟨some 10, AOp.move (Opd.tmp 5), none⟩, ⟨some 11, AOp.bin (BinOp.shl) (Opd.tmp 9) (Opd.tmp 10), none⟩, ⟨some 12, AOp.move (Opd.tmp 0), none⟩, ⟨some 13, AOp.move
    (Opd.tmp 5), none⟩, ⟨some 14, AOp.bin (BinOp.sub) (Opd.const (V.int (IntKind.u64) 32)) (Opd.tmp 13), none⟩, ⟨some 15, AOp.bin (BinOp.shr) (Opd.tmp 12) (Opd.tmp 14), none⟩, ⟨some 16, AOp.bin
    (BinOp.or) (Opd.tmp 11) (Opd.tmp 15), none⟩, ⟨some 4, AOp.move (Opd.tmp 16), none⟩]) (ACode.ret)))⟩
theorem h19 : compFn Tryd.prog Tryd.f19 = some c19 := by kernel_rfl
/-- Function 20: portholeref4.turn. -/
def c20 : AFn :=
  ⟨13, [ARes.tmp 4], ACode.seq (ACode.region [⟨some 4, AOp.move (Opd.const (V.int (IntKind.u32) 0)), none⟩]) (ACode.seq (ACode.region [⟨some 5, AOp.move (Opd.tmp 0), none⟩, ⟨some 6, AOp.move (Opd.tmp
    1), none⟩, ⟨some 7, AOp.bin (BinOp.shl) (Opd.tmp 5) (Opd.tmp 6), none⟩, ⟨some 8, AOp.move (Opd.tmp 0), none⟩, ⟨some 9, AOp.move (Opd.tmp 1), none⟩, ⟨some 10, AOp.bin (BinOp.sub) (Opd.const (V.int
    (IntKind.u64) 32)) (Opd.tmp 9), none⟩, ⟨some 11, AOp.bin (BinOp.shr) (Opd.tmp 8) (Opd.tmp 10), none⟩, ⟨some 12, AOp.bin (BinOp.or) (Opd.tmp 7) (Opd.tmp 11), none⟩, ⟨some 4, AOp.move (Opd.tmp 12),
    none⟩]) (ACode.ret))⟩
theorem h20 : compFn Tryd.prog Tryd.f20 = some c20 := by kernel_rfl
/-- A loop of function 21. -/
def c21_l1 : ACode :=
  ACode.seq (ACode.region [⟨some 28, AOp.bin (BinOp.lss) (Opd.tmp 27) (Opd.const (V.int (IntKind.i64) 3)), none⟩]) (ACode.seq (ACode.cond (Opd.tmp 28) (ACode.skip) (ACode.exit 2)) (ACode.seq
    (ACode.block 3 (ACode.seq (ACode.region [⟨some 29, AOp.move (Opd.tmp 27), none⟩, ⟨some 9, AOp.move (Opd.tmp 29), none⟩]) (ACode.region [⟨some 31, AOp.move (Opd.tmp 9), none⟩, ⟨some 32, AOp.bin
    (BinOp.add) (Opd.const (V.int (IntKind.i64) 13)) (Opd.tmp 31), none⟩, ⟨some 33, AOp.move (Opd.tmp 9), none⟩, ⟨some 34, AOp.bin (BinOp.mul) (Opd.const (V.int (IntKind.i64) 4)) (Opd.tmp 33), none⟩,
    ⟨some 35, AOp.sliceArr 12 1 (Opd.tmp 5) (some (Opd.tmp 34)) none none, none⟩, ⟨some 36, AOp.call (Opd.func 32) [Opd.tmp 35], none⟩, ⟨some 30, AOp.move (Opd.tmp 36), none⟩, ⟨some 37, AOp.extract
    (Opd.tmp 30) 0, none⟩, ⟨some 38, AOp.extract (Opd.tmp 30) 1, none⟩, ⟨some 39, AOp.indexAddrA 16 1 (Opd.tmp 7) (Opd.tmp 32), none⟩, ⟨none, AOp.store 1 (Opd.tmp 39) (Opd.tmp 37), none⟩])))
    (ACode.region [⟨some 40, AOp.bin (BinOp.add) (Opd.tmp 27) (Opd.const (V.int (IntKind.i64) 1)), none⟩, ⟨some 27, AOp.move (Opd.tmp 40), none⟩])))
theorem c21_l1_wr : c21_l1.wr = [28, 29, 9, 31, 32, 33, 34, 35, 36, 30, 37, 38, 39, 40, 27] := by kernel_rfl
/-- A loop of function 21. -/
def c21_l0 : ACode :=
  ACode.seq (ACode.region [⟨some 12, AOp.bin (BinOp.lss) (Opd.tmp 11) (Opd.const (V.int (IntKind.i64) 8)), none⟩]) (ACode.seq (ACode.cond (Opd.tmp 12) (ACode.skip) (ACode.exit 0)) (ACode.seq
    (ACode.block 1 (ACode.seq (ACode.region [⟨some 13, AOp.move (Opd.tmp 11), none⟩, ⟨some 8, AOp.move (Opd.tmp 13), none⟩]) (ACode.region [⟨some 15, AOp.move (Opd.tmp 8), none⟩, ⟨some 16, AOp.bin
    (BinOp.add) (Opd.const (V.int (IntKind.i64) 4)) (Opd.tmp 15), none⟩, ⟨some 17, AOp.move (Opd.tmp 8), none⟩, ⟨some 18, AOp.bin (BinOp.mul) (Opd.const (V.int (IntKind.i64) 4)) (Opd.tmp 17), none⟩,
    ⟨some 19, AOp.sliceArr 32 1 (Opd.tmp 3) (some (Opd.tmp 18)) none none, none⟩, ⟨some 20, AOp.call (Opd.func 32) [Opd.tmp 19], none⟩, ⟨some 14, AOp.move (Opd.tmp 20), none⟩, ⟨some 21, AOp.extract
    (Opd.tmp 14) 0, none⟩, ⟨some 22, AOp.extract (Opd.tmp 14) 1, none⟩, ⟨some 23, AOp.indexAddrA 16 1 (Opd.tmp 7) (Opd.tmp 16), none⟩, ⟨none, AOp.store 1 (Opd.tmp 23) (Opd.tmp 21), none⟩])))
    (ACode.region [⟨some 24, AOp.bin (BinOp.add) (Opd.tmp 11) (Opd.const (V.int (IntKind.i64) 1)), none⟩, ⟨some 11, AOp.move (Opd.tmp 24), none⟩])))
theorem c21_l0_wr : c21_l0.wr = [12, 13, 8, 15, 16, 17, 18, 19, 20, 14, 21, 22, 23, 24, 11] := by kernel_rfl
/-- Function 21: chacha.words. -/
def c21 : AFn :=
  ⟨42, [ARes.cells 6 16], ACode.seq (ACode.region [⟨some 3, AOp.boxv 22 1 (Opd.tmp 0), none⟩, ⟨some 5, AOp.boxv 24 1 (Opd.tmp 2), none⟩, ⟨some 6, AOp.box 43 1 [V.int (IntKind.u32) 0, V.int
    (IntKind.u32) 0, V.int (IntKind.u32) 0, V.int (IntKind.u32) 0, V.int (IntKind.u32) 0, V.int (IntKind.u32) 0, V.int (IntKind.u32) 0, V.int (IntKind.u32) 0, V.int (IntKind.u32) 0, V.int
    (IntKind.u32) 0, V.int (IntKind.u32) 0, V.int (IntKind.u32) 0, V.int (IntKind.u32) 0, V.int (IntKind.u32) 0, V.int (IntKind.u32) 0, V.int (IntKind.u32) 0], none⟩]) (ACode.seq (ACode.region [⟨some
    10, AOp.build [V.int (IntKind.u32) 0, V.int (IntKind.u32) 0, V.int (IntKind.u32) 0, V.int (IntKind.u32) 0, V.int (IntKind.u32) 0, V.int (IntKind.u32) 0, V.int (IntKind.u32) 0, V.int (IntKind.u32)
    0, V.int (IntKind.u32) 0, V.int (IntKind.u32) 0, V.int (IntKind.u32) 0, V.int (IntKind.u32) 0, V.int (IntKind.u32) 0, V.int (IntKind.u32) 0, V.int (IntKind.u32) 0, V.int (IntKind.u32) 0] [(0, 1,
    Opd.const (V.int (IntKind.u32) 1634760805)), (1, 1, Opd.const (V.int (IntKind.u32) 857760878)), (2, 1, Opd.const (V.int (IntKind.u32) 2036477234)), (3, 1, Opd.const (V.int (IntKind.u32)
    1797285236))], none⟩, ⟨some 7, AOp.box 43 1 [V.int (IntKind.u32) 0, V.int (IntKind.u32) 0, V.int (IntKind.u32) 0, V.int (IntKind.u32) 0, V.int (IntKind.u32) 0, V.int (IntKind.u32) 0, V.int
    (IntKind.u32) 0, V.int (IntKind.u32) 0, V.int (IntKind.u32) 0, V.int (IntKind.u32) 0, V.int (IntKind.u32) 0, V.int (IntKind.u32) 0, V.int (IntKind.u32) 0, V.int (IntKind.u32) 0, V.int
    (IntKind.u32) 0, V.int (IntKind.u32) 0], none⟩, ⟨none, AOp.store 16 (Opd.tmp 7) (Opd.tmp 10), none⟩]) (ACode.seq (ACode.seq (ACode.region [⟨some 11, AOp.move (Opd.const (V.int (IntKind.i64) 0)),
    none⟩]) (ACode.block 0 (ACode.loop c21_l0))) (ACode.seq (ACode.region [⟨some 25, AOp.move (Opd.tmp 1), none⟩, ⟨some 26, AOp.indexAddrA 16 1 (Opd.tmp 7) (Opd.const (V.int (IntKind.i64) 12)), none⟩,
    ⟨none, AOp.store 1 (Opd.tmp 26) (Opd.tmp 25), none⟩]) (ACode.seq (ACode.seq (ACode.region [⟨some 27, AOp.move (Opd.const (V.int (IntKind.i64) 0)), none⟩]) (ACode.block 2 (ACode.loop c21_l1)))
    (ACode.seq (ACode.region [⟨some 41, AOp.loadn 16 (Opd.tmp 7), none⟩, ⟨none, AOp.store 16 (Opd.tmp 6) (Opd.tmp 41), none⟩]) (ACode.ret))))))⟩
theorem h21 : compFn Tryd.prog Tryd.f21 = some c21 := by kernel_rfl
/-- Function 22: chacha.Block$1. -/
def c22 : AFn :=
  ⟨35, [], ACode.anyRegion [⟨some 10, AOp.move (Opd.tmp 0), none⟩, ⟨some 11, AOp.move (Opd.tmp 1), none⟩, ⟨some 12, AOp.move (Opd.tmp 2), none⟩, ⟨some 13, AOp.move (Opd.tmp 3), none⟩, ⟨some 14,
    AOp.move (Opd.tmp 0), none⟩, ⟨some 15, AOp.indexAddrA 16 1 (Opd.tmp 4) (Opd.tmp 14), none⟩, ⟨some 16, AOp.load (Opd.tmp 15), none⟩, ⟨some 17, AOp.move (Opd.tmp 1), none⟩, ⟨some 18, AOp.indexAddrA
    16 1 (Opd.tmp 4) (Opd.tmp 17), none⟩, ⟨some 19, AOp.load (Opd.tmp 18), none⟩, ⟨some 20, AOp.move (Opd.tmp 2), none⟩, ⟨some 21, AOp.indexAddrA 16 1 (Opd.tmp 4) (Opd.tmp 20), none⟩, ⟨some 22,
    AOp.load (Opd.tmp 21), none⟩, ⟨some 23, AOp.move (Opd.tmp 3), none⟩, ⟨some 24, AOp.indexAddrA 16 1 (Opd.tmp 4) (Opd.tmp 23), none⟩, ⟨some 25, AOp.load (Opd.tmp 24), none⟩, ⟨some 26, AOp.call
    (Opd.func 6) [Opd.tmp 16, Opd.tmp 19, Opd.tmp 22, Opd.tmp 25], none⟩, ⟨some 9, AOp.move (Opd.tmp 26), none⟩, ⟨some 27, AOp.extract (Opd.tmp 9) 0, none⟩, ⟨some 28, AOp.extract (Opd.tmp 9) 1, none⟩,
    ⟨some 29, AOp.extract (Opd.tmp 9) 2, none⟩, ⟨some 30, AOp.extract (Opd.tmp 9) 3, none⟩, ⟨some 31, AOp.indexAddrA 16 1 (Opd.tmp 4) (Opd.tmp 10), none⟩, ⟨none, AOp.store 1 (Opd.tmp 31) (Opd.tmp 27),
    none⟩, ⟨some 32, AOp.indexAddrA 16 1 (Opd.tmp 4) (Opd.tmp 11), none⟩, ⟨none, AOp.store 1 (Opd.tmp 32) (Opd.tmp 28), none⟩, ⟨some 33, AOp.indexAddrA 16 1 (Opd.tmp 4) (Opd.tmp 12), none⟩, ⟨none,
    AOp.store 1 (Opd.tmp 33) (Opd.tmp 29), none⟩, ⟨some 34, AOp.indexAddrA 16 1 (Opd.tmp 4) (Opd.tmp 13), none⟩, ⟨none, AOp.store 1 (Opd.tmp 34) (Opd.tmp 30), none⟩] []⟩
theorem h22 : compFn Tryd.prog Tryd.f22 = some c22 := by kernel_rfl
/-- Function 23: octet.Put32. -/
def c23 : AFn :=
  ⟨6, [ARes.tmp 2], ACode.seq (ACode.region [⟨some 2, AOp.move (Opd.const (V.nilslice)), none⟩]) (ACode.seq (ACode.region [⟨some 3, AOp.move (Opd.tmp 0), none⟩, ⟨some 4, AOp.conv (IntKind.u64)
    (Opd.tmp 3), none⟩, ⟨some 5, AOp.call (Opd.func 33) [Opd.tmp 4, Opd.const (V.int (IntKind.i64) 4)], none⟩, ⟨some 2, AOp.move (Opd.tmp 5), none⟩]) (ACode.ret))⟩
theorem h23 : compFn Tryd.prog Tryd.f23 = some c23 := by kernel_rfl
/-- Function 24: portholeref1.Get32. -/
def c24 : AFn :=
  ⟨25, [ARes.tmp 2], ACode.seq (ACode.region [⟨some 2, AOp.move (Opd.const (V.int (IntKind.u32) 0)), none⟩]) (ACode.seq (ACode.anyRegion [⟨some 3, AOp.move (Opd.tmp 0), none⟩, ⟨some 4, AOp.indexAddrS
    1 (Opd.tmp 3) (Opd.const (V.int (IntKind.i64) 0)), none⟩, ⟨some 5, AOp.load (Opd.tmp 4), none⟩, ⟨some 6, AOp.conv (IntKind.u32) (Opd.tmp 5), none⟩, ⟨some 7, AOp.move (Opd.tmp 0), none⟩, ⟨some 8,
    AOp.indexAddrS 1 (Opd.tmp 7) (Opd.const (V.int (IntKind.i64) 1)), none⟩, ⟨some 9, AOp.load (Opd.tmp 8), none⟩, ⟨some 10, AOp.conv (IntKind.u32) (Opd.tmp 9), none⟩, ⟨some 11, AOp.bin (BinOp.shl)
    (Opd.tmp 10) (Opd.const (V.int (IntKind.u64) 8)), none⟩, ⟨some 12, AOp.bin (BinOp.add) (Opd.tmp 6) (Opd.tmp 11), none⟩, ⟨some 13, AOp.move (Opd.tmp 0), none⟩, ⟨some 14, AOp.indexAddrS 1 (Opd.tmp
    13) (Opd.const (V.int (IntKind.i64) 2)), none⟩, ⟨some 15, AOp.load (Opd.tmp 14), none⟩, ⟨some 16, AOp.conv (IntKind.u32) (Opd.tmp 15), none⟩, ⟨some 17, AOp.bin (BinOp.shl) (Opd.tmp 16) (Opd.const
    (V.int (IntKind.u64) 16)), none⟩, ⟨some 18, AOp.bin (BinOp.add) (Opd.tmp 12) (Opd.tmp 17), none⟩, ⟨some 19, AOp.move (Opd.tmp 0), none⟩, ⟨some 20, AOp.indexAddrS 1 (Opd.tmp 19) (Opd.const (V.int
    (IntKind.i64) 3)), none⟩, ⟨some 21, AOp.load (Opd.tmp 20), none⟩, ⟨some 22, AOp.conv (IntKind.u32) (Opd.tmp 21), none⟩, ⟨some 23, AOp.bin (BinOp.shl) (Opd.tmp 22) (Opd.const (V.int (IntKind.u64)
    24)), none⟩, ⟨some 24, AOp.bin (BinOp.add) (Opd.tmp 18) (Opd.tmp 23), none⟩, ⟨some 2, AOp.move (Opd.tmp 24), none⟩] []) (ACode.ret))⟩
theorem h24 : compFn Tryd.prog Tryd.f24 = some c24 := by kernel_rfl
/-- Function 25: portholeref1.Put32. -/
def c25 : AFn :=
  ⟨15, [ARes.tmp 2], ACode.seq (ACode.region [⟨some 2, AOp.move (Opd.const (V.nilslice)), none⟩]) (ACode.seq (ACode.region [⟨some 3, AOp.move (Opd.tmp 0), none⟩, ⟨some 4, AOp.conv (IntKind.u8)
    (Opd.tmp 3), none⟩, ⟨some 5, AOp.move (Opd.tmp 0), none⟩, ⟨some 6, AOp.bin (BinOp.shr) (Opd.tmp 5) (Opd.const (V.int (IntKind.u64) 8)), none⟩, ⟨some 7, AOp.conv (IntKind.u8) (Opd.tmp 6), none⟩,
    ⟨some 8, AOp.move (Opd.tmp 0), none⟩, ⟨some 9, AOp.bin (BinOp.shr) (Opd.tmp 8) (Opd.const (V.int (IntKind.u64) 16)), none⟩, ⟨some 10, AOp.conv (IntKind.u8) (Opd.tmp 9), none⟩, ⟨some 11, AOp.move
    (Opd.tmp 0), none⟩, ⟨some 12, AOp.bin (BinOp.shr) (Opd.tmp 11) (Opd.const (V.int (IntKind.u64) 24)), none⟩, ⟨some 13, AOp.conv (IntKind.u8) (Opd.tmp 12), none⟩, ⟨some 14, AOp.buildSlice 5 1 [V.int
    (IntKind.u8) 0] 4 [(0, 1, Opd.tmp 4), (1, 1, Opd.tmp 7), (2, 1, Opd.tmp 10), (3, 1, Opd.tmp 13)], none⟩, ⟨some 2, AOp.move (Opd.tmp 14), none⟩]) (ACode.ret))⟩
theorem h25 : compFn Tryd.prog Tryd.f25 = some c25 := by kernel_rfl
/-- A loop of function 26. -/
def c26_l0 : ACode :=
  ACode.seq (ACode.region [⟨some 16, AOp.bin (BinOp.lss) (Opd.tmp 15) (Opd.tmp 14), none⟩]) (ACode.seq (ACode.cond (Opd.tmp 16) (ACode.skip) (ACode.exit 0)) (ACode.seq (ACode.block 1 (ACode.seq
    (ACode.region [⟨some 17, AOp.move (Opd.tmp 15), none⟩, ⟨some 6, AOp.move (Opd.tmp 17), none⟩]) (ACode.anyRegion [⟨some 18, AOp.move (Opd.tmp 5), none⟩, ⟨some 19, AOp.move (Opd.tmp 6), none⟩, ⟨some
    20, AOp.move (Opd.tmp 0), none⟩, ⟨some 21, AOp.move (Opd.tmp 6), none⟩, ⟨some 22, AOp.indexAddrS 1 (Opd.tmp 20) (Opd.tmp 21), none⟩, ⟨some 23, AOp.load (Opd.tmp 22), none⟩, ⟨some 24, AOp.move
    (Opd.tmp 1), none⟩, ⟨some 25, AOp.move (Opd.tmp 6), none⟩, ⟨some 26, AOp.indexAddrS 1 (Opd.tmp 24) (Opd.tmp 25), none⟩, ⟨some 27, AOp.load (Opd.tmp 26), none⟩, ⟨some 28, AOp.bin (BinOp.xor)
    (Opd.tmp 23) (Opd.tmp 27), none⟩, ⟨some 29, AOp.indexAddrS 1 (Opd.tmp 18) (Opd.tmp 19), none⟩, ⟨none, AOp.store 1 (Opd.tmp 29) (Opd.tmp 28), none⟩] []))) (ACode.region [⟨some 30, AOp.bin
    (BinOp.add) (Opd.tmp 15) (Opd.const (V.int (IntKind.i64) 1)), none⟩, ⟨some 15, AOp.move (Opd.tmp 30), none⟩])))
theorem c26_l0_wr : c26_l0.wr = [16, 17, 6, 18, 19, 20, 21, 22, 23, 24, 25, 26, 27, 28, 29, 30, 15] := by kernel_rfl
/-- Function 26: octet.Xor. -/
def c26 : AFn :=
  ⟨32, [ARes.tmp 4], ACode.seq (ACode.region [⟨some 4, AOp.move (Opd.const (V.nilslice)), none⟩]) (ACode.seq (ACode.region [⟨some 7, AOp.move (Opd.tmp 0), none⟩, ⟨some 8, AOp.lenL (Opd.tmp 7), none⟩,
    ⟨some 9, AOp.move (Opd.tmp 1), none⟩, ⟨some 10, AOp.lenL (Opd.tmp 9), none⟩, ⟨some 11, AOp.minmax false [Opd.tmp 8, Opd.tmp 10], none⟩, ⟨some 12, AOp.makeSlice 5 1 1 [V.int (IntKind.u8) 0]
    (Opd.tmp 11) (Opd.tmp 11), none⟩, ⟨some 5, AOp.move (Opd.tmp 12), none⟩]) (ACode.seq (ACode.seq (ACode.region [⟨some 13, AOp.move (Opd.tmp 5), none⟩, ⟨some 14, AOp.lenL (Opd.tmp 13), none⟩, ⟨some
    15, AOp.move (Opd.const (V.int (IntKind.i64) 0)), none⟩]) (ACode.block 0 (ACode.loop c26_l0))) (ACode.seq (ACode.region [⟨some 31, AOp.move (Opd.tmp 5), none⟩, ⟨some 4, AOp.move (Opd.tmp 31),
    none⟩]) (ACode.ret))))⟩
theorem h26 : compFn Tryd.prog Tryd.f26 = some c26 := by kernel_rfl
/-- A loop of function 27. -/
def c27_l0 : ACode :=
  ACode.seq (ACode.seq (ACode.region [⟨some 7, AOp.move (Opd.tmp 6), none⟩, ⟨some 8, AOp.move (Opd.tmp 0), none⟩, ⟨some 9, AOp.lenL (Opd.tmp 8), none⟩, ⟨some 10, AOp.bin (BinOp.lss) (Opd.tmp 7)
    (Opd.tmp 9), none⟩, ⟨some 11, AOp.move (Opd.tmp 10), none⟩, ⟨some 12, AOp.move (Opd.tmp 6), some (11, true)⟩, ⟨some 13, AOp.move (Opd.tmp 1), some (11, true)⟩, ⟨some 14, AOp.lenL (Opd.tmp 13),
    some (11, true)⟩, ⟨some 15, AOp.bin (BinOp.lss) (Opd.tmp 12) (Opd.tmp 14), some (11, true)⟩, ⟨some 16, AOp.pick (Opd.tmp 11) (Opd.tmp 15) (Opd.const (V.bool false)), none⟩]) (ACode.cond (Opd.tmp
    16) (ACode.skip) (ACode.exit 0))) (ACode.seq (ACode.block 1 (ACode.anyRegion [⟨some 19, AOp.move (Opd.tmp 5), none⟩, ⟨some 20, AOp.move (Opd.tmp 0), none⟩, ⟨some 21, AOp.move (Opd.tmp 6), none⟩,
    ⟨some 22, AOp.indexAddrS 1 (Opd.tmp 20) (Opd.tmp 21), none⟩, ⟨some 23, AOp.load (Opd.tmp 22), none⟩, ⟨some 24, AOp.move (Opd.tmp 1), none⟩, ⟨some 25, AOp.move (Opd.tmp 6), none⟩, ⟨some 26,
    AOp.indexAddrS 1 (Opd.tmp 24) (Opd.tmp 25), none⟩, ⟨some 27, AOp.load (Opd.tmp 26), none⟩, ⟨some 28, AOp.bin (BinOp.xor) (Opd.tmp 23) (Opd.tmp 27), none⟩, ⟨some 29, AOp.buildSlice 5 1 [V.int
    (IntKind.u8) 0] 1 [(0, 1, Opd.tmp 28)], none⟩, ⟨some 30, AOp.append 5 1 1 (Opd.tmp 19) (Opd.tmp 29), none⟩, ⟨some 5, AOp.move (Opd.tmp 30), none⟩] [])) (ACode.region [⟨some 17, AOp.move (Opd.tmp
    6), none⟩, ⟨some 18, AOp.bin (BinOp.add) (Opd.tmp 17) (Opd.const (V.int (IntKind.i64) 1)), none⟩, ⟨some 6, AOp.move (Opd.tmp 18), none⟩]))
theorem c27_l0_wr : c27_l0.wr = [7, 8, 9, 10, 11, 12, 13, 14, 15, 16, 19, 20, 21, 22, 23, 24, 25, 26, 27, 28, 29, 30, 5, 17, 18, 6] := by kernel_rfl
/-- Function 27: portholeref1.Xor. -/
def c27 : AFn :=
  ⟨32, [ARes.tmp 4], ACode.seq (ACode.region [⟨some 4, AOp.move (Opd.const (V.nilslice)), none⟩]) (ACode.seq (ACode.region [⟨some 5, AOp.move (Opd.const (V.nilslice)), none⟩]) (ACode.seq (ACode.seq
    (ACode.region [⟨some 6, AOp.move (Opd.const (V.int (IntKind.i64) 0)), none⟩]) (ACode.block 0 (ACode.loop c27_l0))) (ACode.seq (ACode.region [⟨some 31, AOp.move (Opd.tmp 5), none⟩, ⟨some 4,
    AOp.move (Opd.tmp 31), none⟩]) (ACode.ret))))⟩
theorem h27 : compFn Tryd.prog Tryd.f27 = some c27 := by kernel_rfl
/-- Function 32: octet.Get32. -/
def c32 : AFn :=
  ⟨14, [ARes.tmp 2, ARes.tmp 3], ACode.seq (ACode.region [⟨some 2, AOp.move (Opd.const (V.int (IntKind.u32) 0)), none⟩, ⟨some 3, AOp.move (Opd.const (V.bool false)), none⟩]) (ACode.seq (ACode.region
    [⟨some 7, AOp.move (Opd.tmp 0), none⟩, ⟨some 8, AOp.call (Opd.func 37) [Opd.tmp 7, Opd.const (V.int (IntKind.i64) 4)], none⟩, ⟨some 6, AOp.move (Opd.tmp 8), none⟩, ⟨some 9, AOp.extract (Opd.tmp 6)
    0, none⟩, ⟨some 10, AOp.extract (Opd.tmp 6) 1, none⟩, ⟨some 4, AOp.move (Opd.tmp 9), none⟩, ⟨some 5, AOp.move (Opd.tmp 10), none⟩]) (ACode.seq (ACode.region [⟨some 11, AOp.move (Opd.tmp 4), none⟩,
    ⟨some 12, AOp.conv (IntKind.u32) (Opd.tmp 11), none⟩, ⟨some 13, AOp.move (Opd.tmp 5), none⟩, ⟨some 2, AOp.move (Opd.tmp 12), none⟩, ⟨some 3, AOp.move (Opd.tmp 13), none⟩]) (ACode.ret)))⟩
theorem h32 : compFn Tryd.prog Tryd.f32 = some c32 := by kernel_rfl
/-- A loop of function 33. -/
def c33_l0 : ACode :=
  ACode.seq (ACode.region [⟨some 12, AOp.bin (BinOp.lss) (Opd.tmp 11) (Opd.tmp 10), none⟩]) (ACode.seq (ACode.cond (Opd.tmp 12) (ACode.skip) (ACode.exit 0)) (ACode.seq (ACode.block 1 (ACode.seq
    (ACode.region [⟨some 13, AOp.move (Opd.tmp 11), none⟩, ⟨some 6, AOp.move (Opd.tmp 13), none⟩]) (ACode.region [⟨some 14, AOp.move (Opd.tmp 5), none⟩, ⟨some 15, AOp.move (Opd.tmp 6), none⟩, ⟨some
    16, AOp.move (Opd.tmp 0), none⟩, ⟨some 17, AOp.move (Opd.tmp 6), none⟩, ⟨some 18, AOp.bin (BinOp.mul) (Opd.const (V.int (IntKind.i64) 8)) (Opd.tmp 17), none⟩, ⟨some 19, AOp.bin (BinOp.shr)
    (Opd.tmp 16) (Opd.tmp 18), none⟩, ⟨some 20, AOp.conv (IntKind.u8) (Opd.tmp 19), none⟩, ⟨some 21, AOp.indexAddrS 1 (Opd.tmp 14) (Opd.tmp 15), none⟩, ⟨none, AOp.store 1 (Opd.tmp 21) (Opd.tmp 20),
    none⟩]))) (ACode.region [⟨some 22, AOp.bin (BinOp.add) (Opd.tmp 11) (Opd.const (V.int (IntKind.i64) 1)), none⟩, ⟨some 11, AOp.move (Opd.tmp 22), none⟩])))
theorem c33_l0_wr : c33_l0.wr = [12, 13, 6, 14, 15, 16, 17, 18, 19, 20, 21, 22, 11] := by kernel_rfl
/-- Function 33: octet.put. -/
def c33 : AFn :=
  ⟨24, [ARes.tmp 4], ACode.seq (ACode.region [⟨some 4, AOp.move (Opd.const (V.nilslice)), none⟩]) (ACode.seq (ACode.region [⟨some 7, AOp.move (Opd.tmp 1), none⟩, ⟨some 8, AOp.makeSlice 5 1 1 [V.int
    (IntKind.u8) 0] (Opd.tmp 7) (Opd.tmp 7), none⟩, ⟨some 5, AOp.move (Opd.tmp 8), none⟩]) (ACode.seq (ACode.seq (ACode.region [⟨some 9, AOp.move (Opd.tmp 5), none⟩, ⟨some 10, AOp.lenL (Opd.tmp 9),
    none⟩, ⟨some 11, AOp.move (Opd.const (V.int (IntKind.i64) 0)), none⟩]) (ACode.block 0 (ACode.loop c33_l0))) (ACode.seq (ACode.region [⟨some 23, AOp.move (Opd.tmp 5), none⟩, ⟨some 4, AOp.move
    (Opd.tmp 23), none⟩]) (ACode.ret))))⟩
theorem h33 : compFn Tryd.prog Tryd.f33 = some c33 := by kernel_rfl
/-- A loop of function 37. -/
def c37_l0 : ACode :=
  ACode.seq (ACode.region [⟨some 14, AOp.bin (BinOp.lss) (Opd.tmp 13) (Opd.tmp 12), none⟩]) (ACode.seq (ACode.cond (Opd.tmp 14) (ACode.skip) (ACode.exit 0)) (ACode.seq (ACode.block 1 (ACode.seq
    (ACode.region [⟨some 15, AOp.move (Opd.tmp 13), none⟩, ⟨some 7, AOp.move (Opd.tmp 15), none⟩]) (ACode.region [⟨some 16, AOp.move (Opd.tmp 6), none⟩, ⟨some 17, AOp.move (Opd.tmp 0), none⟩, ⟨some
    18, AOp.move (Opd.tmp 7), none⟩, ⟨some 19, AOp.indexAddrS 1 (Opd.tmp 17) (Opd.tmp 18), none⟩, ⟨some 20, AOp.load (Opd.tmp 19), none⟩, ⟨some 21, AOp.conv (IntKind.u64) (Opd.tmp 20), none⟩, ⟨some
    22, AOp.move (Opd.tmp 7), none⟩, ⟨some 23, AOp.bin (BinOp.mul) (Opd.const (V.int (IntKind.i64) 8)) (Opd.tmp 22), none⟩, ⟨some 24, AOp.bin (BinOp.shl) (Opd.tmp 21) (Opd.tmp 23), none⟩, ⟨some 25,
    AOp.bin (BinOp.or) (Opd.tmp 16) (Opd.tmp 24), none⟩, ⟨some 6, AOp.move (Opd.tmp 25), none⟩]))) (ACode.region [⟨some 26, AOp.bin (BinOp.add) (Opd.tmp 13) (Opd.const (V.int (IntKind.i64) 1)), none⟩,
    ⟨some 13, AOp.move (Opd.tmp 26), none⟩])))
theorem c37_l0_wr : c37_l0.wr = [14, 15, 7, 16, 17, 18, 19, 20, 21, 22, 23, 24, 25, 6, 26, 13] := by kernel_rfl
/-- Function 37: octet.get. -/
def c37 : AFn :=
  ⟨28, [ARes.tmp 4, ARes.tmp 5], ACode.seq (ACode.region [⟨some 4, AOp.move (Opd.const (V.int (IntKind.u64) 0)), none⟩, ⟨some 5, AOp.move (Opd.const (V.bool false)), none⟩]) (ACode.seq (ACode.seq
    (ACode.region [⟨some 8, AOp.move (Opd.tmp 0), none⟩, ⟨some 9, AOp.lenL (Opd.tmp 8), none⟩, ⟨some 10, AOp.move (Opd.tmp 1), none⟩, ⟨some 11, AOp.bin (BinOp.lss) (Opd.tmp 9) (Opd.tmp 10), none⟩])
    (ACode.cond (Opd.tmp 11) (ACode.seq (ACode.region [⟨some 4, AOp.move (Opd.const (V.int (IntKind.u64) 0)), none⟩, ⟨some 5, AOp.move (Opd.const (V.bool false)), none⟩]) (ACode.ret)) (ACode.skip)))
    (ACode.seq (ACode.region [⟨some 6, AOp.move (Opd.const (V.int (IntKind.u64) 0)), none⟩]) (ACode.seq (ACode.seq (ACode.region [⟨some 12, AOp.move (Opd.tmp 1), none⟩, ⟨some 13, AOp.move (Opd.const
    (V.int (IntKind.i64) 0)), none⟩]) (ACode.block 0 (ACode.loop c37_l0))) (ACode.seq (ACode.region [⟨some 27, AOp.move (Opd.tmp 6), none⟩, ⟨some 4, AOp.move (Opd.tmp 27), none⟩, ⟨some 5, AOp.move
    (Opd.const (V.bool true)), none⟩]) (ACode.ret)))))⟩
theorem h37 : compFn Tryd.prog Tryd.f37 = some c37 := by kernel_rfl
def tab (f : Nat) : Option AFn :=
  if f = 4 then some c4 else if f = 6 then some c6 else if f = 7 then some c7 else if f = 8 then some c8 else if f = 9 then some c9 else if f = 10 then some c10 else if f = 11 then some c11 else if f = 12 then some c12 else if f = 13 then some c13 else if f = 14 then some c14 else if f = 15 then some c15 else if f = 19 then some c19 else if f = 20 then some c20 else if f = 21 then some c21 else if f = 22 then some c22 else if f = 23 then some c23 else if f = 24 then some c24 else if f = 25 then some c25 else if f = 26 then some c26 else if f = 27 then some c27 else if f = 32 then some c32 else if f = 33 then some c33 else if f = 37 then some c37 else none
theorem tab_holds : Holds Tryd.prog tab := by
  intro f fn hf
  unfold tab at hf
  by_cases e4 : f = 4
  · rw [if_pos e4] at hf; subst e4; cases hf; exact ⟨_, Tryd.func4, h4⟩
  rw [if_neg e4] at hf
  by_cases e6 : f = 6
  · rw [if_pos e6] at hf; subst e6; cases hf; exact ⟨_, Tryd.func6, h6⟩
  rw [if_neg e6] at hf
  by_cases e7 : f = 7
  · rw [if_pos e7] at hf; subst e7; cases hf; exact ⟨_, Tryd.func7, h7⟩
  rw [if_neg e7] at hf
  by_cases e8 : f = 8
  · rw [if_pos e8] at hf; subst e8; cases hf; exact ⟨_, Tryd.func8, h8⟩
  rw [if_neg e8] at hf
  by_cases e9 : f = 9
  · rw [if_pos e9] at hf; subst e9; cases hf; exact ⟨_, Tryd.func9, h9⟩
  rw [if_neg e9] at hf
  by_cases e10 : f = 10
  · rw [if_pos e10] at hf; subst e10; cases hf; exact ⟨_, Tryd.func10, h10⟩
  rw [if_neg e10] at hf
  by_cases e11 : f = 11
  · rw [if_pos e11] at hf; subst e11; cases hf; exact ⟨_, Tryd.func11, h11⟩
  rw [if_neg e11] at hf
  by_cases e12 : f = 12
  · rw [if_pos e12] at hf; subst e12; cases hf; exact ⟨_, Tryd.func12, h12⟩
  rw [if_neg e12] at hf
  by_cases e13 : f = 13
  · rw [if_pos e13] at hf; subst e13; cases hf; exact ⟨_, Tryd.func13, h13⟩
  rw [if_neg e13] at hf
  by_cases e14 : f = 14
  · rw [if_pos e14] at hf; subst e14; cases hf; exact ⟨_, Tryd.func14, h14⟩
  rw [if_neg e14] at hf
  by_cases e15 : f = 15
  · rw [if_pos e15] at hf; subst e15; cases hf; exact ⟨_, Tryd.func15, h15⟩
  rw [if_neg e15] at hf
  by_cases e19 : f = 19
  · rw [if_pos e19] at hf; subst e19; cases hf; exact ⟨_, Tryd.func19, h19⟩
  rw [if_neg e19] at hf
  by_cases e20 : f = 20
  · rw [if_pos e20] at hf; subst e20; cases hf; exact ⟨_, Tryd.func20, h20⟩
  rw [if_neg e20] at hf
  by_cases e21 : f = 21
  · rw [if_pos e21] at hf; subst e21; cases hf; exact ⟨_, Tryd.func21, h21⟩
  rw [if_neg e21] at hf
  by_cases e22 : f = 22
  · rw [if_pos e22] at hf; subst e22; cases hf; exact ⟨_, Tryd.func22, h22⟩
  rw [if_neg e22] at hf
  by_cases e23 : f = 23
  · rw [if_pos e23] at hf; subst e23; cases hf; exact ⟨_, Tryd.func23, h23⟩
  rw [if_neg e23] at hf
  by_cases e24 : f = 24
  · rw [if_pos e24] at hf; subst e24; cases hf; exact ⟨_, Tryd.func24, h24⟩
  rw [if_neg e24] at hf
  by_cases e25 : f = 25
  · rw [if_pos e25] at hf; subst e25; cases hf; exact ⟨_, Tryd.func25, h25⟩
  rw [if_neg e25] at hf
  by_cases e26 : f = 26
  · rw [if_pos e26] at hf; subst e26; cases hf; exact ⟨_, Tryd.func26, h26⟩
  rw [if_neg e26] at hf
  by_cases e27 : f = 27
  · rw [if_pos e27] at hf; subst e27; cases hf; exact ⟨_, Tryd.func27, h27⟩
  rw [if_neg e27] at hf
  by_cases e32 : f = 32
  · rw [if_pos e32] at hf; subst e32; cases hf; exact ⟨_, Tryd.func32, h32⟩
  rw [if_neg e32] at hf
  by_cases e33 : f = 33
  · rw [if_pos e33] at hf; subst e33; cases hf; exact ⟨_, Tryd.func33, h33⟩
  rw [if_neg e33] at hf
  by_cases e37 : f = 37
  · rw [if_pos e37] at hf; subst e37; cases hf; exact ⟨_, Tryd.func37, h37⟩
  rw [if_neg e37] at hf
  cases hf
end Go.Proofs.YtjdofdokdemnkaaDoor.ChachaApplies
