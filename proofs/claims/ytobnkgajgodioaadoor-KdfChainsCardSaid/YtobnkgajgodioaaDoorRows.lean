/-
  NARROWER THAN 'FOR EVERY INPUT', by the rows' own cells (each row's printed sentence says how): KdfKnown: laid · KdfHmac: laid · KdfDerives: laid · KdfChains: laid.
  DERIVED. THE GIVEN ROWS OF THIS SEAT. 4 by the template 'for every input the law returns true; each argument reads behind the call as it read before'; 0 by the template 'total and deterministic' (their statements: YtobnkgajgodioaaDoorTotals.lean).
  GIVEN WITH THE SEED: the statements are not yours to turn. If you find one false, say at which input.
  Laid BY PROGRAM, IN A SANDBOX (cutbox-rows.mjs): the forced cells as the released guide's own fill.sh prints them over the translation fe3b771336534616… (all of the seat's roots in one cut). By AI agents, Wed Nov 11 2026. No macro, syntax, notation, axiom, sorry.
-/
import Derived.Test.YtobnkgajgodioaaDoorChecked
import GoSem.Claim
import GoSem.ClaimJoined
import GoSem.ClaimMapViews
import Derived.JoinedTies
import Derived.KernelRfl
namespace Go.Proofs.YtobnkgajgodioaaDoor
/- THE CELL 'sum', in the pinned program and in every row, IS THE sha256 OF THE DUMP (.gsa) THAT YtobnkgajgodioaaDoorProg.lean LOADS. Nothing in Lean hashes anything: it is a label: what it is worth is what the hold of that sum in a sandbox is worth. -/
noncomputable def Tryd.pinned : Pinned := { name := "ytobnkgajgodioaadoor", sum := "fe3b771336534616677f15339c6d373e6d2bb3db3e5f42c4e7d8b2f826f4154e", checked := Tryd.checked }
namespace Rows
def none {H : Type} : Left H := { results := [], args := [] }

/- WHAT THE LISTED PACKAGE-LEVEL VARIABLES READ AS WHEN THE CALL BEGINS. Each datum BY PROGRAM (the guide's laid-datum.mjs) off the statement by which the dump's own 'gosem.cut.vars' lays the variable. In a bare row this is a premise. The card (YtobnkgajgodioaaDoorCards.lean) ties it to the program's text. -/
def laid_porthole_portholeref4_rows {H : Type} : DataW H := .agg [.agg [.lit (.int .i64 0), .lit (.int .i64 4), .lit (.int .i64 8), .lit (.int .i64 12)], .agg [.lit (.int .i64 1), .lit (.int .i64 5), .lit (.int .i64 9), .lit (.int .i64 13)], .agg [.lit (.int .i64 2), .lit (.int .i64 6), .lit (.int .i64 10), .lit (.int .i64 14)], .agg [.lit (.int .i64 3), .lit (.int .i64 7), .lit (.int .i64 11), .lit (.int .i64 15)], .agg [.lit (.int .i64 0), .lit (.int .i64 5), .lit (.int .i64 10), .lit (.int .i64 15)], .agg [.lit (.int .i64 1), .lit (.int .i64 6), .lit (.int .i64 11), .lit (.int .i64 12)], .agg [.lit (.int .i64 2), .lit (.int .i64 7), .lit (.int .i64 8), .lit (.int .i64 13)], .agg [.lit (.int .i64 3), .lit (.int .i64 4), .lit (.int .i64 9), .lit (.int .i64 14)]]
def laid_porthole_portholeref4_iv {H : Type} : DataW H := .agg [.lit (.int .u32 1779033703), .lit (.int .u32 3144134277), .lit (.int .u32 1013904242), .lit (.int .u32 2773480762), .lit (.int .u32 1359893119), .lit (.int .u32 2600822924), .lit (.int .u32 528734635), .lit (.int .u32 1541459225)]
def laid_porthole_portholeref4_sigma {H : Type} : DataW H := .agg [.agg [.lit (.int .i64 0), .lit (.int .i64 1), .lit (.int .i64 2), .lit (.int .i64 3), .lit (.int .i64 4), .lit (.int .i64 5), .lit (.int .i64 6), .lit (.int .i64 7), .lit (.int .i64 8), .lit (.int .i64 9), .lit (.int .i64 10), .lit (.int .i64 11), .lit (.int .i64 12), .lit (.int .i64 13), .lit (.int .i64 14), .lit (.int .i64 15)], .agg [.lit (.int .i64 14), .lit (.int .i64 10), .lit (.int .i64 4), .lit (.int .i64 8), .lit (.int .i64 9), .lit (.int .i64 15), .lit (.int .i64 13), .lit (.int .i64 6), .lit (.int .i64 1), .lit (.int .i64 12), .lit (.int .i64 0), .lit (.int .i64 2), .lit (.int .i64 11), .lit (.int .i64 7), .lit (.int .i64 5), .lit (.int .i64 3)], .agg [.lit (.int .i64 11), .lit (.int .i64 8), .lit (.int .i64 12), .lit (.int .i64 0), .lit (.int .i64 5), .lit (.int .i64 2), .lit (.int .i64 15), .lit (.int .i64 13), .lit (.int .i64 10), .lit (.int .i64 14), .lit (.int .i64 3), .lit (.int .i64 6), .lit (.int .i64 7), .lit (.int .i64 1), .lit (.int .i64 9), .lit (.int .i64 4)], .agg [.lit (.int .i64 7), .lit (.int .i64 9), .lit (.int .i64 3), .lit (.int .i64 1), .lit (.int .i64 13), .lit (.int .i64 12), .lit (.int .i64 11), .lit (.int .i64 14), .lit (.int .i64 2), .lit (.int .i64 6), .lit (.int .i64 5), .lit (.int .i64 10), .lit (.int .i64 4), .lit (.int .i64 0), .lit (.int .i64 15), .lit (.int .i64 8)], .agg [.lit (.int .i64 9), .lit (.int .i64 0), .lit (.int .i64 5), .lit (.int .i64 7), .lit (.int .i64 2), .lit (.int .i64 4), .lit (.int .i64 10), .lit (.int .i64 15), .lit (.int .i64 14), .lit (.int .i64 1), .lit (.int .i64 11), .lit (.int .i64 12), .lit (.int .i64 6), .lit (.int .i64 8), .lit (.int .i64 3), .lit (.int .i64 13)], .agg [.lit (.int .i64 2), .lit (.int .i64 12), .lit (.int .i64 6), .lit (.int .i64 10), .lit (.int .i64 0), .lit (.int .i64 11), .lit (.int .i64 8), .lit (.int .i64 3), .lit (.int .i64 4), .lit (.int .i64 13), .lit (.int .i64 7), .lit (.int .i64 5), .lit (.int .i64 15), .lit (.int .i64 14), .lit (.int .i64 1), .lit (.int .i64 9)], .agg [.lit (.int .i64 12), .lit (.int .i64 5), .lit (.int .i64 1), .lit (.int .i64 15), .lit (.int .i64 14), .lit (.int .i64 13), .lit (.int .i64 4), .lit (.int .i64 10), .lit (.int .i64 0), .lit (.int .i64 7), .lit (.int .i64 6), .lit (.int .i64 3), .lit (.int .i64 9), .lit (.int .i64 2), .lit (.int .i64 8), .lit (.int .i64 11)], .agg [.lit (.int .i64 13), .lit (.int .i64 11), .lit (.int .i64 7), .lit (.int .i64 14), .lit (.int .i64 12), .lit (.int .i64 1), .lit (.int .i64 3), .lit (.int .i64 9), .lit (.int .i64 5), .lit (.int .i64 0), .lit (.int .i64 15), .lit (.int .i64 4), .lit (.int .i64 8), .lit (.int .i64 6), .lit (.int .i64 2), .lit (.int .i64 10)], .agg [.lit (.int .i64 6), .lit (.int .i64 15), .lit (.int .i64 14), .lit (.int .i64 9), .lit (.int .i64 11), .lit (.int .i64 3), .lit (.int .i64 0), .lit (.int .i64 8), .lit (.int .i64 12), .lit (.int .i64 2), .lit (.int .i64 13), .lit (.int .i64 7), .lit (.int .i64 1), .lit (.int .i64 4), .lit (.int .i64 10), .lit (.int .i64 5)], .agg [.lit (.int .i64 10), .lit (.int .i64 2), .lit (.int .i64 8), .lit (.int .i64 4), .lit (.int .i64 7), .lit (.int .i64 6), .lit (.int .i64 1), .lit (.int .i64 5), .lit (.int .i64 15), .lit (.int .i64 11), .lit (.int .i64 9), .lit (.int .i64 14), .lit (.int .i64 3), .lit (.int .i64 12), .lit (.int .i64 13), .lit (.int .i64 0)]]

/-- 'portholelaw8.KdfKnown': WHATEVER THE INPUT: true; the input reads as it did. -/
def kdfKnownSpec : ChangeSpec := { name := "kdfKnown", fn := fun _ => fun
  | [] => { results := [.lit (.bool true)], args := [] }
  | _ => none }
def kdfKnownRow : OpenClaim := { program := "ytobnkgajgodioaadoor", sum := "fe3b771336534616677f15339c6d373e6d2bb3db3e5f42c4e7d8b2f826f4154e", func := "porthole/portholelaw8.KdfKnown", spec := "kdfKnown", unfollowed := true, recurses := true, named := ["porthole/portholeref4.iv", "porthole/portholeref4.rows", "porthole/portholeref4.sigma"], apart := false, laid := [("porthole/portholeref4.rows", laid_porthole_portholeref4_rows), ("porthole/portholeref4.iv", laid_porthole_portholeref4_iv), ("porthole/portholeref4.sigma", laid_porthole_portholeref4_sigma)] }
def KdfKnownSaid : Prop := kdfKnownRow.holds Tryd.pinned (OpenSpec.ofChange kdfKnownSpec)

/-- ITS FALSE NEIGHBOUR: 'it returns false'. Refute it at one input. -/
def kdfKnownWrong : ChangeSpec := { name := "kdfKnown", fn := fun _ => fun
  | [] => { results := [.lit (.bool false)], args := [] }
  | _ => none }
def KdfKnownWrongFalsely : Prop := kdfKnownRow.holds Tryd.pinned (OpenSpec.ofChange kdfKnownWrong)

/-- 'portholelaw8.KdfHmac': WHATEVER THE INPUT: true; the input reads as it did. -/
def kdfHmacSpec : ChangeSpec := { name := "kdfHmac", fn := fun _ => fun
  | [d1, d2, d3] => { results := [.lit (.bool true)], args := [d1, d2, d3] }
  | _ => none }
def kdfHmacRow : OpenClaim := { program := "ytobnkgajgodioaadoor", sum := "fe3b771336534616677f15339c6d373e6d2bb3db3e5f42c4e7d8b2f826f4154e", func := "porthole/portholelaw8.KdfHmac", spec := "kdfHmac", unfollowed := true, recurses := true, named := ["porthole/portholeref4.iv", "porthole/portholeref4.rows", "porthole/portholeref4.sigma"], apart := false, laid := [("porthole/portholeref4.rows", laid_porthole_portholeref4_rows), ("porthole/portholeref4.iv", laid_porthole_portholeref4_iv), ("porthole/portholeref4.sigma", laid_porthole_portholeref4_sigma)] }
def KdfHmacSaid : Prop := kdfHmacRow.holds Tryd.pinned (OpenSpec.ofChange kdfHmacSpec)

/-- ITS FALSE NEIGHBOUR: 'it returns false'. Refute it at one input. -/
def kdfHmacWrong : ChangeSpec := { name := "kdfHmac", fn := fun _ => fun
  | [d1, d2, d3] => { results := [.lit (.bool false)], args := [d1, d2, d3] }
  | _ => none }
def KdfHmacWrongFalsely : Prop := kdfHmacRow.holds Tryd.pinned (OpenSpec.ofChange kdfHmacWrong)

/-- 'portholelaw8.KdfDerives': WHATEVER THE INPUT: true; the input reads as it did. -/
def kdfDerivesSpec : ChangeSpec := { name := "kdfDerives", fn := fun _ => fun
  | [d1, d2, d3] => { results := [.lit (.bool true)], args := [d1, d2, d3] }
  | _ => none }
def kdfDerivesRow : OpenClaim := { program := "ytobnkgajgodioaadoor", sum := "fe3b771336534616677f15339c6d373e6d2bb3db3e5f42c4e7d8b2f826f4154e", func := "porthole/portholelaw8.KdfDerives", spec := "kdfDerives", unfollowed := true, recurses := true, named := ["porthole/portholeref4.iv", "porthole/portholeref4.rows", "porthole/portholeref4.sigma"], apart := false, laid := [("porthole/portholeref4.rows", laid_porthole_portholeref4_rows), ("porthole/portholeref4.iv", laid_porthole_portholeref4_iv), ("porthole/portholeref4.sigma", laid_porthole_portholeref4_sigma)] }
def KdfDerivesSaid : Prop := kdfDerivesRow.holds Tryd.pinned (OpenSpec.ofChange kdfDerivesSpec)

/-- ITS FALSE NEIGHBOUR: 'it returns false'. Refute it at one input. -/
def kdfDerivesWrong : ChangeSpec := { name := "kdfDerives", fn := fun _ => fun
  | [d1, d2, d3] => { results := [.lit (.bool false)], args := [d1, d2, d3] }
  | _ => none }
def KdfDerivesWrongFalsely : Prop := kdfDerivesRow.holds Tryd.pinned (OpenSpec.ofChange kdfDerivesWrong)

/-- 'portholelaw8.KdfChains': WHATEVER THE INPUT: true; the input reads as it did. -/
def kdfChainsSpec : ChangeSpec := { name := "kdfChains", fn := fun _ => fun
  | [d1, d2] => { results := [.lit (.bool true)], args := [d1, d2] }
  | _ => none }
def kdfChainsRow : OpenClaim := { program := "ytobnkgajgodioaadoor", sum := "fe3b771336534616677f15339c6d373e6d2bb3db3e5f42c4e7d8b2f826f4154e", func := "porthole/portholelaw8.KdfChains", spec := "kdfChains", unfollowed := true, recurses := true, named := ["porthole/portholeref4.iv", "porthole/portholeref4.rows", "porthole/portholeref4.sigma"], apart := false, laid := [("porthole/portholeref4.rows", laid_porthole_portholeref4_rows), ("porthole/portholeref4.iv", laid_porthole_portholeref4_iv), ("porthole/portholeref4.sigma", laid_porthole_portholeref4_sigma)] }
def KdfChainsSaid : Prop := kdfChainsRow.holds Tryd.pinned (OpenSpec.ofChange kdfChainsSpec)

/-- ITS FALSE NEIGHBOUR: 'it returns false'. Refute it at one input. -/
def kdfChainsWrong : ChangeSpec := { name := "kdfChains", fn := fun _ => fun
  | [d1, d2] => { results := [.lit (.bool false)], args := [d1, d2] }
  | _ => none }
def KdfChainsWrongFalsely : Prop := kdfChainsRow.holds Tryd.pinned (OpenSpec.ofChange kdfChainsWrong)

/- THE SECOND FORM. 'bulk': how many values and letters a reading holds, each counted each time it is reached (what is shared counts as often as it is met; a slice's spare places count too). A statement '..UptoSaid' is the law's where the arguments, and the package variables that the reading takes, are together of bulk at most 1048576: NARROWER than '..Said'. Prove '..Said' where nothing that the law and all that it calls make is longer than what came in: it says more and counts as full. Else prove '..UptoSaid'. A law counts once. -/
mutual
def uptoBulk {H : Type} : DataW H → Nat
  | .lit (.string bytes) => bytes.length + 1
  | .lit _ => 1
  | .nil => 1
  | .ptr d => uptoBulk d + 1
  | .slice elems spare => uptoBulkAll elems + uptoBulkAll spare + 1
  | .agg parts => uptoBulkAll parts + 1
  | .iface _ d => uptoBulk d + 1
  | .map entries => uptoBulkEntries entries + 1
  | .held _ => 1
def uptoBulkAll {H : Type} : List (DataW H) → Nat
  | [] => 0
  | d :: r => uptoBulk d + uptoBulkAll r
def uptoBulkEntries {H : Type} : List (Lit × DataW H) → Nat
  | [] => 0
  | x :: r => uptoBulkEntry x + uptoBulkEntries r
def uptoBulkEntry {H : Type} : Lit × DataW H → Nat
  | (.string bytes, d) => bytes.length + uptoBulk d + 1
  | (_, d) => uptoBulk d + 1
 end
def uptoSmall : (H : Type) → List (DataW H) → Bool := fun _ ds => decide (uptoBulkAll ds ≤ 1048576)
def OpenSpec.upto (s : _root_.Go.ChangeSpec) : _root_.Go.OpenSpec := { _root_.Go.OpenSpec.ofChange s with cond := some uptoSmall }

/-- 'portholelaw8.KdfKnown', WHERE WHAT IT READS IS OF BULK AT MOST 1048576: true; the input reads as it did. -/
def kdfKnownUptoRow : OpenClaim := { program := "ytobnkgajgodioaadoor", sum := "fe3b771336534616677f15339c6d373e6d2bb3db3e5f42c4e7d8b2f826f4154e", func := "porthole/portholelaw8.KdfKnown", spec := "kdfKnown", unfollowed := true, recurses := true, named := ["porthole/portholeref4.iv", "porthole/portholeref4.rows", "porthole/portholeref4.sigma"], apart := false, laid := [("porthole/portholeref4.rows", laid_porthole_portholeref4_rows), ("porthole/portholeref4.iv", laid_porthole_portholeref4_iv), ("porthole/portholeref4.sigma", laid_porthole_portholeref4_sigma)], narrowed := true }
def KdfKnownUptoSaid : Prop := kdfKnownUptoRow.holds Tryd.pinned (OpenSpec.upto kdfKnownSpec)

/-- 'portholelaw8.KdfHmac', WHERE WHAT IT READS IS OF BULK AT MOST 1048576: true; the input reads as it did. -/
def kdfHmacUptoRow : OpenClaim := { program := "ytobnkgajgodioaadoor", sum := "fe3b771336534616677f15339c6d373e6d2bb3db3e5f42c4e7d8b2f826f4154e", func := "porthole/portholelaw8.KdfHmac", spec := "kdfHmac", unfollowed := true, recurses := true, named := ["porthole/portholeref4.iv", "porthole/portholeref4.rows", "porthole/portholeref4.sigma"], apart := false, laid := [("porthole/portholeref4.rows", laid_porthole_portholeref4_rows), ("porthole/portholeref4.iv", laid_porthole_portholeref4_iv), ("porthole/portholeref4.sigma", laid_porthole_portholeref4_sigma)], narrowed := true }
def KdfHmacUptoSaid : Prop := kdfHmacUptoRow.holds Tryd.pinned (OpenSpec.upto kdfHmacSpec)

/-- 'portholelaw8.KdfDerives', WHERE WHAT IT READS IS OF BULK AT MOST 1048576: true; the input reads as it did. -/
def kdfDerivesUptoRow : OpenClaim := { program := "ytobnkgajgodioaadoor", sum := "fe3b771336534616677f15339c6d373e6d2bb3db3e5f42c4e7d8b2f826f4154e", func := "porthole/portholelaw8.KdfDerives", spec := "kdfDerives", unfollowed := true, recurses := true, named := ["porthole/portholeref4.iv", "porthole/portholeref4.rows", "porthole/portholeref4.sigma"], apart := false, laid := [("porthole/portholeref4.rows", laid_porthole_portholeref4_rows), ("porthole/portholeref4.iv", laid_porthole_portholeref4_iv), ("porthole/portholeref4.sigma", laid_porthole_portholeref4_sigma)], narrowed := true }
def KdfDerivesUptoSaid : Prop := kdfDerivesUptoRow.holds Tryd.pinned (OpenSpec.upto kdfDerivesSpec)

/-- 'portholelaw8.KdfChains', WHERE WHAT IT READS IS OF BULK AT MOST 1048576: true; the input reads as it did. -/
def kdfChainsUptoRow : OpenClaim := { program := "ytobnkgajgodioaadoor", sum := "fe3b771336534616677f15339c6d373e6d2bb3db3e5f42c4e7d8b2f826f4154e", func := "porthole/portholelaw8.KdfChains", spec := "kdfChains", unfollowed := true, recurses := true, named := ["porthole/portholeref4.iv", "porthole/portholeref4.rows", "porthole/portholeref4.sigma"], apart := false, laid := [("porthole/portholeref4.rows", laid_porthole_portholeref4_rows), ("porthole/portholeref4.iv", laid_porthole_portholeref4_iv), ("porthole/portholeref4.sigma", laid_porthole_portholeref4_sigma)], narrowed := true }
def KdfChainsUptoSaid : Prop := kdfChainsUptoRow.holds Tryd.pinned (OpenSpec.upto kdfChainsSpec)

end Rows
end Go.Proofs.YtobnkgajgodioaaDoor
