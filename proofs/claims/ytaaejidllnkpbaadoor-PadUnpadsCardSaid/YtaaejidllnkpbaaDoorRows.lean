/-
  NARROWER THAN 'FOR EVERY INPUT', by the rows' own cells (each row's printed sentence says how): PadPads: laid · PadUnpads: laid.
  DERIVED. THE GIVEN ROWS OF THIS SEAT. 2 by the template 'for every input the law returns true; each argument reads behind the call as it read before'; 0 by the template 'total and deterministic' (their statements: YtaaejidllnkpbaaDoorTotals.lean).
  GIVEN WITH THE SEED: the statements are not yours to turn. If you find one false, say at which input.
  Laid BY PROGRAM, IN A SANDBOX (cutbox-rows.mjs): the forced cells as the released guide's own fill.sh prints them over the translation fac139f4f18f0965… (all of the seat's roots in one cut). By AI agents, Wed Nov 11 2026. No macro, syntax, notation, axiom, sorry.
-/
import Derived.Test.YtaaejidllnkpbaaDoorChecked
import GoSem.Claim
import GoSem.ClaimJoined
import GoSem.ClaimMapViews
import Derived.JoinedTies
import Derived.KernelRfl
namespace Go.Proofs.YtaaejidllnkpbaaDoor
/- THE CELL 'sum', in the pinned program and in every row, IS THE sha256 OF THE DUMP (.gsa) THAT YtaaejidllnkpbaaDoorProg.lean LOADS. Nothing in Lean hashes anything: it is a label: what it is worth is what the hold of that sum in a sandbox is worth. -/
noncomputable def Tryd.pinned : Pinned := { name := "ytaaejidllnkpbaadoor", sum := "fac139f4f18f09654d697be5a6244ac2632fa5c89ff277a45a2183563d783c68", checked := Tryd.checked }
namespace Rows
def none {H : Type} : Left H := { results := [], args := [] }

/- WHAT THE LISTED PACKAGE-LEVEL VARIABLES READ AS WHEN THE CALL BEGINS. Each datum BY PROGRAM (the guide's laid-datum.mjs) off the statement by which the dump's own 'gosem.cut.vars' lays the variable. In a bare row this is a premise. The card (YtaaejidllnkpbaaDoorCards.lean) ties it to the program's text. -/
def laid_porthole_portholeref15_sizes {H : Type} : DataW H := .agg [.lit (.int .i64 64), .lit (.int .i64 256), .lit (.int .i64 1024), .lit (.int .i64 3968)]

/-- 'portholelaw15.PadPads': WHATEVER THE INPUT: true; the input reads as it did. -/
def padPadsSpec : ChangeSpec := { name := "padPads", fn := fun _ => fun
  | [d1, d2, d3, d4] => { results := [.lit (.bool true)], args := [d1, d2, d3, d4] }
  | _ => none }
def padPadsRow : OpenClaim := { program := "ytaaejidllnkpbaadoor", sum := "fac139f4f18f09654d697be5a6244ac2632fa5c89ff277a45a2183563d783c68", func := "porthole/portholelaw15.PadPads", spec := "padPads", named := ["porthole/portholeref15.sizes"], apart := false, laid := [("porthole/portholeref15.sizes", laid_porthole_portholeref15_sizes)] }
def PadPadsSaid : Prop := padPadsRow.holds Tryd.pinned (OpenSpec.ofChange padPadsSpec)

/-- ITS FALSE NEIGHBOUR: 'it returns false'. Refute it at one input. -/
def padPadsWrong : ChangeSpec := { name := "padPads", fn := fun _ => fun
  | [d1, d2, d3, d4] => { results := [.lit (.bool false)], args := [d1, d2, d3, d4] }
  | _ => none }
def PadPadsWrongFalsely : Prop := padPadsRow.holds Tryd.pinned (OpenSpec.ofChange padPadsWrong)

/-- 'portholelaw15.PadUnpads': WHATEVER THE INPUT: true; the input reads as it did. -/
def padUnpadsSpec : ChangeSpec := { name := "padUnpads", fn := fun _ => fun
  | [d1, d2, d3, d4, d5] => { results := [.lit (.bool true)], args := [d1, d2, d3, d4, d5] }
  | _ => none }
def padUnpadsRow : OpenClaim := { program := "ytaaejidllnkpbaadoor", sum := "fac139f4f18f09654d697be5a6244ac2632fa5c89ff277a45a2183563d783c68", func := "porthole/portholelaw15.PadUnpads", spec := "padUnpads", named := ["porthole/portholeref15.sizes"], apart := false, laid := [("porthole/portholeref15.sizes", laid_porthole_portholeref15_sizes)] }
def PadUnpadsSaid : Prop := padUnpadsRow.holds Tryd.pinned (OpenSpec.ofChange padUnpadsSpec)

/-- ITS FALSE NEIGHBOUR: 'it returns false'. Refute it at one input. -/
def padUnpadsWrong : ChangeSpec := { name := "padUnpads", fn := fun _ => fun
  | [d1, d2, d3, d4, d5] => { results := [.lit (.bool false)], args := [d1, d2, d3, d4, d5] }
  | _ => none }
def PadUnpadsWrongFalsely : Prop := padUnpadsRow.holds Tryd.pinned (OpenSpec.ofChange padUnpadsWrong)

/- THE SECOND FORM. 'bulk': how many values and letters a reading holds, each counted each time it is reached (what is shared counts as often as it is met; a slice's spare places count too). A statement '..UptoSaid' is the law's where the arguments, and the package variables that the reading takes, are together of bulk at most 1048576: NARROWER than '..Said'. Prove '..Said' where nothing that the law and all that it calls make is longer than what came in: it says more and counts as full. Else prove '..UptoSaid'. A law counts once. -/
mutual
def uptoBulk {H : Type} : DataW H → Nat
  | .lit (.string bytes) => bytes.length + 1
  | .lit _ => 1
  | .nil => 1
  | .ptr d => uptoBulk d + 1
  | .slice elems spare => uptoBulkAll elems + uptoBulkAll spare + 1
  | .agg parts => uptoBulkAll parts + 1
  | .iface _ d => uptoBulk d + 1
  | .map entries => uptoBulkEntries entries + 1
  | .held _ => 1
def uptoBulkAll {H : Type} : List (DataW H) → Nat
  | [] => 0
  | d :: r => uptoBulk d + uptoBulkAll r
def uptoBulkEntries {H : Type} : List (Lit × DataW H) → Nat
  | [] => 0
  | x :: r => uptoBulkEntry x + uptoBulkEntries r
def uptoBulkEntry {H : Type} : Lit × DataW H → Nat
  | (.string bytes, d) => bytes.length + uptoBulk d + 1
  | (_, d) => uptoBulk d + 1
 end
def uptoSmall : (H : Type) → List (DataW H) → Bool := fun _ ds => decide (uptoBulkAll ds ≤ 1048576)
def OpenSpec.upto (s : _root_.Go.ChangeSpec) : _root_.Go.OpenSpec := { _root_.Go.OpenSpec.ofChange s with cond := some uptoSmall }

/-- 'portholelaw15.PadPads', WHERE WHAT IT READS IS OF BULK AT MOST 1048576: true; the input reads as it did. -/
def padPadsUptoRow : OpenClaim := { program := "ytaaejidllnkpbaadoor", sum := "fac139f4f18f09654d697be5a6244ac2632fa5c89ff277a45a2183563d783c68", func := "porthole/portholelaw15.PadPads", spec := "padPads", named := ["porthole/portholeref15.sizes"], apart := false, laid := [("porthole/portholeref15.sizes", laid_porthole_portholeref15_sizes)], narrowed := true }
def PadPadsUptoSaid : Prop := padPadsUptoRow.holds Tryd.pinned (OpenSpec.upto padPadsSpec)

/-- 'portholelaw15.PadUnpads', WHERE WHAT IT READS IS OF BULK AT MOST 1048576: true; the input reads as it did. -/
def padUnpadsUptoRow : OpenClaim := { program := "ytaaejidllnkpbaadoor", sum := "fac139f4f18f09654d697be5a6244ac2632fa5c89ff277a45a2183563d783c68", func := "porthole/portholelaw15.PadUnpads", spec := "padUnpads", named := ["porthole/portholeref15.sizes"], apart := false, laid := [("porthole/portholeref15.sizes", laid_porthole_portholeref15_sizes)], narrowed := true }
def PadUnpadsUptoSaid : Prop := padUnpadsUptoRow.holds Tryd.pinned (OpenSpec.upto padUnpadsSpec)

end Rows
end Go.Proofs.YtaaejidllnkpbaaDoor
