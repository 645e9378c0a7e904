/-
  No cell of these rows narrows 'for every input' (looked for: loops, veiled, ifaces, maps, wideKeys, modest, calm, conditions, laid).
  DERIVED. THE GIVEN ROWS OF THIS SEAT. 7 by the template 'for every input the law returns true; each argument reads behind the call as it read before'; 0 by the template 'total and deterministic' (their statements: YtaaejidllnkpbaaTotals.lean).
  GIVEN WITH THE SEED: the statements are not yours to turn. If you find one false, say at which input.
  Laid BY PROGRAM, IN A SANDBOX (cutbox-rows.mjs): the forced cells as the released guide's own fill.sh prints them over the translation c9443049805e5240… (all of the seat's roots in one cut). By AI agents, Wed Nov 11 2026. No macro, syntax, notation, axiom, sorry.
-/
import Derived.Test.YtaaejidllnkpbaaChecked
import GoSem.Claim
import GoSem.ClaimJoined
import GoSem.ClaimMapViews
import Derived.JoinedTies
import Derived.KernelRfl
namespace Go.Proofs.Ytaaejidllnkpbaa
/- THE CELL 'sum', in the pinned program and in every row, IS THE sha256 OF THE DUMP (.gsa) THAT YtaaejidllnkpbaaProg.lean LOADS. Nothing in Lean hashes anything: it is a label: what it is worth is what the hold of that sum in a sandbox is worth. -/
noncomputable def Try.pinned : Pinned := { name := "ytaaejidllnkpbaa", sum := "c9443049805e5240efa704403152a15b57c7bd2b5c84f1ca7aa9a310f977e29b", checked := Try.checked }
namespace Rows
def none {H : Type} : Left H := { results := [], args := [] }

/-- 'portholelaw15.PadLeast': WHATEVER THE INPUT: true; the input reads as it did. -/
def padLeastSpec : ChangeSpec := { name := "padLeast", fn := fun _ => fun
  | [d] => { results := [.lit (.bool true)], args := [d] }
  | _ => none }
def padLeastRow : OpenClaim := { program := "ytaaejidllnkpbaa", sum := "c9443049805e5240efa704403152a15b57c7bd2b5c84f1ca7aa9a310f977e29b", func := "porthole/portholelaw15.PadLeast", spec := "padLeast", apart := false }
def PadLeastSaid : Prop := padLeastRow.holds Try.pinned (OpenSpec.ofChange padLeastSpec)

/-- ITS FALSE NEIGHBOUR: 'it returns false'. Refute it at one input. -/
def padLeastWrong : ChangeSpec := { name := "padLeast", fn := fun _ => fun
  | [d] => { results := [.lit (.bool false)], args := [d] }
  | _ => none }
def PadLeastWrongFalsely : Prop := padLeastRow.holds Try.pinned (OpenSpec.ofChange padLeastWrong)

/-- 'portholelaw1.OctetNumbers': WHATEVER THE INPUT: true; the input reads as it did. -/
def octetNumbersSpec : ChangeSpec := { name := "octetNumbers", fn := fun _ => fun
  | [d1, d2, d3] => { results := [.lit (.bool true)], args := [d1, d2, d3] }
  | _ => none }
def octetNumbersRow : OpenClaim := { program := "ytaaejidllnkpbaa", sum := "c9443049805e5240efa704403152a15b57c7bd2b5c84f1ca7aa9a310f977e29b", func := "porthole/portholelaw1.OctetNumbers", spec := "octetNumbers", apart := false }
def OctetNumbersSaid : Prop := octetNumbersRow.holds Try.pinned (OpenSpec.ofChange octetNumbersSpec)

/-- ITS FALSE NEIGHBOUR: 'it returns false'. Refute it at one input. -/
def octetNumbersWrong : ChangeSpec := { name := "octetNumbers", fn := fun _ => fun
  | [d1, d2, d3] => { results := [.lit (.bool false)], args := [d1, d2, d3] }
  | _ => none }
def OctetNumbersWrongFalsely : Prop := octetNumbersRow.holds Try.pinned (OpenSpec.ofChange octetNumbersWrong)

/-- 'portholelaw1.OctetKnown': WHATEVER THE INPUT: true; the input reads as it did. -/
def octetKnownSpec : ChangeSpec := { name := "octetKnown", fn := fun _ => fun
  | [] => { results := [.lit (.bool true)], args := [] }
  | _ => none }
def octetKnownRow : OpenClaim := { program := "ytaaejidllnkpbaa", sum := "c9443049805e5240efa704403152a15b57c7bd2b5c84f1ca7aa9a310f977e29b", func := "porthole/portholelaw1.OctetKnown", spec := "octetKnown", apart := false }
def OctetKnownSaid : Prop := octetKnownRow.holds Try.pinned (OpenSpec.ofChange octetKnownSpec)

/-- ITS FALSE NEIGHBOUR: 'it returns false'. Refute it at one input. -/
def octetKnownWrong : ChangeSpec := { name := "octetKnown", fn := fun _ => fun
  | [] => { results := [.lit (.bool false)], args := [] }
  | _ => none }
def OctetKnownWrongFalsely : Prop := octetKnownRow.holds Try.pinned (OpenSpec.ofChange octetKnownWrong)

/-- 'portholelaw1.OctetXors': WHATEVER THE INPUT: true; the input reads as it did. -/
def octetXorsSpec : ChangeSpec := { name := "octetXors", fn := fun _ => fun
  | [d1, d2, d3] => { results := [.lit (.bool true)], args := [d1, d2, d3] }
  | _ => none }
def octetXorsRow : OpenClaim := { program := "ytaaejidllnkpbaa", sum := "c9443049805e5240efa704403152a15b57c7bd2b5c84f1ca7aa9a310f977e29b", func := "porthole/portholelaw1.OctetXors", spec := "octetXors", apart := false }
def OctetXorsSaid : Prop := octetXorsRow.holds Try.pinned (OpenSpec.ofChange octetXorsSpec)

/-- ITS FALSE NEIGHBOUR: 'it returns false'. Refute it at one input. -/
def octetXorsWrong : ChangeSpec := { name := "octetXors", fn := fun _ => fun
  | [d1, d2, d3] => { results := [.lit (.bool false)], args := [d1, d2, d3] }
  | _ => none }
def OctetXorsWrongFalsely : Prop := octetXorsRow.holds Try.pinned (OpenSpec.ofChange octetXorsWrong)

/-- 'portholelaw1.OctetJoins': WHATEVER THE INPUT: true; the input reads as it did. -/
def octetJoinsSpec : ChangeSpec := { name := "octetJoins", fn := fun _ => fun
  | [d1, d2] => { results := [.lit (.bool true)], args := [d1, d2] }
  | _ => none }
def octetJoinsRow : OpenClaim := { program := "ytaaejidllnkpbaa", sum := "c9443049805e5240efa704403152a15b57c7bd2b5c84f1ca7aa9a310f977e29b", func := "porthole/portholelaw1.OctetJoins", spec := "octetJoins", apart := false }
def OctetJoinsSaid : Prop := octetJoinsRow.holds Try.pinned (OpenSpec.ofChange octetJoinsSpec)

/-- ITS FALSE NEIGHBOUR: 'it returns false'. Refute it at one input. -/
def octetJoinsWrong : ChangeSpec := { name := "octetJoins", fn := fun _ => fun
  | [d1, d2] => { results := [.lit (.bool false)], args := [d1, d2] }
  | _ => none }
def OctetJoinsWrongFalsely : Prop := octetJoinsRow.holds Try.pinned (OpenSpec.ofChange octetJoinsWrong)

/-- 'portholelaw15.PadKnown': WHATEVER THE INPUT: true; the input reads as it did. -/
def padKnownSpec : ChangeSpec := { name := "padKnown", fn := fun _ => fun
  | [] => { results := [.lit (.bool true)], args := [] }
  | _ => none }
def padKnownRow : OpenClaim := { program := "ytaaejidllnkpbaa", sum := "c9443049805e5240efa704403152a15b57c7bd2b5c84f1ca7aa9a310f977e29b", func := "porthole/portholelaw15.PadKnown", spec := "padKnown", apart := false }
def PadKnownSaid : Prop := padKnownRow.holds Try.pinned (OpenSpec.ofChange padKnownSpec)

/-- ITS FALSE NEIGHBOUR: 'it returns false'. Refute it at one input. -/
def padKnownWrong : ChangeSpec := { name := "padKnown", fn := fun _ => fun
  | [] => { results := [.lit (.bool false)], args := [] }
  | _ => none }
def PadKnownWrongFalsely : Prop := padKnownRow.holds Try.pinned (OpenSpec.ofChange padKnownWrong)

/-- 'portholelaw15.PadBack': WHATEVER THE INPUT: true; the input reads as it did. -/
def padBackSpec : ChangeSpec := { name := "padBack", fn := fun _ => fun
  | [d1, d2, d3] => { results := [.lit (.bool true)], args := [d1, d2, d3] }
  | _ => none }
def padBackRow : OpenClaim := { program := "ytaaejidllnkpbaa", sum := "c9443049805e5240efa704403152a15b57c7bd2b5c84f1ca7aa9a310f977e29b", func := "porthole/portholelaw15.PadBack", spec := "padBack", apart := false }
def PadBackSaid : Prop := padBackRow.holds Try.pinned (OpenSpec.ofChange padBackSpec)

/-- ITS FALSE NEIGHBOUR: 'it returns false'. Refute it at one input. -/
def padBackWrong : ChangeSpec := { name := "padBack", fn := fun _ => fun
  | [d1, d2, d3] => { results := [.lit (.bool false)], args := [d1, d2, d3] }
  | _ => none }
def PadBackWrongFalsely : Prop := padBackRow.holds Try.pinned (OpenSpec.ofChange padBackWrong)

/- THE SECOND FORM. 'bulk': how many values and letters a reading holds, each counted each time it is reached (what is shared counts as often as it is met; a slice's spare places count too). A statement '..UptoSaid' is the law's where the arguments, and the package variables that the reading takes, are together of bulk at most 1048576: NARROWER than '..Said'. Prove '..Said' where nothing that the law and all that it calls make is longer than what came in: it says more and counts as full. Else prove '..UptoSaid'. A law counts once. -/
mutual
def uptoBulk {H : Type} : DataW H → Nat
  | .lit (.string bytes) => bytes.length + 1
  | .lit _ => 1
  | .nil => 1
  | .ptr d => uptoBulk d + 1
  | .slice elems spare => uptoBulkAll elems + uptoBulkAll spare + 1
  | .agg parts => uptoBulkAll parts + 1
  | .iface _ d => uptoBulk d + 1
  | .map entries => uptoBulkEntries entries + 1
  | .held _ => 1
def uptoBulkAll {H : Type} : List (DataW H) → Nat
  | [] => 0
  | d :: r => uptoBulk d + uptoBulkAll r
def uptoBulkEntries {H : Type} : List (Lit × DataW H) → Nat
  | [] => 0
  | x :: r => uptoBulkEntry x + uptoBulkEntries r
def uptoBulkEntry {H : Type} : Lit × DataW H → Nat
  | (.string bytes, d) => bytes.length + uptoBulk d + 1
  | (_, d) => uptoBulk d + 1
 end
def uptoSmall : (H : Type) → List (DataW H) → Bool := fun _ ds => decide (uptoBulkAll ds ≤ 1048576)
def OpenSpec.upto (s : _root_.Go.ChangeSpec) : _root_.Go.OpenSpec := { _root_.Go.OpenSpec.ofChange s with cond := some uptoSmall }

/-- 'portholelaw15.PadLeast', WHERE WHAT IT READS IS OF BULK AT MOST 1048576: true; the input reads as it did. -/
def padLeastUptoRow : OpenClaim := { program := "ytaaejidllnkpbaa", sum := "c9443049805e5240efa704403152a15b57c7bd2b5c84f1ca7aa9a310f977e29b", func := "porthole/portholelaw15.PadLeast", spec := "padLeast", apart := false, narrowed := true }
def PadLeastUptoSaid : Prop := padLeastUptoRow.holds Try.pinned (OpenSpec.upto padLeastSpec)

/-- 'portholelaw1.OctetNumbers', WHERE WHAT IT READS IS OF BULK AT MOST 1048576: true; the input reads as it did. -/
def octetNumbersUptoRow : OpenClaim := { program := "ytaaejidllnkpbaa", sum := "c9443049805e5240efa704403152a15b57c7bd2b5c84f1ca7aa9a310f977e29b", func := "porthole/portholelaw1.OctetNumbers", spec := "octetNumbers", apart := false, narrowed := true }
def OctetNumbersUptoSaid : Prop := octetNumbersUptoRow.holds Try.pinned (OpenSpec.upto octetNumbersSpec)

/-- 'portholelaw1.OctetKnown', WHERE WHAT IT READS IS OF BULK AT MOST 1048576: true; the input reads as it did. -/
def octetKnownUptoRow : OpenClaim := { program := "ytaaejidllnkpbaa", sum := "c9443049805e5240efa704403152a15b57c7bd2b5c84f1ca7aa9a310f977e29b", func := "porthole/portholelaw1.OctetKnown", spec := "octetKnown", apart := false, narrowed := true }
def OctetKnownUptoSaid : Prop := octetKnownUptoRow.holds Try.pinned (OpenSpec.upto octetKnownSpec)

/-- 'portholelaw1.OctetXors', WHERE WHAT IT READS IS OF BULK AT MOST 1048576: true; the input reads as it did. -/
def octetXorsUptoRow : OpenClaim := { program := "ytaaejidllnkpbaa", sum := "c9443049805e5240efa704403152a15b57c7bd2b5c84f1ca7aa9a310f977e29b", func := "porthole/portholelaw1.OctetXors", spec := "octetXors", apart := false, narrowed := true }
def OctetXorsUptoSaid : Prop := octetXorsUptoRow.holds Try.pinned (OpenSpec.upto octetXorsSpec)

/-- 'portholelaw1.OctetJoins', WHERE WHAT IT READS IS OF BULK AT MOST 1048576: true; the input reads as it did. -/
def octetJoinsUptoRow : OpenClaim := { program := "ytaaejidllnkpbaa", sum := "c9443049805e5240efa704403152a15b57c7bd2b5c84f1ca7aa9a310f977e29b", func := "porthole/portholelaw1.OctetJoins", spec := "octetJoins", apart := false, narrowed := true }
def OctetJoinsUptoSaid : Prop := octetJoinsUptoRow.holds Try.pinned (OpenSpec.upto octetJoinsSpec)

/-- 'portholelaw15.PadKnown', WHERE WHAT IT READS IS OF BULK AT MOST 1048576: true; the input reads as it did. -/
def padKnownUptoRow : OpenClaim := { program := "ytaaejidllnkpbaa", sum := "c9443049805e5240efa704403152a15b57c7bd2b5c84f1ca7aa9a310f977e29b", func := "porthole/portholelaw15.PadKnown", spec := "padKnown", apart := false, narrowed := true }
def PadKnownUptoSaid : Prop := padKnownUptoRow.holds Try.pinned (OpenSpec.upto padKnownSpec)

/-- 'portholelaw15.PadBack', WHERE WHAT IT READS IS OF BULK AT MOST 1048576: true; the input reads as it did. -/
def padBackUptoRow : OpenClaim := { program := "ytaaejidllnkpbaa", sum := "c9443049805e5240efa704403152a15b57c7bd2b5c84f1ca7aa9a310f977e29b", func := "porthole/portholelaw15.PadBack", spec := "padBack", apart := false, narrowed := true }
def PadBackUptoSaid : Prop := padBackUptoRow.holds Try.pinned (OpenSpec.upto padBackSpec)

end Rows
end Go.Proofs.Ytaaejidllnkpbaa
