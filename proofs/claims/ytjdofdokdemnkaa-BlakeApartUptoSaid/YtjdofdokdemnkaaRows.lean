/-
  No cell of these rows narrows 'for every input' (looked for: loops, veiled, ifaces, maps, wideKeys, modest, calm, conditions, laid).
  DERIVED. THE GIVEN ROWS OF THIS SEAT. 7 by the template 'for every input the law returns true; each argument reads behind the call as it read before'; 0 by the template 'total and deterministic' (their statements: YtjdofdokdemnkaaTotals.lean).
  GIVEN WITH THE SEED: the statements are not yours to turn. If you find one false, say at which input.
  Laid BY PROGRAM, IN A SANDBOX (cutbox-rows.mjs): the forced cells as the released guide's own fill.sh prints them over the translation 500759497c08558e… (all of the seat's roots in one cut). By AI agents, Wed Nov 11 2026. No macro, syntax, notation, axiom, sorry.
-/
import Derived.Test.YtjdofdokdemnkaaChecked
import GoSem.Claim
import GoSem.ClaimJoined
import GoSem.ClaimMapViews
import Derived.JoinedTies
import Derived.KernelRfl
namespace Go.Proofs.Ytjdofdokdemnkaa
/- THE CELL 'sum', in the pinned program and in every row, IS THE sha256 OF THE DUMP (.gsa) THAT YtjdofdokdemnkaaProg.lean LOADS. Nothing in Lean hashes anything: it is a label: what it is worth is what the hold of that sum in a sandbox is worth. -/
noncomputable def Try.pinned : Pinned := { name := "ytjdofdokdemnkaa", sum := "500759497c08558ec2e74a620169d721775b830dfa32cfb7774e0c89d2ddadb9", checked := Try.checked }
namespace Rows
def none {H : Type} : Left H := { results := [], args := [] }

/-- 'portholelaw4.ChachaKnown': WHATEVER THE INPUT: true; the input reads as it did. -/
def chachaKnownSpec : ChangeSpec := { name := "chachaKnown", fn := fun _ => fun
  | [] => { results := [.lit (.bool true)], args := [] }
  | _ => none }
def chachaKnownRow : OpenClaim := { program := "ytjdofdokdemnkaa", sum := "500759497c08558ec2e74a620169d721775b830dfa32cfb7774e0c89d2ddadb9", func := "porthole/portholelaw4.ChachaKnown", spec := "chachaKnown", unfollowed := true, recurses := true, apart := false }
def ChachaKnownSaid : Prop := chachaKnownRow.holds Try.pinned (OpenSpec.ofChange chachaKnownSpec)

/-- ITS FALSE NEIGHBOUR: 'it returns false'. Refute it at one input. -/
def chachaKnownWrong : ChangeSpec := { name := "chachaKnown", fn := fun _ => fun
  | [] => { results := [.lit (.bool false)], args := [] }
  | _ => none }
def ChachaKnownWrongFalsely : Prop := chachaKnownRow.holds Try.pinned (OpenSpec.ofChange chachaKnownWrong)

/-- 'portholelaw4.ChachaTwice': WHATEVER THE INPUT: true; the input reads as it did. -/
def chachaTwiceSpec : ChangeSpec := { name := "chachaTwice", fn := fun _ => fun
  | [d1, d2, d3, d4, d5] => { results := [.lit (.bool true)], args := [d1, d2, d3, d4, d5] }
  | _ => none }
def chachaTwiceRow : OpenClaim := { program := "ytjdofdokdemnkaa", sum := "500759497c08558ec2e74a620169d721775b830dfa32cfb7774e0c89d2ddadb9", func := "porthole/portholelaw4.ChachaTwice", spec := "chachaTwice", unfollowed := true, recurses := true, apart := false }
def ChachaTwiceSaid : Prop := chachaTwiceRow.holds Try.pinned (OpenSpec.ofChange chachaTwiceSpec)

/-- ITS FALSE NEIGHBOUR: 'it returns false'. Refute it at one input. -/
def chachaTwiceWrong : ChangeSpec := { name := "chachaTwice", fn := fun _ => fun
  | [d1, d2, d3, d4, d5] => { results := [.lit (.bool false)], args := [d1, d2, d3, d4, d5] }
  | _ => none }
def ChachaTwiceWrongFalsely : Prop := chachaTwiceRow.holds Try.pinned (OpenSpec.ofChange chachaTwiceWrong)

/-- 'portholelaw4.ChachaTurns': WHATEVER THE INPUT: true; the input reads as it did. -/
def chachaTurnsSpec : ChangeSpec := { name := "chachaTurns", fn := fun _ => fun
  | [d1, d2, d3, d4, d5, d6] => { results := [.lit (.bool true)], args := [d1, d2, d3, d4, d5, d6] }
  | _ => none }
def chachaTurnsRow : OpenClaim := { program := "ytjdofdokdemnkaa", sum := "500759497c08558ec2e74a620169d721775b830dfa32cfb7774e0c89d2ddadb9", func := "porthole/portholelaw4.ChachaTurns", spec := "chachaTurns", unfollowed := true, recurses := true, apart := false }
def ChachaTurnsSaid : Prop := chachaTurnsRow.holds Try.pinned (OpenSpec.ofChange chachaTurnsSpec)

/-- ITS FALSE NEIGHBOUR: 'it returns false'. Refute it at one input. -/
def chachaTurnsWrong : ChangeSpec := { name := "chachaTurns", fn := fun _ => fun
  | [d1, d2, d3, d4, d5, d6] => { results := [.lit (.bool false)], args := [d1, d2, d3, d4, d5, d6] }
  | _ => none }
def ChachaTurnsWrongFalsely : Prop := chachaTurnsRow.holds Try.pinned (OpenSpec.ofChange chachaTurnsWrong)

/-- 'portholelaw4.ChachaStream': WHATEVER THE INPUT: true; the input reads as it did. -/
def chachaStreamSpec : ChangeSpec := { name := "chachaStream", fn := fun _ => fun
  | [d1, d2, d3, d4] => { results := [.lit (.bool true)], args := [d1, d2, d3, d4] }
  | _ => none }
def chachaStreamRow : OpenClaim := { program := "ytjdofdokdemnkaa", sum := "500759497c08558ec2e74a620169d721775b830dfa32cfb7774e0c89d2ddadb9", func := "porthole/portholelaw4.ChachaStream", spec := "chachaStream", unfollowed := true, recurses := true, apart := false }
def ChachaStreamSaid : Prop := chachaStreamRow.holds Try.pinned (OpenSpec.ofChange chachaStreamSpec)

/-- ITS FALSE NEIGHBOUR: 'it returns false'. Refute it at one input. -/
def chachaStreamWrong : ChangeSpec := { name := "chachaStream", fn := fun _ => fun
  | [d1, d2, d3, d4] => { results := [.lit (.bool false)], args := [d1, d2, d3, d4] }
  | _ => none }
def ChachaStreamWrongFalsely : Prop := chachaStreamRow.holds Try.pinned (OpenSpec.ofChange chachaStreamWrong)

/-- 'portholelaw7.BlakeKnown': WHATEVER THE INPUT: true; the input reads as it did. -/
def blakeKnownSpec : ChangeSpec := { name := "blakeKnown", fn := fun _ => fun
  | [] => { results := [.lit (.bool true)], args := [] }
  | _ => none }
def blakeKnownRow : OpenClaim := { program := "ytjdofdokdemnkaa", sum := "500759497c08558ec2e74a620169d721775b830dfa32cfb7774e0c89d2ddadb9", func := "porthole/portholelaw7.BlakeKnown", spec := "blakeKnown", unfollowed := true, recurses := true, apart := false }
def BlakeKnownSaid : Prop := blakeKnownRow.holds Try.pinned (OpenSpec.ofChange blakeKnownSpec)

/-- ITS FALSE NEIGHBOUR: 'it returns false'. Refute it at one input. -/
def blakeKnownWrong : ChangeSpec := { name := "blakeKnown", fn := fun _ => fun
  | [] => { results := [.lit (.bool false)], args := [] }
  | _ => none }
def BlakeKnownWrongFalsely : Prop := blakeKnownRow.holds Try.pinned (OpenSpec.ofChange blakeKnownWrong)

/-- 'portholelaw7.BlakePieces': WHATEVER THE INPUT: true; the input reads as it did. -/
def blakePiecesSpec : ChangeSpec := { name := "blakePieces", fn := fun _ => fun
  | [d1, d2] => { results := [.lit (.bool true)], args := [d1, d2] }
  | _ => none }
def blakePiecesRow : OpenClaim := { program := "ytjdofdokdemnkaa", sum := "500759497c08558ec2e74a620169d721775b830dfa32cfb7774e0c89d2ddadb9", func := "porthole/portholelaw7.BlakePieces", spec := "blakePieces", unfollowed := true, recurses := true, apart := false }
def BlakePiecesSaid : Prop := blakePiecesRow.holds Try.pinned (OpenSpec.ofChange blakePiecesSpec)

/-- ITS FALSE NEIGHBOUR: 'it returns false'. Refute it at one input. -/
def blakePiecesWrong : ChangeSpec := { name := "blakePieces", fn := fun _ => fun
  | [d1, d2] => { results := [.lit (.bool false)], args := [d1, d2] }
  | _ => none }
def BlakePiecesWrongFalsely : Prop := blakePiecesRow.holds Try.pinned (OpenSpec.ofChange blakePiecesWrong)

/-- 'portholelaw7.BlakeApart': WHATEVER THE INPUT: true; the input reads as it did. -/
def blakeApartSpec : ChangeSpec := { name := "blakeApart", fn := fun _ => fun
  | [d1, d2] => { results := [.lit (.bool true)], args := [d1, d2] }
  | _ => none }
def blakeApartRow : OpenClaim := { program := "ytjdofdokdemnkaa", sum := "500759497c08558ec2e74a620169d721775b830dfa32cfb7774e0c89d2ddadb9", func := "porthole/portholelaw7.BlakeApart", spec := "blakeApart", unfollowed := true, recurses := true, apart := false }
def BlakeApartSaid : Prop := blakeApartRow.holds Try.pinned (OpenSpec.ofChange blakeApartSpec)

/-- ITS FALSE NEIGHBOUR: 'it returns false'. Refute it at one input. -/
def blakeApartWrong : ChangeSpec := { name := "blakeApart", fn := fun _ => fun
  | [d1, d2] => { results := [.lit (.bool false)], args := [d1, d2] }
  | _ => none }
def BlakeApartWrongFalsely : Prop := blakeApartRow.holds Try.pinned (OpenSpec.ofChange blakeApartWrong)

/- THE SECOND FORM. 'bulk': how many values and letters a reading holds, each counted each time it is reached (what is shared counts as often as it is met; a slice's spare places count too). A statement '..UptoSaid' is the law's where the arguments, and the package variables that the reading takes, are together of bulk at most 1048576: NARROWER than '..Said'. Prove '..Said' where nothing that the law and all that it calls make is longer than what came in: it says more and counts as full. Else prove '..UptoSaid'. A law counts once. -/
mutual
def uptoBulk {H : Type} : DataW H → Nat
  | .lit (.string bytes) => bytes.length + 1
  | .lit _ => 1
  | .nil => 1
  | .ptr d => uptoBulk d + 1
  | .slice elems spare => uptoBulkAll elems + uptoBulkAll spare + 1
  | .agg parts => uptoBulkAll parts + 1
  | .iface _ d => uptoBulk d + 1
  | .map entries => uptoBulkEntries entries + 1
  | .held _ => 1
def uptoBulkAll {H : Type} : List (DataW H) → Nat
  | [] => 0
  | d :: r => uptoBulk d + uptoBulkAll r
def uptoBulkEntries {H : Type} : List (Lit × DataW H) → Nat
  | [] => 0
  | x :: r => uptoBulkEntry x + uptoBulkEntries r
def uptoBulkEntry {H : Type} : Lit × DataW H → Nat
  | (.string bytes, d) => bytes.length + uptoBulk d + 1
  | (_, d) => uptoBulk d + 1
 end
def uptoSmall : (H : Type) → List (DataW H) → Bool := fun _ ds => decide (uptoBulkAll ds ≤ 1048576)
def OpenSpec.upto (s : _root_.Go.ChangeSpec) : _root_.Go.OpenSpec := { _root_.Go.OpenSpec.ofChange s with cond := some uptoSmall }

/-- 'portholelaw4.ChachaKnown', WHERE WHAT IT READS IS OF BULK AT MOST 1048576: true; the input reads as it did. -/
def chachaKnownUptoRow : OpenClaim := { program := "ytjdofdokdemnkaa", sum := "500759497c08558ec2e74a620169d721775b830dfa32cfb7774e0c89d2ddadb9", func := "porthole/portholelaw4.ChachaKnown", spec := "chachaKnown", unfollowed := true, recurses := true, apart := false, narrowed := true }
def ChachaKnownUptoSaid : Prop := chachaKnownUptoRow.holds Try.pinned (OpenSpec.upto chachaKnownSpec)

/-- 'portholelaw4.ChachaTwice', WHERE WHAT IT READS IS OF BULK AT MOST 1048576: true; the input reads as it did. -/
def chachaTwiceUptoRow : OpenClaim := { program := "ytjdofdokdemnkaa", sum := "500759497c08558ec2e74a620169d721775b830dfa32cfb7774e0c89d2ddadb9", func := "porthole/portholelaw4.ChachaTwice", spec := "chachaTwice", unfollowed := true, recurses := true, apart := false, narrowed := true }
def ChachaTwiceUptoSaid : Prop := chachaTwiceUptoRow.holds Try.pinned (OpenSpec.upto chachaTwiceSpec)

/-- 'portholelaw4.ChachaTurns', WHERE WHAT IT READS IS OF BULK AT MOST 1048576: true; the input reads as it did. -/
def chachaTurnsUptoRow : OpenClaim := { program := "ytjdofdokdemnkaa", sum := "500759497c08558ec2e74a620169d721775b830dfa32cfb7774e0c89d2ddadb9", func := "porthole/portholelaw4.ChachaTurns", spec := "chachaTurns", unfollowed := true, recurses := true, apart := false, narrowed := true }
def ChachaTurnsUptoSaid : Prop := chachaTurnsUptoRow.holds Try.pinned (OpenSpec.upto chachaTurnsSpec)

/-- 'portholelaw4.ChachaStream', WHERE WHAT IT READS IS OF BULK AT MOST 1048576: true; the input reads as it did. -/
def chachaStreamUptoRow : OpenClaim := { program := "ytjdofdokdemnkaa", sum := "500759497c08558ec2e74a620169d721775b830dfa32cfb7774e0c89d2ddadb9", func := "porthole/portholelaw4.ChachaStream", spec := "chachaStream", unfollowed := true, recurses := true, apart := false, narrowed := true }
def ChachaStreamUptoSaid : Prop := chachaStreamUptoRow.holds Try.pinned (OpenSpec.upto chachaStreamSpec)

/-- 'portholelaw7.BlakeKnown', WHERE WHAT IT READS IS OF BULK AT MOST 1048576: true; the input reads as it did. -/
def blakeKnownUptoRow : OpenClaim := { program := "ytjdofdokdemnkaa", sum := "500759497c08558ec2e74a620169d721775b830dfa32cfb7774e0c89d2ddadb9", func := "porthole/portholelaw7.BlakeKnown", spec := "blakeKnown", unfollowed := true, recurses := true, apart := false, narrowed := true }
def BlakeKnownUptoSaid : Prop := blakeKnownUptoRow.holds Try.pinned (OpenSpec.upto blakeKnownSpec)

/-- 'portholelaw7.BlakePieces', WHERE WHAT IT READS IS OF BULK AT MOST 1048576: true; the input reads as it did. -/
def blakePiecesUptoRow : OpenClaim := { program := "ytjdofdokdemnkaa", sum := "500759497c08558ec2e74a620169d721775b830dfa32cfb7774e0c89d2ddadb9", func := "porthole/portholelaw7.BlakePieces", spec := "blakePieces", unfollowed := true, recurses := true, apart := false, narrowed := true }
def BlakePiecesUptoSaid : Prop := blakePiecesUptoRow.holds Try.pinned (OpenSpec.upto blakePiecesSpec)

/-- 'portholelaw7.BlakeApart', WHERE WHAT IT READS IS OF BULK AT MOST 1048576: true; the input reads as it did. -/
def blakeApartUptoRow : OpenClaim := { program := "ytjdofdokdemnkaa", sum := "500759497c08558ec2e74a620169d721775b830dfa32cfb7774e0c89d2ddadb9", func := "porthole/portholelaw7.BlakeApart", spec := "blakeApart", unfollowed := true, recurses := true, apart := false, narrowed := true }
def BlakeApartUptoSaid : Prop := blakeApartUptoRow.holds Try.pinned (OpenSpec.upto blakeApartSpec)

end Rows
end Go.Proofs.Ytjdofdokdemnkaa
