/- PadKnown: the closed statement, by the kernel's own run of the plain functions that the Go functions were shown to compute. No condition. -/
import Derived.Test.YtaaejidllnkpbaaQPadKnownx2
namespace Go.Proofs.Ytaaejidllnkpbaa.Pure
open Go.RowKit Go.Proofs.Ytaaejidllnkpbaa.QPadKnown Go.Proofs.YtaaejidllnkpbaaW.PrintWords Go.Proofs.YtaaejidllnkpbaaW.PrintLast

theorem PadKnown : portholelaw15_PadKnown.Pure := ⟨400, by decide +kernel⟩

end Go.Proofs.Ytaaejidllnkpbaa.Pure
