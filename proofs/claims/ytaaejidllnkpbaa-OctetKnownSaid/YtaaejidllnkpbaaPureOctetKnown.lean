/- OctetKnown: the closed statement, by the kernel's own run of the plain functions that the Go functions were shown to compute. No condition. -/
import Derived.Test.YtaaejidllnkpbaaQOctetKnownx2
namespace Go.Proofs.Ytaaejidllnkpbaa.Pure
open Go.RowKit Go.Proofs.Ytaaejidllnkpbaa.QOctetKnown Go.Proofs.YtaaejidllnkpbaaW.PrintWords Go.Proofs.YtaaejidllnkpbaaW.PrintLast

theorem OctetKnown : portholelaw1_OctetKnown.Pure := ⟨40, by decide +kernel⟩

end Go.Proofs.Ytaaejidllnkpbaa.Pure
