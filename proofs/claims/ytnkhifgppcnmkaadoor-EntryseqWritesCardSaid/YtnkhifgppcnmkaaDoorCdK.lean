/- A fact of the program alone, for all cards: make = some .cut. -/
import Derived.Test.YtnkhifgppcnmkaaDoorRows
import Derived.KernelRfl
import Derived.JoinedOf
namespace Go.Proofs.YtnkhifgppcnmkaaDoor
theorem prog_make : Tryd.pinned.checked.prog.make = some .cut := by kernel_rfl
end Go.Proofs.YtnkhifgppcnmkaaDoor
