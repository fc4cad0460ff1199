/- A fact of the program alone, for all cards: mayEnter = true. -/
import Derived.Test.YtnkhifgppcnmkaaDoorRows
import Derived.KernelRfl
import Derived.JoinedOf
namespace Go.Proofs.YtnkhifgppcnmkaaDoor
theorem prog_mayEnter : Tryd.pinned.checked.prog.mayEnter = true := by kernel_rfl
end Go.Proofs.YtnkhifgppcnmkaaDoor
