/- A fact of the program alone, for all cards: liftsFinal = false. -/
import Derived.Test.YtnkhifgppcnmkaaDoorRows
import Derived.KernelRfl
import Derived.JoinedOf
namespace Go.Proofs.YtnkhifgppcnmkaaDoor
theorem prog_lifts : Tryd.pinned.checked.prog.liftsFinal = false := by kernel_rfl
end Go.Proofs.YtnkhifgppcnmkaaDoor
