/- A closed fact on this seat's program, with no condition: it may be entered. -/
import Derived.Test.YtalfojoimnhmlaaRows
import Derived.JoinedOf
import Derived.KernelRfl
namespace Go.Proofs.Ytalfojoimnhmlaa.Facts
theorem enter : Go.Program.mayEnter Try.prog = true := by kernel_rfl
end Go.Proofs.Ytalfojoimnhmlaa.Facts
