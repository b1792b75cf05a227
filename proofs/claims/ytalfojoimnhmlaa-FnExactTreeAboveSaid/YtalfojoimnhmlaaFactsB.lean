/- A closed fact on this seat's program, with no condition: its head has no lift of finals. -/
import Derived.Test.YtalfojoimnhmlaaRows
import Derived.JoinedOf
import Derived.KernelRfl
namespace Go.Proofs.Ytalfojoimnhmlaa.Facts
theorem lift : Go.Program.liftsFinal Try.prog = false := by kernel_rfl
end Go.Proofs.Ytalfojoimnhmlaa.Facts
