/- A closed fact on this seat's program, with no condition: its head has no lift of finals. -/
import Derived.Test.YtjagpgomndndcaaRows
import Derived.JoinedOf
import Derived.KernelRfl
namespace Go.Proofs.Ytjagpgomndndcaa.Facts
theorem lift : Go.Program.liftsFinal Try.prog = false := by kernel_rfl
end Go.Proofs.Ytjagpgomndndcaa.Facts
