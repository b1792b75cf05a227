/- A closed fact on this seat's program, with no condition: it may be entered. -/
import Derived.Test.YtjagpgomndndcaaRows
import Derived.JoinedOf
import Derived.KernelRfl
namespace Go.Proofs.Ytjagpgomndndcaa.Facts
theorem enter : Go.Program.mayEnter Try.prog = true := by kernel_rfl
end Go.Proofs.Ytjagpgomndndcaa.Facts
