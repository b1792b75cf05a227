/- A closed fact on this seat's program, with no condition: its making is what the rows name. -/
import Derived.Test.YtalfojoimnhmlaaRows
import Derived.JoinedOf
import Derived.KernelRfl
namespace Go.Proofs.Ytalfojoimnhmlaa.Facts
theorem make : Go.Program.make Try.prog = some Rows.fnExactTreeOkRow.make := by kernel_rfl
end Go.Proofs.Ytalfojoimnhmlaa.Facts
