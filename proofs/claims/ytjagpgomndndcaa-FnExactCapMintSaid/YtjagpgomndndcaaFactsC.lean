/- A closed fact on this seat's program, with no condition: its making is what the rows name. -/
import Derived.Test.YtjagpgomndndcaaRows
import Derived.JoinedOf
import Derived.KernelRfl
namespace Go.Proofs.Ytjagpgomndndcaa.Facts
theorem make : Go.Program.make Try.prog = some Rows.fnExactConstantsRow.make := by kernel_rfl
end Go.Proofs.Ytjagpgomndndcaa.Facts
