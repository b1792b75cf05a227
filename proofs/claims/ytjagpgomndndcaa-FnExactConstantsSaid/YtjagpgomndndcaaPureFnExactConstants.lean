/- Every constant of the program has the reference value: the law holds with no condition. -/
import Derived.Test.YtjagpgomndndcaaPFnExactConstantsx1
namespace Go.Proofs.Ytjagpgomndndcaa.Pure.FnExactConstants_
open Go.RowKit Go.Proofs.Ytjagpgomndndcaa.PFnExactConstants Go.Proofs.YtjagpgomndndcaaW.PrintWords Go.Proofs.YtjagpgomndndcaaW.PrintLast Go.Proofs.YtjagpgomndndcaaW.PrintMore

theorem main : laws_FnExactConstants.Pure := rfl

end Go.Proofs.Ytjagpgomndndcaa.Pure.FnExactConstants_
namespace Go.Proofs.Ytjagpgomndndcaa.Pure
theorem FnExactConstants : Go.Proofs.Ytjagpgomndndcaa.PFnExactConstants.laws_FnExactConstants.Pure := FnExactConstants_.main
end Go.Proofs.Ytjagpgomndndcaa.Pure
