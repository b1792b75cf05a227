/- The program and the reference agree on CapMax for all arguments. -/
import Derived.Test.YtjagpgomndndcaaPFnExactCapMaxx1
namespace Go.Proofs.Ytjagpgomndndcaa.Pure.FnExactCapMax_
open Go.RowKit Go.Proofs.Ytjagpgomndndcaa.PFnExactCapMax Go.Proofs.YtjagpgomndndcaaW.PrintWords Go.Proofs.YtjagpgomndndcaaW.PrintLast Go.Proofs.YtjagpgomndndcaaW.PrintMore

theorem tot (a : Int) : ∃ r, impl_capMax.f a = some r := by
  unfold impl_capMax.f
  split
  · exact ⟨_, rfl⟩
  · split
    · exact ⟨_, rfl⟩
    · split <;> exact ⟨_, rfl⟩
theorem same (a : Int) : spec_CapMax.f a = impl_capMax.f a := by
  unfold spec_CapMax.f impl_capMax.f
  rfl
theorem main : laws_FnExactCapMax.Pure := by
  intro a _
  obtain ⟨r, hr⟩ := tot a
  unfold laws_FnExactCapMax.f impl_CapMax.f
  rw [same, hr]
  simp

end Go.Proofs.Ytjagpgomndndcaa.Pure.FnExactCapMax_
namespace Go.Proofs.Ytjagpgomndndcaa.Pure
theorem FnExactCapMax : Go.Proofs.Ytjagpgomndndcaa.PFnExactCapMax.laws_FnExactCapMax.Pure := FnExactCapMax_.main
end Go.Proofs.Ytjagpgomndndcaa.Pure
