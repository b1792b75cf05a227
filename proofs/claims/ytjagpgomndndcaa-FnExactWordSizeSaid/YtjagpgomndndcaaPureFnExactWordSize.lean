/- The program and the reference agree on WordSize for all arguments. -/
import Derived.Test.YtjagpgomndndcaaPFnExactWordSizex1
namespace Go.Proofs.Ytjagpgomndndcaa.Pure.FnExactWordSize_
open Go.RowKit Go.Proofs.Ytjagpgomndndcaa.PFnExactWordSize Go.Proofs.YtjagpgomndndcaaW.PrintWords Go.Proofs.YtjagpgomndndcaaW.PrintLast Go.Proofs.YtjagpgomndndcaaW.PrintMore
theorem in_eq (n lo hi : Int) : impl_in.f n lo hi = some (decide (lo ≤ n ∧ n ≤ hi)) := by
  unfold impl_in.f
  split
  · rw [Option.some.injEq, Bool.eq_iff_iff, decide_eq_true_eq, decide_eq_true_eq]; omega
  · rw [Option.some.injEq, Bool.eq_iff_iff, decide_eq_true_eq]; constructor
    · intro h; cases h
    · intro h; omega

theorem main : laws_FnExactWordSize.Pure := by
  intro a _
  by_cases h : 0 ≤ a ∧ a ≤ 12
  · have h13 : a = 0 ∨ a = 1 ∨ a = 2 ∨ a = 3 ∨ a = 4 ∨ a = 5 ∨ a = 6 ∨ a = 7 ∨ a = 8 ∨ a = 9 ∨ a = 10 ∨ a = 11 ∨ a = 12 := by omega
    rcases h13 with rfl | rfl | rfl | rfl | rfl | rfl | rfl | rfl | rfl | rfl | rfl | rfl | rfl
    all_goals exact ⟨20, by decide +kernel⟩
  · refine ⟨1, ?_⟩
    unfold laws_FnExactWordSize.f impl_WordSize.f
    rw [in_eq]
    have hi : (decide (0 ≤ a ∧ a ≤ 12)) = false := decide_eq_false h
    rw [hi]
    have hs : spec_WordSize.f 1 a = some 0 := by
      unfold spec_WordSize.f
      split
      · rfl
      · rw [decide_eq_true (by omega)]; rfl
    rw [hs]
    rfl

end Go.Proofs.Ytjagpgomndndcaa.Pure.FnExactWordSize_
namespace Go.Proofs.Ytjagpgomndndcaa.Pure
theorem FnExactWordSize : Go.Proofs.Ytjagpgomndndcaa.PFnExactWordSize.laws_FnExactWordSize.Pure := FnExactWordSize_.main
end Go.Proofs.Ytjagpgomndndcaa.Pure
