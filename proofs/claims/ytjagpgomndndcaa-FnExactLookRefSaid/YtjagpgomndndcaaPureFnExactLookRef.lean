/- The program and the reference agree on LookRef for all arguments. -/
import Derived.Test.YtjagpgomndndcaaPFnExactLookRefx1
namespace Go.Proofs.Ytjagpgomndndcaa.Pure.FnExactLookRef_
open Go.RowKit Go.Proofs.Ytjagpgomndndcaa.PFnExactLookRef Go.Proofs.YtjagpgomndndcaaW.PrintWords Go.Proofs.YtjagpgomndndcaaW.PrintLast Go.Proofs.YtjagpgomndndcaaW.PrintMore
theorem in_eq (n lo hi : Int) : impl_in.f n lo hi = some (decide (lo ≤ n ∧ n ≤ hi)) := by
  unfold impl_in.f
  split
  · rw [Option.some.injEq, Bool.eq_iff_iff, decide_eq_true_eq, decide_eq_true_eq]; omega
  · rw [Option.some.injEq, Bool.eq_iff_iff, decide_eq_true_eq]; constructor
    · intro h; cases h
    · intro h; omega

theorem size_eq (b : Int) (h : 1 ≤ b ∧ b ≤ 16) : spec_l7Size.f 20 b = some (shl .i64 1 b) := by
  have h16 : b = 1 ∨ b = 2 ∨ b = 3 ∨ b = 4 ∨ b = 5 ∨ b = 6 ∨ b = 7 ∨ b = 8 ∨ b = 9 ∨ b = 10 ∨ b = 11 ∨ b = 12 ∨ b = 13 ∨ b = 14 ∨ b = 15 ∨ b = 16 := by omega
  rcases h16 with rfl | rfl | rfl | rfl | rfl | rfl | rfl | rfl | rfl | rfl | rfl | rfl | rfl | rfl | rfl | rfl
  all_goals decide +kernel
theorem size_pos (b : Int) (h : 1 ≤ b ∧ b ≤ 16) : 2 ≤ shl .i64 1 b ∧ shl .i64 1 b ≤ 65536 := by
  have h16 : b = 1 ∨ b = 2 ∨ b = 3 ∨ b = 4 ∨ b = 5 ∨ b = 6 ∨ b = 7 ∨ b = 8 ∨ b = 9 ∨ b = 10 ∨ b = 11 ∨ b = 12 ∨ b = 13 ∨ b = 14 ∨ b = 15 ∨ b = 16 := by omega
  rcases h16 with rfl | rfl | rfl | rfl | rfl | rfl | rfl | rfl | rfl | rfl | rfl | rfl | rfl | rfl | rfl | rfl
  all_goals decide +kernel
theorem main : laws_FnExactLookRef.Pure := by
  intro b x _ _
  refine ⟨20, ?_⟩
  unfold laws_FnExactLookRef.f impl_LookRef.f spec_LookRef.f
  rw [in_eq, in_eq]
  by_cases h : 1 ≤ b ∧ b ≤ 16
  · have hp := size_pos b h
    have hw : wrap64 (shl .i64 1 b - 1) = shl .i64 1 b - 1 := by unfold wrap64; omega
    rw [decide_eq_true h, size_eq b h, if_neg (show ¬ b < 1 by omega), if_neg (show ¬ b > 16 by omega), hw]
    simp only [Option.bind_some]
    rw [if_pos trivial, if_pos (show 0 ≤ b by omega)]
    by_cases h0 : x < 0
    · rw [if_pos h0, decide_eq_false (by omega)]
      simp
    · rw [if_neg h0]
      by_cases h1 : x ≥ shl .i64 1 b
      · rw [if_pos h1, decide_eq_false (by omega)]
        simp
      · rw [if_neg h1, decide_eq_true (by omega)]
        simp
  · rw [decide_eq_false h]
    by_cases h0 : b < 1
    · rw [if_pos h0]; simp
    · rw [if_neg h0, if_pos (show b > 16 by omega)]; simp

end Go.Proofs.Ytjagpgomndndcaa.Pure.FnExactLookRef_
namespace Go.Proofs.Ytjagpgomndndcaa.Pure
theorem FnExactLookRef : Go.Proofs.Ytjagpgomndndcaa.PFnExactLookRef.laws_FnExactLookRef.Pure := FnExactLookRef_.main
end Go.Proofs.Ytjagpgomndndcaa.Pure
