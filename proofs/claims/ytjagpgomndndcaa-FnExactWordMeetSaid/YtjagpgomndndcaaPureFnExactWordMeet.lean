/- The program and the reference agree on WordMeet for all arguments. -/
import Derived.Test.YtjagpgomndndcaaPFnExactWordMeetx1
namespace Go.Proofs.Ytjagpgomndndcaa.Pure.FnExactWordMeet_
open Go.RowKit Go.Proofs.Ytjagpgomndndcaa.PFnExactWordMeet Go.Proofs.YtjagpgomndndcaaW.PrintWords Go.Proofs.YtjagpgomndndcaaW.PrintLast Go.Proofs.YtjagpgomndndcaaW.PrintMore
theorem in_eq (n lo hi : Int) : impl_in.f n lo hi = some (decide (lo ≤ n ∧ n ≤ hi)) := by
  unfold impl_in.f
  split
  · rw [Option.some.injEq, Bool.eq_iff_iff, decide_eq_true_eq, decide_eq_true_eq]; omega
  · rw [Option.some.injEq, Bool.eq_iff_iff, decide_eq_true_eq]; constructor
    · intro h; cases h
    · intro h; omega
theorem fine_eq (a b : Int) : spec_l1Fine.f a b = some (decide (0 ≤ a ∧ a ≤ 4096 ∧ 1 ≤ b ∧ b ≤ 4096)) := by
  unfold spec_l1Fine.f
  repeat' split
  all_goals rw [Option.some.injEq, Bool.eq_iff_iff]
  all_goals simp only [decide_eq_true_eq, Bool.false_eq_true, false_iff]
  all_goals omega
theorem range_eq (a b : Int) : impl_isRange.f a b = some (decide (0 ≤ a ∧ a ≤ 4096 ∧ 1 ≤ b ∧ b ≤ 4096)) := by
  unfold impl_isRange.f
  rw [in_eq, in_eq]
  simp only [Option.bind_some]
  split
  · rename_i h
    simp only [decide_eq_true_eq] at h
    rw [Option.some.injEq, Bool.eq_iff_iff, decide_eq_true_eq, decide_eq_true_eq]; omega
  · rename_i h
    simp only [decide_eq_true_eq] at h
    rw [Option.some.injEq, Bool.eq_iff_iff, decide_eq_true_eq]; constructor
    · intro h; cases h
    · intro h; omega

theorem tot (a b c d : Int) : ∃ r, impl_WordMeet.f a b c d = some r := by
  unfold impl_WordMeet.f
  rw [range_eq, range_eq]
  simp only [Option.bind_some]
  split
  · split
    · split <;> exact ⟨_, rfl⟩
    · exact ⟨_, rfl⟩
  · exact ⟨_, rfl⟩
theorem same (a b c d : Int) : spec_WordMeet.f a b c d = impl_WordMeet.f a b c d := by
  unfold spec_WordMeet.f impl_WordMeet.f
  rw [range_eq, fine_eq, range_eq, fine_eq]
theorem main : laws_FnExactWordMeet.Pure := by
  intro a b c d _ _ _ _
  obtain ⟨r, hr⟩ := tot a b c d
  unfold laws_FnExactWordMeet.f
  rw [same, hr]
  simp

end Go.Proofs.Ytjagpgomndndcaa.Pure.FnExactWordMeet_
namespace Go.Proofs.Ytjagpgomndndcaa.Pure
theorem FnExactWordMeet : Go.Proofs.Ytjagpgomndndcaa.PFnExactWordMeet.laws_FnExactWordMeet.Pure := FnExactWordMeet_.main
end Go.Proofs.Ytjagpgomndndcaa.Pure
