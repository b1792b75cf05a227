/- The program and the reference agree on WordUp for all arguments. -/
import Derived.Test.YtjagpgomndndcaaPFnExactWordUpx1
namespace Go.Proofs.Ytjagpgomndndcaa.Pure.FnExactWordUp_
open Go.RowKit Go.Proofs.Ytjagpgomndndcaa.PFnExactWordUp Go.Proofs.YtjagpgomndndcaaW.PrintWords Go.Proofs.YtjagpgomndndcaaW.PrintLast Go.Proofs.YtjagpgomndndcaaW.PrintMore
theorem in_eq (n lo hi : Int) : impl_in.f n lo hi = some (decide (lo ≤ n ∧ n ≤ hi)) := by
  unfold impl_in.f
  split
  · rw [Option.some.injEq, Bool.eq_iff_iff, decide_eq_true_eq, decide_eq_true_eq]; omega
  · rw [Option.some.injEq, Bool.eq_iff_iff, decide_eq_true_eq]; constructor
    · intro h; cases h
    · intro h; omega
theorem fine_eq (a b : Int) : spec_l1Fine.f a b = some (decide (0 ≤ a ∧ a ≤ 4096 ∧ 1 ≤ b ∧ b ≤ 4096)) := by
  unfold spec_l1Fine.f
  repeat' split
  all_goals rw [Option.some.injEq, Bool.eq_iff_iff]
  all_goals simp only [decide_eq_true_eq, Bool.false_eq_true, false_iff]
  all_goals omega
theorem range_eq (a b : Int) : impl_isRange.f a b = some (decide (0 ≤ a ∧ a ≤ 4096 ∧ 1 ≤ b ∧ b ≤ 4096)) := by
  unfold impl_isRange.f
  rw [in_eq, in_eq]
  simp only [Option.bind_some]
  split
  · rename_i h
    simp only [decide_eq_true_eq] at h
    rw [Option.some.injEq, Bool.eq_iff_iff, decide_eq_true_eq, decide_eq_true_eq]; omega
  · rename_i h
    simp only [decide_eq_true_eq] at h
    rw [Option.some.injEq, Bool.eq_iff_iff, decide_eq_true_eq]; constructor
    · intro h; cases h
    · intro h; omega

theorem tmod_zero (a b : Int) (ha : 0 ≤ a) : (Int.tmod a b = 0) ↔ a % b = 0 := by
  rw [Int.tmod_eq_emod_of_nonneg ha]
theorem up_loop (b : Int) (hb : 1 ≤ b ∧ b ≤ 4096) (d : Nat) : ∀ (a : Int) (k : Nat), 0 ≤ a → a + d ≤ 10000 → ((-a) % b) = d → d < k → spec_WordUp.l0 k a b = some (a + d) := by
  induction d with
  | zero =>
    intro a k h0 h1 hd hk
    obtain ⟨k, rfl⟩ : ∃ m, k = m + 1 := ⟨k - 1, by omega⟩
    simp only [spec_WordUp.l0]
    have e : a % b = 0 := by
      have h2 : b ∣ -a := Int.dvd_of_emod_eq_zero (by simpa using hd)
      exact Int.emod_eq_zero_of_dvd (Int.dvd_neg.mp h2)
    rw [if_neg (by omega), if_pos ((tmod_zero a b h0).2 e)]
    simp
  | succ d ih =>
    intro a k h0 h1 hd hk
    obtain ⟨k, rfl⟩ : ∃ m, k = m + 1 := ⟨k - 1, by omega⟩
    simp only [spec_WordUp.l0]
    have hlt : (-a) % b < b := Int.emod_lt_of_pos _ (by omega)
    have e : ¬ a % b = 0 := by
      intro h2
      have h3 : b ∣ a := Int.dvd_of_emod_eq_zero h2
      have h4 : (-a) % b = 0 := Int.emod_eq_zero_of_dvd (Int.dvd_neg.mpr h3)
      omega
    have hw : wrap64 (a + 1) = a + 1 := by unfold wrap64; omega
    rw [if_neg (by omega), if_neg (fun h => e ((tmod_zero a b h0).1 h)), hw]
    have hs : (-(a + 1)) % b = d := by
      have h5 : (-(a+1)) = (-a) - 1 := by omega
      rw [h5, Int.sub_emod, hd]
      by_cases hb1 : b = 1
      · subst hb1; omega
      · have h6 : (1 : Int) % b = 1 := Int.emod_eq_of_lt (by omega) (by omega)
        rw [h6]
        have h7 : ((d + 1 : Nat) : Int) - 1 = d := by omega
        rw [h7]
        exact Int.emod_eq_of_lt (by omega) (by omega)
    rw [ih (a + 1) k (by omega) (by omega) hs (by omega)]
    congr 1
    omega
theorem up_div (a b : Int) (hb : 1 ≤ b) : (a + b - 1) / b * b = a + (-a) % b := by
  have h1 := Int.emod_add_mul_ediv (-a) b
  have h2 : 0 ≤ (-a) % b := Int.emod_nonneg _ (by omega)
  have h3 : (-a) % b < b := Int.emod_lt_of_pos _ (by omega)
  generalize (-a) % b = d at *
  generalize (-a) / b = q at *
  have e : a + b - 1 = (b - 1 - d) + b * (-q) := by rw [Int.mul_neg]; omega
  rw [e, Int.add_mul_ediv_left _ _ (by omega), Int.ediv_eq_zero_of_lt (by omega) (by omega), Int.zero_add, Int.neg_mul, Int.mul_comm]
  omega
theorem main : laws_FnExactWordUp.Pure := by
  intro a b _ _
  refine ⟨5000, ?_⟩
  unfold laws_FnExactWordUp.f impl_WordUp.f spec_WordUp.f
  rw [fine_eq, range_eq]
  by_cases h : 0 ≤ a ∧ a ≤ 4096 ∧ 1 ≤ b ∧ b ≤ 4096
  · have h2 : 0 ≤ (-a) % b := Int.emod_nonneg _ (by omega)
    have h3 : (-a) % b < b := Int.emod_lt_of_pos _ (by omega)
    rw [decide_eq_true h]
    simp only [Option.bind_some]
    rw [if_pos trivial, if_pos trivial, if_neg (by omega), up_loop b (by omega) ((-a) % b).toNat a 5000 (by omega) (by omega) (by omega) (by omega)]
    simp only [Option.bind_some]
    have e1 : wrap64 (wrap64 (a + b) - 1) = a + b - 1 := by unfold wrap64; omega
    have e2 : Int.tdiv (a + b - 1) b = (a + b - 1) / b := Int.tdiv_eq_ediv_of_nonneg (by omega)
    have e3 := up_div a b (by omega)
    have e5 : 0 ≤ (a + b - 1) / b := Int.ediv_nonneg (by omega) (by omega)
    have e6 : (a + b - 1) / b ≤ a + b - 1 := Int.ediv_le_self _ (by omega)
    have e4 : wrap64 ((a + b - 1) / b) = (a + b - 1) / b := by unfold wrap64; omega
    rw [e1, e2, e4, e3, if_pos]
    unfold wrap64
    omega
  · rw [decide_eq_false h]
    simp

end Go.Proofs.Ytjagpgomndndcaa.Pure.FnExactWordUp_
namespace Go.Proofs.Ytjagpgomndndcaa.Pure
theorem FnExactWordUp : Go.Proofs.Ytjagpgomndndcaa.PFnExactWordUp.laws_FnExactWordUp.Pure := FnExactWordUp_.main
end Go.Proofs.Ytjagpgomndndcaa.Pure
