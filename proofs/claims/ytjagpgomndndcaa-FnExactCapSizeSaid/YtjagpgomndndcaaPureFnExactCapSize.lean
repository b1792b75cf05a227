/- The program and the reference agree on CapSize for all arguments. -/
import Derived.Test.YtjagpgomndndcaaPFnExactCapSizex2
namespace Go.Proofs.Ytjagpgomndndcaa.Pure.FnExactCapSize_
open Go.RowKit Go.Proofs.Ytjagpgomndndcaa.PFnExactCapSize Go.Proofs.YtjagpgomndndcaaW.PrintWords Go.Proofs.YtjagpgomndndcaaW.PrintLast Go.Proofs.YtjagpgomndndcaaW.PrintMore
theorem in_eq (n lo hi : Int) : impl_in.f n lo hi = some (decide (lo ≤ n ∧ n ≤ hi)) := by
  unfold impl_in.f
  split
  · rw [Option.some.injEq, Bool.eq_iff_iff, decide_eq_true_eq, decide_eq_true_eq]; omega
  · rw [Option.some.injEq, Bool.eq_iff_iff, decide_eq_true_eq]; constructor
    · intro h; cases h
    · intro h; omega

def capSz (a b : Int) : Int := if a = 1 ∧ 2 ≤ b ∧ b ≤ 11 then shl .i64 1 b else if a = 2 ∧ 1 ≤ b ∧ b ≤ 5 then shl .i64 4 b else if a = 3 ∧ b = 0 then 32 else if (a = 4 ∨ a = 5) ∧ b = 0 then 4 else if a = 6 ∧ 0 ≤ b ∧ b ≤ 6 then shl .i64 1 b else 0
theorem impl_size (n : Nat) (a b : Int) : impl_capSize.f (n + 4) a b = some (capSz a b) := by
  unfold impl_capSize.f capSz
  simp only [in_eq, Option.bind_some, impl_capSize.j0, impl_capSize.j1, impl_capSize.j2, impl_capSize.j3, decide_eq_true_eq, Bool.false_eq_true, if_false, beq_iff_eq]
  have g : ∀ (p : Prop) [Decidable p] (x : Int), (p → 0 ≤ b) → (if p then (if 0 ≤ b then some x else none) else some 0) = some (if p then x else 0) := by
    intro p _ x hp
    by_cases h : p
    · rw [if_pos h, if_pos h, if_pos (hp h)]
    · rw [if_neg h, if_neg h]
  rcases (by omega : a = 1 ∨ a = 2 ∨ a = 3 ∨ a = 4 ∨ a = 5 ∨ a = 6 ∨ (¬ a = 1 ∧ ¬ a = 2 ∧ ¬ a = 3 ∧ ¬ a = 4 ∧ ¬ a = 5 ∧ ¬ a = 6)) with h | h | h | h | h | h | h
  · subst h
    simpa using g (2 ≤ b ∧ b ≤ 11) _ (fun h => by omega)
  · subst h
    simpa using g (1 ≤ b ∧ b ≤ 5) _ (fun h => by omega)
  · subst h
    by_cases hb : b = 0 <;> simp [hb]
  · subst h
    by_cases hb : b = 0 <;> simp [hb]
  · subst h
    by_cases hb : b = 0 <;> simp [hb]
  · subst h
    simpa using g (0 ≤ b ∧ b ≤ 6) _ (fun h => by omega)
  · simp [h]
theorem spec_word (n : Nat) (b : Int) (h : 0 ≤ b ∧ b ≤ 12) : spec_WordSize.f (n + 20) b = some (shl .i64 1 b) := by
  have h13 : b = 0 ∨ b = 1 ∨ b = 2 ∨ b = 3 ∨ b = 4 ∨ b = 5 ∨ b = 6 ∨ b = 7 ∨ b = 8 ∨ b = 9 ∨ b = 10 ∨ b = 11 ∨ b = 12 := by omega
  refine at_rounds (g := fun k => spec_WordSize.f k b) (fun k => spec_WordSize.mono b k) (show 20 ≤ n + 20 by omega) ?_
  rcases h13 with rfl | rfl | rfl | rfl | rfl | rfl | rfl | rfl | rfl | rfl | rfl | rfl | rfl
  all_goals decide +kernel
theorem node_size (b : Int) (h : 1 ≤ b ∧ b ≤ 5) : shl .i64 1 (wrap64 (b + 2)) = shl .i64 4 b := by
  have h5 : b = 1 ∨ b = 2 ∨ b = 3 ∨ b = 4 ∨ b = 5 := by omega
  rcases h5 with rfl | rfl | rfl | rfl | rfl
  all_goals decide +kernel
theorem spec_bits (a b : Int) : spec_l2Bits.f a b = some (decide (a = 1 ∧ 2 ≤ b ∧ b ≤ 11 ∨ a = 2 ∧ 1 ≤ b ∧ b ≤ 5 ∨ a = 6 ∧ 0 ≤ b ∧ b ≤ 6 ∨ (a = 3 ∨ a = 4 ∨ a = 5 ∨ a = 7) ∧ b = 0)) := by
  unfold spec_l2Bits.f
  repeat' split
  all_goals rw [Option.some.injEq, Bool.eq_iff_iff]
  all_goals simp only [decide_eq_true_eq, Bool.false_eq_true, false_iff, beq_iff_eq]
  all_goals omega
theorem spec_size (n : Nat) (a b : Int) : spec_CapSize.f (n + 21) a b = some (capSz a b) := by
  unfold spec_CapSize.f capSz
  rw [spec_bits]
  simp only [Option.bind_some, decide_eq_true_eq]
  split
  · rename_i h
    simp only [spec_CapSize.j0, beq_iff_eq]
    rcases h with h | h | h | h
    · rw [if_pos h.1, if_pos h.1, spec_word n b (by omega), if_pos h]; rfl
    · have hw : wrap64 (b + 2) = b + 2 := by unfold wrap64; omega
      rw [if_neg (by omega), if_neg (by omega), if_pos h.1, ← node_size b h.2, spec_word n _ (by omega), if_neg (by omega), if_pos h]; rfl
    · rw [if_neg (by omega), if_pos h.1, spec_word n b (by omega), if_neg (by omega), if_neg (by omega), if_neg (by omega), if_neg (by omega), if_pos h]; rfl
    · repeat' split
      all_goals first | rfl | (exfalso; omega)
  · repeat' split
    all_goals first | rfl | (exfalso; omega)

theorem main : laws_FnExactCapSize.Pure := by
  intro a b _ _
  refine ⟨21, ?_⟩
  unfold laws_FnExactCapSize.f impl_CapSize.f
  rw [spec_size 0, impl_size 17]
  simp

end Go.Proofs.Ytjagpgomndndcaa.Pure.FnExactCapSize_
namespace Go.Proofs.Ytjagpgomndndcaa.Pure
theorem FnExactCapSize : Go.Proofs.Ytjagpgomndndcaa.PFnExactCapSize.laws_FnExactCapSize.Pure := FnExactCapSize_.main
end Go.Proofs.Ytjagpgomndndcaa.Pure
