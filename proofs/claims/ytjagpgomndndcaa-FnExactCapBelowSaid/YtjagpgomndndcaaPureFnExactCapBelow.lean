/- The program and the reference agree on CapBelow for all arguments. -/
import Derived.Test.YtjagpgomndndcaaCapx2
namespace Go.Proofs.Ytjagpgomndndcaa.Pure
open Go.RowKit Go.Proofs.YtjagpgomndndcaaW.PrintWords Go.Proofs.YtjagpgomndndcaaW.PrintLast Go.Proofs.YtjagpgomndndcaaW.PrintMore Go.Proofs.Ytjagpgomndndcaa.Cap Go.Proofs.Ytjagpgomndndcaa.CapB
set_option linter.unusedVariables false
theorem capBelow_le {n : Int} (h : (Lit.int .i64 n).wf = true) : n ≤ 9223372036854775807 := by
  simp only [Lit.wf, Bool.and_eq_true, decide_eq_true_eq] at h
  exact h.2
theorem capBelow_imp (k a b r g u v f : Int) (o : Bool) (h : r ≤ 9223372036854775807) : impl_isCap.f k a b r g u v f o = some (decide (CapOkP k a b r g u v f o)) := by
  unfold impl_isCap.f; rw [if_pos h]
theorem below_rights (a b : Int) (ha : 0 ≤ a ∧ a ≤ 7) (hb : 0 ≤ b ∧ b ≤ 7) : spec_l2Rights.f a b = some (decide (Go.bits .andNot .i64 a b = 0)) := by
  have h1 : a = 0 ∨ a = 1 ∨ a = 2 ∨ a = 3 ∨ a = 4 ∨ a = 5 ∨ a = 6 ∨ a = 7 := by omega
  have h2 : b = 0 ∨ b = 1 ∨ b = 2 ∨ b = 3 ∨ b = 4 ∨ b = 5 ∨ b = 6 ∨ b = 7 := by omega
  clear ha hb
  rcases h1 with rfl | rfl | rfl | rfl | rfl | rfl | rfl | rfl <;> rcases h2 with rfl | rfl | rfl | rfl | rfl | rfl | rfl | rfl <;> decide +kernel
theorem mxr_le (k : Int) : mxr k ≤ 7 := by unfold mxr; split <;> (try split) <;> omega
theorem FnExactCapBelow (a0_0 a0_1 a0_2 a0_3 a0_4 a0_5 a0_6 a0_7 : Int) (a0_8 : Bool) (a1_0 a1_1 a1_2 a1_3 a1_4 a1_5 a1_6 a1_7 : Int) (a1_8 : Bool) (w0_0 : (Lit.int .i64 a0_0).wf = true) (w0_1 : (Lit.int .i64 a0_1).wf = true) (w0_2 : (Lit.int .i64 a0_2).wf = true) (w0_3 : (Lit.int .i64 a0_3).wf = true) (w0_4 : (Lit.int .i64 a0_4).wf = true) (w0_5 : (Lit.int .i64 a0_5).wf = true) (w0_6 : (Lit.int .i64 a0_6).wf = true) (w0_7 : (Lit.int .i64 a0_7).wf = true) (w1_0 : (Lit.int .i64 a1_0).wf = true) (w1_1 : (Lit.int .i64 a1_1).wf = true) (w1_2 : (Lit.int .i64 a1_2).wf = true) (w1_3 : (Lit.int .i64 a1_3).wf = true) (w1_4 : (Lit.int .i64 a1_4).wf = true) (w1_5 : (Lit.int .i64 a1_5).wf = true) (w1_6 : (Lit.int .i64 a1_6).wf = true) (w1_7 : (Lit.int .i64 a1_7).wf = true) : ∃ k, laws_FnExactCapBelow.f k a0_0 a0_1 a0_2 a0_3 a0_4 a0_5 a0_6 a0_7 a0_8 a1_0 a1_1 a1_2 a1_3 a1_4 a1_5 a1_6 a1_7 a1_8 = some true := by
  refine ⟨3, ?_⟩
  unfold laws_FnExactCapBelow.f laws_toCap.f spec_CapBelow.f impl_CapBelow.f spec_CapOk.f
  simp only [Option.bind_some]
  rw [capBelow_imp _ _ _ _ _ _ _ _ _ (capBelow_le w0_3), capBelow_imp _ _ _ _ _ _ _ _ _ (capBelow_le w1_3)]
  simp only [Option.bind_some]
  by_cases h1 : CapOkP a0_0 a0_1 a0_2 a0_3 a0_4 a0_5 a0_6 a0_7 a0_8
  · by_cases h2 : CapOkP a1_0 a1_1 a1_2 a1_3 a1_4 a1_5 a1_6 a1_7 a1_8
    · have hm1 := mxr_le a0_0
      have hm2 := mxr_le a1_0
      have hr := below_rights a0_3 a1_3 ⟨h1.2.1, by have := h1.2.2.1; omega⟩ ⟨h2.2.1, by have := h2.2.2.1; omega⟩
      rw [hr, decide_eq_true h1, decide_eq_true h2]
      simp only [Option.bind_some, if_true]
      by_cases e0 : a0_0 = a1_0
      · by_cases e1 : a0_1 = a1_1
        · by_cases e2 : a0_2 = a1_2
          · by_cases e3 : Go.bits .andNot .i64 a0_3 a1_3 = 0
            · by_cases e4 : a0_4 = a1_4
              · simp [e0, e1, e2, e3, e4, spec_CapBelow.j0]
              · simp [e0, e1, e2, e3, e4, spec_CapBelow.j0]
            · simp [e0, e1, e2, e3, spec_CapBelow.j0]
          · simp [e0, e1, e2, spec_CapBelow.j0]
        · simp [e0, e1, spec_CapBelow.j0]
      · simp [e0, spec_CapBelow.j0]
    · rw [decide_eq_true h1, decide_eq_false h2]
      simp [spec_CapBelow.j0]
  · rw [decide_eq_false h1]
    simp [spec_CapBelow.j0]

end Go.Proofs.Ytjagpgomndndcaa.Pure
