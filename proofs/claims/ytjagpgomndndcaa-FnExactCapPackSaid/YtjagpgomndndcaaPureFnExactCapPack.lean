/- The program and the reference agree on CapPack for all arguments. -/
import Derived.Test.YtjagpgomndndcaaCapx2
namespace Go.Proofs.Ytjagpgomndndcaa.Pure
open Go.RowKit Go.Proofs.YtjagpgomndndcaaW.PrintWords Go.Proofs.YtjagpgomndndcaaW.PrintLast Go.Proofs.YtjagpgomndndcaaW.PrintMore Go.Proofs.Ytjagpgomndndcaa.Cap Go.Proofs.Ytjagpgomndndcaa.CapB
set_option linter.unusedVariables false
theorem capPack_le {n : Int} (h : (Lit.int .i64 n).wf = true) : n ≤ 9223372036854775807 := by
  simp only [Lit.wf, Bool.and_eq_true, decide_eq_true_eq] at h
  exact h.2
theorem capPack_imp (k a b r g u v f : Int) (o : Bool) (h : r ≤ 9223372036854775807) : impl_isCap.f k a b r g u v f o = some (decide (CapOkP k a b r g u v f o)) := by
  unfold impl_isCap.f; rw [if_pos h]
theorem szr_kind (k b : Int) (h : 0 < szr k b) : 1 ≤ k ∧ k ≤ 7 ∧ 0 ≤ b ∧ b ≤ 11 ∧ szr k b ≤ 2048 := by
  have hb := capSz_bd k b
  unfold szr at *
  by_cases h7 : k = 7 ∧ b = 0
  · rw [if_pos h7]; omega
  · rw [if_neg h7] at h ⊢
    refine ⟨?_, ?_, ?_, ?_, hb.2⟩
    all_goals
      unfold capSz at h
      split at h
      · omega
      split at h
      · omega
      split at h
      · omega
      split at h
      · omega
      split at h
      · omega
      · omega
theorem pack_mxr (k : Int) : mxr k ≤ 7 := by unfold mxr; split <;> (try split) <;> omega
theorem FnExactCapPack (a0_0 a0_1 a0_2 a0_3 a0_4 a0_5 a0_6 a0_7 : Int) (a0_8 : Bool) (w0_0 : (Lit.int .i64 a0_0).wf = true) (w0_1 : (Lit.int .i64 a0_1).wf = true) (w0_2 : (Lit.int .i64 a0_2).wf = true) (w0_3 : (Lit.int .i64 a0_3).wf = true) (w0_4 : (Lit.int .i64 a0_4).wf = true) (w0_5 : (Lit.int .i64 a0_5).wf = true) (w0_6 : (Lit.int .i64 a0_6).wf = true) (w0_7 : (Lit.int .i64 a0_7).wf = true) : laws_FnExactCapPack.f a0_0 a0_1 a0_2 a0_3 a0_4 a0_5 a0_6 a0_7 a0_8 = some true := by
  unfold laws_FnExactCapPack.f laws_toCap.f spec_CapPack.f impl_CapPack.f spec_CapOk.f impl_capPack.f
  simp only [Option.bind_some]
  rw [capPack_imp _ _ _ _ _ _ _ _ _ (capPack_le w0_3)]
  simp only [Option.bind_some]
  by_cases h : CapOkP a0_0 a0_1 a0_2 a0_3 a0_4 a0_5 a0_6 a0_7 a0_8
  · rw [decide_eq_true h, if_pos rfl, if_pos rfl]
    obtain ⟨h0, h1, h2, h3, h4, h5, h6, h7, h8, h9, h10, h11, h12, h13, h14, _⟩ := h
    have hz := szr_kind a0_0 a0_2 h0
    have hm := pack_mxr a0_0
    have hp := pow13 a0_6 (by omega)
    have hf : 0 ≤ a0_7 ∧ a0_7 ≤ 2048 := by omega
    cases a0_8 with
    | true =>
      simp only [if_true, Option.bind_some]
      rw [if_pos]
      all_goals first | (simp; done) | (unfold wrap64; omega)
    | false =>
      simp only [Bool.false_eq_true, if_false, Option.bind_some]
      rw [if_pos]
      all_goals first | (simp; done) | (unfold wrap64; omega)
  · rw [decide_eq_false h]
    simp

end Go.Proofs.Ytjagpgomndndcaa.Pure
