/- The program and the reference agree on CapCopy for all arguments. -/
import Derived.Test.YtjagpgomndndcaaCapCopyx2
namespace Go.Proofs.Ytjagpgomndndcaa.Pure
open Go.RowKit Go.Proofs.YtjagpgomndndcaaW.PrintWords Go.Proofs.YtjagpgomndndcaaW.PrintLast Go.Proofs.YtjagpgomndndcaaW.PrintMore Go.Proofs.Ytjagpgomndndcaa.CapCopy Go.Proofs.Ytjagpgomndndcaa.CapB
set_option linter.unusedVariables false
theorem capCopy_le {n : Int} (h : (Lit.int .i64 n).wf = true) : n ≤ 9223372036854775807 := by
  simp only [Lit.wf, Bool.and_eq_true, decide_eq_true_eq] at h
  exact h.2
theorem capCopy_imp (k a b r g u v f : Int) (o : Bool) (h : r ≤ 9223372036854775807) : impl_isCap.f k a b r g u v f o = some (decide (CapOkP k a b r g u v f o)) := by
  unfold impl_isCap.f; rw [if_pos h]
theorem capCopy_both (r m : Int) (hr : 0 ≤ r ∧ r ≤ 7) (hm : 0 ≤ m ∧ m ≤ 7) : spec_l2Both.f r m = some (Go.bits .and .i64 r m) ∧ 0 ≤ Go.bits .and .i64 r m ∧ Go.bits .and .i64 r m ≤ r := by
  have h1 : r = 0 ∨ r = 1 ∨ r = 2 ∨ r = 3 ∨ r = 4 ∨ r = 5 ∨ r = 6 ∨ r = 7 := by omega
  have h2 : m = 0 ∨ m = 1 ∨ m = 2 ∨ m = 3 ∨ m = 4 ∨ m = 5 ∨ m = 6 ∨ m = 7 := by omega
  clear hr hm
  rcases h1 with rfl | rfl | rfl | rfl | rfl | rfl | rfl | rfl <;> rcases h2 with rfl | rfl | rfl | rfl | rfl | rfl | rfl | rfl <;> decide +kernel
theorem capCopy_mxr (k : Int) : mxr k ≤ 7 := by unfold mxr; split <;> (try split) <;> omega
theorem capCopy_mask {x : Int} (h : (Lit.int .u32 x).wf = true) : 0 ≤ wrap64 (Int.tmod x 8) ∧ wrap64 (Int.tmod x 8) ≤ 7 ∧ 0 ≤ x ∧ x ≤ 4294967295 := by
  simp only [Lit.wf, Bool.and_eq_true, decide_eq_true_eq] at h
  have h0 : 0 ≤ x := h.1
  have h1 : x ≤ 4294967295 := h.2
  rw [Int.tmod_eq_emod_of_nonneg h0]
  unfold wrap64
  omega
def capCopy_T (a0_0 a0_1 a0_2 a0_3 a0_4 a0_5 a0_6 a0_7 : Int) (a0_8 : Bool) (a1 : Int) : Int × Int × Int × Int × Int × Int × Int × Int × Bool × Bool :=
  if CapOkP a0_0 a0_1 a0_2 a0_3 a0_4 a0_5 a0_6 a0_7 a0_8 ∧ ¬ a0_0 = 1 ∧ ¬ a0_0 = 7 then (a0_0, a0_1, a0_2, Go.bits .and .i64 a0_3 (wrap64 (Int.tmod a1 8)), a0_4, a0_5, a0_6, a0_7, false, true) else (0, 0, 0, 0, 0, 0, 0, 0, false, false)
theorem capCopy_spec (n : Nat) (a0_0 a0_1 a0_2 a0_3 a0_4 a0_5 a0_6 a0_7 : Int) (a0_8 : Bool) (a1 : Int) (w1 : (Lit.int .u32 a1).wf = true) : spec_CapCopy.f (n + 1) a0_0 a0_1 a0_2 a0_3 a0_4 a0_5 a0_6 a0_7 a0_8 a1 = some (capCopy_T a0_0 a0_1 a0_2 a0_3 a0_4 a0_5 a0_6 a0_7 a0_8 a1) := by
  unfold spec_CapCopy.f spec_CapOk.f capCopy_T
  simp only [Option.bind_some]
  have hm := capCopy_mask w1
  by_cases h : CapOkP a0_0 a0_1 a0_2 a0_3 a0_4 a0_5 a0_6 a0_7 a0_8
  · rw [decide_eq_true h, if_pos rfl]
    by_cases h1 : a0_0 = 1
    · rw [if_pos h1, if_neg (show ¬ (CapOkP a0_0 a0_1 a0_2 a0_3 a0_4 a0_5 a0_6 a0_7 a0_8 ∧ ¬ a0_0 = 1 ∧ ¬ a0_0 = 7) from fun x => x.2.1 h1)]; simp [spec_CapCopy.j0]
    · rw [if_neg h1]
      by_cases h7 : a0_0 = 7
      · rw [if_neg (show ¬ (CapOkP a0_0 a0_1 a0_2 a0_3 a0_4 a0_5 a0_6 a0_7 a0_8 ∧ ¬ a0_0 = 1 ∧ ¬ a0_0 = 7) from fun x => x.2.2 h7)]; simp [spec_CapCopy.j0, h7]
      · have hx := capCopy_mxr a0_0
        have hb := (capCopy_both a0_3 (wrap64 (Int.tmod a1 8)) ⟨h.2.1, by have := h.2.2.1; omega⟩ ⟨hm.1, hm.2.1⟩).1
        rw [if_pos ⟨h, h1, h7⟩]
        simp only [spec_CapCopy.j0]
        rw [if_neg (by simpa using h7), hb]
        rfl
  · rw [decide_eq_false h, if_neg (show ¬ (CapOkP a0_0 a0_1 a0_2 a0_3 a0_4 a0_5 a0_6 a0_7 a0_8 ∧ ¬ a0_0 = 1 ∧ ¬ a0_0 = 7) from fun x => h x.1), if_neg (show ¬ (false = true) by decide)]
    simp [spec_CapCopy.j0]
theorem capCopy_impl (n : Nat) (a0_0 a0_1 a0_2 a0_3 a0_4 a0_5 a0_6 a0_7 : Int) (a0_8 : Bool) (a1 : Int) (w3 : a0_3 ≤ 9223372036854775807) : impl_capCopy.f (n + 1) a0_0 a0_1 a0_2 a0_3 a0_4 a0_5 a0_6 a0_7 a0_8 a1 = some (capCopy_T a0_0 a0_1 a0_2 a0_3 a0_4 a0_5 a0_6 a0_7 a0_8 a1) := by
  unfold impl_capCopy.f capCopy_T
  rw [capCopy_imp _ _ _ _ _ _ _ _ _ w3]
  simp only [Option.bind_some]
  by_cases h : CapOkP a0_0 a0_1 a0_2 a0_3 a0_4 a0_5 a0_6 a0_7 a0_8
  · rw [decide_eq_true h, if_pos rfl]
    by_cases h1 : a0_0 = 1
    · rw [if_pos h1, if_neg (show ¬ (CapOkP a0_0 a0_1 a0_2 a0_3 a0_4 a0_5 a0_6 a0_7 a0_8 ∧ ¬ a0_0 = 1 ∧ ¬ a0_0 = 7) from fun x => x.2.1 h1)]; simp [impl_capCopy.j0]
    · rw [if_neg h1]
      by_cases h7 : a0_0 = 7
      · rw [if_neg (show ¬ (CapOkP a0_0 a0_1 a0_2 a0_3 a0_4 a0_5 a0_6 a0_7 a0_8 ∧ ¬ a0_0 = 1 ∧ ¬ a0_0 = 7) from fun x => x.2.2 h7)]; simp [impl_capCopy.j0, h7]
      · rw [if_pos ⟨h, h1, h7⟩]
        simp only [impl_capCopy.j0]
        rw [if_neg (by simpa using h7)]
  · rw [decide_eq_false h, if_neg (show ¬ (CapOkP a0_0 a0_1 a0_2 a0_3 a0_4 a0_5 a0_6 a0_7 a0_8 ∧ ¬ a0_0 = 1 ∧ ¬ a0_0 = 7) from fun x => h x.1), if_neg (show ¬ (false = true) by decide)]
    simp [impl_capCopy.j0]
theorem capCopy_eq (T : Int × Int × Int × Int × Int × Int × Int × Int × Bool × Bool) : ((laws_eqCap.f T.1 T.2.1 T.2.2.1 T.2.2.2.1 T.2.2.2.2.1 T.2.2.2.2.2.1 T.2.2.2.2.2.2.1 T.2.2.2.2.2.2.2.1 T.2.2.2.2.2.2.2.2.1 T.1 T.2.1 T.2.2.1 T.2.2.2.1 T.2.2.2.2.1 T.2.2.2.2.2.1 T.2.2.2.2.2.2.1 T.2.2.2.2.2.2.2.1 T.2.2.2.2.2.2.2.2.1).bind fun t => (if t = true then (if (T.2.2.2.2.2.2.2.2.2 != T.2.2.2.2.2.2.2.2.2) = true then (some false) else (some true)) else (some false))) = some true := by
  simp [laws_eqCap.f]
theorem FnExactCapCopy (a0_0 a0_1 a0_2 a0_3 a0_4 a0_5 a0_6 a0_7 : Int) (a0_8 : Bool) (a1 : Int) (w0_0 : (Lit.int .i64 a0_0).wf = true) (w0_1 : (Lit.int .i64 a0_1).wf = true) (w0_2 : (Lit.int .i64 a0_2).wf = true) (w0_3 : (Lit.int .i64 a0_3).wf = true) (w0_4 : (Lit.int .i64 a0_4).wf = true) (w0_5 : (Lit.int .i64 a0_5).wf = true) (w0_6 : (Lit.int .i64 a0_6).wf = true) (w0_7 : (Lit.int .i64 a0_7).wf = true) (w1 : (Lit.int .u32 a1).wf = true) : ∃ k, laws_FnExactCapCopy.f k a0_0 a0_1 a0_2 a0_3 a0_4 a0_5 a0_6 a0_7 a0_8 a1 = some true := by
  refine ⟨1, ?_⟩
  unfold laws_FnExactCapCopy.f laws_toCap.f impl_CapCopy.f
  simp only [Option.bind_some]
  rw [capCopy_spec 0 _ _ _ _ _ _ _ _ _ _ w1, capCopy_impl 0 _ _ _ _ _ _ _ _ _ _ (capCopy_le w0_3)]
  simp only [Option.bind_some]
  exact capCopy_eq _

end Go.Proofs.Ytjagpgomndndcaa.Pure
