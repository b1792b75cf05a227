/- The program and the reference agree on CapMint for all arguments. -/
import Derived.Test.YtjagpgomndndcaaCapMintx3
namespace Go.Proofs.Ytjagpgomndndcaa.Pure
open Go.RowKit Go.Proofs.YtjagpgomndndcaaW.PrintWords Go.Proofs.YtjagpgomndndcaaW.PrintLast Go.Proofs.YtjagpgomndndcaaW.PrintMore Go.Proofs.Ytjagpgomndndcaa.CapMint Go.Proofs.Ytjagpgomndndcaa.CapB
set_option linter.unusedVariables false
theorem capMint_le {n : Int} (h : (Lit.int .i64 n).wf = true) : n ≤ 9223372036854775807 := by
  simp only [Lit.wf, Bool.and_eq_true, decide_eq_true_eq] at h
  exact h.2
theorem capMint_imp (k a b r g u v f : Int) (o : Bool) (h : r ≤ 9223372036854775807) : impl_isCap.f k a b r g u v f o = some (decide (CapOkP k a b r g u v f o)) := by
  unfold impl_isCap.f; rw [if_pos h]
theorem capMint_both (r m : Int) (hr : 0 ≤ r ∧ r ≤ 7) (hm : 0 ≤ m ∧ m ≤ 7) : spec_l2Both.f r m = some (Go.bits .and .i64 r m) ∧ 0 ≤ Go.bits .and .i64 r m ∧ Go.bits .and .i64 r m ≤ r := by
  have h1 : r = 0 ∨ r = 1 ∨ r = 2 ∨ r = 3 ∨ r = 4 ∨ r = 5 ∨ r = 6 ∨ r = 7 := by omega
  have h2 : m = 0 ∨ m = 1 ∨ m = 2 ∨ m = 3 ∨ m = 4 ∨ m = 5 ∨ m = 6 ∨ m = 7 := by omega
  clear hr hm
  rcases h1 with rfl | rfl | rfl | rfl | rfl | rfl | rfl | rfl <;> rcases h2 with rfl | rfl | rfl | rfl | rfl | rfl | rfl | rfl <;> decide +kernel
theorem capMint_mxr (k : Int) : mxr k ≤ 7 := by unfold mxr; split <;> (try split) <;> omega
theorem capMint_mask {x : Int} (h : (Lit.int .u32 x).wf = true) : 0 ≤ wrap64 (Int.tmod x 8) ∧ wrap64 (Int.tmod x 8) ≤ 7 ∧ 0 ≤ x ∧ x ≤ 4294967295 := by
  simp only [Lit.wf, Bool.and_eq_true, decide_eq_true_eq] at h
  have h0 : 0 ≤ x := h.1
  have h1 : x ≤ 4294967295 := h.2
  rw [Int.tmod_eq_emod_of_nonneg h0]
  unfold wrap64
  omega
def capMint_T (a0_0 a0_1 a0_2 a0_3 a0_4 a0_5 a0_6 a0_7 : Int) (a0_8 : Bool) (a1 : Int) : Int × Int × Int × Int × Int × Int × Int × Int × Bool × Bool :=
  if CapOkP a0_0 a0_1 a0_2 a0_3 a0_4 a0_5 a0_6 a0_7 a0_8 ∧ ¬ a0_0 = 1 ∧ ¬ a0_0 = 7 then (a0_0, a0_1, a0_2, Go.bits .and .i64 a0_3 (wrap64 (Int.tmod a1 8)), a0_4, a0_5, a0_6, a0_7, false, true) else (0, 0, 0, 0, 0, 0, 0, 0, false, false)
theorem capMint_spec (n : Nat) (a0_0 a0_1 a0_2 a0_3 a0_4 a0_5 a0_6 a0_7 : Int) (a0_8 : Bool) (a1 : Int) (w1 : (Lit.int .u32 a1).wf = true) : spec_CapCopy.f (n + 1) a0_0 a0_1 a0_2 a0_3 a0_4 a0_5 a0_6 a0_7 a0_8 a1 = some (capMint_T a0_0 a0_1 a0_2 a0_3 a0_4 a0_5 a0_6 a0_7 a0_8 a1) := by
  unfold spec_CapCopy.f spec_CapOk.f capMint_T
  simp only [Option.bind_some]
  have hm := capMint_mask w1
  by_cases h : CapOkP a0_0 a0_1 a0_2 a0_3 a0_4 a0_5 a0_6 a0_7 a0_8
  · rw [decide_eq_true h, if_pos rfl]
    by_cases h1 : a0_0 = 1
    · rw [if_pos h1, if_neg (show ¬ (CapOkP a0_0 a0_1 a0_2 a0_3 a0_4 a0_5 a0_6 a0_7 a0_8 ∧ ¬ a0_0 = 1 ∧ ¬ a0_0 = 7) from fun x => x.2.1 h1)]; simp [spec_CapCopy.j0]
    · rw [if_neg h1]
      by_cases h7 : a0_0 = 7
      · rw [if_neg (show ¬ (CapOkP a0_0 a0_1 a0_2 a0_3 a0_4 a0_5 a0_6 a0_7 a0_8 ∧ ¬ a0_0 = 1 ∧ ¬ a0_0 = 7) from fun x => x.2.2 h7)]; simp [spec_CapCopy.j0, h7]
      · have hx := capMint_mxr a0_0
        have hb := (capMint_both a0_3 (wrap64 (Int.tmod a1 8)) ⟨h.2.1, by have := h.2.2.1; omega⟩ ⟨hm.1, hm.2.1⟩).1
        rw [if_pos ⟨h, h1, h7⟩]
        simp only [spec_CapCopy.j0]
        rw [if_neg (by simpa using h7), hb]
        rfl
  · rw [decide_eq_false h, if_neg (show ¬ (CapOkP a0_0 a0_1 a0_2 a0_3 a0_4 a0_5 a0_6 a0_7 a0_8 ∧ ¬ a0_0 = 1 ∧ ¬ a0_0 = 7) from fun x => h x.1), if_neg (show ¬ (false = true) by decide)]
    simp [spec_CapCopy.j0]
theorem capMint_impl (n : Nat) (a0_0 a0_1 a0_2 a0_3 a0_4 a0_5 a0_6 a0_7 : Int) (a0_8 : Bool) (a1 : Int) (w3 : a0_3 ≤ 9223372036854775807) : impl_capCopy.f (n + 1) a0_0 a0_1 a0_2 a0_3 a0_4 a0_5 a0_6 a0_7 a0_8 a1 = some (capMint_T a0_0 a0_1 a0_2 a0_3 a0_4 a0_5 a0_6 a0_7 a0_8 a1) := by
  unfold impl_capCopy.f capMint_T
  rw [capMint_imp _ _ _ _ _ _ _ _ _ w3]
  simp only [Option.bind_some]
  by_cases h : CapOkP a0_0 a0_1 a0_2 a0_3 a0_4 a0_5 a0_6 a0_7 a0_8
  · rw [decide_eq_true h, if_pos rfl]
    by_cases h1 : a0_0 = 1
    · rw [if_pos h1, if_neg (show ¬ (CapOkP a0_0 a0_1 a0_2 a0_3 a0_4 a0_5 a0_6 a0_7 a0_8 ∧ ¬ a0_0 = 1 ∧ ¬ a0_0 = 7) from fun x => x.2.1 h1)]; simp [impl_capCopy.j0]
    · rw [if_neg h1]
      by_cases h7 : a0_0 = 7
      · rw [if_neg (show ¬ (CapOkP a0_0 a0_1 a0_2 a0_3 a0_4 a0_5 a0_6 a0_7 a0_8 ∧ ¬ a0_0 = 1 ∧ ¬ a0_0 = 7) from fun x => x.2.2 h7)]; simp [impl_capCopy.j0, h7]
      · rw [if_pos ⟨h, h1, h7⟩]
        simp only [impl_capCopy.j0]
        rw [if_neg (by simpa using h7)]
  · rw [decide_eq_false h, if_neg (show ¬ (CapOkP a0_0 a0_1 a0_2 a0_3 a0_4 a0_5 a0_6 a0_7 a0_8 ∧ ¬ a0_0 = 1 ∧ ¬ a0_0 = 7) from fun x => h x.1), if_neg (show ¬ (false = true) by decide)]
    simp [impl_capCopy.j0]
theorem capMint_eq (T : Int × Int × Int × Int × Int × Int × Int × Int × Bool × Bool) : ((laws_eqCap.f T.1 T.2.1 T.2.2.1 T.2.2.2.1 T.2.2.2.2.1 T.2.2.2.2.2.1 T.2.2.2.2.2.2.1 T.2.2.2.2.2.2.2.1 T.2.2.2.2.2.2.2.2.1 T.1 T.2.1 T.2.2.1 T.2.2.2.1 T.2.2.2.2.1 T.2.2.2.2.2.1 T.2.2.2.2.2.2.1 T.2.2.2.2.2.2.2.1 T.2.2.2.2.2.2.2.2.1).bind fun t => (if t = true then (if (T.2.2.2.2.2.2.2.2.2 != T.2.2.2.2.2.2.2.2.2) = true then (some false) else (some true)) else (some false))) = some true := by
  simp [laws_eqCap.f]
theorem mint_iff (k a b r q g u v f x : Int) (o : Bool) (h : CapOkP k a b r g u v f o) (hk : k = 4 ∨ k = 5) (hq : 0 ≤ q ∧ q ≤ r) (hx : 0 ≤ x) : CapOkP k a b q x u v f false ↔ x ≤ 65535 := by
  obtain ⟨h0, h1, h2, h3, h4, h5, h6, h7, h8, h9, h10, h11, h12, h13, h14, h15, h16⟩ := h
  constructor
  · intro h; exact h.2.2.2.2.2.2.2.1
  · intro hx1
    exact ⟨h0, hq.1, by omega, h3, h4, h5, hx, hx1, Or.inr hk, h9, h10, h11, h12, h13, h14, (fun x => nomatch x), (fun _ => by omega)⟩
def mintU (a0_0 a0_1 a0_2 q a0_4 a0_5 a0_6 a0_7 x : Int) : Int × Int × Int × Int × Int × Int × Int × Int × Bool × Bool :=
  if a0_0 = 4 ∨ a0_0 = 5 then (if a0_4 = 0 ∧ x ≤ 65535 then (a0_0, a0_1, a0_2, q, x, a0_5, a0_6, a0_7, false, true) else (0, 0, 0, 0, 0, 0, 0, 0, false, false))
  else if a0_0 = 2 ∧ CapOkP a0_0 a0_1 a0_2 q a0_4 (x % 65536) (x / 65536) a0_7 false then (a0_0, a0_1, a0_2, q, a0_4, x % 65536, x / 65536, a0_7, false, true) else (0, 0, 0, 0, 0, 0, 0, 0, false, false)
theorem mint_spec (n : Nat) (a0_0 a0_1 a0_2 a0_3 a0_4 a0_5 a0_6 a0_7 : Int) (a0_8 : Bool) (q x : Int) (z : Bool) (hz : z = decide (a0_0 = 4 ∨ a0_0 = 5)) (h : CapOkP a0_0 a0_1 a0_2 a0_3 a0_4 a0_5 a0_6 a0_7 a0_8) (hx : 0 ≤ x ∧ x ≤ 4294967295) :
    spec_CapMint.j0 (n + 1) x a0_0 z a0_0 a0_1 a0_2 a0_3 a0_4 a0_5 a0_6 a0_7 a0_8 a0_0 a0_1 a0_2 q a0_4 a0_5 a0_6 a0_7 false = some (mintU a0_0 a0_1 a0_2 q a0_4 a0_5 a0_6 a0_7 x) := by
  have w2 : wrap64 (x / 65536) = x / 65536 := by unfold wrap64; omega
  have hg : 0 ≤ a0_4 := h.2.2.2.2.2.2.1
  simp only [spec_CapMint.j0]
  rw [hz, Int.tmod_eq_emod_of_nonneg hx.1, Int.tdiv_eq_ediv_of_nonneg hx.1, w2]
  unfold spec_CapOk.f mintU
  simp only [Option.bind_some]
  by_cases hk : a0_0 = 4 ∨ a0_0 = 5
  · rw [decide_eq_true hk, if_pos rfl, if_pos hk]
    by_cases g0 : a0_4 = 0
    · rw [if_neg (by omega)]
      by_cases x1 : x ≤ 65535
      · rw [if_neg (by omega), if_pos ⟨g0, x1⟩]
      · rw [if_pos (by omega), if_neg (fun e => x1 e.2)]
    · rw [if_pos (by omega), if_neg (fun e => g0 e.1)]
  · rw [decide_eq_false hk, if_neg (by decide), if_neg hk]
    by_cases k2 : a0_0 = 2
    · rw [if_pos k2]
      by_cases ho : CapOkP a0_0 a0_1 a0_2 q a0_4 (x % 65536) (x / 65536) a0_7 false
      · rw [decide_eq_true ho, if_pos rfl, if_pos ⟨k2, ho⟩]
      · rw [decide_eq_false ho, if_neg (by decide), if_neg (fun e => ho e.2)]
    · rw [if_neg k2, if_neg (fun e => k2 e.1)]
theorem mint_impl (n : Nat) (a0_0 a0_1 a0_2 a0_3 a0_4 a0_5 a0_6 a0_7 : Int) (a0_8 : Bool) (q x : Int) (z : Bool) (hz : z = decide (a0_0 = 4 ∨ a0_0 = 5)) (h : CapOkP a0_0 a0_1 a0_2 a0_3 a0_4 a0_5 a0_6 a0_7 a0_8) (hq : 0 ≤ q ∧ q ≤ a0_3) (hq7 : q ≤ 9223372036854775807) (hx : 0 ≤ x ∧ x ≤ 4294967295) :
    impl_CapMint.j0 (n + 2) x a0_0 z a0_0 a0_1 a0_2 a0_3 a0_4 a0_5 a0_6 a0_7 a0_8 a0_0 a0_1 a0_2 q a0_4 a0_5 a0_6 a0_7 false = some (mintU a0_0 a0_1 a0_2 q a0_4 a0_5 a0_6 a0_7 x) := by
  have w1 : wrap64 x = x := by unfold wrap64; omega
  have w2 : wrap64 (x % 65536) = x % 65536 := by unfold wrap64; omega
  have w3 : x / 65536 % 4294967296 = x / 65536 := by omega
  have hg : 0 ≤ a0_4 := h.2.2.2.2.2.2.1
  simp only [impl_CapMint.j0, impl_CapMint.j1]
  rw [hz, Int.tmod_eq_emod_of_nonneg hx.1, Int.tdiv_eq_ediv_of_nonneg hx.1, w1, w2, w3, capMint_imp _ _ _ _ _ _ _ _ _ hq7, capMint_imp _ _ _ _ _ _ _ _ _ hq7]
  unfold mintU
  simp only [Option.bind_some]
  by_cases hk : a0_0 = 4 ∨ a0_0 = 5
  · rw [decide_eq_true hk, if_pos rfl, if_pos hk]
    have hi := mint_iff a0_0 a0_1 a0_2 a0_3 q a0_4 a0_5 a0_6 a0_7 x a0_8 h hk hq hx.1
    by_cases g0 : a0_4 = 0
    · rw [if_pos g0]
      by_cases x1 : x ≤ 65535
      · rw [decide_eq_true (hi.2 x1), if_pos rfl, if_pos ⟨g0, x1⟩]
      · rw [decide_eq_false (fun e => x1 (hi.1 e)), if_neg (by decide), if_neg (fun e => x1 e.2)]
    · rw [if_neg g0, if_neg (show ¬ (false = true) by decide), if_neg (fun e => g0 e.1)]
  · rw [decide_eq_false hk, if_neg (show ¬ (false = true) by decide), if_neg hk]
    by_cases k2 : a0_0 = 2
    · rw [if_pos k2]
      by_cases ho : CapOkP a0_0 a0_1 a0_2 q a0_4 (x % 65536) (x / 65536) a0_7 false
      · rw [decide_eq_true ho, if_pos rfl, if_pos ⟨k2, ho⟩]
      · rw [decide_eq_false ho, if_neg (by decide), if_neg (fun e => ho e.2)]
    · rw [if_neg k2, if_neg (show ¬ (false = true) by decide), if_neg (fun e => k2 e.1)]
theorem mint_sel {α : Type} (k : Int) (F : Bool → α) : (if k = 4 then F (k == 4) else F (k == 5)) = F (decide (k = 4 ∨ k = 5)) := by
  by_cases h4 : k = 4
  · rw [if_pos h4, decide_eq_true (Or.inl h4), beq_iff_eq.2 h4]
  · rw [if_neg h4]
    by_cases h5 : k = 5
    · rw [decide_eq_true (Or.inr h5), beq_iff_eq.2 h5]
    · rw [decide_eq_false (by omega), beq_eq_false_iff_ne.2 h5]
theorem FnExactCapMint (a0_0 a0_1 a0_2 a0_3 a0_4 a0_5 a0_6 a0_7 : Int) (a0_8 : Bool) (a1 : Int) (a2 : Int) (w0_0 : (Lit.int .i64 a0_0).wf = true) (w0_1 : (Lit.int .i64 a0_1).wf = true) (w0_2 : (Lit.int .i64 a0_2).wf = true) (w0_3 : (Lit.int .i64 a0_3).wf = true) (w0_4 : (Lit.int .i64 a0_4).wf = true) (w0_5 : (Lit.int .i64 a0_5).wf = true) (w0_6 : (Lit.int .i64 a0_6).wf = true) (w0_7 : (Lit.int .i64 a0_7).wf = true) (w1 : (Lit.int .u32 a1).wf = true) (w2 : (Lit.int .u32 a2).wf = true) : ∃ k, laws_FnExactCapMint.f k a0_0 a0_1 a0_2 a0_3 a0_4 a0_5 a0_6 a0_7 a0_8 a1 a2 = some true := by
  refine ⟨3, ?_⟩
  unfold laws_FnExactCapMint.f laws_toCap.f impl_CapMint.f spec_CapMint.f
  simp only [Option.bind_some]
  rw [capMint_spec 2 _ _ _ _ _ _ _ _ _ _ w1, capMint_impl 2 _ _ _ _ _ _ _ _ _ _ (capMint_le w0_3)]
  simp only [Option.bind_some]
  have hx : 0 ≤ a2 ∧ a2 ≤ 4294967295 := by
    simp only [Lit.wf, Bool.and_eq_true, decide_eq_true_eq] at w2
    exact w2
  have e2 : wrap64 a2 = a2 := by unfold wrap64; omega
  rw [e2]
  unfold capMint_T
  by_cases h : CapOkP a0_0 a0_1 a0_2 a0_3 a0_4 a0_5 a0_6 a0_7 a0_8 ∧ ¬ a0_0 = 1 ∧ ¬ a0_0 = 7
  · rw [if_pos h]
    dsimp only
    rw [if_pos rfl, if_pos rfl]
    rw [mint_sel a0_0 (fun z => spec_CapMint.j0 3 a2 a0_0 z _ _ _ _ _ _ _ _ _ _ _ _ _ _ _ _ _ _), mint_sel a0_0 (fun z => impl_CapMint.j0 3 a2 a0_0 z _ _ _ _ _ _ _ _ _ _ _ _ _ _ _ _ _ _)]
    have hm := capMint_mask w1
    have hx' := capMint_mxr a0_0
    have hb := (capMint_both a0_3 (wrap64 (Int.tmod a1 8)) ⟨h.1.2.1, by have := h.1.2.2.1; omega⟩ ⟨hm.1, hm.2.1⟩).2
    have h3 := capMint_le w0_3
    rw [mint_spec 2 _ _ _ _ _ _ _ _ _ _ _ _ rfl h.1 hx, mint_impl 1 _ _ _ _ _ _ _ _ _ _ _ _ rfl h.1 hb (by omega) hx]
    simp only [Option.bind_some]
    exact capMint_eq _
  · rw [if_neg h]
    rfl

end Go.Proofs.Ytjagpgomndndcaa.Pure
