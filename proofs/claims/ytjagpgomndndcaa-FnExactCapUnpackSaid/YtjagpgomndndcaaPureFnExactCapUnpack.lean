/- The program and the reference agree on CapUnpack for all arguments. -/
import Derived.Test.YtjagpgomndndcaaCapUnpackx2
namespace Go.Proofs.Ytjagpgomndndcaa.Pure
open Go.RowKit Go.Proofs.YtjagpgomndndcaaW.PrintWords Go.Proofs.YtjagpgomndndcaaW.PrintLast Go.Proofs.YtjagpgomndndcaaW.PrintMore Go.Proofs.Ytjagpgomndndcaa.CapUnpack Go.Proofs.Ytjagpgomndndcaa.CapB
set_option linter.unusedVariables false
theorem unp_le {n : Int} (h : (Lit.int .i64 n).wf = true) : n ≤ 9223372036854775807 := by
  simp only [Lit.wf, Bool.and_eq_true, decide_eq_true_eq] at h
  exact h.2
theorem unp_imp (k a b r g u v f : Int) (o : Bool) (h : r ≤ 9223372036854775807) : impl_isCap.f k a b r g u v f o = some (decide (CapOkP k a b r g u v f o)) := by
  unfold impl_isCap.f; rw [if_pos h]
theorem unp_kind (k b : Int) (h : 0 < szr k b) : 1 ≤ k ∧ k ≤ 7 ∧ 0 ≤ b ∧ b ≤ 11 ∧ szr k b ≤ 2048 := by
  have hb := capSz_bd k b
  unfold szr at *
  by_cases h7 : k = 7 ∧ b = 0
  · rw [if_pos h7]; omega
  · rw [if_neg h7] at h ⊢
    refine ⟨?_, ?_, ?_, ?_, hb.2⟩
    all_goals
      unfold capSz at h
      split at h
      · omega
      split at h
      · omega
      split at h
      · omega
      split at h
      · omega
      split at h
      · omega
      · omega
def unpT (k a b r g u v f : Int) (o : Bool) : Int × Int × Int × Int × Int × Int × Int × Int × Bool × Bool := if CapOkP k a b r g u v f o then (k, a, b, r, g, u, v, f, o, true) else (0, 0, 0, 0, 0, 0, 0, 0, false, false)
theorem unp_pack (x y : Int) (k a b r g u v f : Int) (o : Bool) (hx : 0 ≤ x ∧ x ≤ 4294967295) (hy : 0 ≤ y ∧ y ≤ 4294967295) (ek : k = x % 16) (eo : o = decide (x / 16 % 2 = 1)) (er : r = x / 32 % 8) (eb : b = x / 256 % 16) (ev : v = x / 4096 % 16) (ef : f = x / 65536) (ea : a = y % 65536) (eg : g + u = y / 65536) (hg : 0 ≤ g) (hu : 0 ≤ u) :
    spec_CapPack.f k a b r g u v f o = some (if CapOkP k a b r g u v f o then (x, y) else (0, 0)) := by
  unfold spec_CapPack.f spec_CapOk.f
  simp only [Option.bind_some]
  by_cases h : CapOkP k a b r g u v f o
  · rw [decide_eq_true h, if_pos rfl, if_pos h]
    clear h
    have wid : ∀ z : Int, -1000000000000 ≤ z → z ≤ 1000000000000 → wrap64 z = z := fun z h1 h2 => by unfold wrap64; omega
    have s1 : x = 16 * (x / 16) + k := by omega
    have s2 : x / 16 = 2 * (x / 32) + x / 16 % 2 := by omega
    have s3 : x / 32 = 8 * (x / 256) + r := by omega
    have s4 : x / 256 = 16 * (x / 4096) + b := by omega
    have s5 : x / 4096 = 16 * f + v := by omega
    have b1 : 0 ≤ k ∧ k ≤ 15 := by omega
    have b2 : 0 ≤ r ∧ r ≤ 7 := by omega
    have b3 : 0 ≤ b ∧ b ≤ 15 := by omega
    have b4 : 0 ≤ v ∧ v ≤ 15 := by omega
    have b5 : 0 ≤ f ∧ f ≤ 65535 := by omega
    have b6 : 0 ≤ a ∧ a ≤ 65535 := by omega
    have b7 : 0 ≤ g + u ∧ g + u ≤ 65535 := by omega
    have t1 : y = a + 65536 * (g + u) := by omega
    have b0 : x / 16 % 2 = 0 ∨ x / 16 % 2 = 1 := by omega
    clear ek er eb ev ef ea eg
    generalize x / 16 % 2 = q at *
    generalize x / 16 = X1 at *
    generalize x / 32 = X2 at *
    generalize x / 256 = X3 at *
    generalize x / 4096 = X4 at *
    have e : ∀ q' : Int, q' = q → 0 ≤ q' → q' ≤ 1 → ((wrap64 ((wrap64 ((wrap64 ((wrap64 ((wrap64 (k + (16 * q'))) + (wrap64 (32 * r)))) + (wrap64 (256 * b)))) + (wrap64 (4096 * v)))) + (wrap64 (65536 * f)))) % 4294967296, (wrap64 (a + (wrap64 (65536 * (wrap64 (g + u)))))) % 4294967296) = (x, y) := fun q' e h0 h1 => by
      rw [wid (32 * r) (by omega) (by omega), wid (256 * b) (by omega) (by omega), wid (4096 * v) (by omega) (by omega), wid (65536 * f) (by omega) (by omega), wid (g + u) (by omega) (by omega), wid (65536 * (g + u)) (by omega) (by omega), wid (k + 16 * q') (by omega) (by omega)]
      rw [wid (k + 16 * q' + 32 * r) (by omega) (by omega), wid (k + 16 * q' + 32 * r + 256 * b) (by omega) (by omega), wid (k + 16 * q' + 32 * r + 256 * b + 4096 * v) (by omega) (by omega), wid (k + 16 * q' + 32 * r + 256 * b + 4096 * v + 65536 * f) (by omega) (by omega), wid (a + 65536 * (g + u)) (by omega) (by omega)]
      have ex : k + 16 * q' + 32 * r + 256 * b + 4096 * v + 65536 * f = x := by omega
      rw [ex, ← t1, Int.emod_eq_of_lt hx.1 (by omega), Int.emod_eq_of_lt hy.1 (by omega)]
    rcases b0 with h0 | h1
    · rw [eo, h0, decide_eq_false (by decide), if_neg (by decide), e 0 h0.symm (by omega) (by omega)]
    · rw [eo, h1, decide_eq_true rfl, if_pos rfl, e 1 h1.symm (by omega) (by omega)]
  · rw [decide_eq_false h, if_neg (by decide), if_neg h]
theorem unp_spec (n : Nat) (x y : Int) (k a b r g u v f : Int) (o : Bool) (hp : spec_CapPack.f k a b r g u v f o = some (if CapOkP k a b r g u v f o then (x, y) else (0, 0))) (h0 : CapOkP k a b r g u v f o → ¬ x = 0) : spec_CapUnpack.j0 (n + 2) x y k a b r g u v f o = some (unpT k a b r g u v f o) := by
  simp only [spec_CapUnpack.j0]
  rw [hp]
  simp only [Option.bind_some]
  unfold unpT
  by_cases h : CapOkP k a b r g u v f o
  · rw [if_pos h, if_pos h]
    have e : (x == 0) = false := beq_eq_false_iff_ne.2 (h0 h)
    simp [spec_CapUnpack.j1, e]
  · rw [if_neg h, if_neg h]
    by_cases e0 : (0 : Int) = x
    · by_cases e1 : (0 : Int) = y
      · subst e0 e1; simp [spec_CapUnpack.j1]
      · simp [spec_CapUnpack.j1, e0]
    · simp [spec_CapUnpack.j1, e0]
theorem unp_impl (n : Nat) (k a b r g u v f : Int) (o : Bool) (hr : r ≤ 9223372036854775807) : impl_capUnpack.j0 (n + 1) k a b r g u v f o = some (unpT k a b r g u v f o) := by
  simp only [impl_capUnpack.j0]
  rw [unp_imp _ _ _ _ _ _ _ _ _ hr]
  simp only [Option.bind_some]
  unfold unpT
  by_cases h : CapOkP k a b r g u v f o
  · rw [decide_eq_true h, if_pos rfl, if_pos h]
  · rw [decide_eq_false h, if_neg (by decide), if_neg h]
theorem unp_eq (T : Int × Int × Int × Int × Int × Int × Int × Int × Bool × Bool) : ((laws_eqCap.f T.1 T.2.1 T.2.2.1 T.2.2.2.1 T.2.2.2.2.1 T.2.2.2.2.2.1 T.2.2.2.2.2.2.1 T.2.2.2.2.2.2.2.1 T.2.2.2.2.2.2.2.2.1 T.1 T.2.1 T.2.2.1 T.2.2.2.1 T.2.2.2.2.1 T.2.2.2.2.2.1 T.2.2.2.2.2.2.1 T.2.2.2.2.2.2.2.1 T.2.2.2.2.2.2.2.2.1).bind fun t => (if t = true then (if (T.2.2.2.2.2.2.2.2.2 != T.2.2.2.2.2.2.2.2.2) = true then (some false) else (some true)) else (some false))) = some true := by
  simp [laws_eqCap.f]
theorem FnExactCapUnpack : laws_FnExactCapUnpack.Pure := by
  intro x y wx wy
  simp only [Lit.wf, Bool.and_eq_true, decide_eq_true_eq] at wx wy
  have hx : 0 ≤ x ∧ x ≤ 4294967295 := wx
  have hy : 0 ≤ y ∧ y ≤ 4294967295 := wy
  clear wx wy
  refine ⟨2, ?_⟩
  unfold laws_FnExactCapUnpack.f impl_CapUnpack.f spec_CapUnpack.f impl_capUnpack.f impl_hasBadge.f
  have e0 : wrap64 x = x := by unfold wrap64; omega
  have e1 : wrap64 y = y := by unfold wrap64; omega
  have tm : ∀ (z c : Int), 0 ≤ z → Int.tmod z c = z % c := fun z c h => Int.tmod_eq_emod_of_nonneg h
  have td : ∀ (z c : Int), 0 ≤ z → Int.tdiv z c = z / c := fun z c h => Int.tdiv_eq_ediv_of_nonneg h
  have d1 : wrap64 (x / 16) = x / 16 := by unfold wrap64; omega
  have d2 : wrap64 (x / 32) = x / 32 := by unfold wrap64; omega
  have d3 : wrap64 (x / 256) = x / 256 := by unfold wrap64; omega
  have d4 : wrap64 (x / 4096) = x / 4096 := by unfold wrap64; omega
  have d5 : wrap64 (x / 65536) = x / 65536 := by unfold wrap64; omega
  have d6 : wrap64 (y / 65536) = y / 65536 := by unfold wrap64; omega
  have m1 : wrap64 (x % 16) = x % 16 := by unfold wrap64; omega
  have m2 : wrap64 (y % 65536) = y % 65536 := by unfold wrap64; omega
  have q1 : x / 16 % 4294967296 = x / 16 := by omega
  have q2 : x / 32 % 4294967296 = x / 32 := by omega
  have q3 : x / 256 % 4294967296 = x / 256 := by omega
  have q4 : x / 4096 % 4294967296 = x / 4096 := by omega
  have q5 : x / 65536 % 4294967296 = x / 65536 := by omega
  have q6 : y / 65536 % 4294967296 = y / 65536 := by omega
  rw [e0, e1]
  simp only [tm x _ hx.1, td x _ hx.1, tm y _ hy.1, td y _ hy.1]
  simp only [d1, d2, d3, d4, d5, d6, m1, m2, q5, q6]
  simp only [tm (x / 16) 2 (by omega), tm (x / 32) 8 (by omega), tm (x / 256) 16 (by omega), tm (x / 4096) 16 (by omega)]
  have eo : (x / 16 % 2 == 1) = decide (x / 16 % 2 = 1) := by rw [Bool.eq_iff_iff]; simp
  simp only [Option.bind_some]
  have hz : ∀ (g u : Int), CapOkP (x % 16) (y % 65536) (x / 256 % 16) (x / 32 % 8) g u (x / 4096 % 16) (x / 65536) (x / 16 % 2 == 1) → ¬ x = 0 := fun g u h => by
    have := unp_kind _ _ h.1
    omega
  by_cases k2 : x % 16 = 2
  · have hb : bdB (x % 16) = false := decide_eq_false (by omega)
    rw [if_pos k2, hb, if_neg (by decide)]
    rw [unp_spec 0 x y _ _ _ _ _ _ _ _ _ (unp_pack x y _ _ _ _ _ _ _ _ _ hx hy rfl eo rfl rfl rfl rfl rfl (by omega) (by omega) (by omega)) (hz _ _), unp_impl 1 _ _ _ _ _ _ _ _ _ (by omega)]
    simp only [Option.bind_some]
    exact unp_eq _
  · rw [if_neg k2]
    rw [unp_spec 0 x y _ _ _ _ _ _ _ _ _ (unp_pack x y _ _ _ _ _ _ _ _ _ hx hy rfl eo rfl rfl rfl rfl rfl (by omega) (by omega) (by omega)) (hz _ _)]
    by_cases kb : x % 16 = 4 ∨ x % 16 = 5
    · have hb : bdB (x % 16) = true := decide_eq_true kb
      rw [hb, if_pos rfl, unp_impl 1 _ _ _ _ _ _ _ _ _ (by omega)]
      simp only [Option.bind_some]
      exact unp_eq _
    · have hb : bdB (x % 16) = false := decide_eq_false kb
      rw [hb, if_neg (by decide), unp_impl 1 _ _ _ _ _ _ _ _ _ (by omega)]
      have hT : unpT (x % 16) (y % 65536) (x / 256 % 16) (x / 32 % 8) 0 (y / 65536) (x / 4096 % 16) (x / 65536) (x / 16 % 2 == 1) = unpT (x % 16) (y % 65536) (x / 256 % 16) (x / 32 % 8) (y / 65536) 0 (x / 4096 % 16) (x / 65536) (x / 16 % 2 == 1) := by
        by_cases hy0 : y / 65536 = 0
        · rw [hy0]
        · unfold unpT
          have hp0 : shl .i64 1 0 = 1 := by decide +kernel
          rw [if_neg, if_neg]
          · intro h
            have h9 := h.2.2.2.2.2.2.2.2.1
            omega
          · intro h
            have h11 := h.2.2.2.2.2.2.2.2.2.2.2.1
            have h13 := h.2.2.2.2.2.2.2.2.2.2.2.2.2.1
            have hv0 : x / 4096 % 16 = 0 := by omega
            rw [hv0, hp0] at h13
            omega
      rw [hT]
      simp only [Option.bind_some]
      exact unp_eq _

end Go.Proofs.Ytjagpgomndndcaa.Pure
