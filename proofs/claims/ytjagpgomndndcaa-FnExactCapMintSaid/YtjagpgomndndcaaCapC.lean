/- The contract of impl.isCap: the call returns whether the capability is valid. Condition: the rights are no greater than the greatest int. -/
import Derived.Test.YtjagpgomndndcaaCapB
namespace Go.Proofs.Ytjagpgomndndcaa.CapB
open Go.RowKit Go.Proofs.YtjagpgomndndcaaW.PrintWords Go.Proofs.YtjagpgomndndcaaW.PrintLast Go.Proofs.YtjagpgomndndcaaW.PrintMore
set_option linter.unusedVariables false
set_option linter.unusedSimpArgs false
open Go.Proofs.Ytjagpgomndndcaa.CapA
set_option maxHeartbeats 4000000 in
set_option maxRecDepth 100000 in
theorem isCap_zero (k a b r g u v f : Int) (o : Bool) (w : World) (h7 : ¬ (k = 7 ∧ b = 0)) (hs : capSz k b = 0) : Calls Try.prog 65 #[.agg #[.int .i64 k, .int .i64 a, .int .i64 b, .int .i64 r, .int .i64 g, .int .i64 u, .int .i64 v, .int .i64 f, .bool o]] w fun e w' => e = .returned (.bool (decide (CapOkP k a b r g u v f o))) ∧ Below w.heap.size w w' := by
  have hz : szr k b = 0 := by unfold szr; rw [if_neg h7]; exact hs
  have Hs := Aside0.mk hs
  clear hs
  rw [show decide (CapOkP k a b r g u v f o) = false from decide_eq_false (by unfold CapOkP; rw [hz]; omega)]
  clear hz
  by_cases k7 : k = 7
  · have b7 : (k == 7) = true := beq_iff_eq.2 k7
    have b0 : (b == 0) = false := beq_eq_false_iff_ne.2 (fun h => h7 ⟨k7, h⟩)
    clear h7 k7
    go_enter Try.func65, Try.ntmps65
    go_wp2_with (fail)
    refine (size_calls _ _ _ Hs.out _).mono ?_
    rintro e W1 ⟨rfl, hd⟩
    obtain ⟨c0, c1, c2, c3, c4, c5, c6, c7, c8, HB⟩ := box9 hd
    clear hd
    have HB1 := Aside0.mk HB
    clear HB
    go_wp2_with (first | (go_at_call 74; refine (badge_calls _ _).mono ?_; rintro e w' ⟨rfl, rfl⟩) | (go_at_call 55; refine (in_calls _ _ _ _).mono ?_; rintro e w' ⟨rfl, rfl⟩))
    repeat (go_quiet ((first | (go_at_call 57; exact q_same (max_calls _ _) ⟨_, rfl⟩) | (go_at_call 55; exact q_same (in_calls _ _ _ _) ⟨_, rfl⟩))); go_wp2_with (first | (go_at_call 74; refine (badge_calls _ _).mono ?_; rintro e w' ⟨rfl, rfl⟩) | (go_at_call 55; refine (in_calls _ _ _ _).mono ?_; rintro e w' ⟨rfl, rfl⟩)))
    go_ret
    exact ⟨rfl, by repeat (first | exact HB1.out | apply pw_below_drewN)⟩
  · have b7 : (k == 7) = false := beq_eq_false_iff_ne.2 k7
    clear h7 k7
    go_enter Try.func65, Try.ntmps65
    go_wp2_with (fail)
    refine (size_calls _ _ _ Hs.out _).mono ?_
    rintro e W1 ⟨rfl, hd⟩
    obtain ⟨c0, c1, c2, c3, c4, c5, c6, c7, c8, HB⟩ := box9 hd
    clear hd
    have HB1 := Aside0.mk HB
    clear HB
    go_wp2_with (first | (go_at_call 74; refine (badge_calls _ _).mono ?_; rintro e w' ⟨rfl, rfl⟩) | (go_at_call 55; refine (in_calls _ _ _ _).mono ?_; rintro e w' ⟨rfl, rfl⟩))
    repeat (go_quiet ((first | (go_at_call 57; exact q_same (max_calls _ _) ⟨_, rfl⟩) | (go_at_call 55; exact q_same (in_calls _ _ _ _) ⟨_, rfl⟩))); go_wp2_with (first | (go_at_call 74; refine (badge_calls _ _).mono ?_; rintro e w' ⟨rfl, rfl⟩) | (go_at_call 55; refine (in_calls _ _ _ _).mono ?_; rintro e w' ⟨rfl, rfl⟩)))
    go_ret
    exact ⟨rfl, by repeat (first | exact HB1.out | apply pw_below_drewN)⟩
set_option maxHeartbeats 40000000 in
set_option maxRecDepth 100000 in
theorem isCap_some (k a b r g u v f : Int) (o : Bool) (s : Int) (w : World) (hr : r ≤ 9223372036854775807) (h7 : ¬ k = 7) (hs : capSz k b = s) (s0 : 0 < s) (s1 : s ≤ 2048) : Calls Try.prog 65 #[.agg #[.int .i64 k, .int .i64 a, .int .i64 b, .int .i64 r, .int .i64 g, .int .i64 u, .int .i64 v, .int .i64 f, .bool o]] w fun e w' => e = .returned (.bool (decide (CapOkP k a b r g u v f o))) ∧ Below w.heap.size w w' := by
  have hz : szr k b = s := by unfold szr; rw [if_neg (fun h => h7 h.1)]; exact hs
  have Hs := Aside0.mk hs
  clear hs
  have b7 : (k == 7) = false := beq_eq_false_iff_ne.2 h7
  have b7n : (k != 7) = true := bne_iff_ne.2 h7
  have bs : (s == 0) = false := beq_eq_false_iff_ne.2 (by omega)
  by_cases q2 : 0 ≤ r
  rotate_left
  · have bq2 : decide (r < 0) = true := decide_eq_true (by omega)
    rw [show decide (CapOkP k a b r g u v f o) = false from decide_eq_false (by unfold CapOkP; rw [hz]; omega)]
    clear h7 hr hz q2
    go_enter Try.func65, Try.ntmps65
    go_wp2_with (fail)
    refine (size_calls _ _ _ Hs.out _).mono ?_
    rintro e W1 ⟨rfl, hd⟩
    obtain ⟨c0, c1, c2, c3, c4, c5, c6, c7, c8, HB⟩ := box9 hd
    clear hd
    have HB1 := Aside0.mk HB
    clear HB
    go_wp2_with (first | (go_at_call 74; refine (badge_calls _ _).mono ?_; rintro e w' ⟨rfl, rfl⟩) | (go_at_call 55; refine (in_calls _ _ _ _).mono ?_; rintro e w' ⟨rfl, rfl⟩))
    repeat (go_quiet ((first | (go_at_call 57; exact q_same (max_calls _ _) ⟨_, rfl⟩) | (go_at_call 55; exact q_same (in_calls _ _ _ _) ⟨_, rfl⟩))); go_wp2_with (first | (go_at_call 74; refine (badge_calls _ _).mono ?_; rintro e w' ⟨rfl, rfl⟩) | (go_at_call 55; refine (in_calls _ _ _ _).mono ?_; rintro e w' ⟨rfl, rfl⟩)))
    go_ret
    exact ⟨rfl, by repeat (first | exact HB1.out | apply pw_below_drewN)⟩
  have bq2 : decide (r < 0) = false := decide_eq_false (by omega)
  by_cases q3 : r ≤ mxr k
  rotate_left
  · have bq3 : (Go.bits .andNot .i64 r (mxr k) != 0) = true := bne_iff_ne.2 (fun h => q3 ((rights_ok k r q2 hr).1 h))
    rw [show decide (CapOkP k a b r g u v f o) = false from decide_eq_false (by unfold CapOkP; rw [hz]; omega)]
    clear h7 hr hz q2 q3
    go_enter Try.func65, Try.ntmps65
    go_wp2_with (fail)
    refine (size_calls _ _ _ Hs.out _).mono ?_
    rintro e W1 ⟨rfl, hd⟩
    obtain ⟨c0, c1, c2, c3, c4, c5, c6, c7, c8, HB⟩ := box9 hd
    clear hd
    have HB1 := Aside0.mk HB
    clear HB
    go_wp2_with (first | (go_at_call 74; refine (badge_calls _ _).mono ?_; rintro e w' ⟨rfl, rfl⟩) | (go_at_call 55; refine (in_calls _ _ _ _).mono ?_; rintro e w' ⟨rfl, rfl⟩))
    repeat (go_quiet ((first | (go_at_call 57; exact q_same (max_calls _ _) ⟨_, rfl⟩) | (go_at_call 55; exact q_same (in_calls _ _ _ _) ⟨_, rfl⟩))); go_wp2_with (first | (go_at_call 74; refine (badge_calls _ _).mono ?_; rintro e w' ⟨rfl, rfl⟩) | (go_at_call 55; refine (in_calls _ _ _ _).mono ?_; rintro e w' ⟨rfl, rfl⟩)))
    go_ret
    exact ⟨rfl, by repeat (first | exact HB1.out | apply pw_below_drewN)⟩
  have bq3 : (Go.bits .andNot .i64 r (mxr k) != 0) = false := bne_eq_false_iff_eq.2 ((rights_ok k r q2 hr).2 q3)
  by_cases q4 : 0 ≤ a ∧ a ≤ 4096 - s
  rotate_left
  · have bq4 : inB a 0 (4096 - s) = false := inB_f q4
    rw [show decide (CapOkP k a b r g u v f o) = false from decide_eq_false (by unfold CapOkP; rw [hz]; omega)]
    clear h7 hr hz q2 q3 q4
    go_enter Try.func65, Try.ntmps65
    go_wp2_with (fail)
    refine (size_calls _ _ _ Hs.out _).mono ?_
    rintro e W1 ⟨rfl, hd⟩
    obtain ⟨c0, c1, c2, c3, c4, c5, c6, c7, c8, HB⟩ := box9 hd
    clear hd
    have HB1 := Aside0.mk HB
    clear HB
    go_wp2_with (first | (go_at_call 74; refine (badge_calls _ _).mono ?_; rintro e w' ⟨rfl, rfl⟩) | (go_at_call 55; refine (in_calls _ _ _ _).mono ?_; rintro e w' ⟨rfl, rfl⟩))
    repeat (go_quiet ((first | (go_at_call 57; exact q_same (max_calls _ _) ⟨_, rfl⟩) | (go_at_call 55; exact q_same (in_calls _ _ _ _) ⟨_, rfl⟩))); go_wp2_with (first | (go_at_call 74; refine (badge_calls _ _).mono ?_; rintro e w' ⟨rfl, rfl⟩) | (go_at_call 55; refine (in_calls _ _ _ _).mono ?_; rintro e w' ⟨rfl, rfl⟩)))
    go_ret
    exact ⟨rfl, by repeat (first | exact HB1.out | apply pw_below_drewN)⟩
  have bq4 : inB a 0 (4096 - s) = true := inB_t q4
  by_cases q5 : a % s = 0
  rotate_left
  · have bq5 : (Int.tmod a s != 0) = true := bne_iff_ne.2 (by rw [Int.tmod_eq_emod_of_nonneg q4.1]; exact q5)
    rw [show decide (CapOkP k a b r g u v f o) = false from decide_eq_false (by unfold CapOkP; rw [hz]; omega)]
    clear h7 hr hz q2 q3 q4 q5
    go_enter Try.func65, Try.ntmps65
    go_wp2_with (fail)
    refine (size_calls _ _ _ Hs.out _).mono ?_
    rintro e W1 ⟨rfl, hd⟩
    obtain ⟨c0, c1, c2, c3, c4, c5, c6, c7, c8, HB⟩ := box9 hd
    clear hd
    have HB1 := Aside0.mk HB
    clear HB
    go_wp2_with (first | (go_at_call 74; refine (badge_calls _ _).mono ?_; rintro e w' ⟨rfl, rfl⟩) | (go_at_call 55; refine (in_calls _ _ _ _).mono ?_; rintro e w' ⟨rfl, rfl⟩))
    repeat (go_quiet ((first | (go_at_call 57; exact q_same (max_calls _ _) ⟨_, rfl⟩) | (go_at_call 55; exact q_same (in_calls _ _ _ _) ⟨_, rfl⟩))); go_wp2_with (first | (go_at_call 74; refine (badge_calls _ _).mono ?_; rintro e w' ⟨rfl, rfl⟩) | (go_at_call 55; refine (in_calls _ _ _ _).mono ?_; rintro e w' ⟨rfl, rfl⟩)))
    go_ret
    exact ⟨rfl, by repeat (first | exact HB1.out | apply pw_below_drewN)⟩
  have bq5 : (Int.tmod a s != 0) = false := bne_eq_false_iff_eq.2 (by rw [Int.tmod_eq_emod_of_nonneg q4.1]; exact q5)
  by_cases q6 : 0 ≤ g ∧ g ≤ 65535
  rotate_left
  · have bq6 : inB g 0 65535 = false := inB_f q6
    rw [show decide (CapOkP k a b r g u v f o) = false from decide_eq_false (by unfold CapOkP; rw [hz]; omega)]
    clear h7 hr hz q2 q3 q4 q5 q6
    go_enter Try.func65, Try.ntmps65
    go_wp2_with (fail)
    refine (size_calls _ _ _ Hs.out _).mono ?_
    rintro e W1 ⟨rfl, hd⟩
    obtain ⟨c0, c1, c2, c3, c4, c5, c6, c7, c8, HB⟩ := box9 hd
    clear hd
    have HB1 := Aside0.mk HB
    clear HB
    go_wp2_with (first | (go_at_call 74; refine (badge_calls _ _).mono ?_; rintro e w' ⟨rfl, rfl⟩) | (go_at_call 55; refine (in_calls _ _ _ _).mono ?_; rintro e w' ⟨rfl, rfl⟩))
    repeat (go_quiet ((first | (go_at_call 57; exact q_same (max_calls _ _) ⟨_, rfl⟩) | (go_at_call 55; exact q_same (in_calls _ _ _ _) ⟨_, rfl⟩))); go_wp2_with (first | (go_at_call 74; refine (badge_calls _ _).mono ?_; rintro e w' ⟨rfl, rfl⟩) | (go_at_call 55; refine (in_calls _ _ _ _).mono ?_; rintro e w' ⟨rfl, rfl⟩)))
    go_ret
    exact ⟨rfl, by repeat (first | exact HB1.out | apply pw_below_drewN)⟩
  have bq6 : inB g 0 65535 = true := inB_t q6
  by_cases q7 : g = 0 ∨ k = 4 ∨ k = 5
  rotate_left
  · have bq7 : (g != 0) = true := bne_iff_ne.2 (by omega)
    have bq7b : bdB k = false := decide_eq_false (by omega)
    rw [show decide (CapOkP k a b r g u v f o) = false from decide_eq_false (by unfold CapOkP; rw [hz]; omega)]
    clear h7 hr hz q2 q3 q4 q5 q6 q7
    go_enter Try.func65, Try.ntmps65
    go_wp2_with (fail)
    refine (size_calls _ _ _ Hs.out _).mono ?_
    rintro e W1 ⟨rfl, hd⟩
    obtain ⟨c0, c1, c2, c3, c4, c5, c6, c7, c8, HB⟩ := box9 hd
    clear hd
    have HB1 := Aside0.mk HB
    clear HB
    go_wp2_with (first | (go_at_call 74; refine (badge_calls _ _).mono ?_; rintro e w' ⟨rfl, rfl⟩) | (go_at_call 55; refine (in_calls _ _ _ _).mono ?_; rintro e w' ⟨rfl, rfl⟩))
    repeat (go_quiet ((first | (go_at_call 57; exact q_same (max_calls _ _) ⟨_, rfl⟩) | (go_at_call 55; exact q_same (in_calls _ _ _ _) ⟨_, rfl⟩))); go_wp2_with (first | (go_at_call 74; refine (badge_calls _ _).mono ?_; rintro e w' ⟨rfl, rfl⟩) | (go_at_call 55; refine (in_calls _ _ _ _).mono ?_; rintro e w' ⟨rfl, rfl⟩)))
    go_ret
    exact ⟨rfl, by repeat (first | exact HB1.out | apply pw_below_drewN)⟩
  rcases (Classical.em (g = 0)) with g0 | g0
  · have bg : (g != 0) = false := bne_eq_false_iff_eq.2 g0
    by_cases q8 : 0 ≤ v ∧ v ≤ 8
    rotate_left
    · have bq8 : inB v 0 8 = false := inB_f q8
      rw [show decide (CapOkP k a b r g u v f o) = false from decide_eq_false (by unfold CapOkP; rw [hz]; omega)]
      clear h7 hr hz q2 q3 q4 q5 q6 q7 g0 q8
      go_enter Try.func65, Try.ntmps65
      go_wp2_with (fail)
      refine (size_calls _ _ _ Hs.out _).mono ?_
      rintro e W1 ⟨rfl, hd⟩
      obtain ⟨c0, c1, c2, c3, c4, c5, c6, c7, c8, HB⟩ := box9 hd
      clear hd
      have HB1 := Aside0.mk HB
      clear HB
      go_wp2_with (first | (go_at_call 74; refine (badge_calls _ _).mono ?_; rintro e w' ⟨rfl, rfl⟩) | (go_at_call 55; refine (in_calls _ _ _ _).mono ?_; rintro e w' ⟨rfl, rfl⟩))
      repeat (go_quiet ((first | (go_at_call 57; exact q_same (max_calls _ _) ⟨_, rfl⟩) | (go_at_call 55; exact q_same (in_calls _ _ _ _) ⟨_, rfl⟩))); go_wp2_with (first | (go_at_call 74; refine (badge_calls _ _).mono ?_; rintro e w' ⟨rfl, rfl⟩) | (go_at_call 55; refine (in_calls _ _ _ _).mono ?_; rintro e w' ⟨rfl, rfl⟩)))
      go_ret
      exact ⟨rfl, by repeat (first | exact HB1.out | apply pw_below_drewN)⟩
    have bq8 : inB v 0 8 = true := inB_t q8
    have hv0 : 0 ≤ v := q8.1
    have hv8 : v ≤ 8 := q8.2
    by_cases q9 : v = 0 ∨ k = 2
    rotate_left
    · have bv : (v != 0) = true := bne_iff_ne.2 (by omega)
      have bk2 : (k != 2) = true := bne_iff_ne.2 (by omega)
      rw [show decide (CapOkP k a b r g u v f o) = false from decide_eq_false (by unfold CapOkP; rw [hz]; omega)]
      clear h7 hr hz q2 q3 q4 q5 q6 q7 g0 q8 q9
      go_enter Try.func65, Try.ntmps65
      go_wp2_with (fail)
      refine (size_calls _ _ _ Hs.out _).mono ?_
      rintro e W1 ⟨rfl, hd⟩
      obtain ⟨c0, c1, c2, c3, c4, c5, c6, c7, c8, HB⟩ := box9 hd
      clear hd
      have HB1 := Aside0.mk HB
      clear HB
      go_wp2_with (first | (go_at_call 74; refine (badge_calls _ _).mono ?_; rintro e w' ⟨rfl, rfl⟩) | (go_at_call 55; refine (in_calls _ _ _ _).mono ?_; rintro e w' ⟨rfl, rfl⟩))
      repeat (go_quiet ((first | (go_at_call 57; exact q_same (max_calls _ _) ⟨_, rfl⟩) | (go_at_call 55; exact q_same (in_calls _ _ _ _) ⟨_, rfl⟩))); go_wp2_with (first | (go_at_call 74; refine (badge_calls _ _).mono ?_; rintro e w' ⟨rfl, rfl⟩) | (go_at_call 55; refine (in_calls _ _ _ _).mono ?_; rintro e w' ⟨rfl, rfl⟩)))
      go_ret
      exact ⟨rfl, by repeat (first | exact HB1.out | apply pw_below_drewN)⟩
    by_cases q10 : 0 ≤ u ∧ u ≤ shl .i64 1 v - 1
    rotate_left
    · have bu : inB u 0 (wrap64 (wrap64 (2 ^ v.toNat) - 1)) = false := by rw [pw_eq v q8]; exact inB_f q10
      rcases (Classical.em (v = 0)) with v0 | v0
      · have bv : (v != 0) = false := bne_eq_false_iff_eq.2 v0
        rw [show decide (CapOkP k a b r g u v f o) = false from decide_eq_false (by unfold CapOkP; rw [hz]; omega)]
        clear h7 hr hz q2 q3 q4 q5 q6 q7 g0 q8 q9 q10 v0
        go_enter Try.func65, Try.ntmps65
        go_wp2_with (fail)
        refine (size_calls _ _ _ Hs.out _).mono ?_
        rintro e W1 ⟨rfl, hd⟩
        obtain ⟨c0, c1, c2, c3, c4, c5, c6, c7, c8, HB⟩ := box9 hd
        clear hd
        have HB1 := Aside0.mk HB
        clear HB
        go_wp2_with (first | (go_at_call 74; refine (badge_calls _ _).mono ?_; rintro e w' ⟨rfl, rfl⟩) | (go_at_call 55; refine (in_calls _ _ _ _).mono ?_; rintro e w' ⟨rfl, rfl⟩))
        repeat (go_quiet ((first | (go_at_call 57; exact q_same (max_calls _ _) ⟨_, rfl⟩) | (go_at_call 55; exact q_same (in_calls _ _ _ _) ⟨_, rfl⟩))); go_wp2_with (first | (go_at_call 74; refine (badge_calls _ _).mono ?_; rintro e w' ⟨rfl, rfl⟩) | (go_at_call 55; refine (in_calls _ _ _ _).mono ?_; rintro e w' ⟨rfl, rfl⟩)))
        go_ret
        exact ⟨rfl, by repeat (first | exact HB1.out | apply pw_below_drewN)⟩
      · have bv : (v != 0) = true := bne_iff_ne.2 v0
        have bk2 : (k != 2) = false := bne_eq_false_iff_eq.2 (by omega)
        rw [show decide (CapOkP k a b r g u v f o) = false from decide_eq_false (by unfold CapOkP; rw [hz]; omega)]
        clear h7 hr hz q2 q3 q4 q5 q6 q7 g0 q8 q9 q10 v0
        go_enter Try.func65, Try.ntmps65
        go_wp2_with (fail)
        refine (size_calls _ _ _ Hs.out _).mono ?_
        rintro e W1 ⟨rfl, hd⟩
        obtain ⟨c0, c1, c2, c3, c4, c5, c6, c7, c8, HB⟩ := box9 hd
        clear hd
        have HB1 := Aside0.mk HB
        clear HB
        go_wp2_with (first | (go_at_call 74; refine (badge_calls _ _).mono ?_; rintro e w' ⟨rfl, rfl⟩) | (go_at_call 55; refine (in_calls _ _ _ _).mono ?_; rintro e w' ⟨rfl, rfl⟩))
        repeat (go_quiet ((first | (go_at_call 57; exact q_same (max_calls _ _) ⟨_, rfl⟩) | (go_at_call 55; exact q_same (in_calls _ _ _ _) ⟨_, rfl⟩))); go_wp2_with (first | (go_at_call 74; refine (badge_calls _ _).mono ?_; rintro e w' ⟨rfl, rfl⟩) | (go_at_call 55; refine (in_calls _ _ _ _).mono ?_; rintro e w' ⟨rfl, rfl⟩)))
        go_ret
        exact ⟨rfl, by repeat (first | exact HB1.out | apply pw_below_drewN)⟩
    have bu : inB u 0 (wrap64 (wrap64 (2 ^ v.toNat) - 1)) = true := by rw [pw_eq v q8]; exact inB_t q10
    rcases (Classical.em (v = 0)) with v0 | v0
    · have bv : (v != 0) = false := bne_eq_false_iff_eq.2 v0
      by_cases f0 : f = 0
      · have bf : (f != 0) = false := bne_eq_false_iff_eq.2 f0
        cases o with
        | true =>
          rw [show decide (CapOkP k a b r g u v f true) = true from decide_eq_true (by unfold CapOkP; rw [hz]; first | (simp; done) | (simp; omega))]
          clear h7 hr hz q2 q3 q4 q5 q6 q7 g0 q8 q9 q10 v0 f0
          go_enter Try.func65, Try.ntmps65
          go_wp2_with (fail)
          refine (size_calls _ _ _ Hs.out _).mono ?_
          rintro e W1 ⟨rfl, hd⟩
          obtain ⟨c0, c1, c2, c3, c4, c5, c6, c7, c8, HB⟩ := box9 hd
          clear hd
          have HB1 := Aside0.mk HB
          clear HB
          go_wp2_with (first | (go_at_call 74; refine (badge_calls _ _).mono ?_; rintro e w' ⟨rfl, rfl⟩) | (go_at_call 55; refine (in_calls _ _ _ _).mono ?_; rintro e w' ⟨rfl, rfl⟩))
          repeat (go_quiet ((first | (go_at_call 57; exact q_same (max_calls _ _) ⟨_, rfl⟩) | (go_at_call 55; exact q_same (in_calls _ _ _ _) ⟨_, rfl⟩))); go_wp2_with (first | (go_at_call 74; refine (badge_calls _ _).mono ?_; rintro e w' ⟨rfl, rfl⟩) | (go_at_call 55; refine (in_calls _ _ _ _).mono ?_; rintro e w' ⟨rfl, rfl⟩)))
          go_ret
          exact ⟨rfl, by repeat (first | exact HB1.out | apply pw_below_drewN)⟩
        | false =>
          by_cases k1' : k = 1
          · have bk1' : (k != 1) = false := bne_eq_false_iff_eq.2 k1'
            rw [show decide (CapOkP k a b r g u v f false) = false from decide_eq_false (by unfold CapOkP; rw [hz]; first | (simp; done) | (simp; omega))]
            clear h7 hr hz q2 q3 q4 q5 q6 q7 g0 q8 q9 q10 v0 f0 k1'
            go_enter Try.func65, Try.ntmps65
            go_wp2_with (fail)
            refine (size_calls _ _ _ Hs.out _).mono ?_
            rintro e W1 ⟨rfl, hd⟩
            obtain ⟨c0, c1, c2, c3, c4, c5, c6, c7, c8, HB⟩ := box9 hd
            clear hd
            have HB1 := Aside0.mk HB
            clear HB
            go_wp2_with (first | (go_at_call 74; refine (badge_calls _ _).mono ?_; rintro e w' ⟨rfl, rfl⟩) | (go_at_call 55; refine (in_calls _ _ _ _).mono ?_; rintro e w' ⟨rfl, rfl⟩))
            repeat (go_quiet ((first | (go_at_call 57; exact q_same (max_calls _ _) ⟨_, rfl⟩) | (go_at_call 55; exact q_same (in_calls _ _ _ _) ⟨_, rfl⟩))); go_wp2_with (first | (go_at_call 74; refine (badge_calls _ _).mono ?_; rintro e w' ⟨rfl, rfl⟩) | (go_at_call 55; refine (in_calls _ _ _ _).mono ?_; rintro e w' ⟨rfl, rfl⟩)))
            go_ret
            exact ⟨rfl, by repeat (first | exact HB1.out | apply pw_below_drewN)⟩
          · have bk1' : (k != 1) = true := bne_iff_ne.2 k1'
            rw [show decide (CapOkP k a b r g u v f false) = true from decide_eq_true (by unfold CapOkP; rw [hz]; first | (simp; done) | (simp; omega))]
            clear h7 hr hz q2 q3 q4 q5 q6 q7 g0 q8 q9 q10 v0 f0 k1'
            go_enter Try.func65, Try.ntmps65
            go_wp2_with (fail)
            refine (size_calls _ _ _ Hs.out _).mono ?_
            rintro e W1 ⟨rfl, hd⟩
            obtain ⟨c0, c1, c2, c3, c4, c5, c6, c7, c8, HB⟩ := box9 hd
            clear hd
            have HB1 := Aside0.mk HB
            clear HB
            go_wp2_with (first | (go_at_call 74; refine (badge_calls _ _).mono ?_; rintro e w' ⟨rfl, rfl⟩) | (go_at_call 55; refine (in_calls _ _ _ _).mono ?_; rintro e w' ⟨rfl, rfl⟩))
            repeat (go_quiet ((first | (go_at_call 57; exact q_same (max_calls _ _) ⟨_, rfl⟩) | (go_at_call 55; exact q_same (in_calls _ _ _ _) ⟨_, rfl⟩))); go_wp2_with (first | (go_at_call 74; refine (badge_calls _ _).mono ?_; rintro e w' ⟨rfl, rfl⟩) | (go_at_call 55; refine (in_calls _ _ _ _).mono ?_; rintro e w' ⟨rfl, rfl⟩)))
            go_ret
            exact ⟨rfl, by repeat (first | exact HB1.out | apply pw_below_drewN)⟩
      have bf : (f != 0) = true := bne_iff_ne.2 f0
      by_cases k1 : k = 1
      rotate_left
      · have bk1 : (k != 1) = true := bne_iff_ne.2 k1
        rw [show decide (CapOkP k a b r g u v f o) = false from decide_eq_false (by unfold CapOkP; rw [hz]; omega)]
        clear h7 hr hz q2 q3 q4 q5 q6 q7 g0 q8 q9 q10 v0 f0 k1
        go_enter Try.func65, Try.ntmps65
        go_wp2_with (fail)
        refine (size_calls _ _ _ Hs.out _).mono ?_
        rintro e W1 ⟨rfl, hd⟩
        obtain ⟨c0, c1, c2, c3, c4, c5, c6, c7, c8, HB⟩ := box9 hd
        clear hd
        have HB1 := Aside0.mk HB
        clear HB
        go_wp2_with (first | (go_at_call 74; refine (badge_calls _ _).mono ?_; rintro e w' ⟨rfl, rfl⟩) | (go_at_call 55; refine (in_calls _ _ _ _).mono ?_; rintro e w' ⟨rfl, rfl⟩))
        repeat (go_quiet ((first | (go_at_call 57; exact q_same (max_calls _ _) ⟨_, rfl⟩) | (go_at_call 55; exact q_same (in_calls _ _ _ _) ⟨_, rfl⟩))); go_wp2_with (first | (go_at_call 74; refine (badge_calls _ _).mono ?_; rintro e w' ⟨rfl, rfl⟩) | (go_at_call 55; refine (in_calls _ _ _ _).mono ?_; rintro e w' ⟨rfl, rfl⟩)))
        go_ret
        exact ⟨rfl, by repeat (first | exact HB1.out | apply pw_below_drewN)⟩
      have bk1 : (k != 1) = false := bne_eq_false_iff_eq.2 k1
      by_cases q12 : 1 ≤ f ∧ f ≤ s
      rotate_left
      · have bf2 : inB f 1 s = false := inB_f q12
        rw [show decide (CapOkP k a b r g u v f o) = false from decide_eq_false (by unfold CapOkP; rw [hz]; omega)]
        clear h7 hr hz q2 q3 q4 q5 q6 q7 g0 q8 q9 q10 v0 f0 k1 q12
        go_enter Try.func65, Try.ntmps65
        go_wp2_with (fail)
        refine (size_calls _ _ _ Hs.out _).mono ?_
        rintro e W1 ⟨rfl, hd⟩
        obtain ⟨c0, c1, c2, c3, c4, c5, c6, c7, c8, HB⟩ := box9 hd
        clear hd
        have HB1 := Aside0.mk HB
        clear HB
        go_wp2_with (first | (go_at_call 74; refine (badge_calls _ _).mono ?_; rintro e w' ⟨rfl, rfl⟩) | (go_at_call 55; refine (in_calls _ _ _ _).mono ?_; rintro e w' ⟨rfl, rfl⟩))
        repeat (go_quiet ((first | (go_at_call 57; exact q_same (max_calls _ _) ⟨_, rfl⟩) | (go_at_call 55; exact q_same (in_calls _ _ _ _) ⟨_, rfl⟩))); go_wp2_with (first | (go_at_call 74; refine (badge_calls _ _).mono ?_; rintro e w' ⟨rfl, rfl⟩) | (go_at_call 55; refine (in_calls _ _ _ _).mono ?_; rintro e w' ⟨rfl, rfl⟩)))
        go_ret
        exact ⟨rfl, by repeat (first | exact HB1.out | apply pw_below_drewN)⟩
      have bf2 : inB f 1 s = true := inB_t q12
      cases o with
      | true =>
        rw [show decide (CapOkP k a b r g u v f true) = true from decide_eq_true (by unfold CapOkP; rw [hz]; first | (simp; done) | (simp; omega))]
        clear h7 hr hz q2 q3 q4 q5 q6 q7 g0 q8 q9 q10 v0 f0 k1 q12
        go_enter Try.func65, Try.ntmps65
        go_wp2_with (fail)
        refine (size_calls _ _ _ Hs.out _).mono ?_
        rintro e W1 ⟨rfl, hd⟩
        obtain ⟨c0, c1, c2, c3, c4, c5, c6, c7, c8, HB⟩ := box9 hd
        clear hd
        have HB1 := Aside0.mk HB
        clear HB
        go_wp2_with (first | (go_at_call 74; refine (badge_calls _ _).mono ?_; rintro e w' ⟨rfl, rfl⟩) | (go_at_call 55; refine (in_calls _ _ _ _).mono ?_; rintro e w' ⟨rfl, rfl⟩))
        repeat (go_quiet ((first | (go_at_call 57; exact q_same (max_calls _ _) ⟨_, rfl⟩) | (go_at_call 55; exact q_same (in_calls _ _ _ _) ⟨_, rfl⟩))); go_wp2_with (first | (go_at_call 74; refine (badge_calls _ _).mono ?_; rintro e w' ⟨rfl, rfl⟩) | (go_at_call 55; refine (in_calls _ _ _ _).mono ?_; rintro e w' ⟨rfl, rfl⟩)))
        go_ret
        exact ⟨rfl, by repeat (first | exact HB1.out | apply pw_below_drewN)⟩
      | false =>
        rw [show decide (CapOkP k a b r g u v f false) = false from decide_eq_false (by unfold CapOkP; rw [hz]; first | (simp; done) | (simp; omega))]
        clear h7 hr hz q2 q3 q4 q5 q6 q7 g0 q8 q9 q10 v0 f0 k1 q12
        go_enter Try.func65, Try.ntmps65
        go_wp2_with (fail)
        refine (size_calls _ _ _ Hs.out _).mono ?_
        rintro e W1 ⟨rfl, hd⟩
        obtain ⟨c0, c1, c2, c3, c4, c5, c6, c7, c8, HB⟩ := box9 hd
        clear hd
        have HB1 := Aside0.mk HB
        clear HB
        go_wp2_with (first | (go_at_call 74; refine (badge_calls _ _).mono ?_; rintro e w' ⟨rfl, rfl⟩) | (go_at_call 55; refine (in_calls _ _ _ _).mono ?_; rintro e w' ⟨rfl, rfl⟩))
        repeat (go_quiet ((first | (go_at_call 57; exact q_same (max_calls _ _) ⟨_, rfl⟩) | (go_at_call 55; exact q_same (in_calls _ _ _ _) ⟨_, rfl⟩))); go_wp2_with (first | (go_at_call 74; refine (badge_calls _ _).mono ?_; rintro e w' ⟨rfl, rfl⟩) | (go_at_call 55; refine (in_calls _ _ _ _).mono ?_; rintro e w' ⟨rfl, rfl⟩)))
        go_ret
        exact ⟨rfl, by repeat (first | exact HB1.out | apply pw_below_drewN)⟩
    · have bv : (v != 0) = true := bne_iff_ne.2 v0
      have bk2 : (k != 2) = false := bne_eq_false_iff_eq.2 (by omega)
      by_cases f0 : f = 0
      · have bf : (f != 0) = false := bne_eq_false_iff_eq.2 f0
        cases o with
        | true =>
          rw [show decide (CapOkP k a b r g u v f true) = true from decide_eq_true (by unfold CapOkP; rw [hz]; first | (simp; done) | (simp; omega))]
          clear h7 hr hz q2 q3 q4 q5 q6 q7 g0 q8 q9 q10 v0 f0
          go_enter Try.func65, Try.ntmps65
          go_wp2_with (fail)
          refine (size_calls _ _ _ Hs.out _).mono ?_
          rintro e W1 ⟨rfl, hd⟩
          obtain ⟨c0, c1, c2, c3, c4, c5, c6, c7, c8, HB⟩ := box9 hd
          clear hd
          have HB1 := Aside0.mk HB
          clear HB
          go_wp2_with (first | (go_at_call 74; refine (badge_calls _ _).mono ?_; rintro e w' ⟨rfl, rfl⟩) | (go_at_call 55; refine (in_calls _ _ _ _).mono ?_; rintro e w' ⟨rfl, rfl⟩))
          repeat (go_quiet ((first | (go_at_call 57; exact q_same (max_calls _ _) ⟨_, rfl⟩) | (go_at_call 55; exact q_same (in_calls _ _ _ _) ⟨_, rfl⟩))); go_wp2_with (first | (go_at_call 74; refine (badge_calls _ _).mono ?_; rintro e w' ⟨rfl, rfl⟩) | (go_at_call 55; refine (in_calls _ _ _ _).mono ?_; rintro e w' ⟨rfl, rfl⟩)))
          go_ret
          exact ⟨rfl, by repeat (first | exact HB1.out | apply pw_below_drewN)⟩
        | false =>
          have k1' : ¬ k = 1 := by omega
          have bk1' : (k != 1) = true := bne_iff_ne.2 k1'
          rw [show decide (CapOkP k a b r g u v f false) = true from decide_eq_true (by unfold CapOkP; rw [hz]; first | (simp; done) | (simp; omega))]
          clear h7 hr hz q2 q3 q4 q5 q6 q7 g0 q8 q9 q10 v0 f0 k1'
          go_enter Try.func65, Try.ntmps65
          go_wp2_with (fail)
          refine (size_calls _ _ _ Hs.out _).mono ?_
          rintro e W1 ⟨rfl, hd⟩
          obtain ⟨c0, c1, c2, c3, c4, c5, c6, c7, c8, HB⟩ := box9 hd
          clear hd
          have HB1 := Aside0.mk HB
          clear HB
          go_wp2_with (first | (go_at_call 74; refine (badge_calls _ _).mono ?_; rintro e w' ⟨rfl, rfl⟩) | (go_at_call 55; refine (in_calls _ _ _ _).mono ?_; rintro e w' ⟨rfl, rfl⟩))
          repeat (go_quiet ((first | (go_at_call 57; exact q_same (max_calls _ _) ⟨_, rfl⟩) | (go_at_call 55; exact q_same (in_calls _ _ _ _) ⟨_, rfl⟩))); go_wp2_with (first | (go_at_call 74; refine (badge_calls _ _).mono ?_; rintro e w' ⟨rfl, rfl⟩) | (go_at_call 55; refine (in_calls _ _ _ _).mono ?_; rintro e w' ⟨rfl, rfl⟩)))
          go_ret
          exact ⟨rfl, by repeat (first | exact HB1.out | apply pw_below_drewN)⟩
      have bf : (f != 0) = true := bne_iff_ne.2 f0
      have k1 : ¬ k = 1 := by omega
      have bk1 : (k != 1) = true := bne_iff_ne.2 k1
      rw [show decide (CapOkP k a b r g u v f o) = false from decide_eq_false (by unfold CapOkP; rw [hz]; omega)]
      clear h7 hr hz q2 q3 q4 q5 q6 q7 g0 q8 q9 q10 v0 f0 k1
      go_enter Try.func65, Try.ntmps65
      go_wp2_with (fail)
      refine (size_calls _ _ _ Hs.out _).mono ?_
      rintro e W1 ⟨rfl, hd⟩
      obtain ⟨c0, c1, c2, c3, c4, c5, c6, c7, c8, HB⟩ := box9 hd
      clear hd
      have HB1 := Aside0.mk HB
      clear HB
      go_wp2_with (first | (go_at_call 74; refine (badge_calls _ _).mono ?_; rintro e w' ⟨rfl, rfl⟩) | (go_at_call 55; refine (in_calls _ _ _ _).mono ?_; rintro e w' ⟨rfl, rfl⟩))
      repeat (go_quiet ((first | (go_at_call 57; exact q_same (max_calls _ _) ⟨_, rfl⟩) | (go_at_call 55; exact q_same (in_calls _ _ _ _) ⟨_, rfl⟩))); go_wp2_with (first | (go_at_call 74; refine (badge_calls _ _).mono ?_; rintro e w' ⟨rfl, rfl⟩) | (go_at_call 55; refine (in_calls _ _ _ _).mono ?_; rintro e w' ⟨rfl, rfl⟩)))
      go_ret
      exact ⟨rfl, by repeat (first | exact HB1.out | apply pw_below_drewN)⟩
  · have bg : (g != 0) = true := bne_iff_ne.2 g0
    have bk : bdB k = true := decide_eq_true (by omega)
    by_cases q8 : 0 ≤ v ∧ v ≤ 8
    rotate_left
    · have bq8 : inB v 0 8 = false := inB_f q8
      rw [show decide (CapOkP k a b r g u v f o) = false from decide_eq_false (by unfold CapOkP; rw [hz]; omega)]
      clear h7 hr hz q2 q3 q4 q5 q6 q7 g0 q8
      go_enter Try.func65, Try.ntmps65
      go_wp2_with (fail)
      refine (size_calls _ _ _ Hs.out _).mono ?_
      rintro e W1 ⟨rfl, hd⟩
      obtain ⟨c0, c1, c2, c3, c4, c5, c6, c7, c8, HB⟩ := box9 hd
      clear hd
      have HB1 := Aside0.mk HB
      clear HB
      go_wp2_with (first | (go_at_call 74; refine (badge_calls _ _).mono ?_; rintro e w' ⟨rfl, rfl⟩) | (go_at_call 55; refine (in_calls _ _ _ _).mono ?_; rintro e w' ⟨rfl, rfl⟩))
      repeat (go_quiet ((first | (go_at_call 57; exact q_same (max_calls _ _) ⟨_, rfl⟩) | (go_at_call 55; exact q_same (in_calls _ _ _ _) ⟨_, rfl⟩))); go_wp2_with (first | (go_at_call 74; refine (badge_calls _ _).mono ?_; rintro e w' ⟨rfl, rfl⟩) | (go_at_call 55; refine (in_calls _ _ _ _).mono ?_; rintro e w' ⟨rfl, rfl⟩)))
      go_ret
      exact ⟨rfl, by repeat (first | exact HB1.out | apply pw_below_drewN)⟩
    have bq8 : inB v 0 8 = true := inB_t q8
    have hv0 : 0 ≤ v := q8.1
    have hv8 : v ≤ 8 := q8.2
    by_cases q9 : v = 0 ∨ k = 2
    rotate_left
    · have bv : (v != 0) = true := bne_iff_ne.2 (by omega)
      have bk2 : (k != 2) = true := bne_iff_ne.2 (by omega)
      rw [show decide (CapOkP k a b r g u v f o) = false from decide_eq_false (by unfold CapOkP; rw [hz]; omega)]
      clear h7 hr hz q2 q3 q4 q5 q6 q7 g0 q8 q9
      go_enter Try.func65, Try.ntmps65
      go_wp2_with (fail)
      refine (size_calls _ _ _ Hs.out _).mono ?_
      rintro e W1 ⟨rfl, hd⟩
      obtain ⟨c0, c1, c2, c3, c4, c5, c6, c7, c8, HB⟩ := box9 hd
      clear hd
      have HB1 := Aside0.mk HB
      clear HB
      go_wp2_with (first | (go_at_call 74; refine (badge_calls _ _).mono ?_; rintro e w' ⟨rfl, rfl⟩) | (go_at_call 55; refine (in_calls _ _ _ _).mono ?_; rintro e w' ⟨rfl, rfl⟩))
      repeat (go_quiet ((first | (go_at_call 57; exact q_same (max_calls _ _) ⟨_, rfl⟩) | (go_at_call 55; exact q_same (in_calls _ _ _ _) ⟨_, rfl⟩))); go_wp2_with (first | (go_at_call 74; refine (badge_calls _ _).mono ?_; rintro e w' ⟨rfl, rfl⟩) | (go_at_call 55; refine (in_calls _ _ _ _).mono ?_; rintro e w' ⟨rfl, rfl⟩)))
      go_ret
      exact ⟨rfl, by repeat (first | exact HB1.out | apply pw_below_drewN)⟩
    by_cases q10 : 0 ≤ u ∧ u ≤ shl .i64 1 v - 1
    rotate_left
    · have bu : inB u 0 (wrap64 (wrap64 (2 ^ v.toNat) - 1)) = false := by rw [pw_eq v q8]; exact inB_f q10
      have v0 : v = 0 := by omega
      have bv : (v != 0) = false := bne_eq_false_iff_eq.2 v0
      rw [show decide (CapOkP k a b r g u v f o) = false from decide_eq_false (by unfold CapOkP; rw [hz]; omega)]
      clear h7 hr hz q2 q3 q4 q5 q6 q7 g0 q8 q9 q10 v0
      go_enter Try.func65, Try.ntmps65
      go_wp2_with (fail)
      refine (size_calls _ _ _ Hs.out _).mono ?_
      rintro e W1 ⟨rfl, hd⟩
      obtain ⟨c0, c1, c2, c3, c4, c5, c6, c7, c8, HB⟩ := box9 hd
      clear hd
      have HB1 := Aside0.mk HB
      clear HB
      go_wp2_with (first | (go_at_call 74; refine (badge_calls _ _).mono ?_; rintro e w' ⟨rfl, rfl⟩) | (go_at_call 55; refine (in_calls _ _ _ _).mono ?_; rintro e w' ⟨rfl, rfl⟩))
      repeat (go_quiet ((first | (go_at_call 57; exact q_same (max_calls _ _) ⟨_, rfl⟩) | (go_at_call 55; exact q_same (in_calls _ _ _ _) ⟨_, rfl⟩))); go_wp2_with (first | (go_at_call 74; refine (badge_calls _ _).mono ?_; rintro e w' ⟨rfl, rfl⟩) | (go_at_call 55; refine (in_calls _ _ _ _).mono ?_; rintro e w' ⟨rfl, rfl⟩)))
      go_ret
      exact ⟨rfl, by repeat (first | exact HB1.out | apply pw_below_drewN)⟩
    have bu : inB u 0 (wrap64 (wrap64 (2 ^ v.toNat) - 1)) = true := by rw [pw_eq v q8]; exact inB_t q10
    have v0 : v = 0 := by omega
    have bv : (v != 0) = false := bne_eq_false_iff_eq.2 v0
    by_cases f0 : f = 0
    · have bf : (f != 0) = false := bne_eq_false_iff_eq.2 f0
      cases o with
      | true =>
        rw [show decide (CapOkP k a b r g u v f true) = true from decide_eq_true (by unfold CapOkP; rw [hz]; first | (simp; done) | (simp; omega))]
        clear h7 hr hz q2 q3 q4 q5 q6 q7 g0 q8 q9 q10 v0 f0
        go_enter Try.func65, Try.ntmps65
        go_wp2_with (fail)
        refine (size_calls _ _ _ Hs.out _).mono ?_
        rintro e W1 ⟨rfl, hd⟩
        obtain ⟨c0, c1, c2, c3, c4, c5, c6, c7, c8, HB⟩ := box9 hd
        clear hd
        have HB1 := Aside0.mk HB
        clear HB
        go_wp2_with (first | (go_at_call 74; refine (badge_calls _ _).mono ?_; rintro e w' ⟨rfl, rfl⟩) | (go_at_call 55; refine (in_calls _ _ _ _).mono ?_; rintro e w' ⟨rfl, rfl⟩))
        repeat (go_quiet ((first | (go_at_call 57; exact q_same (max_calls _ _) ⟨_, rfl⟩) | (go_at_call 55; exact q_same (in_calls _ _ _ _) ⟨_, rfl⟩))); go_wp2_with (first | (go_at_call 74; refine (badge_calls _ _).mono ?_; rintro e w' ⟨rfl, rfl⟩) | (go_at_call 55; refine (in_calls _ _ _ _).mono ?_; rintro e w' ⟨rfl, rfl⟩)))
        go_ret
        exact ⟨rfl, by repeat (first | exact HB1.out | apply pw_below_drewN)⟩
      | false =>
        have k1' : ¬ k = 1 := by omega
        have bk1' : (k != 1) = true := bne_iff_ne.2 k1'
        rw [show decide (CapOkP k a b r g u v f false) = true from decide_eq_true (by unfold CapOkP; rw [hz]; first | (simp; done) | (simp; omega))]
        clear h7 hr hz q2 q3 q4 q5 q6 q7 g0 q8 q9 q10 v0 f0 k1'
        go_enter Try.func65, Try.ntmps65
        go_wp2_with (fail)
        refine (size_calls _ _ _ Hs.out _).mono ?_
        rintro e W1 ⟨rfl, hd⟩
        obtain ⟨c0, c1, c2, c3, c4, c5, c6, c7, c8, HB⟩ := box9 hd
        clear hd
        have HB1 := Aside0.mk HB
        clear HB
        go_wp2_with (first | (go_at_call 74; refine (badge_calls _ _).mono ?_; rintro e w' ⟨rfl, rfl⟩) | (go_at_call 55; refine (in_calls _ _ _ _).mono ?_; rintro e w' ⟨rfl, rfl⟩))
        repeat (go_quiet ((first | (go_at_call 57; exact q_same (max_calls _ _) ⟨_, rfl⟩) | (go_at_call 55; exact q_same (in_calls _ _ _ _) ⟨_, rfl⟩))); go_wp2_with (first | (go_at_call 74; refine (badge_calls _ _).mono ?_; rintro e w' ⟨rfl, rfl⟩) | (go_at_call 55; refine (in_calls _ _ _ _).mono ?_; rintro e w' ⟨rfl, rfl⟩)))
        go_ret
        exact ⟨rfl, by repeat (first | exact HB1.out | apply pw_below_drewN)⟩
    have bf : (f != 0) = true := bne_iff_ne.2 f0
    have k1 : ¬ k = 1 := by omega
    have bk1 : (k != 1) = true := bne_iff_ne.2 k1
    rw [show decide (CapOkP k a b r g u v f o) = false from decide_eq_false (by unfold CapOkP; rw [hz]; omega)]
    clear h7 hr hz q2 q3 q4 q5 q6 q7 g0 q8 q9 q10 v0 f0 k1
    go_enter Try.func65, Try.ntmps65
    go_wp2_with (fail)
    refine (size_calls _ _ _ Hs.out _).mono ?_
    rintro e W1 ⟨rfl, hd⟩
    obtain ⟨c0, c1, c2, c3, c4, c5, c6, c7, c8, HB⟩ := box9 hd
    clear hd
    have HB1 := Aside0.mk HB
    clear HB
    go_wp2_with (first | (go_at_call 74; refine (badge_calls _ _).mono ?_; rintro e w' ⟨rfl, rfl⟩) | (go_at_call 55; refine (in_calls _ _ _ _).mono ?_; rintro e w' ⟨rfl, rfl⟩))
    repeat (go_quiet ((first | (go_at_call 57; exact q_same (max_calls _ _) ⟨_, rfl⟩) | (go_at_call 55; exact q_same (in_calls _ _ _ _) ⟨_, rfl⟩))); go_wp2_with (first | (go_at_call 74; refine (badge_calls _ _).mono ?_; rintro e w' ⟨rfl, rfl⟩) | (go_at_call 55; refine (in_calls _ _ _ _).mono ?_; rintro e w' ⟨rfl, rfl⟩)))
    go_ret
    exact ⟨rfl, by repeat (first | exact HB1.out | apply pw_below_drewN)⟩
set_option maxHeartbeats 40000000 in
set_option maxRecDepth 100000 in
theorem isCap_reply (a r g u v f : Int) (o : Bool) (w : World) (hr : r ≤ 9223372036854775807) : Calls Try.prog 65 #[.agg #[.int .i64 7, .int .i64 a, .int .i64 0, .int .i64 r, .int .i64 g, .int .i64 u, .int .i64 v, .int .i64 f, .bool o]] w fun e w' => e = .returned (.bool (decide (CapOkP 7 a 0 r g u v f o))) ∧ Below w.heap.size w w' := by
  have hz : szr 7 0 = 32 := rfl
  have Hs := Aside0.mk (show capSz 7 0 = 0 from rfl)
  by_cases q2 : 0 ≤ r
  rotate_left
  · have bq2 : decide (r < 0) = true := decide_eq_true (by omega)
    rw [show decide (CapOkP 7 a 0 r g u v f o) = false from decide_eq_false (by unfold CapOkP; rw [hz]; omega)]
    clear hr hz q2
    go_enter Try.func65, Try.ntmps65
    go_wp2_with (fail)
    refine (size_calls _ _ _ Hs.out _).mono ?_
    rintro e W1 ⟨rfl, hd⟩
    obtain ⟨c0, c1, c2, c3, c4, c5, c6, c7, c8, HB⟩ := box9 hd
    clear hd
    have HB1 := Aside0.mk HB
    clear HB
    go_wp2_with (first | (go_at_call 74; refine (badge_calls _ _).mono ?_; rintro e w' ⟨rfl, rfl⟩) | (go_at_call 55; refine (in_calls _ _ _ _).mono ?_; rintro e w' ⟨rfl, rfl⟩))
    repeat (go_quiet ((first | (go_at_call 57; exact q_same (max_calls _ _) ⟨_, rfl⟩) | (go_at_call 55; exact q_same (in_calls _ _ _ _) ⟨_, rfl⟩))); go_wp2_with (first | (go_at_call 74; refine (badge_calls _ _).mono ?_; rintro e w' ⟨rfl, rfl⟩) | (go_at_call 55; refine (in_calls _ _ _ _).mono ?_; rintro e w' ⟨rfl, rfl⟩)))
    go_ret
    exact ⟨rfl, by repeat (first | exact HB1.out | apply pw_below_drewN)⟩
  have bq2 : decide (r < 0) = false := decide_eq_false (by omega)
  by_cases q3 : r ≤ mxr 7
  rotate_left
  · have bq3 : (Go.bits .andNot .i64 r (mxr 7) != 0) = true := bne_iff_ne.2 (fun h => q3 ((rights_ok 7 r q2 hr).1 h))
    rw [show decide (CapOkP 7 a 0 r g u v f o) = false from decide_eq_false (by unfold CapOkP; rw [hz]; omega)]
    clear hr hz q2 q3
    go_enter Try.func65, Try.ntmps65
    go_wp2_with (fail)
    refine (size_calls _ _ _ Hs.out _).mono ?_
    rintro e W1 ⟨rfl, hd⟩
    obtain ⟨c0, c1, c2, c3, c4, c5, c6, c7, c8, HB⟩ := box9 hd
    clear hd
    have HB1 := Aside0.mk HB
    clear HB
    go_wp2_with (first | (go_at_call 74; refine (badge_calls _ _).mono ?_; rintro e w' ⟨rfl, rfl⟩) | (go_at_call 55; refine (in_calls _ _ _ _).mono ?_; rintro e w' ⟨rfl, rfl⟩))
    repeat (go_quiet ((first | (go_at_call 57; exact q_same (max_calls _ _) ⟨_, rfl⟩) | (go_at_call 55; exact q_same (in_calls _ _ _ _) ⟨_, rfl⟩))); go_wp2_with (first | (go_at_call 74; refine (badge_calls _ _).mono ?_; rintro e w' ⟨rfl, rfl⟩) | (go_at_call 55; refine (in_calls _ _ _ _).mono ?_; rintro e w' ⟨rfl, rfl⟩)))
    go_ret
    exact ⟨rfl, by repeat (first | exact HB1.out | apply pw_below_drewN)⟩
  have bq3 : (Go.bits .andNot .i64 r (mxr 7) != 0) = false := bne_eq_false_iff_eq.2 ((rights_ok 7 r q2 hr).2 q3)
  by_cases q4 : 0 ≤ a ∧ a ≤ 4064
  rotate_left
  · have bq4 : inB a 0 (4064) = false := inB_f q4
    rw [show decide (CapOkP 7 a 0 r g u v f o) = false from decide_eq_false (by unfold CapOkP; rw [hz]; omega)]
    clear hr hz q2 q3 q4
    go_enter Try.func65, Try.ntmps65
    go_wp2_with (fail)
    refine (size_calls _ _ _ Hs.out _).mono ?_
    rintro e W1 ⟨rfl, hd⟩
    obtain ⟨c0, c1, c2, c3, c4, c5, c6, c7, c8, HB⟩ := box9 hd
    clear hd
    have HB1 := Aside0.mk HB
    clear HB
    go_wp2_with (first | (go_at_call 74; refine (badge_calls _ _).mono ?_; rintro e w' ⟨rfl, rfl⟩) | (go_at_call 55; refine (in_calls _ _ _ _).mono ?_; rintro e w' ⟨rfl, rfl⟩))
    repeat (go_quiet ((first | (go_at_call 57; exact q_same (max_calls _ _) ⟨_, rfl⟩) | (go_at_call 55; exact q_same (in_calls _ _ _ _) ⟨_, rfl⟩))); go_wp2_with (first | (go_at_call 74; refine (badge_calls _ _).mono ?_; rintro e w' ⟨rfl, rfl⟩) | (go_at_call 55; refine (in_calls _ _ _ _).mono ?_; rintro e w' ⟨rfl, rfl⟩)))
    go_ret
    exact ⟨rfl, by repeat (first | exact HB1.out | apply pw_below_drewN)⟩
  have bq4 : inB a 0 (4064) = true := inB_t q4
  by_cases q5 : a % 32 = 0
  rotate_left
  · have bq5 : (Int.tmod a 32 != 0) = true := bne_iff_ne.2 (by rw [Int.tmod_eq_emod_of_nonneg q4.1]; exact q5)
    rw [show decide (CapOkP 7 a 0 r g u v f o) = false from decide_eq_false (by unfold CapOkP; rw [hz]; omega)]
    clear hr hz q2 q3 q4 q5
    go_enter Try.func65, Try.ntmps65
    go_wp2_with (fail)
    refine (size_calls _ _ _ Hs.out _).mono ?_
    rintro e W1 ⟨rfl, hd⟩
    obtain ⟨c0, c1, c2, c3, c4, c5, c6, c7, c8, HB⟩ := box9 hd
    clear hd
    have HB1 := Aside0.mk HB
    clear HB
    go_wp2_with (first | (go_at_call 74; refine (badge_calls _ _).mono ?_; rintro e w' ⟨rfl, rfl⟩) | (go_at_call 55; refine (in_calls _ _ _ _).mono ?_; rintro e w' ⟨rfl, rfl⟩))
    repeat (go_quiet ((first | (go_at_call 57; exact q_same (max_calls _ _) ⟨_, rfl⟩) | (go_at_call 55; exact q_same (in_calls _ _ _ _) ⟨_, rfl⟩))); go_wp2_with (first | (go_at_call 74; refine (badge_calls _ _).mono ?_; rintro e w' ⟨rfl, rfl⟩) | (go_at_call 55; refine (in_calls _ _ _ _).mono ?_; rintro e w' ⟨rfl, rfl⟩)))
    go_ret
    exact ⟨rfl, by repeat (first | exact HB1.out | apply pw_below_drewN)⟩
  have bq5 : (Int.tmod a 32 != 0) = false := bne_eq_false_iff_eq.2 (by rw [Int.tmod_eq_emod_of_nonneg q4.1]; exact q5)
  by_cases q6 : 0 ≤ g ∧ g ≤ 65535
  rotate_left
  · have bq6 : inB g 0 65535 = false := inB_f q6
    rw [show decide (CapOkP 7 a 0 r g u v f o) = false from decide_eq_false (by unfold CapOkP; rw [hz]; omega)]
    clear hr hz q2 q3 q4 q5 q6
    go_enter Try.func65, Try.ntmps65
    go_wp2_with (fail)
    refine (size_calls _ _ _ Hs.out _).mono ?_
    rintro e W1 ⟨rfl, hd⟩
    obtain ⟨c0, c1, c2, c3, c4, c5, c6, c7, c8, HB⟩ := box9 hd
    clear hd
    have HB1 := Aside0.mk HB
    clear HB
    go_wp2_with (first | (go_at_call 74; refine (badge_calls _ _).mono ?_; rintro e w' ⟨rfl, rfl⟩) | (go_at_call 55; refine (in_calls _ _ _ _).mono ?_; rintro e w' ⟨rfl, rfl⟩))
    repeat (go_quiet ((first | (go_at_call 57; exact q_same (max_calls _ _) ⟨_, rfl⟩) | (go_at_call 55; exact q_same (in_calls _ _ _ _) ⟨_, rfl⟩))); go_wp2_with (first | (go_at_call 74; refine (badge_calls _ _).mono ?_; rintro e w' ⟨rfl, rfl⟩) | (go_at_call 55; refine (in_calls _ _ _ _).mono ?_; rintro e w' ⟨rfl, rfl⟩)))
    go_ret
    exact ⟨rfl, by repeat (first | exact HB1.out | apply pw_below_drewN)⟩
  have bq6 : inB g 0 65535 = true := inB_t q6
  by_cases q7 : g = 0 ∨ 7 = 4 ∨ 7 = 5
  rotate_left
  · have bq7 : (g != 0) = true := bne_iff_ne.2 (by omega)
    have bq7b : bdB 7 = false := decide_eq_false (by omega)
    rw [show decide (CapOkP 7 a 0 r g u v f o) = false from decide_eq_false (by unfold CapOkP; rw [hz]; omega)]
    clear hr hz q2 q3 q4 q5 q6 q7
    go_enter Try.func65, Try.ntmps65
    go_wp2_with (fail)
    refine (size_calls _ _ _ Hs.out _).mono ?_
    rintro e W1 ⟨rfl, hd⟩
    obtain ⟨c0, c1, c2, c3, c4, c5, c6, c7, c8, HB⟩ := box9 hd
    clear hd
    have HB1 := Aside0.mk HB
    clear HB
    go_wp2_with (first | (go_at_call 74; refine (badge_calls _ _).mono ?_; rintro e w' ⟨rfl, rfl⟩) | (go_at_call 55; refine (in_calls _ _ _ _).mono ?_; rintro e w' ⟨rfl, rfl⟩))
    repeat (go_quiet ((first | (go_at_call 57; exact q_same (max_calls _ _) ⟨_, rfl⟩) | (go_at_call 55; exact q_same (in_calls _ _ _ _) ⟨_, rfl⟩))); go_wp2_with (first | (go_at_call 74; refine (badge_calls _ _).mono ?_; rintro e w' ⟨rfl, rfl⟩) | (go_at_call 55; refine (in_calls _ _ _ _).mono ?_; rintro e w' ⟨rfl, rfl⟩)))
    go_ret
    exact ⟨rfl, by repeat (first | exact HB1.out | apply pw_below_drewN)⟩
  rcases (Classical.em (g = 0)) with g0 | g0
  · have bg : (g != 0) = false := bne_eq_false_iff_eq.2 g0
    by_cases q8 : 0 ≤ v ∧ v ≤ 8
    rotate_left
    · have bq8 : inB v 0 8 = false := inB_f q8
      rw [show decide (CapOkP 7 a 0 r g u v f o) = false from decide_eq_false (by unfold CapOkP; rw [hz]; omega)]
      clear hr hz q2 q3 q4 q5 q6 q7 g0 q8
      go_enter Try.func65, Try.ntmps65
      go_wp2_with (fail)
      refine (size_calls _ _ _ Hs.out _).mono ?_
      rintro e W1 ⟨rfl, hd⟩
      obtain ⟨c0, c1, c2, c3, c4, c5, c6, c7, c8, HB⟩ := box9 hd
      clear hd
      have HB1 := Aside0.mk HB
      clear HB
      go_wp2_with (first | (go_at_call 74; refine (badge_calls _ _).mono ?_; rintro e w' ⟨rfl, rfl⟩) | (go_at_call 55; refine (in_calls _ _ _ _).mono ?_; rintro e w' ⟨rfl, rfl⟩))
      repeat (go_quiet ((first | (go_at_call 57; exact q_same (max_calls _ _) ⟨_, rfl⟩) | (go_at_call 55; exact q_same (in_calls _ _ _ _) ⟨_, rfl⟩))); go_wp2_with (first | (go_at_call 74; refine (badge_calls _ _).mono ?_; rintro e w' ⟨rfl, rfl⟩) | (go_at_call 55; refine (in_calls _ _ _ _).mono ?_; rintro e w' ⟨rfl, rfl⟩)))
      go_ret
      exact ⟨rfl, by repeat (first | exact HB1.out | apply pw_below_drewN)⟩
    have bq8 : inB v 0 8 = true := inB_t q8
    have hv0 : 0 ≤ v := q8.1
    have hv8 : v ≤ 8 := q8.2
    by_cases q9 : v = 0 ∨ 7 = 2
    rotate_left
    · have bv : (v != 0) = true := bne_iff_ne.2 (by omega)
      have bk2 : (7 != 2) = true := bne_iff_ne.2 (by omega)
      rw [show decide (CapOkP 7 a 0 r g u v f o) = false from decide_eq_false (by unfold CapOkP; rw [hz]; omega)]
      clear hr hz q2 q3 q4 q5 q6 q7 g0 q8 q9
      go_enter Try.func65, Try.ntmps65
      go_wp2_with (fail)
      refine (size_calls _ _ _ Hs.out _).mono ?_
      rintro e W1 ⟨rfl, hd⟩
      obtain ⟨c0, c1, c2, c3, c4, c5, c6, c7, c8, HB⟩ := box9 hd
      clear hd
      have HB1 := Aside0.mk HB
      clear HB
      go_wp2_with (first | (go_at_call 74; refine (badge_calls _ _).mono ?_; rintro e w' ⟨rfl, rfl⟩) | (go_at_call 55; refine (in_calls _ _ _ _).mono ?_; rintro e w' ⟨rfl, rfl⟩))
      repeat (go_quiet ((first | (go_at_call 57; exact q_same (max_calls _ _) ⟨_, rfl⟩) | (go_at_call 55; exact q_same (in_calls _ _ _ _) ⟨_, rfl⟩))); go_wp2_with (first | (go_at_call 74; refine (badge_calls _ _).mono ?_; rintro e w' ⟨rfl, rfl⟩) | (go_at_call 55; refine (in_calls _ _ _ _).mono ?_; rintro e w' ⟨rfl, rfl⟩)))
      go_ret
      exact ⟨rfl, by repeat (first | exact HB1.out | apply pw_below_drewN)⟩
    by_cases q10 : 0 ≤ u ∧ u ≤ shl .i64 1 v - 1
    rotate_left
    · have bu : inB u 0 (wrap64 (wrap64 (2 ^ v.toNat) - 1)) = false := by rw [pw_eq v q8]; exact inB_f q10
      have v0 : v = 0 := by omega
      have bv : (v != 0) = false := bne_eq_false_iff_eq.2 v0
      rw [show decide (CapOkP 7 a 0 r g u v f o) = false from decide_eq_false (by unfold CapOkP; rw [hz]; omega)]
      clear hr hz q2 q3 q4 q5 q6 q7 g0 q8 q9 q10 v0
      go_enter Try.func65, Try.ntmps65
      go_wp2_with (fail)
      refine (size_calls _ _ _ Hs.out _).mono ?_
      rintro e W1 ⟨rfl, hd⟩
      obtain ⟨c0, c1, c2, c3, c4, c5, c6, c7, c8, HB⟩ := box9 hd
      clear hd
      have HB1 := Aside0.mk HB
      clear HB
      go_wp2_with (first | (go_at_call 74; refine (badge_calls _ _).mono ?_; rintro e w' ⟨rfl, rfl⟩) | (go_at_call 55; refine (in_calls _ _ _ _).mono ?_; rintro e w' ⟨rfl, rfl⟩))
      repeat (go_quiet ((first | (go_at_call 57; exact q_same (max_calls _ _) ⟨_, rfl⟩) | (go_at_call 55; exact q_same (in_calls _ _ _ _) ⟨_, rfl⟩))); go_wp2_with (first | (go_at_call 74; refine (badge_calls _ _).mono ?_; rintro e w' ⟨rfl, rfl⟩) | (go_at_call 55; refine (in_calls _ _ _ _).mono ?_; rintro e w' ⟨rfl, rfl⟩)))
      go_ret
      exact ⟨rfl, by repeat (first | exact HB1.out | apply pw_below_drewN)⟩
    have bu : inB u 0 (wrap64 (wrap64 (2 ^ v.toNat) - 1)) = true := by rw [pw_eq v q8]; exact inB_t q10
    have v0 : v = 0 := by omega
    have bv : (v != 0) = false := bne_eq_false_iff_eq.2 v0
    by_cases f0 : f = 0
    · have bf : (f != 0) = false := bne_eq_false_iff_eq.2 f0
      cases o with
      | true =>
        rw [show decide (CapOkP 7 a 0 r g u v f true) = false from decide_eq_false (by unfold CapOkP; rw [hz]; first | (simp; done) | (simp; omega))]
        clear hr hz q2 q3 q4 q5 q6 q7 g0 q8 q9 q10 v0 f0
        go_enter Try.func65, Try.ntmps65
        go_wp2_with (fail)
        refine (size_calls _ _ _ Hs.out _).mono ?_
        rintro e W1 ⟨rfl, hd⟩
        obtain ⟨c0, c1, c2, c3, c4, c5, c6, c7, c8, HB⟩ := box9 hd
        clear hd
        have HB1 := Aside0.mk HB
        clear HB
        go_wp2_with (first | (go_at_call 74; refine (badge_calls _ _).mono ?_; rintro e w' ⟨rfl, rfl⟩) | (go_at_call 55; refine (in_calls _ _ _ _).mono ?_; rintro e w' ⟨rfl, rfl⟩))
        repeat (go_quiet ((first | (go_at_call 57; exact q_same (max_calls _ _) ⟨_, rfl⟩) | (go_at_call 55; exact q_same (in_calls _ _ _ _) ⟨_, rfl⟩))); go_wp2_with (first | (go_at_call 74; refine (badge_calls _ _).mono ?_; rintro e w' ⟨rfl, rfl⟩) | (go_at_call 55; refine (in_calls _ _ _ _).mono ?_; rintro e w' ⟨rfl, rfl⟩)))
        go_ret
        exact ⟨rfl, by repeat (first | exact HB1.out | apply pw_below_drewN)⟩
      | false =>
        rw [show decide (CapOkP 7 a 0 r g u v f false) = true from decide_eq_true (by unfold CapOkP; rw [hz]; first | (simp; done) | (simp; omega))]
        clear hr hz q2 q3 q4 q5 q6 q7 g0 q8 q9 q10 v0 f0
        go_enter Try.func65, Try.ntmps65
        go_wp2_with (fail)
        refine (size_calls _ _ _ Hs.out _).mono ?_
        rintro e W1 ⟨rfl, hd⟩
        obtain ⟨c0, c1, c2, c3, c4, c5, c6, c7, c8, HB⟩ := box9 hd
        clear hd
        have HB1 := Aside0.mk HB
        clear HB
        go_wp2_with (first | (go_at_call 74; refine (badge_calls _ _).mono ?_; rintro e w' ⟨rfl, rfl⟩) | (go_at_call 55; refine (in_calls _ _ _ _).mono ?_; rintro e w' ⟨rfl, rfl⟩))
        repeat (go_quiet ((first | (go_at_call 57; exact q_same (max_calls _ _) ⟨_, rfl⟩) | (go_at_call 55; exact q_same (in_calls _ _ _ _) ⟨_, rfl⟩))); go_wp2_with (first | (go_at_call 74; refine (badge_calls _ _).mono ?_; rintro e w' ⟨rfl, rfl⟩) | (go_at_call 55; refine (in_calls _ _ _ _).mono ?_; rintro e w' ⟨rfl, rfl⟩)))
        go_ret
        exact ⟨rfl, by repeat (first | exact HB1.out | apply pw_below_drewN)⟩
    have bf : (f != 0) = true := bne_iff_ne.2 f0
    have k1 : ¬ 7 = 1 := by omega
    have bk1 : (7 != 1) = true := bne_iff_ne.2 k1
    rw [show decide (CapOkP 7 a 0 r g u v f o) = false from decide_eq_false (by unfold CapOkP; rw [hz]; omega)]
    clear hr hz q2 q3 q4 q5 q6 q7 g0 q8 q9 q10 v0 f0 k1
    go_enter Try.func65, Try.ntmps65
    go_wp2_with (fail)
    refine (size_calls _ _ _ Hs.out _).mono ?_
    rintro e W1 ⟨rfl, hd⟩
    obtain ⟨c0, c1, c2, c3, c4, c5, c6, c7, c8, HB⟩ := box9 hd
    clear hd
    have HB1 := Aside0.mk HB
    clear HB
    go_wp2_with (first | (go_at_call 74; refine (badge_calls _ _).mono ?_; rintro e w' ⟨rfl, rfl⟩) | (go_at_call 55; refine (in_calls _ _ _ _).mono ?_; rintro e w' ⟨rfl, rfl⟩))
    repeat (go_quiet ((first | (go_at_call 57; exact q_same (max_calls _ _) ⟨_, rfl⟩) | (go_at_call 55; exact q_same (in_calls _ _ _ _) ⟨_, rfl⟩))); go_wp2_with (first | (go_at_call 74; refine (badge_calls _ _).mono ?_; rintro e w' ⟨rfl, rfl⟩) | (go_at_call 55; refine (in_calls _ _ _ _).mono ?_; rintro e w' ⟨rfl, rfl⟩)))
    go_ret
    exact ⟨rfl, by repeat (first | exact HB1.out | apply pw_below_drewN)⟩
  · exact absurd q7 (by omega)
theorem isCap_calls (k a b r g u v f : Int) (o : Bool) (w : World) (hr : r ≤ 9223372036854775807) : Calls Try.prog 65 #[.agg #[.int .i64 k, .int .i64 a, .int .i64 b, .int .i64 r, .int .i64 g, .int .i64 u, .int .i64 v, .int .i64 f, .bool o]] w fun e w' => e = .returned (.bool (decide (CapOkP k a b r g u v f o))) ∧ Below w.heap.size w w' := by
  by_cases h7 : k = 7 ∧ b = 0
  · obtain ⟨rfl, rfl⟩ := h7
    exact isCap_reply a r g u v f o w hr
  have hb := capSz_bd k b
  by_cases hs : capSz k b = 0
  · exact isCap_zero k a b r g u v f o w h7 hs
  · refine isCap_some k a b r g u v f o _ w hr (fun h => hs ?_) rfl (by omega) (by omega)
    subst h
    rfl
end Go.Proofs.Ytjagpgomndndcaa.CapB
