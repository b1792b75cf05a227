/- The contracts of spec.l2Extra and spec.CapOk: the call returns whether the fields are right, and whether the capability is valid; no condition. -/
import Derived.Test.YtjagpgomndndcaaCapB
namespace Go.Proofs.Ytjagpgomndndcaa.CapB
open Go.RowKit Go.Proofs.YtjagpgomndndcaaW.PrintWords Go.Proofs.YtjagpgomndndcaaW.PrintLast Go.Proofs.YtjagpgomndndcaaW.PrintMore
set_option linter.unusedVariables false
set_option linter.unusedSimpArgs false
open Go.Proofs.Ytjagpgomndndcaa.CapA
def ExtraP (k b g u v f : Int) : Prop := 0 ≤ g ∧ g ≤ 65535 ∧ (g = 0 ∨ k = 4 ∨ k = 5) ∧ 0 ≤ v ∧ v ≤ 8 ∧ (v = 0 ∨ k = 2) ∧ 0 ≤ u ∧ u < wsz v ∧ (f = 0 ∨ k = 1 ∧ 0 < f ∧ f ≤ wsz b)
instance (k b g u v f : Int) : Decidable (ExtraP k b g u v f) := by unfold ExtraP; infer_instance
theorem spec_word (n : Nat) (b : Int) : spec_WordSize.f (n + 20) b = some (wsz b) := by
  unfold wsz
  by_cases h : 0 ≤ b ∧ b ≤ 12
  · rw [if_pos h]
    have h13 : b = 0 ∨ b = 1 ∨ b = 2 ∨ b = 3 ∨ b = 4 ∨ b = 5 ∨ b = 6 ∨ b = 7 ∨ b = 8 ∨ b = 9 ∨ b = 10 ∨ b = 11 ∨ b = 12 := by omega
    refine at_rounds (g := fun k => spec_WordSize.f k b) (fun k => spec_WordSize.mono b k) (show 20 ≤ n + 20 by omega) ?_
    clear h
    rcases h13 with rfl | rfl | rfl | rfl | rfl | rfl | rfl | rfl | rfl | rfl | rfl | rfl | rfl
    all_goals decide +kernel
  · rw [if_neg h]
    unfold spec_WordSize.f
    split
    · simp only [spec_WordSize.j0]; rfl
    · rw [decide_eq_true (show b > 12 by omega)]; simp only [spec_WordSize.j0]; rfl
theorem wsz_calls (n : Int) (w : World) : Calls Try.prog 26 #[.int .i64 n] w fun e w' => e = .returned (.int .i64 (wsz n)) ∧ Drawn0 w w' :=
  spec_WordSize.calls 20 n (wsz n) w (spec_word 0 n)
theorem node_size (b : Int) (h : 1 ≤ b ∧ b ≤ 5) : shl .i64 1 (wrap64 (b + 2)) = shl .i64 4 b := by
  have h5 : b = 1 ∨ b = 2 ∨ b = 3 ∨ b = 4 ∨ b = 5 := by omega
  rcases h5 with rfl | rfl | rfl | rfl | rfl
  all_goals decide +kernel
def bitsB (a b : Int) : Bool := decide (a = 1 ∧ 2 ≤ b ∧ b ≤ 11 ∨ a = 2 ∧ 1 ≤ b ∧ b ≤ 5 ∨ a = 6 ∧ 0 ≤ b ∧ b ≤ 6 ∨ (a = 3 ∨ a = 4 ∨ a = 5 ∨ a = 7) ∧ b = 0)
theorem spec_bits (a b : Int) : spec_l2Bits.f a b = some (bitsB a b) := by
  unfold spec_l2Bits.f bitsB
  repeat' split
  all_goals rw [Option.some.injEq, Bool.eq_iff_iff]
  all_goals simp only [decide_eq_true_eq, Bool.false_eq_true, false_iff, beq_iff_eq]
  all_goals omega
theorem spec_size (n : Nat) (a b : Int) : spec_CapSize.f (n + 21) a b = some (capSz a b) := by
  unfold spec_CapSize.f capSz
  rw [spec_bits]
  unfold bitsB
  simp only [Option.bind_some, decide_eq_true_eq]
  split
  · rename_i h
    simp only [spec_CapSize.j0, beq_iff_eq]
    rcases h with h | h | h | h
    · rw [if_pos h.1, if_pos h.1, spec_word n b, if_pos h, wsz, if_pos (by omega)]; rfl
    · have hw : wrap64 (b + 2) = b + 2 := by unfold wrap64; omega
      rw [if_neg (by omega), if_neg (by omega), if_pos h.1, ← node_size b h.2, spec_word n _, if_neg (by omega), if_pos h, wsz, if_pos (by omega)]; rfl
    · rw [if_neg (by omega), if_pos h.1, spec_word n b, if_neg (by omega), if_neg (by omega), if_neg (by omega), if_neg (by omega), if_pos h, wsz, if_pos (by omega)]; rfl
    · repeat' split
      all_goals first | rfl | (exfalso; omega)
  · repeat' split
    all_goals first | rfl | (exfalso; omega)
theorem rights_eq (k r : Int) (h : 0 ≤ r ∧ r ≤ 7) : spec_l2Rights.f r (mxr k) = some (decide (r ≤ mxr k)) := by
  have hr : r = 0 ∨ r = 1 ∨ r = 2 ∨ r = 3 ∨ r = 4 ∨ r = 5 ∨ r = 6 ∨ r = 7 := by omega
  have hm : mxr k = 7 ∨ mxr k = 3 ∨ mxr k = 0 := by
    unfold mxr
    split
    · exact .inl rfl
    split
    · exact .inr (.inl rfl)
    · exact .inr (.inr rfl)
  generalize mxr k = m at hm
  clear h
  rcases hm with rfl | rfl | rfl <;> rcases hr with rfl | rfl | rfl | rfl | rfl | rfl | rfl | rfl <;> decide +kernel
theorem fine_eq (a b : Int) : spec_l1Fine.f a b = some (decide (0 ≤ a ∧ a ≤ 4096 ∧ 1 ≤ b ∧ b ≤ 4096)) := by
  unfold spec_l1Fine.f
  repeat' split
  all_goals rw [Option.some.injEq, Bool.eq_iff_iff]
  all_goals simp only [decide_eq_true_eq, Bool.false_eq_true, false_iff]
  all_goals omega
def alB (a s : Int) : Bool := decide ((0 ≤ a ∧ a ≤ 4096 ∧ 1 ≤ s ∧ s ≤ 4096) ∧ a % s = 0)
theorem sal_eq (a s : Int) : spec_WordAligned.f a s = some (alB a s) := by
  unfold spec_WordAligned.f alB
  rw [fine_eq]
  by_cases h1 : 0 ≤ a ∧ a ≤ 4096 ∧ 1 ≤ s ∧ s ≤ 4096
  · rw [decide_eq_true h1]
    simp only [Option.bind_some]
    rw [if_pos trivial, if_neg (by omega), Int.tmod_eq_emod_of_nonneg h1.1, Option.some.injEq, Bool.eq_iff_iff]
    simp only [decide_eq_true_eq, beq_iff_eq]
    exact ⟨fun h => ⟨h1, h⟩, fun h => h.2⟩
  · rw [decide_eq_false h1]
    simp only [Option.bind_some]
    rw [if_neg (by decide), decide_eq_false (fun h => h1 h.1)]
theorem smax_eq (k : Int) : spec_CapMax.f k = some (mxr k) := by
  unfold spec_CapMax.f mxr
  by_cases h4 : k = 4
  · rw [if_pos h4, if_pos h4]
  rw [if_neg h4, if_neg h4]
  by_cases h5 : k = 5
  · rw [if_pos h5, if_pos (.inl h5)]
  rw [if_neg h5]
  by_cases h6 : k = 6
  · rw [if_pos h6, if_pos (.inr h6)]
  · rw [if_neg h6, if_neg (by omega)]
theorem szr_bits (k b : Int) : (0 < szr k b ↔ bitsB k b = true) ∧ (k = 1 → bitsB k b = true → szr k b = wsz b) := by
  unfold szr capSz bitsB wsz
  rw [decide_eq_true_eq]
  refine ⟨?_, ?_⟩
  · split
    · constructor
      · intro _; omega
      · intro _; omega
    split
    · rename_i h; have := pow13 b (by omega); constructor <;> intro _ <;> omega
    split
    · rename_i h; have := pow4 b (by omega); constructor <;> intro _ <;> omega
    split
    · constructor <;> intro _ <;> omega
    split
    · constructor <;> intro _ <;> omega
    split
    · rename_i h; have := pow13 b (by omega); constructor <;> intro _ <;> omega
    · constructor <;> intro _ <;> omega
  · rintro rfl h
    have h2 : 2 ≤ b ∧ b ≤ 11 := by omega
    rw [if_neg (by omega), if_pos ⟨rfl, h2⟩, if_pos (by omega)]
set_option maxHeartbeats 40000000 in
set_option maxRecDepth 100000 in
theorem extra_4 (a b r g u v f : Int) (o : Bool) (w : World) : Calls Try.prog 64 #[.agg #[.int .i64 4, .int .i64 a, .int .i64 b, .int .i64 r, .int .i64 g, .int .i64 u, .int .i64 v, .int .i64 f, .bool o]] w fun e w' => e = .returned (.bool (decide (ExtraP 4 b g u v f))) ∧ Below w.heap.size w w' := by
  by_cases q1 : 0 ≤ g
  rotate_left
  · have bq1 : decide (g < 0) = true := decide_eq_true (by omega)
    rw [show decide (ExtraP 4 b g u v f) = false from decide_eq_false (by unfold ExtraP; omega)]
    clear q1
    go_enter Try.func64, Try.ntmps64
    go_wp2_with (fail)
    repeat (go_quiet (((go_at_call 26; first | exact q_d1 (wsz_calls _ _) | exact q_d2 (wsz_calls _ _)))); go_wp2_with (fail))
    go_ret
    exact ⟨rfl, by repeat (first | exact Below.refl _ _ | apply pw_below_drewN | apply below_alloc)⟩
  have bq1 : decide (g < 0) = false := decide_eq_false (by omega)
  by_cases q2 : g ≤ 65535
  rotate_left
  · have bq2 : decide (65535 < g) = true := decide_eq_true (by omega)
    rw [show decide (ExtraP 4 b g u v f) = false from decide_eq_false (by unfold ExtraP; omega)]
    clear q1 q2
    go_enter Try.func64, Try.ntmps64
    go_wp2_with (fail)
    repeat (go_quiet (((go_at_call 26; first | exact q_d1 (wsz_calls _ _) | exact q_d2 (wsz_calls _ _)))); go_wp2_with (fail))
    go_ret
    exact ⟨rfl, by repeat (first | exact Below.refl _ _ | apply pw_below_drewN | apply below_alloc)⟩
  have bq2 : decide (65535 < g) = false := decide_eq_false (by omega)
  by_cases g0 : 0 < g
  · have bg : decide (0 < g) = true := decide_eq_true g0
    by_cases q4 : 0 ≤ v
    rotate_left
    · have bq4 : decide (v < 0) = true := decide_eq_true (by omega)
      rw [show decide (ExtraP 4 b g u v f) = false from decide_eq_false (by unfold ExtraP; omega)]
      clear q1 q2 g0 q4
      go_enter Try.func64, Try.ntmps64
      go_wp2_with (fail)
      repeat (go_quiet (((go_at_call 26; first | exact q_d1 (wsz_calls _ _) | exact q_d2 (wsz_calls _ _)))); go_wp2_with (fail))
      go_ret
      exact ⟨rfl, by repeat (first | exact Below.refl _ _ | apply pw_below_drewN | apply below_alloc)⟩
    have bq4 : decide (v < 0) = false := decide_eq_false (by omega)
    by_cases q5 : v ≤ 8
    rotate_left
    · have bq5 : decide (8 < v) = true := decide_eq_true (by omega)
      rw [show decide (ExtraP 4 b g u v f) = false from decide_eq_false (by unfold ExtraP; omega)]
      clear q1 q2 g0 q4 q5
      go_enter Try.func64, Try.ntmps64
      go_wp2_with (fail)
      repeat (go_quiet (((go_at_call 26; first | exact q_d1 (wsz_calls _ _) | exact q_d2 (wsz_calls _ _)))); go_wp2_with (fail))
      go_ret
      exact ⟨rfl, by repeat (first | exact Below.refl _ _ | apply pw_below_drewN | apply below_alloc)⟩
    have bq5 : decide (8 < v) = false := decide_eq_false (by omega)
    by_cases v0 : 0 < v
    · have bv : decide (0 < v) = true := decide_eq_true v0
      rw [show decide (ExtraP 4 b g u v f) = false from decide_eq_false (by unfold ExtraP; omega)]
      clear q1 q2 g0 q4 q5 v0
      go_enter Try.func64, Try.ntmps64
      go_wp2_with (fail)
      repeat (go_quiet (((go_at_call 26; first | exact q_d1 (wsz_calls _ _) | exact q_d2 (wsz_calls _ _)))); go_wp2_with (fail))
      go_ret
      exact ⟨rfl, by repeat (first | exact Below.refl _ _ | apply pw_below_drewN | apply below_alloc)⟩
    have bv : decide (0 < v) = false := decide_eq_false v0
    by_cases q6 : 0 ≤ u
    rotate_left
    · have bq6 : decide (u < 0) = true := decide_eq_true (by omega)
      rw [show decide (ExtraP 4 b g u v f) = false from decide_eq_false (by unfold ExtraP; omega)]
      clear q1 q2 g0 q4 q5 v0 q6
      go_enter Try.func64, Try.ntmps64
      go_wp2_with (fail)
      repeat (go_quiet (((go_at_call 26; first | exact q_d1 (wsz_calls _ _) | exact q_d2 (wsz_calls _ _)))); go_wp2_with (fail))
      go_ret
      exact ⟨rfl, by repeat (first | exact Below.refl _ _ | apply pw_below_drewN | apply below_alloc)⟩
    have bq6 : decide (u < 0) = false := decide_eq_false (by omega)
    by_cases q7 : u < wsz v
    rotate_left
    · have bq7 : decide (wsz v ≤ u) = true := decide_eq_true (by omega)
      rw [show decide (ExtraP 4 b g u v f) = false from decide_eq_false (by unfold ExtraP; omega)]
      clear q1 q2 g0 q4 q5 v0 q6 q7
      go_enter Try.func64, Try.ntmps64
      go_wp2_with (fail)
      repeat (go_quiet (((go_at_call 26; first | exact q_d1 (wsz_calls _ _) | exact q_d2 (wsz_calls _ _)))); go_wp2_with (fail))
      go_ret
      exact ⟨rfl, by repeat (first | exact Below.refl _ _ | apply pw_below_drewN | apply below_alloc)⟩
    have bq7 : decide (wsz v ≤ u) = false := decide_eq_false (by omega)
    by_cases f0 : f = 0
    · have bf : (f == 0) = true := beq_iff_eq.2 f0
      rw [show decide (ExtraP 4 b g u v f) = true from decide_eq_true (by unfold ExtraP; omega)]
      clear q1 q2 g0 q4 q5 v0 q6 q7 f0
      go_enter Try.func64, Try.ntmps64
      go_wp2_with (fail)
      repeat (go_quiet (((go_at_call 26; first | exact q_d1 (wsz_calls _ _) | exact q_d2 (wsz_calls _ _)))); go_wp2_with (fail))
      go_ret
      exact ⟨rfl, by repeat (first | exact Below.refl _ _ | apply pw_below_drewN | apply below_alloc)⟩
    have bf : (f == 0) = false := beq_eq_false_iff_ne.2 f0
    rw [show decide (ExtraP 4 b g u v f) = false from decide_eq_false (by unfold ExtraP; omega)]
    clear q1 q2 g0 q4 q5 v0 q6 q7 f0
    go_enter Try.func64, Try.ntmps64
    go_wp2_with (fail)
    repeat (go_quiet (((go_at_call 26; first | exact q_d1 (wsz_calls _ _) | exact q_d2 (wsz_calls _ _)))); go_wp2_with (fail))
    go_ret
    exact ⟨rfl, by repeat (first | exact Below.refl _ _ | apply pw_below_drewN | apply below_alloc)⟩
  have bg : decide (0 < g) = false := decide_eq_false g0
  by_cases q4 : 0 ≤ v
  rotate_left
  · have bq4 : decide (v < 0) = true := decide_eq_true (by omega)
    rw [show decide (ExtraP 4 b g u v f) = false from decide_eq_false (by unfold ExtraP; omega)]
    clear q1 q2 g0 q4
    go_enter Try.func64, Try.ntmps64
    go_wp2_with (fail)
    repeat (go_quiet (((go_at_call 26; first | exact q_d1 (wsz_calls _ _) | exact q_d2 (wsz_calls _ _)))); go_wp2_with (fail))
    go_ret
    exact ⟨rfl, by repeat (first | exact Below.refl _ _ | apply pw_below_drewN | apply below_alloc)⟩
  have bq4 : decide (v < 0) = false := decide_eq_false (by omega)
  by_cases q5 : v ≤ 8
  rotate_left
  · have bq5 : decide (8 < v) = true := decide_eq_true (by omega)
    rw [show decide (ExtraP 4 b g u v f) = false from decide_eq_false (by unfold ExtraP; omega)]
    clear q1 q2 g0 q4 q5
    go_enter Try.func64, Try.ntmps64
    go_wp2_with (fail)
    repeat (go_quiet (((go_at_call 26; first | exact q_d1 (wsz_calls _ _) | exact q_d2 (wsz_calls _ _)))); go_wp2_with (fail))
    go_ret
    exact ⟨rfl, by repeat (first | exact Below.refl _ _ | apply pw_below_drewN | apply below_alloc)⟩
  have bq5 : decide (8 < v) = false := decide_eq_false (by omega)
  by_cases v0 : 0 < v
  · have bv : decide (0 < v) = true := decide_eq_true v0
    rw [show decide (ExtraP 4 b g u v f) = false from decide_eq_false (by unfold ExtraP; omega)]
    clear q1 q2 g0 q4 q5 v0
    go_enter Try.func64, Try.ntmps64
    go_wp2_with (fail)
    repeat (go_quiet (((go_at_call 26; first | exact q_d1 (wsz_calls _ _) | exact q_d2 (wsz_calls _ _)))); go_wp2_with (fail))
    go_ret
    exact ⟨rfl, by repeat (first | exact Below.refl _ _ | apply pw_below_drewN | apply below_alloc)⟩
  have bv : decide (0 < v) = false := decide_eq_false v0
  by_cases q6 : 0 ≤ u
  rotate_left
  · have bq6 : decide (u < 0) = true := decide_eq_true (by omega)
    rw [show decide (ExtraP 4 b g u v f) = false from decide_eq_false (by unfold ExtraP; omega)]
    clear q1 q2 g0 q4 q5 v0 q6
    go_enter Try.func64, Try.ntmps64
    go_wp2_with (fail)
    repeat (go_quiet (((go_at_call 26; first | exact q_d1 (wsz_calls _ _) | exact q_d2 (wsz_calls _ _)))); go_wp2_with (fail))
    go_ret
    exact ⟨rfl, by repeat (first | exact Below.refl _ _ | apply pw_below_drewN | apply below_alloc)⟩
  have bq6 : decide (u < 0) = false := decide_eq_false (by omega)
  by_cases q7 : u < wsz v
  rotate_left
  · have bq7 : decide (wsz v ≤ u) = true := decide_eq_true (by omega)
    rw [show decide (ExtraP 4 b g u v f) = false from decide_eq_false (by unfold ExtraP; omega)]
    clear q1 q2 g0 q4 q5 v0 q6 q7
    go_enter Try.func64, Try.ntmps64
    go_wp2_with (fail)
    repeat (go_quiet (((go_at_call 26; first | exact q_d1 (wsz_calls _ _) | exact q_d2 (wsz_calls _ _)))); go_wp2_with (fail))
    go_ret
    exact ⟨rfl, by repeat (first | exact Below.refl _ _ | apply pw_below_drewN | apply below_alloc)⟩
  have bq7 : decide (wsz v ≤ u) = false := decide_eq_false (by omega)
  by_cases f0 : f = 0
  · have bf : (f == 0) = true := beq_iff_eq.2 f0
    rw [show decide (ExtraP 4 b g u v f) = true from decide_eq_true (by unfold ExtraP; omega)]
    clear q1 q2 g0 q4 q5 v0 q6 q7 f0
    go_enter Try.func64, Try.ntmps64
    go_wp2_with (fail)
    repeat (go_quiet (((go_at_call 26; first | exact q_d1 (wsz_calls _ _) | exact q_d2 (wsz_calls _ _)))); go_wp2_with (fail))
    go_ret
    exact ⟨rfl, by repeat (first | exact Below.refl _ _ | apply pw_below_drewN | apply below_alloc)⟩
  have bf : (f == 0) = false := beq_eq_false_iff_ne.2 f0
  rw [show decide (ExtraP 4 b g u v f) = false from decide_eq_false (by unfold ExtraP; omega)]
  clear q1 q2 g0 q4 q5 v0 q6 q7 f0
  go_enter Try.func64, Try.ntmps64
  go_wp2_with (fail)
  repeat (go_quiet (((go_at_call 26; first | exact q_d1 (wsz_calls _ _) | exact q_d2 (wsz_calls _ _)))); go_wp2_with (fail))
  go_ret
  exact ⟨rfl, by repeat (first | exact Below.refl _ _ | apply pw_below_drewN | apply below_alloc)⟩
set_option maxHeartbeats 40000000 in
set_option maxRecDepth 100000 in
theorem extra_5 (a b r g u v f : Int) (o : Bool) (w : World) : Calls Try.prog 64 #[.agg #[.int .i64 5, .int .i64 a, .int .i64 b, .int .i64 r, .int .i64 g, .int .i64 u, .int .i64 v, .int .i64 f, .bool o]] w fun e w' => e = .returned (.bool (decide (ExtraP 5 b g u v f))) ∧ Below w.heap.size w w' := by
  by_cases q1 : 0 ≤ g
  rotate_left
  · have bq1 : decide (g < 0) = true := decide_eq_true (by omega)
    rw [show decide (ExtraP 5 b g u v f) = false from decide_eq_false (by unfold ExtraP; omega)]
    clear q1
    go_enter Try.func64, Try.ntmps64
    go_wp2_with (fail)
    repeat (go_quiet (((go_at_call 26; first | exact q_d1 (wsz_calls _ _) | exact q_d2 (wsz_calls _ _)))); go_wp2_with (fail))
    go_ret
    exact ⟨rfl, by repeat (first | exact Below.refl _ _ | apply pw_below_drewN | apply below_alloc)⟩
  have bq1 : decide (g < 0) = false := decide_eq_false (by omega)
  by_cases q2 : g ≤ 65535
  rotate_left
  · have bq2 : decide (65535 < g) = true := decide_eq_true (by omega)
    rw [show decide (ExtraP 5 b g u v f) = false from decide_eq_false (by unfold ExtraP; omega)]
    clear q1 q2
    go_enter Try.func64, Try.ntmps64
    go_wp2_with (fail)
    repeat (go_quiet (((go_at_call 26; first | exact q_d1 (wsz_calls _ _) | exact q_d2 (wsz_calls _ _)))); go_wp2_with (fail))
    go_ret
    exact ⟨rfl, by repeat (first | exact Below.refl _ _ | apply pw_below_drewN | apply below_alloc)⟩
  have bq2 : decide (65535 < g) = false := decide_eq_false (by omega)
  by_cases g0 : 0 < g
  · have bg : decide (0 < g) = true := decide_eq_true g0
    by_cases q4 : 0 ≤ v
    rotate_left
    · have bq4 : decide (v < 0) = true := decide_eq_true (by omega)
      rw [show decide (ExtraP 5 b g u v f) = false from decide_eq_false (by unfold ExtraP; omega)]
      clear q1 q2 g0 q4
      go_enter Try.func64, Try.ntmps64
      go_wp2_with (fail)
      repeat (go_quiet (((go_at_call 26; first | exact q_d1 (wsz_calls _ _) | exact q_d2 (wsz_calls _ _)))); go_wp2_with (fail))
      go_ret
      exact ⟨rfl, by repeat (first | exact Below.refl _ _ | apply pw_below_drewN | apply below_alloc)⟩
    have bq4 : decide (v < 0) = false := decide_eq_false (by omega)
    by_cases q5 : v ≤ 8
    rotate_left
    · have bq5 : decide (8 < v) = true := decide_eq_true (by omega)
      rw [show decide (ExtraP 5 b g u v f) = false from decide_eq_false (by unfold ExtraP; omega)]
      clear q1 q2 g0 q4 q5
      go_enter Try.func64, Try.ntmps64
      go_wp2_with (fail)
      repeat (go_quiet (((go_at_call 26; first | exact q_d1 (wsz_calls _ _) | exact q_d2 (wsz_calls _ _)))); go_wp2_with (fail))
      go_ret
      exact ⟨rfl, by repeat (first | exact Below.refl _ _ | apply pw_below_drewN | apply below_alloc)⟩
    have bq5 : decide (8 < v) = false := decide_eq_false (by omega)
    by_cases v0 : 0 < v
    · have bv : decide (0 < v) = true := decide_eq_true v0
      rw [show decide (ExtraP 5 b g u v f) = false from decide_eq_false (by unfold ExtraP; omega)]
      clear q1 q2 g0 q4 q5 v0
      go_enter Try.func64, Try.ntmps64
      go_wp2_with (fail)
      repeat (go_quiet (((go_at_call 26; first | exact q_d1 (wsz_calls _ _) | exact q_d2 (wsz_calls _ _)))); go_wp2_with (fail))
      go_ret
      exact ⟨rfl, by repeat (first | exact Below.refl _ _ | apply pw_below_drewN | apply below_alloc)⟩
    have bv : decide (0 < v) = false := decide_eq_false v0
    by_cases q6 : 0 ≤ u
    rotate_left
    · have bq6 : decide (u < 0) = true := decide_eq_true (by omega)
      rw [show decide (ExtraP 5 b g u v f) = false from decide_eq_false (by unfold ExtraP; omega)]
      clear q1 q2 g0 q4 q5 v0 q6
      go_enter Try.func64, Try.ntmps64
      go_wp2_with (fail)
      repeat (go_quiet (((go_at_call 26; first | exact q_d1 (wsz_calls _ _) | exact q_d2 (wsz_calls _ _)))); go_wp2_with (fail))
      go_ret
      exact ⟨rfl, by repeat (first | exact Below.refl _ _ | apply pw_below_drewN | apply below_alloc)⟩
    have bq6 : decide (u < 0) = false := decide_eq_false (by omega)
    by_cases q7 : u < wsz v
    rotate_left
    · have bq7 : decide (wsz v ≤ u) = true := decide_eq_true (by omega)
      rw [show decide (ExtraP 5 b g u v f) = false from decide_eq_false (by unfold ExtraP; omega)]
      clear q1 q2 g0 q4 q5 v0 q6 q7
      go_enter Try.func64, Try.ntmps64
      go_wp2_with (fail)
      repeat (go_quiet (((go_at_call 26; first | exact q_d1 (wsz_calls _ _) | exact q_d2 (wsz_calls _ _)))); go_wp2_with (fail))
      go_ret
      exact ⟨rfl, by repeat (first | exact Below.refl _ _ | apply pw_below_drewN | apply below_alloc)⟩
    have bq7 : decide (wsz v ≤ u) = false := decide_eq_false (by omega)
    by_cases f0 : f = 0
    · have bf : (f == 0) = true := beq_iff_eq.2 f0
      rw [show decide (ExtraP 5 b g u v f) = true from decide_eq_true (by unfold ExtraP; omega)]
      clear q1 q2 g0 q4 q5 v0 q6 q7 f0
      go_enter Try.func64, Try.ntmps64
      go_wp2_with (fail)
      repeat (go_quiet (((go_at_call 26; first | exact q_d1 (wsz_calls _ _) | exact q_d2 (wsz_calls _ _)))); go_wp2_with (fail))
      go_ret
      exact ⟨rfl, by repeat (first | exact Below.refl _ _ | apply pw_below_drewN | apply below_alloc)⟩
    have bf : (f == 0) = false := beq_eq_false_iff_ne.2 f0
    rw [show decide (ExtraP 5 b g u v f) = false from decide_eq_false (by unfold ExtraP; omega)]
    clear q1 q2 g0 q4 q5 v0 q6 q7 f0
    go_enter Try.func64, Try.ntmps64
    go_wp2_with (fail)
    repeat (go_quiet (((go_at_call 26; first | exact q_d1 (wsz_calls _ _) | exact q_d2 (wsz_calls _ _)))); go_wp2_with (fail))
    go_ret
    exact ⟨rfl, by repeat (first | exact Below.refl _ _ | apply pw_below_drewN | apply below_alloc)⟩
  have bg : decide (0 < g) = false := decide_eq_false g0
  by_cases q4 : 0 ≤ v
  rotate_left
  · have bq4 : decide (v < 0) = true := decide_eq_true (by omega)
    rw [show decide (ExtraP 5 b g u v f) = false from decide_eq_false (by unfold ExtraP; omega)]
    clear q1 q2 g0 q4
    go_enter Try.func64, Try.ntmps64
    go_wp2_with (fail)
    repeat (go_quiet (((go_at_call 26; first | exact q_d1 (wsz_calls _ _) | exact q_d2 (wsz_calls _ _)))); go_wp2_with (fail))
    go_ret
    exact ⟨rfl, by repeat (first | exact Below.refl _ _ | apply pw_below_drewN | apply below_alloc)⟩
  have bq4 : decide (v < 0) = false := decide_eq_false (by omega)
  by_cases q5 : v ≤ 8
  rotate_left
  · have bq5 : decide (8 < v) = true := decide_eq_true (by omega)
    rw [show decide (ExtraP 5 b g u v f) = false from decide_eq_false (by unfold ExtraP; omega)]
    clear q1 q2 g0 q4 q5
    go_enter Try.func64, Try.ntmps64
    go_wp2_with (fail)
    repeat (go_quiet (((go_at_call 26; first | exact q_d1 (wsz_calls _ _) | exact q_d2 (wsz_calls _ _)))); go_wp2_with (fail))
    go_ret
    exact ⟨rfl, by repeat (first | exact Below.refl _ _ | apply pw_below_drewN | apply below_alloc)⟩
  have bq5 : decide (8 < v) = false := decide_eq_false (by omega)
  by_cases v0 : 0 < v
  · have bv : decide (0 < v) = true := decide_eq_true v0
    rw [show decide (ExtraP 5 b g u v f) = false from decide_eq_false (by unfold ExtraP; omega)]
    clear q1 q2 g0 q4 q5 v0
    go_enter Try.func64, Try.ntmps64
    go_wp2_with (fail)
    repeat (go_quiet (((go_at_call 26; first | exact q_d1 (wsz_calls _ _) | exact q_d2 (wsz_calls _ _)))); go_wp2_with (fail))
    go_ret
    exact ⟨rfl, by repeat (first | exact Below.refl _ _ | apply pw_below_drewN | apply below_alloc)⟩
  have bv : decide (0 < v) = false := decide_eq_false v0
  by_cases q6 : 0 ≤ u
  rotate_left
  · have bq6 : decide (u < 0) = true := decide_eq_true (by omega)
    rw [show decide (ExtraP 5 b g u v f) = false from decide_eq_false (by unfold ExtraP; omega)]
    clear q1 q2 g0 q4 q5 v0 q6
    go_enter Try.func64, Try.ntmps64
    go_wp2_with (fail)
    repeat (go_quiet (((go_at_call 26; first | exact q_d1 (wsz_calls _ _) | exact q_d2 (wsz_calls _ _)))); go_wp2_with (fail))
    go_ret
    exact ⟨rfl, by repeat (first | exact Below.refl _ _ | apply pw_below_drewN | apply below_alloc)⟩
  have bq6 : decide (u < 0) = false := decide_eq_false (by omega)
  by_cases q7 : u < wsz v
  rotate_left
  · have bq7 : decide (wsz v ≤ u) = true := decide_eq_true (by omega)
    rw [show decide (ExtraP 5 b g u v f) = false from decide_eq_false (by unfold ExtraP; omega)]
    clear q1 q2 g0 q4 q5 v0 q6 q7
    go_enter Try.func64, Try.ntmps64
    go_wp2_with (fail)
    repeat (go_quiet (((go_at_call 26; first | exact q_d1 (wsz_calls _ _) | exact q_d2 (wsz_calls _ _)))); go_wp2_with (fail))
    go_ret
    exact ⟨rfl, by repeat (first | exact Below.refl _ _ | apply pw_below_drewN | apply below_alloc)⟩
  have bq7 : decide (wsz v ≤ u) = false := decide_eq_false (by omega)
  by_cases f0 : f = 0
  · have bf : (f == 0) = true := beq_iff_eq.2 f0
    rw [show decide (ExtraP 5 b g u v f) = true from decide_eq_true (by unfold ExtraP; omega)]
    clear q1 q2 g0 q4 q5 v0 q6 q7 f0
    go_enter Try.func64, Try.ntmps64
    go_wp2_with (fail)
    repeat (go_quiet (((go_at_call 26; first | exact q_d1 (wsz_calls _ _) | exact q_d2 (wsz_calls _ _)))); go_wp2_with (fail))
    go_ret
    exact ⟨rfl, by repeat (first | exact Below.refl _ _ | apply pw_below_drewN | apply below_alloc)⟩
  have bf : (f == 0) = false := beq_eq_false_iff_ne.2 f0
  rw [show decide (ExtraP 5 b g u v f) = false from decide_eq_false (by unfold ExtraP; omega)]
  clear q1 q2 g0 q4 q5 v0 q6 q7 f0
  go_enter Try.func64, Try.ntmps64
  go_wp2_with (fail)
  repeat (go_quiet (((go_at_call 26; first | exact q_d1 (wsz_calls _ _) | exact q_d2 (wsz_calls _ _)))); go_wp2_with (fail))
  go_ret
  exact ⟨rfl, by repeat (first | exact Below.refl _ _ | apply pw_below_drewN | apply below_alloc)⟩
set_option maxHeartbeats 40000000 in
set_option maxRecDepth 100000 in
theorem extra_other (k a b r g u v f : Int) (o : Bool) (w : World) (hK : ¬ k = 4 ∧ ¬ k = 5) : Calls Try.prog 64 #[.agg #[.int .i64 k, .int .i64 a, .int .i64 b, .int .i64 r, .int .i64 g, .int .i64 u, .int .i64 v, .int .i64 f, .bool o]] w fun e w' => e = .returned (.bool (decide (ExtraP k b g u v f))) ∧ Below w.heap.size w w' := by
  have b4 : (k == 4) = false := beq_eq_false_iff_ne.2 hK.1
  have b5 : (k == 5) = false := beq_eq_false_iff_ne.2 hK.2
  by_cases q1 : 0 ≤ g
  rotate_left
  · have bq1 : decide (g < 0) = true := decide_eq_true (by omega)
    rw [show decide (ExtraP k b g u v f) = false from decide_eq_false (by unfold ExtraP; omega)]
    clear hK q1
    go_enter Try.func64, Try.ntmps64
    go_wp2_with (fail)
    repeat (go_quiet (((go_at_call 26; first | exact q_d1 (wsz_calls _ _) | exact q_d2 (wsz_calls _ _)))); go_wp2_with (fail))
    go_ret
    exact ⟨rfl, by repeat (first | exact Below.refl _ _ | apply pw_below_drewN | apply below_alloc)⟩
  have bq1 : decide (g < 0) = false := decide_eq_false (by omega)
  by_cases q2 : g ≤ 65535
  rotate_left
  · have bq2 : decide (65535 < g) = true := decide_eq_true (by omega)
    rw [show decide (ExtraP k b g u v f) = false from decide_eq_false (by unfold ExtraP; omega)]
    clear hK q1 q2
    go_enter Try.func64, Try.ntmps64
    go_wp2_with (fail)
    repeat (go_quiet (((go_at_call 26; first | exact q_d1 (wsz_calls _ _) | exact q_d2 (wsz_calls _ _)))); go_wp2_with (fail))
    go_ret
    exact ⟨rfl, by repeat (first | exact Below.refl _ _ | apply pw_below_drewN | apply below_alloc)⟩
  have bq2 : decide (65535 < g) = false := decide_eq_false (by omega)
  by_cases g0 : 0 < g
  · have bg : decide (0 < g) = true := decide_eq_true g0
    rw [show decide (ExtraP k b g u v f) = false from decide_eq_false (by unfold ExtraP; omega)]
    clear hK q1 q2 g0
    go_enter Try.func64, Try.ntmps64
    go_wp2_with (fail)
    repeat (go_quiet (((go_at_call 26; first | exact q_d1 (wsz_calls _ _) | exact q_d2 (wsz_calls _ _)))); go_wp2_with (fail))
    go_ret
    exact ⟨rfl, by repeat (first | exact Below.refl _ _ | apply pw_below_drewN | apply below_alloc)⟩
  have bg : decide (0 < g) = false := decide_eq_false g0
  by_cases q4 : 0 ≤ v
  rotate_left
  · have bq4 : decide (v < 0) = true := decide_eq_true (by omega)
    rw [show decide (ExtraP k b g u v f) = false from decide_eq_false (by unfold ExtraP; omega)]
    clear hK q1 q2 g0 q4
    go_enter Try.func64, Try.ntmps64
    go_wp2_with (fail)
    repeat (go_quiet (((go_at_call 26; first | exact q_d1 (wsz_calls _ _) | exact q_d2 (wsz_calls _ _)))); go_wp2_with (fail))
    go_ret
    exact ⟨rfl, by repeat (first | exact Below.refl _ _ | apply pw_below_drewN | apply below_alloc)⟩
  have bq4 : decide (v < 0) = false := decide_eq_false (by omega)
  by_cases q5 : v ≤ 8
  rotate_left
  · have bq5 : decide (8 < v) = true := decide_eq_true (by omega)
    rw [show decide (ExtraP k b g u v f) = false from decide_eq_false (by unfold ExtraP; omega)]
    clear hK q1 q2 g0 q4 q5
    go_enter Try.func64, Try.ntmps64
    go_wp2_with (fail)
    repeat (go_quiet (((go_at_call 26; first | exact q_d1 (wsz_calls _ _) | exact q_d2 (wsz_calls _ _)))); go_wp2_with (fail))
    go_ret
    exact ⟨rfl, by repeat (first | exact Below.refl _ _ | apply pw_below_drewN | apply below_alloc)⟩
  have bq5 : decide (8 < v) = false := decide_eq_false (by omega)
  by_cases v0 : 0 < v
  · have bv : decide (0 < v) = true := decide_eq_true v0
    by_cases k2 : k = 2
    rotate_left
    · have bk2 : (k != 2) = true := bne_iff_ne.2 k2
      rw [show decide (ExtraP k b g u v f) = false from decide_eq_false (by unfold ExtraP; omega)]
      clear hK q1 q2 g0 q4 q5 v0 k2
      go_enter Try.func64, Try.ntmps64
      go_wp2_with (fail)
      repeat (go_quiet (((go_at_call 26; first | exact q_d1 (wsz_calls _ _) | exact q_d2 (wsz_calls _ _)))); go_wp2_with (fail))
      go_ret
      exact ⟨rfl, by repeat (first | exact Below.refl _ _ | apply pw_below_drewN | apply below_alloc)⟩
    have bk2 : (k != 2) = false := bne_eq_false_iff_eq.2 k2
    by_cases q6 : 0 ≤ u
    rotate_left
    · have bq6 : decide (u < 0) = true := decide_eq_true (by omega)
      rw [show decide (ExtraP k b g u v f) = false from decide_eq_false (by unfold ExtraP; omega)]
      clear hK q1 q2 g0 q4 q5 v0 k2 q6
      go_enter Try.func64, Try.ntmps64
      go_wp2_with (fail)
      repeat (go_quiet (((go_at_call 26; first | exact q_d1 (wsz_calls _ _) | exact q_d2 (wsz_calls _ _)))); go_wp2_with (fail))
      go_ret
      exact ⟨rfl, by repeat (first | exact Below.refl _ _ | apply pw_below_drewN | apply below_alloc)⟩
    have bq6 : decide (u < 0) = false := decide_eq_false (by omega)
    by_cases q7 : u < wsz v
    rotate_left
    · have bq7 : decide (wsz v ≤ u) = true := decide_eq_true (by omega)
      rw [show decide (ExtraP k b g u v f) = false from decide_eq_false (by unfold ExtraP; omega)]
      clear hK q1 q2 g0 q4 q5 v0 k2 q6 q7
      go_enter Try.func64, Try.ntmps64
      go_wp2_with (fail)
      repeat (go_quiet (((go_at_call 26; first | exact q_d1 (wsz_calls _ _) | exact q_d2 (wsz_calls _ _)))); go_wp2_with (fail))
      go_ret
      exact ⟨rfl, by repeat (first | exact Below.refl _ _ | apply pw_below_drewN | apply below_alloc)⟩
    have bq7 : decide (wsz v ≤ u) = false := decide_eq_false (by omega)
    by_cases f0 : f = 0
    · have bf : (f == 0) = true := beq_iff_eq.2 f0
      rw [show decide (ExtraP k b g u v f) = true from decide_eq_true (by unfold ExtraP; omega)]
      clear hK q1 q2 g0 q4 q5 v0 k2 q6 q7 f0
      go_enter Try.func64, Try.ntmps64
      go_wp2_with (fail)
      repeat (go_quiet (((go_at_call 26; first | exact q_d1 (wsz_calls _ _) | exact q_d2 (wsz_calls _ _)))); go_wp2_with (fail))
      go_ret
      exact ⟨rfl, by repeat (first | exact Below.refl _ _ | apply pw_below_drewN | apply below_alloc)⟩
    have bf : (f == 0) = false := beq_eq_false_iff_ne.2 f0
    by_cases k1 : k = 1
    rotate_left
    · have bk1 : (k == 1) = false := beq_eq_false_iff_ne.2 k1
      rw [show decide (ExtraP k b g u v f) = false from decide_eq_false (by unfold ExtraP; omega)]
      clear hK q1 q2 g0 q4 q5 v0 k2 q6 q7 f0 k1
      go_enter Try.func64, Try.ntmps64
      go_wp2_with (fail)
      repeat (go_quiet (((go_at_call 26; first | exact q_d1 (wsz_calls _ _) | exact q_d2 (wsz_calls _ _)))); go_wp2_with (fail))
      go_ret
      exact ⟨rfl, by repeat (first | exact Below.refl _ _ | apply pw_below_drewN | apply below_alloc)⟩
    have bk1 : (k == 1) = true := beq_iff_eq.2 k1
    by_cases q8 : 0 < f
    rotate_left
    · have bq8 : decide (0 < f) = false := decide_eq_false q8
      rw [show decide (ExtraP k b g u v f) = false from decide_eq_false (by unfold ExtraP; omega)]
      clear hK q1 q2 g0 q4 q5 v0 k2 q6 q7 f0 k1 q8
      go_enter Try.func64, Try.ntmps64
      go_wp2_with (fail)
      repeat (go_quiet (((go_at_call 26; first | exact q_d1 (wsz_calls _ _) | exact q_d2 (wsz_calls _ _)))); go_wp2_with (fail))
      go_ret
      exact ⟨rfl, by repeat (first | exact Below.refl _ _ | apply pw_below_drewN | apply below_alloc)⟩
    have bq8 : decide (0 < f) = true := decide_eq_true q8
    by_cases q9 : f ≤ wsz b
    · have bq9 : decide (f ≤ wsz b) = true := decide_eq_true q9
      rw [show decide (ExtraP k b g u v f) = true from decide_eq_true (by unfold ExtraP; omega)]
      clear hK q1 q2 g0 q4 q5 v0 k2 q6 q7 f0 k1 q8 q9
      go_enter Try.func64, Try.ntmps64
      go_wp2_with (fail)
      repeat (go_quiet (((go_at_call 26; first | exact q_d1 (wsz_calls _ _) | exact q_d2 (wsz_calls _ _)))); go_wp2_with (fail))
      go_ret
      exact ⟨rfl, by repeat (first | exact Below.refl _ _ | apply pw_below_drewN | apply below_alloc)⟩
    · have bq9 : decide (f ≤ wsz b) = false := decide_eq_false q9
      rw [show decide (ExtraP k b g u v f) = false from decide_eq_false (by unfold ExtraP; omega)]
      clear hK q1 q2 g0 q4 q5 v0 k2 q6 q7 f0 k1 q8 q9
      go_enter Try.func64, Try.ntmps64
      go_wp2_with (fail)
      repeat (go_quiet (((go_at_call 26; first | exact q_d1 (wsz_calls _ _) | exact q_d2 (wsz_calls _ _)))); go_wp2_with (fail))
      go_ret
      exact ⟨rfl, by repeat (first | exact Below.refl _ _ | apply pw_below_drewN | apply below_alloc)⟩
  have bv : decide (0 < v) = false := decide_eq_false v0
  by_cases q6 : 0 ≤ u
  rotate_left
  · have bq6 : decide (u < 0) = true := decide_eq_true (by omega)
    rw [show decide (ExtraP k b g u v f) = false from decide_eq_false (by unfold ExtraP; omega)]
    clear hK q1 q2 g0 q4 q5 v0 q6
    go_enter Try.func64, Try.ntmps64
    go_wp2_with (fail)
    repeat (go_quiet (((go_at_call 26; first | exact q_d1 (wsz_calls _ _) | exact q_d2 (wsz_calls _ _)))); go_wp2_with (fail))
    go_ret
    exact ⟨rfl, by repeat (first | exact Below.refl _ _ | apply pw_below_drewN | apply below_alloc)⟩
  have bq6 : decide (u < 0) = false := decide_eq_false (by omega)
  by_cases q7 : u < wsz v
  rotate_left
  · have bq7 : decide (wsz v ≤ u) = true := decide_eq_true (by omega)
    rw [show decide (ExtraP k b g u v f) = false from decide_eq_false (by unfold ExtraP; omega)]
    clear hK q1 q2 g0 q4 q5 v0 q6 q7
    go_enter Try.func64, Try.ntmps64
    go_wp2_with (fail)
    repeat (go_quiet (((go_at_call 26; first | exact q_d1 (wsz_calls _ _) | exact q_d2 (wsz_calls _ _)))); go_wp2_with (fail))
    go_ret
    exact ⟨rfl, by repeat (first | exact Below.refl _ _ | apply pw_below_drewN | apply below_alloc)⟩
  have bq7 : decide (wsz v ≤ u) = false := decide_eq_false (by omega)
  by_cases f0 : f = 0
  · have bf : (f == 0) = true := beq_iff_eq.2 f0
    rw [show decide (ExtraP k b g u v f) = true from decide_eq_true (by unfold ExtraP; omega)]
    clear hK q1 q2 g0 q4 q5 v0 q6 q7 f0
    go_enter Try.func64, Try.ntmps64
    go_wp2_with (fail)
    repeat (go_quiet (((go_at_call 26; first | exact q_d1 (wsz_calls _ _) | exact q_d2 (wsz_calls _ _)))); go_wp2_with (fail))
    go_ret
    exact ⟨rfl, by repeat (first | exact Below.refl _ _ | apply pw_below_drewN | apply below_alloc)⟩
  have bf : (f == 0) = false := beq_eq_false_iff_ne.2 f0
  by_cases k1 : k = 1
  rotate_left
  · have bk1 : (k == 1) = false := beq_eq_false_iff_ne.2 k1
    rw [show decide (ExtraP k b g u v f) = false from decide_eq_false (by unfold ExtraP; omega)]
    clear hK q1 q2 g0 q4 q5 v0 q6 q7 f0 k1
    go_enter Try.func64, Try.ntmps64
    go_wp2_with (fail)
    repeat (go_quiet (((go_at_call 26; first | exact q_d1 (wsz_calls _ _) | exact q_d2 (wsz_calls _ _)))); go_wp2_with (fail))
    go_ret
    exact ⟨rfl, by repeat (first | exact Below.refl _ _ | apply pw_below_drewN | apply below_alloc)⟩
  have bk1 : (k == 1) = true := beq_iff_eq.2 k1
  by_cases q8 : 0 < f
  rotate_left
  · have bq8 : decide (0 < f) = false := decide_eq_false q8
    rw [show decide (ExtraP k b g u v f) = false from decide_eq_false (by unfold ExtraP; omega)]
    clear hK q1 q2 g0 q4 q5 v0 q6 q7 f0 k1 q8
    go_enter Try.func64, Try.ntmps64
    go_wp2_with (fail)
    repeat (go_quiet (((go_at_call 26; first | exact q_d1 (wsz_calls _ _) | exact q_d2 (wsz_calls _ _)))); go_wp2_with (fail))
    go_ret
    exact ⟨rfl, by repeat (first | exact Below.refl _ _ | apply pw_below_drewN | apply below_alloc)⟩
  have bq8 : decide (0 < f) = true := decide_eq_true q8
  by_cases q9 : f ≤ wsz b
  · have bq9 : decide (f ≤ wsz b) = true := decide_eq_true q9
    rw [show decide (ExtraP k b g u v f) = true from decide_eq_true (by unfold ExtraP; omega)]
    clear hK q1 q2 g0 q4 q5 v0 q6 q7 f0 k1 q8 q9
    go_enter Try.func64, Try.ntmps64
    go_wp2_with (fail)
    repeat (go_quiet (((go_at_call 26; first | exact q_d1 (wsz_calls _ _) | exact q_d2 (wsz_calls _ _)))); go_wp2_with (fail))
    go_ret
    exact ⟨rfl, by repeat (first | exact Below.refl _ _ | apply pw_below_drewN | apply below_alloc)⟩
  · have bq9 : decide (f ≤ wsz b) = false := decide_eq_false q9
    rw [show decide (ExtraP k b g u v f) = false from decide_eq_false (by unfold ExtraP; omega)]
    clear hK q1 q2 g0 q4 q5 v0 q6 q7 f0 k1 q8 q9
    go_enter Try.func64, Try.ntmps64
    go_wp2_with (fail)
    repeat (go_quiet (((go_at_call 26; first | exact q_d1 (wsz_calls _ _) | exact q_d2 (wsz_calls _ _)))); go_wp2_with (fail))
    go_ret
    exact ⟨rfl, by repeat (first | exact Below.refl _ _ | apply pw_below_drewN | apply below_alloc)⟩
theorem extra_calls (k a b r g u v f : Int) (o : Bool) (w : World) : Calls Try.prog 64 #[.agg #[.int .i64 k, .int .i64 a, .int .i64 b, .int .i64 r, .int .i64 g, .int .i64 u, .int .i64 v, .int .i64 f, .bool o]] w fun e w' => e = .returned (.bool (decide (ExtraP k b g u v f))) ∧ Below w.heap.size w w' := by
  by_cases h4 : k = 4
  · subst h4; exact extra_4 a b r g u v f o w
  by_cases h5 : k = 5
  · subst h5; exact extra_5 a b r g u v f o w
  · exact extra_other k a b r g u v f o w ⟨h4, h5⟩
theorem bits_calls (a b : Int) (q : Bool) (h : bitsB a b = q) (w : World) : Calls Try.prog 58 #[.int .i64 a, .int .i64 b] w fun e w' => e = .returned (.bool q) ∧ Below w.heap.size w w' := (spec_l2Bits.calls a b _ w (by rw [← h]; exact spec_bits a b)).mono fun _ _ ⟨h, d⟩ => ⟨h, d.below⟩
theorem smax_calls (k : Int) (w : World) : Calls Try.prog 32 #[.int .i64 k] w fun e w' => e = .returned (.int .i64 (mxr k)) ∧ Below w.heap.size w w' := (spec_CapMax.calls k _ w (smax_eq k)).mono fun _ _ ⟨h, d⟩ => ⟨h, d.below⟩
theorem rights_calls (r m : Int) (q : Bool) (h : spec_l2Rights.f r m = some q) (w : World) : Calls Try.prog 63 #[.int .i64 r, .int .i64 m] w fun e w' => e = .returned (.bool q) ∧ Below w.heap.size w w' := (spec_l2Rights.calls r m q w h).mono fun _ _ ⟨h, d⟩ => ⟨h, d.below⟩
theorem csize_calls (k b s : Int) (h : capSz k b = s) (w : World) : Calls Try.prog 34 #[.int .i64 k, .int .i64 b] w fun e w' => e = .returned (.int .i64 s) ∧ Drawn0 w w' :=
  spec_CapSize.calls 21 k b s w (by rw [← h]; exact spec_size 0 k b)
theorem al_calls (a s : Int) (w : World) : Calls Try.prog 20 #[.int .i64 a, .int .i64 s] w fun e w' => e = .returned (.bool (alB a s)) ∧ Drawn0 w w' := spec_WordAligned.calls a s _ w (sal_eq a s)
/-- The box of a capability, at the head of what the call has made. -/
def B9 (w : World) (k a b r g u v f : Int) (o : Bool) (W : World) : Prop := Below w.heap.size w W ∧ W.heap[w.heap.size]? = some (.cells #[.int .i64 k, .int .i64 a, .int .i64 b, .int .i64 r, .int .i64 g, .int .i64 u, .int .i64 v, .int .i64 f, .bool o] 37 (0, 0))
theorem B9.start (w : World) (k a b r g u v f : Int) (o : Bool) : B9 w k a b r g u v f o (w.alloc (.cells #[.int .i64 k, .int .i64 a, .int .i64 b, .int .i64 r, .int .i64 g, .int .i64 u, .int .i64 v, .int .i64 f, .bool o] 37)) :=
  ⟨below_alloc (Below.refl _ _) _, heap_alloc_new w _⟩
theorem B9.drew {w W : World} {k a b r g u v f : Int} {o : Bool} (h : B9 w k a b r g u v f o W) : B9 w k a b r g u v f o W.drew := ⟨below_drew h.1, h.2⟩
theorem B9.grow {w W W' : World} {k a b r g u v f : Int} {o : Bool} (h : B9 w k a b r g u v f o W) (hb : Below W.heap.size W W') : B9 w k a b r g u v f o W' :=
  ⟨below_step h.1 hb, (hb.block _ (blk_lt h.2)).trans h.2⟩
theorem B9.cells {w W : World} {k a b r g u v f : Int} {o : Bool} (h : B9 w k a b r g u v f o W) :
    W.cell? ⟨w.heap.size, 0, none⟩ = some (.int .i64 k) ∧ W.cell? ⟨w.heap.size, 1, none⟩ = some (.int .i64 a) ∧ W.cell? ⟨w.heap.size, 2, none⟩ = some (.int .i64 b) ∧ W.cell? ⟨w.heap.size, 3, none⟩ = some (.int .i64 r) ∧ W.cell? ⟨w.heap.size, 4, none⟩ = some (.int .i64 g) ∧ W.cell? ⟨w.heap.size, 5, none⟩ = some (.int .i64 u) ∧ W.cell? ⟨w.heap.size, 6, none⟩ = some (.int .i64 v) ∧ W.cell? ⟨w.heap.size, 7, none⟩ = some (.int .i64 f) ∧ W.cell? ⟨w.heap.size, 8, none⟩ = some (.bool o) :=
  ⟨(blk_cell h.2 0).trans rfl, (blk_cell h.2 1).trans rfl, (blk_cell h.2 2).trans rfl, (blk_cell h.2 3).trans rfl, (blk_cell h.2 4).trans rfl, (blk_cell h.2 5).trans rfl, (blk_cell h.2 6).trans rfl, (blk_cell h.2 7).trans rfl, (blk_cell h.2 8).trans rfl⟩
theorem B9.all (w : World) (k a b r g u v f : Int) (o : Bool) :
    (∀ x : Sub (B9 w k a b r g u v f o), x.W.cell? ⟨w.heap.size, 0, none⟩ = some (.int .i64 k)) ∧ (∀ x : Sub (B9 w k a b r g u v f o), x.W.cell? ⟨w.heap.size, 1, none⟩ = some (.int .i64 a)) ∧ (∀ x : Sub (B9 w k a b r g u v f o), x.W.cell? ⟨w.heap.size, 2, none⟩ = some (.int .i64 b)) ∧ (∀ x : Sub (B9 w k a b r g u v f o), x.W.cell? ⟨w.heap.size, 3, none⟩ = some (.int .i64 r)) ∧ (∀ x : Sub (B9 w k a b r g u v f o), x.W.cell? ⟨w.heap.size, 4, none⟩ = some (.int .i64 g)) ∧ (∀ x : Sub (B9 w k a b r g u v f o), x.W.cell? ⟨w.heap.size, 5, none⟩ = some (.int .i64 u)) ∧ (∀ x : Sub (B9 w k a b r g u v f o), x.W.cell? ⟨w.heap.size, 6, none⟩ = some (.int .i64 v)) ∧ (∀ x : Sub (B9 w k a b r g u v f o), x.W.cell? ⟨w.heap.size, 7, none⟩ = some (.int .i64 f)) ∧ (∀ x : Sub (B9 w k a b r g u v f o), x.W.cell? ⟨w.heap.size, 8, none⟩ = some (.bool o)) :=
  ⟨fun x => x.h.cells.1, fun x => x.h.cells.2.1, fun x => x.h.cells.2.2.1, fun x => x.h.cells.2.2.2.1, fun x => x.h.cells.2.2.2.2.1, fun x => x.h.cells.2.2.2.2.2.1, fun x => x.h.cells.2.2.2.2.2.2.1, fun x => x.h.cells.2.2.2.2.2.2.2.1, fun x => x.h.cells.2.2.2.2.2.2.2.2⟩
set_option maxHeartbeats 40000000 in
set_option maxRecDepth 100000 in
theorem capOk_no (k a b r g u v f : Int) (o : Bool) (w : World) (h : ¬ (bitsB k b = true ∧ 0 ≤ r ∧ r ≤ 7 ∧ r ≤ mxr k ∧ ExtraP k b g u v f)) : Calls Try.prog 37 #[.agg #[.int .i64 k, .int .i64 a, .int .i64 b, .int .i64 r, .int .i64 g, .int .i64 u, .int .i64 v, .int .i64 f, .bool o]] w fun e w' => e = .returned (.bool (decide (CapOkP k a b r g u v f o))) ∧ Below w.heap.size w w' := by
  rw [show decide (CapOkP k a b r g u v f o) = false from decide_eq_false (fun hc => h ?_)]
  rotate_left
  · unfold CapOkP at hc
    have hb := (szr_bits k b).1.1 hc.1
    have h1 := (szr_bits k b).2
    have hm : mxr k ≤ 7 := by unfold mxr; split <;> (try split) <;> omega
    have hv : wsz v = shl .i64 1 v := by unfold wsz; rw [if_pos (by omega)]
    refine ⟨hb, by omega, by omega, by omega, ?_⟩
    unfold ExtraP
    by_cases k1 : k = 1
    · have h2 := h1 k1 hb; omega
    · omega
  by_cases q1 : bitsB k b = true
  rotate_left
  · have HQ := Aside0.mk (show bitsB k b = false by simpa using q1)
    clear q1 h
    go_enter Try.func37, Try.ntmps37
    go_wp2_with (fail)
    obtain ⟨f0, f1, f2, f3, f4, f5, f6, f7, f8⟩ := B9.all w k a b r g u v f o
    have hne : Nonempty (Sub (B9 w k a b r g u v f o)) := ⟨⟨_, B9.start w k a b r g u v f o⟩⟩
    refine wp_region_grow (B9 w k a b r g u v f o) (by kernel_rfl) (by kernel_rfl) (B9.start w k a b r g u v f o).drew ?_
    repeat (first | go_big_quiet_skip | (go_big_quiet_want; go_big_quiet_op; first | go_big_quiet_on | (apply Exists.intro; refine ⟨fun x => ?_, ?_⟩; (first | (go_at_call 58; exact sub_calls (bits_calls _ _ _ HQ.out _) (fun _ hb => x.h.grow hb)) | (go_at_call 32; exact sub_calls (smax_calls _ _) (fun _ hb => x.h.grow hb)) | (go_at_call 63; exact sub_calls (rights_calls _ _ _ HR.out _) (fun _ hb => x.h.grow hb)) | (go_at_call 64; exact sub_calls (HX.out ▸ extra_calls k a b r g u v f o _) (fun _ hb => x.h.grow hb))); go_big_quiet_on)))
    refine wpQuiet_nil ?_
    intro _ hw'
    obtain ⟨⟨W1, hI⟩, hw''⟩ := hw'
    subst hw''
    clear f0 f1 f2 f3 f4 f5 f6 f7 f8 hne
    obtain ⟨c0, c1, c2, c3, c4, c5, c6, c7, c8⟩ := hI.cells
    have HI := Aside0.mk hI
    clear hI
    go_wp2_with (fail)
    go_ret
    exact ⟨rfl, HI.out.1⟩
  have HQ := Aside0.mk q1
  by_cases q2 : 0 ≤ r
  rotate_left
  · have b2 : decide (r < 0) = true := decide_eq_true (by omega)
    clear q1 q2 h
    go_enter Try.func37, Try.ntmps37
    go_wp2_with (fail)
    obtain ⟨f0, f1, f2, f3, f4, f5, f6, f7, f8⟩ := B9.all w k a b r g u v f o
    have hne : Nonempty (Sub (B9 w k a b r g u v f o)) := ⟨⟨_, B9.start w k a b r g u v f o⟩⟩
    refine wp_region_grow (B9 w k a b r g u v f o) (by kernel_rfl) (by kernel_rfl) (B9.start w k a b r g u v f o).drew ?_
    repeat (first | go_big_quiet_skip | (go_big_quiet_want; go_big_quiet_op; first | go_big_quiet_on | (apply Exists.intro; refine ⟨fun x => ?_, ?_⟩; (first | (go_at_call 58; exact sub_calls (bits_calls _ _ _ HQ.out _) (fun _ hb => x.h.grow hb)) | (go_at_call 32; exact sub_calls (smax_calls _ _) (fun _ hb => x.h.grow hb)) | (go_at_call 63; exact sub_calls (rights_calls _ _ _ HR.out _) (fun _ hb => x.h.grow hb)) | (go_at_call 64; exact sub_calls (HX.out ▸ extra_calls k a b r g u v f o _) (fun _ hb => x.h.grow hb))); go_big_quiet_on)))
    refine wpQuiet_nil ?_
    intro _ hw'
    obtain ⟨⟨W1, hI⟩, hw''⟩ := hw'
    subst hw''
    clear f0 f1 f2 f3 f4 f5 f6 f7 f8 hne
    obtain ⟨c0, c1, c2, c3, c4, c5, c6, c7, c8⟩ := hI.cells
    have HI := Aside0.mk hI
    clear hI
    go_wp2_with (fail)
    go_ret
    exact ⟨rfl, HI.out.1⟩
  have b2 : decide (r < 0) = false := decide_eq_false (by omega)
  by_cases q3 : r ≤ 7
  rotate_left
  · have b3 : decide (7 < r) = true := decide_eq_true (by omega)
    clear q1 q2 q3 h
    go_enter Try.func37, Try.ntmps37
    go_wp2_with (fail)
    obtain ⟨f0, f1, f2, f3, f4, f5, f6, f7, f8⟩ := B9.all w k a b r g u v f o
    have hne : Nonempty (Sub (B9 w k a b r g u v f o)) := ⟨⟨_, B9.start w k a b r g u v f o⟩⟩
    refine wp_region_grow (B9 w k a b r g u v f o) (by kernel_rfl) (by kernel_rfl) (B9.start w k a b r g u v f o).drew ?_
    repeat (first | go_big_quiet_skip | (go_big_quiet_want; go_big_quiet_op; first | go_big_quiet_on | (apply Exists.intro; refine ⟨fun x => ?_, ?_⟩; (first | (go_at_call 58; exact sub_calls (bits_calls _ _ _ HQ.out _) (fun _ hb => x.h.grow hb)) | (go_at_call 32; exact sub_calls (smax_calls _ _) (fun _ hb => x.h.grow hb)) | (go_at_call 63; exact sub_calls (rights_calls _ _ _ HR.out _) (fun _ hb => x.h.grow hb)) | (go_at_call 64; exact sub_calls (HX.out ▸ extra_calls k a b r g u v f o _) (fun _ hb => x.h.grow hb))); go_big_quiet_on)))
    refine wpQuiet_nil ?_
    intro _ hw'
    obtain ⟨⟨W1, hI⟩, hw''⟩ := hw'
    subst hw''
    clear f0 f1 f2 f3 f4 f5 f6 f7 f8 hne
    obtain ⟨c0, c1, c2, c3, c4, c5, c6, c7, c8⟩ := hI.cells
    have HI := Aside0.mk hI
    clear hI
    go_wp2_with (fail)
    go_ret
    exact ⟨rfl, HI.out.1⟩
  have b3 : decide (7 < r) = false := decide_eq_false (by omega)
  by_cases q4 : r ≤ mxr k
  rotate_left
  · have HR := Aside0.mk (show spec_l2Rights.f r (mxr k) = some false by rw [rights_eq k r ⟨q2, q3⟩, decide_eq_false q4])
    clear q1 q2 q3 q4 h
    go_enter Try.func37, Try.ntmps37
    go_wp2_with (fail)
    obtain ⟨f0, f1, f2, f3, f4, f5, f6, f7, f8⟩ := B9.all w k a b r g u v f o
    have hne : Nonempty (Sub (B9 w k a b r g u v f o)) := ⟨⟨_, B9.start w k a b r g u v f o⟩⟩
    refine wp_region_grow (B9 w k a b r g u v f o) (by kernel_rfl) (by kernel_rfl) (B9.start w k a b r g u v f o).drew ?_
    repeat (first | go_big_quiet_skip | (go_big_quiet_want; go_big_quiet_op; first | go_big_quiet_on | (apply Exists.intro; refine ⟨fun x => ?_, ?_⟩; (first | (go_at_call 58; exact sub_calls (bits_calls _ _ _ HQ.out _) (fun _ hb => x.h.grow hb)) | (go_at_call 32; exact sub_calls (smax_calls _ _) (fun _ hb => x.h.grow hb)) | (go_at_call 63; exact sub_calls (rights_calls _ _ _ HR.out _) (fun _ hb => x.h.grow hb)) | (go_at_call 64; exact sub_calls (HX.out ▸ extra_calls k a b r g u v f o _) (fun _ hb => x.h.grow hb))); go_big_quiet_on)))
    refine wpQuiet_nil ?_
    intro _ hw'
    obtain ⟨⟨W1, hI⟩, hw''⟩ := hw'
    subst hw''
    clear f0 f1 f2 f3 f4 f5 f6 f7 f8 hne
    obtain ⟨c0, c1, c2, c3, c4, c5, c6, c7, c8⟩ := hI.cells
    have HI := Aside0.mk hI
    clear hI
    go_wp2_with (fail)
    go_ret
    exact ⟨rfl, HI.out.1⟩
  have HR := Aside0.mk (show spec_l2Rights.f r (mxr k) = some true by rw [rights_eq k r ⟨q2, q3⟩, decide_eq_true q4])
  have HX := Aside0.mk (show decide (ExtraP k b g u v f) = false from decide_eq_false (fun q5 => h ⟨q1, q2, q3, q4, q5⟩))
  clear q1 q2 q3 q4 h
  go_enter Try.func37, Try.ntmps37
  go_wp2_with (fail)
  obtain ⟨f0, f1, f2, f3, f4, f5, f6, f7, f8⟩ := B9.all w k a b r g u v f o
  have hne : Nonempty (Sub (B9 w k a b r g u v f o)) := ⟨⟨_, B9.start w k a b r g u v f o⟩⟩
  refine wp_region_grow (B9 w k a b r g u v f o) (by kernel_rfl) (by kernel_rfl) (B9.start w k a b r g u v f o).drew ?_
  repeat (first | go_big_quiet_skip | (go_big_quiet_want; go_big_quiet_op; first | go_big_quiet_on | (apply Exists.intro; refine ⟨fun x => ?_, ?_⟩; (first | (go_at_call 58; exact sub_calls (bits_calls _ _ _ HQ.out _) (fun _ hb => x.h.grow hb)) | (go_at_call 32; exact sub_calls (smax_calls _ _) (fun _ hb => x.h.grow hb)) | (go_at_call 63; exact sub_calls (rights_calls _ _ _ HR.out _) (fun _ hb => x.h.grow hb)) | (go_at_call 64; exact sub_calls (HX.out ▸ extra_calls k a b r g u v f o _) (fun _ hb => x.h.grow hb))); go_big_quiet_on)))
  refine wpQuiet_nil ?_
  intro _ hw'
  obtain ⟨⟨W1, hI⟩, hw''⟩ := hw'
  subst hw''
  clear f0 f1 f2 f3 f4 f5 f6 f7 f8 hne
  obtain ⟨c0, c1, c2, c3, c4, c5, c6, c7, c8⟩ := hI.cells
  have HI := Aside0.mk hI
  clear hI
  go_wp2_with (fail)
  go_ret
  exact ⟨rfl, HI.out.1⟩
set_option maxHeartbeats 40000000 in
set_option maxRecDepth 100000 in
theorem capOk_yes (k a b r g u v f : Int) (o : Bool) (w : World) (q1 : bitsB k b = true) (q2 : 0 ≤ r) (q3 : r ≤ 7) (q4 : r ≤ mxr k) (q5 : ExtraP k b g u v f) (h7 : ¬ k = 7) (s : Int) (hs : capSz k b = s) (s1 : s ≤ 2048) : Calls Try.prog 37 #[.agg #[.int .i64 k, .int .i64 a, .int .i64 b, .int .i64 r, .int .i64 g, .int .i64 u, .int .i64 v, .int .i64 f, .bool o]] w fun e w' => e = .returned (.bool (decide (CapOkP k a b r g u v f o))) ∧ Below w.heap.size w w' := by
  have hz : szr k b = s := by unfold szr; rw [if_neg (fun h => h7 h.1)]; exact hs
  have b77 : (k == 7) = false := beq_eq_false_iff_ne.2 h7
  have b77n : (k != 7) = true := bne_iff_ne.2 h7
  have b2 : decide (r < 0) = false := decide_eq_false (by omega)
  have b3 : decide (7 < r) = false := decide_eq_false (by omega)
  have HR := Aside0.mk (show spec_l2Rights.f r (mxr k) = some true by rw [rights_eq k r ⟨q2, q3⟩, decide_eq_true q4])
  have HX := Aside0.mk (show decide (ExtraP k b g u v f) = true from decide_eq_true q5)
  have Hs := Aside0.mk hs
  have hs0 : 0 < s := by have := (szr_bits k b).1.2 q1; rwa [hz] at this
  have eq0 : CapOkP k a b r g u v f o ↔ (0 ≤ a ∧ a ≤ 4096 ∧ a % s = 0 ∧ a + s ≤ 4096 ∧ (o = true → k ≠ 7) ∧ (o = false → k ≠ 1)) := by
    unfold CapOkP
    rw [hz]
    unfold ExtraP at q5
    have h1 := (szr_bits k b).2
    have hv : wsz v = shl .i64 1 v := by unfold wsz; rw [if_pos (by omega)]
    rw [hv] at q5
    rw [hz] at h1
    have hf : f = 0 ∨ k = 1 ∧ 1 ≤ f ∧ f ≤ s := by
      by_cases k1 : k = 1
      · have h2 := h1 k1 q1; omega
      · omega
    exact ⟨fun h => ⟨by omega, by omega, by omega, by omega, h.2.2.2.2.2.2.2.2.2.2.2.2.2.2.2.1, h.2.2.2.2.2.2.2.2.2.2.2.2.2.2.2.2⟩, fun h => ⟨hs0, q2, q4, h.1, h.2.2.2.1, h.2.2.1, by omega, by omega, by omega, by omega, by omega, by omega, by omega, by omega, hf, h.2.2.2.2.1, h.2.2.2.2.2⟩⟩
  rw [show decide (CapOkP k a b r g u v f o) = decide (0 ≤ a ∧ a ≤ 4096 ∧ a % s = 0 ∧ a + s ≤ 4096 ∧ (o = true → k ≠ 7) ∧ (o = false → k ≠ 1)) from by rw [decide_eq_decide]; exact eq0]
  have HQ := Aside0.mk q1
  clear eq0 hs hz q5 q1 q2 q3 q4
  by_cases q6 : (0 ≤ a ∧ a ≤ 4096 ∧ (1 : Int) ≤ s ∧ (s : Int) ≤ 4096) ∧ a % s = 0
  rotate_left
  · have b6 : alB a s = false := decide_eq_false q6
    rw [show decide (0 ≤ a ∧ a ≤ 4096 ∧ a % s = 0 ∧ a + s ≤ 4096 ∧ (o = true → k ≠ 7) ∧ (o = false → k ≠ 1)) = false from decide_eq_false (by omega)]
    clear h7 q6
    go_enter Try.func37, Try.ntmps37
    go_wp2_with (fail)
    obtain ⟨f0, f1, f2, f3, f4, f5, f6, f7, f8⟩ := B9.all w k a b r g u v f o
    have hne : Nonempty (Sub (B9 w k a b r g u v f o)) := ⟨⟨_, B9.start w k a b r g u v f o⟩⟩
    refine wp_region_grow (B9 w k a b r g u v f o) (by kernel_rfl) (by kernel_rfl) (B9.start w k a b r g u v f o).drew ?_
    repeat (first | go_big_quiet_skip | (go_big_quiet_want; go_big_quiet_op; first | go_big_quiet_on | (apply Exists.intro; refine ⟨fun x => ?_, ?_⟩; (first | (go_at_call 58; exact sub_calls (bits_calls _ _ _ HQ.out _) (fun _ hb => x.h.grow hb)) | (go_at_call 32; exact sub_calls (smax_calls _ _) (fun _ hb => x.h.grow hb)) | (go_at_call 63; exact sub_calls (rights_calls _ _ _ HR.out _) (fun _ hb => x.h.grow hb)) | (go_at_call 64; exact sub_calls (HX.out ▸ extra_calls k a b r g u v f o _) (fun _ hb => x.h.grow hb))); go_big_quiet_on)))
    refine wpQuiet_nil ?_
    intro _ hw'
    obtain ⟨⟨W1, hI⟩, hw''⟩ := hw'
    subst hw''
    clear f0 f1 f2 f3 f4 f5 f6 f7 f8 hne
    obtain ⟨c0, c1, c2, c3, c4, c5, c6, c7, c8⟩ := hI.cells
    have HI := Aside0.mk hI
    clear hI
    go_wp2_with (fail)
    refine (csize_calls _ _ _ Hs.out _).mono ?_
    rintro e W2 ⟨rfl, hd⟩
    have HJ := Aside0.mk (HI.out.grow hd.below)
    clear HI hd c0 c1 c2 c3 c4 c5 c6 c7 c8
    obtain ⟨c0, c1, c2, c3, c4, c5, c6, c7, c8⟩ := HJ.out.cells
    have HI := HJ
    clear HJ
    go_wp2_with (fail)
    refine (al_calls _ _ _).mono ?_
    rintro e W2 ⟨rfl, hd⟩
    have HJ := Aside0.mk (HI.out.grow hd.below)
    clear HI hd c0 c1 c2 c3 c4 c5 c6 c7 c8
    obtain ⟨c0, c1, c2, c3, c4, c5, c6, c7, c8⟩ := HJ.out.cells
    have HI := HJ
    clear HJ
    go_wp2_with (fail)
    go_ret
    exact ⟨rfl, HI.out.1⟩
  have b6 : alB a s = true := decide_eq_true q6
  have ha0 : 0 ≤ a := q6.1.1
  have ha1 : a ≤ 4096 := q6.1.2.1
  by_cases q7 : a + s ≤ 4096
  rotate_left
  · have b7 : decide (4096 < a + s) = true := decide_eq_true (by omega)
    rw [show decide (0 ≤ a ∧ a ≤ 4096 ∧ a % s = 0 ∧ a + s ≤ 4096 ∧ (o = true → k ≠ 7) ∧ (o = false → k ≠ 1)) = false from decide_eq_false (by omega)]
    clear h7 q6 q7
    go_enter Try.func37, Try.ntmps37
    go_wp2_with (fail)
    obtain ⟨f0, f1, f2, f3, f4, f5, f6, f7, f8⟩ := B9.all w k a b r g u v f o
    have hne : Nonempty (Sub (B9 w k a b r g u v f o)) := ⟨⟨_, B9.start w k a b r g u v f o⟩⟩
    refine wp_region_grow (B9 w k a b r g u v f o) (by kernel_rfl) (by kernel_rfl) (B9.start w k a b r g u v f o).drew ?_
    repeat (first | go_big_quiet_skip | (go_big_quiet_want; go_big_quiet_op; first | go_big_quiet_on | (apply Exists.intro; refine ⟨fun x => ?_, ?_⟩; (first | (go_at_call 58; exact sub_calls (bits_calls _ _ _ HQ.out _) (fun _ hb => x.h.grow hb)) | (go_at_call 32; exact sub_calls (smax_calls _ _) (fun _ hb => x.h.grow hb)) | (go_at_call 63; exact sub_calls (rights_calls _ _ _ HR.out _) (fun _ hb => x.h.grow hb)) | (go_at_call 64; exact sub_calls (HX.out ▸ extra_calls k a b r g u v f o _) (fun _ hb => x.h.grow hb))); go_big_quiet_on)))
    refine wpQuiet_nil ?_
    intro _ hw'
    obtain ⟨⟨W1, hI⟩, hw''⟩ := hw'
    subst hw''
    clear f0 f1 f2 f3 f4 f5 f6 f7 f8 hne
    obtain ⟨c0, c1, c2, c3, c4, c5, c6, c7, c8⟩ := hI.cells
    have HI := Aside0.mk hI
    clear hI
    go_wp2_with (fail)
    refine (csize_calls _ _ _ Hs.out _).mono ?_
    rintro e W2 ⟨rfl, hd⟩
    have HJ := Aside0.mk (HI.out.grow hd.below)
    clear HI hd c0 c1 c2 c3 c4 c5 c6 c7 c8
    obtain ⟨c0, c1, c2, c3, c4, c5, c6, c7, c8⟩ := HJ.out.cells
    have HI := HJ
    clear HJ
    go_wp2_with (fail)
    refine (al_calls _ _ _).mono ?_
    rintro e W2 ⟨rfl, hd⟩
    have HJ := Aside0.mk (HI.out.grow hd.below)
    clear HI hd c0 c1 c2 c3 c4 c5 c6 c7 c8
    obtain ⟨c0, c1, c2, c3, c4, c5, c6, c7, c8⟩ := HJ.out.cells
    have HI := HJ
    clear HJ
    go_wp2_with (fail)
    go_ret
    exact ⟨rfl, HI.out.1⟩
  have b7 : decide (4096 < a + s) = false := decide_eq_false (by omega)
  by_cases k1 : k = 1
  · have bk : (k == 1) = true := beq_iff_eq.2 k1
    have bkn : (k != 1) = false := bne_eq_false_iff_eq.2 k1
    cases o with
    | true =>
      rw [show decide (0 ≤ a ∧ a ≤ 4096 ∧ a % s = 0 ∧ a + s ≤ 4096 ∧ (true = true → k ≠ 7) ∧ (true = false → k ≠ 1)) = true from decide_eq_true (by first | (simp; done) | (simp; omega) | (simp [h7]; done))]
      clear h7 q6 q7 k1
      go_enter Try.func37, Try.ntmps37
      go_wp2_with (fail)
      obtain ⟨f0, f1, f2, f3, f4, f5, f6, f7, f8⟩ := B9.all w k a b r g u v f true
      have hne : Nonempty (Sub (B9 w k a b r g u v f true)) := ⟨⟨_, B9.start w k a b r g u v f true⟩⟩
      refine wp_region_grow (B9 w k a b r g u v f true) (by kernel_rfl) (by kernel_rfl) (B9.start w k a b r g u v f true).drew ?_
      repeat (first | go_big_quiet_skip | (go_big_quiet_want; go_big_quiet_op; first | go_big_quiet_on | (apply Exists.intro; refine ⟨fun x => ?_, ?_⟩; (first | (go_at_call 58; exact sub_calls (bits_calls _ _ _ HQ.out _) (fun _ hb => x.h.grow hb)) | (go_at_call 32; exact sub_calls (smax_calls _ _) (fun _ hb => x.h.grow hb)) | (go_at_call 63; exact sub_calls (rights_calls _ _ _ HR.out _) (fun _ hb => x.h.grow hb)) | (go_at_call 64; exact sub_calls (HX.out ▸ extra_calls k a b r g u v f true _) (fun _ hb => x.h.grow hb))); go_big_quiet_on)))
      refine wpQuiet_nil ?_
      intro _ hw'
      obtain ⟨⟨W1, hI⟩, hw''⟩ := hw'
      subst hw''
      clear f0 f1 f2 f3 f4 f5 f6 f7 f8 hne
      obtain ⟨c0, c1, c2, c3, c4, c5, c6, c7, c8⟩ := hI.cells
      have HI := Aside0.mk hI
      clear hI
      go_wp2_with (fail)
      refine (csize_calls _ _ _ Hs.out _).mono ?_
      rintro e W2 ⟨rfl, hd⟩
      have HJ := Aside0.mk (HI.out.grow hd.below)
      clear HI hd c0 c1 c2 c3 c4 c5 c6 c7 c8
      obtain ⟨c0, c1, c2, c3, c4, c5, c6, c7, c8⟩ := HJ.out.cells
      have HI := HJ
      clear HJ
      go_wp2_with (fail)
      refine (al_calls _ _ _).mono ?_
      rintro e W2 ⟨rfl, hd⟩
      have HJ := Aside0.mk (HI.out.grow hd.below)
      clear HI hd c0 c1 c2 c3 c4 c5 c6 c7 c8
      obtain ⟨c0, c1, c2, c3, c4, c5, c6, c7, c8⟩ := HJ.out.cells
      have HI := HJ
      clear HJ
      go_wp2_with (fail)
      go_ret
      exact ⟨rfl, HI.out.1⟩
    | false =>
      rw [show decide (0 ≤ a ∧ a ≤ 4096 ∧ a % s = 0 ∧ a + s ≤ 4096 ∧ (false = true → k ≠ 7) ∧ (false = false → k ≠ 1)) = false from decide_eq_false (by first | (simp; done) | (simp; omega) | (simp [h7]; done))]
      clear h7 q6 q7 k1
      go_enter Try.func37, Try.ntmps37
      go_wp2_with (fail)
      obtain ⟨f0, f1, f2, f3, f4, f5, f6, f7, f8⟩ := B9.all w k a b r g u v f false
      have hne : Nonempty (Sub (B9 w k a b r g u v f false)) := ⟨⟨_, B9.start w k a b r g u v f false⟩⟩
      refine wp_region_grow (B9 w k a b r g u v f false) (by kernel_rfl) (by kernel_rfl) (B9.start w k a b r g u v f false).drew ?_
      repeat (first | go_big_quiet_skip | (go_big_quiet_want; go_big_quiet_op; first | go_big_quiet_on | (apply Exists.intro; refine ⟨fun x => ?_, ?_⟩; (first | (go_at_call 58; exact sub_calls (bits_calls _ _ _ HQ.out _) (fun _ hb => x.h.grow hb)) | (go_at_call 32; exact sub_calls (smax_calls _ _) (fun _ hb => x.h.grow hb)) | (go_at_call 63; exact sub_calls (rights_calls _ _ _ HR.out _) (fun _ hb => x.h.grow hb)) | (go_at_call 64; exact sub_calls (HX.out ▸ extra_calls k a b r g u v f false _) (fun _ hb => x.h.grow hb))); go_big_quiet_on)))
      refine wpQuiet_nil ?_
      intro _ hw'
      obtain ⟨⟨W1, hI⟩, hw''⟩ := hw'
      subst hw''
      clear f0 f1 f2 f3 f4 f5 f6 f7 f8 hne
      obtain ⟨c0, c1, c2, c3, c4, c5, c6, c7, c8⟩ := hI.cells
      have HI := Aside0.mk hI
      clear hI
      go_wp2_with (fail)
      refine (csize_calls _ _ _ Hs.out _).mono ?_
      rintro e W2 ⟨rfl, hd⟩
      have HJ := Aside0.mk (HI.out.grow hd.below)
      clear HI hd c0 c1 c2 c3 c4 c5 c6 c7 c8
      obtain ⟨c0, c1, c2, c3, c4, c5, c6, c7, c8⟩ := HJ.out.cells
      have HI := HJ
      clear HJ
      go_wp2_with (fail)
      refine (al_calls _ _ _).mono ?_
      rintro e W2 ⟨rfl, hd⟩
      have HJ := Aside0.mk (HI.out.grow hd.below)
      clear HI hd c0 c1 c2 c3 c4 c5 c6 c7 c8
      obtain ⟨c0, c1, c2, c3, c4, c5, c6, c7, c8⟩ := HJ.out.cells
      have HI := HJ
      clear HJ
      go_wp2_with (fail)
      go_ret
      exact ⟨rfl, HI.out.1⟩
  · have bk : (k == 1) = false := beq_eq_false_iff_ne.2 k1
    have bkn : (k != 1) = true := bne_iff_ne.2 k1
    rw [show decide (0 ≤ a ∧ a ≤ 4096 ∧ a % s = 0 ∧ a + s ≤ 4096 ∧ (o = true → k ≠ 7) ∧ (o = false → k ≠ 1)) = true from decide_eq_true (by omega)]
    clear h7 q6 q7 k1
    go_enter Try.func37, Try.ntmps37
    go_wp2_with (fail)
    obtain ⟨f0, f1, f2, f3, f4, f5, f6, f7, f8⟩ := B9.all w k a b r g u v f o
    have hne : Nonempty (Sub (B9 w k a b r g u v f o)) := ⟨⟨_, B9.start w k a b r g u v f o⟩⟩
    refine wp_region_grow (B9 w k a b r g u v f o) (by kernel_rfl) (by kernel_rfl) (B9.start w k a b r g u v f o).drew ?_
    repeat (first | go_big_quiet_skip | (go_big_quiet_want; go_big_quiet_op; first | go_big_quiet_on | (apply Exists.intro; refine ⟨fun x => ?_, ?_⟩; (first | (go_at_call 58; exact sub_calls (bits_calls _ _ _ HQ.out _) (fun _ hb => x.h.grow hb)) | (go_at_call 32; exact sub_calls (smax_calls _ _) (fun _ hb => x.h.grow hb)) | (go_at_call 63; exact sub_calls (rights_calls _ _ _ HR.out _) (fun _ hb => x.h.grow hb)) | (go_at_call 64; exact sub_calls (HX.out ▸ extra_calls k a b r g u v f o _) (fun _ hb => x.h.grow hb))); go_big_quiet_on)))
    refine wpQuiet_nil ?_
    intro _ hw'
    obtain ⟨⟨W1, hI⟩, hw''⟩ := hw'
    subst hw''
    clear f0 f1 f2 f3 f4 f5 f6 f7 f8 hne
    obtain ⟨c0, c1, c2, c3, c4, c5, c6, c7, c8⟩ := hI.cells
    have HI := Aside0.mk hI
    clear hI
    go_wp2_with (fail)
    refine (csize_calls _ _ _ Hs.out _).mono ?_
    rintro e W2 ⟨rfl, hd⟩
    have HJ := Aside0.mk (HI.out.grow hd.below)
    clear HI hd c0 c1 c2 c3 c4 c5 c6 c7 c8
    obtain ⟨c0, c1, c2, c3, c4, c5, c6, c7, c8⟩ := HJ.out.cells
    have HI := HJ
    clear HJ
    go_wp2_with (fail)
    refine (al_calls _ _ _).mono ?_
    rintro e W2 ⟨rfl, hd⟩
    have HJ := Aside0.mk (HI.out.grow hd.below)
    clear HI hd c0 c1 c2 c3 c4 c5 c6 c7 c8
    obtain ⟨c0, c1, c2, c3, c4, c5, c6, c7, c8⟩ := HJ.out.cells
    have HI := HJ
    clear HJ
    go_wp2_with (fail)
    go_ret
    exact ⟨rfl, HI.out.1⟩
set_option maxHeartbeats 40000000 in
set_option maxRecDepth 100000 in
theorem capOk_reply (k a b r g u v f : Int) (o : Bool) (w : World) (q1 : bitsB k b = true) (q2 : 0 ≤ r) (q3 : r ≤ 7) (q4 : r ≤ mxr k) (q5 : ExtraP k b g u v f) (h7 : k = 7) (hb0 : b = 0) : Calls Try.prog 37 #[.agg #[.int .i64 k, .int .i64 a, .int .i64 b, .int .i64 r, .int .i64 g, .int .i64 u, .int .i64 v, .int .i64 f, .bool o]] w fun e w' => e = .returned (.bool (decide (CapOkP k a b r g u v f o))) ∧ Below w.heap.size w w' := by
  have hz : szr k b = 32 := by subst h7 hb0; rfl
  have hs : capSz k b = 0 := by subst h7 hb0; rfl
  have b77 : (k == 7) = true := beq_iff_eq.2 h7
  have b77n : (k != 7) = false := bne_eq_false_iff_eq.2 h7
  have bk : (k == 1) = false := beq_eq_false_iff_ne.2 (by omega)
  have bkn : (k != 1) = true := bne_iff_ne.2 (by omega)
  have b2 : decide (r < 0) = false := decide_eq_false (by omega)
  have b3 : decide (7 < r) = false := decide_eq_false (by omega)
  have HR := Aside0.mk (show spec_l2Rights.f r (mxr k) = some true by rw [rights_eq k r ⟨q2, q3⟩, decide_eq_true q4])
  have HX := Aside0.mk (show decide (ExtraP k b g u v f) = true from decide_eq_true q5)
  have Hs := Aside0.mk hs
  have hs0 : 0 < (32 : Int) := by have := (szr_bits k b).1.2 q1; rwa [hz] at this
  have eq0 : CapOkP k a b r g u v f o ↔ (0 ≤ a ∧ a ≤ 4096 ∧ a % 32 = 0 ∧ a + 32 ≤ 4096 ∧ (o = true → k ≠ 7) ∧ (o = false → k ≠ 1)) := by
    unfold CapOkP
    rw [hz]
    unfold ExtraP at q5
    have h1 := (szr_bits k b).2
    have hv : wsz v = shl .i64 1 v := by unfold wsz; rw [if_pos (by omega)]
    rw [hv] at q5
    rw [hz] at h1
    have hf : f = 0 ∨ k = 1 ∧ 1 ≤ f ∧ f ≤ 32 := by
      by_cases k1 : k = 1
      · have h2 := h1 k1 q1; omega
      · omega
    exact ⟨fun h => ⟨by omega, by omega, by omega, by omega, h.2.2.2.2.2.2.2.2.2.2.2.2.2.2.2.1, h.2.2.2.2.2.2.2.2.2.2.2.2.2.2.2.2⟩, fun h => ⟨hs0, q2, q4, h.1, h.2.2.2.1, h.2.2.1, by omega, by omega, by omega, by omega, by omega, by omega, by omega, by omega, hf, h.2.2.2.2.1, h.2.2.2.2.2⟩⟩
  rw [show decide (CapOkP k a b r g u v f o) = decide (0 ≤ a ∧ a ≤ 4096 ∧ a % 32 = 0 ∧ a + 32 ≤ 4096 ∧ (o = true → k ≠ 7) ∧ (o = false → k ≠ 1)) from by rw [decide_eq_decide]; exact eq0]
  have HQ := Aside0.mk q1
  clear eq0 hs hz q5 q1 q2 q3 q4
  by_cases q6 : (0 ≤ a ∧ a ≤ 4096 ∧ (1 : Int) ≤ 32 ∧ (32 : Int) ≤ 4096) ∧ a % 32 = 0
  rotate_left
  · have b6 : alB a 32 = false := decide_eq_false q6
    rw [show decide (0 ≤ a ∧ a ≤ 4096 ∧ a % 32 = 0 ∧ a + 32 ≤ 4096 ∧ (o = true → k ≠ 7) ∧ (o = false → k ≠ 1)) = false from decide_eq_false (by omega)]
    clear h7 hb0 q6
    go_enter Try.func37, Try.ntmps37
    go_wp2_with (fail)
    obtain ⟨f0, f1, f2, f3, f4, f5, f6, f7, f8⟩ := B9.all w k a b r g u v f o
    have hne : Nonempty (Sub (B9 w k a b r g u v f o)) := ⟨⟨_, B9.start w k a b r g u v f o⟩⟩
    refine wp_region_grow (B9 w k a b r g u v f o) (by kernel_rfl) (by kernel_rfl) (B9.start w k a b r g u v f o).drew ?_
    repeat (first | go_big_quiet_skip | (go_big_quiet_want; go_big_quiet_op; first | go_big_quiet_on | (apply Exists.intro; refine ⟨fun x => ?_, ?_⟩; (first | (go_at_call 58; exact sub_calls (bits_calls _ _ _ HQ.out _) (fun _ hb => x.h.grow hb)) | (go_at_call 32; exact sub_calls (smax_calls _ _) (fun _ hb => x.h.grow hb)) | (go_at_call 63; exact sub_calls (rights_calls _ _ _ HR.out _) (fun _ hb => x.h.grow hb)) | (go_at_call 64; exact sub_calls (HX.out ▸ extra_calls k a b r g u v f o _) (fun _ hb => x.h.grow hb))); go_big_quiet_on)))
    refine wpQuiet_nil ?_
    intro _ hw'
    obtain ⟨⟨W1, hI⟩, hw''⟩ := hw'
    subst hw''
    clear f0 f1 f2 f3 f4 f5 f6 f7 f8 hne
    obtain ⟨c0, c1, c2, c3, c4, c5, c6, c7, c8⟩ := hI.cells
    have HI := Aside0.mk hI
    clear hI
    go_wp2_with (fail)
    refine (csize_calls _ _ _ Hs.out _).mono ?_
    rintro e W2 ⟨rfl, hd⟩
    have HJ := Aside0.mk (HI.out.grow hd.below)
    clear HI hd c0 c1 c2 c3 c4 c5 c6 c7 c8
    obtain ⟨c0, c1, c2, c3, c4, c5, c6, c7, c8⟩ := HJ.out.cells
    have HI := HJ
    clear HJ
    go_wp2_with (fail)
    refine (al_calls _ _ _).mono ?_
    rintro e W2 ⟨rfl, hd⟩
    have HJ := Aside0.mk (HI.out.grow hd.below)
    clear HI hd c0 c1 c2 c3 c4 c5 c6 c7 c8
    obtain ⟨c0, c1, c2, c3, c4, c5, c6, c7, c8⟩ := HJ.out.cells
    have HI := HJ
    clear HJ
    go_wp2_with (fail)
    go_ret
    exact ⟨rfl, HI.out.1⟩
  have b6 : alB a 32 = true := decide_eq_true q6
  have ha0 : 0 ≤ a := q6.1.1
  have ha1 : a ≤ 4096 := q6.1.2.1
  by_cases q7 : a + 32 ≤ 4096
  rotate_left
  · have b7 : decide (4096 < a + 32) = true := decide_eq_true (by omega)
    rw [show decide (0 ≤ a ∧ a ≤ 4096 ∧ a % 32 = 0 ∧ a + 32 ≤ 4096 ∧ (o = true → k ≠ 7) ∧ (o = false → k ≠ 1)) = false from decide_eq_false (by omega)]
    clear h7 hb0 q6 q7
    go_enter Try.func37, Try.ntmps37
    go_wp2_with (fail)
    obtain ⟨f0, f1, f2, f3, f4, f5, f6, f7, f8⟩ := B9.all w k a b r g u v f o
    have hne : Nonempty (Sub (B9 w k a b r g u v f o)) := ⟨⟨_, B9.start w k a b r g u v f o⟩⟩
    refine wp_region_grow (B9 w k a b r g u v f o) (by kernel_rfl) (by kernel_rfl) (B9.start w k a b r g u v f o).drew ?_
    repeat (first | go_big_quiet_skip | (go_big_quiet_want; go_big_quiet_op; first | go_big_quiet_on | (apply Exists.intro; refine ⟨fun x => ?_, ?_⟩; (first | (go_at_call 58; exact sub_calls (bits_calls _ _ _ HQ.out _) (fun _ hb => x.h.grow hb)) | (go_at_call 32; exact sub_calls (smax_calls _ _) (fun _ hb => x.h.grow hb)) | (go_at_call 63; exact sub_calls (rights_calls _ _ _ HR.out _) (fun _ hb => x.h.grow hb)) | (go_at_call 64; exact sub_calls (HX.out ▸ extra_calls k a b r g u v f o _) (fun _ hb => x.h.grow hb))); go_big_quiet_on)))
    refine wpQuiet_nil ?_
    intro _ hw'
    obtain ⟨⟨W1, hI⟩, hw''⟩ := hw'
    subst hw''
    clear f0 f1 f2 f3 f4 f5 f6 f7 f8 hne
    obtain ⟨c0, c1, c2, c3, c4, c5, c6, c7, c8⟩ := hI.cells
    have HI := Aside0.mk hI
    clear hI
    go_wp2_with (fail)
    refine (csize_calls _ _ _ Hs.out _).mono ?_
    rintro e W2 ⟨rfl, hd⟩
    have HJ := Aside0.mk (HI.out.grow hd.below)
    clear HI hd c0 c1 c2 c3 c4 c5 c6 c7 c8
    obtain ⟨c0, c1, c2, c3, c4, c5, c6, c7, c8⟩ := HJ.out.cells
    have HI := HJ
    clear HJ
    go_wp2_with (fail)
    refine (al_calls _ _ _).mono ?_
    rintro e W2 ⟨rfl, hd⟩
    have HJ := Aside0.mk (HI.out.grow hd.below)
    clear HI hd c0 c1 c2 c3 c4 c5 c6 c7 c8
    obtain ⟨c0, c1, c2, c3, c4, c5, c6, c7, c8⟩ := HJ.out.cells
    have HI := HJ
    clear HJ
    go_wp2_with (fail)
    go_ret
    exact ⟨rfl, HI.out.1⟩
  have b7 : decide (4096 < a + 32) = false := decide_eq_false (by omega)
  cases o with
  | true =>
    rw [show decide (0 ≤ a ∧ a ≤ 4096 ∧ a % 32 = 0 ∧ a + 32 ≤ 4096 ∧ (true = true → k ≠ 7) ∧ (true = false → k ≠ 1)) = false from decide_eq_false (by first | (simp; done) | (simp; omega) | (simp [h7]; done))]
    clear h7 hb0 q6 q7
    go_enter Try.func37, Try.ntmps37
    go_wp2_with (fail)
    obtain ⟨f0, f1, f2, f3, f4, f5, f6, f7, f8⟩ := B9.all w k a b r g u v f true
    have hne : Nonempty (Sub (B9 w k a b r g u v f true)) := ⟨⟨_, B9.start w k a b r g u v f true⟩⟩
    refine wp_region_grow (B9 w k a b r g u v f true) (by kernel_rfl) (by kernel_rfl) (B9.start w k a b r g u v f true).drew ?_
    repeat (first | go_big_quiet_skip | (go_big_quiet_want; go_big_quiet_op; first | go_big_quiet_on | (apply Exists.intro; refine ⟨fun x => ?_, ?_⟩; (first | (go_at_call 58; exact sub_calls (bits_calls _ _ _ HQ.out _) (fun _ hb => x.h.grow hb)) | (go_at_call 32; exact sub_calls (smax_calls _ _) (fun _ hb => x.h.grow hb)) | (go_at_call 63; exact sub_calls (rights_calls _ _ _ HR.out _) (fun _ hb => x.h.grow hb)) | (go_at_call 64; exact sub_calls (HX.out ▸ extra_calls k a b r g u v f true _) (fun _ hb => x.h.grow hb))); go_big_quiet_on)))
    refine wpQuiet_nil ?_
    intro _ hw'
    obtain ⟨⟨W1, hI⟩, hw''⟩ := hw'
    subst hw''
    clear f0 f1 f2 f3 f4 f5 f6 f7 f8 hne
    obtain ⟨c0, c1, c2, c3, c4, c5, c6, c7, c8⟩ := hI.cells
    have HI := Aside0.mk hI
    clear hI
    go_wp2_with (fail)
    refine (csize_calls _ _ _ Hs.out _).mono ?_
    rintro e W2 ⟨rfl, hd⟩
    have HJ := Aside0.mk (HI.out.grow hd.below)
    clear HI hd c0 c1 c2 c3 c4 c5 c6 c7 c8
    obtain ⟨c0, c1, c2, c3, c4, c5, c6, c7, c8⟩ := HJ.out.cells
    have HI := HJ
    clear HJ
    go_wp2_with (fail)
    refine (al_calls _ _ _).mono ?_
    rintro e W2 ⟨rfl, hd⟩
    have HJ := Aside0.mk (HI.out.grow hd.below)
    clear HI hd c0 c1 c2 c3 c4 c5 c6 c7 c8
    obtain ⟨c0, c1, c2, c3, c4, c5, c6, c7, c8⟩ := HJ.out.cells
    have HI := HJ
    clear HJ
    go_wp2_with (fail)
    go_ret
    exact ⟨rfl, HI.out.1⟩
  | false =>
    rw [show decide (0 ≤ a ∧ a ≤ 4096 ∧ a % 32 = 0 ∧ a + 32 ≤ 4096 ∧ (false = true → k ≠ 7) ∧ (false = false → k ≠ 1)) = true from decide_eq_true (by first | (simp; done) | (simp; omega) | (simp [h7]; done))]
    clear h7 hb0 q6 q7
    go_enter Try.func37, Try.ntmps37
    go_wp2_with (fail)
    obtain ⟨f0, f1, f2, f3, f4, f5, f6, f7, f8⟩ := B9.all w k a b r g u v f false
    have hne : Nonempty (Sub (B9 w k a b r g u v f false)) := ⟨⟨_, B9.start w k a b r g u v f false⟩⟩
    refine wp_region_grow (B9 w k a b r g u v f false) (by kernel_rfl) (by kernel_rfl) (B9.start w k a b r g u v f false).drew ?_
    repeat (first | go_big_quiet_skip | (go_big_quiet_want; go_big_quiet_op; first | go_big_quiet_on | (apply Exists.intro; refine ⟨fun x => ?_, ?_⟩; (first | (go_at_call 58; exact sub_calls (bits_calls _ _ _ HQ.out _) (fun _ hb => x.h.grow hb)) | (go_at_call 32; exact sub_calls (smax_calls _ _) (fun _ hb => x.h.grow hb)) | (go_at_call 63; exact sub_calls (rights_calls _ _ _ HR.out _) (fun _ hb => x.h.grow hb)) | (go_at_call 64; exact sub_calls (HX.out ▸ extra_calls k a b r g u v f false _) (fun _ hb => x.h.grow hb))); go_big_quiet_on)))
    refine wpQuiet_nil ?_
    intro _ hw'
    obtain ⟨⟨W1, hI⟩, hw''⟩ := hw'
    subst hw''
    clear f0 f1 f2 f3 f4 f5 f6 f7 f8 hne
    obtain ⟨c0, c1, c2, c3, c4, c5, c6, c7, c8⟩ := hI.cells
    have HI := Aside0.mk hI
    clear hI
    go_wp2_with (fail)
    refine (csize_calls _ _ _ Hs.out _).mono ?_
    rintro e W2 ⟨rfl, hd⟩
    have HJ := Aside0.mk (HI.out.grow hd.below)
    clear HI hd c0 c1 c2 c3 c4 c5 c6 c7 c8
    obtain ⟨c0, c1, c2, c3, c4, c5, c6, c7, c8⟩ := HJ.out.cells
    have HI := HJ
    clear HJ
    go_wp2_with (fail)
    refine (al_calls _ _ _).mono ?_
    rintro e W2 ⟨rfl, hd⟩
    have HJ := Aside0.mk (HI.out.grow hd.below)
    clear HI hd c0 c1 c2 c3 c4 c5 c6 c7 c8
    obtain ⟨c0, c1, c2, c3, c4, c5, c6, c7, c8⟩ := HJ.out.cells
    have HI := HJ
    clear HJ
    go_wp2_with (fail)
    go_ret
    exact ⟨rfl, HI.out.1⟩
theorem capOk_calls (k a b r g u v f : Int) (o : Bool) (w : World) : Calls Try.prog 37 #[.agg #[.int .i64 k, .int .i64 a, .int .i64 b, .int .i64 r, .int .i64 g, .int .i64 u, .int .i64 v, .int .i64 f, .bool o]] w fun e w' => e = .returned (.bool (decide (CapOkP k a b r g u v f o))) ∧ Below w.heap.size w w' := by
  by_cases h : bitsB k b = true ∧ 0 ≤ r ∧ r ≤ 7 ∧ r ≤ mxr k ∧ ExtraP k b g u v f
  rotate_left
  · exact capOk_no k a b r g u v f o w h
  obtain ⟨q1, q2, q3, q4, q5⟩ := h
  by_cases h7 : k = 7
  · exact capOk_reply k a b r g u v f o w q1 q2 q3 q4 q5 h7 (by unfold bitsB at q1; rw [decide_eq_true_eq] at q1; omega)
  · exact capOk_yes k a b r g u v f o w q1 q2 q3 q4 q5 h7 _ rfl (capSz_bd k b).2
end Go.Proofs.Ytjagpgomndndcaa.CapB
