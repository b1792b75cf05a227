/- Above, told. No condition. -/
import Derived.Test.YtalfojoimnhmlaaSvTr2
import Derived.Test.YtalfojoimnhmlaaSvTr3K
namespace Go.Proofs.Ytalfojoimnhmlaa
open Go.Sv
set_option linter.unusedSimpArgs false
set_option linter.unusedVariables false
set_option maxRecDepth 20000

def dep (xs : List Sl) (m : Nat) : Int := (xs.map (·.depth)).getD m 0
theorem dep_get (xs : List Sl) {m : Nat} (h : m < xs.length) : dep xs m = xs[m].depth := by simp [dep, h]
theorem up_props (xs : List Sl) (d : Int) : ∀ j : Nat, -1 ≤ upFrom xs d j ∧ upFrom xs d j < j ∧ (∀ m : Nat, upFrom xs d j < m → m < j → d ≤ dep xs m) ∧ (∀ m : Nat, upFrom xs d j = m → dep xs m < d)
  | 0 => by simp [upFrom]
  | j + 1 => by
    obtain ⟨h1, h2, h3, h4⟩ := up_props xs d j
    rw [upFrom]
    by_cases h : (xs.map (·.depth)).getD j 0 < d
    · rw [if_pos h]
      refine ⟨by omega, by omega, fun m q1 q2 => by omega, fun m q => ?_⟩
      have : m = j := by omega
      subst this
      exact h
    · rw [if_neg h]
      refine ⟨h1, by omega, fun m q1 q2 => ?_, h4⟩
      by_cases e : m = j
      · subst e; unfold dep; omega
      · exact h3 m q1 (by omega)
theorem endFrom_props (xs : List Sl) (d : Int) : ∀ (n k : Nat), xs.length - k = n → k ≤ xs.length → k + endFrom d (xs.drop k) ≤ xs.length ∧ (∀ m, k ≤ m → m < k + endFrom d (xs.drop k) → d < dep xs m) ∧ (k + endFrom d (xs.drop k) < xs.length → dep xs (k + endFrom d (xs.drop k)) ≤ d)
  | 0, k, hn, hk => by
    have : k = xs.length := by omega
    subst this
    simp [endFrom]
    intro m h1 h2
    omega
  | n + 1, k, hn, hk => by
    have hlt : k < xs.length := by omega
    obtain ⟨h1, h2, h3⟩ := endFrom_props xs d n (k + 1) (by omega) (by omega)
    rw [List.drop_eq_getElem_cons hlt, endFrom]
    have hd := dep_get xs hlt
    by_cases h : xs[k].depth > d
    · rw [if_pos h, show k + (endFrom d (xs.drop (k + 1)) + 1) = k + 1 + endFrom d (xs.drop (k + 1)) by omega]
      refine ⟨h1, fun m q1 q2 => ?_, h3⟩
      by_cases e : m = k
      · subst e; omega
      · exact h2 m (by omega) q2
    · rw [if_neg h]
      exact ⟨by omega, fun m q1 q2 => by omega, fun _ => by rw [Nat.add_zero]; omega⟩
/-- Going up keeps within, and without, what came of slot i. -/
theorem up_in (xs : List Sl) {i k : Nat} (hi : i < xs.length) (hk : k < xs.length) (hne : k ≠ i) : ((i : Int) ≤ upOf xs k ∧ upOf xs k < endOf xs i) ↔ (i ≤ k ∧ k < endOf xs i) := by
  obtain ⟨u1, u2, u3, u4⟩ := up_props xs (dep xs k) k
  obtain ⟨e1, e2, e3⟩ := endFrom_props xs (dep xs i) (xs.length - (i + 1)) (i + 1) rfl (by omega)
  have hu : upOf xs k = upFrom xs (dep xs k) k := rfl
  have he : endOf xs i = i + 1 + endFrom (dep xs i) (xs.drop (i + 1)) := rfl
  rw [← he] at e1 e2 e3
  rw [← hu] at u1 u2 u3 u4
  have hie : i < endOf xs i := by rw [he]; omega
  generalize upOf xs k = j at *
  generalize endOf xs i = e at *
  constructor
  · rintro ⟨q1, q2⟩
    refine ⟨by omega, Nat.lt_of_not_le fun hge => ?_⟩
    obtain ⟨jn, rfl⟩ : ∃ jn : Nat, j = jn := ⟨j.toNat, by omega⟩
    have d1 := u4 jn rfl
    have d2 := e3 (by omega)
    have d3 : dep xs k ≤ dep xs e := by
      by_cases q : e = k
      · rw [q]; omega
      · exact u3 e (by omega) (by omega)
    by_cases q : jn = i
    · subst q; omega
    · have := e2 jn (by omega) (by omega); omega
  · rintro ⟨q1, q2⟩
    have d1 := e2 k (by omega) q2
    refine ⟨Int.le_of_not_gt fun hlt => ?_, by omega⟩
    have := u3 i (by omega) (by omega)
    omega
def aboveP (xs : List Sl) (i k : Int) : Prop := (0 ≤ i ∧ i < xs.length ∧ treeB xs = true) ∧ 0 ≤ k ∧ k < xs.length ∧ i ≤ k ∧ k < endOf xs i.toNat
instance (xs : List Sl) (i k : Int) : Decidable (aboveP xs i k) := by unfold aboveP; infer_instance
set_option maxHeartbeats 4000000 in
theorem above_spec (xs : List Sl) (i k : Int) (hx : xs.length ≤ 1048576) : Con Try.prog 26 [.list 11 (xs.map Sl.e), .int .i64 i, .int .i64 k] (.bool (decide (aboveP xs i k))) := by
  have h1 := in_spec xs i hx
  have h2 := in_spec xs k hx
  by_cases hi : 0 ≤ i ∧ i < xs.length ∧ treeB xs = true
  · rw [decide_eq_true hi] at h1
    by_cases hk : 0 ≤ k ∧ k < xs.length ∧ treeB xs = true
    · rw [decide_eq_true hk] at h2
      obtain ⟨i, rfl⟩ : ∃ n : Nat, i = n := ⟨i.toNat, by omega⟩
      obtain ⟨k, rfl⟩ : ∃ n : Nat, k = n := ⟨k.toNat, by omega⟩
      have hil : i < xs.length := by omega
      have hkl : k < xs.length := by omega
      have hie : i < endOf xs i := by unfold endOf; omega
      have hP : aboveP xs i k ↔ (i ≤ k ∧ k < endOf xs i) := by
        unfold aboveP
        rw [Int.toNat_natCast]
        constructor
        · rintro ⟨_, _, _, q1, q2⟩; omega
        · rintro ⟨q1, q2⟩; exact ⟨hi, hk.1, hk.2.1, by omega, by omega⟩
      (refine Con.fn hm Try.func26 o26 (Nat.le_of_ble_eq_true rfl) rfl ?_; unfold k26)
      simp only [SS, Nat.reduceAdd, Nat.reduceEqDiff, Nat.reduceBEq, Nat.reduceLeDiff, reduceIte]
      refine call_intro h1 ?_
      simp only [SS, Nat.reduceAdd, Nat.reduceEqDiff, Nat.reduceBEq, Nat.reduceLeDiff, reduceIte]
      refine call_intro h2 ?_
      simp only [SS, Nat.reduceAdd, Nat.reduceEqDiff, Nat.reduceBEq, Nat.reduceLeDiff, reduceIte]
      refine loop_intro (fun s => ∃ j : Int, -1 ≤ j ∧ j < xs.length ∧ (((i : Int) ≤ j ∧ j < endOf xs i) ↔ (i ≤ k ∧ k < endOf xs i)) ∧ (s = [(0, .list 11 (xs.map Sl.e)), (1, .int .i64 i), (2, .int .i64 j)] ∨ s = [(0, .list 11 (xs.map Sl.e)), (1, .int .i64 i), (2, .int .i64 j), (16, .bool false)])) (fun s => nat1 (get s 2)) ?_ ?_
      · exact ⟨k, by omega, by omega, by omega, .inr rfl⟩
      · rintro s ⟨j, hj1, hj2, hj, hs⟩
        rcases hs with rfl | rfl
        all_goals
          simp only [SS, Nat.reduceAdd, Nat.reduceEqDiff, Nat.reduceBEq, Nat.reduceLeDiff, reduceIte]
          refine sc_and (fun h => ?_) (fun h => ?_)
          · have hj0 : 0 ≤ j := by simpa using h
            simp only [SS, Nat.reduceAdd, Nat.reduceEqDiff, Nat.reduceBEq, Nat.reduceLeDiff, reduceIte]
            refine cond_intro (fun h => ?_) (fun h => ?_)
            · have hne : ¬ j = i := by simpa using h
              have hup := up_spec xs j hj0 hj2 hx
              obtain ⟨j, rfl⟩ : ∃ n : Nat, j = n := ⟨j.toNat, by omega⟩
              rw [Int.toNat_natCast] at hup
              have hui := up_in xs hil (by omega : j < xs.length) (by omega)
              obtain ⟨u1, u2, _⟩ := up_props xs (dep xs j) j
              have hu : upOf xs j = upFrom xs (dep xs j) j := rfl
              rw [← hu] at u1 u2
              simp only [SS, Nat.reduceAdd, Nat.reduceEqDiff, Nat.reduceBEq, Nat.reduceLeDiff, reduceIte]
              refine call_intro hup ?_
              simp only [SS, Nat.reduceAdd, Nat.reduceEqDiff, Nat.reduceBEq, Nat.reduceLeDiff, reduceIte, nat1_int]
              exact ⟨⟨upOf xs j, by omega, by omega, by omega, .inl rfl⟩, by omega⟩
            · have he : j = i := by simpa using h
              simp only [SS, Nat.reduceAdd, Nat.reduceEqDiff, Nat.reduceBEq, Nat.reduceLeDiff, reduceIte]
              have : aboveP xs i k := hP.2 (hj.1 (by omega))
              simp [this, he]
          · have hj0 : ¬ 0 ≤ j := by simpa using h
            simp only [SS, Nat.reduceAdd, Nat.reduceEqDiff, Nat.reduceBEq, Nat.reduceLeDiff, reduceIte]
            have : ¬ aboveP xs i k := fun q => by have := hj.2 (hP.1 q); omega
            simp [this]
            omega
    · rw [decide_eq_false hk] at h2
      have : ¬ aboveP xs i k := fun q => hk ⟨q.2.1, q.2.2.1, q.1.2.2⟩
      rw [decide_eq_false this]
      (refine Con.fn hm Try.func26 o26 (Nat.le_of_ble_eq_true rfl) rfl ?_; unfold k26)
      repeat' (first | simp (disch := omega) only [SS, Nat.reduceAdd, Nat.reduceEqDiff, Nat.reduceBEq, Nat.reduceLeDiff, reduceIte] | (refine sc_and (fun h => ?_) (fun h => ?_) <;> (try simp only [beq_iff_eq, bne_iff_ne, ne_eq, decide_eq_true_eq, decide_eq_false_iff_not, beq_eq_false_iff_ne, bne_eq_false_iff_eq, Bool.not_eq_true', Bool.not_eq_false', Bool.not_eq_true, Bool.and_eq_true, Bool.or_eq_true, Bool.or_eq_false_iff, Bool.and_eq_false_iff, Decidable.not_not, gt_iff_lt, ge_iff_le, Int.not_lt, Int.not_le, Int.reduceEq, true_or, or_true, false_or, or_false, true_and, and_true, false_and, and_false, Bool.false_eq_true, Bool.true_eq_false, eq_self, not_false_eq_true, not_true_eq_false] at h)) | (refine sc_or (fun h => ?_) (fun h => ?_) <;> (try simp only [beq_iff_eq, bne_iff_ne, ne_eq, decide_eq_true_eq, decide_eq_false_iff_not, beq_eq_false_iff_ne, bne_eq_false_iff_eq, Bool.not_eq_true', Bool.not_eq_false', Bool.not_eq_true, Bool.and_eq_true, Bool.or_eq_true, Bool.or_eq_false_iff, Bool.and_eq_false_iff, Decidable.not_not, gt_iff_lt, ge_iff_le, Int.not_lt, Int.not_le, Int.reduceEq, true_or, or_true, false_or, or_false, true_and, and_true, false_and, and_false, Bool.false_eq_true, Bool.true_eq_false, eq_self, not_false_eq_true, not_true_eq_false] at h)) | (refine cond_intro (fun h => ?_) (fun h => ?_) <;> (try simp only [beq_iff_eq, bne_iff_ne, ne_eq, decide_eq_true_eq, decide_eq_false_iff_not, beq_eq_false_iff_ne, bne_eq_false_iff_eq, Bool.not_eq_true', Bool.not_eq_false', Bool.not_eq_true, Bool.and_eq_true, Bool.or_eq_true, Bool.or_eq_false_iff, Bool.and_eq_false_iff, Decidable.not_not, gt_iff_lt, ge_iff_le, Int.not_lt, Int.not_le, Int.reduceEq, true_or, or_true, false_or, or_false, true_and, and_true, false_and, and_false, Bool.false_eq_true, Bool.true_eq_false, eq_self, not_false_eq_true, not_true_eq_false] at h)) | refine call_intro (h1) ?_ | refine call_intro (h2) ?_ | (with_reducible apply And.intro; first | omega | (refine And.intro ?_ ?_ <;> omega)))
  · rw [decide_eq_false hi] at h1
    have : ¬ aboveP xs i k := fun q => hi q.1
    rw [decide_eq_false this]
    (refine Con.fn hm Try.func26 o26 (Nat.le_of_ble_eq_true rfl) rfl ?_; unfold k26)
    repeat' (first | simp (disch := omega) only [SS, Nat.reduceAdd, Nat.reduceEqDiff, Nat.reduceBEq, Nat.reduceLeDiff, reduceIte] | (refine sc_and (fun h => ?_) (fun h => ?_) <;> (try simp only [beq_iff_eq, bne_iff_ne, ne_eq, decide_eq_true_eq, decide_eq_false_iff_not, beq_eq_false_iff_ne, bne_eq_false_iff_eq, Bool.not_eq_true', Bool.not_eq_false', Bool.not_eq_true, Bool.and_eq_true, Bool.or_eq_true, Bool.or_eq_false_iff, Bool.and_eq_false_iff, Decidable.not_not, gt_iff_lt, ge_iff_le, Int.not_lt, Int.not_le, Int.reduceEq, true_or, or_true, false_or, or_false, true_and, and_true, false_and, and_false, Bool.false_eq_true, Bool.true_eq_false, eq_self, not_false_eq_true, not_true_eq_false] at h)) | (refine sc_or (fun h => ?_) (fun h => ?_) <;> (try simp only [beq_iff_eq, bne_iff_ne, ne_eq, decide_eq_true_eq, decide_eq_false_iff_not, beq_eq_false_iff_ne, bne_eq_false_iff_eq, Bool.not_eq_true', Bool.not_eq_false', Bool.not_eq_true, Bool.and_eq_true, Bool.or_eq_true, Bool.or_eq_false_iff, Bool.and_eq_false_iff, Decidable.not_not, gt_iff_lt, ge_iff_le, Int.not_lt, Int.not_le, Int.reduceEq, true_or, or_true, false_or, or_false, true_and, and_true, false_and, and_false, Bool.false_eq_true, Bool.true_eq_false, eq_self, not_false_eq_true, not_true_eq_false] at h)) | (refine cond_intro (fun h => ?_) (fun h => ?_) <;> (try simp only [beq_iff_eq, bne_iff_ne, ne_eq, decide_eq_true_eq, decide_eq_false_iff_not, beq_eq_false_iff_ne, bne_eq_false_iff_eq, Bool.not_eq_true', Bool.not_eq_false', Bool.not_eq_true, Bool.and_eq_true, Bool.or_eq_true, Bool.or_eq_false_iff, Bool.and_eq_false_iff, Decidable.not_not, gt_iff_lt, ge_iff_le, Int.not_lt, Int.not_le, Int.reduceEq, true_or, or_true, false_or, or_false, true_and, and_true, false_and, and_false, Bool.false_eq_true, Bool.true_eq_false, eq_self, not_false_eq_true, not_true_eq_false] at h)) | refine call_intro (h1) ?_ | refine call_intro (h2) ?_ | (with_reducible apply And.intro; first | omega | (refine And.intro ?_ ?_ <;> omega)))
set_option maxHeartbeats 4000000 in
theorem above_impl (xs : List Sl) (i k : Int) (hx : xs.length ≤ 1048576) (hwf : ∀ s ∈ xs, Sl.wf s) : Con Try.prog 27 [.list 11 (xs.map Sl.e), .int .i64 i, .int .i64 k] (.bool (decide (aboveP xs i k))) := by
  have ht := isTree_con xs hx hwf
  cases hb : treeB xs with
  | false =>
    rw [hb] at ht
    have : ¬ aboveP xs i k := fun q => by have := q.1.2.2; rw [hb] at this; cases this
    rw [decide_eq_false this]
    (refine Con.fn hm Try.func27 o27 (Nat.le_of_ble_eq_true rfl) rfl ?_; unfold k27)
    repeat' (first | simp (disch := omega) only [SS, Nat.reduceAdd, Nat.reduceEqDiff, Nat.reduceBEq, Nat.reduceLeDiff, reduceIte] | (refine sc_and (fun h => ?_) (fun h => ?_) <;> (try simp only [beq_iff_eq, bne_iff_ne, ne_eq, decide_eq_true_eq, decide_eq_false_iff_not, beq_eq_false_iff_ne, bne_eq_false_iff_eq, Bool.not_eq_true', Bool.not_eq_false', Bool.not_eq_true, Bool.and_eq_true, Bool.or_eq_true, Bool.or_eq_false_iff, Bool.and_eq_false_iff, Decidable.not_not, gt_iff_lt, ge_iff_le, Int.not_lt, Int.not_le, Int.reduceEq, true_or, or_true, false_or, or_false, true_and, and_true, false_and, and_false, Bool.false_eq_true, Bool.true_eq_false, eq_self, not_false_eq_true, not_true_eq_false] at h)) | (refine sc_or (fun h => ?_) (fun h => ?_) <;> (try simp only [beq_iff_eq, bne_iff_ne, ne_eq, decide_eq_true_eq, decide_eq_false_iff_not, beq_eq_false_iff_ne, bne_eq_false_iff_eq, Bool.not_eq_true', Bool.not_eq_false', Bool.not_eq_true, Bool.and_eq_true, Bool.or_eq_true, Bool.or_eq_false_iff, Bool.and_eq_false_iff, Decidable.not_not, gt_iff_lt, ge_iff_le, Int.not_lt, Int.not_le, Int.reduceEq, true_or, or_true, false_or, or_false, true_and, and_true, false_and, and_false, Bool.false_eq_true, Bool.true_eq_false, eq_self, not_false_eq_true, not_true_eq_false] at h)) | (refine cond_intro (fun h => ?_) (fun h => ?_) <;> (try simp only [beq_iff_eq, bne_iff_ne, ne_eq, decide_eq_true_eq, decide_eq_false_iff_not, beq_eq_false_iff_ne, bne_eq_false_iff_eq, Bool.not_eq_true', Bool.not_eq_false', Bool.not_eq_true, Bool.and_eq_true, Bool.or_eq_true, Bool.or_eq_false_iff, Bool.and_eq_false_iff, Decidable.not_not, gt_iff_lt, ge_iff_le, Int.not_lt, Int.not_le, Int.reduceEq, true_or, or_true, false_or, or_false, true_and, and_true, false_and, and_false, Bool.false_eq_true, Bool.true_eq_false, eq_self, not_false_eq_true, not_true_eq_false] at h)) | refine call_intro (ht) ?_ | (with_reducible apply And.intro; first | omega | (refine And.intro ?_ ?_ <;> omega)))
  | true =>
    rw [hb] at ht
    (refine Con.fn hm Try.func27 o27 (Nat.le_of_ble_eq_true rfl) rfl ?_; unfold k27)
    repeat' (first | simp (disch := omega) only [SS, Nat.reduceAdd, Nat.reduceEqDiff, Nat.reduceBEq, Nat.reduceLeDiff, reduceIte, wrap_id, List.length_map] | (refine sc_and (fun h => ?_) (fun h => ?_) <;> ((((try simp only [beq_iff_eq, bne_iff_ne, ne_eq, decide_eq_true_eq, decide_eq_false_iff_not, beq_eq_false_iff_ne, bne_eq_false_iff_eq, Bool.not_eq_true', Bool.not_eq_false', Bool.not_eq_true, Bool.and_eq_true, Bool.or_eq_true, Bool.or_eq_false_iff, Bool.and_eq_false_iff, Decidable.not_not, gt_iff_lt, ge_iff_le, Int.not_lt, Int.not_le, Int.reduceEq, true_or, or_true, false_or, or_false, true_and, and_true, false_and, and_false, Bool.false_eq_true, Bool.true_eq_false, eq_self, not_false_eq_true, not_true_eq_false] at h) <;> (try simp only [inB, beq_iff_eq, bne_iff_ne, ne_eq, decide_eq_true_eq, decide_eq_false_iff_not, beq_eq_false_iff_ne, bne_eq_false_iff_eq, Bool.not_eq_true', Bool.not_eq_false', Bool.not_eq_true, Bool.and_eq_true, Bool.or_eq_true, Bool.or_eq_false_iff, Bool.and_eq_false_iff, Decidable.not_not, gt_iff_lt, ge_iff_le, Int.not_lt, Int.not_le, Int.reduceEq, true_or, or_true, false_or, or_false, true_and, and_true, false_and, and_false, Bool.false_eq_true, Bool.true_eq_false, eq_self, not_false_eq_true, not_true_eq_false] at h))) <;> (try (exfalso; omega)))) | (refine sc_or (fun h => ?_) (fun h => ?_) <;> ((((try simp only [beq_iff_eq, bne_iff_ne, ne_eq, decide_eq_true_eq, decide_eq_false_iff_not, beq_eq_false_iff_ne, bne_eq_false_iff_eq, Bool.not_eq_true', Bool.not_eq_false', Bool.not_eq_true, Bool.and_eq_true, Bool.or_eq_true, Bool.or_eq_false_iff, Bool.and_eq_false_iff, Decidable.not_not, gt_iff_lt, ge_iff_le, Int.not_lt, Int.not_le, Int.reduceEq, true_or, or_true, false_or, or_false, true_and, and_true, false_and, and_false, Bool.false_eq_true, Bool.true_eq_false, eq_self, not_false_eq_true, not_true_eq_false] at h) <;> (try simp only [inB, beq_iff_eq, bne_iff_ne, ne_eq, decide_eq_true_eq, decide_eq_false_iff_not, beq_eq_false_iff_ne, bne_eq_false_iff_eq, Bool.not_eq_true', Bool.not_eq_false', Bool.not_eq_true, Bool.and_eq_true, Bool.or_eq_true, Bool.or_eq_false_iff, Bool.and_eq_false_iff, Decidable.not_not, gt_iff_lt, ge_iff_le, Int.not_lt, Int.not_le, Int.reduceEq, true_or, or_true, false_or, or_false, true_and, and_true, false_and, and_false, Bool.false_eq_true, Bool.true_eq_false, eq_self, not_false_eq_true, not_true_eq_false] at h))) <;> (try (exfalso; omega)))) | (refine cond_intro (fun h => ?_) (fun h => ?_) <;> ((((try simp only [beq_iff_eq, bne_iff_ne, ne_eq, decide_eq_true_eq, decide_eq_false_iff_not, beq_eq_false_iff_ne, bne_eq_false_iff_eq, Bool.not_eq_true', Bool.not_eq_false', Bool.not_eq_true, Bool.and_eq_true, Bool.or_eq_true, Bool.or_eq_false_iff, Bool.and_eq_false_iff, Decidable.not_not, gt_iff_lt, ge_iff_le, Int.not_lt, Int.not_le, Int.reduceEq, true_or, or_true, false_or, or_false, true_and, and_true, false_and, and_false, Bool.false_eq_true, Bool.true_eq_false, eq_self, not_false_eq_true, not_true_eq_false] at h) <;> (try simp only [inB, beq_iff_eq, bne_iff_ne, ne_eq, decide_eq_true_eq, decide_eq_false_iff_not, beq_eq_false_iff_ne, bne_eq_false_iff_eq, Bool.not_eq_true', Bool.not_eq_false', Bool.not_eq_true, Bool.and_eq_true, Bool.or_eq_true, Bool.or_eq_false_iff, Bool.and_eq_false_iff, Decidable.not_not, gt_iff_lt, ge_iff_le, Int.not_lt, Int.not_le, Int.reduceEq, true_or, or_true, false_or, or_false, true_and, and_true, false_and, and_false, Bool.false_eq_true, Bool.true_eq_false, eq_self, not_false_eq_true, not_true_eq_false] at h))) <;> (try (exfalso; omega)))) | refine call_intro (ht) ?_ | refine call_intro (in_con _ _ _) ?_ | refine call_intro (end_impl xs i (by omega) (by omega) hx) ?_ | (with_reducible apply And.intro; first | omega | (refine And.intro ?_ ?_ <;> omega)))
    all_goals (refine congrArg (fun b => some (SV.bool b)) ?_; rw [Bool.eq_iff_iff]; simp only [decide_eq_true_eq, aboveP, hb, and_true, Bool.false_eq_true, false_iff]; omega)
theorem above_law (xs : List Sl) (i k : Int) (hwf : ∀ s ∈ xs, Sl.wf s) (hmax : xs.length ≤ 9223372036854775807) : Con Try.prog 6 [.list 11 (xs.map Sl.e), .int .i64 i, .int .i64 k] (.bool true) := by
  (refine Con.fn hm Try.func6 o6 (Nat.le_of_ble_eq_true rfl) rfl ?_; unfold k6)
  by_cases hl : xs.length ≤ 1048576
  · repeat' (first | simp (disch := omega) only [SS, Nat.reduceAdd, Nat.reduceEqDiff, Nat.reduceBEq, Nat.reduceLeDiff, reduceIte] | (refine sc_and (fun h => ?_) (fun h => ?_) <;> (((try simp only [beq_iff_eq, bne_iff_ne, ne_eq, decide_eq_true_eq, decide_eq_false_iff_not, beq_eq_false_iff_ne, bne_eq_false_iff_eq, Bool.not_eq_true', Bool.not_eq_false', Bool.not_eq_true, Bool.and_eq_true, Bool.or_eq_true, Bool.or_eq_false_iff, Bool.and_eq_false_iff, Decidable.not_not, gt_iff_lt, ge_iff_le, Int.not_lt, Int.not_le, Int.reduceEq, true_or, or_true, false_or, or_false, true_and, and_true, false_and, and_false, Bool.false_eq_true, Bool.true_eq_false, eq_self, not_false_eq_true, not_true_eq_false] at h)) <;> (try (exfalso; omega)))) | (refine sc_or (fun h => ?_) (fun h => ?_) <;> (((try simp only [beq_iff_eq, bne_iff_ne, ne_eq, decide_eq_true_eq, decide_eq_false_iff_not, beq_eq_false_iff_ne, bne_eq_false_iff_eq, Bool.not_eq_true', Bool.not_eq_false', Bool.not_eq_true, Bool.and_eq_true, Bool.or_eq_true, Bool.or_eq_false_iff, Bool.and_eq_false_iff, Decidable.not_not, gt_iff_lt, ge_iff_le, Int.not_lt, Int.not_le, Int.reduceEq, true_or, or_true, false_or, or_false, true_and, and_true, false_and, and_false, Bool.false_eq_true, Bool.true_eq_false, eq_self, not_false_eq_true, not_true_eq_false] at h)) <;> (try (exfalso; omega)))) | (refine cond_intro (fun h => ?_) (fun h => ?_) <;> (((try simp only [beq_iff_eq, bne_iff_ne, ne_eq, decide_eq_true_eq, decide_eq_false_iff_not, beq_eq_false_iff_ne, bne_eq_false_iff_eq, Bool.not_eq_true', Bool.not_eq_false', Bool.not_eq_true, Bool.and_eq_true, Bool.or_eq_true, Bool.or_eq_false_iff, Bool.and_eq_false_iff, Decidable.not_not, gt_iff_lt, ge_iff_le, Int.not_lt, Int.not_le, Int.reduceEq, true_or, or_true, false_or, or_false, true_and, and_true, false_and, and_false, Bool.false_eq_true, Bool.true_eq_false, eq_self, not_false_eq_true, not_true_eq_false] at h)) <;> (try (exfalso; omega)))) | refine call_intro (szSls_le xs hl) ?_ | refine call_intro (toSls_con xs hl) ?_ | refine call_intro (above_spec xs i k hl) ?_ | refine call_intro (above_impl xs i k hl hwf) ?_ | refine call_intro (eqSls_con xs xs hl) ?_ | (with_reducible apply And.intro; first | omega | (refine And.intro ?_ ?_ <;> omega)))
  · repeat' (first | simp (disch := omega) only [SS, Nat.reduceAdd, Nat.reduceEqDiff, Nat.reduceBEq, Nat.reduceLeDiff, reduceIte] | (refine sc_and (fun h => ?_) (fun h => ?_) <;> (((try simp only [beq_iff_eq, bne_iff_ne, ne_eq, decide_eq_true_eq, decide_eq_false_iff_not, beq_eq_false_iff_ne, bne_eq_false_iff_eq, Bool.not_eq_true', Bool.not_eq_false', Bool.not_eq_true, Bool.and_eq_true, Bool.or_eq_true, Bool.or_eq_false_iff, Bool.and_eq_false_iff, Decidable.not_not, gt_iff_lt, ge_iff_le, Int.not_lt, Int.not_le, Int.reduceEq, true_or, or_true, false_or, or_false, true_and, and_true, false_and, and_false, Bool.false_eq_true, Bool.true_eq_false, eq_self, not_false_eq_true, not_true_eq_false] at h)) <;> (try (exfalso; omega)))) | (refine sc_or (fun h => ?_) (fun h => ?_) <;> (((try simp only [beq_iff_eq, bne_iff_ne, ne_eq, decide_eq_true_eq, decide_eq_false_iff_not, beq_eq_false_iff_ne, bne_eq_false_iff_eq, Bool.not_eq_true', Bool.not_eq_false', Bool.not_eq_true, Bool.and_eq_true, Bool.or_eq_true, Bool.or_eq_false_iff, Bool.and_eq_false_iff, Decidable.not_not, gt_iff_lt, ge_iff_le, Int.not_lt, Int.not_le, Int.reduceEq, true_or, or_true, false_or, or_false, true_and, and_true, false_and, and_false, Bool.false_eq_true, Bool.true_eq_false, eq_self, not_false_eq_true, not_true_eq_false] at h)) <;> (try (exfalso; omega)))) | (refine cond_intro (fun h => ?_) (fun h => ?_) <;> (((try simp only [beq_iff_eq, bne_iff_ne, ne_eq, decide_eq_true_eq, decide_eq_false_iff_not, beq_eq_false_iff_ne, bne_eq_false_iff_eq, Bool.not_eq_true', Bool.not_eq_false', Bool.not_eq_true, Bool.and_eq_true, Bool.or_eq_true, Bool.or_eq_false_iff, Bool.and_eq_false_iff, Decidable.not_not, gt_iff_lt, ge_iff_le, Int.not_lt, Int.not_le, Int.reduceEq, true_or, or_true, false_or, or_false, true_and, and_true, false_and, and_false, Bool.false_eq_true, Bool.true_eq_false, eq_self, not_false_eq_true, not_true_eq_false] at h)) <;> (try (exfalso; omega)))) | refine call_intro (szSls_gt xs hl hmax) ?_ | (with_reducible apply And.intro; first | omega | (refine And.intro ?_ ?_ <;> omega)))
end Go.Proofs.Ytalfojoimnhmlaa
