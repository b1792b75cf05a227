/- The functions of trees, told. No condition. -/
import Derived.Test.YtalfojoimnhmlaaSvCap2
import Derived.Test.YtalfojoimnhmlaaSvTrK
namespace Go.Proofs.Ytalfojoimnhmlaa
open Go.Sv
set_option linter.unusedSimpArgs false
set_option linter.unusedVariables false
set_option maxRecDepth 20000

structure Sl where
  at_ : Int
  c : Cp
  depth : Int
deriving instance DecidableEq for Sl
def Sl.e (s : Sl) : SV := .agg [.int .i64 s.at_, .int .i64 s.c.kind, .int .i64 s.c.addr, .int .i64 s.c.bits, .int .i64 s.c.rights, .int .i64 s.c.badge, .int .i64 s.c.guard, .int .i64 s.c.gb, .int .i64 s.c.free, .bool s.c.orig, .int .i64 s.depth]
def zSl : SV := .agg [.int .i64 0, .int .i64 0, .int .i64 0, .int .i64 0, .int .i64 0, .int .i64 0, .int .i64 0, .int .i64 0, .int .i64 0, .bool false, .int .i64 0]
theorem toSl_con (s : Sl) : Con Try.prog 47 [s.e] s.e := by
  obtain ⟨x, c, d⟩ := s
  have hc := toCap_con c
  simp only [Cp.cs] at hc
  simp only [Sl.e]
  (refine Con.fn hm Try.func47 o47 (Nat.le_of_ble_eq_true rfl) rfl ?_; unfold k47)
  repeat' (first | simp (disch := omega) only [SS, Nat.reduceAdd, Nat.reduceEqDiff, Nat.reduceBEq, Nat.reduceLeDiff, reduceIte] | (refine sc_and (fun h => ?_) (fun h => ?_) <;> (try simp only [beq_iff_eq, bne_iff_ne, ne_eq, decide_eq_true_eq, decide_eq_false_iff_not, beq_eq_false_iff_ne, bne_eq_false_iff_eq, Bool.not_eq_true', Bool.not_eq_false', Bool.not_eq_true, Bool.and_eq_true, Bool.or_eq_true, Bool.or_eq_false_iff, Bool.and_eq_false_iff, Decidable.not_not, gt_iff_lt, ge_iff_le, Int.not_lt, Int.not_le, Int.reduceEq, true_or, or_true, false_or, or_false, true_and, and_true, false_and, and_false, Bool.false_eq_true, Bool.true_eq_false, eq_self, not_false_eq_true, not_true_eq_false] at h)) | (refine sc_or (fun h => ?_) (fun h => ?_) <;> (try simp only [beq_iff_eq, bne_iff_ne, ne_eq, decide_eq_true_eq, decide_eq_false_iff_not, beq_eq_false_iff_ne, bne_eq_false_iff_eq, Bool.not_eq_true', Bool.not_eq_false', Bool.not_eq_true, Bool.and_eq_true, Bool.or_eq_true, Bool.or_eq_false_iff, Bool.and_eq_false_iff, Decidable.not_not, gt_iff_lt, ge_iff_le, Int.not_lt, Int.not_le, Int.reduceEq, true_or, or_true, false_or, or_false, true_and, and_true, false_and, and_false, Bool.false_eq_true, Bool.true_eq_false, eq_self, not_false_eq_true, not_true_eq_false] at h)) | (refine cond_intro (fun h => ?_) (fun h => ?_) <;> (try simp only [beq_iff_eq, bne_iff_ne, ne_eq, decide_eq_true_eq, decide_eq_false_iff_not, beq_eq_false_iff_ne, bne_eq_false_iff_eq, Bool.not_eq_true', Bool.not_eq_false', Bool.not_eq_true, Bool.and_eq_true, Bool.or_eq_true, Bool.or_eq_false_iff, Bool.and_eq_false_iff, Decidable.not_not, gt_iff_lt, ge_iff_le, Int.not_lt, Int.not_le, Int.reduceEq, true_or, or_true, false_or, or_false, true_and, and_true, false_and, and_false, Bool.false_eq_true, Bool.true_eq_false, eq_self, not_false_eq_true, not_true_eq_false] at h)) | refine call_intro (hc) ?_ | (with_reducible apply And.intro; first | omega | (refine And.intro ?_ ?_ <;> omega)))
set_option maxHeartbeats 4000000 in
theorem eqSl_con (s t : Sl) : Con Try.prog 59 [s.e, t.e] (.bool (decide (s = t))) := by
  obtain ⟨x, c, d⟩ := s
  obtain ⟨x', c', d'⟩ := t
  have hc := eqCap_con c c'
  simp only [Cp.cs] at hc
  simp only [Sl.e]
  (refine Con.fn hm Try.func59 o59 (Nat.le_of_ble_eq_true rfl) rfl ?_; unfold k59)
  repeat' (first | simp (disch := omega) only [SS, Nat.reduceAdd, Nat.reduceEqDiff, Nat.reduceBEq, Nat.reduceLeDiff, reduceIte] | (refine sc_and (fun h => ?_) (fun h => ?_) <;> (try simp only [beq_iff_eq, bne_iff_ne, ne_eq, decide_eq_true_eq, decide_eq_false_iff_not, beq_eq_false_iff_ne, bne_eq_false_iff_eq, Bool.not_eq_true', Bool.not_eq_false', Bool.not_eq_true, Bool.and_eq_true, Bool.or_eq_true, Bool.or_eq_false_iff, Bool.and_eq_false_iff, Decidable.not_not, gt_iff_lt, ge_iff_le, Int.not_lt, Int.not_le, Int.reduceEq, true_or, or_true, false_or, or_false, true_and, and_true, false_and, and_false, Bool.false_eq_true, Bool.true_eq_false, eq_self, not_false_eq_true, not_true_eq_false] at h)) | (refine sc_or (fun h => ?_) (fun h => ?_) <;> (try simp only [beq_iff_eq, bne_iff_ne, ne_eq, decide_eq_true_eq, decide_eq_false_iff_not, beq_eq_false_iff_ne, bne_eq_false_iff_eq, Bool.not_eq_true', Bool.not_eq_false', Bool.not_eq_true, Bool.and_eq_true, Bool.or_eq_true, Bool.or_eq_false_iff, Bool.and_eq_false_iff, Decidable.not_not, gt_iff_lt, ge_iff_le, Int.not_lt, Int.not_le, Int.reduceEq, true_or, or_true, false_or, or_false, true_and, and_true, false_and, and_false, Bool.false_eq_true, Bool.true_eq_false, eq_self, not_false_eq_true, not_true_eq_false] at h)) | (refine cond_intro (fun h => ?_) (fun h => ?_) <;> (try simp only [beq_iff_eq, bne_iff_ne, ne_eq, decide_eq_true_eq, decide_eq_false_iff_not, beq_eq_false_iff_ne, bne_eq_false_iff_eq, Bool.not_eq_true', Bool.not_eq_false', Bool.not_eq_true, Bool.and_eq_true, Bool.or_eq_true, Bool.or_eq_false_iff, Bool.and_eq_false_iff, Decidable.not_not, gt_iff_lt, ge_iff_le, Int.not_lt, Int.not_le, Int.reduceEq, true_or, or_true, false_or, or_false, true_and, and_true, false_and, and_false, Bool.false_eq_true, Bool.true_eq_false, eq_self, not_false_eq_true, not_true_eq_false] at h)) | refine call_intro (hc) ?_ | (with_reducible apply And.intro; first | omega | (refine And.intro ?_ ?_ <;> omega)))
  all_goals (refine congrArg (fun b => some (SV.bool b)) ?_; simp_all)
theorem fill_get {α : Type} (f : α → SV) (z : SV) (xs : List α) {k : Nat} (h : k < xs.length) : ((xs.take k).map f ++ List.replicate (xs.length - k) z)[k]? = some z := by
  rw [List.getElem?_append_right (by simp; omega)]
  simp only [List.length_map, List.length_take]
  rw [show k - min k xs.length = 0 by omega, List.getElem?_replicate, if_pos (by omega)]
theorem fill_set {α : Type} (f : α → SV) (z : SV) (xs : List α) {k : Nat} (h : k < xs.length) : ((xs.take k).map f ++ List.replicate (xs.length - k) z).set k (f xs[k]) = (xs.take (k + 1)).map f ++ List.replicate (xs.length - (k + 1)) z := by
  have hl : ((xs.take k).map f).length = k := by simp; omega
  rw [List.set_append_right _ _ (by omega), hl, Nat.sub_self, show xs.length - k = (xs.length - (k + 1)) + 1 by omega, List.replicate_succ, List.set_cons_zero, List.take_add_one, List.getElem?_eq_getElem h, Option.toList_some, List.map_append, List.append_assoc]
  rfl
theorem toSls_con (xs : List Sl) (hx : xs.length ≤ 1048576) : Con Try.prog 19 [.list 11 (xs.map Sl.e)] (.list 11 (xs.map Sl.e)) := by
  (refine Con.fn hm Try.func19 o19 (Nat.le_of_ble_eq_true rfl) rfl ?_; unfold k19)
  simp only [SS, Nat.reduceAdd, Nat.reduceEqDiff, Nat.reduceBEq, Nat.reduceLeDiff, reduceIte, List.length_map, Int.toNat_natCast]
  refine And.intro (by omega) ?_
  refine loop_intro (fun s => ∃ k : Nat, k ≤ xs.length ∧ s = [(0, .list 11 (xs.map Sl.e)), (3, .own 62 11 ((xs.take k).map Sl.e ++ List.replicate (xs.length - k) zSl)), (4, .int .i64 k)]) (fun s => xs.length - natOf (get s 4)) ?_ ?_
  · exact ⟨0, by omega, by simp [zSl]⟩
  · rintro s ⟨k, hk, rfl⟩
    simp only [SS, Nat.reduceAdd, Nat.reduceEqDiff, Nat.reduceBEq, Nat.reduceLeDiff, reduceIte, List.length_map]
    refine cond_intro (fun h => ?_) (fun h => ?_)
    · have hlt : k < xs.length := by simpa using h
      have hsum : (xs.take k).length + (xs.length - k) = xs.length := by simp; omega
      simp only [SS, Nat.reduceAdd, Nat.reduceEqDiff, Nat.reduceBEq, Nat.reduceLeDiff, reduceIte, Int.toNat_natCast, getD_map Sl.e hlt, List.length_map, Int.natCast_nonneg, Int.ofNat_lt, hlt]
      refine call_intro (toSl_con xs[k]) ?_
      simp only [SS, Nat.reduceAdd, Nat.reduceEqDiff, Nat.reduceBEq, Nat.reduceLeDiff, reduceIte, List.length_append, List.length_map, List.length_replicate, hsum, Int.natCast_nonneg, Int.ofNat_lt, hlt, Int.toNat_natCast, fill_get Sl.e zSl xs hlt, Sl.e]
      rw [wrap_id (by omega) (by omega)]
      refine ⟨(by decide : 11 ≤ zSl.cells.length), ⟨k + 1, by omega, ?_⟩, by omega⟩
      have e1 := fill_set Sl.e zSl xs hlt
      show [(0, SV.list 11 (xs.map Sl.e)), (3, SV.own 62 11 (((xs.take k).map Sl.e ++ List.replicate (xs.length - k) zSl).set k xs[k].e)), (4, SV.int .i64 ((k : Int) + 1))] = _
      rw [e1]
      rfl
    · have hge : k = xs.length := by have : ¬ k < xs.length := by simpa using h
                                     omega
      subst hge
      simp only [SS, Nat.reduceAdd, Nat.reduceEqDiff, Nat.reduceBEq, Nat.reduceLeDiff, reduceIte, List.take_length, Nat.sub_self, List.replicate_zero]
def fnd (a : Int) (k : Nat) : List Sl → Int
  | [] => -1
  | s :: l => if s.at_ = a then k else fnd a (k + 1) l
theorem fnd_mem (a : Int) (k : Nat) (l : List Sl) : 0 ≤ fnd a k l ↔ a ∈ l.map Sl.at_ := by
  induction l generalizing k with
  | nil => simp [fnd]
  | cons s l ih =>
    unfold fnd
    split
    · rename_i h; simp [h]
    · rename_i h; rw [ih]; simp [Ne.symm h]
theorem find_con (xs : List Sl) (a : Int) (hx : xs.length ≤ 1048576) : Con Try.prog 57 [.list 11 (xs.map Sl.e), .int .i64 a] (.int .i64 (fnd a 0 xs)) := by
  (refine Con.fn hm Try.func57 o57 (Nat.le_of_ble_eq_true rfl) rfl ?_; unfold k57)
  simp only [SS, Nat.reduceAdd, Nat.reduceEqDiff, Nat.reduceBEq, Nat.reduceLeDiff, reduceIte]
  refine loop_intro (fun s => ∃ k : Nat, k ≤ xs.length ∧ fnd a 0 xs = fnd a k (xs.drop k) ∧ s = [(0, .list 11 (xs.map Sl.e)), (1, .int .i64 a), (5, .int .i64 k)]) (fun s => xs.length - natOf (get s 5)) ?_ ?_
  · exact ⟨0, by omega, rfl, rfl⟩
  · rintro s ⟨k, hk, hf, rfl⟩
    simp only [SS, Nat.reduceAdd, Nat.reduceEqDiff, Nat.reduceBEq, Nat.reduceLeDiff, reduceIte, List.length_map]
    refine cond_intro (fun h => ?_) (fun h => ?_)
    · have hlt : k < xs.length := by simpa using h
      have hd : xs.drop k = xs[k] :: xs.drop (k + 1) := List.drop_eq_getElem_cons hlt
      simp only [SS, Nat.reduceAdd, Nat.reduceEqDiff, Nat.reduceBEq, Nat.reduceLeDiff, reduceIte, Int.toNat_natCast, getD_map Sl.e hlt, List.length_map, Int.natCast_nonneg, Int.ofNat_lt, hlt, Sl.e]
      refine cond_intro (fun h => ?_) (fun h => ?_)
      · have h' : xs[k].at_ = a := by simpa using h
        simp only [SS, Nat.reduceAdd, Nat.reduceEqDiff, Nat.reduceBEq, Nat.reduceLeDiff, reduceIte]
        rw [hf, hd, fnd, if_pos h']
      · have h' : ¬ xs[k].at_ = a := by simpa using h
        simp (disch := omega) only [SS, Nat.reduceAdd, Nat.reduceEqDiff, Nat.reduceBEq, Nat.reduceLeDiff, reduceIte, wrap_id]
        refine ⟨⟨k + 1, by omega, ?_, by simp [Sl.e]⟩, by omega⟩
        rw [hf, hd, fnd, if_neg h']
    · have hge : k = xs.length := by have : ¬ k < xs.length := by simpa using h
                                     omega
      simp only [SS, Nat.reduceAdd, Nat.reduceEqDiff, Nat.reduceBEq, Nat.reduceLeDiff, reduceIte]
      rw [hf, hge]
      simp [fnd]
def okSl (was : Int) (seen : List Int) (s : Sl) : Prop := 0 ≤ s.depth ∧ s.depth ≤ was + 1 ∧ s.depth ≤ 12 ∧ 64 ≤ s.at_ ∧ s.at_ < 4096 ∧ s.at_ % 4 = 0 ∧ CapP s.c ∧ ¬ s.at_ ∈ seen
instance (was : Int) (seen : List Int) (s : Sl) : Decidable (okSl was seen s) := by unfold okSl; infer_instance
def okFrom (was : Int) (seen : List Int) : List Sl → Bool
  | [] => true
  | s :: l => decide (okSl was seen s) && okFrom s.depth (seen ++ [s.at_]) l
def treeB (xs : List Sl) : Bool := decide (xs.length ≤ 300) && okFrom (-1) [] xs
def Sl.wf (s : Sl) : Prop := s.c.rights ≤ 9223372036854775807
theorem okFrom_step (was : Int) (seen : List Int) (xs : List Sl) {k : Nat} (h : k < xs.length) : okFrom was seen (xs.drop k) = (decide (okSl was seen xs[k]) && okFrom xs[k].depth (seen ++ [xs[k].at_]) (xs.drop (k + 1))) := by
  rw [List.drop_eq_getElem_cons h, okFrom]
theorem take_ats (xs : List Sl) {k : Nat} (h : k < xs.length) : (xs.take (k + 1)).map Sl.at_ = (xs.take k).map Sl.at_ ++ [xs[k].at_] := by
  rw [List.take_add_one, List.getElem?_eq_getElem h, Option.toList_some, List.map_append]
  rfl
set_option maxHeartbeats 8000000 in
theorem treeOk_spec (xs : List Sl) (hx : xs.length ≤ 1048576) : Con Try.prog 18 [.list 11 (xs.map Sl.e)] (.bool (treeB xs)) := by
  (refine Con.fn hm Try.func18 o18 (Nat.le_of_ble_eq_true rfl) rfl ?_; unfold k18)
  simp only [SS, Nat.reduceAdd, Nat.reduceEqDiff, Nat.reduceBEq, Nat.reduceLeDiff, reduceIte, List.length_map]
  refine cond_intro (fun h => ?_) (fun h => ?_)
  · have h' : ¬ xs.length ≤ 300 := by have : (xs.length : Int) > 300 := by simpa using h
                                      omega
    simp only [SS, Nat.reduceAdd, Nat.reduceEqDiff, Nat.reduceBEq, Nat.reduceLeDiff, reduceIte]
    simp [treeB, h']
  · have h3 : xs.length ≤ 300 := by have : ¬ (xs.length : Int) > 300 := by simpa using h
                                    omega
    simp only [SS, Nat.reduceAdd, Nat.reduceEqDiff, Nat.reduceBEq, Nat.reduceLeDiff, reduceIte]
    refine loop_intro (fun s => ∃ (k : Nat) (was : Int), k ≤ xs.length ∧ -1 ≤ was ∧ was ≤ 12 ∧ okFrom (-1) [] xs = okFrom was ((xs.take k).map Sl.at_) (xs.drop k) ∧ s = [(0, .list 11 (xs.map Sl.e)), (3, .int .i64 was), (4, .int .i64 k)]) (fun s => xs.length - natOf (get s 4)) ?_ ?_
    · exact ⟨0, -1, by omega, by omega, by omega, rfl, rfl⟩
    · rintro s ⟨k, was, hk, hw0, hw1, hf, rfl⟩
      simp only [SS, Nat.reduceAdd, Nat.reduceEqDiff, Nat.reduceBEq, Nat.reduceLeDiff, reduceIte, List.length_map]
      refine cond_intro (fun h => ?_) (fun h => ?_)
      · have hlt : k < xs.length := by simpa using h
        have hstep := okFrom_step was ((xs.take k).map Sl.at_) xs hlt
        have hcap := capOk_spec xs[k].c
        have hfind := find_con (xs.take k) xs[k].at_ (by simp; omega)
        have hmem := fnd_mem xs[k].at_ 0 (xs.take k)
        simp only [Cp.cs] at hcap
        have hsl : (xs.map Sl.e).take k = (xs.take k).map Sl.e := by rw [List.map_take]
        have bad : ¬ okSl was ((xs.take k).map Sl.at_) xs[k] → some (SV.bool false) = some (SV.bool (treeB xs)) := fun hb => by
          rw [treeB, hf, hstep, decide_eq_false hb]; simp
        simp only [SS, Nat.reduceAdd, Nat.reduceEqDiff, Nat.reduceBEq, Nat.reduceLeDiff, reduceIte, Int.toNat_natCast, getD_map Sl.e hlt, List.length_map, Int.natCast_nonneg, Int.ofNat_lt, hlt, Sl.e]
        repeat' (first | simp (disch := omega) only [SS, Nat.reduceAdd, Nat.reduceEqDiff, Nat.reduceBEq, Nat.reduceLeDiff, reduceIte, wrap_id, Int.tmod_eq_emod_of_nonneg, List.length_map, hsl, Int.toNat_natCast, List.drop_zero, Nat.sub_zero, Int.toNat_zero] | (refine sc_and (fun h => ?_) (fun h => ?_) <;> (((try simp only [beq_iff_eq, bne_iff_ne, ne_eq, decide_eq_true_eq, decide_eq_false_iff_not, beq_eq_false_iff_ne, bne_eq_false_iff_eq, Bool.not_eq_true', Bool.not_eq_false', Bool.not_eq_true, Bool.and_eq_true, Bool.or_eq_true, Bool.or_eq_false_iff, Bool.and_eq_false_iff, Decidable.not_not, gt_iff_lt, ge_iff_le, Int.not_lt, Int.not_le, Int.reduceEq, true_or, or_true, false_or, or_false, true_and, and_true, false_and, and_false, Bool.false_eq_true, Bool.true_eq_false, eq_self, not_false_eq_true, not_true_eq_false] at h)) <;> (try (exfalso; omega)))) | (refine sc_or (fun h => ?_) (fun h => ?_) <;> (((try simp only [beq_iff_eq, bne_iff_ne, ne_eq, decide_eq_true_eq, decide_eq_false_iff_not, beq_eq_false_iff_ne, bne_eq_false_iff_eq, Bool.not_eq_true', Bool.not_eq_false', Bool.not_eq_true, Bool.and_eq_true, Bool.or_eq_true, Bool.or_eq_false_iff, Bool.and_eq_false_iff, Decidable.not_not, gt_iff_lt, ge_iff_le, Int.not_lt, Int.not_le, Int.reduceEq, true_or, or_true, false_or, or_false, true_and, and_true, false_and, and_false, Bool.false_eq_true, Bool.true_eq_false, eq_self, not_false_eq_true, not_true_eq_false] at h)) <;> (try (exfalso; omega)))) | (refine cond_intro (fun h => ?_) (fun h => ?_) <;> (((try simp only [beq_iff_eq, bne_iff_ne, ne_eq, decide_eq_true_eq, decide_eq_false_iff_not, beq_eq_false_iff_ne, bne_eq_false_iff_eq, Bool.not_eq_true', Bool.not_eq_false', Bool.not_eq_true, Bool.and_eq_true, Bool.or_eq_true, Bool.or_eq_false_iff, Bool.and_eq_false_iff, Decidable.not_not, gt_iff_lt, ge_iff_le, Int.not_lt, Int.not_le, Int.reduceEq, true_or, or_true, false_or, or_false, true_and, and_true, false_and, and_false, Bool.false_eq_true, Bool.true_eq_false, eq_self, not_false_eq_true, not_true_eq_false] at h)) <;> (try (exfalso; omega)))) | refine call_intro (hcap) ?_ | refine call_intro (hfind) ?_ | (with_reducible apply And.intro; first | omega | (refine And.intro ?_ ?_ <;> omega)))
        all_goals first
          | (refine bad (fun hh => ?_); obtain ⟨q1, q2, q3, q4, q5, q6, q7, q8⟩ := hh; first | omega | (exact absurd q7 (by assumption)) | (exact q8 (hmem.1 (by assumption))))
          | skip
        refine ⟨⟨k + 1, xs[k].depth, by omega, by omega, by omega, ?_, rfl⟩, by omega⟩
        have hgood : okSl was ((xs.take k).map Sl.at_) xs[k] := ⟨by omega, by omega, by omega, by omega, by omega, by omega, by assumption, fun hm => by have := hmem.2 hm; omega⟩
        rw [hf, hstep, decide_eq_true hgood, take_ats xs hlt, Bool.true_and]
      · have hge : k = xs.length := by have : ¬ k < xs.length := by simpa using h
                                       omega
        simp only [SS, Nat.reduceAdd, Nat.reduceEqDiff, Nat.reduceBEq, Nat.reduceLeDiff, reduceIte]
        rw [treeB, hf, hge]
        simp [okFrom, h3]
set_option maxHeartbeats 8000000 in
theorem isTree_con (xs : List Sl) (hx : xs.length ≤ 1048576) (hwf : ∀ s ∈ xs, Sl.wf s) : Con Try.prog 58 [.list 11 (xs.map Sl.e)] (.bool (treeB xs)) := by
  (refine Con.fn hm Try.func58 o58 (Nat.le_of_ble_eq_true rfl) rfl ?_; unfold k58)
  simp only [SS, Nat.reduceAdd, Nat.reduceEqDiff, Nat.reduceBEq, Nat.reduceLeDiff, reduceIte, List.length_map]
  refine loop_intro (fun s => ∃ (k : Nat) (was : Int), k ≤ xs.length ∧ -1 ≤ was ∧ was ≤ 12 ∧ okFrom (-1) [] xs = okFrom was ((xs.take k).map Sl.at_) (xs.drop k) ∧ s = [(0, .list 11 (xs.map Sl.e)), (3, .imap ((xs.take k).map Sl.at_)), (4, .int .i64 was), (8, .list 11 (xs.map Sl.e)), (9, .int .i64 xs.length), (10, .int .i64 k)]) (fun s => xs.length - natOf (get s 10)) ?_ ?_
  · exact ⟨0, -1, by omega, by omega, by omega, rfl, rfl⟩
  · rintro s ⟨k, was, hk, hw0, hw1, hf, rfl⟩
    simp only [SS, Nat.reduceAdd, Nat.reduceEqDiff, Nat.reduceBEq, Nat.reduceLeDiff, reduceIte, List.length_map]
    refine cond_intro (fun h => ?_) (fun h => ?_)
    · have hlt : k < xs.length := by simpa using h
      have hstep := okFrom_step was ((xs.take k).map Sl.at_) xs hlt
      have hcap := capOk_impl xs[k].c (hwf _ (List.getElem_mem hlt))
      simp only [Cp.cs] at hcap
      have bad : ¬ okSl was ((xs.take k).map Sl.at_) xs[k] → some (SV.bool false) = some (SV.bool (treeB xs)) := fun hb => by
        rw [treeB, hf, hstep, decide_eq_false hb]; simp
      have ht : xs[k].at_ < 0 ∨ xs[k].at_.tmod 4 = xs[k].at_ % 4 := by
        rcases Int.lt_or_le xs[k].at_ 0 with h | h
        · exact .inl h
        · exact .inr (Int.tmod_eq_emod_of_nonneg h)
      have hmin : ∀ a b : Int, (if b < a then b else a) ≤ a ∧ (if b < a then b else a) ≤ b ∧ ((if b < a then b else a) = a ∨ (if b < a then b else a) = b) := fun a b => by split <;> omega
      have hmin1 := hmin 12 (was + 1)
      generalize hmv : (if was + 1 < 12 then was + 1 else 12 : Int) = mv at hmin1
      simp only [SS, Nat.reduceAdd, Nat.reduceEqDiff, Nat.reduceBEq, Nat.reduceLeDiff, reduceIte, Int.toNat_natCast, getD_map Sl.e hlt, List.length_map, Int.natCast_nonneg, Int.ofNat_lt, hlt, Sl.e]
      repeat' (first | simp (disch := omega) only [SS, Nat.reduceAdd, Nat.reduceEqDiff, Nat.reduceBEq, Nat.reduceLeDiff, reduceIte, wrap_id, hmv, List.length_map, Int.toNat_natCast] | (refine sc_and (fun h => ?_) (fun h => ?_) <;> ((((try simp only [beq_iff_eq, bne_iff_ne, ne_eq, decide_eq_true_eq, decide_eq_false_iff_not, beq_eq_false_iff_ne, bne_eq_false_iff_eq, Bool.not_eq_true', Bool.not_eq_false', Bool.not_eq_true, Bool.and_eq_true, Bool.or_eq_true, Bool.or_eq_false_iff, Bool.and_eq_false_iff, Decidable.not_not, gt_iff_lt, ge_iff_le, Int.not_lt, Int.not_le, Int.reduceEq, true_or, or_true, false_or, or_false, true_and, and_true, false_and, and_false, Bool.false_eq_true, Bool.true_eq_false, eq_self, not_false_eq_true, not_true_eq_false] at h) <;> (try simp only [inB, beq_iff_eq, bne_iff_ne, ne_eq, decide_eq_true_eq, decide_eq_false_iff_not, beq_eq_false_iff_ne, bne_eq_false_iff_eq, Bool.not_eq_true', Bool.not_eq_false', Bool.not_eq_true, Bool.and_eq_true, Bool.or_eq_true, Bool.or_eq_false_iff, Bool.and_eq_false_iff, Decidable.not_not, gt_iff_lt, ge_iff_le, Int.not_lt, Int.not_le, Int.reduceEq, true_or, or_true, false_or, or_false, true_and, and_true, false_and, and_false, Bool.false_eq_true, Bool.true_eq_false, eq_self, not_false_eq_true, not_true_eq_false] at h))) <;> (try (exfalso; omega)))) | (refine sc_or (fun h => ?_) (fun h => ?_) <;> ((((try simp only [beq_iff_eq, bne_iff_ne, ne_eq, decide_eq_true_eq, decide_eq_false_iff_not, beq_eq_false_iff_ne, bne_eq_false_iff_eq, Bool.not_eq_true', Bool.not_eq_false', Bool.not_eq_true, Bool.and_eq_true, Bool.or_eq_true, Bool.or_eq_false_iff, Bool.and_eq_false_iff, Decidable.not_not, gt_iff_lt, ge_iff_le, Int.not_lt, Int.not_le, Int.reduceEq, true_or, or_true, false_or, or_false, true_and, and_true, false_and, and_false, Bool.false_eq_true, Bool.true_eq_false, eq_self, not_false_eq_true, not_true_eq_false] at h) <;> (try simp only [inB, beq_iff_eq, bne_iff_ne, ne_eq, decide_eq_true_eq, decide_eq_false_iff_not, beq_eq_false_iff_ne, bne_eq_false_iff_eq, Bool.not_eq_true', Bool.not_eq_false', Bool.not_eq_true, Bool.and_eq_true, Bool.or_eq_true, Bool.or_eq_false_iff, Bool.and_eq_false_iff, Decidable.not_not, gt_iff_lt, ge_iff_le, Int.not_lt, Int.not_le, Int.reduceEq, true_or, or_true, false_or, or_false, true_and, and_true, false_and, and_false, Bool.false_eq_true, Bool.true_eq_false, eq_self, not_false_eq_true, not_true_eq_false] at h))) <;> (try (exfalso; omega)))) | (refine cond_intro (fun h => ?_) (fun h => ?_) <;> ((((try simp only [beq_iff_eq, bne_iff_ne, ne_eq, decide_eq_true_eq, decide_eq_false_iff_not, beq_eq_false_iff_ne, bne_eq_false_iff_eq, Bool.not_eq_true', Bool.not_eq_false', Bool.not_eq_true, Bool.and_eq_true, Bool.or_eq_true, Bool.or_eq_false_iff, Bool.and_eq_false_iff, Decidable.not_not, gt_iff_lt, ge_iff_le, Int.not_lt, Int.not_le, Int.reduceEq, true_or, or_true, false_or, or_false, true_and, and_true, false_and, and_false, Bool.false_eq_true, Bool.true_eq_false, eq_self, not_false_eq_true, not_true_eq_false] at h) <;> (try simp only [inB, beq_iff_eq, bne_iff_ne, ne_eq, decide_eq_true_eq, decide_eq_false_iff_not, beq_eq_false_iff_ne, bne_eq_false_iff_eq, Bool.not_eq_true', Bool.not_eq_false', Bool.not_eq_true, Bool.and_eq_true, Bool.or_eq_true, Bool.or_eq_false_iff, Bool.and_eq_false_iff, Decidable.not_not, gt_iff_lt, ge_iff_le, Int.not_lt, Int.not_le, Int.reduceEq, true_or, or_true, false_or, or_false, true_and, and_true, false_and, and_false, Bool.false_eq_true, Bool.true_eq_false, eq_self, not_false_eq_true, not_true_eq_false] at h))) <;> (try (exfalso; omega)))) | refine call_intro (hcap) ?_ | refine call_intro (in_con _ _ _) ?_ | (with_reducible apply And.intro; first | omega | (refine And.intro ?_ ?_ <;> omega)))
      all_goals first
        | (refine bad (fun hh => ?_); obtain ⟨q1, q2, q3, q4, q5, q6, q7, q8⟩ := hh; first | omega | (exact absurd q7 (by assumption)) | (exact q8 (by assumption)))
        | skip
      refine ⟨⟨k + 1, xs[k].depth, by omega, by omega, by omega, ?_, by rw [take_ats xs hlt]; rfl⟩, by omega⟩
      have hgood : okSl was ((xs.take k).map Sl.at_) xs[k] := ⟨by omega, by omega, by omega, by omega, by omega, by omega, by assumption, by assumption⟩
      rw [hf, hstep, decide_eq_true hgood, take_ats xs hlt, Bool.true_and]
    · have hge : k = xs.length := by have : ¬ k < xs.length := by simpa using h
                                     omega
      simp only [SS, Nat.reduceAdd, Nat.reduceEqDiff, Nat.reduceBEq, Nat.reduceLeDiff, reduceIte, List.length_map]
      rw [treeB, hf, hge]
      simp [okFrom]
      omega
theorem implTreeOk_con (xs : List Sl) (hx : xs.length ≤ 1048576) (hwf : ∀ s ∈ xs, Sl.wf s) : Con Try.prog 20 [.list 11 (xs.map Sl.e)] (.bool (treeB xs)) := by
  (refine Con.fn hm Try.func20 o20 (Nat.le_of_ble_eq_true rfl) rfl ?_; unfold k20)
  repeat' (first | simp (disch := omega) only [SS, Nat.reduceAdd, Nat.reduceEqDiff, Nat.reduceBEq, Nat.reduceLeDiff, reduceIte] | (refine sc_and (fun h => ?_) (fun h => ?_) <;> (try simp only [beq_iff_eq, bne_iff_ne, ne_eq, decide_eq_true_eq, decide_eq_false_iff_not, beq_eq_false_iff_ne, bne_eq_false_iff_eq, Bool.not_eq_true', Bool.not_eq_false', Bool.not_eq_true, Bool.and_eq_true, Bool.or_eq_true, Bool.or_eq_false_iff, Bool.and_eq_false_iff, Decidable.not_not, gt_iff_lt, ge_iff_le, Int.not_lt, Int.not_le, Int.reduceEq, true_or, or_true, false_or, or_false, true_and, and_true, false_and, and_false, Bool.false_eq_true, Bool.true_eq_false, eq_self, not_false_eq_true, not_true_eq_false] at h)) | (refine sc_or (fun h => ?_) (fun h => ?_) <;> (try simp only [beq_iff_eq, bne_iff_ne, ne_eq, decide_eq_true_eq, decide_eq_false_iff_not, beq_eq_false_iff_ne, bne_eq_false_iff_eq, Bool.not_eq_true', Bool.not_eq_false', Bool.not_eq_true, Bool.and_eq_true, Bool.or_eq_true, Bool.or_eq_false_iff, Bool.and_eq_false_iff, Decidable.not_not, gt_iff_lt, ge_iff_le, Int.not_lt, Int.not_le, Int.reduceEq, true_or, or_true, false_or, or_false, true_and, and_true, false_and, and_false, Bool.false_eq_true, Bool.true_eq_false, eq_self, not_false_eq_true, not_true_eq_false] at h)) | (refine cond_intro (fun h => ?_) (fun h => ?_) <;> (try simp only [beq_iff_eq, bne_iff_ne, ne_eq, decide_eq_true_eq, decide_eq_false_iff_not, beq_eq_false_iff_ne, bne_eq_false_iff_eq, Bool.not_eq_true', Bool.not_eq_false', Bool.not_eq_true, Bool.and_eq_true, Bool.or_eq_true, Bool.or_eq_false_iff, Bool.and_eq_false_iff, Decidable.not_not, gt_iff_lt, ge_iff_le, Int.not_lt, Int.not_le, Int.reduceEq, true_or, or_true, false_or, or_false, true_and, and_true, false_and, and_false, Bool.false_eq_true, Bool.true_eq_false, eq_self, not_false_eq_true, not_true_eq_false] at h)) | refine call_intro (isTree_con xs hx hwf) ?_ | (with_reducible apply And.intro; first | omega | (refine And.intro ?_ ?_ <;> omega)))
theorem szSls_le (xs : List Sl) (hx : xs.length ≤ 1048576) : Con Try.prog 17 [.list 11 (xs.map Sl.e), .int .i64 1048576] (.int .i64 (1048576 - xs.length)) := by
  (refine Con.fn hm Try.func17 o17 (Nat.le_of_ble_eq_true rfl) rfl ?_; unfold k17)
  repeat' (first | simp (disch := omega) only [SS, Nat.reduceAdd, Nat.reduceEqDiff, Nat.reduceBEq, Nat.reduceLeDiff, reduceIte, wrap_id, List.length_map] | (refine sc_and (fun h => ?_) (fun h => ?_) <;> (((try simp only [beq_iff_eq, bne_iff_ne, ne_eq, decide_eq_true_eq, decide_eq_false_iff_not, beq_eq_false_iff_ne, bne_eq_false_iff_eq, Bool.not_eq_true', Bool.not_eq_false', Bool.not_eq_true, Bool.and_eq_true, Bool.or_eq_true, Bool.or_eq_false_iff, Bool.and_eq_false_iff, Decidable.not_not, gt_iff_lt, ge_iff_le, Int.not_lt, Int.not_le, Int.reduceEq, true_or, or_true, false_or, or_false, true_and, and_true, false_and, and_false, Bool.false_eq_true, Bool.true_eq_false, eq_self, not_false_eq_true, not_true_eq_false] at h)) <;> (try (exfalso; omega)))) | (refine sc_or (fun h => ?_) (fun h => ?_) <;> (((try simp only [beq_iff_eq, bne_iff_ne, ne_eq, decide_eq_true_eq, decide_eq_false_iff_not, beq_eq_false_iff_ne, bne_eq_false_iff_eq, Bool.not_eq_true', Bool.not_eq_false', Bool.not_eq_true, Bool.and_eq_true, Bool.or_eq_true, Bool.or_eq_false_iff, Bool.and_eq_false_iff, Decidable.not_not, gt_iff_lt, ge_iff_le, Int.not_lt, Int.not_le, Int.reduceEq, true_or, or_true, false_or, or_false, true_and, and_true, false_and, and_false, Bool.false_eq_true, Bool.true_eq_false, eq_self, not_false_eq_true, not_true_eq_false] at h)) <;> (try (exfalso; omega)))) | (refine cond_intro (fun h => ?_) (fun h => ?_) <;> (((try simp only [beq_iff_eq, bne_iff_ne, ne_eq, decide_eq_true_eq, decide_eq_false_iff_not, beq_eq_false_iff_ne, bne_eq_false_iff_eq, Bool.not_eq_true', Bool.not_eq_false', Bool.not_eq_true, Bool.and_eq_true, Bool.or_eq_true, Bool.or_eq_false_iff, Bool.and_eq_false_iff, Decidable.not_not, gt_iff_lt, ge_iff_le, Int.not_lt, Int.not_le, Int.reduceEq, true_or, or_true, false_or, or_false, true_and, and_true, false_and, and_false, Bool.false_eq_true, Bool.true_eq_false, eq_self, not_false_eq_true, not_true_eq_false] at h)) <;> (try (exfalso; omega)))) | (with_reducible apply And.intro; first | omega | (refine And.intro ?_ ?_ <;> omega)))
theorem szSls_gt (xs : List Sl) (hx : ¬ xs.length ≤ 1048576) (hmax : xs.length ≤ 9223372036854775807) : Con Try.prog 17 [.list 11 (xs.map Sl.e), .int .i64 1048576] (.int .i64 (-1)) := by
  (refine Con.fn hm Try.func17 o17 (Nat.le_of_ble_eq_true rfl) rfl ?_; unfold k17)
  repeat' (first | simp (disch := omega) only [SS, Nat.reduceAdd, Nat.reduceEqDiff, Nat.reduceBEq, Nat.reduceLeDiff, reduceIte, wrap_id, List.length_map] | (refine sc_and (fun h => ?_) (fun h => ?_) <;> (((try simp only [beq_iff_eq, bne_iff_ne, ne_eq, decide_eq_true_eq, decide_eq_false_iff_not, beq_eq_false_iff_ne, bne_eq_false_iff_eq, Bool.not_eq_true', Bool.not_eq_false', Bool.not_eq_true, Bool.and_eq_true, Bool.or_eq_true, Bool.or_eq_false_iff, Bool.and_eq_false_iff, Decidable.not_not, gt_iff_lt, ge_iff_le, Int.not_lt, Int.not_le, Int.reduceEq, true_or, or_true, false_or, or_false, true_and, and_true, false_and, and_false, Bool.false_eq_true, Bool.true_eq_false, eq_self, not_false_eq_true, not_true_eq_false] at h)) <;> (try (exfalso; omega)))) | (refine sc_or (fun h => ?_) (fun h => ?_) <;> (((try simp only [beq_iff_eq, bne_iff_ne, ne_eq, decide_eq_true_eq, decide_eq_false_iff_not, beq_eq_false_iff_ne, bne_eq_false_iff_eq, Bool.not_eq_true', Bool.not_eq_false', Bool.not_eq_true, Bool.and_eq_true, Bool.or_eq_true, Bool.or_eq_false_iff, Bool.and_eq_false_iff, Decidable.not_not, gt_iff_lt, ge_iff_le, Int.not_lt, Int.not_le, Int.reduceEq, true_or, or_true, false_or, or_false, true_and, and_true, false_and, and_false, Bool.false_eq_true, Bool.true_eq_false, eq_self, not_false_eq_true, not_true_eq_false] at h)) <;> (try (exfalso; omega)))) | (refine cond_intro (fun h => ?_) (fun h => ?_) <;> (((try simp only [beq_iff_eq, bne_iff_ne, ne_eq, decide_eq_true_eq, decide_eq_false_iff_not, beq_eq_false_iff_ne, bne_eq_false_iff_eq, Bool.not_eq_true', Bool.not_eq_false', Bool.not_eq_true, Bool.and_eq_true, Bool.or_eq_true, Bool.or_eq_false_iff, Bool.and_eq_false_iff, Decidable.not_not, gt_iff_lt, ge_iff_le, Int.not_lt, Int.not_le, Int.reduceEq, true_or, or_true, false_or, or_false, true_and, and_true, false_and, and_false, Bool.false_eq_true, Bool.true_eq_false, eq_self, not_false_eq_true, not_true_eq_false] at h)) <;> (try (exfalso; omega)))) | (with_reducible apply And.intro; first | omega | (refine And.intro ?_ ?_ <;> omega)))
theorem eqSls_con (xs ys : List Sl) (hx : xs.length ≤ 1048576) : Con Try.prog 21 [.list 11 (xs.map Sl.e), .list 11 (ys.map Sl.e)] (.bool (decide (xs = ys))) := by
  (refine Con.fn hm Try.func21 o21 (Nat.le_of_ble_eq_true rfl) rfl ?_; unfold k21)
  simp only [SS, Nat.reduceAdd, Nat.reduceEqDiff, Nat.reduceBEq, Nat.reduceLeDiff, reduceIte, List.length_map]
  refine cond_intro (fun h => ?_) (fun h => ?_)
  · have h' : xs ≠ ys := fun e => by subst e; simp at h
    simp only [SS, Nat.reduceAdd, Nat.reduceEqDiff, Nat.reduceBEq, Nat.reduceLeDiff, reduceIte]
    simp [h']
  · have hl : xs.length = ys.length := by have : ¬ ((xs.length : Int) != ys.length) = true := by simp [h]
                                          simp at this; omega
    simp only [SS, Nat.reduceAdd, Nat.reduceEqDiff, Nat.reduceBEq, Nat.reduceLeDiff, reduceIte]
    refine loop_intro (fun s => ∃ k : Nat, k ≤ xs.length ∧ xs.take k = ys.take k ∧ s = [(0, .list 11 (xs.map Sl.e)), (1, .list 11 (ys.map Sl.e)), (5, .int .i64 k)]) (fun s => xs.length - natOf (get s 5)) ?_ ?_
    · exact ⟨0, by omega, rfl, rfl⟩
    · rintro s ⟨k, hk, hf, rfl⟩
      simp only [SS, Nat.reduceAdd, Nat.reduceEqDiff, Nat.reduceBEq, Nat.reduceLeDiff, reduceIte, List.length_map]
      refine cond_intro (fun h => ?_) (fun h => ?_)
      · have hlt : k < xs.length := by simpa using h
        have hlt2 : k < ys.length := by omega
        have hc := eqSl_con xs[k] ys[k]
        simp only [Sl.e] at hc
        simp only [SS, Nat.reduceAdd, Nat.reduceEqDiff, Nat.reduceBEq, Nat.reduceLeDiff, reduceIte, Int.toNat_natCast, getD_map Sl.e hlt, getD_map Sl.e hlt2, List.length_map, Int.natCast_nonneg, Int.ofNat_lt, hlt, hlt2, Sl.e]
        refine call_intro hc ?_
        simp only [SS, Nat.reduceAdd, Nat.reduceEqDiff, Nat.reduceBEq, Nat.reduceLeDiff, reduceIte]
        refine cond_intro (fun h => ?_) (fun h => ?_)
        · have h' : xs ≠ ys := fun e => by subst e; simp at h
          simp only [SS, Nat.reduceAdd, Nat.reduceEqDiff, Nat.reduceBEq, Nat.reduceLeDiff, reduceIte]
          simp [h']
        · have h' : xs[k] = ys[k] := by simpa using h
          simp (disch := omega) only [SS, Nat.reduceAdd, Nat.reduceEqDiff, Nat.reduceBEq, Nat.reduceLeDiff, reduceIte, wrap_id]
          refine ⟨⟨k + 1, by omega, ?_, rfl⟩, by omega⟩
          rw [List.take_add_one, List.take_add_one, hf, List.getElem?_eq_getElem hlt, List.getElem?_eq_getElem hlt2, h']
      · have hge : k = xs.length := by have : ¬ k < xs.length := by simpa using h
                                       omega
        have h' : xs = ys := by
          have e1 : xs.take k = xs := by rw [hge, List.take_length]
          have e2 : ys.take k = ys := by rw [hge, hl, List.take_length]
          rw [← e1, hf, e2]
        simp only [SS, Nat.reduceAdd, Nat.reduceEqDiff, Nat.reduceBEq, Nat.reduceLeDiff, reduceIte]
        simp [h']
theorem treeOk_law (xs : List Sl) (hwf : ∀ s ∈ xs, Sl.wf s) (hmax : xs.length ≤ 9223372036854775807) : Con Try.prog 3 [.list 11 (xs.map Sl.e)] (.bool true) := by
  (refine Con.fn hm Try.func3 o3 (Nat.le_of_ble_eq_true rfl) rfl ?_; unfold k3)
  by_cases hl : xs.length ≤ 1048576
  · repeat' (first | simp (disch := omega) only [SS, Nat.reduceAdd, Nat.reduceEqDiff, Nat.reduceBEq, Nat.reduceLeDiff, reduceIte] | (refine sc_and (fun h => ?_) (fun h => ?_) <;> (((try simp only [beq_iff_eq, bne_iff_ne, ne_eq, decide_eq_true_eq, decide_eq_false_iff_not, beq_eq_false_iff_ne, bne_eq_false_iff_eq, Bool.not_eq_true', Bool.not_eq_false', Bool.not_eq_true, Bool.and_eq_true, Bool.or_eq_true, Bool.or_eq_false_iff, Bool.and_eq_false_iff, Decidable.not_not, gt_iff_lt, ge_iff_le, Int.not_lt, Int.not_le, Int.reduceEq, true_or, or_true, false_or, or_false, true_and, and_true, false_and, and_false, Bool.false_eq_true, Bool.true_eq_false, eq_self, not_false_eq_true, not_true_eq_false] at h)) <;> (try (exfalso; omega)))) | (refine sc_or (fun h => ?_) (fun h => ?_) <;> (((try simp only [beq_iff_eq, bne_iff_ne, ne_eq, decide_eq_true_eq, decide_eq_false_iff_not, beq_eq_false_iff_ne, bne_eq_false_iff_eq, Bool.not_eq_true', Bool.not_eq_false', Bool.not_eq_true, Bool.and_eq_true, Bool.or_eq_true, Bool.or_eq_false_iff, Bool.and_eq_false_iff, Decidable.not_not, gt_iff_lt, ge_iff_le, Int.not_lt, Int.not_le, Int.reduceEq, true_or, or_true, false_or, or_false, true_and, and_true, false_and, and_false, Bool.false_eq_true, Bool.true_eq_false, eq_self, not_false_eq_true, not_true_eq_false] at h)) <;> (try (exfalso; omega)))) | (refine cond_intro (fun h => ?_) (fun h => ?_) <;> (((try simp only [beq_iff_eq, bne_iff_ne, ne_eq, decide_eq_true_eq, decide_eq_false_iff_not, beq_eq_false_iff_ne, bne_eq_false_iff_eq, Bool.not_eq_true', Bool.not_eq_false', Bool.not_eq_true, Bool.and_eq_true, Bool.or_eq_true, Bool.or_eq_false_iff, Bool.and_eq_false_iff, Decidable.not_not, gt_iff_lt, ge_iff_le, Int.not_lt, Int.not_le, Int.reduceEq, true_or, or_true, false_or, or_false, true_and, and_true, false_and, and_false, Bool.false_eq_true, Bool.true_eq_false, eq_self, not_false_eq_true, not_true_eq_false] at h)) <;> (try (exfalso; omega)))) | refine call_intro (szSls_le xs hl) ?_ | refine call_intro (toSls_con xs hl) ?_ | refine call_intro (treeOk_spec xs hl) ?_ | refine call_intro (implTreeOk_con xs hl hwf) ?_ | refine call_intro (eqSls_con xs xs hl) ?_ | (with_reducible apply And.intro; first | omega | (refine And.intro ?_ ?_ <;> omega)))
  · repeat' (first | simp (disch := omega) only [SS, Nat.reduceAdd, Nat.reduceEqDiff, Nat.reduceBEq, Nat.reduceLeDiff, reduceIte] | (refine sc_and (fun h => ?_) (fun h => ?_) <;> (((try simp only [beq_iff_eq, bne_iff_ne, ne_eq, decide_eq_true_eq, decide_eq_false_iff_not, beq_eq_false_iff_ne, bne_eq_false_iff_eq, Bool.not_eq_true', Bool.not_eq_false', Bool.not_eq_true, Bool.and_eq_true, Bool.or_eq_true, Bool.or_eq_false_iff, Bool.and_eq_false_iff, Decidable.not_not, gt_iff_lt, ge_iff_le, Int.not_lt, Int.not_le, Int.reduceEq, true_or, or_true, false_or, or_false, true_and, and_true, false_and, and_false, Bool.false_eq_true, Bool.true_eq_false, eq_self, not_false_eq_true, not_true_eq_false] at h)) <;> (try (exfalso; omega)))) | (refine sc_or (fun h => ?_) (fun h => ?_) <;> (((try simp only [beq_iff_eq, bne_iff_ne, ne_eq, decide_eq_true_eq, decide_eq_false_iff_not, beq_eq_false_iff_ne, bne_eq_false_iff_eq, Bool.not_eq_true', Bool.not_eq_false', Bool.not_eq_true, Bool.and_eq_true, Bool.or_eq_true, Bool.or_eq_false_iff, Bool.and_eq_false_iff, Decidable.not_not, gt_iff_lt, ge_iff_le, Int.not_lt, Int.not_le, Int.reduceEq, true_or, or_true, false_or, or_false, true_and, and_true, false_and, and_false, Bool.false_eq_true, Bool.true_eq_false, eq_self, not_false_eq_true, not_true_eq_false] at h)) <;> (try (exfalso; omega)))) | (refine cond_intro (fun h => ?_) (fun h => ?_) <;> (((try simp only [beq_iff_eq, bne_iff_ne, ne_eq, decide_eq_true_eq, decide_eq_false_iff_not, beq_eq_false_iff_ne, bne_eq_false_iff_eq, Bool.not_eq_true', Bool.not_eq_false', Bool.not_eq_true, Bool.and_eq_true, Bool.or_eq_true, Bool.or_eq_false_iff, Bool.and_eq_false_iff, Decidable.not_not, gt_iff_lt, ge_iff_le, Int.not_lt, Int.not_le, Int.reduceEq, true_or, or_true, false_or, or_false, true_and, and_true, false_and, and_false, Bool.false_eq_true, Bool.true_eq_false, eq_self, not_false_eq_true, not_true_eq_false] at h)) <;> (try (exfalso; omega)))) | refine call_intro (szSls_gt xs hl hmax) ?_ | (with_reducible apply And.intro; first | omega | (refine And.intro ?_ ?_ <;> omega)))
end Go.Proofs.Ytalfojoimnhmlaa
