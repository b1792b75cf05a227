/- In every drawn pair of ranges the stated relations between WordMeet, WordIn, WordUp and WordAligned hold, for all bytes that the draw is made of. -/
import Derived.Test.YtjagpgomndndcaaPFnRangex3
namespace Go.Proofs.Ytjagpgomndndcaa.Pure.FnRange_
open Go.RowKit Go.Proofs.Ytjagpgomndndcaa.PFnRange Go.Proofs.YtjagpgomndndcaaW.PrintWords Go.Proofs.YtjagpgomndndcaaW.PrintLast Go.Proofs.YtjagpgomndndcaaW.PrintMore
theorem in_eq (n lo hi : Int) : impl_in.f n lo hi = some (decide (lo ≤ n ∧ n ≤ hi)) := by
  unfold impl_in.f
  split
  · rw [Option.some.injEq, Bool.eq_iff_iff, decide_eq_true_eq, decide_eq_true_eq]; omega
  · rw [Option.some.injEq, Bool.eq_iff_iff, decide_eq_true_eq]; constructor
    · intro h; cases h
    · intro h; omega
theorem fine_eq (a b : Int) : spec_l1Fine.f a b = some (decide (0 ≤ a ∧ a ≤ 4096 ∧ 1 ≤ b ∧ b ≤ 4096)) := by
  unfold spec_l1Fine.f
  repeat' split
  all_goals rw [Option.some.injEq, Bool.eq_iff_iff]
  all_goals simp only [decide_eq_true_eq, Bool.false_eq_true, false_iff]
  all_goals omega
theorem range_eq (a b : Int) : impl_isRange.f a b = some (decide (0 ≤ a ∧ a ≤ 4096 ∧ 1 ≤ b ∧ b ≤ 4096)) := by
  unfold impl_isRange.f
  rw [in_eq, in_eq]
  simp only [Option.bind_some]
  split
  · rename_i h
    simp only [decide_eq_true_eq] at h
    rw [Option.some.injEq, Bool.eq_iff_iff, decide_eq_true_eq, decide_eq_true_eq]; omega
  · rename_i h
    simp only [decide_eq_true_eq] at h
    rw [Option.some.injEq, Bool.eq_iff_iff, decide_eq_true_eq]; constructor
    · intro h; cases h
    · intro h; omega

theorem rd_in (l : List Int) (P : Int → Prop) (h : ∀ x ∈ l, P x) (i : Int) (h0 : 0 ≤ i) (h1 : i < l.length) : P (rd l i) := by
  unfold rd
  have hl : i.toNat < l.length := by omega
  rw [List.getD_eq_getElem?_getD, List.getElem?_eq_getElem hl]
  exact h _ (List.getElem_mem hl)
theorem xor_nonneg (x y : Int) (h0 : 0 ≤ x) (h1 : x < 4611686018427387904) (h2 : 0 ≤ y) (h3 : y < 4611686018427387904) : 0 ≤ Go.bits .xor .i64 x y := by
  obtain ⟨a, rfl⟩ := Int.eq_ofNat_of_zero_le h0
  obtain ⟨b, rfl⟩ := Int.eq_ofNat_of_zero_le h2
  have ha : a < 2 ^ 62 := by omega
  have hb : b < 2 ^ 62 := by omega
  have hx : a ^^^ b < 2 ^ 62 := Nat.xor_lt_two_pow ha hb
  have ha' : a % 2 ^ 64 = a := Nat.mod_eq_of_lt (by omega)
  have hb' : b % 2 ^ 64 = b := Nat.mod_eq_of_lt (by omega)
  have e : Go.bits .xor .i64 (a : Int) (b : Int) = IntKind.i64.wrap ((a ^^^ b : Nat) : Int) := by
    simp only [Go.bits, BitVec.ofInt_natCast, BitVec.toNat_xor, BitVec.toNat_ofNat, show IntKind.i64.bits = 64 from rfl, ha', hb']
  rw [e, IntKind.wrap_i64]
  omega
/-- A reader over bytes: what pick gives lies in its range, and the count goes up by one. -/
theorem pick_ok (l : List Int) (hl : ∀ x ∈ l, 0 ≤ x ∧ x ≤ 255) (hn : l.length ≤ 2000) (p n : Int) (h0 : 0 ≤ p) (h1 : p < 1000000000000) (k : Nat) (hn1 : 1 ≤ n) (hn2 : n < 1000000000000) :
    ∃ r, spec_l25Rd_pick.f (k + 1) l p n = some (r, p + 1) ∧ 0 ≤ r ∧ r < n := by
  have w1 : wrap64 (p + 1) = p + 1 := by unfold wrap64; omega
  have w2 : wrap64 (p + 1 - 1) = p := by unfold wrap64; omega
  unfold spec_l25Rd_pick.f
  rw [if_neg (by omega), w1]
  simp only [spec_l25Rd_pick.j0, w2]
  by_cases he : (l.length : Int) = 0
  · rw [if_pos (by simpa using he)]
    exact ⟨0, rfl, by omega, by omega⟩
  rw [if_neg (by simpa using he)]
  have tm : ∀ x : Int, 0 ≤ x → 0 ≤ Int.tmod x n ∧ Int.tmod x n < n := fun x hx => by
    rw [Int.tmod_eq_emod_of_nonneg hx]
    exact ⟨Int.emod_nonneg _ (by omega), Int.emod_lt_of_pos _ (by omega)⟩
  have rb : ∀ i : Int, 0 ≤ i → i < l.length → 0 ≤ rd l i ∧ rd l i ≤ 255 := fun i a b => rd_in l _ hl i a b
  by_cases hp : p < (l.length : Int)
  · have hr := rb p h0 hp
    have hw : wrap64 (rd l p) = rd l p := by unfold wrap64; omega
    rw [if_pos hp, if_pos h0, if_neg (by omega), hw]
    exact ⟨_, rfl, tm _ hr.1⟩
  rw [if_neg hp, if_neg he]
  have m1 : 0 ≤ Int.tmod p l.length ∧ Int.tmod p l.length < l.length := by
    rw [Int.tmod_eq_emod_of_nonneg h0]
    exact ⟨Int.emod_nonneg _ he, Int.emod_lt_of_pos _ (by omega)⟩
  rw [if_pos m1.1, if_pos m1.2]
  have w3 : wrap64 (wrap64 (p * 7) + 3) = p * 7 + 3 := by unfold wrap64; omega
  rw [w3]
  have m2 : 0 ≤ Int.tmod (p * 7 + 3) l.length ∧ Int.tmod (p * 7 + 3) l.length < l.length := by
    rw [Int.tmod_eq_emod_of_nonneg (by omega)]
    exact ⟨Int.emod_nonneg _ he, Int.emod_lt_of_pos _ (by omega)⟩
  rw [if_pos m2.1, if_pos m2.2, if_neg (by omega)]
  have r1 := rb _ m1.1 m1.2
  have r2 := rb _ m2.1 m2.2
  have q0 : 0 ≤ Int.tdiv p l.length ∧ Int.tdiv p l.length ≤ p := by
    rw [Int.tdiv_eq_ediv_of_nonneg h0]
    exact ⟨Int.ediv_nonneg h0 (by omega), Int.ediv_le_self _ h0⟩
  refine ⟨_, rfl, tm _ ?_⟩
  generalize Int.tdiv p l.length = q at *
  generalize rd l (Int.tmod p l.length) = u at *
  generalize rd l (Int.tmod (p * 7 + 3) l.length) = v at *
  have e : wrap64 (wrap64 (wrap64 (wrap64 (wrap64 u * 131) + wrap64 (wrap64 v * 1117)) + wrap64 (p * 29)) + wrap64 (wrap64 q * 53)) = u * 131 + v * 1117 + p * 29 + q * 53 := by unfold wrap64; omega
  rw [e]
  generalize hx : u * 131 + v * 1117 + p * 29 + q * 53 = x
  have hx0 : 0 ≤ x ∧ x < 1000000000000000 := by omega
  have e2 : wrap64 (Int.tdiv x 64) = x / 64 := by
    rw [Int.tdiv_eq_ediv_of_nonneg hx0.1]; unfold wrap64; omega
  rw [e2]
  exact xor_nonneg x (x / 64) (by omega) (by omega) (by omega) (by omega)
theorem num_ok (l : List Int) (hl : ∀ x ∈ l, 0 ≤ x ∧ x ≤ 255) (hn : l.length ≤ 2000) (p : Int) (h0 : 0 ≤ p) (h1 : p < 1000000000000) (k : Nat) (xs : List Int) (hx : 1 ≤ xs.length) (hx2 : xs.length < 1000000) :
    ∃ r, spec_l25Rd_num.f (k + 1) l p xs = some (r, p + 1) ∧ r ∈ xs := by
  obtain ⟨i, hi, a, b⟩ := pick_ok l hl hn p xs.length h0 h1 k (by omega) (by omega)
  unfold spec_l25Rd_num.f
  rw [hi]
  simp only [Option.bind_some]
  rw [if_pos a, if_pos b]
  exact ⟨_, rfl, rd_in xs (· ∈ xs) (fun x h => h) i a b⟩
theorem open_ok (l : List Int) (hl : ∀ x ∈ l, 0 ≤ x ∧ x ≤ 255) : ∃ m, spec_l25Open.f l = some (m, 0) ∧ (∀ x ∈ m, 0 ≤ x ∧ x ≤ 255) ∧ m.length ≤ 2000 := by
  unfold spec_l25Open.f
  split
  · rw [if_pos (by omega)]
    exact ⟨_, rfl, fun x h => hl x (List.mem_of_mem_take h), by rw [List.length_take]; omega⟩
  · exact ⟨_, rfl, hl, by omega⟩

theorem draw_ok (l : List Int) (hl : ∀ x ∈ l, 0 ≤ x ∧ x ≤ 255) : ∃ r, spec_DrawWordMeet.f 1 l = some r := by
  obtain ⟨m, hm, hb, hn⟩ := open_ok l hl
  unfold spec_DrawWordMeet.f spec_l1Addr.f spec_l1Size.f
  rw [hm]
  simp only [Option.bind_some]
  obtain ⟨r0, e0, _⟩ := pick_ok m hb hn 0 300 (by omega) (by omega) 0 (by omega) (by omega)
  rw [e0]
  simp only [Option.bind_some]
  obtain ⟨r1, e1, _⟩ := num_ok m hb hn (0 + 1) (by omega) (by omega) 0 [0, 4, 8, 16, 31, 32, 64, 128, 160, 256, 4096, 4097, (-1), 9223372036854775807, r0] (by simp) (by simp)
  rw [e1]
  simp only [Option.bind_some]
  obtain ⟨r2, e2, _⟩ := num_ok m hb hn (0 + 1 + 1) (by omega) (by omega) 0 [1, 2, 4, 8, 16, 32, 64, 128, 4096, 0, (-1), 4097, 9223372036854775807, 4, 8, 16] (by simp) (by simp)
  rw [e2]
  simp only [Option.bind_some]
  obtain ⟨r3, e3, _⟩ := pick_ok m hb hn (0 + 1 + 1 + 1) 300 (by omega) (by omega) 0 (by omega) (by omega)
  rw [e3]
  simp only [Option.bind_some]
  obtain ⟨r4, e4, _⟩ := num_ok m hb hn (0 + 1 + 1 + 1 + 1) (by omega) (by omega) 0 [0, 4, 8, 16, 31, 32, 64, 128, 160, 256, 4096, 4097, (-1), 9223372036854775807, r3] (by simp) (by simp)
  rw [e4]
  simp only [Option.bind_some]
  obtain ⟨r5, e5, _⟩ := num_ok m hb hn (0 + 1 + 1 + 1 + 1 + 1) (by omega) (by omega) 0 [1, 2, 4, 8, 16, 32, 64, 128, 4096, 0, (-1), 4097, 9223372036854775807, 4, 8, 16] (by simp) (by simp)
  rw [e5]
  exact ⟨_, rfl⟩
def rg (a b : Int) : Bool := decide (0 ≤ a ∧ a ≤ 4096 ∧ 1 ≤ b ∧ b ≤ 4096)
def mt (a s b t : Int) : Bool := decide ((0 ≤ a ∧ a ≤ 4096 ∧ 1 ≤ s ∧ s ≤ 4096) ∧ (0 ≤ b ∧ b ≤ 4096 ∧ 1 ≤ t ∧ t ≤ 4096) ∧ a < b + t ∧ b < a + s)
def inn (a s b t : Int) : Bool := decide ((0 ≤ a ∧ a ≤ 4096 ∧ 1 ≤ s ∧ s ≤ 4096) ∧ (0 ≤ b ∧ b ≤ 4096 ∧ 1 ≤ t ∧ t ≤ 4096) ∧ b ≤ a ∧ a + s ≤ b + t)
def al (a s : Int) : Bool := decide ((0 ≤ a ∧ a ≤ 4096 ∧ 1 ≤ s ∧ s ≤ 4096) ∧ a % s = 0)
theorem w_sum {a b : Int} (h : 0 ≤ a ∧ a ≤ 4096 ∧ 1 ≤ b ∧ b ≤ 4096) : wrap64 (a + b) = a + b := by unfold wrap64; omega
theorem meet_eq (a s b t : Int) : impl_WordMeet.f a s b t = some (mt a s b t) := by
  unfold impl_WordMeet.f mt
  rw [range_eq, range_eq]
  by_cases h1 : 0 ≤ a ∧ a ≤ 4096 ∧ 1 ≤ s ∧ s ≤ 4096
  · by_cases h2 : 0 ≤ b ∧ b ≤ 4096 ∧ 1 ≤ t ∧ t ≤ 4096
    · rw [decide_eq_true h1, decide_eq_true h2, w_sum h1, w_sum h2]
      simp only [Option.bind_some]
      rw [if_pos trivial, if_pos trivial]
      split <;> (rw [Option.some.injEq, Bool.eq_iff_iff]; simp only [decide_eq_true_eq, Bool.false_eq_true, false_iff]; omega)
    · rw [decide_eq_true h1, decide_eq_false h2]
      simp only [Option.bind_some]
      rw [if_pos trivial, if_neg (by decide), decide_eq_false (fun h => h2 h.2.1)]
  · rw [decide_eq_false h1]
    simp only [Option.bind_some]
    rw [if_neg (by decide), decide_eq_false (fun h => h1 h.1)]
theorem in4_eq (a s b t : Int) : impl_WordIn.f a s b t = some (inn a s b t) := by
  unfold impl_WordIn.f inn
  rw [range_eq, range_eq]
  by_cases h1 : 0 ≤ a ∧ a ≤ 4096 ∧ 1 ≤ s ∧ s ≤ 4096
  · by_cases h2 : 0 ≤ b ∧ b ≤ 4096 ∧ 1 ≤ t ∧ t ≤ 4096
    · rw [decide_eq_true h1, decide_eq_true h2, w_sum h1, w_sum h2]
      simp only [Option.bind_some]
      rw [if_pos trivial, if_pos trivial]
      split <;> (rw [Option.some.injEq, Bool.eq_iff_iff]; simp only [decide_eq_true_eq, Bool.false_eq_true, false_iff]; omega)
    · rw [decide_eq_true h1, decide_eq_false h2]
      simp only [Option.bind_some]
      rw [if_pos trivial, if_neg (by decide), decide_eq_false (fun h => h2 h.2.1)]
  · rw [decide_eq_false h1]
    simp only [Option.bind_some]
    rw [if_neg (by decide), decide_eq_false (fun h => h1 h.1)]
theorem smeet_eq (a s b t : Int) : spec_WordMeet.f a s b t = some (mt a s b t) := by
  rw [← meet_eq]; unfold spec_WordMeet.f impl_WordMeet.f; rw [range_eq, fine_eq, range_eq, fine_eq]
theorem al_eq (a s : Int) : impl_WordAligned.f a s = some (al a s) := by
  unfold impl_WordAligned.f al
  rw [range_eq]
  by_cases h1 : 0 ≤ a ∧ a ≤ 4096 ∧ 1 ≤ s ∧ s ≤ 4096
  · rw [decide_eq_true h1]
    simp only [Option.bind_some]
    rw [if_pos trivial, if_neg (by omega), Int.tmod_eq_emod_of_nonneg h1.1, Option.some.injEq, Bool.eq_iff_iff]
    simp only [decide_eq_true_eq, beq_iff_eq]
    exact ⟨fun h => ⟨h1, h⟩, fun h => h.2⟩
  · rw [decide_eq_false h1]
    simp only [Option.bind_some]
    rw [if_neg (by decide), decide_eq_false (fun h => h1 h.1)]
theorem sal_eq (a s : Int) : spec_WordAligned.f a s = some (al a s) := by
  rw [← al_eq]; unfold spec_WordAligned.f impl_WordAligned.f; rw [range_eq, fine_eq]
theorem up_div (a b : Int) (hb : 1 ≤ b) : (a + b - 1) / b * b = a + (-a) % b := by
  have h1 := Int.emod_add_mul_ediv (-a) b
  have h2 : 0 ≤ (-a) % b := Int.emod_nonneg _ (by omega)
  have h3 : (-a) % b < b := Int.emod_lt_of_pos _ (by omega)
  generalize (-a) % b = d at *
  generalize (-a) / b = q at *
  have e : a + b - 1 = (b - 1 - d) + b * (-q) := by rw [Int.mul_neg]; omega
  rw [e, Int.add_mul_ediv_left _ _ (by omega), Int.ediv_eq_zero_of_lt (by omega) (by omega), Int.zero_add, Int.neg_mul, Int.mul_comm]
  omega
/-- The next multiple: some answer for all; in a range the next one indeed. -/
theorem up_eq (a b : Int) : ∃ u, impl_WordUp.f a b = some u ∧ ((0 ≤ a ∧ a ≤ 4096 ∧ 1 ≤ b ∧ b ≤ 4096) → a ≤ u ∧ u < a + b ∧ u % b = 0) := by
  unfold impl_WordUp.f
  rw [range_eq]
  by_cases h : 0 ≤ a ∧ a ≤ 4096 ∧ 1 ≤ b ∧ b ≤ 4096
  · have h2 : 0 ≤ (-a) % b := Int.emod_nonneg _ (by omega)
    have h3 : (-a) % b < b := Int.emod_lt_of_pos _ (by omega)
    rw [decide_eq_true h]
    simp only [Option.bind_some]
    have e1 : wrap64 (wrap64 (a + b) - 1) = a + b - 1 := by unfold wrap64; omega
    have e2 : Int.tdiv (a + b - 1) b = (a + b - 1) / b := Int.tdiv_eq_ediv_of_nonneg (by omega)
    have e3 := up_div a b (by omega)
    have e5 : 0 ≤ (a + b - 1) / b := Int.ediv_nonneg (by omega) (by omega)
    have e6 : (a + b - 1) / b ≤ a + b - 1 := Int.ediv_le_self _ (by omega)
    have e4 : wrap64 ((a + b - 1) / b) = (a + b - 1) / b := by unfold wrap64; omega
    have e7 : ((a + b - 1) / b * b) % b = 0 := Int.mul_emod_left _ _
    rw [if_pos trivial, if_neg (by omega), e1, e2, e4]
    have e8 : wrap64 ((a + b - 1) / b * b) = (a + b - 1) / b * b := by rw [e3]; unfold wrap64; omega
    exact ⟨_, rfl, fun _ => by rw [e8]; exact ⟨by omega, by omega, e7⟩⟩
  · rw [decide_eq_false h]
    exact ⟨_, rfl, fun h2 => absurd h2 h⟩
def P2 (s : Int) : Prop := s = 1 ∨ s = 2 ∨ s = 4 ∨ s = 8 ∨ s = 16 ∨ s = 32 ∨ s = 64 ∨ s = 128 ∨ s = 256 ∨ s = 512 ∨ s = 1024 ∨ s = 2048 ∨ s = 4096
theorem size_eq (i : Int) (h : 0 ≤ i ∧ i ≤ 12) : ∃ r, impl_WordSize.f i = some r ∧ P2 r := by
  have h13 : i = 0 ∨ i = 1 ∨ i = 2 ∨ i = 3 ∨ i = 4 ∨ i = 5 ∨ i = 6 ∨ i = 7 ∨ i = 8 ∨ i = 9 ∨ i = 10 ∨ i = 11 ∨ i = 12 := by omega
  unfold P2
  rcases h13 with rfl | rfl | rfl | rfl | rfl | rfl | rfl | rfl | rfl | rfl | rfl | rfl | rfl
  all_goals exact ⟨_, rfl, by decide +kernel⟩
theorem nest (a s b t : Int) (hs : 0 < s) (h1 : a % s = 0) (h2 : b % t = 0) (h3 : t % s = 0) (m1 : a < b + t) (m2 : b < a + s) : b ≤ a ∧ a + s ≤ b + t := by
  obtain ⟨x, rfl⟩ := Int.dvd_of_emod_eq_zero h1
  obtain ⟨z, rfl⟩ := Int.dvd_of_emod_eq_zero h3
  obtain ⟨y, rfl⟩ := Int.dvd_of_emod_eq_zero h2
  rw [Int.mul_assoc] at *
  have k1 : s * (z * y) < s * (x + 1) := by rw [Int.mul_add, Int.mul_one]; exact m2
  have k2 : s * x < s * (z * y + z) := by rw [Int.mul_add]; exact m1
  have l1 := Int.lt_of_mul_lt_mul_left k1 (by omega)
  have l2 := Int.lt_of_mul_lt_mul_left k2 (by omega)
  have n1 : s * (z * y) ≤ s * x := Int.mul_le_mul_of_nonneg_left (by omega) (by omega)
  have n2 : s * (x + 1) ≤ s * (z * y + z) := Int.mul_le_mul_of_nonneg_left (by omega) (by omega)
  rw [Int.mul_add, Int.mul_add, Int.mul_one] at n2
  exact ⟨n1, n2⟩
theorem p2_div (s t : Int) (hs : P2 s) (ht : P2 t) : t % s = 0 ∨ s % t = 0 := by
  unfold P2 at hs ht
  rcases hs with rfl | rfl | rfl | rfl | rfl | rfl | rfl | rfl | rfl | rfl | rfl | rfl | rfl <;> rcases ht with rfl | rfl | rfl | rfl | rfl | rfl | rfl | rfl | rfl | rfl | rfl | rfl | rfl <;> decide
theorem p2_pos {s : Int} (hs : P2 s) : 0 < s := by unfold P2 at hs; omega
/-- The last line: of two aligned ranges of such sizes that meet one is within the other. -/
theorem last_ok (a s b t : Int) (ha : al a s = true) (hb : al b t = true) (hm : mt a s b t = true) (hs : P2 s) (ht : P2 t) : inn a s b t = true ∨ inn b t a s = true := by
  unfold al at ha hb
  unfold mt at hm
  unfold inn
  simp only [decide_eq_true_eq] at *
  rcases p2_div s t hs ht with h | h
  · exact .inl ⟨ha.1, hb.1, nest a s b t (p2_pos hs) ha.2 hb.2 h hm.2.2.1 hm.2.2.2⟩
  · exact .inr ⟨hb.1, ha.1, nest b t a s (p2_pos ht) hb.2 ha.2 h hm.2.2.2 hm.2.2.1⟩
theorem loops (a s b t : Int) (m : Bool) (hm : m = mt a s b t) (ha : al a s = true) (hb : al b t = true) (d : Nat) : ∀ k, d < k →
    (∀ (two : Bool) (i : Int), 0 ≤ i → i ≤ 13 → 15 * (13 - i) ≤ d → (two = true → P2 s ∧ P2 t) → laws_FnRange.l0 k a s b t m two i = some true) ∧
    (∀ (two : Bool) (i j : Int), 0 ≤ i → i ≤ 12 → 0 ≤ j → j ≤ 13 → 15 * (13 - i) - 1 - j ≤ d → (two = true → P2 s ∧ P2 t) → laws_FnRange.l1 k a s b t m two i j = some true) := by
  induction d with
  | zero =>
    intro k hk
    obtain ⟨k, rfl⟩ : ∃ q, k = q + 1 := ⟨k - 1, by omega⟩
    refine ⟨fun two i h0 h1 hd hi => ?_, fun two i j h0 h1 h2 h3 hd hi => by omega⟩
    simp only [laws_FnRange.l0]
    rw [if_neg (by omega), in4_eq, in4_eq]
    split
    · rename_i h2
      split
      · rename_i h3
        have hl := last_ok a s b t ha hb (by rw [← hm]; exact h3) (hi h2).1 (hi h2).2
        simp only [Option.bind_some]
        split
        · rfl
        · rename_i h4
          rcases hl with h5 | h5
          · exact absurd h5 h4
          · rw [h5]
      · rfl
    · rfl
  | succ d ih =>
    intro k hk
    obtain ⟨k, rfl⟩ : ∃ q, k = q + 1 := ⟨k - 1, by omega⟩
    obtain ⟨ih0, ih1⟩ := ih k (by omega)
    refine ⟨fun two i h0 h1 hd hi => ?_, fun two i j h0 h1 h2 h3 hd hi => ?_⟩
    · simp only [laws_FnRange.l0]
      by_cases h12 : i ≤ 12
      · rw [if_pos h12]
        exact ih1 two i 0 h0 h12 (by omega) (by omega) (by omega) hi
      · rw [if_neg h12, in4_eq, in4_eq]
        split
        · rename_i h2
          split
          · rename_i h3
            have hl := last_ok a s b t ha hb (by rw [← hm]; exact h3) (hi h2).1 (hi h2).2
            simp only [Option.bind_some]
            split
            · rfl
            · rename_i h4
              rcases hl with h5 | h5
              · exact absurd h5 h4
              · rw [h5]
          · rfl
        · rfl
    · simp only [laws_FnRange.l1]
      have wj : wrap64 (j + 1) = j + 1 := by unfold wrap64; omega
      have wi : wrap64 (i + 1) = i + 1 := by unfold wrap64; omega
      by_cases h12 : j ≤ 12
      · rw [if_pos h12, wj]
        by_cases h2t : two = true
        · rw [if_pos h2t]
          exact ih1 true i (j + 1) h0 h1 (by omega) (by omega) (by omega) (fun _ => hi h2t)
        · rw [if_neg h2t]
          obtain ⟨r, hr, pr⟩ := size_eq i ⟨h0, h1⟩
          obtain ⟨q, hq, pq⟩ := size_eq j ⟨h2, h12⟩
          rw [hr, hq]
          simp only [Option.bind_some]
          split
          · rename_i e
            refine ih1 _ i (j + 1) h0 h1 (by omega) (by omega) (by omega) (fun e2 => ?_)
            have e3 : q = t := by simpa using e2
            exact ⟨e ▸ pr, e3 ▸ pq⟩
          · exact ih1 _ i (j + 1) h0 h1 (by omega) (by omega) (by omega) (fun e2 => by cases e2)
      · rw [if_neg h12, wi]
        exact ih0 two (i + 1) (by omega) (by omega) (by omega) hi
theorem main : laws_FnRange.Pure := by
  intro l _ _ hl0
  have hl : ∀ x ∈ l, 0 ≤ x ∧ x ≤ 255 := fun x hx => by
    have h := hl0 x hx
    simp only [Lit.wf, Bool.and_eq_true, decide_eq_true_eq] at h
    exact h
  refine ⟨1000, ?_⟩
  unfold laws_FnRange.f
  split
  · rfl
  obtain ⟨⟨a, s, b, t⟩, hr⟩ := draw_ok l hl
  rw [at_rounds (g := fun k => spec_DrawWordMeet.f k l) (fun k => spec_DrawWordMeet.mono l k) (show 1 ≤ 1000 by omega) hr]
  simp only [Option.bind_some]
  rw [meet_eq, smeet_eq, meet_eq, in4_eq]
  simp only [Option.bind_some]
  have c1 : (mt a s b t != mt a s b t) = false := by simp
  have c2 : (mt a s b t != mt b t a s) = false := by
    rw [bne_eq_false_iff_eq]
    unfold mt
    rw [decide_eq_decide]
    exact ⟨fun h => ⟨h.2.1, h.1, h.2.2.2, h.2.2.1⟩, fun h => ⟨h.2.1, h.1, h.2.2.2, h.2.2.1⟩⟩
  rw [c1, c2, if_neg (by decide), if_neg (by decide)]
  have c3 : inn a s b t = true → mt a s b t = true := by
    unfold inn mt
    simp only [decide_eq_true_eq]
    intro h
    omega
  have hj : laws_FnRange.j0 1000 a s b t (mt a s b t) false = some true := by
    simp only [laws_FnRange.j0]
    rw [if_neg (by decide)]
    obtain ⟨u, hu, hup⟩ := up_eq a s
    rw [hu, sal_eq]
    simp only [Option.bind_some]
    have h1 : laws_FnRange.j1 999 a s b t (mt a s b t) false = some true := by
      simp only [laws_FnRange.j1]
      rw [if_neg (by decide), al_eq, al_eq, sal_eq, sal_eq]
      simp only [Option.bind_some]
      have j2t : laws_FnRange.j2 998 a s b t (mt a s b t) true = some true := by simp only [laws_FnRange.j2]; rfl
      split
      · rename_i ha
        split
        · rename_i hb
          rw [hb]
          show laws_FnRange.j2 998 a s b t (mt a s b t) false = some true
          simp only [laws_FnRange.j2]
          rw [if_neg (by decide)]
          exact (loops a s b t _ rfl ha hb 195 997 (by omega)).1 false 0 (by omega) (by omega) (by omega) (fun h => by cases h)
        · exact j2t
      · exact j2t
    split
    · rename_i h2
      split
      · rename_i h3
        split
        · rename_i h4
          have hs : 1 ≤ s ∧ s ≤ 4096 := by unfold al at h2; simp only [decide_eq_true_eq] at h2; omega
          obtain ⟨q1, q2, q3⟩ := hup ⟨h3, h4, hs.1, hs.2⟩
          have wu : wrap64 (u - a) = u - a := by unfold wrap64; omega
          rw [if_neg (by omega), wu, if_neg (by omega), if_neg (by omega), Int.tmod_eq_emod_of_nonneg (by omega), q3]
          exact h1
        · exact h1
      · exact h1
    · exact h1
  split
  · rename_i h
    rw [c3 h]
    exact (by rw [c3 h] at hj; exact hj)
  · exact hj

end Go.Proofs.Ytjagpgomndndcaa.Pure.FnRange_
namespace Go.Proofs.Ytjagpgomndndcaa.Pure
theorem FnRange : Go.Proofs.Ytjagpgomndndcaa.PFnRange.laws_FnRange.Pure := FnRange_.main
end Go.Proofs.Ytjagpgomndndcaa.Pure
