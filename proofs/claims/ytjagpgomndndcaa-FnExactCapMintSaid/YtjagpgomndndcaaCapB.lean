/- Words on capabilities, and the contracts of the small functions under the predicates: each call returns the plain value that is defined here; no condition. -/
import Derived.Test.YtjagpgomndndcaaCapAx2
namespace Go.Proofs.Ytjagpgomndndcaa.CapB
open Go.RowKit Go.Proofs.YtjagpgomndndcaaW.PrintWords Go.Proofs.YtjagpgomndndcaaW.PrintLast Go.Proofs.YtjagpgomndndcaaW.PrintMore
set_option linter.unusedVariables false
set_option linter.unusedSimpArgs false
open Go.Proofs.Ytjagpgomndndcaa.CapA
theorem q_same {P : Program} {f : FuncId} {args : Array Value} {W : World} {v : Value} {S : World → Prop}
    (h : Calls P f args W fun e w' => e = .returned v ∧ W = w') (hS : S W) : Calls P f args W fun e w' => e = .returned v ∧ S w' :=
  h.mono fun _ _ ⟨he, hw⟩ => ⟨he, hw ▸ hS⟩
theorem q_d1 {P : Program} {f : FuncId} {args : Array Value} {w : World} {n : Nat} {v : Value}
    (h : Calls P f args (w.drewN n) fun e w' => e = .returned v ∧ Drawn0 (w.drewN n) w') : Calls P f args (w.drewN n) fun e w'' => e = .returned v ∧ ∃ m, w'' = w.drewN m :=
  h.mono fun _ _ ⟨he, hd⟩ => ⟨he, by obtain ⟨m, rfl⟩ := hd.out; exact ⟨n + m, by rw [World.drewN_drewN]⟩⟩
theorem q_d2 {P : Program} {f : FuncId} {args : Array Value} {w : World} {q n : Nat} {v : Value}
    (h : Calls P f args (w.drewN (q + n)) fun e w' => e = .returned v ∧ Drawn0 (w.drewN (q + n)) w') : Calls P f args (w.drewN (q + n)) fun e w'' => e = .returned v ∧ ∃ m, w'' = w.drewN (q + m) :=
  h.mono fun _ _ ⟨he, hd⟩ => ⟨he, by obtain ⟨m, rfl⟩ := hd.out; exact ⟨n + m, by rw [World.drewN_drewN, Nat.add_assoc]⟩⟩
/-- A world of a class. -/
structure Sub (I : World → Prop) where
  W : World
  h : I W
/-- A region that draws its order, whose operations keep a class of worlds (they read, and what they call makes memory at the most): one walk, in the text's order. -/
theorem wp_region_grow {P : Program} {id : Nat} {Q : Exit → Act → World → Prop} {a : Act} {w : World} {l : List Oper} (I : World → Prop) (hm : P.follows .mixedOrders = true) (hB : Region.lexB .any l.toArray = true) (hI : I w.drew)
    (h : wpQuiet P l.toArray (fun w' => ∃ x : Sub I, w' = x.W) (fun a' => ∀ w', (∃ x : Sub I, w' = x.W) → Q .normal a' w') l a) : (Code.region id l.toArray true).wp P Q a w :=
  wp_region_quiet (C := fun w' => ∃ x : Sub I, w' = x.W) hm hB ⟨⟨w.drew, hI⟩, rfl⟩ (by simpa using h)
theorem sub_calls {P : Program} {f : FuncId} {args : Array Value} {W : World} {v : Value} {I : World → Prop}
    (h : Calls P f args W fun e w' => e = .returned v ∧ Below W.heap.size W w') (hI : ∀ w', Below W.heap.size W w' → I w') : Calls P f args W fun e w' => e = .returned v ∧ ∃ y : Sub I, w' = y.W :=
  h.mono fun _ _ ⟨he, hb⟩ => ⟨he, ⟨_, hI _ hb⟩, rfl⟩
/-! ### the plain words -/
def inB (n lo hi : Int) : Bool := decide (lo ≤ n ∧ n ≤ hi)
theorem inB_t {n lo hi : Int} (h : lo ≤ n ∧ n ≤ hi) : inB n lo hi = true := decide_eq_true h
theorem inB_f {n lo hi : Int} (h : ¬ (lo ≤ n ∧ n ≤ hi)) : inB n lo hi = false := decide_eq_false h
def mxr (k : Int) : Int := if k = 4 then 7 else if k = 5 ∨ k = 6 then 3 else 0
def bdB (k : Int) : Bool := decide (k = 4 ∨ k = 5)
def capSz (a b : Int) : Int := if a = 1 ∧ 2 ≤ b ∧ b ≤ 11 then shl .i64 1 b else if a = 2 ∧ 1 ≤ b ∧ b ≤ 5 then shl .i64 4 b else if a = 3 ∧ b = 0 then 32 else if (a = 4 ∨ a = 5) ∧ b = 0 then 4 else if a = 6 ∧ 0 ≤ b ∧ b ≤ 6 then shl .i64 1 b else 0
def szr (k b : Int) : Int := if k = 7 ∧ b = 0 then 32 else capSz k b
def wsz (n : Int) : Int := if 0 ≤ n ∧ n ≤ 12 then shl .i64 1 n else 0
/-- A capability that is valid, field by field: kind, address, bits, rights, badge, guard, guard's bits, free, original. -/
def CapOkP (k a b r g u v f : Int) (o : Bool) : Prop :=
  0 < szr k b ∧ 0 ≤ r ∧ r ≤ mxr k ∧ 0 ≤ a ∧ a + szr k b ≤ 4096 ∧ a % szr k b = 0 ∧ 0 ≤ g ∧ g ≤ 65535 ∧ (g = 0 ∨ k = 4 ∨ k = 5) ∧ 0 ≤ v ∧ v ≤ 8 ∧ (v = 0 ∨ k = 2) ∧ 0 ≤ u ∧ u < shl .i64 1 v ∧
    (f = 0 ∨ k = 1 ∧ 1 ≤ f ∧ f ≤ szr k b) ∧ (o = true → k ≠ 7) ∧ (o = false → k ≠ 1)
instance (k a b r g u v f : Int) (o : Bool) : Decidable (CapOkP k a b r g u v f o) := by unfold CapOkP; infer_instance
theorem pow13 (b : Int) (h : 0 ≤ b ∧ b ≤ 12) : 1 ≤ shl .i64 1 b ∧ shl .i64 1 b ≤ 4096 := by
  have h13 : b = 0 ∨ b = 1 ∨ b = 2 ∨ b = 3 ∨ b = 4 ∨ b = 5 ∨ b = 6 ∨ b = 7 ∨ b = 8 ∨ b = 9 ∨ b = 10 ∨ b = 11 ∨ b = 12 := by omega
  rcases h13 with rfl | rfl | rfl | rfl | rfl | rfl | rfl | rfl | rfl | rfl | rfl | rfl | rfl
  all_goals decide +kernel
theorem pow11 (b : Int) (h : 0 ≤ b ∧ b ≤ 11) : shl .i64 1 b ≤ 2048 := by
  have h13 : b = 0 ∨ b = 1 ∨ b = 2 ∨ b = 3 ∨ b = 4 ∨ b = 5 ∨ b = 6 ∨ b = 7 ∨ b = 8 ∨ b = 9 ∨ b = 10 ∨ b = 11 := by omega
  rcases h13 with rfl | rfl | rfl | rfl | rfl | rfl | rfl | rfl | rfl | rfl | rfl | rfl
  all_goals decide +kernel
theorem pow4 (b : Int) (h : 1 ≤ b ∧ b ≤ 5) : 8 ≤ shl .i64 4 b ∧ shl .i64 4 b ≤ 128 := by
  have h5 : b = 1 ∨ b = 2 ∨ b = 3 ∨ b = 4 ∨ b = 5 := by omega
  rcases h5 with rfl | rfl | rfl | rfl | rfl
  all_goals decide +kernel
theorem capSz_bd (k b : Int) : 0 ≤ capSz k b ∧ capSz k b ≤ 2048 := by
  unfold capSz
  split
  · rename_i h; have := pow13 b (by omega); have := pow11 b (by omega); omega
  split
  · rename_i h; have := pow4 b (by omega); omega
  split
  · omega
  split
  · omega
  split
  · rename_i h; have := pow13 b (by omega); have := pow11 b (by omega); omega
  · omega
theorem pw_eq (v : Int) (h : 0 ≤ v ∧ v ≤ 8) : wrap64 (wrap64 (2 ^ v.toNat) - 1) = shl .i64 1 v - 1 := by
  have h8 : v = 0 ∨ v = 1 ∨ v = 2 ∨ v = 3 ∨ v = 4 ∨ v = 5 ∨ v = 6 ∨ v = 7 ∨ v = 8 := by omega
  rcases h8 with rfl | rfl | rfl | rfl | rfl | rfl | rfl | rfl | rfl
  all_goals decide +kernel
theorem bits_andNot (r : Int) (j : Nat) (hj : j ≤ 3) (h0 : 0 ≤ r) (h1 : r ≤ 9223372036854775807) : (Go.bits .andNot .i64 r (2 ^ j - 1) = 0) ↔ r ≤ 2 ^ j - 1 := by
  obtain ⟨n, rfl⟩ := Int.eq_ofNat_of_zero_le h0
  have hn : n < 2 ^ 63 := by omega
  have hm : ((2 : Int) ^ j - 1) = ((2 ^ j - 1 : Nat) : Int) := by
    have : j = 0 ∨ j = 1 ∨ j = 2 ∨ j = 3 := by omega
    rcases this with rfl | rfl | rfl | rfl <;> rfl
  have hb : (BitVec.ofNat 64 n &&& ~~~ BitVec.ofNat 64 (2 ^ j - 1)).toNat = n / 2 ^ j * 2 ^ j := by
    have e : BitVec.ofNat 64 n &&& ~~~ BitVec.ofNat 64 (2 ^ j - 1) = (BitVec.ofNat 64 n >>> j) <<< j := by
      apply BitVec.eq_of_getLsbD_eq
      intro i hi
      simp only [BitVec.getLsbD_and, BitVec.getLsbD_not, BitVec.getLsbD_shiftLeft, BitVec.getLsbD_ushiftRight, BitVec.getLsbD_ofNat, Nat.testBit_two_pow_sub_one, hi, decide_true, Bool.true_and]
      by_cases h : i < j
      · simp [h]
      · simp [h, show j + (i - j) = i by omega, hi]
    rw [e]
    have hl : n / 2 ^ j * 2 ^ j ≤ n := Nat.div_mul_le_self n _
    simp only [BitVec.toNat_shiftLeft, BitVec.toNat_ushiftRight, BitVec.toNat_ofNat, Nat.shiftRight_eq_div_pow, Nat.shiftLeft_eq]
    rw [Nat.mod_eq_of_lt (show n < 2 ^ 64 by omega), Nat.mod_eq_of_lt (by omega)]
  rw [hm]
  have hg : Go.bits .andNot .i64 (n : Int) ((2 ^ j - 1 : Nat) : Int) = IntKind.i64.wrap ((BitVec.ofNat 64 n &&& ~~~ BitVec.ofNat 64 (2 ^ j - 1)).toNat : Int) := by
    simp only [Go.bits, BitVec.ofInt_natCast]
    rfl
  have hl : n / 2 ^ j * 2 ^ j ≤ n := Nat.div_mul_le_self n _
  rw [hg, hb, IntKind.wrap_i64]
  have e2 : (((n / 2 ^ j * 2 ^ j : Nat) : Int) + 9223372036854775808) % 18446744073709551616 - 9223372036854775808 = ((n / 2 ^ j * 2 ^ j : Nat) : Int) := by omega
  rw [e2]
  have : j = 0 ∨ j = 1 ∨ j = 2 ∨ j = 3 := by omega
  rcases this with rfl | rfl | rfl | rfl <;> omega
theorem rights_ok (k r : Int) (h0 : 0 ≤ r) (h1 : r ≤ 9223372036854775807) : (Go.bits .andNot .i64 r (mxr k) = 0) ↔ r ≤ mxr k := by
  have hc : mxr k = 2 ^ 3 - 1 ∨ mxr k = 2 ^ 2 - 1 ∨ mxr k = 2 ^ 0 - 1 := by
    unfold mxr
    split
    · exact .inl rfl
    split
    · exact .inr (.inl rfl)
    · exact .inr (.inr rfl)
  rcases hc with e | e | e
  · rw [e]; exact bits_andNot r 3 (by omega) h0 h1
  · rw [e]; exact bits_andNot r 2 (by omega) h0 h1
  · rw [e]; exact bits_andNot r 0 (by omega) h0 h1
theorem in_calls (n lo hi : Int) (w : World) : Calls Try.prog 55 #[.int .i64 n, .int .i64 lo, .int .i64 hi] w fun e w' => e = .returned (.bool (inB n lo hi)) ∧ w = w' := by
  by_cases h1 : lo ≤ n
  · have d1 : decide (lo ≤ n) = true := decide_eq_true h1
    by_cases h2 : n ≤ hi
    · rw [inB_t ⟨h1, h2⟩]
      have d2 : decide (n ≤ hi) = true := decide_eq_true h2
      clear h1 h2
      go_enter Try.func55, Try.ntmps55
      go_wp2
      go_ret
      exact ⟨rfl, rfl⟩
    · rw [inB_f (fun h => h2 h.2)]
      have d2 : decide (n ≤ hi) = false := decide_eq_false h2
      clear h1 h2
      go_enter Try.func55, Try.ntmps55
      go_wp2
      go_ret
      exact ⟨rfl, rfl⟩
  · rw [inB_f (fun h => h1 h.1)]
    have d1 : decide (lo ≤ n) = false := decide_eq_false h1
    clear h1
    go_enter Try.func55, Try.ntmps55
    go_wp2
    go_ret
    exact ⟨rfl, rfl⟩
theorem max_calls (k : Int) (w : World) : Calls Try.prog 57 #[.int .i64 k] w fun e w' => e = .returned (.int .i64 (mxr k)) ∧ w = w' := by
  by_cases h4 : k = 4
  · subst h4
    go_enter Try.func57, Try.ntmps57
    go_wp2
    go_ret
    exact ⟨rfl, rfl⟩
  by_cases h5 : k = 5
  · subst h5
    go_enter Try.func57, Try.ntmps57
    go_wp2
    go_ret
    exact ⟨rfl, rfl⟩
  by_cases h6 : k = 6
  · subst h6
    go_enter Try.func57, Try.ntmps57
    go_wp2
    go_ret
    exact ⟨rfl, rfl⟩
  · rw [show mxr k = 0 by unfold mxr; rw [if_neg h4, if_neg (by omega)]]
    have d4 : (k == 4) = false := beq_eq_false_iff_ne.2 h4
    have d5 : (k == 5) = false := beq_eq_false_iff_ne.2 h5
    have d6 : (k == 6) = false := beq_eq_false_iff_ne.2 h6
    clear h4 h5 h6
    go_enter Try.func57, Try.ntmps57
    go_wp2
    go_ret
    exact ⟨rfl, rfl⟩
theorem badge_calls (k : Int) (w : World) : Calls Try.prog 74 #[.int .i64 k] w fun e w' => e = .returned (.bool (bdB k)) ∧ w = w' := by
  by_cases h4 : k = 4
  · subst h4
    go_enter Try.func74, Try.ntmps74
    go_wp2
    go_ret
    exact ⟨rfl, rfl⟩
  by_cases h5 : k = 5
  · subst h5
    go_enter Try.func74, Try.ntmps74
    go_wp2
    go_ret
    exact ⟨rfl, rfl⟩
  · rw [show bdB k = false from decide_eq_false (by omega)]
    have d4 : (k == 4) = false := beq_eq_false_iff_ne.2 h4
    have d5 : (k == 5) = false := beq_eq_false_iff_ne.2 h5
    clear h4 h5
    go_enter Try.func74, Try.ntmps74
    go_wp2
    go_ret
    exact ⟨rfl, rfl⟩
theorem box9 {w W : World} {k a b r g u v f : Int} {o : Bool} (h : Drawn0 (w.alloc (.cells #[.int .i64 k, .int .i64 a, .int .i64 b, .int .i64 r, .int .i64 g, .int .i64 u, .int .i64 v, .int .i64 f, .bool o] 37)) W) :
    W.cell? ⟨w.heap.size, 0, none⟩ = some (.int .i64 k) ∧ W.cell? ⟨w.heap.size, 1, none⟩ = some (.int .i64 a) ∧ W.cell? ⟨w.heap.size, 2, none⟩ = some (.int .i64 b) ∧ W.cell? ⟨w.heap.size, 3, none⟩ = some (.int .i64 r) ∧ W.cell? ⟨w.heap.size, 4, none⟩ = some (.int .i64 g) ∧ W.cell? ⟨w.heap.size, 5, none⟩ = some (.int .i64 u) ∧ W.cell? ⟨w.heap.size, 6, none⟩ = some (.int .i64 v) ∧ W.cell? ⟨w.heap.size, 7, none⟩ = some (.int .i64 f) ∧ W.cell? ⟨w.heap.size, 8, none⟩ = some (.bool o) ∧ Below w.heap.size w W := by
  obtain ⟨n, rfl⟩ := h.out
  have hb : ((w.alloc (.cells #[.int .i64 k, .int .i64 a, .int .i64 b, .int .i64 r, .int .i64 g, .int .i64 u, .int .i64 v, .int .i64 f, .bool o] 37)).drewN n).heap[w.heap.size]? = some (.cells #[.int .i64 k, .int .i64 a, .int .i64 b, .int .i64 r, .int .i64 g, .int .i64 u, .int .i64 v, .int .i64 f, .bool o] 37 (0, 0)) := by
    show (w.alloc _).heap[w.heap.size]? = _
    exact heap_alloc_new w _
  exact ⟨(blk_cell hb 0).trans rfl, (blk_cell hb 1).trans rfl, (blk_cell hb 2).trans rfl, (blk_cell hb 3).trans rfl, (blk_cell hb 4).trans rfl, (blk_cell hb 5).trans rfl, (blk_cell hb 6).trans rfl, (blk_cell hb 7).trans rfl, (blk_cell hb 8).trans rfl, pw_below_drewN (below_alloc (Below.refl _ _) _) n⟩
theorem in_eq (n lo hi : Int) : impl_in.f n lo hi = some (decide (lo ≤ n ∧ n ≤ hi)) := by
  unfold impl_in.f
  split
  · rw [Option.some.injEq, Bool.eq_iff_iff, decide_eq_true_eq, decide_eq_true_eq]; omega
  · rw [Option.some.injEq, Bool.eq_iff_iff, decide_eq_true_eq]; constructor
    · intro h; cases h
    · intro h; omega
theorem impl_size (n : Nat) (a b : Int) : impl_capSize.f (n + 4) a b = some (capSz a b) := by
  unfold impl_capSize.f capSz
  simp only [in_eq, Option.bind_some, impl_capSize.j0, impl_capSize.j1, impl_capSize.j2, impl_capSize.j3, decide_eq_true_eq, Bool.false_eq_true, if_false, beq_iff_eq]
  have g : ∀ (p : Prop) [Decidable p] (x : Int), (p → 0 ≤ b) → (if p then (if 0 ≤ b then some x else none) else some 0) = some (if p then x else 0) := by
    intro p _ x hp
    by_cases h : p
    · rw [if_pos h, if_pos h, if_pos (hp h)]
    · rw [if_neg h, if_neg h]
  rcases (by omega : a = 1 ∨ a = 2 ∨ a = 3 ∨ a = 4 ∨ a = 5 ∨ a = 6 ∨ (¬ a = 1 ∧ ¬ a = 2 ∧ ¬ a = 3 ∧ ¬ a = 4 ∧ ¬ a = 5 ∧ ¬ a = 6)) with h | h | h | h | h | h | h
  · subst h
    simpa using g (2 ≤ b ∧ b ≤ 11) _ (fun h => by omega)
  · subst h
    simpa using g (1 ≤ b ∧ b ≤ 5) _ (fun h => by omega)
  · subst h
    by_cases hb : b = 0 <;> simp [hb]
  · subst h
    by_cases hb : b = 0 <;> simp [hb]
  · subst h
    by_cases hb : b = 0 <;> simp [hb]
  · subst h
    simpa using g (0 ≤ b ∧ b ≤ 6) _ (fun h => by omega)
  · simp [h]
theorem size_calls (k b s : Int) (h : capSz k b = s) (w : World) : Calls Try.prog 59 #[.int .i64 k, .int .i64 b] w fun e w' => e = .returned (.int .i64 s) ∧ Drawn0 w w' :=
  impl_capSize.calls 4 k b s w (by rw [← h]; exact impl_size 0 k b)
end Go.Proofs.Ytjagpgomndndcaa.CapB
