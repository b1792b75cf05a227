/- The walk of a function's code, and the contract that comes of it. No condition. -/
import Derived.Test.YtalfojoimnhmlaaSvD
namespace Go.Sv
open Go.RowKit
set_option linter.unusedVariables false
inductive SC where
  | skip
  | reg (dr : Bool) (D : List Nat) (r : RS) (keep : List Nat)
  | seq (a b : SC)
  | cond (x : SX) (a b : SC)
  | block (i : Nat) (a : SC)
  | loop (a : SC)
  | exit (i : Nat)
  | ret
inductive Ex where
  | normal
  | exit (i : Nat)
  | ret
/-- What is kept: whoever leans on a slot that is not, is forgotten. -/
def keepV (keep : List Nat) (v : SV) : SV :=
  match v with
  | .place u _ => if keep.contains u = true then v else .dead
  | .elem u _ _ _ => if keep.contains u = true then v else .dead
  | .al u _ => if keep.contains u = true then v else .dead
  | .mal u => if keep.contains u = true then v else .dead
  | v => v
def sel (keep : List Nat) (s : S) : S := keep.map fun t => (t, keepV keep (get s t))
/-- The slots that the region writes are free. -/
def frees (D : List Nat) (s : S) : Bool := s.all fun p => p.2.free || !D.contains p.1
def thenQ (K : S → Prop) (Q : Ex → S → Prop) : Ex → S → Prop
  | .normal, s => K s
  | e, s => Q e s
def blockQ (i : Nat) (Q : Ex → S → Prop) : Ex → S → Prop
  | .exit j, s => if j = i then Q .normal s else Q (.exit j) s
  | e, s => Q e s
def swp (P : Program) : SC → (Ex → S → Prop) → S → Prop
  | .skip, Q, s => Q .normal s
  | .reg dr D r keep, Q, s => frees D s = true ∧ rs P (if dr = true then some (lim D (get s)) else none) r s fun s' => Q .normal (sel keep s')
  | .seq a b, Q, s => swp P a (thenQ (swp P b Q) Q) s
  | .cond x a b, Q, s => match cp (get s) x with | .bool v => Br v (swp P a Q s) (swp P b Q s) | _ => False
  | .block i a, Q, s => swp P a (blockQ i Q) s
  | .loop a, Q, s => ∃ (I : S → Prop) (μ : S → Nat), I s ∧ ∀ s', I s' → swp P a (thenQ (fun s'' => I s'' ∧ μ s'' < μ s') Q) s'
  | .exit i, Q, s => Q (.exit i) s
  | .ret, Q, s => Q .ret s
theorem swp_mono {P : Program} : ∀ (c : SC) {Q Q' : Ex → S → Prop} (s : S), (∀ e s, Q e s → Q' e s) → swp P c Q s → swp P c Q' s
  | .skip, Q, Q', s, hq, h => hq _ _ h
  | .reg dr D r keep, Q, Q', s, hq, h => ⟨h.1, rs_mono r s (fun _ h => hq _ _ h) h.2⟩
  | .seq a b, Q, Q', s, hq, h => swp_mono a s (fun e s h => by cases e <;> first | exact swp_mono b s hq h | exact hq _ _ h) h
  | .cond x a b, Q, Q', s, hq, h => by
    simp only [swp] at h ⊢
    cases hv : cp (get s) x <;> rw [hv] at h <;> first | exact h.elim | exact ⟨fun e => swp_mono a s hq (h.1 e), fun e => swp_mono b s hq (h.2 e)⟩
  | .block i a, Q, Q', s, hq, h => swp_mono a s (fun e s h => by
    cases e with
    | exit j =>
      simp only [blockQ] at h ⊢
      by_cases e : j = i
      · rw [if_pos e] at h ⊢; exact hq _ _ h
      · rw [if_neg e] at h ⊢; exact hq _ _ h
    | normal => exact hq _ _ h
    | ret => exact hq _ _ h) h
  | .loop a, Q, Q', s, hq, h => by
    obtain ⟨I, μ, h0, h1⟩ := h
    exact ⟨I, μ, h0, fun s' hs => swp_mono a s' (fun e s h => by cases e <;> first | exact h | exact hq _ _ h) (h1 s' hs)⟩
  | .exit i, Q, Q', s, hq, h => hq _ _ h
  | .ret, Q, Q', s, hq, h => hq _ _ h
def okCode (P : Program) (n : Nat) : Code → SC → Bool
  | .skip, .skip => true
  | .region _ ops dr, .reg dr' D r _ => dr == dr' && r.ok && decide (D = dsOf (r.flat none)) && okReg P n ops dr (r.flat none)
  | .seq a b, .seq a' b' => okCode P n a a' && okCode P n b b'
  | .cond c a b, .cond x a' b' => okX c x && okCode P n a a' && okCode P n b b'
  | .block i a, .block j a' => i == j && okCode P n a a'
  | .loop a, .loop a' => okCode P n a a'
  | .exit i, .exit j => i == j
  | .ret, .ret => true
  | _, _ => false
/-- The machine's state is told by the slots. -/
def Qm (W : Base) (n : Nat) (Q : Ex → S → Prop) : Exit → Act → World → Prop
  | .normal, a, w => ∃ s M, Q .normal s ∧ St W M (get s) (tmf a) w ∧ a.tmps.size = n ∧ a.defers = []
  | .exit i, a, w => ∃ s M, Q (.exit i) s ∧ St W M (get s) (tmf a) w ∧ a.tmps.size = n ∧ a.defers = []
  | .ret, a, w => ∃ s M, Q .ret s ∧ St W M (get s) (tmf a) w ∧ a.tmps.size = n ∧ a.defers = []
  | _, _, _ => False
theorem get_sel (keep : List Nat) (s : S) (t : Nat) : get (sel keep s) t = if keep.contains t = true then keepV keep (get s t) else .dead := by
  unfold sel
  have key : ∀ (l : List Nat), get (l.map fun t => (t, keepV keep (get s t))) t = if l.contains t = true then keepV keep (get s t) else .dead := by
    intro l
    induction l with
    | nil => simp [get]
    | cons u l ih =>
      simp only [List.map_cons, get]
      by_cases e : u = t
      · subst e; simp
      · rw [if_neg e, ih]
        have : (u :: l).contains t = l.contains t := by simp [Ne.symm e]
        rw [this]
  exact key keep
theorem frees_spec {D : List Nat} {s : S} (h : frees D s = true) {d : Nat} (hd : d ∈ D) : (get s d).free = true := by
  unfold frees at h
  rw [List.all_eq_true] at h
  induction s with
  | nil => rfl
  | cons p s ih =>
    obtain ⟨u, v⟩ := p
    simp only [get]
    split
    · rename_i e
      subst e
      have := h (u, v) List.mem_cons_self
      simpa [hd] using this
    · exact ih fun p hp => h p (List.mem_cons_of_mem _ hp)
theorem St.sel {W : Base} {M : Nat → Prop} {s : S} {tm : Nat → Value} {w : World} (keep : List Nat) (h : St W M (get s) tm w) : St W M (get (sel keep s)) tm w := by
  have hk : ∀ t, get (Sv.sel keep s) t = get s t ∨ get (Sv.sel keep s) t = .dead := fun t => by
    rw [get_sel]
    split
    · unfold keepV
      cases get s t <;> simp
      all_goals exact Decidable.em _
    · exact .inr rfl
  refine h.forget hk fun t ht => ?_
  rw [get_sel] at ht
  split at ht
  · unfold keepV at ht
    obtain ⟨bs, q1, _⟩ := h.own
    have q := q1 t
    have base : ∀ u, (get s t).lean = some u → keep.contains u = true → get (Sv.sel keep s) u = get s u := fun u hl hc => by
      rw [get_sel, if_pos hc]
      have hf := lean_free q hl
      unfold keepV
      cases hg : get s u <;> rw [hg] at hf <;> simp [SV.free] at hf <;> rfl
    cases hg : get s t <;> rw [hg] at ht base <;> first | trivial | skip
    all_goals
      simp only at ht
      split at ht
      · rename_i hc; exact base _ rfl hc
      · exact absurd rfl ht
  · exact absurd rfl ht
theorem fds_mem {its : List IT} {d : Nat} (h : d ∈ fds its) : d ∈ dsOf its := fds_sub d its h
section
variable {P : Program} {n : Nat} {W : Base}
theorem Qm_then {b : SC} {c : Code} {Q : Ex → S → Prop} {K : S → Prop} (hb : ∀ a w s M, K s → St W M (get s) (tmf a) w → a.tmps.size = n → a.defers = [] → c.wp P (Qm W n Q) a w) : ∀ e a w, Qm W n (thenQ K Q) e a w → Exit.then (c.wp P (Qm W n Q)) (Qm W n Q) e a w := by
  intro e a w h
  cases e with
  | normal => obtain ⟨s, M, hk, hst, hn, hd⟩ := h; exact hb a w s M hk hst hn hd
  | exit i => exact h
  | ret => exact h
  | _ => exact h
/-- A loop, by what holds at its head and a number that every round lowers; both told by a thing of any kind. -/
theorem wp_loop_by {σ : Type} {c : Code} {Q : Exit → Act → World → Prop} (J : σ → Act → World → Prop) (μ : σ → Nat)
    (round : ∀ s a w, J s a w → c.wp P (Exit.then (fun a' w' => ∃ s', J s' a' w' ∧ μ s' < μ s) Q) a w) (s : σ) (a : Act) (w : World) (h₀ : J s a w) : (Code.loop c).wp P Q a w := by
  intro b k cs
  have key : ∀ n s a w, μ s = n → J s a w →
      ∃ e a' w', Q e a' w' ∧ Arrives P (lone (b.at a (.code c :: .inLoop c :: k)) cs w) b k cs e a' w' := by
    intro n
    induction n using Nat.strongRecOn with
    | _ n ih =>
      intro s a w hn hI
      obtain ⟨e, a₁, w₁, hq, harr⟩ := round s a w hI b (.inLoop c :: k) cs
      cases e with
      | normal =>
        obtain ⟨s₁, hI₁, hlt⟩ := hq
        obtain ⟨e₂, a₂, w₂, hq₂, harr₂⟩ := ih (μ s₁) (hn ▸ hlt) s₁ a₁ w₁ rfl hI₁
        exact ⟨e₂, a₂, w₂, hq₂, .of_steps (Steps.trans harr (.one step_inLoop)) harr₂⟩
      | exit id => exact ⟨_, a₁, w₁, hq, .pass (x := .inLoop c) rfl (fun _ _ => .inl (by simp)) harr⟩
      | goto l => exact ⟨_, a₁, w₁, hq, .pass (x := .inLoop c) rfl (fun _ _ => .inl (by simp)) harr⟩
      | ret => exact ⟨_, a₁, w₁, hq, .pass (x := .inLoop c) rfl (fun _ _ => .inl (by simp)) harr⟩
      | panic ch => exact ⟨_, a₁, w₁, hq, .pass (x := .inLoop c) rfl (fun _ _ => .inl (by simp)) harr⟩
      | outgrown => exact ⟨_, a₁, w₁, hq, .pass (x := .inLoop c) rfl (fun _ _ => .inl (by simp)) harr⟩
  obtain ⟨e, a', w', hq, harr⟩ := key _ s a w rfl h₀
  exact ⟨e, a', w', hq, .of_steps (.one step_loop) harr⟩
theorem swp_sound (hm : P.follows .mixedOrders = true) : ∀ (c : Code) (sc : SC) (Q : Ex → S → Prop) (s : S) (M : Nat → Prop) (a : Act) (w : World), okCode P n c sc = true → swp P sc Q s → St W M (get s) (tmf a) w → a.tmps.size = n → a.defers = [] → c.wp P (Qm W n Q) a w
  | c, .skip, Q, s, M, a, w, hok, h, hst, hn, hd => by
    cases c <;> simp only [okCode, Bool.false_eq_true] at hok
    exact wp_skip ⟨s, M, h, hst, hn, hd⟩
  | c, .reg dr D r keep, Q, s, M, a, w, hok, h, hst, hn, hd => by
    cases c <;> simp only [okCode, Bool.false_eq_true] at hok
    rename_i id ops dr'
    simp only [Bool.and_eq_true, beq_iff_eq, decide_eq_true_eq] at hok
    obtain ⟨⟨⟨rfl, hr⟩, hD⟩, hreg⟩ := hok
    obtain ⟨hf, hrs⟩ := h
    refine reg_sound (K := fun g => ∃ s', g = get s' ∧ Q .normal (sel keep s')) hm hreg (fun d hd => frees_spec hf (by rw [hD]; exact fds_mem hd)) ?_ hst hn hd ?_
    · refine rs_flat (B := if dr' = true then some (lim D (get s)) else none) (bs := if dr' = true then fun _ => lim (dsOf (r.flat none)) (get s) else fun g => g) (fun s0 => ?_) r none s _ hr (fun _ _ e => by cases e) hrs
      cases dr' <;> simp [hD]
    · rintro g' M' a' w' hst' hn' hd' ⟨s', rfl, hq⟩
      exact ⟨sel keep s', M', hq, hst'.sel keep, hn', hd'⟩
  | c, .seq x y, Q, s, M, a, w, hok, h, hst, hn, hd => by
    cases c <;> simp only [okCode, Bool.false_eq_true] at hok
    rename_i cx cy
    simp only [Bool.and_eq_true] at hok
    refine wp_seq (wp_mono (swp_sound hm cx x _ s M a w hok.1 h hst hn hd) ?_)
    exact Qm_then (b := y) fun a w s M hk hst hn hd => swp_sound hm cy y Q s M a w hok.2 hk hst hn hd
  | c, .cond x y z, Q, s, M, a, w, hok, h, hst, hn, hd => by
    cases c <;> simp only [okCode, Bool.false_eq_true] at hok
    rename_i cc cy cz
    simp only [Bool.and_eq_true] at hok
    simp only [swp] at h
    have hc := cp_sound hst hok.1.1
    cases hv : cp (get s) x <;> rw [hv] at h hc <;> first | exact h.elim | skip
    rename_i v
    refine wp_cond (t := v) hc.bo ?_
    cases v with
    | true => exact swp_sound hm cy y Q s M a w hok.1.2 (h.1 rfl) hst hn hd
    | false => exact swp_sound hm cz z Q s M a w hok.2 (h.2 rfl) hst hn hd
  | c, .block i x, Q, s, M, a, w, hok, h, hst, hn, hd => by
    cases c <;> simp only [okCode, Bool.false_eq_true] at hok
    rename_i j cx
    simp only [Bool.and_eq_true, beq_iff_eq] at hok
    obtain ⟨rfl, hok⟩ := hok
    refine wp_block (wp_mono (swp_sound hm cx x _ s M a w hok h hst hn hd) ?_)
    intro e a w h
    cases e with
    | exit k =>
      obtain ⟨s, M, hq, hst, hn, hd⟩ := h
      simp only [blockQ] at hq
      simp only [Exit.inBlock]
      split at hq
      · rename_i e; rw [if_pos e]; exact ⟨s, M, hq, hst, hn, hd⟩
      · rename_i e; rw [if_neg e]; exact ⟨s, M, hq, hst, hn, hd⟩
    | _ => exact h
  | c, .loop x, Q, s, M, a, w, hok, h, hst, hn, hd => by
    cases c <;> simp only [okCode, Bool.false_eq_true] at hok
    rename_i cx
    obtain ⟨I, μ, h0, h1⟩ := h
    refine wp_loop_by (fun s a w => I s ∧ ∃ M, St W M (get s) (tmf a) w ∧ a.tmps.size = n ∧ a.defers = []) μ (fun s a w hJ => ?_) s a w ⟨h0, M, hst, hn, hd⟩
    obtain ⟨hI, M, hst, hn, hd⟩ := hJ
    refine wp_mono (swp_sound hm cx x _ s M a w hok (h1 s hI) hst hn hd) ?_
    intro e a w h
    cases e with
    | normal => obtain ⟨s', M', ⟨hI', hlt⟩, hst', hn', hd'⟩ := h; exact ⟨s', ⟨hI', M', hst', hn', hd'⟩, hlt⟩
    | exit i => exact h
    | ret => exact h
    | _ => exact h
  | c, .exit i, Q, s, M, a, w, hok, h, hst, hn, hd => by
    cases c <;> simp only [okCode, Bool.false_eq_true] at hok
    simp only [beq_iff_eq] at hok
    subst hok
    exact wp_exit ⟨s, M, h, hst, hn, hd⟩
  | c, .ret, Q, s, M, a, w, hok, h, hst, hn, hd => by
    cases c <;> simp only [okCode, Bool.false_eq_true] at hok
    exact wp_ret ⟨s, M, h, hst, hn, hd⟩
  termination_by c sc => sc
end
end Go.Sv
