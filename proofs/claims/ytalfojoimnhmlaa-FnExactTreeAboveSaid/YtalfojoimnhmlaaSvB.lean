/- An own row is handed on; an append is what the walk says. No condition. -/
import Derived.Test.YtalfojoimnhmlaaSvA
import Derived.Maps.AppendAt
import Derived.Laws.OwnMore
namespace Go.Sv
open Go.RowKit
set_option linter.unusedVariables false
section
variable {P : Program} {n : Nat} {W : Base} {M : Nat → Prop} {g : Nat → SV} {a : Act} {w : World}
/-- The slot that a value leans on. -/
def SV.lean : SV → Option Nat
  | .place t _ | .elem t _ _ _ | .al t _ | .mal t => some t
  | _ => none
theorem kill_cases (t : Nat) (g : Nat → SV) (u : Nat) : kill t g u = .dead ∨ (kill t g u = g u ∧ (g u).lean ≠ some t) := by
  unfold kill killV
  cases hg : g u <;> simp [SV.lean]
  all_goals omega
theorem kill_free (t : Nat) (g : Nat → SV) (u : Nat) (h : (g u).free = false) : kill t g u = g u := by
  unfold kill killV
  cases hg : g u <;> rw [hg] at h <;> simp [SV.free] at h <;> rfl
/-- What leans on a slot that is kept. -/
theorem OwnX.lean {g g' : Nat → SV} {tm tm' : Nat → Value} {M : Nat → Prop} {w : World} {v : Value} {x : SV} {bs : List Nat} (h : OwnX g tm M w v x bs) (hs : ∀ t, x.lean = some t → (g t).free = false → g' t = g t ∧ tm' t = tm t) : OwnX g' tm' M w v x bs := by
  cases x <;> first | exact h | skip
  case place t o =>
    obtain ⟨h0, b, y, h1, h2, h3⟩ := h
    obtain ⟨e1, e2⟩ := hs t rfl (by rw [h1]; rfl)
    exact ⟨h0, b, y, by rw [e1]; exact h1, by rw [e2]; exact h2, h3⟩
  case elem t o i c =>
    obtain ⟨h0, b, n, cap, e, sz, xs, h1, h2, h3, h4⟩ := h
    obtain ⟨e1, e2⟩ := hs t rfl (SV.at_own_free h1)
    exact ⟨h0, b, n, cap, e, sz, xs, by rw [e1]; exact h1, by rw [e2]; exact h2, h3, h4⟩
  case al t o =>
    obtain ⟨h0, e, sz, xs, a, n, cap, h1, h2, h3⟩ := h
    obtain ⟨e1, e2⟩ := hs t rfl (SV.at_own_free h1)
    exact ⟨h0, e, sz, xs, a, n, cap, by rw [e1]; exact h1, by rw [e2]; exact h2, h3⟩
  case mal t =>
    obtain ⟨h0, l, h1, h2⟩ := h
    obtain ⟨e1, e2⟩ := hs t rfl (by rw [h1]; rfl)
    exact ⟨h0, l, by rw [e1]; exact h1, by rw [e2]; exact h2⟩
theorem lean_free {g : Nat → SV} {tm : Nat → Value} {M : Nat → Prop} {w : World} {v : Value} {x : SV} {bs : List Nat} (h : OwnX g tm M w v x bs) {t : Nat} (hl : x.lean = some t) : (g t).free = false := by
  cases x <;> simp only [SV.lean, reduceCtorEq, Option.some.injEq] at hl <;> subst hl
  case place => obtain ⟨_, b, y, h1, _⟩ := h; rw [h1]; rfl
  case elem => obtain ⟨_, b, n, cap, e, sz, xs, h1, _⟩ := h; exact SV.at_own_free h1
  case al => obtain ⟨_, e, sz, xs, a, n, cap, h1, _⟩ := h; exact SV.at_own_free h1
  case mal => obtain ⟨_, l, h1, _⟩ := h; rw [h1]; rfl
theorem valAt_same {w' : World} {v : Value} {o : Option Nat} (h : ∀ p : Addr, v = .pointer (some p) → w'.heap[p.block]? = w.heap[p.block]?) : valAt w' v o = valAt w v o := by
  cases o with
  | none => rfl
  | some o =>
    cases v with
    | pointer a =>
      cases a with
      | none => rfl
      | some a => simp only [valAt]; rw [World.cell?_of_block (w := w) (a := ⟨a.block, o, none⟩) (h a rfl)]
    | _ => rfl
/-- Another world, in which what it reaches is as it was. -/
theorem OwnX.world {g : Nat → SV} {tm : Nat → Value} {M : Nat → Prop} {w w' : World} {v : Value} {x : SV} {bs : List Nat} (h : OwnX g tm M w v x bs) (hM : Same M w w') (hb : ∀ c ∈ bs, w'.heap[c]? = w.heap[c]?)
    (hl : ∀ t, x.lean = some t → ∀ p : Addr, tm t = .pointer (some p) → w'.heap[p.block]? = w.heap[p.block]?) : OwnX g tm M w' v x bs := by
  have gen : OwnV M w v x bs → OwnV M w' v x bs := fun h => Ow.mono (fun _ h => h) hM h hb
  cases x <;> first | exact gen h | skip
  case imap => obtain ⟨b, e, hv, hs⟩ := h; exact ⟨b, e, hv, hs.kept (hb b (by rw [e]; exact List.mem_cons_self))⟩
  case mal => exact h
  case place => exact h
  case elem t o i c =>
    obtain ⟨h0, b, n, cap, e, sz, xs, h1, h2, h3, h4⟩ := h
    exact ⟨h0, b, n, cap, e, sz, xs, h1, by rw [valAt_same (hl t rfl)]; exact h2, h3, h4⟩
  case al t o =>
    obtain ⟨h0, e, sz, xs, a, n, cap, h1, h2, h3⟩ := h
    exact ⟨h0, e, sz, xs, a, n, cap, h1, by rw [valAt_same (hl t rfl)]; exact h2, h3⟩
theorem kill2_cases (t d : Nat) (g : Nat → SV) (u : Nat) : kill t (kill d g) u = .dead ∨ (kill t (kill d g) u = g u ∧ (g u).lean ≠ some t ∧ (g u).lean ≠ some d) := by
  rcases kill_cases t (kill d g) u with h | ⟨h1, h2⟩
  · exact .inl h
  · rcases kill_cases d g u with h | ⟨h3, h4⟩
    · exact .inl (by rw [h1, h])
    · exact .inr ⟨by rw [h1, h3], by rw [h3] at h2; exact h2, h4⟩
/-- The state, out of what each slot owns. -/
theorem St.of_key {W : Base} {M : Nat → Prop} {g : Nat → SV} {tm : Nat → Value} {w : World} (ρ : Nat → Nat → Prop) (hb : Below W.heap.size W.w w) (hl : ∀ b, M b → b < w.heap.size) (hnw : ∀ b, M b → W.M0 b ∨ W.heap.size ≤ b) (hu : ∀ c u v, ρ c u → ρ c v → u = v)
    (key : ∀ u, ∃ bs : List Nat, OwnX g tm M w (tm u) (g u) bs ∧ bs.Nodup ∧ ∀ c ∈ bs, W.heap.size ≤ c ∧ c < w.heap.size ∧ ¬ M c ∧ ρ c u) : St W M g tm w :=
  ⟨hb, hl, hnw, fun u => (key u).choose, fun u => (key u).choose_spec.1, fun u v c h1 h2 => hu c u v ((key u).choose_spec.2.2 c h1).2.2.2 ((key v).choose_spec.2.2 c h2).2.2.2, fun u => (key u).choose_spec.2.1,
    fun u c h => let k := (key u).choose_spec.2.2 c h; ⟨k.1, k.2.1, k.2.2.1⟩⟩
theorem eff_asg {o : Oper} {d : Nat} {t : Nat} {g' : Nat → SV} (hok : okE P n o.op (some d) (.asg t) = true) (hst : St W M g (tmf a) w) (he : eff g (some d) (.asg t) = some g') :
    ∃ v, (execOp a.eval o).run P w = .ok (.value v) w ∧ St W M g' (upd (tmf a) d v) w := by
  obtain ⟨dst, opp, ty, pos, af, gd⟩ := o
  simp only [okE] at hok
  split at hok
  case h_2 => cases hok
  rename_i t' d' ed
  cases ed
  simp only [Bool.and_eq_true, beq_iff_eq] at hok
  obtain ⟨rfl, _⟩ := hok
  simp only [eff] at he
  split at he
  · cases he
  rename_i hne
  obtain ⟨x, hg, hxl, rfl⟩ : ∃ x, g t = x ∧ x.lean = none ∧ g' = upd (upd (kill t (kill d g)) t .dead) d x := by
    split at he
    · rename_i e sz xs hg; cases he; exact ⟨_, hg, rfl, rfl⟩
    · rename_i l hg; cases he; exact ⟨_, hg, rfl, rfl⟩
    · cases he
  refine ⟨tmf a t, rfl, ?_⟩
  obtain ⟨bs, q1, q2, q3, q4⟩ := hst.own
  have hd : ∀ u, u ≠ d → u ≠ t → (upd (upd (kill t (kill d g)) t .dead) d x) u = kill t (kill d g) u := fun u h1 h2 => by rw [upd_other _ _ h1, upd_other _ _ h2]
  refine St.of_key (fun c u => (u = d ∧ c ∈ bs t) ∨ (u ≠ d ∧ u ≠ t ∧ c ∈ bs u)) hst.below hst.lt hst.new ?_ fun u => ?_
  · rintro c u v (⟨rfl, k1⟩ | ⟨k0, k0', k1⟩) (⟨rfl, k2⟩ | ⟨j0, j0', k2⟩)
    · rfl
    · exact absurd (q2 t v c k1 k2) (Ne.symm j0')
    · exact absurd (q2 u t c k1 k2) k0'
    · exact q2 u v c k1 k2
  · by_cases e1 : u = d
    · subst e1
      have := q1 t
      rw [hg] at this
      rw [upd_same, upd_same]
      exact ⟨bs t, this.lean (fun v hv => by rw [hxl] at hv; cases hv), q3 t, fun c hc => ⟨(q4 t c hc).1, (q4 t c hc).2.1, (q4 t c hc).2.2, .inl ⟨rfl, hc⟩⟩⟩
    · by_cases e2 : u = t
      · subst e2
        have e3 : (upd (upd (kill u (kill d g)) u .dead) d x) u = .dead := by rw [upd_other _ _ e1, upd_same]
        rw [e3]
        exact ⟨[], Ow.imm _ _ (.dead _), List.nodup_nil, by simp⟩
      · rw [hd u e1 e2, upd_other _ _ e1]
        rcases kill2_cases t d g u with hk | ⟨hk, l1, l2⟩
        · rw [hk]; exact ⟨[], Ow.imm _ _ (.dead _), List.nodup_nil, by simp⟩
        · have hx := (q1 u).lean (g' := upd (upd (kill t (kill d g)) t .dead) d x) (tm' := upd (tmf a) d (tmf a t)) fun v hv hf => by
            have n1 : v ≠ t := fun e => l1 (e ▸ hv)
            have n2 : v ≠ d := fun e => l2 (e ▸ hv)
            refine ⟨?_, upd_other _ _ n2⟩
            rw [hd v n2 n1, kill_free t _ v (by rw [kill_free d g v hf]; exact hf), kill_free d g v hf]
          rw [hk]
          exact ⟨bs u, hx, q3 u, fun c hc => ⟨(q4 u c hc).1, (q4 u c hc).2.1, (q4 u c hc).2.2, .inr ⟨e1, e2, hc⟩⟩⟩
theorem RepR.flat {M : Nat → Prop} {w : World} {c off sz : Nat} {xs : List SV} (h : RepR M w c off sz xs) : ∃ us : List Value, us.length = xs.length * sz ∧ CellsAt w c off us ∧ RepL M w us (xs.flatMap SV.cells) ∧ ∀ x ∈ xs, x.cells.length = sz := by
  induction xs generalizing off with
  | nil => exact ⟨[], by simp, fun j u hj => by simp at hj, .lnil, by simp⟩
  | cons x xs ih =>
    cases h with
    | rcons hl hc h hs =>
      rename_i us
      obtain ⟨vs, h1, h2, h3, h4⟩ := ih hs
      refine ⟨us ++ vs, by rw [List.length_append, h1, hl, List.length_cons, Nat.add_mul, Nat.one_mul, Nat.add_comm], fun j u hj => ?_, ?_, fun y hy => ?_⟩
      · by_cases hlt : j < us.length
        · rw [List.getElem?_append_left hlt] at hj; exact hc j u hj
        · rw [List.getElem?_append_right (by omega)] at hj
          have := h2 _ _ hj
          rwa [show off + sz + (j - us.length) = off + j by omega] at this
      · rw [List.flatMap_cons]; exact RepL.append h h3
      · rcases List.mem_cons.1 hy with rfl | hy
        · rw [← RepL.len h]; exact hl
        · exact h4 y hy
theorem flat_one {ys : List SV} (h : (ys.all fun y => y.cells.all SV.one) = true) : (ys.flatMap SV.cells).all SV.one = true := by
  rw [List.all_flatMap]; exact h
theorem eff_app {o : Oper} {d : Nat} {e sz bytes : Nat} {x y : SX} {g' : Nat → SV} (hok : okE P n o.op (some d) (.app e sz bytes x y) = true) (hst : St W M g (tmf a) w) (he : eff g (some d) (.app e sz bytes x y) = some g') :
    ∃ v w', (execOp a.eval o).run P w = .ok (.value v) w' ∧ St W M g' (upd (tmf a) d v) w' := by
  obtain ⟨dst, opp, ty, pos, af, gd⟩ := o
  simp only [okE] at hok
  split at hok
  case h_2 => cases hok
  rename_i args argTypes d' ed
  cases ed
  split at hok
  case h_2 => cases hok
  rename_i x' y' t t2 ea et
  simp only [Bool.and_eq_true, beq_iff_eq, decide_eq_true_eq] at hok
  obtain ⟨⟨⟨⟨⟨⟨rfl, hx⟩, hy⟩, ht⟩, _⟩, hs0⟩, hi⟩ := hok
  obtain rfl : args = #[x', y'] := by simpa using congrArg List.toArray ea
  obtain rfl : argTypes = #[t, t] := by simpa using congrArg List.toArray et
  split at ht
  case h_2 => cases ht
  rename_i e' hu
  simp only [beq_iff_eq] at ht
  subst ht
  split at hi
  case h_2 => cases hi
  rename_i i hinfo
  simp only [Bool.and_eq_true, beq_iff_eq] at hi
  obtain ⟨⟨rfl, rfl⟩, hz⟩ := hi
  split at hz
  case h_2 => cases hz
  rename_i zv hzv
  simp only [beq_iff_eq] at hz
  have kx := cp_sound hst hx
  have ky := cp_sound hst hy
  simp only [eff] at he
  split at he
  case h_2 => cases he
  rename_i t0 ex
  split at he
  case h_2 => cases he
  rename_i e2 sz2 xs hgt
  split at he
  case h_2 => cases he
  rename_i ys hys
  split at he
  case isFalse => cases he
  rename_i hcond
  obtain ⟨rfl, rfl, hdf, hone, hbytes, hmax⟩ := hcond
  cases he
  rw [ex] at kx
  obtain ⟨_, e3, sz3, xs3, ad, m0, cap0, k1, k2, vx⟩ := kx
  simp only [SV.at] at k1
  simp only [valAt] at k2
  rw [hgt] at k1
  cases k1
  obtain ⟨bs, q1, q2, q3, q4⟩ := hst.own
  have hW := hst.below.size
  -- the row that is appended to
  have q0 := q1 t0
  rw [hgt, k2] at q0
  have q0 : OwnV M w (.slice ad m0 cap0) (.own e2 i.size xs) (bs t0) := q0
  obtain ⟨vs, hown, hrv, hxl, hm0⟩ : ∃ vs : List Value, w.ownsRow W.heap.size e2 i.size (.slice ad m0 cap0) xs.length vs ∧ RepL M w vs (xs.flatMap SV.cells) ∧ (∀ x ∈ xs, x.cells.length = i.size) ∧ (Value.ownBlock (.slice ad m0 cap0) = none ∨ ∃ c, Value.ownBlock (.slice ad m0 cap0) = some c ∧ c ∈ bs t0) := by
    have hq := q4 t0
    generalize bs t0 = bt at q0 hq
    cases q0 with
    | imm _ _ h => cases h
    | ownNil => exact ⟨[], World.ownsRow_nil w _ _ _, .lnil, by simp, .inl rfl⟩
    | own b' cap e sz xs cur hb hs hl hx' h =>
      obtain ⟨us, h1, h2, h3, h4⟩ := RepR.flat h
      refine ⟨us, ⟨h1, .inr ⟨b', cap0, cur, rfl, (hq b' List.mem_cons_self).1, hb, hl, hx', hs, ?_⟩⟩, h3, h4, .inr ⟨b', rfl, List.mem_cons_self⟩⟩
      apply List.ext_getElem?
      intro j
      have hle : xs.length * i.size ≤ cap0 * i.size := Nat.mul_le_mul_right _ hl
      by_cases hj : j < xs.length * i.size
      · have hju : us[j]? = some (us[j]'(by omega)) := List.getElem?_eq_getElem _
        have := h2 j _ hju
        simp only [World.cell?, hb, Nat.zero_add] at this
        rw [List.getElem?_take, if_pos hj, hju]
        simpa using this
      · rw [List.getElem?_eq_none (by rw [List.length_take]; omega), List.getElem?_eq_none (by omega)]
  -- what is appended
  have hsrc : (∃ ad, a.eval y' = .slice ad 0 0 ∧ ys = []) ∨ ∃ c off cp news, a.eval y' = .slice (some ⟨c, off, none⟩) ys.length cp ∧ news.length = ys.length * i.size ∧ CellsAt w c off news ∧ RepL M w news (ys.flatMap SV.cells) ∧ ∀ y ∈ ys, y.cells.length = i.size := by
    generalize cp g y = sy at ky hys
    unfold srcOf at hys
    split at hys
    · rename_i sz' ys'
      split at hys
      case isFalse => cases hys
      rename_i hsz
      subst hsz
      cases hys
      rcases ky.l with ⟨ad, ve, rfl⟩ | ⟨c, off, cap, ve, hm, hle, hmx, hr⟩
      · exact .inl ⟨ad, ve, rfl⟩
      · obtain ⟨us, h1, h2, h3, h4⟩ := RepR.flat hr
        exact .inr ⟨c, off, cap, us, ve, h1, h2, h3, h4⟩
    · rename_i t1 o1
      split at hys
      case h_2 => cases hys
      rename_i e5 sz5 ys5 hat
      split at hys
      case isFalse => cases hys
      rename_i hsz
      subst hsz
      cases hys
      obtain ⟨_, e6, sz6, xs6, ad6, m6, cap6, j1, j2, ve⟩ := ky
      rw [hat] at j1
      cases j1
      obtain ⟨bs', bt, ho, _⟩ := hst.base hat
      rw [j2] at ho
      cases ho with
      | imm _ _ h => cases h
      | ownNil => exact .inl ⟨none, ve, rfl⟩
      | own b' cap e sz xs cur hb hs hl hx' h =>
        obtain ⟨us, h1, h2, h3, h4⟩ := RepR.flat h
        exact .inr ⟨b', 0, cap6, us, ve, h1, h2, h3, h4⟩
    · cases hys
  -- the machine's step
  obtain ⟨v', w', hrun, hown', hgrow, hblk, news, hrn, hyl⟩ : ∃ v' w', (Builtin.append_ #[t, t] ty #[.slice ad m0 cap0, a.eval y']).run P w = .ok v' w' ∧ (∃ news, w'.ownsRow W.heap.size e2 i.size v' (xs.length + ys.length) (vs ++ news) ∧ RepL M w news (ys.flatMap SV.cells)) ∧ w.grownBy w' (Value.ownBlock (.slice ad m0 cap0)) ∧
      (v'.ownBlock = Value.ownBlock (.slice ad m0 cap0) ∨ v'.ownBlock = some w.heap.size) ∧ ∃ news, w'.ownsRow W.heap.size e2 i.size v' (xs.length + ys.length) (vs ++ news) ∧ RepL M w news (ys.flatMap SV.cells) ∧ ∀ y ∈ ys, y.cells.length = i.size := by
    rcases hsrc with ⟨ad2, ve, rfl⟩ | ⟨c, off, cp, news, ve, h1, h2, h3, h4⟩
    · cases ad2 with
      | some ad2 =>
        obtain ⟨v', w', r1, r2, r3, _, r5⟩ := run_append_own_at (P := P) w W.heap.size t ty e2 i zv i.size i.bytes hu hinfo hzv rfl rfl hz hs0 (.slice ad m0 cap0) xs.length vs hown ad2 0 0 [] (by simp)
          (fun j u hj => by simp at hj) (by simp) (by unfold maxLen; simp at hmax ⊢; omega) (by simpa using hbytes) hW
        rw [ve]
        exact ⟨v', w', r1, ⟨[], r2, .lnil⟩, r3, r5, [], r2, .lnil, by simp⟩
      | none =>
      have := run_append_owned_none (P := P) (w := w) (base := W.heap.size) t ty e2 i i.size hu hinfo (.slice ad m0 cap0) xs.length vs hown
      rw [ve]
      exact ⟨_, w, this, ⟨[], by simpa using hown, .lnil⟩, ⟨rfl, rfl, rfl, Nat.le_refl _, fun _ _ _ => rfl⟩, .inl rfl, [], by simpa using hown, .lnil, by simp⟩
    · obtain ⟨v', w', r1, r2, r3, _, r5⟩ := run_append_own_at (P := P) w W.heap.size t ty e2 i zv i.size i.bytes hu hinfo hzv rfl rfl hz hs0 (.slice ad m0 cap0) xs.length vs hown ⟨c, off, none⟩ ys.length cp news h1
        (fun j u hj => by rw [add_mid]; exact h2 j u hj) (one_cells h3 (flat_one hone)) (by unfold maxLen; omega) hbytes hW
      rw [ve]
      exact ⟨v', w', r1, ⟨news, r2, h3⟩, r3, r5, news, r2, h3, h4⟩
  -- the state behind it
  have hdt : d ≠ t0 := fun e => by subst e; rw [hgt] at hdf; cases hdf
  have hsz' := hgrow.size
  have hold : ∀ c, M c → w'.heap[c]? = w.heap[c]? := fun c hc => hgrow.block c (hst.lt c hc) fun e => by
    rcases hm0 with h | ⟨c', h, hc'⟩
    · rw [h] at e; cases e
    · rw [h] at e; cases e; exact (q4 t0 c hc').2.2 hc
  have hblock : ∀ c, c < w.heap.size → (c ∈ bs t0 → False) → w'.heap[c]? = w.heap[c]? := fun c hc hn => hgrow.block c hc fun e => by
    rcases hm0 with h | ⟨c', h, hc'⟩
    · rw [h] at e; cases e
    · rw [h] at e; cases e; exact hn hc'
  have hnew : ∃ b2, OwnV M w' v' (.own e2 i.size (xs ++ ys)) b2 ∧ b2.Nodup ∧ ∀ c ∈ b2, W.heap.size ≤ c ∧ c < w'.heap.size ∧ ¬ M c ∧ (c ∈ bs t0 ∨ w.heap.size ≤ c) := by
    rcases hrn.2 with ⟨hv, hn0⟩ | ⟨q, cap, cur, hv, hbq, hq, hnc, hcm, hcs, htake⟩
    · have h1 : xs = [] := List.length_eq_zero_iff.1 (by omega)
      have h2 : ys = [] := List.length_eq_zero_iff.1 (by omega)
      subst h1
      subst h2
      rw [hv]
      exact ⟨[], .ownNil _ _, List.nodup_nil, by simp⟩
    · have hrep : RepL M w' (vs ++ news) ((xs ++ ys).flatMap SV.cells) := by
        rw [List.flatMap_append]
        exact RepL.mono (fun _ h => h) hold (RepL.append hrv hyl.1)
      have hcell : CellsAt w' q 0 (vs ++ news) := fun j u hj => by
        simp only [World.cell?, hq, Nat.zero_add]
        have hlt := (List.getElem?_eq_some_iff.1 hj).1
        rw [← htake] at hj
        rw [List.getElem?_take] at hj
        split at hj
        · simpa using hj
        · cases hj
      have hrow := rows_flat (M := M) (w := w') (c := q) (sz := i.size) (xs ++ ys) 0 (vs ++ news) hcell hrep fun z hz => by
        rcases List.mem_append.1 hz with hz | hz
        · exact hxl z hz
        · exact hyl.2 z hz
      have hown := Ow.own (M := M) (w := w') q cap e2 i.size (xs ++ ys) cur hq hcs (by rw [List.length_append]; exact hnc) hcm hrow
      rw [List.length_append, ← hv] at hown
      refine ⟨[q], hown, by simp, fun c hc => ?_⟩
      rw [List.mem_singleton] at hc
      subst hc
      have hlt : c < w'.heap.size := (Array.getElem?_eq_some_iff.1 hq).1
      have hor : c ∈ bs t0 ∨ w.heap.size ≤ c := by
        have e1 : v'.ownBlock = some c := by rw [hv]; rfl
        rw [e1] at hblk
        rcases hblk with h | h
        · rcases hm0 with h' | ⟨c', h', hc'⟩
          · rw [h'] at h; cases h
          · rw [h'] at h; cases h; exact .inl hc'
        · cases h; exact .inr (Nat.le_refl _)
      refine ⟨hbq, hlt, fun hm => ?_, hor⟩
      rcases hor with h | h
      · exact (q4 t0 c h).2.2 hm
      · have := hst.lt c hm; omega
  obtain ⟨b2, ho2, hn2, hb2⟩ := hnew
  refine ⟨v', w', by simp [execOp, resolve, invoke, builtin, vx, hrun], ?_⟩
  have hd : ∀ u, u ≠ d → u ≠ t0 → (upd (upd (kill t0 g) t0 .dead) d (.own e2 i.size (xs ++ ys))) u = kill t0 g u := fun u h1 h2 => by rw [upd_other _ _ h1, upd_other _ _ h2]
  refine St.of_key (fun c u => (u = d ∧ (c ∈ bs t0 ∨ w.heap.size ≤ c)) ∨ (u ≠ d ∧ u ≠ t0 ∧ c ∈ bs u)) ?_ (fun c hc => Nat.lt_of_lt_of_le (hst.lt c hc) hsz') hst.new ?_ fun u => ?_
  · exact ⟨hgrow.os.trans hst.below.os, hgrow.tape.trans hst.below.tape, hgrow.output.trans hst.below.output, Nat.le_trans hW hsz', fun k hk => by
      rw [hblock k (Nat.lt_of_lt_of_le hk hW) fun h => by have := (q4 t0 k h).1; omega]
      exact hst.below.block k hk⟩
  · rintro c u v (⟨rfl, k1⟩ | ⟨k0, k0', k1⟩) (⟨rfl, k2⟩ | ⟨j0, j0', k2⟩)
    · rfl
    · rcases k1 with k1 | k1
      · exact absurd (q2 t0 v c k1 k2) (Ne.symm j0')
      · have := (q4 v c k2).2.1; omega
    · rcases k2 with k2 | k2
      · exact absurd (q2 u t0 c k1 k2) k0'
      · have := (q4 u c k1).2.1; omega
    · exact q2 u v c k1 k2
  · by_cases e1 : u = d
    · subst e1
      rw [upd_same, upd_same]
      exact ⟨b2, .of_own ho2, hn2, fun c hc => ⟨(hb2 c hc).1, (hb2 c hc).2.1, (hb2 c hc).2.2.1, .inl ⟨rfl, (hb2 c hc).2.2.2⟩⟩⟩
    · by_cases e9 : u = t0
      · subst e9
        have e3 : (upd (upd (kill u g) u .dead) d (.own e2 i.size (xs ++ ys))) u = .dead := by rw [upd_other _ _ e1, upd_same]
        rw [e3]
        exact ⟨[], Ow.imm _ _ (.dead _), List.nodup_nil, by simp⟩
      · rw [hd u e1 e9, upd_other _ _ e1]
        rcases kill_cases t0 g u with hk | ⟨hk, l1⟩
        · rw [hk]; exact ⟨[], Ow.imm _ _ (.dead _), List.nodup_nil, by simp⟩
        · rw [hk]
          have hbu : ∀ c ∈ bs u, w'.heap[c]? = w.heap[c]? := fun c hc => hblock c (q4 u c hc).2.1 fun h => e9 (q2 u t0 c hc h)
          refine ⟨bs u, ?_, q3 u, fun c hc => ⟨(q4 u c hc).1, Nat.lt_of_lt_of_le (q4 u c hc).2.1 hsz', (q4 u c hc).2.2,   .inr ⟨e1, e9, hc⟩⟩⟩
          have hx := (q1 u).lean (g' := upd (upd (kill t0 g) t0 .dead) d (.own e2 i.size (xs ++ ys))) (tm' := upd (tmf a) d v') fun v hv hf => by
            have n1 : v ≠ t0 := fun e => l1 (e ▸ hv)
            have n2 : v ≠ d := fun e => by subst e; rw [hdf] at hf; cases hf
            exact ⟨by rw [hd v n2 n1, kill_free t0 g v hf], upd_other _ _ n2⟩
          refine hx.world hold hbu fun v hv p hp => ?_
          have n1 : v ≠ t0 := fun e => l1 (e ▸ hv)
          by_cases hf : (g v).free = true
          · exact absurd (lean_free (q1 u) hv) (by rw [hf]; simp)
          · have n2 : v ≠ d := fun e => by subst e; exact hf hdf
            rw [upd_other _ _ n2] at hp
            have k := q1 v
            cases hgv : g v <;> rw [hgv] at k hf <;> simp [SV.free] at hf
            case own => generalize bs v = bt at k; rw [hp] at k; cases k with | imm _ _ h => cases h
            case box y =>
              obtain ⟨c, e5, e6⟩ := own_ptr k
              rw [hp] at e5
              cases e5
              exact hblock c (q4 v c e6).2.1 fun h => n1 (q2 v t0 c e6 h)
            case imap => obtain ⟨b, _, hv, _⟩ := k; rw [hp] at hv; cases hv
end
end Go.Sv
