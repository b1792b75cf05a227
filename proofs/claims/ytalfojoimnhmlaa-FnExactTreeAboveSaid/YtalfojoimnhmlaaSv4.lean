/- The other operations that leave the world alone. No condition. -/
import Derived.Test.YtalfojoimnhmlaaSv3
namespace Go.Sv
open Go.RowKit
set_option linter.unusedVariables false
section
variable {P : Program} {W : Base} {M : Nat → Prop} {g b : Nat → SV} {a : Act} {w : World}
theorem run_equalIn_bool {t : TypeId} (hu : P.underlying t = some .bool) (d : Nat) (m n : Bool) : (Op.equalIn (d + 1) t (.bool m) (.bool n)).run P w = .ok (m == n) w := by
  simp only [Op.equalIn, Sem.run_bind, run_underlying hu, Result.andThen_ok, Sem.run_pure]
theorem run_equal_bool {t : TypeId} (hu : P.underlying t = some .bool) (m n : Bool) : (Op.equal t (.bool m) (.bool n)).run P w = .ok (m == n) w := run_equalIn_bool hu 9999 m n
theorem op_eqb {o : Oper} {neg : Bool} {x y : SX} {z : SV} (hok : okOp P o.op o.type (.eqb neg x y) = true) (hst : St W M g (tmf a) w) (hy : pv g b (.eqb neg x y) = some z) :
    ∃ v, (execOp a.eval o).run P w = .ok (.value v) w ∧ OwnX g (tmf a) M w v z [] := by
  obtain ⟨dst, opp, ty, pos, af, gd⟩ := o
  simp only [okOp] at hok
  split at hok
  case h_2 => cases hok
  rename_i op' t x' y' u
  simp only [Bool.and_eq_true, decide_eq_true_eq] at hok
  obtain ⟨⟨⟨rfl, ht⟩, hx⟩, hy'⟩ := hok
  have kx := cp_sound hst hx
  have ky := cp_sound hst hy'
  simp only [pv] at hy
  split at hy
  case h_2 => cases hy
  rename_i m n e1 e2
  cases hy
  rw [e1] at kx
  rw [e2] at ky
  have vx := kx.bo
  have vy := ky.bo
  have hu : P.underlying t = some .bool := by
    cases hq : P.underlying t with
    | none => simp [hq] at ht
    | some d => cases d <;> simp [hq] at ht; rfl
  refine ⟨_, ?_, Ow.imm _ _ (.bool _)⟩
  simp only [execOp, vx, vy, Sem.run_bind, run_eqGuard_bool, Result.andThen_ok]
  cases neg <;> simp [binOp, run_equal_bool hu]
  cases m <;> cases n <;> rfl
def SV.isPtr : SV → Bool
  | .nilp | .ref _ | .place _ _ | .elem _ _ _ _ => true
  | _ => false
theorem ptr_of {v : Value} {x : SV} (h : OwnX g (tmf a) M w v x []) (hx : x.isPtr = true) : ∃ p, v = .pointer p ∧ (p = none ↔ x = .nilp) := by
  cases x <;> simp [SV.isPtr] at hx
  case nilp => exact ⟨none, h.np, by simp⟩
  case ref y => obtain ⟨c, off, us, rfl, _⟩ := h.r; exact ⟨_, rfl, by simp⟩
  case place t o => obtain ⟨_, b, y, _, _, rfl⟩ := h; exact ⟨_, rfl, by simp⟩
  case elem t o i c => obtain ⟨_, b, n, cap, e, sz, xs, _, _, _, rfl⟩ := h; exact ⟨_, rfl, by simp⟩
theorem run_equalIn_ptr {t e : TypeId} (hu : P.underlying t = some (.pointer e)) (d : Nat) {p q : Option Addr} {r : Bool} (h : (p = none ∧ q = none ∧ r = true) ∨ (p = none ∧ q ≠ none ∧ r = false) ∨ (p ≠ none ∧ q = none ∧ r = false)) :
    (Op.equalIn (d + 1) t (.pointer p) (.pointer q)).run P w = .ok r w := by
  rcases h with ⟨rfl, rfl, rfl⟩ | ⟨rfl, hq, rfl⟩ | ⟨hp, rfl, rfl⟩
  · simp only [Op.equalIn, Sem.run_bind, run_underlying hu, Result.andThen_ok, Sem.run_pure]; rfl
  · cases q with
    | none => exact absurd rfl hq
    | some q => simp only [Op.equalIn, Sem.run_bind, run_underlying hu, Result.andThen_ok, Sem.run_pure]; rfl
  · cases p with
    | none => exact absurd rfl hp
    | some q => simp only [Op.equalIn, Sem.run_bind, run_underlying hu, Result.andThen_ok, Sem.run_pure]
theorem run_eqp {t e : TypeId} (hu : P.underlying t = some (.pointer e)) {p q : Option Addr} {r : Bool} (h : (p = none ∧ q = none ∧ r = true) ∨ (p = none ∧ q ≠ none ∧ r = false) ∨ (p ≠ none ∧ q = none ∧ r = false)) :
    (Op.equal t (.pointer p) (.pointer q)).run P w = .ok r w := run_equalIn_ptr hu 9999 h
theorem op_eqp {o : Oper} {neg : Bool} {x y : SX} {z : SV} (hok : okOp P o.op o.type (.eqp neg x y) = true) (hst : St W M g (tmf a) w) (hy : pv g b (.eqp neg x y) = some z) :
    ∃ v, (execOp a.eval o).run P w = .ok (.value v) w ∧ OwnX g (tmf a) M w v z [] := by
  obtain ⟨dst, opp, ty, pos, af, gd⟩ := o
  simp only [okOp] at hok
  split at hok
  case h_2 => cases hok
  rename_i op' t x' y' u
  simp only [Bool.and_eq_true, decide_eq_true_eq] at hok
  obtain ⟨⟨⟨rfl, ht⟩, hx⟩, hy'⟩ := hok
  have kx := cp_sound hst hx
  have ky := cp_sound hst hy'
  simp only [pv] at hy
  split at hy
  case h_2 => cases hy
  rename_i r er
  cases hy
  obtain ⟨e, hu⟩ : ∃ e, P.underlying t = some (.pointer e) := by
    cases hq : P.underlying t with
    | none => simp [hq] at ht
    | some d => cases d <;> simp [hq] at ht; exact ⟨_, rfl⟩
  have hxy : ∃ p q, a.eval x' = .pointer p ∧ a.eval y' = .pointer q ∧ ((p = none ∧ q = none ∧ r = true) ∨ (p = none ∧ q ≠ none ∧ r = false) ∨ (p ≠ none ∧ q = none ∧ r = false)) := by
    generalize cp g x = sx at kx er
    generalize cp g y = sy at ky er
    unfold speq at er
    split at er <;> simp only [Option.some.injEq, reduceCtorEq] at er <;> subst er
    · exact ⟨none, none, kx.np, ky.np, .inl ⟨rfl, rfl, rfl⟩⟩
    all_goals
      obtain ⟨p, hp, ip⟩ := ptr_of kx rfl
      obtain ⟨q, hq, iq⟩ := ptr_of ky rfl
      refine ⟨p, q, hp, hq, ?_⟩
      simp at ip iq
      first
        | exact .inr (.inl ⟨ip, iq, rfl⟩)
        | exact .inr (.inr ⟨ip, iq, rfl⟩)
  obtain ⟨p, q, vx, vy, hr⟩ := hxy
  refine ⟨_, ?_, Ow.imm _ _ (.bool _)⟩
  simp only [execOp, vx, vy, Sem.run_bind, run_eqGuard_ptr, Result.andThen_ok]
  cases neg <;> simp [binOp, run_eqp hu hr]
theorem op_not {o : Oper} {x : SX} {z : SV} (hok : okOp P o.op o.type (.not x) = true) (hst : St W M g (tmf a) w) (hy : pv g b (.not x) = some z) :
    ∃ v, (execOp a.eval o).run P w = .ok (.value v) w ∧ OwnX g (tmf a) M w v z [] := by
  obtain ⟨dst, opp, ty, pos, af, gd⟩ := o
  simp only [okOp] at hok
  split at hok
  case h_2 => cases hok
  have kx := cp_sound hst hok
  simp only [pv] at hy
  split at hy
  case h_2 => cases hy
  rename_i m e1
  cases hy
  rw [e1] at kx
  have vx := kx.bo
  refine ⟨_, ?_, Ow.imm _ _ (.bool _)⟩
  simp [execOp, vx, Op.unary]
theorem op_conv {o : Oper} {k : IntKind} {x : SX} {z : SV} (hok : okOp P o.op o.type (.conv k x) = true) (hst : St W M g (tmf a) w) (hy : pv g b (.conv k x) = some z) :
    ∃ v, (execOp a.eval o).run P w = .ok (.value v) w ∧ OwnX g (tmf a) M w v z [] := by
  obtain ⟨dst, opp, ty, pos, af, gd⟩ := o
  simp only [okOp] at hok
  split at hok
  case h_2 => cases hok
  rename_i s t y
  simp only [Bool.and_eq_true] at hok
  obtain ⟨ht, hx⟩ := hok
  have kx := cp_sound hst hx
  simp only [pv] at hy
  split at hy
  case h_2 => cases hy
  rename_i k0 m e1
  cases hy
  rw [e1] at kx
  have vx := kx.i
  split at ht
  case h_2 => cases ht
  rename_i k1 k2 u1 u2
  simp only [beq_iff_eq] at ht
  subst ht
  refine ⟨_, ?_, Ow.imm _ _ (.int _ _)⟩
  simp [execOp, vx, convert, run_underlying u1, run_underlying u2, Conv.intToInt]
theorem OwnX.of_own {g : Nat → SV} {tm : Nat → Value} {M : Nat → Prop} {w : World} {v : Value} {x : SV} {bs : List Nat} (h : OwnV M w v x bs) : OwnX g tm M w v x bs := by
  cases x <;> first
    | exact h
    | (cases h; rename_i h; cases h)
theorem op_ext {o : Oper} {x : SX} {i : Nat} {z : SV} (hok : okOp P o.op o.type (.ext x i) = true) (hst : St W M g (tmf a) w) (hy : pv g b (.ext x i) = some z) :
    ∃ v, (execOp a.eval o).run P w = .ok (.value v) w ∧ OwnX g (tmf a) M w v z [] := by
  obtain ⟨dst, opp, ty, pos, af, gd⟩ := o
  simp only [okOp] at hok
  split at hok
  case h_2 => cases hok
  rename_i y j
  simp only [Bool.and_eq_true, beq_iff_eq] at hok
  obtain ⟨rfl, hx⟩ := hok
  have kx := cp_sound hst hx
  simp only [pv] at hy
  split at hy
  case h_2 => cases hy
  rename_i cs e1
  rw [e1] at kx
  have h0 : OwnV M w (a.eval y) (.tuple cs) [] := kx
  have h1 : ∃ us : List Value, a.eval y = .tuple us.toArray ∧ OwnL M w us cs [] := by
    generalize a.eval y = v0 at h0
    cases h0 with
    | imm _ _ h => cases h with | tuple us cs h => exact ⟨us, rfl, OwnL.of_rep h⟩
    | tuple us cs bs h => exact ⟨us, rfl, h⟩
  obtain ⟨us, ve, hl⟩ := h1
  obtain ⟨u, bs', hu, ho, hb⟩ := hl.get hy
  obtain rfl : bs' = [] := by
    cases bs' with
    | nil => rfl
    | cons c l => exact absurd (hb c List.mem_cons_self) (by simp)
  refine ⟨u, ?_, .of_own ho⟩
  simp [execOp, ve, Instr.extract, hu]
/-- What lies at a base that owns a row. -/
theorem St.base {tm : Nat → Value} (hst : St W M g tm w) {t : Nat} {o : Option Nat} {e sz : Nat} {xs : List SV} (h1 : (g t).at o = .own e sz xs) : ∃ bs : Nat → List Nat, ∃ bt, OwnV M w (valAt w (tm t) o) (.own e sz xs) bt ∧ (∀ c ∈ bt, c ∈ bs t) ∧
    (∀ t, OwnX g tm M w (tm t) (g t) (bs t)) ∧ (∀ t u b, b ∈ bs t → b ∈ bs u → t = u) ∧ (∀ t, (bs t).Nodup) ∧ ∀ t b, b ∈ bs t → W.heap.size ≤ b ∧ b < w.heap.size ∧ ¬ M b := by
  obtain ⟨bs, k1, k2, k3, k4⟩ := hst.own
  have k0 := k1 t
  cases o with
  | none =>
    simp only [SV.at] at h1
    rw [h1] at k0
    exact ⟨bs, bs t, k0, fun _ h => h, k1, k2, k3, k4⟩
  | some o =>
    cases hg : g t <;> rw [hg] at h1 <;> simp only [SV.at] at h1 <;> try (cases h1; done)
    rename_i y0
    rw [hg] at k0
    have k0 : OwnV M w (tm t) (.box y0) (bs t) := k0
    generalize hbt : bs t = bt at k0
    generalize htm : tm t = tv at k0
    cases k0 with
    | imm _ _ h => cases h
    | box b0 e0 x0 cur bs0 hb0 hl0 =>
      rw [List.getD_eq_getElem?_getD] at h1
      cases hc : y0.cells[o]? with
      | none => rw [hc] at h1; simp at h1
      | some c0 =>
        rw [hc] at h1
        simp at h1
        subst h1
        obtain ⟨u, bs', hu, ho, hsub⟩ := OwnL.get hl0 hc
        have hcell : w.cell? ⟨b0, o, none⟩ = some u := by
          simp only [World.cell?, hb0]
          simpa using hu
        refine ⟨bs, bs', ?_, fun c hc => ?_, k1, k2, k3, k4⟩
        · simp only [valAt, hcell]; exact ho
        · rw [hbt]; exact List.mem_cons_of_mem _ (hsub c hc)
theorem OwnV.sl {v : Value} {e sz : Nat} {xs : List SV} {bt : List Nat} (h : OwnV M w v (.own e sz xs) bt) : ∃ a0 cap, v = .slice a0 xs.length cap ∧ (a0 = none → xs = []) ∧ ∀ ad, a0 = some ad → ∃ c cur, ad = ⟨c, 0, none⟩ ∧ w.heap[c]? = some (.cells cur e (0, 0)) ∧ cur.size = cap * sz ∧ xs.length ≤ cap ∧ cap ≤ maxLen ∧ RepR M w c 0 sz xs ∧ bt = [c] := by
  cases h with
  | imm _ _ h => cases h
  | ownNil => exact ⟨none, 0, rfl, fun _ => rfl, fun ad h => by cases h⟩
  | own b cap e sz xs cur hb hs hl hx h => exact ⟨_, cap, rfl, (fun h => by cases h), fun ad h => by cases h; exact ⟨b, cur, rfl, hb, hs, hl, hx, h, rfl⟩⟩
theorem b_eq {b : Nat → SV} (hb : ∀ t, b t = .dead ∨ b t = g t) {t : Nat} {o : Option Nat} {e sz : Nat} {xs : List SV} (h : (b t).at o = .own e sz xs) : (g t).at o = .own e sz xs := by
  rcases hb t with h4 | h4
  · rw [h4] at h; cases o <;> simp [SV.at] at h
  · rw [← h4]; exact h
theorem op_len {o : Oper} {x : SX} {z : SV} (hok : okOp P o.op o.type (.len x) = true) (hst : St W M g (tmf a) w) (hb : ∀ t, b t = .dead ∨ b t = g t) (hy : pv g b (.len x) = some z) :
    ∃ v, (execOp a.eval o).run P w = .ok (.value v) w ∧ OwnX g (tmf a) M w v z [] := by
  obtain ⟨dst, opp, ty, pos, af, gd⟩ := o
  simp only [okOp] at hok
  split at hok
  case h_2 => cases hok
  rename_i args argTypes
  split at hok
  case h_2 => cases hok
  rename_i y t ea et
  simp only [Bool.and_eq_true] at hok
  obtain ⟨hx, ht⟩ := hok
  have kx := cp_sound hst hx
  simp only [pv] at hy
  split at hy
  case h_2 => cases hy
  rename_i n en
  cases hy
  obtain rfl : args = #[y] := by simpa using congrArg List.toArray ea
  obtain rfl : argTypes = #[t] := by simpa using congrArg List.toArray et
  generalize cp g x = sx at kx en
  have hv : ∃ a0 cap, a.eval y = .slice a0 n cap := by
    unfold pvL at en
    split at en
    · rename_i sz xs
      cases en
      rcases kx.l with ⟨_, e, rfl⟩ | ⟨c, off, cap, e, _⟩
      · exact ⟨_, _, e⟩
      · exact ⟨_, _, e⟩
    · rename_i t' o'
      obtain ⟨_, e, sz, xs, a0, n0, cap, h1, h2, h3⟩ := kx
      split at en
      · rename_i e' sz' xs' h4
        cases en
        have h5 := b_eq hb h4
        obtain ⟨bs, bt, ho, _⟩ := hst.base h5
        obtain ⟨a1, cap1, hs, _⟩ := ho.sl
        rw [h2] at hs
        cases hs
        exact ⟨_, _, h3⟩
      · cases en
    · cases en
  refine ⟨_, ?_, Ow.imm _ _ (.int _ _)⟩
  obtain ⟨a0, cap, ve⟩ := hv
  obtain ⟨e, hu⟩ : ∃ e, P.underlying t = some (.slice e) := by
    cases hq : P.underlying t with
    | none => simp [hq] at ht
    | some d => cases d <;> simp [hq] at ht; exact ⟨_, rfl⟩
  simp [execOp, resolve, invoke, builtin, Builtin.len_, run_underlying hu, ve, goInt]
theorem op_lens {o : Oper} {x : SX} {z : SV} (hok : okOp P o.op o.type (.lens x) = true) (hst : St W M g (tmf a) w) (hy : pv g b (.lens x) = some z) :
    ∃ v, (execOp a.eval o).run P w = .ok (.value v) w ∧ OwnX g (tmf a) M w v z [] := by
  obtain ⟨dst, opp, ty, pos, af, gd⟩ := o
  simp only [okOp] at hok
  split at hok
  case h_2 => cases hok
  rename_i args argTypes
  split at hok
  case h_2 => cases hok
  rename_i y t ea et
  simp only [Bool.and_eq_true] at hok
  obtain ⟨hx, ht⟩ := hok
  have kx := cp_sound hst hx
  simp only [pv] at hy
  split at hy
  case h_2 => cases hy
  rename_i n en
  cases hy
  obtain rfl : args = #[y] := by simpa using congrArg List.toArray ea
  obtain rfl : argTypes = #[t] := by simpa using congrArg List.toArray et
  rw [en] at kx
  have ve := kx.s
  refine ⟨_, ?_, Ow.imm _ _ (.int _ _)⟩
  have hu : P.underlying t = some .string := by
    cases hq : P.underlying t with
    | none => simp [hq] at ht
    | some d => cases d <;> simp [hq] at ht; rfl
  simp [execOp, resolve, invoke, builtin, Builtin.len_, run_underlying hu, ve, goInt]
theorem op_mini {o : Oper} {x y : SX} {z : SV} (hok : okOp P o.op o.type (.mini x y) = true) (hst : St W M g (tmf a) w) (hy : pv g b (.mini x y) = some z) :
    ∃ v, (execOp a.eval o).run P w = .ok (.value v) w ∧ OwnX g (tmf a) M w v z [] := by
  obtain ⟨dst, opp, ty, pos, af, gd⟩ := o
  simp only [okOp] at hok
  split at hok
  case h_2 => cases hok
  rename_i args argTypes
  split at hok
  case h_2 => cases hok
  rename_i x' y' ea
  simp only [Bool.and_eq_true] at hok
  obtain ⟨hx, hy'⟩ := hok
  have kx := cp_sound hst hx
  have ky := cp_sound hst hy'
  simp only [pv] at hy
  split at hy
  case h_2 => cases hy
  rename_i k m k' n e1 e2
  cases hy
  rw [e1] at kx
  rw [e2] at ky
  have vx := kx.i
  have vy := ky.i
  obtain rfl : args = #[x', y'] := by simpa using congrArg List.toArray ea
  refine ⟨_, ?_, Ow.imm _ _ (.int _ _)⟩
  simp [execOp, resolve, invoke, builtin, Builtin.min_, vx, vy, Builtin.min2]
theorem op_nchk {o : Oper} {x : SX} {z : SV} (hok : okOp P o.op o.type (.nchk x) = true) (hst : St W M g (tmf a) w) (hy : pv g b (.nchk x) = some z) :
    ∃ v, (execOp a.eval o).run P w = .ok (.value v) w ∧ OwnX g (tmf a) M w v z [] := by
  obtain ⟨dst, opp, ty, pos, af, gd⟩ := o
  simp only [okOp] at hok
  split at hok
  case h_2 => cases hok
  have kx := cp_sound hst hok
  rename_i y
  have hz : cp g x = z ∧ z.isPtr = true ∧ z ≠ .nilp := by
    simp only [pv] at hy
    split at hy <;> first | (cases hy; done) | (rename_i h; cases hy; exact ⟨h, rfl, by simp⟩)
  obtain ⟨rfl, h1, h2⟩ := hz
  obtain ⟨p, hp, hn⟩ := ptr_of kx h1
  cases p with
  | none => exact absurd (hn.1 rfl) h2
  | some p =>
    refine ⟨_, ?_, kx⟩
    simp [execOp, hp]
theorem add_mid (c o j : Nat) : (⟨c, o, none⟩ : Addr).add j = ⟨c, o + j, none⟩ := Addr.add_mid c o j
theorem CellsAt.part {c off : Nat} {us : List Value} (h : CellsAt w c off us) (o n : Nat) : CellsAt w c (off + o) ((us.drop o).take n) := (h.drop o).take n
/-- The address of a field. -/
theorem run_fa {t f off n : Nat} {fs : Array Field} {fd : Field} (hu : P.underlying t = some (.struct fs)) (hf : fs[f]? = some fd) (ho : fd.offset = off) (hn : tyN P fd.type n = true) (h0 : n ≠ 0) (c p : Nat) :
    (Instr.fieldAt t (.pointer (some ⟨c, p, none⟩)) f).run P w = .ok (.pointer (some ⟨c, p + off, none⟩)) w := by
  obtain ⟨i, hi, hs⟩ := tyN_info hn
  subst hs
  simp [Instr.fieldAt, run_underlying hu, hf, Instr.sureAddr, fieldPlace, sizeOf, typeInfo, hi, h0, ho, add_mid]
theorem op_fa {o : Oper} {off n : Nat} {ag : Bool} {x : SX} {z : SV} (hok : okOp P o.op o.type (.fa off n ag x) = true) (hst : St W M g (tmf a) w) (hy : pv g b (.fa off n ag x) = some z) :
    ∃ v, (execOp a.eval o).run P w = .ok (.value v) w ∧ OwnX g (tmf a) M w v z [] := by
  obtain ⟨dst, opp, ty, pos, af, gd⟩ := o
  simp only [okOp] at hok
  split at hok
  case h_2 => cases hok
  rename_i t y f
  simp only [Bool.and_eq_true] at hok
  obtain ⟨ht, hx⟩ := hok
  split at ht
  case h_2 => cases ht
  rename_i fs hu
  split at ht
  case h_2 => cases ht
  rename_i fd hf
  simp only [Bool.and_eq_true, beq_iff_eq, bne_iff_ne, ne_eq] at ht
  obtain ⟨⟨⟨ho, hn⟩, h0⟩, hag⟩ := ht
  have kx := cp_sound hst hx
  have hn1 : ag = false → n = 1 ∨ True := fun _ => .inr trivial
  simp only [pv] at hy
  split at hy
  · rename_i y0 e1
    rw [e1] at kx
    obtain ⟨c, p, us, ve, hm, hc, hr⟩ := kx.r
    split at hy
    case h_2 => cases hy
    rename_i z0 hp
    cases hy
    refine ⟨_, by simp only [execOp, ve, Sem.run_bind, run_fa hu hf ho hn h0, Result.andThen_ok]; rfl, ?_⟩
    refine Ow.imm _ _ (.ref c (p + off) ((us.drop off).take (if ag = true then n else 1)) z0 hm (hc.part _ _) ?_)
    cases ag with
    | true => exact (part_rep hr hp (by simp)).1
    | false =>
      have hp' : part y0.cells off 1 false = some z0 := hp
      exact (part_rep hr hp' (fun _ => rfl)).1
  · rename_i t' o' e1
    cases hy
    rw [e1] at kx
    obtain ⟨_, c, y0, h1, h2, ve⟩ := kx
    refine ⟨_, by simp only [execOp, ve, Sem.run_bind, run_fa hu hf ho hn h0, Result.andThen_ok]; rfl, ?_⟩
    exact ⟨rfl, c, y0, h1, h2, rfl⟩
  · rename_i t' o' i' c' e1
    cases hy
    rw [e1] at kx
    obtain ⟨_, c, n0, cap, e, sz, xs, h1, h2, h3, ve⟩ := kx
    refine ⟨_, by simp only [execOp, ve, Sem.run_bind, run_fa hu hf ho hn h0, Result.andThen_ok]; rfl, ?_⟩
    exact ⟨rfl, c, n0, cap, e, sz, xs, h1, h2, h3, by rw [Nat.add_assoc]⟩
  · cases hy
theorem run_ia {t e sz : Nat} (hu : P.underlying t = some (.slice e)) (hn : tyN P e sz = true) {c off len cap : Nat} {k : IntKind} {i : Int} (h0 : 0 ≤ i) (h1 : i < len) :
    (Instr.indexAt t (.slice (some ⟨c, off, none⟩) len cap) (.int k i)).run P w = .ok (.pointer (some ⟨c, off + i.toNat * sz, none⟩)) w := by
  obtain ⟨j, hi, hs⟩ := tyN_info hn
  subst hs
  simp [Instr.indexAt, asIntOf, run_underlying hu, sizeOf, typeInfo, hi, h0, h1, add_mid]
theorem op_ia {o : Oper} {sz : Nat} {x i : SX} {z : SV} (hok : okOp P o.op o.type (.ia sz x i) = true) (hst : St W M g (tmf a) w) (hb : ∀ t, b t = .dead ∨ b t = g t) (hy : pv g b (.ia sz x i) = some z) :
    ∃ v, (execOp a.eval o).run P w = .ok (.value v) w ∧ OwnX g (tmf a) M w v z [] := by
  obtain ⟨dst, opp, ty, pos, af, gd⟩ := o
  simp only [okOp] at hok
  split at hok
  case h_2 => cases hok
  rename_i t y j
  simp only [Bool.and_eq_true] at hok
  obtain ⟨⟨ht, hx⟩, hi⟩ := hok
  split at ht
  case h_2 => cases ht
  rename_i e hu
  have kx := cp_sound hst hx
  have ki := cp_sound hst hi
  simp only [pv] at hy
  split at hy
  case h_2 => cases hy
  rename_i ik k ei
  rw [ei] at ki
  have vi := ki.i
  split at hy
  · rename_i sz' xs ex
    split at hy
    case isFalse => cases hy
    rename_i hc
    obtain ⟨rfl, h0, h1⟩ := hc
    cases hy
    rw [ex] at kx
    have hlt : k.toNat < xs.length := by omega
    rcases kx.l with ⟨_, _, rfl⟩ | ⟨c, off, cap, ve, hm, hle, hmx, hr⟩
    · simp at hlt
    · have hxk : xs[k.toNat]? = some (xs.getD k.toNat .dead) := by simp [List.getD, List.getElem?_eq_getElem hlt]
      obtain ⟨us, hl, hcell, hrep⟩ := RepR.row hr hxk
      refine ⟨_, by simp only [execOp, ve, vi, Sem.run_bind, run_ia hu ht h0 h1, Result.andThen_ok]; rfl, ?_⟩
      exact Ow.imm _ _ (.ref c _ us _ hm hcell hrep)
  · rename_i t' o' ex
    split at hy
    case h_2 => cases hy
    rename_i e' sz' xs hbo
    split at hy
    case isFalse => cases hy
    rename_i hc
    obtain ⟨rfl, h0, h1⟩ := hc
    cases hy
    rw [ex] at kx
    have h5 := b_eq hb hbo
    obtain ⟨_, e2, sz2, xs2, a0, n0, cap, k1, k2, ve⟩ := kx
    obtain ⟨bs, bt, ho, _⟩ := hst.base h5
    obtain ⟨a1, cap1, hs, hnone, hsome⟩ := ho.sl
    rw [k2] at hs
    cases hs
    cases a0 with
    | none => rw [hnone rfl] at h1; simp at h1; omega
    | some ad =>
      obtain ⟨c, cur, rfl, hcur, hcs, hle, hmx, hr, rfl⟩ := hsome ad rfl
      refine ⟨_, by simp only [execOp, ve, vi, Sem.run_bind, run_ia hu ht h0 h1, Result.andThen_ok]; rfl, ?_⟩
      exact ⟨rfl, c, xs.length, cap, e', sz', xs, h5, k2, by omega, by simp⟩
  · cases hy
theorem run_iaa {t e sz num : Nat} (hu : P.underlying t = some (.array num e)) (hn : tyN P e sz = true) {c off : Nat} {k : IntKind} {i : Int} (h0 : 0 ≤ i) (h1 : i < num) :
    (Instr.indexAt t (.pointer (some ⟨c, off, none⟩)) (.int k i)).run P w = .ok (.pointer (some ⟨c, off + i.toNat * sz, none⟩)) w := by
  obtain ⟨j, hi, hs⟩ := tyN_info hn
  subst hs
  simp [Instr.indexAt, asIntOf, run_underlying hu, Instr.sureAddr, sizeOf, typeInfo, hi, h0, h1, add_mid]
theorem op_iaa {o : Oper} {num sz : Nat} {ag : Bool} {x i : SX} {z : SV} (hok : okOp P o.op o.type (.iaa num sz ag x i) = true) (hst : St W M g (tmf a) w) (hy : pv g b (.iaa num sz ag x i) = some z) :
    ∃ v, (execOp a.eval o).run P w = .ok (.value v) w ∧ OwnX g (tmf a) M w v z [] := by
  obtain ⟨dst, opp, ty, pos, af, gd⟩ := o
  simp only [okOp] at hok
  split at hok
  case h_2 => cases hok
  rename_i t y j
  simp only [Bool.and_eq_true] at hok
  obtain ⟨⟨ht, hx⟩, hi⟩ := hok
  split at ht
  case h_2 => cases ht
  rename_i m e hu
  simp only [Bool.and_eq_true, beq_iff_eq] at ht
  obtain ⟨⟨rfl, hn⟩, hag⟩ := ht
  have kx := cp_sound hst hx
  have ki := cp_sound hst hi
  simp only [pv] at hy
  split at hy
  case h_2 => cases hy
  rename_i ik k ei
  rw [ei] at ki
  have vi := ki.i
  split at hy
  case isFalse => cases hy
  rename_i hc
  obtain ⟨h0, h1⟩ := hc
  split at hy
  · rename_i y0 e1
    rw [e1] at kx
    obtain ⟨c, p, us, ve, hm, hc, hr⟩ := kx.r
    split at hy
    case h_2 => cases hy
    rename_i z0 hp
    cases hy
    refine ⟨_, by simp only [execOp, ve, vi, Sem.run_bind, run_iaa hu hn h0 h1, Result.andThen_ok]; rfl, ?_⟩
    refine Ow.imm _ _ (.ref c (p + k.toNat * sz) ((us.drop (k.toNat * sz)).take (if ag = true then sz else 1)) z0 hm (hc.part _ _) ?_)
    cases ag with
    | true => exact (part_rep hr hp (by simp)).1
    | false =>
      have hp' : part y0.cells (k.toNat * sz) 1 false = some z0 := hp
      exact (part_rep hr hp' (fun _ => rfl)).1
  · rename_i t' o' e1
    cases hy
    rw [e1] at kx
    obtain ⟨_, c, y0, h1', h2, ve⟩ := kx
    refine ⟨_, by simp only [execOp, ve, vi, Sem.run_bind, run_iaa hu hn h0 h1, Result.andThen_ok]; rfl, ?_⟩
    exact ⟨rfl, c, y0, h1', h2, rfl⟩
  · cases hy
end
end Go.Sv
