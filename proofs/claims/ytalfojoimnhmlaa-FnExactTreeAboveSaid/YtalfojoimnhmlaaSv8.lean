/- What an operation looks at; a region that draws its order comes to the same, whatever the order. No condition. -/
import Derived.Test.YtalfojoimnhmlaaSv7
namespace Go.Sv
open Go.RowKit
set_option linter.unusedVariables false
/-- The operands of an operation. -/
def SOp.xs : SOp → List SX
  | .mov x | .not x | .conv _ x | .len x | .lens x | .fa _ _ _ x | .ld _ _ x | .ext x _ | .nchk x | .box x | .mks _ _ _ _ x => [x]
  | .look x y | .bin _ x y | .eqb _ x y | .eqp _ x y | .ia _ x y | .iaa _ _ _ x y | .mini x y | .eqa _ x y | .ixa _ _ _ x y => [x, y]
  | .alloc _ | .mkm => []
  | .build _ ps => ps.map (·.2.2)
  | .fn _ cs => cs
  | .slc _ x lo hi => x :: (lo.toList ++ hi.toList)
  | .bsl _ _ xs => xs
  | .pick t _ x => [.t t, x]
def FOp.xs : FOp → List SX
  | .p op => op.xs
  | .call _ xs => xs
  | .callv x xs => x :: xs
section
variable {g g' b : Nat → SV}
theorem fillS_congr : ∀ (ps : List (Nat × Nat × SX)) (cs : List SV), (∀ x ∈ ps.map (·.2.2), cp g x = cp g' x) → fillS g cs ps = fillS g' cs ps
  | [], _, _ => rfl
  | (off, n, x) :: ps, cs, h => by
    simp only [fillS]
    rw [h x (by simp), fillS_congr ps _ fun y hy => h y (by simp only [List.map_cons, List.mem_cons]; exact .inr hy)]
theorem caps_congr : ∀ (xs : List SX), (∀ x ∈ xs, cp g x = cp g' x) → caps g xs = caps g' xs
  | [], _ => rfl
  | x :: xs, h => by
    simp only [caps]
    rw [h x List.mem_cons_self, caps_congr xs fun y hy => h y (List.mem_cons_of_mem _ hy)]
theorem solids_congr {sz : Nat} : ∀ (xs : List SX), (∀ x ∈ xs, cp g x = cp g' x) → solids g sz xs = solids g' sz xs
  | [], _ => rfl
  | x :: xs, h => by
    simp only [solids]
    rw [h x List.mem_cons_self, solids_congr xs fun y hy => h y (List.mem_cons_of_mem _ hy)]
theorem argv_congr : ∀ (xs : List SX), (∀ x ∈ xs, cp g x = cp g' x) → argv g b xs = argv g' b xs
  | [], _ => rfl
  | x :: xs, h => by
    simp only [argv]
    rw [h x List.mem_cons_self, argv_congr xs fun y hy => h y (List.mem_cons_of_mem _ hy)]
theorem bnd_congr {d : Nat} : ∀ (o : Option SX), (∀ x ∈ o.toList, cp g x = cp g' x) → bnd g d o = bnd g' d o
  | none, _ => rfl
  | some x, h => by simp only [bnd]; rw [h x (by simp)]
theorem pv_congr {op : SOp} (h : ∀ x ∈ op.xs, cp g x = cp g' x) : pv g b op = pv g' b op := by
  cases op
  case build zero ps => simp only [pv]; rw [fillS_congr ps zero h]
  case fn f cs => simp only [pv]; rw [caps_congr cs h]
  case bsl e sz xs => simp only [pv]; rw [solids_congr xs h]
  case slc sz x lo hi =>
    simp only [pv]
    rw [h x (by simp [SOp.xs])]
    have h1 : ∀ d, bnd g d lo = bnd g' d lo := fun d => bnd_congr lo fun y hy => h y (by simp only [SOp.xs, List.mem_cons, List.mem_append]; exact .inr (.inl hy))
    have h2 : ∀ d, bnd g d hi = bnd g' d hi := fun d => bnd_congr hi fun y hy => h y (by simp only [SOp.xs, List.mem_cons, List.mem_append]; exact .inr (.inr hy))
    simp only [h1, h2]
  case alloc | mkm => rfl
  case pick t wt x => simp only [pv]; rw [h (.t t) (by simp [SOp.xs]), h x (by simp [SOp.xs])]
  case mov x | not x | conv k x | len x | lens x | fa off n ag x | ld n ag x | ext x i | nchk x | box x | mks e sz bytes z x => simp only [pv]; rw [h x (by simp [SOp.xs])]
  case look x y | bin op x y | eqb neg x y | eqp neg x y | ia sz x y | iaa num sz ag x y | mini x y | eqa neg x y | ixa num sz ag x y =>
    first
      | rfl
      | (simp only [pv]; rw [h x (by simp [SOp.xs]), h y (by simp [SOp.xs])])
theorem Y_congr {P : Program} {op : FOp} {z : SV} (h : ∀ x ∈ op.xs, cp g x = cp g' x) (hy : Y P g b op z) : Y P g' b op z := by
  cases op with
  | p op => simp only [Y] at hy ⊢; rw [← pv_congr h]; exact hy
  | call f xs => simp only [Y] at hy ⊢; rw [← argv_congr xs h]; exact hy
  | callv x xs =>
    simp only [Y] at hy ⊢
    rw [← argv_congr xs fun y hy => h y (List.mem_cons_of_mem _ hy), ← h x List.mem_cons_self]
    exact hy
theorem cp_upd {d : Nat} {z : SV} {x : SX} (h : x ≠ .t d) : cp (upd g d z) x = cp g x := by
  cases x with
  | c v => rfl
  | t n => simp only [cp]; rw [upd_other g z (fun e => h (by rw [e]))]
end
/-- An operation of a region, its slot, its guard. -/
structure FO where
  d : Nat
  gd : Option (Nat × Bool)
  op : FOp
/-- Is it wanted? -/
def want (g : Nat → SV) : Option (Nat × Bool) → Option Bool
  | none => some true
  | some (t, w) => match g t with | .bool b => some (b == w) | .undef => some false | _ => none
def SX.seen (l : List Nat) : SX → Bool
  | .t u => l.contains u
  | .c _ => true
def okFO (P : Program) (n : Nat) (ops : Array Oper) (o : Oper) (fo : FO) : Bool :=
  o.dst == some fo.d && decide (fo.d < n) && okF P o.op o.type fo.op && (fo.op.xs.all fun x => x.seen (o.looksAt ops)) &&
  (match o.guard, fo.gd with | none, none => true | some (j, w), some (t, w') => w == w' && (ops[j]?).bind (·.dst) == some t && (o.looksAt ops).contains t | _, _ => false)
structure IsFO (P : Program) (n : Nat) (ops : Array Oper) (o : Oper) (fo : FO) : Prop where
  dst : o.dst = some fo.d
  lt : fo.d < n
  ok : okF P o.op o.type fo.op = true
  seen : ∀ t, SX.t t ∈ fo.op.xs → t ∈ o.looksAt ops
  gd : (o.guard = none ∧ fo.gd = none) ∨ ∃ j w t, o.guard = some (j, w) ∧ fo.gd = some (t, w) ∧ (ops[j]?).bind (·.dst) = some t ∧ t ∈ o.looksAt ops
theorem okFO_spec {P : Program} {n : Nat} {ops : Array Oper} {o : Oper} {fo : FO} (h : okFO P n ops o fo = true) : IsFO P n ops o fo := by
  unfold okFO at h
  simp only [Bool.and_eq_true, beq_iff_eq, decide_eq_true_eq, List.all_eq_true] at h
  obtain ⟨⟨⟨⟨h1, h2⟩, h3⟩, h4⟩, h5⟩ := h
  refine ⟨h1, h2, h3, fun t ht => by have := h4 _ ht; simpa [SX.seen] using this, ?_⟩
  split at h5
  · rename_i e1 e2; exact .inl ⟨e1, e2⟩
  · rename_i j w t w' e1 e2
    simp only [Bool.and_eq_true, beq_iff_eq] at h5
    obtain ⟨⟨rfl, h6⟩, h7⟩ := h5
    exact .inr ⟨j, w, t, e1, e2, h6, by simpa using h7⟩
  · cases h5
section
variable {P : Program} {ops : Array Oper} {n : Nat} {W : Base} {M : Nat → Prop} {g b : Nat → SV} {a : Act} {w : World}
theorem want_sound {o : Oper} {fo : FO} {v : Bool} (hi : IsFO P n ops o fo) (hst : St W M g (tmf a) w) (hw : want g fo.gd = some v) : Region.wanted o (yielded ops a.tmps) = v := by
  rcases hi.gd with ⟨e1, e2⟩ | ⟨j, w', t, e1, e2, hj, _⟩
  · rw [e2] at hw
    simp only [want, Option.some.injEq] at hw
    subst hw
    simp [Region.wanted, e1]
  · rw [e2] at hw
    simp only [want] at hw
    obtain ⟨bs, k1, _⟩ := hst.own
    have k0 := k1 t
    simp only [Region.wanted, e1, yielded, hj, Option.bind_some]
    split at hw
    · rename_i c hg
      simp only [Option.some.injEq] at hw
      subst hw
      rw [hg] at k0
      have hv := k0.bo
      have : a.tmps[t]? = some (.bool c) := by
        simp only [tmf, Array.getD_eq_getD_getElem?] at hv
        cases hq : a.tmps[t]? with
        | none => rw [hq] at hv; simp [undef] at hv
        | some u => rw [hq] at hv; simpa using hv
      rw [this]
      cases c <;> cases w' <;> rfl
    · rename_i hg
      simp only [Option.some.injEq] at hw
      subst hw
      rw [hg] at k0
      have hv : Rep M w (tmf a t) .undef := k0.imm (n := 1) rfl
      generalize hq : tmf a t = u at hv
      cases hv
      simp only [tmf, Array.getD_eq_getD_getElem?] at hq
      cases hq2 : a.tmps[t]? with
      | none => rfl
      | some u => rw [hq2] at hq; simp at hq; subst hq; rfl
    · cases hw
/-- Operation number i comes up. -/
def yS (P : Program) (b : Nat → SV) (fos : Nat → Option FO) (i : Nat) (K : (Nat → SV) → Prop) (g : Nat → SV) : Prop :=
  match fos i with
  | none => K g
  | some fo => match want g fo.gd with
    | some true => ∃ z, Y P g b fo.op z ∧ K (upd g fo.d z)
    | some false => K (upd g fo.d .undef)
    | none => False
def wpAnyF (P : Program) (b : Nat → SV) (fos : Nat → Option FO) (ops : Array Oper) (K : (Nat → SV) → Prop) : Nat → Array Bool → (Nat → SV) → Prop
  | 0, listed, g => Region.ready .any ops listed = [] ∧ K g
  | fuel + 1, listed, g => (Region.ready .any ops listed = [] → K g) ∧ ∀ i ∈ Region.ready .any ops listed, yS P b fos i (wpAnyF P b fos ops K fuel (listed.setIfInBounds i true)) g
theorem yS_mono {fos : Nat → Option FO} {i : Nat} {K K' : (Nat → SV) → Prop} (h : ∀ g, K g → K' g) (hh : yS P b fos i K g) : yS P b fos i K' g := by
  unfold yS at *
  split
  · exact h _ (by simpa [*] using hh)
  · rename_i fo ho
    simp only [ho] at hh
    split
    · rename_i hw; simp only [hw] at hh; obtain ⟨z, h1, h2⟩ := hh; exact ⟨z, h1, h _ h2⟩
    · rename_i hw; simp only [hw] at hh; exact h _ hh
    · rename_i hw; simp only [hw] at hh
/-- In state g operation fo leaves z in its slot. -/
def YieldsF (P : Program) (b : Nat → SV) (fo : FO) (z : SV) (g : Nat → SV) : Prop :=
  (want g fo.gd = some true ∧ Y P g b fo.op z) ∨ (want g fo.gd = some false ∧ z = .undef)
theorem YieldsF.yS {fos : Nat → Option FO} {i : Nat} {fo : FO} {z : SV} (hi : fos i = some fo) (hy : YieldsF P b fo z g) {K : (Nat → SV) → Prop} (h : K (upd g fo.d z)) : yS P b fos i K g := by
  unfold Sv.yS
  simp only [hi]
  rcases hy with ⟨hw, hv⟩ | ⟨hw, rfl⟩
  · simp only [hw]; exact ⟨z, hv, h⟩
  · simp only [hw]; exact h
theorem yieldsF_of_yS {fos : Nat → Option FO} {i : Nat} {fo : FO} {K : (Nat → SV) → Prop} (hi : fos i = some fo) (h : yS P b fos i K g) : ∃ z, YieldsF P b fo z g ∧ K (upd g fo.d z) := by
  unfold yS at h
  simp only [hi] at h
  split at h
  · rename_i hw; obtain ⟨z, h1, h2⟩ := h; exact ⟨z, .inl ⟨hw, h1⟩, h2⟩
  · rename_i hw; exact ⟨.undef, .inr ⟨hw, rfl⟩, h⟩
  · cases h
theorem want_upd {o : Oper} {fo : FO} {d : Nat} {z : SV} (hi : IsFO P n ops o fo) (hd : d ∉ o.looksAt ops) : want (upd g d z) fo.gd = want g fo.gd := by
  rcases hi.gd with ⟨_, e2⟩ | ⟨j, w', t, _, e2, _, hl⟩
  · rw [e2]; rfl
  · rw [e2]
    simp only [want]
    rw [upd_other g z (show t ≠ d from fun e => hd (e ▸ hl))]
theorem Y_upd {o : Oper} {fo : FO} {d : Nat} {z y : SV} (hi : IsFO P n ops o fo) (hd : d ∉ o.looksAt ops) : Y P (upd g d z) b fo.op y ↔ Y P g b fo.op y := by
  have h : ∀ x ∈ fo.op.xs, cp (upd g d z) x = cp g x := fun x hx => cp_upd fun e => hd (hi.seen d (by rw [← e]; exact hx))
  exact ⟨Y_congr h, Y_congr fun x hx => (h x hx).symm⟩
theorem YieldsF_upd {o : Oper} {fo : FO} {d : Nat} {z y : SV} (hi : IsFO P n ops o fo) (hd : d ∉ o.looksAt ops) : YieldsF P b fo y (upd g d z) ↔ YieldsF P b fo y g := by
  unfold YieldsF
  rw [want_upd hi hd, Y_upd hi hd]
theorem upd_comm {α : Type} (g : Nat → α) {d e : Nat} (x y : α) (h : d ≠ e) : upd (upd g d x) e y = upd (upd g e y) d x := by
  funext t
  simp only [upd]
  by_cases h1 : t = e
  · subst h1; rw [if_pos rfl, if_neg (Ne.symm h), if_pos rfl]
  · rw [if_neg h1, if_neg h1]
/-- One operation apart from another one: each makes no difference to the other. -/
theorem yS_put {fos : Nat → Option FO} {j : Nat} {oi oj : Oper} {fi fj : FO} {v : SV} (hi : IsFO P n ops oi fi) (hj : IsFO P n ops oj fj) (hfj : fos j = some fj) (hap : oi.apart ops oj = true) {K : (Nat → SV) → Prop}
    (hy : YieldsF P b fi v g) (h : yS P b fos j K (upd g fi.d v)) : yS P b fos j (fun g' => YieldsF P b fi v g' ∧ K (upd g' fi.d v)) g := by
  obtain ⟨h1, h2, h3⟩ := Oper.apart_spec hap
  have k1 := h1 _ hi.dst
  have k2 : fi.d ≠ fj.d := fun e => h2 _ hi.dst (by rw [hj.dst, e])
  have k3 := h3 _ hj.dst
  obtain ⟨y, h4, h5⟩ := yieldsF_of_yS hfj h
  refine YieldsF.yS hfj ((YieldsF_upd hj k1).1 h4) ⟨(YieldsF_upd hi k3).2 hy, ?_⟩
  rw [upd_comm g y v (Ne.symm k2)]
  exact h5
theorem wpAnyF_first {fos : Nat → Option FO} {K : (Nat → SV) → Prop} {i : Nat} {oi : Oper} {fi : FO} {v : SV} (hoi : ops[i]? = some oi) (hfi : fos i = some fi) (hall : ∀ j oj, ops[j]? = some oj → ∃ fj, fos j = some fj ∧ IsFO P n ops oj fj) :
    ∀ (fuel : Nat) (listed : Array Bool) (g : Nat → SV),
      (∀ j oj, ops[j]? = some oj → j ≠ i → listed.getD j true = false → (∀ e ∈ oj.after, Region.binds .any e = true → e.on ≠ i) → oi.apart ops oj = true) →
      i ∈ Region.ready .any ops listed → YieldsF P b fi v g → wpAnyF P b fos ops K fuel (listed.setIfInBounds i true) (upd g fi.d v) → wpAnyF P b fos ops K (fuel + 1) listed g := by
  have hii : IsFO P n ops oi fi := by obtain ⟨f, h1, h2⟩ := hall i oi hoi; rw [hfi] at h1; cases h1; exact h2
  intro fuel
  induction fuel with
  | zero =>
    intro listed g _ hr hy H
    refine ⟨fun h => (by rw [h] at hr; cases hr), fun j hj => ?_⟩
    by_cases hji : j = i
    · subst hji; exact hy.yS hfi H
    · have := ready_mono hj hji
      rw [H.1] at this
      cases this
  | succ fuel ih =>
    intro listed g hfree hr hy H
    refine ⟨fun h => (by rw [h] at hr; cases hr), fun j hj => ?_⟩
    by_cases hji : j = i
    · subst hji; exact hy.yS hfi H
    · have h1 := H.2 j (ready_mono hj hji)
      obtain ⟨hjun, oj, hoj, hdone⟩ := mem_ready.1 hj
      have hnot : ∀ e ∈ oj.after, Region.binds .any e = true → e.on ≠ i := fun e he hb heq => by
        have h1 := hdone e he hb
        have h0 := (mem_ready.1 hr).1
        rw [heq] at h1
        rcases Nat.lt_or_ge i listed.size with h' | h'
        · simp [h'] at h0 h1; rw [h0] at h1; cases h1
        · simp [Array.getElem?_eq_none h'] at h1
      obtain ⟨fj, hfj, hij⟩ := hall j oj hoj
      have h2 := yS_put hii hij hfj (hfree j oj hoj hji hjun hnot) hy h1
      have hfree' : ∀ k ok, ops[k]? = some ok → k ≠ i → (listed.setIfInBounds j true).getD k true = false →
          (∀ e ∈ ok.after, Region.binds .any e = true → e.on ≠ i) → oi.apart ops ok = true := fun k ok hk hki hun hno => by
        refine hfree k ok hk hki ?_ hno
        by_cases hjk : j = k
        · subst hjk; exact hjun
        · rw [getD_set_ne true hjk] at hun; exact hun
      refine yS_mono (fun g' h3 => ih (listed.setIfInBounds j true) g' hfree' (ready_mono hr (Ne.symm hji)) h3.1 ?_) h2
      rw [Array.setIfInBounds_comm _ _ hji]
      exact h3.2
/-- The text's own order. -/
def FRd (P : Program) (b : Nat → SV) : List FO → (Nat → SV) → ((Nat → SV) → Prop) → Prop
  | [], g, K => K g
  | fo :: rest, g, K => match want g fo.gd with
    | some true => ∃ z, Y P g b fo.op z ∧ FRd P b rest (upd g fo.d z) K
    | some false => FRd P b rest (upd g fo.d .undef) K
    | none => False
theorem wpAnyF_lex {fos : Nat → Option FO} {K : (Nat → SV) → Prop} (hall : ∀ j oj, ops[j]? = some oj → ∃ fj, fos j = some fj ∧ IsFO P n ops oj fj) : ∀ (l : List Oper) (fl : List FO) (k : Nat) (listed : Array Bool) (g : Nat → SV), (∀ j, l[j]? = ops[k + j]?) →
    l.length = fl.length → (∀ j f, fl[j]? = some f → fos (k + j) = some f) → Region.lexFrom .any ops l.length k listed = true → FRd P b fl g K → wpAnyF P b fos ops K l.length listed g
  | [], [], _, _, _, _, _, _, hB, h => ⟨by simpa [Region.lexFrom] using hB, h⟩
  | [], _ :: _, _, _, _, _, h, _, _, _ => by simp at h
  | _ :: _, [], _, _, _, _, h, _, _, _ => by simp at h
  | o :: l, f :: fl, k, listed, g, hl, hlen, hf, hB, h => by
    have h0 : ops[k]? = some o := by simpa using (hl 0).symm
    have hfk : fos k = some f := by simpa using hf 0 f rfl
    simp only [List.length_cons, Region.lexFrom, Bool.and_eq_true] at hB
    obtain ⟨⟨hr, hfr⟩, hB'⟩ := hB
    have hst : yS P b fos k (fun g' => FRd P b fl g' K) g := by unfold yS; simp only [hfk]; exact h
    obtain ⟨v, hy, hK⟩ := yieldsF_of_yS hfk hst
    exact wpAnyF_first h0 hfk hall l.length listed g (Region.free_spec h0 hfr) (by simpa using hr) hy
      (wpAnyF_lex hall l fl (k + 1) _ _ (fun j => by have := hl (j + 1); simpa [Nat.add_assoc, Nat.add_comm 1 j] using this) (by simpa using hlen)
        (fun j f' hj => by have := hf (j + 1) f' (by simpa using hj); rwa [show k + 1 + j = k + (j + 1) by omega]) hB' hK)
end
end Go.Sv
