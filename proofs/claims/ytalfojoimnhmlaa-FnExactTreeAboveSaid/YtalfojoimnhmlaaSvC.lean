/- Regions: plain ones, and those that draw their order. No condition. -/
import Derived.Test.YtalfojoimnhmlaaSvB
namespace Go.Sv
open Go.RowKit
set_option linter.unusedVariables false
inductive IT where
  | f (fo : FO)
  | e (d : Option Nat) (op : EOp)
def okIT (P : Program) (n : Nat) (ops : Array Oper) (o : Oper) : IT → Bool
  | .f fo => okFO P n ops o fo
  | .e d op => okE P n o.op d op && o.dst == d && o.guard.isNone
/-- The operations in their order; 'bs' tells what a base tells. -/
def FRx (P : Program) (bs : (Nat → SV) → Nat → SV) : List IT → (Nat → SV) → ((Nat → SV) → Prop) → Prop
  | [], g, K => K g
  | .f fo :: rest, g, K => match want g fo.gd with
    | some true => ∃ z, Y P g (bs g) fo.op z ∧ FRx P bs rest (upd g fo.d z) K
    | some false => FRx P bs rest (upd g fo.d .undef) K
    | none => False
  | .e d op :: rest, g, K => ∃ g', eff g d op = some g' ∧ FRx P bs rest g' K
def dsOf : List IT → List Nat
  | [] => []
  | .f fo :: rest => fo.d :: dsOf rest
  | .e (some d) _ :: rest => d :: dsOf rest
  | .e none _ :: rest => dsOf rest
def fds : List IT → List Nat
  | [] => []
  | .f fo :: rest => fo.d :: fds rest
  | .e _ _ :: rest => fds rest
theorem fds_sub (u : Nat) : ∀ (its : List IT), u ∈ fds its → u ∈ dsOf its
  | [], h => by cases h
  | .f fo :: rest, h => by
    simp only [fds, dsOf, List.mem_cons] at h ⊢
    rcases h with h | h
    · exact .inl h
    · exact .inr (fds_sub u rest h)
  | .e none _ :: rest, h => fds_sub u rest h
  | .e (some d) _ :: rest, h => List.mem_cons_of_mem _ (fds_sub u rest h)
section
variable {P : Program} {ops : Array Oper} {n : Nat} {W : Base} {M : Nat → Prop} {g : Nat → SV} {a : Act} {w : World}
theorem tmf_put {d : Nat} {v : Value} (h : d < a.tmps.size) : tmf (a.put (some d) v) = upd (tmf a) d v := by
  funext t
  simp only [tmf, Act.put, upd, Array.getD_eq_getD_getElem?, Array.getElem?_setIfInBounds]
  by_cases e : t = d
  · subst e; simp [h]
  · rw [if_neg (Ne.symm e), if_neg e]
theorem put_size {d : Option Nat} {v : Value} : (a.put d v).tmps.size = a.tmps.size := by cases d <;> simp [Act.put]
theorem put_defers {d : Option Nat} {v : Value} : (a.put d v).defers = a.defers := by cases d <;> rfl
/-- An effect leaves a slot free that was. -/
theorem eff_free {d : Option Nat} {op : EOp} {g' : Nat → SV} (h : eff g d op = some g') {u : Nat} (hu : d ≠ some u) (hf : (g u).free = true) : (g' u).free = true := by
  have kf : ∀ (t : Nat) (g : Nat → SV), (g u).free = true → (kill t g u).free = true := fun t g h => by
    rcases kill_cases t g u with e | ⟨e, _⟩
    · rw [e]; rfl
    · rw [e]; exact h
  cases op with
  | st k x v =>
    simp only [eff] at h
    split at h
    case isFalse => cases h
    split at h
    · rename_i t o _
      split at h
      case h_2 => cases h
      rename_i y hy
      split at h
      case isFalse => cases h
      cases h
      by_cases e : u = t
      · subst e; rw [hy] at hf; cases hf
      · rw [upd_other _ _ e]; exact hf
    · rename_i t i c _
      split at h
      case h_2 => cases h
      rename_i e sz xs hy
      split at h
      case h_2 => cases h
      split at h
      case isFalse => cases h
      cases h
      by_cases e : u = t
      · subst e; rw [hy] at hf; cases hf
      · rw [upd_other _ _ e]; exact hf
    · cases h
  | asg t =>
    simp only [eff] at h
    split at h
    case h_2 => cases h
    rename_i d'
    split at h
    · cases h
    obtain ⟨x, rfl⟩ : ∃ x, g' = upd (upd (kill t (kill d' g)) t .dead) d' x := by
      split at h
      · cases h; exact ⟨_, rfl⟩
      · cases h; exact ⟨_, rfl⟩
      · cases h
    have e : u ≠ d' := fun e => hu (by rw [e])
    rw [upd_other _ _ e]
    by_cases e2 : u = t
    · subst e2; rw [upd_same]; rfl
    · rw [upd_other _ _ e2]; exact kf _ _ (kf _ _ hf)
  | mput x k =>
    simp only [eff] at h
    split at h
    case h_2 => cases h
    rename_i t n _ _
    split at h
    case h_2 => cases h
    rename_i l hl
    split at h
    · cases h
    cases h
    by_cases e : u = t
    · subst e; rw [hl] at hf; cases hf
    · rw [upd_other _ _ e]; exact hf
  | app e sz bytes x y =>
    simp only [eff] at h
    split at h
    case h_2 => cases h
    rename_i d'
    split at h
    case h_2 => cases h
    rename_i t _
    split at h
    case h_2 => cases h
    split at h
    case h_2 => cases h
    split at h
    case isFalse => cases h
    cases h
    have e : u ≠ d' := fun e => hu (by rw [e])
    rw [upd_other _ _ e]
    by_cases e2 : u = t
    · subst e2; rw [upd_same]; rfl
    · rw [upd_other _ _ e2]; exact kf _ _ hf
theorem seq_sound {Q : Exit → Act → World → Prop} {K : (Nat → SV) → Prop} (hK : ∀ g' M' a' w', St W M' g' (tmf a') w' → a'.tmps.size = n → a'.defers = [] → K g' → Q .normal a' w') : ∀ (l : List Oper) (its : List IT) (k : Nat) (g : Nat → SV) (M : Nat → Prop) (a : Act) (w : World), (∀ j, l[j]? = ops[k + j]?) → l.length = its.length →
    (∀ p ∈ l.zip its, okIT P n ops p.1 p.2 = true) → (dsOf its).Nodup → (∀ d ∈ fds its, (g d).free = true) → FRx P (fun g => g) its g K → St W M g (tmf a) w → a.tmps.size = n → a.defers = [] → wpOps P ops Q (List.range' k l.length) a w
  | [], [], k, g, M, a, w, _, _, _, _, _, h, hst, hn, hd => by simpa [wpOps] using hK g M a w hst hn hd h
  | [], _ :: _, _, _, _, _, _, _, h, _, _, _, _, _, _, _ => by simp at h
  | _ :: _, [], _, _, _, _, _, _, h, _, _, _, _, _, _, _ => by simp at h
  | o :: l, it :: its, k, g, M, a, w, hl, hlen, hok, hnd, hfr, h, hst, hn, hd => by
    have h0 : ops[k]? = some o := by simpa using (hl 0).symm
    have hok0 := hok (o, it) (by simp)
    have hl' : ∀ j, l[j]? = ops[k + 1 + j]? := fun j => by have := hl (j + 1); simpa [Nat.add_assoc, Nat.add_comm 1 j] using this
    have hok' : ∀ p ∈ l.zip its, okIT P n ops p.1 p.2 = true := fun p hp => hok p (by rw [List.zip_cons_cons]; exact List.mem_cons_of_mem _ hp)
    simp only [List.length_cons, List.range'_succ]
    rw [wpOps_cons]
    cases it with
    | f fo =>
      have hi := okFO_spec hok0
      have hfd : (g fo.d).free = true := hfr fo.d (by simp [fds])
      have hnd' : fo.d ∉ dsOf its ∧ (dsOf its).Nodup := by simpa [dsOf] using hnd
      have hfr' : ∀ (z : SV), ∀ d ∈ fds its, (upd g fo.d z d).free = true := fun z d hdm => by
        have hne : d ≠ fo.d := fun e => hnd'.1 (e ▸ fds_sub d its hdm)
        rw [upd_other _ _ hne]
        exact hfr d (by simp [fds, hdm])
      simp only [FRx] at h
      unfold wpOp
      simp only [h0]
      split at h
      · rename_i hw
        obtain ⟨z, hy, hrest⟩ := h
        rw [if_pos (want_sound hi hst hw)]
        refine .inl (f_sound hi.ok hst (fun _ => .inr rfl) hy fun v w' M' bs hg hx hnb hfb => ?_)
        rw [hi.dst]
        have hlt : fo.d < a.tmps.size := by rw [hn]; exact hi.lt
        refine seq_sound hK l its (k + 1) (upd g fo.d z) M' _ w' hl' (by simpa using hlen) hok' hnd'.2 (hfr' z) hrest ?_ (by rw [put_size]; exact hn) (by rw [put_defers]; exact hd)
        rw [tmf_put hlt]
        exact hst.put hg hfd hx hnb hfb
      · rename_i hw
        rw [if_neg (by rw [want_sound hi hst hw]; simp)]
        rw [hi.dst]
        have hlt : fo.d < a.tmps.size := by rw [hn]; exact hi.lt
        refine seq_sound hK l its (k + 1) (upd g fo.d .undef) M _ w hl' (by simpa using hlen) hok' hnd'.2 (hfr' .undef) h ?_ (by rw [put_size]; exact hn) (by rw [put_defers]; exact hd)
        rw [tmf_put hlt]
        exact hst.put (Gr.refl hst.lt) hfd (Ow.imm _ _ .undef) List.nodup_nil (by simp)
      · cases h
    | e d op =>
      simp only [okIT, Bool.and_eq_true, beq_iff_eq] at hok0
      obtain ⟨⟨hoe, hod⟩, hgd⟩ := hok0
      simp only [FRx] at h
      obtain ⟨g', he, hrest⟩ := h
      have hnd' : (∀ u, d = some u → u ∉ dsOf its) ∧ (dsOf its).Nodup := by
        cases d with
        | none => exact ⟨by simp, by simpa [dsOf] using hnd⟩
        | some u => have : u ∉ dsOf its ∧ (dsOf its).Nodup := by simpa [dsOf] using hnd
                    exact ⟨fun v hv => by cases hv; exact this.1, this.2⟩
      have hfr' : ∀ u ∈ fds its, (g' u).free = true := fun u hu => eff_free he (fun e => hnd'.1 u e (fds_sub u its hu)) (hfr u (by simpa [fds] using hu))
      have hwanted : Region.wanted o (yielded ops a.tmps) = true := by
        have : o.guard = none := by simpa using hgd
        simp [Region.wanted, this]
      unfold wpOp
      simp only [h0]
      rw [if_pos hwanted]
      left
      unfold Oper.wp
      cases op with
      | st kk xx vv =>
        obtain ⟨w', hrun, hst'⟩ := eff_st hoe hst he
        rw [hrun]
        simp only [Oper.upon]
        have hdn : d = none := by
          simp only [okE] at hoe
          split at hoe
          · simp only [Bool.and_eq_true, beq_iff_eq] at hoe; exact hoe.2
          · cases hoe
        rw [hod, hdn]
        exact seq_sound hK l its (k + 1) g' M a w' hl' (by simpa using hlen) hok' hnd'.2 hfr' hrest hst' hn hd
      | asg t =>
        cases d with
        | none => simp [eff] at he
        | some d =>
          obtain ⟨v, hrun, hst'⟩ := eff_asg hoe hst he
          rw [hrun]
          simp only [Oper.upon]
          rw [hod]
          have hlt : d < a.tmps.size := by
            rw [hn]
            simp only [okE] at hoe
            split at hoe
            · rename_i e1; cases e1; simp only [Bool.and_eq_true, decide_eq_true_eq] at hoe; exact hoe.2
            · cases hoe
          refine seq_sound hK l its (k + 1) g' M _ w hl' (by simpa using hlen) hok' hnd'.2 hfr' hrest ?_ (by rw [put_size]; exact hn) (by rw [put_defers]; exact hd)
          rw [tmf_put hlt]
          exact hst'
      | mput xx kk =>
        obtain ⟨w', hrun, hst'⟩ := eff_mput hoe hst he
        rw [hrun]
        simp only [Oper.upon]
        have hdn : d = none := by
          simp only [okE] at hoe
          split at hoe
          · simp only [Bool.and_eq_true, beq_iff_eq] at hoe; exact hoe.1.1.1.1
          · cases hoe
        rw [hod, hdn]
        exact seq_sound hK l its (k + 1) g' M a w' hl' (by simpa using hlen) hok' hnd'.2 hfr' hrest hst' hn hd
      | app e sz bytes x y =>
        cases d with
        | none => simp [eff] at he
        | some d =>
          obtain ⟨v, w', hrun, hst'⟩ := eff_app hoe hst he
          rw [hrun]
          simp only [Oper.upon]
          rw [hod]
          have hlt : d < a.tmps.size := by
            rw [hn]
            simp only [okE] at hoe
            split at hoe
            · rename_i e1
              cases e1
              split at hoe
              · simp only [Bool.and_eq_true, decide_eq_true_eq] at hoe; exact hoe.1.1.2
              · cases hoe
            · cases hoe
          refine seq_sound hK l its (k + 1) g' M _ w' hl' (by simpa using hlen) hok' hnd'.2 hfr' hrest ?_ (by rw [put_size]; exact hn) (by rw [put_defers]; exact hd)
          rw [tmf_put hlt]
          exact hst'
/-- A region that draws its order. -/
theorem any_sound {b : Nat → SV} {fos : Nat → Option FO} {K : (Nat → SV) → Prop} {Q : Exit → Act → World → Prop} (hK : ∀ g' M' a' w', St W M' g' (tmf a') w' → a'.tmps.size = n → a'.defers = [] → K g' → Q .normal a' w')
    (hall : ∀ j oj, ops[j]? = some oj → ∃ fj, fos j = some fj ∧ IsFO P n ops oj fj) (hne : ∀ i j fi fj, fos i = some fi → fos j = some fj → i ≠ j → fi.d ≠ fj.d) (hbd : ∀ j fj, fos j = some fj → b fj.d = .dead) (hlen : ∀ j fj, fos j = some fj → j < ops.size) :
    ∀ (fuel : Nat) (listed : Array Bool) (g : Nat → SV) (M : Nat → Prop) (a : Act) (w : World), listed.size = ops.size → wpAnyF P b fos ops K fuel listed g → St W M g (tmf a) w → a.tmps.size = n → a.defers = [] → (∀ t, b t = .dead ∨ b t = g t) →
      (∀ j fj, fos j = some fj → listed.getD j true = false → (g fj.d).free = true) → wpAny P .any ops Q fuel listed a w
  | 0, listed, g, M, a, w, _, h, hst, hn, hd, _, _ => ⟨h.1, hK g M a w hst hn hd h.2⟩
  | fuel + 1, listed, g, M, a, w, hsz, h, hst, hn, hd, hb, hfr => by
    refine ⟨fun h0 => hK g M a w hst hn hd (h.1 h0), fun i hi => ?_⟩
    have h1 := h.2 i hi
    obtain ⟨hun, oi, hoi, _⟩ := mem_ready.1 hi
    obtain ⟨fi, hfi, hii⟩ := hall i oi hoi
    have hfree := hfr i fi hfi hun
    have hlt : fi.d < a.tmps.size := by rw [hn]; exact hii.lt
    have hb' : ∀ z t, b t = .dead ∨ b t = upd g fi.d z t := fun z t => by
      by_cases e : t = fi.d
      · subst e; exact .inl (hbd i fi hfi)
      · rw [upd_other _ _ e]; exact hb t
    have hfr' : ∀ z j fj, fos j = some fj → (listed.setIfInBounds i true).getD j true = false → (upd g fi.d z fj.d).free = true := fun z j fj hj hun' => by
      by_cases e : i = j
      · subst e
        have hl := hlen i fi hfi
        rw [Array.getD_eq_getD_getElem?, Array.getElem?_setIfInBounds, if_pos rfl, if_pos (by rw [hsz]; exact hl)] at hun'
        simp at hun'
      · rw [getD_set_ne true e] at hun'
        rw [upd_other _ _ (Ne.symm (hne i j fi fj hfi hj e))]
        exact hfr j fj hj hun'
    unfold yS at h1
    simp only [hfi] at h1
    unfold wpOp
    simp only [hoi]
    split at h1
    · rename_i hw
      obtain ⟨z, hy, hrest⟩ := h1
      rw [if_pos (want_sound hii hst hw)]
      refine .inl (f_sound hii.ok hst hb hy fun v w' M' bs hg hx hnb hfb => ?_)
      rw [hii.dst]
      refine any_sound hK hall hne hbd hlen fuel _ (upd g fi.d z) M' _ w' (by simpa using hsz) hrest ?_ (by rw [put_size]; exact hn) (by rw [put_defers]; exact hd) (hb' z) (hfr' z)
      rw [tmf_put hlt]
      exact hst.put hg hfree hx hnb hfb
    · rename_i hw
      rw [if_neg (by rw [want_sound hii hst hw]; simp)]
      rw [hii.dst]
      refine any_sound hK hall hne hbd hlen fuel _ (upd g fi.d .undef) M _ w (by simpa using hsz) h1 ?_ (by rw [put_size]; exact hn) (by rw [put_defers]; exact hd) (hb' .undef) (hfr' .undef)
      rw [tmf_put hlt]
      exact hst.put (Gr.refl hst.lt) hfree (Ow.imm _ _ .undef) List.nodup_nil (by simp)
    · cases h1
end
def isF : IT → Bool
  | .f _ => true
  | .e _ _ => false
def toF : List IT → List FO
  | [] => []
  | .f fo :: rest => fo :: toF rest
  | .e _ _ :: rest => toF rest
theorem FRx_d {P : Program} {b : Nat → SV} {K : (Nat → SV) → Prop} : ∀ {its : List IT} {g : Nat → SV}, its.all isF = true → FRx P (fun _ => b) its g K → FRd P b (toF its) g K
  | [], _, _, h => h
  | .f fo :: rest, g, ha, h => by
    simp only [List.all_cons, Bool.and_eq_true] at ha
    simp only [FRx] at h
    simp only [toF, FRd]
    split at h
    · rename_i hw; rw [hw]; obtain ⟨z, h1, h2⟩ := h; exact ⟨z, h1, FRx_d ha.2 h2⟩
    · rename_i hw; rw [hw]; exact FRx_d ha.2 h
    · cases h
  | .e _ _ :: rest, _, ha, _ => by simp [isF] at ha
theorem toF_len : ∀ {its : List IT}, its.all isF = true → (toF its).length = its.length ∧ ∀ (j : Nat) (f : FO), (toF its)[j]? = some f ↔ its[j]? = some (IT.f f)
  | [], _ => ⟨rfl, by simp [toF]⟩
  | .f fo :: rest, ha => by
    simp only [List.all_cons, Bool.and_eq_true] at ha
    obtain ⟨h1, h2⟩ := toF_len ha.2
    refine ⟨by simp [toF, h1], fun j f => ?_⟩
    cases j with
    | zero => simp [toF]
    | succ j => simpa [toF] using h2 j f
  | .e _ _ :: rest, ha => by simp [isF] at ha
theorem dsOf_f : ∀ {its : List IT}, its.all isF = true → dsOf its = (toF its).map (·.d)
  | [], _ => rfl
  | .f fo :: rest, ha => by
    simp only [List.all_cons, Bool.and_eq_true] at ha
    simp [dsOf, toF, dsOf_f ha.2]
  | .e _ _ :: rest, ha => by simp [isF] at ha
/-- What the bases tell while a region runs in any order. -/
def lim (D : List Nat) (g : Nat → SV) : Nat → SV := fun t => if D.contains t = true then .dead else g t
def okReg (P : Program) (n : Nat) (ops : Array Oper) (dr : Bool) (its : List IT) : Bool :=
  ops.size == its.length && ((ops.toList.zip its).all fun p => okIT P n ops p.1 p.2) && decide (dsOf its).Nodup && (!dr || (Region.lexB .any ops && its.all isF))
section
variable {P : Program} {n : Nat} {W : Base} {M : Nat → Prop} {g : Nat → SV} {a : Act} {w : World}
theorem reg_sound {ops : Array Oper} {id : Nat} {dr : Bool} {its : List IT} {K : (Nat → SV) → Prop} {Q : Exit → Act → World → Prop} (hm : P.follows .mixedOrders = true) (hok : okReg P n ops dr its = true) (hfr : ∀ d ∈ fds its, (g d).free = true)
    (h : FRx P (if dr = true then fun _ => lim (dsOf its) g else fun g => g) its g K) (hst : St W M g (tmf a) w) (hn : a.tmps.size = n) (hd : a.defers = [])
    (hK : ∀ g' M' a' w', St W M' g' (tmf a') w' → a'.tmps.size = n → a'.defers = [] → K g' → Q .normal a' w') : (Code.region id ops dr).wp P Q a w := by
  unfold okReg at hok
  simp only [Bool.and_eq_true, beq_iff_eq, decide_eq_true_eq, List.all_eq_true] at hok
  obtain ⟨⟨⟨hsz, hall⟩, hnd⟩, hdr⟩ := hok
  cases dr with
  | false =>
    refine wp_region ?_
    have := seq_sound (P := P) (ops := ops) hK ops.toList its 0 g M a w (by simp) (by simpa using hsz) hall hnd hfr h hst hn hd
    simpa [List.range_eq_range'] using this
  | true =>
    simp only [Bool.not_true, Bool.false_or, Bool.and_eq_true] at hdr
    obtain ⟨hlex, hf⟩ := hdr
    simp only [if_true] at h
    have hd' := FRx_d hf h
    obtain ⟨hl, hget⟩ := toF_len hf
    simp only [Region.lexB, Bool.and_eq_true] at hlex
    have hds := dsOf_f hf
    refine wp_region_any hm ?_
    have hallF : ∀ j oj, ops[j]? = some oj → ∃ fj, (toF its)[j]? = some fj ∧ IsFO P n ops oj fj := fun j oj hj => by
      have hlt : j < its.length := by rw [← hsz]; exact (Array.getElem?_eq_some_iff.1 hj).1
      have hit : its[j]? = some its[j] := List.getElem?_eq_getElem hlt
      have hmem : (oj, its[j]) ∈ ops.toList.zip its := by
        rw [List.mem_iff_getElem?]
        exact ⟨j, by rw [List.getElem?_zip_eq_some]; exact ⟨by simpa using hj, hit⟩⟩
      have hk := hall _ hmem
      have hisf := List.all_eq_true.1 hf _ (List.getElem_mem hlt)
      cases hq : its[j] with
      | f fo =>
        rw [hq] at hk hit
        exact ⟨fo, (hget j fo).2 hit, okFO_spec hk⟩
      | e d op => rw [hq] at hisf; simp [isF] at hisf
    have hmemd : ∀ (j : Nat) (fj : FO), (toF its)[j]? = some fj → fj.d ∈ dsOf its := fun j fj hj => by
      rw [hds]
      exact List.mem_map_of_mem (List.mem_of_getElem? hj)
    have hst' : St W M g (tmf a) w.drew := by
      have := hst.forget (g' := g) (fun _ => .inl rfl) (fun t _ => by cases g t <;> trivial)
      obtain ⟨bs, q1, q2, q3, q4⟩ := this.own
      exact ⟨this.below.drew, this.lt, this.new, bs, fun t => (q1 t).world (w' := w.drew) (fun _ _ => rfl) (fun _ _ => rfl) (fun _ _ _ _ => rfl), q2, q3, q4⟩
    refine any_sound (b := lim (dsOf its) g) (fos := fun j => (toF its)[j]?) hK hallF ?_ ?_ ?_ ops.size _ g M a w.drew (by simp) ?_ hst' hn hd ?_ ?_
    · intro i j fi fj hi hj hij e
      rw [hds] at hnd
      have h1 : ((toF its).map (·.d))[i]? = some fi.d := by rw [List.getElem?_map, hi]; rfl
      have h2 : ((toF its).map (·.d))[j]? = some fj.d := by rw [List.getElem?_map, hj]; rfl
      rw [e, ← h2] at h1
      exact hij ((List.getElem?_inj (List.getElem?_eq_some_iff.1 (h1.trans h2)).1 hnd).1 h1)
    · intro j fj hj
      simp only [lim]
      rw [if_pos (by simpa using hmemd j fj hj)]
    · intro j fj hj
      rw [hsz, ← hl]
      exact (List.getElem?_eq_some_iff.1 hj).1
    · have := wpAnyF_lex (P := P) (b := lim (dsOf its) g) (K := K) (n := n) (fos := fun j => (toF its)[j]?) hallF ops.toList (toF its) 0 (Array.replicate ops.size false) g (by simp) (by rw [hl]; simpa using hsz) (fun j f hj => by simpa using hj) (by simpa using hlex.2) hd'
      simpa using this
    · intro t
      simp only [lim]
      split
      · exact .inl rfl
      · exact .inr rfl
    · intro j fj hj _
      refine hfr fj.d ?_
      have hfd : ∀ {its : List IT}, its.all isF = true → fds its = dsOf its := fun {its} => by
        induction its with
        | nil => intro _; rfl
        | cons i its ih =>
          intro h
          simp only [List.all_cons, Bool.and_eq_true] at h
          cases i with
          | f fo => simp [fds, dsOf, ih h.2]
          | e d op => simp [isF] at h
      rw [hfd hf]
      exact hmemd j fj hj
end
end Go.Sv
