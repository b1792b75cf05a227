/- What a function returns, and its contract. No condition. -/
import Derived.Test.YtalfojoimnhmlaaSvE
namespace Go.Sv
open Go.RowKit
set_option linter.unusedVariables false
/-- A result: a slot, or the variable that a slot leads to. -/
inductive RR where
  | t (n : Nat)
  | c (t n : Nat) (ag : Bool)
def rv (g : Nat → SV) : RR → Option SV
  | .t n => match cp g (.t n) with
    | .al u none => (match g u with | .own _ sz xs => some (.list sz xs) | _ => none)
    | .dead | .al _ _ | .place _ _ | .elem _ _ _ _ | .mal _ => none
    | v => some v
  | .c t n ag => match g t with
    | .box y => (match ag, y with
      | true, .agg cs => if cs.length = n ∧ (cs.map snapC).all SV.solid = true then some (.agg (cs.map snapC)) else none
      | true, _ => none
      | false, .agg _ => none
      | false, y => if (snapC y).solid = true ∧ (snapC y).isAgg = false then some (snapC y) else none)
    | _ => none
def rvL (g : Nat → SV) : List RR → Option (List SV)
  | [] => some []
  | r :: rs => match rv g r, rvL g rs with | some v, some vs => some (v :: vs) | _, _ => none
def rvs (g : Nat → SV) (rs : List RR) : Option SV :=
  match rvL g rs with
  | some [v] => some v
  | some vs => some (.tuple vs)
  | none => none
def okR (P : Program) : ResultVar → RR → Bool
  | .tmp t, .t n => t == n
  | .cell a t, .c u n ag => a == u && tyN P t n && tyAg P t ag && (ag || n == 1)
  | _, _ => false
def okRs (P : Program) : List ResultVar → List RR → Bool
  | [], [] => true
  | x :: xs, y :: ys => okR P x y && okRs P xs ys
  | _, _ => false
def readR (a : Act) : ResultVar → Sem Value
  | .tmp t => pure (a.tmps.getD t undef)
  | .cell c t => do loadVar t (← asAddr (a.tmps.getD c undef))
section
variable {P : Program} {W : Base} {M : Nat → Prop} {g : Nat → SV} {a : Act} {w : World}
/-- The blocks that nobody writes to any more, when the call is over. -/
def Base.fin (W : Base) (w : World) : Nat → Prop := fun b => W.M0 b ∨ (W.heap.size ≤ b ∧ b < w.heap.size)
theorem snapC_fin {us : List Value} {cs : List SV} {bs : List Nat} {F : Nat → Prop} (hl : ∀ c ∈ bs, F c) (hm : ∀ c, M c → F c) (h : OwnL M w us cs bs) : (cs.map Sv.snapC).all SV.solid = true → RepL F w us (cs.map Sv.snapC) := by
  induction us generalizing cs bs with
  | nil => cases h; intro _; exact .lnil
  | cons u us ih =>
    cases h with
    | cons h hs =>
      intro ha
      rw [List.map_cons, List.all_cons, Bool.and_eq_true] at ha
      refine .lcons ?_ (ih (fun c hc => hl c (List.mem_append_right _ hc)) hs ha.2)
      rename_i s bs1 ss bs2
      cases s
      case own e sz xs =>
        cases h with
        | imm _ _ h => cases h
        | ownNil => exact .nil _
        | own b' cap e sz xs cur hb hs' hl' hx h =>
          exact .list b' 0 cap sz xs (hl b' (List.mem_append_left _ List.mem_cons_self)) hl' hx (RepR.mono hm (fun _ _ => rfl) rfl h)
      all_goals exact Rep.mono hm (fun _ _ => rfl) (OwnV.rep h (solid_imm ha.1).1).1
theorem fin_sub (hst : St W M g (tmf a) w) : ∀ c, M c → W.fin w c := fun c hc => (hst.new c hc).imp id fun h => ⟨h, hst.lt c hc⟩
theorem rv_sound (hst : St W M g (tmf a) w) {x : ResultVar} {r : RR} {v : SV} (hok : okR P x r = true) (h : rv g r = some v) : ∃ u, (readR a x).run P w = .ok u w ∧ Rep (W.fin w) w u v := by
  have hfin := fin_sub hst
  obtain ⟨bs, q1, q2, q3, q4⟩ := hst.own
  cases x with
  | tmp t =>
    cases r with
    | c t n ag => simp [okR] at hok
    | t n =>
      simp only [okR, beq_iff_eq] at hok
      subst hok
      refine ⟨_, rfl, ?_⟩
      have kx := cp_sound (o := .tmp t) (x := .t t) hst (by simp [okX])
      have hnd : ∀ c v, cp g (.t t) = c → c.imm 4 = true → some c = some v → Rep (W.fin w) w (a.tmps.getD t undef) v := fun c v hc hi he => by
        rw [hc] at kx
        cases he
        exact Rep.mono hfin (fun _ _ => rfl) (kx.imm hi)
      simp only [rv] at h
      have q := q1 t
      cases hg : g t <;> simp only [cp, hg] at h <;> first
        | (cases h; done)
        | skip
      case undef | int | bool | str | nilp | list | ref | func => exact hnd _ _ (by simp only [cp, hg]) rfl h
      case agg cs =>
        by_cases hall : cs.all (SV.imm 2) = true
        · rw [if_pos hall] at h
          rw [show cp g (.t t) = .agg cs by simp only [cp, hg, if_pos hall]] at kx
          cases h
          exact Rep.mono hfin (fun _ _ => rfl) (kx.imm (n := 3) hall)
        · rw [if_neg hall] at h; cases h
      case tuple cs =>
        by_cases hall : cs.all (SV.imm 3) = true
        · rw [if_pos hall] at h
          rw [show cp g (.t t) = .tuple cs by simp only [cp, hg, if_pos hall]] at kx
          cases h
          exact Rep.mono hfin (fun _ _ => rfl) (kx.imm (n := 4) hall)
        · rw [if_neg hall] at h; cases h
      case own e sz xs =>
        cases h
        rw [hg] at q
        have q : OwnV M w (tmf a t) (.own e sz xs) (bs t) := q
        have hq := q4 t
        show Rep (W.fin w) w (tmf a t) _
        generalize bs t = bt at q hq
        generalize tmf a t = u at q
        cases q with
        | imm _ _ h => cases h
        | ownNil => exact .nil _
        | own b' cap e sz xs cur hb hs' hl' hx h =>
          have := hq b' List.mem_cons_self
          exact .list b' 0 cap sz xs (.inr ⟨this.1, this.2.1⟩) hl' hx (RepR.mono hfin (fun _ _ => rfl) rfl h)
      case al u o =>
        cases o with
        | some o => cases h
        | none =>
          simp only at h
          split at h
          case h_2 => cases h
          rename_i e sz xs hgu
          cases h
          rw [hg] at q
          obtain ⟨_, e2, sz2, xs2, ad, m, cap, k1, k2, k3⟩ := q
          simp only [valAt] at k2
          show Rep (W.fin w) w (tmf a t) _
          rw [k3]
          have q := q1 u
          have hq := q4 u
          rw [hgu, k2] at q
          have q : OwnV M w (.slice ad m cap) (.own e sz xs) (bs u) := q
          generalize bs u = bt at q hq
          cases q with
          | imm _ _ h => cases h
          | ownNil => exact .nil _
          | own b' cap e sz xs cur hb hs' hl' hx h =>
            have := hq b' List.mem_cons_self
            exact .list b' 0 _ sz xs (.inr ⟨this.1, this.2.1⟩) hl' hx (RepR.mono hfin (fun _ _ => rfl) rfl h)
  | cell c t =>
    cases r with
    | t n => simp [okR] at hok
    | c u n ag =>
      simp only [okR, Bool.and_eq_true, Bool.or_eq_true, beq_iff_eq] at hok
      obtain ⟨⟨⟨rfl, hn⟩, hag⟩, h1⟩ := hok
      simp only [rv] at h
      split at h
      case h_2 => cases h
      rename_i y hg
      have q := q1 c
      have hq := q4 c
      rw [hg] at q
      have q : OwnV M w (tmf a c) (.box y) (bs c) := q
      generalize bs c = bt at q hq
      generalize hu : tmf a c = uu at q
      have hu' : a.tmps.getD c undef = uu := hu
      show ∃ u, (asAddr (a.tmps.getD c undef) >>= fun p => loadVar t p).run P w = .ok u w ∧ _
      rw [hu']
      cases q with
      | imm _ _ h => cases h
      | box b e x cur bs0 hb hl =>
        have hall : CellsAt w b 0 cur.toList := fun j u hu => by
          simp only [World.cell?, hb, Nat.zero_add]
          simpa using hu
        have hF : ∀ c ∈ bs0, W.fin w c := fun c hc => by
          have := hq c (List.mem_cons_of_mem _ hc)
          exact .inr ⟨this.1, this.2.1⟩
        have h1' : ag = false → n = 1 := fun e => by rw [e] at h1; simpa using h1
        cases ag with
        | true =>
          cases y <;> simp only [reduceCtorEq] at h
          split at h
          case isFalse => cases h
          rename_i hc
          cases h
          have hr := snapC_fin hF hfin hl hc.2
          have hlen : cur.toList.length = n := by rw [hr.len, List.length_map]; exact hc.1
          have := run_ld hn hag hall hlen h1'
          simp only [Instr.loadAt, Instr.sureAddr, Sem.run_bind, Sem.run_pure, Result.andThen_ok, if_true] at this
          refine ⟨.agg cur.toList.toArray, by simp only [asAddr, Sem.run_bind, Sem.run_pure, Result.andThen_ok]; exact this, ?_⟩
          exact .agg _ _ hr
        | false =>
          have e1 : y.cells = [y] ∧ (snapC y).solid = true ∧ (snapC y).isAgg = false ∧ v = snapC y := by
            cases y <;> simp only [reduceCtorEq] at h <;> (split at h <;> first | (cases h; done) | (rename_i hc; cases h; exact ⟨rfl, hc.1, hc.2, rfl⟩))
          obtain ⟨e1, e2, e3, rfl⟩ := e1
          rw [e1] at hl
          have hr := snapC_fin hF hfin hl (by simpa using e2)
          have hlen : cur.toList.length = n := by rw [hr.len, h1' rfl]; rfl
          have := run_ld hn hag hall hlen h1'
          simp only [Instr.loadAt, Instr.sureAddr, Sem.run_bind, Sem.run_pure, Result.andThen_ok, Bool.false_eq_true, if_false] at this
          obtain ⟨c0, hc0⟩ : ∃ c0, cur.toList = [c0] := List.length_eq_one_iff.1 (by rw [hlen, h1' rfl])
          rw [hc0] at this hr
          refine ⟨c0, by simp only [asAddr, Sem.run_bind, Sem.run_pure, Result.andThen_ok]; exact this, ?_⟩
          cases hr with
          | lcons h _ => exact h
theorem rvL_sound (hst : St W M g (tmf a) w) : ∀ {xs : List ResultVar} {rs : List RR} {vs : List SV}, okRs P xs rs = true → rvL g rs = some vs →
    ∃ us, (xs.mapM (readR a)).run P w = .ok us w ∧ RepL (W.fin w) w us vs
  | [], [], vs, _, h => by simp only [rvL, Option.some.injEq] at h; subst h; exact ⟨[], rfl, .lnil⟩
  | [], _ :: _, _, h, _ => by simp [okRs] at h
  | _ :: _, [], _, h, _ => by simp [okRs] at h
  | x :: xs, r :: rs, vs, hok, h => by
    simp only [okRs, Bool.and_eq_true] at hok
    simp only [rvL] at h
    split at h
    case h_2 => cases h
    rename_i v vs' e1 e2
    cases h
    obtain ⟨u, h1, h2⟩ := rv_sound hst hok.1 e1
    obtain ⟨us, h3, h4⟩ := rvL_sound hst hok.2 e2
    refine ⟨u :: us, ?_, .lcons h2 h4⟩
    rw [List.mapM_cons, Sem.run_bind, h1]
    simp only [Result.andThen_ok, Sem.run_bind, h3, Sem.run_pure]
theorem rvs_sound {fn : Func} (hst : St W M g (tmf a) w) {rs : List RR} {v : SV} (hok : okRs P fn.results.toList rs = true) (h : rvs g rs = some v) : ∃ u, (results fn a.tmps).run P w = .ok u w ∧ Rep (W.fin w) w u v := by
  unfold rvs at h
  obtain ⟨vs, hvs⟩ : ∃ vs, rvL g rs = some vs := by
    cases hq : rvL g rs with
    | none => rw [hq] at h; cases h
    | some vs => exact ⟨vs, rfl⟩
  rw [hvs] at h
  obtain ⟨us, h1, h2⟩ := rvL_sound hst hok hvs
  have hm : (fn.results.mapM (readR a)).run P w = .ok us.toArray w := by
    rw [Array.mapM_eq_mapM_toList, Sem.run_map, h1]
    rfl
  have he : results fn a.tmps = (fn.results.mapM (readR a) >>= fun vs => pure (if h : vs.size = 1 then vs[0] else .tuple vs)) := rfl
  refine ⟨if h : us.toArray.size = 1 then us.toArray[0] else .tuple us.toArray, ?_, ?_⟩
  · rw [he, Sem.run_bind, hm]
    simp only [Result.andThen_ok, Sem.run_pure]
  · have hl := h2.len
    split at h
    · rename_i v0 e0
      cases h
      cases e0
      cases h2 with
      | lcons h2 hs =>
        cases hs
        simpa using h2
    · rename_i vs0 hno e0
      cases h
      cases e0
      have hne : ¬ us.toArray.size = 1 := fun e => by
        have : vs.length = 1 := by rw [← hl]; simpa using e
        obtain ⟨v0, rfl⟩ := List.length_eq_one_iff.1 this
        exact hno v0 rfl
      rw [dif_neg hne]
      exact .tuple _ _ h2
    · rename_i e0; cases e0
end
/-- The slots at the head of a call. -/
def initS (args : List SV) : S := args.zipIdx.map fun p => (p.2, p.1)
def post (rs : List RR) (r : SV) : Ex → S → Prop
  | .normal, s => rvs (get s) rs = some r
  | .ret, s => rvs (get s) rs = some r
  | .exit _, _ => False
theorem get_init (args : List SV) (t : Nat) : get (initS args) t = args.getD t .dead := by
  have key : ∀ (l : List SV) (k : Nat), get ((l.zipIdx k).map fun p => (p.2, p.1)) t = if k ≤ t then l.getD (t - k) .dead else .dead := by
    intro l
    induction l with
    | nil => intro k; simp [get]
    | cons v l ih =>
      intro k
      simp only [List.zipIdx_cons, List.map_cons, get]
      by_cases e : k = t
      · subst e; simp
      · rw [if_neg e, ih]
        by_cases h : k ≤ t
        · rw [if_pos h, if_pos (by omega)]
          obtain ⟨m, hm⟩ : ∃ m, t - k = m + 1 := ⟨t - k - 1, by omega⟩
          rw [hm, show t - (k + 1) = m by omega]
          simp
        · rw [if_neg h, if_neg (by omega)]
  have := key args 0
  simpa [initS] using this
/-- The function's code and results are these. -/
def okFn (P : Program) (fn : Func) (sc : SC) (rs : List RR) : Bool :=
  match fn.body with
  | some c => okCode P fn.ntmps c sc && okRs P fn.results.toList rs
  | none => false
/-- **The contract of a function, out of the walk of its code.** -/
theorem Con.of {P : Program} {f : FuncId} {fn : Func} {c : Code} {sc : SC} {rs : List RR} {args : List SV} {r : SV} (hm : P.follows .mixedOrders = true) (hf : P.funcs[f]? = some fn) (hb : fn.body = some c) (hok : okCode P fn.ntmps c sc = true)
    (hr : okRs P fn.results.toList rs = true) (hn : args.length ≤ fn.ntmps) (ha : args.all (SV.imm 3) = true) (h : swp P sc (post rs r) (initS args)) : Con P f args r := by
  intro M w vs hl hrep
  refine calls_of_wp hf hb ?_
  have hvl := hrep.len
  let W : Base := ⟨w, M⟩
  have hget : ∀ t, (vs.toArray ++ Array.replicate (fn.ntmps - vs.toArray.size) undef).getD t undef = vs.getD t undef := fun t => by
    rw [Array.getD_eq_getD_getElem?, Array.getElem?_append, List.getD_eq_getElem?_getD]
    simp only [List.size_toArray, List.getElem?_toArray]
    split
    · rfl
    · rename_i hlt
      rw [Array.getElem?_replicate, List.getElem?_eq_none (by omega)]
      split <;> rfl
  have hst : St W M (get (initS args)) (tmf { tmps := vs.toArray ++ Array.replicate (fn.ntmps - vs.toArray.size) undef, defers := [] }) w := by
    refine ⟨Below.refl _ _, hl, fun b hb => .inl hb, fun _ => [], fun t => ?_, by simp, by simp, by simp⟩
    show OwnX _ _ _ _ ((vs.toArray ++ Array.replicate (fn.ntmps - vs.toArray.size) undef).getD t undef) _ _
    rw [hget, get_init]
    by_cases ht : t < args.length
    · have h1 : args[t]? = some args[t] := List.getElem?_eq_getElem ht
      obtain ⟨u, hu, hr⟩ := RepL.get hrep h1
      rw [List.getD_eq_getElem?_getD, hu, List.getD_eq_getElem?_getD, h1]
      exact OwnX.of_rep hr (List.all_eq_true.1 ha _ (List.getElem_mem ht))
    · rw [List.getD_eq_getElem?_getD (l := args), List.getElem?_eq_none (by omega)]
      exact Ow.imm _ _ (.dead _)
  refine wp_mono (swp_sound (W := W) (n := fn.ntmps) hm c sc _ _ M _ w hok h hst (by simp; omega) rfl) ?_
  have fin : ∀ (a : Act) (w' : World), (∃ s M', rvs (get s) rs = some r ∧ St W M' (get s) (tmf a) w' ∧ a.tmps.size = fn.ntmps ∧ a.defers = []) →
      a.defers = [] ∧ ∃ v, (results fn a.tmps).run P w' = .ok v w' ∧ ∃ v' M' bs, Ending.returned v = .returned v' ∧ Gr M w M' w' ∧ OwnV M' w' v' r bs ∧ bs.Nodup ∧ ∀ c ∈ bs, w.heap.size ≤ c ∧ c < w'.heap.size ∧ ¬ M' c := by
    rintro a w' ⟨s, M', hq, hst, hsz, hd⟩
    obtain ⟨u, h1, h2⟩ := rvs_sound hst hr hq
    refine ⟨hd, u, h1, u, W.fin w', [], rfl, ⟨hst.below, fun b hb => .inl hb, fun b hb => hb.imp id fun h => h.1, fun b hb => ?_⟩, .imm _ _ h2, List.nodup_nil, by simp⟩
    rcases hb with hb | hb
    · exact Nat.lt_of_lt_of_le (hl b hb) hst.below.size
    · exact hb.2
  intro e a w' he
  cases e with
  | normal => exact fin a w' he
  | ret => exact fin a w' he
  | exit i => obtain ⟨s, M', hq, _⟩ := he; exact hq.elim
  | _ => exact he.elim
theorem Con.fn {P : Program} {f : FuncId} {fn : Func} {sc : SC} {rs : List RR} {args : List SV} {r : SV} (hm : P.follows .mixedOrders = true) (hf : P.funcs[f]? = some fn) (hok : okFn P fn sc rs = true) (hn : args.length ≤ fn.ntmps) (ha : args.all (SV.imm 3) = true)
    (h : swp P sc (post rs r) (initS args)) : Con P f args r := by
  unfold okFn at hok
  split at hok
  case h_2 => cases hok
  rename_i c hb
  rw [Bool.and_eq_true] at hok
  exact Con.of hm hf hb hok.1 hok.2 hn ha h
end Go.Sv
