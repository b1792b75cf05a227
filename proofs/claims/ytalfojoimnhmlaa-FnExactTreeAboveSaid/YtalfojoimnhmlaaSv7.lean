/- Contracts, and the operations of a region in their order. No condition. -/
import Derived.Test.YtalfojoimnhmlaaSv6
namespace Go.Sv
open Go.RowKit
set_option linter.unusedVariables false
/-- The contract of a function: at arguments that tell 'args' it returns what tells 'r'; nothing that was there turns. -/
def Con (P : Program) (f : FuncId) (args : List SV) (r : SV) : Prop :=
  ∀ (M : Nat → Prop) (w : World) (vs : List Value), (∀ b, M b → b < w.heap.size) → RepL M w vs args →
    Calls P f vs.toArray w fun e w' => ∃ v M' bs, e = .returned v ∧ Gr M w M' w' ∧ OwnV M' w' v r bs ∧ bs.Nodup ∧ ∀ c ∈ bs, w.heap.size ≤ c ∧ c < w'.heap.size ∧ ¬ M' c
/-- No memory at all. -/
def SV.flat : Nat → SV → Bool
  | 0, _ => false
  | n + 1, x => match x with
    | .int _ _ | .bool _ | .str _ | .nilp | .undef => true
    | .agg cs => cs.all (SV.flat n)
    | .tuple cs => cs.all (SV.flat n)
    | _ => false
theorem flat_rep {M M' : Nat → Prop} {w w' : World} {j : Jo} {bs : List Nat} (h : Ow M w j bs) : (match j with | .v v x => ∀ n, x.flat n = true → Rep M' w' v x | .l vs ss => ∀ n, (ss.all (SV.flat n)) = true → RepL M' w' vs ss) := by
  have rp : ∀ {j : Jd}, Rp M w j → (match j with | .v v x => ∀ n, x.flat n = true → Rep M' w' v x | .l vs ss => ∀ n, (ss.all (SV.flat n)) = true → RepL M' w' vs ss | .r _ _ _ _ => True) := by
    intro j h
    induction h with
    | undef => exact fun _ _ => .undef
    | dead => intro n hn; cases n <;> simp [SV.flat] at hn
    | int k n => exact fun _ _ => .int k n
    | bool b => exact fun _ _ => .bool b
    | str s => exact fun _ _ => .str s
    | nilp => exact fun _ _ => .nilp
    | nil => intro n hn; cases n <;> simp [SV.flat] at hn
    | empty => intro n hn; cases n <;> simp [SV.flat] at hn
    | list => intro n hn; cases n <;> simp [SV.flat] at hn
    | agg us cs _ ih => intro n hn; cases n with | zero => simp [SV.flat] at hn | succ n => exact .agg _ _ (ih n hn)
    | ref => intro n hn; cases n <;> simp [SV.flat] at hn
    | func => intro n hn; cases n <;> simp [SV.flat] at hn
    | tuple us cs _ ih => intro n hn; cases n with | zero => simp [SV.flat] at hn | succ n => exact .tuple _ _ (ih n hn)
    | lnil => exact fun _ _ => .lnil
    | lcons _ _ ih ihs =>
      intro n hn
      rw [List.all_cons, Bool.and_eq_true] at hn
      exact .lcons (ih n hn.1) (ihs n hn.2)
    | rnil => trivial
    | rcons => trivial
  induction h with
  | imm v s h => exact rp h
  | ownNil => intro n hn; cases n <;> simp [SV.flat] at hn
  | own => intro n hn; cases n <;> simp [SV.flat] at hn
  | box => intro n hn; cases n <;> simp [SV.flat] at hn
  | agg us cs bs _ ih => intro n hn; cases n with | zero => simp [SV.flat] at hn | succ n => exact .agg _ _ (ih n hn)
  | tuple us cs bs _ ih => intro n hn; cases n with | zero => simp [SV.flat] at hn | succ n => exact .tuple _ _ (ih n hn)
  | nil => exact fun _ _ => .lnil
  | cons _ _ ih ihs =>
    intro n hn
    rw [List.all_cons, Bool.and_eq_true] at hn
    exact .lcons (ih n hn.1) (ihs n hn.2)
theorem flat_imm : ∀ (n : Nat) (x : SV), x.flat n = true → x.imm n = true
  | 0, _, h => by simp [SV.flat] at h
  | n + 1, x, h => by
    cases x <;> simp only [SV.flat, SV.imm, Bool.false_eq_true] at h ⊢
    case agg cs => rw [List.all_eq_true] at h ⊢; exact fun c hc => flat_imm n c (h c hc)
    case tuple cs => rw [List.all_eq_true] at h ⊢; exact fun c hc => flat_imm n c (h c hc)
def snapC : SV → SV
  | .own _ sz xs => .list sz xs
  | c => c
/-- What a callee sees of an argument: what the call owns, it sees as it is now. -/
def snap (b : Nat → SV) (v : SV) : Option (SV × Bool) :=
  match v with
  | .al t o => match (b t).at o with | .own _ sz xs => some (.list sz xs, true) | _ => none
  | .place t 0 => match b t with
    | .box (.agg cs) => if (cs.map snapC).all SV.solid = true then some (.ref (.agg (cs.map snapC)), true) else none
    | .box y => if (snapC y).solid = true ∧ (snapC y).isAgg = false then some (.ref (snapC y), true) else none
    | _ => none
  | v => if v.solid = true then some (v, false) else none
def argv (g b : Nat → SV) : List SX → Option (List SV × Bool)
  | [] => some ([], false)
  | x :: rest => match snap b (cp g x), argv g b rest with
    | some (v, s), some (vs, s') => some (v :: vs, s || s')
    | _, _ => none
/-- An operation of a region: a plain one, or a call. -/
inductive FOp where
  | p (op : SOp)
  | call (f : FuncId) (xs : List SX)
  | callv (x : SX) (xs : List SX)
def okBody (P : Program) (f : FuncId) : Bool := match P.funcs[f]? with | some fn => fn.name != "runtime.NumGoroutine" && fn.body.isSome | none => false
def Y (P : Program) (g b : Nat → SV) : FOp → SV → Prop
  | .p op, z => pv g b op = some z
  | .call f xs, z => ∃ as sn, argv g b xs = some (as, sn) ∧ Con P f as z ∧ (sn = true → z.flat 3 = true)
  | .callv x xs, z => ∃ f cs as sn, cp g x = .func f cs ∧ okBody P f = true ∧ argv g b xs = some (as, sn) ∧ Con P f (as ++ cs) z ∧ (sn = true → z.flat 3 = true)
def okF (P : Program) (o : Op) (ty : TypeId) : FOp → Bool
  | .p op => okOp P o ty op
  | .call f xs => match o with | .call { callee := .value (.func f'), args, argTypes := _ } => f == f' && okBody P f && okXs args.toList xs | _ => false
  | .callv x xs => match o with | .call { callee := .value y, args, argTypes := _ } => okX y x && okXs args.toList xs | _ => false
section
variable {P : Program} {W : Base} {M : Nat → Prop} {g b : Nat → SV} {a : Act} {w : World}
theorem RepL.snapC {us : List Value} {cs : List SV} {bs : List Nat} (hl : ∀ c ∈ bs, c < w.heap.size) (hm : ∀ c, M c → c < w.heap.size) (h : OwnL M w us cs bs) : (cs.map Sv.snapC).all SV.solid = true → RepL (· < w.heap.size) w us (cs.map Sv.snapC) := by
  induction us generalizing cs bs with
  | nil => cases h; intro _; exact .lnil
  | cons u us ih =>
    cases h with
    | cons h hs =>
      intro ha
      rw [List.map_cons, List.all_cons, Bool.and_eq_true] at ha
      refine .lcons ?_ (ih (fun c hc => hl c (List.mem_append_right _ hc)) hs ha.2)
      rename_i s bs1 ss bs2
      cases s
      case own e sz xs =>
        cases h with
        | imm _ _ h => cases h
        | ownNil => exact .nil _
        | own b' cap e sz xs cur hb hs' hl' hx h =>
          exact .list b' 0 cap sz xs (hl b' (List.mem_append_left _ List.mem_cons_self)) hl' hx (RepR.mono hm (fun _ _ => rfl) rfl h)
      all_goals exact Rep.mono hm (fun _ _ => rfl) (OwnV.rep h (solid_imm ha.1).1).1
theorem snap_sound (hst : St W M g (tmf a) w) (hb : ∀ t, b t = .dead ∨ b t = g t) {v : Value} {x y : SV} {sn : Bool} (hx : OwnX g (tmf a) M w v x []) (h : snap b x = some (y, sn)) : Rep (· < w.heap.size) w v y ∧ (sn = false → Rep M w v y) := by
  have same : x.solid = true → some (x, false) = some (y, sn) → Rep (· < w.heap.size) w v y ∧ (sn = false → Rep M w v y) := fun hs he => by
    cases he
    have hr := hx.imm (solid_imm hs).1
    exact ⟨Rep.mono hst.lt (fun _ _ => rfl) hr, fun _ => hr⟩
  unfold snap at h
  split at h
  · rename_i t o
    split at h
    case h_2 => cases h
    rename_i e sz xs hbo
    cases h
    refine ⟨?_, by simp⟩
    have h5 := b_eq hb hbo
    obtain ⟨_, e2, sz2, xs2, a0, n0, cap, k1, k2, ve⟩ := hx
    obtain ⟨bs, bt, ho, hsub, _, _, _, hf⟩ := hst.base h5
    rw [k2] at ho
    rw [ve]
    cases ho with
    | imm _ _ h => cases h
    | ownNil => exact .nil _
    | own b' cap e sz xs cur hb' hs' hl' hx' h =>
      exact .list b' 0 cap sz xs (hf t b' (hsub b' List.mem_cons_self)).2.1 hl' hx' (RepR.mono hst.lt (fun _ _ => rfl) rfl h)
  · rename_i t
    obtain ⟨_, c, y1, k1, k2, ve⟩ := hx
    obtain ⟨bs, q1, q2, q3, q4⟩ := hst.own
    have q0 := q1 t
    have hq := q4 t
    rw [k1] at q0
    have q0 : OwnV M w (tmf a t) (.box y1) (bs t) := q0
    rw [k2] at q0
    generalize bs t = bt at q0 hq
    have hbox : ∃ e0 cur bs0, w.heap[c]? = some (.cells cur e0 (0, 0)) ∧ OwnL M w cur.toList y1.cells bs0 ∧ c < w.heap.size ∧ ∀ c ∈ bs0, c < w.heap.size := by
      cases q0 with
      | imm _ _ h => cases h
      | box b0 e0 x0 cur bs0 hb0 hl0 => exact ⟨e0, cur, bs0, hb0, hl0, (hq c List.mem_cons_self).2.1, fun d hd => (hq d (List.mem_cons_of_mem _ hd)).2.1⟩
    obtain ⟨e0, cur, bs0, hb0, hl0, hc, hbl⟩ := hbox
    have hall : CellsAt w c 0 cur.toList := fun j u hu => by
      simp only [World.cell?, hb0, Nat.zero_add]
      simpa using hu
    split at h
    · rename_i cs hbt
      rw [b_box hb hbt] at k1
      cases k1
      split at h
      case isFalse => cases h
      rename_i hs
      cases h
      refine ⟨?_, by simp⟩
      rw [ve]
      exact .ref c 0 _ _ hc hall (RepL.snapC hbl hst.lt hl0 hs)
    · rename_i y2 hna hbt
      rw [b_box hb hbt] at k1
      cases k1
      split at h
      case isFalse => cases h
      rename_i hs
      cases h
      refine ⟨?_, by simp⟩
      rw [ve]
      have e1 : y1.cells = [y1] := by cases y1 <;> first | rfl | (exact absurd rfl (hna _))
      have e2 : (snapC y1).cells = [snapC y1] := by
        have := hs.2
        cases hq : snapC y1 <;> rw [hq] at this <;> first | rfl | (simp [SV.isAgg] at this)
      rw [e1] at hl0
      have := RepL.snapC hbl hst.lt hl0 (by simpa using hs.1)
      exact .ref c 0 _ _ hc hall (by rw [e2]; simpa using this)
    · cases h
  · split at h
    case isFalse => cases h
    rename_i hs
    exact same hs h
theorem argv_sound (hst : St W M g (tmf a) w) (hb : ∀ t, b t = .dead ∨ b t = g t) : ∀ {ys : List Operand} {xs : List SX} {as : List SV} {sn : Bool}, okXs ys xs = true → argv g b xs = some (as, sn) →
    RepL (· < w.heap.size) w (ys.map a.eval) as ∧ (sn = false → RepL M w (ys.map a.eval) as)
  | [], [], as, sn, _, h => by simp only [argv, Option.some.injEq, Prod.mk.injEq] at h; obtain ⟨rfl, rfl⟩ := h; exact ⟨.lnil, fun _ => .lnil⟩
  | [], _ :: _, _, _, h, _ => by simp [okXs] at h
  | _ :: _, [], _, _, h, _ => by simp [okXs] at h
  | y :: ys, x :: xs, as, sn, hok, h => by
    simp only [okXs, List.length_cons, List.zip_cons_cons, List.all_cons, Bool.and_eq_true, beq_iff_eq] at hok
    simp only [argv] at h
    split at h
    case h_2 => cases h
    rename_i v s vs s' e1 e2
    cases h
    obtain ⟨h1, h2⟩ := snap_sound hst hb (cp_sound hst hok.2.1) e1
    obtain ⟨h3, h4⟩ := argv_sound hst hb (ys := ys) (by simp only [okXs, Bool.and_eq_true, beq_iff_eq]; exact ⟨by omega, hok.2.2⟩) e2
    refine ⟨.lcons h1 h3, fun hs => ?_⟩
    rw [Bool.or_eq_false_iff] at hs
    exact .lcons (h2 hs.1) (h4 hs.2)
/-- One operation, and what may come behind it. -/
theorem f_sound {o : Oper} {op : FOp} {z : SV} (hok : okF P o.op o.type op = true) (hst : St W M g (tmf a) w) (hb : ∀ t, b t = .dead ∨ b t = g t) (hy : Y P g b op z) {K : Act → World → Prop} {Q : Exit → Act → World → Prop}
    (hK : ∀ v w' M' bs, Gr M w M' w' → OwnX g (tmf a) M' w' v z bs → bs.Nodup → (∀ c ∈ bs, w.heap.size ≤ c ∧ c < w'.heap.size ∧ ¬ M' c) → K (a.put o.dst v) w') : o.wp P a w K Q := by
  have called : ∀ (f : FuncId) (ys : List Value) (as : List SV) (sn : Bool), RepL (· < w.heap.size) w ys as → (sn = false → RepL M w ys as) → Con P f as z → (sn = true → z.flat 3 = true) → okBody P f = true →
      (execOp a.eval o).run P w = (callFunc f ys.toArray).run P w → o.wp P a w K Q := fun f ys as sn h1 h2 hc hf hbd hrun => by
    unfold okBody at hbd
    split at hbd
    case h_2 => cases hbd
    rename_i fn hfn
    simp only [Bool.and_eq_true, bne_iff_ne, ne_eq] at hbd
    have hcall : (callFunc f ys.toArray).run P w = .ok (.enter f ys.toArray) w := by
      obtain ⟨c, hq⟩ := Option.isSome_iff_exists.1 hbd.2
      simp [callFunc, hfn, hbd.1, hq]
    unfold Oper.wp
    rw [hrun, hcall]
    simp only [Oper.upon]
    cases sn with
    | false =>
      refine (hc M w ys hst.lt (h2 rfl)).mono ?_
      rintro e w' ⟨v, M', bs, rfl, hg, ho, hn, hfr⟩
      exact hK v w' M' bs hg (.of_own ho) hn hfr
    | true =>
      refine (hc (· < w.heap.size) w ys (fun _ h => h) h1).mono ?_
      rintro e w' ⟨v, M', bs, rfl, hg, ho, hn, hfr⟩
      have hz := hf rfl
      have hr : Rep M w' v z := flat_rep ho 3 hz
      exact hK v w' M [] ⟨hg.below, fun _ h => h, fun _ h => .inl h, fun c h => Nat.lt_of_lt_of_le (hst.lt c h) hg.below.size⟩ (OwnX.of_rep hr (flat_imm 3 z hz)) List.nodup_nil (by simp)
  cases op with
  | p op =>
    obtain ⟨v, w', M', bs, hrun, hg, ho, hn, hf⟩ := op_made hok hst hb hy
    unfold Oper.wp
    rw [hrun]
    exact hK v w' M' bs hg ho hn hf
  | call f xs =>
    obtain ⟨as, sn, e1, hc, hf⟩ := hy
    obtain ⟨dst, opp, ty, pos, af, gd⟩ := o
    simp only [okF] at hok
    split at hok
    case h_2 => cases hok
    rename_i f' args at'
    simp only [Bool.and_eq_true, beq_iff_eq] at hok
    obtain ⟨⟨rfl, hbd⟩, hxs⟩ := hok
    obtain ⟨h1, h2⟩ := argv_sound hst hb hxs e1
    refine called f _ as sn h1 h2 hc hf hbd ?_
    have e : (args.toList.map a.eval).toArray = args.map a.eval := by rw [← Array.toList_map]
    rw [e]
    simp [execOp, resolve, Act.eval, Deferred.ofValue, invoke]
  | callv x xs =>
    obtain ⟨f, cs, as, sn, e0, hbd, e1, hc, hf⟩ := hy
    obtain ⟨dst, opp, ty, pos, af, gd⟩ := o
    simp only [okF] at hok
    split at hok
    case h_2 => cases hok
    rename_i y args at'
    simp only [Bool.and_eq_true] at hok
    obtain ⟨hx, hxs⟩ := hok
    have kx := cp_sound hst hx
    rw [e0] at kx
    have k0 := kx.imm (n := 1) rfl
    obtain ⟨h1, h2⟩ := argv_sound hst hb hxs e1
    generalize hv : a.eval y = v at k0
    cases k0 with
    | func f us cs hcs =>
      refine called f _ (as ++ cs) sn (h1.append (RepL.mono hst.lt (fun _ _ => rfl) hcs)) (fun h => (h2 h).append hcs) hc hf hbd ?_
      have e : (args.toList.map a.eval ++ us).toArray = args.map a.eval ++ us.toArray := by simp
      rw [e]
      simp [execOp, resolve, hv, Deferred.ofValue, invoke]
end
end Go.Sv
