/- Structs built, function values, parts of slices; variables and rows that are made. No condition. -/
import Derived.Test.YtalfojoimnhmlaaSv5
import Derived.Laws.Tables
import Derived.Laws.MakeOwn
import Derived.MapKept
import Derived.ChangeMaps
namespace Go.Sv
open Go.RowKit
set_option linter.unusedVariables false
section
variable {P : Program} {W : Base} {M : Nat → Prop} {g b : Nat → SV} {a : Act} {w : World}
theorem solid_imm {x : SV} (h : x.solid = true) : x.imm 3 = true ∧ x ≠ .dead := by
  unfold SV.solid at h
  split at h
  · cases h
  · rename_i hd; exact ⟨h, hd⟩
/-- A value's cells tell the cells. -/
theorem Rep.cells {v : Value} {x : SV} (h : Rep M w v x) (hd : x ≠ .dead) : RepL M w v.cells.toList x.cells := by
  cases x <;> first | exact absurd rfl hd | skip
  case agg cs => cases h with | agg us cs h => show RepL M w _ cs; simpa [Value.cells] using h
  all_goals (cases h <;> exact .lcons (by constructor <;> assumption) .lnil)
theorem RepL.set {us : List Value} {cs : List SV} (h : RepL M w us cs) {i : Nat} {u : Value} {c : SV} (hu : Rep M w u c) : RepL M w (us.set i u) (cs.set i c) := by
  induction us generalizing cs i with
  | nil => cases h; exact .lnil
  | cons v us ih =>
    cases h with
    | lcons h hs =>
      cases i with
      | zero => exact .lcons hu hs
      | succ i => exact .lcons h (ih hs)
/-- The machine's filling, as a list. -/
theorem foldl_set (off : Nat) : ∀ (vs : List Value) (k : Nat) (cells : Array Value) (cs ss : List SV), RepL M w cells.toList cs → RepL M w vs ss →
    RepL M w ((vs.zipIdx k).foldl (fun cs (c, j) => cs.setIfInBounds (off + j) c) cells).toList (setS cs (off + k) ss)
  | [], k, cells, cs, ss, h, hs => by cases hs; simpa [setS] using h
  | v :: vs, k, cells, cs, ss, h, hs => by
    cases hs with
    | lcons h1 h2 =>
      simp only [List.zipIdx_cons, List.foldl_cons, setS]
      have := foldl_set off vs (k + 1) (cells.setIfInBounds (off + k) v) (cs.set (off + k) _) _ (by simpa using h.set h1) h2
      simpa [Nat.add_assoc] using this
theorem setS_length : ∀ (vs : List SV) (cs : List SV) (off : Nat), (setS cs off vs).length = cs.length
  | [], _, _ => rfl
  | v :: vs, cs, off => by simp [setS, setS_length vs]
theorem fill_rep {place : Nat → Option (Nat × Nat)} (hst : St W M g (tmf a) w) : ∀ (ps : List (Nat × Operand)) (qs : List (Nat × Nat × SX)) (cells : Array Value) (cs cs' : List SV), RepL M w cells.toList cs →
    okParts P 0 ps qs = true ∨ True → (∀ p ∈ ps.zip qs, place p.1.1 = some (p.2.1, p.2.2.1) ∧ okX p.1.2 p.2.2.2 = true) → ps.length = qs.length → fillS g cs qs = some cs' →
    ∃ cells', Instr.fill place cells (ps.map fun (i, x) => (i, a.eval x)) = some cells' ∧ RepL M w cells'.toList cs'
  | [], [], cells, cs, cs', h, _, _, _, hf => by simp only [fillS, Option.some.injEq] at hf; subst hf; exact ⟨cells, rfl, h⟩
  | [], _ :: _, _, _, _, _, _, _, hl, _ => by simp at hl
  | _ :: _, [], _, _, _, _, _, _, hl, _ => by simp at hl
  | (i, x) :: ps, (off, n, y) :: qs, cells, cs, cs', h, _, hz, hl, hf => by
    simp only [fillS] at hf
    split at hf
    case isFalse => cases hf
    rename_i hc
    obtain ⟨h1, h2, h3⟩ := hc
    obtain ⟨hp, hx⟩ := hz ((i, x), (off, n, y)) (by simp)
    obtain ⟨himm, hnd⟩ := solid_imm h3
    have hr := ((cp_sound hst hx).imm himm).cells hnd
    have hlen := hr.len
    have hsz : (a.eval x).cells.size = n := by rw [← h1, ← hlen]; simp
    have hcl := h.len
    have hnot : ¬ ((a.eval x).cells.size ≠ n ∨ off + (a.eval x).cells.size > cells.size) := by
      rw [hsz]
      simp only [Array.length_toList] at hcl
      omega
    have hrec := foldl_set off (a.eval x).cells.toList 0 cells cs _ h hr
    obtain ⟨cells', hfill, hrep⟩ := fill_rep hst ps qs _ _ cs' hrec (.inr trivial) (fun p hp => hz p (by rw [List.zip_cons_cons]; exact List.mem_cons_of_mem _ hp)) (by simpa using hl) hf
    refine ⟨cells', ?_, hrep⟩
    simp only [List.map_cons, Instr.fill, hp]
    have hb : (decide ((a.eval x).cells.size ≠ n) || decide (off + (a.eval x).cells.size > cells.size)) = false := by
      simp only [Bool.or_eq_false_iff, decide_eq_false_iff_not]
      exact ⟨fun h => hnot (.inl h), fun h => hnot (.inr h)⟩
    rw [if_neg (by simpa using hb)]
    rw [← hfill]
    congr 1
    rw [← Array.foldl_toList, Array.toList_zipIdx]
  termination_by ps => ps.length
theorem okParts_spec {t : TypeId} : ∀ {ps : List (Nat × Operand)} {qs : List (Nat × Nat × SX)}, okParts P t ps qs = true → ps.length = qs.length ∧ ∀ p ∈ ps.zip qs, placeOf P t p.1.1 = some (p.2.1, p.2.2.1) ∧ okX p.1.2 p.2.2.2 = true
  | [], [], _ => ⟨rfl, by simp⟩
  | [], _ :: _, h => by simp [okParts] at h
  | _ :: _, [], h => by simp [okParts] at h
  | (i, y) :: ps, (off, n, x) :: qs, h => by
    simp only [okParts, Bool.and_eq_true, beq_iff_eq] at h
    obtain ⟨h1, h2⟩ := okParts_spec h.2
    refine ⟨by simp [h1], fun p hp => ?_⟩
    rw [List.zip_cons_cons, List.mem_cons] at hp
    rcases hp with rfl | hp
    · exact h.1
    · exact h2 p hp
theorem op_build {o : Oper} {zero : List SV} {parts : List (Nat × Nat × SX)} {z : SV} (hok : okOp P o.op o.type (.build zero parts) = true) (hst : St W M g (tmf a) w) (hy : pv g b (.build zero parts) = some z) :
    ∃ v, (execOp a.eval o).run P w = .ok (.value v) w ∧ OwnX g (tmf a) M w v z [] := by
  obtain ⟨dst, opp, ty, pos, af, gd⟩ := o
  simp only [okOp] at hok
  split at hok
  case h_2 => cases hok
  rename_i t ps
  simp only [Bool.and_eq_true] at hok
  obtain ⟨⟨hz, hpl0⟩, hp⟩ := hok
  simp only [pv] at hy
  split at hy
  case h_2 => cases hy
  rename_i cs' hf
  cases hy
  unfold okZero at hz
  split at hz
  case h_2 => cases hz
  rename_i it hit
  split at hz
  case h_2 => cases hz
  rename_i us hzero
  simp only [Bool.and_eq_true, beq_iff_eq] at hz
  have hr0 : RepL M w us.toList zero := okCL_rep (by simpa using hz.1) hz.2
  obtain ⟨hl, hpl⟩ := okParts_spec hp
  obtain ⟨cells', hfill, hrep⟩ := fill_rep (P := P) (place := placeOf P t) hst ps.toList parts us zero cs' hr0 (.inr trivial) hpl hl hf
  have hb : P.built t (ps.toList.map fun (i, x) => (i, a.eval x)) = some cells' := by
    unfold placeOf at hpl0
    unfold Program.built
    rw [hit]
    cases hu : P.underlying t with
    | none => rw [hu] at hpl0; simp at hpl0
    | some d =>
      rw [hu] at hpl0
      cases d <;> simp only [Option.isSome_none, Bool.false_eq_true] at hpl0
      case array m e =>
        cases hie : P.info? e with
        | none => rw [hie] at hpl0; simp at hpl0
        | some ie =>
          have e0 : placeOf P t = fun i => some (i * ie.size, ie.size) := by funext i; simp [placeOf, hu, hie]
          rw [e0] at hfill
          simp only [hzero, hie]
          exact hfill
      case struct fs =>
        cases hm : fs.toList.mapM (fun f => (P.info? f.type).map fun i => (f.offset, i.size)) with
        | none => rw [hm] at hpl0; simp at hpl0
        | some places =>
          have e0 : placeOf P t = fun i => places.toArray[i]? := by funext i; simp [placeOf, hu, hm]
          rw [e0] at hfill
          simp only [hzero, hm]
          exact hfill
  refine ⟨.agg cells', ?_, ?_⟩
  · have hrun := run_build (P := P) w t (ps.map fun (i, x) => (i, a.eval x)) cells' (by simpa using hb)
    simp only [execOp, Sem.run_bind]
    rw [hrun]
    rfl
  · have := Rp.agg _ _ hrep
    exact Ow.imm _ _ (by simpa using this)
theorem caps_sound (hst : St W M g (tmf a) w) : ∀ {ys : List Operand} {xs : List SX} {cs : List SV}, okXs ys xs = true → caps g xs = some cs → RepL M w (ys.map a.eval) cs
  | [], [], cs, _, h => by simp only [caps, Option.some.injEq] at h; subst h; exact .lnil
  | [], _ :: _, _, h, _ => by simp [okXs] at h
  | _ :: _, [], _, h, _ => by simp [okXs] at h
  | y :: ys, x :: xs, cs, hok, h => by
    simp only [okXs, List.length_cons, List.zip_cons_cons, List.all_cons, Bool.and_eq_true, beq_iff_eq] at hok
    simp only [caps] at h
    split at h
    case isFalse => cases h
    rename_i hs
    split at h
    case h_2 => cases h
    rename_i l hl
    cases h
    exact .lcons ((cp_sound hst hok.2.1).imm (solid_imm hs).1) (caps_sound hst (by simp only [okXs, Bool.and_eq_true, beq_iff_eq]; exact ⟨by omega, hok.2.2⟩) hl)
theorem op_fn {o : Oper} {f : FuncId} {xs : List SX} {z : SV} (hok : okOp P o.op o.type (.fn f xs) = true) (hst : St W M g (tmf a) w) (hy : pv g b (.fn f xs) = some z) :
    ∃ v, (execOp a.eval o).run P w = .ok (.value v) w ∧ OwnX g (tmf a) M w v z [] := by
  obtain ⟨dst, opp, ty, pos, af, gd⟩ := o
  simp only [okOp] at hok
  split at hok
  case h_2 => cases hok
  rename_i f' first cs
  simp only [Bool.and_eq_true, beq_iff_eq] at hok
  obtain ⟨⟨rfl, h0⟩, hx⟩ := hok
  simp only [pv] at hy
  split at hy
  case h_2 => cases hy
  rename_i l hl
  cases hy
  have hr := caps_sound hst hx hl
  obtain rfl : first = #[] := by simpa using h0
  refine ⟨_, by simp only [execOp, Instr.makeFunc, Sem.run_bind, Sem.run_pure, Result.andThen_ok]; rfl, ?_⟩
  have := Rp.func f _ _ hr
  have e : (cs.toList.map a.eval).toArray = cs.map a.eval := by rw [← Array.toList_map]
  rw [e] at this
  exact Ow.imm _ _ (by simpa using this)
theorem bnd_sound (hst : St W M g (tmf a) w) {y : Option Operand} {x : Option SX} {d : Nat} {l : Int} (hok : okO y x = true) (h : bnd g d x = some l) : (y = none ∧ l = d) ∨ ∃ q k, y = some q ∧ a.eval q = .int k l := by
  cases y with
  | none =>
    cases x with
    | none => simp only [bnd, Option.some.injEq] at h; exact .inl ⟨rfl, h.symm⟩
    | some x => simp [okO] at hok
  | some q =>
    cases x with
    | none => simp [okO] at hok
    | some x =>
      simp only [bnd] at h
      split at h
      case h_2 => cases h
      rename_i k n e
      cases h
      have := cp_sound hst hok
      rw [e] at this
      exact .inr ⟨q, k, rfl, this.i⟩
theorem run_bound {k : IntKind} {l : Int} {n : Nat} {code : BoundsCode} (h0 : 0 ≤ l) (h1 : l ≤ n) : (Instr.sliceBound (.int k l) n code).run P w = .ok l.toNat w := by
  simp [Instr.sliceBound, asIntOf, h0, h1]
theorem op_slc {o : Oper} {sz : Nat} {x : SX} {lo hi : Option SX} {z : SV} (hok : okOp P o.op o.type (.slc sz x lo hi) = true) (hst : St W M g (tmf a) w) (hy : pv g b (.slc sz x lo hi) = some z) :
    ∃ v, (execOp a.eval o).run P w = .ok (.value v) w ∧ OwnX g (tmf a) M w v z [] := by
  obtain ⟨dst, opp, ty, pos, af, gd⟩ := o
  simp only [okOp] at hok
  split at hok
  case h_2 => cases hok
  rename_i t y l0 h0
  simp only [Bool.and_eq_true] at hok
  obtain ⟨⟨⟨ht, hx⟩, hl⟩, hh⟩ := hok
  split at ht
  case h_2 => cases ht
  rename_i e hu
  obtain ⟨ie, hie, hs⟩ := tyN_info ht
  have kx := cp_sound hst hx
  simp only [pv] at hy
  split at hy
  case h_2 => cases hy
  rename_i sz' xs ex
  split at hy
  case h_2 => cases hy
  rename_i l h el eh
  split at hy
  case isFalse => cases hy
  rename_i hc
  obtain ⟨rfl, c0, c1, c2⟩ := hc
  cases hy
  rw [ex] at kx
  have hl := bnd_sound hst hl el
  have hh := bnd_sound hst hh eh
  obtain ⟨ad, cap, ve, hle, hrep⟩ : ∃ ad cap, a.eval y = .slice ad xs.length cap ∧ xs.length ≤ cap ∧
      (Rep M w (.slice (if cap = l.toNat then ad else ad.map (·.add (l.toNat * ie.size))) (h.toNat - l.toNat) (cap - l.toNat)) (.list sz' ((xs.drop l.toNat).take (h.toNat - l.toNat)))) := by
    have hlen : ((xs.drop l.toNat).take (h.toNat - l.toNat)).length = h.toNat - l.toNat := by rw [List.length_take, List.length_drop]; omega
    rcases kx.l with ⟨ad, ve, rfl⟩ | ⟨c, off, cap, ve, hm, hle, hmx, hr⟩
    · refine ⟨ad, 0, ve, Nat.le_refl _, ?_⟩
      simp only [List.length_nil] at c2
      have e1 : l.toNat = 0 := by omega
      have e2 : h.toNat = 0 := by omega
      simp only [e1, e2]
      cases ad with
      | none => simpa using Rp.nil sz'
      | some ad => simpa using Rp.empty ad sz'
    · refine ⟨_, cap, ve, hle, ?_⟩
      have hd := (RepR.drop hr l.toNat).take (h.toNat - l.toNat)
      by_cases hcap : cap = l.toNat
      · rw [if_pos hcap]
        have e2 : h.toNat - l.toNat = 0 := by omega
        have e3 : cap - l.toNat = 0 := by omega
        rw [e2, e3, List.take_zero]
        exact .list c off 0 sz' [] hm (Nat.le_refl _) (Nat.zero_le _) (.rnil _ _ _)
      · rw [if_neg hcap]
        simp only [Option.map_some, add_mid, hs]
        have := Rp.list c (off + l.toNat * sz') (cap - l.toNat) sz' _ hm (by rw [hlen]; omega) (by omega) hd
        rwa [hlen] at this
  refine ⟨_, ?_, Ow.imm _ _ hrep⟩
  have hsb : (Instr.sliceBounds true xs.length cap (l0.map a.eval) (h0.map a.eval) none).run P w = .ok (l.toNat, h.toNat, cap) w := by
    rcases hl with ⟨rfl, rfl⟩ | ⟨q, k, rfl, e⟩
    · rcases hh with ⟨rfl, rfl⟩ | ⟨q2, k2, rfl, e2⟩
      · simp [Instr.sliceBounds]
      · have b1 := run_bound (P := P) (w := w) (k := k2) (n := cap) (code := .sliceAcap) (l := h) (by omega) (by omega)
        simp [Instr.sliceBounds, e2, b1]
    · have b2 := run_bound (P := P) (w := w) (k := k) (n := h.toNat) (code := .sliceB) (l := l) (by omega) (by omega)
      rcases hh with ⟨rfl, rfl⟩ | ⟨q2, k2, rfl, e2⟩
      · have b3 := run_bound (P := P) (w := w) (k := k) (n := xs.length) (code := .sliceB) (l := l) (by omega) (by omega)
        simp [Instr.sliceBounds, e, b3]
      · have b1 := run_bound (P := P) (w := w) (k := k2) (n := cap) (code := .sliceAcap) (l := h) (by omega) (by omega)
        simp [Instr.sliceBounds, e, e2, b1, b2]
  simp only [execOp, Option.map_none, Sem.run_bind, Instr.sliceAt, run_underlying hu, Result.andThen_ok, Instr.slice, ve, hsb, sizeOf, typeInfo, run_program, hie, Sem.run_pure]
/-- A step that may make blocks: what it leaves. -/
def Made (P : Program) (o : Oper) (a : Act) (w : World) (M : Nat → Prop) (g : Nat → SV) (z : SV) : Prop :=
  ∃ v w' M' bs, (execOp a.eval o).run P w = .ok (.value v) w' ∧ Gr M w M' w' ∧ OwnX g (tmf a) M' w' v z bs ∧ bs.Nodup ∧ ∀ c ∈ bs, w.heap.size ≤ c ∧ c < w'.heap.size ∧ ¬ M' c
theorem Made.same {o : Oper} {z : SV} (hst : St W M g (tmf a) w) (h : ∃ v, (execOp a.eval o).run P w = .ok (.value v) w ∧ OwnX g (tmf a) M w v z []) : Made P o a w M g z :=
  let ⟨v, h1, h2⟩ := h
  ⟨v, w, M, [], h1, Gr.refl hst.lt, h2, List.nodup_nil, by simp⟩
theorem Gr.alloc (hl : ∀ b, M b → b < w.heap.size) (ob : Obj) : Gr M w M (w.alloc ob) :=
  ⟨(Below.refl _ _).alloc (Nat.le_refl _) _, fun _ h => h, fun _ h => .inl h, fun c h => by have := hl c h; simp; omega⟩
theorem heap_new (w : World) (ob : Obj) : (w.alloc ob).heap[w.heap.size]? = some ob := heap_alloc_new w ob
theorem Same.alloc (hl : ∀ b, M b → b < w.heap.size) (ob : Obj) : Same M w (w.alloc ob) := fun c hc => Below.heap_alloc w ob c (hl c hc)
theorem made_box {o : Oper} {z : SV} {v : Value} {t : TypeId} (hst : St W M g (tmf a) w) (hr : Rep M w v z) (hd : z ≠ .dead) (hrun : (execOp a.eval o).run P w = .ok (.value (.pointer (some ⟨w.heap.size, 0, none⟩))) (w.alloc (.cells v.cells t))) : Made P o a w M g (.box z) := by
  refine ⟨_, _, M, [w.heap.size], hrun, Gr.alloc hst.lt _, ?_, by simp, ?_⟩
  · exact Ow.box _ t z v.cells [] (heap_new w _) (OwnL.of_rep (RepL.mono (fun _ h => h) (Same.alloc hst.lt _) (hr.cells hd)))
  · intro c hc
    rw [List.mem_singleton] at hc
    subst hc
    refine ⟨Nat.le_refl _, by simp, fun hm => ?_⟩
    have := hst.lt _ hm
    omega
theorem op_alloc {o : Oper} {x z : SV} (hok : okOp P o.op o.type (.alloc x) = true) (hst : St W M g (tmf a) w) (hy : pv g b (.alloc x) = some z) : Made P o a w M g z := by
  obtain ⟨dst, opp, ty, pos, af, gd⟩ := o
  simp only [okOp] at hok
  split at hok
  case h_2 => cases hok
  rename_i t
  split at hok
  case h_2 => cases hok
  rename_i i hi
  split at hok
  case h_2 => cases hok
  rename_i v hz
  simp only [pv] at hy
  split at hy
  case isFalse => cases hy
  rename_i hs
  cases hy
  refine made_box (t := t) hst (okC_rep hok) (solid_imm hs).2 ?_
  simp [execOp, Instr.alloc, zeroValue, typeInfo, hi, hz, newVar, newRow]
theorem op_box {o : Oper} {x : SX} {z : SV} (hok : okOp P o.op o.type (.box x) = true) (hst : St W M g (tmf a) w) (hy : pv g b (.box x) = some z) : Made P o a w M g z := by
  obtain ⟨dst, opp, ty, pos, af, gd⟩ := o
  simp only [okOp] at hok
  split at hok
  case h_2 => cases hok
  rename_i t y
  simp only [pv] at hy
  split at hy
  case isFalse => cases hy
  rename_i hs
  cases hy
  obtain ⟨himm, hnd⟩ := solid_imm hs
  refine made_box (t := t) hst ((cp_sound hst hok).imm himm) hnd ?_
  simp [execOp, Instr.box, newVar, newRow]
theorem rows_of {M : Nat → Prop} {w : World} {c : Nat} {e : TypeId} {sz : Nat} : ∀ (ls : List (List Value)) (xs : List SV) (cur : Array Value) (k : Nat), w.heap[c]? = some (.cells cur e (0, 0)) → cur.toList.drop (k * sz) = ls.flatten → (∀ l ∈ ls, l.length = sz) →
    ls.length = xs.length → (∀ p ∈ ls.zip xs, RepL M w p.1 p.2.cells) → RepR M w c (k * sz) sz xs
  | [], [], _, k, _, _, _, _, _ => .rnil _ _ _
  | [], _ :: _, _, _, _, _, _, h, _ => by simp at h
  | _ :: _, [], _, _, _, _, _, h, _ => by simp at h
  | l :: ls, x :: xs, cur, k, hc, hd, hl, hn, hr => by
    have hll := hl l List.mem_cons_self
    refine .rcons hll (fun j u hu => ?_) (hr (l, x) (by simp)) ?_
    · have hj := (List.getElem?_eq_some_iff.1 hu).1
      have : cur.toList[k * sz + j]? = some u := by
        rw [← List.getElem?_drop, hd, List.flatten_cons, List.getElem?_append_left hj]; exact hu
      simp only [World.cell?, hc]
      simpa using this
    · have := rows_of ls xs cur (k + 1) hc (by
        rw [Nat.add_mul, Nat.one_mul, ← List.drop_drop, hd, List.flatten_cons, ← hll]; simp) (fun l hm => hl l (List.mem_cons_of_mem _ hm)) (by simpa using hn) (fun p hp => hr p (by rw [List.zip_cons_cons]; exact List.mem_cons_of_mem _ hp))
      rwa [Nat.add_mul, Nat.one_mul] at this
theorem rows_repl {M : Nat → Prop} {w : World} {c : Nat} {v : Value} {z : SV} {sz n : Nat} (hsz : v.cells.size = sz) (hr : RepL M w v.cells.toList z.cells)
    (hc : ∀ j, j < n * sz → w.cell? ⟨c, j, none⟩ = some (v.cells[j % sz]!)) : ∀ (m k : Nat), k + m = n → RepR M w c (k * sz) sz (List.replicate m z)
  | 0, k, _ => .rnil _ _ _
  | m + 1, k, h => by
    rw [List.replicate_succ]
    refine .rcons (us := v.cells.toList) (by simpa using hsz) (fun j u hu => ?_) hr ?_
    · have hj := (List.getElem?_eq_some_iff.1 hu).1
      have hj' : j < sz := by simpa [hsz] using hj
      have hlt : k * sz + j < n * sz := by
        have h1 : (k + 1) * sz ≤ n * sz := Nat.mul_le_mul_right _ (by omega)
        rw [Nat.add_mul, Nat.one_mul] at h1
        omega
      have hm : (k * sz + j) % sz = j := by rw [Nat.add_comm, Nat.add_mul_mod_self_right]; exact Nat.mod_eq_of_lt hj'
      rw [hc _ hlt, hm]
      have hju : v.cells[j]? = some u := by simpa using hu
      rw [Array.getElem!_eq_getD, Array.getD_eq_getD_getElem?, hju]
      rfl
    · have := rows_repl hsz hr hc m (k + 1) (by omega)
      rwa [Nat.add_mul, Nat.one_mul] at this
theorem okC1_dead (v : Value) : okC1 v .dead = false := by
  unfold okC1
  split <;> first | rfl | (rename_i h; cases h)
theorem okC_dead (v : Value) : okC v .dead = false := by
  unfold okC
  split
  · rename_i h; cases h
  · exact okC1_dead _
theorem op_mks {o : Oper} {e sz bytes : Nat} {zv : SV} {x : SX} {z : SV} (hok : okOp P o.op o.type (.mks e sz bytes zv x) = true) (hst : St W M g (tmf a) w) (hy : pv g b (.mks e sz bytes zv x) = some z) : Made P o a w M g z := by
  obtain ⟨dst, opp, ty, pos, af, gd⟩ := o
  simp only [okOp] at hok
  split at hok
  case h_2 => cases hok
  rename_i t l c
  simp only [Bool.and_eq_true] at hok
  obtain ⟨⟨⟨ht, hs0⟩, hl⟩, hc⟩ := hok
  split at ht
  case h_2 => cases ht
  rename_i e' hu
  simp only [Bool.and_eq_true, beq_iff_eq] at ht
  obtain ⟨rfl, ht⟩ := ht
  split at ht
  case h_2 => cases ht
  rename_i i hi
  simp only [Bool.and_eq_true, beq_iff_eq] at ht
  obtain ⟨⟨rfl, rfl⟩, ht⟩ := ht
  split at ht
  case h_2 => cases ht
  rename_i v hz
  simp only [Bool.and_eq_true, beq_iff_eq] at ht
  obtain ⟨hv, hvs⟩ := ht
  simp only [pv] at hy
  split at hy
  case h_2 => cases hy
  rename_i k hk
  split at hy
  case isFalse => cases hy
  rename_i hcond
  obtain ⟨h0, h1, h2, h3⟩ := hcond
  cases hy
  have vl := cp_sound hst hl
  have vc := cp_sound hst hc
  rw [hk] at vl vc
  have el := vl.i
  have ec := vc.i
  have hk63 : k ≤ 9223372036854775807 := by omega
  have hb : (i.bytes : Int) * k ≤ 281474976710656 := by
    have e1 : ((k.toNat * i.bytes : Nat) : Int) ≤ 281474976710656 := by omega
    rw [Int.natCast_mul, Int.toNat_of_nonneg h0, Int.mul_comm] at e1
    exact e1
  have hrun := run_make (P := P) w t e' i v hu hi hz .i64 .i64 k k h0 (Int.le_refl _) hb hk63
  have hd : zv ≠ .dead := by
    intro e
    subst e
    rcases Nat.eq_zero_or_pos i.size with h | h
    · simp [h] at hs0
    · rw [okC_dead] at hv; cases hv
  have hrep : RepL M (w.alloc (.cells (madeCells v.cells (k.toNat * i.size)) e')) v.cells.toList zv.cells := (okC_rep (M := M) hv).cells hd
  refine ⟨.slice (some ⟨w.heap.size, 0, none⟩) k.toNat k.toNat, _, M, [w.heap.size], ?_, Gr.alloc hst.lt (.cells (madeCells v.cells (k.toNat * i.size)) e'), ?_, by simp, ?_⟩
  · simp only [execOp, el, ec, Sem.run_bind, hrun, Result.andThen_ok, Sem.run_pure]
  · have hrow : RepR M (w.alloc (.cells (madeCells v.cells (k.toNat * i.size)) e')) w.heap.size (0 * i.size) i.size (List.replicate k.toNat zv) := by
      refine rows_repl (n := k.toNat) (v := v) hvs hrep (fun j hj => ?_) k.toNat 0 (by omega)
      rw [World.cell?_alloc_new]
      simp [madeCells, hj, hvs]
    have := Ow.own (M := M) (w := w.alloc (.cells (madeCells v.cells (k.toNat * i.size)) e')) w.heap.size k.toNat e' i.size (List.replicate k.toNat zv) _ (heap_new w _) (size_madeCells _ _) (by simp) (by unfold maxLen; omega) (by simpa using hrow)
    rw [List.length_replicate] at this
    exact this
  · intro c hc
    rw [List.mem_singleton] at hc
    subst hc
    refine ⟨Nat.le_refl _, by simp, fun hm => ?_⟩
    have := hst.lt _ hm
    omega
theorem setS_eq : ∀ (vs A B : List SV), vs.length ≤ B.length → setS (A ++ B) A.length vs = A ++ vs ++ B.drop vs.length
  | [], A, B, _ => by simp [setS]
  | v :: vs, A, [], h => by simp at h
  | v :: vs, A, b :: B, h => by
    have e1 : (A ++ b :: B).set A.length v = (A ++ [v]) ++ B := by simp
    have := setS_eq vs (A ++ [v]) B (by simpa using h)
    simp only [setS, e1]
    rw [show A.length + 1 = (A ++ [v]).length by simp, this]
    simp
def qsOf (sz : Nat) (xs : List SX) (k : Nat) : List (Nat × Nat × SX) :=
  match xs with
  | [] => []
  | x :: rest => (k * sz, sz, x) :: qsOf sz rest (k + 1)
theorem solids_len {sz : Nat} : ∀ {xs : List SX} {l : List SV}, solids g sz xs = some l → l.length = xs.length ∧ ∀ x ∈ l, x.cells.length = sz
  | [], l, h => by simp only [solids, Option.some.injEq] at h; subst h; exact ⟨rfl, by simp⟩
  | x :: xs, l, h => by
    simp only [solids] at h
    split at h
    case isFalse => cases h
    rename_i hc
    split at h
    case h_2 => cases h
    rename_i l' hl'
    cases h
    obtain ⟨h1, h2⟩ := solids_len hl'
    exact ⟨by simp [h1], fun y hy => by rcases List.mem_cons.1 hy with rfl | hy <;> first | exact hc.1 | exact h2 y hy⟩
theorem fill_solids {sz : Nat} : ∀ (xs : List SX) (l A B : List SV) (k : Nat), solids g sz xs = some l → A.length = k * sz → xs.length * sz ≤ B.length →
    fillS g (A ++ B) (qsOf sz xs k) = some (A ++ l.flatMap SV.cells ++ B.drop (xs.length * sz))
  | [], l, A, B, k, h, hA, hB => by simp only [solids, Option.some.injEq] at h; subst h; simp [qsOf, fillS]
  | x :: xs, l, A, B, k, h, hA, hB => by
    simp only [solids] at h
    split at h
    case isFalse => cases h
    rename_i hc
    split at h
    case h_2 => cases h
    rename_i l' hl'
    cases h
    have hB' : sz + xs.length * sz ≤ B.length := by simpa [Nat.add_mul, Nat.add_comm] using hB
    have hset := setS_eq (cp g x).cells A B (by rw [hc.1]; omega)
    have hrec := fill_solids xs l' (A ++ (cp g x).cells) (B.drop sz) (k + 1) hl' (by rw [List.length_append, hA, hc.1, Nat.add_mul, Nat.one_mul]) (by rw [List.length_drop]; omega)
    simp only [qsOf, fillS]
    rw [if_pos ⟨hc.1, by rw [List.length_append, hA]; omega, hc.2⟩]
    rw [← hA, hset, hc.1, hrec]
    simp only [List.flatMap_cons, List.append_assoc, List.drop_drop, List.length_cons, Nat.add_mul, Nat.one_mul]
    rw [Nat.add_comm sz]
theorem rows_flat {M : Nat → Prop} {w : World} {c sz : Nat} : ∀ (xs : List SV) (off : Nat) (us : List Value), CellsAt w c off us → RepL M w us (xs.flatMap SV.cells) → (∀ x ∈ xs, x.cells.length = sz) → RepR M w c off sz xs
  | [], _, _, _, _, _ => .rnil _ _ _
  | x :: xs, off, us, hc, hr, hl => by
    rw [List.flatMap_cons] at hr
    have hx := hl x List.mem_cons_self
    have h1 := hr.take sz
    have h2 := hr.drop sz
    rw [List.take_left' hx] at h1
    rw [List.drop_left' hx] at h2
    refine .rcons (us := us.take sz) (by have := h1.len; omega) (hc.take _) h1 (rows_flat xs (off + sz) (us.drop sz) (hc.drop sz) h2 fun y hy => hl y (List.mem_cons_of_mem _ hy))
theorem okXs_spec : ∀ {ys : List Operand} {xs : List SX}, okXs ys xs = true → ys.length = xs.length ∧ ∀ p ∈ ys.zip xs, okX p.1 p.2 = true := fun {ys xs} h => by
  simp only [okXs, Bool.and_eq_true, beq_iff_eq, List.all_eq_true] at h
  exact h
theorem qs_zip {sz : Nat} : ∀ (ps : List (Nat × Operand)) (xs : List SX) (k : Nat), ps.map (·.1) = (List.range ps.length).map (k + ·) → (∀ p ∈ (ps.map (·.2)).zip xs, okX p.1 p.2 = true) →
    ∀ p ∈ ps.zip (qsOf sz xs k), (some (p.1.1 * sz, sz) : Option (Nat × Nat)) = some (p.2.1, p.2.2.1) ∧ okX p.1.2 p.2.2.2 = true
  | [], _, _, _, _, p, hp => by simp at hp
  | _ :: _, [], _, _, _, p, hp => by simp [qsOf] at hp
  | (i, y) :: ps, x :: xs, k, hr, hx, p, hp => by
    simp only [List.map_cons, List.length_cons, List.range_succ_eq_map, List.map_map, List.cons.injEq, Nat.add_zero] at hr
    simp only [qsOf, List.zip_cons_cons, List.mem_cons] at hp
    rcases hp with rfl | hp
    · obtain ⟨rfl, _⟩ := hr
      exact ⟨rfl, hx (y, x) (by simp)⟩
    · refine qs_zip ps xs (k + 1) ?_ (fun q hq => hx q (by rw [List.map_cons, List.zip_cons_cons]; exact List.mem_cons_of_mem _ hq)) p hp
      rw [hr.2]
      apply List.map_congr_left
      intro a _
      simp only [Function.comp]
      omega
theorem qs_len {sz : Nat} : ∀ (xs : List SX) (k : Nat), (qsOf sz xs k).length = xs.length
  | [], _ => rfl
  | _ :: xs, k => by simp [qsOf, qs_len xs]
theorem op_bsl {o : Oper} {e sz : Nat} {xs : List SX} {z : SV} (hok : okOp P o.op o.type (.bsl e sz xs) = true) (hst : St W M g (tmf a) w) (hy : pv g b (.bsl e sz xs) = some z) : Made P o a w M g z := by
  obtain ⟨dst, opp, ty, pos, af, gd⟩ := o
  simp only [okOp] at hok
  split at hok
  case h_2 => cases hok
  rename_i t n ps
  simp only [Bool.and_eq_true, beq_iff_eq, decide_eq_true_eq] at hok
  obtain ⟨⟨⟨⟨ht, hs0⟩, hmx⟩, hrange⟩, hx⟩ := hok
  split at ht
  case h_2 => cases ht
  rename_i e' hu
  simp only [Bool.and_eq_true, beq_iff_eq] at ht
  obtain ⟨⟨rfl, hn⟩, hz⟩ := ht
  obtain ⟨i, hi, rfl⟩ := tyN_info hn
  unfold okZ at hz
  rw [hi] at hz
  simp only [] at hz
  split at hz
  case h_2 => cases hz
  rename_i v hv
  simp only [beq_iff_eq] at hz
  simp only [pv] at hy
  split at hy
  case h_2 => cases hy
  rename_i l hl
  cases hy
  obtain ⟨hxl, hxs⟩ := okXs_spec hx
  obtain ⟨hll, hlc⟩ := solids_len hl
  have hpn : ps.toList.length = n := by have := congrArg List.length hrange; simpa using this
  have hn2 : xs.length = n := by rw [← hxl, List.length_map, hpn]
  obtain ⟨zr, hzr⟩ : ∃ zr : Array Value, (if n * i.size = 0 then (Pure.pure #[] : Sem (Array Value)) else do Pure.pure (← zeroValue e').cells).run P w = .ok zr w := by
    by_cases h : n * i.size = 0
    · exact ⟨#[], by rw [if_pos h]; rfl⟩
    · exact ⟨v.cells, by rw [if_neg h]; simp [zeroValue, typeInfo, hi, hv]⟩
  obtain ⟨zc, hzd, hzc⟩ : ∃ zc : Array Value, ((Array.range (n * i.size)).map (zr[· % zr.size]!)) = zc ∧ zc.size = n * i.size := ⟨_, rfl, by simp⟩
  have hzl : zc.toList.length = n * i.size := by simpa using hzc
  have hfill := fill_solids (g := g) xs l [] (zc.toList.map fun _ => .dead) 0 hl (by simp) (by rw [List.length_map, hzl, hn2]; exact Nat.le_refl _)
  rw [List.nil_append, List.nil_append] at hfill
  obtain ⟨cells', hf, hrep⟩ := fill_rep (P := P) (place := fun q => some (q * i.size, i.size)) hst ps.toList (qsOf i.size xs 0) zc (zc.toList.map fun _ => .dead) _ (RepL.of_dead _) (.inr trivial)
    (qs_zip ps.toList xs 0 (by rw [hpn, hrange]; simp) hxs) (by rw [qs_len, hpn, hn2]) hfill
  have hdrop : (zc.toList.map fun _ => SV.dead).drop (xs.length * i.size) = [] := List.drop_eq_nil_of_le (by rw [List.length_map, hzl, hn2]; exact Nat.le_refl _)
  rw [hdrop, List.append_nil] at hrep
  have hsz : cells'.size = n * i.size := by
    have h1 := hrep.len
    have h2 : ∀ (l : List SV), (∀ x ∈ l, x.cells.length = i.size) → (l.flatMap SV.cells).length = l.length * i.size := fun l => by
      induction l with
      | nil => intro _; simp
      | cons x l ih => intro h; rw [List.flatMap_cons, List.length_append, h x List.mem_cons_self, ih fun y hy => h y (List.mem_cons_of_mem _ hy), List.length_cons, Nat.add_mul, Nat.one_mul, Nat.add_comm]
    rw [h2 l hlc, hll, hn2] at h1
    simpa using h1
  refine ⟨.slice (some ⟨w.heap.size, 0, none⟩) n n, _, M, [w.heap.size], ?_, Gr.alloc hst.lt (.cells cells' e'), ?_, by simp, ?_⟩
  · have hrun : (Instr.buildSlice t n (ps.map fun (i, x) => (i, a.eval x))).run P w = .ok (.slice (some ⟨w.heap.size, 0, none⟩) n n) (w.alloc (.cells cells' e')) := by
      have hno : ¬ n * i.size > 2 ^ 24 := by omega
      have hf2 : Instr.fill (fun q => some (q * i.size, i.size)) zc (ps.map fun (i, x) => (i, a.eval x)).toList = some cells' := by
        rw [Array.toList_map]
        exact hf
      simp only [Instr.buildSlice, Sem.run_bind, run_underlying hu, Result.andThen_ok, sizeOf, typeInfo, run_program, hi, Sem.run_pure]
      rw [if_neg hno]
      by_cases h0 : n * i.size = 0
      · rw [if_pos h0] at hzr ⊢
        have hz0 : zr = #[] := by cases hzr; rfl
        subst hz0
        simp only [Sem.run_bind, Sem.run_pure, Result.andThen_ok, hzd, hf2, newRow, run_newObj, World.alloc_eq]
      · rw [if_neg h0] at hzr ⊢
        rw [Sem.run_bind] at hzr ⊢
        have hzv : (zeroValue e').run P w = .ok v w := by simp [zeroValue, typeInfo, hi, hv]
        rw [hzv] at hzr ⊢
        have hz0 : zr = v.cells := by cases hzr; rfl
        subst hz0
        simp only [Sem.run_bind, Sem.run_pure, Result.andThen_ok, hzd, hf2, newRow, run_newObj, World.alloc_eq]
    simp only [execOp, Sem.run_bind, hrun, Result.andThen_ok, Sem.run_pure]
  · have hrow : RepR M (w.alloc (.cells cells' e')) w.heap.size 0 i.size l := by
      refine rows_flat l 0 cells'.toList (fun j u hu => ?_) (RepL.mono (fun _ h => h) (Same.alloc hst.lt _) hrep) hlc
      rw [Nat.zero_add, World.cell?_alloc_new]
      simpa using hu
    have := Ow.own (M := M) (w := w.alloc (.cells cells' e')) w.heap.size n e' i.size l _ (heap_new w _) hsz (by omega) (by
      have : n ≤ n * i.size := Nat.le_mul_of_pos_right n (by simpa [Nat.pos_iff_ne_zero] using hs0)
      unfold maxLen; omega) hrow
    have e1 : l.length = n := by omega
    rw [e1] at this
    exact this
  · intro c hc
    rw [List.mem_singleton] at hc
    subst hc
    refine ⟨Nat.le_refl _, by simp, fun hm => ?_⟩
    have := hst.lt _ hm
    omega
theorem op_pick {o : Oper} {t : Nat} {wt : Bool} {x : SX} {z : SV} (hok : okOp P o.op o.type (.pick t wt x) = true) (hst : St W M g (tmf a) w) (hy : pv g b (.pick t wt x) = some z) :
    ∃ v, (execOp a.eval o).run P w = .ok (.value v) w ∧ OwnX g (tmf a) M w v z [] := by
  obtain ⟨dst, opp, ty, pos, af, gd⟩ := o
  simp only [okOp] at hok
  split at hok
  case h_2 => cases hok
  rename_i c p q
  simp only [Bool.and_eq_true] at hok
  obtain ⟨hc, hpq⟩ := hok
  have kc := cp_sound hst hc
  simp only [pv] at hy
  split at hy
  case h_2 => cases hy
  rename_i v0 ev
  rw [ev] at kc
  have vc := kc.bo
  cases wt with
  | true =>
    simp only [if_true, Bool.and_eq_true] at hpq
    have kp := cp_sound hst hpq.1
    have kq := cp_sound (g := g) hst hpq.2
    have vq := kq.bo
    cases v0 with
    | true =>
      simp only [BEq.rfl, if_true] at hy
      have hz : cp g x = z := by
        split at hy
        · cases hy
        · exact Option.some.inj hy
      subst hz
      exact ⟨_, by simp only [execOp, vc, asBool, Sem.run_bind, Sem.run_pure, Result.andThen_ok, if_true], kp⟩
    | false =>
      simp at hy
      subst hy
      exact ⟨_, by simp only [execOp, vc, asBool, Sem.run_bind, Sem.run_pure, Result.andThen_ok, Bool.false_eq_true, if_false], kq⟩
  | false =>
    simp only [Bool.false_eq_true, if_false, Bool.and_eq_true] at hpq
    have kp := cp_sound (g := g) hst hpq.1
    have kq := cp_sound hst hpq.2
    cases v0 with
    | true =>
      simp at hy
      subst hy
      exact ⟨_, by simp only [execOp, vc, asBool, Sem.run_bind, Sem.run_pure, Result.andThen_ok, if_true], kp⟩
    | false =>
      simp only [BEq.rfl, if_true] at hy
      have hz : cp g x = z := by
        split at hy
        · cases hy
        · exact Option.some.inj hy
      subst hz
      exact ⟨_, by simp only [execOp, vc, asBool, Sem.run_bind, Sem.run_pure, Result.andThen_ok, Bool.false_eq_true, if_false], kq⟩
theorem isKey (x : Int) : MapKept.IsKey (.int .i64) (.int .i64 x) := rfl
theorem findNow_seen (x : Int) : ∀ (es : List MapEntry) (l : List Int) (i : Nat), es.map (fun e => (e.key, e.val)) = l.map (fun x => (Value.int .i64 x, Value.bool true)) →
    (x ∈ l → ∃ j, Instr.findNow (.int .i64) (.int .i64 x) es i = some (some (j, .bool true))) ∧ (¬ x ∈ l → Instr.findNow (.int .i64) (.int .i64 x) es i = some none)
  | [], [], i, _ => ⟨fun h => by simp at h, fun _ => rfl⟩
  | [], y :: l, i, h => by simp at h
  | e :: es, [], i, h => by simp at h
  | e :: es, y :: l, i, h => by
    simp only [List.map_cons, List.cons.injEq, Prod.mk.injEq] at h
    obtain ⟨⟨hk, hv⟩, hr⟩ := h
    have ih := findNow_seen x es l (i + 1) hr
    by_cases hxy : x = y
    · subst hxy
      refine ⟨fun _ => ⟨i, ?_⟩, fun h => absurd (List.mem_cons_self ..) h⟩
      simp [Instr.findNow, Instr.sameNow, hk, hv]
    · have bxy : (x == y) = false := beq_eq_false_iff_ne.2 hxy
      constructor
      · intro hm
        rcases List.mem_cons.1 hm with h | h
        · exact absurd h hxy
        · obtain ⟨j, hj⟩ := ih.1 h
          refine ⟨j, ?_⟩
          rw [← hj]
          simp [Instr.findNow, Instr.sameNow, hk, bxy]
      · intro hm
        rw [← ih.2 (fun h => hm (List.mem_cons_of_mem _ h))]
        simp [Instr.findNow, Instr.sameNow, hk, bxy]
theorem Seen.look {P : Program} {t k e : TypeId} {w : World} {g : Nat} {l : List Int} (h : Seen w g l) (ht : P.underlying t = some (.map k e)) (hk : P.underlying k = some (.int .i64))
    (hz : (zeroValue e).run P w = .ok (.bool false) w) (x : Int) : (Instr.lookup t (.map (some g)) (.int .i64 x) false).run P w = .ok (.bool (decide (x ∈ l))) w := by
  obtain ⟨es, clock, hb, hes⟩ := h
  have hf := findNow_seen x es.toList l 0 hes
  by_cases hm : x ∈ l
  · obtain ⟨j, hj⟩ := hf.1 hm
    rw [decide_eq_true hm]
    simp [Instr.lookup, run_underlying ht, MapKept.run_getObj_map hb, MapKept.run_checkKey hk (isKey x) _ 9999, MapKept.run_findKey hk hj, Result.andThen]
  · rw [decide_eq_false hm]
    simp [Instr.lookup, run_underlying ht, MapKept.run_getObj_map hb, MapKept.run_checkKey hk (isKey x) _ 9999, MapKept.run_findKey hk (hf.2 hm), hz, Result.andThen]
theorem Seen.put {P : Program} {t k e : TypeId} {w : World} {g : Nat} {l : List Int} (h : Seen w g l) (ht : P.underlying t = some (.map k e)) (hk : P.underlying k = some (.int .i64)) (x : Int) (hx : ¬ x ∈ l) :
    ∃ o, (Instr.mapUpdate t (.map (some g)) (.int .i64 x) (.bool true)).run P w = .ok () (Go.ChangeMaps.setBlock w g o) ∧ Seen (Go.ChangeMaps.setBlock w g o) g (l ++ [x]) ∧ (∀ i, i ≠ g → (Go.ChangeMaps.setBlock w g o).heap[i]? = w.heap[i]?) ∧ (Go.ChangeMaps.setBlock w g o).heap.size = w.heap.size := by
  obtain ⟨es, clock, hb, hes⟩ := h
  have hf := (findNow_seen x es.toList l 0 hes).2 hx
  refine ⟨.map (es.push { key := .int .i64 x, val := .bool true, born := clock }) (clock + 1), ?_, ⟨_, _, Go.ChangeMaps.heap_setBlock_same hb _, ?_⟩, fun i hi => Go.ChangeMaps.heap_setBlock_other hb _ hi, by simp [Go.ChangeMaps.setBlock]⟩
  · simp [Instr.mapUpdate, run_underlying ht, MapKept.run_getObj_map hb, MapKept.run_checkKey hk (isKey x) _ 9999, MapKept.run_findKey hk hf, MapKept.run_setObj_map _ hb, Result.andThen, Go.ChangeMaps.setBlock]
  · simp [hes]
theorem op_mkm {o : Oper} {z : SV} (hok : okOp P o.op o.type .mkm = true) (hst : St W M g (tmf a) w) (hy : pv g b .mkm = some z) : Made P o a w M g z := by
  obtain ⟨dst, opp, ty, pos, af, gd⟩ := o
  simp only [okOp] at hok
  split at hok
  case h_2 => cases hok
  cases hy
  refine ⟨.map (some w.heap.size), w.alloc (.map #[] 0), M, [w.heap.size], ?_, Gr.alloc hst.lt (.map #[] 0), ⟨w.heap.size, rfl, rfl, #[], 0, heap_new w _, rfl⟩, by simp, ?_⟩
  · simp [execOp, Instr.makeMap]
  · intro c hc
    rw [List.mem_singleton] at hc
    subst hc
    refine ⟨Nat.le_refl _, by simp, fun hm => ?_⟩
    have := hst.lt _ hm
    omega
theorem op_look {o : Oper} {x i : SX} {z : SV} (hok : okOp P o.op o.type (.look x i) = true) (hst : St W M g (tmf a) w) (hb : ∀ t, b t = .dead ∨ b t = g t) (hy : pv g b (.look x i) = some z) :
    ∃ v, (execOp a.eval o).run P w = .ok (.value v) w ∧ OwnX g (tmf a) M w v z [] := by
  obtain ⟨dst, opp, ty, pos, af, gd⟩ := o
  simp only [okOp] at hok
  split at hok
  case h_2 => cases hok
  rename_i t m j
  simp only [Bool.and_eq_true] at hok
  obtain ⟨⟨ht, hx⟩, hi⟩ := hok
  split at ht
  case h_2 => cases ht
  rename_i k e hu
  simp only [Bool.and_eq_true] at ht
  obtain ⟨hk, hz⟩ := ht
  split at hk
  case h_2 => cases hk
  rename_i huk
  split at hz
  case h_2 => cases hz
  rename_i ie hie
  split at hz
  case h_2 => cases hz
  rename_i hzero
  have kx := cp_sound hst hx
  have ki := cp_sound hst hi
  simp only [pv] at hy
  split at hy
  case h_2 => cases hy
  rename_i t' n e1 e2
  split at hy
  case h_2 => cases hy
  rename_i l hbt
  cases hy
  rw [e1] at kx
  rw [e2] at ki
  have vi := ki.i
  have hgt : g t' = .imap l := by
    rcases hb t' with h | h
    · rw [h] at hbt; cases hbt
    · rw [← h]; exact hbt
  obtain ⟨_, l', k1, k2⟩ := kx
  obtain ⟨bs, q1, _⟩ := hst.own
  have q := q1 t'
  rw [hgt] at q
  obtain ⟨c, _, hv, hs⟩ := q
  have ve : a.eval m = .map (some c) := by rw [k2]; exact hv
  have hzr : (zeroValue e).run P w = .ok (.bool false) w := by simp [zeroValue, typeInfo, hie, hzero]
  refine ⟨_, ?_, Ow.imm _ _ (.bool _)⟩
  have := Seen.look (P := P) hs hu huk hzr n
  simp only [execOp, ve, vi, Sem.run_bind, this, Result.andThen_ok, Sem.run_pure]
/-- Whatever operation that writes one slot: the machine's does what the walk says. -/
theorem op_made {o : Oper} {op : SOp} {z : SV} (hok : okOp P o.op o.type op = true) (hst : St W M g (tmf a) w) (hb : ∀ t, b t = .dead ∨ b t = g t) (hy : pv g b op = some z) : Made P o a w M g z := by
  cases op with
  | mov x => exact .same hst (op_mov hok hst hy)
  | bin op x y => exact .same hst (op_bin hok hst hy)
  | eqb neg x y => exact .same hst (op_eqb hok hst hy)
  | eqp neg x y => exact .same hst (op_eqp hok hst hy)
  | not x => exact .same hst (op_not hok hst hy)
  | conv k x => exact .same hst (op_conv hok hst hy)
  | len x => exact .same hst (op_len hok hst hb hy)
  | lens x => exact .same hst (op_lens hok hst hy)
  | fa off n ag x => exact .same hst (op_fa hok hst hy)
  | ia sz x i => exact .same hst (op_ia hok hst hb hy)
  | iaa num sz ag x i => exact .same hst (op_iaa hok hst hy)
  | ld n ag x => exact .same hst (op_ld hok hst hb hy)
  | ext x i => exact .same hst (op_ext hok hst hy)
  | nchk x => exact .same hst (op_nchk hok hst hy)
  | alloc z => exact op_alloc hok hst hy
  | box x => exact op_box hok hst hy
  | build zero parts => exact .same hst (op_build hok hst hy)
  | fn f cs => exact .same hst (op_fn hok hst hy)
  | slc sz x lo hi => exact .same hst (op_slc hok hst hy)
  | mini x y => exact .same hst (op_mini hok hst hy)
  | bsl e sz xs => exact op_bsl hok hst hy
  | mks e sz bytes z n => exact op_mks hok hst hy
  | eqa neg x y => cases hy
  | ixa num sz ag x i => exact .same hst (op_ixa hok hst hy)
  | pick t wt x => exact .same hst (op_pick hok hst hy)
  | mkm => exact op_mkm hok hst hy
  | look x i => exact .same hst (op_look hok hst hb hy)
end
end Go.Sv
