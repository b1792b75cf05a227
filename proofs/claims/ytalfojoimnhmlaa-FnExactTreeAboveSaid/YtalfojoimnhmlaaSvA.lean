/- A store is what the walk says. No condition. -/
import Derived.Test.YtalfojoimnhmlaaSv9
import Derived.Laws.CopyRow
namespace Go.Sv
open Go.RowKit
set_option linter.unusedVariables false
section
variable {P : Program} {n : Nat} {W : Base} {M : Nat → Prop} {g : Nat → SV} {a : Act} {w : World}
theorem OwnL.split {us : List Value} {A B : List SV} {bs : List Nat} (h : OwnL M w us (A ++ B) bs) : ∃ u1 u2 b1 b2, us = u1 ++ u2 ∧ bs = b1 ++ b2 ∧ OwnL M w u1 A b1 ∧ OwnL M w u2 B b2 := by
  induction A generalizing us bs with
  | nil => exact ⟨[], us, [], bs, rfl, rfl, .nil, h⟩
  | cons c A ih =>
    rw [List.cons_append] at h
    cases h with
    | cons h hs =>
      obtain ⟨u1, u2, b1, b2, rfl, rfl, k1, k2⟩ := ih hs
      exact ⟨_ :: u1, u2, _ ++ b1, b2, rfl, by rw [List.append_assoc], .cons h k1, k2⟩
theorem OwnL.app {u1 u2 : List Value} {A B : List SV} {b1 b2 : List Nat} (h : OwnL M w u1 A b1) (k : OwnL M w u2 B b2) : OwnL M w (u1 ++ u2) (A ++ B) (b1 ++ b2) := by
  induction A generalizing u1 b1 with
  | nil => cases h; exact k
  | cons c A ih =>
    cases h with
    | cons h hs => rw [List.append_assoc]; exact .cons h (ih hs)
theorem setS_split (cs vs : List SV) (o : Nat) (h : o + vs.length ≤ cs.length) : setS cs o vs = cs.take o ++ vs ++ cs.drop (o + vs.length) := by
  have hl : (cs.take o).length = o := by rw [List.length_take]; omega
  have := setS_eq vs (cs.take o) (cs.drop o) (by rw [List.length_drop]; omega)
  rw [List.take_append_drop, hl, List.drop_drop] at this
  exact this
/-- Cells of a row are written. -/
theorem run_st {t c o : Nat} {e : TypeId} {cur : Array Value} {v : Value} (hc : w.heap[c]? = some (.cells cur e (0, 0))) (hn : tyN P t v.cells.size = true) (hl : o + v.cells.size ≤ cur.size) (h1 : ∀ u ∈ v.cells.toList, u.oneCell' = true) :
    (Instr.storeAt t (.pointer (some ⟨c, o, none⟩)) v).run P w = .ok () (w.setRow c (cur.toList.take o ++ v.cells.toList ++ cur.toList.drop (o + v.cells.size)).toArray) := by
  obtain ⟨i, hi, hs⟩ := tyN_info hn
  have := run_storeCells_at P c o e v.cells.toList 0 cur w hc (by simpa using hl) h1
  simp only [Nat.add_zero, Array.length_toList] at this
  simp [Instr.storeAt, Instr.sureAddr, storeVar, sizeOf, typeInfo, hi, hs, this]
theorem setRow_tr {c : Nat} {e : TypeId} {cur new : Array Value} (hc : w.heap[c]? = some (.cells cur e (0, 0))) : (w.setRow c new).heap[c]? = some (.cells new e (0, 0)) ∧ Tr w (w.setRow c new) c :=
  ⟨setRow_heap w c cur new e (0, 0) hc, rfl, rfl, rfl, by simp, fun k _ hk => setRow_other w c k new hk⟩
theorem mem_setS : ∀ (vs cs : List SV) (o : Nat) (c : SV), c ∈ setS cs o vs → c ∈ cs ∨ c ∈ vs
  | [], _, _, _, h => .inl h
  | v :: vs, cs, o, c, h => by
    rcases mem_setS vs _ _ c h with h | h
    · rcases List.mem_or_eq_of_mem_set h with h | rfl
      · exact .inl h
      · exact .inr List.mem_cons_self
    · exact .inr (List.mem_cons_of_mem _ h)
theorem RepR.of_rows {M : Nat → Prop} {w : World} {c sz : Nat} : ∀ (xs : List SV) (off : Nat), (∀ i x, xs[i]? = some x → ∃ us : List Value, us.length = sz ∧ CellsAt w c (off + i * sz) us ∧ RepL M w us x.cells) → RepR M w c off sz xs
  | [], _, _ => .rnil _ _ _
  | x :: xs, off, h => by
    obtain ⟨us, h1, h2, h3⟩ := h 0 x rfl
    refine .rcons h1 (by simpa using h2) h3 (RepR.of_rows xs (off + sz) fun i y hy => ?_)
    obtain ⟨us, h1, h2, h3⟩ := h (i + 1) y (by simpa using hy)
    refine ⟨us, h1, ?_, h3⟩
    have e : off + (i + 1) * sz = off + sz + i * sz := by rw [Nat.add_mul]; omega
    rwa [e] at h2
theorem recell_cells {y : SV} {cs : List SV} (h : y.cells.length = cs.length) (hc : y.isAgg = false → ∀ c ∈ cs, c.isAgg = false) : (y.recell cs).cells = cs := by
  cases y <;> first
    | rfl
    | (match cs, h with
       | [c], _ =>
         have := hc rfl c (by simp)
         simp only [SV.recell, List.headD]
         cases c <;> first | rfl | (simp [SV.isAgg] at this))
theorem one_agg {c : SV} (h : c.one = true) : c.isAgg = false := by cases c <;> first | rfl | (simp [SV.one] at h)
theorem eff_st {o : Oper} {d : Option Nat} {k : Nat} {x v : SX} {g' : Nat → SV} (hok : okE P n o.op d (.st k x v) = true) (hst : St W M g (tmf a) w) (he : eff g d (.st k x v) = some g') :
    ∃ w', (execOp a.eval o).run P w = .ok .skip w' ∧ St W M g' (tmf a) w' := by
  obtain ⟨dst, opp, ty, pos, af, gd⟩ := o
  simp only [okE] at hok
  split at hok
  case h_2 => cases hok
  rename_i t y u
  simp only [Bool.and_eq_true] at hok
  obtain ⟨⟨⟨hn, hx⟩, hv⟩, _⟩ := hok
  have kx := cp_sound hst hx
  have kv := cp_sound hst hv
  simp only [eff] at he
  split at he
  case isFalse => cases he
  rename_i hc
  obtain ⟨hlen, hone, hsol⟩ := hc
  have rv := kv.imm (solid_imm hsol).1
  have rvc := rv.cells (solid_imm hsol).2
  have hvl : (a.eval u).cells.size = k := by rw [← hlen, ← rvc.len]; simp
  have h1 := one_cells rvc hone
  generalize hvs : cp g v = s at *
  generalize hue : a.eval u = uv at *
  subst hvl
  obtain ⟨bs, q1, q2, q3, q4⟩ := hst.own
  split at he
  · rename_i t' o' ex
    rw [ex] at kx
    obtain ⟨_, c, y0, k1, k2, ve⟩ := kx
    rw [k1] at he
    simp only at he
    split at he
    case isFalse => cases he
    rename_i hcond
    obtain ⟨hfit, himm⟩ := hcond
    cases he
    have q0 := q1 t'
    rw [k1] at q0
    have q0 : OwnV M w (tmf a t') (.box y0) (bs t') := q0
    have hcb : c ∈ bs t' := by obtain ⟨c', e1, e2⟩ := own_ptr q0; rw [k2] at e1; cases e1; exact e2
    have hnd := q3 t'
    obtain ⟨e0, cur, bs0, hb0, hl0, hbs0⟩ : ∃ e0 cur bs0, w.heap[c]? = some (.cells cur e0 (0, 0)) ∧ OwnL M w cur.toList y0.cells bs0 ∧ bs t' = c :: bs0 := by
      generalize bs t' = bt at q0
      rw [k2] at q0
      cases q0 with
      | imm _ _ h => cases h
      | box b0 e0 x0 cur bs0 hb0 hl0 => exact ⟨e0, cur, bs0, hb0, hl0, rfl⟩
    have hcl := OwnL.len hl0
    have hfit' : o' + uv.cells.size ≤ cur.size := by rw [← hcl] at hfit; simpa using hfit
    have hrun := run_st (P := P) (t := t) (o := o') (v := uv) hb0 hn hfit' h1
    obtain ⟨hnew, htr⟩ := setRow_tr (new := (cur.toList.take o' ++ uv.cells.toList ++ cur.toList.drop (o' + uv.cells.size)).toArray) hb0
    refine ⟨_, by simp only [execOp, ve, hue, Sem.run_bind, hrun, Result.andThen_ok, Sem.run_pure]; rfl, ?_⟩
    rw [hbs0] at hnd
    have hcn : c ∉ bs0 := (List.nodup_cons.1 hnd).1
    -- the cells, in three parts
    have hsplit : y0.cells = y0.cells.take o' ++ ((y0.cells.drop o').take uv.cells.size ++ y0.cells.drop (o' + uv.cells.size)) := by
      rw [← List.drop_drop, List.take_append_drop, List.take_append_drop]
    rw [hsplit] at hl0
    obtain ⟨u1, u23, b1, b23, eu, eb, p1, p23⟩ := OwnL.split hl0
    obtain ⟨u2, u3, b2, b3, eu2, eb2, p2, p3⟩ := OwnL.split p23
    obtain ⟨_, hb2⟩ := OwnL.rep p2 himm
    subst hb2
    have l1 : u1.length = o' := by rw [OwnL.len p1, List.length_take]; omega
    have l2 : u2.length = uv.cells.size := by rw [OwnL.len p2, List.length_take, List.length_drop]; omega
    have t1 : cur.toList.take o' = u1 := by rw [eu]; exact List.take_left' l1
    have t3 : cur.toList.drop (o' + uv.cells.size) = u3 := by rw [eu, eu2, ← List.append_assoc]; exact List.drop_left' (by rw [List.length_append, l1, l2])
    have hsl : s.cells.length = uv.cells.size := by rw [← rvc.len]; simp
    have hset : setS y0.cells o' s.cells = y0.cells.take o' ++ s.cells ++ y0.cells.drop (o' + uv.cells.size) := by
      rw [setS_split _ _ _ (by omega), hsl]
    have hsetl : (setS y0.cells o' s.cells).length = y0.cells.length := setS_length _ _ _
    have hrc : (y0.recell (setS y0.cells o' s.cells)).cells = setS y0.cells o' s.cells := by
      refine recell_cells hsetl.symm fun hna c hc => ?_
      rcases mem_setS _ _ _ _ hc with hc | hc
      · have e1 : y0.cells = [y0] := by cases y0 <;> first | rfl | (simp [SV.isAgg] at hna)
        rw [e1, List.mem_singleton] at hc
        rw [hc]; exact hna
      · exact one_agg (List.all_eq_true.1 hone c hc)
    have hbb : ∀ b ∈ bs0, b < w.heap.size ∧ b ≠ c := fun b hb => ⟨(q4 t' b (by rw [hbs0]; exact List.mem_cons_of_mem _ hb)).2.1, fun e => hcn (e ▸ hb)⟩
    have hcM := (q4 t' c hcb).2.2
    have hown : OwnV M (w.setRow c (cur.toList.take o' ++ uv.cells.toList ++ cur.toList.drop (o' + uv.cells.size)).toArray) (tmf a t') (.box (y0.recell (setS y0.cells o' s.cells))) (bs t') := by
      rw [k2, hbs0]
      refine Ow.box c e0 _ _ _ hnew ?_
      rw [hrc, hset, t1, t3, eb, eb2, List.nil_append]
      have r1 := Ow.tr htr hst.lt hcM p1 fun b hb => hbb b (by rw [eb]; exact List.mem_append_left _ hb)
      have r3 := Ow.tr htr hst.lt hcM p3 fun b hb => hbb b (by rw [eb, eb2]; exact List.mem_append_right _ (by simpa using hb))
      have r2 := OwnL.of_rep (RepL.mono (fun _ h => h) (fun b hb => htr.block b (hst.lt b hb) fun e => hcM (e ▸ hb)) rvc)
      have := OwnL.app (OwnL.app r1 r2) r3
      rw [List.append_nil] at this
      rw [t1, t3] at this
      exact this
    have keep : ∀ {oo : Nat} {z : SV}, y0.cells[oo]? = some z → z.imm 2 = false → (setS y0.cells o' s.cells)[oo]? = some z ∧ (cur.toList.take o' ++ uv.cells.toList ++ cur.toList.drop (o' + uv.cells.size))[oo]? = cur.toList[oo]? := fun {oo z} hz hni => by
      rw [hset]
      by_cases c1 : oo < o'
      · constructor
        · rw [List.append_assoc, List.getElem?_append_left (by rw [List.length_take]; omega), List.getElem?_take, if_pos c1]; exact hz
        · rw [List.append_assoc, List.getElem?_append_left (by rw [t1, l1]; exact c1), List.getElem?_take, if_pos c1]
      · by_cases c2 : oo < o' + uv.cells.size
        · exfalso
          have : ((y0.cells.drop o').take uv.cells.size)[oo - o']? = some z := by
            rw [List.getElem?_take, if_pos (by omega), List.getElem?_drop, show o' + (oo - o') = oo by omega]; exact hz
          have := List.all_eq_true.1 himm z (List.mem_of_getElem? this)
          rw [hni] at this; cases this
        · constructor
          · rw [List.getElem?_append_right (by rw [List.length_append, List.length_take]; omega), List.length_append, List.length_take, List.getElem?_drop, show o' + uv.cells.size + (oo - (min o' y0.cells.length + s.cells.length)) = oo by omega]; exact hz
          · rw [List.getElem?_append_right (by rw [List.length_append, t1, l1]; simp; omega), List.length_append, t1, l1, List.getElem?_drop, show o' + uv.cells.size + (oo - (o' + uv.cells.toList.length)) = oo by simp; omega]
    have lean : ∀ {oo : Option Nat} {e : Nat} {sz : Nat} {xs : List SV} {ad : Option Addr} {m cap : Nat}, (g t').at oo = .own e sz xs → valAt w (tmf a t') oo = .slice ad m cap →
        (upd g t' (.box (y0.recell (setS y0.cells o' s.cells))) t').at oo = .own e sz xs ∧ valAt (w.setRow c (cur.toList.take o' ++ uv.cells.toList ++ cur.toList.drop (o' + uv.cells.size)).toArray) (tmf a t') oo = .slice ad m cap := fun {oo e sz xs ad m cap} ha hv => by
      rw [k1] at ha
      rw [upd_same]
      cases oo with
      | none => simp [SV.at] at ha
      | some oo =>
        simp only [SV.at] at ha ⊢
        rw [hrc]
        rw [List.getD_eq_getElem?_getD] at ha ⊢
        cases hz : y0.cells[oo]? with
        | none => rw [hz] at ha; simp at ha
        | some z =>
          rw [hz] at ha
          simp at ha
          obtain ⟨h1, h2⟩ := keep hz (by rw [ha]; rfl)
          refine ⟨by rw [h1, ha]; rfl, ?_⟩
          rw [k2] at hv ⊢
          simp only [valAt, World.cell?, hb0] at hv
          simp only [valAt, World.cell?, hnew]
          have e3 : ((cur.toList.take o' ++ uv.cells.toList ++ cur.toList.drop (o' + uv.cells.size)).toArray)[oo]? = cur[oo]? := by
            have := h2; simpa using this
          rw [e3]
          exact hv
    refine hst.write (t := t') (c := c) (x := .box (y0.recell (setS y0.cells o' s.cells))) htr bs q1 q2 q3 q4 hcb (.of_own hown) (fun u => rfl) rfl (fun _ _ _ _ _ => ⟨_, rfl⟩) ?_ ?_ ?_
    · rintro u v oo i q hgu rfl
      have h := q1 u
      rw [hgu] at h ⊢
      obtain ⟨_, b, m, cap, e, sz, xs, j1, j2, j3⟩ := h
      obtain ⟨r1, r2⟩ := lean j1 j2
      exact ⟨rfl, b, m, cap, e, sz, xs, r1, r2, j3⟩
    · rintro u v oo hgu rfl
      have h := q1 u
      rw [hgu] at h ⊢
      obtain ⟨_, e, sz, xs, ad, m, cap, j1, j2, j3⟩ := h
      obtain ⟨r1, r2⟩ := lean j1 j2
      exact ⟨rfl, e, sz, xs, ad, m, cap, r1, r2, j3⟩
    · rintro u v hgu rfl
      have h := q1 u
      rw [hgu] at h
      obtain ⟨_, l, j1, _⟩ := h
      rw [k1] at j1
      cases j1
  · rename_i t' i' c' ex
    rw [ex] at kx
    obtain ⟨_, c, m, cap, e, sz, xs, k1, k2, k3, ve⟩ := kx
    simp only [SV.at] at k1
    simp only [valAt] at k2
    rw [k1] at he
    simp only at he
    split at he
    case h_2 => cases he
    rename_i z0 hz0
    split at he
    case isFalse => cases he
    rename_i hfit
    cases he
    have q0 := q1 t'
    rw [k1, k2] at q0
    have q0 : OwnV M w (.slice (some ⟨c, 0, none⟩) m cap) (.own e sz xs) (bs t') := q0
    have hq4 := q4 t'
    obtain ⟨cur, hb0, hcs, hle, hmx, hr, hbt, hm⟩ : ∃ cur, w.heap[c]? = some (.cells cur e (0, 0)) ∧ cur.size = cap * sz ∧ xs.length ≤ cap ∧ cap ≤ maxLen ∧ RepR M w c 0 sz xs ∧ bs t' = [c] ∧ m = xs.length := by
      generalize bs t' = bt at q0
      cases q0 with
      | imm _ _ h => cases h
      | own b' cap e sz xs cur hb hs hl hx h => exact ⟨cur, hb, hs, hl, hx, h, rfl, rfl⟩
    subst hm
    have hcb : c ∈ bs t' := by rw [hbt]; exact List.mem_cons_self
    have hcM := (hq4 c hcb).2.2
    obtain ⟨us, hul, hcell, hrep⟩ := RepR.row hr hz0
    rw [Nat.zero_add] at hcell
    have hzl : z0.cells.length = sz := by rw [← hrep.len]; exact hul
    have hrowfit : i' * sz + sz ≤ cur.size := by
      rw [hcs]
      have h1 : (i' + 1) * sz ≤ cap * sz := Nat.mul_le_mul_right _ (by omega)
      rw [Nat.add_mul, Nat.one_mul] at h1
      exact h1
    have hfit' : i' * sz + c' + uv.cells.size ≤ cur.size := by omega
    have hrun := run_st (P := P) (t := t) (o := i' * sz + c') (v := uv) hb0 hn hfit' h1
    obtain ⟨hnew, htr⟩ := setRow_tr (new := (cur.toList.take (i' * sz + c') ++ uv.cells.toList ++ cur.toList.drop (i' * sz + c' + uv.cells.size)).toArray) hb0
    refine ⟨_, by simp only [execOp, ve, hue, Sem.run_bind, hrun, Result.andThen_ok, Sem.run_pure]; rfl, ?_⟩
    generalize hnc : (cur.toList.take (i' * sz + c') ++ uv.cells.toList ++ cur.toList.drop (i' * sz + c' + uv.cells.size)) = nc at hnew htr hrun
    have hl1 : (cur.toList.take (i' * sz + c')).length = i' * sz + c' := by rw [List.length_take]; simp; omega
    have hncl : nc.length = cur.size := by rw [← hnc]; simp; omega
    -- cells outside
    have hout : ∀ j, j < i' * sz + c' ∨ i' * sz + c' + uv.cells.size ≤ j → nc[j]? = cur.toList[j]? := fun j hj => by
      rw [← hnc]
      rcases hj with hj | hj
      · rw [List.append_assoc, List.getElem?_append_left (by omega), List.getElem?_take, if_pos hj]
      · rw [List.getElem?_append_right (by rw [List.length_append, hl1]; simp; omega), List.length_append, hl1, List.getElem?_drop, show i' * sz + c' + uv.cells.size + (j - (i' * sz + c' + uv.cells.toList.length)) = j by simp; omega]
    have hin : ∀ j, j < uv.cells.size → nc[i' * sz + c' + j]? = uv.cells.toList[j]? := fun j hj => by
      rw [← hnc, List.append_assoc, List.getElem?_append_right (by omega), hl1, show i' * sz + c' + j - (i' * sz + c') = j by omega, List.getElem?_append_left (by simpa using hj)]
    have hcellw : ∀ j u, nc[j]? = some u → (w.setRow c nc.toArray).cell? ⟨c, j, none⟩ = some u := fun j u hj => by
      simp only [World.cell?, hnew]
      simpa using hj
    have hsl : s.cells.length = uv.cells.size := by rw [← rvc.len]; simp
    have hsetl : (setS z0.cells c' s.cells).length = z0.cells.length := setS_length _ _ _
    have hrc : (z0.recell (setS z0.cells c' s.cells)).cells = setS z0.cells c' s.cells := by
      refine recell_cells hsetl.symm fun hna q hq => ?_
      rcases mem_setS _ _ _ _ hq with hq | hq
      · have e1 : z0.cells = [z0] := by cases z0 <;> first | rfl | (simp [SV.isAgg] at hna)
        rw [e1, List.mem_singleton] at hq
        rw [hq]; exact hna
      · exact one_agg (List.all_eq_true.1 hone q hq)
    have hsm : Same M w (w.setRow c nc.toArray) := fun b hb => htr.block b (hst.lt b hb) fun e => hcM (e ▸ hb)
    have hrows : RepR M (w.setRow c nc.toArray) c 0 sz (xs.set i' (z0.recell (setS z0.cells c' s.cells))) := by
      refine RepR.of_rows _ _ fun k x hk => ?_
      rw [Nat.zero_add]
      by_cases hki : k = i'
      · subst hki
        have hx0 : x = z0.recell (setS z0.cells c' s.cells) := by
          rw [List.getElem?_set_self (by omega)] at hk
          exact (Option.some.inj hk).symm
        subst hx0
        refine ⟨us.take c' ++ uv.cells.toList ++ us.drop (c' + uv.cells.size), ?_, fun j u hj => ?_, ?_⟩
        · simp; omega
        · refine hcellw _ _ ?_
          have hlt : (us.take c').length = c' := by rw [List.length_take]; omega
          by_cases c1 : j < c'
          · rw [List.append_assoc, List.getElem?_append_left (by omega), List.getElem?_take, if_pos c1] at hj
            rw [hout _ (.inl (by omega))]
            have := hcell j u hj
            simp only [World.cell?, hb0] at this
            simpa using this
          · by_cases c2 : j < c' + uv.cells.size
            · rw [List.append_assoc, List.getElem?_append_right (by omega), hlt, List.getElem?_append_left (by simp; omega)] at hj
              rw [show k * sz + j = k * sz + c' + (j - c') by omega, hin _ (by omega)]
              exact hj
            · rw [List.getElem?_append_right (by rw [List.length_append, hlt]; simp; omega), List.length_append, hlt, List.getElem?_drop, show c' + uv.cells.size + (j - (c' + uv.cells.toList.length)) = j by simp; omega] at hj
              rw [hout _ (.inr (by omega))]
              have := hcell j u hj
              simp only [World.cell?, hb0] at this
              simpa using this
        · rw [hrc, setS_split _ _ _ (by omega), hsl]
          have hr' := RepL.mono (fun _ h => h) hsm hrep
          exact ((hr'.take c').append (RepL.mono (fun _ h => h) hsm rvc)).append (hr'.drop (c' + uv.cells.size))
      · rw [List.getElem?_set_ne (Ne.symm hki)] at hk
        obtain ⟨vs, hvl, hvc, hvr⟩ := RepR.row hr hk
        rw [Nat.zero_add] at hvc
        refine ⟨vs, hvl, fun j u hj => hcellw _ _ ?_, RepL.mono (fun _ h => h) hsm hvr⟩
        have hjl : j < sz := by have := (List.getElem?_eq_some_iff.1 hj).1; omega
        have := hvc j u hj
        simp only [World.cell?, hb0] at this
        rw [hout]
        · simpa using this
        · rcases Nat.lt_or_gt_of_ne hki with h | h
          · left
            have h1 : (k + 1) * sz ≤ i' * sz := Nat.mul_le_mul_right _ (by omega)
            rw [Nat.add_mul, Nat.one_mul] at h1
            omega
          · right
            have h1 : (i' + 1) * sz ≤ k * sz := Nat.mul_le_mul_right _ (by omega)
            rw [Nat.add_mul, Nat.one_mul] at h1
            omega
    have hown : OwnV M (w.setRow c nc.toArray) (tmf a t') (.own e sz (xs.set i' (z0.recell (setS z0.cells c' s.cells)))) (bs t') := by
      rw [k2, hbt]
      have := Ow.own (M := M) (w := w.setRow c nc.toArray) c cap e sz (xs.set i' (z0.recell (setS z0.cells c' s.cells))) nc.toArray hnew (by simp [hncl, hcs]) (by simpa using hle) hmx hrows
      simpa using this
    refine hst.write (t := t') (c := c) (x := .own e sz (xs.set i' (z0.recell (setS z0.cells c' s.cells)))) htr bs q1 q2 q3 q4 hcb (.of_own hown) (fun u => rfl) rfl ?_ ?_ ?_ ?_
    · rintro u v o hgu rfl
      have h := q1 u
      rw [hgu] at h
      obtain ⟨_, b, y, j1, _⟩ := h
      rw [k1] at j1
      cases j1
    · rintro u v oo j q hgu rfl
      have h := q1 u
      rw [hgu] at h ⊢
      obtain ⟨_, b, m, cap', e', sz', xs', j1, j2, j3, j4⟩ := h
      rw [k1] at j1
      cases oo with
      | some oo => simp [SV.at] at j1
      | none =>
        simp only [SV.at] at j1
        cases j1
        exact ⟨rfl, b, m, cap', e, sz, _, by rw [upd_same]; rfl, j2, by simpa using j3, j4⟩
    · rintro u v oo hgu rfl
      have h := q1 u
      rw [hgu] at h ⊢
      obtain ⟨_, e', sz', xs', ad, m, cap', j1, j2, j3⟩ := h
      rw [k1] at j1
      cases oo with
      | some oo => simp [SV.at] at j1
      | none =>
        simp only [SV.at] at j1
        cases j1
        exact ⟨rfl, e, sz, _, ad, m, cap', by rw [upd_same]; rfl, j2, j3⟩
    · rintro u v hgu rfl
      have h := q1 u
      rw [hgu] at h
      obtain ⟨_, l, j1, _⟩ := h
      rw [k1] at j1
      cases j1
  · cases he
theorem eff_mput {o : Oper} {d : Option Nat} {x k : SX} {g' : Nat → SV} (hok : okE P n o.op d (.mput x k) = true) (hst : St W M g (tmf a) w) (he : eff g d (.mput x k) = some g') :
    ∃ w', (execOp a.eval o).run P w = .ok .skip w' ∧ St W M g' (tmf a) w' := by
  obtain ⟨dst, opp, ty, pos, af, gd⟩ := o
  simp only [okE] at hok
  split at hok
  case h_2 => cases hok
  rename_i t m i u
  simp only [Bool.and_eq_true] at hok
  obtain ⟨⟨⟨⟨_, hm⟩, hi⟩, hu⟩, ht⟩ := hok
  split at hu
  case h_2 => cases hu
  split at ht
  case h_2 => cases ht
  rename_i kt e hut
  split at ht
  case h_2 => cases ht
  rename_i huk
  have km := cp_sound hst hm
  have ki := cp_sound hst hi
  simp only [eff] at he
  split at he
  case h_2 => cases he
  rename_i t0 n0 em ei
  rw [em] at km
  rw [ei] at ki
  split at he
  case h_2 => cases he
  rename_i l hgt
  split at he
  · cases he
  rename_i hnl
  cases he
  have vi := ki.i
  obtain ⟨_, l', k1, vm⟩ := km
  obtain ⟨bs, q1, q2, q3, q4⟩ := hst.own
  have q0 := q1 t0
  rw [hgt] at q0
  obtain ⟨b, eb, hv, hs⟩ := q0
  obtain ⟨oo, hrun, hs', hoth, hsz⟩ := Seen.put (P := P) hs hut huk n0 hnl
  have hcb : b ∈ bs t0 := by rw [eb]; exact List.mem_cons_self
  have ve : a.eval m = .map (some b) := by rw [vm]; exact hv
  have vu : a.eval (.const (.bool true)) = .bool true := rfl
  refine ⟨_, by simp only [execOp, ve, vi, vu, Sem.run_bind, hrun, Result.andThen_ok, Sem.run_pure]; rfl, ?_⟩
  refine hst.write (t := t0) (c := b) (x := .imap (l ++ [n0])) ⟨rfl, rfl, rfl, by omega, fun k _ hk => hoth k hk⟩ bs q1 q2 q3 q4 hcb ⟨b, eb, hv, hs'⟩ (fun u => rfl) rfl ?_ ?_ ?_ ?_
  · rintro u v oo hgu rfl
    have h := q1 u
    rw [hgu] at h
    obtain ⟨_, b, y, j1, _⟩ := h
    rw [hgt] at j1
    cases j1
  · rintro u v oo j q hgu rfl
    have h := q1 u
    rw [hgu] at h
    obtain ⟨_, b, m, cap', e', sz', xs', j1, _⟩ := h
    rw [hgt] at j1
    cases oo <;> simp [SV.at] at j1
  · rintro u v oo hgu rfl
    have h := q1 u
    rw [hgu] at h
    obtain ⟨_, e', sz', xs', ad, m, cap', j1, _⟩ := h
    rw [hgt] at j1
    cases oo <;> simp [SV.at] at j1
  · rintro u v hgu rfl
    have h := q1 u
    rw [hgu] at h ⊢
    obtain ⟨_, l2, j1, j2⟩ := h
    exact ⟨rfl, _, by rw [upd_same], j2⟩
end
end Go.Sv
