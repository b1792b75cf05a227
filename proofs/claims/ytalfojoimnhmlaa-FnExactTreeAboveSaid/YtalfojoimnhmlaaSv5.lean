/- A variable is read. No condition. -/
import Derived.Test.YtalfojoimnhmlaaSv4
namespace Go.Sv
open Go.RowKit
set_option linter.unusedVariables false
section
variable {P : Program} {W : Base} {M : Nat → Prop} {g b : Nat → SV} {a : Act} {w : World}
theorem getD0 {us : List Value} {u : Value} (h : us[0]? = some u) : us.getD 0 undef = u := by simp [List.getD, h]
theorem b_box {b : Nat → SV} (hb : ∀ t, b t = .dead ∨ b t = g t) {t : Nat} {y : SV} (h : b t = .box y) : g t = .box y := by
  rcases hb t with h4 | h4
  · rw [h4] at h; cases h
  · rw [← h4]; exact h
theorem op_ld {o : Oper} {n : Nat} {ag : Bool} {x : SX} {z : SV} (hok : okOp P o.op o.type (.ld n ag x) = true) (hst : St W M g (tmf a) w) (hb : ∀ t, b t = .dead ∨ b t = g t) (hy : pv g b (.ld n ag x) = some z) :
    ∃ v, (execOp a.eval o).run P w = .ok (.value v) w ∧ OwnX g (tmf a) M w v z [] := by
  obtain ⟨dst, opp, ty, pos, af, gd⟩ := o
  simp only [okOp] at hok
  split at hok
  case h_2 => cases hok
  rename_i t y
  simp only [Bool.and_eq_true, Bool.or_eq_true, beq_iff_eq] at hok
  obtain ⟨⟨⟨hn, hag⟩, hx⟩, h1⟩ := hok
  have h1' : ag = false → n = 1 := fun e => by rw [e] at h1; simpa using h1
  have kx := cp_sound hst hx
  simp only [pv] at hy
  generalize cp g x = sx at kx hy
  unfold rd at hy
  split at hy
  · rename_i y0
    obtain ⟨c, p, us, ve, hm, hc, hr⟩ := kx.r
    have fin : us.length = n → (ag = true → ∃ cs, z = .agg cs ∧ y0 = z) → (ag = false → y0 = z ∧ y0.cells = [y0]) → ∃ v, (execOp a.eval { dst := dst, op := .load t y, type := ty, pos := pos, after := af, guard := gd }).run P w = .ok (.value v) w ∧ OwnX g (tmf a) M w v z [] := fun hl k1 k2 => by
      refine ⟨_, by simp only [execOp, ve, Sem.run_bind, run_ld hn hag hc hl h1', Result.andThen_ok]; rfl, ?_⟩
      cases ag with
      | true => obtain ⟨cs, rfl, rfl⟩ := k1 rfl; exact Ow.imm _ _ (.agg _ _ hr)
      | false =>
        obtain ⟨rfl, e⟩ := k2 rfl
        rw [e] at hr
        cases hr with
        | lcons h hs => cases hs; exact .of_own (Ow.imm _ _ h)
    cases ag with
    | true =>
      cases y0 <;> simp only [reduceCtorEq] at hy
      split at hy
      case isFalse => cases hy
      rename_i hl
      cases hy
      exact fin (by rw [hr.len]; exact hl) (fun _ => ⟨_, rfl, rfl⟩) (by simp)
    | false =>
      have e : y0 = z ∧ y0.cells = [y0] := by cases y0 <;> simp only [reduceCtorEq, Option.some.injEq] at hy <;> exact ⟨hy, rfl⟩
      exact fin (by rw [hr.len, e.2, h1' rfl]; rfl) (by simp) (fun _ => e)
  · rename_i t' o'
    split at hy
    case h_2 => cases hy
    rename_i y0 hbt
    have hgt := b_box hb hbt
    obtain ⟨_, c, y1, k1, k2, ve⟩ := kx
    rw [hgt] at k1
    cases k1
    obtain ⟨bs, q1, q2, q3, q4⟩ := hst.own
    have q0 := q1 t'
    rw [hgt] at q0
    have q0 : OwnV M w (tmf a t') (.box y0) (bs t') := q0
    generalize bs t' = bt at q0
    have hbox : ∃ e0 cur bs0, w.heap[c]? = some (.cells cur e0 (0, 0)) ∧ OwnL M w cur.toList y0.cells bs0 := by
      rw [k2] at q0
      cases q0 with
      | imm _ _ h => cases h
      | box b0 e0 x0 cur bs0 hb0 hl0 => exact ⟨e0, cur, bs0, hb0, hl0⟩
    obtain ⟨e0, cur, bs0, hb0, hl0⟩ := hbox
    have hall : CellsAt w c 0 cur.toList := fun j u hu => by
      simp only [World.cell?, hb0, Nat.zero_add]
      simpa using hu
    split at hy
    · split at hy
      case isFalse => cases hy
      rename_i hc
      obtain ⟨hlen, himm⟩ := hc
      cases hy
      obtain ⟨bs1, hd1⟩ := OwnL.drop hl0 o'
      obtain ⟨bs2, hd2⟩ := OwnL.take hd1 n
      obtain ⟨hr, _⟩ := OwnL.rep hd2 himm
      have hcell := hall.part o' n
      rw [Nat.zero_add] at hcell
      have hl : ((cur.toList.drop o').take n).length = n := by rw [List.length_take, List.length_drop, OwnL.len hl0]; omega
      refine ⟨_, by simp only [execOp, ve, Sem.run_bind, run_ld hn hag hcell hl h1', Result.andThen_ok]; rfl, ?_⟩
      exact Ow.imm _ _ (.agg _ _ hr)
    · obtain rfl := h1' rfl
      have hbase : ∀ {cc : SV}, y0.cells[o']? = some cc → ∃ u bs', cur.toList[o']? = some u ∧ OwnV M w u cc bs' ∧ (execOp a.eval { dst := dst, op := .load t y, type := ty, pos := pos, after := af, guard := gd }).run P w = .ok (.value u) w := fun {cc} hcc => by
        obtain ⟨u, bs', hu, ho, _⟩ := OwnL.get hl0 hcc
        have hcell := hall.part o' 1
        rw [Nat.zero_add] at hcell
        have hlt := (List.getElem?_eq_some_iff.1 hu).1
        have hl : ((cur.toList.drop o').take 1).length = 1 := by rw [List.length_take, List.length_drop]; omega
        refine ⟨u, bs', hu, ho, ?_⟩
        have this : ((cur.toList.drop o').take 1)[0]? = some u := by
          rw [List.getElem?_take, if_pos (by omega), List.getElem?_drop]; simpa using hu
        have hrun := run_ld hn hag hcell hl h1'
        simp only [Bool.false_eq_true, if_false, getD0 this] at hrun
        simp only [execOp, ve, Sem.run_bind, hrun, Result.andThen_ok]
        rfl
      split at hy
      · rename_i e sz xs hcc
        cases hy
        obtain ⟨u, bs', hu, ho, hrun⟩ := hbase hcc
        obtain ⟨a1, cap1, rfl, _⟩ := ho.sl
        refine ⟨_, hrun, rfl, e, sz, xs, a1, xs.length, cap1, ?_, ?_, rfl⟩
        · rw [hgt]; simp [SV.at, hcc]
        · rw [k2]; simp only [valAt]; rw [World.cell?]; simp only [hb0]; simp at hu; simp [hu]
      · rename_i cc hno hcc
        split at hy
        case isFalse => cases hy
        rename_i himm
        cases hy
        obtain ⟨u, bs', hu, ho, hrun⟩ := hbase hcc
        obtain ⟨hr, _⟩ := OwnV.rep ho himm
        exact ⟨u, hrun, .of_own (Ow.imm _ _ hr)⟩
      · cases hy
  · rename_i t' o' i' c'
    split at hy
    case h_2 => cases hy
    rename_i e' sz' xs hbo
    have h5 := b_eq hb hbo
    split at hy
    case h_2 => cases hy
    rename_i y0 hy0
    obtain ⟨_, c, n0, cap, e2, sz2, xs2, k1, k2, k3, ve⟩ := kx
    rw [h5] at k1
    cases k1
    obtain ⟨bs, bt, ho, _⟩ := hst.base h5
    obtain ⟨a1, cap1, hs, hnone, hsome⟩ := ho.sl
    rw [k2] at hs
    cases hs
    obtain ⟨c2, cur, ec, hcur, hcs, hle, hmx, hr, rfl⟩ := hsome _ rfl
    cases ec
    obtain ⟨us, hl, hcell, hrep⟩ := RepR.row hr hy0
    have hp := part_rep hrep hy h1'
    have hcell2 := hcell.part c' n
    rw [Nat.zero_add] at hcell2
    cases ag with
    | true =>
      obtain ⟨zs, rfl, hzl, hul⟩ := hp.2.1 rfl
      refine ⟨_, by simp only [execOp, ve, Sem.run_bind, run_ld hn hag hcell2 hul h1', Result.andThen_ok]; rfl, ?_⟩
      exact Ow.imm _ _ (.agg _ _ hp.1)
    | false =>
      obtain rfl := h1' rfl
      obtain ⟨u, hu, hru⟩ := hp.2.2 rfl
      have hlt := (List.getElem?_eq_some_iff.1 hu).1
      have hl1 : ((us.drop c').take 1).length = 1 := by rw [List.length_take, List.length_drop]; omega
      have h0 : ((us.drop c').take 1)[0]? = some u := by
        rw [List.getElem?_take, if_pos (by omega), List.getElem?_drop]; simpa using hu
      refine ⟨u, ?_, .of_own (Ow.imm _ _ hru)⟩
      have hrun := run_ld hn hag hcell2 hl1 h1'
      simp only [Bool.false_eq_true, if_false, getD0 h0] at hrun
      simp only [execOp, ve, Sem.run_bind, hrun, Result.andThen_ok]
      rfl
  · cases hy
theorem cp_agg {o : Operand} {x : SX} {cs : List SV} (hx : okX o x = true) (h : cp g x = .agg cs) : ∃ n, (SV.agg cs).imm n = true := by
  cases x with
  | c v =>
    simp only [cp] at h
    subst h
    cases o <;> simp [okX] at hx
    exact ⟨2, hx.2⟩
  | t n =>
    simp only [cp] at h
    cases hg : g n <;> rw [hg] at h <;> simp only [reduceCtorEq] at h
    · split at h
      · rename_i hh; cases h; exact ⟨3, hh⟩
      · cases h
    · split at h <;> cases h
theorem op_ixa {o : Oper} {num sz : Nat} {ag : Bool} {x i : SX} {z : SV} (hok : okOp P o.op o.type (.ixa num sz ag x i) = true) (hst : St W M g (tmf a) w) (hy : pv g b (.ixa num sz ag x i) = some z) :
    ∃ v, (execOp a.eval o).run P w = .ok (.value v) w ∧ OwnX g (tmf a) M w v z [] := by
  obtain ⟨dst, opp, ty, pos, af, gd⟩ := o
  simp only [okOp] at hok
  split at hok
  case h_2 => cases hok
  rename_i t y j
  simp only [Bool.and_eq_true] at hok
  obtain ⟨⟨ht, hx⟩, hi⟩ := hok
  split at ht
  case h_2 => cases ht
  rename_i m e hu
  simp only [Bool.and_eq_true, Bool.or_eq_true, beq_iff_eq] at ht
  obtain ⟨⟨⟨rfl, hn⟩, hag⟩, h1⟩ := ht
  have h1' : ag = false → sz = 1 := fun e => by rw [e] at h1; simpa using h1
  have kx := cp_sound hst hx
  have ki := cp_sound hst hi
  simp only [pv] at hy
  split at hy
  case h_2 => cases hy
  rename_i ik k ei
  rw [ei] at ki
  have vi := ki.i
  split at hy
  case isFalse => cases hy
  rename_i hc
  obtain ⟨h0, hlt⟩ := hc
  split at hy
  case h_2 => cases hy
  rename_i cs ex
  obtain ⟨n, himm⟩ := cp_agg hx ex
  rw [ex] at kx
  have hr := kx.imm himm
  generalize hv : a.eval y = v at hr
  cases hr with
  | agg us cs hr =>
    obtain ⟨q, hq, hs⟩ := tyN_info hn
    obtain ⟨d, hd, hdr⟩ := tyAg_und hag
    have hp := part_rep hr hy h1'
    subst hs
    cases ag with
    | true =>
      obtain ⟨zs, rfl, hzl, hul⟩ := hp.2.1 rfl
      refine ⟨.agg ((us.drop (k.toNat * q.size)).take q.size).toArray, ?_, Ow.imm _ _ (.agg _ _ hp.1)⟩
      simp [execOp, hv, vi, Instr.index, asIntOf, run_underlying hu, h0, hlt, sizeOf, typeInfo, hq, Go.part, run_isAgg hd, hdr]
    | false =>
      obtain ⟨u, hu2, hru⟩ := hp.2.2 rfl
      refine ⟨u, ?_, .of_own (Ow.imm _ _ hru)⟩
      simp [execOp, hv, vi, Instr.index, asIntOf, run_underlying hu, h0, hlt, sizeOf, typeInfo, hq, Go.part, run_isAgg hd, hdr, hu2]
end
end Go.Sv
