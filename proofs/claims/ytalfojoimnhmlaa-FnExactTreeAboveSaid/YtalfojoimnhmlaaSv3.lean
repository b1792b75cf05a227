/- The operations that leave the world alone: what a walk without memory says is what the machine does. No condition. -/
import Derived.Test.YtalfojoimnhmlaaSv2
namespace Go.Sv
open Go.RowKit
set_option linter.unusedVariables false
def tyN (P : Program) (t : TypeId) (n : Nat) : Bool := (P.info? t).map (·.size) == some n
def tyAg (P : Program) (t : TypeId) (ag : Bool) : Bool := match P.underlying t with | some d => d.isRow == ag | none => false
def okXs (xs : List Operand) (ys : List SX) : Bool := xs.length == ys.length && (xs.zip ys).all fun p => okX p.1 p.2
def okO : Option Operand → Option SX → Bool
  | none, none => true
  | some x, some y => okX x y
  | _, _ => false
def okZ (P : Program) (t : TypeId) (sz : Nat) : Bool := match P.info? t with | some i => (match i.zero with | some v => v.cells.size == sz | none => false) | none => false
def okZero (P : Program) (t : TypeId) (zero : List SV) : Bool := match P.info? t with | some i => (match i.zero with | some (.agg us) => us.size == zero.length && (us.toList.zip zero).all fun p => okC1 p.1 p.2 | _ => false) | none => false
/-- Where a part of a struct or an array goes, and how long it is. -/
def placeOf (P : Program) (t : TypeId) (i : Nat) : Option (Nat × Nat) :=
  match P.underlying t with
  | some (.array _ e) => (P.info? e).map fun ie => (i * ie.size, ie.size)
  | some (.struct fs) => match fs.toList.mapM (fun f => (P.info? f.type).map fun i => (f.offset, i.size)) with | some places => places[i]? | none => none
  | _ => none
def okParts (P : Program) (t : TypeId) : List (Nat × Operand) → List (Nat × Nat × SX) → Bool
  | [], [] => true
  | (i, y) :: ps, (off, n, x) :: qs => placeOf P t i == some (off, n) && okX y x && okParts P t ps qs
  | _, _ => false
/-- The machine's operation is this one. -/
def okOp (P : Program) (o : Op) (ty : TypeId) : SOp → Bool
  | .mov x => match o with | .move y | .assign y => okX y x | _ => false
  | .bin op x y => match o with | .binOp op' t x' y' _ => decide (op = op') && okX x' x && okX y' y | _ => false
  | .eqb neg x y => match o with | .binOp op t x' y' _ => decide (op = if neg = true then .neq else .eql) && (P.underlying t matches some .bool) && okX x' x && okX y' y | _ => false
  | .eqp neg x y => match o with | .binOp op t x' y' _ => decide (op = if neg = true then .neq else .eql) && (P.underlying t matches some (.pointer _)) && okX x' x && okX y' y | _ => false
  | .not x => match o with | .unOp .not _ y => okX y x | _ => false
  | .conv k x => match o with | .convert s t y => (match P.underlying s, P.underlying t with | some (.int _), some (.int k') => k == k' | _, _ => false) && okX y x | _ => false
  | .len x => match o with
    | .call { callee := .builtin .len, args, argTypes } => (match args.toList, argTypes.toList with | [y], [t] => okX y x && (P.underlying t matches some (.slice _)) | _, _ => false)
    | _ => false
  | .lens x => match o with
    | .call { callee := .builtin .len, args, argTypes } => (match args.toList, argTypes.toList with | [y], [t] => okX y x && (P.underlying t matches some .string) | _, _ => false)
    | _ => false
  | .fa off n ag x => match o with
    | .fieldAddr t y f => (match P.underlying t with | some (.struct fs) => (match fs[f]? with | some fd => fd.offset == off && tyN P fd.type n && n != 0 && tyAg P fd.type ag | none => false) | _ => false) && okX y x
    | _ => false
  | .ia sz x i => match o with | .indexAddr t y j => (match P.underlying t with | some (.slice e) => tyN P e sz | _ => false) && okX y x && okX j i | _ => false
  | .iaa num sz ag x i => match o with | .indexAddr t y j => (match P.underlying t with | some (.array m e) => m == num && tyN P e sz && tyAg P e ag | _ => false) && okX y x && okX j i | _ => false
  | .ld n ag x => match o with | .load t y => tyN P t n && tyAg P t ag && okX y x && (ag || n == 1) | _ => false
  | .ext x i => match o with | .extract y j => i == j && okX y x | _ => false
  | .nchk x => match o with | .nilCheck y => okX y x | _ => false
  | .ixa num sz ag x i => match o with | .index t y j => (match P.underlying t with | some (.array m e) => m == num && tyN P e sz && tyAg P e ag && (ag || sz == 1) | _ => false) && okX y x && okX j i | _ => false
  | .mini x y => match o with | .call { callee := .builtin .min, args, argTypes := _ } => (match args.toList with | [x', y'] => okX x' x && okX y' y | _ => false) | _ => false
  | .pick t wt x => match o with | .pick c p q => okX c (.t t) && (if wt = true then okX p x && okX q (.c (.bool false)) else okX p (.c (.bool true)) && okX q x) | _ => false
  | .mkm => match o with | .makeMap t none => true | _ => false
  | .look x i => match o with
    | .lookup t m j false => (match P.underlying t with | some (.map k e) => (match P.underlying k with | some (.int .i64) => true | _ => false) && (match P.info? e with | some i => (match i.zero with | some (.bool false) => true | _ => false) | none => false) | _ => false) && okX m x && okX j i
    | _ => false
  | .build zero parts => match o with
    | .build t ps => okZero P t zero && (placeOf P t 0).isSome && okParts P t ps.toList parts
    | _ => false
  | .fn f xs => match o with
    | .makeFunc (.func f') first cs => f == f' && first.size == 0 && okXs cs.toList xs
    | _ => false
  | .slc sz x lo hi => match o with
    | .slice t y l h none => (match P.underlying t with | some (.slice e) => tyN P e sz | _ => false) && okX y x && okO l lo && okO h hi
    | _ => false
  | .alloc z => match o with | .alloc t => (match P.info? t with | some i => (match i.zero with | some v => okC v z | none => false) | none => false) | _ => false
  | .box x => match o with | .box t y => okX y x | _ => false
  | .bsl e sz xs => match o with
    | .buildSlice t n ps => (match P.underlying t with | some (.slice e') => e' == e && tyN P e sz && okZ P e sz | _ => false) && sz != 0 && n * sz ≤ 2 ^ 24 && ps.toList.map (·.1) == List.range n && okXs (ps.toList.map (·.2)) xs
    | _ => false
  | .mks e sz bytes z x => match o with
    | .makeSlice t l c => (match P.underlying t with | some (.slice e') => e' == e && (match P.info? e with | some i => i.size == sz && i.bytes == bytes && (match i.zero with | some v => okC v z && v.cells.size == sz | none => false) | none => false) | _ => false) && sz != 0 && okX l x && okX c x
    | _ => false
  | _ => false
section
variable {g d : Nat → SV} {tm : Nat → Value} {M : Nat → Prop} {w : World} {v : Value} {bs : List Nat}
theorem OwnX.i {k : IntKind} {n : Int} (h : OwnX g tm M w v (.int k n) bs) : v = .int k n := by
  have h0 : Rep M w v (.int k n) := h.imm (n := 1) rfl
  cases h0; rfl
theorem OwnX.bo {x : Bool} (h : OwnX g tm M w v (.bool x) bs) : v = .bool x := by
  have h0 : Rep M w v (.bool x) := h.imm (n := 1) rfl
  cases h0; rfl
theorem OwnX.s {x : ByteArray} (h : OwnX g tm M w v (.str x) bs) : v = .string x := by
  have h0 : Rep M w v (.str x) := h.imm (n := 1) rfl
  cases h0; rfl
theorem OwnX.np (h : OwnX g tm M w v .nilp bs) : v = .pointer none := by
  have h0 : Rep M w v .nilp := h.imm (n := 1) rfl
  cases h0; rfl
theorem OwnX.r {y : SV} (h : OwnX g tm M w v (.ref y) bs) : ∃ c off us, v = .pointer (some ⟨c, off, none⟩) ∧ M c ∧ CellsAt w c off us ∧ RepL M w us y.cells := by
  have h0 : Rep M w v (.ref y) := h.imm (n := 1) rfl
  cases h0 with | ref c off us x hm hc h => exact ⟨c, off, us, rfl, hm, hc, h⟩
theorem OwnX.l {sz : Nat} {xs : List SV} (h : OwnX g tm M w v (.list sz xs) bs) : (∃ ad, v = .slice ad 0 0 ∧ xs = []) ∨ ∃ c off cap, v = .slice (some ⟨c, off, none⟩) xs.length cap ∧ M c ∧ xs.length ≤ cap ∧ cap ≤ maxLen ∧ RepR M w c off sz xs := by
  have h0 : Rep M w v (.list sz xs) := h.imm (n := 1) rfl
  cases h0 with
  | nil => exact .inl ⟨none, rfl, rfl⟩
  | empty ad => exact .inl ⟨some ad, rfl, rfl⟩
  | list c off cap sz xs hm hc hx h => exact .inr ⟨c, off, cap, rfl, hm, hc, hx, h⟩
/-- The part of a variable's cells. -/
theorem part_rep {us : List Value} {cs : List SV} (h : RepL M w us cs) {off n : Nat} {ag : Bool} {z : SV} (hp : part cs off n ag = some z) (hn : ag = false → n = 1) :
    RepL M w ((us.drop off).take n) z.cells ∧ (ag = true → ∃ zs, z = .agg zs ∧ zs.length = n ∧ ((us.drop off).take n).length = n) ∧ (ag = false → ∃ u, us[off]? = some u ∧ Rep M w u z) := by
  unfold part at hp
  cases ag with
  | true =>
    simp only [if_true] at hp
    split at hp
    · rename_i hle
      simp only [Option.some.injEq] at hp
      subst hp
      refine ⟨(h.drop off).take n, fun _ => ⟨_, rfl, ?_, ?_⟩, by simp⟩
      · rw [List.length_take, List.length_drop]; omega
      · rw [List.length_take, List.length_drop, h.len]; omega
    · cases hp
  | false =>
    simp only [Bool.false_eq_true, if_false] at hp
    split at hp
    · rename_i c hc
      split at hp
      · cases hp
      · rename_i hag
        simp only [Option.some.injEq] at hp
        subst hp
        obtain ⟨u, hu, hr⟩ := h.get hc
        obtain rfl := hn rfl
        have e : (us.drop off).take 1 = [u] := by
          have hlt := (List.getElem?_eq_some_iff.1 hu).1
          rw [List.drop_eq_getElem_cons hlt]
          have := (List.getElem?_eq_some_iff.1 hu).2
          simp [this]
        refine ⟨?_, by simp, fun _ => ⟨u, hu, hr⟩⟩
        rw [e]
        have : c.cells = [c] := by cases c <;> first | rfl | (simp [SV.isAgg] at hag)
        rw [this]
        exact .lcons hr .lnil
    · cases hp
end
section
variable {P : Program} {W : Base} {M : Nat → Prop} {g b : Nat → SV} {a : Act} {w : World}
theorem tyN_info {t : TypeId} {n : Nat} (h : tyN P t n = true) : ∃ i, P.info? t = some i ∧ i.size = n := by
  unfold tyN at h
  cases hi : P.info? t with
  | none => simp [hi] at h
  | some i => exact ⟨i, rfl, by simpa [hi] using h⟩
theorem tyAg_und {t : TypeId} {ag : Bool} (h : tyAg P t ag = true) : ∃ d, P.underlying t = some d ∧ d.isRow = ag := by
  unfold tyAg at h
  cases hi : P.underlying t with
  | none => simp [hi] at h
  | some i => exact ⟨i, rfl, by simpa [hi] using h⟩
theorem run_isAgg {t : TypeId} {d : TypeDesc} (h : P.underlying t = some d) : (isAgg t).run P w = .ok d.isRow w := by
  unfold isAgg
  rw [Sem.run_bind, run_underlying h w]
  cases d <;> rfl
theorem cells_agg {cs : List SV} : (SV.agg cs).cells = cs := rfl
/-- A variable is read. -/
theorem run_ld {t : TypeId} {c off n : Nat} {ag : Bool} {us : List Value} (hn : tyN P t n = true) (ha : tyAg P t ag = true) (hc : CellsAt w c off us) (hl : us.length = n) (h1 : ag = false → n = 1) :
    (Instr.loadAt t (.pointer (some ⟨c, off, none⟩))).run P w = .ok (if ag = true then .agg us.toArray else us.getD 0 undef) w := by
  obtain ⟨i, hi, hs⟩ := tyN_info hn
  obtain ⟨d, hd, hr⟩ := tyAg_und ha
  cases ag with
  | true =>
    exact run_loadAt_mid w c off t us d hc hd hr (by rw [hi]; simp [hs, hl])
  | false =>
    obtain rfl := h1 rfl
    obtain ⟨u, rfl⟩ := List.length_eq_one_iff.1 hl
    have := hc 0 u rfl
    simp only [Instr.loadAt, Instr.sureAddr, loadVar, Sem.run_bind, Sem.run_pure, Result.andThen_ok, run_isAgg hd, hr]
    simp only [Nat.add_zero] at this
    simp [this]
theorem op_mov {o : Oper} {x : SX} {z : SV} (hok : okOp P o.op o.type (.mov x) = true) (hst : St W M g (tmf a) w) (hy : pv g b (.mov x) = some z) :
    ∃ v, (execOp a.eval o).run P w = .ok (.value v) w ∧ OwnX g (tmf a) M w v z [] := by
  obtain ⟨dst, op, ty, pos, af, gd⟩ := o
  simp only [okOp] at hok
  have hz : cp g x = z := by
    simp only [pv] at hy
    split at hy
    · cases hy
    · exact (Option.some.inj hy)
  subst hz
  split at hok
  · exact ⟨_, rfl, cp_sound hst hok⟩
  · exact ⟨_, rfl, cp_sound hst hok⟩
  · cases hok
theorem ibin_sound {op : BinOp} {k : IntKind} {m n : Int} {z : SV} (hop : op ≠ .shl ∧ op ≠ .shr) (hz : ibin op k m n = some z) (t : TypeId) : ∃ v, (binOp op t (.int k m) (.int k n)).run P w = .ok v w ∧ ∀ g tm M, OwnX g tm M w v z [] := by
  unfold ibin at hz
  cases op <;> simp only [] at hz
  case shl => exact absurd rfl hop.1
  case shr => exact absurd rfl hop.2
  case quo =>
    split at hz
    · cases hz
    · rename_i h0
      cases hz
      refine ⟨_, ?_, fun _ _ _ => Ow.imm _ _ (.int _ _)⟩
      simp [binOp, Op.intDiv, h0]
  case rem =>
    split at hz
    · cases hz
    · rename_i h0
      cases hz
      refine ⟨_, ?_, fun _ _ _ => Ow.imm _ _ (.int _ _)⟩
      simp [binOp, Op.intDiv, h0]
  all_goals (cases hz; first
    | (refine ⟨_, ?_, fun _ _ _ => Ow.imm _ _ (.int _ _)⟩; simp [binOp, Op.intArith]; done)
    | (refine ⟨_, ?_, fun _ _ _ => Ow.imm _ _ (.int _ _)⟩; simp [binOp, Op.intBits, bitw]; done)
    | (refine ⟨_, ?_, fun _ _ _ => Ow.imm _ _ (.bool _)⟩; simp [binOp, Op.intCmp]; done))
theorem run_eqGuard_int {op : BinOp} {t : TypeId} {x y : Operand} {k k' : IntKind} {m n : Int} : (eqGuard op t x y (.int k m) (.int k' n)).run P w = .ok () w := by
  unfold eqGuard; split <;> rfl
theorem run_eqGuard_str {op : BinOp} {t : TypeId} {x y : Operand} {m n : ByteArray} : (eqGuard op t x y (.string m) (.string n)).run P w = .ok () w := by
  unfold eqGuard; split <;> rfl
theorem run_eqGuard_bool {op : BinOp} {t : TypeId} {x y : Operand} {m n : Bool} : (eqGuard op t x y (.bool m) (.bool n)).run P w = .ok () w := by
  unfold eqGuard; split <;> rfl
theorem run_eqGuard_ptr {op : BinOp} {t : TypeId} {x y : Operand} {m n : Option Addr} : (eqGuard op t x y (.pointer m) (.pointer n)).run P w = .ok () w := by
  unfold eqGuard; split <;> rfl
theorem op_bin {o : Oper} {op : BinOp} {x y : SX} {z : SV} (hok : okOp P o.op o.type (.bin op x y) = true) (hst : St W M g (tmf a) w) (hy : pv g b (.bin op x y) = some z) :
    ∃ v, (execOp a.eval o).run P w = .ok (.value v) w ∧ OwnX g (tmf a) M w v z [] := by
  obtain ⟨dst, opp, ty, pos, af, gd⟩ := o
  simp only [okOp] at hok
  split at hok
  case h_2 => cases hok
  rename_i op' t x' y' u
  simp only [Bool.and_eq_true, decide_eq_true_eq] at hok
  obtain ⟨⟨rfl, hx⟩, hy'⟩ := hok
  have kx := cp_sound hst hx
  have ky := cp_sound hst hy'
  simp only [pv] at hy
  unfold sbin at hy
  split at hy
  · rename_i k m k' n e1 e2
    rw [e1] at kx
    rw [e2] at ky
    have vx := kx.i
    have vy := ky.i
    split at hy
    · split at hy
      · cases hy
      · rename_i h0
        cases hy
        refine ⟨_, ?_, Ow.imm _ _ (.int _ _)⟩
        simp only [execOp, vx, vy, Sem.run_bind, run_eqGuard_int, Result.andThen_ok]
        simp [binOp, Op.shift, h0]
    · split at hy
      · cases hy
      · rename_i h0
        cases hy
        refine ⟨_, ?_, Ow.imm _ _ (.int _ _)⟩
        simp only [execOp, vx, vy, Sem.run_bind, run_eqGuard_int, Result.andThen_ok]
        simp [binOp, Op.shift, h0]
    · split at hy
      · rename_i n1 n2 hk
        subst hk
        obtain ⟨v, hv, ho⟩ := ibin_sound (P := P) (w := w) ⟨n1, n2⟩ hy t
        refine ⟨v, ?_, ho _ _ _⟩
        simp only [execOp, vx, vy, Sem.run_bind, run_eqGuard_int, Result.andThen_ok, hv]
        rfl
      · cases hy
  · rename_i m n e1 e2
    rw [e1] at kx
    rw [e2] at ky
    have vx := kx.s
    have vy := ky.s
    split at hy
    · cases hy
      refine ⟨_, ?_, Ow.imm _ _ (.bool _)⟩
      simp only [execOp, vx, vy, Sem.run_bind, run_eqGuard_str, Result.andThen_ok]
      simp [binOp, Op.stringOp]
    · cases hy
      refine ⟨_, ?_, Ow.imm _ _ (.bool _)⟩
      simp only [execOp, vx, vy, Sem.run_bind, run_eqGuard_str, Result.andThen_ok]
      simp [binOp, Op.stringOp]
    · cases hy
  · cases hy
end
end Go.Sv
