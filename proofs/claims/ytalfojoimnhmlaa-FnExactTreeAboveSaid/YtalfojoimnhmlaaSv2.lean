/- The operations of a walk without memory: what each yields out of what the slots tell, and that the machine's own operation yields it. No condition. -/
import Derived.Test.YtalfojoimnhmlaaSv1
import Derived.Deep.MidRow
import Derived.Laws.Build
import Derived.Laws.Entries
import Derived.Laws.Slices
namespace Go.Sv
open Go.RowKit
set_option linter.unusedVariables false
/-- An operand. -/
inductive SX where
  | t (n : Nat)
  | c (v : SV)
/-- An operation that writes one slot. 'n', 'ag': how many cells, and whether it is a struct or an array. -/
inductive SOp where
  | mov (x : SX)
  | bin (op : BinOp) (x y : SX)
  | eqb (neg : Bool) (x y : SX)
  | eqp (neg : Bool) (x y : SX)
  | not (x : SX)
  | conv (k : IntKind) (x : SX)
  | len (x : SX)
  | lens (x : SX)
  | fa (off n : Nat) (ag : Bool) (x : SX)
  | ia (sz : Nat) (x i : SX)
  | iaa (num sz : Nat) (ag : Bool) (x i : SX)
  | ld (n : Nat) (ag : Bool) (x : SX)
  | ext (x : SX) (i : Nat)
  | nchk (x : SX)
  | alloc (z : SV)
  | box (x : SX)
  | build (zero : List SV) (parts : List (Nat × Nat × SX))
  | fn (f : FuncId) (cs : List SX)
  | slc (sz : Nat) (x : SX) (lo hi : Option SX)
  | mini (x y : SX)
  | bsl (e sz : Nat) (xs : List SX)
  | mks (e sz bytes : Nat) (z : SV) (n : SX)
  | eqa (neg : Bool) (x y : SX)
  | ixa (num sz : Nat) (ag : Bool) (x i : SX)
  | pick (t : Nat) (want : Bool) (x : SX)
  | mkm
  | look (x i : SX)
/-- What a copy of an operand tells. -/
def cp (g : Nat → SV) : SX → SV
  | .c v => v
  | .t n => match g n with
    | .own _ _ _ => .al n none
    | .box _ => .place n 0
    | .imap _ => .mal n
    | .agg cs => if cs.all (SV.imm 2) = true then .agg cs else .dead
    | .tuple cs => if cs.all (SV.imm 3) = true then .tuple cs else .dead
    | v => v
def SV.isAgg : SV → Bool
  | .agg _ => true
  | _ => false
/-- A value that stands for itself: known, and no block is owned by it. -/
def SV.solid (x : SV) : Bool := match x with | .dead => false | x => x.imm 3
def part (cs : List SV) (off n : Nat) (ag : Bool) : Option SV :=
  if ag = true then (if off + n ≤ cs.length then some (.agg ((cs.drop off).take n)) else none) else (match cs[off]? with | some c => if c.isAgg = true then none else some c | none => none)
def bitw (op : BinOp) (k : IntKind) (a b : Int) : Int :=
  let x := BitVec.ofInt k.bits a
  let y := BitVec.ofInt k.bits b
  k.wrap ((match op with | .and => x &&& y | .or => x ||| y | .xor => x ^^^ y | _ => x &&& ~~~y).toNat : Int)
def ibin (op : BinOp) (k : IntKind) (a b : Int) : Option SV :=
  match op with
  | .add => some (.int k (k.wrap (a + b)))
  | .sub => some (.int k (k.wrap (a - b)))
  | .mul => some (.int k (k.wrap (a * b)))
  | .quo => if b = 0 then none else some (.int k (k.wrap (a.tdiv b)))
  | .rem => if b = 0 then none else some (.int k (a.tmod b))
  | .and => some (.int k (bitw .and k a b))
  | .or => some (.int k (bitw .or k a b))
  | .xor => some (.int k (bitw .xor k a b))
  | .andNot => some (.int k (bitw .andNot k a b))
  | .eql => some (.bool (a == b))
  | .neq => some (.bool (a != b))
  | .lss => some (.bool (decide (a < b)))
  | .leq => some (.bool (decide (a ≤ b)))
  | .gtr => some (.bool (decide (a > b)))
  | .geq => some (.bool (decide (a ≥ b)))
  | _ => none
def sbin (op : BinOp) (x y : SV) : Option SV :=
  match x, y with
  | .int k a, .int k' b =>
    match op with
    | .shl => if b < 0 then none else some (.int k (k.wrap (a * 2 ^ min b.toNat k.bits)))
    | .shr => if b < 0 then none else some (.int k (a.fdiv (2 ^ min b.toNat k.bits)))
    | op => if k = k' then ibin op k a b else none
  | .str a, .str b => match op with | .eql => some (.bool (a.toList == b.toList)) | .neq => some (.bool (!(a.toList == b.toList))) | _ => none
  | _, _ => none
def speq (x y : SV) : Option Bool :=
  match x, y with
  | .nilp, .nilp => some true
  | .ref _, .nilp | .place _ _, .nilp | .elem _ _ _ _, .nilp | .nilp, .ref _ | .nilp, .place _ _ | .nilp, .elem _ _ _ _ => some false
  | _, _ => none
/-- What a variable tells that a pointer leads to. -/
def rd (b : Nat → SV) (x : SV) (n : Nat) (ag : Bool) : Option SV :=
  match x with
  | .ref y => (match ag, y with | true, .agg cs => if cs.length = n then some (.agg cs) else none | true, _ => none | false, .agg _ => none | false, y => some y)
  | .place t o => match b t with
    | .box y => (match ag with
      | true => if o + n ≤ y.cells.length ∧ ((y.cells.drop o).take n).all (SV.imm 2) = true then some (.agg ((y.cells.drop o).take n)) else none
      | false => match y.cells[o]? with
        | some (.own _ _ _) => some (.al t (some o))
        | some c => if c.imm 3 = true then some c else none
        | none => none)
    | _ => none
  | .elem t o i c => match (b t).at o with
    | .own _ sz xs => (match xs[i]? with | some y => part y.cells c n ag | none => none)
    | _ => none
  | _ => none
def pvL (b : Nat → SV) (x : SV) : Option Nat :=
  match x with
  | .list _ xs => some xs.length
  | .al t o => match (b t).at o with | .own _ _ xs => some xs.length | _ => none
  | _ => none
/-- Cells written one behind the other. -/
def setS (cs : List SV) (off : Nat) : List SV → List SV
  | [] => cs
  | v :: vs => setS (cs.set off v) (off + 1) vs
def fillS (g : Nat → SV) (cs : List SV) : List (Nat × Nat × SX) → Option (List SV)
  | [] => some cs
  | (off, n, x) :: rest => if (cp g x).cells.length = n ∧ off + n ≤ cs.length ∧ (cp g x).solid = true then fillS g (setS cs off (cp g x).cells) rest else none
def caps (g : Nat → SV) : List SX → Option (List SV)
  | [] => some []
  | x :: rest => if (cp g x).solid = true then (match caps g rest with | some l => some (cp g x :: l) | none => none) else none
def bnd (g : Nat → SV) (d : Nat) : Option SX → Option Int
  | none => some d
  | some x => match cp g x with | .int _ k => some k | _ => none
/-- Values that all stand as they are, each of sz cells. -/
def solids (g : Nat → SV) (sz : Nat) : List SX → Option (List SV)
  | [] => some []
  | x :: rest => if (cp g x).cells.length = sz ∧ (cp g x).solid = true then (match solids g sz rest with | some l => some (cp g x :: l) | none => none) else none
/-- What the operation yields. -/
def pv (g b : Nat → SV) : SOp → Option SV
  | .mov x => match cp g x with | .dead => none | v => some v
  | .bin op x y => sbin op (cp g x) (cp g y)
  | .eqb neg x y => match cp g x, cp g y with | .bool a, .bool b => some (.bool (if neg = true then a != b else a == b)) | _, _ => none
  | .eqp neg x y => match speq (cp g x) (cp g y) with | some v => some (.bool (if neg = true then !v else v)) | none => none
  | .not x => match cp g x with | .bool v => some (.bool !v) | _ => none
  | .conv k x => match cp g x with | .int _ n => some (.int k (k.wrap n)) | _ => none
  | .lens x => match cp g x with | .str s => some (.int .i64 s.size) | _ => none
  | .len x => match pvL b (cp g x) with | some n => some (.int .i64 n) | none => none
  | .fa off n ag x => match cp g x with
    | .ref y => (match part y.cells off n ag with | some z => some (.ref z) | none => none)
    | .place t o => some (.place t (o + off))
    | .elem t o i c => some (.elem t o i (c + off))
    | _ => none
  | .ia sz x i => match cp g i with
    | .int _ k => (match cp g x with
      | .list sz' xs => if sz' = sz ∧ 0 ≤ k ∧ k < xs.length then some (.ref (xs.getD k.toNat .dead)) else none
      | .al t o => (match (b t).at o with | .own _ sz' xs => if sz' = sz ∧ 0 ≤ k ∧ k < xs.length then some (.elem t o k.toNat 0) else none | _ => none)
      | _ => none)
    | _ => none
  | .iaa num sz ag x i => match cp g i with
    | .int _ k => if 0 ≤ k ∧ k < num then (match cp g x with
      | .ref y => (match part y.cells (k.toNat * sz) sz ag with | some z => some (.ref z) | none => none)
      | .place t o => some (.place t (o + k.toNat * sz))
      | _ => none) else none
    | _ => none
  | .ld n ag x => rd b (cp g x) n ag
  | .ext x i => match cp g x with | .tuple cs => cs[i]? | _ => none
  | .nchk x => match cp g x with | .ref y => some (.ref y) | .place t o => some (.place t o) | .elem t o i c => some (.elem t o i c) | _ => none
  | .ixa num sz ag x i => match cp g i with
    | .int _ k => if 0 ≤ k ∧ k < num then (match cp g x with | .agg cs => part cs (k.toNat * sz) sz ag | _ => none) else none
    | _ => none
  | .pick t wt x => match cp g (.t t) with | .bool v => if (v == wt) = true then (match cp g x with | .dead => none | z => some z) else some (.bool v) | _ => none
  | .mkm => some (.imap [])
  | .look x i => match cp g x, cp g i with | .mal t, .int .i64 k => (match b t with | .imap l => some (.bool (decide (k ∈ l))) | _ => none) | _, _ => none
  | .mini x y => match cp g x, cp g y with | .int k a, .int _ b => some (.int k (if b < a then b else a)) | _, _ => none
  | .build zero parts => match fillS g zero parts with | some cs => some (.agg cs) | none => none
  | .fn f xs => match caps g xs with | some cs => some (.func f cs) | none => none
  | .slc sz x lo hi => match cp g x with
    | .list sz' xs => (match bnd g 0 lo, bnd g xs.length hi with
      | some l, some h => if sz' = sz ∧ 0 ≤ l ∧ l ≤ h ∧ h ≤ xs.length then some (.list sz ((xs.drop l.toNat).take (h.toNat - l.toNat))) else none
      | _, _ => none)
    | _ => none
  | .alloc z => if z.solid = true then some (.box z) else none
  | .box x => if (cp g x).solid = true then some (.box (cp g x)) else none
  | .bsl e sz xs => match solids g sz xs with | some l => some (.own e sz l) | none => none
  | .mks e sz bytes z n => match cp g n with
    | .int .i64 k => if 0 ≤ k ∧ k.toNat * bytes ≤ 2 ^ 47 ∧ k.toNat ≤ 2 ^ 47 ∧ z.cells.length = sz then some (.own e sz (List.replicate k.toNat z)) else none
    | _ => none
  | _ => none
/-! ### constants, operands -/
def okC1 : Value → SV → Bool
  | .int k n, .int k' n' => k == k' && n == n'
  | .bool a, .bool b => a == b
  | .string a, .str b => decide (a = b)
  | .pointer none, .nilp => true
  | .slice none 0 0, .list _ [] => true
  | _, _ => false
def okC : Value → SV → Bool
  | .agg us, .agg cs => us.size == cs.length && (us.toList.zip cs).all fun p => okC1 p.1 p.2
  | u, c => okC1 u c
theorem okC1_rep {M : Nat → Prop} {w : World} {u : Value} {c : SV} (h : okC1 u c = true) : Rep M w u c := by
  unfold okC1 at h
  split at h
  · simp only [Bool.and_eq_true, beq_iff_eq] at h; obtain ⟨rfl, rfl⟩ := h; exact .int _ _
  · simp only [beq_iff_eq] at h; subst h; exact .bool _
  · have := of_decide_eq_true h; subst this; exact .str _
  · exact .nilp
  · exact .nil _
  · cases h
theorem okCL_rep {M : Nat → Prop} {w : World} : ∀ {us : List Value} {cs : List SV}, us.length = cs.length → ((us.zip cs).all fun p => okC1 p.1 p.2) = true → RepL M w us cs
  | [], [], _, _ => .lnil
  | [], _ :: _, h, _ => by simp at h
  | _ :: _, [], h, _ => by simp at h
  | u :: us, c :: cs, hl, h => by
    simp only [List.zip_cons_cons, List.all_cons, Bool.and_eq_true] at h
    exact .lcons (okC1_rep h.1) (okCL_rep (by simpa using hl) h.2)
theorem okC_rep {M : Nat → Prop} {w : World} {u : Value} {c : SV} (h : okC u c = true) : Rep M w u c := by
  unfold okC at h
  split at h
  · rename_i us cs
    simp only [Bool.and_eq_true, beq_iff_eq] at h
    have := Rp.agg us.toList cs (okCL_rep (M := M) (w := w) (by simpa using h.1) h.2)
    simpa using this
  · exact okC1_rep h
def okX : Operand → SX → Bool
  | .tmp t, .t n => t == n
  | .const u, .c v => okC u v && v.imm 2
  | _, _ => false
section
variable {W : Base} {M : Nat → Prop} {g b : Nat → SV} {a : Act} {w : World}
abbrev tmf (a : Act) : Nat → Value := fun t => a.tmps.getD t undef
theorem OwnX.imm {g : Nat → SV} {tm : Nat → Value} {M : Nat → Prop} {w : World} {v : Value} {x : SV} {bs : List Nat} {n : Nat} (h : OwnX g tm M w v x bs) (hi : x.imm n = true) : Rep M w v x := by
  cases n with
  | zero => simp [SV.imm] at hi
  | succ n => cases x <;> first | exact (OwnV.rep h hi).1 | (simp [SV.imm] at hi; done)
theorem OwnX.of_rep {g : Nat → SV} {tm : Nat → Value} {M : Nat → Prop} {w : World} {v : Value} {x : SV} {n : Nat} (h : Rep M w v x) (hi : x.imm n = true) : OwnX g tm M w v x [] := by
  cases n with
  | zero => simp [SV.imm] at hi
  | succ n => cases x <;> first | exact Ow.imm _ _ h | (simp [SV.imm] at hi; done)
/-- A copy of an operand owns nothing. -/
theorem cp_sound (hst : St W M g (tmf a) w) {o : Operand} {x : SX} (hx : okX o x = true) : OwnX g (tmf a) M w (a.eval o) (cp g x) [] := by
  unfold okX at hx
  split at hx
  · rename_i t n
    simp only [beq_iff_eq] at hx
    subst hx
    obtain ⟨bs, h1, h2, h3, h4⟩ := hst.own
    have h0 := h1 t
    show OwnX g (tmf a) M w (tmf a t) (cp g (.t t)) []
    generalize bs t = bt at h0
    simp only [cp]
    cases hg : g t <;> rw [hg] at h0
    case own e sz xs =>
      generalize hv : tmf a t = v at h0
      have : ∃ s n cap, v = .slice s n cap := by cases h0 <;> first | exact ⟨_, _, _, rfl⟩ | (rename_i h; cases h)
      obtain ⟨s, n, cap, rfl⟩ := this
      exact ⟨rfl, e, sz, xs, s, n, cap, by rw [hg]; rfl, hv, rfl⟩
    case box y =>
      generalize hv : tmf a t = v at h0
      have : ∃ b, v = .pointer (some ⟨b, 0, none⟩) := by cases h0 <;> first | exact ⟨_, rfl⟩ | (rename_i h; cases h)
      obtain ⟨b, rfl⟩ := this
      exact ⟨rfl, b, y, hg, hv, rfl⟩
    case imap l => exact ⟨rfl, l, hg, rfl⟩
    case mal => obtain ⟨_, h⟩ := h0; exact ⟨rfl, h⟩
    case agg cs =>
      simp only []
      split
      · rename_i hall; exact Ow.imm _ _ (OwnV.rep (n := 3) h0 hall).1
      · exact Ow.imm _ _ (.dead _)
    case tuple cs =>
      simp only []
      split
      · rename_i hall; exact Ow.imm _ _ (OwnV.rep (n := 4) h0 hall).1
      · exact Ow.imm _ _ (.dead _)
    case place => obtain ⟨_, h⟩ := h0; exact ⟨rfl, h⟩
    case elem => obtain ⟨_, h⟩ := h0; exact ⟨rfl, h⟩
    case al => obtain ⟨_, h⟩ := h0; exact ⟨rfl, h⟩
    all_goals exact Ow.imm _ _ (OwnV.rep (n := 1) h0 rfl).1
  · rename_i u v
    simp only [Bool.and_eq_true] at hx
    exact OwnX.of_rep (okC_rep hx.1) hx.2
  · cases hx
end
end Go.Sv
