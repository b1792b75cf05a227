/- Values of the walks without memory: what a value of the machine tells in a world (numbers, lists, structs), what a call owns, and how that stays. No condition. -/
import Derived.Calls
import Derived.Still
import Derived.Below
import Derived.Laws.AppendOwn
import Derived.Laws.Cells
namespace Go.Sv
open Go.RowKit
set_option linter.unusedVariables false
/-- What a value is, memory out of sight. -/
inductive SV where
  | undef | dead
  | int (k : IntKind) (n : Int)
  | bool (b : Bool)
  | str (s : ByteArray)
  | nilp
  | list (sz : Nat) (xs : List SV)
  | agg (cs : List SV)
  | ref (x : SV)
  | func (f : FuncId) (cs : List SV)
  | tuple (xs : List SV)
  | own (e sz : Nat) (xs : List SV)
  | box (x : SV)
  | imap (l : List Int)
  | mal (t : Nat)
  | place (t o : Nat)
  | elem (t : Nat) (o : Option Nat) (i c : Nat)
  | al (t : Nat) (o : Option Nat)
  deriving Inhabited
/-- The cells of a value. -/
def SV.cells : SV → List SV
  | .agg cs => cs
  | x => [x]
def CellsAt (w : World) (b off : Nat) (us : List Value) : Prop := ∀ j u, us[j]? = some u → w.cell? ⟨b, off + j, none⟩ = some u
/-- What is told: a value; a list of values; rows of sz cells each, from a place of a block on. -/
inductive Jd where
  | v (v : Value) (s : SV)
  | l (vs : List Value) (ss : List SV)
  | r (b off sz : Nat) (xs : List SV)
/-- Values that nobody writes to: all blocks that they reach are of M. -/
inductive Rp (M : Nat → Prop) (w : World) : Jd → Prop
  | undef : Rp M w (.v Go.undef .undef)
  | dead (v : Value) : Rp M w (.v v .dead)
  | int (k : IntKind) (n : Int) : Rp M w (.v (.int k n) (.int k n))
  | bool (b : Bool) : Rp M w (.v (.bool b) (.bool b))
  | str (s : ByteArray) : Rp M w (.v (.string s) (.str s))
  | nilp : Rp M w (.v (.pointer none) .nilp)
  | nil (sz : Nat) : Rp M w (.v (.slice none 0 0) (.list sz []))
  | empty (a : Addr) (sz : Nat) : Rp M w (.v (.slice (some a) 0 0) (.list sz []))
  | list (b off cap sz : Nat) (xs : List SV) (hm : M b) (hc : xs.length ≤ cap) (hx : cap ≤ maxLen) (h : Rp M w (.r b off sz xs)) : Rp M w (.v (.slice (some ⟨b, off, none⟩) xs.length cap) (.list sz xs))
  | agg (us : List Value) (cs : List SV) (h : Rp M w (.l us cs)) : Rp M w (.v (.agg us.toArray) (.agg cs))
  | ref (b off : Nat) (us : List Value) (x : SV) (hm : M b) (hc : CellsAt w b off us) (h : Rp M w (.l us x.cells)) : Rp M w (.v (.pointer (some ⟨b, off, none⟩)) (.ref x))
  | func (f : FuncId) (us : List Value) (cs : List SV) (h : Rp M w (.l us cs)) : Rp M w (.v (.func (.func f) #[] us.toArray) (.func f cs))
  | tuple (us : List Value) (cs : List SV) (h : Rp M w (.l us cs)) : Rp M w (.v (.tuple us.toArray) (.tuple cs))
  | lnil : Rp M w (.l [] [])
  | lcons {v : Value} {s : SV} {vs : List Value} {ss : List SV} (h : Rp M w (.v v s)) (hs : Rp M w (.l vs ss)) : Rp M w (.l (v :: vs) (s :: ss))
  | rnil (b off sz : Nat) : Rp M w (.r b off sz [])
  | rcons {b off sz : Nat} {us : List Value} {x : SV} {xs : List SV} (hl : us.length = sz) (hc : CellsAt w b off us) (h : Rp M w (.l us x.cells)) (hs : Rp M w (.r b (off + sz) sz xs)) : Rp M w (.r b off sz (x :: xs))
abbrev Rep (M : Nat → Prop) (w : World) (v : Value) (s : SV) : Prop := Rp M w (.v v s)
abbrev RepL (M : Nat → Prop) (w : World) (vs : List Value) (ss : List SV) : Prop := Rp M w (.l vs ss)
abbrev RepR (M : Nat → Prop) (w : World) (b off sz : Nat) (xs : List SV) : Prop := Rp M w (.r b off sz xs)
/-- The blocks of M are as they were. -/
def Same (M : Nat → Prop) (w w' : World) : Prop := ∀ b, M b → w'.heap[b]? = w.heap[b]?
theorem CellsAt.mono {w w' : World} {b off : Nat} {us : List Value} (hb : w'.heap[b]? = w.heap[b]?) (h : CellsAt w b off us) : CellsAt w' b off us := by
  intro j u hu
  have := h j u hu
  rw [World.cell?_of_block (w := w) (w' := w') hb]
  exact this
section
variable {M M' : Nat → Prop} {w w' : World} (hM : ∀ b, M b → M' b) (hw : Same M w w')
include hM hw
/-- What a told thing asks of the block that it lies in, if it is rows. -/
def Jd.kept (w w' : World) : Jd → Prop
  | .r b _ _ _ => w'.heap[b]? = w.heap[b]?
  | _ => True
theorem Rp.mono {j : Jd} (h : Rp M w j) : j.kept w w' → Rp M' w' j := by
  induction h with
  | undef => exact fun _ => .undef
  | dead v => exact fun _ => .dead v
  | int k n => exact fun _ => .int k n
  | bool b => exact fun _ => .bool b
  | str s => exact fun _ => .str s
  | nilp => exact fun _ => .nilp
  | nil sz => exact fun _ => .nil sz
  | empty a sz => exact fun _ => .empty a sz
  | list b off cap sz xs hm hc hx _ ih => exact fun _ => .list b off cap sz xs (hM _ hm) hc hx (ih (hw b hm))
  | agg us cs _ ih => exact fun _ => .agg us cs (ih trivial)
  | ref b off us x hm hc _ ih => exact fun _ => .ref b off us x (hM _ hm) (hc.mono (hw b hm)) (ih trivial)
  | func f us cs _ ih => exact fun _ => .func f us cs (ih trivial)
  | tuple us cs _ ih => exact fun _ => .tuple us cs (ih trivial)
  | lnil => exact fun _ => .lnil
  | lcons _ _ ih ihs => exact fun _ => .lcons (ih trivial) (ihs trivial)
  | rnil b off sz => exact fun _ => .rnil b off sz
  | rcons hl hc _ _ ih ihs => exact fun hb => .rcons hl (hc.mono hb) (ih trivial) (ihs hb)
theorem Rep.mono {v : Value} {s : SV} (h : Rep M w v s) : Rep M' w' v s := Rp.mono hM hw h trivial
theorem RepL.mono {vs : List Value} {ss : List SV} (h : RepL M w vs ss) : RepL M' w' vs ss := Rp.mono hM hw h trivial
theorem RepR.mono {b off sz : Nat} {xs : List SV} (hb : w'.heap[b]? = w.heap[b]?) (h : RepR M w b off sz xs) : RepR M' w' b off sz xs := Rp.mono hM hw h hb
end
/-! ### lists of cells -/
section
variable {M : Nat → Prop} {w : World}
theorem RepL.len {us : List Value} {cs : List SV} (h : RepL M w us cs) : us.length = cs.length := by
  induction us generalizing cs with
  | nil => cases h; rfl
  | cons u us ih => cases h with | lcons _ hs => simp [ih hs]
theorem RepL.get {us : List Value} {cs : List SV} (h : RepL M w us cs) : ∀ {j : Nat} {c : SV}, cs[j]? = some c → ∃ u, us[j]? = some u ∧ Rep M w u c := by
  induction us generalizing cs with
  | nil => cases h; intro j c hj; simp at hj
  | cons u us ih =>
    cases h with
    | lcons h hs =>
      intro j c hj
      cases j with
      | zero => simp at hj; subst hj; exact ⟨u, rfl, h⟩
      | succ j => simpa using ih hs (by simpa using hj)
theorem RepL.drop {us : List Value} {cs : List SV} (h : RepL M w us cs) (n : Nat) : RepL M w (us.drop n) (cs.drop n) := by
  induction n generalizing us cs with
  | zero => simpa using h
  | succ n ih => cases h with
    | lnil => simpa using Rp.lnil
    | lcons _ hs => simpa using ih hs
theorem RepL.take {us : List Value} {cs : List SV} (h : RepL M w us cs) (n : Nat) : RepL M w (us.take n) (cs.take n) := by
  induction n generalizing us cs with
  | zero => simpa using Rp.lnil
  | succ n ih => cases h with
    | lnil => simpa using Rp.lnil
    | lcons h hs => simpa using Rp.lcons h (ih hs)
theorem RepL.append {us vs : List Value} {cs ds : List SV} (h : RepL M w us cs) (k : RepL M w vs ds) : RepL M w (us ++ vs) (cs ++ ds) := by
  induction us generalizing cs with
  | nil => cases h; simpa using k
  | cons u us ih => cases h with | lcons h hs => exact .lcons h (ih hs)
theorem RepL.of_dead : ∀ (us : List Value), RepL M w us (us.map fun _ => .dead)
  | [] => .lnil
  | _ :: us => .lcons (.dead _) (of_dead us)
/-- The n-th row. -/
theorem RepR.row {b off sz : Nat} {xs : List SV} (h : RepR M w b off sz xs) : ∀ {i : Nat} {x : SV}, xs[i]? = some x → ∃ us : List Value, us.length = sz ∧ CellsAt w b (off + i * sz) us ∧ RepL M w us x.cells := by
  induction xs generalizing off with
  | nil => intro i x hi; simp at hi
  | cons y ys ih =>
    cases h with
    | rcons hl hc h hs =>
      intro i x hi
      cases i with
      | zero => simp at hi; subst hi; exact ⟨_, hl, by simpa using hc, h⟩
      | succ i =>
        obtain ⟨us, h1, h2, h3⟩ := ih hs (by simpa using hi)
        refine ⟨us, h1, ?_, h3⟩
        have e : off + (i + 1) * sz = off + sz + i * sz := by rw [Nat.add_mul]; omega
        rw [e]; exact h2
theorem RepR.drop {b off sz : Nat} {xs : List SV} (h : RepR M w b off sz xs) : ∀ (n : Nat), RepR M w b (off + n * sz) sz (xs.drop n) := by
  induction xs generalizing off with
  | nil => intro n; simpa using Rp.rnil _ _ _
  | cons y ys ih =>
    intro n
    cases n with
    | zero => simpa using h
    | succ n =>
      cases h with
      | rcons hl hc h hs =>
        have := ih hs n
        have e : off + (n + 1) * sz = off + sz + n * sz := by rw [Nat.add_mul]; omega
        rw [e]; simpa using this
theorem RepR.take {b off sz : Nat} {xs : List SV} (h : RepR M w b off sz xs) : ∀ (n : Nat), RepR M w b off sz (xs.take n) := by
  induction xs generalizing off with
  | nil => intro n; simpa using Rp.rnil _ _ _
  | cons y ys ih =>
    intro n
    cases n with
    | zero => simpa using Rp.rnil _ _ _
    | succ n =>
      cases h with
      | rcons hl hc h hs => simpa using Rp.rcons hl hc h (ih hs n)
theorem CellsAt.drop {b off : Nat} {us : List Value} (h : CellsAt w b off us) (n : Nat) : CellsAt w b (off + n) (us.drop n) := by
  intro j u hu
  rw [List.getElem?_drop] at hu
  have := h _ _ hu
  rwa [← Nat.add_assoc] at this
theorem CellsAt.take {b off : Nat} {us : List Value} (h : CellsAt w b off us) (n : Nat) : CellsAt w b off (us.take n) := by
  intro j u hu
  rw [List.getElem?_take] at hu
  split at hu
  · exact h _ _ hu
  · cases hu
end
end Go.Sv
