/- The engine of the walks without memory: rules that step through a function's code. No condition. -/
import Derived.Test.YtalfojoimnhmlaaSvF
import Derived.Laws.Wrap64
namespace Go.Sv
set_option linter.unusedVariables false
/-- What comes behind the operations of a part. -/
inductive KT where
  | fin (k : List Nat) (Q : Ex → S → Prop)
  | pick (d : Nat) (x : SX) (rest : RS) (nx : KT)
def KT.run (P : Program) (B : Option (Nat → SV)) : KT → S → Prop
  | .fin k Q, s => Q .normal (sel k s)
  | .pick d x rest nx, s => match cp (get s) x with | .dead => False | z => rs P B rest ((d, z) :: s) (nx.run P B)
def rsT (P : Program) (B : Option (Nat → SV)) (r : RS) (s : S) (kt : KT) : Prop := rs P B r s (kt.run P B)
def opK (P : Program) (B : Option (Nat → SV)) (v : Option SV) (d : Nat) (rest : RS) (s : S) (kt : KT) : Prop := match v with | some z => rsT P B rest ((d, z) :: s) kt | none => False
def pickK (P : Program) (B : Option (Nat → SV)) (v : SV) (d : Nat) (rest : RS) (s : S) (kt : KT) : Prop := match v with | .dead => False | z => rsT P B rest ((d, z) :: s) kt
def effK (P : Program) (B : Option (Nat → SV)) (v : Option S) (rest : RS) (kt : KT) : Prop := match v with | some s' => rsT P B rest s' kt | none => False
def callA (P : Program) (B : Option (Nat → SV)) (f : FuncId) (v : Option (List SV × Bool)) (d : Nat) (rest : RS) (s : S) (kt : KT) : Prop :=
  match v with | some (as, sn) => CallK P f as fun z => FlK sn z (rsT P B rest ((d, z) :: s) kt) | none => False
/-- A call, met by its contract. -/
def callS (P : Program) (B : Option (Nat → SV)) (f : FuncId) (as : List SV) (sn : Bool) (d : Nat) (rest : RS) (s : S) (kt : KT) : Prop := CallK P f as fun z => FlK sn z (rsT P B rest ((d, z) :: s) kt)
def callV (P : Program) (B : Option (Nat → SV)) (fv : SV) (v : Option (List SV × Bool)) (d : Nat) (rest : RS) (s : S) (kt : KT) : Prop :=
  match fv with
  | .func f cs => okBody P f = true ∧ (match v with | some (as, sn) => CallK P f (as ++ cs) fun z => FlK sn z (rsT P B rest ((d, z) :: s) kt) | none => False)
  | _ => False
/-- A guarded part: taken or left out. -/
def scS (P : Program) (B : Option (Nat → SV)) (v : SV) (w : Bool) (blk : RS) (d : Nat) (x : SX) (rest : RS) (s : S) (kt : KT) : Prop :=
  match v with
  | .bool v => Br (v == w) (rsT P B blk s (.pick d x rest kt)) (rsT P B rest ((d, .bool v) :: (undefs blk ++ s)) kt)
  | _ => False
/-- A branch of the code. -/
def condS (P : Program) (v : SV) (a b : SC) (Q : Ex → S → Prop) (s : S) : Prop := match v with | .bool v => Br v (swp P a Q s) (swp P b Q s) | _ => False
theorem call_intro {P : Program} {B : Option (Nat → SV)} {f : FuncId} {as : List SV} {d : Nat} {rest : RS} {s : S} {kt : KT} {z : SV} (hc : Con P f as z) (h : rsT P B rest ((d, z) :: s) kt) : callS P B f as false d rest s kt := ⟨z, hc, h⟩
theorem call_intro_flat {P : Program} {B : Option (Nat → SV)} {f : FuncId} {as : List SV} {d : Nat} {rest : RS} {s : S} {kt : KT} {z : SV} (hc : Con P f as z) (hf : z.flat 3 = true) (h : rsT P B rest ((d, z) :: s) kt) : callS P B f as true d rest s kt := ⟨z, hc, hf, h⟩
theorem sc_and {P : Program} {B : Option (Nat → SV)} {v : Bool} {blk : RS} {d : Nat} {x : SX} {rest : RS} {s : S} {kt : KT} (h1 : v = true → rsT P B blk s (.pick d x rest kt)) (h2 : v = false → rsT P B rest ((d, .bool false) :: (undefs blk ++ s)) kt) :
    scS P B (.bool v) true blk d x rest s kt := ⟨fun h => h1 (by simpa using h), fun h => (by cases v with | false => exact h2 rfl | true => simp at h)⟩
theorem sc_or {P : Program} {B : Option (Nat → SV)} {v : Bool} {blk : RS} {d : Nat} {x : SX} {rest : RS} {s : S} {kt : KT} (h1 : v = true → rsT P B rest ((d, .bool true) :: (undefs blk ++ s)) kt) (h2 : v = false → rsT P B blk s (.pick d x rest kt)) :
    scS P B (.bool v) false blk d x rest s kt := ⟨fun h => h2 (by simpa using h), fun h => (by cases v with | true => exact h1 rfl | false => simp at h)⟩
theorem cond_intro {P : Program} {v : Bool} {a b : SC} {Q : Ex → S → Prop} {s : S} (h1 : v = true → swp P a Q s) (h2 : v = false → swp P b Q s) : condS P (.bool v) a b Q s := ⟨h1, h2⟩
theorem loop_intro {P : Program} {a : SC} {Q : Ex → S → Prop} {s : S} (I : S → Prop) (μ : S → Nat) (h0 : I s) (h1 : ∀ s', I s' → swp P a (thenQ (fun s'' => I s'' ∧ μ s'' < μ s') Q) s') : swp P (.loop a) Q s := ⟨I, μ, h0, h1⟩
/-- What is known at a point of the code may be said anew. -/
theorem seq_cut {P : Program} {a b : SC} {Q : Ex → S → Prop} {s : S} (R : S → Prop) (h1 : swp P a (thenQ R Q) s) (h2 : ∀ s', R s' → swp P b Q s') : swp P (.seq a b) Q s :=
  swp_mono a s (fun e s' h => by cases e <;> first | exact h2 s' h | exact h) h1
def cpv (t : Nat) (v : SV) : SV :=
  match v with
  | .own _ _ _ => .al t none
  | .box _ => .place t 0
  | .imap _ => .mal t
  | .agg cs => if cs.all (SV.imm 2) = true then .agg cs else .dead
  | .tuple cs => if cs.all (SV.imm 3) = true then .tuple cs else .dead
  | v => v
def movv (v : SV) : Option SV := match v with | .dead => none | v => some v
def selA (kp : List Nat) : List Nat → S → S
  | [], _ => []
  | t :: l, s => (t, keepV kp (get s t)) :: selA kp l s
def faV (off n : Nat) (ag : Bool) (v : SV) : Option SV := match v with
  | .ref y => (match part y.cells off n ag with | some z => some (.ref z) | none => none)
  | .place t o => some (.place t (o + off))
  | .elem t o i c => some (.elem t o i (c + off))
  | _ => none
def iaV (b : Nat → SV) (sz : Nat) (i x : SV) : Option SV := match i with
  | .int _ k => (match x with
    | .list sz' xs => if sz' = sz ∧ 0 ≤ k ∧ k < xs.length then some (.ref (xs.getD k.toNat .dead)) else none
    | .al t o => (match (b t).at o with | .own _ sz' xs => if sz' = sz ∧ 0 ≤ k ∧ k < xs.length then some (.elem t o k.toNat 0) else none | _ => none)
    | _ => none)
  | _ => none
def refO (z : Option SV) : Option SV := match z with | some z => some (.ref z) | none => none
def lenO (z : Option Nat) : Option SV := match z with | some n => some (.int .i64 n) | none => none
def iaaV (num sz : Nat) (ag : Bool) (i x : SV) : Option SV := match i with
  | .int _ k => if 0 ≤ k ∧ k < num then (match x with
      | .ref y => (match part y.cells (k.toNat * sz) sz ag with | some z => some (.ref z) | none => none)
      | .place t o => some (.place t (o + k.toNat * sz))
      | _ => none) else none
  | _ => none
def ixaV (num sz : Nat) (ag : Bool) (i x : SV) : Option SV := match i with
  | .int _ k => if 0 ≤ k ∧ k < num then (match x with | .agg cs => part cs (k.toNat * sz) sz ag | _ => none) else none
  | _ => none
def rdBox (t o n : Nat) (y : SV) : Option SV := match y.cells[o]? with
  | some (.own _ _ _) => some (.al t (some o))
  | some c => if c.imm 3 = true then some c else none
  | none => none
def boxO (v : SV) : Option SV := if v.solid = true then some (.box v) else none
def argc (v : Option (SV × Bool)) (l : Option (List SV × Bool)) : Option (List SV × Bool) := match v, l with | some (v, s), some (vs, s') => some (v :: vs, s || s') | _, _ => none
def capc (v : SV) (l : Option (List SV)) : Option (List SV) := if v.solid = true then (match l with | some l => some (v :: l) | none => none) else none
def solc (sz : Nat) (v : SV) (l : Option (List SV)) : Option (List SV) := if v.cells.length = sz ∧ v.solid = true then (match l with | some l => some (v :: l) | none => none) else none
def ownO (e sz : Nat) (l : Option (List SV)) : Option SV := match l with | some l => some (.own e sz l) | none => none
def aggO (l : Option (List SV)) : Option SV := match l with | some l => some (.agg l) | none => none
def funO (f : FuncId) (l : Option (List SV)) : Option SV := match l with | some l => some (.func f l) | none => none
def mksV (e sz bytes : Nat) (z v : SV) : Option SV := match v with
  | .int .i64 k => if 0 ≤ k ∧ k.toNat * bytes ≤ 2 ^ 47 ∧ k.toNat ≤ 2 ^ 47 ∧ z.cells.length = sz then some (.own e sz (List.replicate k.toNat z)) else none
  | _ => none
def fillc (g : Nat → SV) (cs : List SV) (off n : Nat) (v : SV) (rest : List (Nat × Nat × SX)) : Option (List SV) := if v.cells.length = n ∧ off + n ≤ cs.length ∧ v.solid = true then fillS g (setS cs off v.cells) rest else none
/-- A store, by what the pointer and the value tell. -/
def stK (s : S) (n : Nat) (p v : SV) : Option S :=
  if v.cells.length = n ∧ v.cells.all SV.one = true ∧ v.solid = true then
      (match p with
      | .place t o => (match get s t with
        | .box y => if o + n ≤ y.cells.length ∧ ((y.cells.drop o).take n).all (SV.imm 2) = true then some ((t, .box (y.recell (setS y.cells o v.cells))) :: s) else none
        | _ => none)
      | .elem t none i c => (match get s t with
        | .own e sz xs => (match xs[i]? with
          | some z => if c + n ≤ z.cells.length then some ((t, .own e sz (xs.set i (z.recell (setS z.cells c v.cells)))) :: s) else none
          | none => none)
        | _ => none)
      | _ => none) else none
def asgK (s : S) (d t : Nat) (v : SV) : Option S := match v with
      | .own e sz xs => some ((d, .own e sz xs) :: (t, .dead) :: s.map fun p => (p.1, killV t (killV d p.2)))
      | .imap l => some ((d, .imap l) :: (t, .dead) :: s.map fun p => (p.1, killV t (killV d p.2)))
      | _ => none
def lookV (b : Nat → SV) (x i : SV) : Option SV := match x, i with | .mal t, .int .i64 k => (match b t with | .imap l => some (.bool (decide (k ∈ l))) | _ => none) | _, _ => none
def lookW (k : Int) (v : SV) : Option SV := match v with | .imap l => some (.bool (decide (k ∈ l))) | _ => none
def mputA (s : S) (x k : SV) : Option S := match x, k with
    | .mal t, .int .i64 n => (match get s t with
      | .imap l => if n ∈ l then none else some ((t, .imap (l ++ [n])) :: s)
      | _ => none)
    | _, _ => none
def mputB (s : S) (t : Nat) (n : Int) (v : SV) : Option S := match v with
      | .imap l => if n ∈ l then none else some ((t, .imap (l ++ [n])) :: s)
      | _ => none
def rvT (g : Nat → SV) (v : SV) : Option SV := match v with
    | .al u none => (match g u with | .own _ sz xs => some (.list sz xs) | _ => none)
    | .dead | .al _ _ | .place _ _ | .elem _ _ _ _ | .mal _ => none
    | v => some v
def rvCc (n : Nat) (ag : Bool) (v : SV) : Option SV := match v with
    | .box y => (match ag, y with
      | true, .agg cs => if cs.length = n ∧ (cs.map snapC).all SV.solid = true then some (.agg (cs.map snapC)) else none
      | true, _ => none
      | false, .agg _ => none
      | false, y => if (snapC y).solid = true ∧ (snapC y).isAgg = false then some (snapC y) else none)
    | _ => none
def rvc (v : Option SV) (l : Option (List SV)) : Option (List SV) := match v, l with | some v, some vs => some (v :: vs) | _, _ => none
def rvO (l : Option (List SV)) : Option SV := match l with | some [v] => some v | some vs => some (.tuple vs) | none => none
def snapP (v : SV) : Option (SV × Bool) := match v with
    | .box (.agg cs) => if (cs.map snapC).all SV.solid = true then some (.ref (.agg (cs.map snapC)), true) else none
    | .box y => if (snapC y).solid = true ∧ (snapC y).isAgg = false then some (.ref (snapC y), true) else none
    | _ => none
def snapA (v : SV) : Option (SV × Bool) := match v with | .own _ sz xs => some (.list sz xs, true) | _ => none
def spO (v : Option Bool) (neg : Bool) : Option SV := match v with | some v => some (.bool (if neg = true then !v else v)) | none => none

def eqbV (neg : Bool) (v w : SV) : Option SV := match v, w with | .bool a, .bool b => some (.bool (if neg = true then a != b else a == b)) | _, _ => none
def notV (v : SV) : Option SV := match v with | .bool v => some (.bool !v) | _ => none
def convV (k : IntKind) (v : SV) : Option SV := match v with | .int _ n => some (.int k (k.wrap n)) | _ => none
def ownL (v : SV) : Option Nat := match v with | .own _ _ xs => some xs.length | _ => none
def nagg (v : Option SV) : Option SV := match v with | some c => if c.isAgg = true then none else some c | none => none
def iaO (sz : Nat) (k : Int) (t : Nat) (o : Option Nat) (v : SV) : Option SV := match v with | .own _ sz' xs => if sz' = sz ∧ 0 ≤ k ∧ k < xs.length then some (.elem t o k.toNat 0) else none | _ => none
def rdA (o n : Nat) (v : SV) : Option SV := match v with | .box y => if o + n ≤ y.cells.length ∧ ((y.cells.drop o).take n).all (SV.imm 2) = true then some (.agg ((y.cells.drop o).take n)) else none | _ => none
def rdD (t o : Nat) (v : Option SV) : Option SV := match v with
  | some (.own _ _ _) => some (.al t (some o))
  | some c => if c.imm 3 = true then some c else none
  | none => none
def rdC (t o : Nat) (v : SV) : Option SV := match v with | .box y => rdD t o (y.cells[o]?) | _ => none
def rdF (c n : Nat) (ag : Bool) (v : Option SV) : Option SV := match v with | some y => part y.cells c n ag | none => none
def rdE (i c n : Nat) (ag : Bool) (v : SV) : Option SV := match v with | .own _ _ xs => rdF c n ag (xs[i]?) | _ => none
def extV (i : Nat) (v : SV) : Option SV := match v with | .tuple cs => cs[i]? | _ => none
def nchkV (v : SV) : Option SV := match v with | .ref y => some (.ref y) | .place t o => some (.place t o) | .elem t o i c => some (.elem t o i c) | _ => none
def slcO (sz z : Nat) (xs : List SV) (a c : Option Int) : Option SV := match a, c with | some l, some h => if z = sz ∧ 0 ≤ l ∧ l ≤ h ∧ h ≤ xs.length then some (.list sz ((xs.drop l.toNat).take (h.toNat - l.toNat))) else none | _, _ => none
def slcV (g : Nat → SV) (sz : Nat) (v : SV) (lo hi : Option SX) : Option SV := match v with | .list sz' xs => slcO sz sz' xs (bnd g 0 lo) (bnd g xs.length hi) | _ => none
def bndV (v : SV) : Option Int := match v with | .int _ k => some k | _ => none
def minV (v w : SV) : Option SV := match v, w with | .int k a, .int _ b => some (.int k (if b < a then b else a)) | _, _ => none
def stB (s : S) (n t o : Nat) (v p : SV) : Option S := if v.cells.length = n ∧ v.cells.all SV.one = true ∧ v.solid = true then (match p with
        | .box y => if o + n ≤ y.cells.length ∧ ((y.cells.drop o).take n).all (SV.imm 2) = true then some ((t, .box (y.recell (setS y.cells o v.cells))) :: s) else none
        | _ => none) else none
def stF (s : S) (n t i c e sz : Nat) (xs : List SV) (v : SV) (q : Option SV) : Option S := if v.cells.length = n ∧ v.cells.all SV.one = true ∧ v.solid = true then (match q with
          | some z => if c + n ≤ z.cells.length then some ((t, .own e sz (xs.set i (z.recell (setS z.cells c v.cells)))) :: s) else none
          | none => none) else none
def stE (s : S) (n t i c : Nat) (v p : SV) : Option S := if v.cells.length = n ∧ v.cells.all SV.one = true ∧ v.solid = true then (match p with
        | .own e sz xs => (match xs[i]? with
          | some z => if c + n ≤ z.cells.length then some ((t, .own e sz (xs.set i (z.recell (setS z.cells c v.cells)))) :: s) else none
          | none => none)
        | _ => none) else none
def killS (t : Nat) (s : S) : S := s.map fun p => (p.1, killV t p.2)
def appB (s : S) (d e sz bytes t : Nat) (v : SV) (q : Option (List SV)) : Option S := match v with
        | .own e' sz' xs => (match q with
          | some ys => if e' = e ∧ sz' = sz ∧ (get s d).free = true ∧ (ys.all fun y => y.cells.all SV.one) = true ∧ (xs.length + ys.length) * bytes ≤ 140737488355328 ∧ xs.length + ys.length ≤ 140737488355328 then
              some ((d, .own e sz (xs ++ ys)) :: (t, .dead) :: killS t s) else none
          | none => none)
        | _ => none
def appA (s : S) (d e sz bytes : Nat) (v u : SV) : Option S := match v with | .al t none => appB s d e sz bytes t (get s t) (srcOf (get s) u sz) | _ => none
def rvA (v : SV) : Option SV := match v with | .own _ sz xs => some (.list sz xs) | _ => none
def srcO (v : SV) (sz : Nat) : Option (List SV) := match v with | .own _ sz' ys => if sz' = sz then some ys else none | _ => none

/-- The number that a slot tells: for a loop's measure. -/
def natOf (v : SV) : Nat := match v with | .int _ n => n.toNat | _ => 0
theorem getD_map {α : Type} (f : α → SV) {l : List α} {k : Nat} (h : k < l.length) : (l.map f).getD k .dead = f l[k] := by
  rw [List.getD_eq_getElem?_getD, List.getElem?_map, List.getElem?_eq_getElem h]; rfl
theorem wrap_id {n : Int} (h0 : -9223372036854775808 ≤ n) (h1 : n ≤ 9223372036854775807) : IntKind.i64.wrap n = n := by rw [IntKind.wrap_i64]; omega

theorem R0 (P : Program) {Q : Ex → S → Prop} (s : S) : swp P .skip Q s = Q .normal s := rfl
theorem R1 (P : Program) {Q : Ex → S → Prop} (D k : List Nat) (q : RS) (s : S) : swp P (.reg false D q k) Q s = (frees D s = true ∧ rsT P none q s (.fin k Q)) := rfl
theorem R2 (P : Program) {Q : Ex → S → Prop} (D k : List Nat) (q : RS) (s : S) : swp P (.reg true D q k) Q s = (frees D s = true ∧ rsT P (some (lim D (get s))) q s (.fin k Q)) := rfl
theorem R3 (P : Program) {Q : Ex → S → Prop} (a b : SC) (s : S) : swp P (.seq a b) Q s = swp P a (thenQ (swp P b Q) Q) s := rfl
theorem R4 (P : Program) {Q : Ex → S → Prop} (x : SX) (a b : SC) (s : S) : swp P (.cond x a b) Q s = condS P (cp (get s) x) a b Q s := rfl
theorem R5 (P : Program) {Q : Ex → S → Prop} (a : SC) (i : Nat) (s : S) : swp P (.block i a) Q s = swp P a (blockQ i Q) s := rfl
theorem R6 (P : Program) {Q : Ex → S → Prop} (i : Nat) (s : S) : swp P (.exit i) Q s = Q (.exit i) s := rfl
theorem R7 (P : Program) {Q : Ex → S → Prop} (s : S) : swp P .ret Q s = Q .ret s := rfl
theorem R8 (P : Program) {Q : Ex → S → Prop} (a b : SC) (s : S) : condS P (.bool true) a b Q s = swp P a Q s := by simp [condS, Br]
theorem R9 (P : Program) {Q : Ex → S → Prop} (a b : SC) (s : S) : condS P (.bool false) a b Q s = swp P b Q s := by simp [condS, Br]
theorem R10 (K : S → Prop) (Q : Ex → S → Prop) (s : S) : thenQ K Q .normal s = K s := rfl
theorem R11 (K : S → Prop) (Q : Ex → S → Prop) (s : S) (i : Nat) : thenQ K Q (.exit i) s = Q (.exit i) s := rfl
theorem R12 (K : S → Prop) (Q : Ex → S → Prop) (s : S) : thenQ K Q .ret s = Q .ret s := rfl
theorem R13 (Q : Ex → S → Prop) (s : S) (i : Nat) : blockQ i Q .normal s = Q .normal s := rfl
theorem R14 (Q : Ex → S → Prop) (s : S) (i : Nat) : blockQ i Q .ret s = Q .ret s := rfl
theorem R15 (Q : Ex → S → Prop) (s : S) (i j : Nat) : blockQ i Q (.exit j) s = if j = i then Q .normal s else Q (.exit j) s := rfl
theorem R16 (D : List Nat) : frees D [] = true := rfl
theorem R17 (D : List Nat) (t : Nat) (v : SV) (s : S) : frees D ((t, v) :: s) = ((v.free || !D.contains t) && frees D s) := rfl
theorem R18 (t : Nat) : get [] t = .dead := rfl
theorem R19 (t u : Nat) (v : SV) (s : S) : get ((u, v) :: s) t = if u = t then v else get s t := rfl
theorem R20 (k : List Nat) (s : S) : sel k s = selA k k s := by
    unfold sel
    have : ∀ l : List Nat, (l.map fun t => (t, keepV k (get s t))) = selA k l s := fun l => by induction l with
      | nil => rfl
      | cons t l ih => rw [List.map_cons, ih]; rfl
    exact this k
theorem R21 (k : List Nat) (s : S) : selA k [] s = [] := rfl
theorem R22 (k l : List Nat) (t : Nat) (s : S) : selA k (t :: l) s = (t, keepV k (get s t)) :: selA k l s := rfl
theorem R23 (kp : List Nat) (k : IntKind) (n : Int) : keepV kp (.int k n) = .int k n := rfl
theorem R24 (kp : List Nat) (v : Bool) : keepV kp (.bool v) = .bool v := rfl
theorem R25 (kp : List Nat) (v : ByteArray) : keepV kp (.str v) = .str v := rfl
theorem R26 (kp : List Nat)  : keepV kp (.nilp) = .nilp := rfl
theorem R27 (kp : List Nat) (z : Nat) (l : List SV) : keepV kp (.list z l) = .list z l := rfl
theorem R28 (kp : List Nat) (l : List SV) : keepV kp (.agg l) = .agg l := rfl
theorem R29 (kp : List Nat) (v : SV) : keepV kp (.ref v) = .ref v := rfl
theorem R30 (kp : List Nat) (f : FuncId) (l : List SV) : keepV kp (.func f l) = .func f l := rfl
theorem R31 (kp : List Nat) (l : List SV) : keepV kp (.tuple l) = .tuple l := rfl
theorem R32 (kp : List Nat) (e z : Nat) (l : List SV) : keepV kp (.own e z l) = .own e z l := rfl
theorem R33 (kp : List Nat) (v : SV) : keepV kp (.box v) = .box v := rfl
theorem R34 (kp : List Nat) (t o : Nat) : keepV kp (.place t o) = if kp.contains t = true then .place t o else .dead := rfl
theorem R35 (kp : List Nat) (t : Nat) (o : Option Nat) (i c : Nat) : keepV kp (.elem t o i c) = if kp.contains t = true then .elem t o i c else .dead := rfl
theorem R36 (kp : List Nat) (t : Nat) (o : Option Nat) : keepV kp (.al t o) = if kp.contains t = true then .al t o else .dead := rfl
theorem R37 (kp : List Nat)  : keepV kp (.undef) = .undef := rfl
theorem R38 (kp : List Nat) (l : List Int) : keepV kp (.imap l) = .imap l := rfl
theorem R39 (kp : List Nat) (t : Nat) : keepV kp (.mal t) = if kp.contains t = true then .mal t else .dead := rfl
theorem R40 (kp : List Nat) : keepV kp .dead = .dead := rfl
theorem R41 (k : IntKind) (n : Int) : SV.free (.int k n) = true := rfl
theorem R42 (v : Bool) : SV.free (.bool v) = true := rfl
theorem R43 (v : ByteArray) : SV.free (.str v) = true := rfl
theorem R44  : SV.free (.nilp) = true := rfl
theorem R45 (z : Nat) (l : List SV) : SV.free (.list z l) = true := rfl
theorem R46 (l : List SV) : SV.free (.agg l) = true := rfl
theorem R47 (v : SV) : SV.free (.ref v) = true := rfl
theorem R48 (f : FuncId) (l : List SV) : SV.free (.func f l) = true := rfl
theorem R49 (l : List SV) : SV.free (.tuple l) = true := rfl
theorem R50 (e z : Nat) (l : List SV) : SV.free (.own e z l) = false := rfl
theorem R51 (v : SV) : SV.free (.box v) = false := rfl
theorem R52 (t o : Nat) : SV.free (.place t o) = true := rfl
theorem R53 (t : Nat) (o : Option Nat) (i c : Nat) : SV.free (.elem t o i c) = true := rfl
theorem R54 (t : Nat) (o : Option Nat) : SV.free (.al t o) = true := rfl
theorem R55  : SV.free (.undef) = true := rfl
theorem R56 (l : List Int) : SV.free (.imap l) = false := rfl
theorem R57 (t : Nat) : SV.free (.mal t) = true := rfl
theorem R58  : SV.free (.dead) = true := rfl
theorem R59 (g : Nat → SV) (v : SV) : cp g (.c v) = v := rfl
theorem R60 (g : Nat → SV) (t : Nat) : cp g (.t t) = cpv t (g t) := rfl
theorem R61 (u : Nat) (k : IntKind) (n : Int) : cpv u (.int k n) = .int k n := rfl
theorem R62 (u : Nat) (v : Bool) : cpv u (.bool v) = .bool v := rfl
theorem R63 (u : Nat) (v : ByteArray) : cpv u (.str v) = .str v := rfl
theorem R64 (u : Nat)  : cpv u (.nilp) = .nilp := rfl
theorem R65 (u : Nat) (z : Nat) (l : List SV) : cpv u (.list z l) = .list z l := rfl
theorem R66 (u : Nat) (l : List SV) : cpv u (.agg l) = if l.all (SV.imm 2) = true then .agg l else .dead := rfl
theorem R67 (u : Nat) (v : SV) : cpv u (.ref v) = .ref v := rfl
theorem R68 (u : Nat) (f : FuncId) (l : List SV) : cpv u (.func f l) = .func f l := rfl
theorem R69 (u : Nat) (l : List SV) : cpv u (.tuple l) = if l.all (SV.imm 3) = true then .tuple l else .dead := rfl
theorem R70 (u : Nat) (e z : Nat) (l : List SV) : cpv u (.own e z l) = .al u none := rfl
theorem R71 (u : Nat) (v : SV) : cpv u (.box v) = .place u 0 := rfl
theorem R72 (u : Nat) (t o : Nat) : cpv u (.place t o) = .place t o := rfl
theorem R73 (u : Nat) (t : Nat) (o : Option Nat) (i c : Nat) : cpv u (.elem t o i c) = .elem t o i c := rfl
theorem R74 (u : Nat) (t : Nat) (o : Option Nat) : cpv u (.al t o) = .al t o := rfl
theorem R75 (u : Nat)  : cpv u (.undef) = .undef := rfl
theorem R76 (u : Nat) (l : List Int) : cpv u (.imap l) = .mal u := rfl
theorem R77 (u : Nat) (t : Nat) : cpv u (.mal t) = .mal t := rfl
theorem R78 (k : IntKind) (n : Int) : movv (.int k n) = some (.int k n) := rfl
theorem R79 (v : Bool) : movv (.bool v) = some (.bool v) := rfl
theorem R80 (v : ByteArray) : movv (.str v) = some (.str v) := rfl
theorem R81  : movv (.nilp) = some (.nilp) := rfl
theorem R82 (z : Nat) (l : List SV) : movv (.list z l) = some (.list z l) := rfl
theorem R83 (l : List SV) : movv (.agg l) = some (.agg l) := rfl
theorem R84 (v : SV) : movv (.ref v) = some (.ref v) := rfl
theorem R85 (f : FuncId) (l : List SV) : movv (.func f l) = some (.func f l) := rfl
theorem R86 (l : List SV) : movv (.tuple l) = some (.tuple l) := rfl
theorem R87 (e z : Nat) (l : List SV) : movv (.own e z l) = some (.own e z l) := rfl
theorem R88 (v : SV) : movv (.box v) = some (.box v) := rfl
theorem R89 (t o : Nat) : movv (.place t o) = some (.place t o) := rfl
theorem R90 (t : Nat) (o : Option Nat) (i c : Nat) : movv (.elem t o i c) = some (.elem t o i c) := rfl
theorem R91 (t : Nat) (o : Option Nat) : movv (.al t o) = some (.al t o) := rfl
theorem R92  : movv (.undef) = some (.undef) := rfl
theorem R93 (l : List Int) : movv (.imap l) = some (.imap l) := rfl
theorem R94 (t : Nat) : movv (.mal t) = some (.mal t) := rfl
theorem R95 {P : Program} {B : Option (Nat → SV)} (s : S) (k : List Nat) (Q : Ex → S → Prop) : rsT P B .nil s (.fin k Q) = Q .normal (sel k s) := rfl
theorem R96 {P : Program} {B : Option (Nat → SV)} (s : S) (d : Nat) (x : SX) (rest : RS) (nx : KT) : rsT P B .nil s (.pick d x rest nx) = pickK P B (cp (get s) x) d rest s nx := rfl
theorem R97 {P : Program} {B : Option (Nat → SV)} (d : Nat) (rest : RS) (s : S) (kt : KT) (k : IntKind) (n : Int) : pickK P B (.int k n) d rest s kt = rsT P B rest ((d, .int k n) :: s) kt := rfl
theorem R98 {P : Program} {B : Option (Nat → SV)} (d : Nat) (rest : RS) (s : S) (kt : KT) (v : Bool) : pickK P B (.bool v) d rest s kt = rsT P B rest ((d, .bool v) :: s) kt := rfl
theorem R99 {P : Program} {B : Option (Nat → SV)} (d : Nat) (rest : RS) (s : S) (kt : KT) (v : ByteArray) : pickK P B (.str v) d rest s kt = rsT P B rest ((d, .str v) :: s) kt := rfl
theorem R100 {P : Program} {B : Option (Nat → SV)} (d : Nat) (rest : RS) (s : S) (kt : KT)  : pickK P B (.nilp) d rest s kt = rsT P B rest ((d, .nilp) :: s) kt := rfl
theorem R101 {P : Program} {B : Option (Nat → SV)} (d : Nat) (rest : RS) (s : S) (kt : KT) (z : Nat) (l : List SV) : pickK P B (.list z l) d rest s kt = rsT P B rest ((d, .list z l) :: s) kt := rfl
theorem R102 {P : Program} {B : Option (Nat → SV)} (d : Nat) (rest : RS) (s : S) (kt : KT) (l : List SV) : pickK P B (.agg l) d rest s kt = rsT P B rest ((d, .agg l) :: s) kt := rfl
theorem R103 {P : Program} {B : Option (Nat → SV)} (d : Nat) (rest : RS) (s : S) (kt : KT) (v : SV) : pickK P B (.ref v) d rest s kt = rsT P B rest ((d, .ref v) :: s) kt := rfl
theorem R104 {P : Program} {B : Option (Nat → SV)} (d : Nat) (rest : RS) (s : S) (kt : KT) (f : FuncId) (l : List SV) : pickK P B (.func f l) d rest s kt = rsT P B rest ((d, .func f l) :: s) kt := rfl
theorem R105 {P : Program} {B : Option (Nat → SV)} (d : Nat) (rest : RS) (s : S) (kt : KT) (l : List SV) : pickK P B (.tuple l) d rest s kt = rsT P B rest ((d, .tuple l) :: s) kt := rfl
theorem R106 {P : Program} {B : Option (Nat → SV)} (d : Nat) (rest : RS) (s : S) (kt : KT) (e z : Nat) (l : List SV) : pickK P B (.own e z l) d rest s kt = rsT P B rest ((d, .own e z l) :: s) kt := rfl
theorem R107 {P : Program} {B : Option (Nat → SV)} (d : Nat) (rest : RS) (s : S) (kt : KT) (v : SV) : pickK P B (.box v) d rest s kt = rsT P B rest ((d, .box v) :: s) kt := rfl
theorem R108 {P : Program} {B : Option (Nat → SV)} (d : Nat) (rest : RS) (s : S) (kt : KT) (t o : Nat) : pickK P B (.place t o) d rest s kt = rsT P B rest ((d, .place t o) :: s) kt := rfl
theorem R109 {P : Program} {B : Option (Nat → SV)} (d : Nat) (rest : RS) (s : S) (kt : KT) (t : Nat) (o : Option Nat) (i c : Nat) : pickK P B (.elem t o i c) d rest s kt = rsT P B rest ((d, .elem t o i c) :: s) kt := rfl
theorem R110 {P : Program} {B : Option (Nat → SV)} (d : Nat) (rest : RS) (s : S) (kt : KT) (t : Nat) (o : Option Nat) : pickK P B (.al t o) d rest s kt = rsT P B rest ((d, .al t o) :: s) kt := rfl
theorem R111 {P : Program} {B : Option (Nat → SV)} (d : Nat) (rest : RS) (s : S) (kt : KT)  : pickK P B (.undef) d rest s kt = rsT P B rest ((d, .undef) :: s) kt := rfl
theorem R112 {P : Program} {B : Option (Nat → SV)} (d : Nat) (rest : RS) (s : S) (kt : KT) (l : List Int) : pickK P B (.imap l) d rest s kt = rsT P B rest ((d, .imap l) :: s) kt := rfl
theorem R113 {P : Program} {B : Option (Nat → SV)} (d : Nat) (rest : RS) (s : S) (kt : KT) (t : Nat) : pickK P B (.mal t) d rest s kt = rsT P B rest ((d, .mal t) :: s) kt := rfl
theorem R114 {P : Program} {b : Nat → SV} (op : SOp) (d : Nat) (rest : RS) (s : S) (kt : KT) : rsT P (some b) (.op d (.p op) rest) s kt = opK P (some b) (pv (get s) b op) d rest s kt := rfl
theorem R115 {P : Program} (op : SOp) (d : Nat) (rest : RS) (s : S) (kt : KT) : rsT P none (.op d (.p op) rest) s kt = opK P none (pv (get s) (get s) op) d rest s kt := rfl
theorem R116 {P : Program} {B : Option (Nat → SV)} (z : SV) (d : Nat) (rest : RS) (s : S) (kt : KT) : opK P B (some z) d rest s kt = rsT P B rest ((d, z) :: s) kt := rfl
theorem R117 {P : Program} {B : Option (Nat → SV)} (c : Prop) [Decidable c] (z : SV) (d : Nat) (rest : RS) (s : S) (kt : KT) : opK P B (if c then some z else none) d rest s kt = (c ∧ rsT P B rest ((d, z) :: s) kt) := by by_cases h : c <;> simp [h, opK]
theorem R118 {P : Program} {b : Nat → SV} (f : FuncId) (xs : List SX) (d : Nat) (rest : RS) (s : S) (kt : KT) : rsT P (some b) (.op d (.call f xs) rest) s kt = callA P (some b) f (argv (get s) b xs) d rest s kt := rfl
theorem R119 {P : Program} (f : FuncId) (xs : List SX) (d : Nat) (rest : RS) (s : S) (kt : KT) : rsT P none (.op d (.call f xs) rest) s kt = callA P none f (argv (get s) (get s) xs) d rest s kt := rfl
theorem R120 {P : Program} {B : Option (Nat → SV)} (f : FuncId) (as : List SV) (sn : Bool) (d : Nat) (rest : RS) (s : S) (kt : KT) : callA P B f (some (as, sn)) d rest s kt = callS P B f as sn d rest s kt := rfl
theorem R121 {P : Program} {b : Nat → SV} (x : SX) (xs : List SX) (d : Nat) (rest : RS) (s : S) (kt : KT) : rsT P (some b) (.op d (.callv x xs) rest) s kt = callV P (some b) (cp (get s) x) (argv (get s) b xs) d rest s kt := by simp only [rsT, rs, yk, callV, Option.getD]; cases cp (get s) x <;> rfl
theorem R122 {P : Program} (x : SX) (xs : List SX) (d : Nat) (rest : RS) (s : S) (kt : KT) : rsT P none (.op d (.callv x xs) rest) s kt = callV P none (cp (get s) x) (argv (get s) (get s) xs) d rest s kt := by simp only [rsT, rs, yk, callV, Option.getD]; cases cp (get s) x <;> rfl
theorem R123 {P : Program} {B : Option (Nat → SV)} (f : FuncId) (cs as : List SV) (sn : Bool) (d : Nat) (rest : RS) (s : S) (kt : KT) : callV P B (.func f cs) (some (as, sn)) d rest s kt = (okBody P f = true ∧ callS P B f (as ++ cs) sn d rest s kt) := rfl
theorem R124 {P : Program} {B : Option (Nat → SV)} (t : Nat) (w : Bool) (blk : RS) (x : SX) (d : Nat) (rest : RS) (s : S) (kt : KT) : rsT P B (.sc t w blk d x rest) s kt = scS P B (get s t) w blk d x rest s kt := by simp only [rsT, rs, scS]; cases get s t <;> rfl
theorem R125 {P : Program} {B : Option (Nat → SV)} (blk : RS) (x : SX) (d : Nat) (rest : RS) (s : S) (kt : KT) : scS P B (.bool true) true blk d x rest s kt = rsT P B blk s (.pick d x rest kt) := by simp [scS, Br]
theorem R126 {P : Program} {B : Option (Nat → SV)} (blk : RS) (x : SX) (d : Nat) (rest : RS) (s : S) (kt : KT) : scS P B (.bool true) false blk d x rest s kt = rsT P B rest ((d, .bool true) :: (undefs blk ++ s)) kt := by simp [scS, Br]
theorem R127 {P : Program} {B : Option (Nat → SV)} (blk : RS) (x : SX) (d : Nat) (rest : RS) (s : S) (kt : KT) : scS P B (.bool false) true blk d x rest s kt = rsT P B rest ((d, .bool false) :: (undefs blk ++ s)) kt := by simp [scS, Br]
theorem R128 {P : Program} {B : Option (Nat → SV)} (blk : RS) (x : SX) (d : Nat) (rest : RS) (s : S) (kt : KT) : scS P B (.bool false) false blk d x rest s kt = rsT P B blk s (.pick d x rest kt) := by simp [scS, Br]
theorem R129  : undefs .nil = [] := rfl
theorem R130 (d : Nat) (o : FOp) (rest : RS) : undefs (.op d o rest) = (d, .undef) :: undefs rest := rfl
theorem R131 (t d : Nat) (w : Bool) (blk rest : RS) (x : SX) : undefs (.sc t w blk d x rest) = undefs blk ++ (d, .undef) :: undefs rest := rfl
theorem R132 (s : S) : ([] : S) ++ s = s := rfl
theorem R133 (p : Nat × SV) (s r : S) : (p :: s) ++ r = p :: (s ++ r) := rfl
theorem R134 {P : Program} {B : Option (Nat → SV)} (d : Option Nat) (e : EOp) (rest : RS) (s : S) (kt : KT) : rsT P B (.eff d e rest) s kt = effK P B (effL s d e) rest kt := by simp only [rsT, rs, effK]; cases effL s d e <;> rfl
theorem R135 {P : Program} {B : Option (Nat → SV)} (rest : RS) (s : S) (kt : KT) : effK P B (some s) rest kt = rsT P B rest s kt := rfl
theorem R136 {P : Program} {B : Option (Nat → SV)} (c : Prop) [Decidable c] (rest : RS) (s : S) (kt : KT) : effK P B (if c then some s else none) rest kt = (c ∧ rsT P B rest s kt) := by by_cases h : c <;> simp [h, effK]
theorem R137 (g b : Nat → SV) (x : SX) : pv g b (.mov x) = movv (cp g x) := rfl
theorem R138 (g b : Nat → SV) (op : BinOp) (x y : SX) : pv g b (.bin op x y) = sbin op (cp g x) (cp g y) := rfl
theorem R139 (g b : Nat → SV) (neg : Bool) (x y : SX) : pv g b (.eqp neg x y) = spO (speq (cp g x) (cp g y)) neg := rfl
theorem R140 (v neg : Bool) : spO (some v) neg = some (.bool (if neg = true then !v else v)) := rfl
theorem R141 (g b : Nat → SV) (x y : SX) : pv g b (.eqb true x y) = eqbV true (cp g x) (cp g y) := rfl
theorem R142 (g b : Nat → SV) (x y : SX) : pv g b (.eqb false x y) = eqbV false (cp g x) (cp g y) := rfl
theorem R143 (v w : Bool) : eqbV true (.bool v) (.bool w) = some (.bool (v != w)) := rfl
theorem R144 (v w : Bool) : eqbV false (.bool v) (.bool w) = some (.bool (v == w)) := rfl
theorem R145 (g b : Nat → SV) (x : SX) : pv g b (.not x) = notV (cp g x) := rfl
theorem R146 (v : Bool) : notV (.bool v) = some (.bool !v) := rfl
theorem R147 (g b : Nat → SV) (k : IntKind) (x : SX) : pv g b (.conv k x) = convV k (cp g x) := rfl
theorem R148 (k k2 : IntKind) (n : Int) : convV k (.int k2 n) = some (.int k (k.wrap n)) := rfl
theorem R149 (g b : Nat → SV) (x : SX) : pv g b (.len x) = lenO (pvL b (cp g x)) := rfl
theorem R150 (n : Nat) : lenO (some n) = some (.int .i64 n) := rfl
theorem R151 (b : Nat → SV) (z : Nat) (l : List SV) : pvL b (.list z l) = some l.length := rfl
theorem R152 (b : Nat → SV) (t : Nat) (o : Option Nat) : pvL b (.al t o) = ownL ((b t).at o) := rfl
theorem R153 (e z : Nat) (l : List SV) : ownL (.own e z l) = some l.length := rfl
theorem R154 (x : SV) : SV.at x none = x := rfl
theorem R155 (y : SV) (o : Nat) : SV.at (.box y) (some o) = y.cells.getD o .dead := rfl
theorem R156 (g b : Nat → SV) (off n : Nat) (ag : Bool) (x : SX) : pv g b (.fa off n ag x) = faV off n ag (cp g x) := rfl
theorem R157 (off n : Nat) (ag : Bool) (y : SV) : faV off n ag (.ref y) = refO (part y.cells off n ag) := rfl
theorem R158 (z : SV) : refO (some z) = some (.ref z) := rfl
theorem R159 (off n t o : Nat) (ag : Bool) : faV off n ag (.place t o) = some (.place t (o + off)) := rfl
theorem R160 (off n t i c : Nat) (o : Option Nat) (ag : Bool) : faV off n ag (.elem t o i c) = some (.elem t o i (c + off)) := rfl
theorem R161 (cs : List SV) (off n : Nat) : part cs off n true = if off + n ≤ cs.length then some (.agg ((cs.drop off).take n)) else none := rfl
theorem R162 (cs : List SV) (off n : Nat) : part cs off n false = nagg (cs[off]?) := rfl
theorem R163 (k : IntKind) (n : Int) : nagg (some (.int k n)) = some (.int k n) := rfl
theorem R164 (v : Bool) : nagg (some (.bool v)) = some (.bool v) := rfl
theorem R165 (v : ByteArray) : nagg (some (.str v)) = some (.str v) := rfl
theorem R166  : nagg (some (.nilp)) = some (.nilp) := rfl
theorem R167 (z : Nat) (l : List SV) : nagg (some (.list z l)) = some (.list z l) := rfl
theorem R168 (v : SV) : nagg (some (.ref v)) = some (.ref v) := rfl
theorem R169 (f : FuncId) (l : List SV) : nagg (some (.func f l)) = some (.func f l) := rfl
theorem R170 (l : List SV) : nagg (some (.tuple l)) = some (.tuple l) := rfl
theorem R171 (e z : Nat) (l : List SV) : nagg (some (.own e z l)) = some (.own e z l) := rfl
theorem R172 (v : SV) : nagg (some (.box v)) = some (.box v) := rfl
theorem R173 (t o : Nat) : nagg (some (.place t o)) = some (.place t o) := rfl
theorem R174 (t : Nat) (o : Option Nat) (i c : Nat) : nagg (some (.elem t o i c)) = some (.elem t o i c) := rfl
theorem R175 (t : Nat) (o : Option Nat) : nagg (some (.al t o)) = some (.al t o) := rfl
theorem R176  : nagg (some (.undef)) = some (.undef) := rfl
theorem R177 (l : List Int) : nagg (some (.imap l)) = some (.imap l) := rfl
theorem R178 (t : Nat) : nagg (some (.mal t)) = some (.mal t) := rfl
theorem R179 (l : List SV) : SV.cells (.agg l) = l := rfl
theorem R180 (k : IntKind) (n : Int) : SV.cells (.int k n) = [.int k n] := rfl
theorem R181 (v : Bool) : SV.cells (.bool v) = [.bool v] := rfl
theorem R182 (v : ByteArray) : SV.cells (.str v) = [.str v] := rfl
theorem R183  : SV.cells (.nilp) = [.nilp] := rfl
theorem R184 (z : Nat) (l : List SV) : SV.cells (.list z l) = [.list z l] := rfl
theorem R185 (v : SV) : SV.cells (.ref v) = [.ref v] := rfl
theorem R186 (f : FuncId) (l : List SV) : SV.cells (.func f l) = [.func f l] := rfl
theorem R187 (l : List SV) : SV.cells (.tuple l) = [.tuple l] := rfl
theorem R188 (e z : Nat) (l : List SV) : SV.cells (.own e z l) = [.own e z l] := rfl
theorem R189 (v : SV) : SV.cells (.box v) = [.box v] := rfl
theorem R190 (t o : Nat) : SV.cells (.place t o) = [.place t o] := rfl
theorem R191 (t : Nat) (o : Option Nat) (i c : Nat) : SV.cells (.elem t o i c) = [.elem t o i c] := rfl
theorem R192 (t : Nat) (o : Option Nat) : SV.cells (.al t o) = [.al t o] := rfl
theorem R193  : SV.cells (.undef) = [.undef] := rfl
theorem R194 (l : List Int) : SV.cells (.imap l) = [.imap l] := rfl
theorem R195 (t : Nat) : SV.cells (.mal t) = [.mal t] := rfl
theorem R196 (g b : Nat → SV) (sz : Nat) (x i : SX) : pv g b (.ia sz x i) = iaV b sz (cp g i) (cp g x) := rfl
theorem R197 (b : Nat → SV) (sz z : Nat) (k : IntKind) (n : Int) (l : List SV) : iaV b sz (.int k n) (.list z l) = if z = sz ∧ 0 ≤ n ∧ n < l.length then some (.ref (l.getD n.toNat .dead)) else none := rfl
theorem R198 (b : Nat → SV) (sz t : Nat) (k : IntKind) (n : Int) (o : Option Nat) : iaV b sz (.int k n) (.al t o) = iaO sz n t o ((b t).at o) := rfl
theorem R199 (sz t e z : Nat) (n : Int) (o : Option Nat) (l : List SV) : iaO sz n t o (.own e z l) = if z = sz ∧ 0 ≤ n ∧ n < l.length then some (.elem t o n.toNat 0) else none := rfl
theorem R200 (g b : Nat → SV) (num sz : Nat) (ag : Bool) (x i : SX) : pv g b (.iaa num sz ag x i) = iaaV num sz ag (cp g i) (cp g x) := rfl
theorem R201 (num sz : Nat) (ag : Bool) (k : IntKind) (n : Int) (y : SV) : iaaV num sz ag (.int k n) (.ref y) = if 0 ≤ n ∧ n < num then refO (part y.cells (n.toNat * sz) sz ag) else none := rfl
theorem R202 (num sz t o : Nat) (ag : Bool) (k : IntKind) (n : Int) : iaaV num sz ag (.int k n) (.place t o) = if 0 ≤ n ∧ n < num then some (.place t (o + n.toNat * sz)) else none := rfl
theorem R203 (g b : Nat → SV) (num sz : Nat) (ag : Bool) (x i : SX) : pv g b (.ixa num sz ag x i) = ixaV num sz ag (cp g i) (cp g x) := rfl
theorem R204 (num sz : Nat) (ag : Bool) (k : IntKind) (n : Int) (l : List SV) : ixaV num sz ag (.int k n) (.agg l) = if 0 ≤ n ∧ n < num then part l (n.toNat * sz) sz ag else none := rfl
theorem R205 (g b : Nat → SV) (n : Nat) (ag : Bool) (x : SX) : pv g b (.ld n ag x) = rd b (cp g x) n ag := rfl
theorem R206 (b : Nat → SV) (n : Nat) (l : List SV) : rd b (.ref (.agg l)) n true = if l.length = n then some (.agg l) else none := rfl
theorem R207 (b : Nat → SV) (m : Nat) (k : IntKind) (n : Int) : rd b (.ref (.int k n)) m false = some (.int k n) := rfl
theorem R208 (b : Nat → SV) (m : Nat) (v : Bool) : rd b (.ref (.bool v)) m false = some (.bool v) := rfl
theorem R209 (b : Nat → SV) (m : Nat) (v : ByteArray) : rd b (.ref (.str v)) m false = some (.str v) := rfl
theorem R210 (b : Nat → SV) (m : Nat)  : rd b (.ref (.nilp)) m false = some (.nilp) := rfl
theorem R211 (b : Nat → SV) (m : Nat) (z : Nat) (l : List SV) : rd b (.ref (.list z l)) m false = some (.list z l) := rfl
theorem R212 (b : Nat → SV) (m : Nat) (v : SV) : rd b (.ref (.ref v)) m false = some (.ref v) := rfl
theorem R213 (b : Nat → SV) (m : Nat) (f : FuncId) (l : List SV) : rd b (.ref (.func f l)) m false = some (.func f l) := rfl
theorem R214 (b : Nat → SV) (m : Nat) (l : List SV) : rd b (.ref (.tuple l)) m false = some (.tuple l) := rfl
theorem R215 (b : Nat → SV) (m : Nat) (e z : Nat) (l : List SV) : rd b (.ref (.own e z l)) m false = some (.own e z l) := rfl
theorem R216 (b : Nat → SV) (m : Nat) (v : SV) : rd b (.ref (.box v)) m false = some (.box v) := rfl
theorem R217 (b : Nat → SV) (m : Nat) (t o : Nat) : rd b (.ref (.place t o)) m false = some (.place t o) := rfl
theorem R218 (b : Nat → SV) (m : Nat) (t : Nat) (o : Option Nat) (i c : Nat) : rd b (.ref (.elem t o i c)) m false = some (.elem t o i c) := rfl
theorem R219 (b : Nat → SV) (m : Nat) (t : Nat) (o : Option Nat) : rd b (.ref (.al t o)) m false = some (.al t o) := rfl
theorem R220 (b : Nat → SV) (m : Nat)  : rd b (.ref (.undef)) m false = some (.undef) := rfl
theorem R221 (b : Nat → SV) (m : Nat) (l : List Int) : rd b (.ref (.imap l)) m false = some (.imap l) := rfl
theorem R222 (b : Nat → SV) (m : Nat) (t : Nat) : rd b (.ref (.mal t)) m false = some (.mal t) := rfl
theorem R223 (b : Nat → SV) (t o n : Nat) : rd b (.place t o) n true = rdA o n (b t) := rfl
theorem R224 (b : Nat → SV) (t o n : Nat) : rd b (.place t o) n false = rdC t o (b t) := rfl
theorem R225 (o n : Nat) (y : SV) : rdA o n (.box y) = if o + n ≤ y.cells.length ∧ ((y.cells.drop o).take n).all (SV.imm 2) = true then some (.agg ((y.cells.drop o).take n)) else none := rfl
theorem R226 (t o : Nat) (y : SV) : rdC t o (.box y) = rdD t o (y.cells[o]?) := rfl
theorem R227 (t o : Nat) (k : IntKind) (n : Int) : rdD t o (some (.int k n)) = some (.int k n) := rfl
theorem R228 (t o : Nat) (v : Bool) : rdD t o (some (.bool v)) = some (.bool v) := rfl
theorem R229 (t o : Nat) (v : ByteArray) : rdD t o (some (.str v)) = some (.str v) := rfl
theorem R230 (t o : Nat)  : rdD t o (some (.nilp)) = some (.nilp) := rfl
theorem R231 (t o : Nat) (z : Nat) (l : List SV) : rdD t o (some (.list z l)) = some (.list z l) := rfl
theorem R232 (t o : Nat) (l : List SV) : rdD t o (some (.agg l)) = if l.all (SV.imm 2) = true then some (.agg l) else none := rfl
theorem R233 (t o : Nat) (v : SV) : rdD t o (some (.ref v)) = some (.ref v) := rfl
theorem R234 (t o : Nat) (f : FuncId) (l : List SV) : rdD t o (some (.func f l)) = some (.func f l) := rfl
theorem R235 (t o : Nat) (l : List SV) : rdD t o (some (.tuple l)) = if l.all (SV.imm 2) = true then some (.tuple l) else none := rfl
theorem R236 (t o : Nat) (e z : Nat) (l : List SV) : rdD t o (some (.own e z l)) = some (.al t (some o)) := rfl
theorem R237 (t o : Nat)  : rdD t o (some (.undef)) = some (.undef) := rfl
theorem R238 (b : Nat → SV) (t i c n : Nat) (o : Option Nat) (ag : Bool) : rd b (.elem t o i c) n ag = rdE i c n ag ((b t).at o) := rfl
theorem R239 (i c n e z : Nat) (ag : Bool) (l : List SV) : rdE i c n ag (.own e z l) = rdF c n ag (l[i]?) := rfl
theorem R240 (c n : Nat) (ag : Bool) (y : SV) : rdF c n ag (some y) = part y.cells c n ag := rfl
theorem R241 (g b : Nat → SV) (x : SX) (i : Nat) : pv g b (.ext x i) = extV i (cp g x) := rfl
theorem R242 (i : Nat) (l : List SV) : extV i (.tuple l) = l[i]? := rfl
theorem R243 (g b : Nat → SV) (x : SX) : pv g b (.nchk x) = nchkV (cp g x) := rfl
theorem R244 (y : SV) : nchkV (.ref y) = some (.ref y) := rfl
theorem R245 (t o : Nat) : nchkV (.place t o) = some (.place t o) := rfl
theorem R246 (t i c : Nat) (o : Option Nat) : nchkV (.elem t o i c) = some (.elem t o i c) := rfl
theorem R247 (g b : Nat → SV) (z : SV) : pv g b (.alloc z) = boxO z := rfl
theorem R248 (g b : Nat → SV) (x : SX) : pv g b (.box x) = boxO (cp g x) := rfl
theorem R249 (v : SV) : boxO v = if v.solid = true then some (.box v) else none := rfl
theorem R250 (k : IntKind) (n : Int) : SV.solid (.int k n) = true := rfl
theorem R251 (k : IntKind) (n : Int) : SV.imm 1 (.int k n) = true := rfl
theorem R252 (k : IntKind) (n : Int) : SV.imm 2 (.int k n) = true := rfl
theorem R253 (k : IntKind) (n : Int) : SV.imm 3 (.int k n) = true := rfl
theorem R254 (k : IntKind) (n : Int) : SV.flat 3 (.int k n) = true := rfl
theorem R255 (k : IntKind) (n : Int) : SV.flat 2 (.int k n) = true := rfl
theorem R256 (k : IntKind) (n : Int) : SV.one (.int k n) = true := rfl
theorem R257 (k : IntKind) (n : Int) : snapC (.int k n) = .int k n := rfl
theorem R258 (k : IntKind) (n : Int) : SV.isAgg (.int k n) = false := rfl
theorem R259 (v : Bool) : SV.solid (.bool v) = true := rfl
theorem R260 (v : Bool) : SV.imm 1 (.bool v) = true := rfl
theorem R261 (v : Bool) : SV.imm 2 (.bool v) = true := rfl
theorem R262 (v : Bool) : SV.imm 3 (.bool v) = true := rfl
theorem R263 (v : Bool) : SV.flat 3 (.bool v) = true := rfl
theorem R264 (v : Bool) : SV.flat 2 (.bool v) = true := rfl
theorem R265 (v : Bool) : SV.one (.bool v) = true := rfl
theorem R266 (v : Bool) : snapC (.bool v) = .bool v := rfl
theorem R267 (v : Bool) : SV.isAgg (.bool v) = false := rfl
theorem R268 (v : ByteArray) : SV.solid (.str v) = true := rfl
theorem R269 (v : ByteArray) : SV.imm 1 (.str v) = true := rfl
theorem R270 (v : ByteArray) : SV.imm 2 (.str v) = true := rfl
theorem R271 (v : ByteArray) : SV.imm 3 (.str v) = true := rfl
theorem R272 (v : ByteArray) : SV.flat 3 (.str v) = true := rfl
theorem R273 (v : ByteArray) : SV.flat 2 (.str v) = true := rfl
theorem R274 (v : ByteArray) : SV.one (.str v) = true := rfl
theorem R275 (v : ByteArray) : snapC (.str v) = .str v := rfl
theorem R276 (v : ByteArray) : SV.isAgg (.str v) = false := rfl
theorem R277  : SV.solid (.nilp) = true := rfl
theorem R278  : SV.imm 1 (.nilp) = true := rfl
theorem R279  : SV.imm 2 (.nilp) = true := rfl
theorem R280  : SV.imm 3 (.nilp) = true := rfl
theorem R281  : SV.flat 3 (.nilp) = true := rfl
theorem R282  : SV.flat 2 (.nilp) = true := rfl
theorem R283  : SV.one (.nilp) = true := rfl
theorem R284  : snapC (.nilp) = .nilp := rfl
theorem R285  : SV.isAgg (.nilp) = false := rfl
theorem R286 (z : Nat) (l : List SV) : SV.solid (.list z l) = true := rfl
theorem R287 (z : Nat) (l : List SV) : SV.imm 1 (.list z l) = true := rfl
theorem R288 (z : Nat) (l : List SV) : SV.imm 2 (.list z l) = true := rfl
theorem R289 (z : Nat) (l : List SV) : SV.imm 3 (.list z l) = true := rfl
theorem R290 (z : Nat) (l : List SV) : SV.flat 3 (.list z l) = false := rfl
theorem R291 (z : Nat) (l : List SV) : SV.flat 2 (.list z l) = false := rfl
theorem R292 (z : Nat) (l : List SV) : SV.one (.list z l) = true := rfl
theorem R293 (z : Nat) (l : List SV) : snapC (.list z l) = .list z l := rfl
theorem R294 (z : Nat) (l : List SV) : SV.isAgg (.list z l) = false := rfl
theorem R295 (l : List SV) : SV.solid (.agg l) = l.all (SV.imm 2) := rfl
theorem R296 (l : List SV) : SV.imm 1 (.agg l) = l.all (SV.imm 0) := rfl
theorem R297 (l : List SV) : SV.imm 2 (.agg l) = l.all (SV.imm 1) := rfl
theorem R298 (l : List SV) : SV.imm 3 (.agg l) = l.all (SV.imm 2) := rfl
theorem R299 (l : List SV) : SV.flat 3 (.agg l) = l.all (SV.flat 2) := rfl
theorem R300 (l : List SV) : SV.flat 2 (.agg l) = l.all (SV.flat 1) := rfl
theorem R301 (l : List SV) : SV.one (.agg l) = false := rfl
theorem R302 (l : List SV) : snapC (.agg l) = .agg l := rfl
theorem R303 (l : List SV) : SV.isAgg (.agg l) = true := rfl
theorem R304 (v : SV) : SV.solid (.ref v) = true := rfl
theorem R305 (v : SV) : SV.imm 1 (.ref v) = true := rfl
theorem R306 (v : SV) : SV.imm 2 (.ref v) = true := rfl
theorem R307 (v : SV) : SV.imm 3 (.ref v) = true := rfl
theorem R308 (v : SV) : SV.flat 3 (.ref v) = false := rfl
theorem R309 (v : SV) : SV.flat 2 (.ref v) = false := rfl
theorem R310 (v : SV) : SV.one (.ref v) = true := rfl
theorem R311 (v : SV) : snapC (.ref v) = .ref v := rfl
theorem R312 (v : SV) : SV.isAgg (.ref v) = false := rfl
theorem R313 (f : FuncId) (l : List SV) : SV.solid (.func f l) = true := rfl
theorem R314 (f : FuncId) (l : List SV) : SV.imm 1 (.func f l) = true := rfl
theorem R315 (f : FuncId) (l : List SV) : SV.imm 2 (.func f l) = true := rfl
theorem R316 (f : FuncId) (l : List SV) : SV.imm 3 (.func f l) = true := rfl
theorem R317 (f : FuncId) (l : List SV) : SV.flat 3 (.func f l) = false := rfl
theorem R318 (f : FuncId) (l : List SV) : SV.flat 2 (.func f l) = false := rfl
theorem R319 (f : FuncId) (l : List SV) : SV.one (.func f l) = true := rfl
theorem R320 (f : FuncId) (l : List SV) : snapC (.func f l) = .func f l := rfl
theorem R321 (f : FuncId) (l : List SV) : SV.isAgg (.func f l) = false := rfl
theorem R322 (l : List SV) : SV.solid (.tuple l) = l.all (SV.imm 2) := rfl
theorem R323 (l : List SV) : SV.imm 1 (.tuple l) = l.all (SV.imm 0) := rfl
theorem R324 (l : List SV) : SV.imm 2 (.tuple l) = l.all (SV.imm 1) := rfl
theorem R325 (l : List SV) : SV.imm 3 (.tuple l) = l.all (SV.imm 2) := rfl
theorem R326 (l : List SV) : SV.flat 3 (.tuple l) = l.all (SV.flat 2) := rfl
theorem R327 (l : List SV) : SV.flat 2 (.tuple l) = l.all (SV.flat 1) := rfl
theorem R328 (l : List SV) : SV.one (.tuple l) = false := rfl
theorem R329 (l : List SV) : snapC (.tuple l) = .tuple l := rfl
theorem R330 (l : List SV) : SV.isAgg (.tuple l) = false := rfl
theorem R331 (e z : Nat) (l : List SV) : SV.solid (.own e z l) = false := rfl
theorem R332 (e z : Nat) (l : List SV) : SV.imm 1 (.own e z l) = false := rfl
theorem R333 (e z : Nat) (l : List SV) : SV.imm 2 (.own e z l) = false := rfl
theorem R334 (e z : Nat) (l : List SV) : SV.imm 3 (.own e z l) = false := rfl
theorem R335 (e z : Nat) (l : List SV) : SV.flat 3 (.own e z l) = false := rfl
theorem R336 (e z : Nat) (l : List SV) : SV.flat 2 (.own e z l) = false := rfl
theorem R337 (e z : Nat) (l : List SV) : SV.one (.own e z l) = false := rfl
theorem R338 (e z : Nat) (l : List SV) : snapC (.own e z l) = .list z l := rfl
theorem R339 (e z : Nat) (l : List SV) : SV.isAgg (.own e z l) = false := rfl
theorem R340 (v : SV) : SV.solid (.box v) = false := rfl
theorem R341 (v : SV) : SV.imm 1 (.box v) = false := rfl
theorem R342 (v : SV) : SV.imm 2 (.box v) = false := rfl
theorem R343 (v : SV) : SV.imm 3 (.box v) = false := rfl
theorem R344 (v : SV) : SV.flat 3 (.box v) = false := rfl
theorem R345 (v : SV) : SV.flat 2 (.box v) = false := rfl
theorem R346 (v : SV) : SV.one (.box v) = false := rfl
theorem R347 (v : SV) : snapC (.box v) = .box v := rfl
theorem R348 (v : SV) : SV.isAgg (.box v) = false := rfl
theorem R349 (t o : Nat) : SV.solid (.place t o) = false := rfl
theorem R350 (t o : Nat) : SV.imm 1 (.place t o) = false := rfl
theorem R351 (t o : Nat) : SV.imm 2 (.place t o) = false := rfl
theorem R352 (t o : Nat) : SV.imm 3 (.place t o) = false := rfl
theorem R353 (t o : Nat) : SV.flat 3 (.place t o) = false := rfl
theorem R354 (t o : Nat) : SV.flat 2 (.place t o) = false := rfl
theorem R355 (t o : Nat) : SV.one (.place t o) = false := rfl
theorem R356 (t o : Nat) : snapC (.place t o) = .place t o := rfl
theorem R357 (t o : Nat) : SV.isAgg (.place t o) = false := rfl
theorem R358 (t : Nat) (o : Option Nat) (i c : Nat) : SV.solid (.elem t o i c) = false := rfl
theorem R359 (t : Nat) (o : Option Nat) (i c : Nat) : SV.imm 1 (.elem t o i c) = false := rfl
theorem R360 (t : Nat) (o : Option Nat) (i c : Nat) : SV.imm 2 (.elem t o i c) = false := rfl
theorem R361 (t : Nat) (o : Option Nat) (i c : Nat) : SV.imm 3 (.elem t o i c) = false := rfl
theorem R362 (t : Nat) (o : Option Nat) (i c : Nat) : SV.flat 3 (.elem t o i c) = false := rfl
theorem R363 (t : Nat) (o : Option Nat) (i c : Nat) : SV.flat 2 (.elem t o i c) = false := rfl
theorem R364 (t : Nat) (o : Option Nat) (i c : Nat) : SV.one (.elem t o i c) = false := rfl
theorem R365 (t : Nat) (o : Option Nat) (i c : Nat) : snapC (.elem t o i c) = .elem t o i c := rfl
theorem R366 (t : Nat) (o : Option Nat) (i c : Nat) : SV.isAgg (.elem t o i c) = false := rfl
theorem R367 (t : Nat) (o : Option Nat) : SV.solid (.al t o) = false := rfl
theorem R368 (t : Nat) (o : Option Nat) : SV.imm 1 (.al t o) = false := rfl
theorem R369 (t : Nat) (o : Option Nat) : SV.imm 2 (.al t o) = false := rfl
theorem R370 (t : Nat) (o : Option Nat) : SV.imm 3 (.al t o) = false := rfl
theorem R371 (t : Nat) (o : Option Nat) : SV.flat 3 (.al t o) = false := rfl
theorem R372 (t : Nat) (o : Option Nat) : SV.flat 2 (.al t o) = false := rfl
theorem R373 (t : Nat) (o : Option Nat) : SV.one (.al t o) = false := rfl
theorem R374 (t : Nat) (o : Option Nat) : snapC (.al t o) = .al t o := rfl
theorem R375 (t : Nat) (o : Option Nat) : SV.isAgg (.al t o) = false := rfl
theorem R376  : SV.solid (.undef) = true := rfl
theorem R377  : SV.imm 1 (.undef) = true := rfl
theorem R378  : SV.imm 2 (.undef) = true := rfl
theorem R379  : SV.imm 3 (.undef) = true := rfl
theorem R380  : SV.flat 3 (.undef) = true := rfl
theorem R381  : SV.flat 2 (.undef) = true := rfl
theorem R382  : SV.one (.undef) = false := rfl
theorem R383  : snapC (.undef) = .undef := rfl
theorem R384  : SV.isAgg (.undef) = false := rfl
theorem R385 (l : List Int) : SV.solid (.imap l) = false := rfl
theorem R386 (l : List Int) : SV.imm 1 (.imap l) = false := rfl
theorem R387 (l : List Int) : SV.imm 2 (.imap l) = false := rfl
theorem R388 (l : List Int) : SV.imm 3 (.imap l) = false := rfl
theorem R389 (l : List Int) : SV.flat 3 (.imap l) = false := rfl
theorem R390 (l : List Int) : SV.flat 2 (.imap l) = false := rfl
theorem R391 (l : List Int) : SV.one (.imap l) = false := rfl
theorem R392 (l : List Int) : snapC (.imap l) = .imap l := rfl
theorem R393 (l : List Int) : SV.isAgg (.imap l) = false := rfl
theorem R394 (t : Nat) : SV.solid (.mal t) = false := rfl
theorem R395 (t : Nat) : SV.imm 1 (.mal t) = false := rfl
theorem R396 (t : Nat) : SV.imm 2 (.mal t) = false := rfl
theorem R397 (t : Nat) : SV.imm 3 (.mal t) = false := rfl
theorem R398 (t : Nat) : SV.flat 3 (.mal t) = false := rfl
theorem R399 (t : Nat) : SV.flat 2 (.mal t) = false := rfl
theorem R400 (t : Nat) : SV.one (.mal t) = false := rfl
theorem R401 (t : Nat) : snapC (.mal t) = .mal t := rfl
theorem R402 (t : Nat) : SV.isAgg (.mal t) = false := rfl
theorem R403 (g b : Nat → SV) (z : List SV) (ps : List (Nat × Nat × SX)) : pv g b (.build z ps) = aggO (fillS g z ps) := rfl
theorem R404 (l : List SV) : aggO (some l) = some (.agg l) := rfl
theorem R405 (c : Prop) [Decidable c] (l : List SV) : aggO (if c then some l else none) = if c then some (.agg l) else none := by by_cases h : c <;> simp [h, aggO]
theorem R406 (g : Nat → SV) (cs : List SV) : fillS g cs [] = some cs := rfl
theorem R407 (g : Nat → SV) (cs : List SV) (off n : Nat) (x : SX) (rest : List (Nat × Nat × SX)) : fillS g cs ((off, n, x) :: rest) = fillc g cs off n (cp g x) rest := rfl
theorem R408 (g : Nat → SV) (cs : List SV) (off n : Nat) (v : SV) (rest : List (Nat × Nat × SX)) : fillc g cs off n v rest = if v.cells.length = n ∧ off + n ≤ cs.length ∧ v.solid = true then fillS g (setS cs off v.cells) rest else none := rfl
theorem R409 (cs : List SV) (o : Nat) : setS cs o [] = cs := rfl
theorem R410 (cs l : List SV) (o : Nat) (v : SV) : setS cs o (v :: l) = setS (cs.set o v) (o + 1) l := rfl
theorem R411 (g b : Nat → SV) (f : FuncId) (xs : List SX) : pv g b (.fn f xs) = funO f (caps g xs) := rfl
theorem R412 (f : FuncId) (l : List SV) : funO f (some l) = some (.func f l) := rfl
theorem R413 (g : Nat → SV) : caps g [] = some [] := rfl
theorem R414 (g : Nat → SV) (x : SX) (xs : List SX) : caps g (x :: xs) = capc (cp g x) (caps g xs) := rfl
theorem R415 (v : SV) (l : List SV) : capc v (some l) = if v.solid = true then some (v :: l) else none := rfl
theorem R416 (g b : Nat → SV) (sz : Nat) (x : SX) (lo hi : Option SX) : pv g b (.slc sz x lo hi) = slcV g sz (cp g x) lo hi := rfl
theorem R417 (g : Nat → SV) (sz z : Nat) (l : List SV) (lo hi : Option SX) : slcV g sz (.list z l) lo hi = slcO sz z l (bnd g 0 lo) (bnd g l.length hi) := rfl
theorem R418 (sz z : Nat) (l : List SV) (a c : Int) : slcO sz z l (some a) (some c) = if z = sz ∧ 0 ≤ a ∧ a ≤ c ∧ c ≤ l.length then some (.list sz ((l.drop a.toNat).take (c.toNat - a.toNat))) else none := rfl
theorem R419 (g : Nat → SV) (d : Nat) : bnd g d none = some (d : Int) := rfl
theorem R420 (g : Nat → SV) (d : Nat) (x : SX) : bnd g d (some x) = bndV (cp g x) := rfl
theorem R421 (k : IntKind) (n : Int) : bndV (.int k n) = some n := rfl
theorem R422 (g b : Nat → SV) (x y : SX) : pv g b (.mini x y) = minV (cp g x) (cp g y) := rfl
theorem R423 (k k2 : IntKind) (a c : Int) : minV (.int k a) (.int k2 c) = some (.int k (if c < a then c else a)) := rfl
theorem R424 (g b : Nat → SV) (e sz : Nat) (xs : List SX) : pv g b (.bsl e sz xs) = ownO e sz (solids g sz xs) := rfl
theorem R425 (e sz : Nat) (l : List SV) : ownO e sz (some l) = some (.own e sz l) := rfl
theorem R426 (c : Prop) [Decidable c] (e sz : Nat) (l : List SV) : ownO e sz (if c then some l else none) = if c then some (.own e sz l) else none := by by_cases h : c <;> simp [h, ownO]
theorem R427 (g : Nat → SV) (sz : Nat) : solids g sz [] = some [] := rfl
theorem R428 (g : Nat → SV) (sz : Nat) (x : SX) (xs : List SX) : solids g sz (x :: xs) = solc sz (cp g x) (solids g sz xs) := rfl
theorem R429 (sz : Nat) (v : SV) (l : List SV) : solc sz v (some l) = if v.cells.length = sz ∧ v.solid = true then some (v :: l) else none := rfl
theorem R430 (g b : Nat → SV) (e sz y : Nat) (z : SV) (x : SX) : pv g b (.mks e sz y z x) = mksV e sz y z (cp g x) := rfl
theorem R431 (e sz y : Nat) (z : SV) (k : Int) : mksV e sz y z (.int .i64 k) = if 0 ≤ k ∧ k.toNat * y ≤ 2 ^ 47 ∧ k.toNat ≤ 2 ^ 47 ∧ z.cells.length = sz then some (.own e sz (List.replicate k.toNat z)) else none := rfl
theorem R432 (k : IntKind) (a c : Int) : sbin .add (.int k a) (.int k c) = some (.int k (k.wrap (a + c))) := by simp [sbin, ibin]
theorem R433 (k : IntKind) (a c : Int) : sbin .sub (.int k a) (.int k c) = some (.int k (k.wrap (a - c))) := by simp [sbin, ibin]
theorem R434 (k : IntKind) (a c : Int) : sbin .mul (.int k a) (.int k c) = some (.int k (k.wrap (a * c))) := by simp [sbin, ibin]
theorem R435 (k : IntKind) (a c : Int) : sbin .quo (.int k a) (.int k c) = if c = 0 then none else some (.int k (k.wrap (a.tdiv c))) := by simp [sbin, ibin]
theorem R436 (k : IntKind) (a c : Int) : sbin .rem (.int k a) (.int k c) = if c = 0 then none else some (.int k (a.tmod c)) := by simp [sbin, ibin]
theorem R437 (k : IntKind) (a c : Int) : sbin .and (.int k a) (.int k c) = some (.int k (bitw .and k a c)) := by simp [sbin, ibin]
theorem R438 (k : IntKind) (a c : Int) : sbin .or (.int k a) (.int k c) = some (.int k (bitw .or k a c)) := by simp [sbin, ibin]
theorem R439 (k : IntKind) (a c : Int) : sbin .xor (.int k a) (.int k c) = some (.int k (bitw .xor k a c)) := by simp [sbin, ibin]
theorem R440 (k : IntKind) (a c : Int) : sbin .andNot (.int k a) (.int k c) = some (.int k (bitw .andNot k a c)) := by simp [sbin, ibin]
theorem R441 (k : IntKind) (a c : Int) : sbin .eql (.int k a) (.int k c) = some (.bool (a == c)) := by simp [sbin, ibin]
theorem R442 (k : IntKind) (a c : Int) : sbin .neq (.int k a) (.int k c) = some (.bool (a != c)) := by simp [sbin, ibin]
theorem R443 (k : IntKind) (a c : Int) : sbin .lss (.int k a) (.int k c) = some (.bool (decide (a < c))) := by simp [sbin, ibin]
theorem R444 (k : IntKind) (a c : Int) : sbin .leq (.int k a) (.int k c) = some (.bool (decide (a ≤ c))) := by simp [sbin, ibin]
theorem R445 (k : IntKind) (a c : Int) : sbin .gtr (.int k a) (.int k c) = some (.bool (decide (a > c))) := by simp [sbin, ibin]
theorem R446 (k : IntKind) (a c : Int) : sbin .geq (.int k a) (.int k c) = some (.bool (decide (a ≥ c))) := by simp [sbin, ibin]
theorem R447 (k k2 : IntKind) (a c : Int) : sbin .shl (.int k a) (.int k2 c) = if c < 0 then none else some (.int k (k.wrap (a * 2 ^ min c.toNat k.bits))) := rfl
theorem R448 (k k2 : IntKind) (a c : Int) : sbin .shr (.int k a) (.int k2 c) = if c < 0 then none else some (.int k (a.fdiv (2 ^ min c.toNat k.bits))) := rfl
theorem R449 {P : Program} {B : Option (Nat → SV)} (c : Prop) [Decidable c] (z : SV) (d : Nat) (rest : RS) (s : S) (kt : KT) : opK P B (if c then none else some z) d rest s kt = (¬ c ∧ rsT P B rest ((d, z) :: s) kt) := by by_cases h : c <;> simp [h, opK]
theorem R450   : speq (.nilp) (.nilp) = some true := rfl
theorem R451 (v : SV)  : speq (.ref v) (.nilp) = some false := rfl
theorem R452  (v : SV) : speq (.nilp) (.ref v) = some false := rfl
theorem R453 (t o : Nat)  : speq (.place t o) (.nilp) = some false := rfl
theorem R454  (t o : Nat) : speq (.nilp) (.place t o) = some false := rfl
theorem R455 (t : Nat) (o : Option Nat) (i c : Nat)  : speq (.elem t o i c) (.nilp) = some false := rfl
theorem R456  (t : Nat) (o : Option Nat) (i c : Nat) : speq (.nilp) (.elem t o i c) = some false := rfl
theorem R457 (g b : Nat → SV) : argv g b [] = some ([], false) := rfl
theorem R458 (g b : Nat → SV) (x : SX) (xs : List SX) : argv g b (x :: xs) = argc (snap b (cp g x)) (argv g b xs) := rfl
theorem R459 (v : SV) (l : List SV) (s t : Bool) : argc (some (v, s)) (some (l, t)) = some (v :: l, s || t) := rfl
theorem R460 (b : Nat → SV) (k : IntKind) (n : Int) : snap b (.int k n) = some (.int k n, false) := rfl
theorem R461 (b : Nat → SV) (v : Bool) : snap b (.bool v) = some (.bool v, false) := rfl
theorem R462 (b : Nat → SV) (v : ByteArray) : snap b (.str v) = some (.str v, false) := rfl
theorem R463 (b : Nat → SV)  : snap b (.nilp) = some (.nilp, false) := rfl
theorem R464 (b : Nat → SV) (z : Nat) (l : List SV) : snap b (.list z l) = some (.list z l, false) := rfl
theorem R465 (b : Nat → SV) (v : SV) : snap b (.ref v) = some (.ref v, false) := rfl
theorem R466 (b : Nat → SV) (f : FuncId) (l : List SV) : snap b (.func f l) = some (.func f l, false) := rfl
theorem R467 (b : Nat → SV)  : snap b (.undef) = some (.undef, false) := rfl
theorem R468 (b : Nat → SV) (l : List SV) : snap b (.agg l) = if l.all (SV.imm 2) = true then some (.agg l, false) else none := rfl
theorem R469 (b : Nat → SV) (l : List SV) : snap b (.tuple l) = if l.all (SV.imm 2) = true then some (.tuple l, false) else none := rfl
theorem R470 (v w : SV × Bool) (c : Prop) [Decidable c] (l : Option (List SV × Bool)) : argc (if c then some v else none) l = if c then argc (some v) l else none := by by_cases h : c <;> simp [h, argc]
theorem R471 (b : Nat → SV) (t : Nat) (o : Option Nat) : snap b (.al t o) = snapA ((b t).at o) := rfl
theorem R472 (e z : Nat) (l : List SV) : snapA (.own e z l) = some (.list z l, true) := rfl
theorem R473 (b : Nat → SV) (t : Nat) : snap b (.place t 0) = snapP (b t) := rfl
theorem R474 (l : List SV) : snapP (.box (.agg l)) = if (l.map snapC).all SV.solid = true then some (.ref (.agg (l.map snapC)), true) else none := rfl
theorem R475 (k : IntKind) (n : Int) : snapP (.box (.int k n)) = some (.ref (.int k n), true) := rfl
theorem R476 (D : List Nat) (g : Nat → SV) (t : Nat) : lim D g t = if D.contains t = true then .dead else g t := rfl
theorem R477 (s : S) (n : Nat) (x v : SX) (d : Option Nat) : effL s d (.st n x v) = stK s n (cp (get s) x) (cp (get s) v) := rfl
theorem R478 (s : S) (n t o : Nat) (v : SV) : stK s n (.place t o) v = stB s n t o v (get s t) := by simp only [stK, stB]
theorem R479 (s : S) (n t o : Nat) (y v : SV) : stB s n t o v (.box y) = if v.cells.length = n ∧ v.cells.all SV.one = true ∧ v.solid = true ∧ o + n ≤ y.cells.length ∧ ((y.cells.drop o).take n).all (SV.imm 2) = true then some ((t, .box (y.recell (setS y.cells o v.cells))) :: s) else none := by
  by_cases h : v.cells.length = n ∧ v.cells.all SV.one = true ∧ v.solid = true
  · simp only [stB]; rw [if_pos h]; simp only [h, true_and]
  · simp only [stB]; rw [if_neg h, if_neg (fun q => h ⟨q.1, q.2.1, q.2.2.1⟩)]
theorem R480 (s : S) (n t i c : Nat) (v : SV) : stK s n (.elem t none i c) v = stE s n t i c v (get s t) := by simp only [stK, stE]
theorem R481 (s : S) (n t i c e z : Nat) (l : List SV) (v : SV) : stE s n t i c v (.own e z l) = stF s n t i c e z l v (l[i]?) := rfl
theorem R482 (s : S) (n t i c e z : Nat) (l : List SV) (v y : SV) : stF s n t i c e z l v (some y) = if v.cells.length = n ∧ v.cells.all SV.one = true ∧ v.solid = true ∧ c + n ≤ y.cells.length then some ((t, .own e z (l.set i (y.recell (setS y.cells c v.cells)))) :: s) else none := by
  by_cases h : v.cells.length = n ∧ v.cells.all SV.one = true ∧ v.solid = true
  · simp only [stF]; rw [if_pos h]; simp only [h, true_and]
  · simp only [stF]; rw [if_neg h, if_neg (fun q => h ⟨q.1, q.2.1, q.2.2.1⟩)]
theorem R483 (l cs : List SV) : SV.recell (.agg l) cs = .agg cs := rfl
theorem R484 (k : IntKind) (n : Int) (v : SV) : SV.recell (.int k n) [v] = v := rfl
theorem R485 (v0 : Bool) (v : SV) : SV.recell (.bool v0) [v] = v := rfl
theorem R486 (v0 : ByteArray) (v : SV) : SV.recell (.str v0) [v] = v := rfl
theorem R487  (v : SV) : SV.recell (.nilp) [v] = v := rfl
theorem R488 (z : Nat) (l : List SV) (v : SV) : SV.recell (.list z l) [v] = v := rfl
theorem R489 (v0 : SV) (v : SV) : SV.recell (.ref v0) [v] = v := rfl
theorem R490 (f : FuncId) (l : List SV) (v : SV) : SV.recell (.func f l) [v] = v := rfl
theorem R491 (l : List SV) (v : SV) : SV.recell (.tuple l) [v] = v := rfl
theorem R492 (e z : Nat) (l : List SV) (v : SV) : SV.recell (.own e z l) [v] = v := rfl
theorem R493 (v0 : SV) (v : SV) : SV.recell (.box v0) [v] = v := rfl
theorem R494 (t o : Nat) (v : SV) : SV.recell (.place t o) [v] = v := rfl
theorem R495 (t : Nat) (o : Option Nat) (i c : Nat) (v : SV) : SV.recell (.elem t o i c) [v] = v := rfl
theorem R496 (t : Nat) (o : Option Nat) (v : SV) : SV.recell (.al t o) [v] = v := rfl
theorem R497  (v : SV) : SV.recell (.undef) [v] = v := rfl
theorem R498 (l : List Int) (v : SV) : SV.recell (.imap l) [v] = v := rfl
theorem R499 (t : Nat) (v : SV) : SV.recell (.mal t) [v] = v := rfl
theorem R500 (s : S) (d t : Nat) : effL s (some d) (.asg t) = if d = t then none else asgK s d t (get s t) := by simp only [effL, asgK]; split <;> rfl
theorem R501 (s : S) (d t e z : Nat) (l : List SV) : asgK s d t (.own e z l) = some ((d, .own e z l) :: (t, .dead) :: killS t (killS d s)) := by simp [asgK, killS, List.map_map, Function.comp]
theorem R502 (s : S) (d t : Nat) (l : List Int) : asgK s d t (.imap l) = some ((d, .imap l) :: (t, .dead) :: killS t (killS d s)) := by simp [asgK, killS, List.map_map, Function.comp]
theorem R503 (g b : Nat → SV) : pv g b .mkm = some (.imap []) := rfl
theorem R504 (g b : Nat → SV) (x i : SX) : pv g b (.look x i) = lookV b (cp g x) (cp g i) := rfl
theorem R505 (b : Nat → SV) (t : Nat) (k : Int) : lookV b (.mal t) (.int .i64 k) = lookW k (b t) := rfl
theorem R506 (k : Int) (l : List Int) : lookW k (.imap l) = some (.bool (decide (k ∈ l))) := rfl
theorem R507 (s : S) (x k : SX) (d : Option Nat) : effL s d (.mput x k) = mputA s (cp (get s) x) (cp (get s) k) := rfl
theorem R508 (s : S) (t : Nat) (n : Int) : mputA s (.mal t) (.int .i64 n) = mputB s t n (get s t) := rfl
theorem R509 (s : S) (t : Nat) (n : Int) (l : List Int) : mputB s t n (.imap l) = if n ∈ l then none else some ((t, .imap (l ++ [n])) :: s) := rfl
theorem R510 {P : Program} {B : Option (Nat → SV)} (c : Prop) [Decidable c] (rest : RS) (s : S) (kt : KT) : effK P B (if c then none else some s) rest kt = (¬ c ∧ rsT P B rest s kt) := by by_cases h : c <;> simp [h, effK]
theorem R511 (t : Nat) : killS t [] = [] := rfl
theorem R512 (t u : Nat) (v : SV) (s : S) : killS t ((u, v) :: s) = (u, killV t v) :: killS t s := rfl
theorem R513 (u : Nat) (k : IntKind) (n : Int) : killV u (.int k n) = .int k n := rfl
theorem R514 (u : Nat) (v : Bool) : killV u (.bool v) = .bool v := rfl
theorem R515 (u : Nat) (v : ByteArray) : killV u (.str v) = .str v := rfl
theorem R516 (u : Nat)  : killV u (.nilp) = .nilp := rfl
theorem R517 (u : Nat) (z : Nat) (l : List SV) : killV u (.list z l) = .list z l := rfl
theorem R518 (u : Nat) (l : List SV) : killV u (.agg l) = .agg l := rfl
theorem R519 (u : Nat) (v : SV) : killV u (.ref v) = .ref v := rfl
theorem R520 (u : Nat) (f : FuncId) (l : List SV) : killV u (.func f l) = .func f l := rfl
theorem R521 (u : Nat) (l : List SV) : killV u (.tuple l) = .tuple l := rfl
theorem R522 (u : Nat) (e z : Nat) (l : List SV) : killV u (.own e z l) = .own e z l := rfl
theorem R523 (u : Nat) (v : SV) : killV u (.box v) = .box v := rfl
theorem R524 (u : Nat) (t9 o : Nat) : killV u (.place t9 o) = if t9 = u then .dead else .place t9 o := rfl
theorem R525 (u : Nat) (t9 : Nat) (o : Option Nat) (i c : Nat) : killV u (.elem t9 o i c) = if t9 = u then .dead else .elem t9 o i c := rfl
theorem R526 (u : Nat) (t9 : Nat) (o : Option Nat) : killV u (.al t9 o) = if t9 = u then .dead else .al t9 o := rfl
theorem R527 (u : Nat)  : killV u (.undef) = .undef := rfl
theorem R528 (u : Nat) (l : List Int) : killV u (.imap l) = .imap l := rfl
theorem R529 (u : Nat) (t9 : Nat) : killV u (.mal t9) = if t9 = u then .dead else .mal t9 := rfl
theorem R530 (u : Nat)  : killV u (.dead) = .dead := rfl
theorem R531 (s : S) (d e sz y : Nat) (x u : SX) : effL s (some d) (.app e sz y x u) = appA s d e sz y (cp (get s) x) (cp (get s) u) := rfl
theorem R532 (s : S) (d e sz y t : Nat) (v : SV) : appA s d e sz y (.al t none) v = appB s d e sz y t (get s t) (srcOf (get s) v sz) := rfl
theorem R533 (s : S) (d e sz y t e2 z : Nat) (l r : List SV) : appB s d e sz y t (.own e2 z l) (some r) = if e2 = e ∧ z = sz ∧ (get s d).free = true ∧ (r.all fun y => y.cells.all SV.one) = true ∧ (l.length + r.length) * y ≤ 140737488355328 ∧ l.length + r.length ≤ 140737488355328 then some ((d, .own e sz (l ++ r)) :: (t, .dead) :: killS t s) else none := rfl
theorem R534 (g : Nat → SV) (z sz : Nat) (l : List SV) : srcOf g (.list z l) sz = if z = sz then some l else none := rfl
theorem R535 (g : Nat → SV) (t sz : Nat) (o : Option Nat) : srcOf g (.al t o) sz = srcO ((g t).at o) sz := rfl
theorem R536 (e z sz : Nat) (l : List SV) : srcO (.own e z l) sz = if z = sz then some l else none := rfl
theorem R537 (rs : List RR) (v : SV) (s : S) : post rs v .normal s = (rvs (get s) rs = some v) := rfl
theorem R538 (rs : List RR) (v : SV) (s : S) : post rs v .ret s = (rvs (get s) rs = some v) := rfl
theorem R539 (g : Nat → SV) (rs : List RR) : rvs g rs = rvO (rvL g rs) := rfl
theorem R540 (g : Nat → SV) : rvL g [] = some [] := rfl
theorem R541 (g : Nat → SV) (q : RR) (rs : List RR) : rvL g (q :: rs) = rvc (rv g q) (rvL g rs) := rfl
theorem R542 (v : SV) (l : List SV) : rvc (some v) (some l) = some (v :: l) := rfl
theorem R543 (v : SV) : rvO (some [v]) = some v := rfl
theorem R544 (v w : SV) (l : List SV) : rvO (some (v :: w :: l)) = some (.tuple (v :: w :: l)) := rfl
theorem R545  : rvO (some []) = some (.tuple []) := rfl
theorem R546 (g : Nat → SV) (t : Nat) : rv g (.t t) = rvT g (cp g (.t t)) := rfl
theorem R547 (g : Nat → SV) (k : IntKind) (n : Int) : rvT g (.int k n) = some (.int k n) := rfl
theorem R548 (g : Nat → SV) (v : Bool) : rvT g (.bool v) = some (.bool v) := rfl
theorem R549 (g : Nat → SV) (v : ByteArray) : rvT g (.str v) = some (.str v) := rfl
theorem R550 (g : Nat → SV)  : rvT g (.nilp) = some (.nilp) := rfl
theorem R551 (g : Nat → SV) (z : Nat) (l : List SV) : rvT g (.list z l) = some (.list z l) := rfl
theorem R552 (g : Nat → SV) (l : List SV) : rvT g (.agg l) = some (.agg l) := rfl
theorem R553 (g : Nat → SV) (v : SV) : rvT g (.ref v) = some (.ref v) := rfl
theorem R554 (g : Nat → SV) (f : FuncId) (l : List SV) : rvT g (.func f l) = some (.func f l) := rfl
theorem R555 (g : Nat → SV) (l : List SV) : rvT g (.tuple l) = some (.tuple l) := rfl
theorem R556 (g : Nat → SV)  : rvT g (.undef) = some (.undef) := rfl
theorem R557 (g : Nat → SV) (u : Nat) : rvT g (.al u none) = rvA (g u) := rfl
theorem R558 (e z : Nat) (l : List SV) : rvA (.own e z l) = some (.list z l) := rfl
theorem R559 (g : Nat → SV) (t n : Nat) (ag : Bool) : rv g (.c t n ag) = rvCc n ag (g t) := rfl
theorem R560 (n : Nat) (l : List SV) : rvCc n true (.box (.agg l)) = if l.length = n ∧ (l.map snapC).all SV.solid = true then some (.agg (l.map snapC)) else none := rfl
theorem R561 (m : Nat) (k : IntKind) (n : Int) : rvCc m false (.box (.int k n)) = some (.int k n) := rfl
theorem R562 (m : Nat) (v : Bool) : rvCc m false (.box (.bool v)) = some (.bool v) := rfl
theorem R563 (m : Nat) (v : ByteArray) : rvCc m false (.box (.str v)) = some (.str v) := rfl
theorem R564 (m : Nat)  : rvCc m false (.box (.nilp)) = some (.nilp) := rfl
theorem R565 (m : Nat) (z : Nat) (l : List SV) : rvCc m false (.box (.list z l)) = some (.list z l) := rfl
theorem R566 (m : Nat) (v : SV) : rvCc m false (.box (.ref v)) = some (.ref v) := rfl
theorem R567 (c : Prop) [Decidable c] (v : SV) (l : Option (List SV)) : rvc (if c then some v else none) l = if c then rvc (some v) l else none := by by_cases h : c <;> simp [h, rvc]
theorem R568 (v : SV) : initS [v] = [(0, v)] := rfl
theorem R569  : initS [] = [] := rfl
theorem R570 (v w : SV) : initS [v, w] = [(0, v), (1, w)] := rfl
theorem R571 (v w x : SV) : initS [v, w, x] = [(0, v), (1, w), (2, x)] := rfl
theorem R572 (v w x y : SV) : initS [v, w, x, y] = [(0, v), (1, w), (2, x), (3, y)] := rfl
theorem R573 (k : IntKind) (n : Int) : natOf (.int k n) = n.toNat := rfl
theorem SS0 : (∀ (P : Program) {Q : Ex → S → Prop} (s : S), swp P .skip Q s = Q .normal s) ∧
  (∀ (P : Program) {Q : Ex → S → Prop} (D k : List Nat) (q : RS) (s : S), swp P (.reg false D q k) Q s = (frees D s = true ∧ rsT P none q s (.fin k Q))) ∧
  (∀ (P : Program) {Q : Ex → S → Prop} (D k : List Nat) (q : RS) (s : S), swp P (.reg true D q k) Q s = (frees D s = true ∧ rsT P (some (lim D (get s))) q s (.fin k Q))) ∧
  (∀ (P : Program) {Q : Ex → S → Prop} (a b : SC) (s : S), swp P (.seq a b) Q s = swp P a (thenQ (swp P b Q) Q) s) ∧
  (∀ (P : Program) {Q : Ex → S → Prop} (x : SX) (a b : SC) (s : S), swp P (.cond x a b) Q s = condS P (cp (get s) x) a b Q s) ∧
  (∀ (P : Program) {Q : Ex → S → Prop} (a : SC) (i : Nat) (s : S), swp P (.block i a) Q s = swp P a (blockQ i Q) s) ∧
  (∀ (P : Program) {Q : Ex → S → Prop} (i : Nat) (s : S), swp P (.exit i) Q s = Q (.exit i) s) ∧
  (∀ (P : Program) {Q : Ex → S → Prop} (s : S), swp P .ret Q s = Q .ret s) ∧
  (∀ (P : Program) {Q : Ex → S → Prop} (a b : SC) (s : S), condS P (.bool true) a b Q s = swp P a Q s) ∧
  (∀ (P : Program) {Q : Ex → S → Prop} (a b : SC) (s : S), condS P (.bool false) a b Q s = swp P b Q s) ∧
  (∀ (K : S → Prop) (Q : Ex → S → Prop) (s : S), thenQ K Q .normal s = K s) ∧
  (∀ (K : S → Prop) (Q : Ex → S → Prop) (s : S) (i : Nat), thenQ K Q (.exit i) s = Q (.exit i) s) ∧
  (∀ (K : S → Prop) (Q : Ex → S → Prop) (s : S), thenQ K Q .ret s = Q .ret s) ∧
  (∀ (Q : Ex → S → Prop) (s : S) (i : Nat), blockQ i Q .normal s = Q .normal s) ∧
  (∀ (Q : Ex → S → Prop) (s : S) (i : Nat), blockQ i Q .ret s = Q .ret s) ∧
  (∀ (Q : Ex → S → Prop) (s : S) (i j : Nat), blockQ i Q (.exit j) s = if j = i then Q .normal s else Q (.exit j) s) ∧
  (∀ (D : List Nat), frees D [] = true) ∧
  (∀ (D : List Nat) (t : Nat) (v : SV) (s : S), frees D ((t, v) :: s) = ((v.free || !D.contains t) && frees D s)) ∧
  (∀ (t : Nat), get [] t = .dead) ∧
  (∀ (t u : Nat) (v : SV) (s : S), get ((u, v) :: s) t = if u = t then v else get s t) :=
  ⟨@R0, @R1, @R2, @R3, @R4, @R5, @R6, @R7, @R8, @R9, @R10, @R11, @R12, @R13, @R14, @R15, @R16, @R17, @R18, @R19⟩
theorem SS1 : (∀ (k : List Nat) (s : S), sel k s = selA k k s) ∧
  (∀ (k : List Nat) (s : S), selA k [] s = []) ∧
  (∀ (k l : List Nat) (t : Nat) (s : S), selA k (t :: l) s = (t, keepV k (get s t)) :: selA k l s) ∧
  (∀ (kp : List Nat) (k : IntKind) (n : Int), keepV kp (.int k n) = .int k n) ∧
  (∀ (kp : List Nat) (v : Bool), keepV kp (.bool v) = .bool v) ∧
  (∀ (kp : List Nat) (v : ByteArray), keepV kp (.str v) = .str v) ∧
  (∀ (kp : List Nat), keepV kp (.nilp) = .nilp) ∧
  (∀ (kp : List Nat) (z : Nat) (l : List SV), keepV kp (.list z l) = .list z l) ∧
  (∀ (kp : List Nat) (l : List SV), keepV kp (.agg l) = .agg l) ∧
  (∀ (kp : List Nat) (v : SV), keepV kp (.ref v) = .ref v) ∧
  (∀ (kp : List Nat) (f : FuncId) (l : List SV), keepV kp (.func f l) = .func f l) ∧
  (∀ (kp : List Nat) (l : List SV), keepV kp (.tuple l) = .tuple l) ∧
  (∀ (kp : List Nat) (e z : Nat) (l : List SV), keepV kp (.own e z l) = .own e z l) ∧
  (∀ (kp : List Nat) (v : SV), keepV kp (.box v) = .box v) ∧
  (∀ (kp : List Nat) (t o : Nat), keepV kp (.place t o) = if kp.contains t = true then .place t o else .dead) ∧
  (∀ (kp : List Nat) (t : Nat) (o : Option Nat) (i c : Nat), keepV kp (.elem t o i c) = if kp.contains t = true then .elem t o i c else .dead) ∧
  (∀ (kp : List Nat) (t : Nat) (o : Option Nat), keepV kp (.al t o) = if kp.contains t = true then .al t o else .dead) ∧
  (∀ (kp : List Nat), keepV kp (.undef) = .undef) ∧
  (∀ (kp : List Nat) (l : List Int), keepV kp (.imap l) = .imap l) ∧
  (∀ (kp : List Nat) (t : Nat), keepV kp (.mal t) = if kp.contains t = true then .mal t else .dead) :=
  ⟨@R20, @R21, @R22, @R23, @R24, @R25, @R26, @R27, @R28, @R29, @R30, @R31, @R32, @R33, @R34, @R35, @R36, @R37, @R38, @R39⟩
theorem SS2 : (∀ (kp : List Nat), keepV kp .dead = .dead) ∧
  (∀ (k : IntKind) (n : Int), SV.free (.int k n) = true) ∧
  (∀ (v : Bool), SV.free (.bool v) = true) ∧
  (∀ (v : ByteArray), SV.free (.str v) = true) ∧
  (SV.free (.nilp) = true) ∧
  (∀ (z : Nat) (l : List SV), SV.free (.list z l) = true) ∧
  (∀ (l : List SV), SV.free (.agg l) = true) ∧
  (∀ (v : SV), SV.free (.ref v) = true) ∧
  (∀ (f : FuncId) (l : List SV), SV.free (.func f l) = true) ∧
  (∀ (l : List SV), SV.free (.tuple l) = true) ∧
  (∀ (e z : Nat) (l : List SV), SV.free (.own e z l) = false) ∧
  (∀ (v : SV), SV.free (.box v) = false) ∧
  (∀ (t o : Nat), SV.free (.place t o) = true) ∧
  (∀ (t : Nat) (o : Option Nat) (i c : Nat), SV.free (.elem t o i c) = true) ∧
  (∀ (t : Nat) (o : Option Nat), SV.free (.al t o) = true) ∧
  (SV.free (.undef) = true) ∧
  (∀ (l : List Int), SV.free (.imap l) = false) ∧
  (∀ (t : Nat), SV.free (.mal t) = true) ∧
  (SV.free (.dead) = true) ∧
  (∀ (g : Nat → SV) (v : SV), cp g (.c v) = v) :=
  ⟨@R40, @R41, @R42, @R43, @R44, @R45, @R46, @R47, @R48, @R49, @R50, @R51, @R52, @R53, @R54, @R55, @R56, @R57, @R58, @R59⟩
theorem SS3 : (∀ (g : Nat → SV) (t : Nat), cp g (.t t) = cpv t (g t)) ∧
  (∀ (u : Nat) (k : IntKind) (n : Int), cpv u (.int k n) = .int k n) ∧
  (∀ (u : Nat) (v : Bool), cpv u (.bool v) = .bool v) ∧
  (∀ (u : Nat) (v : ByteArray), cpv u (.str v) = .str v) ∧
  (∀ (u : Nat), cpv u (.nilp) = .nilp) ∧
  (∀ (u : Nat) (z : Nat) (l : List SV), cpv u (.list z l) = .list z l) ∧
  (∀ (u : Nat) (l : List SV), cpv u (.agg l) = if l.all (SV.imm 2) = true then .agg l else .dead) ∧
  (∀ (u : Nat) (v : SV), cpv u (.ref v) = .ref v) ∧
  (∀ (u : Nat) (f : FuncId) (l : List SV), cpv u (.func f l) = .func f l) ∧
  (∀ (u : Nat) (l : List SV), cpv u (.tuple l) = if l.all (SV.imm 3) = true then .tuple l else .dead) ∧
  (∀ (u : Nat) (e z : Nat) (l : List SV), cpv u (.own e z l) = .al u none) ∧
  (∀ (u : Nat) (v : SV), cpv u (.box v) = .place u 0) ∧
  (∀ (u : Nat) (t o : Nat), cpv u (.place t o) = .place t o) ∧
  (∀ (u : Nat) (t : Nat) (o : Option Nat) (i c : Nat), cpv u (.elem t o i c) = .elem t o i c) ∧
  (∀ (u : Nat) (t : Nat) (o : Option Nat), cpv u (.al t o) = .al t o) ∧
  (∀ (u : Nat), cpv u (.undef) = .undef) ∧
  (∀ (u : Nat) (l : List Int), cpv u (.imap l) = .mal u) ∧
  (∀ (u : Nat) (t : Nat), cpv u (.mal t) = .mal t) ∧
  (∀ (k : IntKind) (n : Int), movv (.int k n) = some (.int k n)) ∧
  (∀ (v : Bool), movv (.bool v) = some (.bool v)) :=
  ⟨@R60, @R61, @R62, @R63, @R64, @R65, @R66, @R67, @R68, @R69, @R70, @R71, @R72, @R73, @R74, @R75, @R76, @R77, @R78, @R79⟩
theorem SS4 : (∀ (v : ByteArray), movv (.str v) = some (.str v)) ∧
  (movv (.nilp) = some (.nilp)) ∧
  (∀ (z : Nat) (l : List SV), movv (.list z l) = some (.list z l)) ∧
  (∀ (l : List SV), movv (.agg l) = some (.agg l)) ∧
  (∀ (v : SV), movv (.ref v) = some (.ref v)) ∧
  (∀ (f : FuncId) (l : List SV), movv (.func f l) = some (.func f l)) ∧
  (∀ (l : List SV), movv (.tuple l) = some (.tuple l)) ∧
  (∀ (e z : Nat) (l : List SV), movv (.own e z l) = some (.own e z l)) ∧
  (∀ (v : SV), movv (.box v) = some (.box v)) ∧
  (∀ (t o : Nat), movv (.place t o) = some (.place t o)) ∧
  (∀ (t : Nat) (o : Option Nat) (i c : Nat), movv (.elem t o i c) = some (.elem t o i c)) ∧
  (∀ (t : Nat) (o : Option Nat), movv (.al t o) = some (.al t o)) ∧
  (movv (.undef) = some (.undef)) ∧
  (∀ (l : List Int), movv (.imap l) = some (.imap l)) ∧
  (∀ (t : Nat), movv (.mal t) = some (.mal t)) ∧
  (∀ {P : Program} {B : Option (Nat → SV)} (s : S) (k : List Nat) (Q : Ex → S → Prop), rsT P B .nil s (.fin k Q) = Q .normal (sel k s)) ∧
  (∀ {P : Program} {B : Option (Nat → SV)} (s : S) (d : Nat) (x : SX) (rest : RS) (nx : KT), rsT P B .nil s (.pick d x rest nx) = pickK P B (cp (get s) x) d rest s nx) ∧
  (∀ {P : Program} {B : Option (Nat → SV)} (d : Nat) (rest : RS) (s : S) (kt : KT) (k : IntKind) (n : Int), pickK P B (.int k n) d rest s kt = rsT P B rest ((d, .int k n) :: s) kt) ∧
  (∀ {P : Program} {B : Option (Nat → SV)} (d : Nat) (rest : RS) (s : S) (kt : KT) (v : Bool), pickK P B (.bool v) d rest s kt = rsT P B rest ((d, .bool v) :: s) kt) ∧
  (∀ {P : Program} {B : Option (Nat → SV)} (d : Nat) (rest : RS) (s : S) (kt : KT) (v : ByteArray), pickK P B (.str v) d rest s kt = rsT P B rest ((d, .str v) :: s) kt) :=
  ⟨@R80, @R81, @R82, @R83, @R84, @R85, @R86, @R87, @R88, @R89, @R90, @R91, @R92, @R93, @R94, @R95, @R96, @R97, @R98, @R99⟩
theorem SS5 : (∀ {P : Program} {B : Option (Nat → SV)} (d : Nat) (rest : RS) (s : S) (kt : KT), pickK P B (.nilp) d rest s kt = rsT P B rest ((d, .nilp) :: s) kt) ∧
  (∀ {P : Program} {B : Option (Nat → SV)} (d : Nat) (rest : RS) (s : S) (kt : KT) (z : Nat) (l : List SV), pickK P B (.list z l) d rest s kt = rsT P B rest ((d, .list z l) :: s) kt) ∧
  (∀ {P : Program} {B : Option (Nat → SV)} (d : Nat) (rest : RS) (s : S) (kt : KT) (l : List SV), pickK P B (.agg l) d rest s kt = rsT P B rest ((d, .agg l) :: s) kt) ∧
  (∀ {P : Program} {B : Option (Nat → SV)} (d : Nat) (rest : RS) (s : S) (kt : KT) (v : SV), pickK P B (.ref v) d rest s kt = rsT P B rest ((d, .ref v) :: s) kt) ∧
  (∀ {P : Program} {B : Option (Nat → SV)} (d : Nat) (rest : RS) (s : S) (kt : KT) (f : FuncId) (l : List SV), pickK P B (.func f l) d rest s kt = rsT P B rest ((d, .func f l) :: s) kt) ∧
  (∀ {P : Program} {B : Option (Nat → SV)} (d : Nat) (rest : RS) (s : S) (kt : KT) (l : List SV), pickK P B (.tuple l) d rest s kt = rsT P B rest ((d, .tuple l) :: s) kt) ∧
  (∀ {P : Program} {B : Option (Nat → SV)} (d : Nat) (rest : RS) (s : S) (kt : KT) (e z : Nat) (l : List SV), pickK P B (.own e z l) d rest s kt = rsT P B rest ((d, .own e z l) :: s) kt) ∧
  (∀ {P : Program} {B : Option (Nat → SV)} (d : Nat) (rest : RS) (s : S) (kt : KT) (v : SV), pickK P B (.box v) d rest s kt = rsT P B rest ((d, .box v) :: s) kt) ∧
  (∀ {P : Program} {B : Option (Nat → SV)} (d : Nat) (rest : RS) (s : S) (kt : KT) (t o : Nat), pickK P B (.place t o) d rest s kt = rsT P B rest ((d, .place t o) :: s) kt) ∧
  (∀ {P : Program} {B : Option (Nat → SV)} (d : Nat) (rest : RS) (s : S) (kt : KT) (t : Nat) (o : Option Nat) (i c : Nat), pickK P B (.elem t o i c) d rest s kt = rsT P B rest ((d, .elem t o i c) :: s) kt) ∧
  (∀ {P : Program} {B : Option (Nat → SV)} (d : Nat) (rest : RS) (s : S) (kt : KT) (t : Nat) (o : Option Nat), pickK P B (.al t o) d rest s kt = rsT P B rest ((d, .al t o) :: s) kt) ∧
  (∀ {P : Program} {B : Option (Nat → SV)} (d : Nat) (rest : RS) (s : S) (kt : KT), pickK P B (.undef) d rest s kt = rsT P B rest ((d, .undef) :: s) kt) ∧
  (∀ {P : Program} {B : Option (Nat → SV)} (d : Nat) (rest : RS) (s : S) (kt : KT) (l : List Int), pickK P B (.imap l) d rest s kt = rsT P B rest ((d, .imap l) :: s) kt) ∧
  (∀ {P : Program} {B : Option (Nat → SV)} (d : Nat) (rest : RS) (s : S) (kt : KT) (t : Nat), pickK P B (.mal t) d rest s kt = rsT P B rest ((d, .mal t) :: s) kt) ∧
  (∀ {P : Program} {b : Nat → SV} (op : SOp) (d : Nat) (rest : RS) (s : S) (kt : KT), rsT P (some b) (.op d (.p op) rest) s kt = opK P (some b) (pv (get s) b op) d rest s kt) ∧
  (∀ {P : Program} (op : SOp) (d : Nat) (rest : RS) (s : S) (kt : KT), rsT P none (.op d (.p op) rest) s kt = opK P none (pv (get s) (get s) op) d rest s kt) ∧
  (∀ {P : Program} {B : Option (Nat → SV)} (z : SV) (d : Nat) (rest : RS) (s : S) (kt : KT), opK P B (some z) d rest s kt = rsT P B rest ((d, z) :: s) kt) ∧
  (∀ {P : Program} {B : Option (Nat → SV)} (c : Prop) [Decidable c] (z : SV) (d : Nat) (rest : RS) (s : S) (kt : KT), opK P B (if c then some z else none) d rest s kt = (c ∧ rsT P B rest ((d, z) :: s) kt)) ∧
  (∀ {P : Program} {b : Nat → SV} (f : FuncId) (xs : List SX) (d : Nat) (rest : RS) (s : S) (kt : KT), rsT P (some b) (.op d (.call f xs) rest) s kt = callA P (some b) f (argv (get s) b xs) d rest s kt) ∧
  (∀ {P : Program} (f : FuncId) (xs : List SX) (d : Nat) (rest : RS) (s : S) (kt : KT), rsT P none (.op d (.call f xs) rest) s kt = callA P none f (argv (get s) (get s) xs) d rest s kt) :=
  ⟨@R100, @R101, @R102, @R103, @R104, @R105, @R106, @R107, @R108, @R109, @R110, @R111, @R112, @R113, @R114, @R115, @R116, @R117, @R118, @R119⟩
theorem SS6 : (∀ {P : Program} {B : Option (Nat → SV)} (f : FuncId) (as : List SV) (sn : Bool) (d : Nat) (rest : RS) (s : S) (kt : KT), callA P B f (some (as, sn)) d rest s kt = callS P B f as sn d rest s kt) ∧
  (∀ {P : Program} {b : Nat → SV} (x : SX) (xs : List SX) (d : Nat) (rest : RS) (s : S) (kt : KT), rsT P (some b) (.op d (.callv x xs) rest) s kt = callV P (some b) (cp (get s) x) (argv (get s) b xs) d rest s kt) ∧
  (∀ {P : Program} (x : SX) (xs : List SX) (d : Nat) (rest : RS) (s : S) (kt : KT), rsT P none (.op d (.callv x xs) rest) s kt = callV P none (cp (get s) x) (argv (get s) (get s) xs) d rest s kt) ∧
  (∀ {P : Program} {B : Option (Nat → SV)} (f : FuncId) (cs as : List SV) (sn : Bool) (d : Nat) (rest : RS) (s : S) (kt : KT), callV P B (.func f cs) (some (as, sn)) d rest s kt = (okBody P f = true ∧ callS P B f (as ++ cs) sn d rest s kt)) ∧
  (∀ {P : Program} {B : Option (Nat → SV)} (t : Nat) (w : Bool) (blk : RS) (x : SX) (d : Nat) (rest : RS) (s : S) (kt : KT), rsT P B (.sc t w blk d x rest) s kt = scS P B (get s t) w blk d x rest s kt) ∧
  (∀ {P : Program} {B : Option (Nat → SV)} (blk : RS) (x : SX) (d : Nat) (rest : RS) (s : S) (kt : KT), scS P B (.bool true) true blk d x rest s kt = rsT P B blk s (.pick d x rest kt)) ∧
  (∀ {P : Program} {B : Option (Nat → SV)} (blk : RS) (x : SX) (d : Nat) (rest : RS) (s : S) (kt : KT), scS P B (.bool true) false blk d x rest s kt = rsT P B rest ((d, .bool true) :: (undefs blk ++ s)) kt) ∧
  (∀ {P : Program} {B : Option (Nat → SV)} (blk : RS) (x : SX) (d : Nat) (rest : RS) (s : S) (kt : KT), scS P B (.bool false) true blk d x rest s kt = rsT P B rest ((d, .bool false) :: (undefs blk ++ s)) kt) ∧
  (∀ {P : Program} {B : Option (Nat → SV)} (blk : RS) (x : SX) (d : Nat) (rest : RS) (s : S) (kt : KT), scS P B (.bool false) false blk d x rest s kt = rsT P B blk s (.pick d x rest kt)) ∧
  (undefs .nil = []) ∧
  (∀ (d : Nat) (o : FOp) (rest : RS), undefs (.op d o rest) = (d, .undef) :: undefs rest) ∧
  (∀ (t d : Nat) (w : Bool) (blk rest : RS) (x : SX), undefs (.sc t w blk d x rest) = undefs blk ++ (d, .undef) :: undefs rest) ∧
  (∀ (s : S), ([] : S) ++ s = s) ∧
  (∀ (p : Nat × SV) (s r : S), (p :: s) ++ r = p :: (s ++ r)) ∧
  (∀ {P : Program} {B : Option (Nat → SV)} (d : Option Nat) (e : EOp) (rest : RS) (s : S) (kt : KT), rsT P B (.eff d e rest) s kt = effK P B (effL s d e) rest kt) ∧
  (∀ {P : Program} {B : Option (Nat → SV)} (rest : RS) (s : S) (kt : KT), effK P B (some s) rest kt = rsT P B rest s kt) ∧
  (∀ {P : Program} {B : Option (Nat → SV)} (c : Prop) [Decidable c] (rest : RS) (s : S) (kt : KT), effK P B (if c then some s else none) rest kt = (c ∧ rsT P B rest s kt)) ∧
  (∀ (g b : Nat → SV) (x : SX), pv g b (.mov x) = movv (cp g x)) ∧
  (∀ (g b : Nat → SV) (op : BinOp) (x y : SX), pv g b (.bin op x y) = sbin op (cp g x) (cp g y)) ∧
  (∀ (g b : Nat → SV) (neg : Bool) (x y : SX), pv g b (.eqp neg x y) = spO (speq (cp g x) (cp g y)) neg) :=
  ⟨@R120, @R121, @R122, @R123, @R124, @R125, @R126, @R127, @R128, @R129, @R130, @R131, @R132, @R133, @R134, @R135, @R136, @R137, @R138, @R139⟩
theorem SS7 : (∀ (v neg : Bool), spO (some v) neg = some (.bool (if neg = true then !v else v))) ∧
  (∀ (g b : Nat → SV) (x y : SX), pv g b (.eqb true x y) = eqbV true (cp g x) (cp g y)) ∧
  (∀ (g b : Nat → SV) (x y : SX), pv g b (.eqb false x y) = eqbV false (cp g x) (cp g y)) ∧
  (∀ (v w : Bool), eqbV true (.bool v) (.bool w) = some (.bool (v != w))) ∧
  (∀ (v w : Bool), eqbV false (.bool v) (.bool w) = some (.bool (v == w))) ∧
  (∀ (g b : Nat → SV) (x : SX), pv g b (.not x) = notV (cp g x)) ∧
  (∀ (v : Bool), notV (.bool v) = some (.bool !v)) ∧
  (∀ (g b : Nat → SV) (k : IntKind) (x : SX), pv g b (.conv k x) = convV k (cp g x)) ∧
  (∀ (k k2 : IntKind) (n : Int), convV k (.int k2 n) = some (.int k (k.wrap n))) ∧
  (∀ (g b : Nat → SV) (x : SX), pv g b (.len x) = lenO (pvL b (cp g x))) ∧
  (∀ (n : Nat), lenO (some n) = some (.int .i64 n)) ∧
  (∀ (b : Nat → SV) (z : Nat) (l : List SV), pvL b (.list z l) = some l.length) ∧
  (∀ (b : Nat → SV) (t : Nat) (o : Option Nat), pvL b (.al t o) = ownL ((b t).at o)) ∧
  (∀ (e z : Nat) (l : List SV), ownL (.own e z l) = some l.length) ∧
  (∀ (x : SV), SV.at x none = x) ∧
  (∀ (y : SV) (o : Nat), SV.at (.box y) (some o) = y.cells.getD o .dead) ∧
  (∀ (g b : Nat → SV) (off n : Nat) (ag : Bool) (x : SX), pv g b (.fa off n ag x) = faV off n ag (cp g x)) ∧
  (∀ (off n : Nat) (ag : Bool) (y : SV), faV off n ag (.ref y) = refO (part y.cells off n ag)) ∧
  (∀ (z : SV), refO (some z) = some (.ref z)) ∧
  (∀ (off n t o : Nat) (ag : Bool), faV off n ag (.place t o) = some (.place t (o + off))) :=
  ⟨@R140, @R141, @R142, @R143, @R144, @R145, @R146, @R147, @R148, @R149, @R150, @R151, @R152, @R153, @R154, @R155, @R156, @R157, @R158, @R159⟩
theorem SS8 : (∀ (off n t i c : Nat) (o : Option Nat) (ag : Bool), faV off n ag (.elem t o i c) = some (.elem t o i (c + off))) ∧
  (∀ (cs : List SV) (off n : Nat), part cs off n true = if off + n ≤ cs.length then some (.agg ((cs.drop off).take n)) else none) ∧
  (∀ (cs : List SV) (off n : Nat), part cs off n false = nagg (cs[off]?)) ∧
  (∀ (k : IntKind) (n : Int), nagg (some (.int k n)) = some (.int k n)) ∧
  (∀ (v : Bool), nagg (some (.bool v)) = some (.bool v)) ∧
  (∀ (v : ByteArray), nagg (some (.str v)) = some (.str v)) ∧
  (nagg (some (.nilp)) = some (.nilp)) ∧
  (∀ (z : Nat) (l : List SV), nagg (some (.list z l)) = some (.list z l)) ∧
  (∀ (v : SV), nagg (some (.ref v)) = some (.ref v)) ∧
  (∀ (f : FuncId) (l : List SV), nagg (some (.func f l)) = some (.func f l)) ∧
  (∀ (l : List SV), nagg (some (.tuple l)) = some (.tuple l)) ∧
  (∀ (e z : Nat) (l : List SV), nagg (some (.own e z l)) = some (.own e z l)) ∧
  (∀ (v : SV), nagg (some (.box v)) = some (.box v)) ∧
  (∀ (t o : Nat), nagg (some (.place t o)) = some (.place t o)) ∧
  (∀ (t : Nat) (o : Option Nat) (i c : Nat), nagg (some (.elem t o i c)) = some (.elem t o i c)) ∧
  (∀ (t : Nat) (o : Option Nat), nagg (some (.al t o)) = some (.al t o)) ∧
  (nagg (some (.undef)) = some (.undef)) ∧
  (∀ (l : List Int), nagg (some (.imap l)) = some (.imap l)) ∧
  (∀ (t : Nat), nagg (some (.mal t)) = some (.mal t)) ∧
  (∀ (l : List SV), SV.cells (.agg l) = l) :=
  ⟨@R160, @R161, @R162, @R163, @R164, @R165, @R166, @R167, @R168, @R169, @R170, @R171, @R172, @R173, @R174, @R175, @R176, @R177, @R178, @R179⟩
theorem SS9 : (∀ (k : IntKind) (n : Int), SV.cells (.int k n) = [.int k n]) ∧
  (∀ (v : Bool), SV.cells (.bool v) = [.bool v]) ∧
  (∀ (v : ByteArray), SV.cells (.str v) = [.str v]) ∧
  (SV.cells (.nilp) = [.nilp]) ∧
  (∀ (z : Nat) (l : List SV), SV.cells (.list z l) = [.list z l]) ∧
  (∀ (v : SV), SV.cells (.ref v) = [.ref v]) ∧
  (∀ (f : FuncId) (l : List SV), SV.cells (.func f l) = [.func f l]) ∧
  (∀ (l : List SV), SV.cells (.tuple l) = [.tuple l]) ∧
  (∀ (e z : Nat) (l : List SV), SV.cells (.own e z l) = [.own e z l]) ∧
  (∀ (v : SV), SV.cells (.box v) = [.box v]) ∧
  (∀ (t o : Nat), SV.cells (.place t o) = [.place t o]) ∧
  (∀ (t : Nat) (o : Option Nat) (i c : Nat), SV.cells (.elem t o i c) = [.elem t o i c]) ∧
  (∀ (t : Nat) (o : Option Nat), SV.cells (.al t o) = [.al t o]) ∧
  (SV.cells (.undef) = [.undef]) ∧
  (∀ (l : List Int), SV.cells (.imap l) = [.imap l]) ∧
  (∀ (t : Nat), SV.cells (.mal t) = [.mal t]) ∧
  (∀ (g b : Nat → SV) (sz : Nat) (x i : SX), pv g b (.ia sz x i) = iaV b sz (cp g i) (cp g x)) ∧
  (∀ (b : Nat → SV) (sz z : Nat) (k : IntKind) (n : Int) (l : List SV), iaV b sz (.int k n) (.list z l) = if z = sz ∧ 0 ≤ n ∧ n < l.length then some (.ref (l.getD n.toNat .dead)) else none) ∧
  (∀ (b : Nat → SV) (sz t : Nat) (k : IntKind) (n : Int) (o : Option Nat), iaV b sz (.int k n) (.al t o) = iaO sz n t o ((b t).at o)) ∧
  (∀ (sz t e z : Nat) (n : Int) (o : Option Nat) (l : List SV), iaO sz n t o (.own e z l) = if z = sz ∧ 0 ≤ n ∧ n < l.length then some (.elem t o n.toNat 0) else none) :=
  ⟨@R180, @R181, @R182, @R183, @R184, @R185, @R186, @R187, @R188, @R189, @R190, @R191, @R192, @R193, @R194, @R195, @R196, @R197, @R198, @R199⟩
theorem SS10 : (∀ (g b : Nat → SV) (num sz : Nat) (ag : Bool) (x i : SX), pv g b (.iaa num sz ag x i) = iaaV num sz ag (cp g i) (cp g x)) ∧
  (∀ (num sz : Nat) (ag : Bool) (k : IntKind) (n : Int) (y : SV), iaaV num sz ag (.int k n) (.ref y) = if 0 ≤ n ∧ n < num then refO (part y.cells (n.toNat * sz) sz ag) else none) ∧
  (∀ (num sz t o : Nat) (ag : Bool) (k : IntKind) (n : Int), iaaV num sz ag (.int k n) (.place t o) = if 0 ≤ n ∧ n < num then some (.place t (o + n.toNat * sz)) else none) ∧
  (∀ (g b : Nat → SV) (num sz : Nat) (ag : Bool) (x i : SX), pv g b (.ixa num sz ag x i) = ixaV num sz ag (cp g i) (cp g x)) ∧
  (∀ (num sz : Nat) (ag : Bool) (k : IntKind) (n : Int) (l : List SV), ixaV num sz ag (.int k n) (.agg l) = if 0 ≤ n ∧ n < num then part l (n.toNat * sz) sz ag else none) ∧
  (∀ (g b : Nat → SV) (n : Nat) (ag : Bool) (x : SX), pv g b (.ld n ag x) = rd b (cp g x) n ag) ∧
  (∀ (b : Nat → SV) (n : Nat) (l : List SV), rd b (.ref (.agg l)) n true = if l.length = n then some (.agg l) else none) ∧
  (∀ (b : Nat → SV) (m : Nat) (k : IntKind) (n : Int), rd b (.ref (.int k n)) m false = some (.int k n)) ∧
  (∀ (b : Nat → SV) (m : Nat) (v : Bool), rd b (.ref (.bool v)) m false = some (.bool v)) ∧
  (∀ (b : Nat → SV) (m : Nat) (v : ByteArray), rd b (.ref (.str v)) m false = some (.str v)) ∧
  (∀ (b : Nat → SV) (m : Nat), rd b (.ref (.nilp)) m false = some (.nilp)) ∧
  (∀ (b : Nat → SV) (m : Nat) (z : Nat) (l : List SV), rd b (.ref (.list z l)) m false = some (.list z l)) ∧
  (∀ (b : Nat → SV) (m : Nat) (v : SV), rd b (.ref (.ref v)) m false = some (.ref v)) ∧
  (∀ (b : Nat → SV) (m : Nat) (f : FuncId) (l : List SV), rd b (.ref (.func f l)) m false = some (.func f l)) ∧
  (∀ (b : Nat → SV) (m : Nat) (l : List SV), rd b (.ref (.tuple l)) m false = some (.tuple l)) ∧
  (∀ (b : Nat → SV) (m : Nat) (e z : Nat) (l : List SV), rd b (.ref (.own e z l)) m false = some (.own e z l)) ∧
  (∀ (b : Nat → SV) (m : Nat) (v : SV), rd b (.ref (.box v)) m false = some (.box v)) ∧
  (∀ (b : Nat → SV) (m : Nat) (t o : Nat), rd b (.ref (.place t o)) m false = some (.place t o)) ∧
  (∀ (b : Nat → SV) (m : Nat) (t : Nat) (o : Option Nat) (i c : Nat), rd b (.ref (.elem t o i c)) m false = some (.elem t o i c)) ∧
  (∀ (b : Nat → SV) (m : Nat) (t : Nat) (o : Option Nat), rd b (.ref (.al t o)) m false = some (.al t o)) :=
  ⟨@R200, @R201, @R202, @R203, @R204, @R205, @R206, @R207, @R208, @R209, @R210, @R211, @R212, @R213, @R214, @R215, @R216, @R217, @R218, @R219⟩
theorem SS11 : (∀ (b : Nat → SV) (m : Nat), rd b (.ref (.undef)) m false = some (.undef)) ∧
  (∀ (b : Nat → SV) (m : Nat) (l : List Int), rd b (.ref (.imap l)) m false = some (.imap l)) ∧
  (∀ (b : Nat → SV) (m : Nat) (t : Nat), rd b (.ref (.mal t)) m false = some (.mal t)) ∧
  (∀ (b : Nat → SV) (t o n : Nat), rd b (.place t o) n true = rdA o n (b t)) ∧
  (∀ (b : Nat → SV) (t o n : Nat), rd b (.place t o) n false = rdC t o (b t)) ∧
  (∀ (o n : Nat) (y : SV), rdA o n (.box y) = if o + n ≤ y.cells.length ∧ ((y.cells.drop o).take n).all (SV.imm 2) = true then some (.agg ((y.cells.drop o).take n)) else none) ∧
  (∀ (t o : Nat) (y : SV), rdC t o (.box y) = rdD t o (y.cells[o]?)) ∧
  (∀ (t o : Nat) (k : IntKind) (n : Int), rdD t o (some (.int k n)) = some (.int k n)) ∧
  (∀ (t o : Nat) (v : Bool), rdD t o (some (.bool v)) = some (.bool v)) ∧
  (∀ (t o : Nat) (v : ByteArray), rdD t o (some (.str v)) = some (.str v)) ∧
  (∀ (t o : Nat), rdD t o (some (.nilp)) = some (.nilp)) ∧
  (∀ (t o : Nat) (z : Nat) (l : List SV), rdD t o (some (.list z l)) = some (.list z l)) ∧
  (∀ (t o : Nat) (l : List SV), rdD t o (some (.agg l)) = if l.all (SV.imm 2) = true then some (.agg l) else none) ∧
  (∀ (t o : Nat) (v : SV), rdD t o (some (.ref v)) = some (.ref v)) ∧
  (∀ (t o : Nat) (f : FuncId) (l : List SV), rdD t o (some (.func f l)) = some (.func f l)) ∧
  (∀ (t o : Nat) (l : List SV), rdD t o (some (.tuple l)) = if l.all (SV.imm 2) = true then some (.tuple l) else none) ∧
  (∀ (t o : Nat) (e z : Nat) (l : List SV), rdD t o (some (.own e z l)) = some (.al t (some o))) ∧
  (∀ (t o : Nat), rdD t o (some (.undef)) = some (.undef)) ∧
  (∀ (b : Nat → SV) (t i c n : Nat) (o : Option Nat) (ag : Bool), rd b (.elem t o i c) n ag = rdE i c n ag ((b t).at o)) ∧
  (∀ (i c n e z : Nat) (ag : Bool) (l : List SV), rdE i c n ag (.own e z l) = rdF c n ag (l[i]?)) :=
  ⟨@R220, @R221, @R222, @R223, @R224, @R225, @R226, @R227, @R228, @R229, @R230, @R231, @R232, @R233, @R234, @R235, @R236, @R237, @R238, @R239⟩
theorem SS12 : (∀ (c n : Nat) (ag : Bool) (y : SV), rdF c n ag (some y) = part y.cells c n ag) ∧
  (∀ (g b : Nat → SV) (x : SX) (i : Nat), pv g b (.ext x i) = extV i (cp g x)) ∧
  (∀ (i : Nat) (l : List SV), extV i (.tuple l) = l[i]?) ∧
  (∀ (g b : Nat → SV) (x : SX), pv g b (.nchk x) = nchkV (cp g x)) ∧
  (∀ (y : SV), nchkV (.ref y) = some (.ref y)) ∧
  (∀ (t o : Nat), nchkV (.place t o) = some (.place t o)) ∧
  (∀ (t i c : Nat) (o : Option Nat), nchkV (.elem t o i c) = some (.elem t o i c)) ∧
  (∀ (g b : Nat → SV) (z : SV), pv g b (.alloc z) = boxO z) ∧
  (∀ (g b : Nat → SV) (x : SX), pv g b (.box x) = boxO (cp g x)) ∧
  (∀ (v : SV), boxO v = if v.solid = true then some (.box v) else none) ∧
  (∀ (k : IntKind) (n : Int), SV.solid (.int k n) = true) ∧
  (∀ (k : IntKind) (n : Int), SV.imm 1 (.int k n) = true) ∧
  (∀ (k : IntKind) (n : Int), SV.imm 2 (.int k n) = true) ∧
  (∀ (k : IntKind) (n : Int), SV.imm 3 (.int k n) = true) ∧
  (∀ (k : IntKind) (n : Int), SV.flat 3 (.int k n) = true) ∧
  (∀ (k : IntKind) (n : Int), SV.flat 2 (.int k n) = true) ∧
  (∀ (k : IntKind) (n : Int), SV.one (.int k n) = true) ∧
  (∀ (k : IntKind) (n : Int), snapC (.int k n) = .int k n) ∧
  (∀ (k : IntKind) (n : Int), SV.isAgg (.int k n) = false) ∧
  (∀ (v : Bool), SV.solid (.bool v) = true) :=
  ⟨@R240, @R241, @R242, @R243, @R244, @R245, @R246, @R247, @R248, @R249, @R250, @R251, @R252, @R253, @R254, @R255, @R256, @R257, @R258, @R259⟩
theorem SS13 : (∀ (v : Bool), SV.imm 1 (.bool v) = true) ∧
  (∀ (v : Bool), SV.imm 2 (.bool v) = true) ∧
  (∀ (v : Bool), SV.imm 3 (.bool v) = true) ∧
  (∀ (v : Bool), SV.flat 3 (.bool v) = true) ∧
  (∀ (v : Bool), SV.flat 2 (.bool v) = true) ∧
  (∀ (v : Bool), SV.one (.bool v) = true) ∧
  (∀ (v : Bool), snapC (.bool v) = .bool v) ∧
  (∀ (v : Bool), SV.isAgg (.bool v) = false) ∧
  (∀ (v : ByteArray), SV.solid (.str v) = true) ∧
  (∀ (v : ByteArray), SV.imm 1 (.str v) = true) ∧
  (∀ (v : ByteArray), SV.imm 2 (.str v) = true) ∧
  (∀ (v : ByteArray), SV.imm 3 (.str v) = true) ∧
  (∀ (v : ByteArray), SV.flat 3 (.str v) = true) ∧
  (∀ (v : ByteArray), SV.flat 2 (.str v) = true) ∧
  (∀ (v : ByteArray), SV.one (.str v) = true) ∧
  (∀ (v : ByteArray), snapC (.str v) = .str v) ∧
  (∀ (v : ByteArray), SV.isAgg (.str v) = false) ∧
  (SV.solid (.nilp) = true) ∧
  (SV.imm 1 (.nilp) = true) ∧
  (SV.imm 2 (.nilp) = true) :=
  ⟨@R260, @R261, @R262, @R263, @R264, @R265, @R266, @R267, @R268, @R269, @R270, @R271, @R272, @R273, @R274, @R275, @R276, @R277, @R278, @R279⟩
theorem SS14 : (SV.imm 3 (.nilp) = true) ∧
  (SV.flat 3 (.nilp) = true) ∧
  (SV.flat 2 (.nilp) = true) ∧
  (SV.one (.nilp) = true) ∧
  (snapC (.nilp) = .nilp) ∧
  (SV.isAgg (.nilp) = false) ∧
  (∀ (z : Nat) (l : List SV), SV.solid (.list z l) = true) ∧
  (∀ (z : Nat) (l : List SV), SV.imm 1 (.list z l) = true) ∧
  (∀ (z : Nat) (l : List SV), SV.imm 2 (.list z l) = true) ∧
  (∀ (z : Nat) (l : List SV), SV.imm 3 (.list z l) = true) ∧
  (∀ (z : Nat) (l : List SV), SV.flat 3 (.list z l) = false) ∧
  (∀ (z : Nat) (l : List SV), SV.flat 2 (.list z l) = false) ∧
  (∀ (z : Nat) (l : List SV), SV.one (.list z l) = true) ∧
  (∀ (z : Nat) (l : List SV), snapC (.list z l) = .list z l) ∧
  (∀ (z : Nat) (l : List SV), SV.isAgg (.list z l) = false) ∧
  (∀ (l : List SV), SV.solid (.agg l) = l.all (SV.imm 2)) ∧
  (∀ (l : List SV), SV.imm 1 (.agg l) = l.all (SV.imm 0)) ∧
  (∀ (l : List SV), SV.imm 2 (.agg l) = l.all (SV.imm 1)) ∧
  (∀ (l : List SV), SV.imm 3 (.agg l) = l.all (SV.imm 2)) ∧
  (∀ (l : List SV), SV.flat 3 (.agg l) = l.all (SV.flat 2)) :=
  ⟨@R280, @R281, @R282, @R283, @R284, @R285, @R286, @R287, @R288, @R289, @R290, @R291, @R292, @R293, @R294, @R295, @R296, @R297, @R298, @R299⟩
theorem SS15 : (∀ (l : List SV), SV.flat 2 (.agg l) = l.all (SV.flat 1)) ∧
  (∀ (l : List SV), SV.one (.agg l) = false) ∧
  (∀ (l : List SV), snapC (.agg l) = .agg l) ∧
  (∀ (l : List SV), SV.isAgg (.agg l) = true) ∧
  (∀ (v : SV), SV.solid (.ref v) = true) ∧
  (∀ (v : SV), SV.imm 1 (.ref v) = true) ∧
  (∀ (v : SV), SV.imm 2 (.ref v) = true) ∧
  (∀ (v : SV), SV.imm 3 (.ref v) = true) ∧
  (∀ (v : SV), SV.flat 3 (.ref v) = false) ∧
  (∀ (v : SV), SV.flat 2 (.ref v) = false) ∧
  (∀ (v : SV), SV.one (.ref v) = true) ∧
  (∀ (v : SV), snapC (.ref v) = .ref v) ∧
  (∀ (v : SV), SV.isAgg (.ref v) = false) ∧
  (∀ (f : FuncId) (l : List SV), SV.solid (.func f l) = true) ∧
  (∀ (f : FuncId) (l : List SV), SV.imm 1 (.func f l) = true) ∧
  (∀ (f : FuncId) (l : List SV), SV.imm 2 (.func f l) = true) ∧
  (∀ (f : FuncId) (l : List SV), SV.imm 3 (.func f l) = true) ∧
  (∀ (f : FuncId) (l : List SV), SV.flat 3 (.func f l) = false) ∧
  (∀ (f : FuncId) (l : List SV), SV.flat 2 (.func f l) = false) ∧
  (∀ (f : FuncId) (l : List SV), SV.one (.func f l) = true) :=
  ⟨@R300, @R301, @R302, @R303, @R304, @R305, @R306, @R307, @R308, @R309, @R310, @R311, @R312, @R313, @R314, @R315, @R316, @R317, @R318, @R319⟩
theorem SS16 : (∀ (f : FuncId) (l : List SV), snapC (.func f l) = .func f l) ∧
  (∀ (f : FuncId) (l : List SV), SV.isAgg (.func f l) = false) ∧
  (∀ (l : List SV), SV.solid (.tuple l) = l.all (SV.imm 2)) ∧
  (∀ (l : List SV), SV.imm 1 (.tuple l) = l.all (SV.imm 0)) ∧
  (∀ (l : List SV), SV.imm 2 (.tuple l) = l.all (SV.imm 1)) ∧
  (∀ (l : List SV), SV.imm 3 (.tuple l) = l.all (SV.imm 2)) ∧
  (∀ (l : List SV), SV.flat 3 (.tuple l) = l.all (SV.flat 2)) ∧
  (∀ (l : List SV), SV.flat 2 (.tuple l) = l.all (SV.flat 1)) ∧
  (∀ (l : List SV), SV.one (.tuple l) = false) ∧
  (∀ (l : List SV), snapC (.tuple l) = .tuple l) ∧
  (∀ (l : List SV), SV.isAgg (.tuple l) = false) ∧
  (∀ (e z : Nat) (l : List SV), SV.solid (.own e z l) = false) ∧
  (∀ (e z : Nat) (l : List SV), SV.imm 1 (.own e z l) = false) ∧
  (∀ (e z : Nat) (l : List SV), SV.imm 2 (.own e z l) = false) ∧
  (∀ (e z : Nat) (l : List SV), SV.imm 3 (.own e z l) = false) ∧
  (∀ (e z : Nat) (l : List SV), SV.flat 3 (.own e z l) = false) ∧
  (∀ (e z : Nat) (l : List SV), SV.flat 2 (.own e z l) = false) ∧
  (∀ (e z : Nat) (l : List SV), SV.one (.own e z l) = false) ∧
  (∀ (e z : Nat) (l : List SV), snapC (.own e z l) = .list z l) ∧
  (∀ (e z : Nat) (l : List SV), SV.isAgg (.own e z l) = false) :=
  ⟨@R320, @R321, @R322, @R323, @R324, @R325, @R326, @R327, @R328, @R329, @R330, @R331, @R332, @R333, @R334, @R335, @R336, @R337, @R338, @R339⟩
theorem SS17 : (∀ (v : SV), SV.solid (.box v) = false) ∧
  (∀ (v : SV), SV.imm 1 (.box v) = false) ∧
  (∀ (v : SV), SV.imm 2 (.box v) = false) ∧
  (∀ (v : SV), SV.imm 3 (.box v) = false) ∧
  (∀ (v : SV), SV.flat 3 (.box v) = false) ∧
  (∀ (v : SV), SV.flat 2 (.box v) = false) ∧
  (∀ (v : SV), SV.one (.box v) = false) ∧
  (∀ (v : SV), snapC (.box v) = .box v) ∧
  (∀ (v : SV), SV.isAgg (.box v) = false) ∧
  (∀ (t o : Nat), SV.solid (.place t o) = false) ∧
  (∀ (t o : Nat), SV.imm 1 (.place t o) = false) ∧
  (∀ (t o : Nat), SV.imm 2 (.place t o) = false) ∧
  (∀ (t o : Nat), SV.imm 3 (.place t o) = false) ∧
  (∀ (t o : Nat), SV.flat 3 (.place t o) = false) ∧
  (∀ (t o : Nat), SV.flat 2 (.place t o) = false) ∧
  (∀ (t o : Nat), SV.one (.place t o) = false) ∧
  (∀ (t o : Nat), snapC (.place t o) = .place t o) ∧
  (∀ (t o : Nat), SV.isAgg (.place t o) = false) ∧
  (∀ (t : Nat) (o : Option Nat) (i c : Nat), SV.solid (.elem t o i c) = false) ∧
  (∀ (t : Nat) (o : Option Nat) (i c : Nat), SV.imm 1 (.elem t o i c) = false) :=
  ⟨@R340, @R341, @R342, @R343, @R344, @R345, @R346, @R347, @R348, @R349, @R350, @R351, @R352, @R353, @R354, @R355, @R356, @R357, @R358, @R359⟩
theorem SS18 : (∀ (t : Nat) (o : Option Nat) (i c : Nat), SV.imm 2 (.elem t o i c) = false) ∧
  (∀ (t : Nat) (o : Option Nat) (i c : Nat), SV.imm 3 (.elem t o i c) = false) ∧
  (∀ (t : Nat) (o : Option Nat) (i c : Nat), SV.flat 3 (.elem t o i c) = false) ∧
  (∀ (t : Nat) (o : Option Nat) (i c : Nat), SV.flat 2 (.elem t o i c) = false) ∧
  (∀ (t : Nat) (o : Option Nat) (i c : Nat), SV.one (.elem t o i c) = false) ∧
  (∀ (t : Nat) (o : Option Nat) (i c : Nat), snapC (.elem t o i c) = .elem t o i c) ∧
  (∀ (t : Nat) (o : Option Nat) (i c : Nat), SV.isAgg (.elem t o i c) = false) ∧
  (∀ (t : Nat) (o : Option Nat), SV.solid (.al t o) = false) ∧
  (∀ (t : Nat) (o : Option Nat), SV.imm 1 (.al t o) = false) ∧
  (∀ (t : Nat) (o : Option Nat), SV.imm 2 (.al t o) = false) ∧
  (∀ (t : Nat) (o : Option Nat), SV.imm 3 (.al t o) = false) ∧
  (∀ (t : Nat) (o : Option Nat), SV.flat 3 (.al t o) = false) ∧
  (∀ (t : Nat) (o : Option Nat), SV.flat 2 (.al t o) = false) ∧
  (∀ (t : Nat) (o : Option Nat), SV.one (.al t o) = false) ∧
  (∀ (t : Nat) (o : Option Nat), snapC (.al t o) = .al t o) ∧
  (∀ (t : Nat) (o : Option Nat), SV.isAgg (.al t o) = false) ∧
  (SV.solid (.undef) = true) ∧
  (SV.imm 1 (.undef) = true) ∧
  (SV.imm 2 (.undef) = true) ∧
  (SV.imm 3 (.undef) = true) :=
  ⟨@R360, @R361, @R362, @R363, @R364, @R365, @R366, @R367, @R368, @R369, @R370, @R371, @R372, @R373, @R374, @R375, @R376, @R377, @R378, @R379⟩
theorem SS19 : (SV.flat 3 (.undef) = true) ∧
  (SV.flat 2 (.undef) = true) ∧
  (SV.one (.undef) = false) ∧
  (snapC (.undef) = .undef) ∧
  (SV.isAgg (.undef) = false) ∧
  (∀ (l : List Int), SV.solid (.imap l) = false) ∧
  (∀ (l : List Int), SV.imm 1 (.imap l) = false) ∧
  (∀ (l : List Int), SV.imm 2 (.imap l) = false) ∧
  (∀ (l : List Int), SV.imm 3 (.imap l) = false) ∧
  (∀ (l : List Int), SV.flat 3 (.imap l) = false) ∧
  (∀ (l : List Int), SV.flat 2 (.imap l) = false) ∧
  (∀ (l : List Int), SV.one (.imap l) = false) ∧
  (∀ (l : List Int), snapC (.imap l) = .imap l) ∧
  (∀ (l : List Int), SV.isAgg (.imap l) = false) ∧
  (∀ (t : Nat), SV.solid (.mal t) = false) ∧
  (∀ (t : Nat), SV.imm 1 (.mal t) = false) ∧
  (∀ (t : Nat), SV.imm 2 (.mal t) = false) ∧
  (∀ (t : Nat), SV.imm 3 (.mal t) = false) ∧
  (∀ (t : Nat), SV.flat 3 (.mal t) = false) ∧
  (∀ (t : Nat), SV.flat 2 (.mal t) = false) :=
  ⟨@R380, @R381, @R382, @R383, @R384, @R385, @R386, @R387, @R388, @R389, @R390, @R391, @R392, @R393, @R394, @R395, @R396, @R397, @R398, @R399⟩
theorem SS20 : (∀ (t : Nat), SV.one (.mal t) = false) ∧
  (∀ (t : Nat), snapC (.mal t) = .mal t) ∧
  (∀ (t : Nat), SV.isAgg (.mal t) = false) ∧
  (∀ (g b : Nat → SV) (z : List SV) (ps : List (Nat × Nat × SX)), pv g b (.build z ps) = aggO (fillS g z ps)) ∧
  (∀ (l : List SV), aggO (some l) = some (.agg l)) ∧
  (∀ (c : Prop) [Decidable c] (l : List SV), aggO (if c then some l else none) = if c then some (.agg l) else none) ∧
  (∀ (g : Nat → SV) (cs : List SV), fillS g cs [] = some cs) ∧
  (∀ (g : Nat → SV) (cs : List SV) (off n : Nat) (x : SX) (rest : List (Nat × Nat × SX)), fillS g cs ((off, n, x) :: rest) = fillc g cs off n (cp g x) rest) ∧
  (∀ (g : Nat → SV) (cs : List SV) (off n : Nat) (v : SV) (rest : List (Nat × Nat × SX)), fillc g cs off n v rest = if v.cells.length = n ∧ off + n ≤ cs.length ∧ v.solid = true then fillS g (setS cs off v.cells) rest else none) ∧
  (∀ (cs : List SV) (o : Nat), setS cs o [] = cs) ∧
  (∀ (cs l : List SV) (o : Nat) (v : SV), setS cs o (v :: l) = setS (cs.set o v) (o + 1) l) ∧
  (∀ (g b : Nat → SV) (f : FuncId) (xs : List SX), pv g b (.fn f xs) = funO f (caps g xs)) ∧
  (∀ (f : FuncId) (l : List SV), funO f (some l) = some (.func f l)) ∧
  (∀ (g : Nat → SV), caps g [] = some []) ∧
  (∀ (g : Nat → SV) (x : SX) (xs : List SX), caps g (x :: xs) = capc (cp g x) (caps g xs)) ∧
  (∀ (v : SV) (l : List SV), capc v (some l) = if v.solid = true then some (v :: l) else none) ∧
  (∀ (g b : Nat → SV) (sz : Nat) (x : SX) (lo hi : Option SX), pv g b (.slc sz x lo hi) = slcV g sz (cp g x) lo hi) ∧
  (∀ (g : Nat → SV) (sz z : Nat) (l : List SV) (lo hi : Option SX), slcV g sz (.list z l) lo hi = slcO sz z l (bnd g 0 lo) (bnd g l.length hi)) ∧
  (∀ (sz z : Nat) (l : List SV) (a c : Int), slcO sz z l (some a) (some c) = if z = sz ∧ 0 ≤ a ∧ a ≤ c ∧ c ≤ l.length then some (.list sz ((l.drop a.toNat).take (c.toNat - a.toNat))) else none) ∧
  (∀ (g : Nat → SV) (d : Nat), bnd g d none = some (d : Int)) :=
  ⟨@R400, @R401, @R402, @R403, @R404, @R405, @R406, @R407, @R408, @R409, @R410, @R411, @R412, @R413, @R414, @R415, @R416, @R417, @R418, @R419⟩
theorem SS21 : (∀ (g : Nat → SV) (d : Nat) (x : SX), bnd g d (some x) = bndV (cp g x)) ∧
  (∀ (k : IntKind) (n : Int), bndV (.int k n) = some n) ∧
  (∀ (g b : Nat → SV) (x y : SX), pv g b (.mini x y) = minV (cp g x) (cp g y)) ∧
  (∀ (k k2 : IntKind) (a c : Int), minV (.int k a) (.int k2 c) = some (.int k (if c < a then c else a))) ∧
  (∀ (g b : Nat → SV) (e sz : Nat) (xs : List SX), pv g b (.bsl e sz xs) = ownO e sz (solids g sz xs)) ∧
  (∀ (e sz : Nat) (l : List SV), ownO e sz (some l) = some (.own e sz l)) ∧
  (∀ (c : Prop) [Decidable c] (e sz : Nat) (l : List SV), ownO e sz (if c then some l else none) = if c then some (.own e sz l) else none) ∧
  (∀ (g : Nat → SV) (sz : Nat), solids g sz [] = some []) ∧
  (∀ (g : Nat → SV) (sz : Nat) (x : SX) (xs : List SX), solids g sz (x :: xs) = solc sz (cp g x) (solids g sz xs)) ∧
  (∀ (sz : Nat) (v : SV) (l : List SV), solc sz v (some l) = if v.cells.length = sz ∧ v.solid = true then some (v :: l) else none) ∧
  (∀ (g b : Nat → SV) (e sz y : Nat) (z : SV) (x : SX), pv g b (.mks e sz y z x) = mksV e sz y z (cp g x)) ∧
  (∀ (e sz y : Nat) (z : SV) (k : Int), mksV e sz y z (.int .i64 k) = if 0 ≤ k ∧ k.toNat * y ≤ 2 ^ 47 ∧ k.toNat ≤ 2 ^ 47 ∧ z.cells.length = sz then some (.own e sz (List.replicate k.toNat z)) else none) ∧
  (∀ (k : IntKind) (a c : Int), sbin .add (.int k a) (.int k c) = some (.int k (k.wrap (a + c)))) ∧
  (∀ (k : IntKind) (a c : Int), sbin .sub (.int k a) (.int k c) = some (.int k (k.wrap (a - c)))) ∧
  (∀ (k : IntKind) (a c : Int), sbin .mul (.int k a) (.int k c) = some (.int k (k.wrap (a * c)))) ∧
  (∀ (k : IntKind) (a c : Int), sbin .quo (.int k a) (.int k c) = if c = 0 then none else some (.int k (k.wrap (a.tdiv c)))) ∧
  (∀ (k : IntKind) (a c : Int), sbin .rem (.int k a) (.int k c) = if c = 0 then none else some (.int k (a.tmod c))) ∧
  (∀ (k : IntKind) (a c : Int), sbin .and (.int k a) (.int k c) = some (.int k (bitw .and k a c))) ∧
  (∀ (k : IntKind) (a c : Int), sbin .or (.int k a) (.int k c) = some (.int k (bitw .or k a c))) ∧
  (∀ (k : IntKind) (a c : Int), sbin .xor (.int k a) (.int k c) = some (.int k (bitw .xor k a c))) :=
  ⟨@R420, @R421, @R422, @R423, @R424, @R425, @R426, @R427, @R428, @R429, @R430, @R431, @R432, @R433, @R434, @R435, @R436, @R437, @R438, @R439⟩
theorem SS22 : (∀ (k : IntKind) (a c : Int), sbin .andNot (.int k a) (.int k c) = some (.int k (bitw .andNot k a c))) ∧
  (∀ (k : IntKind) (a c : Int), sbin .eql (.int k a) (.int k c) = some (.bool (a == c))) ∧
  (∀ (k : IntKind) (a c : Int), sbin .neq (.int k a) (.int k c) = some (.bool (a != c))) ∧
  (∀ (k : IntKind) (a c : Int), sbin .lss (.int k a) (.int k c) = some (.bool (decide (a < c)))) ∧
  (∀ (k : IntKind) (a c : Int), sbin .leq (.int k a) (.int k c) = some (.bool (decide (a ≤ c)))) ∧
  (∀ (k : IntKind) (a c : Int), sbin .gtr (.int k a) (.int k c) = some (.bool (decide (a > c)))) ∧
  (∀ (k : IntKind) (a c : Int), sbin .geq (.int k a) (.int k c) = some (.bool (decide (a ≥ c)))) ∧
  (∀ (k k2 : IntKind) (a c : Int), sbin .shl (.int k a) (.int k2 c) = if c < 0 then none else some (.int k (k.wrap (a * 2 ^ min c.toNat k.bits)))) ∧
  (∀ (k k2 : IntKind) (a c : Int), sbin .shr (.int k a) (.int k2 c) = if c < 0 then none else some (.int k (a.fdiv (2 ^ min c.toNat k.bits)))) ∧
  (∀ {P : Program} {B : Option (Nat → SV)} (c : Prop) [Decidable c] (z : SV) (d : Nat) (rest : RS) (s : S) (kt : KT), opK P B (if c then none else some z) d rest s kt = (¬ c ∧ rsT P B rest ((d, z) :: s) kt)) ∧
  (speq (.nilp) (.nilp) = some true) ∧
  (∀ (v : SV), speq (.ref v) (.nilp) = some false) ∧
  (∀ (v : SV), speq (.nilp) (.ref v) = some false) ∧
  (∀ (t o : Nat), speq (.place t o) (.nilp) = some false) ∧
  (∀ (t o : Nat), speq (.nilp) (.place t o) = some false) ∧
  (∀ (t : Nat) (o : Option Nat) (i c : Nat), speq (.elem t o i c) (.nilp) = some false) ∧
  (∀ (t : Nat) (o : Option Nat) (i c : Nat), speq (.nilp) (.elem t o i c) = some false) ∧
  (∀ (g b : Nat → SV), argv g b [] = some ([], false)) ∧
  (∀ (g b : Nat → SV) (x : SX) (xs : List SX), argv g b (x :: xs) = argc (snap b (cp g x)) (argv g b xs)) ∧
  (∀ (v : SV) (l : List SV) (s t : Bool), argc (some (v, s)) (some (l, t)) = some (v :: l, s || t)) :=
  ⟨@R440, @R441, @R442, @R443, @R444, @R445, @R446, @R447, @R448, @R449, @R450, @R451, @R452, @R453, @R454, @R455, @R456, @R457, @R458, @R459⟩
theorem SS23 : (∀ (b : Nat → SV) (k : IntKind) (n : Int), snap b (.int k n) = some (.int k n, false)) ∧
  (∀ (b : Nat → SV) (v : Bool), snap b (.bool v) = some (.bool v, false)) ∧
  (∀ (b : Nat → SV) (v : ByteArray), snap b (.str v) = some (.str v, false)) ∧
  (∀ (b : Nat → SV), snap b (.nilp) = some (.nilp, false)) ∧
  (∀ (b : Nat → SV) (z : Nat) (l : List SV), snap b (.list z l) = some (.list z l, false)) ∧
  (∀ (b : Nat → SV) (v : SV), snap b (.ref v) = some (.ref v, false)) ∧
  (∀ (b : Nat → SV) (f : FuncId) (l : List SV), snap b (.func f l) = some (.func f l, false)) ∧
  (∀ (b : Nat → SV), snap b (.undef) = some (.undef, false)) ∧
  (∀ (b : Nat → SV) (l : List SV), snap b (.agg l) = if l.all (SV.imm 2) = true then some (.agg l, false) else none) ∧
  (∀ (b : Nat → SV) (l : List SV), snap b (.tuple l) = if l.all (SV.imm 2) = true then some (.tuple l, false) else none) ∧
  (∀ (v w : SV × Bool) (c : Prop) [Decidable c] (l : Option (List SV × Bool)), argc (if c then some v else none) l = if c then argc (some v) l else none) ∧
  (∀ (b : Nat → SV) (t : Nat) (o : Option Nat), snap b (.al t o) = snapA ((b t).at o)) ∧
  (∀ (e z : Nat) (l : List SV), snapA (.own e z l) = some (.list z l, true)) ∧
  (∀ (b : Nat → SV) (t : Nat), snap b (.place t 0) = snapP (b t)) ∧
  (∀ (l : List SV), snapP (.box (.agg l)) = if (l.map snapC).all SV.solid = true then some (.ref (.agg (l.map snapC)), true) else none) ∧
  (∀ (k : IntKind) (n : Int), snapP (.box (.int k n)) = some (.ref (.int k n), true)) ∧
  (∀ (D : List Nat) (g : Nat → SV) (t : Nat), lim D g t = if D.contains t = true then .dead else g t) ∧
  (∀ (s : S) (n : Nat) (x v : SX) (d : Option Nat), effL s d (.st n x v) = stK s n (cp (get s) x) (cp (get s) v)) ∧
  (∀ (s : S) (n t o : Nat) (v : SV), stK s n (.place t o) v = stB s n t o v (get s t)) ∧
  (∀ (s : S) (n t o : Nat) (y v : SV), stB s n t o v (.box y) = if v.cells.length = n ∧ v.cells.all SV.one = true ∧ v.solid = true ∧ o + n ≤ y.cells.length ∧ ((y.cells.drop o).take n).all (SV.imm 2) = true then some ((t, .box (y.recell (setS y.cells o v.cells))) :: s) else none) :=
  ⟨@R460, @R461, @R462, @R463, @R464, @R465, @R466, @R467, @R468, @R469, @R470, @R471, @R472, @R473, @R474, @R475, @R476, @R477, @R478, @R479⟩
theorem SS24 : (∀ (s : S) (n t i c : Nat) (v : SV), stK s n (.elem t none i c) v = stE s n t i c v (get s t)) ∧
  (∀ (s : S) (n t i c e z : Nat) (l : List SV) (v : SV), stE s n t i c v (.own e z l) = stF s n t i c e z l v (l[i]?)) ∧
  (∀ (s : S) (n t i c e z : Nat) (l : List SV) (v y : SV), stF s n t i c e z l v (some y) = if v.cells.length = n ∧ v.cells.all SV.one = true ∧ v.solid = true ∧ c + n ≤ y.cells.length then some ((t, .own e z (l.set i (y.recell (setS y.cells c v.cells)))) :: s) else none) ∧
  (∀ (l cs : List SV), SV.recell (.agg l) cs = .agg cs) ∧
  (∀ (k : IntKind) (n : Int) (v : SV), SV.recell (.int k n) [v] = v) ∧
  (∀ (v0 : Bool) (v : SV), SV.recell (.bool v0) [v] = v) ∧
  (∀ (v0 : ByteArray) (v : SV), SV.recell (.str v0) [v] = v) ∧
  (∀ (v : SV), SV.recell (.nilp) [v] = v) ∧
  (∀ (z : Nat) (l : List SV) (v : SV), SV.recell (.list z l) [v] = v) ∧
  (∀ (v0 : SV) (v : SV), SV.recell (.ref v0) [v] = v) ∧
  (∀ (f : FuncId) (l : List SV) (v : SV), SV.recell (.func f l) [v] = v) ∧
  (∀ (l : List SV) (v : SV), SV.recell (.tuple l) [v] = v) ∧
  (∀ (e z : Nat) (l : List SV) (v : SV), SV.recell (.own e z l) [v] = v) ∧
  (∀ (v0 : SV) (v : SV), SV.recell (.box v0) [v] = v) ∧
  (∀ (t o : Nat) (v : SV), SV.recell (.place t o) [v] = v) ∧
  (∀ (t : Nat) (o : Option Nat) (i c : Nat) (v : SV), SV.recell (.elem t o i c) [v] = v) ∧
  (∀ (t : Nat) (o : Option Nat) (v : SV), SV.recell (.al t o) [v] = v) ∧
  (∀ (v : SV), SV.recell (.undef) [v] = v) ∧
  (∀ (l : List Int) (v : SV), SV.recell (.imap l) [v] = v) ∧
  (∀ (t : Nat) (v : SV), SV.recell (.mal t) [v] = v) :=
  ⟨@R480, @R481, @R482, @R483, @R484, @R485, @R486, @R487, @R488, @R489, @R490, @R491, @R492, @R493, @R494, @R495, @R496, @R497, @R498, @R499⟩
theorem SS25 : (∀ (s : S) (d t : Nat), effL s (some d) (.asg t) = if d = t then none else asgK s d t (get s t)) ∧
  (∀ (s : S) (d t e z : Nat) (l : List SV), asgK s d t (.own e z l) = some ((d, .own e z l) :: (t, .dead) :: killS t (killS d s))) ∧
  (∀ (s : S) (d t : Nat) (l : List Int), asgK s d t (.imap l) = some ((d, .imap l) :: (t, .dead) :: killS t (killS d s))) ∧
  (∀ (g b : Nat → SV), pv g b .mkm = some (.imap [])) ∧
  (∀ (g b : Nat → SV) (x i : SX), pv g b (.look x i) = lookV b (cp g x) (cp g i)) ∧
  (∀ (b : Nat → SV) (t : Nat) (k : Int), lookV b (.mal t) (.int .i64 k) = lookW k (b t)) ∧
  (∀ (k : Int) (l : List Int), lookW k (.imap l) = some (.bool (decide (k ∈ l)))) ∧
  (∀ (s : S) (x k : SX) (d : Option Nat), effL s d (.mput x k) = mputA s (cp (get s) x) (cp (get s) k)) ∧
  (∀ (s : S) (t : Nat) (n : Int), mputA s (.mal t) (.int .i64 n) = mputB s t n (get s t)) ∧
  (∀ (s : S) (t : Nat) (n : Int) (l : List Int), mputB s t n (.imap l) = if n ∈ l then none else some ((t, .imap (l ++ [n])) :: s)) ∧
  (∀ {P : Program} {B : Option (Nat → SV)} (c : Prop) [Decidable c] (rest : RS) (s : S) (kt : KT), effK P B (if c then none else some s) rest kt = (¬ c ∧ rsT P B rest s kt)) ∧
  (∀ (t : Nat), killS t [] = []) ∧
  (∀ (t u : Nat) (v : SV) (s : S), killS t ((u, v) :: s) = (u, killV t v) :: killS t s) ∧
  (∀ (u : Nat) (k : IntKind) (n : Int), killV u (.int k n) = .int k n) ∧
  (∀ (u : Nat) (v : Bool), killV u (.bool v) = .bool v) ∧
  (∀ (u : Nat) (v : ByteArray), killV u (.str v) = .str v) ∧
  (∀ (u : Nat), killV u (.nilp) = .nilp) ∧
  (∀ (u : Nat) (z : Nat) (l : List SV), killV u (.list z l) = .list z l) ∧
  (∀ (u : Nat) (l : List SV), killV u (.agg l) = .agg l) ∧
  (∀ (u : Nat) (v : SV), killV u (.ref v) = .ref v) :=
  ⟨@R500, @R501, @R502, @R503, @R504, @R505, @R506, @R507, @R508, @R509, @R510, @R511, @R512, @R513, @R514, @R515, @R516, @R517, @R518, @R519⟩
theorem SS26 : (∀ (u : Nat) (f : FuncId) (l : List SV), killV u (.func f l) = .func f l) ∧
  (∀ (u : Nat) (l : List SV), killV u (.tuple l) = .tuple l) ∧
  (∀ (u : Nat) (e z : Nat) (l : List SV), killV u (.own e z l) = .own e z l) ∧
  (∀ (u : Nat) (v : SV), killV u (.box v) = .box v) ∧
  (∀ (u : Nat) (t9 o : Nat), killV u (.place t9 o) = if t9 = u then .dead else .place t9 o) ∧
  (∀ (u : Nat) (t9 : Nat) (o : Option Nat) (i c : Nat), killV u (.elem t9 o i c) = if t9 = u then .dead else .elem t9 o i c) ∧
  (∀ (u : Nat) (t9 : Nat) (o : Option Nat), killV u (.al t9 o) = if t9 = u then .dead else .al t9 o) ∧
  (∀ (u : Nat), killV u (.undef) = .undef) ∧
  (∀ (u : Nat) (l : List Int), killV u (.imap l) = .imap l) ∧
  (∀ (u : Nat) (t9 : Nat), killV u (.mal t9) = if t9 = u then .dead else .mal t9) ∧
  (∀ (u : Nat), killV u (.dead) = .dead) ∧
  (∀ (s : S) (d e sz y : Nat) (x u : SX), effL s (some d) (.app e sz y x u) = appA s d e sz y (cp (get s) x) (cp (get s) u)) ∧
  (∀ (s : S) (d e sz y t : Nat) (v : SV), appA s d e sz y (.al t none) v = appB s d e sz y t (get s t) (srcOf (get s) v sz)) ∧
  (∀ (s : S) (d e sz y t e2 z : Nat) (l r : List SV), appB s d e sz y t (.own e2 z l) (some r) = if e2 = e ∧ z = sz ∧ (get s d).free = true ∧ (r.all fun y => y.cells.all SV.one) = true ∧ (l.length + r.length) * y ≤ 140737488355328 ∧ l.length + r.length ≤ 140737488355328 then some ((d, .own e sz (l ++ r)) :: (t, .dead) :: killS t s) else none) ∧
  (∀ (g : Nat → SV) (z sz : Nat) (l : List SV), srcOf g (.list z l) sz = if z = sz then some l else none) ∧
  (∀ (g : Nat → SV) (t sz : Nat) (o : Option Nat), srcOf g (.al t o) sz = srcO ((g t).at o) sz) ∧
  (∀ (e z sz : Nat) (l : List SV), srcO (.own e z l) sz = if z = sz then some l else none) ∧
  (∀ (rs : List RR) (v : SV) (s : S), post rs v .normal s = (rvs (get s) rs = some v)) ∧
  (∀ (rs : List RR) (v : SV) (s : S), post rs v .ret s = (rvs (get s) rs = some v)) ∧
  (∀ (g : Nat → SV) (rs : List RR), rvs g rs = rvO (rvL g rs)) :=
  ⟨@R520, @R521, @R522, @R523, @R524, @R525, @R526, @R527, @R528, @R529, @R530, @R531, @R532, @R533, @R534, @R535, @R536, @R537, @R538, @R539⟩
theorem SS27 : (∀ (g : Nat → SV), rvL g [] = some []) ∧
  (∀ (g : Nat → SV) (q : RR) (rs : List RR), rvL g (q :: rs) = rvc (rv g q) (rvL g rs)) ∧
  (∀ (v : SV) (l : List SV), rvc (some v) (some l) = some (v :: l)) ∧
  (∀ (v : SV), rvO (some [v]) = some v) ∧
  (∀ (v w : SV) (l : List SV), rvO (some (v :: w :: l)) = some (.tuple (v :: w :: l))) ∧
  (rvO (some []) = some (.tuple [])) ∧
  (∀ (g : Nat → SV) (t : Nat), rv g (.t t) = rvT g (cp g (.t t))) ∧
  (∀ (g : Nat → SV) (k : IntKind) (n : Int), rvT g (.int k n) = some (.int k n)) ∧
  (∀ (g : Nat → SV) (v : Bool), rvT g (.bool v) = some (.bool v)) ∧
  (∀ (g : Nat → SV) (v : ByteArray), rvT g (.str v) = some (.str v)) ∧
  (∀ (g : Nat → SV), rvT g (.nilp) = some (.nilp)) ∧
  (∀ (g : Nat → SV) (z : Nat) (l : List SV), rvT g (.list z l) = some (.list z l)) ∧
  (∀ (g : Nat → SV) (l : List SV), rvT g (.agg l) = some (.agg l)) ∧
  (∀ (g : Nat → SV) (v : SV), rvT g (.ref v) = some (.ref v)) ∧
  (∀ (g : Nat → SV) (f : FuncId) (l : List SV), rvT g (.func f l) = some (.func f l)) ∧
  (∀ (g : Nat → SV) (l : List SV), rvT g (.tuple l) = some (.tuple l)) ∧
  (∀ (g : Nat → SV), rvT g (.undef) = some (.undef)) ∧
  (∀ (g : Nat → SV) (u : Nat), rvT g (.al u none) = rvA (g u)) ∧
  (∀ (e z : Nat) (l : List SV), rvA (.own e z l) = some (.list z l)) ∧
  (∀ (g : Nat → SV) (t n : Nat) (ag : Bool), rv g (.c t n ag) = rvCc n ag (g t)) :=
  ⟨@R540, @R541, @R542, @R543, @R544, @R545, @R546, @R547, @R548, @R549, @R550, @R551, @R552, @R553, @R554, @R555, @R556, @R557, @R558, @R559⟩
theorem SS28 : (∀ (n : Nat) (l : List SV), rvCc n true (.box (.agg l)) = if l.length = n ∧ (l.map snapC).all SV.solid = true then some (.agg (l.map snapC)) else none) ∧
  (∀ (m : Nat) (k : IntKind) (n : Int), rvCc m false (.box (.int k n)) = some (.int k n)) ∧
  (∀ (m : Nat) (v : Bool), rvCc m false (.box (.bool v)) = some (.bool v)) ∧
  (∀ (m : Nat) (v : ByteArray), rvCc m false (.box (.str v)) = some (.str v)) ∧
  (∀ (m : Nat), rvCc m false (.box (.nilp)) = some (.nilp)) ∧
  (∀ (m : Nat) (z : Nat) (l : List SV), rvCc m false (.box (.list z l)) = some (.list z l)) ∧
  (∀ (m : Nat) (v : SV), rvCc m false (.box (.ref v)) = some (.ref v)) ∧
  (∀ (c : Prop) [Decidable c] (v : SV) (l : Option (List SV)), rvc (if c then some v else none) l = if c then rvc (some v) l else none) ∧
  (∀ (v : SV), initS [v] = [(0, v)]) ∧
  (initS [] = []) ∧
  (∀ (v w : SV), initS [v, w] = [(0, v), (1, w)]) ∧
  (∀ (v w x : SV), initS [v, w, x] = [(0, v), (1, w), (2, x)]) ∧
  (∀ (v w x y : SV), initS [v, w, x, y] = [(0, v), (1, w), (2, x), (3, y)]) ∧
  (∀ (k : IntKind) (n : Int), natOf (.int k n) = n.toNat) :=
  ⟨@R560, @R561, @R562, @R563, @R564, @R565, @R566, @R567, @R568, @R569, @R570, @R571, @R572, @R573⟩
theorem Z0 (b : Bool) : (true || b) = true := by simp
theorem Z1 (b : Bool) : (b || true) = true := by simp
theorem Z2 (b : Bool) : (b && true) = b := by simp
theorem Z3 (b : Bool) : (true && b) = b := by simp
theorem Z4 (b : Bool) : (false && b) = false := by simp
theorem Z5 (b : Bool) : (b && false) = false := by simp
theorem Z6 (b : Bool) : (b || false) = b := by simp
theorem Z7 (b : Bool) : (false || b) = b := by simp
theorem Z8  : (!false) = true := by simp
theorem Z9  : (!true) = false := by simp
theorem Z10 (p : Prop) : (True ∧ p) = p := by simp
theorem Z11 (p : Prop) : (p ∧ True) = p := by simp
theorem Z12  : (false = true) = False := by simp
theorem Z13  : (true = true) = True := by simp
theorem Z14  : (true = false) = False := by simp
theorem Z15  : (false = false) = True := by simp
theorem Z16 (a b : Nat) (l : List Nat) : (b :: l).contains a = (a == b || l.contains a) := List.contains_cons
theorem Z17 (a : Nat) : ([] : List Nat).contains a = false := by simp
theorem Z18 (a : SV) (l : List SV) : (a :: l).length = l.length + 1 := by simp
theorem Z19  : ([] : List SV).length = 0 := by simp
theorem Z20 (p : SV → Bool) (a : SV) (l : List SV) : (a :: l).all p = (p a && l.all p) := by simp
theorem Z21 (p : SV → Bool) : ([] : List SV).all p = true := by simp
theorem Z22 (a : SV) (l : List SV) : (a :: l)[0]? = some a := by simp
theorem Z23 (a : SV) (l : List SV) (n : Nat) : (a :: l)[n + 1]? = l[n]? := by simp
theorem Z24 (a : SV) (l : List SV) (n : Nat) : (a :: l).take (n + 1) = a :: l.take n := by simp
theorem Z25 (l : List SV) : l.take 0 = [] := by simp
theorem Z26 (a : SV) (l : List SV) (n : Nat) : (a :: l).drop (n + 1) = l.drop n := by simp
theorem Z27 (l : List SV) : l.drop 0 = l := by simp
theorem Z28 (f : SV → SV) (a : SV) (l : List SV) : (a :: l).map f = f a :: l.map f := by simp
theorem Z29 (f : SV → SV) : ([] : List SV).map f = [] := by simp
theorem Z30 (a b : SV) (l : List SV) : (a :: l).set 0 b = b :: l := by simp
theorem Z31 (a b : SV) (l : List SV) (n : Nat) : (a :: l).set (n + 1) b = a :: l.set n b := by simp
theorem Z32 (l : List SV) : l ++ [] = l := by simp
theorem Z33 (l : List SV) : [] ++ l = l := by simp
theorem Z34 (a : SV) (l r : List SV) : (a :: l) ++ r = a :: (l ++ r) := by simp
theorem Z35 (a d : SV) (l : List SV) : (a :: l).getD 0 d = a := by simp
theorem Z36 (a d : SV) (l : List SV) (n : Nat) : (a :: l).getD (n + 1) d = l.getD n d := by simp
theorem Z37 (p : Prop) : (p ∧ p) = p := by simp
theorem Z38 (n : Nat) : ((n : Int) < n) = False := by simp
theorem Z39 (p : Prop) : (False ∧ p) = False := by simp
theorem Z40 (p : Prop) : (¬ False) = True := by simp
theorem Z41  : (¬ True) = False := by simp
theorem SZ : (∀ (b : Bool), (true || b) = true) ∧
  (∀ (b : Bool), (b || true) = true) ∧
  (∀ (b : Bool), (b && true) = b) ∧
  (∀ (b : Bool), (true && b) = b) ∧
  (∀ (b : Bool), (false && b) = false) ∧
  (∀ (b : Bool), (b && false) = false) ∧
  (∀ (b : Bool), (b || false) = b) ∧
  (∀ (b : Bool), (false || b) = b) ∧
  ((!false) = true) ∧
  ((!true) = false) ∧
  (∀ (p : Prop), (True ∧ p) = p) ∧
  (∀ (p : Prop), (p ∧ True) = p) ∧
  ((false = true) = False) ∧
  ((true = true) = True) ∧
  ((true = false) = False) ∧
  ((false = false) = True) ∧
  (∀ (a b : Nat) (l : List Nat), (b :: l).contains a = (a == b || l.contains a)) ∧
  (∀ (a : Nat), ([] : List Nat).contains a = false) ∧
  (∀ (a : SV) (l : List SV), (a :: l).length = l.length + 1) ∧
  (([] : List SV).length = 0) ∧
  (∀ (p : SV → Bool) (a : SV) (l : List SV), (a :: l).all p = (p a && l.all p)) ∧
  (∀ (p : SV → Bool), ([] : List SV).all p = true) ∧
  (∀ (a : SV) (l : List SV), (a :: l)[0]? = some a) ∧
  (∀ (a : SV) (l : List SV) (n : Nat), (a :: l)[n + 1]? = l[n]?) ∧
  (∀ (a : SV) (l : List SV) (n : Nat), (a :: l).take (n + 1) = a :: l.take n) ∧
  (∀ (l : List SV), l.take 0 = []) ∧
  (∀ (a : SV) (l : List SV) (n : Nat), (a :: l).drop (n + 1) = l.drop n) ∧
  (∀ (l : List SV), l.drop 0 = l) ∧
  (∀ (f : SV → SV) (a : SV) (l : List SV), (a :: l).map f = f a :: l.map f) ∧
  (∀ (f : SV → SV), ([] : List SV).map f = []) ∧
  (∀ (a b : SV) (l : List SV), (a :: l).set 0 b = b :: l) ∧
  (∀ (a b : SV) (l : List SV) (n : Nat), (a :: l).set (n + 1) b = a :: l.set n b) ∧
  (∀ (l : List SV), l ++ [] = l) ∧
  (∀ (l : List SV), [] ++ l = l) ∧
  (∀ (a : SV) (l r : List SV), (a :: l) ++ r = a :: (l ++ r)) ∧
  (∀ (a d : SV) (l : List SV), (a :: l).getD 0 d = a) ∧
  (∀ (a d : SV) (l : List SV) (n : Nat), (a :: l).getD (n + 1) d = l.getD n d) ∧
  (∀ (p : Prop), (p ∧ p) = p) ∧
  (∀ (n : Nat), ((n : Int) < n) = False) ∧
  (∀ (p : Prop), (False ∧ p) = False) ∧
  (∀ (p : Prop), (¬ False) = True) ∧
  ((¬ True) = False) :=
  ⟨@Z0, @Z1, @Z2, @Z3, @Z4, @Z5, @Z6, @Z7, @Z8, @Z9, @Z10, @Z11, @Z12, @Z13, @Z14, @Z15, @Z16, @Z17, @Z18, @Z19, @Z20, @Z21, @Z22, @Z23, @Z24, @Z25, @Z26, @Z27, @Z28, @Z29, @Z30, @Z31, @Z32, @Z33, @Z34, @Z35, @Z36, @Z37, @Z38, @Z39, @Z40, @Z41⟩
theorem SS : (type_of% SS0) ∧ (type_of% SS1) ∧ (type_of% SS2) ∧ (type_of% SS3) ∧ (type_of% SS4) ∧ (type_of% SS5) ∧ (type_of% SS6) ∧ (type_of% SS7) ∧ (type_of% SS8) ∧ (type_of% SS9) ∧ (type_of% SS10) ∧ (type_of% SS11) ∧ (type_of% SS12) ∧ (type_of% SS13) ∧ (type_of% SS14) ∧ (type_of% SS15) ∧ (type_of% SS16) ∧ (type_of% SS17) ∧ (type_of% SS18) ∧ (type_of% SS19) ∧ (type_of% SS20) ∧ (type_of% SS21) ∧ (type_of% SS22) ∧ (type_of% SS23) ∧ (type_of% SS24) ∧ (type_of% SS25) ∧ (type_of% SS26) ∧ (type_of% SS27) ∧ (type_of% SS28) ∧ (type_of% SZ) := ⟨SS0, SS1, SS2, SS3, SS4, SS5, SS6, SS7, SS8, SS9, SS10, SS11, SS12, SS13, SS14, SS15, SS16, SS17, SS18, SS19, SS20, SS21, SS22, SS23, SS24, SS25, SS26, SS27, SS28, SZ⟩
end Go.Sv
