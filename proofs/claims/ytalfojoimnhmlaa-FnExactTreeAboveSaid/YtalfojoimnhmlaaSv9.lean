/- What writes: a store, an own row that is handed on, an append. No condition. -/
import Derived.Test.YtalfojoimnhmlaaSv8
namespace Go.Sv
open Go.RowKit
set_option linter.unusedVariables false
inductive EOp where
  | st (n : Nat) (x v : SX)
  | asg (t : Nat)
  | app (e sz bytes : Nat) (x y : SX)
  | mput (x k : SX)
/-- Fits into one cell. -/
def SV.one : SV → Bool
  | .int _ _ | .bool _ | .str _ | .nilp | .list _ _ | .ref _ | .func _ _ => true
  | _ => false
def SV.recell (y : SV) (cs : List SV) : SV := match y with | .agg _ => .agg cs | _ => cs.headD .dead
/-- Whoever leans on slot t is forgotten. -/
def killV (t : Nat) (v : SV) : SV :=
  match v with
  | .place u _ => if u = t then .dead else v
  | .elem u _ _ _ => if u = t then .dead else v
  | .al u _ => if u = t then .dead else v
  | .mal u => if u = t then .dead else v
  | v => v
def kill (t : Nat) (g : Nat → SV) : Nat → SV := fun u => killV t (g u)
/-- The elements that an append takes over. -/
def srcOf (g : Nat → SV) (v : SV) (sz : Nat) : Option (List SV) :=
  match v with
  | .list sz' ys => if sz' = sz then some ys else none
  | .al t o => match (g t).at o with | .own _ sz' ys => if sz' = sz then some ys else none | _ => none
  | _ => none
def eff (g : Nat → SV) (d : Option Nat) : EOp → Option (Nat → SV)
  | .st n x v =>
    let s := cp g v
    if s.cells.length = n ∧ s.cells.all SV.one = true ∧ s.solid = true then
      (match cp g x with
      | .place t o => (match g t with
        | .box y => if o + n ≤ y.cells.length ∧ ((y.cells.drop o).take n).all (SV.imm 2) = true then some (upd g t (.box (y.recell (setS y.cells o s.cells)))) else none
        | _ => none)
      | .elem t none i c => (match g t with
        | .own e sz xs => (match xs[i]? with
          | some z => if c + n ≤ z.cells.length then some (upd g t (.own e sz (xs.set i (z.recell (setS z.cells c s.cells))))) else none
          | none => none)
        | _ => none)
      | _ => none) else none
  | .asg t => match d with
    | some d => if d = t then none else (match g t with
      | .own e sz xs => some (upd (upd (kill t (kill d g)) t .dead) d (.own e sz xs))
      | .imap l => some (upd (upd (kill t (kill d g)) t .dead) d (.imap l))
      | _ => none)
    | none => none
  | .mput x k => match cp g x, cp g k with
    | .mal t, .int .i64 n => (match g t with
      | .imap l => if n ∈ l then none else some (upd g t (.imap (l ++ [n])))
      | _ => none)
    | _, _ => none
  | .app e sz bytes x y => match d with
    | some d => (match cp g x with
      | .al t none => (match g t with
        | .own e' sz' xs => (match srcOf g (cp g y) sz with
          | some ys => if e' = e ∧ sz' = sz ∧ (g d).free = true ∧ (ys.all fun y => y.cells.all SV.one) = true ∧ (xs.length + ys.length) * bytes ≤ 140737488355328 ∧ xs.length + ys.length ≤ 140737488355328 then some (upd (upd (kill t g) t .dead) d (.own e sz (xs ++ ys))) else none
          | none => none)
        | _ => none)
      | _ => none)
    | none => none
def okE (P : Program) (n : Nat) (o : Op) (d : Option Nat) : EOp → Bool
  | .st k x v => match o with | .store t y u => tyN P t k && okX y x && okX u v && d == none | _ => false
  | .asg t => match o, d with | .assign (.tmp t'), some d => t == t' && decide (d < n) | _, _ => false
  | .mput x k => match o with
    | .mapUpdate t m i u => d == none && okX m x && okX i k && (match u with | .const (.bool true) => true | _ => false) &&
      (match P.underlying t with | some (.map kt e) => (match P.underlying kt with | some (.int .i64) => true | _ => false) | _ => false)
    | _ => false
  | .app e sz bytes x y => match o, d with
    | .call { callee := .builtin .append, args, argTypes }, some d => (match args.toList, argTypes.toList with
      | [x', y'], [t, t2] => t == t2 && okX x' x && okX y' y && (match P.underlying t with | some (.slice e') => e' == e | _ => false) && decide (d < n) && decide (0 < sz) &&
        (match P.info? e with | some i => i.size == sz && i.bytes == bytes && (match i.zero with | some z => z.cells.size == sz | none => false) | none => false)
      | _, _ => false)
    | _, _ => false
section
variable {P : Program} {n : Nat} {W : Base} {M : Nat → Prop} {g : Nat → SV} {a : Act} {w : World}
theorem one_cell {v : Value} {c : SV} (h : Rep M w v c) (h1 : c.one = true) : v.oneCell' = true := by
  cases h <;> first | rfl | (simp [SV.one] at h1)
theorem one_cells {us : List Value} {cs : List SV} (h : RepL M w us cs) (h1 : cs.all SV.one = true) : ∀ u ∈ us, u.oneCell' = true := by
  induction us generalizing cs with
  | nil => simp
  | cons u us ih =>
    cases h with
    | lcons h hs =>
      rw [List.all_cons, Bool.and_eq_true] at h1
      intro v hv
      rcases List.mem_cons.1 hv with rfl | hv
      · exact one_cell h h1.1
      · exact ih hs h1.2 v hv
/-- What leans on other slots is kept if those are kept. -/
theorem kill_spec (t : Nat) (g : Nat → SV) (u : Nat) : (kill t g u = g u ∨ kill t g u = .dead) ∧ (kill t g u ≠ .dead → match g u with | .place v _ | .elem v _ _ _ | .al v _ | .mal v => v ≠ t | _ => True) := by
  unfold kill killV
  cases hg : g u <;> simp
  all_goals omega
/-- Other memory than the blocks of one slot's has not turned. -/
structure Tr (w w' : World) (c : Nat) : Prop where
  os : w'.os = w.os
  tape : w'.tape = w.tape
  output : w'.output = w.output
  size : w.heap.size ≤ w'.heap.size
  block : ∀ k, k < w.heap.size → k ≠ c → w'.heap[k]? = w.heap[k]?
theorem Ow.tr {w' : World} {c : Nat} (ht : Tr w w' c) (hl : ∀ b, M b → b < w.heap.size) (hc : ¬ M c) {j : Jo} {bs : List Nat} (h : Ow M w j bs) (hb : ∀ b ∈ bs, b < w.heap.size ∧ b ≠ c) : Ow M w' j bs :=
  Ow.mono (fun _ h => h) (fun b hm => ht.block b (hl b hm) fun e => hc (e ▸ hm)) h fun b hm => ht.block b (hb b hm).1 (hb b hm).2
theorem valAt_tr {w' : World} {c : Nat} (ht : Tr w w' c) (v : Value) (o : Option Nat) {ad : Option Addr} {m cap : Nat} (hv : valAt w v o = .slice ad m cap) (hne : ∀ x : Addr, v = .pointer (some x) → x.block ≠ c) : valAt w' v o = valAt w v o := by
  cases o with
  | none => rfl
  | some o =>
    cases v with
    | pointer a =>
      cases a with
      | none => rfl
      | some a =>
        simp only [valAt] at hv ⊢
        cases hc : w.cell? ⟨a.block, o, none⟩ with
        | none => rw [hc] at hv; simp [Go.undef] at hv
        | some u =>
          have hl := World.block_lt_of_cell? w _ hc
          rw [World.cell?_of_block (w := w) (a := ⟨a.block, o, none⟩) (ht.block a.block hl (hne a rfl)), hc]
    | _ => rfl
/-- What an owner points to is its own. -/
theorem own_ptr {v : Value} {y : SV} {bs : List Nat} (h : OwnV M w v (.box y) bs) : ∃ c, v = .pointer (some ⟨c, 0, none⟩) ∧ c ∈ bs := by
  cases h with
  | imm _ _ h => cases h
  | box b e x cur bs hb hl => exact ⟨b, rfl, List.mem_cons_self⟩
/-- The block that slot t owns is written: t tells another thing, all who do not lean on t tell what they did; those who do are shown anew. -/
theorem St.write {tm : Nat → Value} (hst : St W M g tm w) {w' : World} {t c : Nat} {x : SV} {g' : Nat → SV} (ht : Tr w w' c) (bs : Nat → List Nat) (h1 : ∀ t, OwnX g tm M w (tm t) (g t) (bs t)) (h2 : ∀ t u b, b ∈ bs t → b ∈ bs u → t = u) (h3 : ∀ t, (bs t).Nodup)
    (h4 : ∀ t b, b ∈ bs t → W.heap.size ≤ b ∧ b < w.heap.size ∧ ¬ M b) (hc : c ∈ bs t) (hx : OwnX g' tm M w' (tm t) x (bs t)) (hg' : ∀ u, g' u = if u = t then x else g u) (hxf : x.free = false)
    (hre : ∀ u v o, g u = .place v o → v = t → ∃ y, x = .box y) (hre2 : ∀ u v o i c, g u = .elem v o i c → v = t → OwnX g' tm M w' (tm u) (g u) []) (hre3 : ∀ u v o, g u = .al v o → v = t → OwnX g' tm M w' (tm u) (g u) []) (hre4 : ∀ u v, g u = .mal v → v = t → OwnX g' tm M w' (tm u) (g u) []) : St W M g' tm w' := by
  have hcM : ¬ M c := (h4 t c hc).2.2
  have hW := (h4 t c hc).1
  have hother : ∀ u, u ≠ t → g' u = g u := fun u hu => by rw [hg', if_neg hu]
  have hsame : g' t = x := by rw [hg', if_pos rfl]
  have nptr : ∀ v y, g v = .box y → v ≠ t → ∀ p : Addr, tm v = .pointer (some p) → p.block ≠ c := fun v y hv hne p hp e => by
    have k := h1 v
    rw [hv] at k
    have k : OwnV M w (tm v) (.box y) (bs v) := k
    obtain ⟨c', e1, e2⟩ := own_ptr k
    rw [hp] at e1
    cases e1
    exact hne (h2 v t c (e ▸ e2) hc)
  refine ⟨⟨ht.os.trans hst.below.os, ht.tape.trans hst.below.tape, ht.output.trans hst.below.output, Nat.le_trans hst.below.size ht.size, fun k hk => ?_⟩, fun b hb => Nat.lt_of_lt_of_le (hst.lt b hb) ht.size, hst.new, bs, fun u => ?_, h2, h3, fun u b hb => ?_⟩
  · rw [ht.block k (Nat.lt_of_lt_of_le hk hst.below.size) (by omega)]
    exact hst.below.block k hk
  · by_cases e : u = t
    · subst e
      rw [hsame]
      exact hx
    · rw [hother u e]
      have k := h1 u
      have gen : OwnV M w (tm u) (g u) (bs u) → OwnV M w' (tm u) (g u) (bs u) := fun k => Ow.tr ht hst.lt hcM k fun b hb => ⟨(h4 u b hb).2.1, fun e' => e (h2 u t c (e' ▸ hb) hc)⟩
      have at_ne : ∀ v o e0 sz xs, v ≠ t → (g v).at o = .own e0 sz xs → ∀ p : Addr, o ≠ none → tm v = .pointer (some p) → p.block ≠ c := fun v o e0 sz xs hv ha p ho hp => by
        cases o with
        | none => exact absurd rfl ho
        | some o =>
          cases hgv : g v <;> rw [hgv] at ha <;> simp only [SV.at, reduceCtorEq] at ha
          exact nptr v _ hgv hv p hp
      cases hgu : g u <;> rw [hgu] at k gen <;> first | exact gen k | skip
      case imap l => obtain ⟨b, e', hv, hs⟩ := k; exact ⟨b, e', hv, hs.kept (ht.block b (h4 u b (by rw [e']; exact List.mem_cons_self)).2.1 fun e2 => e (h2 u t c (by rw [e', e2]; exact List.mem_cons_self) hc))⟩
      case mal v =>
        obtain ⟨k0, l, k1, k2⟩ := k
        by_cases ev : v = t
        · have := hre4 u v hgu ev
          rw [hgu] at this
          rw [k0]
          exact this
        · exact ⟨k0, l, by rw [hother v ev]; exact k1, k2⟩
      case place v o =>
        obtain ⟨k0, b, y, k1, k2, k3⟩ := k
        by_cases ev : v = t
        · subst ev
          obtain ⟨y', hy'⟩ := hre u v o hgu rfl
          exact ⟨k0, b, y', by rw [hsame, hy'], k2, k3⟩
        · exact ⟨k0, b, y, by rw [hother v ev]; exact k1, k2, k3⟩
      case elem v o i q =>
        obtain ⟨k0, b, m, cap, e0, sz, xs, k1, k2, k3⟩ := k
        by_cases ev : v = t
        · have := hre2 u v o i q hgu ev
          rw [hgu] at this
          rw [k0]
          exact this
        · refine ⟨k0, b, m, cap, e0, sz, xs, by rw [hother v ev]; exact k1, ?_, k3⟩
          cases o with
          | none => exact k2
          | some o => rw [valAt_tr ht _ _ k2 fun p hp => at_ne v _ _ _ _ ev k1 p (by simp) hp]; exact k2
      case al v o =>
        obtain ⟨k0, e0, sz, xs, ad, m, cap, k1, k2, k3⟩ := k
        by_cases ev : v = t
        · have := hre3 u v o hgu ev
          rw [hgu] at this
          rw [k0]
          exact this
        · refine ⟨k0, e0, sz, xs, ad, m, cap, by rw [hother v ev]; exact k1, ?_, k3⟩
          cases o with
          | none => exact k2
          | some o => rw [valAt_tr ht _ _ k2 fun p hp => at_ne v _ _ _ _ ev k1 p (by simp) hp]; exact k2
  · obtain ⟨q1, q2, q3⟩ := h4 u b hb
    exact ⟨q1, Nat.lt_of_lt_of_le q2 ht.size, q3⟩
end
end Go.Sv
