/- The state of a walk without memory: what the slots of a frame tell, which blocks the call owns, and how one slot is written. No condition. -/
import Derived.Test.YtalfojoimnhmlaaSv0
namespace Go.Sv
open Go.RowKit
set_option linter.unusedVariables false
/-- What is told of things that may be the call's own: a value; a list of values. -/
inductive Jo where
  | v (v : Value) (s : SV)
  | l (vs : List Value) (ss : List SV)
/-- A value that may be the call's own, with the blocks that it owns. -/
inductive Ow (M : Nat → Prop) (w : World) : Jo → List Nat → Prop
  | imm (v : Value) (s : SV) (h : Rep M w v s) : Ow M w (.v v s) []
  | ownNil (e sz : Nat) : Ow M w (.v (.slice none 0 0) (.own e sz [])) []
  | own (b cap e sz : Nat) (xs : List SV) (cur : Array Value) (hb : w.heap[b]? = some (.cells cur e (0, 0))) (hs : cur.size = cap * sz) (hl : xs.length ≤ cap) (hx : cap ≤ maxLen) (h : RepR M w b 0 sz xs) :
      Ow M w (.v (.slice (some ⟨b, 0, none⟩) xs.length cap) (.own e sz xs)) [b]
  | box (b e : Nat) (x : SV) (cur : Array Value) (bs : List Nat) (hb : w.heap[b]? = some (.cells cur e (0, 0))) (h : Ow M w (.l cur.toList x.cells) bs) : Ow M w (.v (.pointer (some ⟨b, 0, none⟩)) (.box x)) (b :: bs)
  | agg (us : List Value) (cs : List SV) (bs : List Nat) (h : Ow M w (.l us cs) bs) : Ow M w (.v (.agg us.toArray) (.agg cs)) bs
  | tuple (us : List Value) (cs : List SV) (bs : List Nat) (h : Ow M w (.l us cs) bs) : Ow M w (.v (.tuple us.toArray) (.tuple cs)) bs
  | nil : Ow M w (.l [] []) []
  | cons {v : Value} {s : SV} {bs : List Nat} {vs : List Value} {ss : List SV} {bs' : List Nat} (h : Ow M w (.v v s) bs) (hs : Ow M w (.l vs ss) bs') : Ow M w (.l (v :: vs) (s :: ss)) (bs ++ bs')
abbrev OwnV (M : Nat → Prop) (w : World) (v : Value) (s : SV) (bs : List Nat) : Prop := Ow M w (.v v s) bs
abbrev OwnL (M : Nat → Prop) (w : World) (vs : List Value) (ss : List SV) (bs : List Nat) : Prop := Ow M w (.l vs ss) bs
section
variable {M M' : Nat → Prop} {w w' : World}
theorem OwnL.of_rep {us : List Value} {cs : List SV} (h : RepL M w us cs) : OwnL M w us cs [] := by
  induction us generalizing cs with
  | nil => cases h; exact .nil
  | cons u us ih => cases h with | lcons h hs => exact .cons (.imm _ _ h) (ih hs)
theorem Ow.mono (hM : ∀ b, M b → M' b) (hw : Same M w w') {j : Jo} {bs : List Nat} (h : Ow M w j bs) : (∀ b ∈ bs, w'.heap[b]? = w.heap[b]?) → Ow M' w' j bs := by
  induction h with
  | imm v s h => exact fun _ => .imm v s (Rep.mono hM hw h)
  | ownNil e sz => exact fun _ => .ownNil e sz
  | own b cap e sz xs cur hb hs hl hx h =>
    exact fun hbs => .own b cap e sz xs cur (by rw [hbs b (List.mem_singleton.2 rfl)]; exact hb) hs hl hx (RepR.mono hM hw (hbs b (List.mem_singleton.2 rfl)) h)
  | box b e x cur bs hb _ ih => exact fun hbs => .box b e x cur bs (by rw [hbs b List.mem_cons_self]; exact hb) (ih fun c hc => hbs c (List.mem_cons_of_mem _ hc))
  | agg us cs bs _ ih => exact fun hbs => .agg us cs bs (ih hbs)
  | tuple us cs bs _ ih => exact fun hbs => .tuple us cs bs (ih hbs)
  | nil => exact fun _ => .nil
  | cons _ _ ih ihs => exact fun hbs => .cons (ih fun c hc => hbs c (List.mem_append_left _ hc)) (ihs fun c hc => hbs c (List.mem_append_right _ hc))
/-- No block is owned by it, and it leans on none. -/
def SV.imm : Nat → SV → Bool
  | 0, _ => false
  | n + 1, x => match x with
    | .own _ _ _ | .box _ | .imap _ | .place _ _ | .elem _ _ _ _ | .al _ _ | .mal _ => false
    | .agg cs => cs.all (SV.imm n)
    | .tuple cs => cs.all (SV.imm n)
    | _ => true
theorem Ow.of_imm {j : Jo} {bs : List Nat} (h : Ow M w j bs) : (match j with | .v v x => ∀ n, x.imm n = true → Rep M w v x ∧ bs = [] | .l vs ss => ∀ n, (ss.all (SV.imm n)) = true → RepL M w vs ss ∧ bs = []) := by
  induction h with
  | imm v s h => exact fun n hn => ⟨h, rfl⟩
  | ownNil e sz => intro n hn; cases n <;> simp [SV.imm] at hn
  | own => intro n hn; cases n <;> simp [SV.imm] at hn
  | box => intro n hn; cases n <;> simp [SV.imm] at hn
  | agg us cs bs _ ih =>
    intro n hn
    cases n with
    | zero => simp [SV.imm] at hn
    | succ n => obtain ⟨h1, h2⟩ := ih n hn; exact ⟨.agg _ _ h1, h2⟩
  | tuple us cs bs _ ih =>
    intro n hn
    cases n with
    | zero => simp [SV.imm] at hn
    | succ n => obtain ⟨h1, h2⟩ := ih n hn; exact ⟨.tuple _ _ h1, h2⟩
  | nil => intro n hn; exact ⟨.lnil, rfl⟩
  | cons _ _ ih ihs =>
    intro n hn
    rw [List.all_cons, Bool.and_eq_true] at hn
    obtain ⟨h1, rfl⟩ := ih n hn.1
    obtain ⟨h2, rfl⟩ := ihs n hn.2
    exact ⟨.lcons h1 h2, rfl⟩
theorem OwnV.rep {v : Value} {x : SV} {bs : List Nat} {n : Nat} (h : OwnV M w v x bs) (hn : x.imm n = true) : Rep M w v x ∧ bs = [] := Ow.of_imm h n hn
theorem OwnL.rep {us : List Value} {cs : List SV} {bs : List Nat} {n : Nat} (h : OwnL M w us cs bs) (hn : cs.all (SV.imm n) = true) : RepL M w us cs ∧ bs = [] := Ow.of_imm h n hn
theorem OwnL.len {us : List Value} {cs : List SV} {bs : List Nat} (h : OwnL M w us cs bs) : us.length = cs.length := by
  induction us generalizing cs bs with
  | nil => cases h; rfl
  | cons u us ih => cases h with | cons _ hs => simp [ih hs]
theorem OwnL.get {us : List Value} {cs : List SV} {bs : List Nat} (h : OwnL M w us cs bs) : ∀ {j : Nat} {c : SV}, cs[j]? = some c → ∃ u bs', us[j]? = some u ∧ OwnV M w u c bs' ∧ ∀ b ∈ bs', b ∈ bs := by
  induction us generalizing cs bs with
  | nil => cases h; intro j c hj; simp at hj
  | cons u us ih =>
    cases h with
    | cons h hs =>
      intro j c hj
      cases j with
      | zero => simp at hj; subst hj; exact ⟨u, _, rfl, h, fun b hb => List.mem_append_left _ hb⟩
      | succ j =>
        obtain ⟨u', bs', h1, h2, h3⟩ := ih hs (by simpa using hj)
        exact ⟨u', bs', by simpa using h1, h2, fun b hb => List.mem_append_right _ (h3 b hb)⟩
theorem OwnL.drop {us : List Value} {cs : List SV} {bs : List Nat} (h : OwnL M w us cs bs) (n : Nat) : ∃ bs', OwnL M w (us.drop n) (cs.drop n) bs' := by
  induction n generalizing us cs bs with
  | zero => exact ⟨bs, by simpa using h⟩
  | succ n ih => cases h with
    | nil => exact ⟨[], by simpa using Ow.nil⟩
    | cons _ hs => simpa using ih hs
theorem OwnL.take {us : List Value} {cs : List SV} {bs : List Nat} (h : OwnL M w us cs bs) (n : Nat) : ∃ bs', OwnL M w (us.take n) (cs.take n) bs' := by
  induction n generalizing us cs bs with
  | zero => exact ⟨[], by simpa using Ow.nil⟩
  | succ n ih => cases h with
    | nil => exact ⟨[], by simpa using Ow.nil⟩
    | cons h hs => obtain ⟨bs', h'⟩ := ih hs; exact ⟨_, by simpa using Ow.cons h h'⟩
end
/-! ### the slots -/
/-- What lies at a base: a slot, or a cell of the variable that a slot points to. -/
def SV.at (x : SV) (o : Option Nat) : SV :=
  match o with
  | none => x
  | some o => match x with | .box y => y.cells.getD o .dead | _ => .dead
def valAt (w : World) (v : Value) (o : Option Nat) : Value :=
  match o with
  | none => v
  | some o => match v with | .pointer (some a) => (w.cell? ⟨a.block, o, none⟩).getD Go.undef | _ => Go.undef
/-- Block g is a map[int]bool that tells true of just these numbers. -/
def Seen (w : World) (g : Nat) (l : List Int) : Prop :=
  ∃ es clock, w.heap[g]? = some (.map es clock) ∧ es.toList.map (fun e => (e.key, e.val)) = l.map fun x => (Value.int .i64 x, Value.bool true)
theorem Seen.kept {w w' : World} {g : Nat} {l : List Int} (h : Seen w g l) (hk : w'.heap[g]? = w.heap[g]?) : Seen w' g l := by
  obtain ⟨es, clock, hb, hes⟩ := h
  exact ⟨es, clock, hk.trans hb, hes⟩
theorem Seen.lt {w : World} {g : Nat} {l : List Int} (h : Seen w g l) : g < w.heap.size := by
  obtain ⟨es, clock, hb, _⟩ := h
  rcases Nat.lt_or_ge g w.heap.size with h | h
  · exact h
  · rw [Array.getElem?_eq_none h] at hb; cases hb
/-- A slot's value: its own, or a pointer into, or a copy of, what another slot owns. -/
def OwnX (g : Nat → SV) (tm : Nat → Value) (M : Nat → Prop) (w : World) (v : Value) (x : SV) (bs : List Nat) : Prop :=
  match x with
  | .place t o => bs = [] ∧ ∃ b y, g t = .box y ∧ tm t = .pointer (some ⟨b, 0, none⟩) ∧ v = .pointer (some ⟨b, o, none⟩)
  | .elem t o i c => bs = [] ∧ ∃ b n cap e sz xs, (g t).at o = .own e sz xs ∧ valAt w (tm t) o = .slice (some ⟨b, 0, none⟩) n cap ∧ i < xs.length ∧ v = .pointer (some ⟨b, i * sz + c, none⟩)
  | .al t o => bs = [] ∧ ∃ e sz xs a n cap, (g t).at o = .own e sz xs ∧ valAt w (tm t) o = .slice a n cap ∧ v = .slice a n cap
  | .imap l => ∃ b, bs = [b] ∧ v = .map (some b) ∧ Seen w b l
  | .mal t => bs = [] ∧ ∃ l, g t = .imap l ∧ v = tm t
  | x => OwnV M w v x bs
/-- The head of a walk: the world, and the blocks that nobody writes to. -/
structure Base where
  w : World
  M0 : Nat → Prop
abbrev Base.heap (W : Base) : Array Obj := W.w.heap
/-- The state: blocks of the world at the head are as they were; M: blocks that nobody writes to. -/
structure St (W : Base) (M : Nat → Prop) (g : Nat → SV) (tm : Nat → Value) (w : World) : Prop where
  below : Below W.heap.size W.w w
  lt : ∀ b, M b → b < w.heap.size
  new : ∀ b, M b → W.M0 b ∨ W.heap.size ≤ b
  own : ∃ bs : Nat → List Nat, (∀ t, OwnX g tm M w (tm t) (g t) (bs t)) ∧ (∀ t u b, b ∈ bs t → b ∈ bs u → t = u) ∧ (∀ t, (bs t).Nodup) ∧ ∀ t b, b ∈ bs t → W.heap.size ≤ b ∧ b < w.heap.size ∧ ¬ M b
/-- A step: nothing that was there has turned, but new blocks may be there, some of which nobody will write to. -/
structure Gr (M : Nat → Prop) (w : World) (M' : Nat → Prop) (w' : World) : Prop where
  below : Below w.heap.size w w'
  sub : ∀ b, M b → M' b
  new : ∀ b, M' b → M b ∨ w.heap.size ≤ b
  lt : ∀ b, M' b → b < w'.heap.size
theorem Gr.refl {M : Nat → Prop} {w : World} (h : ∀ b, M b → b < w.heap.size) : Gr M w M w := ⟨Below.refl _ _, fun _ h => h, fun _ h => .inl h, h⟩
def upd {α : Type} (g : Nat → α) (d : Nat) (x : α) : Nat → α := fun t => if t = d then x else g t
theorem upd_same {α : Type} (g : Nat → α) (d : Nat) (x : α) : upd g d x d = x := if_pos rfl
theorem upd_other {α : Type} (g : Nat → α) {d t : Nat} (x : α) (h : t ≠ d) : upd g d x t = g t := if_neg h
/-- No other slot leans on it. -/
def SV.free : SV → Bool
  | .own _ _ _ | .box _ | .imap _ => false
  | _ => true
theorem SV.at_own_free {x : SV} {o : Option Nat} {e sz : Nat} {xs : List SV} (h : x.at o = .own e sz xs) : x.free = false := by
  cases o with
  | none => simp only [SV.at] at h; subst h; rfl
  | some o => cases x <;> simp [SV.at] at h <;> rfl
theorem valAt_grow {w w' : World} (h : Below w.heap.size w w') (v : Value) (o : Option Nat) {a : Option Addr} {n cap : Nat} (hv : valAt w v o = .slice a n cap) : valAt w' v o = valAt w v o := by
  cases o with
  | none => rfl
  | some o =>
    cases v with
    | pointer a =>
      cases a with
      | none => rfl
      | some a =>
        simp only [valAt] at hv ⊢
        cases hc : w.cell? ⟨a.block, o, none⟩ with
        | none => rw [hc] at hv; simp [Go.undef] at hv
        | some u =>
          have hl := World.block_lt_of_cell? w _ hc
          rw [h.cell (p := ⟨a.block, o, none⟩) hl, hc]
    | _ => rfl
theorem Gr.same {M M' : Nat → Prop} {w w' : World} (hg : Gr M w M' w') (hl : ∀ b, M b → b < w.heap.size) : Same M w w' := fun b hb => hg.below.block b (hl b hb)
theorem OwnX.step {g g' : Nat → SV} {tm tm' : Nat → Value} {M M' : Nat → Prop} {w w' : World} {v : Value} {x : SV} {bs : List Nat} (h : OwnX g tm M w v x bs)
    (hs : ∀ t, (g t).free = false → g' t = g t ∧ tm' t = tm t) (hg : Gr M w M' w') (hl : ∀ b, M b → b < w.heap.size) (hb : ∀ b ∈ bs, b < w.heap.size) : OwnX g' tm' M' w' v x bs := by
  have gen : OwnV M w v x bs → OwnV M' w' v x bs := fun h => Ow.mono hg.sub (hg.same hl) h fun b hm => hg.below.block b (hb b hm)
  cases x <;> first | exact gen h | skip
  case imap l => obtain ⟨b, e, hv, hs⟩ := h; exact ⟨b, e, hv, hs.kept (hg.below.block b (hb b (by rw [e]; exact List.mem_cons_self)))⟩
  case mal t =>
    obtain ⟨h0, l, h1, h2⟩ := h
    obtain ⟨e1, e2⟩ := hs t (by rw [h1]; rfl)
    exact ⟨h0, l, by rw [e1]; exact h1, by rw [e2]; exact h2⟩
  case place t o =>
    obtain ⟨h0, b, y, h1, h2, h3⟩ := h
    obtain ⟨e1, e2⟩ := hs t (by rw [h1]; rfl)
    exact ⟨h0, b, y, by rw [e1]; exact h1, by rw [e2]; exact h2, h3⟩
  case elem t o i c =>
    obtain ⟨h0, b, n, cap, e, sz, xs, h1, h2, h3, h4⟩ := h
    obtain ⟨e1, e2⟩ := hs t (SV.at_own_free h1)
    exact ⟨h0, b, n, cap, e, sz, xs, by rw [e1]; exact h1, by rw [e2, valAt_grow hg.below _ _ h2]; exact h2, h3, h4⟩
  case al t o =>
    obtain ⟨h0, e, sz, xs, a, n, cap, h1, h2, h3⟩ := h
    obtain ⟨e1, e2⟩ := hs t (SV.at_own_free h1)
    exact ⟨h0, e, sz, xs, a, n, cap, by rw [e1]; exact h1, by rw [e2, valAt_grow hg.below _ _ h2]; exact h2, h3⟩
/-- One slot is written: whoever leans on a slot leans on another one. -/
theorem St.put {W : Base} {M : Nat → Prop} {g : Nat → SV} {tm : Nat → Value} {w : World} (h : St W M g tm w) {M' : Nat → Prop} {w' : World} (hg : Gr M w M' w') {d : Nat} {v : Value} {x : SV} {bsx : List Nat}
    (hd : (g d).free = true) (hx : OwnX g tm M' w' v x bsx) (hn : bsx.Nodup) (hf : ∀ b ∈ bsx, w.heap.size ≤ b ∧ b < w'.heap.size ∧ ¬ M' b) : St W M' (upd g d x) (upd tm d v) w' := by
  have hW : W.heap.size ≤ w.heap.size := h.below.size
  obtain ⟨bs, h1, h2, h3, h4⟩ := h.own
  have hs : ∀ t, (g t).free = false → upd g d x t = g t ∧ upd tm d v t = tm t := fun t ht => by
    have hne : t ≠ d := fun e => by subst e; rw [hd] at ht; cases ht
    exact ⟨upd_other _ _ hne, upd_other _ _ hne⟩
  refine ⟨h.below.trans (hg.below.mono hW), hg.lt, fun b hb => (hg.new b hb).elim (h.new b) fun hb => .inr (Nat.le_trans hW hb), upd bs d bsx, fun t => ?_, fun t u b ht hu => ?_, fun t => ?_, fun t b hb => ?_⟩
  · by_cases e : t = d
    · subst e
      rw [upd_same, upd_same, upd_same]
      exact hx.step hs (Gr.refl hg.lt) hg.lt fun b hb => (hf b hb).2.1
    · rw [upd_other _ _ e, upd_other _ _ e, upd_other _ _ e]
      exact (h1 t).step hs hg h.lt fun b hb => (h4 t b hb).2.1
  · by_cases et : t = d
    · subst et
      rw [upd_same] at ht
      by_cases eu : u = t
      · exact eu.symm
      · rw [upd_other _ _ eu] at hu
        have := (h4 u b hu).2.1
        have := (hf b ht).1
        omega
    · rw [upd_other _ _ et] at ht
      by_cases eu : u = d
      · subst eu
        rw [upd_same] at hu
        have := (h4 t b ht).2.1
        have := (hf b hu).1
        omega
      · rw [upd_other _ _ eu] at hu
        exact h2 t u b ht hu
  · by_cases e : t = d
    · subst e; rw [upd_same]; exact hn
    · rw [upd_other _ _ e]; exact h3 t
  · by_cases e : t = d
    · subst e
      rw [upd_same] at hb
      exact ⟨Nat.le_trans hW (hf b hb).1, (hf b hb).2⟩
    · rw [upd_other _ _ e] at hb
      obtain ⟨k1, k2, k3⟩ := h4 t b hb
      refine ⟨k1, Nat.lt_of_lt_of_le k2 hg.below.size, fun hm => ?_⟩
      rcases hg.new b hm with hm | hm
      · exact k3 hm
      · omega
/-- What is not looked at any more may be forgotten. -/
theorem St.forget {W : Base} {M : Nat → Prop} {g g' : Nat → SV} {tm : Nat → Value} {w : World} (h : St W M g tm w) (hf : ∀ t, g' t = g t ∨ g' t = .dead)
    (hr : ∀ t, g' t ≠ .dead → match g t with | .place u _ | .elem u _ _ _ | .al u _ | .mal u => g' u = g u | _ => True) : St W M g' tm w := by
  obtain ⟨bs, h1, h2, h3, h4⟩ := h.own
  refine ⟨h.below, h.lt, h.new, ?_⟩
  have key : ∀ t, ∃ b, OwnX g' tm M w (tm t) (g' t) b ∧ (∀ x ∈ b, x ∈ bs t) ∧ b.Nodup := fun t => by
    by_cases hd : g' t = .dead
    · rw [hd]; exact ⟨[], .imm _ _ (.dead _), by simp, List.nodup_nil⟩
    · have e : g' t = g t := (hf t).resolve_right hd
      have hr' := hr t hd
      refine ⟨bs t, ?_, fun _ h => h, h3 t⟩
      rw [e]
      have h0 := h1 t
      cases hx : g t <;> rw [hx] at h0 hr' <;> first | exact h0 | skip
      case place u o =>
        obtain ⟨k0, b, y, k1, k2, k3⟩ := h0
        exact ⟨k0, b, y, by rw [hr']; exact k1, k2, k3⟩
      case elem u o i c =>
        obtain ⟨k0, b, n, cap, e, sz, xs, k1, k2⟩ := h0
        exact ⟨k0, b, n, cap, e, sz, xs, by rw [hr']; exact k1, k2⟩
      case al u o =>
        obtain ⟨k0, e, sz, xs, a, n, cap, k1, k2⟩ := h0
        exact ⟨k0, e, sz, xs, a, n, cap, by rw [hr']; exact k1, k2⟩
      case mal u =>
        obtain ⟨k0, l, k1, k2⟩ := h0
        exact ⟨k0, l, by rw [hr']; exact k1, k2⟩
  refine ⟨fun t => (key t).choose, fun t => (key t).choose_spec.1, fun t u b ht hu => h2 t u b ((key t).choose_spec.2.1 b ht) ((key u).choose_spec.2.1 b hu), fun t => (key t).choose_spec.2.2, fun t b hb => h4 t b ((key t).choose_spec.2.1 b hb)⟩
end Go.Sv
