/- Words: what the form of claims reads of an argument (a whole number, a bool, a slice, a struct, an array of these) is what a kind of the walks' words tells of its cells. No condition. -/
import Derived.Test.YtjagpgomndndcaaWWords
import Derived.ChangeArms
import Derived.Deep.Slices
import Derived.DataReads
namespace Go.Proofs.Ytjagpgomndndcaa.Opn
open Go.RowKit Go.Proofs.YtjagpgomndndcaaW.PrintWords
/-- Whatever is read of type t is told by kind d, and meets wf. -/
def Opens {α : Type} (P : Program) (t : TypeId) (d : Kd α) (wf : α → Prop) : Prop :=
  P.cellsOf t = d.sz ∧ ∀ (H : Type) (enc : TypeId × Value → H) (w : World) (base : Nat) (spare : Nat → Bool) (held : Bool) (fuel : Nat) (cs : List Value) (x : DataW H × List MemPlace),
    DataW.trod enc P w base spare held fuel t cs = some x → ∃ a : α, d.K w a cs ∧ wf a
theorem Opens.int {P : Program} {t : TypeId} {k : IntKind} (h : P.underlying t = some (.int k)) (hc : P.cellsOf t = 1) : Opens P t (Kd.int k) (fun n => (Lit.int k n).wf = true) :=
  ⟨hc, fun H enc w base spare held fuel cs x hx => by
    obtain ⟨n, rfl, _, hw⟩ := DataW.trod_int h hx
    exact ⟨n, rfl, hw⟩⟩
theorem Opens.bool {P : Program} {t : TypeId} (h : P.underlying t = some .bool) (hc : P.cellsOf t = 1) : Opens P t Kd.bool (fun _ => True) :=
  ⟨hc, fun H enc w base spare held fuel cs x hx => by
    obtain ⟨b, rfl, _⟩ := DataW.trod_bool h hx
    exact ⟨b, rfl, trivial⟩⟩
theorem choose_list {α : Type} {p : Nat → α → Prop} : ∀ n : Nat, (∀ i, i < n → ∃ a, p i a) → ∃ l : List α, l.length = n ∧ ∀ j a, l[j]? = some a → p j a
  | 0, _ => ⟨[], rfl, fun j a h => by simp at h⟩
  | n + 1, h => by
    obtain ⟨l, hl, hp⟩ := choose_list n (fun i hi => h i (by omega))
    obtain ⟨a, ha⟩ := h n (by omega)
    refine ⟨l ++ [a], by simp [hl], fun j b hb => ?_⟩
    rcases Nat.lt_or_ge j l.length with hj | hj
    · rw [List.getElem?_append_left hj] at hb
      exact hp j b hb
    · have hj2 : j = l.length := by
        have := (List.getElem?_eq_some_iff.1 hb).1
        rw [List.length_append, List.length_singleton] at this
        omega
      subst hj2
      have hb2 : a = b := by simpa using hb
      subst hb2
      rw [hl]
      exact ha
theorem Opens.slice {α : Type} {P : Program} {t e : TypeId} {d : Kd α} {wf : α → Prop} (ht : P.underlying t = some (.slice e)) (hc : P.cellsOf t = 1) (he : Opens P e d wf) : Opens P t (Kd.slice e d) (fun l => ∀ x ∈ l, wf x) :=
  ⟨hc, fun H enc w base spare held fuel cs x hx => by
    rcases Go.Deep.open_slice ht hx with ⟨rfl, _⟩ | ⟨a, len, cap, m, n, D, Pl, rfl, _, hl, hm, hmm, _, hel⟩
    · exact ⟨[], ⟨none, 0, rfl, Nat.le_refl _, rfl, by simp, fun h => absurd h (Nat.lt_irrefl 0)⟩, fun x h => by simp at h⟩
    · have hlm : len ≤ m := by rw [hmm]; split <;> omega
      obtain ⟨l, hl2, hp⟩ := choose_list (p := fun i (a' : α) => ∃ cs', w.cells? base (a.add (i * P.cellsOf e)) (P.cellsOf e) = some cs' ∧ d.K w a' cs' ∧ wf a') len (fun i hi => by
        obtain ⟨cs', h1, h2⟩ := hel i (by omega)
        obtain ⟨a', hk, hw⟩ := he.2 H enc w base spare held n cs' _ h2
        exact ⟨a', cs', h1, hk, hw⟩)
      refine ⟨l, ⟨some a, cap, by rw [hl2], by omega, rfl, by unfold maxLen at hm; omega, fun _ => ⟨a, rfl, fun j p hj => ?_⟩⟩, fun x hx => ?_⟩
      · obtain ⟨cs', h1, hk, _⟩ := hp j p hj
        obtain ⟨_, hlen, hcell⟩ := World.cells?_some h1
        refine ⟨cs', d.K_len hk, hk, fun i u hu => ?_⟩
        have hi : i < P.cellsOf e := by rw [← hlen]; exact (List.getElem?_eq_some_iff.1 hu).1
        rw [← he.1, ← Go.Addr.add_add, hcell i hi, hu]
      · obtain ⟨j, hj⟩ := List.mem_iff_getElem?.1 hx
        obtain ⟨_, _, _, hw⟩ := hp j x hj
        exact hw⟩
theorem Opens.iso {α β : Type} {P : Program} {t : TypeId} {d : Kd α} {wf : α → Prop} (f : β → α) (g : α → β) (hg : ∀ a, f (g a) = a) (h : Opens P t d wf) : Opens P t (Kd.iso d f) (fun b => wf (f b)) :=
  ⟨h.1, fun H enc w base spare held fuel cs x hx => by
    obtain ⟨a, hk, hw⟩ := h.2 H enc w base spare held fuel cs x hx
    exact ⟨g a, by show d.K w (f (g a)) cs; rw [hg]; exact hk, by show wf (f (g a)); rw [hg]; exact hw⟩⟩
/-- The cells of a struct's fields, or of an array's elements, one behind the other: parts of types and places. -/
def Parts {α : Type} (P : Program) (fs : List (TypeId × Nat)) (off : Nat) (d : Kd α) (wf : α → Prop) : Prop :=
  ∀ (H : Type) (enc : TypeId × Value → H) (w : World) (base : Nat) (spare : Nat → Bool) (held : Bool) (fuel : Nat) (cs : List Value), off + d.sz ≤ cs.length →
    (∀ f ∈ fs, ∃ y : DataW H × List MemPlace, DataW.trod enc P w base spare held fuel f.1 ((cs.drop f.2).take (P.cellsOf f.1)) = some y) → ∃ a : α, d.K w a ((cs.drop off).take d.sz) ∧ wf a
theorem Parts.one {α : Type} {P : Program} {t : TypeId} {off : Nat} {d : Kd α} {wf : α → Prop} (h : Opens P t d wf) : Parts P [(t, off)] off d wf :=
  fun H enc w base spare held fuel cs hl hf => by
    obtain ⟨y, hy⟩ := hf (t, off) (List.mem_singleton.2 rfl)
    rw [← h.1]
    exact h.2 H enc w base spare held fuel _ y hy
theorem Parts.cons {α β : Type} {P : Program} {t : TypeId} {off off2 : Nat} {fs : List (TypeId × Nat)} {d : Kd α} {d2 : Kd β} {wf : α → Prop} {wf2 : β → Prop} (h : Opens P t d wf) (ho : off2 = off + d.sz) (h2 : Parts P fs off2 d2 wf2) :
    Parts P ((t, off) :: fs) off (Kd.pair d d2) (fun p => wf p.1 ∧ wf2 p.2) :=
  fun H enc w base spare held fuel cs hl hf => by
    have hl' : off + (d.sz + d2.sz) ≤ cs.length := hl
    obtain ⟨y, hy⟩ := hf (t, off) List.mem_cons_self
    obtain ⟨a, hk, hw⟩ := h.2 H enc w base spare held fuel _ y hy
    subst ho
    obtain ⟨b, hk2, hw2⟩ := h2 H enc w base spare held fuel cs (by omega) (fun f hm => hf f (List.mem_cons_of_mem _ hm))
    refine ⟨(a, b), ⟨(cs.drop off).take d.sz, (cs.drop (off + d.sz)).take d2.sz, ?_, by rw [← h.1]; exact hk, hk2⟩, hw, hw2⟩
    show (cs.drop off).take (d.sz + d2.sz) = _
    rw [List.take_add, List.drop_drop]
theorem Opens.struct {α : Type} {P : Program} {t : TypeId} {fs : Array Field} {d : Kd α} {wf : α → Prop} (ht : P.underlying t = some (.struct fs)) (hc : P.cellsOf t = d.sz) (h : Parts P (fs.toList.map fun f => (f.type, f.offset)) 0 d wf) : Opens P t d wf :=
  ⟨hc, fun H enc w base spare held fuel cs x hx => by
    obtain ⟨xs, n, _, _, hl, hxl, hf⟩ := DataW.trod_struct ht hx
    obtain ⟨a, hk, hw⟩ := h H enc w base spare held n cs (by omega) (fun f hm => by
      obtain ⟨f0, hm0, rfl⟩ := List.mem_map.1 hm
      obtain ⟨i, hi⟩ := List.mem_iff_getElem?.1 hm0
      have h1 := hf i f0 (by simpa using hi)
      have hlt : i < xs.length := by rw [hxl]; have := (List.getElem?_eq_some_iff.1 hi).1; simpa using this
      exact ⟨xs[i], by rw [h1]; exact List.getElem?_eq_getElem hlt⟩)
    rw [List.drop_zero, List.take_of_length_le (by omega)] at hk
    exact ⟨a, hk, hw⟩⟩
/-- An argument: its value's cells. -/
theorem Opens.arg {α : Type} {P : Program} {t : TypeId} {d : Kd α} {wf : α → Prop} (h : Opens P t d wf) {H : Type} {enc : TypeId × Value → H} {w : World} {base : Nat} {spare : Nat → Bool} {held : Bool} {v : Value} {x : DataW H} {ps : List MemPlace}
    (hv : DataW.Trod enc P w base spare held t v x ps) : ∃ a : α, d.K w a v.cells.toList ∧ wf a := by
  obtain ⟨fuel, hf⟩ := hv
  exact h.2 H enc w base spare held fuel _ _ hf
end Go.Proofs.Ytjagpgomndndcaa.Opn
