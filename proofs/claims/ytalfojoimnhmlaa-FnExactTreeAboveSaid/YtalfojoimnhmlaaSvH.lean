/- What the form of claims reads of an argument is what the walks tell of it. No condition. -/
import Derived.Test.YtalfojoimnhmlaaSvG
import Derived.ChangeArms
import Derived.Deep.Slices
import Derived.DataReads
import Derived.WideShapes
namespace Go.Sv
open Go.RowKit Go.WideShapes
set_option linter.unusedVariables false
/-- All blocks of a world. -/
def All (w : World) (b : Nat) : Prop := b < w.heap.size
/-- Whatever is read of type t is told by f of something that meets wf. -/
def Opens {α : Type} (P : Program) (t : TypeId) (n : Nat) (f : α → List SV) (wf : α → Prop) : Prop :=
  P.cellsOf t = n ∧ ∀ (H : Type) (enc : TypeId × Value → H) (w : World) (fuel : Nat) (cs : List Value) (x : DataW H × List MemPlace),
    DataW.trod enc P w 0 (fun _ => true) true fuel t cs = some x → ∃ a : α, RepL (All w) w cs (f a) ∧ wf a
theorem Opens.int {P : Program} {t : TypeId} {k : IntKind} (h : P.underlying t = some (.int k)) (hc : P.cellsOf t = 1) : Opens P t 1 (fun n : Int => [.int k n]) (fun n => (Lit.int k n).wf = true) :=
  ⟨hc, fun H enc w fuel cs x hx => by
    obtain ⟨n, rfl, _, hw⟩ := DataW.trod_int h hx
    exact ⟨n, .lcons (.int k n) .lnil, hw⟩⟩
theorem Opens.bool {P : Program} {t : TypeId} (h : P.underlying t = some .bool) (hc : P.cellsOf t = 1) : Opens P t 1 (fun b : Bool => [.bool b]) (fun _ => True) :=
  ⟨hc, fun H enc w fuel cs x hx => by
    obtain ⟨b, rfl, _⟩ := DataW.trod_bool h hx
    exact ⟨b, .lcons (.bool b) .lnil, trivial⟩⟩
theorem Opens.map {α β : Type} {P : Program} {t : TypeId} {n : Nat} {f : α → List SV} {f' : β → List SV} {wf : α → Prop} {wf' : β → Prop} (h : Opens P t n f wf) (g : α → β) (hf : ∀ a, f' (g a) = f a) (hw : ∀ a, wf a → wf' (g a)) : Opens P t n f' wf' :=
  ⟨h.1, fun H enc w fuel cs x hx => by
    obtain ⟨a, hk, hw'⟩ := h.2 H enc w fuel cs x hx
    exact ⟨g a, by rw [hf]; exact hk, hw a hw'⟩⟩
theorem choose_list {α : Type} {p : Nat → α → Prop} : ∀ n : Nat, (∀ i, i < n → ∃ a, p i a) → ∃ l : List α, l.length = n ∧ ∀ j a, l[j]? = some a → p j a
  | 0, _ => ⟨[], rfl, fun j a h => by simp at h⟩
  | n + 1, h => by
    obtain ⟨l, hl, hp⟩ := choose_list n (fun i hi => h i (by omega))
    obtain ⟨a, ha⟩ := h n (by omega)
    refine ⟨l ++ [a], by simp [hl], fun j b hb => ?_⟩
    rcases Nat.lt_or_ge j l.length with hj | hj
    · rw [List.getElem?_append_left hj] at hb
      exact hp j b hb
    · have hj2 : j = l.length := by
        have := (List.getElem?_eq_some_iff.1 hb).1
        rw [List.length_append, List.length_singleton] at this
        omega
      subst hj2
      have hb2 : a = b := by simpa using hb
      subst hb2
      rw [hl]
      exact ha
theorem Opens.slice {α : Type} {P : Program} {t e : TypeId} {n : Nat} {f : α → List SV} {wf : α → Prop} (fe : α → SV) (ht : P.underlying t = some (.slice e)) (hc : P.cellsOf t = 1) (he : Opens P e n f wf) (hn : 0 < n) (hfe : ∀ a, (fe a).cells = f a) :
    Opens P t 1 (fun l : List α => [.list n (l.map fe)]) (fun l => (∀ x ∈ l, wf x) ∧ l.length ≤ maxLen) :=
  ⟨hc, fun H enc w fuel cs x hx => by
    rcases Go.Deep.open_slice ht hx with ⟨rfl, _⟩ | ⟨a, len, cap, m, k, D, Pl, rfl, _, hl, hm, hmm, _, hel⟩
    · exact ⟨[], .lcons (.nil n) .lnil, by simp, by simp⟩
    · have hmc : m = cap := by rw [hmm]; simp
      subst hmc
      by_cases h0 : m = 0
      · subst h0
        obtain rfl : len = 0 := by omega
        exact ⟨[], .lcons (.empty a n) .lnil, by simp, by simp⟩
      · have hfirst : a.spot = none ∧ a.block < w.heap.size := by
          obtain ⟨cs', h1, _⟩ := hel 0 (by omega)
          obtain ⟨_, hlen, hcell⟩ := World.cells?_some h1
          have h2 := hcell 0 (by rw [he.1]; exact hn)
          have e0 : (a.add (0 * P.cellsOf e)).add 0 = a := by simp [Addr.add]
          rw [e0, List.getElem?_eq_getElem (by rw [hlen, he.1]; exact hn)] at h2
          refine ⟨?_, World.block_lt_of_cell? w _ h2⟩
          unfold World.cell? at h2
          split at h2
          · split at h2
            · cases h2
            · rename_i hs; cases hsp : a.spot with
              | none => rfl
              | some q => rw [hsp] at hs; simp at hs
          · cases h2
        obtain ⟨b, off, spot⟩ := a
        obtain ⟨rfl, hb⟩ := hfirst
        obtain ⟨l, hl2, hp⟩ := choose_list (p := fun i (a' : α) => ∃ cs', w.cells? 0 ((⟨b, off, none⟩ : Addr).add (i * P.cellsOf e)) (P.cellsOf e) = some cs' ∧ RepL (All w) w cs' (f a') ∧ wf a') len (fun i hi => by
          obtain ⟨cs', h1, h2⟩ := hel i (by omega)
          obtain ⟨a', hk, hw⟩ := he.2 H enc w k cs' _ h2
          exact ⟨a', cs', h1, hk, hw⟩)
        have hr : RepR (All w) w b off n (l.map fe) := RepR.of_rows _ _ fun i z hz => by
          rw [List.getElem?_map] at hz
          cases hi : l[i]? with
          | none => rw [hi] at hz; cases hz
          | some a' =>
            rw [hi] at hz
            cases hz
            obtain ⟨cs', h1, hk, _⟩ := hp i a' hi
            obtain ⟨_, hlen, hcell⟩ := World.cells?_some h1
            rw [he.1] at hlen hcell
            refine ⟨cs', hlen, fun j u hu => ?_, by rw [hfe]; exact hk⟩
            have hj : j < n := by rw [← hlen]; exact (List.getElem?_eq_some_iff.1 hu).1
            have := hcell j hj
            rw [add_mid, add_mid] at this
            rw [this, hu]
        refine ⟨l, ?_, fun x hx => ?_, by omega⟩
        · have := Rp.list (M := All w) (w := w) b off m n (l.map fe) hb (by rw [List.length_map]; omega) hm hr
          rw [List.length_map, hl2] at this
          exact .lcons this .lnil
        · obtain ⟨j, hj⟩ := List.mem_iff_getElem?.1 hx
          obtain ⟨_, _, _, hw⟩ := hp j x hj
          exact hw⟩
/-- The cells of a struct's fields, one behind the other. -/
def Parts {α : Type} (P : Program) (fs : List (TypeId × Nat)) (off n : Nat) (f : α → List SV) (wf : α → Prop) : Prop :=
  ∀ (H : Type) (enc : TypeId × Value → H) (w : World) (fuel : Nat) (cs : List Value), off + n ≤ cs.length →
    (∀ q ∈ fs, ∃ y : DataW H × List MemPlace, DataW.trod enc P w 0 (fun _ => true) true fuel q.1 ((cs.drop q.2).take (P.cellsOf q.1)) = some y) → ∃ a : α, RepL (All w) w ((cs.drop off).take n) (f a) ∧ wf a
theorem Parts.one {α : Type} {P : Program} {t : TypeId} {off n : Nat} {f : α → List SV} {wf : α → Prop} (h : Opens P t n f wf) : Parts P [(t, off)] off n f wf :=
  fun H enc w fuel cs hl hf => by
    obtain ⟨y, hy⟩ := hf (t, off) (List.mem_singleton.2 rfl)
    rw [← h.1]
    exact h.2 H enc w fuel _ y hy
theorem Parts.cons {α β : Type} {P : Program} {t : TypeId} {off n n2 : Nat} {fs : List (TypeId × Nat)} {f : α → List SV} {f2 : β → List SV} {wf : α → Prop} {wf2 : β → Prop} (h : Opens P t n f wf) (h2 : Parts P fs (off + n) n2 f2 wf2) :
    Parts P ((t, off) :: fs) off (n + n2) (fun p : α × β => f p.1 ++ f2 p.2) (fun p => wf p.1 ∧ wf2 p.2) :=
  fun H enc w fuel cs hl hf => by
    obtain ⟨y, hy⟩ := hf (t, off) List.mem_cons_self
    obtain ⟨a, hk, hw⟩ := h.2 H enc w fuel _ y hy
    obtain ⟨b, hk2, hw2⟩ := h2 H enc w fuel cs (by omega) (fun f hm => hf f (List.mem_cons_of_mem _ hm))
    refine ⟨(a, b), ?_, hw, hw2⟩
    rw [List.take_add, List.drop_drop]
    rw [h.1] at hk
    exact RepL.append hk hk2
theorem Opens.struct {α : Type} {P : Program} {t : TypeId} {fs : Array Field} {n : Nat} {f : α → List SV} {wf : α → Prop} (ht : P.underlying t = some (.struct fs)) (hc : P.cellsOf t = n) (h : Parts P (fs.toList.map fun f => (f.type, f.offset)) 0 n f wf) : Opens P t n f wf :=
  ⟨hc, fun H enc w fuel cs x hx => by
    obtain ⟨xs, k, _, _, hl, hxl, hf⟩ := DataW.trod_struct ht hx
    obtain ⟨a, hk, hw⟩ := h H enc w k cs (by omega) (fun f hm => by
      obtain ⟨f0, hm0, rfl⟩ := List.mem_map.1 hm
      obtain ⟨i, hi⟩ := List.mem_iff_getElem?.1 hm0
      have h1 := hf i f0 (by simpa using hi)
      have hlt : i < xs.length := by rw [hxl]; have := (List.getElem?_eq_some_iff.1 hi).1; simpa using this
      exact ⟨xs[i], by rw [h1]; exact List.getElem?_eq_getElem hlt⟩)
    rw [List.drop_zero, List.take_of_length_le (by omega)] at hk
    exact ⟨a, hk, hw⟩⟩
/-- An argument of slice type. -/
theorem Opens.argS {α : Type} {P : Program} {t e : TypeId} {f : α → SV} {wf : α → Prop} (h : Opens P t 1 (fun a => [f a]) wf) (ht : P.underlying t = some (.slice e)) {H : Type} {enc : TypeId × Value → H} {w : World} {r : Reach} {v : Value} {x : DataW H} {ps : List MemPlace} {base : Nat}
    (ho : Value.okWide P w r base t v) (hv : DataW.Trod enc P w 0 (fun _ => true) true t v x ps) : ∃ a : α, Rep (All w) w v (f a) ∧ wf a := by
  obtain ⟨p, l, c, rfl⟩ := okWide_slice ht ho
  obtain ⟨fuel, hf⟩ := hv
  obtain ⟨a, hk, hw⟩ := h.2 H enc w fuel _ _ hf
  cases hk with
  | lcons hk _ => exact ⟨a, hk, hw⟩
/-- An argument of struct type. -/
theorem Opens.argA {α : Type} {P : Program} {t : TypeId} {n : Nat} {fs : Array Field} {f : α → List SV} {wf : α → Prop} (h : Opens P t n f wf) (ht : P.underlying t = some (.struct fs)) {H : Type} {enc : TypeId × Value → H} {w : World} {r : Reach} {v : Value} {x : DataW H} {ps : List MemPlace} {base : Nat}
    (ho : Value.okWide P w r base t v) (hv : DataW.Trod enc P w 0 (fun _ => true) true t v x ps) : ∃ a : α, Rep (All w) w v (.agg (f a)) ∧ wf a := by
  obtain ⟨cs, rfl, _⟩ := okWide_struct ht ho
  obtain ⟨fuel, hf⟩ := hv
  obtain ⟨a, hk, hw⟩ := h.2 H enc w fuel _ _ hf
  exact ⟨a, by have h1 := Rp.agg _ _ hk; rw [Array.toArray_toList] at h1; exact h1, hw⟩
/-- A law's call, out of its contract. -/
theorem Con.calls {P : Program} {f : FuncId} {args : List SV} {b : Bool} (h : Con P f args (.bool b)) {w : World} {vs : List Value} (hr : RepL (All w) w vs args) :
    Calls P f vs.toArray w fun e w' => e = .returned (.bool b) ∧ Below w.heap.size w w' := by
  refine (h (All w) w vs (fun _ h => h) hr).mono ?_
  rintro e w' ⟨v, M', bs, rfl, hg, ho, _⟩
  have := OwnV.rep (n := 1) ho rfl
  cases this.1
  exact ⟨rfl, hg.below⟩
end Go.Sv
