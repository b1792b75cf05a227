/- The code of a function, walked without memory: what its walk says is what the machine's code does. No condition. -/
import Derived.Test.YtalfojoimnhmlaaSvC
namespace Go.Sv
open Go.RowKit
set_option linter.unusedVariables false
/-- What slots tell, the latest first. -/
abbrev S := List (Nat × SV)
def get (s : S) (t : Nat) : SV :=
  match s with
  | [] => .dead
  | (u, v) :: s => if u = t then v else get s t
/-- The operations of a region; 'sc': a guarded part and the choice behind it. -/
inductive RS where
  | nil
  | op (d : Nat) (o : FOp) (rest : RS)
  | eff (d : Option Nat) (e : EOp) (rest : RS)
  | sc (t : Nat) (w : Bool) (blk : RS) (d : Nat) (x : SX) (rest : RS)
def RS.flat (gd : Option (Nat × Bool)) : RS → List IT
  | .nil => []
  | .op d o rest => .f ⟨d, gd, o⟩ :: rest.flat gd
  | .eff d e rest => .e d e :: rest.flat gd
  | .sc t w blk d x rest => blk.flat (some (t, w)) ++ .f ⟨d, gd, .p (.pick t w x)⟩ :: rest.flat gd
/-- A test: two ways. -/
def Br (b : Bool) (A C : Prop) : Prop := (b = true → A) ∧ (b = false → C)
/-- A call: what its contract returns. -/
def CallK (P : Program) (f : FuncId) (as : List SV) (K : SV → Prop) : Prop := ∃ z, Con P f as z ∧ K z
def FlK (sn : Bool) (z : SV) (K : Prop) : Prop := match sn with | true => z.flat 3 = true ∧ K | false => K
def yk (P : Program) (g b : Nat → SV) (o : FOp) (K : SV → Prop) : Prop :=
  match o with
  | .p op => match pv g b op with | some z => K z | none => False
  | .call f xs => match argv g b xs with | some (as, sn) => CallK P f as fun z => FlK sn z (K z) | none => False
  | .callv x xs => match cp g x with
    | .func f cs => okBody P f = true ∧ (match argv g b xs with | some (as, sn) => CallK P f (as ++ cs) fun z => FlK sn z (K z) | none => False)
    | _ => False
/-- The slots of a part that is left out. -/
def undefs : RS → S
  | .nil => []
  | .op d _ rest => (d, .undef) :: undefs rest
  | .eff _ _ rest => undefs rest
  | .sc _ _ blk d _ rest => undefs blk ++ (d, .undef) :: undefs rest
def setG (g : Nat → SV) : S → Nat → SV := fun l t => match get l t with | .dead => g t | v => v
/-- Effects are written on the list. -/
def effL (s : S) (d : Option Nat) (e : EOp) : Option S :=
  match e with
  | .st n x v =>
    if (cp (get s) v).cells.length = n ∧ (cp (get s) v).cells.all SV.one = true ∧ (cp (get s) v).solid = true then
      (match cp (get s) x with
      | .place t o => (match get s t with
        | .box y => if o + n ≤ y.cells.length ∧ ((y.cells.drop o).take n).all (SV.imm 2) = true then some ((t, .box (y.recell (setS y.cells o (cp (get s) v).cells))) :: s) else none
        | _ => none)
      | .elem t none i c => (match get s t with
        | .own e sz xs => (match xs[i]? with
          | some z => if c + n ≤ z.cells.length then some ((t, .own e sz (xs.set i (z.recell (setS z.cells c (cp (get s) v).cells)))) :: s) else none
          | none => none)
        | _ => none)
      | _ => none) else none
  | .asg t => match d with
    | some d => if d = t then none else (match get s t with
      | .own e sz xs => some ((d, .own e sz xs) :: (t, .dead) :: s.map fun p => (p.1, killV t (killV d p.2)))
      | .imap l => some ((d, .imap l) :: (t, .dead) :: s.map fun p => (p.1, killV t (killV d p.2)))
      | _ => none)
    | none => none
  | .mput x k => match cp (get s) x, cp (get s) k with
    | .mal t, .int .i64 n => (match get s t with
      | .imap l => if n ∈ l then none else some ((t, .imap (l ++ [n])) :: s)
      | _ => none)
    | _, _ => none
  | .app e sz bytes x y => match d with
    | some d => (match cp (get s) x with
      | .al t none => (match get s t with
        | .own e' sz' xs => (match srcOf (get s) (cp (get s) y) sz with
          | some ys => if e' = e ∧ sz' = sz ∧ (get s d).free = true ∧ (ys.all fun y => y.cells.all SV.one) = true ∧ (xs.length + ys.length) * bytes ≤ 140737488355328 ∧ xs.length + ys.length ≤ 140737488355328 then
              some ((d, .own e sz (xs ++ ys)) :: (t, .dead) :: s.map fun p => (p.1, killV t p.2)) else none
          | none => none)
        | _ => none)
      | _ => none)
    | none => none
def rs (P : Program) (B : Option (Nat → SV)) : RS → S → (S → Prop) → Prop
  | .nil, s, K => K s
  | .op d o rest, s, K => yk P (get s) (B.getD (get s)) o fun z => rs P B rest ((d, z) :: s) K
  | .eff d e rest, s, K => match effL s d e with | some s' => rs P B rest s' K | none => False
  | .sc t w blk d x rest, s, K => match get s t with
    | .bool v => Br (v == w) (rs P B blk s fun s1 => match cp (get s1) x with | .dead => False | z => rs P B rest ((d, z) :: s1) K) (rs P B rest ((d, .bool v) :: (undefs blk ++ s)) K)
    | _ => False
theorem get_cons (u : Nat) (v : SV) (s : S) : get ((u, v) :: s) = upd (get s) u v := by
  funext t
  simp only [get, upd]
  by_cases h : u = t
  · rw [if_pos h, if_pos h.symm]
  · rw [if_neg h, if_neg (Ne.symm h)]
theorem get_kill (t : Nat) (s : S) : get (s.map fun p => (p.1, killV t p.2)) = kill t (get s) := by
  funext u
  induction s with
  | nil => rfl
  | cons p s ih =>
    simp only [List.map_cons, get, kill]
    split
    · rfl
    · exact ih
theorem get_kill2 (t d : Nat) (s : S) : get (s.map fun p => (p.1, killV t (killV d p.2))) = kill t (kill d (get s)) := by
  rw [← get_kill, ← get_kill, List.map_map]
  rfl
theorem effL_sound {s s' : S} {d : Option Nat} {e : EOp} (h : effL s d e = some s') : eff (get s) d e = some (get s') := by
  cases e with
  | st n x v =>
    simp only [effL] at h
    split at h
    case isFalse => cases h
    rename_i hc
    simp only [eff]
    rw [if_pos hc]
    split at h
    · rename_i t o ex
      rw [ex]
      simp only
      split at h
      case h_2 => cases h
      rename_i y hy
      split at h
      case isFalse => cases h
      rename_i hc2
      cases h
      rw [get_cons, hy]
      simp only
      rw [if_pos hc2]
    · rename_i t i c ex
      rw [ex]
      simp only
      split at h
      case h_2 => cases h
      rename_i e sz xs hy
      split at h
      case h_2 => cases h
      rename_i z hz
      split at h
      case isFalse => cases h
      rename_i hc2
      cases h
      rw [get_cons, hy]
      simp only [hz]
      rw [if_pos hc2]
    · cases h
  | asg t =>
    simp only [effL] at h
    split at h
    case h_2 => cases h
    split at h
    · cases h
    rename_i hne
    split at h
    · rename_i e sz xs hy
      cases h
      simp only [eff]
      rw [if_neg hne, hy, get_cons, get_cons, get_kill2]
    · rename_i l hy
      cases h
      simp only [eff]
      rw [if_neg hne, hy, get_cons, get_cons, get_kill2]
    · cases h
  | mput x k =>
    simp only [effL] at h
    split at h
    case h_2 => cases h
    rename_i t n ex ek
    split at h
    case h_2 => cases h
    rename_i l hy
    split at h
    · cases h
    rename_i hc
    cases h
    simp only [eff]
    rw [ex, ek]
    simp only [hy]
    rw [if_neg hc, get_cons]
  | app e sz bytes x y =>
    simp only [effL] at h
    split at h
    case h_2 => cases h
    split at h
    case h_2 => cases h
    rename_i t ex
    split at h
    case h_2 => cases h
    rename_i e' sz' xs hy
    split at h
    case h_2 => cases h
    rename_i ys hys
    split at h
    case isFalse => cases h
    rename_i hc
    cases h
    simp only [eff]
    rw [ex]
    simp only [hy, hys]
    rw [if_pos hc, get_cons, get_cons, get_kill]
theorem yk_Y {P : Program} {g b : Nat → SV} {o : FOp} {K : SV → Prop} (h : yk P g b o K) : ∃ z, Y P g b o z ∧ K z := by
  have fl : ∀ {sn : Bool} {z : SV} {K : Prop}, FlK sn z K → (sn = true → z.flat 3 = true) ∧ K := fun {sn z K} h => by
    cases sn
    · exact ⟨by simp, h⟩
    · exact ⟨fun _ => h.1, h.2⟩
  cases o with
  | p op =>
    simp only [yk] at h
    split at h
    · rename_i z hz; exact ⟨z, hz, h⟩
    · exact h.elim
  | call f xs =>
    simp only [yk] at h
    split at h
    · rename_i as sn e
      obtain ⟨z, hc, hk⟩ := h
      exact ⟨z, ⟨as, sn, e, hc, (fl hk).1⟩, (fl hk).2⟩
    · exact h.elim
  | callv x xs =>
    simp only [yk] at h
    split at h
    · rename_i f cs e0
      obtain ⟨hb, h⟩ := h
      split at h
      · rename_i as sn e
        obtain ⟨z, hc, hk⟩ := h
        exact ⟨z, ⟨f, cs, as, sn, e0, hb, e, hc, (fl hk).1⟩, (fl hk).2⟩
      · exact h.elim
    · exact h.elim
theorem FRx_append {P : Program} {bs : (Nat → SV) → Nat → SV} {K : (Nat → SV) → Prop} : ∀ (A : List IT) {B : List IT} {g : Nat → SV}, FRx P bs A g (fun g' => FRx P bs B g' K) → FRx P bs (A ++ B) g K
  | [], _, _, h => h
  | .f fo :: A, B, g, h => by
    simp only [FRx, List.cons_append] at h ⊢
    split at h
    · obtain ⟨z, h1, h2⟩ := h; exact ⟨z, h1, FRx_append A h2⟩
    · exact FRx_append A h
    · exact h.elim
  | .e d e :: A, B, g, h => by
    simp only [FRx, List.cons_append] at h ⊢
    obtain ⟨g', h1, h2⟩ := h
    exact ⟨g', h1, FRx_append A h2⟩
theorem FRx_mono {P : Program} {bs : (Nat → SV) → Nat → SV} {K K' : (Nat → SV) → Prop} (hk : ∀ g, K g → K' g) : ∀ (A : List IT) {g : Nat → SV}, FRx P bs A g K → FRx P bs A g K'
  | [], _, h => hk _ h
  | .f fo :: A, g, h => by
    simp only [FRx] at h ⊢
    split at h
    · obtain ⟨z, h1, h2⟩ := h; exact ⟨z, h1, FRx_mono hk A h2⟩
    · exact FRx_mono hk A h
    · exact h.elim
  | .e d e :: A, g, h => by
    simp only [FRx] at h ⊢
    obtain ⟨g', h1, h2⟩ := h
    exact ⟨g', h1, FRx_mono hk A h2⟩
def setAll (g : Nat → SV) : S → Nat → SV
  | [] => g
  | (u, v) :: s => setAll (upd g u v) s
/-- No effect in a guarded part. -/
def RS.pure : RS → Bool
  | .nil => true
  | .op _ _ rest => rest.pure
  | .eff _ _ _ => false
  | .sc _ _ blk _ _ rest => blk.pure && rest.pure
/-- The slots that a part writes. -/
def RS.ds : RS → List Nat
  | .nil => []
  | .op d _ rest => d :: rest.ds
  | .eff _ _ rest => rest.ds
  | .sc _ _ blk d _ rest => blk.ds ++ d :: rest.ds
/-- A part that is left out: each guard in it looks at a slot of its own. -/
def RS.skip (l : List Nat) : RS → Bool
  | .nil => true
  | .op d _ rest => rest.skip (d :: l)
  | .eff _ _ _ => false
  | .sc t _ blk d _ rest => l.contains t && blk.skip l && rest.skip (d :: (blk.ds ++ l))
def RS.ok : RS → Bool
  | .nil => true
  | .op _ _ rest => rest.ok
  | .eff _ _ rest => rest.ok
  | .sc t _ blk _ _ rest => blk.pure && blk.ok && blk.skip [] && !(blk.ds.contains t) && rest.ok
theorem want_undef {g : Nat → SV} {t u : Nat} {w : Bool} (h : want g (some (t, w)) = some false) : want (upd g u .undef) (some (t, w)) = some false := by
  simp only [want] at h ⊢
  by_cases e : t = u
  · subst e; rw [upd_same]
  · rw [upd_other _ _ e]; exact h
theorem setAll_undefs : ∀ (r : RS) (g : Nat → SV) (t : Nat), setAll g (undefs r) t = .undef ∧ t ∈ r.ds ∨ setAll g (undefs r) t = g t ∧ t ∉ r.ds
  | r, g, t => by
    have key : ∀ (l : S) (g : Nat → SV), (∀ p ∈ l, p.2 = SV.undef) → (setAll g l t = .undef ∧ t ∈ l.map (·.1) ∨ setAll g l t = g t ∧ t ∉ l.map (·.1)) := by
      intro l
      induction l with
      | nil => intro g _; exact .inr ⟨rfl, by simp⟩
      | cons p l ih =>
        intro g hp
        obtain ⟨u, v⟩ := p
        have hv : v = .undef := hp (u, v) List.mem_cons_self
        subst hv
        simp only [setAll, List.map_cons, List.mem_cons]
        rcases ih (upd g u .undef) (fun p hp' => hp p (List.mem_cons_of_mem _ hp')) with ⟨h1, h2⟩ | ⟨h1, h2⟩
        · exact .inl ⟨h1, .inr h2⟩
        · by_cases e : t = u
          · subst e; rw [h1, upd_same]; exact .inl ⟨rfl, .inl rfl⟩
          · rw [h1, upd_other _ _ e]
            exact .inr ⟨rfl, fun h => by rcases h with h | h <;> first | exact e h | exact h2 h⟩
    have hu : ∀ (r : RS), ∀ p ∈ undefs r, p.2 = SV.undef := by
      intro r
      induction r with
      | nil => simp [undefs]
      | op d o rest ih => intro p hp; rcases List.mem_cons.1 hp with rfl | hp <;> first | rfl | exact ih p hp
      | eff d e rest ih => exact ih
      | sc t w blk d x rest ih1 ih2 =>
        intro p hp
        rcases List.mem_append.1 hp with hp | hp
        · exact ih1 p hp
        · rcases List.mem_cons.1 hp with rfl | hp
          · rfl
          · exact ih2 p hp
    have hm : ∀ (r : RS), (undefs r).map (·.1) = r.ds := by
      intro r
      induction r with
      | nil => rfl
      | op d o rest ih => simp [undefs, RS.ds, ih]
      | eff d e rest ih => exact ih
      | sc t w blk d x rest ih1 ih2 => simp [undefs, RS.ds, ih1, ih2]
    rw [← hm r]
    exact key (undefs r) g (hu r)
theorem FRx_skip {P : Program} {bs : (Nat → SV) → Nat → SV} : ∀ (r : RS) (l : List Nat) (t : Nat) (w : Bool) (g : Nat → SV) (K : (Nat → SV) → Prop), (∀ u ∈ l, g u = .undef) → want g (some (t, w)) = some false → r.skip l = true → K (setAll g (undefs r)) →
    FRx P bs (r.flat (some (t, w))) g K
  | .nil, _, _, _, _, _, _, _, _, h => h
  | .op d o rest, l, t, w, g, K, hl, hw, hs, h => by
    simp only [RS.skip] at hs
    simp only [RS.flat, FRx, hw]
    refine FRx_skip rest (d :: l) t w (upd g d .undef) K (fun u hu => ?_) (want_undef hw) hs h
    by_cases e : u = d
    · subst e; rw [upd_same]
    · rw [upd_other _ _ e]
      exact hl u ((List.mem_cons.1 hu).resolve_left e)
  | .eff _ _ _, _, _, _, _, _, _, _, hs, _ => by simp [RS.skip] at hs
  | .sc t' w' blk d x rest, l, t, w, g, K, hl, hw, hs, h => by
    simp only [RS.skip, Bool.and_eq_true] at hs
    obtain ⟨⟨h1, h2⟩, h3⟩ := hs
    have ht' : want g (some (t', w')) = some false := by simp only [want]; rw [hl t' (by simpa using h1)]
    have happ : ∀ (l1 l2 : S) (g : Nat → SV), setAll g (l1 ++ l2) = setAll (setAll g l1) l2 := fun l1 => by
      induction l1 with
      | nil => intro _ _; rfl
      | cons p l1 ih => intro l2 g; exact ih l2 _
    simp only [RS.flat]
    refine FRx_append _ (FRx_skip blk l t' w' g _ hl ht' h2 ?_)
    have hwant : ∀ (r : RS) (g : Nat → SV), want g (some (t, w)) = some false → want (setAll g (undefs r)) (some (t, w)) = some false := fun r g hg => by
      rcases setAll_undefs r g t with ⟨e, _⟩ | ⟨e, _⟩
      · simp only [want]; rw [e]
      · simp only [want] at hg ⊢; rw [e]; exact hg
    simp only [FRx, hwant blk g hw]
    refine FRx_skip rest (d :: (blk.ds ++ l)) t w _ K (fun u hu => ?_) (want_undef (hwant blk g hw)) h3 ?_
    · by_cases e : u = d
      · subst e; rw [upd_same]
      · rw [upd_other _ _ e]
        rcases setAll_undefs blk g u with ⟨k, _⟩ | ⟨k, hn⟩
        · exact k
        · rw [k]
          rcases List.mem_cons.1 hu with hu | hu
          · exact absurd hu e
          · rcases List.mem_append.1 hu with hu | hu
            · exact absurd hu hn
            · exact hl u hu
    · simp only [undefs, happ] at h
      exact h
theorem yk_mono {P : Program} {g b : Nat → SV} {o : FOp} {K K' : SV → Prop} (hk : ∀ z, K z → K' z) (h : yk P g b o K) : yk P g b o K' := by
  have fl : ∀ {sn : Bool} {z : SV}, FlK sn z (K z) → FlK sn z (K' z) := fun {sn z} h => by
    cases sn
    · exact hk _ h
    · exact ⟨h.1, hk _ h.2⟩
  cases o with
  | p op =>
    simp only [yk] at h ⊢
    split at h
    · exact hk _ h
    · exact h.elim
  | call f xs =>
    simp only [yk] at h ⊢
    split at h
    · obtain ⟨z, hc, hz⟩ := h; exact ⟨z, hc, fl hz⟩
    · exact h.elim
  | callv x xs =>
    simp only [yk] at h ⊢
    split at h
    · obtain ⟨hb, h⟩ := h
      refine ⟨hb, ?_⟩
      split at h
      · obtain ⟨z, hc, hz⟩ := h; exact ⟨z, hc, fl hz⟩
      · exact h.elim
    · exact h.elim
theorem rs_mono {P : Program} {B : Option (Nat → SV)} : ∀ (r : RS) (s : S) {K K' : S → Prop}, (∀ s, K s → K' s) → rs P B r s K → rs P B r s K'
  | .nil, s, K, K', hk, h => hk _ h
  | .op d o rest, s, K, K', hk, h => by
    simp only [rs] at h ⊢
    exact yk_mono (fun z hz => rs_mono rest _ hk hz) h
  | .eff d e rest, s, K, K', hk, h => by
    simp only [rs] at h ⊢
    cases he : effL s d e with
    | none => rw [he] at h; exact h.elim
    | some s' => rw [he] at h; exact rs_mono rest _ hk h
  | .sc t w blk d x rest, s, K, K', hk, h => by
    simp only [rs] at h ⊢
    cases hv : get s t <;> rw [hv] at h <;> first | exact h.elim | skip
    refine ⟨fun hw => rs_mono blk _ (fun s1 h1 => ?_) (h.1 hw), fun hw => rs_mono rest _ hk (h.2 hw)⟩
    cases hq : cp (get s1) x <;> rw [hq] at h1 <;> first | exact h1.elim | exact rs_mono rest _ hk h1
theorem get_undefs (r : RS) (s : S) : get (undefs r ++ s) = setAll (get s) (undefs r) := by
  funext t
  have h1 : ∀ (r : RS) (s : S), get (undefs r ++ s) t = .undef ∧ t ∈ r.ds ∨ get (undefs r ++ s) t = get s t ∧ t ∉ r.ds := by
    intro r
    induction r with
    | nil => exact fun s => .inr ⟨rfl, by simp [RS.ds]⟩
    | op d o rest ih =>
      intro s
      simp only [undefs, List.cons_append, RS.ds, List.mem_cons]
      rw [get_cons]
      by_cases e : t = d
      · subst e; rw [upd_same]; exact .inl ⟨rfl, .inl rfl⟩
      · rw [upd_other _ _ e]
        rcases ih s with ⟨k1, k2⟩ | ⟨k1, k2⟩
        · exact .inl ⟨k1, .inr k2⟩
        · exact .inr ⟨k1, fun h => h.elim e k2⟩
    | eff d e rest ih => exact ih
    | sc t0 w blk d x rest ih1 ih2 =>
      intro s
      simp only [undefs, List.append_assoc, List.cons_append, RS.ds, List.mem_append, List.mem_cons]
      rcases ih1 ((d, .undef) :: (undefs rest ++ s)) with ⟨k1, k2⟩ | ⟨k1, k2⟩
      · exact .inl ⟨k1, .inl k2⟩
      · rw [k1, get_cons]
        by_cases e : t = d
        · subst e; rw [upd_same]; exact .inl ⟨rfl, .inr (.inl rfl)⟩
        · rw [upd_other _ _ e]
          rcases ih2 s with ⟨j1, j2⟩ | ⟨j1, j2⟩
          · exact .inl ⟨j1, .inr (.inr j2)⟩
          · exact .inr ⟨j1, fun h => h.elim k2 fun h => h.elim e j2⟩
  rcases h1 r s with ⟨k1, k2⟩ | ⟨k1, k2⟩ <;> rcases setAll_undefs r (get s) t with ⟨j1, j2⟩ | ⟨j1, j2⟩
  · rw [k1, j1]
  · exact absurd k2 j2
  · exact absurd j2 k2
  · rw [k1, j1]
/-- A part without effects leaves the other slots alone. -/
theorem rs_keep {P : Program} {B : Option (Nat → SV)} : ∀ (r : RS) (s : S) (K : S → Prop), r.pure = true → rs P B r s K → rs P B r s fun s' => K s' ∧ ∀ t, t ∉ r.ds → get s' t = get s t
  | .nil, s, K, _, h => ⟨h, fun _ _ => rfl⟩
  | .op d o rest, s, K, hp, h => by
    simp only [rs] at h ⊢
    refine yk_mono (fun z hz => ?_) h
    have := rs_keep rest ((d, z) :: s) K hp hz
    refine rs_mono rest _ (fun s' hs => ⟨hs.1, fun t ht => ?_⟩) this
    simp only [RS.ds, List.mem_cons, not_or] at ht
    rw [hs.2 t ht.2, get_cons, upd_other _ _ ht.1]
  | .eff _ _ _, _, _, hp, _ => by simp [RS.pure] at hp
  | .sc t w blk d x rest, s, K, hp, h => by
    simp only [RS.pure, Bool.and_eq_true] at hp
    simp only [rs] at h ⊢
    cases hv : get s t <;> rw [hv] at h <;> first | exact h.elim | skip
    rename_i v
    refine ⟨fun hw => ?_, fun hw => ?_⟩
    · refine rs_mono blk _ (fun s1 hs1 => ?_) (rs_keep blk s _ hp.1 (h.1 hw))
      obtain ⟨h2, h3⟩ := hs1
      cases hq : cp (get s1) x <;> rw [hq] at h2 <;> first
        | exact h2.elim
        | (refine rs_mono rest _ (fun s' hs => ⟨hs.1, fun t ht => ?_⟩) (rs_keep rest _ K hp.2 h2)
           simp only [RS.ds, List.mem_append, List.mem_cons, not_or] at ht
           rw [hs.2 t ht.2.2, get_cons, upd_other _ _ ht.2.1, h3 t ht.1])
    · refine rs_mono rest _ (fun s' hs => ⟨hs.1, fun t ht => ?_⟩) (rs_keep rest _ K hp.2 (h.2 hw))
      simp only [RS.ds, List.mem_append, List.mem_cons, not_or] at ht
      rw [hs.2 t ht.2.2, get_cons, upd_other _ _ ht.2.1, get_undefs]
      rcases setAll_undefs blk (get s) t with ⟨_, k⟩ | ⟨k, _⟩
      · exact absurd k ht.1
      · exact k
/-- The walk of a region's operations, one behind the other, guards and all. -/
theorem rs_flat {P : Program} {B : Option (Nat → SV)} {bs : (Nat → SV) → Nat → SV} (hB : ∀ s : S, B.getD (get s) = bs (get s)) : ∀ (r : RS) (gd : Option (Nat × Bool)) (s : S) (K : S → Prop), r.ok = true →
    (∀ t w, gd = some (t, w) → get s t = .bool w ∧ t ∉ r.ds ∧ r.pure = true) → rs P B r s K → FRx P bs (r.flat gd) (get s) fun g => ∃ s', g = get s' ∧ K s'
  | .nil, gd, s, K, _, _, h => ⟨s, rfl, h⟩
  | .op d o rest, gd, s, K, hok, hgd, h => by
    simp only [rs] at h
    obtain ⟨z, hy, hk⟩ := yk_Y h
    have hw : want (get s) gd = some true := by
      cases gd with
      | none => rfl
      | some p => obtain ⟨t, w⟩ := p; simp only [want]; rw [(hgd t w rfl).1]; simp
    simp only [RS.flat, FRx, hw]
    refine ⟨z, by rw [← hB s]; exact hy, ?_⟩
    rw [← get_cons]
    refine rs_flat hB rest gd _ K hok (fun t w e => ?_) hk
    obtain ⟨k1, k2, k3⟩ := hgd t w e
    simp only [RS.ds, List.mem_cons, not_or] at k2
    exact ⟨by rw [get_cons, upd_other _ _ k2.1]; exact k1, k2.2, k3⟩
  | .eff d e rest, gd, s, K, hok, hgd, h => by
    simp only [rs] at h
    cases gd with
    | some p => have := (hgd p.1 p.2 rfl).2.2; simp [RS.pure] at this
    | none =>
      cases he : effL s d e with
      | none => rw [he] at h; exact h.elim
      | some s' =>
        rw [he] at h
        simp only [RS.flat, FRx]
        exact ⟨_, effL_sound he, rs_flat hB rest none s' K hok (fun _ _ e => by cases e) h⟩
  | .sc t w blk d x rest, gd, s, K, hok, hgd, h => by
    simp only [RS.ok, Bool.and_eq_true, Bool.not_eq_true'] at hok
    obtain ⟨⟨⟨⟨o1, o2⟩, o3⟩, o4⟩, o5⟩ := hok
    have o4' : t ∉ blk.ds := by simpa using o4
    simp only [rs] at h
    cases hv : get s t <;> rw [hv] at h <;> first | exact h.elim | skip
    rename_i v
    have hwant : ∀ g : Nat → SV, (∀ u, u ∉ blk.ds → g u = get s u) → want g gd = some true := fun g hg => by
      cases gd with
      | none => rfl
      | some p =>
        obtain ⟨t', w'⟩ := p
        obtain ⟨k1, k2, _⟩ := hgd t' w' rfl
        simp only [RS.ds, List.mem_append, List.mem_cons, not_or] at k2
        simp only [want]
        rw [hg t' k2.1, k1]; simp
    have hnext : ∀ s1 z, (∀ u, u ∉ blk.ds → get s1 u = get s u) → ∀ t' w', gd = some (t', w') → get ((d, z) :: s1) t' = .bool w' ∧ t' ∉ rest.ds ∧ rest.pure = true := fun s1 z hs1 t' w' e => by
      obtain ⟨k1, k2, k3⟩ := hgd t' w' e
      simp only [RS.ds, List.mem_append, List.mem_cons, not_or] at k2
      simp only [RS.pure, Bool.and_eq_true] at k3
      exact ⟨by rw [get_cons, upd_other _ _ k2.2.1, hs1 t' k2.1]; exact k1, k2.2.2, k3.2⟩
    simp only [RS.flat]
    refine FRx_append _ ?_
    by_cases hvw : (v == w) = true
    · have h1 := rs_keep blk s _ o1 (h.1 hvw)
      have hvw' : v = w := by simpa using hvw
      have h2 := rs_flat hB blk (some (t, w)) s _ o2 (fun t' w' e => by cases e; exact ⟨by rw [hv, hvw'], o4', o1⟩) h1
      refine FRx_mono (fun g hg => ?_) _ h2
      obtain ⟨s1, rfl, h3, h4⟩ := hg
      simp only [FRx, hwant (get s1) h4]
      have hvt : cp (get s1) (.t t) = .bool v := by simp only [cp]; rw [h4 t o4', hv]
      have h5 : cp (get s1) x ≠ .dead ∧ rs P B rest ((d, cp (get s1) x) :: s1) K := by
        cases hq : cp (get s1) x <;> rw [hq] at h3 <;> first | exact h3.elim | exact ⟨by simp, h3⟩
      refine ⟨cp (get s1) x, ?_, ?_⟩
      · simp only [Y, pv, hvt, hvw, if_true]
        cases hq : cp (get s1) x <;> first | exact absurd hq h5.1 | rfl
      · rw [← get_cons]
        exact rs_flat hB rest gd _ K o5 (hnext s1 _ h4) h5.2
    · have hvw' : (v == w) = false := by simpa using hvw
      have h2 := h.2 hvw'
      have hw0 : want (get s) (some (t, w)) = some false := by simp only [want]; rw [hv]; simp only [hvw']
      refine FRx_skip blk [] t w (get s) _ (by simp) hw0 o3 ?_
      rw [← get_undefs]
      have h4 : ∀ u, u ∉ blk.ds → get (undefs blk ++ s) u = get s u := fun u hu => by
        rw [get_undefs]
        rcases setAll_undefs blk (get s) u with ⟨_, k⟩ | ⟨k, _⟩
        · exact absurd k hu
        · exact k
      simp only [FRx, hwant _ h4]
      have hvt : cp (get (undefs blk ++ s)) (.t t) = .bool v := by simp only [cp]; rw [h4 t o4', hv]
      refine ⟨.bool v, by simp only [Y, pv, hvt, hvw', Bool.false_eq_true, if_false], ?_⟩
      rw [← get_cons]
      exact rs_flat hB rest gd _ K o5 (hnext _ _ h4) h2
end Go.Sv
