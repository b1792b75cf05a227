-- PRINTED BY print.sh 35421559b90ae4d0a3588c463048766b98c2df88dd9212a6774a882060cdf62d: not written by this session
import Derived.Test.YtjagpgomndndcaaPFnRangex0
import Derived.Test.YtjagpgomndndcaaPFnRangex1
import Derived.Test.YtjagpgomndndcaaPFnRangex2
namespace Go.Proofs.Ytjagpgomndndcaa.PFnRange
open Go.RowKit Go.Proofs.YtjagpgomndndcaaW.PrintWords Go.Proofs.YtjagpgomndndcaaW.PrintLast Go.Proofs.YtjagpgomndndcaaW.PrintMore
attribute [local go_sem] max2_int min2_int max_two min_two max_three min_three max_four min_four   -- for this text's walks alone
set_option linter.unusedVariables false
set_option linter.unusedSimpArgs false

/-! ### laws_FnRange: function 12 -/
mutual
def laws_FnRange.j0 : Nat → Int → Int → Int → Int → Bool → Bool → Option (Bool)
  | 0, _, _, _, _, _, _ => none
  | k + 1, x3, x4, x5, x6, x7, x53 => if x53 = true then (some false) else ((impl_WordUp.f x3 x4).bind fun t153 => ((spec_WordAligned.f 0 x4).bind fun t154 => (if t154 = true then (if x3 ≥ 0 then (if x3 ≤ 4096 then (if t153 < x3 then (laws_FnRange.j1 k x3 x4 x5 x6 x7 true) else (if (wrap64 (t153 - x3)) ≥ x4 then (laws_FnRange.j1 k x3 x4 x5 x6 x7 true) else (if x4 = 0 then (none) else (laws_FnRange.j1 k x3 x4 x5 x6 x7 ((Int.tmod t153 x4) != 0))))) else (laws_FnRange.j1 k x3 x4 x5 x6 x7 false)) else (laws_FnRange.j1 k x3 x4 x5 x6 x7 false)) else (laws_FnRange.j1 k x3 x4 x5 x6 x7 false))))
def laws_FnRange.j1 : Nat → Int → Int → Int → Int → Bool → Bool → Option (Bool)
  | 0, _, _, _, _, _, _ => none
  | k + 1, x3, x4, x5, x6, x7, x84 => if x84 = true then (some false) else ((impl_WordAligned.f x3 x4).bind fun t155 => (if t155 = true then ((impl_WordAligned.f x5 x6).bind fun t156 => (if t156 = true then ((spec_WordAligned.f x3 x4).bind fun t157 => (if t157 = true then ((spec_WordAligned.f x5 x6).bind fun t158 => (laws_FnRange.j2 k x3 x4 x5 x6 x7 (!t158))) else (laws_FnRange.j2 k x3 x4 x5 x6 x7 true))) else (laws_FnRange.j2 k x3 x4 x5 x6 x7 true))) else (laws_FnRange.j2 k x3 x4 x5 x6 x7 true)))
def laws_FnRange.j2 : Nat → Int → Int → Int → Int → Bool → Bool → Option (Bool)
  | 0, _, _, _, _, _, _ => none
  | k + 1, x3, x4, x5, x6, x7, x106 => if x106 = true then (some true) else (laws_FnRange.l0 k x3 x4 x5 x6 x7 false 0)
def laws_FnRange.l0 : Nat → Int → Int → Int → Int → Bool → Bool → Int → Option (Bool)
  | 0, _, _, _, _, _, _, _ => none
  | k + 1, x3, x4, x5, x6, x7, x9, x10 => if x10 ≤ 12 then (laws_FnRange.l1 k x3 x4 x5 x6 x7 x9 x10 0) else (if x9 = true then (if x7 = true then ((impl_WordIn.f x3 x4 x5 x6).bind fun t159 => (if t159 = true then (some true) else ((impl_WordIn.f x5 x6 x3 x4).bind fun t160 => (some t160)))) else (some true)) else (some true))
def laws_FnRange.l1 : Nat → Int → Int → Int → Int → Bool → Bool → Int → Int → Option (Bool)
  | 0, _, _, _, _, _, _, _, _ => none
  | k + 1, x3, x4, x5, x6, x7, x9, x10, x11 => if x11 ≤ 12 then (if x9 = true then (laws_FnRange.l1 k x3 x4 x5 x6 x7 true x10 (wrap64 (x11 + 1))) else ((impl_WordSize.f x10).bind fun t161 => (if t161 = x4 then ((impl_WordSize.f x11).bind fun t162 => (laws_FnRange.l1 k x3 x4 x5 x6 x7 (t162 == x6) x10 (wrap64 (x11 + 1)))) else (laws_FnRange.l1 k x3 x4 x5 x6 x7 false x10 (wrap64 (x11 + 1)))))) else (laws_FnRange.l0 k x3 x4 x5 x6 x7 x9 (wrap64 (x10 + 1)))
end
def laws_FnRange.f (k : Nat) (l0 : List Int) : Option (Bool) := if (l0.length : Int) > 1048576 then (some true) else ((spec_DrawWordMeet.f k l0).bind fun bt145 => ((impl_WordMeet.f bt145.1 bt145.2.1 bt145.2.2.1 bt145.2.2.2).bind fun t149 => ((spec_WordMeet.f bt145.1 bt145.2.1 bt145.2.2.1 bt145.2.2.2).bind fun t150 => (if (t149 != t150) = true then (laws_FnRange.j0 k bt145.1 bt145.2.1 bt145.2.2.1 bt145.2.2.2 t149 true) else ((impl_WordMeet.f bt145.2.2.1 bt145.2.2.2 bt145.1 bt145.2.1).bind fun t151 => (if (t149 != t151) = true then (laws_FnRange.j0 k bt145.1 bt145.2.1 bt145.2.2.1 bt145.2.2.2 t149 true) else ((impl_WordIn.f bt145.1 bt145.2.1 bt145.2.2.1 bt145.2.2.2).bind fun t152 => (if t152 = true then (laws_FnRange.j0 k bt145.1 bt145.2.1 bt145.2.2.1 bt145.2.2.2 t149 (!t149)) else (laws_FnRange.j0 k bt145.1 bt145.2.1 bt145.2.2.1 bt145.2.2.2 t149 false)))))))))
theorem laws_FnRange.mono_l : ∀ k, (∀ y0 y1 y2 y3 y4 y5, LeO (laws_FnRange.j0 k y0 y1 y2 y3 y4 y5) (laws_FnRange.j0 (k + 1) y0 y1 y2 y3 y4 y5)) ∧ (∀ y0 y1 y2 y3 y4 y5, LeO (laws_FnRange.j1 k y0 y1 y2 y3 y4 y5) (laws_FnRange.j1 (k + 1) y0 y1 y2 y3 y4 y5)) ∧ (∀ y0 y1 y2 y3 y4 y5, LeO (laws_FnRange.j2 k y0 y1 y2 y3 y4 y5) (laws_FnRange.j2 (k + 1) y0 y1 y2 y3 y4 y5)) ∧ (∀ y0 y1 y2 y3 y4 y5 y6, LeO (laws_FnRange.l0 k y0 y1 y2 y3 y4 y5 y6) (laws_FnRange.l0 (k + 1) y0 y1 y2 y3 y4 y5 y6)) ∧ (∀ y0 y1 y2 y3 y4 y5 y6 y7, LeO (laws_FnRange.l1 k y0 y1 y2 y3 y4 y5 y6 y7) (laws_FnRange.l1 (k + 1) y0 y1 y2 y3 y4 y5 y6 y7))
  | 0 => ⟨fun _ _ _ _ _ _ r h => by simp [laws_FnRange.j0] at h, fun _ _ _ _ _ _ r h => by simp [laws_FnRange.j1] at h, fun _ _ _ _ _ _ r h => by simp [laws_FnRange.j2] at h, fun _ _ _ _ _ _ _ r h => by simp [laws_FnRange.l0] at h, fun _ _ _ _ _ _ _ _ r h => by simp [laws_FnRange.l1] at h⟩
  | k + 1 => by
    obtain ⟨ih0, ih1, ih2, ih3, ih4⟩ := laws_FnRange.mono_l k
    refine ⟨?_, ?_, ?_, ?_, ?_⟩
    · intro y0 y1 y2 y3 y4 y5
      unfold laws_FnRange.j0
      repeat' first
      | (with_reducible exact ih0 _ _ _ _ _ _)
      | (with_reducible exact ih1 _ _ _ _ _ _)
      | (with_reducible exact ih2 _ _ _ _ _ _)
      | (with_reducible exact ih3 _ _ _ _ _ _ _)
      | (with_reducible exact ih4 _ _ _ _ _ _ _ _)
      | (with_reducible exact spec_DrawWordMeet.mono _ _)
      | (with_reducible exact LeO.refl _)
      | (with_reducible exact LeO.none _)
      | (with_reducible refine LeO.ite ?_ ?_)
      | (with_reducible refine LeO.bind ?_ (fun _ => ?_))
      | exact ih0 _ _ _ _ _ _
      | exact ih1 _ _ _ _ _ _
      | exact ih2 _ _ _ _ _ _
      | exact ih3 _ _ _ _ _ _ _
      | exact ih4 _ _ _ _ _ _ _ _
      | exact spec_DrawWordMeet.mono _ _
      | exact LeO.none _
      | refine LeO.ite ?_ ?_
      | refine LeO.bind ?_ (fun _ => ?_)
    · intro y0 y1 y2 y3 y4 y5
      unfold laws_FnRange.j1
      repeat' first
      | (with_reducible exact ih0 _ _ _ _ _ _)
      | (with_reducible exact ih1 _ _ _ _ _ _)
      | (with_reducible exact ih2 _ _ _ _ _ _)
      | (with_reducible exact ih3 _ _ _ _ _ _ _)
      | (with_reducible exact ih4 _ _ _ _ _ _ _ _)
      | (with_reducible exact spec_DrawWordMeet.mono _ _)
      | (with_reducible exact LeO.refl _)
      | (with_reducible exact LeO.none _)
      | (with_reducible refine LeO.ite ?_ ?_)
      | (with_reducible refine LeO.bind ?_ (fun _ => ?_))
      | exact ih0 _ _ _ _ _ _
      | exact ih1 _ _ _ _ _ _
      | exact ih2 _ _ _ _ _ _
      | exact ih3 _ _ _ _ _ _ _
      | exact ih4 _ _ _ _ _ _ _ _
      | exact spec_DrawWordMeet.mono _ _
      | exact LeO.none _
      | refine LeO.ite ?_ ?_
      | refine LeO.bind ?_ (fun _ => ?_)
    · intro y0 y1 y2 y3 y4 y5
      unfold laws_FnRange.j2
      repeat' first
      | (with_reducible exact ih0 _ _ _ _ _ _)
      | (with_reducible exact ih1 _ _ _ _ _ _)
      | (with_reducible exact ih2 _ _ _ _ _ _)
      | (with_reducible exact ih3 _ _ _ _ _ _ _)
      | (with_reducible exact ih4 _ _ _ _ _ _ _ _)
      | (with_reducible exact spec_DrawWordMeet.mono _ _)
      | (with_reducible exact LeO.refl _)
      | (with_reducible exact LeO.none _)
      | (with_reducible refine LeO.ite ?_ ?_)
      | (with_reducible refine LeO.bind ?_ (fun _ => ?_))
      | exact ih0 _ _ _ _ _ _
      | exact ih1 _ _ _ _ _ _
      | exact ih2 _ _ _ _ _ _
      | exact ih3 _ _ _ _ _ _ _
      | exact ih4 _ _ _ _ _ _ _ _
      | exact spec_DrawWordMeet.mono _ _
      | exact LeO.none _
      | refine LeO.ite ?_ ?_
      | refine LeO.bind ?_ (fun _ => ?_)
    · intro y0 y1 y2 y3 y4 y5 y6
      unfold laws_FnRange.l0
      repeat' first
      | (with_reducible exact ih0 _ _ _ _ _ _)
      | (with_reducible exact ih1 _ _ _ _ _ _)
      | (with_reducible exact ih2 _ _ _ _ _ _)
      | (with_reducible exact ih3 _ _ _ _ _ _ _)
      | (with_reducible exact ih4 _ _ _ _ _ _ _ _)
      | (with_reducible exact spec_DrawWordMeet.mono _ _)
      | (with_reducible exact LeO.refl _)
      | (with_reducible exact LeO.none _)
      | (with_reducible refine LeO.ite ?_ ?_)
      | (with_reducible refine LeO.bind ?_ (fun _ => ?_))
      | exact ih0 _ _ _ _ _ _
      | exact ih1 _ _ _ _ _ _
      | exact ih2 _ _ _ _ _ _
      | exact ih3 _ _ _ _ _ _ _
      | exact ih4 _ _ _ _ _ _ _ _
      | exact spec_DrawWordMeet.mono _ _
      | exact LeO.none _
      | refine LeO.ite ?_ ?_
      | refine LeO.bind ?_ (fun _ => ?_)
    · intro y0 y1 y2 y3 y4 y5 y6 y7
      unfold laws_FnRange.l1
      repeat' first
      | (with_reducible exact ih0 _ _ _ _ _ _)
      | (with_reducible exact ih1 _ _ _ _ _ _)
      | (with_reducible exact ih2 _ _ _ _ _ _)
      | (with_reducible exact ih3 _ _ _ _ _ _ _)
      | (with_reducible exact ih4 _ _ _ _ _ _ _ _)
      | (with_reducible exact spec_DrawWordMeet.mono _ _)
      | (with_reducible exact LeO.refl _)
      | (with_reducible exact LeO.none _)
      | (with_reducible refine LeO.ite ?_ ?_)
      | (with_reducible refine LeO.bind ?_ (fun _ => ?_))
      | exact ih0 _ _ _ _ _ _
      | exact ih1 _ _ _ _ _ _
      | exact ih2 _ _ _ _ _ _
      | exact ih3 _ _ _ _ _ _ _
      | exact ih4 _ _ _ _ _ _ _ _
      | exact spec_DrawWordMeet.mono _ _
      | exact LeO.none _
      | refine LeO.ite ?_ ?_
      | refine LeO.bind ?_ (fun _ => ?_)
theorem laws_FnRange.mono : ∀ a0 k, LeO (laws_FnRange.f k a0) (laws_FnRange.f (k + 1) a0) := by
  intro a0 k
  obtain ⟨ih0, ih1, ih2, ih3, ih4⟩ := laws_FnRange.mono_l k
  unfold laws_FnRange.f
  repeat' first
      | (with_reducible exact ih0 _ _ _ _ _ _)
      | (with_reducible exact ih1 _ _ _ _ _ _)
      | (with_reducible exact ih2 _ _ _ _ _ _)
      | (with_reducible exact ih3 _ _ _ _ _ _ _)
      | (with_reducible exact ih4 _ _ _ _ _ _ _ _)
      | (with_reducible exact spec_DrawWordMeet.mono _ _)
      | (with_reducible exact LeO.refl _)
      | (with_reducible exact LeO.none _)
      | (with_reducible refine LeO.ite ?_ ?_)
      | (with_reducible refine LeO.bind ?_ (fun _ => ?_))
      | exact ih0 _ _ _ _ _ _
      | exact ih1 _ _ _ _ _ _
      | exact ih2 _ _ _ _ _ _
      | exact ih3 _ _ _ _ _ _ _
      | exact ih4 _ _ _ _ _ _ _ _
      | exact spec_DrawWordMeet.mono _ _
      | exact LeO.none _
      | refine LeO.ite ?_ ?_
      | refine LeO.bind ?_ (fun _ => ?_)
set_option maxHeartbeats 8000000 in
set_option maxRecDepth 100000 in
theorem laws_FnRange.calls (k : Nat) (A0 : Option Addr) (c0 : Nat) (l0 : List Int) (r : Bool) (w : World) (hr0 : Kd.C (Kd.int .u8) w A0 l0.length l0) (hc0 : l0.length ≤ c0) (h : laws_FnRange.f k l0 = some r) :
    Calls Try.prog 12 #[.slice A0 l0.length c0] w fun e w' => e = .returned (.bool r) ∧ Below w.heap.size w w' := by
  have HR0 := Aside0.mk hr0
  have HC0 := Aside0.mk hc0
  clear hr0 hc0
  have HB := Aside0.mk (Below.refl w.heap.size w)
  have H : (if (l0.length : Int) > 1048576 then (some true) else ((spec_DrawWordMeet.f k l0).bind fun bt145 => ((impl_WordMeet.f bt145.1 bt145.2.1 bt145.2.2.1 bt145.2.2.2).bind fun t149 => ((spec_WordMeet.f bt145.1 bt145.2.1 bt145.2.2.1 bt145.2.2.2).bind fun t150 => (if (t149 != t150) = true then (laws_FnRange.j0 k bt145.1 bt145.2.1 bt145.2.2.1 bt145.2.2.2 t149 true) else ((impl_WordMeet.f bt145.2.2.1 bt145.2.2.2 bt145.1 bt145.2.1).bind fun t151 => (if (t149 != t151) = true then (laws_FnRange.j0 k bt145.1 bt145.2.1 bt145.2.2.1 bt145.2.2.2 t149 true) else ((impl_WordIn.f bt145.1 bt145.2.1 bt145.2.2.1 bt145.2.2.2).bind fun t152 => (if t152 = true then (laws_FnRange.j0 k bt145.1 bt145.2.1 bt145.2.2.1 bt145.2.2.2 t149 (!t149)) else (laws_FnRange.j0 k bt145.1 bt145.2.1 bt145.2.2.1 bt145.2.2.2 t149 false)))))))))) = some r := h
  clear h
  by_cases c2 : (l0.length : Int) > 1048576
  · rw [if_pos c2] at H
    have c2b0 : decide (1048576 < (l0.length : Int)) = true := decide_eq_true c2
    have c2b1 : decide (1048576 < l0.length) = true := decide_eq_true (by omega)
    clear c2
    obtain rfl := Option.some.inj H
    go_enter Try.func12, Try.ntmps12
    go_wp2
    go_ret
    exact ⟨by first | rfl | (simp [errW_none, errW_some] <;> rfl) | (simp [*, errW_none, errW_some] <;> rfl), by repeat (first | (with_reducible first | exact HB.out | apply below_alloc | apply pw_below_drewN | apply below_drew1) | exact HB.out)⟩
  · rw [if_neg c2] at H
    have c2b0 : decide (1048576 < (l0.length : Int)) = false := decide_eq_false c2
    have c2b1 : decide (1048576 < l0.length) = false := decide_eq_false (by omega)
    clear c2
    replace H := Option.bind_eq_some_iff.mp H
    obtain ⟨⟨t145, t146, t147, t148⟩, A30, H⟩ := H
    replace H : ((impl_WordMeet.f t145 t146 t147 t148).bind fun t149 => ((spec_WordMeet.f t145 t146 t147 t148).bind fun t150 => (if (t149 != t150) = true then (laws_FnRange.j0 k t145 t146 t147 t148 t149 true) else ((impl_WordMeet.f t147 t148 t145 t146).bind fun t151 => (if (t149 != t151) = true then (laws_FnRange.j0 k t145 t146 t147 t148 t149 true) else ((impl_WordIn.f t145 t146 t147 t148).bind fun t152 => (if t152 = true then (laws_FnRange.j0 k t145 t146 t147 t148 t149 (!t149)) else (laws_FnRange.j0 k t145 t146 t147 t148 t149 false)))))))) = some r := H
    have A3 := Aside0.mk A30
    clear A30
    replace H := Option.bind_eq_some_iff.mp H
    obtain ⟨t149, A40, H⟩ := H
    replace H : ((spec_WordMeet.f t145 t146 t147 t148).bind fun t150 => (if (t149 != t150) = true then (laws_FnRange.j0 k t145 t146 t147 t148 t149 true) else ((impl_WordMeet.f t147 t148 t145 t146).bind fun t151 => (if (t149 != t151) = true then (laws_FnRange.j0 k t145 t146 t147 t148 t149 true) else ((impl_WordIn.f t145 t146 t147 t148).bind fun t152 => (if t152 = true then (laws_FnRange.j0 k t145 t146 t147 t148 t149 (!t149)) else (laws_FnRange.j0 k t145 t146 t147 t148 t149 false))))))) = some r := H
    have A4 := Aside0.mk A40
    clear A40
    have HC5 := Aside0.mk H
    clear H
    go_enter Try.func12, Try.ntmps12
    go_upto_region 5 with (first | ((with_reducible refine gate_callee (f := 36) rfl ?_); refine goesL_ (some 17) rfl rfl Try.func36 (by kernel_rfl) rfl #[.slice A0 l0.length c0] rfl (by (try simp only [List.map_toArray, List.map_cons, List.map_nil]); first | done | rfl | (simp only [List.length_drop, List.length_take]; rfl)) ?_; (with_reducible refine (spec_DrawWordMeet.calls k _ _ l0 t145 t146 t147 t148 _ ?side1 ?side2 A3.out).mono ?_); (case side1 => repeat (first | exact HR0.out | (with_reducible refine Kd.C_alloc ?_ _) | (with_reducible refine Kd.C_drewN ?_ _) | (with_reducible refine Kd.C_drew ?_))); (case side2 => exact HC0.out); rintro e w6 ⟨rfl, hb⟩; refine ⟨_, rfl, ?_⟩; have n0_ := Aside0.mk (below_step (by repeat (first | (with_reducible first | exact HB.out | apply below_alloc | apply pw_below_drewN | apply below_drew1) | exact HB.out)) hb); clear HB; have HB := n0_; clear n0_; (try clear hb); (try clear hb2); (try clear hk); (try clear hi)) | ((with_reducible refine gate_callee (f := 25) rfl ?_); refine goesL_ (some 26) rfl rfl Try.func25 (by kernel_rfl) rfl #[.int .i64 t145, .int .i64 t146, .int .i64 t147, .int .i64 t148] rfl (by (try simp only [List.map_toArray, List.map_cons, List.map_nil]); first | done | rfl | (simp only [List.length_drop, List.length_take]; rfl)) ?_; (with_reducible refine (impl_WordMeet.calls t145 t146 t147 t148 t149 _ A4.out).mono ?_); rintro e w' ⟨rfl, ⟨nd, rfl⟩⟩; refine ⟨_, rfl, ?_⟩))
    (try simp only [Act.put, List.setIfInBounds_toArray, List.set_cons_zero, List.set_cons_succ])
    go_cut [53] (fun v53 wc => ∃ (kq : Nat) (x53_4 : Bool), v53 = .bool x53_4 ∧ Aside0 (laws_FnRange.j0 kq t145 t146 t147 t148 t149 x53_4 = some r) ∧ Aside0 (kq ≤ k) ∧ Aside0 (Below w.heap.size w wc))
    case first =>
      have H := HC5.out
      clear HC5
      replace H := Option.bind_eq_some_iff.mp H
      obtain ⟨t150, A70, H⟩ := H
      replace H : (if (t149 != t150) = true then (laws_FnRange.j0 k t145 t146 t147 t148 t149 true) else ((impl_WordMeet.f t147 t148 t145 t146).bind fun t151 => (if (t149 != t151) = true then (laws_FnRange.j0 k t145 t146 t147 t148 t149 true) else ((impl_WordIn.f t145 t146 t147 t148).bind fun t152 => (if t152 = true then (laws_FnRange.j0 k t145 t146 t147 t148 t149 (!t149)) else (laws_FnRange.j0 k t145 t146 t147 t148 t149 false)))))) = some r := H
      have A7 := Aside0.mk A70
      clear A70
      by_cases c8 : (t149 != t150) = true
      · rw [if_pos c8] at H
        have c8b0 : (t149 != t150) = true := c8
        (try (have c8b1 : decide (t149 = t150) = false := by simpa using c8))
        (try (have c8b2 : (t149 == t150) = false := by simpa using c8))
        (try (have c8b3 : ¬ (t149 = t150) := by simpa using c8))
        clear c8
        (first | rw [c8b0] | (simp only [i64_w, i32_w]; rw [c8b0]) | skip)
        have H' := Aside0.mk H
        clear H
        go_wp2_with (first | ((with_reducible refine gate_callee (f := 24) rfl ?_); refine goesL_ (some 32) rfl rfl Try.func24 (by kernel_rfl) rfl #[.int .i64 t145, .int .i64 t146, .int .i64 t147, .int .i64 t148] rfl (by (try simp only [List.map_toArray, List.map_cons, List.map_nil]); first | done | rfl | (simp only [List.length_drop, List.length_take]; rfl)) ?_; (with_reducible refine (spec_WordMeet.calls t145 t146 t147 t148 t150 _ A7.out).mono ?_); rintro e w' ⟨rfl, ⟨nd, rfl⟩⟩; refine ⟨_, rfl, ?_⟩))
        go_meet
        case rel => exact ⟨_, (true), (by first | rfl | (simp; done) | (simp [*]; done)), H', ⟨by first | omega | exact Nat.le_refl _⟩, ⟨by repeat (first | (with_reducible first | exact HB.out | apply below_alloc | apply pw_below_drewN | apply below_drew1) | exact HB.out)⟩⟩
      · rw [if_neg c8] at H
        have c8b0 : (t149 != t150) = false := by simpa using c8
        (try (have c8b1 : decide (t149 = t150) = true := by simpa using c8))
        (try (have c8b2 : (t149 == t150) = true := by simpa using c8))
        clear c8
        (first | rw [c8b0] | (simp only [i64_w, i32_w]; rw [c8b0]) | skip)
        replace H := Option.bind_eq_some_iff.mp H
        obtain ⟨t151, A90, H⟩ := H
        replace H : (if (t149 != t151) = true then (laws_FnRange.j0 k t145 t146 t147 t148 t149 true) else ((impl_WordIn.f t145 t146 t147 t148).bind fun t152 => (if t152 = true then (laws_FnRange.j0 k t145 t146 t147 t148 t149 (!t149)) else (laws_FnRange.j0 k t145 t146 t147 t148 t149 false)))) = some r := H
        have A9 := Aside0.mk A90
        clear A90
        by_cases c10 : (t149 != t151) = true
        · rw [if_pos c10] at H
          have c10b0 : (t149 != t151) = true := c10
          (try (have c10b1 : decide (t149 = t151) = false := by simpa using c10))
          (try (have c10b2 : (t149 == t151) = false := by simpa using c10))
          (try (have c10b3 : ¬ (t149 = t151) := by simpa using c10))
          clear c10
          have H' := Aside0.mk H
          clear H
          go_wp2_with (first | ((with_reducible refine gate_callee (f := 24) rfl ?_); refine goesL_ (some 32) rfl rfl Try.func24 (by kernel_rfl) rfl #[.int .i64 t145, .int .i64 t146, .int .i64 t147, .int .i64 t148] rfl (by (try simp only [List.map_toArray, List.map_cons, List.map_nil]); first | done | rfl | (simp only [List.length_drop, List.length_take]; rfl)) ?_; (with_reducible refine (spec_WordMeet.calls t145 t146 t147 t148 t150 _ A7.out).mono ?_); rintro e w' ⟨rfl, ⟨nd, rfl⟩⟩; refine ⟨_, rfl, ?_⟩) | (go_at_call 25; (with_reducible refine (impl_WordMeet.calls t147 t148 t145 t146 t151 _ A9.out).mono ?_); rintro e w' ⟨rfl, ⟨nd, rfl⟩⟩))
          go_meet
          case rel => exact ⟨_, (true), (by first | rfl | (simp; done) | (simp [*]; done)), H', ⟨by first | omega | exact Nat.le_refl _⟩, ⟨by repeat (first | (with_reducible first | exact HB.out | apply below_alloc | apply pw_below_drewN | apply below_drew1) | exact HB.out)⟩⟩
        · rw [if_neg c10] at H
          have c10b0 : (t149 != t151) = false := by simpa using c10
          (try (have c10b1 : decide (t149 = t151) = true := by simpa using c10))
          (try (have c10b2 : (t149 == t151) = true := by simpa using c10))
          clear c10
          replace H := Option.bind_eq_some_iff.mp H
          obtain ⟨t152, A110, H⟩ := H
          replace H : (if t152 = true then (laws_FnRange.j0 k t145 t146 t147 t148 t149 (!t149)) else (laws_FnRange.j0 k t145 t146 t147 t148 t149 false)) = some r := H
          have A11 := Aside0.mk A110
          clear A110
          by_cases c12 : t152 = true
          · subst c12
            have H1 : (laws_FnRange.j0 k t145 t146 t147 t148 t149 (!t149)) = some r := by rw [if_pos rfl] at H; exact H
            clear H
            have H := H1
            clear H1
            have H' := Aside0.mk H
            clear H
            go_wp2_with (first | ((with_reducible refine gate_callee (f := 24) rfl ?_); refine goesL_ (some 32) rfl rfl Try.func24 (by kernel_rfl) rfl #[.int .i64 t145, .int .i64 t146, .int .i64 t147, .int .i64 t148] rfl (by (try simp only [List.map_toArray, List.map_cons, List.map_nil]); first | done | rfl | (simp only [List.length_drop, List.length_take]; rfl)) ?_; (with_reducible refine (spec_WordMeet.calls t145 t146 t147 t148 t150 _ A7.out).mono ?_); rintro e w' ⟨rfl, ⟨nd, rfl⟩⟩; refine ⟨_, rfl, ?_⟩) | (go_at_call 25; (with_reducible refine (impl_WordMeet.calls t147 t148 t145 t146 t151 _ A9.out).mono ?_); rintro e w' ⟨rfl, ⟨nd, rfl⟩⟩) | (go_at_call 23; (with_reducible refine (impl_WordIn.calls t145 t146 t147 t148 true _ A11.out).mono ?_); rintro e w' ⟨rfl, ⟨nd, rfl⟩⟩))
            go_meet
            case rel => exact ⟨_, (!t149), (by first | rfl | (simp; done) | (simp [*]; done)), H', ⟨by first | omega | exact Nat.le_refl _⟩, ⟨by repeat (first | (with_reducible first | exact HB.out | apply below_alloc | apply pw_below_drewN | apply below_drew1) | exact HB.out)⟩⟩
          · replace c12 := Bool.eq_false_iff.mpr c12
            subst c12
            have H1 : (laws_FnRange.j0 k t145 t146 t147 t148 t149 false) = some r := by rw [if_neg (show ¬ (false = true) by decide)] at H; exact H
            clear H
            have H := H1
            clear H1
            have H' := Aside0.mk H
            clear H
            go_wp2_with (first | ((with_reducible refine gate_callee (f := 24) rfl ?_); refine goesL_ (some 32) rfl rfl Try.func24 (by kernel_rfl) rfl #[.int .i64 t145, .int .i64 t146, .int .i64 t147, .int .i64 t148] rfl (by (try simp only [List.map_toArray, List.map_cons, List.map_nil]); first | done | rfl | (simp only [List.length_drop, List.length_take]; rfl)) ?_; (with_reducible refine (spec_WordMeet.calls t145 t146 t147 t148 t150 _ A7.out).mono ?_); rintro e w' ⟨rfl, ⟨nd, rfl⟩⟩; refine ⟨_, rfl, ?_⟩) | (go_at_call 25; (with_reducible refine (impl_WordMeet.calls t147 t148 t145 t146 t151 _ A9.out).mono ?_); rintro e w' ⟨rfl, ⟨nd, rfl⟩⟩) | (go_at_call 23; (with_reducible refine (impl_WordIn.calls t145 t146 t147 t148 false _ A11.out).mono ?_); rintro e w' ⟨rfl, ⟨nd, rfl⟩⟩))
            go_meet
            case rel => exact ⟨_, (false), (by first | rfl | (simp; done) | (simp [*]; done)), H', ⟨by first | omega | exact Nat.le_refl _⟩, ⟨by repeat (first | (with_reducible first | exact HB.out | apply below_alloc | apply pw_below_drewN | apply below_drew1) | exact HB.out)⟩⟩
    case rest =>
      clear HC5
      try clear c1
      try clear c2
      try clear c2b0
      try clear c2b1
      try clear p2
      try clear c3
      try clear c8
      try clear c8b0
      try clear c8b1
      try clear c8b2
      try clear c10
      try clear c10b0
      try clear c10b1
      try clear c10b2
      try clear c12
      obtain ⟨kq, x53_4, rfl, HA, HJ4, HB⟩ := hcut
      cases kq with
      | zero => exact absurd HA.out (by simp [laws_FnRange.j0])
      | succ kj4 =>
        have H := HA.out
        clear HA
        simp only [laws_FnRange.j0] at H
        by_cases c13 : x53_4 = true
        · subst c13
          have H1 : (some false) = some r := by rw [if_pos rfl] at H; exact H
          clear H
          have H := H1
          clear H1
          obtain rfl := Option.some.inj H
          go_wp2
          go_ret
          exact ⟨by first | rfl | (simp [errW_none, errW_some] <;> rfl) | (simp [*, errW_none, errW_some] <;> rfl), by repeat (first | (with_reducible first | exact HB.out | apply below_alloc | apply pw_below_drewN | apply below_drew1) | exact HB.out)⟩
        · replace c13 := Bool.eq_false_iff.mpr c13
          subst c13
          have H1 : ((impl_WordUp.f t145 t146).bind fun t153 => ((spec_WordAligned.f 0 t146).bind fun t154 => (if t154 = true then (if t145 ≥ 0 then (if t145 ≤ 4096 then (if t153 < t145 then (laws_FnRange.j1 kj4 t145 t146 t147 t148 t149 true) else (if (wrap64 (t153 - t145)) ≥ t146 then (laws_FnRange.j1 kj4 t145 t146 t147 t148 t149 true) else (if t146 = 0 then (none) else (laws_FnRange.j1 kj4 t145 t146 t147 t148 t149 ((Int.tmod t153 t146) != 0))))) else (laws_FnRange.j1 kj4 t145 t146 t147 t148 t149 false)) else (laws_FnRange.j1 kj4 t145 t146 t147 t148 t149 false)) else (laws_FnRange.j1 kj4 t145 t146 t147 t148 t149 false)))) = some r := by rw [if_neg (show ¬ (false = true) by decide)] at H; exact H
          clear H
          have H := H1
          clear H1
          replace H := Option.bind_eq_some_iff.mp H
          obtain ⟨t153, A140, H⟩ := H
          replace H : ((spec_WordAligned.f 0 t146).bind fun t154 => (if t154 = true then (if t145 ≥ 0 then (if t145 ≤ 4096 then (if t153 < t145 then (laws_FnRange.j1 kj4 t145 t146 t147 t148 t149 true) else (if (wrap64 (t153 - t145)) ≥ t146 then (laws_FnRange.j1 kj4 t145 t146 t147 t148 t149 true) else (if t146 = 0 then (none) else (laws_FnRange.j1 kj4 t145 t146 t147 t148 t149 ((Int.tmod t153 t146) != 0))))) else (laws_FnRange.j1 kj4 t145 t146 t147 t148 t149 false)) else (laws_FnRange.j1 kj4 t145 t146 t147 t148 t149 false)) else (laws_FnRange.j1 kj4 t145 t146 t147 t148 t149 false))) = some r := H
          have A14 := Aside0.mk A140
          clear A140
          have HC15 := Aside0.mk H
          clear H
          go_upto_region 8 with (first | ((with_reducible refine gate_callee (f := 31) rfl ?_); refine goesL_ (some 56) rfl rfl Try.func31 (by kernel_rfl) rfl #[.int .i64 t145, .int .i64 t146] rfl (by (try simp only [List.map_toArray, List.map_cons, List.map_nil]); first | done | rfl | (simp only [List.length_drop, List.length_take]; rfl)) ?_; (with_reducible refine (impl_WordUp.calls t145 t146 t153 _ A14.out).mono ?_); rintro e w' ⟨rfl, ⟨nd, rfl⟩⟩; refine ⟨_, rfl, ?_⟩))
          (try simp only [Act.put, List.setIfInBounds_toArray, List.set_cons_zero, List.set_cons_succ])
          go_cut [84] (fun v84 wc => ∃ (kq : Nat) (x84_14 : Bool), v84 = .bool x84_14 ∧ Aside0 (laws_FnRange.j1 kq t145 t146 t147 t148 t149 x84_14 = some r) ∧ Aside0 (kq ≤ kj4) ∧ Aside0 (Below w.heap.size w wc))
          case first =>
            have H := HC15.out
            clear HC15
            replace H := Option.bind_eq_some_iff.mp H
            obtain ⟨t154, A160, H⟩ := H
            replace H : (if t154 = true then (if t145 ≥ 0 then (if t145 ≤ 4096 then (if t153 < t145 then (laws_FnRange.j1 kj4 t145 t146 t147 t148 t149 true) else (if (wrap64 (t153 - t145)) ≥ t146 then (laws_FnRange.j1 kj4 t145 t146 t147 t148 t149 true) else (if t146 = 0 then (none) else (laws_FnRange.j1 kj4 t145 t146 t147 t148 t149 ((Int.tmod t153 t146) != 0))))) else (laws_FnRange.j1 kj4 t145 t146 t147 t148 t149 false)) else (laws_FnRange.j1 kj4 t145 t146 t147 t148 t149 false)) else (laws_FnRange.j1 kj4 t145 t146 t147 t148 t149 false)) = some r := H
            have A16 := Aside0.mk A160
            clear A160
            by_cases c17 : t154 = true
            · subst c17
              have H1 : (if t145 ≥ 0 then (if t145 ≤ 4096 then (if t153 < t145 then (laws_FnRange.j1 kj4 t145 t146 t147 t148 t149 true) else (if (wrap64 (t153 - t145)) ≥ t146 then (laws_FnRange.j1 kj4 t145 t146 t147 t148 t149 true) else (if t146 = 0 then (none) else (laws_FnRange.j1 kj4 t145 t146 t147 t148 t149 ((Int.tmod t153 t146) != 0))))) else (laws_FnRange.j1 kj4 t145 t146 t147 t148 t149 false)) else (laws_FnRange.j1 kj4 t145 t146 t147 t148 t149 false)) = some r := by rw [if_pos rfl] at H; exact H
              clear H
              have H := H1
              clear H1
              by_cases c18 : t145 ≥ 0
              · rw [if_pos c18] at H
                have c18b0 : decide (0 ≤ t145) = true := decide_eq_true c18
                clear c18
                (first | rw [c18b0] | (simp only [i64_w, i32_w]; rw [c18b0]) | skip)
                by_cases c19 : t145 ≤ 4096
                · rw [if_pos c19] at H
                  have c19b0 : decide (t145 ≤ 4096) = true := decide_eq_true c19
                  clear c19
                  by_cases c20 : t153 < t145
                  · rw [if_pos c20] at H
                    have c20b0 : decide (t153 < t145) = true := decide_eq_true c20
                    clear c20
                    have H' := Aside0.mk H
                    clear H
                    go_wp2_with (first | ((with_reducible refine gate_callee (f := 20) rfl ?_); refine goesL_ (some 58) rfl rfl Try.func20 (by kernel_rfl) rfl #[.int .i64 0, .int .i64 t146] rfl (by (try simp only [List.map_toArray, List.map_cons, List.map_nil]); first | done | rfl | (simp only [List.length_drop, List.length_take]; rfl)) ?_; (with_reducible refine (spec_WordAligned.calls 0 t146 true _ A16.out).mono ?_); rintro e w' ⟨rfl, ⟨nd, rfl⟩⟩; refine ⟨_, rfl, ?_⟩))
                    go_meet
                    case rel => exact ⟨_, (true), (by first | rfl | (simp; done) | (simp [*]; done)), H', ⟨by have := HJ4.out; first | omega | exact Nat.le_refl _⟩, ⟨by repeat (first | (with_reducible first | exact HB.out | apply below_alloc | apply pw_below_drewN | apply below_drew1) | exact HB.out)⟩⟩
                  · rw [if_neg c20] at H
                    have c20b0 : decide (t153 < t145) = false := decide_eq_false c20
                    clear c20
                    by_cases c21 : (wrap64 (t153 - t145)) ≥ t146
                    · rw [if_pos c21] at H
                      have c21b0 : decide (t146 ≤ (wrap64 (t153 - t145))) = true := decide_eq_true c21
                      clear c21
                      have H' := Aside0.mk H
                      clear H
                      go_wp2_with (first | ((with_reducible refine gate_callee (f := 20) rfl ?_); refine goesL_ (some 58) rfl rfl Try.func20 (by kernel_rfl) rfl #[.int .i64 0, .int .i64 t146] rfl (by (try simp only [List.map_toArray, List.map_cons, List.map_nil]); first | done | rfl | (simp only [List.length_drop, List.length_take]; rfl)) ?_; (with_reducible refine (spec_WordAligned.calls 0 t146 true _ A16.out).mono ?_); rintro e w' ⟨rfl, ⟨nd, rfl⟩⟩; refine ⟨_, rfl, ?_⟩))
                      go_meet
                      case rel => exact ⟨_, (true), (by first | rfl | (simp; done) | (simp [*]; done)), H', ⟨by have := HJ4.out; first | omega | exact Nat.le_refl _⟩, ⟨by repeat (first | (with_reducible first | exact HB.out | apply below_alloc | apply pw_below_drewN | apply below_drew1) | exact HB.out)⟩⟩
                    · rw [if_neg c21] at H
                      have c21b0 : decide (t146 ≤ (wrap64 (t153 - t145))) = false := decide_eq_false c21
                      clear c21
                      by_cases c22 : t146 = 0
                      · rw [if_pos c22] at H
                        exact absurd H (by simp)
                      · rw [if_neg c22] at H
                        have c22b0 : (t146 == 0) = false := beq_eq_false_iff_ne.mpr c22
                        have c22b1 : (t146 != 0) = true := bne_iff_ne.mpr c22
                        have H' := Aside0.mk H
                        clear H
                        go_wp2_with (first | ((with_reducible refine gate_callee (f := 20) rfl ?_); refine goesL_ (some 58) rfl rfl Try.func20 (by kernel_rfl) rfl #[.int .i64 0, .int .i64 t146] rfl (by (try simp only [List.map_toArray, List.map_cons, List.map_nil]); first | done | rfl | (simp only [List.length_drop, List.length_take]; rfl)) ?_; (with_reducible refine (spec_WordAligned.calls 0 t146 true _ A16.out).mono ?_); rintro e w' ⟨rfl, ⟨nd, rfl⟩⟩; refine ⟨_, rfl, ?_⟩))
                        go_meet
                        case rel => exact ⟨_, (((Int.tmod t153 t146) != 0)), (by first | rfl | (simp; done) | (simp [*]; done)), H', ⟨by have := HJ4.out; first | omega | exact Nat.le_refl _⟩, ⟨by repeat (first | (with_reducible first | exact HB.out | apply below_alloc | apply pw_below_drewN | apply below_drew1) | exact HB.out)⟩⟩
                · rw [if_neg c19] at H
                  have c19b0 : decide (t145 ≤ 4096) = false := decide_eq_false c19
                  clear c19
                  have H' := Aside0.mk H
                  clear H
                  go_wp2_with (first | ((with_reducible refine gate_callee (f := 20) rfl ?_); refine goesL_ (some 58) rfl rfl Try.func20 (by kernel_rfl) rfl #[.int .i64 0, .int .i64 t146] rfl (by (try simp only [List.map_toArray, List.map_cons, List.map_nil]); first | done | rfl | (simp only [List.length_drop, List.length_take]; rfl)) ?_; (with_reducible refine (spec_WordAligned.calls 0 t146 true _ A16.out).mono ?_); rintro e w' ⟨rfl, ⟨nd, rfl⟩⟩; refine ⟨_, rfl, ?_⟩))
                  go_meet
                  case rel => exact ⟨_, (false), (by first | rfl | (simp; done) | (simp [*]; done)), H', ⟨by have := HJ4.out; first | omega | exact Nat.le_refl _⟩, ⟨by repeat (first | (with_reducible first | exact HB.out | apply below_alloc | apply pw_below_drewN | apply below_drew1) | exact HB.out)⟩⟩
              · rw [if_neg c18] at H
                have c18b0 : decide (0 ≤ t145) = false := decide_eq_false c18
                clear c18
                (first | rw [c18b0] | (simp only [i64_w, i32_w]; rw [c18b0]) | skip)
                have H' := Aside0.mk H
                clear H
                go_wp2_with (first | ((with_reducible refine gate_callee (f := 20) rfl ?_); refine goesL_ (some 58) rfl rfl Try.func20 (by kernel_rfl) rfl #[.int .i64 0, .int .i64 t146] rfl (by (try simp only [List.map_toArray, List.map_cons, List.map_nil]); first | done | rfl | (simp only [List.length_drop, List.length_take]; rfl)) ?_; (with_reducible refine (spec_WordAligned.calls 0 t146 true _ A16.out).mono ?_); rintro e w' ⟨rfl, ⟨nd, rfl⟩⟩; refine ⟨_, rfl, ?_⟩))
                go_meet
                case rel => exact ⟨_, (false), (by first | rfl | (simp; done) | (simp [*]; done)), H', ⟨by have := HJ4.out; first | omega | exact Nat.le_refl _⟩, ⟨by repeat (first | (with_reducible first | exact HB.out | apply below_alloc | apply pw_below_drewN | apply below_drew1) | exact HB.out)⟩⟩
            · replace c17 := Bool.eq_false_iff.mpr c17
              subst c17
              have H1 : (laws_FnRange.j1 kj4 t145 t146 t147 t148 t149 false) = some r := by rw [if_neg (show ¬ (false = true) by decide)] at H; exact H
              clear H
              have H := H1
              clear H1
              have H' := Aside0.mk H
              clear H
              go_wp2_with (first | ((with_reducible refine gate_callee (f := 20) rfl ?_); refine goesL_ (some 58) rfl rfl Try.func20 (by kernel_rfl) rfl #[.int .i64 0, .int .i64 t146] rfl (by (try simp only [List.map_toArray, List.map_cons, List.map_nil]); first | done | rfl | (simp only [List.length_drop, List.length_take]; rfl)) ?_; (with_reducible refine (spec_WordAligned.calls 0 t146 false _ A16.out).mono ?_); rintro e w' ⟨rfl, ⟨nd, rfl⟩⟩; refine ⟨_, rfl, ?_⟩))
              go_meet
              case rel => exact ⟨_, (false), (by first | rfl | (simp; done) | (simp [*]; done)), H', ⟨by have := HJ4.out; first | omega | exact Nat.le_refl _⟩, ⟨by repeat (first | (with_reducible first | exact HB.out | apply below_alloc | apply pw_below_drewN | apply below_drew1) | exact HB.out)⟩⟩
          case rest =>
            clear HC15
            try clear c1
            try clear c2
            try clear c2b0
            try clear c2b1
            try clear p2
            try clear c3
            try clear p6
            try clear c8
            try clear c8b0
            try clear c8b1
            try clear c8b2
            try clear c10
            try clear c10b0
            try clear c10b1
            try clear c10b2
            try clear c12
            try clear c13
            try clear c17
            try clear c18
            try clear c18b0
            try clear c19
            try clear c19b0
            try clear c20
            try clear c20b0
            try clear c21
            try clear c21b0
            try clear c22
            try clear c22b0
            try clear c22b1
            try clear p2
            obtain ⟨kq, x84_14, rfl, HA, HJ14, HB⟩ := hcut
            cases kq with
            | zero => exact absurd HA.out (by simp [laws_FnRange.j1])
            | succ kj14 =>
              have H := HA.out
              clear HA
              simp only [laws_FnRange.j1] at H
              by_cases c23 : x84_14 = true
              · subst c23
                have H1 : (some false) = some r := by rw [if_pos rfl] at H; exact H
                clear H
                have H := H1
                clear H1
                obtain rfl := Option.some.inj H
                go_wp2
                go_ret
                exact ⟨by first | rfl | (simp [errW_none, errW_some] <;> rfl) | (simp [*, errW_none, errW_some] <;> rfl), by repeat (first | (with_reducible first | exact HB.out | apply below_alloc | apply pw_below_drewN | apply below_drew1) | exact HB.out)⟩
              · replace c23 := Bool.eq_false_iff.mpr c23
                subst c23
                have H1 : ((impl_WordAligned.f t145 t146).bind fun t155 => (if t155 = true then ((impl_WordAligned.f t147 t148).bind fun t156 => (if t156 = true then ((spec_WordAligned.f t145 t146).bind fun t157 => (if t157 = true then ((spec_WordAligned.f t147 t148).bind fun t158 => (laws_FnRange.j2 kj14 t145 t146 t147 t148 t149 (!t158))) else (laws_FnRange.j2 kj14 t145 t146 t147 t148 t149 true))) else (laws_FnRange.j2 kj14 t145 t146 t147 t148 t149 true))) else (laws_FnRange.j2 kj14 t145 t146 t147 t148 t149 true))) = some r := by rw [if_neg (show ¬ (false = true) by decide)] at H; exact H
                clear H
                have H := H1
                clear H1
                have HC24 := Aside0.mk H
                clear H
                go_upto_region 10 with (fail)
                go_cut [106] (fun v106 wc => ∃ (kq : Nat) (x106_23 : Bool), v106 = .bool x106_23 ∧ Aside0 (laws_FnRange.j2 kq t145 t146 t147 t148 t149 x106_23 = some r) ∧ Aside0 (kq ≤ kj14) ∧ Aside0 (Below w.heap.size w wc))
                case first =>
                  have H := HC24.out
                  clear HC24
                  replace H := Option.bind_eq_some_iff.mp H
                  obtain ⟨t155, A250, H⟩ := H
                  replace H : (if t155 = true then ((impl_WordAligned.f t147 t148).bind fun t156 => (if t156 = true then ((spec_WordAligned.f t145 t146).bind fun t157 => (if t157 = true then ((spec_WordAligned.f t147 t148).bind fun t158 => (laws_FnRange.j2 kj14 t145 t146 t147 t148 t149 (!t158))) else (laws_FnRange.j2 kj14 t145 t146 t147 t148 t149 true))) else (laws_FnRange.j2 kj14 t145 t146 t147 t148 t149 true))) else (laws_FnRange.j2 kj14 t145 t146 t147 t148 t149 true)) = some r := H
                  have A25 := Aside0.mk A250
                  clear A250
                  by_cases c26 : t155 = true
                  · subst c26
                    have H1 : ((impl_WordAligned.f t147 t148).bind fun t156 => (if t156 = true then ((spec_WordAligned.f t145 t146).bind fun t157 => (if t157 = true then ((spec_WordAligned.f t147 t148).bind fun t158 => (laws_FnRange.j2 kj14 t145 t146 t147 t148 t149 (!t158))) else (laws_FnRange.j2 kj14 t145 t146 t147 t148 t149 true))) else (laws_FnRange.j2 kj14 t145 t146 t147 t148 t149 true))) = some r := by rw [if_pos rfl] at H; exact H
                    clear H
                    have H := H1
                    clear H1
                    replace H := Option.bind_eq_some_iff.mp H
                    obtain ⟨t156, A270, H⟩ := H
                    replace H : (if t156 = true then ((spec_WordAligned.f t145 t146).bind fun t157 => (if t157 = true then ((spec_WordAligned.f t147 t148).bind fun t158 => (laws_FnRange.j2 kj14 t145 t146 t147 t148 t149 (!t158))) else (laws_FnRange.j2 kj14 t145 t146 t147 t148 t149 true))) else (laws_FnRange.j2 kj14 t145 t146 t147 t148 t149 true)) = some r := H
                    have A27 := Aside0.mk A270
                    clear A270
                    by_cases c28 : t156 = true
                    · subst c28
                      have H1 : ((spec_WordAligned.f t145 t146).bind fun t157 => (if t157 = true then ((spec_WordAligned.f t147 t148).bind fun t158 => (laws_FnRange.j2 kj14 t145 t146 t147 t148 t149 (!t158))) else (laws_FnRange.j2 kj14 t145 t146 t147 t148 t149 true))) = some r := by rw [if_pos rfl] at H; exact H
                      clear H
                      have H := H1
                      clear H1
                      replace H := Option.bind_eq_some_iff.mp H
                      obtain ⟨t157, A290, H⟩ := H
                      replace H : (if t157 = true then ((spec_WordAligned.f t147 t148).bind fun t158 => (laws_FnRange.j2 kj14 t145 t146 t147 t148 t149 (!t158))) else (laws_FnRange.j2 kj14 t145 t146 t147 t148 t149 true)) = some r := H
                      have A29 := Aside0.mk A290
                      clear A290
                      by_cases c30 : t157 = true
                      · subst c30
                        have H1 : ((spec_WordAligned.f t147 t148).bind fun t158 => (laws_FnRange.j2 kj14 t145 t146 t147 t148 t149 (!t158))) = some r := by rw [if_pos rfl] at H; exact H
                        clear H
                        have H := H1
                        clear H1
                        replace H := Option.bind_eq_some_iff.mp H
                        obtain ⟨t158, A310, H⟩ := H
                        replace H : (laws_FnRange.j2 kj14 t145 t146 t147 t148 t149 (!t158)) = some r := H
                        have A31 := Aside0.mk A310
                        clear A310
                        have H' := Aside0.mk H
                        clear H
                        go_wp2_with (first | ((with_reducible refine gate_callee (f := 21) rfl ?_); refine goesL_ (some 87) rfl rfl Try.func21 (by kernel_rfl) rfl #[.int .i64 t145, .int .i64 t146] rfl (by (try simp only [List.map_toArray, List.map_cons, List.map_nil]); first | done | rfl | (simp only [List.length_drop, List.length_take]; rfl)) ?_; (with_reducible refine (impl_WordAligned.calls t145 t146 true _ A25.out).mono ?_); rintro e w' ⟨rfl, ⟨nd, rfl⟩⟩; refine ⟨_, rfl, ?_⟩) | (go_at_call 21; (with_reducible refine (impl_WordAligned.calls t147 t148 true _ A27.out).mono ?_); rintro e w' ⟨rfl, ⟨nd, rfl⟩⟩) | (go_at_call 20; (with_reducible refine (spec_WordAligned.calls t145 t146 true _ A29.out).mono ?_); rintro e w' ⟨rfl, ⟨nd, rfl⟩⟩) | (go_at_call 20; (with_reducible refine (spec_WordAligned.calls t147 t148 t158 _ A31.out).mono ?_); rintro e w' ⟨rfl, ⟨nd, rfl⟩⟩))
                        go_meet
                        case rel => exact ⟨_, (!t158), (by first | rfl | (simp; done) | (simp [*]; done)), H', ⟨by have := HJ4.out; have := HJ14.out; first | omega | exact Nat.le_refl _⟩, ⟨by repeat (first | (with_reducible first | exact HB.out | apply below_alloc | apply pw_below_drewN | apply below_drew1) | exact HB.out)⟩⟩
                      · replace c30 := Bool.eq_false_iff.mpr c30
                        subst c30
                        have H1 : (laws_FnRange.j2 kj14 t145 t146 t147 t148 t149 true) = some r := by rw [if_neg (show ¬ (false = true) by decide)] at H; exact H
                        clear H
                        have H := H1
                        clear H1
                        have H' := Aside0.mk H
                        clear H
                        go_wp2_with (first | ((with_reducible refine gate_callee (f := 21) rfl ?_); refine goesL_ (some 87) rfl rfl Try.func21 (by kernel_rfl) rfl #[.int .i64 t145, .int .i64 t146] rfl (by (try simp only [List.map_toArray, List.map_cons, List.map_nil]); first | done | rfl | (simp only [List.length_drop, List.length_take]; rfl)) ?_; (with_reducible refine (impl_WordAligned.calls t145 t146 true _ A25.out).mono ?_); rintro e w' ⟨rfl, ⟨nd, rfl⟩⟩; refine ⟨_, rfl, ?_⟩) | (go_at_call 21; (with_reducible refine (impl_WordAligned.calls t147 t148 true _ A27.out).mono ?_); rintro e w' ⟨rfl, ⟨nd, rfl⟩⟩) | (go_at_call 20; (with_reducible refine (spec_WordAligned.calls t145 t146 false _ A29.out).mono ?_); rintro e w' ⟨rfl, ⟨nd, rfl⟩⟩))
                        go_meet
                        case rel => exact ⟨_, (true), (by first | rfl | (simp; done) | (simp [*]; done)), H', ⟨by have := HJ4.out; have := HJ14.out; first | omega | exact Nat.le_refl _⟩, ⟨by repeat (first | (with_reducible first | exact HB.out | apply below_alloc | apply pw_below_drewN | apply below_drew1) | exact HB.out)⟩⟩
                    · replace c28 := Bool.eq_false_iff.mpr c28
                      subst c28
                      have H1 : (laws_FnRange.j2 kj14 t145 t146 t147 t148 t149 true) = some r := by rw [if_neg (show ¬ (false = true) by decide)] at H; exact H
                      clear H
                      have H := H1
                      clear H1
                      have H' := Aside0.mk H
                      clear H
                      go_wp2_with (first | ((with_reducible refine gate_callee (f := 21) rfl ?_); refine goesL_ (some 87) rfl rfl Try.func21 (by kernel_rfl) rfl #[.int .i64 t145, .int .i64 t146] rfl (by (try simp only [List.map_toArray, List.map_cons, List.map_nil]); first | done | rfl | (simp only [List.length_drop, List.length_take]; rfl)) ?_; (with_reducible refine (impl_WordAligned.calls t145 t146 true _ A25.out).mono ?_); rintro e w' ⟨rfl, ⟨nd, rfl⟩⟩; refine ⟨_, rfl, ?_⟩) | (go_at_call 21; (with_reducible refine (impl_WordAligned.calls t147 t148 false _ A27.out).mono ?_); rintro e w' ⟨rfl, ⟨nd, rfl⟩⟩))
                      go_meet
                      case rel => exact ⟨_, (true), (by first | rfl | (simp; done) | (simp [*]; done)), H', ⟨by have := HJ4.out; have := HJ14.out; first | omega | exact Nat.le_refl _⟩, ⟨by repeat (first | (with_reducible first | exact HB.out | apply below_alloc | apply pw_below_drewN | apply below_drew1) | exact HB.out)⟩⟩
                  · replace c26 := Bool.eq_false_iff.mpr c26
                    subst c26
                    have H1 : (laws_FnRange.j2 kj14 t145 t146 t147 t148 t149 true) = some r := by rw [if_neg (show ¬ (false = true) by decide)] at H; exact H
                    clear H
                    have H := H1
                    clear H1
                    have H' := Aside0.mk H
                    clear H
                    go_wp2_with (first | ((with_reducible refine gate_callee (f := 21) rfl ?_); refine goesL_ (some 87) rfl rfl Try.func21 (by kernel_rfl) rfl #[.int .i64 t145, .int .i64 t146] rfl (by (try simp only [List.map_toArray, List.map_cons, List.map_nil]); first | done | rfl | (simp only [List.length_drop, List.length_take]; rfl)) ?_; (with_reducible refine (impl_WordAligned.calls t145 t146 false _ A25.out).mono ?_); rintro e w' ⟨rfl, ⟨nd, rfl⟩⟩; refine ⟨_, rfl, ?_⟩))
                    go_meet
                    case rel => exact ⟨_, (true), (by first | rfl | (simp; done) | (simp [*]; done)), H', ⟨by have := HJ4.out; have := HJ14.out; first | omega | exact Nat.le_refl _⟩, ⟨by repeat (first | (with_reducible first | exact HB.out | apply below_alloc | apply pw_below_drewN | apply below_drew1) | exact HB.out)⟩⟩
                case rest =>
                  clear HC24
                  try clear c1
                  try clear c2
                  try clear c2b0
                  try clear c2b1
                  try clear p2
                  try clear c3
                  try clear p6
                  try clear c8
                  try clear c8b0
                  try clear c8b1
                  try clear c8b2
                  try clear c10
                  try clear c10b0
                  try clear c10b1
                  try clear c10b2
                  try clear c12
                  try clear c13
                  try clear c17
                  try clear c18
                  try clear c18b0
                  try clear c19
                  try clear c19b0
                  try clear c20
                  try clear c20b0
                  try clear c21
                  try clear c21b0
                  try clear c22
                  try clear c22b0
                  try clear c22b1
                  try clear c23
                  try clear c24
                  try clear c25
                  try clear c26
                  try clear c28
                  try clear c30
                  try clear c31
                  try clear p2
                  try clear p6
                  obtain ⟨kq, x106_23, rfl, HA, HJ23, HB⟩ := hcut
                  cases kq with
                  | zero => exact absurd HA.out (by simp [laws_FnRange.j2])
                  | succ kj23 =>
                    have H := HA.out
                    clear HA
                    simp only [laws_FnRange.j2] at H
                    by_cases c32 : x106_23 = true
                    · subst c32
                      have H1 : (some true) = some r := by rw [if_pos rfl] at H; exact H
                      clear H
                      have H := H1
                      clear H1
                      obtain rfl := Option.some.inj H
                      go_wp2
                      go_ret
                      exact ⟨by first | rfl | (simp [errW_none, errW_some] <;> rfl) | (simp [*, errW_none, errW_some] <;> rfl), by repeat (first | (with_reducible first | exact HB.out | apply below_alloc | apply pw_below_drewN | apply below_drew1) | exact HB.out)⟩
                    · replace c32 := Bool.eq_false_iff.mpr c32
                      subst c32
                      have H1 : (laws_FnRange.l0 kj23 t145 t146 t147 t148 t149 false 0) = some r := by rw [if_neg (show ¬ (false = true) by decide)] at H; exact H
                      clear H
                      have H := H1
                      clear H1
                      have H' := Aside0.mk H
                      clear H
                      go_wp2
                      go_loopg [9, 10] kj23 (fun kq v9 v10 w' => ∃ (x9_4 : Bool) (x10_4 : Int), v9 = .bool x9_4 ∧ v10 = .int .i64 x10_4 ∧ Aside0 (laws_FnRange.l0 kq t145 t146 t147 t148 t149 x9_4 x10_4 = some r) ∧ Aside0 (kq ≤ kj23) ∧ Aside0 (Below w.heap.size w w'))
                      case atStart => exact ⟨(false), (0), (by first | rfl | (simp; done) | (simp [*]; done)), (by first | rfl | (simp; done) | (simp [*]; done)), H', ⟨Nat.le_refl _⟩, ⟨by repeat (first | (with_reducible first | exact HB.out | apply below_alloc | apply pw_below_drewN | apply below_drew1) | exact HB.out)⟩⟩
                      case round =>
                        clear H'
                        try clear c1
                        try clear c2
                        try clear c2b0
                        try clear c2b1
                        try clear p2
                        try clear c3
                        try clear p6
                        try clear c8
                        try clear c8b0
                        try clear c8b1
                        try clear c8b2
                        try clear c10
                        try clear c10b0
                        try clear c10b1
                        try clear c10b2
                        try clear c12
                        try clear c13
                        try clear c17
                        try clear c18
                        try clear c18b0
                        try clear c19
                        try clear c19b0
                        try clear c20
                        try clear c20b0
                        try clear c21
                        try clear c21b0
                        try clear c22
                        try clear c22b0
                        try clear c22b1
                        try clear c23
                        try clear c24
                        try clear c25
                        try clear c26
                        try clear c28
                        try clear c30
                        try clear c31
                        try clear c32
                        try clear p2
                        try clear p6
                        obtain ⟨x9_4, x10_4, rfl, rfl, HA, HK4, HB⟩ := hrel
                        cases gk with
                        | zero => exact absurd HA.out (by simp [laws_FnRange.l0])
                        | succ k4 =>
                          have H := HA.out
                          clear HA
                          simp only [laws_FnRange.l0] at H
                          by_cases c33 : x10_4 ≤ 12
                          · rw [if_pos c33] at H
                            have c33b0 : decide (x10_4 ≤ 12) = true := decide_eq_true c33
                            clear c33
                            have H' := Aside0.mk H
                            clear H
                            go_wp2
                            go_loopg [9, 11] k4 (fun kq v9 v11 w' => ∃ (x9_5 : Bool) (x11_5 : Int), v9 = .bool x9_5 ∧ v11 = .int .i64 x11_5 ∧ Aside0 (laws_FnRange.l1 kq t145 t146 t147 t148 t149 x9_5 x10_4 x11_5 = some r) ∧ Aside0 (kq ≤ k4) ∧ Aside0 (Below w.heap.size w w'))
                            case atStart => exact ⟨(x9_4), (0), (by first | rfl | (simp; done) | (simp [*]; done)), (by first | rfl | (simp; done) | (simp [*]; done)), H', ⟨Nat.le_refl _⟩, ⟨by repeat (first | (with_reducible first | exact HB.out | apply below_alloc | apply pw_below_drewN | apply below_drew1) | exact HB.out)⟩⟩
                            case round =>
                              clear H'
                              try clear c1
                              try clear c2
                              try clear c2b0
                              try clear c2b1
                              try clear p2
                              try clear c3
                              try clear p6
                              try clear c8
                              try clear c8b0
                              try clear c8b1
                              try clear c8b2
                              try clear c10
                              try clear c10b0
                              try clear c10b1
                              try clear c10b2
                              try clear c12
                              try clear c13
                              try clear c17
                              try clear c18
                              try clear c18b0
                              try clear c19
                              try clear c19b0
                              try clear c20
                              try clear c20b0
                              try clear c21
                              try clear c21b0
                              try clear c22
                              try clear c22b0
                              try clear c22b1
                              try clear c23
                              try clear c24
                              try clear c25
                              try clear c26
                              try clear c28
                              try clear c30
                              try clear c31
                              try clear c32
                              try clear c33
                              try clear c33b0
                              try clear p2
                              try clear p6
                              obtain ⟨x9_5, x11_5, rfl, rfl, HA, HK5, HB⟩ := hrel
                              cases gk with
                              | zero => exact absurd HA.out (by simp [laws_FnRange.l1])
                              | succ k5 =>
                                have H := HA.out
                                clear HA
                                simp only [laws_FnRange.l1] at H
                                by_cases c34 : x11_5 ≤ 12
                                · rw [if_pos c34] at H
                                  have c34b0 : decide (x11_5 ≤ 12) = true := decide_eq_true c34
                                  clear c34
                                  by_cases c35 : x9_5 = true
                                  · subst c35
                                    have H1 : (laws_FnRange.l1 k5 t145 t146 t147 t148 t149 true x10_4 (wrap64 (x11_5 + 1))) = some r := by rw [if_pos rfl] at H; exact H
                                    clear H
                                    have H := H1
                                    clear H1
                                    have H' := Aside0.mk H
                                    clear H
                                    go_wp2
                                    go_roundg k5
                                    case measure => have := HJ4.out; have := HJ14.out; have := HJ23.out; have := HK4.out; have := HK5.out; omega
                                    case rel => exact ⟨(true), (wrap64 (x11_5 + 1)), (by first | rfl | (simp; done) | (simp [*]; done)), (by first | rfl | (simp; done) | (simp [*]; done)), H', ⟨by have := HJ4.out; have := HJ14.out; have := HJ23.out; have := HK4.out; have := HK5.out; omega⟩, ⟨by repeat (first | (with_reducible first | exact HB.out | apply below_alloc | apply pw_below_drewN | apply below_drew1) | exact HB.out)⟩⟩
                                  · replace c35 := Bool.eq_false_iff.mpr c35
                                    subst c35
                                    have H1 : ((impl_WordSize.f x10_4).bind fun t161 => (if t161 = t146 then ((impl_WordSize.f x11_5).bind fun t162 => (laws_FnRange.l1 k5 t145 t146 t147 t148 t149 (t162 == t148) x10_4 (wrap64 (x11_5 + 1)))) else (laws_FnRange.l1 k5 t145 t146 t147 t148 t149 false x10_4 (wrap64 (x11_5 + 1))))) = some r := by rw [if_neg (show ¬ (false = true) by decide)] at H; exact H
                                    clear H
                                    have H := H1
                                    clear H1
                                    replace H := Option.bind_eq_some_iff.mp H
                                    obtain ⟨t161, A360, H⟩ := H
                                    replace H : (if t161 = t146 then ((impl_WordSize.f x11_5).bind fun t162 => (laws_FnRange.l1 k5 t145 t146 t147 t148 t149 (t162 == t148) x10_4 (wrap64 (x11_5 + 1)))) else (laws_FnRange.l1 k5 t145 t146 t147 t148 t149 false x10_4 (wrap64 (x11_5 + 1)))) = some r := H
                                    have A36 := Aside0.mk A360
                                    clear A360
                                    by_cases c37 : t161 = t146
                                    · rw [if_pos c37] at H
                                      have c37b0 : (t161 == t146) = true := beq_iff_eq.mpr c37
                                      have c37b1 : (t161 != t146) = false := bne_eq_false_iff_eq.mpr c37
                                      clear c37
                                      replace H := Option.bind_eq_some_iff.mp H
                                      obtain ⟨t162, A380, H⟩ := H
                                      replace H : (laws_FnRange.l1 k5 t145 t146 t147 t148 t149 (t162 == t148) x10_4 (wrap64 (x11_5 + 1))) = some r := H
                                      have A38 := Aside0.mk A380
                                      clear A380
                                      have H' := Aside0.mk H
                                      clear H
                                      go_wp2_with (first | (go_at_call 27; (with_reducible refine (impl_WordSize.calls x10_4 t161 _ A36.out).mono ?_); rintro e w' ⟨rfl, ⟨nd, rfl⟩⟩) | (go_at_call 27; (with_reducible refine (impl_WordSize.calls x11_5 t162 _ A38.out).mono ?_); rintro e w' ⟨rfl, ⟨nd, rfl⟩⟩))
                                      go_roundg k5
                                      case measure => have := HJ4.out; have := HJ14.out; have := HJ23.out; have := HK4.out; have := HK5.out; omega
                                      case rel => exact ⟨((t162 == t148)), (wrap64 (x11_5 + 1)), (by first | rfl | (simp; done) | (simp [*]; done)), (by first | rfl | (simp; done) | (simp [*]; done)), H', ⟨by have := HJ4.out; have := HJ14.out; have := HJ23.out; have := HK4.out; have := HK5.out; omega⟩, ⟨by repeat (first | (with_reducible first | exact HB.out | apply below_alloc | apply pw_below_drewN | apply below_drew1) | exact HB.out)⟩⟩
                                    · rw [if_neg c37] at H
                                      have c37b0 : (t161 == t146) = false := beq_eq_false_iff_ne.mpr c37
                                      have c37b1 : (t161 != t146) = true := bne_iff_ne.mpr c37
                                      have H' := Aside0.mk H
                                      clear H
                                      go_wp2_with (first | (go_at_call 27; (with_reducible refine (impl_WordSize.calls x10_4 t161 _ A36.out).mono ?_); rintro e w' ⟨rfl, ⟨nd, rfl⟩⟩))
                                      go_roundg k5
                                      case measure => have := HJ4.out; have := HJ14.out; have := HJ23.out; have := HK4.out; have := HK5.out; omega
                                      case rel => exact ⟨(false), (wrap64 (x11_5 + 1)), (by first | rfl | (simp; done) | (simp [*]; done)), (by first | rfl | (simp; done) | (simp [*]; done)), H', ⟨by have := HJ4.out; have := HJ14.out; have := HJ23.out; have := HK4.out; have := HK5.out; omega⟩, ⟨by repeat (first | (with_reducible first | exact HB.out | apply below_alloc | apply pw_below_drewN | apply below_drew1) | exact HB.out)⟩⟩
                                · rw [if_neg c34] at H
                                  have c34b0 : decide (x11_5 ≤ 12) = false := decide_eq_false c34
                                  clear c34
                                  have H' := Aside0.mk H
                                  clear H
                                  go_wp2
                                  go_roundg k5
                                  case measure => have := HJ4.out; have := HJ14.out; have := HJ23.out; have := HK4.out; have := HK5.out; omega
                                  case rel => exact ⟨(x9_5), (wrap64 (x10_4 + 1)), (by first | rfl | (simp; done) | (simp [*]; done)), (by first | rfl | (simp; done) | (simp [*]; done)), H', ⟨by have := HJ4.out; have := HJ14.out; have := HJ23.out; have := HK4.out; have := HK5.out; omega⟩, ⟨by repeat (first | (with_reducible first | exact HB.out | apply below_alloc | apply pw_below_drewN | apply below_drew1) | exact HB.out)⟩⟩
                          · rw [if_neg c33] at H
                            have c33b0 : decide (x10_4 ≤ 12) = false := decide_eq_false c33
                            clear c33
                            by_cases c39 : x9_4 = true
                            · subst c39
                              have H1 : (if t149 = true then ((impl_WordIn.f t145 t146 t147 t148).bind fun t159 => (if t159 = true then (some true) else ((impl_WordIn.f t147 t148 t145 t146).bind fun t160 => (some t160)))) else (some true)) = some r := by rw [if_pos rfl] at H; exact H
                              clear H
                              have H := H1
                              clear H1
                              by_cases c40 : t149 = true
                              · subst c40
                                have H1 : ((impl_WordIn.f t145 t146 t147 t148).bind fun t159 => (if t159 = true then (some true) else ((impl_WordIn.f t147 t148 t145 t146).bind fun t160 => (some t160)))) = some r := by rw [if_pos rfl] at H; exact H
                                clear H
                                have H := H1
                                clear H1
                                replace H := Option.bind_eq_some_iff.mp H
                                obtain ⟨t159, A410, H⟩ := H
                                replace H : (if t159 = true then (some true) else ((impl_WordIn.f t147 t148 t145 t146).bind fun t160 => (some t160))) = some r := H
                                have A41 := Aside0.mk A410
                                clear A410
                                by_cases c42 : t159 = true
                                · subst c42
                                  have H1 : (some true) = some r := by rw [if_pos rfl] at H; exact H
                                  clear H
                                  have H := H1
                                  clear H1
                                  obtain rfl := Option.some.inj H
                                  go_wp2_with (first | (go_at_call 23; (with_reducible refine (impl_WordIn.calls t145 t146 t147 t148 true _ A41.out).mono ?_); rintro e w' ⟨rfl, ⟨nd, rfl⟩⟩))
                                  go_ret
                                  exact ⟨by first | rfl | (simp [errW_none, errW_some] <;> rfl) | (simp [*, errW_none, errW_some] <;> rfl), by repeat (first | (with_reducible first | exact HB.out | apply below_alloc | apply pw_below_drewN | apply below_drew1) | exact HB.out)⟩
                                · replace c42 := Bool.eq_false_iff.mpr c42
                                  subst c42
                                  have H1 : ((impl_WordIn.f t147 t148 t145 t146).bind fun t160 => (some t160)) = some r := by rw [if_neg (show ¬ (false = true) by decide)] at H; exact H
                                  clear H
                                  have H := H1
                                  clear H1
                                  replace H := Option.bind_eq_some_iff.mp H
                                  obtain ⟨t160, A430, H⟩ := H
                                  replace H : (some t160) = some r := H
                                  have A43 := Aside0.mk A430
                                  clear A430
                                  obtain rfl := Option.some.inj H
                                  go_wp2_with (first | (go_at_call 23; (with_reducible refine (impl_WordIn.calls t145 t146 t147 t148 false _ A41.out).mono ?_); rintro e w' ⟨rfl, ⟨nd, rfl⟩⟩) | (go_at_call 23; (with_reducible refine (impl_WordIn.calls t147 t148 t145 t146 t160 _ A43.out).mono ?_); rintro e w' ⟨rfl, ⟨nd, rfl⟩⟩))
                                  go_ret
                                  exact ⟨by first | rfl | (simp [errW_none, errW_some] <;> rfl) | (simp [*, errW_none, errW_some] <;> rfl), by repeat (first | (with_reducible first | exact HB.out | apply below_alloc | apply pw_below_drewN | apply below_drew1) | exact HB.out)⟩
                              · replace c40 := Bool.eq_false_iff.mpr c40
                                subst c40
                                have H1 : (some true) = some r := by rw [if_neg (show ¬ (false = true) by decide)] at H; exact H
                                clear H
                                have H := H1
                                clear H1
                                obtain rfl := Option.some.inj H
                                go_wp2
                                go_ret
                                exact ⟨by first | rfl | (simp [errW_none, errW_some] <;> rfl) | (simp [*, errW_none, errW_some] <;> rfl), by repeat (first | (with_reducible first | exact HB.out | apply below_alloc | apply pw_below_drewN | apply below_drew1) | exact HB.out)⟩
                            · replace c39 := Bool.eq_false_iff.mpr c39
                              subst c39
                              have H1 : (some true) = some r := by rw [if_neg (show ¬ (false = true) by decide)] at H; exact H
                              clear H
                              have H := H1
                              clear H1
                              obtain rfl := Option.some.inj H
                              go_wp2
                              go_ret
                              exact ⟨by first | rfl | (simp [errW_none, errW_some] <;> rfl) | (simp [*, errW_none, errW_some] <;> rfl), by repeat (first | (with_reducible first | exact HB.out | apply below_alloc | apply pw_below_drewN | apply below_drew1) | exact HB.out)⟩

/-- THE ONE PURE STATEMENT of laws_FnRange: yours. -/
def laws_FnRange.Pure : Prop := ∀ (l0 : List Int), l0.length ≤ maxLen → l0.length * 1 ≤ 140737488351232 → (∀ x ∈ l0, (Lit.int .u8 x).wf = true) → ∃ k, laws_FnRange.f k l0 = some true
theorem laws_FnRange.walk (P : laws_FnRange.Pure) (a0 : Option Addr) (len0 cap0 : Nat) (z0 : List Int) (w : World) (w0 : (a0 = none ∧ len0 = 0 ∧ cap0 = 0 ∧ z0 = []) ∨ ∃ x, a0 = some x ∧ len0 ≤ cap0 ∧ cap0 ≤ maxLen ∧ z0.length = cap0 ∧ (∀ i, i < z0.length → w.cell? (x.add i) = some (.int .u8 (z0.getD i 0))) ∧ ∀ n ∈ z0, (Lit.int .u8 n).wf = true) (y0 : len0 * 1 ≤ 140737488351232) :
    Calls Try.prog 12 #[.slice a0 len0 cap0] w fun e w' => e = .returned (.bool true) ∧ Below w.heap.size w w' := by
  obtain ⟨l0, rfl, hr0, hm0, hw0, hc0⟩ := ReadsInt.ofRowC w0
  obtain ⟨k, h⟩ := P l0 hm0 y0 hw0
  refine (laws_FnRange.calls k _ _ l0 true w (Kd.C_of_reads (d := (0 : Int)) (h1 := fun _ => rfl) hr0) hc0 h).mono ?_
  rintro e w' ⟨rfl, hd⟩
  exact ⟨rfl, hd⟩

end Go.Proofs.Ytjagpgomndndcaa.PFnRange
