/- The row of FnExactCapMint: for every input the call returns true; without a condition of its own. -/
import Derived.Test.YtjagpgomndndcaaRows
import Derived.Test.YtjagpgomndndcaaCapMintx3
import Derived.Test.YtjagpgomndndcaaPureFnExactCapMint
import Derived.Test.YtjagpgomndndcaaOpen
import Derived.Test.YtjagpgomndndcaaFactsA
import Derived.Test.YtjagpgomndndcaaFactsB
import Derived.Test.YtjagpgomndndcaaFactsC
import Derived.WalkKit
import Derived.ProofKit
import Derived.OpenShut
import Derived.ShutString
import Derived.ChangeOld
import Derived.Below
import Derived.SizedLaws
import Derived.Lib.SmallJoins
namespace Go.Proofs.Ytjagpgomndndcaa.fnExactCapMint
open Go.ChangeShapes Go.WideShapes Go.ChangeAt Go.RowKit Go.Joins Go.Proofs.YtjagpgomndndcaaW.PrintWords
set_option linter.unusedVariables false
theorem own : ownKnob Try.prog.godebug = none := by kernel_rfl
theorem laidOut : laidOutB Try.prog = true := by kernel_rfl
theorem walk (a0_0 : Int) (a0_1 : Int) (a0_2 : Int) (a0_3 : Int) (a0_4 : Int) (a0_5 : Int) (a0_6 : Int) (a0_7 : Int) (a0_8 : Bool) (a1 : Int) (a2 : Int) (w : World) (w0_0 : (Lit.int .i64 a0_0).wf = true) (w0_1 : (Lit.int .i64 a0_1).wf = true) (w0_2 : (Lit.int .i64 a0_2).wf = true) (w0_3 : (Lit.int .i64 a0_3).wf = true) (w0_4 : (Lit.int .i64 a0_4).wf = true) (w0_5 : (Lit.int .i64 a0_5).wf = true) (w0_6 : (Lit.int .i64 a0_6).wf = true) (w0_7 : (Lit.int .i64 a0_7).wf = true) (w1 : (Lit.int .u32 a1).wf = true) (w2 : (Lit.int .u32 a2).wf = true) :
    Calls Try.prog 18 #[.agg #[.int .i64 a0_0, .int .i64 a0_1, .int .i64 a0_2, .int .i64 a0_3, .int .i64 a0_4, .int .i64 a0_5, .int .i64 a0_6, .int .i64 a0_7, .bool a0_8], .int .u32 a1, .int .u32 a2] w fun e w' => e = .returned (.bool true) ∧ Below w.heap.size w w' := by
  obtain ⟨k, h⟩ := Pure.FnExactCapMint a0_0 a0_1 a0_2 a0_3 a0_4 a0_5 a0_6 a0_7 a0_8 a1 a2 w0_0 w0_1 w0_2 w0_3 w0_4 w0_5 w0_6 w0_7 w1 w2
  refine (CapMint.laws_FnExactCapMint.calls k a0_0 a0_1 a0_2 a0_3 a0_4 a0_5 a0_6 a0_7 a0_8 a1 a2 true w h).mono ?_
  rintro e w' ⟨rfl, hd⟩
  exact ⟨rfl, hd⟩
def kd35 := (Kd.pair (Kd.int .i64) (Kd.pair (Kd.int .i64) (Kd.pair (Kd.int .i64) (Kd.pair (Kd.int .i64) (Kd.pair (Kd.int .i64) (Kd.pair (Kd.int .i64) (Kd.pair (Kd.int .i64) (Kd.pair (Kd.int .i64) (Kd.bool)))))))))
theorem open35 : Opn.Opens Try.prog 35 kd35 (fun (p : (Int × (Int × (Int × (Int × (Int × (Int × (Int × (Int × Bool))))))))) => (fun (n : Int) => (Lit.int .i64 n).wf = true) p.1 ∧ (fun (p : (Int × (Int × (Int × (Int × (Int × (Int × (Int × Bool)))))))) => (fun (n : Int) => (Lit.int .i64 n).wf = true) p.1 ∧ (fun (p : (Int × (Int × (Int × (Int × (Int × (Int × Bool))))))) => (fun (n : Int) => (Lit.int .i64 n).wf = true) p.1 ∧ (fun (p : (Int × (Int × (Int × (Int × (Int × Bool)))))) => (fun (n : Int) => (Lit.int .i64 n).wf = true) p.1 ∧ (fun (p : (Int × (Int × (Int × (Int × Bool))))) => (fun (n : Int) => (Lit.int .i64 n).wf = true) p.1 ∧ (fun (p : (Int × (Int × (Int × Bool)))) => (fun (n : Int) => (Lit.int .i64 n).wf = true) p.1 ∧ (fun (p : (Int × (Int × Bool))) => (fun (n : Int) => (Lit.int .i64 n).wf = true) p.1 ∧ (fun (p : (Int × Bool)) => (fun (n : Int) => (Lit.int .i64 n).wf = true) p.1 ∧ (fun (_ : Bool) => True) p.2) p.2) p.2) p.2) p.2) p.2) p.2) p.2) := (Opn.Opens.struct Try.underlying35 (by kernel_rfl) (Opn.Parts.cons (Opn.Opens.int Try.underlying3 (by kernel_rfl)) rfl (Opn.Parts.cons (Opn.Opens.int Try.underlying3 (by kernel_rfl)) rfl (Opn.Parts.cons (Opn.Opens.int Try.underlying3 (by kernel_rfl)) rfl (Opn.Parts.cons (Opn.Opens.int Try.underlying3 (by kernel_rfl)) rfl (Opn.Parts.cons (Opn.Opens.int Try.underlying3 (by kernel_rfl)) rfl (Opn.Parts.cons (Opn.Opens.int Try.underlying3 (by kernel_rfl)) rfl (Opn.Parts.cons (Opn.Opens.int Try.underlying3 (by kernel_rfl)) rfl (Opn.Parts.cons (Opn.Opens.int Try.underlying3 (by kernel_rfl)) rfl (Opn.Parts.one (Opn.Opens.bool Try.underlying4 (by kernel_rfl))))))))))))
theorem cells35 {w : World} {x0 x1 x2 x3 x4 x5 x6 x7 : Int} {x8 : Bool} {cs : List Value} (h : kd35.K w (x0, x1, x2, x3, x4, x5, x6, x7, x8) cs) : cs = [.int .i64 x0, .int .i64 x1, .int .i64 x2, .int .i64 x3, .int .i64 x4, .int .i64 x5, .int .i64 x6, .int .i64 x7, .bool x8] := by
  obtain ⟨_, _, rfl, rfl, ⟨_, _, rfl, rfl, ⟨_, _, rfl, rfl, ⟨_, _, rfl, rfl, ⟨_, _, rfl, rfl, ⟨_, _, rfl, rfl, ⟨_, _, rfl, rfl, ⟨_, _, rfl, rfl, rfl⟩⟩⟩⟩⟩⟩⟩⟩ := h
  rfl
set_option maxRecDepth 100000 in
theorem lifted (os : Os) (started : os.Started) (H : Type) (enc : TypeId × Value → H) :
    ReturnsInHanded {} Try.checked os 18 .any (Rows.fnExactCapMintSpec.pre6 enc Try.prog Try.f18 Rows.fnExactCapMintRow.domain false) (Rows.fnExactCapMintSpec.post enc Try.prog Try.f18 false true false false) := by
  refine returnsInHanded_of_change_sized (C := Try.checked) own started (by kernel_rfl) Try.func18
    (ChangeSpec.witness6 (enc := enc) (C := Try.checked) false ⟨#[], #[.agg #[.int .i64 0, .int .i64 0, .int .i64 0, .int .i64 0, .int .i64 0, .int .i64 0, .int .i64 0, .int .i64 0, .bool false], .int .u32 0, .int .u32 0], []⟩ 8 (by kernel_rfl) (by kernel_rfl) (by kernel_rfl) (by kernel_rfl)) ?_
  intro W base args ds gs before hval0 hW hcnd hsz0 _
  have hval : ∀ (j : Nat) t v, Try.f18.params[j]? = some t → args[j]? = some v → Value.okWide Try.prog W .any base t v := hval0
  have hW' := hW
  obtain ⟨p, q, hA0, hV, rfl, hfz, hnd⟩ := hW
  have hA : DataW.TrodAll enc Try.prog W 0 (fun _ => true) true Try.f18.params.toList args.toList ds p := hA0
  rw [Try.params18] at hA hval
  obtain ⟨v0, vs0, d0, ds0, p0, q0, hargs, rfl, rfl, h0, r0⟩ := trodAll_cons hA
  obtain ⟨v1, vs1, d1, ds1, p1, q1, rfl, rfl, rfl, h1, r1⟩ := trodAll_cons r0
  obtain ⟨v2, vs2, d2, ds2, p2, q2, rfl, rfl, rfl, h2, r2⟩ := trodAll_cons r1
  obtain ⟨rfl, rfl, rfl⟩ := trodAll_nil r2
  obtain rfl : args = #[v0, v1, v2] := by cases args; simp_all
  obtain ⟨rfl, rfl⟩ := trodVars_none hV
  have k0 := h0
  have lt0 : ∀ x ∈ p0, x.block < W.heap.size := by obtain ⟨m, hm⟩ := k0; exact DataW.trod_lt m _ _ _ hm
  obtain ⟨cs0, rfl, _⟩ := okWide_struct Try.underlying35 (hval 0 35 v0 rfl rfl)
  obtain ⟨⟨a0_0, a0_1, a0_2, a0_3, a0_4, a0_5, a0_6, a0_7, a0_8⟩, hk0, hw0⟩ := open35.arg h0
  replace hk0 : _ = _ := cells35 hk0
  obtain rfl : cs0 = #[.int .i64 a0_0, .int .i64 a0_1, .int .i64 a0_2, .int .i64 a0_3, .int .i64 a0_4, .int .i64 a0_5, .int .i64 a0_6, .int .i64 a0_7, .bool a0_8] := by simpa [Value.cells, Array.toList_inj] using congrArg List.toArray hk0
  obtain ⟨w0_0, w0_1, w0_2, w0_3, w0_4, w0_5, w0_6, w0_7, _⟩ := hw0
  obtain ⟨a1, rfl, rfl, rfl, w1⟩ := open_int Try.underlying27 (hval 1 27 v1 rfl rfl) h1
  obtain ⟨a2, rfl, rfl, rfl, w2⟩ := open_int Try.underlying27 (hval 2 27 v2 rfl rfl) h2
  clear hA0 hval0 hsz0
  refine (walk a0_0 a0_1 a0_2 a0_3 a0_4 a0_5 a0_6 a0_7 a0_8 a1 a2 W w0_0 w0_1 w0_2 w0_3 w0_4 w0_5 w0_6 w0_7 w1 w2).mono fun e W' ⟨he, bel⟩ => ?_
  subst he
  exact ⟨_, rfl, _, _, _, [], _, [], hW', trodAll_mk1 (shut_bool Try.underlying4 _), (trodAll_cons_mk (Below.trod laidOut (by kernel_rfl) (of_decide_eq_true (by kernel_rfl)) k0 bel lt0) (trodAll_cons_mk (shut_int Try.underlying27 w1) (trodAll_cons_mk (shut_int Try.underlying27 w2) trodAll_mk0))), rfl, bel.frame _, fun h => by cases h⟩
set_option maxRecDepth 100000 in
theorem closed : joinedFacts Try.prog 18 Try.f18 Rows.fnExactCapMintSpec Rows.fnExactCapMintRow = true := by
  unfold joinedFacts
  rw [Facts.enter, Facts.lift, Facts.make]
  kernel_rfl
theorem over : Rows.fnExactCapMintRow.holds Try.pinned (OpenSpec.ofChange Rows.fnExactCapMintSpec) :=
  OpenClaim.holds_of_wide 18 Try.f18 rfl rfl rfl rfl rfl rfl rfl ⟨rfl, rfl, rfl, rfl, rfl⟩ rfl rfl rfl rfl rfl (by kernel_rfl) Try.func18 closed
    (of_decide_eq_true (by kernel_rfl)) (by unfold Func.isWrapper; first | (rw [if_pos (by decide +kernel)]; kernel_rfl) | (rw [if_neg (by decide +kernel)]; exact ⟨rfl, rfl⟩))
    (fun os started H enc _ => lifted os started H enc)
theorem proved : Rows.FnExactCapMintSaid := over
#print axioms proved
end Go.Proofs.Ytjagpgomndndcaa.fnExactCapMint
namespace Go.Proofs.Ytjagpgomndndcaa
/-- The row, under a short name, for the claim. -/
theorem fnExactCapMint_holds : Rows.FnExactCapMintSaid := fnExactCapMint.proved
end Go.Proofs.Ytjagpgomndndcaa
