/- What the form reads of a list of slots is what the walks tell. No condition. -/
import Derived.Test.YtalfojoimnhmlaaSvTr
import Derived.Test.YtalfojoimnhmlaaSvH
import Derived.KernelRfl
namespace Go.Proofs.Ytalfojoimnhmlaa
open Go.Sv
set_option linter.unusedSimpArgs false
set_option linter.unusedVariables false
set_option maxRecDepth 20000

theorem rights_le {n : Int} (h : (Lit.int .i64 n).wf = true) : n ≤ 9223372036854775807 := by
  simp only [Lit.wf, Bool.and_eq_true, decide_eq_true_eq] at h
  exact h.2
theorem openCp : Opens Try.prog 56 9 Cp.cs (fun c => c.rights ≤ 9223372036854775807) :=
  Opens.map (Opens.struct Try.underlying56 (by kernel_rfl) (Parts.cons (Opens.int Try.underlying3 (by kernel_rfl)) (Parts.cons (Opens.int Try.underlying3 (by kernel_rfl)) (Parts.cons (Opens.int Try.underlying3 (by kernel_rfl)) (Parts.cons (Opens.int Try.underlying3 (by kernel_rfl)) (Parts.cons (Opens.int Try.underlying3 (by kernel_rfl)) (Parts.cons (Opens.int Try.underlying3 (by kernel_rfl)) (Parts.cons (Opens.int Try.underlying3 (by kernel_rfl)) (Parts.cons (Opens.int Try.underlying3 (by kernel_rfl)) (Parts.one (Opens.bool Try.underlying4 (by kernel_rfl)))))))))))) (fun p => ⟨p.1, p.2.1, p.2.2.1, p.2.2.2.1, p.2.2.2.2.1, p.2.2.2.2.2.1, p.2.2.2.2.2.2.1, p.2.2.2.2.2.2.2.1, p.2.2.2.2.2.2.2.2⟩) (fun _ => rfl) (fun p h => rights_le h.2.2.2.1)
theorem openSl : Opens Try.prog 58 11 (fun s : Sl => s.e.cells) Sl.wf :=
  Opens.map (Opens.struct Try.underlying58 (by kernel_rfl) (Parts.cons (Opens.int Try.underlying3 (by kernel_rfl)) (Parts.cons openCp (Parts.one (Opens.int Try.underlying3 (by kernel_rfl)))))) (fun p => ⟨p.1, p.2.1, p.2.2⟩) (fun _ => rfl) (fun p h => h.2.1)
theorem openSls : Opens Try.prog 22 1 (fun l : List Sl => [.list 11 (l.map Sl.e)]) (fun l => (∀ s ∈ l, Sl.wf s) ∧ l.length ≤ 9223372036854775807) :=
  Opens.slice Sl.e Try.underlying22 (by kernel_rfl) openSl (by decide) (fun _ => rfl)
end Go.Proofs.Ytalfojoimnhmlaa
