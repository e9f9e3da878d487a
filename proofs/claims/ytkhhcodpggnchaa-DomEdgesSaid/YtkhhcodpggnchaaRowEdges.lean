/-
  DomEdges: the row, proved. Conditions: none.
-/
import Derived.Test.YtkhhcodpggnchaaRowTree
import Derived.Test.YtkhhcodpggnchaaWJ
namespace Go.Proofs.Ytkhhcodpggnchaa
open Go Go.Fw Go.ChangeShapes Go.WideShapes Go.ChangeAt Go.RowKit
set_option linter.unusedVariables false

set_option maxRecDepth 100000 in
theorem edges_lifted (os : Os) (started : os.Started) (H : Type) (enc : TypeId × Value → H) :
    ReturnsInHanded {} Try.checked os 5 .any (Rows.domEdgesSpec.pre6 enc Try.prog Try.f5 Rows.domEdgesRow.domain false) (Rows.domEdgesSpec.post enc Try.prog Try.f5 false true false false) := by
  refine law_lifted_sized (C := Try.checked) own_ started (by kernel_rfl) Try.func5
    (ChangeSpec.witness6 (enc := enc) (C := Try.checked) false ⟨#[], #[.slice none 0 0], []⟩ 8 (by kernel_rfl) (by kernel_rfl) (by kernel_rfl) (by kernel_rfl))
    laidOut (by kernel_rfl) rfl (fun ds hds => ?_) rfl Try.underlying4 ?_
  · match ds, hds with
    | [d0], _ => exact ⟨rfl, rfl, rfl⟩
  · intro W base args ds p hval hA hz
    rw [Try.params5] at hval hA hz
    obtain ⟨v0, vs0, d0, ds0, p0, q0, hargs, rfl, rfl, h0, r0⟩ := trodAll_cons hA
    obtain ⟨rfl, rfl, rfl⟩ := trodAll_nil r0
    obtain rfl : args = #[v0] := by cases args; simp_all
    obtain ⟨o, c, ds, next, rfl, hI⟩ := argG (hval 0 _ v0 rfl rfl) h0 (hz 0 _ _ rfl rfl)
    exact DomEdges_spec W o c ds next hI

theorem edges_holds : Rows.DomEdgesSaid :=
  OpenClaim.holds_of_wide 5 Try.f5 rfl rfl rfl rfl rfl rfl rfl ⟨rfl, rfl, rfl, rfl, rfl⟩ rfl rfl rfl rfl rfl (by kernel_rfl) Try.func5 (by kernel_rfl)
    (of_decide_eq_true (by kernel_rfl)) (by unfold Func.isWrapper; first | (rw [if_pos (by decide +kernel)]; kernel_rfl) | (rw [if_neg (by decide +kernel)]; exact ⟨rfl, rfl⟩))
    (fun os started H enc _ => edges_lifted os started H enc)
end Go.Proofs.Ytkhhcodpggnchaa
