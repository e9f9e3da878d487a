/-
  MovesFew: the row, proved. Conditions: none.
-/
import Derived.Test.YtnebpbghkmcagaaRows
import Derived.Test.YtnebpbghkmcagaaErrs
import Derived.Test.YtnebpbghkmcagaaWI
namespace Go.Proofs.Ytnebpbghkmcagaa
open Go Go.Fw Go.ChangeShapes Go.WideShapes Go.ChangeAt Go.RowKit
set_option linter.unusedVariables false

set_option maxRecDepth 100000 in
theorem few_lifted (os : Os) (started : os.Started) (H : Type) (enc : TypeId × Value → H) :
    ReturnsInHanded {} Try.checked os 5 .any (Rows.movesFewSpec.pre6 enc Try.prog Try.f5 Rows.movesFewRow.domain false) (Rows.movesFewSpec.post enc Try.prog Try.f5 false true false false) := by
  refine law_lifted (C := Try.checked) own started (by kernel_rfl) Try.func5
    (ChangeSpec.witness6 (enc := enc) (C := Try.checked) false ⟨#[], #[.slice none 0 0, .int .i64 0], []⟩ 8 (by kernel_rfl) (by kernel_rfl) (by kernel_rfl) (by kernel_rfl))
    laidOut (by kernel_rfl) rfl (fun ds hds => ?_) rfl Try.underlying4 ?_
  · match ds, hds with
    | [d0, d1], _ => exact ⟨rfl, rfl, rfl⟩
  · intro W base args ds p hval hA
    obtain ⟨o, c, l, z, rfl, hr, hl⟩ := args2 (by rw [Try.params5] at hval; exact hval) (by rw [Try.params5] at hA; exact hA)
    exact Few_spec W o c l z hr hl

theorem few_holds : Rows.MovesFewSaid :=
  OpenClaim.holds_of_wide 5 Try.f5 rfl rfl rfl rfl rfl rfl rfl ⟨rfl, rfl, rfl, rfl, rfl⟩ rfl rfl rfl rfl rfl (by kernel_rfl) Try.func5 (by kernel_rfl)
    (of_decide_eq_true (by kernel_rfl)) (by unfold Func.isWrapper; first | (rw [if_pos (by decide +kernel)]; kernel_rfl) | (rw [if_neg (by decide +kernel)]; exact ⟨rfl, rfl⟩))
    (fun os started H enc _ => few_lifted os started H enc)
end Go.Proofs.Ytnebpbghkmcagaa
