/-
  MovesRound: the row, proved. Conditions: none.
-/
import Derived.Test.YtnebpbghkmcagaaRows
import Derived.Test.YtnebpbghkmcagaaErrs
import Derived.Test.YtnebpbghkmcagaaWK
namespace Go.Proofs.Ytnebpbghkmcagaa
open Go Go.Fw Go.ChangeShapes Go.WideShapes Go.ChangeAt Go.RowKit
set_option linter.unusedVariables false

set_option maxRecDepth 100000 in
theorem round_lifted (os : Os) (started : os.Started) (H : Type) (enc : TypeId × Value → H) :
    ReturnsInHanded {} Try.checked os 7 .any (Rows.movesRoundSpec.pre6 enc Try.prog Try.f7 Rows.movesRoundRow.domain false) (Rows.movesRoundSpec.post enc Try.prog Try.f7 false true false false) := by
  refine law_lifted (C := Try.checked) own started (by kernel_rfl) Try.func7
    (ChangeSpec.witness6 (enc := enc) (C := Try.checked) false ⟨#[], #[.slice none 0 0, .int .i64 0], []⟩ 8 (by kernel_rfl) (by kernel_rfl) (by kernel_rfl) (by kernel_rfl))
    laidOut (by kernel_rfl) rfl (fun ds hds => ?_) rfl Try.underlying4 ?_
  · match ds, hds with
    | [d0, d1], _ => exact ⟨rfl, rfl, rfl⟩
  · intro W base args ds p hval hA
    obtain ⟨o, c, l, z, rfl, hr, hl⟩ := args2 (by rw [Try.params7] at hval; exact hval) (by rw [Try.params7] at hA; exact hA)
    exact Round_spec W o c l z hr hl

theorem round_holds : Rows.MovesRoundSaid :=
  OpenClaim.holds_of_wide 7 Try.f7 rfl rfl rfl rfl rfl rfl rfl ⟨rfl, rfl, rfl, rfl, rfl⟩ rfl rfl rfl rfl rfl (by kernel_rfl) Try.func7 (by kernel_rfl)
    (of_decide_eq_true (by kernel_rfl)) (by unfold Func.isWrapper; first | (rw [if_pos (by decide +kernel)]; kernel_rfl) | (rw [if_neg (by decide +kernel)]; exact ⟨rfl, rfl⟩))
    (fun os started H enc _ => round_lifted os started H enc)
end Go.Proofs.Ytnebpbghkmcagaa
