/-
  MatchLastUpto: the row, proved. Conditions: none.
-/
import Derived.Test.YtcododdkjppmjaaRowLastMg7
namespace Go.Proofs.Ytcododdkjppmjaa
open Go Go.Fw Go.ChangeShapes Go.WideShapes Go.ChangeAt Go.RowKit
set_option linter.unusedVariables false

set_option maxRecDepth 100000 in
theorem last_lifted (os : Os) (started : os.Started) (H : Type) (enc : TypeId × Value → H) (F : Stop.Interp) :
    ReturnsInHanded {} Try.checked os 4 .any ((Rows.OpenSpec.upto Rows.matchLastSpec).pre6 enc Try.prog Try.f4 Rows.matchLastUptoRow.domain false) (((Rows.OpenSpec.upto Rows.matchLastSpec).at F).post enc Try.prog Try.f4 false true false false) := by
  refine law_lifted_upto (C := Try.checked) (s := Rows.matchLastSpec) (k := Rows.uptoSmall) own_ started (by kernel_rfl) Try.func4
    (OpenSpec.witness (enc := enc) (C := Try.checked) (s := Rows.OpenSpec.upto Rows.matchLastSpec) (k := Rows.uptoSmall) rfl false ⟨#[], #[.slice none 0 0, .slice none 0 0], []⟩ 8 (by kernel_rfl) (by kernel_rfl) (by kernel_rfl)
      (x := ([.nil, .nil], [], [])) (by kernel_rfl) rfl (by kernel_rfl))
    laidOut (by kernel_rfl) rfl (fun ds hds => ?_) rfl Try.underlying4 ?_
  · match ds, hds with
    | [d0, d1], _ => exact ⟨rfl, rfl, rfl⟩
  · intro W base args ds p hval hA hk
    rw [Try.params4] at hval hA
    obtain ⟨v0, vs0, d0, ds0, p0, q0, hargs, rfl, rfl, h0, r0⟩ := trodAll_cons hA
    obtain ⟨v1, vs1, d1, ds1, p1, q1, rfl, rfl, rfl, h1, r1⟩ := trodAll_cons r0
    obtain ⟨rfl, rfl, rfl⟩ := trodAll_nil r1
    obtain rfl : args = #[v0, v1] := by cases args; simp_all
    obtain ⟨o0, c0, l0, rfl, hr0⟩ := argP (hval 0 _ v0 rfl rfl) h0
    obtain ⟨o1, c1, l1, rfl, hr1⟩ := argP (hval 1 _ v1 rfl rfl) h1
    exact last_spec W o0 c0 l0 hr0 o1 c1 l1 hr1 (bulk_arg Try.underlying22 h0 (.head _) hk) (bulk_arg Try.underlying22 h1 (.tail _ (.head _)) hk)

theorem last_holds : Rows.MatchLastUptoSaid :=
  OpenClaim.holds_of_cond 4 Try.f4 rfl rfl rfl rfl rfl rfl rfl ⟨rfl, rfl, rfl, rfl, rfl⟩ rfl rfl rfl rfl rfl (by kernel_rfl) Try.func4 (by kernel_rfl)
    (of_decide_eq_true (by kernel_rfl)) (by unfold Func.isWrapper; first | (rw [if_pos (by decide +kernel)]; kernel_rfl) | (rw [if_neg (by decide +kernel)]; exact ⟨rfl, rfl⟩))
    (fun os started H enc _ F => last_lifted os started H enc F)
end Go.Proofs.Ytcododdkjppmjaa
