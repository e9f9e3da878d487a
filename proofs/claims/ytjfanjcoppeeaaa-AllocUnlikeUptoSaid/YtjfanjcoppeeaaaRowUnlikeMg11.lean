/-
  AllocUnlikeUpto: the row, proved. Conditions: none.
-/
import Derived.Test.YtjfanjcoppeeaaaRowUnlikeMg10
namespace Go.Proofs.Ytjfanjcoppeeaaa
open Go Go.Fw Go.ChangeShapes Go.WideShapes Go.ChangeAt Go.RowKit
set_option linter.unusedVariables false

set_option maxRecDepth 100000 in
theorem unlike_lifted (os : Os) (started : os.Started) (H : Type) (enc : TypeId × Value → H) (F : Stop.Interp) :
    ReturnsInHanded {} Try.checked os 6 .any ((Rows.OpenSpec.upto Rows.allocUnlikeSpec).pre6 enc Try.prog Try.f6 Rows.allocUnlikeUptoRow.domain false) (((Rows.OpenSpec.upto Rows.allocUnlikeSpec).at F).post enc Try.prog Try.f6 false true false false) := by
  refine law_lifted_upto (C := Try.checked) (s := Rows.allocUnlikeSpec) (k := Rows.uptoSmall) own_ started (by kernel_rfl) Try.func6
    (OpenSpec.witness (enc := enc) (C := Try.checked) (s := Rows.OpenSpec.upto Rows.allocUnlikeSpec) (k := Rows.uptoSmall) rfl false ⟨#[], #[.agg #[.slice none 0 0, .slice none 0 0, .slice none 0 0, .slice none 0 0, .slice none 0 0], .int .i64 0], []⟩ 8 (by kernel_rfl) (by kernel_rfl) (by kernel_rfl)
      (x := ([.agg [.nil, .nil, .nil, .nil, .nil], .lit (.int .i64 0)], [], [])) (by kernel_rfl) rfl (by kernel_rfl))
    laidOut (by kernel_rfl) rfl (fun ds hds => ?_) rfl Try.underlying4 ?_
  · match ds, hds with
    | [d0, d1], _ => exact ⟨rfl, rfl, rfl⟩
  · intro W base args ds p hval hA hk
    rw [Try.params6] at hval hA
    obtain ⟨v0, vs0, d0, ds0, p0, q0, hargs, rfl, rfl, h0, r0⟩ := trodAll_cons hA
    obtain ⟨v1, vs1, d1, ds1, p1, q1, rfl, rfl, rfl, h1, r1⟩ := trodAll_cons r0
    obtain ⟨rfl, rfl, rfl⟩ := trodAll_nil r1
    obtain rfl : args = #[v0, v1] := by cases args; simp_all
    obtain ⟨g, rfl, hg, hb⟩ := argG (hval 0 _ v0 rfl rfl) h0 (.head _) hk
    obtain ⟨k1, rfl⟩ := okWide_int Try.underlying3 (hval 1 _ v1 rfl rfl)
    exact unlike_law W g k1 hg hb

theorem unlike_holds : Rows.AllocUnlikeUptoSaid :=
  OpenClaim.holds_of_cond 6 Try.f6 rfl rfl rfl rfl rfl rfl rfl ⟨rfl, rfl, rfl, rfl, rfl⟩ rfl rfl rfl rfl rfl (by kernel_rfl) Try.func6 (by kernel_rfl)
    (of_decide_eq_true (by kernel_rfl)) (by unfold Func.isWrapper; first | (rw [if_pos (by decide +kernel)]; kernel_rfl) | (rw [if_neg (by decide +kernel)]; exact ⟨rfl, rfl⟩))
    (fun os started H enc _ F => unlike_lifted os started H enc F)
end Go.Proofs.Ytjfanjcoppeeaaa
