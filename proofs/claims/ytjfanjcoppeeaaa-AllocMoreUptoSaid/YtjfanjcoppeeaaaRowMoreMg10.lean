/-
  AllocMoreUpto: the row, proved. Conditions: none.
-/
import Derived.Test.YtjfanjcoppeeaaaRowMoreMg9
namespace Go.Proofs.Ytjfanjcoppeeaaa
open Go Go.Fw Go.ChangeShapes Go.WideShapes Go.ChangeAt Go.RowKit
set_option linter.unusedVariables false

set_option maxRecDepth 100000 in
theorem more_lifted (os : Os) (started : os.Started) (H : Type) (enc : TypeId × Value → H) (F : Stop.Interp) :
    ReturnsInHanded {} Try.checked os 7 .any ((Rows.OpenSpec.upto Rows.allocMoreSpec).pre6 enc Try.prog Try.f7 Rows.allocMoreUptoRow.domain false) (((Rows.OpenSpec.upto Rows.allocMoreSpec).at F).post enc Try.prog Try.f7 false true false false) := by
  refine law_lifted_upto (C := Try.checked) (s := Rows.allocMoreSpec) (k := Rows.uptoSmall) own_ started (by kernel_rfl) Try.func7
    (OpenSpec.witness (enc := enc) (C := Try.checked) (s := Rows.OpenSpec.upto Rows.allocMoreSpec) (k := Rows.uptoSmall) rfl false ⟨#[], #[.agg #[.slice none 0 0, .slice none 0 0, .slice none 0 0, .slice none 0 0, .slice none 0 0], .int .i64 0, .int .i64 0, .int .u8 0], []⟩ 8 (by kernel_rfl) (by kernel_rfl) (by kernel_rfl)
      (x := ([.agg [.nil, .nil, .nil, .nil, .nil], .lit (.int .i64 0), .lit (.int .i64 0), .lit (.int .u8 0)], [], [])) (by kernel_rfl) rfl (by kernel_rfl))
    laidOut (by kernel_rfl) rfl (fun ds hds => ?_) rfl Try.underlying4 ?_
  · match ds, hds with
    | [d0, d1, d2, d3], _ => exact ⟨rfl, rfl, rfl⟩
  · intro W base args ds p hval hA hk
    rw [Try.params7] at hval hA
    obtain ⟨v0, vs0, d0, ds0, p0, q0, hargs, rfl, rfl, h0, r0⟩ := trodAll_cons hA
    obtain ⟨v1, vs1, d1, ds1, p1, q1, rfl, rfl, rfl, h1, r1⟩ := trodAll_cons r0
    obtain ⟨v2, vs2, d2, ds2, p2, q2, rfl, rfl, rfl, h2, r2⟩ := trodAll_cons r1
    obtain ⟨v3, vs3, d3, ds3, p3, q3, rfl, rfl, rfl, h3, r3⟩ := trodAll_cons r2
    obtain ⟨rfl, rfl, rfl⟩ := trodAll_nil r3
    obtain rfl : args = #[v0, v1, v2, v3] := by cases args; simp_all
    obtain ⟨g, rfl, hg, hb⟩ := argG (hval 0 _ v0 rfl rfl) h0 (.head _) hk
    obtain ⟨k1, rfl⟩ := okWide_int Try.underlying3 (hval 1 _ v1 rfl rfl)
    obtain ⟨k2, rfl⟩ := okWide_int Try.underlying3 (hval 2 _ v2 rfl rfl)
    obtain ⟨m, rfl, hm⟩ := argU8 (hval 3 _ v3 rfl rfl) h3
    exact more_law W g k1 k2 m hg hb hm

theorem more_holds : Rows.AllocMoreUptoSaid :=
  OpenClaim.holds_of_cond 7 Try.f7 rfl rfl rfl rfl rfl rfl rfl ⟨rfl, rfl, rfl, rfl, rfl⟩ rfl rfl rfl rfl rfl (by kernel_rfl) Try.func7 (by kernel_rfl)
    (of_decide_eq_true (by kernel_rfl)) (by unfold Func.isWrapper; first | (rw [if_pos (by decide +kernel)]; kernel_rfl) | (rw [if_neg (by decide +kernel)]; exact ⟨rfl, rfl⟩))
    (fun os started H enc _ F => more_lifted os started H enc F)
end Go.Proofs.Ytjfanjcoppeeaaa
