/-
  MovesErrs: the row, proved. Conditions: none.
-/
import Derived.Test.YtnebpbghkmcagaaRows
import Derived.Test.YtnebpbghkmcagaaWE
namespace Go.Proofs.Ytnebpbghkmcagaa
open Go Go.Fw Go.ChangeShapes Go.WideShapes Go.ChangeAt Go.RowKit
set_option linter.unusedVariables false

theorem own : ownKnob Try.prog.godebug = none := by kernel_rfl
theorem laidOut : laidOutB Try.prog = true := by kernel_rfl
/-- the two arguments of a law over moves, read -/
theorem args2 {H : Type} {enc : TypeId × Value → H} {W : World} {base : Nat} {args : Array Value} {ds : List (DataW H)} {p : List MemPlace}
    (hval : ∀ (j : Nat) t v, (#[22, 3] : Array TypeId)[j]? = some t → args[j]? = some v → Value.okWide Try.prog W .any base t v)
    (hA : DataW.TrodAll enc Try.prog W 0 (fun _ => true) true [22, 3] args.toList ds p) :
    ∃ (o : Option Addr) (c : Nat) (l : List (Int × Int)) (z : Int), args = #[.slice o l.length c, .int .i64 z] ∧ Rd W o (flat encP l) ∧ l.length ≤ 9223372036854775807 := by
  obtain ⟨v0, vs0, d0, ds0, p0, q0, hargs, rfl, rfl, h0, r0⟩ := trodAll_cons hA
  obtain ⟨v1, vs1, d1, ds1, p1, q1, rfl, rfl, rfl, h1, r1⟩ := trodAll_cons r0
  obtain ⟨rfl, rfl, rfl⟩ := trodAll_nil r1
  obtain rfl : args = #[v0, v1] := by cases args; simp_all
  obtain ⟨z, rfl, _, _, _⟩ := open_int Try.underlying3 (hval 1 3 v1 rfl rfl) h1
  obtain ⟨o, c, l, rfl, hr, hl⟩ := open_pairs Try.underlying22 Try.underlying31 (by kernel_rfl) (by kernel_rfl) Try.underlying3 Try.underlying3 (hval 0 _ v0 rfl rfl) h0
  exact ⟨o, c, l, z, rfl, hr, hl⟩

set_option maxRecDepth 100000 in
theorem errs_lifted (os : Os) (started : os.Started) (H : Type) (enc : TypeId × Value → H) :
    ReturnsInHanded {} Try.checked os 3 .any (Rows.movesErrsSpec.pre6 enc Try.prog Try.f3 Rows.movesErrsRow.domain false) (Rows.movesErrsSpec.post enc Try.prog Try.f3 false true false false) := by
  refine law_lifted (C := Try.checked) own started (by kernel_rfl) Try.func3
    (ChangeSpec.witness6 (enc := enc) (C := Try.checked) false ⟨#[], #[.slice none 0 0, .int .i64 0], []⟩ 8 (by kernel_rfl) (by kernel_rfl) (by kernel_rfl) (by kernel_rfl))
    laidOut (by kernel_rfl) rfl (fun ds hds => ?_) rfl Try.underlying4 ?_
  · match ds, hds with
    | [d0, d1], _ => exact ⟨rfl, rfl, rfl⟩
  · intro W base args ds p hval hA
    obtain ⟨o, c, l, z, rfl, hr, hl⟩ := args2 (by rw [Try.params3] at hval; exact hval) (by rw [Try.params3] at hA; exact hA)
    exact Errs_spec W o c l z hr hl

theorem errs_holds : Rows.MovesErrsSaid :=
  OpenClaim.holds_of_wide 3 Try.f3 rfl rfl rfl rfl rfl rfl rfl ⟨rfl, rfl, rfl, rfl, rfl⟩ rfl rfl rfl rfl rfl (by kernel_rfl) Try.func3 (by kernel_rfl)
    (of_decide_eq_true (by kernel_rfl)) (by unfold Func.isWrapper; first | (rw [if_pos (by decide +kernel)]; kernel_rfl) | (rw [if_neg (by decide +kernel)]; exact ⟨rfl, rfl⟩))
    (fun os started H enc _ => errs_lifted os started H enc)
end Go.Proofs.Ytnebpbghkmcagaa
