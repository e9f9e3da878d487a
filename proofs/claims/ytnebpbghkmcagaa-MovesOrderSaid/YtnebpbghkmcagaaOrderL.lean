/-
  MovesOrder: the row, proved. Conditions: none.
-/
import Derived.Test.YtnebpbghkmcagaaRows
import Derived.Test.YtnebpbghkmcagaaErrs
import Derived.Test.YtnebpbghkmcagaaWL
namespace Go.Proofs.Ytnebpbghkmcagaa
open Go Go.Fw Go.ChangeShapes Go.WideShapes Go.ChangeAt Go.RowKit
set_option linter.unusedVariables false

/-- the three arguments of a law over moves, read -/
theorem args3 {H : Type} {enc : TypeId × Value → H} {W : World} {base : Nat} {args : Array Value} {ds : List (DataW H)} {p : List MemPlace}
    (hval : ∀ (j : Nat) t v, (#[22, 3, 3] : Array TypeId)[j]? = some t → args[j]? = some v → Value.okWide Try.prog W .any base t v)
    (hA : DataW.TrodAll enc Try.prog W 0 (fun _ => true) true [22, 3, 3] args.toList ds p) :
    ∃ (o : Option Addr) (c : Nat) (l : List (Int × Int)) (z y : Int), args = #[.slice o l.length c, .int .i64 z, .int .i64 y] ∧ Rd W o (flat encP l) ∧ l.length ≤ 9223372036854775807 ∧ l.length ≤ c := by
  obtain ⟨v0, vs0, d0, ds0, p0, q0, hargs, rfl, rfl, h0, r0⟩ := trodAll_cons hA
  obtain ⟨v1, vs1, d1, ds1, p1, q1, rfl, rfl, rfl, h1, r1⟩ := trodAll_cons r0
  obtain ⟨v2, vs2, d2, ds2, p2, q2, rfl, rfl, rfl, h2, r2⟩ := trodAll_cons r1
  obtain ⟨rfl, rfl, rfl⟩ := trodAll_nil r2
  obtain rfl : args = #[v0, v1, v2] := by cases args; simp_all
  obtain ⟨z, rfl, _, _, _⟩ := open_int Try.underlying3 (hval 1 3 v1 rfl rfl) h1
  obtain ⟨y, rfl, _, _, _⟩ := open_int Try.underlying3 (hval 2 3 v2 rfl rfl) h2
  obtain ⟨o, c, l, rfl, hr, hl⟩ := open_pairs Try.underlying22 Try.underlying31 (by kernel_rfl) (by kernel_rfl) Try.underlying3 Try.underlying3 (hval 0 _ v0 rfl rfl) h0
  exact ⟨o, c, l, z, y, rfl, hr, hl, slice_cap Try.underlying22 h0⟩

set_option maxRecDepth 100000 in
theorem orderl_lifted (os : Os) (started : os.Started) (H : Type) (enc : TypeId × Value → H) :
    ReturnsInHanded {} Try.checked os 6 .any (Rows.movesOrderSpec.pre6 enc Try.prog Try.f6 Rows.movesOrderRow.domain false) (Rows.movesOrderSpec.post enc Try.prog Try.f6 false true false false) := by
  refine law_lifted (C := Try.checked) own started (by kernel_rfl) Try.func6
    (ChangeSpec.witness6 (enc := enc) (C := Try.checked) false ⟨#[], #[.slice none 0 0, .int .i64 0, .int .i64 0], []⟩ 8 (by kernel_rfl) (by kernel_rfl) (by kernel_rfl) (by kernel_rfl))
    laidOut (by kernel_rfl) rfl (fun ds hds => ?_) rfl Try.underlying4 ?_
  · match ds, hds with
    | [d0, d1, d2], _ => exact ⟨rfl, rfl, rfl⟩
  · intro W base args ds p hval hA
    obtain ⟨o, c, l, z, y, rfl, hr, hl, hc⟩ := args3 (by rw [Try.params6] at hval; exact hval) (by rw [Try.params6] at hA; exact hA)
    exact OrderL_spec W o c l z y hr hl hc

theorem orderl_holds : Rows.MovesOrderSaid :=
  OpenClaim.holds_of_wide 6 Try.f6 rfl rfl rfl rfl rfl rfl rfl ⟨rfl, rfl, rfl, rfl, rfl⟩ rfl rfl rfl rfl rfl (by kernel_rfl) Try.func6 (by kernel_rfl)
    (of_decide_eq_true (by kernel_rfl)) (by unfold Func.isWrapper; first | (rw [if_pos (by decide +kernel)]; kernel_rfl) | (rw [if_neg (by decide +kernel)]; exact ⟨rfl, rfl⟩))
    (fun os started H enc _ => orderl_lifted os started H enc)
end Go.Proofs.Ytnebpbghkmcagaa
