/-
  DomTree: the row, proved. Conditions: none.
-/
import Derived.Test.YtkhhcodpggnchaaRows
import Derived.Test.YtkhhcodpggnchaaWI
namespace Go.Proofs.Ytkhhcodpggnchaa
open Go Go.Fw Go.ChangeShapes Go.WideShapes Go.ChangeAt Go.RowKit
set_option linter.unusedVariables false

theorem own_ : ownKnob Try.prog.godebug = none := by kernel_rfl
theorem laidOut : laidOutB Try.prog = true := by kernel_rfl
/-- a graph that is handed in first, and ints behind it, read -/
theorem argG {H : Type} {enc : TypeId × Value → H} {W : World} {base : Nat} {v : Value} {d : DataW H} {p : List MemPlace} (hv : Value.okWide Try.prog W .any base 22 v)
    (h : DataW.Trod enc Try.prog W 0 (fun _ => true) true 22 v d p) (hz : Szd Try.prog 22 d) : ∃ o c ds next, v = .slice o (List.length next) c ∧ In W o c ds next := by
  obtain ⟨o, c, ds, next, rfl, h1, h2, h3, h4, h5⟩ := open_lists Try.underlying22 Try.underlying25 Try.underlying3 (by kernel_rfl) (by kernel_rfl) (by kernel_rfl) (by kernel_rfl) hv h hz
  exact ⟨o, c, ds, next, rfl, h1, h2, h4, h5, h3⟩

set_option maxRecDepth 100000 in
theorem tree_lifted (os : Os) (started : os.Started) (H : Type) (enc : TypeId × Value → H) :
    ReturnsInHanded {} Try.checked os 3 .any (Rows.domTreeSpec.pre6 enc Try.prog Try.f3 Rows.domTreeRow.domain false) (Rows.domTreeSpec.post enc Try.prog Try.f3 false true false false) := by
  refine law_lifted_sized (C := Try.checked) own_ started (by kernel_rfl) Try.func3
    (ChangeSpec.witness6 (enc := enc) (C := Try.checked) false ⟨#[], #[.slice none 0 0], []⟩ 8 (by kernel_rfl) (by kernel_rfl) (by kernel_rfl) (by kernel_rfl))
    laidOut (by kernel_rfl) rfl (fun ds hds => ?_) rfl Try.underlying4 ?_
  · match ds, hds with
    | [d0], _ => exact ⟨rfl, rfl, rfl⟩
  · intro W base args ds p hval hA hz
    rw [Try.params3] at hval hA hz
    obtain ⟨v0, vs0, d0, ds0, p0, q0, hargs, rfl, rfl, h0, r0⟩ := trodAll_cons hA
    obtain ⟨rfl, rfl, rfl⟩ := trodAll_nil r0
    obtain rfl : args = #[v0] := by cases args; simp_all
    obtain ⟨o, c, ds, next, rfl, hI⟩ := argG (hval 0 _ v0 rfl rfl) h0 (hz 0 _ _ rfl rfl)
    exact DomTree_spec W o c ds next hI

theorem tree_holds : Rows.DomTreeSaid :=
  OpenClaim.holds_of_wide 3 Try.f3 rfl rfl rfl rfl rfl rfl rfl ⟨rfl, rfl, rfl, rfl, rfl⟩ rfl rfl rfl rfl rfl (by kernel_rfl) Try.func3 (by kernel_rfl)
    (of_decide_eq_true (by kernel_rfl)) (by unfold Func.isWrapper; first | (rw [if_pos (by decide +kernel)]; kernel_rfl) | (rw [if_neg (by decide +kernel)]; exact ⟨rfl, rfl⟩))
    (fun os started H enc _ => tree_lifted os started H enc)
end Go.Proofs.Ytkhhcodpggnchaa
