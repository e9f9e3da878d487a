/-
  What the heap's laws are handed: a number of cells and a row of calls, read. Conditions: none.
-/
import Derived.Test.YtapkfifoafgklaaHM
import Derived.Test.YtapkfifoafgklaaRows
namespace Go.Proofs.Ytapkfifoafgklaa
open Go Go.Fw Go.ChangeShapes Go.WideShapes Go.ChangeAt Go.RowKit Go.Deep
set_option linter.unusedVariables false
section
variable {H : Type} {enc : TypeId × Value → H} {P : Program} {w : World} {base : Nat} {spare : Nat → Bool} {held : Bool}
/-- a slice of structs of four numbers, read -/
theorem open_fours {t e : TypeId} {f0 f1 f2 f3 : Field} {v : Value} {d : DataW H} {p : List MemPlace} {r : Reach} {b0 : Nat} (ht : P.underlying t = some (.slice e)) (he : P.underlying e = some (.struct #[f0, f1, f2, f3]))
    (hone : oneCellFields P #[f0, f1, f2, f3] = true) (hC : P.cellsOf e = 4) (h0 : P.underlying f0.type = some (.int .i64)) (h1 : P.underlying f1.type = some (.int .i64)) (h2 : P.underlying f2.type = some (.int .i64)) (h3 : P.underlying f3.type = some (.int .u64))
    (hv : Value.okWide P w r b0 t v) (h : DataW.Trod enc P w base spare held t v d p) :
    ∃ (o : Option Addr) (c : Nat) (l : List (Int × Int × Int × Int)), v = .slice o l.length c ∧ Rd w o (flat encSt l) ∧ l.length ≤ 9223372036854775807 := by
  obtain ⟨a0, len0, cap0, rfl⟩ := okWide_slice ht hv
  obtain ⟨fuel, hf⟩ := h
  rcases open_rows ht he hone hC hf with hcs | ⟨a, len, cap, hcs, hl, hi⟩
  · simp [Value.cells] at hcs
    obtain ⟨rfl, rfl, rfl⟩ := hcs
    exact ⟨none, 0, [], rfl, ⟨fun h => absurd h (by simp [flat]), fun j u hj => by simp [flat] at hj⟩, by simp⟩
  · simp [Value.cells] at hcs
    obtain ⟨rfl, rfl, rfl⟩ := hcs
    obtain ⟨l, hll, hp⟩ := choose_list (fun i (x : Int × Int × Int × Int) => ∀ j v, (encSt x)[j]? = some v → w.cell? (a.add (i * 4 + j)) = some v) len0 (fun i hil => by
      obtain ⟨v0, y0, n0, hc0, hy0⟩ := hi i hil 0 f0 rfl
      obtain ⟨v1, y1, n1, hc1, hy1⟩ := hi i hil 1 f1 rfl
      obtain ⟨v2, y2, n2, hc2, hy2⟩ := hi i hil 2 f2 rfl
      obtain ⟨v3, y3, n3, hc3, hy3⟩ := hi i hil 3 f3 rfl
      obtain ⟨z0, e0, _⟩ := DataW.trod_int h0 hy0
      obtain ⟨z1, e1, _⟩ := DataW.trod_int h1 hy1
      obtain ⟨z2, e2, _⟩ := DataW.trod_int h2 hy2
      obtain ⟨z3, e3, _⟩ := DataW.trod_int h3 hy3
      obtain rfl : v0 = .int .i64 z0 := by simpa using e0
      obtain rfl : v1 = .int .i64 z1 := by simpa using e1
      obtain rfl : v2 = .int .i64 z2 := by simpa using e2
      obtain rfl : v3 = .int .u64 z3 := by simpa using e3
      refine ⟨(z0, z1, z2, z3), fun j v hv => ?_⟩
      match j, hv with
      | 0, hv => obtain rfl := Option.some.inj hv; exact hc0
      | 1, hv => obtain rfl := Option.some.inj hv; exact hc1
      | 2, hv => obtain rfl := Option.some.inj hv; exact hc2
      | 3, hv => obtain rfl := Option.some.inj hv; exact hc3
      | j + 4, hv => cases hv)
    subst hll
    refine ⟨some a, cap0, l, rfl, ?_, by unfold maxLen at hl; omega⟩
    cases l with
    | nil => exact ⟨fun h => absurd h (by simp [flat]), fun j u hj => by simp [flat] at hj⟩
    | cons x0 l0 =>
      obtain ⟨b, off, spot⟩ := a
      have hspot : spot = none := by simpa [Addr.add] using World.cell?_spot (hp 0 x0 rfl 0 _ rfl)
      subst hspot
      refine ⟨fun _ => ⟨b, off, rfl⟩, fun j u hj => ?_⟩
      have hjl := (List.getElem?_eq_some_iff.1 hj).1
      rw [flat_length encSt_len] at hjl
      have hadd : ∀ k, (⟨b, off, none⟩ : Addr).add k = sat (some ⟨b, off, none⟩) k := fun k => by
        simp only [sat, blkO, offO, Addr.add]
        split <;> simp_all
      obtain ⟨x, hx⟩ : ∃ x, (x0 :: l0)[j / 4]? = some x := ⟨_, List.getElem?_eq_getElem (by omega)⟩
      obtain ⟨v, hv⟩ : ∃ v, (encSt x)[j % 4]? = some v := ⟨_, List.getElem?_eq_getElem (by rw [encSt_len]; omega)⟩
      have h4 := hp _ _ hx _ _ hv
      have h5 := flat_get encSt_len hx hv
      rw [show j / 4 * 4 + j % 4 = j by omega] at h4 h5
      rw [h5] at hj
      obtain rfl := Option.some.inj hj
      rw [← hadd]
      exact h4
end
section
variable {H : Type} {enc : TypeId × Value → H}
theorem argSt {W : World} {base : Nat} {v : Value} {d : DataW H} {p : List MemPlace} {held : Bool} (hv : Value.okWide Try.prog W .any base 22 v) (h : DataW.Trod enc Try.prog W 0 (fun _ => true) held 22 v d p) :
    ∃ (o : Option Addr) (c : Nat) (l : List (Int × Int × Int × Int)), v = .slice o l.length c ∧ Rd W o (flat encSt l) ∧ l.length ≤ 9223372036854775807 :=
  open_fours Try.underlying22 Try.underlying32 (by kernel_rfl) (by kernel_rfl) Try.underlying3 Try.underlying3 Try.underlying3 Try.underlying30 hv h
theorem own_ : ownKnob Try.prog.godebug = none := by kernel_rfl
theorem laidOut : laidOutB Try.prog = true := by kernel_rfl
end
end Go.Proofs.Ytapkfifoafgklaa
