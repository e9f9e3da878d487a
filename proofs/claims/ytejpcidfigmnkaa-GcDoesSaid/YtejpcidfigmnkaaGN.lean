/-
  What the collector's laws are handed: rows of words, rows of calls, read. Conditions: none.
-/
import Derived.Test.YtejpcidfigmnkaaGQ
import Derived.Test.YtejpcidfigmnkaaRows
import Derived.ChangeSlices
namespace Go.Proofs.Ytejpcidfigmnkaa
open Go Go.Fw Go.ChangeShapes Go.WideShapes Go.ChangeAt Go.RowKit Go.Deep
set_option linter.unusedVariables false
section
variable {H : Type} {enc : TypeId × Value → H} {P : Program} {w : World} {base : Nat} {spare : Nat → Bool} {held : Bool}
/-- a slice of words, read -/
theorem words_of {t e : TypeId} {v : Value} {fuel : Nat} {x : DataW H × List MemPlace} (ht : P.underlying t = some (.slice e)) (he : P.underlying e = some (.int .u64)) (hc : P.cellsOf e = 1) (h : DataW.trod enc P w base spare held fuel t [v] = some x) :
    ∃ (o : Option Addr) (c : Nat) (l : List Int), v = .slice o l.length c ∧ Rd w o (flat encW l) ∧ (∀ x ∈ l, U x) ∧ l.length ≤ maxLen ∧ l.length ≤ c := by
  rcases open_ints ht he hc h with ⟨hcs, hx⟩ | ⟨a, len, cap, zs, hcs, hb, hl, hm, hlen, hx, hcell, hwf⟩
  · simp at hcs
    subst hcs
    exact ⟨none, 0, [], rfl, ⟨fun h => absurd h (by simp [flat]), fun j u hj => by simp [flat] at hj⟩, fun x hx => absurd hx (List.not_mem_nil), Nat.zero_le _, Nat.le_refl _⟩
  · simp at hcs
    subst hcs
    have hle : len ≤ zs.length := by rw [hlen]; split <;> omega
    have hll : (zs.take len).length = len := by rw [List.length_take]; omega
    refine ⟨some a, cap, zs.take len, by rw [hll], ?_, fun x hx => ?_, by rw [hll]; omega, by rw [hll]; exact hl⟩
    · by_cases h0 : len = 0
      · subst h0
        exact ⟨fun h => absurd h (by simp [flat]), fun j u hj => by simp [flat] at hj⟩
      have hspot : a.spot = none := by simpa [Addr.add] using World.cell?_spot (hcell 0 (by omega))
      refine ⟨fun _ => ⟨a.block, a.off, by rw [← hspot]⟩, fun j u hj => ?_⟩
      have hjl := (List.getElem?_eq_some_iff.1 hj).1
      rw [flat_length encW_len, hll, Nat.mul_one] at hjl
      have hd : (zs.take len)[j]? = some (zs.getD j 0) := by
        rw [List.getElem?_take_of_lt (by omega)]
        simp [List.getD, List.getElem?_eq_getElem (show j < zs.length by omega)]
      have h5 : (flat encW (zs.take len))[j * 1]? = some (.int .u64 (zs.getD j 0)) := flat_get0 encW_len hd rfl
      rw [Nat.mul_one] at h5
      rw [h5] at hj
      obtain rfl := Option.some.inj hj
      rw [← add_sat a hspot]
      exact hcell j (by omega)
    · have := hwf x (List.mem_of_mem_take hx)
      simp only [Lit.wf, Bool.and_eq_true, decide_eq_true_eq] at this
      have h1 : IntKind.u64.min = 0 := by decide
      have h2 : IntKind.u64.max = 18446744073709551615 := by decide
      rw [h1, h2] at this
      exact ⟨this.1, by omega⟩
/-- a slice of structs of three numbers, a word, words, read -/
theorem open_steps {t e tw : TypeId} {f0 f1 f2 f3 f4 : Field} {v : Value} {d : DataW H} {p : List MemPlace} {r : Reach} {b0 : Nat} (ht : P.underlying t = some (.slice e)) (he : P.underlying e = some (.struct #[f0, f1, f2, f3, f4]))
    (hone : oneCellFields P #[f0, f1, f2, f3, f4] = true) (hC : P.cellsOf e = 5) (h0 : P.underlying f0.type = some (.int .i64)) (h1 : P.underlying f1.type = some (.int .i64)) (h2 : P.underlying f2.type = some (.int .i64)) (h3 : P.underlying f3.type = some (.int .u64))
    (h4 : P.underlying f4.type = some (.slice tw)) (h5 : P.underlying tw = some (.int .u64)) (h6 : P.cellsOf tw = 1) (hv : Value.okWide P w r b0 t v) (h : DataW.Trod enc P w base spare held t v d p) :
    ∃ (o : Option Addr) (c : Nat) (l : List (St5 × List Int)), v = .slice o (l.map (·.1)).length c ∧ Rd w o (flat encS5 (l.map (·.1))) ∧ (l.map (·.1)).length ≤ 9223372036854775807 ∧
      ∀ x ∈ l, U x.1.1.2.2.2 ∧ x.1.2.2.1 = x.2.length ∧ Rd w x.1.2.1 (flat encW x.2) ∧ (∀ y ∈ x.2, U y) ∧ x.2.length ≤ maxLen := by
  obtain ⟨a0, len0, cap0, rfl⟩ := okWide_slice ht hv
  obtain ⟨fuel, hf⟩ := h
  rcases open_rows ht he hone hC hf with hcs | ⟨a, len, cap, hcs, hl, hi⟩
  · simp [Value.cells] at hcs
    obtain ⟨rfl, rfl, rfl⟩ := hcs
    exact ⟨none, 0, [], rfl, ⟨fun h => absurd h (by simp [flat]), fun j u hj => by simp [flat] at hj⟩, by simp, fun x hx => absurd hx (List.not_mem_nil)⟩
  · simp [Value.cells] at hcs
    obtain ⟨rfl, rfl, rfl⟩ := hcs
    obtain ⟨l, hll, hp⟩ := choose_list (fun i (x : St5 × List Int) => (∀ j v, (encS5 x.1)[j]? = some v → w.cell? (a.add (i * 5 + j)) = some v) ∧ U x.1.1.2.2.2 ∧ x.1.2.2.1 = x.2.length ∧ Rd w x.1.2.1 (flat encW x.2) ∧ (∀ y ∈ x.2, U y) ∧ x.2.length ≤ maxLen) len0 (fun i hil => by
      obtain ⟨v0, y0, n0, hc0, hy0⟩ := hi i hil 0 f0 rfl
      obtain ⟨v1, y1, n1, hc1, hy1⟩ := hi i hil 1 f1 rfl
      obtain ⟨v2, y2, n2, hc2, hy2⟩ := hi i hil 2 f2 rfl
      obtain ⟨v3, y3, n3, hc3, hy3⟩ := hi i hil 3 f3 rfl
      obtain ⟨v4, y4, n4, hc4, hy4⟩ := hi i hil 4 f4 rfl
      obtain ⟨z0, e0, _⟩ := DataW.trod_int h0 hy0
      obtain ⟨z1, e1, _⟩ := DataW.trod_int h1 hy1
      obtain ⟨z2, e2, _⟩ := DataW.trod_int h2 hy2
      obtain ⟨z3, e3, -, hw3⟩ := DataW.trod_int h3 hy3
      obtain ⟨o4, c4, l4, rfl, hr4, hu4, hl4, -⟩ := words_of h4 h5 h6 hy4
      obtain rfl : v0 = .int .i64 z0 := by simpa using e0
      obtain rfl : v1 = .int .i64 z1 := by simpa using e1
      obtain rfl : v2 = .int .i64 z2 := by simpa using e2
      obtain rfl : v3 = .int .u64 z3 := by simpa using e3
      simp only [Lit.wf, Bool.and_eq_true, decide_eq_true_eq] at hw3
      have m1 : IntKind.u64.min = 0 := by decide
      have m2 : IntKind.u64.max = 18446744073709551615 := by decide
      rw [m1, m2] at hw3
      refine ⟨(((z0, z1, z2, z3), (o4, l4.length, c4)), l4), fun j v hv => ?_, ⟨hw3.1, by dsimp only; omega⟩, rfl, hr4, hu4, hl4⟩
      match j, hv with
      | 0, hv => obtain rfl := Option.some.inj hv; exact hc0
      | 1, hv => obtain rfl := Option.some.inj hv; exact hc1
      | 2, hv => obtain rfl := Option.some.inj hv; exact hc2
      | 3, hv => obtain rfl := Option.some.inj hv; exact hc3
      | 4, hv => obtain rfl := Option.some.inj hv; exact hc4
      | j + 5, hv => cases hv)
    subst hll
    refine ⟨some a, cap0, l, by rw [List.length_map], ?_, by rw [List.length_map]; unfold maxLen at hl; omega, fun x hx => ?_⟩
    rotate_left
    · obtain ⟨i, hi⟩ := List.getElem?_of_mem hx
      exact (hp i x hi).2
    cases l with
    | nil => exact ⟨fun h => absurd h (by simp [flat]), fun j u hj => by simp [flat] at hj⟩
    | cons x0 l0 =>
      obtain ⟨b, off, spot⟩ := a
      have hspot : spot = none := by simpa [Addr.add] using World.cell?_spot ((hp 0 x0 rfl).1 0 _ rfl)
      subst hspot
      refine ⟨fun _ => ⟨b, off, rfl⟩, fun j u hj => ?_⟩
      have hjl := (List.getElem?_eq_some_iff.1 hj).1
      rw [flat_length encS5_len, List.length_map] at hjl
      have hadd : ∀ k, (⟨b, off, none⟩ : Addr).add k = sat (some ⟨b, off, none⟩) k := fun k => by
        simp only [sat, blkO, offO, Addr.add]
        split <;> simp_all
      obtain ⟨x, hx⟩ : ∃ x, (x0 :: l0)[j / 5]? = some x := ⟨_, List.getElem?_eq_getElem (by omega)⟩
      obtain ⟨v, hv⟩ : ∃ v, (encS5 x.1)[j % 5]? = some v := ⟨_, List.getElem?_eq_getElem (by rw [encS5_len]; omega)⟩
      have h7 := (hp _ _ hx).1 _ _ hv
      have hxm : ((x0 :: l0).map (·.1))[j / 5]? = some x.1 := by rw [List.getElem?_map, hx]; rfl
      have h8 := flat_get encS5_len hxm hv
      rw [show j / 5 * 5 + j % 5 = j by omega] at h7 h8
      rw [h8] at hj
      obtain rfl := Option.some.inj hj
      rw [← hadd]
      exact h7
end
section
variable {H : Type} {enc : TypeId × Value → H}
theorem argS5 {W : World} {base : Nat} {v : Value} {d : DataW H} {p : List MemPlace} {held : Bool} (hv : Value.okWide Try.prog W .any base 22 v) (h : DataW.Trod enc Try.prog W 0 (fun _ => true) held 22 v d p) :
    ∃ (o : Option Addr) (c : Nat) (l : List (St5 × List Int)), v = .slice o (l.map (·.1)).length c ∧ Rd W o (flat encS5 (l.map (·.1))) ∧ (l.map (·.1)).length ≤ 9223372036854775807 ∧
      ∀ x ∈ l, U x.1.1.2.2.2 ∧ x.1.2.2.1 = x.2.length ∧ Rd W x.1.2.1 (flat encW x.2) ∧ (∀ y ∈ x.2, U y) ∧ x.2.length ≤ maxLen :=
  open_steps Try.underlying22 Try.underlying36 (by kernel_rfl) (by kernel_rfl) Try.underlying3 Try.underlying3 Try.underlying3 Try.underlying33 Try.underlying34 Try.underlying33 (by kernel_rfl) hv h
theorem argW {W : World} {base : Nat} {v : Value} {d : DataW H} {p : List MemPlace} {held : Bool} (hv : Value.okWide Try.prog W .any base 34 v) (h : DataW.Trod enc Try.prog W 0 (fun _ => true) held 34 v d p) :
    ∃ (o : Option Addr) (c : Nat) (l : List Int), v = .slice o l.length c ∧ Rd W o (flat encW l) ∧ (∀ x ∈ l, U x) ∧ l.length ≤ maxLen := by
  obtain ⟨a0, len0, cap0, rfl⟩ := okWide_slice Try.underlying34 hv
  obtain ⟨fuel, hf⟩ := h
  obtain ⟨o, c, l, h1, h2, h3, h4, -⟩ := words_of (v := .slice a0 len0 cap0) Try.underlying34 Try.underlying33 (by kernel_rfl) hf
  exact ⟨o, c, l, h1, h2, h3, h4⟩
theorem own_ : ownKnob Try.prog.godebug = none := by kernel_rfl
theorem laidOut : laidOutB Try.prog = true := by kernel_rfl
theorem s5U {W : World} {l : List (St5 × List Int)} (h : ∀ x ∈ l, U x.1.1.2.2.2 ∧ x.1.2.2.1 = x.2.length ∧ Rd W x.1.2.1 (flat encW x.2) ∧ (∀ y ∈ x.2, U y) ∧ x.2.length ≤ maxLen) : ∀ x ∈ l.map (·.1), U x.1.2.2.2 := fun x hx => by
  obtain ⟨y, hy, rfl⟩ := List.mem_map.1 hx
  exact (h y hy).1
end
end Go.Proofs.Ytejpcidfigmnkaa
