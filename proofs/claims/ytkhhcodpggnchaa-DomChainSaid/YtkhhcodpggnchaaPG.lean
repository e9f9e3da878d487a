/-
  What the law asks of the trees (plain law). Conditions: none.
-/
import Derived.Test.YtkhhcodpggnchaaWI
namespace Go.Proofs.Ytkhhcodpggnchaa
open Go Go.Fw
set_option linter.unusedVariables false
section
variable {next : List (List Int)} {t : List Int}
theorem rows_ok (h : errF next = 0) (hll : ∀ l ∈ next, l.length ≤ 140737488355328) : next.length ≤ 4096 ∧ sumL next ≤ 65536 ∧ edgesF next = sumL next ∧ ∀ l ∈ next, l.length ≤ 65536 := by
  obtain ⟨h1, h2⟩ := errF_small h
  have h3 := edgesF_sum next h1 hll
  rw [h3] at h2
  exact ⟨h1, by omega, h3, fun l hl => Nat.le_trans (sumL_row hl) (by omega)⟩
theorem rules_eq (hg : Good next) (ht : TreeOk next t) {a b : Nat} {v : Bool} (h : v = true ↔ Dm next a b) : rulesF t a b = v := by
  have h1 := rules_nat hg ht a b
  cases v with
  | true => exact h1.2 (h.1 rfl)
  | false =>
    cases hr : rulesF t a b with
    | false => rfl
    | true => exact absurd (h.2 (h1.1 hr)) (by decide)
theorem rules_out (hg : Good next) (ht : TreeOk next t) {x y : Int} (h : ¬ (0 ≤ x ∧ 0 ≤ y ∧ x < (next.length : Int) ∧ y < (next.length : Int))) : rulesF t x y = false := by
  cases hr : rulesF t x y with
  | false => rfl
  | true =>
    obtain ⟨a, b, rfl, rfl, hd⟩ := (rules_ok hg ht x y).1 hr
    have := hd.1.lt hg
    have := hd.2.1.lt hg
    exact absurd ⟨by omega, by omega, by omega, by omega⟩ h
theorem large_small {n : Nat} (h : largeF next = false) (h60 : next.length ≤ 60) (he : errF next = 0) : edgesF next ≤ 2000 := by
  have h2 := (errF_small he).2
  rcases (by omega : 2000 < edgesF next ∨ edgesF next ≤ 2000) with h3 | h3
  · have : largeF next = true := by unfold largeF; exact decide_eq_true ⟨.inr h3, by omega, h2⟩
    rw [h] at this; cases this
  · exact h3
/-! an edge more -/
variable {f : Nat} {r : List Int} {y : Int}
theorem sumL_set (hr : next[f]? = some r) : sumL (next.set f (r ++ [y])) = sumL next + 1 := by
  induction next generalizing f with
  | nil => simp at hr
  | cons x l ih =>
    cases f with
    | zero =>
      obtain rfl : x = r := by simpa using hr
      simp [sumL]; omega
    | succ f =>
      have := ih (f := f) (by simpa using hr)
      simp only [List.set_cons_succ, sumL, List.map_cons, List.sum_cons] at this ⊢
      omega
theorem ed_more (hr : next[f]? = some r) {a b : Nat} (h : Ed next a b) : Ed (next.set f (r ++ [y])) a b := by
  obtain ⟨l, hl, hb⟩ := h
  by_cases haf : f = a
  · subst haf
    rw [hr] at hl
    obtain rfl := Option.some.inj hl
    exact ⟨r ++ [y], List.getElem?_set_self (List.getElem?_eq_some_iff.1 hr).1, List.mem_append_left _ hb⟩
  · exact ⟨l, by rw [List.getElem?_set_ne haf]; exact hl, hb⟩
theorem rc_more (hr : next[f]? = some r) {wo : Int} {b : Nat} (h : Rc next wo b) : Rc (next.set f (r ++ [y])) wo b := by
  obtain ⟨k, hk⟩ := h
  refine ⟨k, ?_⟩
  induction hk with
  | z h0 hw => exact .z (by simpa using h0) hw
  | s _ he hw ih => exact .s ih (ed_more hr he) hw
theorem dm_more (hr : next[f]? = some r) {a b : Nat} (h : Dm (next.set f (r ++ [y])) a b) (hb : Rc next (-1) b) : Dm next a b := by
  rcases h.2.2 with rfl | h1
  · exact Dm.refl hb
  have h2 : ¬ Rc next (a : Int) b := fun h => h1 (rc_more hr h)
  refine ⟨?_, hb, .inr h2⟩
  obtain ⟨k, hk⟩ := hb
  rcases hk.split a with hs | ⟨j, hj, _⟩
  · exact absurd ⟨k, hs⟩ h2
  · exact ⟨j, hj⟩
theorem good_more (hg : Good next) (hr : next[f]? = some r) (h0 : 0 ≤ y) (hy : y < (next.length : Int)) : Good (next.set f (r ++ [y])) := by
  intro l hl x hx
  rw [List.length_set]
  rcases List.mem_or_eq_of_mem_set hl with h | rfl
  · exact hg l h x hx
  · rcases List.mem_append.1 hx with hx | hx
    · exact hg r (List.mem_of_getElem? hr) x hx
    · obtain rfl : x = y := by simpa using hx
      exact ⟨h0, hy⟩
theorem err_more (he : errF next = 0) (hll : ∀ l ∈ next, l.length ≤ 140737488355328) (hs : edgesF next ≤ 2000) (hr : next[f]? = some r) (h0 : 0 ≤ y) (hy : y < (next.length : Int)) :
    errF (next.set f (r ++ [y])) = 0 ∧ ∀ l ∈ next.set f (r ++ [y]), l.length ≤ 65536 := by
  obtain ⟨h1, h2, h3, h4⟩ := rows_ok he hll
  have h5 : sumL (next.set f (r ++ [y])) = sumL next + 1 := sumL_set hr
  have h6 : ∀ l ∈ next.set f (r ++ [y]), l.length ≤ 65536 := fun l hl => by
    have := sumL_row hl
    omega
  have h7 := edgesF_sum (next.set f (r ++ [y])) (by simpa using h1) (fun l hl => by have := h6 l hl; omega)
  refine ⟨errF_ok ?_ (good_more (errF_good he) hr h0 hy), h6⟩
  rw [h7, h5, List.length_set]
  omega
end
end Go.Proofs.Ytkhhcodpggnchaa
