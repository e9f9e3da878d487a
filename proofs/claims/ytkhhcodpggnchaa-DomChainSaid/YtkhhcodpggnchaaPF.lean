/-
  What Rules tells of a right tree; the two graphs that the law looks at first (plain law). Conditions: none.
-/
import Derived.Test.YtkhhcodpggnchaaWG
namespace Go.Proofs.Ytkhhcodpggnchaa
set_option linter.unusedVariables false
section
variable {next : List (List Int)} {t : List Int}
theorem errF_good (h : errF next = 0) : Good next := by
  by_cases hb : 4096 < next.length ∨ 65536 < edgesF next
  · rw [errF_many hb] at h; cases h
  · by_cases hg : Good next
    · exact hg
    · rw [errF_arg hb hg] at h; cases h
theorem errF_small (h : errF next = 0) : next.length ≤ 4096 ∧ edgesF next ≤ 65536 := by
  by_cases hb : 4096 < next.length ∨ 65536 < edgesF next
  · rw [errF_many hb] at h; cases h
  · exact ⟨by omega, by omega⟩
theorem TreeOk.root (ht : TreeOk next t) (h : 0 < next.length) : t[0]? = some (-1) := ht.z h
theorem kn_ok (hg : Good next) (ht : TreeOk next t) (z : Int) : knF t z = true ↔ ∃ n : Nat, z = n ∧ Rc next (-1) n := by
  simp only [knF, decide_eq_true_eq]
  constructor
  · rintro (⟨rfl, h⟩ | ⟨h1, h2, h3⟩)
    · exact ⟨0, rfl, Rc.zero (by rw [← ht.len]; exact h) (by decide)⟩
    · obtain ⟨n, rfl⟩ : ∃ n : Nat, z = n := ⟨z.toNat, by omega⟩
      refine ⟨n, rfl, ?_⟩
      by_cases hr : Rc next (-1) n
      · exact hr
      · have := ht.no n (by have := ht.len; omega) hr
        simp only [Int.toNat_natCast, List.getD, this, Option.getD_some] at h3
        omega
  · rintro ⟨n, rfl, hr⟩
    have hlt := hr.lt hg
    by_cases hn0 : n = 0
    · subst hn0
      exact .inl ⟨rfl, by rw [ht.len]; exact hlt⟩
    · obtain ⟨r, hrk⟩ := ht.rk
      obtain ⟨a, ha, _⟩ := (hrk n hr).2 hn0
      refine .inr ⟨by omega, by rw [ht.len]; omega, ?_⟩
      simp only [Int.toNat_natCast, List.getD, ha, Option.getD_some]
      omega
theorem up_ok (hg : Good next) (ht : TreeOk next t) {r : Nat → Nat} (hrk : ∀ b, Rc next (-1) b → r b < next.length ∧ (b ≠ 0 → ∃ a : Nat, t[b]? = some (a : Int) ∧ Id next a b ∧ r a < r b)) {a : Nat} (ha : Rc next (-1) a) :
    ∀ (k b : Nat), Rc next (-1) b → r b < k → (upF t a k b = true ↔ Dm next a b) := by
  intro k
  induction k with
  | zero => intro b _ h; omega
  | succ k ih =>
    intro b hb hk
    unfold upF
    by_cases hab : a = b
    · subst hab
      rw [if_pos rfl]
      exact ⟨fun _ => Dm.refl ha, fun _ => rfl⟩
    rw [if_neg (by omega)]
    have hkn : knF t b = true := (kn_ok hg ht b).2 ⟨b, rfl, hb⟩
    by_cases hb0 : b = 0
    · subst hb0
      rw [if_pos (.inr rfl)]
      exact ⟨fun h => (by cases h), fun h => absurd (h.zero (hb.lt hg)) hab⟩
    · rw [if_neg (by rintro (h | h); · rw [hkn] at h; cases h
                     · omega)]
      obtain ⟨c, hc, hid, hr⟩ := (hrk b hb).2 hb0
      simp only [Int.toNat_natCast, List.getD, hc, Option.getD_some]
      rw [ih c hid.2.1.1 (by omega)]
      exact ⟨fun h => h.trans hid.2.1, fun h => hid.2.2 a hab h⟩
theorem rules_ok (hg : Good next) (ht : TreeOk next t) (x y : Int) : rulesF t x y = true ↔ ∃ a b : Nat, x = a ∧ y = b ∧ Dm next a b := by
  obtain ⟨r, hrk⟩ := ht.rk
  simp only [rulesF, Bool.and_eq_true]
  rw [kn_ok hg ht, kn_ok hg ht]
  constructor
  · rintro ⟨⟨⟨a, rfl, ha⟩, b, rfl, hb⟩, h⟩
    exact ⟨a, b, rfl, rfl, (up_ok hg ht hrk ha _ b hb (by rw [ht.len]; have := (hrk b hb).1; omega)).1 h⟩
  · rintro ⟨a, b, rfl, rfl, h⟩
    exact ⟨⟨⟨a, rfl, h.1⟩, b, rfl, h.2.1⟩, (up_ok hg ht hrk h.1 _ b h.2.1 (by rw [ht.len]; have := (hrk b h.2.1).1; omega)).2 h⟩
theorem rules_nat (hg : Good next) (ht : TreeOk next t) (a b : Nat) : rulesF t a b = true ↔ Dm next a b := by
  rw [rules_ok hg ht]
  constructor
  · rintro ⟨a', b', h1, h2, h⟩
    obtain rfl : a = a' := by omega
    obtain rfl : b = b' := by omega
    exact h
  · exact fun h => ⟨a, b, rfl, rfl, h⟩
theorem tree_at (hg : Good next) (ht : TreeOk next t) {b : Nat} (hb : Rc next (-1) b) (hb0 : b ≠ 0) : ∃ a : Nat, t[b]? = some (a : Int) ∧ Id next a b := by
  obtain ⟨r, hrk⟩ := ht.rk
  obtain ⟨a, h1, h2, _⟩ := (hrk b hb).2 hb0
  exact ⟨a, h1, h2⟩
end
/-! the law's own graph -/
def g5 : List (List Int) := [[1, 2], [3], [3], [1], [0]]
def g1 : List (List Int) := [[1]]
theorem g5_err : errF g5 = 0 := errF_ok (by
  rintro (h | h)
  · exact absurd h (by decide)
  · exact absurd h (by decide)) (by unfold Good g5; decide)
theorem g1_err : errF g1 = 1 := errF_arg (by
  rintro (h | h)
  · exact absurd h (by decide)
  · exact absurd h (by decide)) (by unfold Good g1; decide)
theorem g5_ed {a b : Nat} {l : List Int} (h : g5[a]? = some l) (hb : (b : Int) ∈ l) : Ed g5 a b := ⟨l, h, hb⟩
theorem g5_rc (wo : Int) (hw : wo ≠ 0) : Rc g5 wo 0 := Rc.zero (by decide) hw
theorem g5_4 : ¬ Rc g5 (-1) 4 := by
  rintro ⟨k, h⟩
  have key : ∀ k b, Rn g5 (-1) k b → b ≠ 4 := by
    intro k b h
    cases h with
    | z _ _ => decide
    | s _ he _ =>
      rintro rfl
      obtain ⟨l, hl, hm⟩ := he
      have h1 : ∀ l ∈ g5, (4 : Int) ∉ l := by unfold g5; decide
      exact h1 l (List.mem_of_getElem? hl) hm
  exact key k 4 h rfl
theorem g5_dm1 {c : Nat} (h : Dm g5 c 1) : c = 0 ∨ c = 1 := by
  by_cases h1 : c = 1
  · exact .inr h1
  · have := h.edge h1 (g5_ed (a := 0) (b := 1) rfl (by decide)) (g5_rc _ (by decide))
    exact .inl (this.zero (by decide))
theorem g5_dm2 {c : Nat} (h : Dm g5 c 2) : c = 0 ∨ c = 2 := by
  by_cases h1 : c = 2
  · exact .inr h1
  · have := h.edge h1 (g5_ed (a := 0) (b := 2) rfl (by decide)) (g5_rc _ (by decide))
    exact .inl (this.zero (by decide))
theorem g5_rc1 : Rc g5 (-1) 1 := (g5_rc _ (by decide)).step (g5_ed (a := 0) (b := 1) rfl (by decide)) (by decide)
theorem g5_rc2 : Rc g5 (-1) 2 := (g5_rc _ (by decide)).step (g5_ed (a := 0) (b := 2) rfl (by decide)) (by decide)
theorem g5_rc3 : Rc g5 (-1) 3 := g5_rc1.step (g5_ed (a := 1) (b := 3) rfl (by decide)) (by decide)
theorem g5_dm3 {c : Nat} (h : Dm g5 c 3) : c = 0 ∨ c = 3 := by
  by_cases h1 : c = 3
  · exact .inr h1
  · have h2 := h.edge h1 (g5_ed (a := 1) (b := 3) rfl (by decide)) g5_rc1
    have h3 := h.edge h1 (g5_ed (a := 2) (b := 3) rfl (by decide)) g5_rc2
    have := g5_dm1 h2
    have := g5_dm2 h3
    omega
theorem g5_tree {t : List Int} (ht : TreeOk g5 t) : t.length = 5 ∧ t[0]? = some (-1) ∧ t[1]? = some 0 ∧ t[3]? = some 0 ∧ t[4]? = some (-1) ∧ rulesF t 0 3 = true ∧ rulesF t 1 3 = false ∧ rulesF t 4 4 = false := by
  have hg : Good g5 := errF_good g5_err
  refine ⟨ht.len, ht.z (by decide), ?_, ?_, ht.no 4 (by decide) g5_4, ?_, ?_, ?_⟩
  · obtain ⟨a, h1, h2⟩ := tree_at hg ht g5_rc1 (by decide)
    have := g5_dm1 h2.2.1
    have := h2.1
    obtain rfl : a = 0 := by omega
    exact h1
  · obtain ⟨a, h1, h2⟩ := tree_at hg ht g5_rc3 (by decide)
    have := g5_dm3 h2.2.1
    have := h2.1
    obtain rfl : a = 0 := by omega
    exact h1
  · exact (rules_nat hg ht 0 3).2 (zero_Dm (by decide) g5_rc3)
  · have : ¬ rulesF t (1 : Nat) (3 : Nat) = true := fun h => by
      have := g5_dm3 ((rules_nat hg ht 1 3).1 h)
      omega
    simpa using this
  · have : ¬ rulesF t (4 : Nat) (4 : Nat) = true := fun h => g5_4 ((rules_nat hg ht 4 4).1 h).1
    simpa using this
end Go.Proofs.Ytkhhcodpggnchaa
