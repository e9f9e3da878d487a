/-
  What a collector keeps, how many steps it takes (plain law). Conditions: none.
-/
import Derived.Test.YtejpcidfigmnkaaGB
namespace Go.Proofs.Ytejpcidfigmnkaa
set_option linter.unusedVariables false
/-- white, behind something grey -/
inductive GP (s : GS) : Nat → Prop
  | grey {a : Nat} : col s a = 1 → GP s a
  | via {a b : Nat} : GP s a → E s.L a b → col s b = 0 → GP s b
/-- what won't be freed -/
def Pt (s : GS) (a : Nat) : Prop := isO s.L a ∧ (s.ph = 0 ∨ (s.ph = 1 ∧ (col s a = 2 ∨ GP s a)) ∨ (s.ph = 2 ∧ (a < s.pl ∨ col s a = 2)))
def kindO (L : List Ob) (a k : Nat) : Prop := ∃ o ∈ L, o.a = a ∧ o.kind = k
/-- how many steps there may be, yet -/
def nb (N : Nat) (s : GS) : Nat := (List.range N).countP fun a => !decide (col s a = 2)
def mu (N : Nat) (s : GS) : Nat := if s.ph = 1 then nb N s + N + 2 else if s.ph = 2 then N + 1 - s.pl else 0
inductive Steps : GS → Nat → GS → Prop
  | done {s : GS} : s.ph = 0 → Steps s 0 s
  | more {s s' : GS} {n : Nat} : s.ph ≠ 0 → Steps (stepG s).2 n s' → Steps s (n + 1) s'
section
variable {N : Nat} {s : GS} {L : List Ob}
theorem Steps.det {s s1 s2 : GS} {n1 n2 : Nat} (h1 : Steps s n1 s1) (h2 : Steps s n2 s2) : n1 = n2 ∧ s1 = s2 := by
  induction h1 generalizing n2 s2 with
  | done h =>
    cases h2 with
    | done _ => exact ⟨rfl, rfl⟩
    | more h' _ => exact absurd h h'
  | more h _ ih =>
    cases h2 with
    | done h' => exact absurd h' h
    | more _ h' =>
      obtain ⟨e1, e2⟩ := ih h'
      exact ⟨by rw [e1], e2⟩
theorem Steps.end_ {s s' : GS} {n : Nat} (h : Steps s n s') : s'.ph = 0 := by
  induction h with
  | done h => exact h
  | more _ _ ih => exact ih
theorem Steps.inv {P : GS → Prop} (hP : ∀ s, P s → s.ph ≠ 0 → P (stepG s).2) {s s' : GS} {n : Nat} (h : Steps s n s') (h0 : P s) : P s' := by
  induction h with
  | done _ => exact h0
  | more hp _ ih => exact ih (hP _ h0 hp)
theorem countP_le2 {α : Type} {p q : α → Bool} : ∀ {l : List α}, (∀ x ∈ l, p x = true → q x = true) → l.countP p ≤ l.countP q
  | [], _ => Nat.le_refl _
  | x :: l, h => by
    have ih := countP_le2 (l := l) fun y hy => h y (List.mem_cons_of_mem _ hy)
    have hx := h x (List.mem_cons_self ..)
    rw [List.countP_cons, List.countP_cons]
    cases hp : p x with
    | false => simp; omega
    | true => rw [hx hp]; simp; omega
theorem countP_lt2 {α : Type} {p q : α → Bool} : ∀ {l : List α}, (∀ x ∈ l, p x = true → q x = true) → (∃ x ∈ l, q x = true ∧ p x = false) → l.countP p < l.countP q
  | [], _, ⟨x, hx, _⟩ => absurd hx (List.not_mem_nil)
  | y :: l, h, ⟨x, hx, h1, h2⟩ => by
    have hle := countP_le2 (l := l) fun z hz => h z (List.mem_cons_of_mem _ hz)
    have hy := h y (List.mem_cons_self ..)
    rw [List.countP_cons, List.countP_cons]
    rcases List.mem_cons.1 hx with rfl | hx
    · rw [h1, h2]; simp; omega
    · have := countP_lt2 (l := l) (fun z hz => h z (List.mem_cons_of_mem _ hz)) ⟨x, hx, h1, h2⟩
      cases hp : p y with
      | false => simp; omega
      | true => rw [hy hp]; simp; omega
theorem nb_le {s s' : GS} (h : ∀ a, col s a = 2 → col s' a = 2) : nb N s' ≤ nb N s := countP_le2 fun a _ ha => by
  simp only [Bool.not_eq_true', decide_eq_false_iff_not] at ha ⊢
  exact fun hc => ha (h a hc)
theorem step_mu (h : GOk N s) (hp : s.ph ≠ 0) : mu N (stepG s).2 < mu N s := by
  have hn := h.n2
  rcases step_cases h with ⟨h0, e⟩ | ⟨h0, a, ha, e⟩ | ⟨h0, hg, e⟩ | ⟨h0, hno, h1, e⟩ | ⟨h0, o, ho, h1, h2, h3, e⟩ <;> rw [e]
  · exact absurd h0 hp
  · obtain ⟨g1, g2, g3, g4, g5, g6, g7⟩ := mark_ok h h0 ha
    have hlt := h.lt (h.obj a (by omega))
    show mu N (markG s a) < mu N s
    unfold mu
    rw [if_pos g3, if_pos h0]
    have : nb N (markG s a) < nb N s := by
      refine countP_lt2 (fun b _ hb => ?_) ⟨a, List.mem_range.2 hlt.2, by simp [g5], by simp [g6]⟩
      simp only [Bool.not_eq_true', decide_eq_false_iff_not] at hb ⊢
      intro hc
      by_cases hba : b = a
      · subst hba; omega
      · rw [(g7 b hba).1 (by omega)] at hb
        exact hb hc
    omega
  · unfold mu
    rw [if_pos h0]
    show (if (2 : Nat) = 1 then _ else if (2 : Nat) = 2 then N + 1 - 0 else 0) < _
    rw [if_neg (by decide), if_pos rfl]
    omega
  · obtain ⟨hs1, hs2, hs3⟩ := h.swp h0
    have e1 : mu N s = N + 1 - s.pl := by unfold mu; rw [if_neg (by omega), if_pos h0]
    have e2 : mu N { s with ph := 0 } = 0 := rfl
    show mu N { s with ph := 0 } < _
    omega
  · have hlt := h.lt ⟨o, ho, rfl⟩
    have hp2 : (sweepG s o.a).ph = 2 := h0
    have e1 : mu N s = N + 1 - s.pl := by unfold mu; rw [if_neg (by omega), if_pos h0]
    have e2 : mu N (sweepG s o.a) = N + 1 - (o.a + 1) := by unfold mu; rw [if_neg (by omega), if_pos hp2]; rfl
    show mu N (sweepG s o.a) < _
    omega
theorem alloc_mu (h : GOk N s) (k z : Int) : mu N (allocG N s k z).2.2 ≤ mu N s := by
  rcases alloc_ok h k z with ⟨e, he, h1⟩ | ⟨s', o, h1, h2, h3, h4, h5, h6, h7, h8, h9, h10, h11, h12⟩
  · rw [h1]; exact Nat.le_refl _
  · rw [h1]
    show mu N s' ≤ mu N s
    unfold mu
    rw [h3, h4]
    split
    · have : nb N s' ≤ nb N s := nb_le fun a ha => by rw [h11 a (fun he => by rw [he, h9] at ha; omega)]; exact ha
      omega
    · exact Nat.le_refl _
theorem GP_col {a : Nat} (h : GP s a) : col s a ≤ 1 := by
  cases h with
  | grey h => omega
  | via _ _ h => omega
theorem GP_some {a : Nat} (h : GP s a) : ∃ g, col s g = 1 := by
  induction h with
  | grey h => exact ⟨_, h⟩
  | via _ _ _ ih => exact ih
theorem GP_shade (h : GOk N s) (x : Int) {a : Nat} (hg : GP s a) : GP (shadeG s x) a := by
  have hcol := shade_col h x
  have hL := (shade_L s x).1
  induction hg with
  | grey hc => exact .grey (by rw [hcol, if_neg (by rintro ⟨_, _, _, h0⟩; omega)]; exact hc)
  | @via a b _ hE hc ih =>
    by_cases hh : numW x = false ∧ addrN x = b ∧ isO s.L b ∧ col s b = 0
    · exact .grey (by rw [hcol, if_pos hh])
    · exact .via ih (by rw [hL]; exact hE) (by rw [hcol, if_neg hh]; exact hc)
theorem GP_mark (h : GOk N s) (hp : s.ph = 1) {g : Nat} (hl : s.gr.getLast? = some g) {a : Nat} (hg : GP s a) : col (markG s g) a = 2 ∨ GP (markG s g) a := by
  obtain ⟨g1, g2, g3, g4, g5, g6, g7⟩ := mark_ok h hp hl
  induction hg with
  | @grey a hc =>
    by_cases hag : a = g
    · subst hag; exact .inl g6
    · exact .inr (.grey (by rw [(g7 a hag).1 (by omega)]; exact hc))
  | @via a b hga hE hc ih =>
    have hbg : b ≠ g := fun he => by subst he; omega
    obtain ⟨k1, k2, k3⟩ := g7 b hbg
    by_cases hb : col (markG s g) b = 0
    · rcases ih with h1 | h1
      · have : a = g := by
          by_cases hag : a = g
          · exact hag
          · obtain ⟨j1, j2, j3⟩ := g7 a hag
            have hle := GP_col hga
            by_cases h0 : col s a = 0
            · rcases j2 (by omega) with h4 | ⟨h4, _⟩ <;> omega
            · have := j1 h0; omega
        subst this
        exact absurd hb (k3 hE)
      · exact .inr (.via h1 (by rw [g2]; exact hE) hb)
    · rcases k2 hb with h1 | ⟨h1, _⟩
      · exact absurd hc h1
      · exact .inr (.grey h1)
theorem no_grey (h : GOk N s) (hg : s.gr = []) (a : Nat) : col s a ≠ 1 := fun hc => by
  have := (h.grm a).2 hc
  rw [hg] at this
  exact absurd this (List.not_mem_nil)
theorem Pt_step (h : GOk N s) {a k : Nat} (hP : Pt s a) (hk : kindO s.L a k) : Pt (stepG s).2 a ∧ kindO (stepG s).2.L a k := by
  obtain ⟨hO, hP⟩ := hP
  rcases step_cases h with ⟨h0, e⟩ | ⟨h0, g, ha, e⟩ | ⟨h0, hg, e⟩ | ⟨h0, hno, h1, e⟩ | ⟨h0, o, ho, h1, h2, h3, e⟩ <;> rw [e]
  · exact ⟨⟨hO, hP⟩, hk⟩
  · obtain ⟨g1, g2, g3, g4, g5, g6, g7⟩ := mark_ok h h0 ha
    refine ⟨⟨by rw [g2]; exact hO, .inr (.inl ⟨g3, ?_⟩)⟩, by rw [g2]; exact hk⟩
    rcases hP with hP | ⟨_, hP | hP⟩ | ⟨hP, _⟩
    · omega
    · left
      by_cases hag : a = g
      · subst hag; exact g6
      · rw [(g7 a hag).1 (by omega)]; exact hP
    · exact GP_mark h h0 ha hP
    · omega
  · refine ⟨⟨hO, .inr (.inr ⟨rfl, .inr ?_⟩)⟩, hk⟩
    rcases hP with hP | ⟨_, hP | hP⟩ | ⟨hP, _⟩
    · omega
    · exact hP
    · obtain ⟨x, hx⟩ := GP_some hP
      exact absurd hx (no_grey h hg x)
    · omega
  · exact ⟨⟨hO, .inl rfl⟩, hk⟩
  · obtain ⟨g1, g2, g3, g4, g5⟩ := sweep_ok h h0 ho h2 h3
    have hP' : a < s.pl ∨ col s a = 2 := by
      rcases hP with hP | ⟨hP, _⟩ | ⟨_, hP⟩
      · omega
      · omega
      · exact hP
    have keep : ∀ x ∈ s.L, x.a = a → x ∈ (sweepG s o.a).L := fun x hx hxa => g5 x hx fun he => by
      rcases hP' with hp | hp
      · omega
      · rw [← he, hxa]; omega
    refine ⟨⟨?_, .inr (.inr ⟨g2, ?_⟩)⟩, ?_⟩
    · obtain ⟨x, hx, hxa⟩ := hO
      exact ⟨x, keep x hx hxa, hxa⟩
    · show a < o.a + 1 ∨ _
      rcases hP' with hp | hp
      · exact .inl (by omega)
      · by_cases hao : o.a = a
        · exact .inl (by omega)
        · right
          rw [g3, if_neg hao]
          exact hp
    · obtain ⟨x, hx, hxa, hxk⟩ := hk
      exact ⟨x, keep x hx hxa, hxa, hxk⟩
/-- behind an object that is laid -/
theorem GP_more {s s' : GS} {o : Ob} (hLm : ∀ x, x ∈ s'.L ↔ x = o ∨ x ∈ s.L) (hno : ¬ isO s.L o.a) (hcol : ∀ b, b ≠ o.a → col s' b = col s b) (hc0 : col s o.a = 0) {a : Nat} (hg : GP s a) : GP s' a := by
  induction hg with
  | @grey a hc => exact .grey (by rw [hcol a (fun he => by subst he; omega)]; exact hc)
  | @via a b _ hE hc ih =>
    obtain ⟨h1, x, hx, hxa, h2⟩ := hE
    have hb : b ≠ o.a := fun he => by subst he; exact hno h1
    obtain ⟨y, hy, hya⟩ := h1
    exact .via ih ⟨⟨y, (hLm y).2 (.inr hy), hya⟩, x, (hLm x).2 (.inr hx), hxa, h2⟩ (by rw [hcol b hb]; exact hc)
theorem Pt_alloc (h : GOk N s) (kk z : Int) {a k : Nat} (hP : Pt s a) (hk : kindO s.L a k) : Pt (allocG N s kk z).2.2 a ∧ kindO (allocG N s kk z).2.2.L a k := by
  obtain ⟨hO, hP⟩ := hP
  rcases alloc_ok h kk z with ⟨e, he, h1⟩ | ⟨s', o, h1, h2, h3, h4, h5, h6, h7, h8, h9, h10, h11, h12⟩ <;> rw [h1]
  · exact ⟨⟨hO, hP⟩, hk⟩
  · have hao : a ≠ o.a := fun he => by subst he; exact h8 hO
    refine ⟨⟨?_, ?_⟩, ?_⟩
    · obtain ⟨x, hx, hxa⟩ := hO
      exact ⟨x, (h10 x).2 (.inr hx), hxa⟩
    · show s'.ph = 0 ∨ (s'.ph = 1 ∧ (col s' a = 2 ∨ GP s' a)) ∨ (s'.ph = 2 ∧ (a < s'.pl ∨ col s' a = 2))
      rw [h3, h4, h11 a hao]
      rcases hP with hP | ⟨hp, hP | hP⟩ | hP
      · exact .inl hP
      · exact .inr (.inl ⟨hp, .inl hP⟩)
      · exact .inr (.inl ⟨hp, .inr (GP_more h10 h8 h11 h9 hP)⟩)
      · exact .inr (.inr hP)
    · obtain ⟨x, hx, hxa, hxk⟩ := hk
      exact ⟨x, (h10 x).2 (.inr hx), hxa, hxk⟩
/-- what is laid won't be freed in this cycle -/
theorem Pt_new (h : GOk N s) {kk z : Int} {at_ : Int} {s' : GS} (hal : allocG N s kk z = (at_, 0, s')) : Pt s' at_.toNat ∧ kindO s'.L at_.toNat kk.toNat := by
  rcases alloc_ok h kk z with ⟨e, he, h1⟩ | ⟨s2, o, h1, h2, h3, h4, h5, h6, h7, h8, h9, h10, h11, h12⟩ <;> rw [h1] at hal
  · simp only [Prod.mk.injEq] at hal
    exact absurd hal.2.1 he
  · simp only [Prod.mk.injEq] at hal
    obtain ⟨rfl, -, rfl⟩ := hal
    rw [Int.toNat_natCast]
    have hm := (h10 o).2 (.inl rfl)
    refine ⟨⟨⟨o, hm, rfl⟩, ?_⟩, ⟨o, hm, rfl, by omega⟩⟩
    have hp := h.ph
    rw [h3, h4, h12]
    rcases (by omega : s.ph = 0 ∨ s.ph = 1 ∨ s.ph = 2) with h0 | h0 | h0
    · exact .inl h0
    · exact .inr (.inl ⟨h0, .inl (by rw [if_pos (.inl h0)])⟩)
    · refine .inr (.inr ⟨h0, ?_⟩)
      by_cases hc : s.pl ≤ o.a
      · exact .inr (by rw [if_pos (.inr ⟨h0, hc⟩)])
      · exact .inl (by omega)
end
end Go.Proofs.Ytejpcidfigmnkaa
