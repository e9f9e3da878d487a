/-
  What a collector frees, and what it never frees (plain law). Conditions: none.
-/
import Derived.Test.YtejpcidfigmnkaaGE
namespace Go.Proofs.Ytejpcidfigmnkaa
set_option linter.unusedVariables false
/-- what words reach -/
inductive Rc (L : List Ob) (roots : List Int) : Nat → Prop
  | root {x : Int} : x ∈ roots → numW x = false → isO L (addrN x) → Rc L roots (addrN x)
  | step {a b : Nat} : Rc L roots a → E L a b → Rc L roots b
structure Fr (s : GS) (S : Nat → Prop) : Prop where
  cols : ∀ a, col s a ≠ 0 → S a
  swp : s.ph = 2 → ∀ a, isO s.L a → a < s.pl → S a
  idl : s.ph = 0 → ∀ a, isO s.L a → S a
  cls : ∀ a b, S a → E s.L a b → S b
def Gd (s : GS) (x : Int) : Prop := numW x = true ∨ Pt s (addrN x)
structure Sf (s : GS) (regs : List Int) : Prop where
  gd : ∀ r ∈ regs, Gd s r
  cl : ∀ o ∈ s.L, Pt s o.a → ∀ x ∈ o.fs, Gd s x
  k6 : ∀ o ∈ s.L, o.kind = 6
section
variable {N : Nat} {s : GS} {L : List Ob}
theorem begin_facts (h : GOk N s) (hp : s.ph = 0) (roots : List Int) : ∃ s', beginG s roots = (0, s') ∧ GOk N s' ∧ s'.ph = 1 ∧ s'.L = s.L ∧ s'.pl = s.pl ∧ (∀ a, col s' a = 0 ∨ (col s' a = 1 ∧ isO s.L a ∧ ∃ x ∈ roots, numW x = false ∧ addrN x = a)) ∧
    ∀ a, isO s.L a → (∃ x ∈ roots, numW x = false ∧ addrN x = a) → col s' a = 1 := by
  obtain ⟨g1, g2, g3, g4, g5⟩ := shades_ok (s := { s with ph := 1 }) rfl (begin_pre h hp) roots
  have h0 : ∀ a, col { s with ph := 1 } a = 0 := h.idle hp
  refine ⟨_, by unfold beginG; rw [if_pos hp], g1, g3, g2, g4, fun a => ?_, fun a hO hx => ?_⟩
  · by_cases hc : col (roots.foldl shadeG { s with ph := 1 }) a = 0
    · exact .inl hc
    · rcases (g5 a).2.1 hc with h1 | h1
      · exact absurd (h0 a) h1
      · exact .inr h1
  · have hc := (g5 a).2.2 hO hx
    rcases (g5 a).2.1 hc with h1 | h1
    · exact absurd (h0 a) h1
    · exact h1.1
theorem Pt_begin (h : GOk N s) (hp : s.ph = 0) (roots : List Int) {a k : Nat} (hr : Rc s.L roots a) (hk : kindO s.L a k) : Pt (beginG s roots).2 a ∧ kindO (beginG s roots).2.L a k := by
  obtain ⟨s', e, g1, g2, g3, g4, g5, g6⟩ := begin_facts h hp roots
  rw [e]
  have hG : GP s' a := by
    clear hk
    induction hr with
    | @root x hx hn hO => exact .grey (g6 _ hO ⟨x, hx, hn, rfl⟩)
    | @step a b _ hE ih =>
      rcases g5 b with h0 | h0
      · exact .via ih (by rw [g3]; exact hE) h0
      · exact .grey h0.1
  have hO : isO s.L a := by obtain ⟨o, h1, h2, _⟩ := hk; exact ⟨o, h1, h2⟩
  exact ⟨⟨by show isO s'.L a; rw [g3]; exact hO, .inr (.inl ⟨g2, .inr hG⟩)⟩, by show kindO s'.L a k; rw [g3]; exact hk⟩
theorem Fr_begin (h : GOk N s) (hp : s.ph = 0) {roots : List Int} {S : Nat → Prop} (h1 : ∀ x ∈ roots, numW x = false → isO s.L (addrN x) → S (addrN x)) (h2 : ∀ a b, S a → E s.L a b → S b) : Fr (beginG s roots).2 S := by
  obtain ⟨s', e, g1, g2, g3, g4, g5, g6⟩ := begin_facts h hp roots
  rw [e]
  refine ⟨fun a ha => ?_, fun h0 => ?_, fun h0 => ?_, fun a b ha hE => h2 a b ha (by rw [← g3]; exact hE)⟩
  · rcases g5 a with h0 | ⟨h0, h3, x, hx, hn, rfl⟩
    · exact absurd h0 ha
    · exact h1 x hx hn h3
  · have : s'.ph = 2 := h0
    omega
  · have : s'.ph = 0 := h0
    omega
theorem Fr_step (h : GOk N s) {S : Nat → Prop} (hF : Fr s S) : Fr (stepG s).2 S := by
  rcases step_cases h with ⟨h0, e⟩ | ⟨h0, g, ha, e⟩ | ⟨h0, hg, e⟩ | ⟨h0, hno, h1, e⟩ | ⟨h0, o, ho, h1, h2, h3, e⟩ <;> rw [e]
  · exact hF
  · obtain ⟨g1, g2, g3, g4, g5, g6, g7⟩ := mark_ok h h0 ha
    refine ⟨fun a hc => ?_, fun hp => ?_, fun hp => ?_, fun a b hS hE => hF.cls a b hS (by rw [← g2]; exact hE)⟩
    · by_cases hag : a = g
      · subst hag; exact hF.cols a (by omega)
      · rcases (g7 a hag).2.1 hc with h4 | ⟨h4, h5⟩
        · exact hF.cols a h4
        · exact hF.cls g a (hF.cols g (by omega)) h5
    · have : (markG s g).ph = 2 := hp
      omega
    · have : (markG s g).ph = 0 := hp
      omega
  · exact ⟨hF.cols, fun _ a _ hl => absurd hl (Nat.not_lt_zero _), fun hp => (by cases hp), hF.cls⟩
  · exact ⟨hF.cols, fun hp => (by cases hp), fun _ a hO => hF.swp h0 a hO (by obtain ⟨x, hx, hxa⟩ := hO; have := hno x hx; omega), hF.cls⟩
  · obtain ⟨g1, g2, g3, g4, g5⟩ := sweep_ok h h0 ho h2 h3
    refine ⟨fun a hc => ?_, fun _ a hO hl => ?_, fun hp => ?_, fun a b hS hE => hF.cls a b hS ?_⟩
    · rw [g3] at hc
      split at hc
      · exact absurd rfl hc
      · exact hF.cols a hc
    · obtain ⟨x, hx, hxa⟩ := hO
      obtain ⟨k1, k2⟩ := g4 x hx
      have hl' : a < o.a + 1 := hl
      by_cases hp : a < s.pl
      · exact hF.swp h0 a ⟨x, k1, hxa⟩ hp
      · have := h3 x k1 (by omega)
        have hao : x.a = o.a := by omega
        exact hF.cols a (by rw [← hxa, hao]; exact k2 hao)
    · have : (sweepG s o.a).ph = 0 := hp
      omega
    · obtain ⟨⟨y, hy, hyb⟩, x, hx, hxa, h4⟩ := hE
      exact ⟨⟨y, (g4 y hy).1, hyb⟩, x, (g4 x hx).1, hxa, h4⟩
theorem num1 : numW 1 = true := by decide
theorem Fr_alloc (h : GOk N s) {S : Nat → Prop} (hF : Fr s S) (k z : Int) : ((allocG N s k z).2.1 ≠ 0 ∧ Fr (allocG N s k z).2.2 S) ∨ ((allocG N s k z).2.1 = 0 ∧ Fr (allocG N s k z).2.2 (fun a => S a ∨ a = (allocG N s k z).1.toNat)) := by
  rcases alloc_ok h k z with ⟨e, he, h1⟩ | ⟨s', o, h1, h2, h3, h4, h5, h6, h7, h8, h9, h10, h11, h12⟩ <;> rw [h1]
  · exact .inl ⟨he, hF⟩
  · right
    refine ⟨rfl, ?_⟩
    show Fr s' fun a => S a ∨ a = ((o.a : Int)).toNat
    rw [Int.toNat_natCast]
    have hO : ∀ {a}, isO s'.L a → a = o.a ∨ isO s.L a := fun ⟨x, hx, hxa⟩ => by
      rcases (h10 x).1 hx with rfl | hx
      · exact .inl hxa.symm
      · exact .inr ⟨x, hx, hxa⟩
    refine ⟨fun a hc => ?_, fun hp a hOa hl => ?_, fun hp a hOa => ?_, fun a b hS hE => ?_⟩
    · by_cases hao : a = o.a
      · exact .inr hao
      · rw [h11 a hao] at hc
        exact .inl (hF.cols a hc)
    · rcases hO hOa with h13 | h13
      · exact .inr h13
      · exact .inl (hF.swp (by omega) a h13 (by omega))
    · rcases hO hOa with h13 | h13
      · exact .inr h13
      · exact .inl (hF.idl (by omega) a h13)
    · obtain ⟨h13, x, hx, hxa, hxk, y, hy, hyn, hyb⟩ := hE
      rcases (h10 x).1 hx with rfl | hx
      · rw [h7 y hy, num1] at hyn; cases hyn
      · rcases hO h13 with h14 | h14
        · exact .inr h14
        · left
          rcases hS with hS | hS
          · exact hF.cls a b hS ⟨h14, x, hx, hxa, hxk, y, hy, hyn, hyb⟩
          · exact absurd ⟨x, hx, hxa.trans hS⟩ h8
theorem Fr_write (h : GOk N s) {S : Nat → Prop} (hF : Fr s S) (z i : Int) {x : Int} (hx : numW x = true) (hz : ∀ a : Nat, z = (a : Int) → S a) : Fr (writeG s z i x).2 S := by
  rcases write_cases h z i x with ⟨e, he, h1⟩ | ⟨o, j, y, s1, ho, rfl, rfl, hy, h1, h2⟩
  · rw [h1]; exact hF
  · rw [h2]
    obtain ⟨k1, k2, k3, k4⟩ := shaded_ok h h1
    have hE : ∀ a b, E (setL s.L o.a j x) a b → E s.L a b := fun a b hE => by
      rcases E_set_new hE with h3 | ⟨_, h3, _⟩
      · exact h3
      · rw [hx] at h3; cases h3
    refine ⟨fun a hc => ?_, fun hp a hO hl => hF.swp (by rw [← k3]; exact hp) a (isO_set.1 hO) (by rw [← k4]; exact hl), fun hp a hO => hF.idl (by rw [← k3]; exact hp) a (isO_set.1 hO), fun a b hS hE' => hF.cls a b hS (hE a b hE')⟩
    have hc' : col s1 a ≠ 0 := hc
    subst h1
    split at hc'
    · rename_i hh
      rw [shade_col h] at hc'
      split at hc'
      · rename_i h5
        exact hF.cls o.a a (hz o.a rfl) ⟨h5.2.2.1, o, ho, rfl, hh.2, y, List.mem_of_getElem? hy, h5.1, h5.2.1⟩
      · exact hF.cols a hc'
    · exact hF.cols a hc'
/-! ## what a program holds -/
theorem GP_mark_rev (h : GOk N s) (hp : s.ph = 1) {g : Nat} (hl : s.gr.getLast? = some g) {a : Nat} (hg : GP (markG s g) a) : GP s a := by
  obtain ⟨g1, g2, g3, g4, g5, g6, g7⟩ := mark_ok h hp hl
  induction hg with
  | @grey a hc =>
    have hag : a ≠ g := fun he => by subst he; omega
    obtain ⟨k1, k2, k3⟩ := g7 a hag
    by_cases h0 : col s a = 0
    · rcases k2 (by omega) with h4 | ⟨h4, h5⟩
      · exact absurd h0 h4
      · exact .via (.grey g5) h5 h0
    · exact .grey (by rw [← k1 h0]; exact hc)
  | @via a b _ hE hc ih =>
    have hbg : b ≠ g := fun he => by subst he; omega
    obtain ⟨k1, k2, k3⟩ := g7 b hbg
    refine .via ih (by rw [← g2]; exact hE) ?_
    by_cases h0 : col s b = 0
    · exact h0
    · have := k1 h0; omega
theorem Pn_step (h : GOk N s) {a : Nat} (hP : Pt (stepG s).2 a) : Pt s a := by
  rcases step_cases h with ⟨h0, e⟩ | ⟨h0, g, ha, e⟩ | ⟨h0, hg, e⟩ | ⟨h0, hno, h1, e⟩ | ⟨h0, o, ho, h1, h2, h3, e⟩ <;> rw [e] at hP
  · exact hP
  · obtain ⟨g1, g2, g3, g4, g5, g6, g7⟩ := mark_ok h h0 ha
    obtain ⟨hO, hP⟩ := hP
    refine ⟨by rw [← g2]; exact hO, .inr (.inl ⟨h0, ?_⟩)⟩
    rcases hP with hP | ⟨_, hP⟩ | ⟨hP, _⟩
    · have : (markG s g).ph = 0 := hP
      omega
    · rcases hP with hP | hP
      · by_cases hag : a = g
        · subst hag; exact .inr (.grey g5)
        · obtain ⟨k1, k2, k3⟩ := g7 a hag
          have hP' : col (markG s g) a = 2 := hP
          by_cases hc : col s a = 0
          · rcases k2 (by omega) with h4 | ⟨h4, _⟩
            · exact absurd hc h4
            · omega
          · exact .inl (by rw [← k1 hc]; exact hP')
      · exact .inr (GP_mark_rev h h0 ha hP)
    · have : (markG s g).ph = 2 := hP
      omega
  · obtain ⟨hO, hP⟩ := hP
    refine ⟨hO, .inr (.inl ⟨h0, .inl ?_⟩)⟩
    rcases hP with hP | ⟨hP, _⟩ | ⟨_, hP⟩
    · cases hP
    · cases hP
    · rcases hP with hP | hP
      · exact absurd hP (Nat.not_lt_zero _)
      · exact hP
  · obtain ⟨hO, hP⟩ := hP
    refine ⟨hO, .inr (.inr ⟨h0, .inl ?_⟩)⟩
    obtain ⟨x, hx, hxa⟩ := hO
    have := hno x hx
    omega
  · obtain ⟨g1, g2, g3, g4, g5⟩ := sweep_ok h h0 ho h2 h3
    obtain ⟨hs1, hs2, hs3⟩ := h.swp h0
    obtain ⟨⟨x, hx, hxa⟩, hP⟩ := hP
    obtain ⟨k1, k2⟩ := g4 x hx
    refine ⟨⟨x, k1, hxa⟩, .inr (.inr ⟨h0, ?_⟩)⟩
    have two : ∀ b, col s b ≠ 0 → col s b = 2 := fun b hb => by
      have := h.c3 b
      have := no_grey h hs1 b
      omega
    rcases hP with hP | ⟨hP, _⟩ | ⟨_, hP⟩
    · have : (sweepG s o.a).ph = 0 := hP
      omega
    · have : (sweepG s o.a).ph = 1 := hP
      omega
    · by_cases hap : a < s.pl
      · exact .inl hap
      · right
        by_cases hao : x.a = o.a
        · have := two _ (k2 hao)
          rw [← hxa, hao]; exact this
        · rcases hP with hP | hP
          · have hP' : a < o.a + 1 := hP
            have := h3 x k1 (by omega)
            omega
          · have hP' : col (sweepG s o.a) a = 2 := hP
            rw [g3, if_neg (by omega)] at hP'
            exact hP'
theorem GP_less {s s' : GS} {o : Ob} (hLm : ∀ x, x ∈ s'.L ↔ x = o ∨ x ∈ s.L) (hf : ∀ x ∈ o.fs, x = 1) (hcol : ∀ b, b ≠ o.a → col s' b = col s b) (hc2 : col s' o.a = 2) {a : Nat} (hg : GP s' a) : GP s a := by
  induction hg with
  | @grey a hc => exact .grey (by rw [← hcol a (fun he => by subst he; omega)]; exact hc)
  | @via a b _ hE hc ih =>
    obtain ⟨h1, x, hx, hxa, hxk, y, hy, hyn, hyb⟩ := hE
    have hb : b ≠ o.a := fun he => by subst he; omega
    rcases (hLm x).1 hx with rfl | hx
    · rw [hf y hy, num1] at hyn; cases hyn
    · obtain ⟨p, hp, hpb⟩ := h1
      rcases (hLm p).1 hp with rfl | hp
      · exact absurd hpb.symm hb
      · exact .via ih ⟨⟨p, hp, hpb⟩, x, hx, hxa, hxk, y, hy, hyn, hyb⟩ (by rw [← hcol b hb]; exact hc)
theorem Pt_kind {a : Nat} (hP : Pt s a) : ∃ k, kindO s.L a k := by
  obtain ⟨o, h1, h2⟩ := hP.1
  exact ⟨o.kind, o, h1, h2, rfl⟩
theorem Sf_step (h : GOk N s) {regs : List Int} (hS : Sf s regs) : Sf (stepG s).2 regs := by
  have hgd : ∀ x, Gd s x → Gd (stepG s).2 x := fun x hx => hx.imp id fun hp => by
    obtain ⟨k, hk⟩ := Pt_kind hp
    exact (Pt_step h hp hk).1
  have hsub : ∀ o ∈ (stepG s).2.L, o ∈ s.L := by
    rcases step_cases h with ⟨h0, e⟩ | ⟨h0, g, ha, e⟩ | ⟨h0, hg, e⟩ | ⟨h0, hno, h1, e⟩ | ⟨h0, o, ho, h1, h2, h3, e⟩ <;> rw [e]
    · exact fun o ho => ho
    · intro o ho
      have := (mark_ok h h0 ha).2.1
      rw [← this]; exact ho
    · exact fun o ho => ho
    · exact fun o ho => ho
    · exact fun x hx => ((sweep_ok h h0 ho h2 h3).2.2.2.1 x hx).1
  exact ⟨fun r hr => hgd r (hS.gd r hr), fun o ho hP x hx => hgd x (hS.cl o (hsub o ho) (Pn_step h hP) x hx), fun o ho => hS.k6 o (hsub o ho)⟩
theorem Sf_alloc (h : GOk N s) {regs : List Int} (hS : Sf s regs) (z : Int) : Sf (allocG N s 6 z).2.2 regs := by
  have hgd : ∀ x, Gd s x → Gd (allocG N s 6 z).2.2 x := fun x hx => hx.imp id fun hp => by
    obtain ⟨k, hk⟩ := Pt_kind hp
    exact (Pt_alloc h 6 z hp hk).1
  rcases alloc_ok h 6 z with ⟨e, he, h1⟩ | ⟨s', o, h1, h2, h3, h4, h5, h6, h7, h8, h9, h10, h11, h12⟩ <;> rw [h1] at hgd ⊢
  · exact hS
  · refine ⟨fun r hr => hgd r (hS.gd r hr), fun p hp hP x hx => ?_, fun p hp => ?_⟩
    · rcases (h10 p).1 hp with rfl | hp
      · rw [h7 x hx]; exact .inl num1
      · refine hgd x (hS.cl p hp ⟨⟨p, hp, rfl⟩, ?_⟩ x hx)
        have hne : p.a ≠ o.a := fun he => h8 ⟨p, hp, he⟩
        have hP2 := hP.2
        have e3 : ({ ph := s'.ph, L := s'.L, cl := s'.cl, gr := s'.gr, pl := s'.pl } : GS) = s' := rfl
        have hP3 : s'.ph = 0 ∨ (s'.ph = 1 ∧ (col s' p.a = 2 ∨ GP s' p.a)) ∨ (s'.ph = 2 ∧ (p.a < s'.pl ∨ col s' p.a = 2)) := hP2
        rw [h11 _ hne, h3, h4] at hP3
        rcases hP3 with h0 | ⟨h0, h13 | h13⟩ | h0
        · exact .inl h0
        · exact .inr (.inl ⟨h0, .inl h13⟩)
        · exact .inr (.inl ⟨h0, .inr (GP_less h10 h7 h11 (by rw [h12, if_pos (.inl h0)]) h13)⟩)
        · exact .inr (.inr h0)
    · rcases (h10 p).1 hp with rfl | hp
      · omega
      · exact hS.k6 p hp
theorem Sf_write (h : GOk N s) {regs : List Int} (hS : Sf s regs) (z i : Int) {x : Int} (hx : Gd s x) (hz : ∀ a : Nat, z = (a : Int) → Pt s a) : Sf (writeG s z i x).2 regs := by
  have hgd : ∀ y, Gd s y → Gd (writeG s z i x).2 y := fun y hy => hy.imp id fun hp => by
    obtain ⟨k, hk⟩ := Pt_kind hp
    exact (Pt_write h z i x hp hk).1
  rcases write_cases h z i x with ⟨e, he, h1⟩ | ⟨o, j, y, s1, ho, rfl, rfl, hy, h1, h2⟩
  · rw [h1]; exact hS
  · rw [h2] at hgd ⊢
    obtain ⟨k1, k2, k3, k4⟩ := shaded_ok h h1
    have hyG : Gd s y := hS.cl o ho (hz o.a rfl) y (List.mem_of_getElem? hy)
    have white : ∀ b, s.ph = 1 → Pt s b → col s b = 0 → GP s b := fun b h0 hP hc => by
      rcases hP.2 with h3 | ⟨_, h3 | h3⟩ | ⟨h3, _⟩
      · omega
      · omega
      · exact h3
      · omega
    have hrev : s.ph = 1 → ∀ a, GP { s1 with L := setL s.L o.a j x } a → GP s a := fun h0 a hg => by
      have hc1 : ∀ b, col s1 b = 0 → col s b = 0 := fun b hb => by
        subst h1
        split at hb
        · rw [shade_col h] at hb
          split at hb
          · cases hb
          · exact hb
        · exact hb
      induction hg with
      | @grey a hc =>
        have hc' : col s1 a = 1 := hc
        subst h1
        split at hc'
        · rw [shade_col h] at hc'
          split at hc'
          · rename_i hh
            refine white a h0 ?_ hh.2.2.2
            rcases hyG with h5 | h5
            · rw [h5] at hh; cases hh.1
            · rw [hh.2.1] at h5; exact h5
          · exact .grey hc'
        · exact .grey hc'
      | @via a b _ hE hc ih =>
        rcases E_set_new hE with h3 | ⟨h3, h4, h5, h6⟩
        · exact .via ih h3 (hc1 b hc)
        · refine white b h0 ?_ (hc1 b hc)
          rcases hx with h7 | h7
          · rw [h7] at h4; cases h4
          · rw [h5] at h7; exact h7
    have hPn : ∀ a, Pt { s1 with L := setL s.L o.a j x } a → Pt s a := fun a hP => by
      refine ⟨isO_set.1 hP.1, ?_⟩
      have hP2 : s1.ph = 0 ∨ (s1.ph = 1 ∧ (col s1 a = 2 ∨ GP { s1 with L := setL s.L o.a j x } a)) ∨ (s1.ph = 2 ∧ (a < s1.pl ∨ col s1 a = 2)) := hP.2
      rcases hP2 with h0 | ⟨h0, h3 | h3⟩ | ⟨h0, h3⟩
      · exact .inl (k3 ▸ h0)
      · refine .inr (.inl ⟨k3 ▸ h0, .inl ?_⟩)
        subst h1
        split at h3
        · rw [shade_col h] at h3
          split at h3
          · cases h3
          · exact h3
        · exact h3
      · exact .inr (.inl ⟨k3 ▸ h0, .inr (hrev (k3 ▸ h0) a h3)⟩)
      · refine .inr (.inr ⟨k3 ▸ h0, ?_⟩)
        have h0' : s.ph = 2 := k3 ▸ h0
        rw [if_neg (by omega)] at h1
        subst h1
        exact h3
    refine ⟨fun r hr => hgd r (hS.gd r hr), fun p hp hP u hu => ?_, fun p hp => ?_⟩
    · obtain ⟨q, hq, rfl⟩ := setL_mem.1 hp
      rw [(setL_a q).1] at hP
      have hPq := hPn q.a hP
      split at hu
      · rcases List.mem_or_eq_of_mem_set hu with h3 | h3
        · exact hgd u (hS.cl q hq hPq u h3)
        · subst h3; exact hgd u hx
      · exact hgd u (hS.cl q hq hPq u hu)
    · obtain ⟨q, hq, rfl⟩ := setL_mem.1 hp
      rw [(setL_a q).2.1]
      exact hS.k6 q hq
theorem Sf_begin (h : GOk N s) {regs : List Int} (hS : Sf s regs) : Sf (beginG s regs).2 regs := by
  by_cases hp : s.ph = 0
  · obtain ⟨s', e, g1, g2, g3, g4, g5, g6⟩ := begin_facts h hp regs
    rw [e]
    refine ⟨fun r hr => ?_, fun o ho hP x hx => ?_, fun o ho => hS.k6 o (by rw [← g3]; exact ho)⟩
    · rcases hS.gd r hr with h1 | h1
      · exact .inl h1
      · cases hn : numW r with
        | true => exact .inl hn
        | false => exact .inr ⟨by show isO s'.L _; rw [g3]; exact h1.1, .inr (.inl ⟨g2, .inr (.grey (g6 _ h1.1 ⟨r, hr, hn, rfl⟩))⟩)⟩
    · have ho' : o ∈ s.L := by rw [← g3]; exact ho
      have hPo : Pt s o.a := ⟨⟨o, ho', rfl⟩, .inl hp⟩
      rcases hS.cl o ho' hPo x hx with h1 | h1
      · exact .inl h1
      · cases hn : numW x with
        | true => exact .inl hn
        | false =>
          right
          have hG : GP s' o.a := by
            have hP2 : s'.ph = 0 ∨ (s'.ph = 1 ∧ (col s' o.a = 2 ∨ GP s' o.a)) ∨ (s'.ph = 2 ∧ (o.a < s'.pl ∨ col s' o.a = 2)) := hP.2
            rcases hP2 with h3 | ⟨_, h3 | h3⟩ | ⟨h3, _⟩
            · omega
            · rcases g5 o.a with h4 | ⟨h4, _⟩ <;> omega
            · exact h3
            · omega
          refine ⟨by show isO s'.L _; rw [g3]; exact h1.1, .inr (.inl ⟨g2, .inr ?_⟩)⟩
          rcases g5 (addrN x) with h4 | ⟨h4, _⟩
          · exact .via hG ⟨by show isO s'.L _; rw [g3]; exact h1.1, o, ho, rfl, by rw [hS.k6 o ho']; decide, x, hx, hn, rfl⟩ h4
          · exact .grey h4
  · have : beginG s regs = (9, s) := if_neg hp
    rw [this]; exact hS
end
end Go.Proofs.Ytejpcidfigmnkaa
