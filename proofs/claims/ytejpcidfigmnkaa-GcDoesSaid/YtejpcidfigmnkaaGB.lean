/-
  What a collector's calls keep, and what they do to colours (plain law). Conditions: none.
-/
import Derived.Test.YtejpcidfigmnkaaGA
namespace Go.Proofs.Ytejpcidfigmnkaa
set_option linter.unusedVariables false
/-- one object reaches another one directly -/
def E (L : List Ob) (a b : Nat) : Prop := isO L b ∧ ∃ o ∈ L, o.a = a ∧ o.kind ≠ 1 ∧ ∃ x ∈ o.fs, numW x = false ∧ addrN x = b
section
variable {N : Nat} {s : GS} {L : List Ob}
theorem fsA_at {p : Nat} (hl : Lay N p L) {o : Ob} (ho : o ∈ L) : fsA L o.a = o.fs ∧ kdA L o.a = o.kind := by
  unfold fsA kdA
  rw [findA_mem hl ho]
  exact ⟨rfl, rfl⟩
theorem E_at {p : Nat} (hl : Lay N p L) {o : Ob} (ho : o ∈ L) {b : Nat} : E L o.a b ↔ isO L b ∧ o.kind ≠ 1 ∧ ∃ x ∈ o.fs, numW x = false ∧ addrN x = b := by
  constructor
  · rintro ⟨h1, o', h2, h3, h4⟩
    obtain rfl := hl.inj o' h2 o ho h3
    exact ⟨h1, h4⟩
  · rintro ⟨h1, h2⟩
    exact ⟨h1, o, ho, rfl, h2⟩
theorem black_ok (h : GOk N s) (hp : s.ph = 1) {a : Nat} (hl : s.gr.getLast? = some a) : GOk N (blackG s a) ∧ col s a = 1 ∧ ∀ b, col (blackG s a) b = if a = b then 2 else col s b := by
  obtain ⟨g, hg⟩ := List.getLast?_eq_some_iff.1 hl
  have ha : a ∈ s.gr := by rw [hg]; simp
  have hc := (h.grm a).1 ha
  have hlt := h.lt (h.obj a (by omega))
  have hcol : ∀ b, col (blackG s a) b = if a = b then 2 else col s b := fun b => col_set (by rw [h.cll]; exact hlt.2)
  have hgr : (blackG s a).gr = g := by show s.gr.dropLast = g; rw [hg]; simp
  have hs := h.grs
  rw [hg, List.pairwise_append] at hs
  refine ⟨⟨h.n2, h.lay, h.kd, h.us, h.ph, by show (s.cl.set a 2).length = N; rw [List.length_set]; exact h.cll, fun b => ?_, by rw [hgr]; exact hs.1, fun b => ?_, fun b hb => ?_, fun h0 => ?_, fun h0 => ?_⟩, hc, hcol⟩
  · rw [hcol]; split
    · omega
    · exact h.c3 b
  · rw [hgr, hcol]
    constructor
    · intro hb
      have h1 := hs.2.2 b hb a (by simp)
      rw [if_neg (by show ¬ a = b; intro he; subst he; exact Nat.lt_irrefl _ h1)]
      exact (h.grm b).1 (by rw [hg]; simp [hb])
    · intro hb
      split at hb
      · omega
      · rename_i hne
        have := (h.grm b).2 hb
        rw [hg] at this
        rcases List.mem_append.1 this with h1 | h1
        · exact h1
        · exact absurd (List.mem_singleton.1 h1).symm hne
  · rw [hcol] at hb
    split at hb
    · rename_i he; subst he; exact h.obj a (by omega)
    · exact h.obj b hb
  · have : s.ph = 0 := h0
    omega
  · have : s.ph = 2 := h0
    omega
theorem mark_ok (h : GOk N s) (hp : s.ph = 1) {a : Nat} (hl : s.gr.getLast? = some a) : GOk N (markG s a) ∧ (markG s a).L = s.L ∧ (markG s a).ph = 1 ∧ (markG s a).pl = s.pl ∧ col s a = 1 ∧ col (markG s a) a = 2 ∧
    ∀ b, b ≠ a → (col s b ≠ 0 → col (markG s a) b = col s b) ∧ (col (markG s a) b ≠ 0 → col s b ≠ 0 ∨ (col (markG s a) b = 1 ∧ E s.L a b)) ∧ (E s.L a b → col (markG s a) b ≠ 0) := by
  obtain ⟨h1, h2, h3⟩ := black_ok h hp hl
  obtain ⟨o, ho, rfl⟩ := h.obj a (by omega)
  obtain ⟨e1, e2⟩ := fsA_at h.lay ho
  unfold markG
  rw [e1, e2]
  by_cases hk : o.kind = 1
  · rw [if_pos hk]
    refine ⟨h1, rfl, hp, rfl, h2, by rw [h3, if_pos rfl], fun b hb => ⟨fun _ => by rw [h3, if_neg (Ne.symm hb)], fun hc => ?_, fun hE => ?_⟩⟩
    · rw [h3, if_neg (Ne.symm hb)] at hc; exact .inl hc
    · exact absurd hk ((E_at h.lay ho).1 hE).2.1
  · rw [if_neg hk]
    obtain ⟨g1, g2, g3, g4, g5⟩ := shades_ok (s := blackG s o.a) hp h1 o.fs
    refine ⟨g1, g2, g3, g4, h2, ?_, fun b hb => ?_⟩
    · rw [(g5 o.a).1 (by rw [h3, if_pos rfl]; decide), h3, if_pos rfl]
    · obtain ⟨k1, k2, k3⟩ := g5 b
      rw [h3, if_neg (Ne.symm hb)] at k1 k2
      refine ⟨k1, fun hc => ?_, fun hE => ?_⟩
      · rcases k2 hc with h4 | ⟨h4, h5, h6⟩
        · exact .inl h4
        · exact .inr ⟨h4, (E_at h.lay ho).2 ⟨h5, hk, h6⟩⟩
      · obtain ⟨h5, _, h6⟩ := (E_at h.lay ho).1 hE
        exact k3 h5 h6
theorem nextA_spec {p : Nat} (hl : Lay N p L) (z : Int) : (nextA L z = 0 ∧ ∀ o ∈ L, ¬ z ≤ (o.a : Int)) ∨ ∃ o ∈ L, nextA L z = o.a ∧ z ≤ (o.a : Int) ∧ ∀ o' ∈ L, z ≤ (o'.a : Int) → o.a ≤ o'.a := by
  unfold nextA
  cases hf : L.find? fun o => decide (z ≤ (o.a : Int)) with
  | none =>
    left
    refine ⟨rfl, fun o ho => ?_⟩
    have := List.find?_eq_none.1 hf o ho
    simpa using this
  | some o =>
    right
    have h1 := List.find?_some hf
    exact ⟨o, List.mem_of_find?_eq_some hf, rfl, by simpa using h1, fun o' ho' hz => next_first hl hf ho' hz⟩
theorem delA_mem {a : Nat} {o : Ob} : o ∈ delA L a ↔ o ∈ L ∧ o.a ≠ a := by
  unfold delA
  rw [List.mem_filter]
  simp
  omega
theorem delA_lay {a : Nat} : ∀ {L : List Ob} {p : Nat}, Lay N p L → Lay N p (delA L a)
  | [], p, h => h
  | o :: L, p, h => by
    have ih := delA_lay (a := a) h.2
    unfold delA at ih ⊢
    by_cases hc : (o.a : Int) = (a : Int)
    · rw [List.filter_cons_of_neg (by simpa using hc)]
      refine ih.mono ?_
      have := h.1
      unfold Ob.fin
      omega
    · rw [List.filter_cons_of_pos (by simpa using hc)]
      exact ⟨h.1, ih⟩
theorem sweep_ok (h : GOk N s) (hp : s.ph = 2) {o : Ob} (ho : o ∈ s.L) (hz : s.pl ≤ o.a) (hfirst : ∀ o' ∈ s.L, s.pl ≤ o'.a → o.a ≤ o'.a) :
    GOk N (sweepG s o.a) ∧ (sweepG s o.a).ph = 2 ∧ (∀ b, col (sweepG s o.a) b = if o.a = b then 0 else col s b) ∧ (∀ x ∈ (sweepG s o.a).L, x ∈ s.L ∧ (x.a = o.a → col s o.a ≠ 0)) ∧ (∀ x ∈ s.L, (x.a = o.a → col s o.a ≠ 0) → x ∈ (sweepG s o.a).L) := by
  have hlt := h.lt ⟨o, ho, rfl⟩
  have hcol : ∀ b, col (sweepG s o.a) b = if o.a = b then 0 else col s b := fun b => col_set (by rw [h.cll]; exact hlt.2)
  have hL : ∀ x, x ∈ (sweepG s o.a).L ↔ x ∈ s.L ∧ (x.a = o.a → col s o.a ≠ 0) := fun x => by
    show x ∈ (if col s o.a = 0 then delA s.L o.a else s.L) ↔ _
    split
    · rename_i hc
      rw [delA_mem]
      exact ⟨fun ⟨h1, h2⟩ => ⟨h1, fun h3 => absurd h3 h2⟩, fun ⟨h1, h2⟩ => ⟨h1, fun h3 => h2 h3 hc⟩⟩
    · rename_i hc
      exact ⟨fun h1 => ⟨h1, fun _ => hc⟩, fun h1 => h1.1⟩
  have hlay : Lay N 1 (sweepG s o.a).L := by
    show Lay N 1 (if col s o.a = 0 then delA s.L o.a else s.L)
    split
    · exact delA_lay h.lay
    · exact h.lay
  obtain ⟨hs1, hs2, hs3⟩ := h.swp hp
  refine ⟨⟨h.n2, hlay, fun x hx => h.kd x ((hL x).1 hx).1, fun x hx => h.us x ((hL x).1 hx).1, h.ph, by show (s.cl.set o.a 0).length = N; rw [List.length_set]; exact h.cll, fun b => ?_, h.grs, fun b => ?_, fun b hb => ?_, fun h0 => ?_, fun _ => ⟨hs1, hlt.2, fun b hb => ?_⟩⟩, hp, hcol, fun x hx => (hL x).1 hx, fun x hx hc => (hL x).2 ⟨hx, hc⟩⟩
  · rw [hcol]; split
    · omega
    · exact h.c3 b
  · show b ∈ s.gr ↔ _
    rw [hs1, hcol]
    constructor
    · intro hb; exact absurd hb (List.not_mem_nil)
    · split
      · omega
      · intro hc
        have := (h.grm b).2 hc
        rw [hs1] at this
        exact this
  · rw [hcol] at hb
    split at hb
    · exact absurd rfl hb
    · rename_i hne
      obtain ⟨x, hx, hxa⟩ := h.obj b hb
      exact ⟨x, (hL x).2 ⟨hx, fun he => absurd (he ▸ hxa) hne⟩, hxa⟩
  · have : s.ph = 0 := h0
    omega
  · rw [hcol]
    split
    · rfl
    · rename_i hne
      have hb' : b < o.a + 1 := hb
      by_cases hbp : b < s.pl
      · exact hs3 b hbp
      · by_cases hc : col s b = 0
        · exact hc
        · obtain ⟨x, hx, hxa⟩ := h.obj b hc
          have := hfirst x hx (by omega)
          omega
theorem idle_ok (h : GOk N s) (hp : s.ph = 2) (hno : ∀ o ∈ s.L, ¬ s.pl ≤ o.a) : GOk N { s with ph := 0 } := by
  obtain ⟨hs1, hs2, hs3⟩ := h.swp hp
  refine ⟨h.n2, h.lay, h.kd, h.us, Nat.zero_le _, h.cll, h.c3, h.grs, h.grm, h.obj, fun _ a => ?_, fun h0 => by cases h0⟩
  show col s a = 0
  by_cases hc : col s a = 0
  · exact hc
  · obtain ⟨x, hx, hxa⟩ := h.obj a hc
    have := hno x hx
    exact hs3 a (by omega)
theorem turn_ok (h : GOk N s) (hp : s.ph = 1) (hg : s.gr = []) : GOk N { s with ph := 2, pl := 0 } :=
  ⟨h.n2, h.lay, h.kd, h.us, Nat.le_refl _, h.cll, h.c3, h.grs, h.grm, h.obj, fun h0 => (by cases h0), fun _ => ⟨hg, Nat.zero_le _, fun a ha => absurd ha (Nat.not_lt_zero _)⟩⟩
theorem begin_pre (h : GOk N s) (hp : s.ph = 0) : GOk N { s with ph := 1 } :=
  ⟨h.n2, h.lay, h.kd, h.us, by show 1 ≤ 2; omega, h.cll, h.c3, h.grs, h.grm, h.obj, fun h0 => (by cases h0), fun h0 => by cases h0⟩
/-- the ways of a step -/
theorem step_cases (h : GOk N s) : (s.ph = 0 ∧ stepG s = (false, s)) ∨ (s.ph = 1 ∧ ∃ a, s.gr.getLast? = some a ∧ stepG s = (false, markG s a)) ∨ (s.ph = 1 ∧ s.gr = [] ∧ stepG s = (false, { s with ph := 2, pl := 0 })) ∨
    (s.ph = 2 ∧ (∀ o ∈ s.L, ¬ s.pl ≤ o.a) ∧ nextA s.L s.pl = 0 ∧ stepG s = (true, { s with ph := 0 })) ∨ (s.ph = 2 ∧ ∃ o ∈ s.L, nextA s.L s.pl = o.a ∧ s.pl ≤ o.a ∧ (∀ o' ∈ s.L, s.pl ≤ o'.a → o.a ≤ o'.a) ∧ stepG s = (false, sweepG s o.a)) := by
  have hp := h.ph
  rcases (by omega : s.ph = 0 ∨ s.ph = 1 ∨ s.ph = 2) with h0 | h0 | h0
  · left
    refine ⟨h0, ?_⟩
    unfold stepG
    rw [if_neg (by omega), if_neg (by omega)]
  · right
    cases hg : s.gr.getLast? with
    | none =>
      right; left
      have : s.gr = [] := List.getLast?_eq_none_iff.1 hg
      refine ⟨h0, this, ?_⟩
      unfold stepG
      rw [if_pos h0, hg]
    | some a =>
      left
      refine ⟨h0, a, rfl, ?_⟩
      unfold stepG
      rw [if_pos h0, hg]
  · right; right; right
    rcases nextA_spec h.lay (s.pl : Int) with ⟨h1, h2⟩ | ⟨o, ho, h1, h2, h3⟩
    · left
      refine ⟨h0, fun o ho hc => h2 o ho (by omega), h1, ?_⟩
      unfold stepG
      rw [if_neg (by omega), if_pos h0, if_pos h1]
    · right
      have hlt := h.lt ⟨o, ho, rfl⟩
      refine ⟨h0, o, ho, h1, by omega, fun o' ho' hz => h3 o' ho' (by omega), ?_⟩
      unfold stepG
      rw [if_neg (by omega), if_pos h0, if_neg (by omega), h1, Int.toNat_natCast]
theorem step_ok (h : GOk N s) : GOk N (stepG s).2 := by
  rcases step_cases h with ⟨h0, e⟩ | ⟨h0, a, ha, e⟩ | ⟨h0, hg, e⟩ | ⟨h0, hno, h1, e⟩ | ⟨h0, o, ho, h1, h2, h3, e⟩ <;> rw [e]
  · exact h
  · exact (mark_ok h h0 ha).1
  · exact turn_ok h h0 hg
  · exact idle_ok h h0 hno
  · exact (sweep_ok h h0 ho h2 h3).1
theorem begin_ok (h : GOk N s) (roots : List Int) : GOk N (beginG s roots).2 := by
  unfold beginG
  split
  · rename_i h0
    exact (shades_ok (s := { s with ph := 1 }) rfl (begin_pre h h0) roots).1
  · exact h
theorem alloc_two (h : Lay N 1 L) (k z : Int) : (∃ e, e ≠ 0 ∧ allocA N L k z = (0, e, L)) ∨ ∃ (A B : List Ob) (kd sz : Nat), k = kd ∧ z = sz ∧ 1 ≤ kd ∧ kd ≤ 6 ∧ sz ≤ 4096 ∧ L = A ++ B ∧ allocA N L k z = (((endA 1 A : Nat) : Int), 0, A ++ newO kd sz (endA 1 A) :: B) ∧ Lay N 1 (A ++ newO kd sz (endA 1 A) :: B) := by
  unfold allocA
  split
  · exact .inl ⟨8, by decide, rfl⟩
  · split
    · exact .inl ⟨2, by decide, rfl⟩
    · have hl : ∀ p, (newO k.toNat z.toNat p).a = p ∧ (newO k.toNat z.toNat p).fs.length = z.toNat := fun p => ⟨rfl, List.length_replicate⟩
      rcases alloc_law hl h with ⟨h1, h2⟩ | ⟨i, at_, n, A, B, h1, h2, h3, h4, h5, h6, h7, h8, h9⟩
      · rw [h2]
        exact .inl ⟨6, by decide, rfl⟩
      · rw [h5]
        subst h8
        exact .inr ⟨A, B, k.toNat, z.toNat, by omega, by omega, by omega, by omega, by omega, h4, rfl, h7⟩
/-- laying an object: it fails, or there is one more, with its colour -/
theorem alloc_ok (h : GOk N s) (k z : Int) : (∃ e, e ≠ 0 ∧ allocG N s k z = (0, e, s)) ∨
    ∃ (s' : GS) (o : Ob), allocG N s k z = ((o.a : Int), 0, s') ∧ GOk N s' ∧ s'.ph = s.ph ∧ s'.pl = s.pl ∧ s'.gr = s.gr ∧ (o.kind : Int) = k ∧ (∀ x ∈ o.fs, x = 1) ∧ ¬ isO s.L o.a ∧ col s o.a = 0 ∧ (∀ x, x ∈ s'.L ↔ x = o ∨ x ∈ s.L) ∧
      (∀ b, b ≠ o.a → col s' b = col s b) ∧ col s' o.a = (if s.ph = 1 ∨ s.ph = 2 ∧ s.pl ≤ o.a then 2 else 0) := by
  unfold allocG
  rcases alloc_two h.lay k z with ⟨e, he, h1⟩ | ⟨A, B, kd, sz, rfl, rfl, hk1, hk2, hsz, hL, h1, h2⟩
  · left
    refine ⟨e, he, ?_⟩
    rw [h1]
    dsimp only
    rw [if_neg he]
  · right
    rw [h1]
    dsimp only
    rw [if_pos rfl]
    have hm := h2.mem (newO kd sz (endA 1 A)) (List.mem_append_right _ (List.mem_cons_self ..))
    have ha : (newO kd sz (endA 1 A)).a = endA 1 A := rfl
    have hk : (newO kd sz (endA 1 A)).kind = kd := rfl
    have hf : (newO kd sz (endA 1 A)).fs = List.replicate sz 1 := rfl
    have hsd := lay_sides h2
    generalize newO kd sz (endA 1 A) = o at *
    unfold Ob.fin at hm
    rw [← ha]
    have hno : ¬ isO s.L o.a := by
      rintro ⟨x, hx, hxa⟩
      rw [hL] at hx
      rcases List.mem_append.1 hx with hx | hx
      · have := hsd.1 x hx
        unfold Ob.fin at this
        omega
      · have := hsd.2.1 x hx
        unfold Ob.fin at this
        omega
    have hc0 : col s o.a = 0 := by
      by_cases hc : col s o.a = 0
      · exact hc
      · exact absurd (h.obj _ hc) hno
    have hLm : ∀ x, x ∈ A ++ o :: B ↔ x = o ∨ x ∈ s.L := fun x => by
      rw [hL]
      simp only [List.mem_append, List.mem_cons]
      constructor
      · rintro (h | h | h)
        · exact .inr (.inl h)
        · exact .inl h
        · exact .inr (.inr h)
      · rintro (h | h | h)
        · exact .inr (.inl h)
        · exact .inl h
        · exact .inr (.inr h)
    rw [Int.toNat_natCast]
    have hcol : ∀ b, col { s with L := A ++ o :: B, cl := if s.ph = 1 ∨ s.ph = 2 ∧ (s.pl : Int) ≤ (o.a : Int) then s.cl.set o.a 2 else s.cl } b = if o.a = b ∧ (s.ph = 1 ∨ s.ph = 2 ∧ s.pl ≤ o.a) then 2 else col s b := fun b => by
      by_cases hc : s.ph = 1 ∨ s.ph = 2 ∧ s.pl ≤ o.a
      · show (if s.ph = 1 ∨ s.ph = 2 ∧ (s.pl : Int) ≤ (o.a : Int) then s.cl.set o.a 2 else s.cl).getD b 0 = _
        rw [if_pos (by omega), col_set (by rw [h.cll]; omega)]
        by_cases hb : o.a = b
        · rw [if_pos hb, if_pos ⟨hb, hc⟩]
        · rw [if_neg hb, if_neg (fun h => hb h.1)]; rfl
      · show (if s.ph = 1 ∨ s.ph = 2 ∧ (s.pl : Int) ≤ (o.a : Int) then s.cl.set o.a 2 else s.cl).getD b 0 = _
        rw [if_neg (by omega), if_neg (fun h => hc h.2)]; rfl
    refine ⟨_, o, rfl, ⟨h.n2, h2, fun x hx => ?_, fun x hx y hy => ?_, h.ph, ?_, fun b => ?_, h.grs, fun b => ?_, fun b hb => ?_, fun h0 b => ?_, fun h0 => ?_⟩, rfl, rfl, rfl, by omega, fun x hx => ?_, hno, hc0, hLm, fun b hb => ?_, ?_⟩
    · rcases (hLm x).1 hx with rfl | hx
      · rw [hk, hf, List.length_replicate]; omega
      · exact h.kd x hx
    · rcases (hLm x).1 hx with rfl | hx
      · rw [hf] at hy
        rw [(List.mem_replicate.1 hy).2]
        exact ⟨by decide, by decide⟩
      · exact h.us x hx y hy
    · show (if s.ph = 1 ∨ s.ph = 2 ∧ (s.pl : Int) ≤ (o.a : Int) then s.cl.set o.a 2 else s.cl).length = N
      split
      · rw [List.length_set]; exact h.cll
      · exact h.cll
    · rw [hcol]; split
      · omega
      · exact h.c3 b
    · rw [hcol]
      show b ∈ s.gr ↔ _
      by_cases hb : o.a = b ∧ (s.ph = 1 ∨ s.ph = 2 ∧ s.pl ≤ o.a)
      · rw [if_pos hb]
        constructor
        · intro hg
          have := (h.grm b).1 hg
          rw [← hb.1] at this
          omega
        · intro hc; omega
      · rw [if_neg hb]
        exact h.grm b
    · rw [hcol] at hb
      split at hb
      · rename_i hh
        exact ⟨o, (hLm o).2 (.inl rfl), hh.1⟩
      · obtain ⟨x, hx, hxa⟩ := h.obj b hb
        exact ⟨x, (hLm x).2 (.inr hx), hxa⟩
    · rw [hcol, if_neg (by have : s.ph = 0 := h0; omega)]
      exact h.idle h0 b
    · obtain ⟨hs1, hs2, hs3⟩ := h.swp h0
      refine ⟨hs1, hs2, fun b hb => ?_⟩
      have hb' : b < s.pl := hb
      rw [hcol, if_neg (by have : s.ph = 2 := h0; omega)]
      exact hs3 b hb'
    · rw [hf] at hx
      exact (List.mem_replicate.1 hx).2
    · rw [hcol, if_neg (fun hh => hb hh.1.symm)]
    · rw [hcol, hc0]
      by_cases hc : s.ph = 1 ∨ s.ph = 2 ∧ s.pl ≤ o.a
      · rw [if_pos ⟨rfl, hc⟩, if_pos hc]
      · rw [if_neg (fun hh => hc hh.2), if_neg hc]
end
end Go.Proofs.Ytejpcidfigmnkaa
