/-
  A field is written: what it does to what is kept (plain law). Conditions: none.
-/
import Derived.Test.YtejpcidfigmnkaaGD
namespace Go.Proofs.Ytejpcidfigmnkaa
set_option linter.unusedVariables false
section
variable {N : Nat} {s : GS} {L : List Ob}
theorem get_cases (hl : Lay N 1 L) (z i : Int) (x : Int) : (∃ e, e ≠ 0 ∧ getA L z i = (0, e) ∧ setA L z i x = (e, L)) ∨ ∃ (o : Ob) (j : Nat) (y : Int), o ∈ L ∧ z = (o.a : Int) ∧ i = (j : Int) ∧ o.fs[j]? = some y ∧ getA L z i = (y, 0) ∧ setA L z i x = (0, setL L o.a j x) := by
  unfold getA setA
  cases ho : objA L z with
  | none => exact .inl ⟨7, by decide, rfl, rfl⟩
  | some o =>
    obtain ⟨h1, h2⟩ := objA_some ho
    dsimp only
    by_cases hir : 0 ≤ i ∧ i < (o.fs.length : Int)
    · rw [if_pos hir, if_pos hir]
      obtain ⟨j, rfl⟩ : ∃ j : Nat, i = j := ⟨i.toNat, by omega⟩
      obtain ⟨y, hy⟩ : ∃ y, o.fs[j]? = some y := ⟨_, List.getElem?_eq_getElem (by omega)⟩
      right
      refine ⟨o, j, y, h1, h2.symm, rfl, hy, ?_, ?_⟩
      · rw [Int.toNat_natCast, List.getD_eq_getElem?_getD, hy]; rfl
      · rw [Int.toNat_natCast, ← h2]
    · rw [if_neg hir, if_neg hir]
      exact .inl ⟨2, by decide, rfl, rfl⟩
theorem setL_mem {z : Int} {j : Nat} {v : Int} {x : Ob} : x ∈ setL L z j v ↔ ∃ y ∈ L, x = if (y.a : Int) = z then { y with fs := y.fs.set j v } else y := by
  unfold setL
  rw [List.mem_map]
  exact ⟨fun ⟨y, h1, h2⟩ => ⟨y, h1, h2.symm⟩, fun ⟨y, h1, h2⟩ => ⟨y, h1, h2.symm⟩⟩
theorem setL_a {z : Int} {j : Nat} {v : Int} (y : Ob) : (if (y.a : Int) = z then { y with fs := y.fs.set j v } else y).a = y.a ∧ (if (y.a : Int) = z then { y with fs := y.fs.set j v } else y).kind = y.kind ∧ (if (y.a : Int) = z then { y with fs := y.fs.set j v } else y).fs.length = y.fs.length := by
  split <;> simp
theorem isO_set {z : Int} {j : Nat} {v : Int} {a : Nat} : isO (setL L z j v) a ↔ isO L a := by
  constructor
  · rintro ⟨x, hx, hxa⟩
    obtain ⟨y, hy, rfl⟩ := setL_mem.1 hx
    exact ⟨y, hy, by rw [← hxa]; exact (setL_a y).1.symm⟩
  · rintro ⟨y, hy, hya⟩
    exact ⟨_, setL_mem.2 ⟨y, hy, rfl⟩, by rw [(setL_a y).1]; exact hya⟩
theorem kindO_set {z : Int} {j : Nat} {v : Int} {a k : Nat} (h : kindO L a k) : kindO (setL L z j v) a k := by
  obtain ⟨y, hy, hya, hyk⟩ := h
  exact ⟨_, setL_mem.2 ⟨y, hy, rfl⟩, by rw [(setL_a y).1]; exact hya, by rw [(setL_a y).2.1]; exact hyk⟩
theorem E_set_old (hl : Lay N 1 L) {o : Ob} (ho : o ∈ L) {j : Nat} {v y : Int} (hy : o.fs[j]? = some y) {a b : Nat} (h : E L a b) : E (setL L o.a j v) a b ∨ (a = o.a ∧ o.kind ≠ 1 ∧ numW y = false ∧ addrN y = b) := by
  obtain ⟨h1, p, hp, hpa, hpk, x, hx, hxn, hxb⟩ := h
  by_cases hpo : p.a = o.a
  · obtain rfl := hl.inj p hp o ho hpo
    obtain ⟨k, hk⟩ := List.getElem?_of_mem hx
    by_cases hkj : k = j
    · subst hkj
      rw [hy] at hk
      obtain rfl := Option.some.inj hk
      exact .inr ⟨hpa.symm, hpk, hxn, hxb⟩
    · left
      refine ⟨isO_set.2 h1, _, setL_mem.2 ⟨p, hp, rfl⟩, by rw [(setL_a p).1]; exact hpa, by rw [(setL_a p).2.1]; exact hpk, x, ?_, hxn, hxb⟩
      rw [if_pos rfl]
      refine List.mem_of_getElem? (i := k) ?_
      show (p.fs.set j v)[k]? = some x
      rw [List.getElem?_set_ne (by omega), hk]
  · left
    refine ⟨isO_set.2 h1, p, setL_mem.2 ⟨p, hp, by rw [if_neg (by omega)]⟩, hpa, hpk, x, hx, hxn, hxb⟩
theorem E_set_new {z : Int} {j : Nat} {v : Int} {a b : Nat} (h : E (setL L z j v) a b) : E L a b ∨ ((a : Int) = z ∧ numW v = false ∧ addrN v = b ∧ isO L b) := by
  obtain ⟨h1, p, hp, hpa, hpk, x, hx, hxn, hxb⟩ := h
  obtain ⟨y, hy, rfl⟩ := setL_mem.1 hp
  rw [isO_set] at h1
  rw [(setL_a y).1] at hpa
  rw [(setL_a y).2.1] at hpk
  by_cases hz : (y.a : Int) = z
  · rw [if_pos hz] at hx
    rcases List.mem_or_eq_of_mem_set hx with h3 | h3
    · exact .inl ⟨h1, y, hy, hpa, hpk, x, h3, hxn, hxb⟩
    · subst h3
      exact .inr ⟨by rw [← hpa]; exact hz, hxn, hxb, h1⟩
  · rw [if_neg hz] at hx
    exact .inl ⟨h1, y, hy, hpa, hpk, x, hx, hxn, hxb⟩
/-- a write: it fails, or there is what was shaded, and the field -/
theorem write_cases (h : GOk N s) (z i x : Int) : (∃ e, e ≠ 0 ∧ writeG s z i x = (e, s)) ∨ ∃ (o : Ob) (j : Nat) (y : Int) (s1 : GS), o ∈ s.L ∧ z = (o.a : Int) ∧ i = (j : Int) ∧ o.fs[j]? = some y ∧
    s1 = (if s.ph = 1 ∧ o.kind ≠ 1 then shadeG s y else s) ∧ writeG s z i x = (0, { s1 with L := setL s.L o.a j x }) := by
  unfold writeG
  rcases get_cases h.lay z i x with ⟨e, he, h1, h2⟩ | ⟨o, j, y, ho, rfl, rfl, hy, h1, h2⟩
  · left
    rw [h1]
    dsimp only
    rw [if_neg he]
    exact ⟨e, he, rfl⟩
  · right
    rw [h1, h2]
    dsimp only
    rw [if_pos rfl, Int.toNat_natCast, (fsA_at h.lay ho).2]
    exact ⟨o, j, y, _, ho, rfl, rfl, hy, rfl, rfl⟩
theorem shaded_ok (h : GOk N s) {o : Ob} {y : Int} {s1 : GS} (h1 : s1 = (if s.ph = 1 ∧ o.kind ≠ 1 then shadeG s y else s)) : GOk N s1 ∧ s1.L = s.L ∧ s1.ph = s.ph ∧ s1.pl = s.pl := by
  subst h1
  split
  · rename_i hc
    obtain ⟨e1, e2, e3, e4⟩ := shade_L s y
    exact ⟨shade_gr h hc.1 y, e1, e2, e3⟩
  · exact ⟨h, rfl, rfl, rfl⟩
theorem set_ok {s1 : GS} (h : GOk N s1) {z : Int} {j : Nat} {x : Int} (hU : U x) : GOk N { s1 with L := setL s1.L z j x } where
  n2 := h.n2
  lay := (alike_set z j x).lay.2 h.lay
  kd := fun o ho => by
    obtain ⟨y, hy, rfl⟩ := setL_mem.1 ho
    rw [(setL_a y).2.1, (setL_a y).2.2]
    exact h.kd y hy
  us := fun o ho u hu => by
    obtain ⟨y, hy, rfl⟩ := setL_mem.1 ho
    split at hu
    · rcases List.mem_or_eq_of_mem_set hu with h3 | h3
      · exact h.us y hy u h3
      · subst h3; exact hU
    · exact h.us y hy u hu
  ph := h.ph
  cll := h.cll
  c3 := h.c3
  grs := h.grs
  grm := h.grm
  obj := fun a ha => isO_set.2 (h.obj a ha)
  idle := h.idle
  swp := h.swp
theorem write_ok (h : GOk N s) (z i : Int) {x : Int} (hU : U x) : GOk N (writeG s z i x).2 ∧ (writeG s z i x).2.ph = s.ph ∧ (writeG s z i x).2.pl = s.pl := by
  rcases write_cases h z i x with ⟨e, he, h1⟩ | ⟨o, j, y, s1, ho, rfl, rfl, hy, h1, h2⟩
  · rw [h1]; exact ⟨h, rfl, rfl⟩
  · rw [h2]
    obtain ⟨k1, k2, k3, k4⟩ := shaded_ok h h1
    rw [← k2]
    exact ⟨set_ok k1 hU, k3, k4⟩
theorem write_mu (h : GOk N s) (z i x : Int) : mu N (writeG s z i x).2 ≤ mu N s := by
  rcases write_cases h z i x with ⟨e, he, h1⟩ | ⟨o, j, y, s1, ho, rfl, rfl, hy, h1, h2⟩
  · rw [h1]; exact Nat.le_refl _
  · rw [h2]
    obtain ⟨k1, k2, k3, k4⟩ := shaded_ok h h1
    have e : mu N { s1 with L := setL s.L o.a j x } = mu N s1 := rfl
    show mu N { s1 with L := setL s.L o.a j x } ≤ mu N s
    rw [e]
    unfold mu
    rw [k3, k4]
    split
    · have : nb N s1 ≤ nb N s := nb_le fun a ha => by
        subst h1
        split
        · rw [shade_col h, if_neg (by rintro ⟨_, _, _, h0⟩; omega)]; exact ha
        · exact ha
      omega
    · exact Nat.le_refl _
theorem GP_set (h : GOk N s) {o : Ob} {j : Nat} {y x : Int} {s1 : GS} (ho : o ∈ s.L) (hy : o.fs[j]? = some y) (h1 : s1 = (if s.ph = 1 ∧ o.kind ≠ 1 then shadeG s y else s)) (h0 : s.ph = 1) {a : Nat} (hP : GP s1 a) : GP { s1 with L := setL s.L o.a j x } a := by
  obtain ⟨k1, k2, k3, k4⟩ := shaded_ok h h1
  induction hP with
  | grey hc => exact .grey hc
  | @via a b _ hE hc ih =>
    rw [k2] at hE
    rcases E_set_old (v := x) h.lay ho hy hE with hE' | ⟨e1, e2, e3, e4⟩
    · exact .via ih hE' hc
    · exfalso
      subst h1
      rw [if_pos ⟨h0, e2⟩, shade_col h] at hc
      split at hc
      · cases hc
      · rename_i hh
        exact hh ⟨e3, e4, hE.1, hc⟩
theorem Pt_write (h : GOk N s) (z i x : Int) {a k : Nat} (hP : Pt s a) (hk : kindO s.L a k) : Pt (writeG s z i x).2 a ∧ kindO (writeG s z i x).2.L a k := by
  rcases write_cases h z i x with ⟨e, he, h1⟩ | ⟨o, j, y, s1, ho, rfl, rfl, hy, h1, h2⟩
  · rw [h1]; exact ⟨hP, hk⟩
  · rw [h2]
    obtain ⟨k1, k2, k3, k4⟩ := shaded_ok h h1
    refine ⟨⟨isO_set.2 hP.1, ?_⟩, kindO_set hk⟩
    show s1.ph = 0 ∨ (s1.ph = 1 ∧ (col s1 a = 2 ∨ GP { s1 with L := setL s.L o.a j x } a)) ∨ (s1.ph = 2 ∧ (a < s1.pl ∨ col s1 a = 2))
    rcases hP.2 with h0 | ⟨h0, hP⟩ | ⟨h0, hP⟩
    · exact .inl (k3.trans h0)
    · right; left
      refine ⟨k3.trans h0, ?_⟩
      rcases hP with hP | hP
      · left
        subst h1
        split
        · rw [shade_col h, if_neg (by rintro ⟨_, _, _, h0⟩; omega)]; exact hP
        · exact hP
      · right
        have hP1 : GP s1 a := by
          subst h1
          split
          · exact GP_shade h y hP
          · exact hP
        exact GP_set h ho hy h1 h0 hP1
    · right; right
      refine ⟨k3.trans h0, ?_⟩
      rw [k4]
      rw [if_neg (by omega)] at h1
      subst h1
      exact hP
end
end Go.Proofs.Ytejpcidfigmnkaa
