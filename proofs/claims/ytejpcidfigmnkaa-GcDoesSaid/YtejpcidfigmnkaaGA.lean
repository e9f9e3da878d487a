/-
  A collector's state, and what its calls do (plain law). Conditions: none.
-/
import Derived.Test.YtejpcidfigmnkaaPD
namespace Go.Proofs.Ytejpcidfigmnkaa
set_option linter.unusedVariables false
/-- a word, as the machine has it -/
def U (x : Int) : Prop := 0 ≤ x ∧ x < 18446744073709551616
def numW (x : Int) : Bool := decide (x % 2 = 1)
def addrW (x : Int) : Int := if x % 2 = 1 ∨ 2147483647 < x / 2 then 0 else x / 2
def addrN (x : Int) : Nat := (addrW x).toNat
theorem addr_nonneg {x : Int} (h : U x) : 0 ≤ addrW x := by
  unfold addrW
  split
  · exact Int.le_refl _
  · have := h.1; omega
theorem addrN_eq {x : Int} (h : U x) : (addrN x : Int) = addrW x := Int.toNat_of_nonneg (addr_nonneg h)
structure GS where
  ph : Nat
  L : List Ob
  cl : List Nat
  gr : List Nat
  pl : Nat
/-- is an object there? -/
def isO (L : List Ob) (a : Nat) : Prop := ∃ o ∈ L, o.a = a
def col (s : GS) (a : Nat) : Nat := s.cl.getD a 0
def whiteG (s : GS) (a : Nat) : Bool := isA s.L (a : Int) && (col s a == 0)
/-- where an address stands among falling ones -/
def insF (gr : List Nat) (t : Nat) : List Nat := gr.filter (fun a => decide (t < a)) ++ t :: gr.filter (fun a => !decide (t < a))
def shadeG (s : GS) (x : Int) : GS := if numW x = true ∨ whiteG s (addrN x) = false then s else { s with cl := s.cl.set (addrN x) 1, gr := insF s.gr (addrN x) }
def fsA (L : List Ob) (a : Nat) : List Int := match findA L a with
  | some o => o.fs
  | none => []
def kdA (L : List Ob) (a : Nat) : Nat := match findA L a with
  | some o => o.kind
  | none => 0
def blackG (s : GS) (a : Nat) : GS := { s with cl := s.cl.set a 2, gr := s.gr.dropLast }
def markG (s : GS) (a : Nat) : GS := if kdA s.L a = 1 then blackG s a else (fsA s.L a).foldl shadeG (blackG s a)
def delA (L : List Ob) (a : Nat) : List Ob := L.filter fun o => !decide ((o.a : Int) = (a : Int))
def sweepG (s : GS) (a : Nat) : GS := { s with L := if col s a = 0 then delA s.L a else s.L, cl := s.cl.set a 0, pl := a + 1 }
def stepG (s : GS) : Bool × GS :=
  if s.ph = 1 then match s.gr.getLast? with
    | some a => (false, markG s a)
    | none => (false, { s with ph := 2, pl := 0 })
  else if s.ph = 2 then (if nextA s.L s.pl = 0 then (true, { s with ph := 0 }) else (false, sweepG s (nextA s.L s.pl).toNat))
  else (false, s)
def beginG (s : GS) (roots : List Int) : Int × GS := if s.ph = 0 then (0, roots.foldl shadeG { s with ph := 1 }) else (9, s)
def allocG (N : Nat) (s : GS) (k z : Int) : Int × Int × GS :=
  let r := allocA N s.L k z
  if r.2.1 = 0 then (r.1, 0, { s with L := r.2.2, cl := if s.ph = 1 ∨ s.ph = 2 ∧ (s.pl : Int) ≤ r.1 then s.cl.set r.1.toNat 2 else s.cl }) else (0, r.2.1, s)
def writeG (s : GS) (z i x : Int) : Int × GS :=
  if (getA s.L z i).2 = 0 then
    let s1 := if s.ph = 1 ∧ kdA s.L z.toNat ≠ 1 then shadeG s (getA s.L z i).1 else s
    (0, { s1 with L := (setA s.L z i x).2 })
  else ((getA s.L z i).2, s)
theorem isO_iff {L : List Ob} {a : Nat} : isA L (a : Int) = true ↔ isO L a := by
  rw [isA_iff]
  exact ⟨fun ⟨o, h1, h2⟩ => ⟨o, h1, by omega⟩, fun ⟨o, h1, h2⟩ => ⟨o, h1, by omega⟩⟩
instance {L : List Ob} {a : Nat} : Decidable (isO L a) := decidable_of_iff (isA L (a : Int) = true) isO_iff
/-- what holds of a collector -/
structure GOk (N : Nat) (s : GS) : Prop where
  n2 : 2 ≤ N ∧ N ≤ 65536
  lay : Lay N 1 s.L
  kd : ∀ o ∈ s.L, 1 ≤ o.kind ∧ o.fs.length ≤ 4096
  us : ∀ o ∈ s.L, ∀ x ∈ o.fs, U x
  ph : s.ph ≤ 2
  cll : s.cl.length = N
  c3 : ∀ a, col s a ≤ 2
  grs : s.gr.Pairwise (· > ·)
  grm : ∀ a, a ∈ s.gr ↔ col s a = 1
  obj : ∀ a, col s a ≠ 0 → isO s.L a
  idle : s.ph = 0 → ∀ a, col s a = 0
  swp : s.ph = 2 → s.gr = [] ∧ s.pl ≤ N ∧ ∀ a, a < s.pl → col s a = 0
section
variable {N : Nat} {s : GS} {L : List Ob}
theorem whiteG_iff {a : Nat} : whiteG s a = true ↔ isO s.L a ∧ col s a = 0 := by
  unfold whiteG
  rw [Bool.and_eq_true, isO_iff, beq_iff_eq]
theorem col_set {cl : List Nat} {a b c : Nat} (h : a < cl.length) : (cl.set a c).getD b 0 = if a = b then c else cl.getD b 0 := by
  by_cases hab : a = b
  · subst hab
    rw [if_pos rfl]
    simp [List.getD_eq_getElem?_getD, List.getElem?_set_self h]
  · rw [if_neg hab]
    simp [List.getD_eq_getElem?_getD, List.getElem?_set_ne hab]
theorem isO_lt {p a : Nat} (h : Lay N p L) (ho : isO L a) : p ≤ a ∧ a < N := by
  obtain ⟨o, h1, rfl⟩ := ho
  have := h.mem o h1
  unfold Ob.fin at this
  omega
theorem GOk.lt (h : GOk N s) {a : Nat} (ho : isO s.L a) : 1 ≤ a ∧ a < N := isO_lt h.lay ho
theorem insF_mem {gr : List Nat} {t a : Nat} : a ∈ insF gr t ↔ a = t ∨ a ∈ gr := by
  unfold insF
  simp only [List.mem_append, List.mem_cons, List.mem_filter, decide_eq_true_eq, Bool.not_eq_true', decide_eq_false_iff_not]
  constructor
  · rintro (⟨h, _⟩ | rfl | ⟨h, _⟩)
    · exact .inr h
    · exact .inl rfl
    · exact .inr h
  · rintro (rfl | h)
    · exact .inr (.inl rfl)
    · by_cases ht : t < a
      · exact .inl ⟨h, ht⟩
      · exact .inr (.inr ⟨h, ht⟩)
theorem insF_sorted {gr : List Nat} {t : Nat} (h : gr.Pairwise (· > ·)) (ht : t ∉ gr) : (insF gr t).Pairwise (· > ·) := by
  unfold insF
  rw [List.pairwise_append, List.pairwise_cons]
  refine ⟨h.filter _, ⟨fun a ha => ?_, h.filter _⟩, fun a ha b hb => ?_⟩
  · simp only [List.mem_filter, Bool.not_eq_true', decide_eq_false_iff_not] at ha
    have : a ≠ t := fun he => ht (he ▸ ha.1)
    have := ha.2
    show t > a
    omega
  · simp only [List.mem_filter, decide_eq_true_eq] at ha
    rcases List.mem_cons.1 hb with rfl | hb
    · exact ha.2
    · simp only [List.mem_filter, Bool.not_eq_true', decide_eq_false_iff_not] at hb
      show a > b
      have := ha.2
      have := hb.2
      omega
theorem insF_len {gr : List Nat} {t : Nat} : (insF gr t).length = gr.length + 1 := by
  unfold insF
  induction gr with
  | nil => rfl
  | cons a gr ih =>
    rw [List.length_append, List.length_cons] at ih ⊢
    by_cases h : t < a
    · rw [List.filter_cons_of_pos (by simpa using h), List.filter_cons_of_neg (by simpa using h), List.length_cons, List.length_cons]
      omega
    · rw [List.filter_cons_of_neg (by simpa using h), List.filter_cons_of_pos (by simpa using h), List.length_cons, List.length_cons]
      omega
/-- shading: what it does to colours -/
theorem shade_L (s : GS) (x : Int) : (shadeG s x).L = s.L ∧ (shadeG s x).ph = s.ph ∧ (shadeG s x).pl = s.pl ∧ (shadeG s x).cl.length = s.cl.length := by
  unfold shadeG
  split
  · exact ⟨rfl, rfl, rfl, rfl⟩
  · exact ⟨rfl, rfl, rfl, List.length_set⟩
theorem shade_col (h : GOk N s) (x : Int) (a : Nat) : col (shadeG s x) a = if numW x = false ∧ addrN x = a ∧ isO s.L a ∧ col s a = 0 then 1 else col s a := by
  unfold shadeG
  split
  · rename_i hc
    rw [if_neg]
    rintro ⟨h1, rfl, h2, h3⟩
    rcases hc with hc | hc
    · rw [h1] at hc; cases hc
    · rw [whiteG_iff.2 ⟨h2, h3⟩] at hc; cases hc
  · rename_i hc
    obtain ⟨h1, h2⟩ : numW x = false ∧ whiteG s (addrN x) = true := by
      cases hn : numW x <;> cases hw : whiteG s (addrN x) <;> simp_all
    rw [whiteG_iff] at h2
    have hl := h.lt h2.1
    show (s.cl.set (addrN x) 1).getD a 0 = _
    rw [col_set (by rw [h.cll]; exact hl.2)]
    by_cases ha : addrN x = a
    · subst ha
      rw [if_pos rfl, if_pos ⟨h1, rfl, h2⟩]
    · rw [if_neg ha, if_neg (fun h => ha h.2.1)]
      rfl
theorem shade_gr (h : GOk N s) (hp : s.ph = 1) (x : Int) : GOk N (shadeG s x) := by
  obtain ⟨e1, e2, e3, e4⟩ := shade_L s x
  have hcol := shade_col h x
  by_cases hc : numW x = true ∨ whiteG s (addrN x) = false
  · have : shadeG s x = s := if_pos hc
    rw [this]; exact h
  obtain ⟨h1, h2⟩ : numW x = false ∧ whiteG s (addrN x) = true := by
    cases hn : numW x <;> cases hw : whiteG s (addrN x) <;> simp_all
  rw [whiteG_iff] at h2
  have hgr : (shadeG s x).gr = insF s.gr (addrN x) := by unfold shadeG; rw [if_neg hc]
  have hnot : addrN x ∉ s.gr := fun hm => by have := (h.grm _).1 hm; omega
  refine ⟨h.n2, by rw [e1]; exact h.lay, by rw [e1]; exact h.kd, by rw [e1]; exact h.us, by rw [e2]; exact h.ph, by rw [e4]; exact h.cll, fun a => ?_, by rw [hgr]; exact insF_sorted h.grs hnot, fun a => ?_, fun a ha => ?_, fun h0 => ?_, fun h0 => ?_⟩
  · rw [hcol]; split
    · omega
    · exact h.c3 a
  · rw [hgr, insF_mem, hcol]
    constructor
    · rintro (rfl | hm)
      · rw [if_pos ⟨h1, rfl, h2⟩]
      · have := (h.grm a).1 hm
        rw [if_neg (by rintro ⟨_, _, _, h0⟩; omega)]
        exact this
    · split
      · rename_i hh; intro _; exact .inl hh.2.1.symm
      · intro hm; exact .inr ((h.grm a).2 hm)
  · rw [e1]
    rw [hcol] at ha
    split at ha
    · rename_i hh; exact hh.2.2.1
    · exact h.obj a ha
  · rw [e2] at h0; omega
  · rw [e2] at h0; omega
theorem shades_ok (hp : s.ph = 1) (h : GOk N s) : ∀ (xs : List Int), GOk N (xs.foldl shadeG s) ∧ (xs.foldl shadeG s).L = s.L ∧ (xs.foldl shadeG s).ph = 1 ∧ (xs.foldl shadeG s).pl = s.pl ∧
    (∀ a, (col s a ≠ 0 → col (xs.foldl shadeG s) a = col s a) ∧ (col (xs.foldl shadeG s) a ≠ 0 → col s a ≠ 0 ∨ (col (xs.foldl shadeG s) a = 1 ∧ isO s.L a ∧ ∃ x ∈ xs, numW x = false ∧ addrN x = a)) ∧
      (isO s.L a → (∃ x ∈ xs, numW x = false ∧ addrN x = a) → col (xs.foldl shadeG s) a ≠ 0)) := by
  intro xs
  induction xs generalizing s with
  | nil => exact ⟨h, rfl, hp, rfl, fun a => ⟨fun _ => rfl, fun h => .inl h, fun _ ⟨x, hx, _⟩ => absurd hx (List.not_mem_nil)⟩⟩
  | cons x xs ih =>
    obtain ⟨e1, e2, e3, e4⟩ := shade_L s x
    have hcol := shade_col h x
    obtain ⟨g1, g2, g3, g4, g5⟩ := ih (s := shadeG s x) (by rw [e2]; exact hp) (shade_gr h hp x)
    rw [List.foldl_cons]
    refine ⟨g1, g2.trans e1, g3, g4.trans e3, fun a => ?_⟩
    obtain ⟨k1, k2, k3⟩ := g5 a
    rw [hcol] at k1 k2
    rw [e1] at k2 k3
    refine ⟨fun ha => ?_, fun ha => ?_, fun hO hx => ?_⟩
    · rw [if_neg (fun hh => ha hh.2.2.2)] at k1
      exact k1 ha
    · rcases k2 ha with h1 | ⟨h1, h2, y, hy, h3⟩
      · by_cases hh : numW x = false ∧ addrN x = a ∧ isO s.L a ∧ col s a = 0
        · rw [if_pos hh] at k1
          exact .inr ⟨k1 (by decide), hh.2.2.1, x, List.mem_cons_self .., hh.1, hh.2.1⟩
        · rw [if_neg hh] at h1
          exact .inl h1
      · exact .inr ⟨h1, h2, y, List.mem_cons_of_mem _ hy, h3⟩
    · obtain ⟨y, hy, h1, h2⟩ := hx
      rcases List.mem_cons.1 hy with rfl | hy
      · by_cases h0 : col s a = 0
        · rw [if_pos ⟨h1, h2, hO, h0⟩] at k1
          rw [k1 (by decide)]
          decide
        · rw [if_neg (fun hh => h0 hh.2.2.2)] at k1
          rw [k1 h0]
          exact h0
      · exact k3 hO ⟨y, hy, h1, h2⟩
end
end Go.Proofs.Ytejpcidfigmnkaa
