/-
  A heap as a row of objects, and the free runs between them (plain law). Conditions: none.
-/
namespace Go.Proofs.Ytejpcidfigmnkaa
set_option linter.unusedVariables false
structure Ob where
  a : Nat
  kind : Nat
  fs : List Int
def Ob.fin (o : Ob) : Nat := o.a + 1 + o.fs.length
/-- from p on the objects lie one behind the other, within N cells -/
def Lay (N : Nat) : Nat → List Ob → Prop
  | p, [] => p ≤ N
  | p, o :: L => p ≤ o.a ∧ Lay N o.fin L
def gap1 (p e : Nat) : List (Int × Int) := if p < e then [((p : Int), ((e - p : Nat) : Int))] else []
/-- the free runs -/
def gaps (N : Nat) : Nat → List Ob → List (Int × Int)
  | p, [] => gap1 p N
  | p, o :: L => gap1 p o.a ++ gaps N o.fin L
theorem gaps_cons (N p : Nat) (o : Ob) (L : List Ob) : gaps N p (o :: L) = gap1 p o.a ++ gaps N o.fin L := rfl
theorem gap1_pos {p e : Nat} (h : p < e) : gap1 p e = [((p : Int), ((e - p : Nat) : Int))] := if_pos h
theorem gap1_nil {p e : Nat} (h : ¬ p < e) : gap1 p e = [] := if_neg h
/-- the first that is great enough -/
def ff (size : Nat) : List (Int × Int) → Option Nat
  | [] => none
  | r :: l => if (size : Int) < r.2 then some 0 else (ff size l).map (· + 1)
/-- an object more, at the least place -/
def insA (N size : Nat) (new : Nat → Ob) : Nat → List Ob → Option (Nat × List Ob)
  | p, [] => if size < N - p then some (p, [new p]) else none
  | p, o :: L => if size < o.a - p then some (p, new p :: o :: L) else (insA N size new o.fin L).map fun r => (r.1, o :: r.2)
/-- a run is cut -/
def cutR (fr : List (Int × Int)) (i : Nat) (at_ n size : Nat) : List (Int × Int) :=
  if n = size + 1 then fr.eraseIdx i else fr.set i ((at_ + size + 1 : Nat), ((n - (size + 1) : Nat) : Int))
section
variable {N : Nat}
theorem Lay.le : ∀ {L : List Ob} {p : Nat}, Lay N p L → p ≤ N
  | [], _, h => h
  | o :: L, p, h => by
    have h1 := h.1
    have h2 := Lay.le h.2
    unfold Ob.fin at h2
    omega
theorem Lay.mono : ∀ {L : List Ob} {p q : Nat}, Lay N p L → q ≤ p → Lay N q L
  | [], _, _, h, hq => Nat.le_trans hq h
  | o :: L, p, q, h, hq => ⟨Nat.le_trans hq h.1, h.2⟩
theorem Lay.append : ∀ {A B : List Ob} {p : Nat}, Lay N p (A ++ B) ↔ ∃ q, Lay q p A ∧ Lay N q B ∧ ∀ q', Lay q' p A → q ≤ q'
  | [], B, p => ⟨fun h => ⟨p, Nat.le_refl _, h, fun q' h => h⟩, fun ⟨q, h1, h2, _⟩ => h2.mono h1⟩
  | a :: A, B, p => by
    constructor
    · intro h
      obtain ⟨q, h1, h2, h3⟩ := Lay.append.1 h.2
      exact ⟨q, ⟨h.1, h1⟩, h2, fun q' h' => h3 q' h'.2⟩
    · rintro ⟨q, h1, h2, h3⟩
      exact ⟨h1.1, Lay.append.2 ⟨q, h1.2, h2, fun q' h' => h3 q' ⟨h1.1, h'⟩⟩⟩
/-- where the objects end -/
def endA : Nat → List Ob → Nat
  | p, [] => p
  | _, o :: L => endA o.fin L
/-- the free runs ahead of objects -/
def gin : Nat → List Ob → List (Int × Int)
  | _, [] => []
  | p, o :: L => gap1 p o.a ++ gin o.fin L
def nxt (N : Nat) : List Ob → Nat
  | [] => N
  | o :: _ => o.a
def gtl (N : Nat) : List Ob → List (Int × Int)
  | [] => []
  | o :: L => gaps N o.fin L
theorem gaps_head (p : Nat) (L : List Ob) : gaps N p L = gap1 p (nxt N L) ++ gtl N L := by
  cases L <;> simp [gaps, nxt, gtl]
theorem gaps_append : ∀ (A B : List Ob) (p : Nat), gaps N p (A ++ B) = gin p A ++ gaps N (endA p A) B
  | [], B, p => by simp [gin, endA]
  | a :: A, B, p => by simp [gaps, gin, endA, gaps_append A B]
theorem Lay.split : ∀ {A B : List Ob} {p : Nat}, Lay N p (A ++ B) → Lay (endA p A) p A ∧ Lay N (endA p A) B
  | [], B, p, h => ⟨Nat.le_refl _, h⟩
  | a :: A, B, p, h => by
    obtain ⟨h1, h2⟩ := Lay.split h.2
    exact ⟨⟨h.1, h1⟩, h2⟩
theorem Lay.join : ∀ {A B : List Ob} {p : Nat}, Lay (endA p A) p A → Lay N (endA p A) B → Lay N p (A ++ B)
  | [], B, p, _, h => h
  | a :: A, B, p, h, h' => ⟨h.1, Lay.join h.2 h'⟩
theorem nxt_le {L : List Ob} {p : Nat} (h : Lay N p L) : p ≤ nxt N L ∧ nxt N L ≤ N := by
  cases L with
  | nil => exact ⟨h, Nat.le_refl _⟩
  | cons o L =>
    refine ⟨h.1, ?_⟩
    have := h.2.le
    unfold Ob.fin at this
    show o.a ≤ N
    omega
/-- what lies in the runs: they rise, and have cells -/
theorem gaps_mem : ∀ {L : List Ob} {p : Nat}, Lay N p L → ∀ r ∈ gaps N p L, (p : Int) ≤ r.1 ∧ 0 < r.2 ∧ r.1 + r.2 ≤ N
  | [], p, h, r, hr => by
    unfold gaps gap1 at hr
    split at hr
    · obtain rfl : r = ((p : Int), ((N - p : Nat) : Int)) := by simpa using hr
      exact ⟨Int.le_refl _, by dsimp only; omega, by dsimp only; omega⟩
    · simp at hr
  | o :: L, p, h, r, hr => by
    have h2 := h.2.le
    unfold gaps at hr
    rcases List.mem_append.1 hr with hr | hr
    · unfold gap1 at hr
      split at hr
      · obtain rfl : r = ((p : Int), ((o.a - p : Nat) : Int)) := by simpa using hr
        unfold Ob.fin at h2
        exact ⟨Int.le_refl _, by dsimp only; omega, by dsimp only; omega⟩
      · simp at hr
    · have h3 := gaps_mem h.2 r hr
      have h1 := h.1
      unfold Ob.fin at h3
      exact ⟨by omega, h3.2⟩
theorem gin_mem : ∀ {A : List Ob} {p : Nat}, Lay (endA p A) p A → ∀ r ∈ gin p A, (p : Int) ≤ r.1 ∧ 0 < r.2 ∧ r.1 + r.2 < endA p A
  | [], p, h, r, hr => by simp [gin] at hr
  | o :: L, p, h, r, hr => by
    have h2 := h.2.le
    have h1 := h.1
    unfold gin at hr
    show (p : Int) ≤ r.1 ∧ 0 < r.2 ∧ r.1 + r.2 < endA o.fin L
    rcases List.mem_append.1 hr with hr | hr
    · unfold gap1 at hr
      split at hr
      · obtain rfl : r = ((p : Int), ((o.a - p : Nat) : Int)) := by simpa using hr
        have h3 : endA p (o :: L) = endA o.fin L := rfl
        rw [h3] at h2
        unfold Ob.fin at h2 ⊢
        exact ⟨Int.le_refl _, by dsimp only; omega, by dsimp only; omega⟩
      · simp at hr
    · have h3 := gin_mem h.2 r hr
      unfold Ob.fin at h3 ⊢
      exact ⟨by omega, h3.2⟩
/-- an object finds room, or there is none -/
theorem alloc_law {size : Nat} {new : Nat → Ob} (hnew : ∀ p, (new p).a = p ∧ (new p).fs.length = size) : ∀ {L : List Ob} {p : Nat}, Lay N p L →
    (ff size (gaps N p L) = none ∧ insA N size new p L = none) ∨
    ∃ (i at_ n : Nat) (A B : List Ob), ff size (gaps N p L) = some i ∧ (gaps N p L)[i]? = some ((at_ : Int), (n : Int)) ∧ size < n ∧ L = A ++ B ∧ insA N size new p L = some (at_, A ++ new at_ :: B) ∧
      gaps N p (A ++ new at_ :: B) = cutR (gaps N p L) i at_ n size ∧ Lay N p (A ++ new at_ :: B) ∧ at_ = endA p A ∧ at_ + 1 + size ≤ nxt N B := by
  intro L
  induction L with
  | nil =>
    intro p h
    have h' : p ≤ N := h
    by_cases hf : size < N - p
    · right
      have hg : gaps N p [] = [((p : Int), ((N - p : Nat) : Int))] := gap1_pos (by omega)
      refine ⟨0, p, N - p, [], [], by rw [hg]; simp [ff]; omega, by rw [hg]; rfl, hf, rfl, by simp [insA, hf], ?_, ?_, rfl, by show p + 1 + size ≤ N; omega⟩
      · rw [hg]
        show gaps N p [new p] = _
        simp only [gaps, (hnew p).1, Ob.fin, (hnew p).2, gap1_nil (show ¬ p < p by omega), List.nil_append, cutR]
        split
        · rw [gap1_nil (by omega)]; rfl
        · rw [gap1_pos (by omega)]
          simp only [List.set_cons_zero]
          congr 2
          · congr 1; omega
          · congr 1; omega
      · refine ⟨by rw [(hnew p).1]; exact Nat.le_refl _, ?_⟩
        show Ob.fin (new p) ≤ N
        unfold Ob.fin
        rw [(hnew p).1, (hnew p).2]
        omega
    · left
      refine ⟨?_, by simp [insA, hf]⟩
      unfold gaps gap1
      split
      · simp [ff]; omega
      · rfl
  | cons o L ih =>
    intro p h
    by_cases hf : size < o.a - p
    · right
      have hg : gaps N p (o :: L) = ((p : Int), ((o.a - p : Nat) : Int)) :: gaps N o.fin L := by rw [gaps_cons, gap1_pos (by omega)]; rfl
      refine ⟨0, p, o.a - p, [], o :: L, by rw [hg]; simp [ff]; omega, by rw [hg]; rfl, hf, rfl, by simp [insA, hf], ?_, ?_, rfl, by show p + 1 + size ≤ o.a; omega⟩
      · rw [hg]
        show gaps N p (new p :: o :: L) = _
        have e1 : (new p).fin = p + 1 + size := by unfold Ob.fin; rw [(hnew p).1, (hnew p).2]
        have e2 : gaps N p (new p :: o :: L) = gap1 p (new p).a ++ (gap1 (new p).fin o.a ++ gaps N o.fin L) := rfl
        rw [e2, e1, (hnew p).1, gap1_nil (show ¬ p < p by omega), List.nil_append]
        unfold cutR
        split
        · rw [gap1_nil (by omega)]; rfl
        · rw [gap1_pos (by omega)]
          simp only [List.set_cons_zero, List.cons_append, List.nil_append]
          congr 2
          · congr 1; omega
          · congr 1; omega
      · refine ⟨by rw [(hnew p).1]; exact Nat.le_refl _, ?_, h.2⟩
        unfold Ob.fin
        rw [(hnew p).1, (hnew p).2]
        omega
    · have hins : insA N size new p (o :: L) = (insA N size new o.fin L).map fun r => (r.1, o :: r.2) := by simp [insA, hf]
      rcases ih h.2 with ⟨h1, h2⟩ | ⟨i, at_, n, A, B, h1, h2, h3, h4, h5, h6, h7, h8, h9⟩
      · left
        refine ⟨?_, by rw [hins, h2]; rfl⟩
        unfold gaps gap1
        split
        · simp only [List.cons_append, List.nil_append, ff, h1, Option.map_none]
          rw [if_neg (by omega)]
        · simpa using h1
      · right
        have hgo : gaps N p ((o :: A) ++ new at_ :: B) = gap1 p o.a ++ gaps N o.fin (A ++ new at_ :: B) := rfl
        have hlay : Lay N p ((o :: A) ++ new at_ :: B) := ⟨h.1, h7⟩
        by_cases hp : p < o.a
        · have hg : gaps N p (o :: L) = ((p : Int), ((o.a - p : Nat) : Int)) :: gaps N o.fin L := by rw [gaps_cons, gap1_pos hp]; rfl
          refine ⟨i + 1, at_, n, o :: A, B, ?_, by rw [hg]; simpa using h2, h3, by rw [h4]; rfl, by rw [hins, h5]; rfl, ?_, hlay, h8, h9⟩
          · rw [hg]
            simp only [ff, h1, Option.map_some]
            rw [if_neg (by omega)]
          · rw [hgo, gap1_pos hp, h6, hg]
            unfold cutR
            split <;> simp
        · have hg : gaps N p (o :: L) = gaps N o.fin L := by rw [gaps_cons, gap1_nil hp]; rfl
          refine ⟨i, at_, n, o :: A, B, by rw [hg]; exact h1, by rw [hg]; exact h2, h3, by rw [h4]; rfl, by rw [hins, h5]; rfl, ?_, hlay, h8, h9⟩
          rw [hgo, gap1_nil hp, h6, hg]
          rfl
/-- one that goes: its run, with what is free on either side -/
theorem free_law {A B : List Ob} {o : Ob} {p : Nat} (h : Lay N p (A ++ o :: B)) :
    gaps N p (A ++ o :: B) = (gin p A ++ gap1 (endA p A) o.a) ++ (gap1 o.fin (nxt N B) ++ gtl N B) ∧
    gaps N p (A ++ B) = gin p A ++ (((endA p A : Nat) : Int), ((nxt N B - endA p A : Nat) : Int)) :: gtl N B ∧ Lay N p (A ++ B) ∧ endA p A ≤ o.a ∧ o.fin ≤ nxt N B ∧ nxt N B ≤ N := by
  obtain ⟨h1, h2⟩ := h.split
  have h3 := nxt_le h2.2
  have hlt : endA p A < nxt N B := by
    have := h2.1
    have := h3.1
    unfold Ob.fin at this
    omega
  refine ⟨?_, ?_, Lay.join h1 (h2.2.mono (by have := h2.1; unfold Ob.fin; omega)), h2.1, h3.1, h3.2⟩
  · rw [gaps_append]
    show gin p A ++ (gap1 (endA p A) o.a ++ gaps N o.fin B) = _
    rw [gaps_head (N := N) o.fin B, List.append_assoc]
  · rw [gaps_append, gaps_head, gap1_pos hlt]
    rfl
end
end Go.Proofs.Ytejpcidfigmnkaa
