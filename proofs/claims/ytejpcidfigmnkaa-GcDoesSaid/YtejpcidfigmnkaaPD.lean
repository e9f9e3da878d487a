/-
  What the laws of room and of fit ask (plain law). Conditions: none.
-/
import Derived.Test.YtejpcidfigmnkaaPC
namespace Go.Proofs.Ytejpcidfigmnkaa
set_option linter.unusedVariables false
/-- where the first one is -/
def hd0 : List Ob → Int
  | [] => 0
  | o :: _ => o.a
/-- all gaps ahead of these are small -/
def Sm (size : Nat) : Nat → List Ob → Prop
  | _, [] => True
  | p, o :: L => ¬ size < o.a - p ∧ Sm size o.fin L
section
variable {N : Nat} {L A B : List Ob}
theorem next_hd {z : Int} (hA : ∀ o ∈ A, (o.a : Int) < z) (hB : ∀ o ∈ B, z ≤ (o.a : Int)) : nextA (A ++ B) z = hd0 B := by
  unfold nextA
  rw [List.find?_append, List.find?_eq_none.2 (fun o ho => by have := hA o ho; simp; omega)]
  cases B with
  | nil => rfl
  | cons o B =>
    have := hB o (List.mem_cons_self ..)
    rw [List.find?_cons_of_pos (by simpa using this)]
    rfl
theorem next_zero : nextA L 0 = hd0 L := next_hd (A := []) (fun o ho => absurd ho (List.not_mem_nil)) fun o ho => by omega
theorem next_succ {p : Nat} {o : Ob} (h : Lay N p (A ++ o :: B)) : nextA (A ++ o :: B) ((o.a : Int) + 1) = hd0 B := by
  obtain ⟨s1, s2, s3⟩ := lay_sides h
  rw [show A ++ o :: B = (A ++ [o]) ++ B by simp]
  refine next_hd (fun x hx => ?_) fun x hx => ?_
  · rcases List.mem_append.1 hx with hx | hx
    · have := s1 x hx
      unfold Ob.fin at this
      omega
    · rw [List.mem_singleton.1 hx]; omega
  · have := s2 x hx
    unfold Ob.fin at this
    omega
theorem hd0_pos (h : Lay N 1 L) : hd0 L = 0 ↔ L = [] := by
  cases L with
  | nil => simp [hd0]
  | cons o L =>
    have := h.1
    simp [hd0]
    omega
theorem free_hd {o : Ob} {p : Nat} (h : Lay N p (o :: L)) : freeA (o :: L) (o.a : Int) = (0, L) := by
  have h1 : objA (o :: L) (o.a : Int) = some o := by simp [objA]
  have h2 := filter_free (A := []) h
  rw [List.nil_append] at h2
  simp only [freeA, h1]
  rw [h2]
  rfl
theorem usedA_append : usedA (A ++ B) = usedA A + usedA B := by
  induction A with
  | nil => simp [usedA]
  | cons a A ih => rw [List.cons_append]; simp only [usedA, ih]; omega
theorem longA_le {s : Int} (hs : 0 ≤ s) : ∀ {l : List (Int × Int)}, (∀ r ∈ l, r.2 ≤ s) → longA l ≤ s := by
  have key : ∀ (l : List (Int × Int)) (n : Int), n ≤ s → (∀ r ∈ l, r.2 ≤ s) → l.foldl (fun n r => if r.2 > n then r.2 else n) n ≤ s := by
    intro l
    induction l with
    | nil => intro n hn _; exact hn
    | cons r l ih =>
      intro n hn h
      refine ih _ ?_ fun r' hr' => h r' (List.mem_cons_of_mem _ hr')
      have := h r (List.mem_cons_self ..)
      show (if r.2 > n then r.2 else n) ≤ s
      split <;> omega
  intro l h
  exact key l 0 hs h
theorem le_longA {l : List (Int × Int)} {r : Int × Int} (hr : r ∈ l) : r.2 ≤ longA l := by
  have key : ∀ (l : List (Int × Int)) (n : Int), n ≤ l.foldl (fun n r => if r.2 > n then r.2 else n) n ∧ ∀ r ∈ l, r.2 ≤ l.foldl (fun n r => if r.2 > n then r.2 else n) n := by
    intro l
    induction l with
    | nil => intro n; exact ⟨Int.le_refl _, fun r hr => absurd hr (List.not_mem_nil)⟩
    | cons x l ih =>
      intro n
      obtain ⟨h1, h2⟩ := ih (if x.2 > n then x.2 else n)
      rw [List.foldl_cons]
      have h3 : n ≤ (if x.2 > n then x.2 else n) ∧ x.2 ≤ (if x.2 > n then x.2 else n) := by split <;> omega
      refine ⟨Int.le_trans h3.1 h1, fun r hr => ?_⟩
      rcases List.mem_cons.1 hr with rfl | hr
      · exact Int.le_trans h3.2 h1
      · exact h2 r hr
  exact (key l 0).2 r hr
theorem roomA_nonneg {l : List (Int × Int)} (h : ∀ r ∈ l, 0 < r.2) : 0 ≤ roomA l := by
  have := (room_part h l.length).1
  rwa [List.take_length] at this
theorem le_roomA : ∀ {l : List (Int × Int)}, (∀ r ∈ l, 0 < r.2) → ∀ r ∈ l, r.2 ≤ roomA l
  | x :: l, h, r, hr => by
    have h1 : roomA (x :: l) = x.2 + roomA l := by simp [roomA]
    have h2 := roomA_nonneg (l := l) fun r hr => h r (List.mem_cons_of_mem _ hr)
    have h3 := h x (List.mem_cons_self ..)
    rcases List.mem_cons.1 hr with rfl | hr
    · omega
    · have := le_roomA (l := l) (fun r hr => h r (List.mem_cons_of_mem _ hr)) r hr
      omega
theorem long_room (h : Lay N 1 L) : longA (gaps N 1 L) ≤ roomA (gaps N 1 L) := by
  have hp : ∀ r ∈ gaps N 1 L, 0 < r.2 := fun r hr => (gaps_mem h r hr).2.1
  exact longA_le (roomA_nonneg hp) (le_roomA hp)
theorem gaps_empty (h : 2 ≤ N) : gaps N 1 [] = [((1 : Int), (N : Int) - 1)] := by
  show gap1 1 N = _
  rw [gap1_pos (by omega)]
  congr 2
  omega
theorem insA_small {size : Nat} {new : Nat → Ob} : ∀ {L : List Ob} {p at_ : Nat} {L' : List Ob}, insA N size new p L = some (at_, L') → ∃ A B, L = A ++ B ∧ L' = A ++ new at_ :: B ∧ at_ = endA p A ∧ Sm size p A
  | [], p, at_, L', h => by
    simp only [insA] at h
    split at h
    · simp only [Option.some.injEq, Prod.mk.injEq] at h
      obtain ⟨rfl, rfl⟩ := h
      exact ⟨[], [], rfl, rfl, rfl, trivial⟩
    · cases h
  | o :: L, p, at_, L', h => by
    simp only [insA] at h
    split at h
    · simp only [Option.some.injEq, Prod.mk.injEq] at h
      obtain ⟨rfl, rfl⟩ := h
      exact ⟨[], o :: L, rfl, rfl, rfl, trivial⟩
    · rename_i hs
      obtain ⟨⟨q, L2⟩, h1, h2⟩ := Option.map_eq_some_iff.1 h
      simp only [Prod.mk.injEq] at h2
      obtain ⟨rfl, rfl⟩ := h2
      obtain ⟨A, B, rfl, rfl, h3, h4⟩ := insA_small h1
      exact ⟨o :: A, B, rfl, rfl, h3, hs, h4⟩
theorem alloc_fits {size : Nat} (hs : size ≤ 4096) (h : Lay N 1 L) : (longA (gaps N 1 L) ≤ size ∧ allocA N L 6 size = (0, 6, L)) ∨
    ((size : Int) < longA (gaps N 1 L) ∧ ∃ A B, allocA N L 6 size = (((endA 1 A : Nat) : Int), 0, A ++ newO 6 size (endA 1 A) :: B) ∧ Sm size 1 A ∧ Lay N 1 (A ++ newO 6 size (endA 1 A) :: B)) := by
  have e : allocA N L 6 size = match insA N size (newO 6 size) 1 L with
    | none => (0, 6, L)
    | some (p, L') => ((p : Int), 0, L') := by
    unfold allocA
    rw [if_neg (by omega), if_neg (by omega)]
    rfl
  rcases alloc_law (size := size) (new := newO 6 size) (fun p => ⟨rfl, List.length_replicate⟩) h with ⟨h1, h2⟩ | ⟨i, at_, n, A, B, h1, h2, h3, h4, h5, h6, h7, h8, h9⟩
  · left
    have ffn : ∀ {l : List (Int × Int)}, ff size l = none → ∀ r ∈ l, r.2 ≤ (size : Int) := by
      intro l
      induction l with
      | nil => intro _ r hr; exact absurd hr (List.not_mem_nil)
      | cons x l ih =>
        intro hf r hr
        simp only [ff] at hf
        split at hf
        · cases hf
        · rcases List.mem_cons.1 hr with rfl | hr
          · omega
          · exact ih (by simpa using hf) r hr
    refine ⟨longA_le (by omega) (ffn h1), ?_⟩
    rw [e, h2]
  · right
    have h10 := le_longA (List.mem_of_getElem? h2)
    obtain ⟨A', B', h11, h12, h13, h14⟩ := insA_small h5
    subst h13
    refine ⟨by dsimp only at h10; omega, A', B', ?_, h14, ?_⟩
    · rw [e, h5, ← h12]
    · rw [← h12]; exact h7
end
end Go.Proofs.Ytejpcidfigmnkaa
