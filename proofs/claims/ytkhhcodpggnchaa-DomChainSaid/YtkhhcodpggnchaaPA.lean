/-
  Graphs: what can be come to, what rules what (plain law). Conditions: none.
-/
namespace Go.Proofs.Ytkhhcodpggnchaa
set_option linter.unusedVariables false
/-- an edge from a to b -/
def Ed (next : List (List Int)) (a b : Nat) : Prop := ∃ l, next[a]? = some l ∧ (b : Int) ∈ l
/-- b is come to from 0 by k edges, without wo -/
inductive Rn (next : List (List Int)) (wo : Int) : Nat → Nat → Prop
  | z : 0 < next.length → wo ≠ 0 → Rn next wo 0 0
  | s {k a b : Nat} : Rn next wo k a → Ed next a b → (b : Int) ≠ wo → Rn next wo (k + 1) b
def Rc (next : List (List Int)) (wo : Int) (b : Nat) : Prop := ∃ k, Rn next wo k b
/-- all edges lead to nodes -/
def Good (next : List (List Int)) : Prop := ∀ l ∈ next, ∀ x ∈ l, 0 ≤ x ∧ x < (next.length : Int)
/-- a rules b -/
def Dm (next : List (List Int)) (a b : Nat) : Prop := Rc next (-1) a ∧ Rc next (-1) b ∧ (a = b ∨ ¬ Rc next (a : Int) b)
/-- a rules b nearest -/
def Id (next : List (List Int)) (a b : Nat) : Prop := a ≠ b ∧ Dm next a b ∧ ∀ c, c ≠ b → Dm next c b → Dm next c a

section
variable {next : List (List Int)}
theorem Ed.lt (hg : Good next) {a b : Nat} (h : Ed next a b) : b < next.length := by
  obtain ⟨l, hl, hb⟩ := h
  have := hg l (List.mem_of_getElem? hl) _ hb
  omega
theorem Ed.lt' {a b : Nat} (h : Ed next a b) : a < next.length := by
  obtain ⟨l, hl, hb⟩ := h
  exact (List.getElem?_eq_some_iff.1 hl).1
theorem Rn.lt (hg : Good next) {wo : Int} {k b : Nat} (h : Rn next wo k b) : b < next.length := by
  cases h with
  | z h => exact h
  | s _ h => exact h.lt hg
theorem Rc.lt (hg : Good next) {wo : Int} {b : Nat} (h : Rc next wo b) : b < next.length := let ⟨_, h⟩ := h; h.lt hg
theorem Rn.ne {wo : Int} {k b : Nat} (h : Rn next wo k b) : (b : Int) ≠ wo := by
  cases h with
  | z _ h => exact fun e => h e.symm
  | s _ _ h => exact h
theorem Rn.weak {wo : Int} {k b : Nat} (h : Rn next wo k b) : Rn next (-1) k b := by
  induction h with
  | z h => exact .z h (by decide)
  | s _ he _ ih => exact .s ih he (by omega)
theorem Rn.split {wo : Int} {k x : Nat} (h : Rn next wo k x) (y : Nat) : Rn next y k x ∨ ∃ j, Rn next wo j y ∧ j ≤ k ∧ (j < k ∨ x = y) := by
  induction h with
  | z h h0 =>
    by_cases hy : y = 0
    · subst hy; exact .inr ⟨0, .z h h0, Nat.le_refl _, .inr rfl⟩
    · exact .inl (.z h (by omega))
  | @s k a b hp he hw ih =>
    by_cases hb : b = y
    · subst hb; exact .inr ⟨k + 1, .s hp he hw, Nat.le_refl _, .inr rfl⟩
    · rcases ih with ih | ⟨j, hj, hl, _⟩
      · exact .inl (.s ih he (by omega))
      · exact .inr ⟨j, hj, by omega, .inl (by omega)⟩
theorem Rc.zero (h : 0 < next.length) {wo : Int} (hw : wo ≠ 0) : Rc next wo 0 := ⟨0, .z h hw⟩
theorem Rn.no0 {k b : Nat} (h : Rn next 0 k b) : False := by
  generalize hz : (0 : Int) = z at h
  induction h with
  | z _ h => exact h hz.symm
  | s _ _ _ ih => exact ih
theorem Dm.refl {b : Nat} (h : Rc next (-1) b) : Dm next b b := ⟨h, h, .inl rfl⟩
theorem Dm.trans {a b c : Nat} (h : Dm next a b) (h' : Dm next b c) : Dm next a c := by
  refine ⟨h.1, h'.2.1, ?_⟩
  rcases h.2.2 with rfl | h1
  · exact h'.2.2
  rcases h'.2.2 with rfl | h2
  · exact .inr h1
  refine .inr fun ⟨k, hk⟩ => ?_
  rcases hk.split b with hs | ⟨j, hj, _⟩
  · exact h2 ⟨k, hs⟩
  · exact h1 ⟨j, hj⟩
theorem Dm.antisymm {a b : Nat} (h : Dm next a b) (h' : Dm next b a) : a = b := by
  rcases Nat.decEq a b with hne | rfl
  rotate_left
  · rfl
  exfalso
  have h1 : ¬ Rc next a b := h.2.2.resolve_left hne
  have h2 : ¬ Rc next b a := h'.2.2.resolve_left (Ne.symm hne)
  have key : ∀ k, ¬ Rn next (-1) k a ∧ ¬ Rn next (-1) k b := by
    intro k
    induction k using Nat.strongRecOn with
    | ind k ih =>
      constructor
      · intro hk
        rcases hk.split b with hs | ⟨j, hj, hl, hl2⟩
        · exact h2 ⟨k, hs⟩
        · exact (ih j (by omega)).2 hj
      · intro hk
        rcases hk.split a with hs | ⟨j, hj, hl, hl2⟩
        · exact h1 ⟨k, hs⟩
        · exact (ih j (by omega)).1 hj
  obtain ⟨k, hk⟩ := h.1
  exact (key k).1 hk
theorem Dm.zero (hn : 0 < next.length) {a : Nat} (h : Dm next a 0) : a = 0 := by
  rcases h.2.2 with h1 | h1
  · exact h1
  · by_cases ha : a = 0
    · exact ha
    · exact absurd (Rc.zero hn (by omega)) h1
theorem zero_Dm (hn : 0 < next.length) {b : Nat} (h : Rc next (-1) b) : Dm next 0 b :=
  ⟨Rc.zero hn (by decide), h, .inr fun ⟨_, hk⟩ => hk.no0⟩
theorem Dm.edge {d n p : Nat} (h : Dm next d n) (hne : d ≠ n) (he : Ed next p n) (hp : Rc next (-1) p) : Dm next d p := by
  refine ⟨h.1, hp, .inr fun ⟨k, hk⟩ => ?_⟩
  exact (h.2.2.resolve_left hne) ⟨k + 1, .s hk he (by omega)⟩
theorem Id.uniq {a a' b : Nat} (h : Id next a b) (h' : Id next a' b) : a = a' :=
  (h'.2.2 a h.1 h.2.1).antisymm (h.2.2 a' h'.1 h'.2.1)
theorem Rc.step {wo : Int} {a b : Nat} (h : Rc next wo a) (he : Ed next a b) (hw : (b : Int) ≠ wo) : Rc next wo b :=
  let ⟨k, hk⟩ := h
  ⟨k + 1, .s hk he hw⟩
theorem Rc.weak {wo : Int} {b : Nat} (h : Rc next wo b) : Rc next (-1) b := let ⟨k, hk⟩ := h; ⟨k, hk.weak⟩

/-- the nodes that are come to, in an order in which each but the first has an edge from one ahead of it -/
structure Ord (next : List (List Int)) (l : List Nat) : Prop where
  nd : l.Nodup
  h0 : l[0]? = some 0
  mem : ∀ b, b ∈ l ↔ Rc next (-1) b
  fw : ∀ i b, 0 < i → l[i]? = some b → ∃ j a, j < i ∧ l[j]? = some a ∧ Ed next a b
def rk (l : List Nat) (b : Nat) : Nat := l.idxOf b
theorem rk_at {l : List Nat} (hn : l.Nodup) {i b : Nat} (h : l[i]? = some b) : rk l b = i := by
  obtain ⟨hi, rfl⟩ := List.getElem?_eq_some_iff.1 h
  exact hn.idxOf_getElem i hi
theorem rk_get {l : List Nat} {b : Nat} (h : b ∈ l) : l[rk l b]? = some b := by
  have h1 : rk l b < l.length := List.idxOf_lt_length_of_mem h
  rw [List.getElem?_eq_getElem h1]
  exact congrArg some (List.getElem_idxOf h1)
theorem rk_lt {l : List Nat} {b : Nat} (h : b ∈ l) : rk l b < l.length := List.idxOf_lt_length_of_mem h
theorem rk_inj {l : List Nat} {a b : Nat} (ha : a ∈ l) (hb : b ∈ l) (h : rk l a = rk l b) : a = b := by
  have h1 := rk_get ha
  have h2 := rk_get hb
  rw [h, h2] at h1
  exact (Option.some.inj h1).symm
variable {l : List Nat}
theorem Ord.rk0 (h : Ord next l) : rk l 0 = 0 := rk_at h.nd h.h0
theorem Ord.ne0 (h : Ord next l) {b : Nat} (hb : b ∈ l) (hne : b ≠ 0) : 0 < rk l b := by
  rcases Nat.eq_zero_or_pos (rk l b) with h0 | h0
  · have := rk_get hb
    rw [h0, h.h0] at this
    exact absurd (Option.some.inj this).symm hne
  · exact h0
theorem Ord.mem0 (h : Ord next l) : 0 ∈ l := List.mem_of_getElem? h.h0
theorem Ord.pred (h : Ord next l) {b : Nat} (hb : b ∈ l) (hne : b ≠ 0) : ∃ a, a ∈ l ∧ rk l a < rk l b ∧ Ed next a b := by
  obtain ⟨j, a, hj, ha, he⟩ := h.fw _ b (h.ne0 hb hne) (rk_get hb)
  exact ⟨a, List.mem_of_getElem? ha, by rw [rk_at h.nd ha]; exact hj, he⟩
theorem Ord.sdom (h : Ord next l) (hn : 0 < next.length) {x : Nat} : ∀ (i y : Nat), y ∈ l → rk l y = i → Dm next x y → x ≠ y → rk l x < rk l y := by
  intro i
  induction i using Nat.strongRecOn with
  | ind i ih =>
    intro y hy hi hd hne
    have hy0 : y ≠ 0 := by rintro rfl; exact hne (hd.zero hn)
    obtain ⟨a, ha, hr, he⟩ := h.pred hy hy0
    have hda := hd.edge hne he ((h.mem a).1 ha)
    by_cases hxa : x = a
    · subst hxa; exact hr
    · exact Nat.lt_trans (ih _ (by omega) a ha rfl hda hxa) hr
theorem Ord.sd (h : Ord next l) (hn : 0 < next.length) {x y : Nat} (hy : y ∈ l) (hd : Dm next x y) (hne : x ≠ y) : rk l x < rk l y := h.sdom hn _ y hy rfl hd hne
end
end Go.Proofs.Ytkhhcodpggnchaa
