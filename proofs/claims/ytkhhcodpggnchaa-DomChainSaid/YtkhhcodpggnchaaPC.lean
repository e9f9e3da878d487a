/-
  The walk in depth: what holds on the way, and what it leaves (plain law). Conditions: none.
-/
import Derived.Test.YtkhhcodpggnchaaPB
namespace Go.Proofs.Ytkhhcodpggnchaa
set_option linter.unusedVariables false
theorem nodup_bound : ∀ (n : Nat) (l : List Nat), l.Nodup → (∀ x ∈ l, x < n) → l.length ≤ n
  | 0, l, _, h => by
    cases l with
    | nil => exact Nat.le_refl _
    | cons x r => exact absurd (h x (List.mem_cons_self ..)) (Nat.not_lt_zero _)
  | n + 1, l, hn, h => by
    by_cases hm : n ∈ l
    · have h1 := nodup_bound n (l.erase n) (hn.erase n) (fun x hx => by
        have h2 := (hn.mem_erase_iff).1 hx
        have := h x h2.2
        omega)
      have h2 := List.length_erase_of_mem hm
      have : 0 < l.length := List.length_pos_of_mem hm
      omega
    · have := nodup_bound n l hn (fun x hx => by
        have h1 := h x hx
        have : x ≠ n := fun e => hm (e ▸ hx)
        omega)
      omega
/-- each has an edge from one ahead of it -/
def Fwl (next : List (List Int)) : List Nat → List Nat → Prop
  | _, [] => True
  | pre, b :: r => (∃ a ∈ pre, Ed next a b) ∧ Fwl next (b :: pre) r
section
variable {next : List (List Int)}
theorem Fwl.mono : ∀ {r pre pre' : List Nat}, Fwl next pre r → (∀ x ∈ pre, x ∈ pre') → Fwl next pre' r
  | [], _, _, _, _ => trivial
  | b :: r, pre, pre', ⟨⟨a, ha, he⟩, h⟩, hs => ⟨⟨a, hs a ha, he⟩, h.mono fun x hx => by
      rcases List.mem_cons.1 hx with rfl | hx
      · exact List.mem_cons_self ..
      · exact List.mem_cons_of_mem _ (hs x hx)⟩
theorem Fwl.insert {x : Nat} : ∀ {p q pre : List Nat}, Fwl next pre (p ++ q) → (∃ a, (a ∈ pre ∨ a ∈ p) ∧ Ed next a x) → Fwl next pre (p ++ x :: q)
  | [], q, pre, h, ⟨a, ha, he⟩ => ⟨⟨a, by simpa using ha, he⟩, h.mono fun y hy => List.mem_cons_of_mem _ hy⟩
  | b :: p, q, pre, ⟨h1, h⟩, ⟨a, ha, he⟩ => ⟨h1, Fwl.insert h ⟨a, by
      rcases ha with ha | ha
      · exact .inl (List.mem_cons_of_mem _ ha)
      · rcases List.mem_cons.1 ha with rfl | ha
        · exact .inl (List.mem_cons_self ..)
        · exact .inr ha, he⟩⟩
theorem Fwl.at : ∀ {r pre : List Nat}, Fwl next pre r → ∀ {i b : Nat}, r[i]? = some b → ∃ a, (a ∈ pre ∨ ∃ j, j < i ∧ r[j]? = some a) ∧ Ed next a b
  | [], _, _, i, b, h => by simp at h
  | c :: r, pre, ⟨⟨a, ha, he⟩, h⟩, 0, b, hb => by
    obtain rfl : c = b := by simpa using hb
    exact ⟨a, .inl ha, he⟩
  | c :: r, pre, ⟨_, h⟩, i + 1, b, hb => by
    obtain ⟨a, ha, he⟩ := h.at (i := i) (by simpa using hb)
    rcases ha with ha | ⟨j, hj, ha⟩
    · rcases List.mem_cons.1 ha with rfl | ha
      · exact ⟨_, .inr ⟨0, by omega, rfl⟩, he⟩
      · exact ⟨a, .inl ha, he⟩
    · exact ⟨a, .inr ⟨j + 1, by omega, by simpa using ha⟩, he⟩
def Rl (st : List (Nat × Nat)) (out : List Nat) : List Nat := st.map (·.1) ++ out.reverse
/-- st: the nodes on the way, the last one first left; out: those that are left -/
structure DS (next : List (List Int)) (st : List (Nat × Nat)) (out : List Nat) (seen : List Bool) : Prop where
  len : seen.length = next.length
  seen : ∀ b, b < next.length → (seen[b]? = some true ↔ b ∈ Rl st out)
  nd : (Rl st out).Nodup
  r0 : ∃ r, Rl st out = 0 :: r ∧ Fwl next [0] r
  rc : ∀ b ∈ Rl st out, Rc next (-1) b
  cl : ∀ a ∈ out, ∀ b, Ed next a b → b ∈ Rl st out
  st : ∀ p ∈ st, ∃ l, next[p.1]? = some l ∧ p.2 ≤ l.length ∧ ∀ (j b : Nat), j < p.2 → l[j]? = some (b : Int) → b ∈ Rl st out
theorem DS.init (hn : 0 < next.length) : DS next [(0, 0)] [] ((List.replicate next.length false).set 0 true) where
  len := by simp
  seen b hb := by
    by_cases h0 : b = 0
    · subst h0
      simp [Rl, hn]
    · rw [List.getElem?_set_ne (Ne.symm h0)]
      simp [Rl, h0, List.getElem?_replicate, hb]
  nd := by simp [Rl]
  r0 := ⟨[], by simp [Rl], trivial⟩
  rc b hb := by
    obtain rfl : b = 0 := by simpa [Rl] using hb
    exact Rc.zero hn (by decide)
  cl a ha := by simp at ha
  st p hp := by
    obtain rfl : p = (0, 0) := by simpa using hp
    exact ⟨_, List.getElem?_eq_getElem hn, Nat.zero_le _, fun j b hj => absurd hj (Nat.not_lt_zero _)⟩
variable {st : List (Nat × Nat)} {out : List Nat} {seen : List Bool} {n i t : Nat} {l : List Int}
theorem DS.lt (hg : Good next) (h : DS next st out seen) {b : Nat} (hb : b ∈ Rl st out) : b < next.length := (h.rc b hb).lt hg
theorem DS.bound (hg : Good next) (h : DS next st out seen) : (Rl st out).length ≤ next.length := nodup_bound _ _ h.nd fun b hb => h.lt hg hb
theorem Rl_step : Rl (st ++ [(n, i)]) out = Rl (st ++ [(n, i + 1)]) out := by simp [Rl]
/-- a node that is seen already -/
theorem DS.seen_ (h : DS next (st ++ [(n, i)]) out seen) (hl : next[n]? = some l) (hi : l[i]? = some (t : Int)) (hs : t ∈ Rl (st ++ [(n, i)]) out) : DS next (st ++ [(n, i + 1)]) out seen where
  len := h.len
  seen b hb := by rw [← Rl_step]; exact h.seen b hb
  nd := by rw [← Rl_step]; exact h.nd
  r0 := by rw [← Rl_step]; exact h.r0
  rc b hb := h.rc b (by rw [Rl_step]; exact hb)
  cl a ha b hb := by rw [← Rl_step]; exact h.cl a ha b hb
  st p hp := by
    rw [← Rl_step]
    rcases List.mem_append.1 hp with hp | hp
    · exact h.st p (List.mem_append_left _ hp)
    · obtain rfl : p = (n, i + 1) := by simpa using hp
      obtain ⟨l', hl', hle, hall⟩ := h.st (n, i) (by simp)
      rw [hl] at hl'
      obtain rfl := Option.some.inj hl'
      have hlt := (List.getElem?_eq_some_iff.1 hi).1
      refine ⟨l, hl, hlt, fun j b hj hb => ?_⟩
      rcases Nat.lt_or_ge j i with h1 | h1
      · exact hall j b h1 hb
      · obtain rfl : j = i := by show j = i; have : j < i + 1 := hj; omega
        rw [hi] at hb
        have : (t : Int) = b := Option.some.inj hb
        obtain rfl : t = b := by omega
        exact hs
theorem mem_Rl_push {b : Nat} : b ∈ Rl (st ++ [(n, i + 1)] ++ [(t, 0)]) out ↔ b = t ∨ b ∈ Rl (st ++ [(n, i)]) out := by
  simp only [Rl, List.map_append, List.map_cons, List.map_nil, List.mem_append, List.mem_cons, List.mem_reverse, List.not_mem_nil, or_false]
  constructor
  · rintro ((h | h) | h)
    · rcases h with h | h
      · exact .inr (.inl (.inl h))
      · exact .inr (.inl (.inr h))
    · exact .inl h
    · exact .inr (.inr h)
  · rintro (h | (h | h) | h)
    · exact .inl (.inr h)
    · exact .inl (.inl (.inl h))
    · exact .inl (.inl (.inr h))
    · exact .inr h
/-- a node that is new -/
theorem DS.push (hg : Good next) (h : DS next (st ++ [(n, i)]) out seen) (hl : next[n]? = some l) (hi : l[i]? = some (t : Int)) (hs : ¬ t ∈ Rl (st ++ [(n, i)]) out) : DS next (st ++ [(n, i + 1)] ++ [(t, 0)]) out (seen.set t true) := by
  have he : Ed next n t := ⟨l, hl, List.mem_of_getElem? hi⟩
  have hnR : n ∈ Rl (st ++ [(n, i)]) out := by simp [Rl]
  have ht : t < next.length := he.lt hg
  have hperm : (Rl (st ++ [(n, i + 1)] ++ [(t, 0)]) out).Perm (t :: Rl (st ++ [(n, i)]) out) := by
    simp only [Rl, List.map_append, List.map_cons, List.map_nil, List.append_assoc, List.cons_append, List.nil_append]
    have : (st.map (·.1) ++ n :: t :: out.reverse).Perm (st.map (·.1) ++ t :: n :: out.reverse) := (List.Perm.swap _ _ _).append_left _
    exact this.trans List.perm_middle
  refine ⟨by simp [h.len], fun b hb => ?_, hperm.nodup_iff.2 (List.nodup_cons.2 ⟨hs, h.nd⟩), ?_, fun b hb => ?_, fun a ha b hb => mem_Rl_push.2 (.inr (h.cl a ha b hb)), fun p hp => ?_⟩
  · rw [mem_Rl_push]
    by_cases hbt : t = b
    · subst hbt
      simp [h.len, hb]
    · rw [List.getElem?_set_ne hbt, h.seen b hb]
      constructor
      · exact .inr
      · rintro (rfl | h1)
        · exact absurd rfl hbt
        · exact h1
  · obtain ⟨r, hr, hf⟩ := h.r0
    have e0 : Rl (st ++ [(n, i)]) out = (st ++ [(n, i)]).map (·.1) ++ out.reverse := rfl
    have e1 : Rl (st ++ [(n, i + 1)] ++ [(t, 0)]) out = (st ++ [(n, i)]).map (·.1) ++ t :: out.reverse := by simp [Rl]
    rw [e0] at hr
    cases hst : (st ++ [(n, i)]).map (·.1) with
    | nil => simp at hst
    | cons z p =>
      rw [hst, List.cons_append] at hr
      injection hr with hz hr
      subst hz
      subst hr
      refine ⟨p ++ t :: out.reverse, by rw [e1, hst]; rfl, hf.insert ⟨n, ?_, he⟩⟩
      have : n ∈ (st ++ [(n, i)]).map (·.1) := by simp
      rw [hst] at this
      rcases List.mem_cons.1 this with rfl | h1
      · exact .inl (List.mem_cons_self ..)
      · exact .inr h1
  · rcases mem_Rl_push.1 hb with rfl | hb
    · exact (h.rc n hnR).step he (by omega)
    · exact h.rc b hb
  · rcases List.mem_append.1 hp with hp | hp
    · rcases List.mem_append.1 hp with hp | hp
      · obtain ⟨l', h1, h2, h3⟩ := h.st p (List.mem_append_left _ hp)
        exact ⟨l', h1, h2, fun j b hj hb => mem_Rl_push.2 (.inr (h3 j b hj hb))⟩
      · obtain rfl : p = (n, i + 1) := by simpa using hp
        obtain ⟨l', hl', hle, hall⟩ := h.st (n, i) (by simp)
        rw [hl] at hl'
        obtain rfl := Option.some.inj hl'
        have hlt := (List.getElem?_eq_some_iff.1 hi).1
        refine ⟨l, hl, hlt, fun j b hj hb => mem_Rl_push.2 ?_⟩
        rcases Nat.lt_or_ge j i with h1 | h1
        · exact .inr (hall j b h1 hb)
        · obtain rfl : j = i := by have : j < i + 1 := hj; omega
          rw [hi] at hb
          have : (t : Int) = b := Option.some.inj hb
          exact .inl (by omega)
    · obtain rfl : p = (t, 0) := by simpa using hp
      exact ⟨_, List.getElem?_eq_getElem ht, Nat.zero_le _, fun j b hj => absurd hj (Nat.not_lt_zero _)⟩
theorem Rl_pop : Rl (st ++ [(n, i)]) out = Rl st (out ++ [n]) := by simp [Rl]
/-- a node is left -/
theorem DS.pop (hg : Good next) (h : DS next (st ++ [(n, i)]) out seen) (hl : next[n]? = some l) (hi : l.length ≤ i) : DS next st (out ++ [n]) seen where
  len := h.len
  seen b hb := by rw [← Rl_pop (i := i)]; exact h.seen b hb
  nd := by rw [← Rl_pop (i := i)]; exact h.nd
  r0 := by rw [← Rl_pop (i := i)]; exact h.r0
  rc b hb := h.rc b (by rw [Rl_pop]; exact hb)
  cl a ha b hb := by
    rw [← Rl_pop (i := i)]
    rcases List.mem_append.1 ha with ha | ha
    · exact h.cl a ha b hb
    · obtain rfl : a = n := by simpa using ha
      obtain ⟨l', hl', hbl⟩ := hb
      obtain ⟨l'', hl'', hle, hall⟩ := h.st (a, i) (by simp)
      rw [hl] at hl' hl''
      obtain rfl := Option.some.inj hl'
      obtain rfl := Option.some.inj hl''
      obtain ⟨j, hj⟩ := List.getElem?_of_mem hbl
      have := (List.getElem?_eq_some_iff.1 hj).1
      exact hall j b (by show j < i; omega) hj
  st p hp := by
    rw [← Rl_pop (i := i)]
    exact h.st p (List.mem_append_left _ hp)
theorem DS.done (h : DS next [] out seen) : Ord next out.reverse := by
  obtain ⟨r, hr, hf⟩ := h.r0
  have e : Rl [] out = out.reverse := by simp [Rl]
  have hcl := h.cl
  have hrc := h.rc
  have hnd := h.nd
  rw [e] at hr hcl hrc hnd
  refine ⟨hnd, by rw [hr]; rfl, fun b => ⟨hrc b, ?_⟩, fun i b hi hb => ?_⟩
  · rintro ⟨k, hk⟩
    induction hk with
    | z _ _ => rw [hr]; exact List.mem_cons_self ..
    | s _ he _ ih => exact hcl _ (List.mem_reverse.1 ih) _ he
  · rw [hr] at hb
    obtain ⟨k, rfl⟩ : ∃ k, i = k + 1 := ⟨i - 1, by omega⟩
    obtain ⟨a, ha, he⟩ := hf.at (i := k) (by simpa using hb)
    rcases ha with ha | ⟨j, hj, ha⟩
    · obtain rfl : a = 0 := by simpa using ha
      exact ⟨0, 0, by omega, by rw [hr]; rfl, he⟩
    · exact ⟨j + 1, a, by omega, by rw [hr]; simpa using ha, he⟩
end
end Go.Proofs.Ytkhhcodpggnchaa
