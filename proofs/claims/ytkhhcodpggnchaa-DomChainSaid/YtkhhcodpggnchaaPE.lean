/-
  The document's answer: what is come to, step by step (plain law). Conditions: none.
-/
import Derived.Test.YtkhhcodpggnchaaPD
namespace Go.Proofs.Ytkhhcodpggnchaa
set_option linter.unusedVariables false
/-- how many are not set -/
def cf : List Bool → Nat
  | [] => 0
  | b :: r => (if b then 0 else 1) + cf r
theorem cf_set : ∀ {cs : List Bool} {i : Nat}, cs[i]? = some false → cf (cs.set i true) + 1 = cf cs
  | [], i, h => by simp at h
  | b :: r, 0, h => by
    obtain rfl : b = false := by simpa using h
    simp [cf]
    omega
  | b :: r, i + 1, h => by
    have := cf_set (cs := r) (i := i) (by simpa using h)
    simp only [List.set_cons_succ, cf]
    omega
theorem cf_false : ∀ n, cf (List.replicate n false) = n
  | 0 => rfl
  | n + 1 => by simp [List.replicate_succ, cf, cf_false n]; omega
def Tr (cs : List Bool) (b : Nat) : Prop := cs[b]? = some true
/-- the work that is left: what is come to, and from where it is to be gone on -/
structure CW (next : List (List Int)) (wo : Int) (cs : List Bool) (todo : List Nat) : Prop where
  len : cs.length = next.length
  rc : ∀ b, Tr cs b → Rc next wo b
  td : ∀ b ∈ todo, Tr cs b
  z : Tr cs 0
  cl : ∀ a b, Tr cs a → a ∉ todo → Ed next a b → (b : Int) ≠ wo → Tr cs b
/-- the same, while n's edges are looked at -/
structure CI (next : List (List Int)) (wo : Int) (cs : List Bool) (todo : List Nat) (n i : Nat) : Prop where
  len : cs.length = next.length
  rc : ∀ b, Tr cs b → Rc next wo b
  td : ∀ b ∈ todo, Tr cs b
  z : Tr cs 0
  cu : Tr cs n
  cl : ∀ a b, Tr cs a → a ∉ todo → a ≠ n → Ed next a b → (b : Int) ≠ wo → Tr cs b
  cn : ∀ l (j b : Nat), next[n]? = some l → j < i → l[j]? = some (b : Int) → (b : Int) ≠ wo → Tr cs b
section
variable {next : List (List Int)} {wo : Int} {cs : List Bool} {todo : List Nat} {n i t : Nat} {l : List Int}
theorem Tr.set_self (h : t < cs.length) : Tr (cs.set t true) t := List.getElem?_set_self h
theorem Tr.set (h : Tr cs n) : Tr (cs.set t true) n := by
  by_cases hnt : t = n
  · subst hnt
    exact List.getElem?_set_self (List.getElem?_eq_some_iff.1 h).1
  · exact (List.getElem?_set_ne hnt).trans h
theorem Tr.of_set (h : Tr (cs.set t true) n) : n = t ∨ Tr cs n := by
  by_cases hnt : t = n
  · exact .inl hnt.symm
  · exact .inr ((List.getElem?_set_ne hnt).symm.trans h)
theorem CW.init (hn : 0 < next.length) (hw : wo ≠ 0) : CW next wo ((List.replicate next.length false).set 0 true) [0] := by
  have h0 : ∀ b, Tr ((List.replicate next.length false).set 0 true) b → b = 0 := fun b hb => by
    rcases hb.of_set with h | h
    · exact h
    · unfold Tr at h
      rw [List.getElem?_replicate] at h
      split at h <;> cases h
  have hz : Tr ((List.replicate next.length false).set 0 true) 0 := Tr.set_self (by simpa using hn)
  refine ⟨by simp, fun b hb => ?_, fun b hb => ?_, hz, fun a b ha hna => ?_⟩
  · rw [h0 b hb]; exact Rc.zero hn hw
  · obtain rfl : b = 0 := by simpa using hb
    exact hz
  · exact absurd (by rw [h0 a ha]; simp) hna
theorem CW.pop (h : CW next wo cs (todo ++ [n])) : CI next wo cs todo n 0 :=
  ⟨h.len, h.rc, fun b hb => h.td b (List.mem_append_left _ hb), h.z, h.td n (by simp), fun a b ha hna han => h.cl a b ha (by simp [hna, han]), fun l j b _ hj => absurd hj (Nat.not_lt_zero _)⟩
theorem CI.skip (h : CI next wo cs todo n i) (hl : next[n]? = some l) (hi : l[i]? = some (t : Int)) (ht : (t : Int) = wo ∨ Tr cs t) : CI next wo cs todo n (i + 1) :=
  ⟨h.len, h.rc, h.td, h.z, h.cu, h.cl, fun l' j b hl' hj hb hbw => by
    rw [hl] at hl'
    obtain rfl := Option.some.inj hl'
    rcases Nat.lt_or_ge j i with h1 | h1
    · exact h.cn l j b hl h1 hb hbw
    · obtain rfl : j = i := by omega
      rw [hi] at hb
      have : (t : Int) = b := Option.some.inj hb
      obtain rfl : t = b := by omega
      rcases ht with ht | ht
      · exact absurd ht hbw
      · exact ht⟩
theorem CI.push (hg : Good next) (h : CI next wo cs todo n i) (hl : next[n]? = some l) (hi : l[i]? = some (t : Int)) (ht : (t : Int) ≠ wo) (hc : cs[t]? = some false) : CI next wo (cs.set t true) (todo ++ [t]) n (i + 1) := by
  have hlt : t < cs.length := (List.getElem?_eq_some_iff.1 hc).1
  have he : Ed next n t := ⟨l, hl, List.mem_of_getElem? hi⟩
  refine ⟨by simp [h.len], fun b hb => ?_, fun b hb => ?_, h.z.set, h.cu.set, fun a b ha hna han hab hbw => ?_, fun l' j b hl' hj hb hbw => ?_⟩
  · rcases hb.of_set with rfl | hb
    · exact (h.rc n h.cu).step he ht
    · exact h.rc b hb
  · rcases List.mem_append.1 hb with hb | hb
    · exact (h.td b hb).set
    · obtain rfl : b = t := by simpa using hb
      exact Tr.set_self hlt
  · rcases ha.of_set with rfl | ha
    · exact absurd (by simp) hna
    · exact (h.cl a b ha (fun h => hna (List.mem_append_left _ h)) han hab hbw).set
  · rw [hl] at hl'
    obtain rfl := Option.some.inj hl'
    rcases Nat.lt_or_ge j i with h1 | h1
    · exact (h.cn l j b hl h1 hb hbw).set
    · obtain rfl : j = i := by omega
      rw [hi] at hb
      have : (t : Int) = b := Option.some.inj hb
      obtain rfl : t = b := by omega
      exact Tr.set_self hlt
theorem CI.row (h : CI next wo cs todo n i) (hl : next[n]? = some l) (hi : l.length ≤ i) : CW next wo cs todo :=
  ⟨h.len, h.rc, h.td, h.z, fun a b ha hna hab hbw => by
    by_cases han : a = n
    · subst han
      obtain ⟨l', hl', hm⟩ := hab
      rw [hl] at hl'
      obtain rfl := Option.some.inj hl'
      obtain ⟨j, hj⟩ := List.getElem?_of_mem hm
      exact h.cn l j b hl (by have := (List.getElem?_eq_some_iff.1 hj).1; omega) hj hbw
    · exact h.cl a b ha hna han hab hbw⟩
theorem CW.done (h : CW next wo cs []) (b : Nat) : Tr cs b ↔ Rc next wo b := by
  refine ⟨h.rc b, ?_⟩
  rintro ⟨k, hk⟩
  induction hk with
  | z _ _ => exact h.z
  | s _ he hw ih => exact h.cl _ _ ih (by simp) he hw
theorem Rn.pos {k b : Nat} (h : Rn next wo k b) : 0 < next.length := by
  induction h with
  | z h _ => exact h
  | s _ _ _ ih => exact ih
/-- what Come tells -/
def ComeOk (next : List (List Int)) (wo : Int) (cs : List Bool) : Prop := cs.length = next.length ∧ ∀ b, Tr cs b ↔ Rc next wo b
theorem come_none (h : next.length = 0 ∨ wo = 0) : ComeOk next wo (List.replicate next.length false) := by
  refine ⟨by simp, fun b => ⟨fun hb => ?_, fun ⟨k, hk⟩ => ?_⟩⟩
  · unfold Tr at hb
    rw [List.getElem?_replicate] at hb
    split at hb <;> cases hb
  · rcases h with h | h
    · have := hk.pos
      omega
    · subst h
      exact (hk.no0).elim
/-- a row of the table -/
def RowOk (next : List (List Int)) (a : Nat) (row : List Bool) : Prop := row.length = next.length ∧ ∀ b, b < next.length → (Tr row b ↔ Dm next a b)
/-- so far a row is filled -/
def RowTo (next : List (List Int)) (a : Nat) (row : List Bool) (k : Nat) : Prop := row.length = next.length ∧ ∀ b, b < k → (Tr row b ↔ Dm next a b)
theorem RowTo.step {a : Nat} {row : List Bool} {k : Nat} {v : Bool} (h : RowTo next a row k) (hk : k < next.length) (hv : v = true ↔ Dm next a k) : RowTo next a (row.set k v) (k + 1) := by
  refine ⟨by simp [h.1], fun b hb => ?_⟩
  by_cases hbk : k = b
  · subst hbk
    unfold Tr
    rw [List.getElem?_set_self (by rw [h.1]; exact hk), Option.some.injEq]
    exact hv
  · unfold Tr
    rw [List.getElem?_set_ne hbk]
    exact h.2 b (by omega)
theorem dm_of_come {all left : List Bool} {a b : Nat} (hall : ComeOk next (-1) all) (hleft : ComeOk next a left) : (Tr all a ∧ Tr all b ∧ (a = b ∨ ¬ Tr left b)) ↔ Dm next a b := by
  rw [hall.2 a, hall.2 b, hleft.2 b]
  exact Iff.rfl
/-- the table -/
def TableOk (next : List (List Int)) (tb : List (List Bool)) : Prop := tb.length = next.length ∧ ∀ a row, tb[a]? = some row → RowOk next a row
/-- what is nearest so far -/
def NearTo (next : List (List Int)) (b : Nat) (near : Int) (k : Nat) : Prop :=
  (near = -1 ∨ ∃ a : Nat, near = a ∧ Id next a b) ∧ ∀ a, a < k → Id next a b → near = (a : Int)
theorem NearTo.no {b k : Nat} {near : Int} (h : NearTo next b near k) (hn : ¬ Id next k b) : NearTo next b near (k + 1) :=
  ⟨h.1, fun a ha hid => by
    rcases Nat.lt_or_ge a k with h1 | h1
    · exact h.2 a h1 hid
    · obtain rfl : a = k := by omega
      exact absurd hid hn⟩
theorem NearTo.yes {b k : Nat} {near : Int} (h : NearTo next b near k) (hy : Id next k b) : NearTo next b (k : Int) (k + 1) :=
  ⟨.inr ⟨k, rfl, hy⟩, fun a ha hid => by rw [hid.uniq hy]⟩
/-- what the document's Tree tells -/
def RefOk (next : List (List Int)) (t : List Int) : Prop := t.length = next.length ∧ ∀ (b : Nat) (v : Int), t[b]? = some v → (v = -1 ∧ ∀ a, ¬ Id next a b) ∨ ∃ a : Nat, v = a ∧ Id next a b
theorem NearTo.ref {b : Nat} {near : Int} (hg : Good next) (h : NearTo next b near next.length) : (near = -1 ∧ ∀ a, ¬ Id next a b) ∨ ∃ a : Nat, near = a ∧ Id next a b := by
  rcases h.1 with h1 | ⟨a, h1, h2⟩
  · refine .inl ⟨h1, fun a hid => ?_⟩
    have := h.2 a (hid.2.1.1.lt hg) hid
    omega
  · exact .inr ⟨a, h1, h2⟩
theorem ref_eq {t u : List Int} (hg : Good next) (ht : TreeOk next t) (hu : RefOk next u) : t = u := by
  apply List.ext_getElem?
  intro b
  rcases Nat.lt_or_ge b next.length with hb | hb
  rotate_left
  · rw [List.getElem?_eq_none (by rw [ht.len]; exact hb), List.getElem?_eq_none (by rw [hu.1]; exact hb)]
  obtain ⟨v, hv⟩ : ∃ v, u[b]? = some v := ⟨_, List.getElem?_eq_getElem (by rw [hu.1]; exact hb)⟩
  have h1 := hu.2 b v hv
  rw [hv]
  have hnone : (∀ a, ¬ Id next a b) → v = -1 := fun h => by
    rcases h1 with ⟨h2, _⟩ | ⟨a, _, h2⟩
    · exact h2
    · exact absurd h2 (h a)
  by_cases hb0 : b = 0
  · subst hb0
    rw [ht.z hb, hnone (fun a hid => hid.1 (hid.2.1.zero hb))]
  by_cases hrc : Rc next (-1) b
  · obtain ⟨r, hr⟩ := ht.rk
    obtain ⟨a, h2, h3, _⟩ := (hr b hrc).2 hb0
    rw [h2]
    rcases h1 with ⟨_, h4⟩ | ⟨a', h4, h5⟩
    · exact absurd h3 (h4 a)
    · rw [h4, h3.uniq h5]
  · rw [ht.no b hb hrc, hnone (fun a hid => hrc hid.2.1.2.1)]
end
end Go.Proofs.Ytkhhcodpggnchaa
