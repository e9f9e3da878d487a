/-
  Moves, in plain Lean: the order in which moves are done, step by step. Conditions: none.
-/
import Derived.Test.YtnebpbghkmcagaaFw5
namespace Go.Proofs.Ytnebpbghkmcagaa
open Go Go.Fw
set_option linter.unusedVariables false

/-- what is left to do, who is still read from how often, what is done, what can be done now -/
structure Sg where
  left : List (Int × Int)
  users : List (Int × Int)
  out : List (Int × Int)
  ready : List Int

def keysI (m : List (Int × Int)) : List Int := m.map (·.1)
/-- the last that is ready is done -/
def dstepAt (σ : Sg) (r : List Int) (to : Int) : Sg :=
  let fr := (lkI σ.left to).getD 0
  let left := delI σ.left to
  let users := setI σ.users fr ((lkI σ.users fr).getD 0 - 1)
  { left := left, users := users, out := σ.out ++ [(to, fr)], ready := if (lkI left fr).isSome && decide ((lkI users fr).getD 0 = 0) then r ++ [fr] else r }
def dstep (σ : Sg) : Sg := match σ.ready.getLast? with
  | none => σ
  | some to => dstepAt σ σ.ready.dropLast to
def diter : Nat → Sg → Sg
  | 0, σ => σ
  | n + 1, σ => if σ.ready = [] then σ else diter n (dstep σ)
def doneF (σ : Sg) : Sg := diter σ.left.length σ

def cnt (m : List (Int × Int)) (p : Int) : Nat := (m.filter (fun e => e.2 == p)).length

/-! ## assoc lists -/
theorem lkI_some {m : List (Int × Int)} {k v : Int} (h : lkI m k = some v) : (k, v) ∈ m := by
  unfold lkI at h
  obtain ⟨e, he, rfl⟩ := Option.map_eq_some_iff.1 h
  have h1 := List.mem_of_find?_eq_some he
  have h2 := List.find?_some he
  simp at h2
  rw [← h2]; exact h1
theorem lkI_of_mem {m : List (Int × Int)} {k v : Int} (hn : (keysI m).Nodup) (h : (k, v) ∈ m) : lkI m k = some v := by
  induction m with
  | nil => simp at h
  | cons e m ih =>
    simp only [keysI, List.map_cons, List.nodup_cons] at hn
    unfold lkI at ih ⊢
    rw [List.find?_cons]
    rcases List.mem_cons.1 h with rfl | h
    · simp
    · have hne : e.1 ≠ k := fun he => hn.1 (he ▸ List.mem_map.2 ⟨_, h, rfl⟩)
      have hb : (e.1 == k) = false := by simpa using hne
      simp only [hb]
      exact ih hn.2 h
theorem lkI_isSome {m : List (Int × Int)} {k : Int} : (lkI m k).isSome = true ↔ k ∈ keysI m := by
  unfold lkI keysI
  rw [Option.isSome_map, List.find?_isSome]
  simp
theorem lkI_none {m : List (Int × Int)} {k : Int} (h : k ∉ keysI m) : lkI m k = none := by
  cases hl : lkI m k with
  | none => rfl
  | some v => exact absurd (lkI_isSome.1 (by rw [hl]; rfl)) h
theorem lkI_setI (m : List (Int × Int)) (k v p : Int) : lkI (setI m k v) p = if p = k then some v else lkI m p := by
  unfold setI
  split
  · rename_i hs
    induction m with
    | nil => simp [lkI] at hs
    | cons e m ih =>
      by_cases hek : e.1 = k
      · have hb : (e.1 == k) = true := by simpa using hek
        simp only [List.map_cons, hb, if_true, lkI, List.find?_cons]
        by_cases hpk : p = k
        · subst hpk; simp
        · have h1 : (k == p) = false := by simpa using fun h => hpk h.symm
          have h2 : (e.1 == p) = false := by rw [hek]; exact h1
          simp only [h1, h2, hpk, if_false]
          clear ih hs
          induction m with
          | nil => simp
          | cons e' m ih2 =>
            simp only [List.map_cons, List.find?_cons]
            by_cases he' : e'.1 = k
            · have h3 : (e'.1 == k) = true := by simpa using he'
              have h4 : (e'.1 == p) = false := by rw [he']; exact h1
              simp only [h3, if_true, h1, h4]
              exact ih2
            · have h3 : (e'.1 == k) = false := by simpa using he'
              simp only [h3, Bool.false_eq_true, if_false]
              cases (e'.1 == p) with
              | true => rfl
              | false => exact ih2
      · have hb : (e.1 == k) = false := by simpa using hek
        have hs' : (lkI m k).isSome = true := by
          unfold lkI at hs ⊢
          rw [List.find?_cons] at hs
          simpa only [hb] using hs
        have ih := ih hs'
        unfold lkI at ih ⊢
        simp only [List.map_cons, hb, Bool.false_eq_true, if_false, List.find?_cons]
        by_cases hep : e.1 = p
        · have h1 : (e.1 == p) = true := by simpa using hep
          have h2 : p ≠ k := fun h => hek (hep.trans h)
          simp [h1, h2]
        · have h1 : (e.1 == p) = false := by simpa using hep
          simp only [h1]
          exact ih
  · rename_i hs
    unfold lkI at hs ⊢
    rw [List.find?_append]
    by_cases hpk : p = k
    · subst hpk
      have : m.find? (fun e => e.1 == p) = none := by
        cases hm : m.find? (fun e => e.1 == p) with
        | none => rfl
        | some x => rw [hm] at hs; simp at hs
      simp [this]
    · have h1 : (k == p) = false := by simpa using fun h => hpk h.symm
      simp [List.find?_cons, h1, hpk]
theorem keysI_delI (m : List (Int × Int)) (k : Int) : keysI (delI m k) = (keysI m).filter (fun x => !(x == k)) := by
  simp [keysI, delI, List.filter_map, Function.comp_def]
theorem delI_sub (m : List (Int × Int)) (k : Int) : (delI m k).Sublist m := List.filter_sublist
theorem mem_delI {m : List (Int × Int)} {k : Int} {e : Int × Int} : e ∈ delI m k ↔ e ∈ m ∧ e.1 ≠ k := by simp [delI]
theorem mem_keys_delI {m : List (Int × Int)} {k p : Int} : p ∈ keysI (delI m k) ↔ p ∈ keysI m ∧ p ≠ k := by rw [keysI_delI]; simp
theorem nodup_delI {m : List (Int × Int)} (k : Int) (h : (keysI m).Nodup) : (keysI (delI m k)).Nodup := by
  rw [keysI_delI]; exact h.filter _
theorem delI_length {m : List (Int × Int)} {k : Int} (hn : (keysI m).Nodup) (hk : k ∈ keysI m) : (delI m k).length + 1 = m.length := by
  induction m with
  | nil => simp [keysI] at hk
  | cons e m ih =>
    simp only [keysI, List.map_cons, List.nodup_cons, List.mem_cons] at hn hk
    by_cases he : e.1 = k
    · have hb : (e.1 == k) = true := by simpa using he
      have hself : delI m k = m := by
        unfold delI
        refine List.filter_eq_self.2 fun e' he' => ?_
        have : e'.1 ≠ k := fun h => hn.1 (he ▸ h ▸ List.mem_map.2 ⟨e', he', rfl⟩)
        simpa using this
      unfold delI at hself ⊢
      simp only [List.filter_cons, hb, Bool.not_true, Bool.false_eq_true, if_false]
      rw [hself]; rfl
    · have hb : (e.1 == k) = false := by simpa using he
      have hk' : k ∈ keysI m := hk.resolve_left fun h => he h.symm
      have := ih hn.2 hk'
      unfold delI at this ⊢
      simp only [List.filter_cons, hb, Bool.not_false, if_true, List.length_cons]
      omega
theorem cnt_delI {m : List (Int × Int)} {k f : Int} (hn : (keysI m).Nodup) (hk : (k, f) ∈ m) (p : Int) : cnt m p = cnt (delI m k) p + if p = f then 1 else 0 := by
  induction m with
  | nil => simp at hk
  | cons e m ih =>
    simp only [keysI, List.map_cons, List.nodup_cons] at hn
    rcases List.mem_cons.1 hk with rfl | hk'
    · have hself : delI m k = m := by
        unfold delI
        refine List.filter_eq_self.2 fun e' he' => ?_
        have : e'.1 ≠ k := fun h => hn.1 (h ▸ List.mem_map.2 ⟨e', he', rfl⟩)
        simpa using this
      have e1 : delI ((k, f) :: m) k = m := by
        unfold delI at hself ⊢
        simp only [List.filter_cons, BEq.rfl, Bool.not_true, Bool.false_eq_true, if_false]
        exact hself
      rw [e1]
      unfold cnt
      simp only [List.filter_cons]
      by_cases hf : f = p
      · subst hf; simp
      · have hb : (f == p) = false := by simpa using hf
        have hf' : ¬ p = f := fun h => hf h.symm
        simp [hb, hf']
    · have hne : e.1 ≠ k := fun h => hn.1 (h ▸ List.mem_map.2 ⟨_, hk', rfl⟩)
      have hb : (e.1 == k) = false := by simpa using hne
      have e1 : delI (e :: m) k = e :: delI m k := by
        unfold delI
        simp only [List.filter_cons, hb, Bool.not_false, if_true]
      have ih := ih hn.2 hk'
      rw [e1]
      unfold cnt at ih ⊢
      simp only [List.filter_cons]
      split
      · simp only [List.length_cons]; omega
      · exact ih
theorem cnt_zero {m : List (Int × Int)} {p : Int} : cnt m p = 0 ↔ ∀ e ∈ m, e.2 ≠ p := by
  unfold cnt
  rw [List.length_eq_zero_iff, List.filter_eq_nil_iff]
  simp
theorem cnt_le (m : List (Int × Int)) (p : Int) : cnt m p ≤ m.length := List.length_filter_le _ _

theorem nodup_len {α : Type} [BEq α] [LawfulBEq α] : ∀ {l m : List α}, l.Nodup → (∀ x ∈ l, x ∈ m) → l.length ≤ m.length
  | [], m, _, _ => Nat.zero_le _
  | x :: l, m, hn, hs => by
    rw [List.nodup_cons] at hn
    have hx := hs x (by simp)
    have ih := nodup_len (l := l) (m := m.erase x) hn.2 fun y hy => by
      have hne : y ≠ x := fun h => hn.1 (h ▸ hy)
      exact (List.mem_erase_of_ne hne).2 (hs y (by simp [hy]))
    have := List.length_erase_of_mem hx
    have hp : 0 < m.length := List.length_pos_of_mem hx
    simp only [List.length_cons]
    omega

/-! ## the invariant -/
structure Inv (spare : Int) (σ : Sg) : Prop where
  nk : (keysI σ.left).Nodup
  ns : spare ∉ keysI σ.left
  us : ∀ p, p ≠ spare → (lkI σ.users p).getD 0 = (cnt σ.left p : Int)
  ul : -(σ.out.length : Int) ≤ (lkI σ.users spare).getD 0 ∧ (lkI σ.users spare).getD 0 ≤ 0
  rn : σ.ready.Nodup
  rl : ∀ t ∈ σ.ready, t ∈ keysI σ.left ∧ cnt σ.left t = 0
  rc : ∀ t ∈ keysI σ.left, cnt σ.left t = 0 → t ∈ σ.ready

theorem Inv.at_ {spare : Int} {σ : Sg} (h : Inv spare σ) {r : List Int} {to : Int} (hr : σ.ready = r ++ [to]) :
    ∃ fr, lkI σ.left to = some fr ∧ (to, fr) ∈ σ.left ∧ fr ≠ to ∧ fr ∉ r ∧ Inv spare (dstepAt σ r to) ∧ (dstepAt σ r to).left.length + 1 = σ.left.length := by
  obtain ⟨hto, hc0⟩ := h.rl to (by rw [hr]; simp)
  obtain ⟨fr, hfr⟩ := Option.isSome_iff_exists.1 (lkI_isSome.2 hto)
  have hm := lkI_some hfr
  have hne : fr ≠ to := fun he => (cnt_zero.1 hc0) _ hm he
  have hnr : fr ∉ r := fun hin => by
    have := (h.rl fr (by rw [hr]; simp [hin])).2
    exact (cnt_zero.1 this) _ hm rfl
  have hrn : (r ++ [to]).Nodup := hr ▸ h.rn
  have hrn1 : r.Nodup ∧ to ∉ r := by
    rw [List.nodup_append] at hrn
    exact ⟨hrn.1, fun hin => hrn.2.2 to hin to (by simp) rfl⟩
  have hspt : to ≠ spare := fun he => h.ns (he ▸ hto)
  have hcd := cnt_delI h.nk hm
  have hfr0 : (lkI σ.left to).getD 0 = fr := by rw [hfr]; rfl
  refine ⟨fr, hfr, hm, hne, hnr, ?_, ?_⟩
  · refine ⟨?_, ?_, ?_, ?_, ?_, ?_, ?_⟩
    · exact nodup_delI to h.nk
    · exact fun hin => h.ns (mem_keys_delI.1 hin).1
    · intro p hp
      simp only [dstepAt, hfr0]
      rw [lkI_setI]
      have := h.us p hp
      have hc := hcd p
      by_cases hpf : p = fr
      · subst hpf
        simp only [if_true, Option.getD_some] at hc ⊢
        omega
      · simp only [hpf, if_false] at hc ⊢
        omega
    · simp only [dstepAt, hfr0]
      rw [lkI_setI, List.length_append]
      have := h.ul
      by_cases hsf : spare = fr
      · subst hsf
        simp only [if_true, Option.getD_some, List.length_cons, List.length_nil]
        omega
      · simp only [hsf, if_false, List.length_cons, List.length_nil]
        omega
    · simp only [dstepAt, hfr0]
      split
      · rw [List.nodup_append]
        exact ⟨hrn1.1, by simp, fun a ha b hb => by simp at hb; subst hb; exact fun he => hnr (he ▸ ha)⟩
      · exact hrn1.1
    · intro t ht
      simp only [dstepAt, hfr0] at ht ⊢
      have hold : t ∈ r → t ∈ keysI (delI σ.left to) ∧ cnt (delI σ.left to) t = 0 := fun hin => by
        obtain ⟨h1, h2⟩ := h.rl t (by rw [hr]; simp [hin])
        refine ⟨mem_keys_delI.2 ⟨h1, fun he => hrn1.2 (he ▸ hin)⟩, ?_⟩
        have := hcd t; omega
      split at ht
      · rename_i hcond
        simp only [Bool.and_eq_true, decide_eq_true_eq] at hcond
        rcases List.mem_append.1 ht with hin | hin
        · exact hold hin
        · simp at hin; subst hin
          have hk := lkI_isSome.1 hcond.1
          refine ⟨hk, ?_⟩
          have hsp : t ≠ spare := fun he => h.ns (he ▸ (mem_keys_delI.1 hk).1)
          have h1 := hcond.2
          rw [lkI_setI] at h1
          simp only [if_true, Option.getD_some] at h1
          have h2 := h.us t hsp
          have h3 := hcd t
          simp only [if_true] at h3
          omega
      · exact hold ht
    · intro t ht hc
      simp only [dstepAt, hfr0] at ht hc ⊢
      obtain ⟨ht1, ht2⟩ := mem_keys_delI.1 ht
      have htsp : t ≠ spare := fun he => h.ns (he ▸ ht1)
      by_cases htf : t = fr
      · subst htf
        rw [if_pos]
        · simp
        · simp only [Bool.and_eq_true, decide_eq_true_eq]
          refine ⟨lkI_isSome.2 ht, ?_⟩
          rw [lkI_setI]
          simp only [if_true, Option.getD_some]
          have h2 := h.us t htsp
          have h3 := hcd t
          simp only [if_true] at h3
          omega
      · have h3 := hcd t
        simp only [htf, if_false] at h3
        have hin := h.rc t ht1 (by omega)
        rw [hr] at hin
        have hin' : t ∈ r := by
          rcases List.mem_append.1 hin with h | h
          · exact h
          · simp at h; exact absurd h ht2
        split
        · simp [hin']
        · exact hin'
  · exact delI_length h.nk hto

theorem dstep_eq {σ : Sg} {r : List Int} {to : Int} (hr : σ.ready = r ++ [to]) : dstep σ = dstepAt σ r to := by
  unfold dstep
  rw [hr]
  simp
theorem Inv.diter {spare : Int} : ∀ (n : Nat) {σ : Sg}, Inv spare σ → Inv spare (diter n σ)
  | 0, σ, h => h
  | n + 1, σ, h => by
    unfold Go.Proofs.Ytnebpbghkmcagaa.diter
    split
    · exact h
    · rename_i hne
      obtain ⟨r, to, hr⟩ : ∃ r to, σ.ready = r ++ [to] := ⟨_, _, (List.dropLast_concat_getLast hne).symm⟩
      obtain ⟨fr, _, _, _, _, hI, _⟩ := h.at_ hr
      rw [dstep_eq hr]
      exact hI.diter n
theorem Inv.diter_ready {spare : Int} : ∀ (n : Nat) {σ : Sg}, Inv spare σ → σ.left.length ≤ n → (Go.Proofs.Ytnebpbghkmcagaa.diter n σ).ready = []
  | 0, σ, h, hn => by
    have : σ.left = [] := List.eq_nil_of_length_eq_zero (by omega)
    cases hr : σ.ready with
    | nil => simpa [Go.Proofs.Ytnebpbghkmcagaa.diter] using hr
    | cons t r =>
      have := (h.rl t (by rw [hr]; simp)).1
      simp [keysI, *] at this
  | n + 1, σ, h, hn => by
    unfold Go.Proofs.Ytnebpbghkmcagaa.diter
    split
    · assumption
    · rename_i hne
      obtain ⟨r, to, hr⟩ : ∃ r to, σ.ready = r ++ [to] := ⟨_, _, (List.dropLast_concat_getLast hne).symm⟩
      obtain ⟨fr, _, _, _, _, hI, hlen⟩ := h.at_ hr
      rw [dstep_eq hr]
      exact hI.diter_ready n (by omega)
/-- one step, then the others -/
theorem doneF_step {spare : Int} {σ : Sg} (h : Inv spare σ) {r : List Int} {to : Int} (hr : σ.ready = r ++ [to]) : doneF σ = doneF (dstepAt σ r to) := by
  obtain ⟨fr, _, _, _, _, hI, hlen⟩ := h.at_ hr
  unfold doneF
  rw [← hlen]
  conv => lhs; unfold Go.Proofs.Ytnebpbghkmcagaa.diter
  rw [if_neg (by rw [hr]; simp), dstep_eq hr]
theorem doneF_nil {σ : Sg} (hr : σ.ready = []) : doneF σ = σ := by
  unfold doneF
  cases σ.left.length with
  | zero => rfl
  | succ n => unfold Go.Proofs.Ytnebpbghkmcagaa.diter; rw [if_pos hr]
end Go.Proofs.Ytnebpbghkmcagaa
