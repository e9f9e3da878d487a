/-
  Moves, in plain Lean: the whole order. Conditions: none.
-/
import Derived.Test.YtnebpbghkmcagaaPA
namespace Go.Proofs.Ytnebpbghkmcagaa
open Go Go.Fw
set_option linter.unusedVariables false

def negB (x : Int × Int) : Bool := decide (x.1 < 0) || decide (x.2 < 0)
def isB (spare : Int) (x : Int × Int) : Bool := decide (x.1 = spare) || decide (x.2 = spare)
def dupB (l : List (Int × Int)) : Bool := !decide ((l.map (·.1)).Nodup)
def wrongF (l : List (Int × Int)) (spare : Int) : Int :=
  if 4096 < l.length then 3 else if l.any negB then 2 else if spare < 0 then 2 else if dupB l then 24 else if l.any (isB spare) then 1 else 0

def phB (acc : List (Int × Int) × List (Int × Int)) (m : Int × Int) : List (Int × Int) × List (Int × Int) :=
  if m.1 = m.2 then (delI acc.1 m.1, acc.2) else (acc.1, setI acc.2 m.2 ((lkI acc.2 m.2).getD 0 + 1))
def phC (left users : List (Int × Int)) (r : List Int) (m : Int × Int) : List Int :=
  if (lkI left m.1).isSome && decide ((lkI users m.1).getD 0 = 0) then r ++ [m.1] else r
def sg0 (l : List (Int × Int)) : Sg :=
  { left := (l.foldl phB (l, [])).1, users := (l.foldl phB (l, [])).2, out := [], ready := l.foldl (phC (l.foldl phB (l, [])).1 (l.foldl phB (l, [])).2) [] }
def cutS (spare : Int) (σ : Sg) (t : Int) : Sg :=
  { left := σ.left.map (fun e => (e.1, if e.2 = t then spare else e.2)), users := setI σ.users t 0, out := σ.out ++ [(spare, t)], ready := σ.ready ++ [t] }
def ringStep (spare : Int) (σ : Sg) (m : Int × Int) : Sg := if (lkI σ.left m.1).isSome then doneF (cutS spare σ m.1) else σ
def orderF (l : List (Int × Int)) (spare : Int) : List (Int × Int) := (l.foldl (ringStep spare) (doneF (sg0 l))).out

def nonself (l : List (Int × Int)) : List (Int × Int) := l.filter (fun e => decide (e.1 ≠ e.2))

theorem phB_self {acc : List (Int × Int) × List (Int × Int)} {m : Int × Int} (h : m.1 = m.2) : phB acc m = (delI acc.1 m.1, acc.2) := by unfold phB; rw [if_pos h]
theorem phB_non {acc : List (Int × Int) × List (Int × Int)} {m : Int × Int} (h : ¬ m.1 = m.2) : phB acc m = (acc.1, setI acc.2 m.2 ((lkI acc.2 m.2).getD 0 + 1)) := by unfold phB; rw [if_neg h]
theorem phB_left : ∀ (l2 L U : List (Int × Int)), (l2.foldl phB (L, U)).1 = L.filter (fun e => !(l2.any (fun m => decide (m.1 = m.2) && m.1 == e.1)))
  | [], L, U => by simp; exact (List.filter_eq_self.2 (by simp)).symm
  | m :: l2, L, U => by
    rw [List.foldl_cons]
    by_cases h : m.1 = m.2
    · rw [phB_self h, phB_left l2]
      unfold delI
      rw [List.filter_filter]
      apply List.filter_congr
      intro e _
      have e1 : (m.1 == e.1) = (e.1 == m.1) := by rw [Bool.eq_iff_iff, beq_iff_eq, beq_iff_eq]; exact eq_comm
      rw [List.any_cons, decide_eq_true h, Bool.true_and, Bool.not_or, e1, Bool.and_comm]
    · rw [phB_non h, phB_left l2]
      apply List.filter_congr
      intro e _
      simp [h]
theorem phB_users : ∀ (l2 L U : List (Int × Int)) (p : Int), (lkI (l2.foldl phB (L, U)).2 p).getD 0 = (lkI U p).getD 0 + (cnt (nonself l2) p : Int)
  | [], L, U, p => by simp [nonself, cnt]
  | m :: l2, L, U, p => by
    rw [List.foldl_cons]
    by_cases h : m.1 = m.2
    · rw [phB_self h, phB_users l2]
      simp [nonself, List.filter_cons, h]
    · rw [phB_non h, phB_users l2, lkI_setI]
      simp only [nonself, List.filter_cons, ne_eq, h, not_false_eq_true, decide_true, if_true, cnt]
      by_cases hp : p = m.2
      · subst hp
        simp
        omega
      · have hb : (m.2 == p) = false := by simpa using fun h => hp h.symm
        simp [hp, hb]
theorem sg0_left {l : List (Int × Int)} (hn : (keysI l).Nodup) : (sg0 l).left = nonself l := by
  simp only [sg0]
  rw [phB_left]
  unfold nonself
  apply List.filter_congr
  intro e he
  by_cases hs : e.1 = e.2
  · have : (l.any (fun m => decide (m.1 = m.2) && m.1 == e.1)) = true := List.any_eq_true.2 ⟨e, he, by simp [hs]⟩
    rw [this]; simp [hs]
  · have : (l.any (fun m => decide (m.1 = m.2) && m.1 == e.1)) = false := by
      rw [List.any_eq_false]
      intro m hm hc
      simp only [Bool.and_eq_true, decide_eq_true_eq, beq_iff_eq] at hc
      have h1 := lkI_of_mem (k := m.1) (v := m.2) hn hm
      have h2 := lkI_of_mem (k := e.1) (v := e.2) hn he
      rw [hc.2] at h1
      rw [h1] at h2
      have := Option.some.inj h2
      exact hs (by rw [← hc.2, hc.1, this])
    rw [this]; simp [hs]
theorem phC_eq (left users : List (Int × Int)) : ∀ (l2 : List (Int × Int)) (r : List Int), l2.foldl (phC left users) r = r ++ (l2.filter (fun m => (lkI left m.1).isSome && decide ((lkI users m.1).getD 0 = 0))).map (·.1)
  | [], r => by simp
  | m :: l2, r => by
    rw [List.foldl_cons, phC_eq left users l2]
    by_cases h : ((lkI left m.1).isSome && decide ((lkI users m.1).getD 0 = 0)) = true
    · rw [show phC left users r m = r ++ [m.1] by unfold phC; rw [if_pos h]]
      simp [List.filter_cons, h]
    · rw [show phC left users r m = r by unfold phC; rw [if_neg h]]
      simp [List.filter_cons, h]
theorem keys_nonself {l : List (Int × Int)} {t : Int} (h : t ∈ keysI (nonself l)) : t ∈ keysI l := by
  obtain ⟨e, he, rfl⟩ := List.mem_map.1 h
  exact List.mem_map.2 ⟨e, (List.mem_filter.1 he).1, rfl⟩
theorem Inv.sg0 {l : List (Int × Int)} {spare : Int} (hn : (keysI l).Nodup) (hs : spare ∉ keysI l) (hf : ∀ e ∈ l, e.2 ≠ spare) : Inv spare (sg0 l) := by
  have hl := sg0_left hn
  have hu : ∀ p, (lkI (Go.Proofs.Ytnebpbghkmcagaa.sg0 l).users p).getD 0 = (cnt (nonself l) p : Int) := fun p => by
    simp only [Go.Proofs.Ytnebpbghkmcagaa.sg0]
    rw [phB_users]; simp [lkI]
  have hr : (Go.Proofs.Ytnebpbghkmcagaa.sg0 l).ready = (l.filter (fun m => (lkI (Go.Proofs.Ytnebpbghkmcagaa.sg0 l).left m.1).isSome && decide ((lkI (Go.Proofs.Ytnebpbghkmcagaa.sg0 l).users m.1).getD 0 = 0))).map (·.1) := by
    simp only [Go.Proofs.Ytnebpbghkmcagaa.sg0]
    rw [phC_eq, List.nil_append]
    rfl
  refine ⟨?_, ?_, ?_, ?_, ?_, ?_, ?_⟩
  · rw [hl]; exact hn.sublist ((List.filter_sublist).map _)
  · rw [hl]; exact fun h => hs (keys_nonself h)
  · intro p _; rw [hl]; exact hu p
  · rw [hu]
    have : (Go.Proofs.Ytnebpbghkmcagaa.sg0 l).out = [] := rfl
    rw [this]
    have hz : cnt (nonself l) spare = 0 := cnt_zero.2 fun e he => hf e (List.mem_filter.1 he).1
    simp [hz]
  · rw [hr]; exact hn.sublist ((List.filter_sublist).map _)
  · intro t ht
    rw [hr] at ht
    obtain ⟨m, hm, rfl⟩ := List.mem_map.1 ht
    have := (List.mem_filter.1 hm).2
    simp only [Bool.and_eq_true, decide_eq_true_eq] at this
    refine ⟨lkI_isSome.1 this.1, ?_⟩
    have h2 := this.2
    rw [hu] at h2
    rw [hl]; omega
  · intro t ht hc
    rw [hr]
    rw [hl] at hc
    have htl : t ∈ keysI l := by rw [hl] at ht; exact keys_nonself ht
    obtain ⟨m, hm, rfl⟩ := List.mem_map.1 htl
    refine List.mem_map.2 ⟨m, List.mem_filter.2 ⟨hm, ?_⟩, rfl⟩
    simp only [Bool.and_eq_true, decide_eq_true_eq]
    refine ⟨lkI_isSome.2 ht, ?_⟩
    rw [hu]; omega

theorem lookups_ne {m : List (Int × Int)} {f : Int → Int} (p : Int) : lkI (m.map (fun e => (e.1, f e.2))) p = (lkI m p).map f := by
  unfold lkI
  rw [List.find?_map]
  simp [Function.comp_def]
theorem keysI_cut (m : List (Int × Int)) (spare t : Int) : keysI (m.map (fun e => (e.1, if e.2 = t then spare else e.2))) = keysI m := by simp [keysI, Function.comp_def]
theorem cnt_cut {m : List (Int × Int)} {spare t p : Int} (hp : p ≠ spare) : cnt (m.map (fun e => (e.1, if e.2 = t then spare else e.2))) p = if p = t then 0 else cnt m p := by
  induction m with
  | nil => simp [cnt]
  | cons e m ih =>
    unfold cnt at ih ⊢
    simp only [List.map_cons, List.filter_cons]
    by_cases het : e.2 = t
    · have hb : (spare == p) = false := by simpa using fun h => hp h.symm
      simp only [het, if_true, hb, Bool.false_eq_true, if_false]
      rw [ih]
      by_cases hpt : p = t
      · simp [hpt]
      · have hb2 : (t == p) = false := by simpa using fun h => hpt h.symm
        simp [hpt, hb2]
    · simp only [het, if_false]
      by_cases hep : e.2 = p
      · have hb2 : (e.2 == p) = true := by simpa using hep
        have hpt : p ≠ t := fun h => het (hep.trans h)
        simp only [hb2, if_true, List.length_cons, ih, hpt, if_false]
      · have hb2 : (e.2 == p) = false := by simpa using hep
        simp only [hb2, Bool.false_eq_true, if_false, ih]
theorem Inv.cutS {spare : Int} {σ : Sg} (h : Inv spare σ) (hr : σ.ready = []) {t : Int} (ht : t ∈ keysI σ.left) : Inv spare (cutS spare σ t) := by
  have hts : t ≠ spare := fun he => h.ns (he ▸ ht)
  refine ⟨?_, ?_, ?_, ?_, ?_, ?_, ?_⟩
  · simp only [Go.Proofs.Ytnebpbghkmcagaa.cutS]; rw [keysI_cut]; exact h.nk
  · simp only [Go.Proofs.Ytnebpbghkmcagaa.cutS]; rw [keysI_cut]; exact h.ns
  · intro p hp
    simp only [Go.Proofs.Ytnebpbghkmcagaa.cutS]
    rw [lkI_setI, cnt_cut hp]
    by_cases hpt : p = t
    · simp [hpt]
    · simp only [hpt, if_false]; exact h.us p hp
  · simp only [Go.Proofs.Ytnebpbghkmcagaa.cutS]
    rw [lkI_setI]
    have hst : ¬ spare = t := fun he => hts he.symm
    have := h.ul
    simp only [hst, if_false, List.length_append, List.length_cons, List.length_nil]
    omega
  · simp [Go.Proofs.Ytnebpbghkmcagaa.cutS, hr]
  · intro x hx
    simp only [Go.Proofs.Ytnebpbghkmcagaa.cutS, hr, List.nil_append, List.mem_singleton] at hx ⊢
    subst hx
    rw [keysI_cut, cnt_cut hts]
    simp [ht]
  · intro x hx hc
    simp only [Go.Proofs.Ytnebpbghkmcagaa.cutS, hr, List.nil_append, List.mem_singleton] at hx hc ⊢
    rw [keysI_cut] at hx
    have hxs : x ≠ spare := fun he => h.ns (he ▸ hx)
    rw [cnt_cut hxs] at hc
    by_cases hxt : x = t
    · exact hxt
    · rw [if_neg hxt] at hc
      have := h.rc x hx hc
      rw [hr] at this
      cases this
theorem Inv.ringStep {spare : Int} {σ : Sg} (h : Inv spare σ) (hr : σ.ready = []) (m : Int × Int) : Inv spare (ringStep spare σ m) ∧ (ringStep spare σ m).ready = [] := by
  unfold Go.Proofs.Ytnebpbghkmcagaa.ringStep
  split
  · rename_i hs
    have hc := h.cutS hr (lkI_isSome.1 hs)
    exact ⟨hc.diter _, hc.diter_ready _ (Nat.le_refl _)⟩
  · exact ⟨h, hr⟩
theorem diter_sum {spare : Int} : ∀ (n : Nat) {σ : Sg}, Inv spare σ → (diter n σ).out.length + (diter n σ).left.length = σ.out.length + σ.left.length
  | 0, σ, _ => rfl
  | n + 1, σ, h => by
    unfold diter
    split
    · rfl
    · rename_i hne
      obtain ⟨r, to, hr⟩ : ∃ r to, σ.ready = r ++ [to] := ⟨_, _, (List.dropLast_concat_getLast hne).symm⟩
      obtain ⟨fr, _, _, _, _, hI, hlen⟩ := h.at_ hr
      rw [dstep_eq hr, diter_sum n hI]
      simp only [dstepAt, List.length_append, List.length_cons, List.length_nil] at hlen ⊢
      omega
theorem ringStep_sum {spare : Int} {σ : Sg} (h : Inv spare σ) (hr : σ.ready = []) (m : Int × Int) :
    (ringStep spare σ m).out.length + (ringStep spare σ m).left.length = σ.out.length + σ.left.length + if (lkI σ.left m.1).isSome then 1 else 0 := by
  unfold ringStep
  split
  · rename_i hs
    have hc := h.cutS hr (lkI_isSome.1 hs)
    unfold doneF
    rw [diter_sum _ hc]
    simp [Go.Proofs.Ytnebpbghkmcagaa.cutS]
    omega
  · rfl

theorem fold_take {α β : Type} (f : β → α → β) (b : β) {l : List α} {i : Nat} {x : α} (hx : l[i]? = some x) : (l.take (i + 1)).foldl f b = f ((l.take i).foldl f b) x := by
  rw [List.take_add_one, hx, List.foldl_append]; rfl
theorem phC_len (left users : List (Int × Int)) (l : List (Int × Int)) : (l.foldl (phC left users) []).length ≤ l.length := by
  rw [phC_eq]
  simp only [List.nil_append, List.length_map]
  exact List.length_filter_le _ _
theorem phB_bound (l : List (Int × Int)) (i : Nat) (p : Int) : 0 ≤ (lkI ((l.take i).foldl phB (l, [])).2 p).getD 0 ∧ (lkI ((l.take i).foldl phB (l, [])).2 p).getD 0 ≤ i := by
  rw [phB_users]
  have h1 := cnt_le (nonself (l.take i)) p
  have h2 : (nonself (l.take i)).length ≤ (l.take i).length := List.length_filter_le _ _
  have h3 : (l.take i).length ≤ i := List.length_take_le _ _
  simp only [lkI, List.find?_nil, Option.map_none, Option.getD_none]
  omega
/-- the state when the first i moves have been looked at for rings -/
def sgAt (l : List (Int × Int)) (spare : Int) (i : Nat) : Sg := (l.take i).foldl (ringStep spare) (doneF (sg0 l))
theorem fold_ring {l : List (Int × Int)} {spare : Int} (hn : (keysI l).Nodup) (hs : spare ∉ keysI l) (hf : ∀ e ∈ l, e.2 ≠ spare) : ∀ i, Inv spare (sgAt l spare i) ∧ (sgAt l spare i).ready = [] ∧
    (sgAt l spare i).out.length + (sgAt l spare i).left.length ≤ l.length + i
  | 0 => by
    have h := Inv.sg0 hn hs hf
    refine ⟨?_, ?_, ?_⟩
    · simp only [sgAt, List.take_zero, List.foldl_nil]
      exact h.diter _
    · simp only [sgAt, List.take_zero, List.foldl_nil]
      exact h.diter_ready _ (Nat.le_refl _)
    · simp only [sgAt, List.take_zero, List.foldl_nil, doneF]
      rw [diter_sum _ h, sg0_left hn]
      have : (nonself l).length ≤ l.length := List.length_filter_le _ _
      simp [sg0]
      omega
  | i + 1 => by
    obtain ⟨h1, h2, h3⟩ := fold_ring hn hs hf i
    cases hx : l[i]? with
    | none =>
      have : l.take (i + 1) = l.take i := by rw [List.take_add_one, hx]; simp
      unfold sgAt at h1 h2 h3 ⊢
      rw [this]
      exact ⟨h1, h2, by omega⟩
    | some x =>
      have e : sgAt l spare (i + 1) = ringStep spare (sgAt l spare i) x := fold_take _ _ hx
      rw [e]
      obtain ⟨h4, h5⟩ := h1.ringStep h2 x
      have h6 := ringStep_sum h1 h2 x
      refine ⟨h4, h5, ?_⟩
      split at h6 <;> omega
end Go.Proofs.Ytnebpbghkmcagaa
