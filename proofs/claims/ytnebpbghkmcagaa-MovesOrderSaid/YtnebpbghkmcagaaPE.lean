/-
  Moves, in plain Lean: moves turned round, moves in another order. Conditions: none.
-/
import Derived.Test.YtnebpbghkmcagaaPD
namespace Go.Proofs.Ytnebpbghkmcagaa
open Go Go.Fw
set_option linter.unusedVariables false

def swapL (l : List (Int × Int)) : List (Int × Int) := l.map (fun e => (e.2, e.1))
theorem swap_swap (l : List (Int × Int)) : swapL (swapL l) = l := by simp [swapL, Function.comp_def]
theorem swap_len (l : List (Int × Int)) : (swapL l).length = l.length := by simp [swapL]
theorem nonself_swap (l : List (Int × Int)) : nonself (swapL l) = swapL (nonself l) := by
  unfold nonself swapL
  rw [List.filter_map]
  congr 1
  apply List.filter_congr
  intro e _
  simp only [Function.comp_def]
  rw [Bool.eq_iff_iff, decide_eq_true_eq, decide_eq_true_eq]
  exact ⟨fun h h2 => h h2.symm, fun h h2 => h h2.symm⟩
theorem nx_swap {L : List (Int × Int)} (hn : (keysI L).Nodup) (hn' : (keysI (swapL L)).Nodup) {y : Int} (hy : y ∈ keysI L) : nx (swapL L) (nx L y) = y := by
  obtain ⟨e, he, rfl⟩ := List.mem_map.1 hy
  rw [nx_key hn he]
  have : (e.2, e.1) ∈ swapL L := List.mem_map.2 ⟨e, he, rfl⟩
  exact nx_key hn' this
theorem it_succ' (L : List (Int × Int)) (n : Nat) (x : Int) : it L (n + 1) x = it L n (nx L x) := by
  rw [it_add]; rfl
theorem it_swap {L : List (Int × Int)} (hn : (keysI L).Nodup) (hn' : (keysI (swapL L)).Nodup) : ∀ (n : Nat) {y : Int}, onC L y → it (swapL L) n (it L n y) = y
  | 0, y, _ => rfl
  | n + 1, y, h => by
    rw [it_succ']
    show it (swapL L) n (nx (swapL L) (nx L (it L n y))) = y
    rw [nx_swap hn hn' (onC_it h n).1]
    exact it_swap hn hn' n h
theorem lead_swap {L : List (Int × Int)} (hn : (keysI L).Nodup) (hn' : (keysI (swapL L)).Nodup) {x : Int} (h : lead L x) : lead (swapL L) x := by
  obtain ⟨hon, hle⟩ := h
  have hon' := hon
  obtain ⟨hx, k, hk⟩ := hon'
  have hit : ∀ n, it (swapL L) n x = it L (k * n) x := fun n => by
    have h1 : it L n (it L (k * n) x) = x := by
      rw [← it_add, show n + k * n = (k + 1) * n by rw [Nat.succ_mul]; omega]
      exact it_mul hk n
    have h2 := it_swap hn hn' n (onC_it hon (k * n))
    rw [h1] at h2
    exact h2
  refine ⟨⟨?_, k, ?_⟩, fun n => by rw [hit]; exact hle _⟩
  · have h1 : nx L (it L k x) = x := hk
    obtain ⟨e, he, hek⟩ := List.mem_map.1 (onC_it hon k).1
    rw [← hek, nx_key hn he] at h1
    exact List.mem_map.2 ⟨(e.2, e.1), List.mem_map.2 ⟨e, he, rfl⟩, h1⟩
  · rw [hit, show k * (k + 1) = (k + 1) * k by rw [Nat.mul_comm]]
    exact it_mul hk k
theorem rings_sub {L L' : List (Int × Int)} (hn : (keysI L).Nodup) (h : ∀ x, lead L x → lead L' x) : rings L ≤ rings L' := by
  unfold rings
  refine nodup_len (hn.filter _) fun x hx => ?_
  have h1 := List.mem_filter.1 hx
  have h2 := h x (@of_decide_eq_true _ (Classical.propDecidable _) h1.2)
  exact List.mem_filter.2 ⟨h2.1.1, @decide_eq_true _ (Classical.propDecidable _) h2⟩
theorem rings_swap {L : List (Int × Int)} (hn : (keysI L).Nodup) (hn' : (keysI (swapL L)).Nodup) : rings (swapL L) = rings L := by
  apply Nat.le_antisymm
  · refine rings_sub hn' fun x hx => ?_
    have := lead_swap (L := swapL L) hn' (by rw [swap_swap]; exact hn) hx
    rwa [swap_swap] at this
  · exact rings_sub hn fun x hx => lead_swap hn hn' hx
/-- as many moves turned round -/
theorem round_len {l : List (Int × Int)} {spare : Int} (h : wrongF l spare = 0) (h' : wrongF (swapL l) spare = 0) : (orderF l spare).length = (orderF (swapL l) spare).length := by
  obtain ⟨_, _, _, hn, hs, hf⟩ := wrong0_iff h
  obtain ⟨_, _, _, hn', hs', hf'⟩ := wrong0_iff h'
  rw [few_all hn hs hf, few_all hn' hs' hf', nonself_swap, rings_swap]
  · rw [swap_len]
  · exact hn.sublist ((List.filter_sublist).map _)
  · rw [← nonself_swap]
    exact hn'.sublist ((List.filter_sublist).map _)
/-- each From is a To -/
def ringF (l : List (Int × Int)) : Bool := l.all fun x => l.any fun y => decide (y.1 = x.2)
theorem round_all {l : List (Int × Int)} {spare : Int} (h : wrongF l spare = 0) (h' : wrongF (swapL l) spare = 0) (hr : ringF l = true) : ∀ x ∈ l, memF (orderF l spare ++ orderF (swapL l) spare) x.1 = x.1 := by
  obtain ⟨_, _, _, hn, hs, hf⟩ := wrong0_iff h
  obtain ⟨_, _, _, hn', hs', hf'⟩ := wrong0_iff h'
  have hfr : (keysI (swapL l)) = l.map (·.2) := by simp [keysI, swapL, Function.comp_def]
  -- each To is a From
  have hcov : ∀ x ∈ l, ∃ y ∈ l, y.2 = x.1 := by
    intro x hx
    refine Classical.byContradiction fun hno => ?_
    have hsub : ∀ k ∈ keysI (swapL l), k ∈ (keysI l).erase x.1 := fun k hk => by
      rw [hfr] at hk
      obtain ⟨y, hy, hyk⟩ := List.mem_map.1 hk
      have hne : k ≠ x.1 := fun he => hno ⟨y, hy, hyk.trans he⟩
      rw [List.mem_erase_of_ne hne]
      have h1 := List.all_eq_true.1 hr y hy
      obtain ⟨z, hz, hzy⟩ := List.any_eq_true.1 h1
      exact List.mem_map.2 ⟨z, hz, by rw [← hyk]; exact of_decide_eq_true hzy⟩
    have h1 := nodup_len hn' hsub
    have hm : x.1 ∈ keysI l := List.mem_map.2 ⟨x, hx, rfl⟩
    have h3 := List.length_pos_of_mem hm
    rw [List.length_erase_of_mem hm, hfr] at h1
    simp only [keysI, List.length_map] at h1 h3
    omega
  intro x hx
  obtain ⟨y, hy, hyx⟩ := hcov x hx
  rw [memF_append _ _ _ _ rfl]
  have h1 : memF (orderF (swapL l) spare) x.1 = y.1 := by
    have := mean_at hn' hs' hf' (y.2, y.1) (List.mem_map.2 ⟨y, hy, rfl⟩)
    rw [hyx] at this
    exact this
  rw [h1, mean_at hn hs hf y hy, hyx]

/-! ## another order -/
theorem lkI_perm {L L' : List (Int × Int)} (p : L.Perm L') (hn : (keysI L).Nodup) (k : Int) : lkI L k = lkI L' k := by
  have hn' : (keysI L').Nodup := (p.map _).nodup_iff.1 hn
  cases h : lkI L k with
  | some v => exact (lkI_of_mem hn' (p.subset (lkI_some h))).symm
  | none =>
    symm
    apply lkI_none
    intro hk
    obtain ⟨e, he, hek⟩ := List.mem_map.1 hk
    have := lkI_of_mem hn (p.symm.subset he)
    rw [hek, h] at this
    cases this
theorem it_perm {L L' : List (Int × Int)} (p : L.Perm L') (hn : (keysI L).Nodup) (x : Int) : ∀ n, it L n x = it L' n x
  | 0 => rfl
  | n + 1 => by
    show nx L (it L n x) = nx L' (it L' n x)
    rw [it_perm p hn x n]
    unfold nx
    rw [lkI_perm p hn]
theorem rings_perm {L L' : List (Int × Int)} (p : L.Perm L') (hn : (keysI L).Nodup) : rings L = rings L' := by
  have hn' : (keysI L').Nodup := (p.map _).nodup_iff.1 hn
  apply Nat.le_antisymm
  · exact rings_sub hn fun x hx => lead_congr (fun hk => (p.map _).subset hk) (it_perm p hn x) hx
  · exact rings_sub hn' fun x hx => lead_congr (fun hk => (p.map _).symm.subset hk) (fun n => (it_perm p hn x n).symm) hx
theorem any_perm {α : Type} {l l' : List α} (p : l.Perm l') (f : α → Bool) : l.any f = l'.any f := by
  rw [Bool.eq_iff_iff, List.any_eq_true, List.any_eq_true]
  exact ⟨fun ⟨x, hx, h⟩ => ⟨x, p.subset hx, h⟩, fun ⟨x, hx, h⟩ => ⟨x, p.symm.subset hx, h⟩⟩
theorem wrong_perm {l l' : List (Int × Int)} (p : l.Perm l') (spare : Int) : wrongF l spare = wrongF l' spare := by
  have hd : dupB l = dupB l' := by
    unfold dupB
    congr 1
    rw [Bool.eq_iff_iff, decide_eq_true_eq, decide_eq_true_eq]
    exact (p.map _).nodup_iff
  unfold wrongF
  rw [p.length_eq, any_perm p, any_perm p, hd]
theorem order_perm_len {l l' : List (Int × Int)} {spare : Int} (p : l.Perm l') (h : wrongF l spare = 0) : (orderF l spare).length = (orderF l' spare).length := by
  have h' : wrongF l' spare = 0 := by rw [← wrong_perm p]; exact h
  obtain ⟨_, _, _, hn, hs, hf⟩ := wrong0_iff h
  obtain ⟨_, _, _, hn', hs', hf'⟩ := wrong0_iff h'
  have pn : (nonself l).Perm (nonself l') := p.filter _
  rw [few_all hn hs hf, few_all hn' hs' hf', pn.length_eq, rings_perm pn (hn.sublist ((List.filter_sublist).map _))]
theorem order_perm_mem {l l' : List (Int × Int)} {spare : Int} (p : l.Perm l') (h : wrongF l spare = 0) : ∀ x ∈ l, memF (orderF l spare) x.1 = memF (orderF l' spare) x.1 := by
  have h' : wrongF l' spare = 0 := by rw [← wrong_perm p]; exact h
  obtain ⟨_, _, _, hn, hs, hf⟩ := wrong0_iff h
  obtain ⟨_, _, _, hn', hs', hf'⟩ := wrong0_iff h'
  intro x hx
  rw [mean_at hn hs hf x hx, mean_at hn' hs' hf' x (p.subset hx)]
end Go.Proofs.Ytnebpbghkmcagaa
