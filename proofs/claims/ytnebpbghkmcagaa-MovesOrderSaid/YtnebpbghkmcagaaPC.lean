/-
  Moves, in plain Lean: what places hold when the moves are done. Conditions: none.
-/
import Derived.Test.YtnebpbghkmcagaaPB
namespace Go.Proofs.Ytnebpbghkmcagaa
open Go Go.Fw
set_option linter.unusedVariables false

/-- who is asked last answers first -/
def getF : List (Int × Int) → Int → Int
  | [], p => p
  | x :: l, p => if l.any (fun y => y.1 == p) then getF l p else if x.1 = p then x.2 else p

theorem getF_none : ∀ (l : List (Int × Int)) (p : Int), (∀ x ∈ l, x.1 ≠ p) → getF l p = p
  | [], p, _ => rfl
  | x :: l, p, h => by
    unfold getF
    rw [if_neg, if_neg (h x (by simp))]
    simp only [List.any_eq_true, beq_iff_eq, not_exists, not_and]
    exact fun y hy => h y (by simp [hy])
theorem getF_at : ∀ (l : List (Int × Int)) (p : Int) (k : Nat) (x : Int × Int), l[k]? = some x → x.1 = p → (∀ j y, k + 1 ≤ j → l[j]? = some y → y.1 ≠ p) → getF l p = x.2
  | [], p, k, x, h, _, _ => by simp at h
  | z :: l, p, 0, x, h, hx, hn => by
    obtain rfl : z = x := by simpa using h
    unfold getF
    rw [if_neg, if_pos hx]
    simp only [List.any_eq_true, beq_iff_eq, not_exists, not_and]
    intro y hy
    obtain ⟨j, hj⟩ := List.getElem?_of_mem hy
    exact hn (j + 1) y (by omega) (by simpa using hj)
  | z :: l, p, k + 1, x, h, hx, hn => by
    have h' : l[k]? = some x := by simpa using h
    unfold getF
    rw [if_pos]
    · exact getF_at l p k x h' hx fun j y hj hy => hn (j + 1) y (by omega) (by simpa using hy)
    · simp only [List.any_eq_true, beq_iff_eq]
      exact ⟨x, List.mem_of_getElem? h', hx⟩
theorem getF_snoc (l : List (Int × Int)) (x : Int × Int) (p : Int) : getF (l ++ [x]) p = if p = x.1 then x.2 else getF l p := by
  induction l with
  | nil =>
    simp only [List.nil_append, getF, List.any_nil, Bool.false_eq_true, if_false]
    by_cases h : x.1 = p
    · simp [h]
    · have h' : ¬ p = x.1 := fun he => h he.symm
      simp [h, h']
  | cons z l ih =>
    rw [List.cons_append]
    conv => lhs; unfold getF
    rw [ih, List.any_append]
    by_cases h : p = x.1
    · subst h
      simp
    · have h1 : ([x].any fun y => y.1 == p) = false := by simp; exact fun he => h he.symm
      rw [h1, Bool.or_false]
      simp only [h, if_false]
      conv => rhs; unfold getF
theorem getF_lk {l : List (Int × Int)} (hn : (keysI l).Nodup) {x : Int × Int} (hx : x ∈ l) : getF l x.1 = x.2 := by
  obtain ⟨k, hk⟩ := List.getElem?_of_mem hx
  refine getF_at l x.1 k x hk rfl fun j y hj hy he => ?_
  have h1 : (keysI l)[j]? = some y.1 := by simp [keysI, hy]
  have h2 : (keysI l)[k]? = some x.1 := by simp [keysI, hk]
  rw [he, ← h2] at h1
  have := (List.getElem?_inj (List.getElem?_eq_some_iff.1 (h1.trans h2)).1 hn).1 h1
  omega

/-- what is told of the places while moves are done, one behind the other -/
def heldF (m : List (Int × Int)) : List (Int × Int) := m.foldl (fun h x => h ++ [(x.1, getF h x.2)]) []
theorem heldF_snoc (m : List (Int × Int)) (x : Int × Int) : heldF (m ++ [x]) = heldF m ++ [(x.1, getF (heldF m) x.2)] := by
  unfold heldF; rw [List.foldl_append]; rfl
theorem heldF_len (m : List (Int × Int)) : (heldF m).length = m.length := by
  unfold heldF
  have : ∀ (m : List (Int × Int)) (h : List (Int × Int)), (m.foldl (fun h x => h ++ [(x.1, getF h x.2)]) h).length = h.length + m.length := by
    intro m
    induction m with
    | nil => simp
    | cons x m ih => intro h; rw [List.foldl_cons, ih]; simp; omega
  rw [this]; simp
/-- what a place holds then -/
def memF (m : List (Int × Int)) (p : Int) : Int := getF (heldF m) p
theorem memF_nil (p : Int) : memF [] p = p := rfl
theorem memF_snoc (m : List (Int × Int)) (x : Int × Int) (p : Int) : memF (m ++ [x]) p = if p = x.1 then memF m x.2 else memF m p := by
  unfold memF
  rw [heldF_snoc, getF_snoc]
theorem memF_append (m : List (Int × Int)) : ∀ (k : Nat) (n : List (Int × Int)) (p : Int), n.length = k → memF (m ++ n) p = memF m (memF n p)
  | 0, n, p, h => by
    rw [List.eq_nil_of_length_eq_zero h, List.append_nil]; rfl
  | k + 1, n, p, h => by
    have hne : n ≠ [] := fun he => by rw [he] at h; cases h
    obtain ⟨n', x, rfl⟩ : ∃ n' x, n = n' ++ [x] := ⟨_, _, (List.dropLast_concat_getLast hne).symm⟩
    have hk : n'.length = k := by simpa using h
    rw [← List.append_assoc, memF_snoc, memF_snoc]
    split
    · exact memF_append m k n' _ hk
    · exact memF_append m k n' _ hk

/-! ## what holds on the way -/
structure Sem (L : List (Int × Int)) (spare : Int) (σ : Sg) : Prop where
  get : ∀ e ∈ σ.left, ∃ f, (e.1, f) ∈ L ∧ memF σ.out e.2 = f
  done : ∀ e ∈ L, e.1 ∉ keysI σ.left → memF σ.out e.1 = e.2
  keep : ∀ p, p ≠ spare → p ∉ keysI L → memF σ.out p = p
  sub : ∀ k ∈ keysI σ.left, k ∈ keysI L
theorem nodup_key {L : List (Int × Int)} (hn : (keysI L).Nodup) {k a b : Int} (h1 : (k, a) ∈ L) (h2 : (k, b) ∈ L) : a = b := by
  have e1 := lkI_of_mem hn h1
  have e2 := lkI_of_mem hn h2
  rw [e1] at e2
  exact Option.some.inj e2
theorem Sem.dstepAt {L : List (Int × Int)} {spare : Int} {σ : Sg} (hL : (keysI L).Nodup) (h : Sem L spare σ) (hI : Inv spare σ) {r : List Int} {to : Int} (hr : σ.ready = r ++ [to]) : Sem L spare (dstepAt σ r to) := by
  obtain ⟨fr, hfr, hm, hne, hnr, _, _⟩ := hI.at_ hr
  have hfr0 : (lkI σ.left to).getD 0 = fr := by rw [hfr]; rfl
  obtain ⟨htk, htc⟩ := hI.rl to (by rw [hr]; simp)
  have htc' := cnt_zero.1 htc
  obtain ⟨f0, hf0, hmf⟩ := h.get _ hm
  refine ⟨fun e he => ?_, fun e he hk => ?_, fun p hp hk => ?_, fun k hk => ?_⟩
  · have he1 := (mem_delI.1 he).1
    obtain ⟨f, h1, h2⟩ := h.get e he1
    refine ⟨f, h1, ?_⟩
    simp only [Go.Proofs.Ytnebpbghkmcagaa.dstepAt]
    rw [memF_snoc, if_neg (htc' e he1)]
    exact h2
  · simp only [Go.Proofs.Ytnebpbghkmcagaa.dstepAt] at hk ⊢
    rw [memF_snoc, hfr0]
    by_cases het : e.1 = to
    · rw [if_pos het]
      obtain ⟨e1, e2⟩ := e
      simp only at het
      subst het
      dsimp only at hmf
      rw [hmf]
      exact nodup_key hL hf0 he
    · rw [if_neg het]
      exact h.done e he fun hin => hk (mem_keys_delI.2 ⟨hin, het⟩)
  · simp only [Go.Proofs.Ytnebpbghkmcagaa.dstepAt]
    rw [memF_snoc, if_neg]
    · exact h.keep p hp hk
    · exact fun he => hk (he ▸ h.sub _ htk)
  · exact h.sub k (mem_keys_delI.1 hk).1
theorem Sem.diter {L : List (Int × Int)} {spare : Int} (hL : (keysI L).Nodup) : ∀ (n : Nat) {σ : Sg}, Sem L spare σ → Inv spare σ → Sem L spare (diter n σ)
  | 0, σ, h, _ => h
  | n + 1, σ, h, hI => by
    unfold Go.Proofs.Ytnebpbghkmcagaa.diter
    split
    · exact h
    · rename_i hne
      obtain ⟨r, to, hr⟩ : ∃ r to, σ.ready = r ++ [to] := ⟨_, _, (List.dropLast_concat_getLast hne).symm⟩
      obtain ⟨fr, _, _, _, _, hI', _⟩ := hI.at_ hr
      rw [dstep_eq hr]
      exact (h.dstepAt hL hI hr).diter hL n hI'
/-- where nothing is ready all that is left goes round -/
theorem closed {spare : Int} {σ : Sg} (hI : Inv spare σ) (hr : σ.ready = []) : ∀ e ∈ σ.left, e.2 ∈ keysI σ.left := by
  intro e he
  refine Classical.byContradiction fun hn => ?_
  have hsub : ∀ k ∈ keysI σ.left, k ∈ (σ.left.map (·.2)).erase e.2 := fun k hk => by
    have hke : k ≠ e.2 := fun h => hn (h ▸ hk)
    rw [List.mem_erase_of_ne hke]
    refine Classical.byContradiction fun hno => ?_
    have := hI.rc k hk (cnt_zero.2 fun x hx hxk => hno (List.mem_map.2 ⟨x, hx, hxk⟩))
    rw [hr] at this; cases this
  have h1 := nodup_len hI.nk hsub
  have hm : e.2 ∈ σ.left.map (·.2) := List.mem_map.2 ⟨e, he, rfl⟩
  rw [List.length_erase_of_mem hm] at h1
  have h2 : 0 < (σ.left.map (·.2)).length := List.length_pos_of_mem hm
  simp only [keysI, List.length_map] at h1 h2
  omega
theorem Sem.cutS {L : List (Int × Int)} {spare : Int} {σ : Sg} (h : Sem L spare σ) (hI : Inv spare σ) (hr : σ.ready = []) (hs : spare ∉ keysI L) {t : Int} (ht : t ∈ keysI σ.left) : Sem L spare (cutS spare σ t) := by
  have hcl := closed hI hr
  refine ⟨fun e he => ?_, fun e he hk => ?_, fun p hp hk => ?_, fun k hk => ?_⟩
  · simp only [Go.Proofs.Ytnebpbghkmcagaa.cutS] at he ⊢
    obtain ⟨e0, he0, rfl⟩ := List.mem_map.1 he
    obtain ⟨f, h1, h2⟩ := h.get e0 he0
    refine ⟨f, h1, ?_⟩
    rw [memF_snoc]
    by_cases het : e0.2 = t
    · simp only [het, if_true]
      rw [← het]; exact h2
    · have hns : e0.2 ≠ spare := fun hes => hI.ns (hes ▸ hcl e0 he0)
      simp only [het, if_false, hns]
      exact h2
  · simp only [Go.Proofs.Ytnebpbghkmcagaa.cutS] at hk ⊢
    rw [keysI_cut] at hk
    rw [memF_snoc, if_neg]
    · exact h.done e he hk
    · exact fun hes => hs (List.mem_map.2 ⟨e, he, hes⟩)
  · simp only [Go.Proofs.Ytnebpbghkmcagaa.cutS]
    rw [memF_snoc, if_neg hp]
    exact h.keep p hp hk
  · simp only [Go.Proofs.Ytnebpbghkmcagaa.cutS] at hk
    rw [keysI_cut] at hk
    exact h.sub k hk
theorem Sem.ringStep {L : List (Int × Int)} {spare : Int} {σ : Sg} (hL : (keysI L).Nodup) (hs : spare ∉ keysI L) (h : Sem L spare σ) (hI : Inv spare σ) (hr : σ.ready = []) (m : Int × Int) : Sem L spare (ringStep spare σ m) := by
  unfold Go.Proofs.Ytnebpbghkmcagaa.ringStep
  split
  · rename_i hin
    have ht := lkI_isSome.1 hin
    exact (h.cutS hI hr hs ht).diter hL _ (hI.cutS hr ht)
  · exact h
theorem Sem.sg0 {L : List (Int × Int)} {spare : Int} (hL : (keysI L).Nodup) : Sem L spare (sg0 L) := by
  have hl := sg0_left hL
  have ho : (Go.Proofs.Ytnebpbghkmcagaa.sg0 L).out = [] := rfl
  refine ⟨fun e he => ?_, fun e he hk => ?_, fun p hp hk => ?_, fun k hk => ?_⟩
  · rw [hl] at he
    exact ⟨e.2, (List.mem_filter.1 he).1, by rw [ho]; rfl⟩
  · rw [hl] at hk
    rw [ho, memF_nil]
    refine Classical.byContradiction fun hne => hk (List.mem_map.2 ⟨e, List.mem_filter.2 ⟨he, by simpa using hne⟩, rfl⟩)
  · rw [ho, memF_nil]
  · rw [hl] at hk
    exact keys_nonself hk

/-! ## nothing is left at the end -/
theorem keys_dstepAt (σ : Sg) (r : List Int) (to k : Int) (h : k ∈ keysI (dstepAt σ r to).left) : k ∈ keysI σ.left ∧ k ≠ to := mem_keys_delI.1 h
theorem keys_diter : ∀ (n : Nat) (σ : Sg) (k : Int), k ∈ keysI (diter n σ).left → k ∈ keysI σ.left
  | 0, σ, k, h => h
  | n + 1, σ, k, h => by
    unfold diter at h
    split at h
    · exact h
    · rename_i hne
      have h1 := keys_diter n _ k h
      obtain ⟨r, to, hr⟩ : ∃ r to, σ.ready = r ++ [to] := ⟨_, _, (List.dropLast_concat_getLast hne).symm⟩
      rw [dstep_eq hr] at h1
      exact (keys_dstepAt _ _ _ _ h1).1
theorem keys_ring {spare : Int} {σ : Sg} (hI : Inv spare σ) (hr : σ.ready = []) (m : Int × Int) (k : Int) (h : k ∈ keysI (ringStep spare σ m).left) : k ∈ keysI σ.left ∧ k ≠ m.1 := by
  unfold ringStep at h
  split at h
  · rename_i hin
    have hrr : (cutS spare σ m.1).ready = [] ++ [m.1] := by simp [cutS, hr]
    rw [doneF_step (hI.cutS hr (lkI_isSome.1 hin)) hrr] at h
    have h1 := keys_diter _ _ _ h
    have h2 := keys_dstepAt _ _ _ _ h1
    simp only [cutS] at h2
    rw [keysI_cut] at h2
    exact h2
  · rename_i hin
    refine ⟨h, fun he => hin ?_⟩
    subst he
    exact lkI_isSome.2 h
theorem sem_at {l : List (Int × Int)} {spare : Int} (hn : (keysI l).Nodup) (hs : spare ∉ keysI l) (hf : ∀ e ∈ l, e.2 ≠ spare) : ∀ i, Sem l spare (sgAt l spare i) ∧ ∀ k ∈ keysI (sgAt l spare i).left, ∀ x ∈ l.take i, k ≠ x.1
  | 0 => by
    have h0 : sgAt l spare 0 = doneF (sg0 l) := by simp [sgAt]
    rw [h0]
    exact ⟨(Sem.sg0 hn).diter hn _ (Inv.sg0 hn hs hf), fun k _ x hx => by simp at hx⟩
  | i + 1 => by
    obtain ⟨h1, h2⟩ := sem_at hn hs hf i
    obtain ⟨hI, hrd, _⟩ := fold_ring hn hs hf i
    cases hx : l[i]? with
    | none =>
      have : l.take (i + 1) = l.take i := by rw [List.take_add_one, hx]; simp
      unfold sgAt at h1 h2 ⊢
      rw [this]
      exact ⟨h1, h2⟩
    | some x =>
      have e : sgAt l spare (i + 1) = ringStep spare (sgAt l spare i) x := fold_take _ _ hx
      rw [e]
      refine ⟨h1.ringStep hn hs hI hrd x, fun k hk y hy => ?_⟩
      obtain ⟨h3, h4⟩ := keys_ring hI hrd x k hk
      rw [List.take_add_one, hx] at hy
      rcases List.mem_append.1 hy with hy | hy
      · exact h2 k h3 y hy
      · simp at hy; subst hy; exact h4
theorem sgAt_end (l : List (Int × Int)) (spare : Int) : (sgAt l spare l.length).out = orderF l spare := by
  unfold sgAt orderF
  rw [List.take_length]
theorem left_end {l : List (Int × Int)} {spare : Int} (hn : (keysI l).Nodup) (hs : spare ∉ keysI l) (hf : ∀ e ∈ l, e.2 ≠ spare) : (sgAt l spare l.length).left = [] := by
  obtain ⟨h1, h2⟩ := sem_at hn hs hf l.length
  cases hl : (sgAt l spare l.length).left with
  | nil => rfl
  | cons e r =>
    exfalso
    have hk : e.1 ∈ keysI (sgAt l spare l.length).left := by rw [hl]; simp [keysI]
    have := h1.sub _ hk
    obtain ⟨x, hx, hxe⟩ := List.mem_map.1 this
    exact h2 _ hk x (by rw [List.take_length]; exact hx) hxe.symm
/-- what the moves leave -/
theorem mean_at {l : List (Int × Int)} {spare : Int} (hn : (keysI l).Nodup) (hs : spare ∉ keysI l) (hf : ∀ e ∈ l, e.2 ≠ spare) : ∀ e ∈ l, memF (orderF l spare) e.1 = e.2 := by
  intro e he
  obtain ⟨h1, _⟩ := sem_at hn hs hf l.length
  have := h1.done e he (by rw [left_end hn hs hf]; simp [keysI])
  rwa [sgAt_end] at this
theorem mean_all {l : List (Int × Int)} {spare : Int} (hn : (keysI l).Nodup) (hs : spare ∉ keysI l) (hf : ∀ e ∈ l, e.2 ≠ spare) (p : Int) (hp : p ≠ spare) : memF (orderF l spare) p = getF l p := by
  by_cases hk : p ∈ keysI l
  · obtain ⟨e, he, rfl⟩ := List.mem_map.1 hk
    rw [mean_at hn hs hf e he, getF_lk hn he]
  · obtain ⟨h1, _⟩ := sem_at hn hs hf l.length
    have := h1.keep p hp hk
    rw [sgAt_end] at this
    rw [this, getF_none]
    exact fun x hx he => hk (List.mem_map.2 ⟨x, hx, he⟩)
theorem order_len {l : List (Int × Int)} {spare : Int} (hn : (keysI l).Nodup) (hs : spare ∉ keysI l) (hf : ∀ e ∈ l, e.2 ≠ spare) : (orderF l spare).length ≤ 2 * l.length := by
  obtain ⟨_, _, h⟩ := fold_ring hn hs hf l.length
  rw [sgAt_end] at h
  omega
theorem wrong0_iff {l : List (Int × Int)} {spare : Int} (h : wrongF l spare = 0) : l.length ≤ 4096 ∧ l.any negB = false ∧ 0 ≤ spare ∧ (keysI l).Nodup ∧ spare ∉ keysI l ∧ ∀ e ∈ l, e.2 ≠ spare := by
  unfold wrongF at h
  split at h
  · cases h
  split at h
  · cases h
  split at h
  · cases h
  split at h
  · cases h
  split at h
  · cases h
  rename_i h1 h2 h3 h4 h5
  have h4' : (l.map (·.1)).Nodup := by simpa [dupB] using h4
  have h5' : l.any (isB spare) = false := by simpa using h5
  rw [List.any_eq_false] at h5'
  refine ⟨by omega, by simpa using h2, by omega, h4', fun hk => ?_, fun e he hes => ?_⟩
  · obtain ⟨m, hm, hme⟩ := List.mem_map.1 hk
    exact h5' m hm (by simp [isB, hme])
  · exact h5' e he (by simp [isB, hes])
end Go.Proofs.Ytnebpbghkmcagaa
