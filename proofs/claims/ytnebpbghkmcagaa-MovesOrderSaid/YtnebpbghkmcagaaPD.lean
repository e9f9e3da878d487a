/-
  Moves, in plain Lean: how many rings there are, and how many moves. Conditions: none.
-/
import Derived.Test.YtnebpbghkmcagaaPC
namespace Go.Proofs.Ytnebpbghkmcagaa
open Go Go.Fw
set_option linter.unusedVariables false

/-- where the thing comes from; who is no To stays -/
def nx (L : List (Int × Int)) (x : Int) : Int := (lkI L x).getD x
def it (L : List (Int × Int)) : Nat → Int → Int
  | 0, x => x
  | n + 1, x => nx L (it L n x)
theorem it_add (L : List (Int × Int)) (x : Int) : ∀ (m n : Nat), it L (m + n) x = it L m (it L n x)
  | 0, n => by rw [Nat.zero_add]; rfl
  | m + 1, n => by
    rw [show m + 1 + n = (m + n) + 1 by omega]
    show nx L (it L (m + n) x) = nx L (it L m (it L n x))
    rw [it_add L x m n]
theorem it_mul {L : List (Int × Int)} {x : Int} {k : Nat} (h : it L k x = x) : ∀ n, it L (k * n) x = x
  | 0 => rfl
  | n + 1 => by
    rw [Nat.mul_succ, it_add, h]
    exact it_mul h n
def onC (L : List (Int × Int)) (x : Int) : Prop := x ∈ keysI L ∧ ∃ n, it L (n + 1) x = x
def lead (L : List (Int × Int)) (x : Int) : Prop := onC L x ∧ ∀ n, x ≤ it L n x
open Classical in
noncomputable def rings (L : List (Int × Int)) : Nat := ((keysI L).filter (fun x => decide (lead L x))).length

theorem nx_key {L : List (Int × Int)} (hn : (keysI L).Nodup) {e : Int × Int} (he : e ∈ L) : nx L e.1 = e.2 := by
  unfold nx
  rw [lkI_of_mem (v := e.2) hn he]; rfl
theorem nx_non {L : List (Int × Int)} {x : Int} (h : x ∉ keysI L) : nx L x = x := by
  unfold nx
  rw [lkI_none h]; rfl
theorem it_non {L : List (Int × Int)} {x : Int} (h : x ∉ keysI L) : ∀ n, it L n x = x
  | 0 => rfl
  | n + 1 => by
    show nx L (it L n x) = x
    rw [it_non h n, nx_non h]
/-- who is on a ring comes back from wherever it gets -/
theorem back_of {L : List (Int × Int)} {x : Int} {k : Nat} (h : it L (k + 1) x = x) (n : Nat) : ∃ m, it L m (it L n x) = x := by
  refine ⟨k * n, ?_⟩
  rw [← it_add, show k * n + n = (k + 1) * n by rw [Nat.succ_mul]]
  exact it_mul h n
theorem onC_it {L : List (Int × Int)} {x : Int} (h : onC L x) (n : Nat) : onC L (it L n x) := by
  obtain ⟨hx, k, hk⟩ := h
  obtain ⟨m, hm⟩ := back_of hk n
  refine ⟨Classical.byContradiction fun hno => ?_, k, ?_⟩
  · rw [it_non hno] at hm
    exact hno (by rw [hm]; exact hx)
  · rw [← it_add, Nat.add_comm, it_add, hk]
theorem lead_congr {L L' : List (Int × Int)} {x : Int} (hk : x ∈ keysI L → x ∈ keysI L') (h : ∀ n, it L n x = it L' n x) (hl : lead L x) : lead L' x := by
  obtain ⟨⟨h1, k, h2⟩, h3⟩ := hl
  exact ⟨⟨hk h1, k, by rw [← h]; exact h2⟩, fun n => by rw [← h]; exact h3 n⟩

/-! ## a To that nobody moves from goes -/
theorem nx_del {L : List (Int × Int)} {t y : Int} (h : y ≠ t) : nx (delI L t) y = nx L y := by
  unfold nx
  congr 1
  unfold lkI delI
  rw [List.find?_filter]
  congr 1
  induction L with
  | nil => rfl
  | cons e L ih =>
    rw [List.find?_cons, List.find?_cons]
    by_cases hey : e.1 = y
    · have h1 : (e.1 == y) = true := by simpa using hey
      have h2 : (e.1 == t) = false := by simpa using fun he => h (hey.symm.trans he)
      simp [h1, h2]
    · have h1 : (e.1 == y) = false := by simpa using hey
      simp only [h1, Bool.and_false]
      simpa using ih
theorem it_del {L : List (Int × Int)} {t x : Int} : ∀ (n : Nat), (∀ k, k < n → it L k x ≠ t) → it (delI L t) n x = it L n x
  | 0, _ => rfl
  | n + 1, h => by
    show nx (delI L t) (it (delI L t) n x) = nx L (it L n x)
    rw [it_del n fun k hk => h k (by omega), nx_del (h n (by omega))]
theorem it_del' {L : List (Int × Int)} {t x : Int} : ∀ (n : Nat), (∀ k, k < n → it (delI L t) k x ≠ t) → it (delI L t) n x = it L n x
  | 0, _ => rfl
  | n + 1, h => by
    show nx (delI L t) (it (delI L t) n x) = nx L (it L n x)
    rw [nx_del (h n (by omega)), it_del' n fun k hk => h k (by omega)]
theorem lead_del {L : List (Int × Int)} {t : Int} (hn : (keysI L).Nodup) (ht : t ∈ keysI L) (hu : ∀ e ∈ L, e.2 ≠ t) (x : Int) : lead (delI L t) x ↔ lead L x := by
  have hnot : ¬ onC L t := fun ⟨h1, k, h2⟩ => by
    have h3 : nx L (it L k t) = t := h2
    by_cases hin : it L k t ∈ keysI L
    · obtain ⟨e, he, hek⟩ := List.mem_map.1 hin
      rw [← hek, nx_key hn he] at h3
      exact hu e he h3
    · rw [nx_non hin] at h3
      exact hin (by rw [h3]; exact ht)
  constructor
  · intro h
    have hon := h.1
    have hne : ∀ k, it (delI L t) k x ≠ t := fun k hk => by
      have := (onC_it hon k).1
      rw [hk] at this
      exact (mem_keys_delI.1 this).2 rfl
    exact lead_congr (fun hk => (mem_keys_delI.1 hk).1) (fun n => it_del' n fun k _ => hne k) h
  · intro h
    have hon := h.1
    have hne : ∀ k, it L k x ≠ t := fun k hk => hnot (hk ▸ onC_it hon k)
    exact lead_congr (fun hk => mem_keys_delI.2 ⟨hk, hne 0⟩) (fun n => (it_del n fun k _ => hne k).symm) h
theorem rings_del {L : List (Int × Int)} {t : Int} (hn : (keysI L).Nodup) (ht : t ∈ keysI L) (hu : ∀ e ∈ L, e.2 ≠ t) : rings (delI L t) = rings L := by
  unfold rings
  rw [keysI_delI, List.filter_filter]
  congr 1
  apply List.filter_congr
  intro x hx
  rw [Bool.eq_iff_iff]
  simp only [Bool.and_eq_true, decide_eq_true_eq, Bool.not_eq_true', beq_eq_false_iff_ne]
  rw [lead_del hn ht hu]
  refine ⟨fun h => h.1, fun h => ⟨h, fun hxt => ?_⟩⟩
  subst hxt
  obtain ⟨h1, k, h2⟩ := h.1
  have h3 : nx L (it L k x) = x := h2
  by_cases hin : it L k x ∈ keysI L
  · obtain ⟨e, he, hek⟩ := List.mem_map.1 hin
    rw [← hek, nx_key hn he] at h3
    exact hu e he h3
  · rw [nx_non hin] at h3
    exact hin (by rw [h3]; exact ht)

/-! ## a ring is cut -/
def cutL (spare : Int) (L : List (Int × Int)) (t : Int) : List (Int × Int) := L.map (fun e => (e.1, if e.2 = t then spare else e.2))
theorem nx_cut {L : List (Int × Int)} {spare t y : Int} (h : nx L y ≠ t ∨ y ∉ keysI L) : nx (cutL spare L t) y = nx L y := by
  unfold nx cutL
  have : lkI (L.map (fun e => (e.1, if e.2 = t then spare else e.2))) y = (lkI L y).map (fun v => if v = t then spare else v) := lookups_ne (f := fun v => if v = t then spare else v) y
  rw [this]
  cases hl : lkI L y with
  | none => rfl
  | some v =>
    have hin : y ∈ keysI L := lkI_isSome.1 (by rw [hl]; rfl)
    have hv : v ≠ t := by
      rcases h with h | h
      · unfold nx at h; rw [hl] at h; exact h
      · exact absurd hin h
    simp [hv]
theorem nx_cut' {L : List (Int × Int)} {spare t y : Int} (h : nx (cutL spare L t) y ≠ spare) : nx (cutL spare L t) y = nx L y := by
  unfold nx cutL at h ⊢
  have : lkI (L.map (fun e => (e.1, if e.2 = t then spare else e.2))) y = (lkI L y).map (fun v => if v = t then spare else v) := lookups_ne (f := fun v => if v = t then spare else v) y
  rw [this] at h ⊢
  cases hl : lkI L y with
  | none => rfl
  | some v =>
    rw [hl] at h
    simp only [Option.map_some, Option.getD_some] at h ⊢
    split at h
    · exact absurd rfl h
    · rename_i hv; simp [hv]
theorem keys_cutL (L : List (Int × Int)) (spare t : Int) : keysI (cutL spare L t) = keysI L := keysI_cut L spare t
/-- the least on a ring -/
theorem least_on {L : List (Int × Int)} {t : Int} (h : onC L t) : ∃ m, ∀ n, it L m t ≤ it L n t := by
  obtain ⟨_, k, hk⟩ := h
  have hfin : ∀ j : Nat, ∃ m, ∀ n, n ≤ j → it L m t ≤ it L n t := by
    intro j
    induction j with
    | zero => exact ⟨0, fun n hn => by obtain rfl : n = 0 := by omega
                                       exact Int.le_refl _⟩
    | succ j ih =>
      obtain ⟨m, hm⟩ := ih
      by_cases hle : it L m t ≤ it L (j + 1) t
      · exact ⟨m, fun n hn => by
          rcases Nat.lt_or_ge j n with h | h
          · obtain rfl : n = j + 1 := by omega
            exact hle
          · exact hm n h⟩
      · exact ⟨j + 1, fun n hn => by
          rcases Nat.lt_or_ge j n with h | h
          · obtain rfl : n = j + 1 := by omega
            exact Int.le_refl _
          · have := hm n h; omega⟩
  obtain ⟨m, hm⟩ := hfin k
  refine ⟨m, fun n => ?_⟩
  have : it L n t = it L (n % (k + 1)) t := by
    conv => lhs; rw [← Nat.mod_add_div n (k + 1)]
    rw [it_add, it_mul hk]
  rw [this]
  exact hm _ (by have := Nat.mod_lt n (show 0 < k + 1 by omega); omega)
theorem filter_one {α : Type} [DecidableEq α] {p q : α → Bool} {x0 : α} : ∀ {l : List α}, l.Nodup → x0 ∈ l → q x0 = false → (∀ x ∈ l, p x = (q x || decide (x = x0))) → (l.filter p).length = (l.filter q).length + 1
  | [], _, hx, _, _ => by cases hx
  | y :: l, hn, hx, hq, h => by
    rw [List.nodup_cons] at hn
    rw [List.filter_cons, List.filter_cons, h y (by simp)]
    by_cases hy : y = x0
    · subst hy
      have hrest : l.filter p = l.filter q := List.filter_congr fun z hz => by
        have hzy : z ≠ y := fun he => hn.1 (he ▸ hz)
        rw [h z (by simp [hz])]
        simp [hzy]
      simp [hq, hrest]
    · have hx' : x0 ∈ l := by
        rcases List.mem_cons.1 hx with he | he
        · exact absurd he.symm hy
        · exact he
      have ih := filter_one hn.2 hx' hq fun x hx => h x (by simp [hx])
      simp only [hy, decide_false, Bool.or_false]
      split
      · simp [ih]
      · exact ih
theorem rings_cut {L : List (Int × Int)} {spare t : Int} (hn : (keysI L).Nodup) (hs : spare ∉ keysI L) (ht : onC L t) : rings L = rings (cutL spare L t) + 1 := by
  obtain ⟨m, hm⟩ := least_on ht
  -- who is in t's ring is on none behind the cut
  have hoff : ∀ n, ¬ onC (cutL spare L t) (it L n t) := by
    intro n hon
    have h1 : ∀ j, it (cutL spare L t) j (it L n t) = it L (j + n) t := by
      intro j
      induction j with
      | zero => rw [Nat.zero_add]; rfl
      | succ j ih =>
        have hne : nx (cutL spare L t) (it (cutL spare L t) j (it L n t)) ≠ spare := fun he => by
          have := (onC_it hon (j + 1)).1
          rw [keys_cutL] at this
          exact hs (he ▸ this)
        show nx (cutL spare L t) (it (cutL spare L t) j (it L n t)) = _
        rw [nx_cut' hne, ih]
        rw [show j + 1 + n = (j + n) + 1 by omega]
        rfl
    obtain ⟨_, k, hk⟩ := ht
    obtain ⟨j, hj⟩ := back_of hk n
    -- come to t: its forerunner is cut off
    have hpos : ∃ j, it L (j + 1 + n) t = t := by
      refine ⟨k * n + k, ?_⟩
      rw [show k * n + k + 1 + n = (k + 1) * (n + 1) by rw [Nat.succ_mul, Nat.mul_succ]; omega]
      exact it_mul hk _
    obtain ⟨j, hj⟩ := hpos
    have h2 := h1 (j + 1)
    rw [hj] at h2
    have h3 := h1 j
    have h4 : nx (cutL spare L t) (it (cutL spare L t) j (it L n t)) = t := h2
    have hin := (onC_it hon j).1
    rw [keys_cutL] at hin
    obtain ⟨e, he, hek⟩ := List.mem_map.1 hin
    have hcn : (keysI (cutL spare L t)).Nodup := by rw [keys_cutL]; exact hn
    have hce : (e.1, if e.2 = t then spare else e.2) ∈ cutL spare L t := List.mem_map.2 ⟨e, he, rfl⟩
    have h5 := nx_key hcn hce
    dsimp only at h5
    rw [hek, h4] at h5
    by_cases he2 : e.2 = t
    · rw [if_pos he2] at h5
      have := (onC_it hon (j + 1)).1
      rw [keys_cutL] at this
      have h6 : it (cutL spare L t) (j + 1) (it L n t) = t := h2
      rw [h6, h5] at this
      exact hs this
    · rw [if_neg he2] at h5
      exact he2 h5.symm
  unfold rings
  rw [keys_cutL]
  refine filter_one (x0 := it L m t) hn (onC_it ht m).1 (by simpa using fun hl => hoff m hl.1) fun x hx => ?_
  rw [Bool.eq_iff_iff]
  simp only [Bool.or_eq_true, decide_eq_true_eq]
  constructor
  · intro hl
    by_cases hin : ∃ n, x = it L n t
    · right
      obtain ⟨n, rfl⟩ := hin
      obtain ⟨_, k, hk⟩ := ht
      obtain ⟨j, hj⟩ := back_of hk n
      have h1 := hl.2 (m + j)
      rw [it_add, hj] at h1
      have h2 := hm n
      omega
    · left
      have hno : ∀ n, it L n x ≠ t := fun n he => by
        obtain ⟨_, k, hk⟩ := hl.1
        obtain ⟨j, hj⟩ := back_of hk n
        rw [he] at hj
        exact hin ⟨j, hj.symm⟩
      refine lead_congr (fun hk => by rw [keys_cutL]; exact hk) (fun n => ?_) hl
      induction n with
      | zero => rfl
      | succ n ih =>
        show nx L (it L n x) = nx (cutL spare L t) (it (cutL spare L t) n x)
        rw [← ih, nx_cut (.inl (hno (n + 1)))]
  · rintro (hl | rfl)
    · refine lead_congr (fun hk => by rw [keys_cutL] at hk; exact hk) (fun n => ?_) hl
      have hne : ∀ n, it (cutL spare L t) n x ≠ spare := fun n he => by
        have := (onC_it hl.1 n).1
        rw [keys_cutL] at this
        exact hs (he ▸ this)
      induction n with
      | zero => rfl
      | succ n ih =>
        show nx (cutL spare L t) (it (cutL spare L t) n x) = nx L (it L n x)
        rw [nx_cut' (hne (n + 1)), ih]
    · refine ⟨onC_it ht m, fun n => ?_⟩
      rw [← it_add]
      exact hm _

/-! ## where all goes round each is on a ring -/
theorem inj_of_cover {L : List (Int × Int)} (hn : (keysI L).Nodup) (hc : ∀ k ∈ keysI L, ∃ e ∈ L, e.2 = k) : ∀ e ∈ L, ∀ e' ∈ L, e.2 = e'.2 → e = e' := by
  intro e he e' he' h
  refine Classical.byContradiction fun hne => ?_
  have hsub : ∀ k ∈ keysI L, k ∈ (L.erase e).map (·.2) := fun k hk => by
    obtain ⟨x, hx, hxk⟩ := hc k hk
    by_cases hxe : x = e
    · refine List.mem_map.2 ⟨e', (List.mem_erase_of_ne (fun h => hne h.symm)).2 he', ?_⟩
      rw [← h, ← hxe, hxk]
    · exact List.mem_map.2 ⟨x, (List.mem_erase_of_ne hxe).2 hx, hxk⟩
  have h1 := nodup_len hn hsub
  rw [List.length_map, List.length_erase_of_mem he] at h1
  have h2 : 0 < L.length := List.length_pos_of_mem he
  simp only [keysI, List.length_map] at h1
  omega
theorem rep_of_long {f : Nat → Int} {K : List Int} (h : ∀ i, i ≤ K.length → f i ∈ K) : ∃ i j, i < j ∧ j ≤ K.length ∧ f i = f j := by
  refine Classical.byContradiction fun hno => ?_
  have hnd : ((List.range (K.length + 1)).map f).Nodup := by
    unfold List.Nodup
    rw [List.pairwise_iff_getElem]
    intro i j hi hj hij he
    simp only [List.length_map, List.length_range] at hi hj
    simp only [List.getElem_map, List.getElem_range] at he
    exact hno ⟨i, j, hij, by omega, he⟩
  have := nodup_len (m := K) hnd fun x hx => by
    obtain ⟨i, hi, rfl⟩ := List.mem_map.1 hx
    exact h i (by have := List.mem_range.1 hi; omega)
  simp at this
  omega
theorem onC_of_perm {L : List (Int × Int)} (hn : (keysI L).Nodup) (hc : ∀ k ∈ keysI L, ∃ e ∈ L, e.2 = k) (hcl : ∀ e ∈ L, e.2 ∈ keysI L) {t : Int} (ht : t ∈ keysI L) : onC L t := by
  have hin : ∀ n, it L n t ∈ keysI L := fun n => by
    induction n with
    | zero => exact ht
    | succ n ih =>
      obtain ⟨e, he, hek⟩ := List.mem_map.1 ih
      show nx L (it L n t) ∈ _
      rw [← hek, nx_key hn he]
      exact hcl e he
  have hinj := inj_of_cover hn hc
  obtain ⟨i, j, hij, _, he⟩ := rep_of_long (f := fun n => it L n t) (K := keysI L) fun i _ => hin i
  have hback : ∀ d i, it L i t = it L (i + d) t → it L d t = t := by
    intro d i
    induction i with
    | zero => intro h; rw [Nat.zero_add] at h; exact h.symm
    | succ i ih =>
      intro h
      apply ih
      obtain ⟨e, he, hek⟩ := List.mem_map.1 (hin i)
      obtain ⟨e', he', hek'⟩ := List.mem_map.1 (hin (i + d))
      have h1 : nx L (it L i t) = nx L (it L (i + d) t) := by
        rw [show i + 1 + d = (i + d) + 1 by omega] at h
        exact h
      rw [← hek, ← hek', nx_key hn he, nx_key hn he'] at h1
      rw [← hek, ← hek', hinj e he e' he' h1]
  exact ⟨ht, j - i - 1, by
    rw [show j - i - 1 + 1 = j - i by omega]
    exact hback (j - i) i (by rw [show i + (j - i) = j by omega]; exact he)⟩
/-- what is done and what is left and the rings that are left -/
noncomputable def phi (σ : Sg) : Nat := σ.out.length + σ.left.length + rings σ.left
theorem phi_dstepAt {spare : Int} {σ : Sg} (hI : Inv spare σ) {r : List Int} {to : Int} (hr : σ.ready = r ++ [to]) : phi (dstepAt σ r to) = phi σ := by
  obtain ⟨fr, _, _, _, _, _, hlen⟩ := hI.at_ hr
  obtain ⟨htk, htc⟩ := hI.rl to (by rw [hr]; simp)
  unfold phi
  simp only [dstepAt, List.length_append, List.length_cons, List.length_nil] at hlen ⊢
  rw [rings_del hI.nk htk (cnt_zero.1 htc)]
  omega
theorem phi_diter {spare : Int} : ∀ (n : Nat) {σ : Sg}, Inv spare σ → phi (diter n σ) = phi σ
  | 0, σ, _ => rfl
  | n + 1, σ, h => by
    unfold diter
    split
    · rfl
    · rename_i hne
      obtain ⟨r, to, hr⟩ : ∃ r to, σ.ready = r ++ [to] := ⟨_, _, (List.dropLast_concat_getLast hne).symm⟩
      obtain ⟨fr, _, _, _, _, hI, hlen⟩ := h.at_ hr
      rw [dstep_eq hr, phi_diter n hI, phi_dstepAt h hr]
theorem users_all {spare : Int} {σ : Sg} (hI : Inv spare σ) (hr : σ.ready = []) : ∀ k ∈ keysI σ.left, ∃ e ∈ σ.left, e.2 = k := fun k hk => by
  refine Classical.byContradiction fun hno => ?_
  have := hI.rc k hk (cnt_zero.2 fun x hx hxk => hno ⟨x, hx, hxk⟩)
  rw [hr] at this; cases this
theorem phi_ring {spare : Int} {σ : Sg} (hI : Inv spare σ) (hr : σ.ready = []) (m : Int × Int) : phi (ringStep spare σ m) = phi σ := by
  unfold ringStep
  split
  · rename_i hin
    have ht := lkI_isSome.1 hin
    unfold doneF
    rw [phi_diter _ (hI.cutS hr ht)]
    have h := rings_cut (spare := spare) hI.nk hI.ns (onC_of_perm hI.nk (users_all hI hr) (closed hI hr) ht)
    unfold phi
    have e : (cutS spare σ m.1).left = cutL spare σ.left m.1 := rfl
    rw [e, h]
    simp only [cutS, cutL, List.length_append, List.length_map, List.length_cons, List.length_nil]
    omega
  · rfl
theorem phi_at {l : List (Int × Int)} {spare : Int} (hn : (keysI l).Nodup) (hs : spare ∉ keysI l) (hf : ∀ e ∈ l, e.2 ≠ spare) : ∀ i, phi (sgAt l spare i) = (nonself l).length + rings (nonself l)
  | 0 => by
    have h0 : sgAt l spare 0 = doneF (sg0 l) := by simp [sgAt]
    rw [h0]
    unfold doneF
    rw [phi_diter _ (Inv.sg0 hn hs hf)]
    unfold phi
    rw [sg0_left hn]
    have : (sg0 l).out = [] := rfl
    rw [this]; simp
  | i + 1 => by
    have ih := phi_at hn hs hf i
    obtain ⟨hI, hrd, _⟩ := fold_ring hn hs hf i
    cases hx : l[i]? with
    | none =>
      have : l.take (i + 1) = l.take i := by rw [List.take_add_one, hx]; simp
      unfold sgAt at ih ⊢
      rw [this]
      exact ih
    | some x =>
      have e : sgAt l spare (i + 1) = ringStep spare (sgAt l spare i) x := fold_take _ _ hx
      rw [e, phi_ring hI hrd, ih]
/-- how many moves there are -/
theorem few_all {l : List (Int × Int)} {spare : Int} (hn : (keysI l).Nodup) (hs : spare ∉ keysI l) (hf : ∀ e ∈ l, e.2 ≠ spare) : (orderF l spare).length = (nonself l).length + rings (nonself l) := by
  have h := phi_at hn hs hf l.length
  unfold phi at h
  rw [left_end hn hs hf, sgAt_end] at h
  have : rings [] = 0 := rfl
  rw [this] at h
  simpa using h
end Go.Proofs.Ytnebpbghkmcagaa
