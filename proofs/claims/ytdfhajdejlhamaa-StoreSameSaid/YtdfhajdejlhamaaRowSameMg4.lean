/-
  The walk over Alloc. Conditions: none.
  The walk over Free. Conditions: none.
  The heap's methods as they are called: some of one's own standing by. Conditions: none.
  More of a heap, for all that use one. Conditions: none.
  The document's heap in memory; the walks over what only looks at it. Conditions: none.
  The walks over the document's heap where it turns: Free, Set, Alloc. Conditions: none.
  The document's heap as it is called. Conditions: none.
  Walks over words, and over the search among falling numbers. Conditions: none.
-/
import Derived.Test.YtdfhajdejlhamaaRowSameMg3
import Derived.Test.YtdfhajdejlhamaaRowSameMg0
namespace Go.Proofs.Ytdfhajdejlhamaa
open Go Go.Fw
set_option linter.unusedVariables false
theorem ff_first {size : Nat} : ∀ {fr : List (Int × Int)} {z : Int}, FirstFit fr size z → (z = -1 ∧ ff size fr = none) ∨ ∃ i : Nat, z = i ∧ ff size fr = some i := by
  intro fr z h
  have hn : ∀ fr : List (Int × Int), (∀ r ∈ fr, ¬ (size : Int) < r.2) → ff size fr = none := by
    intro fr
    induction fr with
    | nil => intro _; rfl
    | cons x fr ih =>
      intro h
      unfold ff
      rw [if_neg (h x (List.mem_cons_self ..)), ih fun r hr => h r (List.mem_cons_of_mem _ hr)]
      rfl
  have hs : ∀ (fr : List (Int × Int)) (i : Nat) (r : Int × Int), fr[i]? = some r → (size : Int) < r.2 → (∀ k r', k < i → fr[k]? = some r' → ¬ (size : Int) < r'.2) → ff size fr = some i := by
    intro fr
    induction fr with
    | nil => intro i r h; simp at h
    | cons x fr ih =>
      intro i r h h1 h2
      unfold ff
      cases i with
      | zero =>
        obtain rfl : x = r := by simpa using h
        rw [if_pos h1]
      | succ i =>
        rw [if_neg (h2 0 x (by omega) rfl), ih i r (by simpa using h) h1 (fun k r' hk hr' => h2 (k + 1) r' (by omega) (by simpa using hr'))]
        rfl
  rcases h with ⟨rfl, h⟩ | ⟨i, r, rfl, h1, h2, h3⟩
  · exact .inl ⟨rfl, hn fr h⟩
  · exact .inr ⟨i, rfl, hs fr i r h1 h2 h3⟩
theorem rd_at {w : World} {o : Option Addr} {xs : List Value} {j : Nat} {v : Value} (h : Rd w o xs) (hv : xs[j]? = some v) : w.cell? (sat o j) = some v := h.2 j v hv
set_option maxRecDepth 10000 attribute [local irreducible] Code.wp wpList Calls Ex Op1 sat bat blk cb own Go.Fw.mp Go.Fw.mpO Go.Fw.mpI Go.Fw.mpE Go.Fw.itr HS Rd Ret wkD Hp Cl Cls Exit.then Exit.inBlock Exit.noGoto bodyPost Go.Fw.flat wk2 Go.Fw.all Go.Fw.owns wpOp
attribute [local irreducible] hdA gaps isA ff

set_option maxHeartbeats 4000000 in
theorem alloc_spec (w0 : World) (M : Nat → Prop) (b N : Nat) (L : List Ob) (kind size : Int) (hH : HS w0 M [hpI b N L] w0) :
    Ret Try.prog 70 #[.pointer (some (bat b 0)), .int .i64 kind, .int .i64 size] w0 (fun v w => v = .tuple #[.int .i64 (allocA N L kind size).1, .int .i64 (allocA N L kind size).2.1] ∧ HS w0 M [hpI b N (allocA N L kind size).2.2] w) := by
  by_cases hk : kind < 1 ∨ 6 < kind
  · have hal : allocA N L kind size = (0, 8, L) := by unfold allocA; rw [if_pos hk]
    rw [hal]
    (refine enter (N := 114) Try.func70 rfl Try.ntmps70 rfl ?_; intro a hA; dsimp only [sl0, Nat.reduceAdd] at hA)
    repeat' (first | (first | (refine GT ?_ ?_ <;> intro hg <;> clear hA a <;> intro a hA <;> (first | exact FA | replace hg := of_decide_eq_true hg | replace hg := of_decide_eq_false hg | skip)) | (refine QT0 ?_; clear hA a; intro a hA) | (first | (refine BT ?_; clear hA hH; rintro _ w ⟨bN, rfl, hH⟩ a hA) | (refine LT ?_; clear hA hH; rintro _ w ⟨oN, rfl, hH⟩ a hA) | (refine AT ?_; clear hA; rintro _ w ⟨oN, cN, rfl, hH2⟩ a hA; clear hH; have hH := (hH2 _ (by (repeat constructor))).tail; clear hH2) | (refine S0T ?_; clear hH; rintro _ w hH) )) | ((first | refine CT ?_ | (refine DT ?_ ?_ <;> intro hc <;> try (exfalso; omega))) <;> repeat' refine CT ?_) | (first | (refine DSK ?_; clear hA a; intro a hA) | (first | (refine DLT ?_; clear hA hH; rintro _ w ⟨oN, rfl, hH⟩; refine ⟨STT, ?_⟩; intro a hA) | (refine DAT ?_; clear hA; rintro _ w ⟨oN, cN, rfl, hH2⟩; clear hH; have hH := (hH2 _ (by (repeat constructor))).tail; clear hH2; refine ⟨STT, ?_⟩; intro a hA))) )
    all_goals exact rt2 (.inl rfl) rfl hA rfl rfl ⟨rfl, hH.tail⟩
  by_cases hs : size < 0 ∨ 4096 < size
  · have hal : allocA N L kind size = (0, 2, L) := by unfold allocA; rw [if_neg hk, if_pos hs]
    rw [hal]
    (refine enter (N := 114) Try.func70 rfl Try.ntmps70 rfl ?_; intro a hA; dsimp only [sl0, Nat.reduceAdd] at hA)
    repeat' (first | (first | (refine GT ?_ ?_ <;> intro hg <;> clear hA a <;> intro a hA <;> (first | exact FA | replace hg := of_decide_eq_true hg | replace hg := of_decide_eq_false hg | skip)) | (refine QT0 ?_; clear hA a; intro a hA) | (first | (refine BT ?_; clear hA hH; rintro _ w ⟨bN, rfl, hH⟩ a hA) | (refine LT ?_; clear hA hH; rintro _ w ⟨oN, rfl, hH⟩ a hA) | (refine AT ?_; clear hA; rintro _ w ⟨oN, cN, rfl, hH2⟩ a hA; clear hH; have hH := (hH2 _ (by (repeat constructor))).tail; clear hH2) | (refine S0T ?_; clear hH; rintro _ w hH) )) | ((first | refine CT ?_ | (refine DT ?_ ?_ <;> intro hc <;> try (exfalso; omega))) <;> repeat' refine CT ?_) | (first | (refine DSK ?_; clear hA a; intro a hA) | (first | (refine DLT ?_; clear hA hH; rintro _ w ⟨oN, rfl, hH⟩; refine ⟨STT, ?_⟩; intro a hA) | (refine DAT ?_; clear hA; rintro _ w ⟨oN, cN, rfl, hH2⟩; clear hH; have hH := (hH2 _ (by (repeat constructor))).tail; clear hH2; refine ⟨STT, ?_⟩; intro a hA))) )
    all_goals exact rt2 (.inl rfl) rfl hA rfl rfl ⟨rfl, hH.tail⟩
  obtain ⟨s, rfl⟩ : ∃ s : Nat, size = s := ⟨size.toNat, by omega⟩
  obtain ⟨kd, rfl⟩ : ∃ s : Nat, kind = s := ⟨kind.toNat, by omega⟩
  have hal : allocA N L kd s = match insA N s (newO kd s) 1 L with
      | none => (0, 6, L)
      | some (p, L') => ((p : Int), 0, L') := by
    unfold allocA
    rw [if_neg hk, if_neg hs]
    rfl
  obtain ⟨q, hp, hH2⟩ := hp_open hH
  clear hH
  have hH := hH2
  clear hH2
  have hfrl := hp.frl
  have hlay := hp.lay
  have hn2 := hp.n2
  have hcl := hp.cl
  have hhl := hp.hl
  have hlaw := alloc_law (N := N) (size := s) (new := newO kd s) (fun p => ⟨rfl, List.length_replicate⟩) hlay
  have hback : ∀ w, HS w0 M (hpQ b N (gaps N 1 L) q ++ []) w → HS w0 M [hpI b N L] w := fun w h => hp_shut q hp h
  unfold hpQ at hH hback
  simp only [List.append_nil] at hH hback
  generalize hfr : gaps N 1 L = fr at *
  (refine enter (N := 114) Try.func70 rfl Try.ntmps70 rfl ?_; intro a hA; dsimp only [sl0, Nat.reduceAdd] at hA)
  repeat' (first | (first | (refine GT ?_ ?_ <;> intro hg <;> clear hA a <;> intro a hA <;> (first | exact FA | replace hg := of_decide_eq_true hg | replace hg := of_decide_eq_false hg | skip)) | (refine QT0 ?_; clear hA a; intro a hA) | (first | (refine BT ?_; clear hA hH; rintro _ w ⟨bN, rfl, hH⟩ a hA) | (refine LT ?_; clear hA hH; rintro _ w ⟨oN, rfl, hH⟩ a hA) | (refine AT ?_; clear hA; rintro _ w ⟨oN, cN, rfl, hH2⟩ a hA; clear hH; have hH := (hH2 _ (by (repeat constructor))).tail; clear hH2) | (refine S0T ?_; clear hH; rintro _ w hH) )) | ((first | refine CT ?_ | (refine DT ?_ ?_ <;> intro hc <;> try (exfalso; omega))) <;> repeat' refine CT ?_) | (first | (refine DSK ?_; clear hA a; intro a hA) | (first | (refine DLT ?_; clear hA hH; rintro _ w ⟨oN, rfl, hH⟩; refine ⟨STT, ?_⟩; intro a hA) | (refine DAT ?_; clear hA; rintro _ w ⟨oN, cN, rfl, hH2⟩; clear hH; have hH := (hH2 _ (by (repeat constructor))).tail; clear hH2; refine ⟨STT, ?_⟩; intro a hA))) )
  have hcz := hH.cell (b := bN) (j := 0) (by exact MEMT) rfl
  (refine st_op hA rfl rfl (by decide) (op_call rfl rfl rfl (index_spec _ bN q.oF q.cF fr s hcz (hH.own_rd (by exact MEMT)) (by omega))) ?_; clear hA; rintro _ w ⟨⟨z, rfl, hff⟩, hk⟩ a hA)
  replace hH := hH.keep hk
  clear hk hcz
  rcases ff_first hff with ⟨rfl, hf0⟩ | ⟨i, rfl, hf1⟩
  · rcases hlaw with ⟨h1, h2⟩ | ⟨i, at_, n, A, B, h1, _⟩
    · rw [hal, h2]
      repeat' (first | (first | (refine GT ?_ ?_ <;> intro hg <;> clear hA a <;> intro a hA <;> (first | exact FA | replace hg := of_decide_eq_true hg | replace hg := of_decide_eq_false hg | skip)) | (refine QT0 ?_; clear hA a; intro a hA) | (first | (refine BT ?_; clear hA hH; rintro _ w ⟨bN, rfl, hH⟩ a hA) | (refine LT ?_; clear hA hH; rintro _ w ⟨oN, rfl, hH⟩ a hA) | (refine AT ?_; clear hA; rintro _ w ⟨oN, cN, rfl, hH2⟩ a hA; clear hH; have hH := (hH2 _ (by (repeat constructor))).tail; clear hH2) | (refine S0T ?_; clear hH; rintro _ w hH) )) | ((first | refine CT ?_ | (refine DT ?_ ?_ <;> intro hc <;> try (exfalso; omega))) <;> repeat' refine CT ?_) | (first | (refine DSK ?_; clear hA a; intro a hA) | (first | (refine DLT ?_; clear hA hH; rintro _ w ⟨oN, rfl, hH⟩; refine ⟨STT, ?_⟩; intro a hA) | (refine DAT ?_; clear hA; rintro _ w ⟨oN, cN, rfl, hH2⟩; clear hH; have hH := (hH2 _ (by (repeat constructor))).tail; clear hH2; refine ⟨STT, ?_⟩; intro a hA))) )
      exact rt2 (.inl rfl) rfl hA rfl rfl ⟨rfl, hback _ hH.tail⟩
    · rw [hf0] at h1; cases h1
  rcases hlaw with ⟨h1, h2⟩ | ⟨i', at_, n, A, B, h1, h2, h3, h4, h5, h6, h7, h8, h9⟩
  · rw [hf1] at h1; cases h1
  obtain rfl : i = i' := by rw [hf1] at h1; exact Option.some.inj h1
  rw [hal, h5]
  have hil : i < fr.length := (List.getElem?_eq_some_iff.1 h2).1
  have hnN : n ≤ 65536 ∧ at_ + n ≤ N := by
    have := gaps_mem hlay (at_, n) (by rw [hfr]; exact List.mem_of_getElem? h2)
    dsimp only at this
    omega
  generalize hbS : bN = bS at *
  clear hbS bN
  repeat' (first | (first | (refine GT ?_ ?_ <;> intro hg <;> clear hA a <;> intro a hA <;> (first | exact FA | replace hg := of_decide_eq_true hg | replace hg := of_decide_eq_false hg | skip)) | ((first | apply st_ex hA hH rfl rfl (by decide) | apply dr_ex hA rfl rfl rfl (by decide) | apply dr_exp hA rfl rfl rfl (by decide) | apply dr_ex3 hA hH rfl rfl rfl (by decide)); (first | (apply ex_load; rfl; exact cl_own (by exact MEMT) (encP0 h2))); clear hA a; intro a hA) | (refine QT0 ?_; clear hA a; intro a hA) | (first | (refine BT ?_; clear hA hH; rintro _ w ⟨bN, rfl, hH⟩ a hA) | (refine LT ?_; clear hA hH; rintro _ w ⟨oN, rfl, hH⟩ a hA) | (refine AT ?_; clear hA; rintro _ w ⟨oN, cN, rfl, hH2⟩ a hA; clear hH; have hH := (hH2 _ (by (repeat constructor))).tail; clear hH2) | (refine S0T ?_; clear hH; rintro _ w hH) )) | ((first | refine CT ?_ | (refine DT ?_ ?_ <;> intro hc <;> try (exfalso; omega))) <;> repeat' refine CT ?_) | (first | (refine DSK ?_; clear hA a; intro a hA) | (first | (refine DLT ?_; clear hA hH; rintro _ w ⟨oN, rfl, hH⟩; refine ⟨STT, ?_⟩; intro a hA) | (refine DAT ?_; clear hA; rintro _ w ⟨oN, cN, rfl, hH2⟩; clear hH; have hH := (hH2 _ (by (repeat constructor))).tail; clear hH2; refine ⟨STT, ?_⟩; intro a hA))) )
  have h2b : (fr.set i (((at_ + s + 1 : Nat) : Int), (n : Int)))[i]? = some (((at_ + s + 1 : Nat) : Int), (n : Int)) := by rw [List.getElem?_set_self hil]
  have hni : (n : Int) - s - 1 = ((n - (s + 1) : Nat) : Int) := by omega
  have hspF : Sp q.oF fr.length := hH.own_sp (by exact MEMT)
  have hset : fr.set i ((at_ : Int), (n : Int)) = fr := by
    have := List.set_getElem_self hil
    rwa [(List.getElem?_eq_some_iff.1 h2).2] at this
  have hcl21 : Cl (HS w0 M [cb b 107 [.slice q.oC N q.cC, .slice q.oH N q.cH, .slice q.oF fr.length q.cF], cb bS 3 [.int .i64 s], exI fun a' => own 104 2 q.oF fr.length q.cF (flat encP (fr.set i (a', (n : Int))))]) (sat q.oF (i * 2 + 1)) (.int .i64 n) := cl_of fun w h => by
    obtain ⟨a', h'⟩ := (h.perm (List.perm_append_comm (l₁ := [_, _]) (l₂ := [_]))).exI_open
    exact rd_at (h'.own_rd (List.mem_cons_self ..)) (encP1 (List.getElem?_set_self hil))
  have hpick : ∀ w a', HS w0 M [cb bS 3 [.int .i64 s], cb b 107 [.slice q.oC N q.cC, .slice q.oH N q.cH, .slice q.oF fr.length q.cF], own 33 1 q.oC N q.cC (flat encW q.cs), own 113 2 q.oH N q.cH (flat encP q.hs), own 104 2 q.oF fr.length q.cF (flat encP (fr.set i (a', (n : Int))))] w →
      HS w0 M [cb b 107 [.slice q.oC N q.cC, .slice q.oH N q.cH, .slice q.oF fr.length q.cF], cb bS 3 [.int .i64 s], exI fun a' => own 104 2 q.oF fr.length q.cF (flat encP (fr.set i (a', (n : Int))))] w := fun w a' h => by
    have h1 : HS w0 M ([own 104 2 q.oF fr.length q.cF (flat encP (fr.set i (a', (n : Int)))), cb b 107 [.slice q.oC N q.cC, .slice q.oH N q.cH, .slice q.oF fr.length q.cF], cb bS 3 [.int .i64 s]] ++ [own 33 1 q.oC N q.cC (flat encW q.cs), own 113 2 q.oH N q.cH (flat encP q.hs)]) w := h.perm (by (repeat (first | exact List.Perm.nil | refine perm_pick 0 rfl ?_ | refine perm_pick 1 rfl ?_ | refine perm_pick 2 rfl ?_ | refine perm_pick 3 rfl ?_ | refine perm_pick 4 rfl ?_ | refine perm_pick 5 rfl ?_ | refine perm_pick 6 rfl ?_ | refine perm_pick 7 rfl ?_ | refine perm_pick 8 rfl ?_ | refine perm_pick 9 rfl ?_ | refine perm_pick 10 rfl ?_ | refine perm_pick 11 rfl ?_)))
    have h2 := HS.exI_shut (f := fun a' => own 104 2 q.oF fr.length q.cF (flat encP (fr.set i (a', (n : Int))))) a' h1.left
    exact h2.perm (List.perm_append_comm (l₁ := [_]) (l₂ := [_, _]))
  refine wp_draw2_HS (w0 := w0) (M := M) (H := [cb b 107 [.slice q.oC N q.cC, .slice q.oH N q.cH, .slice q.oF fr.length q.cF], cb bS 3 [.int .i64 s], exI fun a' => own 104 2 q.oF fr.length q.cF (flat encP (fr.set i (a', (n : Int))))]) [(0, 1), (1, 1), (2, 1), (3, 1), (4, 1), (5, 2), (6, 2), (7, 2), (8, 1), (9, 2), (10, 1), (11, 1), (12, 2), (13, 2), (14, 2), (15, 2), (16, 2), (17, 1), (18, 2), (19, 2), (20, 2), (21, 1), (22, 1), (23, 2), (24, 2), (25, 2), (26, 2), (27, 0), (28, 2), (29, 2)] [30] mixed (by decide +kernel) ?_ ?_
  · refine hpick w ((at_ : Int)) ?_
    rw [hset]
    exact hH
  replace hH := hH.drew
  repeat' (first | (first | (refine GT ?_ ?_ <;> intro hg <;> clear hA a <;> intro a hA <;> (first | exact FA | replace hg := of_decide_eq_true hg | replace hg := of_decide_eq_false hg | skip)) | ((first | apply st_ex hA hH rfl rfl (by decide) | apply dr_ex hA rfl rfl rfl (by decide) | apply dr_exp hA rfl rfl rfl (by decide) | apply dr_ex3 hA hH rfl rfl rfl (by decide)); (first | (apply ex_load; rfl; exact hcl21)); clear hA a; intro a hA) | (refine QT0 ?_; clear hA a; intro a hA) | (first | (refine BT ?_; clear hA hH; rintro _ w ⟨bN, rfl, hH⟩ a hA) | (refine LT ?_; clear hA hH; rintro _ w ⟨oN, rfl, hH⟩ a hA) | (refine AT ?_; clear hA; rintro _ w ⟨oN, cN, rfl, hH2⟩ a hA; clear hH; have hH := (hH2 _ (by (repeat constructor))).tail; clear hH2) | (refine S0T ?_; clear hH; rintro _ w hH) | (apply dr_op0 hA rfl rfl rfl; apply op_setP0 (m := ((at_ + s + 1 : Nat) : Int)); rfl; rfl; exact hH; exact h2; (repeat constructor); clear hH; rintro _ w hH; refine ⟨hpick w _ hH, ?_⟩) | (apply dr_op03 hA rfl rfl rfl; apply op_setP1; rfl; rfl; exact hH; exact h2b; (repeat constructor); clear hH; rintro _ w hH))) | ((first | refine CT ?_ | (refine DT ?_ ?_ <;> intro hc <;> try (exfalso; omega))) <;> repeat' refine CT ?_) | (first | (refine DSK ?_; clear hA a; intro a hA) | (first | (refine DLT ?_; clear hA hH; rintro _ w ⟨oN, rfl, hH⟩; refine ⟨STT, ?_⟩; intro a hA) | (refine DAT ?_; clear hA; rintro _ w ⟨oN, cN, rfl, hH2⟩; clear hH; have hH := (hH2 _ (by (repeat constructor))).tail; clear hH2; refine ⟨STT, ?_⟩; intro a hA))) )
  rw [List.set_set, hni] at hH
  clear hcl21 hpick h2b hset hspF
  have h2c : (fr.set i (((at_ + s + 1 : Nat) : Int), ((n - (s + 1) : Nat) : Int)))[i]? = some (((at_ + s + 1 : Nat) : Int), ((n - (s + 1) : Nat) : Int)) := List.getElem?_set_self hil
  have hfl : (fr.set i (((at_ + s + 1 : Nat) : Int), ((n - (s + 1) : Nat) : Int))).length = fr.length := List.length_set
  repeat' (first | (first | (refine GT ?_ ?_ <;> intro hg <;> clear hA a <;> intro a hA <;> (first | exact FA | replace hg := of_decide_eq_true hg | replace hg := of_decide_eq_false hg | skip)) | ((first | apply st_ex hA hH rfl rfl (by decide) | apply dr_ex hA rfl rfl rfl (by decide) | apply dr_exp hA rfl rfl rfl (by decide) | apply dr_ex3 hA hH rfl rfl rfl (by decide)); (first | (apply ex_load; rfl; exact cl_own (by exact MEMT) (encP1 h2c))); clear hA a; intro a hA) | (refine QT0 ?_; clear hA a; intro a hA) | (first | (refine BT ?_; clear hA hH; rintro _ w ⟨bN, rfl, hH⟩ a hA) | (refine LT ?_; clear hA hH; rintro _ w ⟨oN, rfl, hH⟩ a hA) | (refine AT ?_; clear hA; rintro _ w ⟨oN, cN, rfl, hH2⟩ a hA; clear hH; have hH := (hH2 _ (by (repeat constructor))).tail; clear hH2) | (refine S0T ?_; clear hH; rintro _ w hH) )) | ((first | refine CT ?_ | (refine DT ?_ ?_ <;> intro hc <;> try (exfalso; omega))) <;> repeat' refine CT ?_) | (first | (refine DSK ?_; clear hA a; intro a hA) | (first | (refine DLT ?_; clear hA hH; rintro _ w ⟨oN, rfl, hH⟩; refine ⟨STT, ?_⟩; intro a hA) | (refine DAT ?_; clear hA; rintro _ w ⟨oN, cN, rfl, hH2⟩; clear hH; have hH := (hH2 _ (by (repeat constructor))).tail; clear hH2; refine ⟨STT, ?_⟩; intro a hA))) )
  · have hns : n = s + 1 := by omega
    have hcut : cutR fr i at_ n s = fr.eraseIdx i := by unfold cutR; rw [if_pos hns]
    have hP : HS w0 M ([own 104 2 q.oF fr.length q.cF (flat encP (fr.set i (((at_ + s + 1 : Nat) : Int), ((n - (s + 1) : Nat) : Int))))] ++ [cb bS 3 [.int .i64 s], cb b 107 [.slice q.oC N q.cC, .slice q.oH N q.cH, .slice q.oF fr.length q.cF], own 33 1 q.oC N q.cC (flat encW q.cs), own 113 2 q.oH N q.cH (flat encP q.hs)]) w := hH.perm (by (repeat (first | exact List.Perm.nil | refine perm_pick 0 rfl ?_ | refine perm_pick 1 rfl ?_ | refine perm_pick 2 rfl ?_ | refine perm_pick 3 rfl ?_ | refine perm_pick 4 rfl ?_ | refine perm_pick 5 rfl ?_ | refine perm_pick 6 rfl ?_ | refine perm_pick 7 rfl ?_ | refine perm_pick 8 rfl ?_ | refine perm_pick 9 rfl ?_ | refine perm_pick 10 rfl ?_ | refine perm_pick 11 rfl ?_)))
    obtain ⟨Mc, hf, -, hback2⟩ := hP.frame
    rw [← hfl] at hf
    have hdel := delete_spec _ Mc q.oF q.cF i _ hf (by rw [hfl]; exact hil) (by omega)
    rw [hfl] at hdel
    (refine st_op hA rfl rfl (by decide) (op_call rfl rfl rfl (hdel)) ?_; clear hA; rintro _ w ⟨o2, c2, rfl, hq⟩ a hA)
    replace hH := hback2 _ _ hq
    clear hback2 hf hq hP hdel
    rw [List.eraseIdx_set_eq, List.singleton_append] at hH
    have hel : fr.length - 1 = (fr.eraseIdx i).length := by rw [List.length_eraseIdx_of_lt hil]
    rw [hel] at hH hA
    repeat' (first | (first | (refine GT ?_ ?_ <;> intro hg <;> clear hA a <;> intro a hA <;> (first | exact FA | replace hg := of_decide_eq_true hg | replace hg := of_decide_eq_false hg | skip)) | (refine QT0 ?_; clear hA a; intro a hA) | (first | (refine BT ?_; clear hA hH; rintro _ w ⟨bN, rfl, hH⟩ a hA) | (refine LT ?_; clear hA hH; rintro _ w ⟨oN, rfl, hH⟩ a hA) | (refine AT ?_; clear hA; rintro _ w ⟨oN, cN, rfl, hH2⟩ a hA; clear hH; have hH := (hH2 _ (by (repeat constructor))).tail; clear hH2) | (refine S0T ?_; clear hH; rintro _ w hH) | (apply st_op0 hA rfl rfl; apply op_store_fld; rfl; rfl; rfl; exact hH; (repeat constructor); (repeat rfl); clear hH; rintro _ w hH))) | ((first | refine CT ?_ | (refine DT ?_ ?_ <;> intro hc <;> try (exfalso; omega))) <;> repeat' refine CT ?_) | (first | (refine DSK ?_; clear hA a; intro a hA) | (first | (refine DLT ?_; clear hA hH; rintro _ w ⟨oN, rfl, hH⟩; refine ⟨STT, ?_⟩; intro a hA) | (refine DAT ?_; clear hA; rintro _ w ⟨oN, cN, rfl, hH2⟩; clear hH; have hH := (hH2 _ (by (repeat constructor))).tail; clear hH2; refine ⟨STT, ?_⟩; intro a hA))) )
    rw [← hcut] at hH
    clear hel hcut
    replace hH : HS w0 M [cb bS 3 [.int .i64 s], cb b 107 [.slice q.oC N q.cC, .slice q.oH N q.cH, .slice o2 (cutR fr i at_ n s).length c2], own 33 1 q.oC N q.cC (flat encW q.cs), own 113 2 q.oH N q.cH (flat encP q.hs), own 104 2 o2 (cutR fr i at_ n s).length c2 (flat encP (cutR fr i at_ n s))] w := hH.perm (by (repeat (first | exact List.Perm.nil | refine perm_pick 0 rfl ?_ | refine perm_pick 1 rfl ?_ | refine perm_pick 2 rfl ?_ | refine perm_pick 3 rfl ?_ | refine perm_pick 4 rfl ?_ | refine perm_pick 5 rfl ?_ | refine perm_pick 6 rfl ?_ | refine perm_pick 7 rfl ?_ | refine perm_pick 8 rfl ?_ | refine perm_pick 9 rfl ?_ | refine perm_pick 10 rfl ?_ | refine perm_pick 11 rfl ?_)))
    (refine wp_draw2_HS [(0, 1), (1, 1), (2, 1), (3, 1), (4, 1), (5, 1), (6, 1), (7, 1), (8, 1)] [9] mixed (by decide +kernel) hH ?_; replace hH := hH.drew)
    repeat' (first | (first | (refine GT ?_ ?_ <;> intro hg <;> clear hA a <;> intro a hA <;> (first | exact FA | replace hg := of_decide_eq_true hg | replace hg := of_decide_eq_false hg | skip)) | (refine QT0 ?_; clear hA a; intro a hA) | (first | (refine BT ?_; clear hA hH; rintro _ w ⟨bN, rfl, hH⟩ a hA) | (refine LT ?_; clear hA hH; rintro _ w ⟨oN, rfl, hH⟩ a hA) | (refine AT ?_; clear hA; rintro _ w ⟨oN, cN, rfl, hH2⟩ a hA; clear hH; have hH := (hH2 _ (by (repeat constructor))).tail; clear hH2) | (refine S0T ?_; clear hH; rintro _ w hH) | (apply dr_op03 hA rfl rfl rfl; apply op_setP (i := at_); rfl; rfl; exact hH; (repeat constructor); omega; clear hH; rintro _ w hH))) | ((first | refine CT ?_ | (refine DT ?_ ?_ <;> intro hc <;> try (exfalso; omega))) <;> repeat' refine CT ?_) | (first | (refine DSK ?_; clear hA a; intro a hA) | (first | (refine DLT ?_; clear hA hH; rintro _ w ⟨oN, rfl, hH⟩; refine ⟨STT, ?_⟩; intro a hA) | (refine DAT ?_; clear hA; rintro _ w ⟨oN, cN, rfl, hH2⟩; clear hH; have hH := (hH2 _ (by (repeat constructor))).tail; clear hH2; refine ⟨STT, ?_⟩; intro a hA))) )
    have ho0l : ((q.cs.drop (at_ + 1)).take s).length = s := by rw [List.length_take, List.length_drop]; omega
    have hlay0 : Lay N 1 (A ++ (⟨at_, kd, (q.cs.drop (at_ + 1)).take s⟩ : Ob) :: B) := lay_mid (by rfl) (by rw [ho0l]; exact List.length_replicate) h7
    have hg0 : gaps N 1 (A ++ (⟨at_, kd, (q.cs.drop (at_ + 1)).take s⟩ : Ob) :: B) = cutR fr i at_ n s := (gaps_mid A B (by rfl) (by rw [ho0l]; exact List.length_replicate.symm) 1).trans h6
    have hrep0 : Rep N (A ++ (⟨at_, kd, (q.cs.drop (at_ + 1)).take s⟩ : Ob) :: B) q.cs (q.hs.set at_ ((kd : Int), (s : Int))) := by
      have := rep_alloc (o := ⟨at_, kd, (q.cs.drop (at_ + 1)).take s⟩) (h4 ▸ hp) hlay0 ⟨by dsimp only; omega, by dsimp only; omega⟩ hcl (fun j x hx => by
        dsimp only at hx ⊢
        have hjl := (List.getElem?_eq_some_iff.1 hx).1
        rw [List.getElem?_take_of_lt (by omega), List.getElem?_drop] at hx
        exact hx) (fun _ _ => rfl)
      dsimp only at this
      rw [ho0l] at this
      exact this
    replace hH : HS w0 M (hpQ b N (gaps N 1 (A ++ (⟨at_, kd, (q.cs.drop (at_ + 1)).take s⟩ : Ob) :: B)) ⟨q.oC, q.cC, q.oH, q.cH, o2, c2, q.cs, q.hs.set at_ ((kd : Int), (s : Int))⟩ ++ [cb bS 3 [.int .i64 s]]) w := by
      rw [hg0]
      unfold hpQ
      exact hH.perm (by (repeat (first | exact List.Perm.nil | refine perm_pick 0 rfl ?_ | refine perm_pick 1 rfl ?_ | refine perm_pick 2 rfl ?_ | refine perm_pick 3 rfl ?_ | refine perm_pick 4 rfl ?_ | refine perm_pick 5 rfl ?_ | refine perm_pick 6 rfl ?_ | refine perm_pick 7 rfl ?_ | refine perm_pick 8 rfl ?_ | refine perm_pick 9 rfl ?_ | refine perm_pick 10 rfl ?_ | refine perm_pick 11 rfl ?_)))
    have hq0 := hpQ_read hrep0 hH
    have hflds := fields_spec _ b N _ _ _ hq0 (List.mem_append_right A (List.mem_cons_self ..))
    dsimp only at hflds
    rw [ho0l] at hflds
    repeat' (first | (first | (refine GT ?_ ?_ <;> intro hg <;> clear hA a <;> intro a hA <;> (first | exact FA | replace hg := of_decide_eq_true hg | replace hg := of_decide_eq_false hg | skip)) | (refine QT0 ?_; clear hA a; intro a hA) | (first | (refine BT ?_; clear hA hH; rintro _ w ⟨bN, rfl, hH⟩ a hA) | (refine LT ?_; clear hA hH; rintro _ w ⟨oN, rfl, hH⟩ a hA) | (refine AT ?_; clear hA; rintro _ w ⟨oN, cN, rfl, hH2⟩ a hA; clear hH; have hH := (hH2 _ (by (repeat constructor))).tail; clear hH2) | (refine S0T ?_; clear hH; rintro _ w hH) )) | ((first | refine CT ?_ | (refine DT ?_ ?_ <;> intro hc <;> try (exfalso; omega))) <;> repeat' refine CT ?_) | (first | (refine DSK ?_; clear hA a; intro a hA) | (first | (refine DLT ?_; clear hA hH; rintro _ w ⟨oN, rfl, hH⟩; refine ⟨STT, ?_⟩; intro a hA) | (refine DAT ?_; clear hA; rintro _ w ⟨oN, cN, rfl, hH2⟩; clear hH; have hH := (hH2 _ (by (repeat constructor))).tail; clear hH2; refine ⟨STT, ?_⟩; intro a hA))) )
    (refine st_op hA rfl rfl (by decide) (op_call rfl rfl rfl (hflds)) ?_; clear hA; rintro _ w ⟨rfl, hk⟩ a hA)
    replace hH := (hH.keep hk).left
    clear hk hflds
    obtain ⟨bb, off, hoC⟩ := hq0.oC_some
    have hfin : Ob.fin ⟨at_, kd, (q.cs.drop (at_ + 1)).take s⟩ = at_ + 1 + s := by unfold Ob.fin; dsimp only; rw [ho0l]
    rw [hfin] at hA
    have hspF := sub_sp hq0 (at_ + 1 + s) (at_ + 1) s
    dsimp only at hspF hoC
    rw [hg0] at hH
    generalize hfs0 : (q.cs.drop (at_ + 1)).take s = fs0 at *
    clear hq0 hg0 hlay0 hfin
    repeat' (first | (first | (refine GT ?_ ?_ <;> intro hg <;> clear hA a <;> intro a hA <;> (first | exact FA | replace hg := of_decide_eq_true hg | replace hg := of_decide_eq_false hg | skip)) | (refine QT0 ?_; clear hA a; intro a hA) | (first | (refine BT ?_; clear hA hH; rintro _ w ⟨bN, rfl, hH⟩ a hA) | (refine LT ?_; clear hA hH; rintro _ w ⟨oN, rfl, hH⟩ a hA) | (refine AT ?_; clear hA; rintro _ w ⟨oN, cN, rfl, hH2⟩ a hA; clear hH; have hH := (hH2 _ (by (repeat constructor))).tail; clear hH2) | (refine S0T ?_; clear hH; rintro _ w hH) )) | ((first | refine CT ?_ | (refine DT ?_ ?_ <;> intro hc <;> try (exfalso; omega))) <;> repeat' refine CT ?_) | (first | (refine DSK ?_; clear hA a; intro a hA) | (first | (refine DLT ?_; clear hA hH; rintro _ w ⟨oN, rfl, hH⟩; refine ⟨STT, ?_⟩; intro a hA) | (refine DAT ?_; clear hA; rintro _ w ⟨oN, cN, rfl, hH2⟩; clear hH; have hH := (hH2 _ (by (repeat constructor))).tail; clear hH2; refine ⟨STT, ?_⟩; intro a hA))) )
    refine wp_lp (S := Nat × List Int × List Int) (fun σ a w => (σ.1 ≤ s ∧ σ.2.1.length = s ∧ (∀ j, j < σ.1 → σ.2.1[j]? = some 1) ∧ Rep N (A ++ (⟨at_, kd, σ.2.1⟩ : Ob) :: B) σ.2.2 (q.hs.set at_ ((kd : Int), (s : Int)))) ∧ HS w0 M (hpQ b N (cutR fr i at_ n s) ⟨q.oC, q.cC, q.oH, q.cH, o2, c2, σ.2.2, q.hs.set at_ ((kd : Int), (s : Int))⟩) w ∧ Sl 114 [(9, .int .i64 at_), (10, .slice (subO q.oC (at_ + 1 + s) (at_ + 1) 1) s s), (104, .int .i64 s), (105, .int .i64 σ.1)] a)
      (fun σ => s - σ.1) (0, fs0, q.cs) ⟨⟨Nat.zero_le _, ho0l, fun j hj => absurd hj (Nat.not_lt_zero _), hrep0⟩, hH, (hA.sub (by (repeat (first | exact trivial | refine ⟨rfl, ?_⟩))))⟩ ?_
    clear hA hH a
    rintro ⟨k, fs, cs⟩ a w ⟨⟨hks, hfl1, hone, hrep⟩, hH, hA⟩
    dsimp only at hks hfl1 hone hrep hH hA
    unfold hpQ at hH
    dsimp only at hH
    by_cases hlt : k < s
    · have hspF := hspF (by omega)
      have hsat : sat (subO q.oC (at_ + 1 + s) (at_ + 1) 1) (k * 1) = sat q.oC (at_ + 1 + k) := by rw [sat_sub hoC (by omega), Nat.mul_one]
      have hcl1 := hrep.cl
      repeat' (first | (first | (refine GT ?_ ?_ <;> intro hg <;> clear hA a <;> intro a hA <;> (first | exact FA | replace hg := of_decide_eq_true hg | replace hg := of_decide_eq_false hg | skip)) | (refine QT0 ?_; clear hA a; intro a hA) | (first | (refine BT ?_; clear hA hH; rintro _ w ⟨bN, rfl, hH⟩ a hA) | (refine LT ?_; clear hA hH; rintro _ w ⟨oN, rfl, hH⟩ a hA) | (refine AT ?_; clear hA; rintro _ w ⟨oN, cN, rfl, hH2⟩ a hA; clear hH; have hH := (hH2 _ (by (repeat constructor))).tail; clear hH2) | (refine S0T ?_; clear hH; rintro _ w hH) )) | ((first | refine CT ?_ | (refine DT ?_ ?_ <;> intro hc <;> try (exfalso; omega))) <;> repeat' refine CT ?_) | (first | (refine DSK ?_; clear hA a; intro a hA) | (first | (refine DLT ?_; clear hA hH; rintro _ w ⟨oN, rfl, hH⟩; refine ⟨STT, ?_⟩; intro a hA) | (refine DAT ?_; clear hA; rintro _ w ⟨oN, cN, rfl, hH2⟩; clear hH; have hH := (hH2 _ (by (repeat constructor))).tail; clear hH2; refine ⟨STT, ?_⟩; intro a hA))) )
      (refine st_op hA rfl rfl (by decide) (op_call rfl rfl rfl (of_spec _)) ?_; clear hA; rintro _ w ⟨rfl, hk⟩ a hA)
      replace hH := hH.keep hk
      clear hk
      repeat' (first | (first | (refine GT ?_ ?_ <;> intro hg <;> clear hA a <;> intro a hA <;> (first | exact FA | replace hg := of_decide_eq_true hg | replace hg := of_decide_eq_false hg | skip)) | (refine QT0 ?_; clear hA a; intro a hA) | (first | (refine BT ?_; clear hA hH; rintro _ w ⟨bN, rfl, hH⟩ a hA) | (refine LT ?_; clear hA hH; rintro _ w ⟨oN, rfl, hH⟩ a hA) | (refine AT ?_; clear hA; rintro _ w ⟨oN, cN, rfl, hH2⟩ a hA; clear hH; have hH := (hH2 _ (by (repeat constructor))).tail; clear hH2) | (refine S0T ?_; clear hH; rintro _ w hH) | (apply st_op0 hA rfl rfl; apply op_set1 (enc := encW) (y0 := 1) (j := at_ + 1 + k); rw [← hsat]; rfl; rfl; rfl; rfl; exact encW_len; exact hH; (repeat constructor); (repeat omega); clear hH; rintro _ w hH))) | ((first | refine CT ?_ | (refine DT ?_ ?_ <;> intro hc <;> try (exfalso; omega))) <;> repeat' refine CT ?_) | (first | (refine DSK ?_; clear hA a; intro a hA) | (first | (refine DLT ?_; clear hA hH; rintro _ w ⟨oN, rfl, hH⟩; refine ⟨STT, ?_⟩; intro a hA) | (refine DAT ?_; clear hA; rintro _ w ⟨oN, cN, rfl, hH2⟩; clear hH; have hH := (hH2 _ (by (repeat constructor))).tail; clear hH2; refine ⟨STT, ?_⟩; intro a hA))) )
      refine ⟨(k + 1, fs.set k 1, cs.set (at_ + 1 + k) 1), ⟨⟨hlt, by dsimp only; rw [List.length_set]; exact hfl1, fun j hj => ?_, ?_⟩, hH, (hA.sub (by (repeat (first | exact trivial | refine ⟨rfl, ?_⟩))))⟩, by dsimp only; omega⟩
      · dsimp only at hj ⊢
        rw [List.getElem?_set]
        split
        · rw [if_pos (by omega)]
        · exact hone j (by omega)
      · have h20 := rep_set hrep (List.mem_append_right A (List.mem_cons_self ..)) (j := k) (x := 1) (by dsimp only; omega)
        rw [setL_mid hrep.lay] at h20
        exact h20
    have hfs1 : fs = List.replicate s 1 := by
      apply List.ext_getElem?
      intro j
      rw [List.getElem?_replicate]
      split
      · exact hone j (by omega)
      · exact List.getElem?_eq_none (by omega)
    subst hfs1
    repeat' (first | (first | (refine GT ?_ ?_ <;> intro hg <;> clear hA a <;> intro a hA <;> (first | exact FA | replace hg := of_decide_eq_true hg | replace hg := of_decide_eq_false hg | skip)) | (refine QT0 ?_; clear hA a; intro a hA) | (first | (refine BT ?_; clear hA hH; rintro _ w ⟨bN, rfl, hH⟩ a hA) | (refine LT ?_; clear hA hH; rintro _ w ⟨oN, rfl, hH⟩ a hA) | (refine AT ?_; clear hA; rintro _ w ⟨oN, cN, rfl, hH2⟩ a hA; clear hH; have hH := (hH2 _ (by (repeat constructor))).tail; clear hH2) | (refine S0T ?_; clear hH; rintro _ w hH) )) | ((first | refine CT ?_ | (refine DT ?_ ?_ <;> intro hc <;> try (exfalso; omega))) <;> repeat' refine CT ?_) | (first | (refine DSK ?_; clear hA a; intro a hA) | (first | (refine DLT ?_; clear hA hH; rintro _ w ⟨oN, rfl, hH⟩; refine ⟨STT, ?_⟩; intro a hA) | (refine DAT ?_; clear hA; rintro _ w ⟨oN, cN, rfl, hH2⟩; clear hH; have hH := (hH2 _ (by (repeat constructor))).tail; clear hH2; refine ⟨STT, ?_⟩; intro a hA))) )
    refine rt2 (.inl rfl) rfl hA rfl rfl ⟨rfl, ?_⟩
    refine hp_shut ⟨q.oC, q.cC, q.oH, q.cH, o2, c2, cs, q.hs.set at_ ((kd : Int), (s : Int))⟩ hrep ?_
    show HS w0 M (hpQ b N (gaps N 1 (A ++ newO kd s at_ :: B)) _ ++ []) w
    rw [h6, List.append_nil]
    exact hH
  · have hns : n ≠ s + 1 := by omega
    have hcut : cutR fr i at_ n s = fr.set i (((at_ + s + 1 : Nat) : Int), ((n - (s + 1) : Nat) : Int)) := by unfold cutR; rw [if_neg hns]
    rw [← hfl, ← hcut] at hH
    clear hcut
    replace hH : HS w0 M [cb bS 3 [.int .i64 s], cb b 107 [.slice q.oC N q.cC, .slice q.oH N q.cH, .slice q.oF (cutR fr i at_ n s).length q.cF], own 33 1 q.oC N q.cC (flat encW q.cs), own 113 2 q.oH N q.cH (flat encP q.hs), own 104 2 q.oF (cutR fr i at_ n s).length q.cF (flat encP (cutR fr i at_ n s))] w := hH.perm (by (repeat (first | exact List.Perm.nil | refine perm_pick 0 rfl ?_ | refine perm_pick 1 rfl ?_ | refine perm_pick 2 rfl ?_ | refine perm_pick 3 rfl ?_ | refine perm_pick 4 rfl ?_ | refine perm_pick 5 rfl ?_ | refine perm_pick 6 rfl ?_ | refine perm_pick 7 rfl ?_ | refine perm_pick 8 rfl ?_ | refine perm_pick 9 rfl ?_ | refine perm_pick 10 rfl ?_ | refine perm_pick 11 rfl ?_)))
    (refine wp_draw2_HS [(0, 1), (1, 1), (2, 1), (3, 1), (4, 1), (5, 1), (6, 1), (7, 1), (8, 1)] [9] mixed (by decide +kernel) hH ?_; replace hH := hH.drew)
    repeat' (first | (first | (refine GT ?_ ?_ <;> intro hg <;> clear hA a <;> intro a hA <;> (first | exact FA | replace hg := of_decide_eq_true hg | replace hg := of_decide_eq_false hg | skip)) | (refine QT0 ?_; clear hA a; intro a hA) | (first | (refine BT ?_; clear hA hH; rintro _ w ⟨bN, rfl, hH⟩ a hA) | (refine LT ?_; clear hA hH; rintro _ w ⟨oN, rfl, hH⟩ a hA) | (refine AT ?_; clear hA; rintro _ w ⟨oN, cN, rfl, hH2⟩ a hA; clear hH; have hH := (hH2 _ (by (repeat constructor))).tail; clear hH2) | (refine S0T ?_; clear hH; rintro _ w hH) | (apply dr_op03 hA rfl rfl rfl; apply op_setP (i := at_); rfl; rfl; exact hH; (repeat constructor); omega; clear hH; rintro _ w hH))) | ((first | refine CT ?_ | (refine DT ?_ ?_ <;> intro hc <;> try (exfalso; omega))) <;> repeat' refine CT ?_) | (first | (refine DSK ?_; clear hA a; intro a hA) | (first | (refine DLT ?_; clear hA hH; rintro _ w ⟨oN, rfl, hH⟩; refine ⟨STT, ?_⟩; intro a hA) | (refine DAT ?_; clear hA; rintro _ w ⟨oN, cN, rfl, hH2⟩; clear hH; have hH := (hH2 _ (by (repeat constructor))).tail; clear hH2; refine ⟨STT, ?_⟩; intro a hA))) )
    have ho0l : ((q.cs.drop (at_ + 1)).take s).length = s := by rw [List.length_take, List.length_drop]; omega
    have hlay0 : Lay N 1 (A ++ (⟨at_, kd, (q.cs.drop (at_ + 1)).take s⟩ : Ob) :: B) := lay_mid (by rfl) (by rw [ho0l]; exact List.length_replicate) h7
    have hg0 : gaps N 1 (A ++ (⟨at_, kd, (q.cs.drop (at_ + 1)).take s⟩ : Ob) :: B) = cutR fr i at_ n s := (gaps_mid A B (by rfl) (by rw [ho0l]; exact List.length_replicate.symm) 1).trans h6
    have hrep0 : Rep N (A ++ (⟨at_, kd, (q.cs.drop (at_ + 1)).take s⟩ : Ob) :: B) q.cs (q.hs.set at_ ((kd : Int), (s : Int))) := by
      have := rep_alloc (o := ⟨at_, kd, (q.cs.drop (at_ + 1)).take s⟩) (h4 ▸ hp) hlay0 ⟨by dsimp only; omega, by dsimp only; omega⟩ hcl (fun j x hx => by
        dsimp only at hx ⊢
        have hjl := (List.getElem?_eq_some_iff.1 hx).1
        rw [List.getElem?_take_of_lt (by omega), List.getElem?_drop] at hx
        exact hx) (fun _ _ => rfl)
      dsimp only at this
      rw [ho0l] at this
      exact this
    replace hH : HS w0 M (hpQ b N (gaps N 1 (A ++ (⟨at_, kd, (q.cs.drop (at_ + 1)).take s⟩ : Ob) :: B)) ⟨q.oC, q.cC, q.oH, q.cH, q.oF, q.cF, q.cs, q.hs.set at_ ((kd : Int), (s : Int))⟩ ++ [cb bS 3 [.int .i64 s]]) w := by
      rw [hg0]
      unfold hpQ
      exact hH.perm (by (repeat (first | exact List.Perm.nil | refine perm_pick 0 rfl ?_ | refine perm_pick 1 rfl ?_ | refine perm_pick 2 rfl ?_ | refine perm_pick 3 rfl ?_ | refine perm_pick 4 rfl ?_ | refine perm_pick 5 rfl ?_ | refine perm_pick 6 rfl ?_ | refine perm_pick 7 rfl ?_ | refine perm_pick 8 rfl ?_ | refine perm_pick 9 rfl ?_ | refine perm_pick 10 rfl ?_ | refine perm_pick 11 rfl ?_)))
    have hq0 := hpQ_read hrep0 hH
    have hflds := fields_spec _ b N _ _ _ hq0 (List.mem_append_right A (List.mem_cons_self ..))
    dsimp only at hflds
    rw [ho0l] at hflds
    repeat' (first | (first | (refine GT ?_ ?_ <;> intro hg <;> clear hA a <;> intro a hA <;> (first | exact FA | replace hg := of_decide_eq_true hg | replace hg := of_decide_eq_false hg | skip)) | (refine QT0 ?_; clear hA a; intro a hA) | (first | (refine BT ?_; clear hA hH; rintro _ w ⟨bN, rfl, hH⟩ a hA) | (refine LT ?_; clear hA hH; rintro _ w ⟨oN, rfl, hH⟩ a hA) | (refine AT ?_; clear hA; rintro _ w ⟨oN, cN, rfl, hH2⟩ a hA; clear hH; have hH := (hH2 _ (by (repeat constructor))).tail; clear hH2) | (refine S0T ?_; clear hH; rintro _ w hH) )) | ((first | refine CT ?_ | (refine DT ?_ ?_ <;> intro hc <;> try (exfalso; omega))) <;> repeat' refine CT ?_) | (first | (refine DSK ?_; clear hA a; intro a hA) | (first | (refine DLT ?_; clear hA hH; rintro _ w ⟨oN, rfl, hH⟩; refine ⟨STT, ?_⟩; intro a hA) | (refine DAT ?_; clear hA; rintro _ w ⟨oN, cN, rfl, hH2⟩; clear hH; have hH := (hH2 _ (by (repeat constructor))).tail; clear hH2; refine ⟨STT, ?_⟩; intro a hA))) )
    (refine st_op hA rfl rfl (by decide) (op_call rfl rfl rfl (hflds)) ?_; clear hA; rintro _ w ⟨rfl, hk⟩ a hA)
    replace hH := (hH.keep hk).left
    clear hk hflds
    obtain ⟨bb, off, hoC⟩ := hq0.oC_some
    have hfin : Ob.fin ⟨at_, kd, (q.cs.drop (at_ + 1)).take s⟩ = at_ + 1 + s := by unfold Ob.fin; dsimp only; rw [ho0l]
    rw [hfin] at hA
    have hspF := sub_sp hq0 (at_ + 1 + s) (at_ + 1) s
    dsimp only at hspF hoC
    rw [hg0] at hH
    generalize hfs0 : (q.cs.drop (at_ + 1)).take s = fs0 at *
    clear hq0 hg0 hlay0 hfin
    repeat' (first | (first | (refine GT ?_ ?_ <;> intro hg <;> clear hA a <;> intro a hA <;> (first | exact FA | replace hg := of_decide_eq_true hg | replace hg := of_decide_eq_false hg | skip)) | (refine QT0 ?_; clear hA a; intro a hA) | (first | (refine BT ?_; clear hA hH; rintro _ w ⟨bN, rfl, hH⟩ a hA) | (refine LT ?_; clear hA hH; rintro _ w ⟨oN, rfl, hH⟩ a hA) | (refine AT ?_; clear hA; rintro _ w ⟨oN, cN, rfl, hH2⟩ a hA; clear hH; have hH := (hH2 _ (by (repeat constructor))).tail; clear hH2) | (refine S0T ?_; clear hH; rintro _ w hH) )) | ((first | refine CT ?_ | (refine DT ?_ ?_ <;> intro hc <;> try (exfalso; omega))) <;> repeat' refine CT ?_) | (first | (refine DSK ?_; clear hA a; intro a hA) | (first | (refine DLT ?_; clear hA hH; rintro _ w ⟨oN, rfl, hH⟩; refine ⟨STT, ?_⟩; intro a hA) | (refine DAT ?_; clear hA; rintro _ w ⟨oN, cN, rfl, hH2⟩; clear hH; have hH := (hH2 _ (by (repeat constructor))).tail; clear hH2; refine ⟨STT, ?_⟩; intro a hA))) )
    refine wp_lp (S := Nat × List Int × List Int) (fun σ a w => (σ.1 ≤ s ∧ σ.2.1.length = s ∧ (∀ j, j < σ.1 → σ.2.1[j]? = some 1) ∧ Rep N (A ++ (⟨at_, kd, σ.2.1⟩ : Ob) :: B) σ.2.2 (q.hs.set at_ ((kd : Int), (s : Int)))) ∧ HS w0 M (hpQ b N (cutR fr i at_ n s) ⟨q.oC, q.cC, q.oH, q.cH, q.oF, q.cF, σ.2.2, q.hs.set at_ ((kd : Int), (s : Int))⟩) w ∧ Sl 114 [(9, .int .i64 at_), (10, .slice (subO q.oC (at_ + 1 + s) (at_ + 1) 1) s s), (104, .int .i64 s), (105, .int .i64 σ.1)] a)
      (fun σ => s - σ.1) (0, fs0, q.cs) ⟨⟨Nat.zero_le _, ho0l, fun j hj => absurd hj (Nat.not_lt_zero _), hrep0⟩, hH, (hA.sub (by (repeat (first | exact trivial | refine ⟨rfl, ?_⟩))))⟩ ?_
    clear hA hH a
    rintro ⟨k, fs, cs⟩ a w ⟨⟨hks, hfl1, hone, hrep⟩, hH, hA⟩
    dsimp only at hks hfl1 hone hrep hH hA
    unfold hpQ at hH
    dsimp only at hH
    by_cases hlt : k < s
    · have hspF := hspF (by omega)
      have hsat : sat (subO q.oC (at_ + 1 + s) (at_ + 1) 1) (k * 1) = sat q.oC (at_ + 1 + k) := by rw [sat_sub hoC (by omega), Nat.mul_one]
      have hcl1 := hrep.cl
      repeat' (first | (first | (refine GT ?_ ?_ <;> intro hg <;> clear hA a <;> intro a hA <;> (first | exact FA | replace hg := of_decide_eq_true hg | replace hg := of_decide_eq_false hg | skip)) | (refine QT0 ?_; clear hA a; intro a hA) | (first | (refine BT ?_; clear hA hH; rintro _ w ⟨bN, rfl, hH⟩ a hA) | (refine LT ?_; clear hA hH; rintro _ w ⟨oN, rfl, hH⟩ a hA) | (refine AT ?_; clear hA; rintro _ w ⟨oN, cN, rfl, hH2⟩ a hA; clear hH; have hH := (hH2 _ (by (repeat constructor))).tail; clear hH2) | (refine S0T ?_; clear hH; rintro _ w hH) )) | ((first | refine CT ?_ | (refine DT ?_ ?_ <;> intro hc <;> try (exfalso; omega))) <;> repeat' refine CT ?_) | (first | (refine DSK ?_; clear hA a; intro a hA) | (first | (refine DLT ?_; clear hA hH; rintro _ w ⟨oN, rfl, hH⟩; refine ⟨STT, ?_⟩; intro a hA) | (refine DAT ?_; clear hA; rintro _ w ⟨oN, cN, rfl, hH2⟩; clear hH; have hH := (hH2 _ (by (repeat constructor))).tail; clear hH2; refine ⟨STT, ?_⟩; intro a hA))) )
      (refine st_op hA rfl rfl (by decide) (op_call rfl rfl rfl (of_spec _)) ?_; clear hA; rintro _ w ⟨rfl, hk⟩ a hA)
      replace hH := hH.keep hk
      clear hk
      repeat' (first | (first | (refine GT ?_ ?_ <;> intro hg <;> clear hA a <;> intro a hA <;> (first | exact FA | replace hg := of_decide_eq_true hg | replace hg := of_decide_eq_false hg | skip)) | (refine QT0 ?_; clear hA a; intro a hA) | (first | (refine BT ?_; clear hA hH; rintro _ w ⟨bN, rfl, hH⟩ a hA) | (refine LT ?_; clear hA hH; rintro _ w ⟨oN, rfl, hH⟩ a hA) | (refine AT ?_; clear hA; rintro _ w ⟨oN, cN, rfl, hH2⟩ a hA; clear hH; have hH := (hH2 _ (by (repeat constructor))).tail; clear hH2) | (refine S0T ?_; clear hH; rintro _ w hH) | (apply st_op0 hA rfl rfl; apply op_set1 (enc := encW) (y0 := 1) (j := at_ + 1 + k); rw [← hsat]; rfl; rfl; rfl; rfl; exact encW_len; exact hH; (repeat constructor); (repeat omega); clear hH; rintro _ w hH))) | ((first | refine CT ?_ | (refine DT ?_ ?_ <;> intro hc <;> try (exfalso; omega))) <;> repeat' refine CT ?_) | (first | (refine DSK ?_; clear hA a; intro a hA) | (first | (refine DLT ?_; clear hA hH; rintro _ w ⟨oN, rfl, hH⟩; refine ⟨STT, ?_⟩; intro a hA) | (refine DAT ?_; clear hA; rintro _ w ⟨oN, cN, rfl, hH2⟩; clear hH; have hH := (hH2 _ (by (repeat constructor))).tail; clear hH2; refine ⟨STT, ?_⟩; intro a hA))) )
      refine ⟨(k + 1, fs.set k 1, cs.set (at_ + 1 + k) 1), ⟨⟨hlt, by dsimp only; rw [List.length_set]; exact hfl1, fun j hj => ?_, ?_⟩, hH, (hA.sub (by (repeat (first | exact trivial | refine ⟨rfl, ?_⟩))))⟩, by dsimp only; omega⟩
      · dsimp only at hj ⊢
        rw [List.getElem?_set]
        split
        · rw [if_pos (by omega)]
        · exact hone j (by omega)
      · have h20 := rep_set hrep (List.mem_append_right A (List.mem_cons_self ..)) (j := k) (x := 1) (by dsimp only; omega)
        rw [setL_mid hrep.lay] at h20
        exact h20
    have hfs1 : fs = List.replicate s 1 := by
      apply List.ext_getElem?
      intro j
      rw [List.getElem?_replicate]
      split
      · exact hone j (by omega)
      · exact List.getElem?_eq_none (by omega)
    subst hfs1
    repeat' (first | (first | (refine GT ?_ ?_ <;> intro hg <;> clear hA a <;> intro a hA <;> (first | exact FA | replace hg := of_decide_eq_true hg | replace hg := of_decide_eq_false hg | skip)) | (refine QT0 ?_; clear hA a; intro a hA) | (first | (refine BT ?_; clear hA hH; rintro _ w ⟨bN, rfl, hH⟩ a hA) | (refine LT ?_; clear hA hH; rintro _ w ⟨oN, rfl, hH⟩ a hA) | (refine AT ?_; clear hA; rintro _ w ⟨oN, cN, rfl, hH2⟩ a hA; clear hH; have hH := (hH2 _ (by (repeat constructor))).tail; clear hH2) | (refine S0T ?_; clear hH; rintro _ w hH) )) | ((first | refine CT ?_ | (refine DT ?_ ?_ <;> intro hc <;> try (exfalso; omega))) <;> repeat' refine CT ?_) | (first | (refine DSK ?_; clear hA a; intro a hA) | (first | (refine DLT ?_; clear hA hH; rintro _ w ⟨oN, rfl, hH⟩; refine ⟨STT, ?_⟩; intro a hA) | (refine DAT ?_; clear hA; rintro _ w ⟨oN, cN, rfl, hH2⟩; clear hH; have hH := (hH2 _ (by (repeat constructor))).tail; clear hH2; refine ⟨STT, ?_⟩; intro a hA))) )
    refine rt2 (.inl rfl) rfl hA rfl rfl ⟨rfl, ?_⟩
    refine hp_shut ⟨q.oC, q.cC, q.oH, q.cH, q.oF, q.cF, cs, q.hs.set at_ ((kd : Int), (s : Int))⟩ hrep ?_
    show HS w0 M (hpQ b N (gaps N 1 (A ++ newO kd s at_ :: B)) _ ++ []) w
    rw [h6, List.append_nil]
    exact hH
end Go.Proofs.Ytdfhajdejlhamaa
namespace Go.Proofs.Ytdfhajdejlhamaa
open Go Go.Fw
set_option linter.unusedVariables false
theorem gaps_rising {N p : Nat} {L : List Ob} (h : Lay N p L) (hN : N ≤ 65536) : Rising (gaps N p L) := by
  refine ⟨fun r hr => ?_, fun k k' r r' hkk hr hr' => ?_⟩
  · have := gaps_mem h r hr
    omega
  · have h1 := gaps_pair h
    have hk := (List.getElem?_eq_some_iff.1 hr)
    have hk' := (List.getElem?_eq_some_iff.1 hr')
    have := List.pairwise_iff_getElem.1 h1 k k' hk.1 hk'.1 hkk
    rw [hk.2, hk'.2] at this
    exact this
theorem pos_mid {G1 G2 : List (Int × Int)} {t : Int} {i : Nat} (h1 : ∀ r ∈ G1, r.1 < t) (h2 : ∀ r ∈ G2, t ≤ r.1) (h : Pos (G1 ++ G2) t i) : i = G1.length := by
  obtain ⟨hl, ha, hb⟩ := h
  rcases Nat.lt_trichotomy i G1.length with hi | hi | hi
  · have e : (G1 ++ G2)[i]? = some (G1[i]) := by rw [List.getElem?_append_left hi, List.getElem?_eq_getElem hi]
    have := hb i _ (Nat.le_refl _) e
    have := h1 _ (List.getElem_mem hi)
    omega
  · exact hi
  · rw [List.length_append] at hl
    have hG : 0 < G2.length := by omega
    have e : (G1 ++ G2)[G1.length]? = some (G2[0]) := by rw [List.getElem?_append_right (Nat.le_refl _), Nat.sub_self, List.getElem?_eq_getElem hG]
    have := ha _ _ hi e
    have := h2 _ (List.getElem_mem hG)
    omega
set_option maxRecDepth 10000 attribute [local irreducible] Code.wp wpList Calls Ex Op1 sat bat blk cb own Go.Fw.mp Go.Fw.mpO Go.Fw.mpI Go.Fw.mpE Go.Fw.itr HS Rd Ret wkD Hp Cl Cls Exit.then Exit.inBlock Exit.noGoto bodyPost Go.Fw.flat wk2 Go.Fw.all Go.Fw.owns wpOp
attribute [local irreducible] hdA gaps isA

set_option maxHeartbeats 4000000 in
theorem free_spec (w0 : World) (M : Nat → Prop) (b N : Nat) (L : List Ob) (z : Int) (hH : HS w0 M [hpI b N L] w0) :
    Ret Try.prog 81 #[.pointer (some (bat b 0)), .int .i64 z] w0 (fun v w => v = .int .i64 (freeA L z).1 ∧ HS w0 M [hpI b N (freeA L z).2] w) := by
  (refine enter (N := 137) Try.func81 rfl Try.ntmps81 rfl ?_; intro a hA; dsimp only [sl0, Nat.reduceAdd] at hA)
  repeat' (first | (first | (refine GT ?_ ?_ <;> intro hg <;> clear hA a <;> intro a hA <;> (first | exact FA | replace hg := of_decide_eq_true hg | replace hg := of_decide_eq_false hg | skip)) | (refine QT0 ?_; clear hA a; intro a hA) | (first | (refine BT ?_; clear hA hH; rintro _ w ⟨bN, rfl, hH⟩ a hA) | (refine LT ?_; clear hA hH; rintro _ w ⟨oN, rfl, hH⟩ a hA) | (refine AT ?_; clear hA; rintro _ w ⟨oN, cN, rfl, hH2⟩ a hA; clear hH; have hH := (hH2 _ (by (repeat constructor))).tail; clear hH2) | (refine S0T ?_; clear hH; rintro _ w hH) )) | ((first | refine CT ?_ | (refine DT ?_ ?_ <;> intro hc <;> try (exfalso; omega))) <;> repeat' refine CT ?_) | (first | (refine DSK ?_; clear hA a; intro a hA) | (first | (refine DLT ?_; clear hA hH; rintro _ w ⟨oN, rfl, hH⟩; refine ⟨STT, ?_⟩; intro a hA) | (refine DAT ?_; clear hA; rintro _ w ⟨oN, cN, rfl, hH2⟩; clear hH; have hH := (hH2 _ (by (repeat constructor))).tail; clear hH2; refine ⟨STT, ?_⟩; intro a hA))) )
  (refine st_op hA rfl rfl (by decide) (op_call rfl rfl rfl (is_spec _ b N L z (hp_read hH))) ?_; clear hA; rintro _ w ⟨rfl, hk⟩ a hA)
  replace hH := hH.keep hk
  clear hk
  cases ho : objA L z with
  | none =>
    have hfA : freeA L z = (7, L) := by simp only [freeA, ho]
    rw [objA_none ho] at hA
    rw [hfA]
    repeat' (first | (first | (refine GT ?_ ?_ <;> intro hg <;> clear hA a <;> intro a hA <;> (first | exact FA | replace hg := of_decide_eq_true hg | replace hg := of_decide_eq_false hg | skip)) | (refine QT0 ?_; clear hA a; intro a hA) | (first | (refine BT ?_; clear hA hH; rintro _ w ⟨bN, rfl, hH⟩ a hA) | (refine LT ?_; clear hA hH; rintro _ w ⟨oN, rfl, hH⟩ a hA) | (refine AT ?_; clear hA; rintro _ w ⟨oN, cN, rfl, hH2⟩ a hA; clear hH; have hH := (hH2 _ (by (repeat constructor))).tail; clear hH2) | (refine S0T ?_; clear hH; rintro _ w hH) )) | ((first | refine CT ?_ | (refine DT ?_ ?_ <;> intro hc <;> try (exfalso; omega))) <;> repeat' refine CT ?_) | (first | (refine DSK ?_; clear hA a; intro a hA) | (first | (refine DLT ?_; clear hA hH; rintro _ w ⟨oN, rfl, hH⟩; refine ⟨STT, ?_⟩; intro a hA) | (refine DAT ?_; clear hA; rintro _ w ⟨oN, cN, rfl, hH2⟩; clear hH; have hH := (hH2 _ (by (repeat constructor))).tail; clear hH2; refine ⟨STT, ?_⟩; intro a hA))) )
    exact rt1 (.inl rfl) rfl hA rfl ⟨rfl, hH⟩
  | some o =>
  obtain ⟨hx, hxz⟩ := objA_some ho
  rw [objA_is ho] at hA
  subst hxz
  obtain ⟨A, B, rfl⟩ := List.append_of_mem hx
  obtain ⟨q, hp, hH2⟩ := hp_open hH
  clear hH
  have hH := hH2
  clear hH2
  have hlay := hp.lay
  have hn2 := hp.n2
  have hhl := hp.hl
  have hkd := (hp.kd o hx).2
  have hfrl := hp.frl
  have hfA : freeA (A ++ o :: B) (o.a : Int) = (0, A ++ B) := by simp only [freeA, ho]; rw [filter_free hlay]
  rw [hfA]
  obtain ⟨hg1, hg2, hl3, hle1, hle2, hle3⟩ := free_law hlay
  have hL := left_mem hlay
  have hR := right_mem hlay
  have hT := gtl_mem hlay
  have hI := gin_mem hlay.split.1
  have hris := gaps_rising hlay hn2.2
  have hfin : o.fin = o.a + 1 + o.fs.length := rfl
  have ho1 := (hlay.mem o hx).1
  have hhd : q.hs[o.a]? = some ((o.kind : Int), (o.fs.length : Int)) := by rw [hp.hd o.a (by omega), hdA_at hlay hx]
  have hrep := rep_free hp
  unfold hpQ at hH
  simp only [List.append_nil] at hH
  rw [hg1] at hH hris hfrl
  generalize hG1 : gin 1 A ++ gap1 (endA 1 A) o.a = G1 at *
  generalize hG2 : gap1 o.fin (nxt N B) ++ gtl N B = G2 at *
  have hrl : ∀ (m : Int) (vs : List Value), vs = [.int .i64 (o.a : Int), .int .i64 m] → True := fun _ _ _ => trivial
  repeat' (first | (first | (refine GT ?_ ?_ <;> intro hg <;> clear hA a <;> intro a hA <;> (first | exact FA | replace hg := of_decide_eq_true hg | replace hg := of_decide_eq_false hg | skip)) | ((first | apply st_ex hA hH rfl rfl (by decide) | apply dr_ex hA rfl rfl rfl (by decide) | apply dr_exp hA rfl rfl rfl (by decide) | apply dr_ex3 hA hH rfl rfl rfl (by decide)); (first | (apply ex_load; rfl; exact cl_own (by exact MEMT) (encP1 hhd)) | (apply ex_build_p #[.int .i64 0, .int .i64 0]; rfl; (repeat (first | (intro _ h; exact absurd h (List.not_mem_nil)) | (refine List.forall_mem_cons.2 ⟨one_cell_of _ _, ?_⟩))); rfl)); clear hA a; intro a hA) | (refine QT0 ?_; clear hA a; intro a hA) | (first | (refine BT ?_; clear hA hH; rintro _ w ⟨bN, rfl, hH⟩ a hA) | (refine LT ?_; clear hA hH; rintro _ w ⟨oN, rfl, hH⟩ a hA) | (refine AT ?_; clear hA; rintro _ w ⟨oN, cN, rfl, hH2⟩ a hA; clear hH; have hH := (hH2 _ (by (repeat constructor))).tail; clear hH2) | (refine S0T ?_; clear hH; rintro _ w hH) | (apply st_op0 hA rfl rfl; apply op_setP (i := o.a) (m := 0) (r := 0); rfl; rfl; exact hH; (repeat constructor); omega; clear hH; rintro _ w hH) | (apply st_op0 hA rfl rfl; apply op_store_agg (vs := [.int .i64 (o.a : Int), .int .i64 ((o.fs.length : Int) + 1)]); rfl; rfl; exact hH; (repeat constructor); (repeat rfl); clear hH; rintro _ w hH))) | ((first | refine CT ?_ | (refine DT ?_ ?_ <;> intro hc <;> try (exfalso; omega))) <;> repeat' refine CT ?_) | (first | (refine DSK ?_; clear hA a; intro a hA) | (first | (refine DLT ?_; clear hA hH; rintro _ w ⟨oN, rfl, hH⟩; refine ⟨STT, ?_⟩; intro a hA) | (refine DAT ?_; clear hA; rintro _ w ⟨oN, cN, rfl, hH2⟩; clear hH; have hH := (hH2 _ (by (repeat constructor))).tail; clear hH2; refine ⟨STT, ?_⟩; intro a hA))) )
  clear hrl
  generalize hbR : bN = bR at *
  clear hbR bN
  (refine wp_draw_HS [(0, 1), (1, 1), (2, 1), (3, 1), (4, 1), (5, 1), (6, 0), (7, 2), (8, 2), (9, 2), (10, 2), (11, 2)] mixed (by decide +kernel) hH ?_; replace hH := hH.drew)
  repeat' (first | (first | (refine GT ?_ ?_ <;> intro hg <;> clear hA a <;> intro a hA <;> (first | exact FA | replace hg := of_decide_eq_true hg | replace hg := of_decide_eq_false hg | skip)) | (refine QT0 ?_; clear hA a; intro a hA) | (first | (refine BT ?_; clear hA hH; rintro _ w ⟨bN, rfl, hH⟩ a hA) | (refine LT ?_; clear hA hH; rintro _ w ⟨oN, rfl, hH⟩ a hA) | (refine AT ?_; clear hA; rintro _ w ⟨oN, cN, rfl, hH2⟩ a hA; clear hH; have hH := (hH2 _ (by (repeat constructor))).tail; clear hH2) | (refine S0T ?_; clear hH; rintro _ w hH) )) | ((first | refine CT ?_ | (refine DT ?_ ?_ <;> intro hc <;> try (exfalso; omega))) <;> repeat' refine CT ?_) | (first | (refine DSK ?_; clear hA a; intro a hA) | (first | (refine DLT ?_; clear hA hH; rintro _ w ⟨oN, rfl, hH⟩; refine ⟨STT, ?_⟩; intro a hA) | (refine DAT ?_; clear hA; rintro _ w ⟨oN, cN, rfl, hH2⟩; clear hH; have hH := (hH2 _ (by (repeat constructor))).tail; clear hH2; refine ⟨STT, ?_⟩; intro a hA))) )
  refine dr_op hA rfl rfl rfl (by decide) (op_call rfl rfl rfl (search_spec _ q.oF q.cF (G1 ++ G2) (o.a : Int) (hH.own_rd (by exact MEMT)) (by omega) hris (by omega))) ?_
  clear hA
  rintro _ w ⟨⟨i, fnd, rfl, hpos⟩, hk⟩
  replace hH := hH.keep hk
  clear hk
  refine ⟨hH, ?_⟩
  intro a hA
  obtain rfl := pos_mid hL (fun r hr => by have := hR r hr; omega) hpos
  clear hpos
  repeat' (first | (first | (refine GT ?_ ?_ <;> intro hg <;> clear hA a <;> intro a hA <;> (first | exact FA | replace hg := of_decide_eq_true hg | replace hg := of_decide_eq_false hg | skip)) | (refine QT0 ?_; clear hA a; intro a hA) | (first | (refine BT ?_; clear hA hH; rintro _ w ⟨bN, rfl, hH⟩ a hA) | (refine LT ?_; clear hA hH; rintro _ w ⟨oN, rfl, hH⟩ a hA) | (refine AT ?_; clear hA; rintro _ w ⟨oN, cN, rfl, hH2⟩ a hA; clear hH; have hH := (hH2 _ (by (repeat constructor))).tail; clear hH2) | (refine S0T ?_; clear hH; rintro _ w hH) )) | ((first | refine CT ?_ | (refine DT ?_ ?_ <;> intro hc <;> try (exfalso; omega))) <;> repeat' refine CT ?_) | (first | (refine DSK ?_; clear hA a; intro a hA) | (first | (refine DLT ?_; clear hA hH; rintro _ w ⟨oN, rfl, hH⟩; refine ⟨STT, ?_⟩; intro a hA) | (refine DAT ?_; clear hA; rintro _ w ⟨oN, cN, rfl, hH2⟩; clear hH; have hH := (hH2 _ (by (repeat constructor))).tail; clear hH2; refine ⟨STT, ?_⟩; intro a hA))) )
  generalize hTl : gtl N B = Tl at *
  have hfrl2 : (G1 ++ Tl).length ≤ 65536 := by
    rw [← hG2] at hfrl
    rw [List.length_append, List.length_append] at hfrl
    rw [List.length_append]
    omega
  refine wp_join3 (fun a w => ∃ oF cF, HS w0 M [cb bR 104 [.int .i64 (o.a : Int), .int .i64 ((nxt N B - o.a : Nat) : Int)], cb b 107 [.slice q.oC N q.cC, .slice q.oH N q.cH, .slice oF (G1 ++ Tl).length cF], own 33 1 q.oC N q.cC (flat encW q.cs), own 113 2 q.oH N q.cH (flat encP (q.hs.set o.a (0, 0))), own 104 2 oF (G1 ++ Tl).length cF (flat encP (G1 ++ Tl))] w ∧ Sl 137 [(0, .pointer (some (bat b 0))), (4, .int .i64 0), (5, .pointer (some (bat bR 0))), (6, .int .i64 (G1.length : Int))] a) ?_ ?_
  rotate_left
  · clear hA hH a
    rintro a w ⟨oF, cF, hH, hA⟩
    replace hH := hH.perm (H' := [cb bR 104 [.int .i64 (o.a : Int), .int .i64 ((nxt N B - o.a : Nat) : Int)], cb b 107 [.slice q.oC N q.cC, .slice q.oH N q.cH, .slice oF (G1 ++ Tl).length cF], own 33 1 q.oC N q.cC (flat encW q.cs), own 113 2 q.oH N q.cH (flat encP (q.hs.set o.a (0, 0))), own 104 2 oF (G1 ++ Tl).length cF (flat encP (G1 ++ Tl))]) (by (repeat (first | exact List.Perm.nil | refine perm_pick 0 rfl ?_ | refine perm_pick 1 rfl ?_ | refine perm_pick 2 rfl ?_ | refine perm_pick 3 rfl ?_ | refine perm_pick 4 rfl ?_ | refine perm_pick 5 rfl ?_ | refine perm_pick 6 rfl ?_ | refine perm_pick 7 rfl ?_ | refine perm_pick 8 rfl ?_ | refine perm_pick 9 rfl ?_ | refine perm_pick 10 rfl ?_ | refine perm_pick 11 rfl ?_)))
    repeat apply wp_seq
    refine wp_join3 (fun a w => ¬ endA 1 A < o.a ∧ HS w0 M [cb bR 104 [.int .i64 (o.a : Int), .int .i64 ((nxt N B - o.a : Nat) : Int)], cb b 107 [.slice q.oC N q.cC, .slice q.oH N q.cH, .slice oF (G1 ++ Tl).length cF], own 33 1 q.oC N q.cC (flat encW q.cs), own 113 2 q.oH N q.cH (flat encP (q.hs.set o.a (0, 0))), own 104 2 oF (G1 ++ Tl).length cF (flat encP (G1 ++ Tl))] w ∧ Sl 137 [(0, .pointer (some (bat b 0))), (5, .pointer (some (bat bR 0))), (6, .int .i64 (G1.length : Int))] a) ?_ ?_
    · by_cases he : endA 1 A < o.a
      · have hG1e : G1 = gin 1 A ++ [(((endA 1 A : Nat) : Int), ((o.a - endA 1 A : Nat) : Int))] := by rw [← hG1, gap1_pos he]
        have hk1 : G1.length = (gin 1 A).length + 1 := by rw [hG1e, List.length_append]; rfl
        have hgk : (G1 ++ Tl)[(gin 1 A).length]? = some (((endA 1 A : Nat) : Int), ((o.a - endA 1 A : Nat) : Int)) := by
          rw [hG1e, List.append_assoc, List.getElem?_append_right (Nat.le_refl _), Nat.sub_self]
          rfl
        have hkl : (gin 1 A).length < (G1 ++ Tl).length := (List.getElem?_eq_some_iff.1 hgk).1
        have hnew : (G1 ++ Tl).set (gin 1 A).length (((endA 1 A : Nat) : Int), ((o.a - endA 1 A : Nat) : Int) + ((nxt N B - o.a : Nat) : Int)) = gaps N 1 (A ++ B) := by
          rw [hg2, hG1e, List.append_assoc, List.set_append, if_neg (Nat.lt_irrefl _), Nat.sub_self]
          rw [show ((o.a - endA 1 A : Nat) : Int) + ((nxt N B - o.a : Nat) : Int) = ((nxt N B - endA 1 A : Nat) : Int) by omega]
          rfl
        have hnl : (G1 ++ Tl).length = (gaps N 1 (A ++ B)).length := by rw [← hnew, List.length_set]
        generalize hkk : (gin 1 A).length = k at *
        rw [hk1] at hA
        have hsub : ((k + 1 : Nat) : Int) - 1 = (k : Int) := by omega
        (refine wp_draw_HS [(0, 1), (1, 1), (2, 1), (3, 1), (4, 1), (5, 1), (6, 1), (7, 1), (8, 1), (9, 1), (10, 1), (11, 1), (12, 1), (13, 1), (14, 1), (15, 1), (16, 1), (17, 1), (18, 1), (19, 1), (20, 1), (21, 1), (22, 1), (23, 1), (24, 1), (25, 1)] mixed (by decide +kernel) hH ?_; replace hH := hH.drew)
        repeat' (first | (first | (refine GT ?_ ?_ <;> intro hg <;> clear hA a <;> intro a hA <;> (first | exact FA | replace hg := of_decide_eq_true hg | replace hg := of_decide_eq_false hg | skip)) | ((first | apply st_ex hA hH rfl rfl (by decide) | apply dr_ex hA rfl rfl rfl (by decide) | apply dr_exp hA rfl rfl rfl (by decide) | apply dr_ex3 hA hH rfl rfl rfl (by decide)); (first | (apply ex_load; rfl; exact cl_own (by exact MEMT) (encP0 hgk)) | (apply ex_load; rfl; exact cl_own (by exact MEMT) (encP1 hgk))); clear hA a; intro a hA) | (refine QT0 ?_; clear hA a; intro a hA) | (first | (refine BT ?_; clear hA hH; rintro _ w ⟨bN, rfl, hH⟩ a hA) | (refine LT ?_; clear hA hH; rintro _ w ⟨oN, rfl, hH⟩ a hA) | (refine AT ?_; clear hA; rintro _ w ⟨oN, cN, rfl, hH2⟩ a hA; clear hH; have hH := (hH2 _ (by (repeat constructor))).tail; clear hH2) | (refine S0T ?_; clear hH; rintro _ w hH) )) | ((first | refine CT ?_ | (refine DT ?_ ?_ <;> intro hc <;> try (exfalso; omega))) <;> repeat' refine CT ?_) | (first | (refine DSK ?_; clear hA a; intro a hA) | (first | (refine DLT ?_; clear hA hH; rintro _ w ⟨oN, rfl, hH⟩; refine ⟨STT, ?_⟩; intro a hA) | (refine DAT ?_; clear hA; rintro _ w ⟨oN, cN, rfl, hH2⟩; clear hH; have hH := (hH2 _ (by (repeat constructor))).tail; clear hH2; refine ⟨STT, ?_⟩; intro a hA))) )
        (refine wp_draw2_HS [(0, 1), (1, 1), (2, 1), (3, 1), (4, 1), (5, 1), (6, 1), (7, 1), (8, 1), (9, 1), (10, 1), (11, 1), (12, 2), (13, 2)] [14] mixed (by decide +kernel) hH ?_; replace hH := hH.drew)
        repeat' (first | (first | (refine GT ?_ ?_ <;> intro hg <;> clear hA a <;> intro a hA <;> (first | exact FA | replace hg := of_decide_eq_true hg | replace hg := of_decide_eq_false hg | skip)) | ((first | apply st_ex hA hH rfl rfl (by decide) | apply dr_ex hA rfl rfl rfl (by decide) | apply dr_exp hA rfl rfl rfl (by decide) | apply dr_ex3 hA hH rfl rfl rfl (by decide)); (first | (apply ex_load; rfl; exact cl_own (by exact MEMT) (encP1 hgk))); clear hA a; intro a hA) | (refine QT0 ?_; clear hA a; intro a hA) | (first | (refine BT ?_; clear hA hH; rintro _ w ⟨bN, rfl, hH⟩ a hA) | (refine LT ?_; clear hA hH; rintro _ w ⟨oN, rfl, hH⟩ a hA) | (refine AT ?_; clear hA; rintro _ w ⟨oN, cN, rfl, hH2⟩ a hA; clear hH; have hH := (hH2 _ (by (repeat constructor))).tail; clear hH2) | (refine S0T ?_; clear hH; rintro _ w hH) | (apply dr_op03 hA rfl rfl rfl; apply op_setP1; rfl; rfl; exact hH; exact hgk; (repeat constructor); clear hH; rintro _ w hH))) | ((first | refine CT ?_ | (refine DT ?_ ?_ <;> intro hc <;> try (exfalso; omega))) <;> repeat' refine CT ?_) | (first | (refine DSK ?_; clear hA a; intro a hA) | (first | (refine DLT ?_; clear hA hH; rintro _ w ⟨oN, rfl, hH⟩; refine ⟨STT, ?_⟩; intro a hA) | (refine DAT ?_; clear hA; rintro _ w ⟨oN, cN, rfl, hH2⟩; clear hH; have hH := (hH2 _ (by (repeat constructor))).tail; clear hH2; refine ⟨STT, ?_⟩; intro a hA))) )
        rw [hnew, hnl] at hH
        refine rt1 (.inl rfl) rfl hA rfl ⟨rfl, hp_shut ⟨q.oC, q.cC, q.oH, q.cH, oF, cF, q.cs, q.hs.set o.a (0, 0)⟩ hrep ?_⟩
        unfold hpQ
        exact hH.tail
      · have hG1e : G1 = gin 1 A := by rw [← hG1, gap1_nil he, List.append_nil]
        by_cases h0 : G1.length = 0
        · (refine wp_draw_HS [(0, 1), (1, 1), (2, 1), (3, 1), (4, 1), (5, 1), (6, 1), (7, 1), (8, 1), (9, 1), (10, 1), (11, 1), (12, 1), (13, 1), (14, 1), (15, 1), (16, 1), (17, 1), (18, 1), (19, 1), (20, 1), (21, 1), (22, 1), (23, 1), (24, 1), (25, 1)] mixed (by decide +kernel) hH ?_; replace hH := hH.drew)
          repeat' (first | (first | (refine GT ?_ ?_ <;> intro hg <;> clear hA a <;> intro a hA <;> (first | exact FA | replace hg := of_decide_eq_true hg | replace hg := of_decide_eq_false hg | skip)) | (refine QT0 ?_; clear hA a; intro a hA) | (first | (refine BT ?_; clear hA hH; rintro _ w ⟨bN, rfl, hH⟩ a hA) | (refine LT ?_; clear hA hH; rintro _ w ⟨oN, rfl, hH⟩ a hA) | (refine AT ?_; clear hA; rintro _ w ⟨oN, cN, rfl, hH2⟩ a hA; clear hH; have hH := (hH2 _ (by (repeat constructor))).tail; clear hH2) | (refine S0T ?_; clear hH; rintro _ w hH) )) | ((first | refine CT ?_ | (refine DT ?_ ?_ <;> intro hc <;> try (exfalso; omega))) <;> repeat' refine CT ?_) | (first | (refine DSK ?_; clear hA a; intro a hA) | (first | (refine DLT ?_; clear hA hH; rintro _ w ⟨oN, rfl, hH⟩; refine ⟨STT, ?_⟩; intro a hA) | (refine DAT ?_; clear hA; rintro _ w ⟨oN, cN, rfl, hH2⟩; clear hH; have hH := (hH2 _ (by (repeat constructor))).tail; clear hH2; refine ⟨STT, ?_⟩; intro a hA))) )
          exact ⟨he, hH, (hA.sub (by (repeat (first | exact trivial | refine ⟨rfl, ?_⟩))))⟩
        · obtain ⟨k, hk1⟩ : ∃ k, G1.length = k + 1 := ⟨G1.length - 1, by omega⟩
          obtain ⟨⟨ra, rn⟩, hr⟩ : ∃ x, G1[k]? = some x := ⟨_, List.getElem?_eq_getElem (by omega)⟩
          have hgk : (G1 ++ Tl)[k]? = some (ra, rn) := by rw [List.getElem?_append_left (by omega)]; exact hr
          have hkl : k < (G1 ++ Tl).length := (List.getElem?_eq_some_iff.1 hgk).1
          have hrm := hI (ra, rn) (by rw [← hG1e]; exact List.mem_of_getElem? hr)
          dsimp only at hrm
          rw [hk1] at hA
          (refine wp_draw_HS [(0, 1), (1, 1), (2, 1), (3, 1), (4, 1), (5, 1), (6, 1), (7, 1), (8, 1), (9, 1), (10, 1), (11, 1), (12, 1), (13, 1), (14, 1), (15, 1), (16, 1), (17, 1), (18, 1), (19, 1), (20, 1), (21, 1), (22, 1), (23, 1), (24, 1), (25, 1)] mixed (by decide +kernel) hH ?_; replace hH := hH.drew)
          repeat' (first | (first | (refine GT ?_ ?_ <;> intro hg <;> clear hA a <;> intro a hA <;> (first | exact FA | replace hg := of_decide_eq_true hg | replace hg := of_decide_eq_false hg | skip)) | ((first | apply st_ex hA hH rfl rfl (by decide) | apply dr_ex hA rfl rfl rfl (by decide) | apply dr_exp hA rfl rfl rfl (by decide) | apply dr_ex3 hA hH rfl rfl rfl (by decide)); (first | (apply ex_load; rfl; exact cl_own (by exact MEMT) (encP0 hgk)) | (apply ex_load; rfl; exact cl_own (by exact MEMT) (encP1 hgk))); clear hA a; intro a hA) | (refine QT0 ?_; clear hA a; intro a hA) | (first | (refine BT ?_; clear hA hH; rintro _ w ⟨bN, rfl, hH⟩ a hA) | (refine LT ?_; clear hA hH; rintro _ w ⟨oN, rfl, hH⟩ a hA) | (refine AT ?_; clear hA; rintro _ w ⟨oN, cN, rfl, hH2⟩ a hA; clear hH; have hH := (hH2 _ (by (repeat constructor))).tail; clear hH2) | (refine S0T ?_; clear hH; rintro _ w hH) )) | ((first | refine CT ?_ | (refine DT ?_ ?_ <;> intro hc <;> try (exfalso; omega))) <;> repeat' refine CT ?_) | (first | (refine DSK ?_; clear hA a; intro a hA) | (first | (refine DLT ?_; clear hA hH; rintro _ w ⟨oN, rfl, hH⟩; refine ⟨STT, ?_⟩; intro a hA) | (refine DAT ?_; clear hA; rintro _ w ⟨oN, cN, rfl, hH2⟩; clear hH; have hH := (hH2 _ (by (repeat constructor))).tail; clear hH2; refine ⟨STT, ?_⟩; intro a hA))) )
          rw [← hk1] at hA
          exact ⟨he, hH, (hA.sub (by (repeat (first | exact trivial | refine ⟨rfl, ?_⟩))))⟩
    clear hA hH a
    rintro a w ⟨he, hH, hA⟩
    have hG1e : G1 = gin 1 A := by rw [← hG1, gap1_nil he, List.append_nil]
    repeat apply wp_seq
    (refine wp_draw2_HS [(0, 2), (1, 2), (2, 2), (3, 2), (4, 1), (5, 2), (6, 1), (7, 0)] [8, 9, 10, 11] mixed (by decide +kernel) hH ?_; replace hH := hH.drew)
    repeat' (first | (first | (refine GT ?_ ?_ <;> intro hg <;> clear hA a <;> intro a hA <;> (first | exact FA | replace hg := of_decide_eq_true hg | replace hg := of_decide_eq_false hg | skip)) | (refine QT0 ?_; clear hA a; intro a hA) | (first | (refine BT ?_; clear hA hH; rintro _ w ⟨bN, rfl, hH⟩ a hA) | (refine LT ?_; clear hA hH; rintro _ w ⟨oN, rfl, hH⟩ a hA) | (refine AT ?_; clear hA; rintro _ w ⟨oN, cN, rfl, hH2⟩ a hA; clear hH; have hH := (hH2 _ (by (repeat constructor))).tail; clear hH2) | (refine S0T ?_; clear hH; rintro _ w hH) )) | ((first | refine CT ?_ | (refine DT ?_ ?_ <;> intro hc <;> try (exfalso; omega))) <;> repeat' refine CT ?_) | (first | (refine DSK ?_; clear hA a; intro a hA) | (first | (refine DLT ?_; clear hA hH; rintro _ w ⟨oN, rfl, hH⟩; refine ⟨STT, ?_⟩; intro a hA) | (refine DAT ?_; clear hA; rintro _ w ⟨oN, cN, rfl, hH2⟩; clear hH; have hH := (hH2 _ (by (repeat constructor))).tail; clear hH2; refine ⟨STT, ?_⟩; intro a hA))) | (apply dr_op hA rfl rfl rfl (by decide); apply op_sliceLit; rfl; rfl; exact CATST; rfl; rfl; rfl; exact hH; clear hA hH; rintro _ w ⟨oN, rfl, hH⟩; refine ⟨hH.tail, ?_⟩; intro a hA))
    have hP := hH.perm (H' := [own 104 2 oF (G1 ++ Tl).length cF (flat encP (G1 ++ Tl)), own 104 2 oN 1 1 (encP ((o.a : Int), ((nxt N B - o.a : Nat) : Int)))] ++ [cb bR 104 [.int .i64 (o.a : Int), .int .i64 ((nxt N B - o.a : Nat) : Int)], cb b 107 [.slice q.oC N q.cC, .slice q.oH N q.cH, .slice oF (G1 ++ Tl).length cF], own 33 1 q.oC N q.cC (flat encW q.cs), own 113 2 q.oH N q.cH (flat encP (q.hs.set o.a (0, 0)))]) (by simp only [List.cons_append, List.nil_append]; (repeat (first | exact List.Perm.nil | refine perm_pick 0 rfl ?_ | refine perm_pick 1 rfl ?_ | refine perm_pick 2 rfl ?_ | refine perm_pick 3 rfl ?_ | refine perm_pick 4 rfl ?_ | refine perm_pick 5 rfl ?_ | refine perm_pick 6 rfl ?_ | refine perm_pick 7 rfl ?_ | refine perm_pick 8 rfl ?_ | refine perm_pick 9 rfl ?_ | refine perm_pick 10 rfl ?_ | refine perm_pick 11 rfl ?_)))
    obtain ⟨Mc, hf, -, hback2⟩ := hP.frame
    have hins := insert_spec _ Mc oF oN cF G1.length (G1 ++ Tl) _ hf (by rw [List.length_append]; omega) (by omega)
    (refine dr_op3 hA rfl rfl rfl (by decide) (op_call rfl rfl rfl hins) ?_; clear hA; rintro _ w ⟨o3, c3, rfl, hq⟩ a hA)
    replace hH := hback2 _ _ hq
    clear hback2 hf hq hP hins
    rw [List.singleton_append] at hH
    have hir : insR (G1 ++ Tl) G1.length ((o.a : Int), ((nxt N B - o.a : Nat) : Int)) = gaps N 1 (A ++ B) := by
      rw [hg2]
      unfold insR
      rw [List.take_append_of_le_length (Nat.le_refl _), List.take_length, List.drop_append_of_le_length (Nat.le_refl _), List.drop_length, List.nil_append, hG1e, show endA 1 A = o.a by omega]
    have hirl : (G1 ++ Tl).length + 1 = (gaps N 1 (A ++ B)).length := by rw [← hir, insR_len (by rw [List.length_append]; omega)]
    rw [hir, hirl] at hH
    rw [hirl] at hA
    repeat' (first | (first | (refine GT ?_ ?_ <;> intro hg <;> clear hA a <;> intro a hA <;> (first | exact FA | replace hg := of_decide_eq_true hg | replace hg := of_decide_eq_false hg | skip)) | (refine QT0 ?_; clear hA a; intro a hA) | (first | (refine BT ?_; clear hA hH; rintro _ w ⟨bN, rfl, hH⟩ a hA) | (refine LT ?_; clear hA hH; rintro _ w ⟨oN, rfl, hH⟩ a hA) | (refine AT ?_; clear hA; rintro _ w ⟨oN, cN, rfl, hH2⟩ a hA; clear hH; have hH := (hH2 _ (by (repeat constructor))).tail; clear hH2) | (refine S0T ?_; clear hH; rintro _ w hH) | (apply dr_op03 hA rfl rfl rfl; apply op_store_fld; rfl; rfl; rfl; exact hH; (repeat constructor); (repeat rfl); clear hH; rintro _ w hH))) | ((first | refine CT ?_ | (refine DT ?_ ?_ <;> intro hc <;> try (exfalso; omega))) <;> repeat' refine CT ?_) | (first | (refine DSK ?_; clear hA a; intro a hA) | (first | (refine DLT ?_; clear hA hH; rintro _ w ⟨oN, rfl, hH⟩; refine ⟨STT, ?_⟩; intro a hA) | (refine DAT ?_; clear hA; rintro _ w ⟨oN, cN, rfl, hH2⟩; clear hH; have hH := (hH2 _ (by (repeat constructor))).tail; clear hH2; refine ⟨STT, ?_⟩; intro a hA))) )
    refine rt1 (.inl rfl) rfl hA rfl ⟨rfl, hp_shut ⟨q.oC, q.cC, q.oH, q.cH, o3, c3, q.cs, q.hs.set o.a (0, 0)⟩ hrep ?_⟩
    unfold hpQ
    refine HS.left (H2 := [cb bR 104 [.int .i64 (o.a : Int), .int .i64 ((nxt N B - o.a : Nat) : Int)]]) (hH.perm ?_)
    simp only [List.append_nil, List.cons_append, List.nil_append]
    (repeat (first | exact List.Perm.nil | refine perm_pick 0 rfl ?_ | refine perm_pick 1 rfl ?_ | refine perm_pick 2 rfl ?_ | refine perm_pick 3 rfl ?_ | refine perm_pick 4 rfl ?_ | refine perm_pick 5 rfl ?_ | refine perm_pick 6 rfl ?_ | refine perm_pick 7 rfl ?_ | refine perm_pick 8 rfl ?_ | refine perm_pick 9 rfl ?_ | refine perm_pick 10 rfl ?_ | refine perm_pick 11 rfl ?_))
  by_cases hm : o.fin < nxt N B
  · have hG2e : G2 = (((o.fin : Nat) : Int), ((nxt N B - o.fin : Nat) : Int)) :: Tl := by rw [← hG2, gap1_pos hm]; rfl
    have hget : (G1 ++ G2)[G1.length]? = some (((o.fin : Nat) : Int), ((nxt N B - o.fin : Nat) : Int)) := by
      rw [hG2e, List.getElem?_append_right (Nat.le_refl _), Nat.sub_self]
      rfl
    have hil : G1.length < (G1 ++ G2).length := (List.getElem?_eq_some_iff.1 hget).1
    (refine wp_draw_HS [(0, 1), (1, 1), (2, 1), (3, 1), (4, 1), (5, 1), (6, 1), (7, 1), (8, 1), (9, 1), (10, 1), (11, 1), (12, 1), (13, 1), (14, 1), (15, 1), (16, 1), (17, 1), (18, 1), (19, 1), (20, 1), (21, 1), (22, 1)] mixed (by decide +kernel) hH ?_; replace hH := hH.drew)
    repeat' (first | (first | (refine GT ?_ ?_ <;> intro hg <;> clear hA a <;> intro a hA <;> (first | exact FA | replace hg := of_decide_eq_true hg | replace hg := of_decide_eq_false hg | skip)) | ((first | apply st_ex hA hH rfl rfl (by decide) | apply dr_ex hA rfl rfl rfl (by decide) | apply dr_exp hA rfl rfl rfl (by decide) | apply dr_ex3 hA hH rfl rfl rfl (by decide)); (first | (apply ex_load; rfl; exact cl_own (by exact MEMT) (encP0 hget))); clear hA a; intro a hA) | (refine QT0 ?_; clear hA a; intro a hA) | (first | (refine BT ?_; clear hA hH; rintro _ w ⟨bN, rfl, hH⟩ a hA) | (refine LT ?_; clear hA hH; rintro _ w ⟨oN, rfl, hH⟩ a hA) | (refine AT ?_; clear hA; rintro _ w ⟨oN, cN, rfl, hH2⟩ a hA; clear hH; have hH := (hH2 _ (by (repeat constructor))).tail; clear hH2) | (refine S0T ?_; clear hH; rintro _ w hH) )) | ((first | refine CT ?_ | (refine DT ?_ ?_ <;> intro hc <;> try (exfalso; omega))) <;> repeat' refine CT ?_) | (first | (refine DSK ?_; clear hA a; intro a hA) | (first | (refine DLT ?_; clear hA hH; rintro _ w ⟨oN, rfl, hH⟩; refine ⟨STT, ?_⟩; intro a hA) | (refine DAT ?_; clear hA; rintro _ w ⟨oN, cN, rfl, hH2⟩; clear hH; have hH := (hH2 _ (by (repeat constructor))).tail; clear hH2; refine ⟨STT, ?_⟩; intro a hA))) )
    (refine wp_draw2_HS [(0, 1), (1, 1), (2, 1), (3, 1), (4, 1), (5, 1), (6, 1), (7, 1), (8, 1), (9, 1), (10, 1), (11, 2)] [12] mixed (by decide +kernel) hH ?_; replace hH := hH.drew)
    repeat' (first | (first | (refine GT ?_ ?_ <;> intro hg <;> clear hA a <;> intro a hA <;> (first | exact FA | replace hg := of_decide_eq_true hg | replace hg := of_decide_eq_false hg | skip)) | ((first | apply st_ex hA hH rfl rfl (by decide) | apply dr_ex hA rfl rfl rfl (by decide) | apply dr_exp hA rfl rfl rfl (by decide) | apply dr_ex3 hA hH rfl rfl rfl (by decide)); (first | (apply ex_load; rfl; exact cl_own (by exact MEMT) (encP1 hget))); clear hA a; intro a hA) | (refine QT0 ?_; clear hA a; intro a hA) | (first | (refine BT ?_; clear hA hH; rintro _ w ⟨bN, rfl, hH⟩ a hA) | (refine LT ?_; clear hA hH; rintro _ w ⟨oN, rfl, hH⟩ a hA) | (refine AT ?_; clear hA; rintro _ w ⟨oN, cN, rfl, hH2⟩ a hA; clear hH; have hH := (hH2 _ (by (repeat constructor))).tail; clear hH2) | (refine S0T ?_; clear hH; rintro _ w hH) | (apply dr_op03 hA rfl rfl rfl; apply op_store_fld; rfl; rfl; rfl; exact hH; (repeat constructor); (repeat rfl); clear hH; rintro _ w hH))) | ((first | refine CT ?_ | (refine DT ?_ ?_ <;> intro hc <;> try (exfalso; omega))) <;> repeat' refine CT ?_) | (first | (refine DSK ?_; clear hA a; intro a hA) | (first | (refine DLT ?_; clear hA hH; rintro _ w ⟨oN, rfl, hH⟩; refine ⟨STT, ?_⟩; intro a hA) | (refine DAT ?_; clear hA; rintro _ w ⟨oN, cN, rfl, hH2⟩; clear hH; have hH := (hH2 _ (by (repeat constructor))).tail; clear hH2; refine ⟨STT, ?_⟩; intro a hA))) )
    have hP := hH.perm (H' := [own 104 2 q.oF (G1 ++ G2).length q.cF (flat encP (G1 ++ G2))] ++ [cb bR 104 [.int .i64 (o.a : Int), .int .i64 (((o.fs.length : Int) + 1) + ((nxt N B - o.fin : Nat) : Int))], cb b 107 [.slice q.oC N q.cC, .slice q.oH N q.cH, .slice q.oF (G1 ++ G2).length q.cF], own 33 1 q.oC N q.cC (flat encW q.cs), own 113 2 q.oH N q.cH (flat encP (q.hs.set o.a (0, 0)))]) (by simp only [List.cons_append, List.nil_append]; (repeat (first | exact List.Perm.nil | refine perm_pick 0 rfl ?_ | refine perm_pick 1 rfl ?_ | refine perm_pick 2 rfl ?_ | refine perm_pick 3 rfl ?_ | refine perm_pick 4 rfl ?_ | refine perm_pick 5 rfl ?_ | refine perm_pick 6 rfl ?_ | refine perm_pick 7 rfl ?_ | refine perm_pick 8 rfl ?_ | refine perm_pick 9 rfl ?_ | refine perm_pick 10 rfl ?_ | refine perm_pick 11 rfl ?_)))
    obtain ⟨Mc, hf, -, hback2⟩ := hP.frame
    have hdel := delete_spec _ Mc q.oF q.cF G1.length _ hf hil (by omega)
    (refine st_op hA rfl rfl (by decide) (op_call rfl rfl rfl (hdel)) ?_; clear hA; rintro _ w ⟨o2, c2, rfl, hq⟩ a hA)
    replace hH := hback2 _ _ hq
    clear hback2 hf hq hP hdel
    have hel : (G1 ++ G2).eraseIdx G1.length = G1 ++ Tl := by
      rw [hG2e, List.eraseIdx_append_of_length_le (Nat.le_refl _), Nat.sub_self]
      rfl
    have hel2 : (G1 ++ G2).length - 1 = (G1 ++ Tl).length := by rw [hG2e, List.length_append, List.length_append]; simp
    rw [hel, hel2, List.singleton_append, show ((o.fs.length : Int) + 1) + ((nxt N B - o.fin : Nat) : Int) = ((nxt N B - o.a : Nat) : Int) by omega] at hH
    rw [hel2] at hA
    repeat' (first | (first | (refine GT ?_ ?_ <;> intro hg <;> clear hA a <;> intro a hA <;> (first | exact FA | replace hg := of_decide_eq_true hg | replace hg := of_decide_eq_false hg | skip)) | (refine QT0 ?_; clear hA a; intro a hA) | (first | (refine BT ?_; clear hA hH; rintro _ w ⟨bN, rfl, hH⟩ a hA) | (refine LT ?_; clear hA hH; rintro _ w ⟨oN, rfl, hH⟩ a hA) | (refine AT ?_; clear hA; rintro _ w ⟨oN, cN, rfl, hH2⟩ a hA; clear hH; have hH := (hH2 _ (by (repeat constructor))).tail; clear hH2) | (refine S0T ?_; clear hH; rintro _ w hH) | (apply st_op0 hA rfl rfl; apply op_store_fld; rfl; rfl; rfl; exact hH; (repeat constructor); (repeat rfl); clear hH; rintro _ w hH))) | ((first | refine CT ?_ | (refine DT ?_ ?_ <;> intro hc <;> try (exfalso; omega))) <;> repeat' refine CT ?_) | (first | (refine DSK ?_; clear hA a; intro a hA) | (first | (refine DLT ?_; clear hA hH; rintro _ w ⟨oN, rfl, hH⟩; refine ⟨STT, ?_⟩; intro a hA) | (refine DAT ?_; clear hA; rintro _ w ⟨oN, cN, rfl, hH2⟩; clear hH; have hH := (hH2 _ (by (repeat constructor))).tail; clear hH2; refine ⟨STT, ?_⟩; intro a hA))) )
    exact ⟨o2, c2, hH.perm (by (repeat (first | exact List.Perm.nil | refine perm_pick 0 rfl ?_ | refine perm_pick 1 rfl ?_ | refine perm_pick 2 rfl ?_ | refine perm_pick 3 rfl ?_ | refine perm_pick 4 rfl ?_ | refine perm_pick 5 rfl ?_ | refine perm_pick 6 rfl ?_ | refine perm_pick 7 rfl ?_ | refine perm_pick 8 rfl ?_ | refine perm_pick 9 rfl ?_ | refine perm_pick 10 rfl ?_ | refine perm_pick 11 rfl ?_))), (hA.sub (by (repeat (first | exact trivial | refine ⟨rfl, ?_⟩))))⟩
  · have hx1 : nxt N B = o.fin := by omega
    have hG2e : G2 = Tl := by rw [← hG2, gap1_nil hm, List.nil_append]
    rw [hG2e, show (o.fs.length : Int) + 1 = ((nxt N B - o.a : Nat) : Int) by omega] at hH
    by_cases hlen : G1.length < (G1 ++ G2).length
    · obtain ⟨⟨ra, rn⟩, hget⟩ : ∃ x, (G1 ++ Tl)[G1.length]? = some x := ⟨_, List.getElem?_eq_getElem (by rw [← hG2e]; exact hlen)⟩
      have hra := hT (ra, rn) (by
        rw [List.getElem?_append_right (Nat.le_refl _)] at hget
        exact List.mem_of_getElem? hget)
      dsimp only at hra
      rw [hG2e] at hlen
      have hx2 : ((nxt N B - o.a : Nat) : Int) + (o.a : Int) = nxt N B := by omega
      (refine wp_draw_HS [(0, 1), (1, 1), (2, 1), (3, 1), (4, 1), (5, 1), (6, 1), (7, 1), (8, 1), (9, 1), (10, 1), (11, 1), (12, 1), (13, 1), (14, 1), (15, 1), (16, 1), (17, 1), (18, 1), (19, 1), (20, 1), (21, 1), (22, 1)] mixed (by decide +kernel) hH ?_; replace hH := hH.drew)
      repeat' (first | (first | (refine GT ?_ ?_ <;> intro hg <;> clear hA a <;> intro a hA <;> (first | exact FA | replace hg := of_decide_eq_true hg | replace hg := of_decide_eq_false hg | skip)) | ((first | apply st_ex hA hH rfl rfl (by decide) | apply dr_ex hA rfl rfl rfl (by decide) | apply dr_exp hA rfl rfl rfl (by decide) | apply dr_ex3 hA hH rfl rfl rfl (by decide)); (first | (apply ex_load; rfl; exact cl_own (by exact MEMT) (encP0 hget))); clear hA a; intro a hA) | (refine QT0 ?_; clear hA a; intro a hA) | (first | (refine BT ?_; clear hA hH; rintro _ w ⟨bN, rfl, hH⟩ a hA) | (refine LT ?_; clear hA hH; rintro _ w ⟨oN, rfl, hH⟩ a hA) | (refine AT ?_; clear hA; rintro _ w ⟨oN, cN, rfl, hH2⟩ a hA; clear hH; have hH := (hH2 _ (by (repeat constructor))).tail; clear hH2) | (refine S0T ?_; clear hH; rintro _ w hH) )) | ((first | refine CT ?_ | (refine DT ?_ ?_ <;> intro hc <;> try (exfalso; omega))) <;> repeat' refine CT ?_) | (first | (refine DSK ?_; clear hA a; intro a hA) | (first | (refine DLT ?_; clear hA hH; rintro _ w ⟨oN, rfl, hH⟩; refine ⟨STT, ?_⟩; intro a hA) | (refine DAT ?_; clear hA; rintro _ w ⟨oN, cN, rfl, hH2⟩; clear hH; have hH := (hH2 _ (by (repeat constructor))).tail; clear hH2; refine ⟨STT, ?_⟩; intro a hA))) )
      exact ⟨q.oF, q.cF, hH.perm (by (repeat (first | exact List.Perm.nil | refine perm_pick 0 rfl ?_ | refine perm_pick 1 rfl ?_ | refine perm_pick 2 rfl ?_ | refine perm_pick 3 rfl ?_ | refine perm_pick 4 rfl ?_ | refine perm_pick 5 rfl ?_ | refine perm_pick 6 rfl ?_ | refine perm_pick 7 rfl ?_ | refine perm_pick 8 rfl ?_ | refine perm_pick 9 rfl ?_ | refine perm_pick 10 rfl ?_ | refine perm_pick 11 rfl ?_))), (hA.sub (by (repeat (first | exact trivial | refine ⟨rfl, ?_⟩))))⟩
    · rw [hG2e] at hlen
      (refine wp_draw_HS [(0, 1), (1, 1), (2, 1), (3, 1), (4, 1), (5, 1), (6, 1), (7, 1), (8, 1), (9, 1), (10, 1), (11, 1), (12, 1), (13, 1), (14, 1), (15, 1), (16, 1), (17, 1), (18, 1), (19, 1), (20, 1), (21, 1), (22, 1)] mixed (by decide +kernel) hH ?_; replace hH := hH.drew)
      repeat' (first | (first | (refine GT ?_ ?_ <;> intro hg <;> clear hA a <;> intro a hA <;> (first | exact FA | replace hg := of_decide_eq_true hg | replace hg := of_decide_eq_false hg | skip)) | (refine QT0 ?_; clear hA a; intro a hA) | (first | (refine BT ?_; clear hA hH; rintro _ w ⟨bN, rfl, hH⟩ a hA) | (refine LT ?_; clear hA hH; rintro _ w ⟨oN, rfl, hH⟩ a hA) | (refine AT ?_; clear hA; rintro _ w ⟨oN, cN, rfl, hH2⟩ a hA; clear hH; have hH := (hH2 _ (by (repeat constructor))).tail; clear hH2) | (refine S0T ?_; clear hH; rintro _ w hH) )) | ((first | refine CT ?_ | (refine DT ?_ ?_ <;> intro hc <;> try (exfalso; omega))) <;> repeat' refine CT ?_) | (first | (refine DSK ?_; clear hA a; intro a hA) | (first | (refine DLT ?_; clear hA hH; rintro _ w ⟨oN, rfl, hH⟩; refine ⟨STT, ?_⟩; intro a hA) | (refine DAT ?_; clear hA; rintro _ w ⟨oN, cN, rfl, hH2⟩; clear hH; have hH := (hH2 _ (by (repeat constructor))).tail; clear hH2; refine ⟨STT, ?_⟩; intro a hA))) )
      exact ⟨q.oF, q.cF, hH.perm (by (repeat (first | exact List.Perm.nil | refine perm_pick 0 rfl ?_ | refine perm_pick 1 rfl ?_ | refine perm_pick 2 rfl ?_ | refine perm_pick 3 rfl ?_ | refine perm_pick 4 rfl ?_ | refine perm_pick 5 rfl ?_ | refine perm_pick 6 rfl ?_ | refine perm_pick 7 rfl ?_ | refine perm_pick 8 rfl ?_ | refine perm_pick 9 rfl ?_ | refine perm_pick 10 rfl ?_ | refine perm_pick 11 rfl ?_))), (hA.sub (by (repeat (first | exact trivial | refine ⟨rfl, ?_⟩))))⟩
end Go.Proofs.Ytdfhajdejlhamaa
namespace Go.Proofs.Ytdfhajdejlhamaa
open Go Go.Fw
set_option linter.unusedVariables false
section
variable {w0 w : World} {M : Nat → Prop} {H : List It} {b N : Nat} {L : List Ob}
theorem hp_readM (hH : HS w0 M H w) (hm : hpI b N L ∈ H) : HpR w b N L := hp_read (hH.pick hm)
theorem room_f (hH : HS w0 M H w) (hm : hpI b N L ∈ H) : Ret Try.prog 65 #[.pointer (some (bat b 0))] w (fun v w' => v = .int .i64 (roomA (gaps N 1 L)) ∧ HS w0 M H w') :=
  (room_spec w b N L (hp_readM hH hm)).mono fun v w' ⟨h1, h2⟩ => ⟨h1, hH.keep h2⟩
theorem next_f {z : Int} (hH : HS w0 M H w) (hm : hpI b N L ∈ H) : Ret Try.prog 80 #[.pointer (some (bat b 0)), .int .i64 z] w (fun v w' => v = .int .i64 (nextA L z) ∧ HS w0 M H w') :=
  (next_spec w b N L z (hp_readM hH hm)).mono fun v w' ⟨h1, h2⟩ => ⟨h1, hH.keep h2⟩
theorem words_f (hH : HS w0 M H w) (hm : hpI b N L ∈ H) : Ret Try.prog 69 #[.pointer (some (bat b 0))] w (fun v w' => v = .int .i64 N ∧ HS w0 M H w') :=
  (words_spec w b N L (hp_readM hH hm)).mono fun v w' ⟨h1, h2⟩ => ⟨h1, hH.keep h2⟩
/-- the kind or size, and what is wrong -/
def kindA (L : List Ob) (z : Int) : Int × Int := if isA L z then ((hdA L z.toNat).1, 0) else (0, 7)
def sizeA (L : List Ob) (z : Int) : Int × Int := if isA L z then ((hdA L z.toNat).2, 0) else (0, 7)
theorem kind_f {z : Int} (hH : HS w0 M H w) (hm : hpI b N L ∈ H) : Ret Try.prog 67 #[.pointer (some (bat b 0)), .int .i64 z] w (fun v w' => v = .tuple #[.int .i64 (kindA L z).1, .int .i64 (kindA L z).2] ∧ HS w0 M H w') :=
  (kind_spec w b N L z (hp_readM hH hm)).mono fun v w' ⟨h1, h2⟩ => ⟨by rw [h1]; unfold kindA; split <;> rfl, hH.keep h2⟩
theorem size_f {z : Int} (hH : HS w0 M H w) (hm : hpI b N L ∈ H) : Ret Try.prog 68 #[.pointer (some (bat b 0)), .int .i64 z] w (fun v w' => v = .tuple #[.int .i64 (sizeA L z).1, .int .i64 (sizeA L z).2] ∧ HS w0 M H w') :=
  (size_spec w b N L z (hp_readM hH hm)).mono fun v w' ⟨h1, h2⟩ => ⟨by rw [h1]; unfold sizeA; split <;> rfl, hH.keep h2⟩
theorem get_f {z i : Int} (hH : HS w0 M H w) (hm : hpI b N L ∈ H) : Ret Try.prog 54 #[.pointer (some (bat b 0)), .int .i64 z, .int .i64 i] w (fun v w' => v = .tuple #[.int .u64 (getA L z i).1, .int .i64 (getA L z i).2] ∧ HS w0 M H w') :=
  (get_spec w b N L z i (hp_readM hH hm)).mono fun v w' ⟨h1, h2⟩ => ⟨h1, hH.keep h2⟩
theorem set_f {z i x : Int} (hH : HS w0 M (hpI b N L :: H) w) : Ret Try.prog 75 #[.pointer (some (bat b 0)), .int .i64 z, .int .i64 i, .int .u64 x] w (fun v w' => v = .int .i64 (setA L z i x).1 ∧ HS w0 M (hpI b N (setA L z i x).2 :: H) w') := by
  obtain ⟨Mc, h1, -, h2⟩ := HS.frame (Hc := [hpI b N L]) (Hf := H) hH
  exact (set_spec w Mc b N L z i x h1).mono fun v w' ⟨h3, h4⟩ => ⟨h3, h2 _ _ h4⟩
theorem alloc_f {k s : Int} (hH : HS w0 M (hpI b N L :: H) w) : Ret Try.prog 70 #[.pointer (some (bat b 0)), .int .i64 k, .int .i64 s] w (fun v w' => v = .tuple #[.int .i64 (allocA N L k s).1, .int .i64 (allocA N L k s).2.1] ∧ HS w0 M (hpI b N (allocA N L k s).2.2 :: H) w') := by
  obtain ⟨Mc, h1, -, h2⟩ := HS.frame (Hc := [hpI b N L]) (Hf := H) hH
  exact (alloc_spec w Mc b N L k s h1).mono fun v w' ⟨h3, h4⟩ => ⟨h3, h2 _ _ h4⟩
theorem free_f {z : Int} (hH : HS w0 M (hpI b N L :: H) w) : Ret Try.prog 81 #[.pointer (some (bat b 0)), .int .i64 z] w (fun v w' => v = .int .i64 (freeA L z).1 ∧ HS w0 M (hpI b N (freeA L z).2 :: H) w') := by
  obtain ⟨Mc, h1, -, h2⟩ := HS.frame (Hc := [hpI b N L]) (Hf := H) hH
  exact (free_spec w Mc b N L z h1).mono fun v w' ⟨h3, h4⟩ => ⟨h3, h2 _ _ h4⟩
theorem new_f {z : Int} (hH : HS w0 M H w) : Ret Try.prog 40 #[.int .i64 z] w (fun v w' => (v = .pointer none ∧ ¬ (2 ≤ z ∧ z ≤ 65536) ∧ HS w0 M H w') ∨ ((2 ≤ z ∧ z ≤ 65536) ∧ ∃ b, v = .pointer (some (bat b 0)) ∧ HS w0 M (hpI b z.toNat [] :: H) w')) :=
  (new_spec w z).mono fun v w' h => by
    rcases h with ⟨h1, h2, h3⟩ | ⟨h1, b', h2, h3⟩
    · exact .inl ⟨h1, h2, hH.keep h3⟩
    · exact .inr ⟨h1, b', h2, hH.join h3⟩
end
end Go.Proofs.Ytdfhajdejlhamaa
namespace Go.Proofs.Ytdfhajdejlhamaa
open Go Go.Fw
set_option linter.unusedVariables false
section
variable {w : World} {b N : Nat} {L : List Ob}
theorem kind_r {z : Int} (hR : HpR w b N L) : Ret Try.prog 67 #[.pointer (some (bat b 0)), .int .i64 z] w (fun v w' => v = .tuple #[.int .i64 (kindA L z).1, .int .i64 (kindA L z).2] ∧ Kp w noM w') :=
  (kind_spec w b N L z hR).mono fun v w' ⟨h1, h2⟩ => ⟨by rw [h1]; unfold kindA; split <;> rfl, h2⟩
end
theorem kind_obj {N : Nat} {L : List Ob} {z : Int} {o : Ob} (hl : Lay N 1 L) (h : objA L z = some o) : kindA L z = ((o.kind : Int), 0) ∧ sizeA L z = ((o.fs.length : Int), 0) := by
  obtain ⟨h1, h2⟩ := objA_some h
  subst h2
  unfold kindA sizeA
  rw [objA_is h, Int.toNat_natCast, hdA_at hl h1]
  exact ⟨rfl, rfl⟩
theorem get_obj {N : Nat} {L : List Ob} {o : Ob} (hl : Lay N 1 L) (hm : o ∈ L) {j : Nat} {y : Int} (hy : o.fs[j]? = some y) : getA L (o.a : Int) j = (y, 0) := by
  have hj := (List.getElem?_eq_some_iff.1 hy).1
  simp only [getA, objA_mem hl hm]
  rw [if_pos (by omega)]
  simp [List.getD, hy]
end Go.Proofs.Ytdfhajdejlhamaa
namespace Go.Proofs.Ytdfhajdejlhamaa
open Go Go.Fw
set_option linter.unusedVariables false
def encO (x : Ob × Sd) : List Value := [.int .i64 x.1.a, .int .i64 x.1.kind, .slice x.2.1 x.2.2.1 x.2.2.2]
theorem encO_len (x : Ob × Sd) : (encO x).length = 3 := rfl
structure RQ where
  o : Option Addr
  c : Nat
  ds : List Sd
structure RfQ (w : World) (b N : Nat) (L : List Ob) (q : RQ) : Prop where
  len : q.ds.length = L.length
  c0 : w.cell? (bat b 0) = some (.int .i64 N)
  c1 : w.cell? (bat b 1) = some (.slice q.o L.length q.c)
  rO : Rd w q.o (flat encO (L.zip q.ds))
  rF : RdR encW w q.ds (L.map (·.fs))
  nO : L.length ≤ q.c
def RfR (w : World) (b N : Nat) (L : List Ob) : Prop := ∃ q, RfQ w b N L q
theorem RfQ.keep {w w' : World} {b N : Nat} {L : List Ob} {q : RQ} (h : RfQ w b N L q) (hk : Kp w noM w') : RfQ w' b N L q := by
  have hH : HS w noM [] w' := (HS.init w noM).keep hk
  exact ⟨h.len, hH.cellw h.c0 id, hH.cellw h.c1 id, hH.rd h.rO id, hH.rdR h.rF rfl, h.nO⟩
theorem RfR.keep {w w' : World} {b N : Nat} {L : List Ob} (h : RfR w b N L) (hk : Kp w noM w') : RfR w' b N L :=
  let ⟨q, hq⟩ := h
  ⟨q, hq.keep hk⟩
theorem zip_at {L : List Ob} {ds : List Sd} {i : Nat} {o : Ob} {d : Sd} (h : L[i]? = some o) (hd : ds[i]? = some d) : (L.zip ds)[i]? = some (o, d) := by
  rw [List.getElem?_zip_eq_some]
  exact ⟨h, hd⟩
theorem RfQ.at {w : World} {b N : Nat} {L : List Ob} {q : RQ} (h : RfQ w b N L q) {i : Nat} {o : Ob} (ho : L[i]? = some o) :
    ∃ d c, q.ds[i]? = some (d, o.fs.length, c) ∧ Rd w d (flat encW o.fs) ∧ (flat encO (L.zip q.ds))[i * 3 + 0]? = some (.int .i64 o.a) ∧ (flat encO (L.zip q.ds))[i * 3 + 1]? = some (.int .i64 o.kind) ∧
      (flat encO (L.zip q.ds))[i * 3 + 2]? = some (.slice d o.fs.length c) := by
  obtain ⟨d, c, hd, hr⟩ := h.rF.at (i := i) (r := o.fs) (by rw [List.getElem?_map, ho]; rfl)
  have hz := zip_at ho hd
  exact ⟨d, c, hd, hr, flat_get encO_len (off := 0) hz rfl, flat_get encO_len (off := 1) hz rfl, flat_get encO_len (off := 2) hz rfl⟩
theorem RfQ.sp {w : World} {b N : Nat} {L : List Ob} {q : RQ} (h : RfQ w b N L q) : Sp q.o L.length := h.rO.sp (sz := 3) (by rw [flat_length encO_len, List.length_zip, h.len]; simp) (by omega)
/-- what holds of a heap's objects -/
structure Ok (N : Nat) (L : List Ob) : Prop where
  n2 : 2 ≤ N ∧ N ≤ 65536
  lay : Lay N 1 L
  kd : ∀ o ∈ L, 1 ≤ o.kind ∧ o.fs.length ≤ 4096
theorem Rep.ok {N : Nat} {L : List Ob} {cs : List Int} {hs : List (Int × Int)} (h : Rep N L cs hs) : Ok N L := ⟨h.n2, h.lay, h.kd⟩
theorem Ok.len {N : Nat} {L : List Ob} (h : Ok N L) : L.length ≤ 65536 := by
  have := h.lay.len
  have := h.n2
  omega
theorem Ok.split {N : Nat} {A B : List Ob} (h : Ok N (A ++ B)) : endA 1 A ≤ nxt N B ∧ nxt N B ≤ N := nxt_le h.lay.split.2
set_option maxRecDepth 10000 attribute [local irreducible] Code.wp wpList Calls Ex Op1 sat bat blk cb own Go.Fw.mp Go.Fw.mpO Go.Fw.mpI Go.Fw.mpE Go.Fw.itr HS Rd Ret wkD Hp Cl Cls Exit.then Exit.inBlock Exit.noGoto bodyPost Go.Fw.flat wk2 Go.Fw.all Go.Fw.owns wpOp
attribute [local irreducible] hdA gaps isA roomA nextA objA

end Go.Proofs.Ytdfhajdejlhamaa
namespace Go.Proofs.Ytdfhajdejlhamaa
open Go Go.Fw
set_option linter.unusedVariables false
section
variable {w0 w : World} {M : Nat → Prop} {p q r s x : It} {A B : List It}
end
set_option maxRecDepth 10000 attribute [local irreducible] Code.wp wpList Calls Ex Op1 sat bat blk cb own Go.Fw.mp Go.Fw.mpO Go.Fw.mpI Go.Fw.mpE Go.Fw.itr HS Rd Ret wkD Hp Cl Cls Exit.then Exit.inBlock Exit.noGoto bodyPost Go.Fw.flat wk2 Go.Fw.all Go.Fw.owns wpOp
attribute [local irreducible] hdA gaps isA roomA nextA objA

end Go.Proofs.Ytdfhajdejlhamaa
namespace Go.Proofs.Ytdfhajdejlhamaa
open Go Go.Fw
set_option linter.unusedVariables false
section
variable {w0 w : World} {M : Nat → Prop} {H : List It} {b N : Nat} {L : List Ob}
end
set_option maxRecDepth 10000 attribute [local irreducible] Code.wp wpList Calls Ex Op1 sat bat blk cb own Go.Fw.mp Go.Fw.mpO Go.Fw.mpI Go.Fw.mpE Go.Fw.itr HS Rd Ret wkD Hp Cl Cls Exit.then Exit.inBlock Exit.noGoto bodyPost Go.Fw.flat wk2 Go.Fw.all Go.Fw.owns wpOp
attribute [local irreducible] hdA gaps isA roomA nextA allocA freeA sizeA kindA usedA hd0 setA getA objA

end Go.Proofs.Ytdfhajdejlhamaa
namespace Go.Proofs.Ytdfhajdejlhamaa
open Go Go.Fw
set_option linter.unusedVariables false
def encN (a : Nat) : List Value := [.int .i64 (a : Int)]
theorem encN_len (a : Nat) : (encN a).length = 1 := rfl
theorem encN_at {l : List Nat} {i : Nat} {a : Nat} (h : l[i]? = some a) : (flat encN l)[i * 1]? = some (.int .i64 (a : Int)) := flat_get0 encN_len h rfl
theorem u64_mod (m : Int) : IntKind.u64.wrap m = m % 18446744073709551616 := rfl
theorem and1 {x : Int} (h : U x) : andK .u64 x 1 = x % 2 := by
  obtain ⟨n, rfl⟩ : ∃ n : Nat, x = n := ⟨x.toNat, by have := h.1; omega⟩
  have h2 := h.2
  unfold andK
  rw [u64_mod]
  have e : (BitVec.ofInt IntKind.u64.bits (n : Int) &&& BitVec.ofInt IntKind.u64.bits 1).toNat = n % 2 := by
    rw [BitVec.toNat_and, BitVec.ofInt_natCast, BitVec.toNat_ofNat]
    have e1 : (BitVec.ofInt IntKind.u64.bits 1).toNat = 1 := by decide
    rw [e1, Nat.and_one_is_mod]
    show n % 2 ^ 64 % 2 = n % 2
    omega
  rw [e]
  omega
theorem shr1_U {x : Int} (h : U x) : shrK .u64 x 1 = x / 2 := by
  have e : shrK .u64 x 1 = x.fdiv 2 := rfl
  rw [e, Int.fdiv_eq_ediv_of_nonneg _ (by decide)]
/-- falling numbers -/
def PosF (gr : List Nat) (t : Nat) (i : Nat) : Prop := i ≤ gr.length ∧ (∀ (k r : Nat), k < i → gr[k]? = some r → t < r) ∧ ∀ (k r : Nat), i ≤ k → gr[k]? = some r → r ≤ t
set_option maxRecDepth 10000 attribute [local irreducible] Code.wp wpList Calls Ex Op1 sat bat blk cb own Go.Fw.mp Go.Fw.mpO Go.Fw.mpI Go.Fw.mpE Go.Fw.itr HS Rd Ret wkD Hp Cl Cls Exit.then Exit.inBlock Exit.noGoto bodyPost Go.Fw.flat wk2 Go.Fw.all Go.Fw.owns wpOp
attribute [local irreducible] shrK andK

theorem isnum_spec (w0 : World) (x : Int) (h : U x) : Ret Try.prog 64 #[.int .u64 x] w0 (fun v w => v = .bool (numW x) ∧ Kp w0 noM w) := by
  have hH : HS w0 noM [] w0 := HS.init w0 noM
  have h1 := and1 h
  (refine enter (N := 6) Try.func64 rfl Try.ntmps64 rfl ?_; intro a hA; dsimp only [sl0, Nat.reduceAdd] at hA)
  repeat' (first | (first | (refine GT ?_ ?_ <;> intro hg <;> clear hA a <;> intro a hA <;> (first | exact FA | replace hg := of_decide_eq_true hg | replace hg := of_decide_eq_false hg | skip)) | ((first | apply st_ex hA hH rfl rfl (by decide) | apply dr_ex hA rfl rfl rfl (by decide) | apply dr_exp hA rfl rfl rfl (by decide) | apply dr_ex3 hA hH rfl rfl rfl (by decide)); (first | (apply ex_and (v := x % 2); rfl; rfl; exact h1)); clear hA a; intro a hA) | (refine QT ?_; clear hA a; intro a hA) | (first | (refine BT ?_; clear hA hH; rintro _ w ⟨bN, rfl, hH⟩ a hA) | (refine LT ?_; clear hA hH; rintro _ w ⟨oN, rfl, hH⟩ a hA) | (refine AT ?_; clear hA; rintro _ w ⟨oN, cN, rfl, hH2⟩ a hA; clear hH; have hH := (hH2 _ (by (repeat constructor))).tail; clear hH2) | (refine S0T ?_; clear hH; rintro _ w hH) )) | ((first | refine CT ?_ | (refine DT ?_ ?_ <;> intro hc <;> try (exfalso; omega))) <;> repeat' refine CT ?_) | (first | (refine DSK ?_; clear hA a; intro a hA) | (first | (refine DLT ?_; clear hA hH; rintro _ w ⟨oN, rfl, hH⟩; refine ⟨STT, ?_⟩; intro a hA) | (refine DAT ?_; clear hA; rintro _ w ⟨oN, cN, rfl, hH2⟩; clear hH; have hH := (hH2 _ (by (repeat constructor))).tail; clear hH2; refine ⟨STT, ?_⟩; intro a hA))) )
  exact rt1 (.inl rfl) rfl hA rfl ⟨rfl, hH.kp⟩

theorem addr_spec (w0 : World) (x : Int) (h : U x) : Ret Try.prog 32 #[.int .u64 x] w0 (fun v w => v = .int .i64 (addrW x) ∧ Kp w0 noM w) := by
  have hH : HS w0 noM [] w0 := HS.init w0 noM
  have h1 := shr1_U h
  have h2 := h.1
  have h3 := h.2
  (refine enter (N := 13) Try.func32 rfl Try.ntmps32 rfl ?_; intro a hA; dsimp only [sl0, Nat.reduceAdd] at hA)
  repeat' (first | (first | (refine GT ?_ ?_ <;> intro hg <;> clear hA a <;> intro a hA <;> (first | exact FA | replace hg := of_decide_eq_true hg | replace hg := of_decide_eq_false hg | skip)) | (refine QT ?_; clear hA a; intro a hA) | (first | (refine BT ?_; clear hA hH; rintro _ w ⟨bN, rfl, hH⟩ a hA) | (refine LT ?_; clear hA hH; rintro _ w ⟨oN, rfl, hH⟩ a hA) | (refine AT ?_; clear hA; rintro _ w ⟨oN, cN, rfl, hH2⟩ a hA; clear hH; have hH := (hH2 _ (by (repeat constructor))).tail; clear hH2) | (refine S0T ?_; clear hH; rintro _ w hH) )) | ((first | refine CT ?_ | (refine DT ?_ ?_ <;> intro hc <;> try (exfalso; omega))) <;> repeat' refine CT ?_) | (first | (refine DSK ?_; clear hA a; intro a hA) | (first | (refine DLT ?_; clear hA hH; rintro _ w ⟨oN, rfl, hH⟩; refine ⟨STT, ?_⟩; intro a hA) | (refine DAT ?_; clear hA; rintro _ w ⟨oN, cN, rfl, hH2⟩; clear hH; have hH := (hH2 _ (by (repeat constructor))).tail; clear hH2; refine ⟨STT, ?_⟩; intro a hA))) )
  (refine st_op hA rfl rfl (by decide) (op_call rfl rfl rfl (isnum_spec _ x h)) ?_; clear hA; rintro _ w ⟨rfl, hk⟩ a hA; replace hH := hH.keep hk; clear hk)
  by_cases hn : x % 2 = 1
  · have e : numW x = true := decide_eq_true hn
    have e2 : addrW x = 0 := if_pos (.inl hn)
    rw [e] at hA
    rw [e2]
    repeat' (first | (first | (refine GT ?_ ?_ <;> intro hg <;> clear hA a <;> intro a hA <;> (first | exact FA | replace hg := of_decide_eq_true hg | replace hg := of_decide_eq_false hg | skip)) | (refine QT ?_; clear hA a; intro a hA) | (first | (refine BT ?_; clear hA hH; rintro _ w ⟨bN, rfl, hH⟩ a hA) | (refine LT ?_; clear hA hH; rintro _ w ⟨oN, rfl, hH⟩ a hA) | (refine AT ?_; clear hA; rintro _ w ⟨oN, cN, rfl, hH2⟩ a hA; clear hH; have hH := (hH2 _ (by (repeat constructor))).tail; clear hH2) | (refine S0T ?_; clear hH; rintro _ w hH) )) | ((first | refine CT ?_ | (refine DT ?_ ?_ <;> intro hc <;> try (exfalso; omega))) <;> repeat' refine CT ?_) | (first | (refine DSK ?_; clear hA a; intro a hA) | (first | (refine DLT ?_; clear hA hH; rintro _ w ⟨oN, rfl, hH⟩; refine ⟨STT, ?_⟩; intro a hA) | (refine DAT ?_; clear hA; rintro _ w ⟨oN, cN, rfl, hH2⟩; clear hH; have hH := (hH2 _ (by (repeat constructor))).tail; clear hH2; refine ⟨STT, ?_⟩; intro a hA))) )
    exact rt1 (.inl rfl) rfl hA rfl ⟨rfl, hH.kp⟩
  · have e : numW x = false := decide_eq_false hn
    rw [e] at hA
    by_cases hb : 2147483647 < x / 2
    · have e2 : addrW x = 0 := if_pos (.inr hb)
      rw [e2]
      repeat' (first | (first | (refine GT ?_ ?_ <;> intro hg <;> clear hA a <;> intro a hA <;> (first | exact FA | replace hg := of_decide_eq_true hg | replace hg := of_decide_eq_false hg | skip)) | ((first | apply st_ex hA hH rfl rfl (by decide) | apply dr_ex hA rfl rfl rfl (by decide) | apply dr_exp hA rfl rfl rfl (by decide) | apply dr_ex3 hA hH rfl rfl rfl (by decide)); (first | (apply ex_shr (v := x / 2); rfl; rfl; decide; exact h1)); clear hA a; intro a hA) | (refine QT ?_; clear hA a; intro a hA) | (first | (refine BT ?_; clear hA hH; rintro _ w ⟨bN, rfl, hH⟩ a hA) | (refine LT ?_; clear hA hH; rintro _ w ⟨oN, rfl, hH⟩ a hA) | (refine AT ?_; clear hA; rintro _ w ⟨oN, cN, rfl, hH2⟩ a hA; clear hH; have hH := (hH2 _ (by (repeat constructor))).tail; clear hH2) | (refine S0T ?_; clear hH; rintro _ w hH) )) | ((first | refine CT ?_ | (refine DT ?_ ?_ <;> intro hc <;> try (exfalso; omega))) <;> repeat' refine CT ?_) | (first | (refine DSK ?_; clear hA a; intro a hA) | (first | (refine DLT ?_; clear hA hH; rintro _ w ⟨oN, rfl, hH⟩; refine ⟨STT, ?_⟩; intro a hA) | (refine DAT ?_; clear hA; rintro _ w ⟨oN, cN, rfl, hH2⟩; clear hH; have hH := (hH2 _ (by (repeat constructor))).tail; clear hH2; refine ⟨STT, ?_⟩; intro a hA))) )
      exact rt1 (.inl rfl) rfl hA rfl ⟨rfl, hH.kp⟩
    · have e2 : addrW x = x / 2 := if_neg (by omega)
      have e3 : IntKind.i64.wrap (x / 2) = x / 2 := wrap_i64 ⟨by omega, by omega⟩
      rw [e2]
      repeat' (first | (first | (refine GT ?_ ?_ <;> intro hg <;> clear hA a <;> intro a hA <;> (first | exact FA | replace hg := of_decide_eq_true hg | replace hg := of_decide_eq_false hg | skip)) | ((first | apply st_ex hA hH rfl rfl (by decide) | apply dr_ex hA rfl rfl rfl (by decide) | apply dr_exp hA rfl rfl rfl (by decide) | apply dr_ex3 hA hH rfl rfl rfl (by decide)); (first | (apply ex_shr (v := x / 2); rfl; rfl; decide; exact h1) | (apply ex_convert (v := x / 2); rfl; exact e3)); clear hA a; intro a hA) | (refine QT ?_; clear hA a; intro a hA) | (first | (refine BT ?_; clear hA hH; rintro _ w ⟨bN, rfl, hH⟩ a hA) | (refine LT ?_; clear hA hH; rintro _ w ⟨oN, rfl, hH⟩ a hA) | (refine AT ?_; clear hA; rintro _ w ⟨oN, cN, rfl, hH2⟩ a hA; clear hH; have hH := (hH2 _ (by (repeat constructor))).tail; clear hH2) | (refine S0T ?_; clear hH; rintro _ w hH) )) | ((first | refine CT ?_ | (refine DT ?_ ?_ <;> intro hc <;> try (exfalso; omega))) <;> repeat' refine CT ?_) | (first | (refine DSK ?_; clear hA a; intro a hA) | (first | (refine DLT ?_; clear hA hH; rintro _ w ⟨oN, rfl, hH⟩; refine ⟨STT, ?_⟩; intro a hA) | (refine DAT ?_; clear hA; rintro _ w ⟨oN, cN, rfl, hH2⟩; clear hH; have hH := (hH2 _ (by (repeat constructor))).tail; clear hH2; refine ⟨STT, ?_⟩; intro a hA))) )
      exact rt1 (.inl rfl) rfl hA rfl ⟨rfl, hH.kp⟩

theorem ref_spec (w0 : World) (ad : Nat) (h : ad ≤ 2147483647) : Ret Try.prog 30 #[.int .i64 (ad : Int)] w0 (fun v w => v = .int .u64 (2 * (ad : Int)) ∧ Kp w0 noM w) := by
  have hH : HS w0 noM [] w0 := HS.init w0 noM
  have h1 : IntKind.u64.wrap (ad : Int) = ad := IntWalk.u64_in _ (by omega)
  have h2 : shlK .u64 (ad : Int) 1 = 2 * (ad : Int) := by
    unfold shlK
    have : IntKind.u64.wrap ((ad : Int) * 2 ^ (1 : Int).toNat) = 2 * (ad : Int) := by
      show ((ad : Int) * 2 ^ 1) % 18446744073709551616 = _
      omega
    first | exact this | (simp at this ⊢; exact this)
  (refine enter (N := 12) Try.func30 rfl Try.ntmps30 rfl ?_; intro a hA; dsimp only [sl0, Nat.reduceAdd] at hA)
  repeat' (first | (first | (refine GT ?_ ?_ <;> intro hg <;> clear hA a <;> intro a hA <;> (first | exact FA | replace hg := of_decide_eq_true hg | replace hg := of_decide_eq_false hg | skip)) | ((first | apply st_ex hA hH rfl rfl (by decide) | apply dr_ex hA rfl rfl rfl (by decide) | apply dr_exp hA rfl rfl rfl (by decide) | apply dr_ex3 hA hH rfl rfl rfl (by decide)); (first | (apply ex_convert (v := (ad : Int)); rfl; exact h1) | (apply ex_shl (v := 2 * (ad : Int)); rfl; rfl; decide; exact h2)); clear hA a; intro a hA) | (refine QT ?_; clear hA a; intro a hA) | (first | (refine BT ?_; clear hA hH; rintro _ w ⟨bN, rfl, hH⟩ a hA) | (refine LT ?_; clear hA hH; rintro _ w ⟨oN, rfl, hH⟩ a hA) | (refine AT ?_; clear hA; rintro _ w ⟨oN, cN, rfl, hH2⟩ a hA; clear hH; have hH := (hH2 _ (by (repeat constructor))).tail; clear hH2) | (refine S0T ?_; clear hH; rintro _ w hH) )) | ((first | refine CT ?_ | (refine DT ?_ ?_ <;> intro hc <;> try (exfalso; omega))) <;> repeat' refine CT ?_) | (first | (refine DSK ?_; clear hA a; intro a hA) | (first | (refine DLT ?_; clear hA hH; rintro _ w ⟨oN, rfl, hH⟩; refine ⟨STT, ?_⟩; intro a hA) | (refine DAT ?_; clear hA; rintro _ w ⟨oN, cN, rfl, hH2⟩; clear hH; have hH := (hH2 _ (by (repeat constructor))).tail; clear hH2; refine ⟨STT, ?_⟩; intro a hA))) )
  exact rt1 (.inl rfl) rfl hA rfl ⟨rfl, hH.kp⟩

theorem cmpN_spec (w0 : World) (a b : Nat) (h : a ≤ 100000) (h' : b ≤ 100000) :
    Ret Try.prog 93 #[.int .i64 (a : Int), .int .i64 (b : Int)] w0 (fun v w => v = .int .i64 ((b : Int) - (a : Int)) ∧ Kp w0 noM w) := by
  have hH : HS w0 noM [] w0 := HS.init w0 noM
  (refine enter (N := 8) Try.func93 rfl Try.ntmps93 rfl ?_; intro a hA; dsimp only [sl0, Nat.reduceAdd] at hA)
  repeat' (first | (first | (refine GT ?_ ?_ <;> intro hg <;> clear hA a <;> intro a hA <;> (first | exact FA | replace hg := of_decide_eq_true hg | replace hg := of_decide_eq_false hg | skip)) | (refine QT ?_; clear hA a; intro a hA) | (first | (refine BT ?_; clear hA hH; rintro _ w ⟨bN, rfl, hH⟩ a hA) | (refine LT ?_; clear hA hH; rintro _ w ⟨oN, rfl, hH⟩ a hA) | (refine AT ?_; clear hA; rintro _ w ⟨oN, cN, rfl, hH2⟩ a hA; clear hH; have hH := (hH2 _ (by (repeat constructor))).tail; clear hH2) | (refine S0T ?_; clear hH; rintro _ w hH) )) | ((first | refine CT ?_ | (refine DT ?_ ?_ <;> intro hc <;> try (exfalso; omega))) <;> repeat' refine CT ?_) | (first | (refine DSK ?_; clear hA a; intro a hA) | (first | (refine DLT ?_; clear hA hH; rintro _ w ⟨oN, rfl, hH⟩; refine ⟨STT, ?_⟩; intro a hA) | (refine DAT ?_; clear hA; rintro _ w ⟨oN, cN, rfl, hH2⟩; clear hH; have hH := (hH2 _ (by (repeat constructor))).tail; clear hH2; refine ⟨STT, ?_⟩; intro a hA))) )
  exact rt1 (.inl rfl) rfl hA rfl ⟨rfl, hH.kp⟩

theorem searchN_spec (w0 : World) (o : Option Addr) (c : Nat) (gr : List Nat) (t : Nat) (hr : Rd w0 o (flat encN gr)) (hl : gr.length ≤ 1048576) (hs : gr.Pairwise (· > ·)) (hb : ∀ a ∈ gr, a ≤ 100000) (ht : t ≤ 100000) :
    Ret Try.prog 92 #[.slice o gr.length c, .int .i64 (t : Int), .func (.func 93) #[] #[]] w0
      (fun v w => (∃ (i : Nat) (b : Bool), v = .tuple #[.int .i64 i, .bool b] ∧ PosF gr t i) ∧ Kp w0 noM w) := by
  have hH : HS w0 noM [] w0 := HS.init w0 noM
  have hsp : Sp o gr.length := hr.sp (sz := 1) (flat_length encN_len gr) (by omega)
  have hs2 : ∀ (k k' r r' : Nat), k < k' → gr[k]? = some r → gr[k']? = some r' → r' < r := fun k k' r r' hkk h1 h2 => by
    have a1 := List.getElem?_eq_some_iff.1 h1
    have a2 := List.getElem?_eq_some_iff.1 h2
    have := List.pairwise_iff_getElem.1 hs k k' a1.1 a2.1 hkk
    rw [a1.2, a2.2] at this
    exact this
  (refine enter (N := 49) Try.func92 rfl Try.ntmps92 rfl ?_; intro a hA; dsimp only [sl0, Nat.reduceAdd] at hA)
  repeat' (first | (first | (refine GT ?_ ?_ <;> intro hg <;> clear hA a <;> intro a hA <;> (first | exact FA | replace hg := of_decide_eq_true hg | replace hg := of_decide_eq_false hg | skip)) | (refine QT ?_; clear hA a; intro a hA) | (first | (refine BT ?_; clear hA hH; rintro _ w ⟨bN, rfl, hH⟩ a hA) | (refine LT ?_; clear hA hH; rintro _ w ⟨oN, rfl, hH⟩ a hA) | (refine AT ?_; clear hA; rintro _ w ⟨oN, cN, rfl, hH2⟩ a hA; clear hH; have hH := (hH2 _ (by (repeat constructor))).tail; clear hH2) | (refine S0T ?_; clear hH; rintro _ w hH) )) | ((first | refine CT ?_ | (refine DT ?_ ?_ <;> intro hc <;> try (exfalso; omega))) <;> repeat' refine CT ?_) | (first | (refine DSK ?_; clear hA a; intro a hA) | (first | (refine DLT ?_; clear hA hH; rintro _ w ⟨oN, rfl, hH⟩; refine ⟨STT, ?_⟩; intro a hA) | (refine DAT ?_; clear hA; rintro _ w ⟨oN, cN, rfl, hH2⟩; clear hH; have hH := (hH2 _ (by (repeat constructor))).tail; clear hH2; refine ⟨STT, ?_⟩; intro a hA))) )
  refine wp_lpj (S := Nat × Nat) (fun s a w => (s.1 ≤ s.2 ∧ s.2 ≤ gr.length ∧ (∀ (k r : Nat), k < s.1 → gr[k]? = some r → t < r) ∧ ∀ (k r : Nat), s.2 ≤ k → gr[k]? = some r → r ≤ t) ∧ HS w0 noM [] w ∧
      Sl 49 [(0, .slice o gr.length c), (1, .int .i64 t), (2, .func (.func 93) #[] #[]), (8, .int .i64 gr.length), (9, .int .i64 s.1), (10, .int .i64 s.2)] a)
    (fun s => s.2 - s.1) (fun a w => ∃ i, PosF gr t i ∧ HS w0 noM [] w ∧ Sl 49 [(0, .slice o gr.length c), (1, .int .i64 t), (2, .func (.func 93) #[] #[]), (8, .int .i64 gr.length), (9, .int .i64 i)] a)
    (0, gr.length) ⟨⟨Nat.zero_le _, Nat.le_refl _, fun k r h => absurd h (Nat.not_lt_zero _), fun k r h hk => by have := (List.getElem?_eq_some_iff.1 hk).1; dsimp only at h; omega⟩, hH, (hA.sub (by (repeat (first | exact trivial | refine ⟨rfl, ?_⟩))))⟩ ?_ ?_
  · clear hA hH
    rintro ⟨i, j⟩ a w ⟨⟨h1, h2, h3, h4⟩, hH, hA⟩
    dsimp only at h1 h2 h3 h4 hH hA
    by_cases hlt : i < j
    rotate_left
    · obtain rfl : i = j := by omega
      repeat' (first | (first | (refine GT ?_ ?_ <;> intro hg <;> clear hA a <;> intro a hA <;> (first | exact FA | replace hg := of_decide_eq_true hg | replace hg := of_decide_eq_false hg | skip)) | (refine QT ?_; clear hA a; intro a hA) | (first | (refine BT ?_; clear hA hH; rintro _ w ⟨bN, rfl, hH⟩ a hA) | (refine LT ?_; clear hA hH; rintro _ w ⟨oN, rfl, hH⟩ a hA) | (refine AT ?_; clear hA; rintro _ w ⟨oN, cN, rfl, hH2⟩ a hA; clear hH; have hH := (hH2 _ (by (repeat constructor))).tail; clear hH2) | (refine S0T ?_; clear hH; rintro _ w hH) )) | ((first | refine CT ?_ | (refine DT ?_ ?_ <;> intro hc <;> try (exfalso; omega))) <;> repeat' refine CT ?_) | (first | (refine DSK ?_; clear hA a; intro a hA) | (first | (refine DLT ?_; clear hA hH; rintro _ w ⟨oN, rfl, hH⟩; refine ⟨STT, ?_⟩; intro a hA) | (refine DAT ?_; clear hA; rintro _ w ⟨oN, cN, rfl, hH2⟩; clear hH; have hH := (hH2 _ (by (repeat constructor))).tail; clear hH2; refine ⟨STT, ?_⟩; intro a hA))) )
      exact ⟨i, ⟨h2, h3, h4⟩, hH, (hA.sub (by (repeat (first | exact trivial | refine ⟨rfl, ?_⟩))))⟩
    obtain ⟨m, hm⟩ : ∃ m, (i + j) / 2 = m := ⟨_, rfl⟩
    have hmi : i ≤ m ∧ m < j := by omega
    obtain ⟨x, hx⟩ : ∃ x, gr[m]? = some x := ⟨_, List.getElem?_eq_getElem (by omega)⟩
    have hxb := hb _ (List.mem_of_getElem? hx)
    have hc1 : IntKind.u64.wrap ((i : Int) + j) = ((i + j : Nat) : Int) := by rw [u64_mod]; omega
    have hc2 : shrK .u64 ((i + j : Nat) : Int) 1 = (m : Int) := by rw [shr1, hm]
    have hc3 : IntKind.i64.wrap (m : Int) = m := wrap_i64 ⟨by omega, by omega⟩
    have hcx := encN_at hx
    repeat' (first | (first | (refine GT ?_ ?_ <;> intro hg <;> clear hA a <;> intro a hA <;> (first | exact FA | replace hg := of_decide_eq_true hg | replace hg := of_decide_eq_false hg | skip)) | ((first | apply st_ex hA hH rfl rfl (by decide) | apply dr_ex hA rfl rfl rfl (by decide) | apply dr_exp hA rfl rfl rfl (by decide) | apply dr_ex3 hA hH rfl rfl rfl (by decide)); (first | (apply ex_convert (v := ((i + j : Nat) : Int)); rfl; exact hc1) | (apply ex_convert (v := (m : Int)); rfl; exact hc3) | (apply ex_shr (v := (m : Int)); rfl; rfl; decide; exact hc2)); clear hA a; intro a hA) | (refine QT ?_; clear hA a; intro a hA) | (first | (refine BT ?_; clear hA hH; rintro _ w ⟨bN, rfl, hH⟩ a hA) | (refine LT ?_; clear hA hH; rintro _ w ⟨oN, rfl, hH⟩ a hA) | (refine AT ?_; clear hA; rintro _ w ⟨oN, cN, rfl, hH2⟩ a hA; clear hH; have hH := (hH2 _ (by (repeat constructor))).tail; clear hH2) | (refine S0T ?_; clear hH; rintro _ w hH) )) | ((first | refine CT ?_ | (refine DT ?_ ?_ <;> intro hc <;> try (exfalso; omega))) <;> repeat' refine CT ?_) | (first | (refine DSK ?_; clear hA a; intro a hA) | (first | (refine DLT ?_; clear hA hH; rintro _ w ⟨oN, rfl, hH⟩; refine ⟨STT, ?_⟩; intro a hA) | (refine DAT ?_; clear hA; rintro _ w ⟨oN, cN, rfl, hH2⟩; clear hH; have hH := (hH2 _ (by (repeat constructor))).tail; clear hH2; refine ⟨STT, ?_⟩; intro a hA))) )
    (refine st_op hA rfl rfl (by decide) (op_call rfl rfl rfl (cmpN_spec _ x t hxb ht)) ?_; clear hA; rintro _ w ⟨rfl, hk⟩ a hA; replace hH := hH.keep hk; clear hk)
    repeat' (first | (first | (refine GT ?_ ?_ <;> intro hg <;> clear hA a <;> intro a hA <;> (first | exact FA | replace hg := of_decide_eq_true hg | replace hg := of_decide_eq_false hg | skip)) | (refine QT ?_; clear hA a; intro a hA) | (first | (refine BT ?_; clear hA hH; rintro _ w ⟨bN, rfl, hH⟩ a hA) | (refine LT ?_; clear hA hH; rintro _ w ⟨oN, rfl, hH⟩ a hA) | (refine AT ?_; clear hA; rintro _ w ⟨oN, cN, rfl, hH2⟩ a hA; clear hH; have hH := (hH2 _ (by (repeat constructor))).tail; clear hH2) | (refine S0T ?_; clear hH; rintro _ w hH) )) | ((first | refine CT ?_ | (refine DT ?_ ?_ <;> intro hc <;> try (exfalso; omega))) <;> repeat' refine CT ?_) | (first | (refine DSK ?_; clear hA a; intro a hA) | (first | (refine DLT ?_; clear hA hH; rintro _ w ⟨oN, rfl, hH⟩; refine ⟨STT, ?_⟩; intro a hA) | (refine DAT ?_; clear hA; rintro _ w ⟨oN, cN, rfl, hH2⟩; clear hH; have hH := (hH2 _ (by (repeat constructor))).tail; clear hH2; refine ⟨STT, ?_⟩; intro a hA))) )
    · refine ⟨(m + 1, j), ⟨⟨by show m + 1 ≤ j; omega, h2, fun k r hk' hkr => ?_, h4⟩, hH, (hA.sub (by (repeat (first | exact trivial | refine ⟨rfl, ?_⟩))))⟩, by show j - (m + 1) < j - i; omega⟩
      rcases Nat.lt_or_ge k m with h | h
      · have := hs2 k m r _ h hkr hx
        omega
      · obtain rfl : k = m := by have : k < m + 1 := hk'; omega
        rw [hx] at hkr
        obtain rfl := Option.some.inj hkr
        omega
    · refine ⟨(i, m), ⟨⟨hmi.1, by show m ≤ gr.length; omega, h3, fun k r hk' hkr => ?_⟩, hH, (hA.sub (by (repeat (first | exact trivial | refine ⟨rfl, ?_⟩))))⟩, by show m - i < j - i; omega⟩
      rcases Nat.lt_or_ge m k with h | h
      · have := hs2 m k _ r h hx hkr
        omega
      · obtain rfl : k = m := by have : m ≤ k := hk'; omega
        rw [hx] at hkr
        obtain rfl := Option.some.inj hkr
        omega
  · clear hA hH
    rintro a w ⟨i, hpos, hH, hA⟩
    have hpi := hpos.1
    by_cases hil : i < gr.length
    · obtain ⟨x, hx⟩ : ∃ x, gr[i]? = some x := ⟨_, List.getElem?_eq_getElem hil⟩
      have hxb := hb _ (List.mem_of_getElem? hx)
      have hcx := encN_at hx
      repeat' (first | (first | (refine GT ?_ ?_ <;> intro hg <;> clear hA a <;> intro a hA <;> (first | exact FA | replace hg := of_decide_eq_true hg | replace hg := of_decide_eq_false hg | skip)) | (refine QT ?_; clear hA a; intro a hA) | (first | (refine BT ?_; clear hA hH; rintro _ w ⟨bN, rfl, hH⟩ a hA) | (refine LT ?_; clear hA hH; rintro _ w ⟨oN, rfl, hH⟩ a hA) | (refine AT ?_; clear hA; rintro _ w ⟨oN, cN, rfl, hH2⟩ a hA; clear hH; have hH := (hH2 _ (by (repeat constructor))).tail; clear hH2) | (refine S0T ?_; clear hH; rintro _ w hH) )) | ((first | refine CT ?_ | (refine DT ?_ ?_ <;> intro hc <;> try (exfalso; omega))) <;> repeat' refine CT ?_) | (first | (refine DSK ?_; clear hA a; intro a hA) | (first | (refine DLT ?_; clear hA hH; rintro _ w ⟨oN, rfl, hH⟩; refine ⟨STT, ?_⟩; intro a hA) | (refine DAT ?_; clear hA; rintro _ w ⟨oN, cN, rfl, hH2⟩; clear hH; have hH := (hH2 _ (by (repeat constructor))).tail; clear hH2; refine ⟨STT, ?_⟩; intro a hA))) )
      (refine st_op hA rfl rfl (by decide) (op_call rfl rfl rfl (cmpN_spec _ x t hxb ht)) ?_; clear hA; rintro _ w ⟨rfl, hk⟩ a hA; replace hH := hH.keep hk; clear hk)
      repeat' (first | (first | (refine GT ?_ ?_ <;> intro hg <;> clear hA a <;> intro a hA <;> (first | exact FA | replace hg := of_decide_eq_true hg | replace hg := of_decide_eq_false hg | skip)) | (refine QT ?_; clear hA a; intro a hA) | (first | (refine BT ?_; clear hA hH; rintro _ w ⟨bN, rfl, hH⟩ a hA) | (refine LT ?_; clear hA hH; rintro _ w ⟨oN, rfl, hH⟩ a hA) | (refine AT ?_; clear hA; rintro _ w ⟨oN, cN, rfl, hH2⟩ a hA; clear hH; have hH := (hH2 _ (by (repeat constructor))).tail; clear hH2) | (refine S0T ?_; clear hH; rintro _ w hH) )) | ((first | refine CT ?_ | (refine DT ?_ ?_ <;> intro hc <;> try (exfalso; omega))) <;> repeat' refine CT ?_) | (first | (refine DSK ?_; clear hA a; intro a hA) | (first | (refine DLT ?_; clear hA hH; rintro _ w ⟨oN, rfl, hH⟩; refine ⟨STT, ?_⟩; intro a hA) | (refine DAT ?_; clear hA; rintro _ w ⟨oN, cN, rfl, hH2⟩; clear hH; have hH := (hH2 _ (by (repeat constructor))).tail; clear hH2; refine ⟨STT, ?_⟩; intro a hA))) )
      exact rt2 (.inl rfl) rfl hA rfl rfl ⟨⟨i, _, rfl, hpos⟩, hH.kp⟩
    · repeat' (first | (first | (refine GT ?_ ?_ <;> intro hg <;> clear hA a <;> intro a hA <;> (first | exact FA | replace hg := of_decide_eq_true hg | replace hg := of_decide_eq_false hg | skip)) | (refine QT ?_; clear hA a; intro a hA) | (first | (refine BT ?_; clear hA hH; rintro _ w ⟨bN, rfl, hH⟩ a hA) | (refine LT ?_; clear hA hH; rintro _ w ⟨oN, rfl, hH⟩ a hA) | (refine AT ?_; clear hA; rintro _ w ⟨oN, cN, rfl, hH2⟩ a hA; clear hH; have hH := (hH2 _ (by (repeat constructor))).tail; clear hH2) | (refine S0T ?_; clear hH; rintro _ w hH) )) | ((first | refine CT ?_ | (refine DT ?_ ?_ <;> intro hc <;> try (exfalso; omega))) <;> repeat' refine CT ?_) | (first | (refine DSK ?_; clear hA a; intro a hA) | (first | (refine DLT ?_; clear hA hH; rintro _ w ⟨oN, rfl, hH⟩; refine ⟨STT, ?_⟩; intro a hA) | (refine DAT ?_; clear hA; rintro _ w ⟨oN, cN, rfl, hH2⟩; clear hH; have hH := (hH2 _ (by (repeat constructor))).tail; clear hH2; refine ⟨STT, ?_⟩; intro a hA))) )
      exact rt2 (.inl rfl) rfl hA rfl rfl ⟨⟨i, _, rfl, hpos⟩, hH.kp⟩
end Go.Proofs.Ytdfhajdejlhamaa
