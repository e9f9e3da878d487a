/-
  The walks over the document's heap where it turns: Free, Set, Alloc. Conditions: none.
  The document's heap as it is called. Conditions: none.
  Walks over words, and over the search among falling numbers. Conditions: none.
  The walk over slices.Insert of one number. Conditions: none.
-/
import Derived.Test.YtdfhajdejlhamaaRowFullMg4
import Derived.Test.YtdfhajdejlhamaaRowFullMg0
namespace Go.Proofs.Ytdfhajdejlhamaa
open Go Go.Fw
set_option linter.unusedVariables false
theorem zip_mid {A B : List Ob} {dA dB : List Sd} {o : Ob} {d : Sd} (h : A.length = dA.length) : (A ++ o :: B).zip (dA ++ d :: dB) = A.zip dA ++ (o, d) :: B.zip dB := by
  rw [List.zip_append h]
  rfl
theorem zip_two {A B : List Ob} {dA dB : List Sd} (h : A.length = dA.length) : (A ++ B).zip (dA ++ dB) = A.zip dA ++ B.zip dB := List.zip_append h
theorem flat_two {α : Type} (enc : α → List Value) (a b : List α) : flat enc a ++ flat enc b = flat enc (a ++ b) := (flat_append enc a b).symm
theorem rd_take {α : Type} {enc : α → List Value} {sz : Nat} (henc : ∀ x, (enc x).length = sz) {w : World} {o : Option Addr} {A B : List α} (h : Rd w o (flat enc (A ++ B))) : Rd w o (flat enc A) := by
  have := h.take (A.length * sz)
  rwa [flat_take henc, List.take_left] at this
theorem rd_drop {α : Type} {enc : α → List Value} {sz : Nat} (henc : ∀ x, (enc x).length = sz) {w : World} {o : Option Addr} {A B : List α} {c k n : Nat} (h : Rd w o (flat enc (A ++ B))) (hk : k = A.length) (hn : (A ++ B).length = n) (hc : n ≤ c) : Rd w (subO o c k sz) (flat enc B) := by
  subst hk
  have := h.sub (n := n) (c := c) (k := A.length) (sz := sz) (by rw [flat_length henc, hn]) (by rw [← hn, List.length_append]; omega) hc
  rwa [flat_drop henc, List.drop_left] at this
theorem free_of {N : Nat} {A B : List Ob} {o : Ob} {z : Int} (h : Lay N 1 (A ++ o :: B)) (hz : (o.a : Int) = z) (ho : objA (A ++ o :: B) z = some o) : freeA (A ++ o :: B) z = (0, A ++ B) := by
  subst hz
  simp only [freeA, ho]
  rw [filter_free h]
section
variable {w0 w : World} {M : Nat → Prop} {p q r s x : It} {A B : List It}
theorem HS.re1 (h : HS w0 M [p, q, r, all (A ++ x :: B)] w) : HS w0 M [q, p, all (A ++ B)] w := by
  have h1 := h.perm (H' := [all (A ++ x :: B), q, p, r]) (by (repeat (first | exact List.Perm.nil | refine perm_pick 0 rfl ?_ | refine perm_pick 1 rfl ?_ | refine perm_pick 2 rfl ?_ | refine perm_pick 3 rfl ?_ | refine perm_pick 4 rfl ?_ | refine perm_pick 5 rfl ?_ | refine perm_pick 6 rfl ?_ | refine perm_pick 7 rfl ?_ | refine perm_pick 8 rfl ?_ | refine perm_pick 9 rfl ?_ | refine perm_pick 10 rfl ?_ | refine perm_pick 11 rfl ?_)))
  have h3 := h1.all_out.tail
  exact (h3.perm (H' := [r, q, p, all (A ++ B)]) (by (repeat (first | exact List.Perm.nil | refine perm_pick 0 rfl ?_ | refine perm_pick 1 rfl ?_ | refine perm_pick 2 rfl ?_ | refine perm_pick 3 rfl ?_ | refine perm_pick 4 rfl ?_ | refine perm_pick 5 rfl ?_ | refine perm_pick 6 rfl ?_ | refine perm_pick 7 rfl ?_ | refine perm_pick 8 rfl ?_ | refine perm_pick 9 rfl ?_ | refine perm_pick 10 rfl ?_ | refine perm_pick 11 rfl ?_)))).tail
theorem HS.re3 {c : It} (h : HS w0 M [p, x, c, q, r, all (A ++ B)] w) : HS w0 M [q, p, all (A ++ x :: B)] w := by
  have h1 := h.perm (H' := [c, r, x, all (A ++ B), q, p]) (by (repeat (first | exact List.Perm.nil | refine perm_pick 0 rfl ?_ | refine perm_pick 1 rfl ?_ | refine perm_pick 2 rfl ?_ | refine perm_pick 3 rfl ?_ | refine perm_pick 4 rfl ?_ | refine perm_pick 5 rfl ?_ | refine perm_pick 6 rfl ?_ | refine perm_pick 7 rfl ?_ | refine perm_pick 8 rfl ?_ | refine perm_pick 9 rfl ?_ | refine perm_pick 10 rfl ?_ | refine perm_pick 11 rfl ?_)))
  exact h1.tail.tail.all_in.perm (by (repeat (first | exact List.Perm.nil | refine perm_pick 0 rfl ?_ | refine perm_pick 1 rfl ?_ | refine perm_pick 2 rfl ?_ | refine perm_pick 3 rfl ?_ | refine perm_pick 4 rfl ?_ | refine perm_pick 5 rfl ?_ | refine perm_pick 6 rfl ?_ | refine perm_pick 7 rfl ?_ | refine perm_pick 8 rfl ?_ | refine perm_pick 9 rfl ?_ | refine perm_pick 10 rfl ?_ | refine perm_pick 11 rfl ?_)))
theorem HS.re2 (h : HS w0 M [x, q, p, all (A ++ s :: B)] w) : HS w0 M [q, p, all (A ++ x :: B)] w := by
  have h1 := h.perm (H' := [all (A ++ s :: B), x, q, p]) (by (repeat (first | exact List.Perm.nil | refine perm_pick 0 rfl ?_ | refine perm_pick 1 rfl ?_ | refine perm_pick 2 rfl ?_ | refine perm_pick 3 rfl ?_ | refine perm_pick 4 rfl ?_ | refine perm_pick 5 rfl ?_ | refine perm_pick 6 rfl ?_ | refine perm_pick 7 rfl ?_ | refine perm_pick 8 rfl ?_ | refine perm_pick 9 rfl ?_ | refine perm_pick 10 rfl ?_ | refine perm_pick 11 rfl ?_)))
  have h3 := h1.all_out.tail
  have h4 := h3.perm (H' := [x, all (A ++ B), q, p]) (by (repeat (first | exact List.Perm.nil | refine perm_pick 0 rfl ?_ | refine perm_pick 1 rfl ?_ | refine perm_pick 2 rfl ?_ | refine perm_pick 3 rfl ?_ | refine perm_pick 4 rfl ?_ | refine perm_pick 5 rfl ?_ | refine perm_pick 6 rfl ?_ | refine perm_pick 7 rfl ?_ | refine perm_pick 8 rfl ?_ | refine perm_pick 9 rfl ?_ | refine perm_pick 10 rfl ?_ | refine perm_pick 11 rfl ?_)))
  exact h4.all_in.perm (by (repeat (first | exact List.Perm.nil | refine perm_pick 0 rfl ?_ | refine perm_pick 1 rfl ?_ | refine perm_pick 2 rfl ?_ | refine perm_pick 3 rfl ?_ | refine perm_pick 4 rfl ?_ | refine perm_pick 5 rfl ?_ | refine perm_pick 6 rfl ?_ | refine perm_pick 7 rfl ?_ | refine perm_pick 8 rfl ?_ | refine perm_pick 9 rfl ?_ | refine perm_pick 10 rfl ?_ | refine perm_pick 11 rfl ?_)))
end
theorem rf_close {w0 w : World} {M : Nat → Prop} {b N : Nat} {A B : List Ob} {dA dB : List Sd} {oN : Option Addr} {cN : Nat} (hl : dA.length = A.length) (hl2 : dB.length = B.length)
    (h : HS w0 M [cb b 56 [.int .i64 N, .slice oN (A ++ B).length cN], own 53 3 oN (A ++ B).length cN (flat encO ((A ++ B).zip (dA ++ dB))), all (owns 33 1 encW dA (A.map (·.fs)) ++ owns 33 1 encW dB (B.map (·.fs)))] w) : HS w0 M [rfI b N (A ++ B)] w := by
  refine rf_shut ⟨oN, cN, dA ++ dB⟩ (by simp [hl, hl2]) ?_
  unfold rfQ
  rw [List.map_append, owns_split (by rw [List.length_map]; exact hl)]
  exact h
theorem rf_close0 {w0 w : World} {M : Nat → Prop} {b N : Nat} (h : HS w0 M [cb b 56 [.int .i64 N, .slice none 0 0], own 53 3 none 0 0 [], all []] w) : HS w0 M [rfI b N []] w :=
  rf_shut ⟨none, 0, []⟩ rfl h
theorem set_mid {α : Type} (X Y : List α) (y y' : α) : (X ++ y :: Y).set X.length y' = X ++ y' :: Y := by simp
theorem flat_set2 {L : List Ob} {ds : List Sd} {k : Nat} {o o' : Ob} {d d' : Sd} (h : (L.zip ds)[k]? = some (o, d)) (ha : o'.a = o.a) (hk : o'.kind = o.kind) : put (flat encO (L.zip ds)) (k * 3 + 2) [.slice d'.1 d'.2.1 d'.2.2] = flat encO ((L.zip ds).set k (o', d')) :=
  flat_put encO_len h (by unfold encO; dsimp only; rw [ha, hk]; rfl) (by simp)
theorem rf_close2 {w0 w : World} {M : Nat → Prop} {b N : Nat} {A B : List Ob} {dA dB : List Sd} {o : Ob} {d : Sd} {oN : Option Addr} {cN : Nat} (hl : dA.length = A.length) (hl2 : dB.length = B.length)
    (h : HS w0 M [cb b 56 [.int .i64 N, .slice oN (A ++ o :: B).length cN], own 53 3 oN (A ++ o :: B).length cN (flat encO (A.zip dA ++ (o, d) :: B.zip dB)), all (owns 33 1 encW dA (A.map (·.fs)) ++ own 33 1 d.1 d.2.1 d.2.2 (flat encW o.fs) :: owns 33 1 encW dB (B.map (·.fs)))] w) : HS w0 M [rfI b N (A ++ o :: B)] w := by
  refine rf_shut ⟨oN, cN, dA ++ d :: dB⟩ (by simp [hl, hl2]) ?_
  unfold rfQ
  rw [List.map_append, owns_split (by rw [List.length_map]; exact hl), List.map_cons, owns_cons, zip_mid hl.symm]
  exact h
theorem flat_new (Z1 Z2 : List (Ob × Sd)) (x : Ob × Sd) : flat encO Z1 ++ [.int .i64 x.1.a, .int .i64 x.1.kind, .slice x.2.1 x.2.2.1 x.2.2.2] ++ flat encO Z2 = flat encO (Z1 ++ x :: Z2) := by
  rw [flat_append, show flat encO (x :: Z2) = encO x ++ flat encO Z2 by simp [flat]]
  simp [encO]
theorem insA_at {N size : Nat} {new : Nat → Ob} {B : List Ob} : ∀ {A : List Ob} {p : Nat}, Sm size p A → size < nxt N B - endA p A → insA N size new p (A ++ B) = some (endA p A, A ++ new (endA p A) :: B) := by
  intro A
  induction A with
  | nil =>
    intro p _ h
    cases B with
    | nil => exact if_pos h
    | cons o B => exact if_pos h
  | cons a A ih =>
    intro p h1 h2
    have := ih (p := a.fin) h1.2 h2
    show insA N size new p (a :: (A ++ B)) = _
    simp only [insA]
    rw [if_neg h1.1, this]
    rfl
theorem insA_no {N size : Nat} {new : Nat → Ob} : ∀ {A : List Ob} {p : Nat}, Sm size p A → ¬ size < N - endA p A → insA N size new p A = none := by
  intro A
  induction A with
  | nil => intro p _ h; exact if_neg h
  | cons a A ih =>
    intro p h1 h2
    have := ih (p := a.fin) h1.2 h2
    simp only [insA]
    rw [if_neg h1.1, this]
    rfl
theorem Sm.snoc {size : Nat} {o : Ob} : ∀ {A : List Ob} {p : Nat}, Sm size p A → ¬ size < o.a - endA p A → Sm size p (A ++ [o]) := by
  intro A
  induction A with
  | nil => intro p _ h; exact ⟨h, trivial⟩
  | cons a A ih => intro p h1 h2; exact ⟨h1.1, ih (p := a.fin) h1.2 h2⟩
set_option maxRecDepth 10000 attribute [local irreducible] Code.wp wpList Calls Ex Op1 sat bat blk cb own Go.Fw.mp Go.Fw.mpO Go.Fw.mpI Go.Fw.mpE Go.Fw.itr HS Rd Ret wkD Hp Cl Cls Exit.then Exit.inBlock Exit.noGoto bodyPost Go.Fw.flat wk2 Go.Fw.all Go.Fw.owns wpOp
attribute [local irreducible] hdA gaps isA roomA nextA findI objA

theorem rfree_spec (w0 : World) (M : Nat → Prop) (b N : Nat) (L : List Ob) (z : Int) (hok : Ok N L) (hH : HS w0 M [rfI b N L] w0) :
    Ret Try.prog 85 #[.pointer (some (bat b 0)), .int .i64 z] w0 (fun v w => v = .int .i64 (freeA L z).1 ∧ HS w0 M [rfI b N (freeA L z).2] w) := by
  have hL := hok.len
  (refine enter (N := 32) Try.func85 rfl Try.ntmps85 rfl ?_; intro a hA; dsimp only [sl0, Nat.reduceAdd] at hA)
  repeat' (first | (first | (refine GT ?_ ?_ <;> intro hg <;> clear hA a <;> intro a hA <;> (first | exact FA | replace hg := of_decide_eq_true hg | replace hg := of_decide_eq_false hg | skip)) | (refine QT0 ?_; clear hA a; intro a hA) | (first | (refine BT ?_; clear hA hH; rintro _ w ⟨bN, rfl, hH⟩ a hA) | (refine LT ?_; clear hA hH; rintro _ w ⟨oN, rfl, hH⟩ a hA) | (refine AT ?_; clear hA; rintro _ w ⟨oN, cN, rfl, hH2⟩ a hA; clear hH; have hH := (hH2 _ (by (repeat constructor))).tail; clear hH2) | (refine S0T ?_; clear hH; rintro _ w hH) )) | ((first | refine CT ?_ | (refine DT ?_ ?_ <;> intro hc <;> try (exfalso; omega))) <;> repeat' refine CT ?_) | (first | (refine DSK ?_; clear hA a; intro a hA) | (first | (refine DLT ?_; clear hA hH; rintro _ w ⟨oN, rfl, hH⟩; refine ⟨STT, ?_⟩; intro a hA) | (refine DAT ?_; clear hA; rintro _ w ⟨oN, cN, rfl, hH2⟩; clear hH; have hH := (hH2 _ (by (repeat constructor))).tail; clear hH2; refine ⟨STT, ?_⟩; intro a hA))) )
  (refine st_op hA rfl rfl (by decide) (op_call rfl rfl rfl (rfind_spec _ b N L z hL (rf_read hH))) ?_; clear hA; rintro _ w ⟨rfl, hk⟩ a hA)
  replace hH := hH.keep hk
  clear hk
  rcases findI_obj L z with ⟨h1, h2⟩ | ⟨k, o, h1, h2, h3⟩
  · have hf : freeA L z = (7, L) := by simp only [freeA, h1]
    rw [h2] at hA
    rw [hf]
    repeat' (first | (first | (refine GT ?_ ?_ <;> intro hg <;> clear hA a <;> intro a hA <;> (first | exact FA | replace hg := of_decide_eq_true hg | replace hg := of_decide_eq_false hg | skip)) | (refine QT0 ?_; clear hA a; intro a hA) | (first | (refine BT ?_; clear hA hH; rintro _ w ⟨bN, rfl, hH⟩ a hA) | (refine LT ?_; clear hA hH; rintro _ w ⟨oN, rfl, hH⟩ a hA) | (refine AT ?_; clear hA; rintro _ w ⟨oN, cN, rfl, hH2⟩ a hA; clear hH; have hH := (hH2 _ (by (repeat constructor))).tail; clear hH2) | (refine S0T ?_; clear hH; rintro _ w hH) )) | ((first | refine CT ?_ | (refine DT ?_ ?_ <;> intro hc <;> try (exfalso; omega))) <;> repeat' refine CT ?_) | (first | (refine DSK ?_; clear hA a; intro a hA) | (first | (refine DLT ?_; clear hA hH; rintro _ w ⟨oN, rfl, hH⟩; refine ⟨STT, ?_⟩; intro a hA) | (refine DAT ?_; clear hA; rintro _ w ⟨oN, cN, rfl, hH2⟩; clear hH; have hH := (hH2 _ (by (repeat constructor))).tail; clear hH2; refine ⟨STT, ?_⟩; intro a hA))) )
    exact rt1 (.inl rfl) rfl hA rfl ⟨rfl, hH⟩
  rw [h2] at hA
  obtain ⟨q, hql, hH2⟩ := rf_open hH
  have hq := rfQ_read hql hH2
  clear hH
  have hH := hH2
  clear hH2
  have hsp := hq.sp
  obtain ⟨d, c, hd, hrd, ca, ck, cf⟩ := hq.at h3
  obtain ⟨qo, qc, ds⟩ := q
  dsimp only at hd hql
  obtain ⟨e1, e2⟩ := split_at h3
  obtain ⟨e3, e4⟩ := split_at hd
  generalize L.take k = A at *
  generalize L.drop (k + 1) = B at *
  generalize ds.take k = dA at *
  generalize ds.drop (k + 1) = dB at *
  subst e1
  subst e3
  subst e2
  have hz := (objA_some h1).2
  rw [free_of hok.lay hz h1]
  unfold rfQ at hH
  dsimp only at hH
  rw [zip_mid e4.symm] at hH
  have hlen : (A ++ o :: B).length = A.length + (B.length + 1) := by rw [List.length_append, List.length_cons]
  have hql2 : B.length = dB.length := by simp at hql; omega
  have hz1 : (A.zip dA).length = A.length := by rw [List.length_zip]; omega
  have hz2 : (B.zip dB).length = B.length := by rw [List.length_zip]; omega
  have hk1 : A.length + 1 = (A.zip dA ++ [(o, d, o.fs.length, c)]).length := by rw [List.length_append, hz1]; rfl
  have hk2 : ((A.zip dA ++ [(o, d, o.fs.length, c)]) ++ B.zip dB).length = A.length + (B.length + 1) := by rw [List.length_append, ← hk1, hz2]; omega
  have hqc := hq.nO
  dsimp only at hqc hsp
  rw [hlen] at hqc
  rw [hlen] at hL
  repeat' (first | (first | (refine GT ?_ ?_ <;> intro hg <;> clear hA a <;> intro a hA <;> (first | exact FA | replace hg := of_decide_eq_true hg | replace hg := of_decide_eq_false hg | skip)) | ((first | apply st_ex hA hH rfl rfl (by decide) | apply dr_ex hA rfl rfl rfl (by decide) | apply dr_exp hA rfl rfl rfl (by decide) | apply dr_ex3 hA hH rfl rfl rfl (by decide)); (first | (apply ex_slice_hi (k := A.length); rfl; rfl; rfl; omega)); clear hA a; intro a hA) | (refine QT0 ?_; clear hA a; intro a hA) | (first | (refine BT ?_; clear hA hH; rintro _ w ⟨bN, rfl, hH⟩ a hA) | (refine LT ?_; clear hA hH; rintro _ w ⟨oN, rfl, hH⟩ a hA) | (refine AT ?_; clear hA; rintro _ w ⟨oN, cN, rfl, hH2⟩ a hA; clear hH; have hH := (hH2 _ (by (repeat constructor))).tail; clear hH2) | (refine S0T ?_; clear hH; rintro _ w hH) | (apply st_op hA rfl rfl (by decide); apply op_append; rfl; rfl; exact hH; exact MEMT; exact rd_take encO_len (hH.own_rd (o := qo) (by exact MEMT)); exact (by rw [flat_length encO_len, hz1]); rfl; decide; exact flat_one_cell (fun _ => rfl) _; (unfold maxLen; omega); omega; clear hA; rintro _ w ⟨oN, cN, rfl, hH2⟩ a hA; clear hH; have hH := hH2 _ (by (repeat constructor)); clear hH2))) | ((first | refine CT ?_ | (refine DT ?_ ?_ <;> intro hc <;> try (exfalso; omega))) <;> repeat' refine CT ?_) | (first | (refine DSK ?_; clear hA a; intro a hA) | (first | (refine DLT ?_; clear hA hH; rintro _ w ⟨oN, rfl, hH⟩; refine ⟨STT, ?_⟩; intro a hA) | (refine DAT ?_; clear hA; rintro _ w ⟨oN, cN, rfl, hH2⟩; clear hH; have hH := (hH2 _ (by (repeat constructor))).tail; clear hH2; refine ⟨STT, ?_⟩; intro a hA))) )
  simp only [Nat.zero_add, List.nil_append] at hH hA
  rw [hlen] at hA
  repeat' (first | (first | (refine GT ?_ ?_ <;> intro hg <;> clear hA a <;> intro a hA <;> (first | exact FA | replace hg := of_decide_eq_true hg | replace hg := of_decide_eq_false hg | skip)) | ((first | apply st_ex hA hH rfl rfl (by decide) | apply dr_ex hA rfl rfl rfl (by decide) | apply dr_exp hA rfl rfl rfl (by decide) | apply dr_ex3 hA hH rfl rfl rfl (by decide)); (first | (apply ex_slice_lo (k := A.length + 1); rfl; rfl; rfl; omega)); clear hA a; intro a hA) | (refine QT0 ?_; clear hA a; intro a hA) | (first | (refine BT ?_; clear hA hH; rintro _ w ⟨bN, rfl, hH⟩ a hA) | (refine LT ?_; clear hA hH; rintro _ w ⟨oN, rfl, hH⟩ a hA) | (refine AT ?_; clear hA; rintro _ w ⟨oN, cN, rfl, hH2⟩ a hA; clear hH; have hH := (hH2 _ (by (repeat constructor))).tail; clear hH2) | (refine S0T ?_; clear hH; rintro _ w hH) | (apply st_op hA rfl rfl (by decide); apply op_append; rfl; rfl; exact hH; exact MEMT; exact rd_drop encO_len (A := A.zip dA ++ [(o, d, o.fs.length, c)]) (B := B.zip dB) (k := A.length + 1) (n := A.length + (B.length + 1)) (by rw [List.append_assoc]; exact hH.own_rd (o := qo) (by exact MEMT)) hk1 hk2 (by omega); exact (by rw [flat_length encO_len, hz2]; omega); rfl; decide; exact flat_one_cell (fun _ => rfl) _; (unfold maxLen; omega); omega; clear hA; rintro _ w ⟨oN, cN, rfl, hH2⟩ a hA; clear hH; have hH := hH2 _ (by (repeat constructor)); clear hH2) | (apply st_op0 hA rfl rfl; apply op_store_fld; rfl; rfl; rfl; exact hH; (repeat constructor); (repeat rfl); clear hH; rintro _ w hH))) | ((first | refine CT ?_ | (refine DT ?_ ?_ <;> intro hc <;> try (exfalso; omega))) <;> repeat' refine CT ?_) | (first | (refine DSK ?_; clear hA a; intro a hA) | (first | (refine DLT ?_; clear hA hH; rintro _ w ⟨oN, rfl, hH⟩; refine ⟨STT, ?_⟩; intro a hA) | (refine DAT ?_; clear hA; rintro _ w ⟨oN, cN, rfl, hH2⟩; clear hH; have hH := (hH2 _ (by (repeat constructor))).tail; clear hH2; refine ⟨STT, ?_⟩; intro a hA))) )
  have en : A.length + (A.length + (B.length + 1) - (A.length + 1)) = (A ++ B).length := by rw [List.length_append]; omega
  rw [en, flat_two, ← zip_two e4.symm] at hH
  refine rt1 (.inl rfl) rfl hA rfl ⟨rfl, ?_⟩
  rw [List.map_append, List.map_cons, owns_split (by rw [List.length_map]; exact e4), owns_cons] at hH
  exact rf_close e4 hql2.symm (HS.re1 hH)

theorem rset_spec (w0 : World) (M : Nat → Prop) (b N : Nat) (L : List Ob) (z i x : Int) (hok : Ok N L) (hH : HS w0 M [rfI b N L] w0) :
    Ret Try.prog 31 #[.pointer (some (bat b 0)), .int .i64 z, .int .i64 i, .int .u64 x] w0 (fun v w => v = .int .i64 (setA L z i x).1 ∧ HS w0 M [rfI b N (setA L z i x).2] w) := by
  have hL := hok.len
  (refine enter (N := 53) Try.func31 rfl Try.ntmps31 rfl ?_; intro a hA; dsimp only [sl0, Nat.reduceAdd] at hA)
  repeat' (first | (first | (refine GT ?_ ?_ <;> intro hg <;> clear hA a <;> intro a hA <;> (first | exact FA | replace hg := of_decide_eq_true hg | replace hg := of_decide_eq_false hg | skip)) | (refine QT0 ?_; clear hA a; intro a hA) | (first | (refine BT ?_; clear hA hH; rintro _ w ⟨bN, rfl, hH⟩ a hA) | (refine LT ?_; clear hA hH; rintro _ w ⟨oN, rfl, hH⟩ a hA) | (refine AT ?_; clear hA; rintro _ w ⟨oN, cN, rfl, hH2⟩ a hA; clear hH; have hH := (hH2 _ (by (repeat constructor))).tail; clear hH2) | (refine S0T ?_; clear hH; rintro _ w hH) )) | ((first | refine CT ?_ | (refine DT ?_ ?_ <;> intro hc <;> try (exfalso; omega))) <;> repeat' refine CT ?_) | (first | (refine DSK ?_; clear hA a; intro a hA) | (first | (refine DLT ?_; clear hA hH; rintro _ w ⟨oN, rfl, hH⟩; refine ⟨STT, ?_⟩; intro a hA) | (refine DAT ?_; clear hA; rintro _ w ⟨oN, cN, rfl, hH2⟩; clear hH; have hH := (hH2 _ (by (repeat constructor))).tail; clear hH2; refine ⟨STT, ?_⟩; intro a hA))) )
  (refine st_op hA rfl rfl (by decide) (op_call rfl rfl rfl (rfind_spec _ b N L z hL (rf_read hH))) ?_; clear hA; rintro _ w ⟨rfl, hk⟩ a hA)
  replace hH := hH.keep hk
  clear hk
  rcases findI_obj L z with ⟨h1, h2⟩ | ⟨k, o, h1, h2, h3⟩
  · have hf : setA L z i x = (7, L) := by simp only [setA, h1]
    rw [h2] at hA
    rw [hf]
    repeat' (first | (first | (refine GT ?_ ?_ <;> intro hg <;> clear hA a <;> intro a hA <;> (first | exact FA | replace hg := of_decide_eq_true hg | replace hg := of_decide_eq_false hg | skip)) | (refine QT0 ?_; clear hA a; intro a hA) | (first | (refine BT ?_; clear hA hH; rintro _ w ⟨bN, rfl, hH⟩ a hA) | (refine LT ?_; clear hA hH; rintro _ w ⟨oN, rfl, hH⟩ a hA) | (refine AT ?_; clear hA; rintro _ w ⟨oN, cN, rfl, hH2⟩ a hA; clear hH; have hH := (hH2 _ (by (repeat constructor))).tail; clear hH2) | (refine S0T ?_; clear hH; rintro _ w hH) )) | ((first | refine CT ?_ | (refine DT ?_ ?_ <;> intro hc <;> try (exfalso; omega))) <;> repeat' refine CT ?_) | (first | (refine DSK ?_; clear hA a; intro a hA) | (first | (refine DLT ?_; clear hA hH; rintro _ w ⟨oN, rfl, hH⟩; refine ⟨STT, ?_⟩; intro a hA) | (refine DAT ?_; clear hA; rintro _ w ⟨oN, cN, rfl, hH2⟩; clear hH; have hH := (hH2 _ (by (repeat constructor))).tail; clear hH2; refine ⟨STT, ?_⟩; intro a hA))) )
    exact rt1 (.inl rfl) rfl hA rfl ⟨rfl, hH⟩
  rw [h2] at hA
  have hkL := (List.getElem?_eq_some_iff.1 h3).1
  have hm := (hok.kd o (List.mem_of_getElem? h3)).2
  by_cases hir : 0 ≤ i ∧ i < (o.fs.length : Int)
  rotate_left
  · have hf : setA L z i x = (2, L) := by simp only [setA, h1]; rw [if_neg hir]
    rw [hf]
    obtain ⟨q, hql, hH2⟩ := rf_open hH
    have hq := rfQ_read hql hH2
    have hsp := hq.sp
    obtain ⟨d, c, hd, hrd, ca, ck, cf⟩ := hq.at h3
    clear hH
    have hH := hH2
    clear hH2
    unfold rfQ at hH
    repeat' (first | (first | (refine GT ?_ ?_ <;> intro hg <;> clear hA a <;> intro a hA <;> (first | exact FA | replace hg := of_decide_eq_true hg | replace hg := of_decide_eq_false hg | skip)) | ((first | apply st_ex hA hH rfl rfl (by decide) | apply dr_ex hA rfl rfl rfl (by decide) | apply dr_exp hA rfl rfl rfl (by decide) | apply dr_ex3 hA hH rfl rfl rfl (by decide)); (first | (apply ex_load; rfl; apply cl_own; exact MEMT; exact cf)); clear hA a; intro a hA) | (refine QT0 ?_; clear hA a; intro a hA) | (first | (refine BT ?_; clear hA hH; rintro _ w ⟨bN, rfl, hH⟩ a hA) | (refine LT ?_; clear hA hH; rintro _ w ⟨oN, rfl, hH⟩ a hA) | (refine AT ?_; clear hA; rintro _ w ⟨oN, cN, rfl, hH2⟩ a hA; clear hH; have hH := (hH2 _ (by (repeat constructor))).tail; clear hH2) | (refine S0T ?_; clear hH; rintro _ w hH) )) | ((first | refine CT ?_ | (refine DT ?_ ?_ <;> intro hc <;> try (exfalso; omega))) <;> repeat' refine CT ?_) | (first | (refine DSK ?_; clear hA a; intro a hA) | (first | (refine DLT ?_; clear hA hH; rintro _ w ⟨oN, rfl, hH⟩; refine ⟨STT, ?_⟩; intro a hA) | (refine DAT ?_; clear hA; rintro _ w ⟨oN, cN, rfl, hH2⟩; clear hH; have hH := (hH2 _ (by (repeat constructor))).tail; clear hH2; refine ⟨STT, ?_⟩; intro a hA))) )
    all_goals exact rt1 (.inl rfl) rfl hA rfl ⟨rfl, rf_shut q hql hH⟩
  obtain ⟨j, rfl⟩ : ∃ j : Nat, i = j := ⟨i.toNat, by omega⟩
  have hj : j < o.fs.length := by omega
  obtain ⟨q, hql, hH2⟩ := rf_open hH
  have hq := rfQ_read hql hH2
  clear hH
  have hH := hH2
  clear hH2
  have hsp := hq.sp
  obtain ⟨d, c, hd, hrd, ca, ck, cf⟩ := hq.at h3
  obtain ⟨qo, qc, ds⟩ := q
  dsimp only at hd hql ca ck cf
  have hzL : (L.zip ds)[k]? = some (o, (d, o.fs.length, c)) := zip_at h3 hd
  have hzl : (L.zip ds).length = L.length := by rw [List.length_zip, hql]; omega
  have hfs : setA L z j x = (0, setL L o.a j x) := by
    have := (objA_some h1).2
    subst this
    simp only [setA, h1]; rw [if_pos hir]; rfl
  rw [hfs]
  unfold rfQ at hH
  dsimp only at hH
  repeat' (first | (first | (refine GT ?_ ?_ <;> intro hg <;> clear hA a <;> intro a hA <;> (first | exact FA | replace hg := of_decide_eq_true hg | replace hg := of_decide_eq_false hg | skip)) | ((first | apply st_ex hA hH rfl rfl (by decide) | apply dr_ex hA rfl rfl rfl (by decide) | apply dr_exp hA rfl rfl rfl (by decide) | apply dr_ex3 hA hH rfl rfl rfl (by decide)); (first | (apply ex_load; rfl; apply cl_own; exact MEMT; exact cf)); clear hA a; intro a hA) | (refine QT0 ?_; clear hA a; intro a hA) | (first | (refine BT ?_; clear hA hH; rintro _ w ⟨bN, rfl, hH⟩ a hA) | (refine LT ?_; clear hA hH; rintro _ w ⟨oN, rfl, hH⟩ a hA) | (refine AT ?_; clear hA; rintro _ w ⟨oN, cN, rfl, hH2⟩ a hA; clear hH; have hH := (hH2 _ (by (repeat constructor))).tail; clear hH2) | (refine S0T ?_; clear hH; rintro _ w hH) )) | ((first | refine CT ?_ | (refine DT ?_ ?_ <;> intro hc <;> try (exfalso; omega))) <;> repeat' refine CT ?_) | (first | (refine DSK ?_; clear hA a; intro a hA) | (first | (refine DLT ?_; clear hA hH; rintro _ w ⟨oN, rfl, hH⟩; refine ⟨STT, ?_⟩; intro a hA) | (refine DAT ?_; clear hA; rintro _ w ⟨oN, cN, rfl, hH2⟩; clear hH; have hH := (hH2 _ (by (repeat constructor))).tail; clear hH2; refine ⟨STT, ?_⟩; intro a hA))) )
  have hrow : (L.map (·.fs))[k]? = some o.fs := by rw [List.getElem?_map, h3]; rfl
  repeat' (first | (first | (refine GT ?_ ?_ <;> intro hg <;> clear hA a <;> intro a hA <;> (first | exact FA | replace hg := of_decide_eq_true hg | replace hg := of_decide_eq_false hg | skip)) | ((first | apply st_ex hA hH rfl rfl (by decide) | apply dr_ex hA rfl rfl rfl (by decide) | apply dr_exp hA rfl rfl rfl (by decide) | apply dr_ex3 hA hH rfl rfl rfl (by decide)); (first | (apply ex_load; rfl; apply cl_own; exact MEMT; exact cf)); clear hA a; intro a hA) | (refine QT0 ?_; clear hA a; intro a hA) | (first | (refine BT ?_; clear hA hH; rintro _ w ⟨bN, rfl, hH⟩ a hA) | (refine LT ?_; clear hA hH; rintro _ w ⟨oN, rfl, hH⟩ a hA) | (refine AT ?_; clear hA; rintro _ w ⟨oN, cN, rfl, hH2⟩ a hA; clear hH; have hH := (hH2 _ (by (repeat constructor))).tail; clear hH2) | (refine S0T ?_; clear hH; rintro _ w hH) | (apply st_op hA rfl rfl (by decide); apply op_append; rfl; rfl; exact hH; exact MEMT; exact (hH.owns_rd (by exact MEMT) hd hrow).1; exact (flat_length encW_len _); rfl; decide; exact flat_one_cell (fun _ => rfl) _; (unfold maxLen; omega); omega; clear hA; rintro _ w ⟨oN, cN, rfl, hH2⟩ a hA; clear hH; have hH := hH2 _ (by (repeat constructor)); clear hH2))) | ((first | refine CT ?_ | (refine DT ?_ ?_ <;> intro hc <;> try (exfalso; omega))) <;> repeat' refine CT ?_) | (first | (refine DSK ?_; clear hA a; intro a hA) | (first | (refine DLT ?_; clear hA hH; rintro _ w ⟨oN, rfl, hH⟩; refine ⟨STT, ?_⟩; intro a hA) | (refine DAT ?_; clear hA; rintro _ w ⟨oN, cN, rfl, hH2⟩; clear hH; have hH := (hH2 _ (by (repeat constructor))).tail; clear hH2; refine ⟨STT, ?_⟩; intro a hA))) )
  simp only [Nat.zero_add, List.nil_append] at hH hA
  have hspN : Sp oN o.fs.length := hH.own_sp (by exact MEMT)
  repeat' (first | (first | (refine GT ?_ ?_ <;> intro hg <;> clear hA a <;> intro a hA <;> (first | exact FA | replace hg := of_decide_eq_true hg | replace hg := of_decide_eq_false hg | skip)) | ((first | apply st_ex hA hH rfl rfl (by decide) | apply dr_ex hA rfl rfl rfl (by decide) | apply dr_exp hA rfl rfl rfl (by decide) | apply dr_ex3 hA hH rfl rfl rfl (by decide)); (first | (apply ex_load; rfl; apply cl_own; exact MEMT; exact cf)); clear hA a; intro a hA) | (refine QT0 ?_; clear hA a; intro a hA) | (first | (refine BT ?_; clear hA hH; rintro _ w ⟨bN, rfl, hH⟩ a hA) | (refine LT ?_; clear hA hH; rintro _ w ⟨oN, rfl, hH⟩ a hA) | (refine AT ?_; clear hA; rintro _ w ⟨oN, cN, rfl, hH2⟩ a hA; clear hH; have hH := (hH2 _ (by (repeat constructor))).tail; clear hH2) | (refine S0T ?_; clear hH; rintro _ w hH) | (apply st_op0 hA rfl rfl; apply op_set1 (enc := encW) (y0 := x) (j := j * 1); rfl; rfl; rfl; rfl; exact encW_len; exact hH; (repeat constructor); omega; clear hH; rintro _ w hH) | (apply st_op0 hA rfl rfl; apply op_store_own1 (o := qo); rfl; rfl; rfl; exact hH; (repeat constructor); (rw [flat_length encO_len, hzl]; omega); exact flat_set2 (d' := (oN, o.fs.length, cN)) (o' := { o with fs := o.fs.set j x }) hzL rfl rfl; clear hH; rintro _ w hH))) | ((first | refine CT ?_ | (refine DT ?_ ?_ <;> intro hc <;> try (exfalso; omega))) <;> repeat' refine CT ?_) | (first | (refine DSK ?_; clear hA a; intro a hA) | (first | (refine DLT ?_; clear hA hH; rintro _ w ⟨oN, rfl, hH⟩; refine ⟨STT, ?_⟩; intro a hA) | (refine DAT ?_; clear hA; rintro _ w ⟨oN, cN, rfl, hH2⟩; clear hH; have hH := (hH2 _ (by (repeat constructor))).tail; clear hH2; refine ⟨STT, ?_⟩; intro a hA))) )
  refine rt1 (.inl rfl) rfl hA rfl ⟨rfl, ?_⟩
  obtain ⟨e1, e2⟩ := split_at h3
  obtain ⟨e3, e4⟩ := split_at hd
  generalize L.take k = A at *
  generalize L.drop (k + 1) = B at *
  generalize ds.take k = dA at *
  generalize ds.drop (k + 1) = dB at *
  subst e1
  subst e3
  subst e2
  have hz1 : (A.zip dA).length = A.length := by rw [List.length_zip]; omega
  have hlB : dB.length = B.length := by simp at hql; omega
  rw [setL_mid hok.lay]
  have hset : ((A ++ o :: B).zip (dA ++ (d, o.fs.length, c) :: dB)).set A.length ({ o with fs := o.fs.set j x }, ((oN, o.fs.length, cN) : Sd)) = A.zip dA ++ ({ o with fs := o.fs.set j x }, ((oN, o.fs.length, cN) : Sd)) :: B.zip dB := by
    rw [zip_mid e4.symm, ← hz1, set_mid]
  rw [hset, Nat.mul_one, List.map_append, owns_split (by rw [List.length_map]; exact e4), List.map_cons, owns_cons] at hH
  have hl2 : (A ++ o :: B).length = (A ++ { o with fs := o.fs.set j x } :: B).length := by simp
  have hl3 : o.fs.length = (o.fs.set j x).length := by simp
  rw [hl2] at hH
  exact rf_close2 (d := (oN, o.fs.length, cN)) e4 hlB (HS.re2 hH)

theorem ralloc_spec (w0 : World) (M : Nat → Prop) (b N : Nat) (L : List Ob) (k s : Int) (hok : Ok N L) (hH : HS w0 M [rfI b N L] w0) :
    Ret Try.prog 28 #[.pointer (some (bat b 0)), .int .i64 k, .int .i64 s] w0 (fun v w => v = .tuple #[.int .i64 (allocA N L k s).1, .int .i64 (allocA N L k s).2.1] ∧ HS w0 M [rfI b N (allocA N L k s).2.2] w) := by
  have hL := hok.len
  have hn2 := hok.n2
  (refine enter (N := 81) Try.func28 rfl Try.ntmps28 rfl ?_; intro a hA; dsimp only [sl0, Nat.reduceAdd] at hA)
  by_cases hk : k < 1 ∨ 6 < k
  · have hf : allocA N L k s = (0, 8, L) := if_pos hk
    rw [hf]
    repeat' (first | (first | (refine GT ?_ ?_ <;> intro hg <;> clear hA a <;> intro a hA <;> (first | exact FA | replace hg := of_decide_eq_true hg | replace hg := of_decide_eq_false hg | skip)) | (refine QT0 ?_; clear hA a; intro a hA) | (first | (refine BT ?_; clear hA hH; rintro _ w ⟨bN, rfl, hH⟩ a hA) | (refine LT ?_; clear hA hH; rintro _ w ⟨oN, rfl, hH⟩ a hA) | (refine AT ?_; clear hA; rintro _ w ⟨oN, cN, rfl, hH2⟩ a hA; clear hH; have hH := (hH2 _ (by (repeat constructor))).tail; clear hH2) | (refine S0T ?_; clear hH; rintro _ w hH) )) | ((first | refine CT ?_ | (refine DT ?_ ?_ <;> intro hc <;> try (exfalso; omega))) <;> repeat' refine CT ?_) | (first | (refine DSK ?_; clear hA a; intro a hA) | (first | (refine DLT ?_; clear hA hH; rintro _ w ⟨oN, rfl, hH⟩; refine ⟨STT, ?_⟩; intro a hA) | (refine DAT ?_; clear hA; rintro _ w ⟨oN, cN, rfl, hH2⟩; clear hH; have hH := (hH2 _ (by (repeat constructor))).tail; clear hH2; refine ⟨STT, ?_⟩; intro a hA))) )
    all_goals exact rt2 (.inl rfl) rfl hA rfl rfl ⟨rfl, hH⟩
  by_cases hs : s < 0 ∨ 4096 < s
  · have hf : allocA N L k s = (0, 2, L) := by unfold allocA; rw [if_neg hk, if_pos hs]
    rw [hf]
    repeat' (first | (first | (refine GT ?_ ?_ <;> intro hg <;> clear hA a <;> intro a hA <;> (first | exact FA | replace hg := of_decide_eq_true hg | replace hg := of_decide_eq_false hg | skip)) | (refine QT0 ?_; clear hA a; intro a hA) | (first | (refine BT ?_; clear hA hH; rintro _ w ⟨bN, rfl, hH⟩ a hA) | (refine LT ?_; clear hA hH; rintro _ w ⟨oN, rfl, hH⟩ a hA) | (refine AT ?_; clear hA; rintro _ w ⟨oN, cN, rfl, hH2⟩ a hA; clear hH; have hH := (hH2 _ (by (repeat constructor))).tail; clear hH2) | (refine S0T ?_; clear hH; rintro _ w hH) )) | ((first | refine CT ?_ | (refine DT ?_ ?_ <;> intro hc <;> try (exfalso; omega))) <;> repeat' refine CT ?_) | (first | (refine DSK ?_; clear hA a; intro a hA) | (first | (refine DLT ?_; clear hA hH; rintro _ w ⟨oN, rfl, hH⟩; refine ⟨STT, ?_⟩; intro a hA) | (refine DAT ?_; clear hA; rintro _ w ⟨oN, cN, rfl, hH2⟩; clear hH; have hH := (hH2 _ (by (repeat constructor))).tail; clear hH2; refine ⟨STT, ?_⟩; intro a hA))) )
    all_goals exact rt2 (.inl rfl) rfl hA rfl rfl ⟨rfl, hH⟩
  obtain ⟨kd, rfl⟩ : ∃ n : Nat, k = n := ⟨k.toNat, by omega⟩
  obtain ⟨sz, rfl⟩ : ∃ n : Nat, s = n := ⟨s.toNat, by omega⟩
  have hf : allocA N L kd sz = match insA N sz (newO kd sz) 1 L with
    | none => (0, 6, L)
    | some (p, L') => ((p : Int), 0, L') := by
    unfold allocA
    rw [if_neg hk, if_neg hs]
    rfl
  rw [hf]
  obtain ⟨q, hql, hH2⟩ := rf_open hH
  clear hH
  have hH := hH2
  clear hH2
  unfold rfQ at hH
  repeat' (first | (first | (refine GT ?_ ?_ <;> intro hg <;> clear hA a <;> intro a hA <;> (first | exact FA | replace hg := of_decide_eq_true hg | replace hg := of_decide_eq_false hg | skip)) | (refine QT0 ?_; clear hA a; intro a hA) | (first | (refine BT ?_; clear hA hH; rintro _ w ⟨bN, rfl, hH⟩ a hA) | (refine LT ?_; clear hA hH; rintro _ w ⟨oN, rfl, hH⟩ a hA) | (refine AT ?_; clear hA; rintro _ w ⟨oN, cN, rfl, hH2⟩ a hA; clear hH; have hH := (hH2 _ (by (repeat constructor))).tail; clear hH2) | (refine S0T ?_; clear hH; rintro _ w hH) )) | ((first | refine CT ?_ | (refine DT ?_ ?_ <;> intro hc <;> try (exfalso; omega))) <;> repeat' refine CT ?_) | (first | (refine DSK ?_; clear hA a; intro a hA) | (first | (refine DLT ?_; clear hA hH; rintro _ w ⟨oN, rfl, hH⟩; refine ⟨STT, ?_⟩; intro a hA) | (refine DAT ?_; clear hA; rintro _ w ⟨oN, cN, rfl, hH2⟩; clear hH; have hH := (hH2 _ (by (repeat constructor))).tail; clear hH2; refine ⟨STT, ?_⟩; intro a hA))) )
  refine wp_lpj (S := Nat) (fun i a w => i ≤ L.length + 1 ∧ (i ≤ L.length → Sm sz 1 (L.take i)) ∧ (i = L.length + 1 → insA N sz (newO kd sz) 1 L = none) ∧ HS w0 M (rfQ b N L q ++ []) w ∧ Sl 81 [(0, .pointer (some (bat b 0))), (1, .int .i64 kd), (2, .int .i64 sz), (8, .int .i64 i)] a) (fun i => L.length + 1 - i)
    (fun a w => insA N sz (newO kd sz) 1 L = none ∧ HS w0 M (rfQ b N L q ++ []) w ∧ Sl 81 [] a) 0 ⟨by omega, fun _ => trivial, fun h => by omega, hH, (hA.sub (by (repeat (first | exact trivial | refine ⟨rfl, ?_⟩))))⟩ ?_ ?_
  rotate_left
  · clear hA hH
    rintro a w ⟨hno, hH, hA⟩
    rw [hno]
    repeat' (first | (first | (refine GT ?_ ?_ <;> intro hg <;> clear hA a <;> intro a hA <;> (first | exact FA | replace hg := of_decide_eq_true hg | replace hg := of_decide_eq_false hg | skip)) | (refine QT0 ?_; clear hA a; intro a hA) | (first | (refine BT ?_; clear hA hH; rintro _ w ⟨bN, rfl, hH⟩ a hA) | (refine LT ?_; clear hA hH; rintro _ w ⟨oN, rfl, hH⟩ a hA) | (refine AT ?_; clear hA; rintro _ w ⟨oN, cN, rfl, hH2⟩ a hA; clear hH; have hH := (hH2 _ (by (repeat constructor))).tail; clear hH2) | (refine S0T ?_; clear hH; rintro _ w hH) )) | ((first | refine CT ?_ | (refine DT ?_ ?_ <;> intro hc <;> try (exfalso; omega))) <;> repeat' refine CT ?_) | (first | (refine DSK ?_; clear hA a; intro a hA) | (first | (refine DLT ?_; clear hA hH; rintro _ w ⟨oN, rfl, hH⟩; refine ⟨STT, ?_⟩; intro a hA) | (refine DAT ?_; clear hA; rintro _ w ⟨oN, cN, rfl, hH2⟩; clear hH; have hH := (hH2 _ (by (repeat constructor))).tail; clear hH2; refine ⟨STT, ?_⟩; intro a hA))) )
    exact rt2 (.inl rfl) rfl hA rfl rfl ⟨rfl, rf_shut q hql hH⟩
  clear hA hH
  rintro i a w ⟨hi, hs1, hs2, hH, hA⟩
  by_cases hlt : i ≤ L.length
  rotate_left
  · obtain rfl : i = L.length + 1 := by omega
    unfold rfQ at hH
    repeat' (first | (first | (refine GT ?_ ?_ <;> intro hg <;> clear hA a <;> intro a hA <;> (first | exact FA | replace hg := of_decide_eq_true hg | replace hg := of_decide_eq_false hg | skip)) | (refine QT0 ?_; clear hA a; intro a hA) | (first | (refine BT ?_; clear hA hH; rintro _ w ⟨bN, rfl, hH⟩ a hA) | (refine LT ?_; clear hA hH; rintro _ w ⟨oN, rfl, hH⟩ a hA) | (refine AT ?_; clear hA; rintro _ w ⟨oN, cN, rfl, hH2⟩ a hA; clear hH; have hH := (hH2 _ (by (repeat constructor))).tail; clear hH2) | (refine S0T ?_; clear hH; rintro _ w hH) )) | ((first | refine CT ?_ | (refine DT ?_ ?_ <;> intro hc <;> try (exfalso; omega))) <;> repeat' refine CT ?_) | (first | (refine DSK ?_; clear hA a; intro a hA) | (first | (refine DLT ?_; clear hA hH; rintro _ w ⟨oN, rfl, hH⟩; refine ⟨STT, ?_⟩; intro a hA) | (refine DAT ?_; clear hA; rintro _ w ⟨oN, cN, rfl, hH2⟩; clear hH; have hH := (hH2 _ (by (repeat constructor))).tail; clear hH2; refine ⟨STT, ?_⟩; intro a hA))) )
    exact ⟨hs2 rfl, hH, (hA.sub (by (repeat (first | exact trivial | refine ⟨rfl, ?_⟩))))⟩
  have hsm := hs1 hlt
  have hq := rfQ_read hql hH
  have hsp := hq.sp
  have hqc := hq.nO
  have hok2 := hok
  rw [← List.take_append_drop i L] at hok2
  have hgp := hok2.split
  have hgap := fun w (h : RfR w b N L) => gap_spec w b N (L.take i) (L.drop i) i (by rw [List.length_take]; omega) hok2 (by rw [List.take_append_drop]; exact h)
  unfold rfQ at hH
  repeat' (first | (first | (refine GT ?_ ?_ <;> intro hg <;> clear hA a <;> intro a hA <;> (first | exact FA | replace hg := of_decide_eq_true hg | replace hg := of_decide_eq_false hg | skip)) | (refine QT0 ?_; clear hA a; intro a hA) | (first | (refine BT ?_; clear hA hH; rintro _ w ⟨bN, rfl, hH⟩ a hA) | (refine LT ?_; clear hA hH; rintro _ w ⟨oN, rfl, hH⟩ a hA) | (refine AT ?_; clear hA; rintro _ w ⟨oN, cN, rfl, hH2⟩ a hA; clear hH; have hH := (hH2 _ (by (repeat constructor))).tail; clear hH2) | (refine S0T ?_; clear hH; rintro _ w hH) )) | ((first | refine CT ?_ | (refine DT ?_ ?_ <;> intro hc <;> try (exfalso; omega))) <;> repeat' refine CT ?_) | (first | (refine DSK ?_; clear hA a; intro a hA) | (first | (refine DLT ?_; clear hA hH; rintro _ w ⟨oN, rfl, hH⟩; refine ⟨STT, ?_⟩; intro a hA) | (refine DAT ?_; clear hA; rintro _ w ⟨oN, cN, rfl, hH2⟩; clear hH; have hH := (hH2 _ (by (repeat constructor))).tail; clear hH2; refine ⟨STT, ?_⟩; intro a hA))) )
  (refine st_op hA rfl rfl (by decide) (op_call rfl rfl rfl (hgap _ ⟨q, hq⟩)) ?_; clear hA; rintro _ w ⟨rfl, hk⟩ a hA)
  replace hH := hH.keep hk
  clear hk hgap
  repeat' (first | (first | (refine GT ?_ ?_ <;> intro hg <;> clear hA a <;> intro a hA <;> (first | exact FA | replace hg := of_decide_eq_true hg | replace hg := of_decide_eq_false hg | skip)) | (refine QT0 ?_; clear hA a; intro a hA) | (first | (refine BT ?_; clear hA hH; rintro _ w ⟨bN, rfl, hH⟩ a hA) | (refine LT ?_; clear hA hH; rintro _ w ⟨oN, rfl, hH⟩ a hA) | (refine AT ?_; clear hA; rintro _ w ⟨oN, cN, rfl, hH2⟩ a hA; clear hH; have hH := (hH2 _ (by (repeat constructor))).tail; clear hH2) | (refine S0T ?_; clear hH; rintro _ w hH) )) | ((first | refine CT ?_ | (refine DT ?_ ?_ <;> intro hc <;> try (exfalso; omega))) <;> repeat' refine CT ?_) | (first | (refine DSK ?_; clear hA a; intro a hA) | (first | (refine DLT ?_; clear hA hH; rintro _ w ⟨oN, rfl, hH⟩; refine ⟨STT, ?_⟩; intro a hA) | (refine DAT ?_; clear hA; rintro _ w ⟨oN, cN, rfl, hH2⟩; clear hH; have hH := (hH2 _ (by (repeat constructor))).tail; clear hH2; refine ⟨STT, ?_⟩; intro a hA))) )
  rotate_left
  · -- too small
    refine ⟨i + 1, ⟨by omega, fun h => ?_, fun h => ?_, hH, (hA.sub (by (repeat (first | exact trivial | refine ⟨rfl, ?_⟩))))⟩, by omega⟩
    · rw [List.take_add_one, List.getElem?_eq_getElem (by omega)]
      refine hsm.snoc ?_
      rw [List.drop_eq_getElem_cons (by omega)] at *
      simp only [nxt] at *
      omega
    · obtain rfl : i = L.length := by omega
      rw [List.take_of_length_le (Nat.le_refl _), List.drop_of_length_le (Nat.le_refl _)] at *
      refine insA_no hsm ?_
      simp only [nxt] at *
      omega
  have hins := insA_at (N := N) (new := newO kd sz) (B := L.drop i) hsm (by omega)
  rw [List.take_append_drop] at hins
  rw [hins]
  dsimp only
  have eL : L = L.take i ++ L.drop i := (List.take_append_drop i L).symm
  have eD : q.ds = q.ds.take i ++ q.ds.drop i := (List.take_append_drop i q.ds).symm
  have lA : (L.take i).length = i := by rw [List.length_take]; omega
  have ldA : (q.ds.take i).length = i := by rw [List.length_take]; omega
  have ldB : (q.ds.drop i).length = (L.drop i).length := by rw [List.length_drop, List.length_drop]; omega
  have lB : L.length = i + (L.drop i).length := by rw [List.length_drop]; omega
  generalize L.take i = A at *
  generalize L.drop i = B at *
  generalize q.ds.take i = dA at *
  generalize q.ds.drop i = dB at *
  have hz1 : (A.zip dA).length = i := by rw [List.length_zip]; omega
  have hz2 : (B.zip dB).length = B.length := by rw [List.length_zip]; omega
  have hZ : L.zip q.ds = A.zip dA ++ B.zip dB := by
    rw [eD]
    conv => lhs; rw [eL]
    exact zip_two (by omega)
  rw [hZ] at hH
  generalize he1 : endA 1 A = e1 at *
  generalize q.o = qo at *
  generalize q.c = qc at *
  repeat' (first | (first | (refine GT ?_ ?_ <;> intro hg <;> clear hA a <;> intro a hA <;> (first | exact FA | replace hg := of_decide_eq_true hg | replace hg := of_decide_eq_false hg | skip)) | ((first | apply st_ex hA hH rfl rfl (by decide) | apply dr_ex hA rfl rfl rfl (by decide) | apply dr_exp hA rfl rfl rfl (by decide) | apply dr_ex3 hA hH rfl rfl rfl (by decide)); (first | (apply ex_build_p #[.int .i64 (e1 : Int), .int .i64 (kd : Int), .slice none 0 0]; rfl; (repeat (first | (intro _ h; exact absurd h (List.not_mem_nil)) | (refine List.forall_mem_cons.2 ⟨one_cell_of _ _, ?_⟩))); rfl)); clear hA a; intro a hA) | (refine QT0 ?_; clear hA a; intro a hA) | (first | (refine BT ?_; clear hA hH; rintro _ w ⟨bN, rfl, hH⟩ a hA) | (refine LT ?_; clear hA hH; rintro _ w ⟨oN, rfl, hH⟩ a hA) | (refine AT ?_; clear hA; rintro _ w ⟨oN, cN, rfl, hH2⟩ a hA; clear hH; have hH := (hH2 _ (by (repeat constructor))).tail; clear hH2) | (refine S0T ?_; clear hH; rintro _ w hH) | (apply st_op0 hA rfl rfl; apply op_store_agg (vs := [.int .i64 (e1 : Int), .int .i64 (kd : Int), .slice none 0 0]); rfl; rfl; exact hH; (repeat constructor); (repeat rfl); clear hH; rintro _ w hH))) | ((first | refine CT ?_ | (refine DT ?_ ?_ <;> intro hc <;> try (exfalso; omega))) <;> repeat' refine CT ?_) | (first | (refine DSK ?_; clear hA a; intro a hA) | (first | (refine DLT ?_; clear hA hH; rintro _ w ⟨oN, rfl, hH⟩; refine ⟨STT, ?_⟩; intro a hA) | (refine DAT ?_; clear hA; rintro _ w ⟨oN, cN, rfl, hH2⟩; clear hH; have hH := (hH2 _ (by (repeat constructor))).tail; clear hH2; refine ⟨STT, ?_⟩; intro a hA))) )
  replace hH := hH.nil_own 33 1
  rw [own_nil0 33 1 none 0 0 ones_zero] at hH
  refine wp_lpj (S := Nat × Option Addr × Nat) (fun s a w => s.1 ≤ sz ∧ HS w0 M [own 33 1 s.2.1 s.1 s.2.2 (flat encW (List.replicate s.1 1)), cb bN 53 [.int .i64 (e1 : Int), .int .i64 (kd : Int), .slice s.2.1 s.1 s.2.2],
      cb b 56 [.int .i64 N, .slice qo L.length qc], own 53 3 qo L.length qc (flat encO (A.zip dA ++ B.zip dB)), all (owns 33 1 encW q.ds (L.map (·.fs)))] w ∧
      Sl 81 [(0, .pointer (some (bat b 0))), (2, .int .i64 sz), (8, .int .i64 i), (9, .int .i64 e1), (11, .pointer (some (bat bN 0))), (12, .int .i64 s.1)] a) (fun s => sz - s.1)
    (fun a w => ∃ oW cW, HS w0 M [own 33 1 oW sz cW (flat encW (List.replicate sz 1)), cb bN 53 [.int .i64 (e1 : Int), .int .i64 (kd : Int), .slice oW sz cW],
      cb b 56 [.int .i64 N, .slice qo L.length qc], own 53 3 qo L.length qc (flat encO (A.zip dA ++ B.zip dB)), all (owns 33 1 encW q.ds (L.map (·.fs)))] w ∧
      Sl 81 [(0, .pointer (some (bat b 0))), (8, .int .i64 i), (9, .int .i64 e1), (11, .pointer (some (bat bN 0)))] a) (0, none, 0) ⟨Nat.zero_le _, hH, (hA.sub (by (repeat (first | exact trivial | refine ⟨rfl, ?_⟩))))⟩ ?_ ?_
  · clear hA hH
    rintro ⟨k2, oW, cW⟩ a w ⟨hk2, hH, hA⟩
    dsimp only at hk2 hH hA
    by_cases hlt2 : k2 < sz
    rotate_left
    · obtain rfl : k2 = sz := by omega
      repeat' (first | (first | (refine GT ?_ ?_ <;> intro hg <;> clear hA a <;> intro a hA <;> (first | exact FA | replace hg := of_decide_eq_true hg | replace hg := of_decide_eq_false hg | skip)) | (refine QT0 ?_; clear hA a; intro a hA) | (first | (refine BT ?_; clear hA hH; rintro _ w ⟨bN, rfl, hH⟩ a hA) | (refine LT ?_; clear hA hH; rintro _ w ⟨oN, rfl, hH⟩ a hA) | (refine AT ?_; clear hA; rintro _ w ⟨oN, cN, rfl, hH2⟩ a hA; clear hH; have hH := (hH2 _ (by (repeat constructor))).tail; clear hH2) | (refine S0T ?_; clear hH; rintro _ w hH) )) | ((first | refine CT ?_ | (refine DT ?_ ?_ <;> intro hc <;> try (exfalso; omega))) <;> repeat' refine CT ?_) | (first | (refine DSK ?_; clear hA a; intro a hA) | (first | (refine DLT ?_; clear hA hH; rintro _ w ⟨oN, rfl, hH⟩; refine ⟨STT, ?_⟩; intro a hA) | (refine DAT ?_; clear hA; rintro _ w ⟨oN, cN, rfl, hH2⟩; clear hH; have hH := (hH2 _ (by (repeat constructor))).tail; clear hH2; refine ⟨STT, ?_⟩; intro a hA))) )
      exact ⟨oW, cW, hH, (hA.sub (by (repeat (first | exact trivial | refine ⟨rfl, ?_⟩))))⟩
    repeat' (first | (first | (refine GT ?_ ?_ <;> intro hg <;> clear hA a <;> intro a hA <;> (first | exact FA | replace hg := of_decide_eq_true hg | replace hg := of_decide_eq_false hg | skip)) | (refine QT0 ?_; clear hA a; intro a hA) | (first | (refine BT ?_; clear hA hH; rintro _ w ⟨bN, rfl, hH⟩ a hA) | (refine LT ?_; clear hA hH; rintro _ w ⟨oN, rfl, hH⟩ a hA) | (refine AT ?_; clear hA; rintro _ w ⟨oN, cN, rfl, hH2⟩ a hA; clear hH; have hH := (hH2 _ (by (repeat constructor))).tail; clear hH2) | (refine S0T ?_; clear hH; rintro _ w hH) | (apply st_op0 hA rfl rfl; apply op_store_fld; rfl; rfl; rfl; exact hH; (repeat constructor); (repeat rfl); clear hH; rintro _ w hH))) | ((first | refine CT ?_ | (refine DT ?_ ?_ <;> intro hc <;> try (exfalso; omega))) <;> repeat' refine CT ?_) | (first | (refine DSK ?_; clear hA a; intro a hA) | (first | (refine DLT ?_; clear hA hH; rintro _ w ⟨oN, rfl, hH⟩; refine ⟨STT, ?_⟩; intro a hA) | (refine DAT ?_; clear hA; rintro _ w ⟨oN, cN, rfl, hH2⟩; clear hH; have hH := (hH2 _ (by (repeat constructor))).tail; clear hH2; refine ⟨STT, ?_⟩; intro a hA))) )
    simp only [Nat.zero_add] at hA hH
    rw [ones_snoc] at hH
    exact ⟨(k2 + 1, _, _), ⟨hlt2, hH, (hA.sub (by (repeat (first | exact trivial | refine ⟨rfl, ?_⟩))))⟩, by show sz - (k2 + 1) < sz - k2; omega⟩
  clear hA hH
  rintro a w ⟨oW, cW, hH, hA⟩
  repeat' (first | (first | (refine GT ?_ ?_ <;> intro hg <;> clear hA a <;> intro a hA <;> (first | exact FA | replace hg := of_decide_eq_true hg | replace hg := of_decide_eq_false hg | skip)) | ((first | apply st_ex hA hH rfl rfl (by decide) | apply dr_ex hA rfl rfl rfl (by decide) | apply dr_exp hA rfl rfl rfl (by decide) | apply dr_ex3 hA hH rfl rfl rfl (by decide)); (first | (apply ex_slice_hi (k := i); rfl; rfl; rfl; omega)); clear hA a; intro a hA) | (refine QT0 ?_; clear hA a; intro a hA) | (first | (refine BT ?_; clear hA hH; rintro _ w ⟨bN, rfl, hH⟩ a hA) | (refine LT ?_; clear hA hH; rintro _ w ⟨oN, rfl, hH⟩ a hA) | (refine AT ?_; clear hA; rintro _ w ⟨oN, cN, rfl, hH2⟩ a hA; clear hH; have hH := (hH2 _ (by (repeat constructor))).tail; clear hH2) | (refine S0T ?_; clear hH; rintro _ w hH) | (apply st_op hA rfl rfl (by decide); apply op_append; rfl; rfl; exact hH; exact MEMT; exact rd_take encO_len (hH.own_rd (o := qo) (by exact MEMT)); exact (by rw [flat_length encO_len, hz1]); rfl; decide; exact flat_one_cell (fun _ => rfl) _; (unfold maxLen; omega); omega; clear hA; rintro _ w ⟨oN, cN, rfl, hH2⟩ a hA; clear hH; have hH := hH2 _ (by (repeat constructor)); clear hH2))) | ((first | refine CT ?_ | (refine DT ?_ ?_ <;> intro hc <;> try (exfalso; omega))) <;> repeat' refine CT ?_) | (first | (refine DSK ?_; clear hA a; intro a hA) | (first | (refine DLT ?_; clear hA hH; rintro _ w ⟨oN, rfl, hH⟩; refine ⟨STT, ?_⟩; intro a hA) | (refine DAT ?_; clear hA; rintro _ w ⟨oN, cN, rfl, hH2⟩; clear hH; have hH := (hH2 _ (by (repeat constructor))).tail; clear hH2; refine ⟨STT, ?_⟩; intro a hA))) )
  simp only [Nat.zero_add, List.nil_append] at hH hA
  repeat' (first | (first | (refine GT ?_ ?_ <;> intro hg <;> clear hA a <;> intro a hA <;> (first | exact FA | replace hg := of_decide_eq_true hg | replace hg := of_decide_eq_false hg | skip)) | ((first | apply st_ex hA hH rfl rfl (by decide) | apply dr_ex hA rfl rfl rfl (by decide) | apply dr_exp hA rfl rfl rfl (by decide) | apply dr_ex3 hA hH rfl rfl rfl (by decide)); (first | (apply ex_slice_lo (k := i); rfl; rfl; rfl; omega)); clear hA a; intro a hA) | (refine QT0 ?_; clear hA a; intro a hA) | (first | (refine BT ?_; clear hA hH; rintro _ w ⟨bN, rfl, hH⟩ a hA) | (refine LT ?_; clear hA hH; rintro _ w ⟨oN, rfl, hH⟩ a hA) | (refine AT ?_; clear hA; rintro _ w ⟨oN, cN, rfl, hH2⟩ a hA; clear hH; have hH := (hH2 _ (by (repeat constructor))).tail; clear hH2) | (refine S0T ?_; clear hH; rintro _ w hH) | (apply st_op hA rfl rfl (by decide); apply op_append; rfl; rfl; exact hH; exact MEMT; exact rd_drop encO_len (A := A.zip dA) (B := B.zip dB) (k := i) (n := L.length) (hH.own_rd (o := qo) (by exact MEMT)) hz1.symm (by rw [List.length_append, hz1, hz2]; omega) (by omega); exact (by rw [flat_length encO_len, hz2]; omega); rfl; decide; exact flat_one_cell (fun _ => rfl) _; (unfold maxLen; omega); omega; clear hA; rintro _ w ⟨oN, cN, rfl, hH2⟩ a hA; clear hH; have hH := hH2 _ (by (repeat constructor)); clear hH2) | (apply st_op0 hA rfl rfl; apply op_store_fld; rfl; rfl; rfl; exact hH; (repeat constructor); (repeat rfl); clear hH; rintro _ w hH))) | ((first | refine CT ?_ | (refine DT ?_ ?_ <;> intro hc <;> try (exfalso; omega))) <;> repeat' refine CT ?_) | (first | (refine DSK ?_; clear hA a; intro a hA) | (first | (refine DLT ?_; clear hA hH; rintro _ w ⟨oN, rfl, hH⟩; refine ⟨STT, ?_⟩; intro a hA) | (refine DAT ?_; clear hA; rintro _ w ⟨oN, cN, rfl, hH2⟩; clear hH; have hH := (hH2 _ (by (repeat constructor))).tail; clear hH2; refine ⟨STT, ?_⟩; intro a hA))) )
  have en : i + 1 + (L.length - i) = (A ++ newO kd sz e1 :: B).length := by rw [List.length_append, List.length_cons]; omega
  have hnew := flat_new (A.zip dA) (B.zip dB) (newO kd sz e1, ((oW, sz, cW) : Sd))
  have hnl : L.map (·.fs) = A.map (·.fs) ++ B.map (·.fs) := by rw [eL, List.map_append]
  rw [show (newO kd sz e1).a = e1 from rfl, show (newO kd sz e1).kind = kd from rfl] at hnew
  dsimp only at hnew
  rw [en, hnew, eD, hnl, owns_split (by rw [List.length_map]; omega)] at hH
  refine rt2 (.inl rfl) rfl hA rfl rfl ⟨rfl, ?_⟩
  exact rf_close2 (d := (oW, sz, cW)) (by omega) ldB (HS.re3 hH)
end Go.Proofs.Ytdfhajdejlhamaa
namespace Go.Proofs.Ytdfhajdejlhamaa
open Go Go.Fw
set_option linter.unusedVariables false
section
variable {w0 w : World} {M : Nat → Prop} {H : List It} {b N : Nat} {L : List Ob}
theorem rf_readM (hH : HS w0 M H w) (hm : rfI b N L ∈ H) : RfR w b N L := rf_read (hH.pick hm)
theorem rget_f {z i : Int} (hH : HS w0 M H w) (hm : rfI b N L ∈ H) (hok : Ok N L) : Ret Try.prog 55 #[.pointer (some (bat b 0)), .int .i64 z, .int .i64 i] w (fun v w' => v = .tuple #[.int .u64 (getA L z i).1, .int .i64 (getA L z i).2] ∧ HS w0 M H w') :=
  (rget_spec w b N L z i hok (rf_readM hH hm)).mono fun v w' ⟨h1, h2⟩ => ⟨h1, hH.keep h2⟩
theorem rnext_f {z : Int} (hH : HS w0 M H w) (hm : rfI b N L ∈ H) (hok : Ok N L) : Ret Try.prog 83 #[.pointer (some (bat b 0)), .int .i64 z] w (fun v w' => v = .int .i64 (nextA L z) ∧ HS w0 M H w') :=
  (rnext_spec w b N L z hok.len (rf_readM hH hm)).mono fun v w' ⟨h1, h2⟩ => ⟨h1, hH.keep h2⟩
theorem rset_f {z i x : Int} (hH : HS w0 M (rfI b N L :: H) w) (hok : Ok N L) : Ret Try.prog 31 #[.pointer (some (bat b 0)), .int .i64 z, .int .i64 i, .int .u64 x] w (fun v w' => v = .int .i64 (setA L z i x).1 ∧ HS w0 M (rfI b N (setA L z i x).2 :: H) w') := by
  obtain ⟨Mc, h1, -, h2⟩ := HS.frame (Hc := [rfI b N L]) (Hf := H) hH
  exact (rset_spec w Mc b N L z i x hok h1).mono fun v w' ⟨h3, h4⟩ => ⟨h3, h2 _ _ h4⟩
theorem ralloc_f {k s : Int} (hH : HS w0 M (rfI b N L :: H) w) (hok : Ok N L) : Ret Try.prog 28 #[.pointer (some (bat b 0)), .int .i64 k, .int .i64 s] w (fun v w' => v = .tuple #[.int .i64 (allocA N L k s).1, .int .i64 (allocA N L k s).2.1] ∧ HS w0 M (rfI b N (allocA N L k s).2.2 :: H) w') := by
  obtain ⟨Mc, h1, -, h2⟩ := HS.frame (Hc := [rfI b N L]) (Hf := H) hH
  exact (ralloc_spec w Mc b N L k s hok h1).mono fun v w' ⟨h3, h4⟩ => ⟨h3, h2 _ _ h4⟩
theorem rfree_f {z : Int} (hH : HS w0 M (rfI b N L :: H) w) (hok : Ok N L) : Ret Try.prog 85 #[.pointer (some (bat b 0)), .int .i64 z] w (fun v w' => v = .int .i64 (freeA L z).1 ∧ HS w0 M (rfI b N (freeA L z).2 :: H) w') := by
  obtain ⟨Mc, h1, -, h2⟩ := HS.frame (Hc := [rfI b N L]) (Hf := H) hH
  exact (rfree_spec w Mc b N L z hok h1).mono fun v w' ⟨h3, h4⟩ => ⟨h3, h2 _ _ h4⟩
end
set_option maxRecDepth 10000 attribute [local irreducible] Code.wp wpList Calls Ex Op1 sat bat blk cb own Go.Fw.mp Go.Fw.mpO Go.Fw.mpI Go.Fw.mpE Go.Fw.itr HS Rd Ret wkD Hp Cl Cls Exit.then Exit.inBlock Exit.noGoto bodyPost Go.Fw.flat wk2 Go.Fw.all Go.Fw.owns wpOp
attribute [local irreducible] hdA gaps isA roomA nextA allocA freeA sizeA kindA usedA setA getA findI objA

theorem rnew_spec (w0 : World) (z : Int) :
    Ret Try.prog 26 #[.int .i64 z] w0 (fun v w => (v = .pointer none ∧ ¬ (2 ≤ z ∧ z ≤ 65536) ∧ Kp w0 noM w) ∨ ((2 ≤ z ∧ z ≤ 65536) ∧ ∃ b, v = .pointer (some (bat b 0)) ∧ HS w0 noM [rfI b z.toNat []] w)) := by
  have hH : HS w0 noM [] w0 := HS.init w0 noM
  (refine enter (N := 12) Try.func26 rfl Try.ntmps26 rfl ?_; intro a hA; dsimp only [sl0, Nat.reduceAdd] at hA)
  by_cases hz : 2 ≤ z ∧ z ≤ 65536
  · obtain ⟨N, rfl⟩ : ∃ N : Nat, z = N := ⟨z.toNat, by omega⟩
    repeat' (first | (first | (refine GT ?_ ?_ <;> intro hg <;> clear hA a <;> intro a hA <;> (first | exact FA | replace hg := of_decide_eq_true hg | replace hg := of_decide_eq_false hg | skip)) | ((first | apply st_ex hA hH rfl rfl (by decide) | apply dr_ex hA rfl rfl rfl (by decide) | apply dr_exp hA rfl rfl rfl (by decide) | apply dr_ex3 hA hH rfl rfl rfl (by decide)); (first | (apply ex_build_p #[.int .i64 (N : Int), .slice none 0 0]; rfl; (repeat (first | (intro _ h; exact absurd h (List.not_mem_nil)) | (refine List.forall_mem_cons.2 ⟨one_cell_of _ _, ?_⟩))); rfl)); clear hA a; intro a hA) | (refine QT0 ?_; clear hA a; intro a hA) | (first | (refine BT ?_; clear hA hH; rintro _ w ⟨bN, rfl, hH⟩ a hA) | (refine LT ?_; clear hA hH; rintro _ w ⟨oN, rfl, hH⟩ a hA) | (refine AT ?_; clear hA; rintro _ w ⟨oN, cN, rfl, hH2⟩ a hA; clear hH; have hH := (hH2 _ (by (repeat constructor))).tail; clear hH2) | (refine S0T ?_; clear hH; rintro _ w hH) )) | ((first | refine CT ?_ | (refine DT ?_ ?_ <;> intro hc <;> try (exfalso; omega))) <;> repeat' refine CT ?_) | (first | (refine DSK ?_; clear hA a; intro a hA) | (first | (refine DLT ?_; clear hA hH; rintro _ w ⟨oN, rfl, hH⟩; refine ⟨STT, ?_⟩; intro a hA) | (refine DAT ?_; clear hA; rintro _ w ⟨oN, cN, rfl, hH2⟩; clear hH; have hH := (hH2 _ (by (repeat constructor))).tail; clear hH2; refine ⟨STT, ?_⟩; intro a hA))) )
    replace hH := ((hH.nil_all).nil_own 53 3).perm (H' := [cb bN 56 [.int .i64 (N : Int), .slice none 0 0], own 53 3 none 0 0 [], all []]) (by (repeat (first | exact List.Perm.nil | refine perm_pick 0 rfl ?_ | refine perm_pick 1 rfl ?_ | refine perm_pick 2 rfl ?_ | refine perm_pick 3 rfl ?_ | refine perm_pick 4 rfl ?_ | refine perm_pick 5 rfl ?_ | refine perm_pick 6 rfl ?_ | refine perm_pick 7 rfl ?_ | refine perm_pick 8 rfl ?_ | refine perm_pick 9 rfl ?_ | refine perm_pick 10 rfl ?_ | refine perm_pick 11 rfl ?_)))
    refine rt1 (.inl rfl) rfl hA rfl (Or.inr ⟨hz, bN, rfl, ?_⟩)
    rw [Int.toNat_natCast]
    exact rf_close0 hH
  · repeat' (first | (first | (refine GT ?_ ?_ <;> intro hg <;> clear hA a <;> intro a hA <;> (first | exact FA | replace hg := of_decide_eq_true hg | replace hg := of_decide_eq_false hg | skip)) | (refine QT0 ?_; clear hA a; intro a hA) | (first | (refine BT ?_; clear hA hH; rintro _ w ⟨bN, rfl, hH⟩ a hA) | (refine LT ?_; clear hA hH; rintro _ w ⟨oN, rfl, hH⟩ a hA) | (refine AT ?_; clear hA; rintro _ w ⟨oN, cN, rfl, hH2⟩ a hA; clear hH; have hH := (hH2 _ (by (repeat constructor))).tail; clear hH2) | (refine S0T ?_; clear hH; rintro _ w hH) )) | ((first | refine CT ?_ | (refine DT ?_ ?_ <;> intro hc <;> try (exfalso; omega))) <;> repeat' refine CT ?_) | (first | (refine DSK ?_; clear hA a; intro a hA) | (first | (refine DLT ?_; clear hA hH; rintro _ w ⟨oN, rfl, hH⟩; refine ⟨STT, ?_⟩; intro a hA) | (refine DAT ?_; clear hA; rintro _ w ⟨oN, cN, rfl, hH2⟩; clear hH; have hH := (hH2 _ (by (repeat constructor))).tail; clear hH2; refine ⟨STT, ?_⟩; intro a hA))) )
    all_goals exact rt1 (.inl rfl) rfl hA rfl (Or.inl ⟨rfl, hz, hH.kp⟩)
theorem rnew_f {w0 w : World} {M : Nat → Prop} {H : List It} {z : Int} (hH : HS w0 M H w) : Ret Try.prog 26 #[.int .i64 z] w (fun v w' => (v = .pointer none ∧ ¬ (2 ≤ z ∧ z ≤ 65536) ∧ HS w0 M H w') ∨ ((2 ≤ z ∧ z ≤ 65536) ∧ ∃ b, v = .pointer (some (bat b 0)) ∧ HS w0 M (rfI b z.toNat [] :: H) w')) :=
  (rnew_spec w z).mono fun v w' h => by
    rcases h with ⟨h1, h2, h3⟩ | ⟨h1, b', h2, h3⟩
    · exact .inl ⟨h1, h2, hH.keep h3⟩
    · exact .inr ⟨h1, b', h2, hH.join h3⟩

end Go.Proofs.Ytdfhajdejlhamaa
namespace Go.Proofs.Ytdfhajdejlhamaa
open Go Go.Fw
set_option linter.unusedVariables false
def encN (a : Nat) : List Value := [.int .i64 (a : Int)]
theorem encN_len (a : Nat) : (encN a).length = 1 := rfl
theorem encN_at {l : List Nat} {i : Nat} {a : Nat} (h : l[i]? = some a) : (flat encN l)[i * 1]? = some (.int .i64 (a : Int)) := flat_get0 encN_len h rfl
theorem u64_mod (m : Int) : IntKind.u64.wrap m = m % 18446744073709551616 := rfl
theorem and1 {x : Int} (h : U x) : andK .u64 x 1 = x % 2 := by
  obtain ⟨n, rfl⟩ : ∃ n : Nat, x = n := ⟨x.toNat, by have := h.1; omega⟩
  have h2 := h.2
  unfold andK
  rw [u64_mod]
  have e : (BitVec.ofInt IntKind.u64.bits (n : Int) &&& BitVec.ofInt IntKind.u64.bits 1).toNat = n % 2 := by
    rw [BitVec.toNat_and, BitVec.ofInt_natCast, BitVec.toNat_ofNat]
    have e1 : (BitVec.ofInt IntKind.u64.bits 1).toNat = 1 := by decide
    rw [e1, Nat.and_one_is_mod]
    show n % 2 ^ 64 % 2 = n % 2
    omega
  rw [e]
  omega
theorem shr1_U {x : Int} (h : U x) : shrK .u64 x 1 = x / 2 := by
  have e : shrK .u64 x 1 = x.fdiv 2 := rfl
  rw [e, Int.fdiv_eq_ediv_of_nonneg _ (by decide)]
theorem rem2_U {x : Int} (h : U x) : x.tmod 2 = x % 2 := Int.tmod_eq_emod_of_nonneg h.1
theorem quo2_U {x : Int} (h : U x) : IntKind.u64.wrap (x.tdiv 2) = x / 2 := by
  have := h.1
  have := h.2
  rw [Int.tdiv_eq_ediv_of_nonneg h.1, u64_mod]
  omega
/-- falling numbers -/
def PosF (gr : List Nat) (t : Nat) (i : Nat) : Prop := i ≤ gr.length ∧ (∀ (k r : Nat), k < i → gr[k]? = some r → t < r) ∧ ∀ (k r : Nat), i ≤ k → gr[k]? = some r → r ≤ t
set_option maxRecDepth 10000 attribute [local irreducible] Code.wp wpList Calls Ex Op1 sat bat blk cb own Go.Fw.mp Go.Fw.mpO Go.Fw.mpI Go.Fw.mpE Go.Fw.itr HS Rd Ret wkD Hp Cl Cls Exit.then Exit.inBlock Exit.noGoto bodyPost Go.Fw.flat wk2 Go.Fw.all Go.Fw.owns wpOp
attribute [local irreducible] shrK andK

theorem isnum_spec (w0 : World) (x : Int) (h : U x) : Ret Try.prog 64 #[.int .u64 x] w0 (fun v w => v = .bool (numW x) ∧ Kp w0 noM w) := by
  have hH : HS w0 noM [] w0 := HS.init w0 noM
  have h1 := and1 h
  (refine enter (N := 6) Try.func64 rfl Try.ntmps64 rfl ?_; intro a hA; dsimp only [sl0, Nat.reduceAdd] at hA)
  repeat' (first | (first | (refine GT ?_ ?_ <;> intro hg <;> clear hA a <;> intro a hA <;> (first | exact FA | replace hg := of_decide_eq_true hg | replace hg := of_decide_eq_false hg | skip)) | ((first | apply st_ex hA hH rfl rfl (by decide) | apply dr_ex hA rfl rfl rfl (by decide) | apply dr_exp hA rfl rfl rfl (by decide) | apply dr_ex3 hA hH rfl rfl rfl (by decide)); (first | (apply ex_and (v := x % 2); rfl; rfl; exact h1)); clear hA a; intro a hA) | (refine QT ?_; clear hA a; intro a hA) | (first | (refine BT ?_; clear hA hH; rintro _ w ⟨bN, rfl, hH⟩ a hA) | (refine LT ?_; clear hA hH; rintro _ w ⟨oN, rfl, hH⟩ a hA) | (refine AT ?_; clear hA; rintro _ w ⟨oN, cN, rfl, hH2⟩ a hA; clear hH; have hH := (hH2 _ (by (repeat constructor))).tail; clear hH2) | (refine S0T ?_; clear hH; rintro _ w hH) )) | ((first | refine CT ?_ | (refine DT ?_ ?_ <;> intro hc <;> try (exfalso; omega))) <;> repeat' refine CT ?_) | (first | (refine DSK ?_; clear hA a; intro a hA) | (first | (refine DLT ?_; clear hA hH; rintro _ w ⟨oN, rfl, hH⟩; refine ⟨STT, ?_⟩; intro a hA) | (refine DAT ?_; clear hA; rintro _ w ⟨oN, cN, rfl, hH2⟩; clear hH; have hH := (hH2 _ (by (repeat constructor))).tail; clear hH2; refine ⟨STT, ?_⟩; intro a hA))) )
  exact rt1 (.inl rfl) rfl hA rfl ⟨rfl, hH.kp⟩

theorem addr_spec (w0 : World) (x : Int) (h : U x) : Ret Try.prog 32 #[.int .u64 x] w0 (fun v w => v = .int .i64 (addrW x) ∧ Kp w0 noM w) := by
  have hH : HS w0 noM [] w0 := HS.init w0 noM
  have h1 := shr1_U h
  have h2 := h.1
  have h3 := h.2
  (refine enter (N := 13) Try.func32 rfl Try.ntmps32 rfl ?_; intro a hA; dsimp only [sl0, Nat.reduceAdd] at hA)
  repeat' (first | (first | (refine GT ?_ ?_ <;> intro hg <;> clear hA a <;> intro a hA <;> (first | exact FA | replace hg := of_decide_eq_true hg | replace hg := of_decide_eq_false hg | skip)) | (refine QT ?_; clear hA a; intro a hA) | (first | (refine BT ?_; clear hA hH; rintro _ w ⟨bN, rfl, hH⟩ a hA) | (refine LT ?_; clear hA hH; rintro _ w ⟨oN, rfl, hH⟩ a hA) | (refine AT ?_; clear hA; rintro _ w ⟨oN, cN, rfl, hH2⟩ a hA; clear hH; have hH := (hH2 _ (by (repeat constructor))).tail; clear hH2) | (refine S0T ?_; clear hH; rintro _ w hH) )) | ((first | refine CT ?_ | (refine DT ?_ ?_ <;> intro hc <;> try (exfalso; omega))) <;> repeat' refine CT ?_) | (first | (refine DSK ?_; clear hA a; intro a hA) | (first | (refine DLT ?_; clear hA hH; rintro _ w ⟨oN, rfl, hH⟩; refine ⟨STT, ?_⟩; intro a hA) | (refine DAT ?_; clear hA; rintro _ w ⟨oN, cN, rfl, hH2⟩; clear hH; have hH := (hH2 _ (by (repeat constructor))).tail; clear hH2; refine ⟨STT, ?_⟩; intro a hA))) )
  (refine st_op hA rfl rfl (by decide) (op_call rfl rfl rfl (isnum_spec _ x h)) ?_; clear hA; rintro _ w ⟨rfl, hk⟩ a hA; replace hH := hH.keep hk; clear hk)
  by_cases hn : x % 2 = 1
  · have e : numW x = true := decide_eq_true hn
    have e2 : addrW x = 0 := if_pos (.inl hn)
    rw [e] at hA
    rw [e2]
    repeat' (first | (first | (refine GT ?_ ?_ <;> intro hg <;> clear hA a <;> intro a hA <;> (first | exact FA | replace hg := of_decide_eq_true hg | replace hg := of_decide_eq_false hg | skip)) | (refine QT ?_; clear hA a; intro a hA) | (first | (refine BT ?_; clear hA hH; rintro _ w ⟨bN, rfl, hH⟩ a hA) | (refine LT ?_; clear hA hH; rintro _ w ⟨oN, rfl, hH⟩ a hA) | (refine AT ?_; clear hA; rintro _ w ⟨oN, cN, rfl, hH2⟩ a hA; clear hH; have hH := (hH2 _ (by (repeat constructor))).tail; clear hH2) | (refine S0T ?_; clear hH; rintro _ w hH) )) | ((first | refine CT ?_ | (refine DT ?_ ?_ <;> intro hc <;> try (exfalso; omega))) <;> repeat' refine CT ?_) | (first | (refine DSK ?_; clear hA a; intro a hA) | (first | (refine DLT ?_; clear hA hH; rintro _ w ⟨oN, rfl, hH⟩; refine ⟨STT, ?_⟩; intro a hA) | (refine DAT ?_; clear hA; rintro _ w ⟨oN, cN, rfl, hH2⟩; clear hH; have hH := (hH2 _ (by (repeat constructor))).tail; clear hH2; refine ⟨STT, ?_⟩; intro a hA))) )
    exact rt1 (.inl rfl) rfl hA rfl ⟨rfl, hH.kp⟩
  · have e : numW x = false := decide_eq_false hn
    rw [e] at hA
    by_cases hb : 2147483647 < x / 2
    · have e2 : addrW x = 0 := if_pos (.inr hb)
      rw [e2]
      repeat' (first | (first | (refine GT ?_ ?_ <;> intro hg <;> clear hA a <;> intro a hA <;> (first | exact FA | replace hg := of_decide_eq_true hg | replace hg := of_decide_eq_false hg | skip)) | ((first | apply st_ex hA hH rfl rfl (by decide) | apply dr_ex hA rfl rfl rfl (by decide) | apply dr_exp hA rfl rfl rfl (by decide) | apply dr_ex3 hA hH rfl rfl rfl (by decide)); (first | (apply ex_shr (v := x / 2); rfl; rfl; decide; exact h1)); clear hA a; intro a hA) | (refine QT ?_; clear hA a; intro a hA) | (first | (refine BT ?_; clear hA hH; rintro _ w ⟨bN, rfl, hH⟩ a hA) | (refine LT ?_; clear hA hH; rintro _ w ⟨oN, rfl, hH⟩ a hA) | (refine AT ?_; clear hA; rintro _ w ⟨oN, cN, rfl, hH2⟩ a hA; clear hH; have hH := (hH2 _ (by (repeat constructor))).tail; clear hH2) | (refine S0T ?_; clear hH; rintro _ w hH) )) | ((first | refine CT ?_ | (refine DT ?_ ?_ <;> intro hc <;> try (exfalso; omega))) <;> repeat' refine CT ?_) | (first | (refine DSK ?_; clear hA a; intro a hA) | (first | (refine DLT ?_; clear hA hH; rintro _ w ⟨oN, rfl, hH⟩; refine ⟨STT, ?_⟩; intro a hA) | (refine DAT ?_; clear hA; rintro _ w ⟨oN, cN, rfl, hH2⟩; clear hH; have hH := (hH2 _ (by (repeat constructor))).tail; clear hH2; refine ⟨STT, ?_⟩; intro a hA))) )
      exact rt1 (.inl rfl) rfl hA rfl ⟨rfl, hH.kp⟩
    · have e2 : addrW x = x / 2 := if_neg (by omega)
      have e3 : IntKind.i64.wrap (x / 2) = x / 2 := wrap_i64 ⟨by omega, by omega⟩
      rw [e2]
      repeat' (first | (first | (refine GT ?_ ?_ <;> intro hg <;> clear hA a <;> intro a hA <;> (first | exact FA | replace hg := of_decide_eq_true hg | replace hg := of_decide_eq_false hg | skip)) | ((first | apply st_ex hA hH rfl rfl (by decide) | apply dr_ex hA rfl rfl rfl (by decide) | apply dr_exp hA rfl rfl rfl (by decide) | apply dr_ex3 hA hH rfl rfl rfl (by decide)); (first | (apply ex_shr (v := x / 2); rfl; rfl; decide; exact h1) | (apply ex_convert (v := x / 2); rfl; exact e3)); clear hA a; intro a hA) | (refine QT ?_; clear hA a; intro a hA) | (first | (refine BT ?_; clear hA hH; rintro _ w ⟨bN, rfl, hH⟩ a hA) | (refine LT ?_; clear hA hH; rintro _ w ⟨oN, rfl, hH⟩ a hA) | (refine AT ?_; clear hA; rintro _ w ⟨oN, cN, rfl, hH2⟩ a hA; clear hH; have hH := (hH2 _ (by (repeat constructor))).tail; clear hH2) | (refine S0T ?_; clear hH; rintro _ w hH) )) | ((first | refine CT ?_ | (refine DT ?_ ?_ <;> intro hc <;> try (exfalso; omega))) <;> repeat' refine CT ?_) | (first | (refine DSK ?_; clear hA a; intro a hA) | (first | (refine DLT ?_; clear hA hH; rintro _ w ⟨oN, rfl, hH⟩; refine ⟨STT, ?_⟩; intro a hA) | (refine DAT ?_; clear hA; rintro _ w ⟨oN, cN, rfl, hH2⟩; clear hH; have hH := (hH2 _ (by (repeat constructor))).tail; clear hH2; refine ⟨STT, ?_⟩; intro a hA))) )
      exact rt1 (.inl rfl) rfl hA rfl ⟨rfl, hH.kp⟩

theorem risnum_spec (w0 : World) (x : Int) (h : U x) : Ret Try.prog 76 #[.int .u64 x] w0 (fun v w => v = .bool (numW x) ∧ Kp w0 noM w) := by
  have hH : HS w0 noM [] w0 := HS.init w0 noM
  have h1 := rem2_U h
  (refine enter (N := 6) Try.func76 rfl Try.ntmps76 rfl ?_; intro a hA; dsimp only [sl0, Nat.reduceAdd] at hA)
  repeat' (first | (first | (refine GT ?_ ?_ <;> intro hg <;> clear hA a <;> intro a hA <;> (first | exact FA | replace hg := of_decide_eq_true hg | replace hg := of_decide_eq_false hg | skip)) | (refine QT ?_; clear hA a; intro a hA) | (first | (refine BT ?_; clear hA hH; rintro _ w ⟨bN, rfl, hH⟩ a hA) | (refine LT ?_; clear hA hH; rintro _ w ⟨oN, rfl, hH⟩ a hA) | (refine AT ?_; clear hA; rintro _ w ⟨oN, cN, rfl, hH2⟩ a hA; clear hH; have hH := (hH2 _ (by (repeat constructor))).tail; clear hH2) | (refine S0T ?_; clear hH; rintro _ w hH) )) | ((first | refine CT ?_ | (refine DT ?_ ?_ <;> intro hc <;> try (exfalso; omega))) <;> repeat' refine CT ?_) | (first | (refine DSK ?_; clear hA a; intro a hA) | (first | (refine DLT ?_; clear hA hH; rintro _ w ⟨oN, rfl, hH⟩; refine ⟨STT, ?_⟩; intro a hA) | (refine DAT ?_; clear hA; rintro _ w ⟨oN, cN, rfl, hH2⟩; clear hH; have hH := (hH2 _ (by (repeat constructor))).tail; clear hH2; refine ⟨STT, ?_⟩; intro a hA))) )
  rw [h1] at hA
  exact rt1 (.inl rfl) rfl hA rfl ⟨rfl, hH.kp⟩

theorem raddr_spec (w0 : World) (x : Int) (h : U x) : Ret Try.prog 77 #[.int .u64 x] w0 (fun v w => v = .int .i64 (addrW x) ∧ Kp w0 noM w) := by
  have hH : HS w0 noM [] w0 := HS.init w0 noM
  have h1 := rem2_U h
  have h4 := quo2_U h
  have h2 := h.1
  have h3 := h.2
  (refine enter (N := 14) Try.func77 rfl Try.ntmps77 rfl ?_; intro a hA; dsimp only [sl0, Nat.reduceAdd] at hA)
  by_cases hn : x % 2 = 1
  · have e2 : addrW x = 0 := if_pos (.inl hn)
    rw [e2]
    repeat' (first | (first | (refine GT ?_ ?_ <;> intro hg <;> clear hA a <;> intro a hA <;> (first | exact FA | replace hg := of_decide_eq_true hg | replace hg := of_decide_eq_false hg | skip)) | (refine QT ?_; clear hA a; intro a hA) | (first | (refine BT ?_; clear hA hH; rintro _ w ⟨bN, rfl, hH⟩ a hA) | (refine LT ?_; clear hA hH; rintro _ w ⟨oN, rfl, hH⟩ a hA) | (refine AT ?_; clear hA; rintro _ w ⟨oN, cN, rfl, hH2⟩ a hA; clear hH; have hH := (hH2 _ (by (repeat constructor))).tail; clear hH2) | (refine S0T ?_; clear hH; rintro _ w hH) )) | ((first | refine CT ?_ | (refine DT ?_ ?_ <;> intro hc <;> try (exfalso; omega))) <;> repeat' refine CT ?_) | (first | (refine DSK ?_; clear hA a; intro a hA) | (first | (refine DLT ?_; clear hA hH; rintro _ w ⟨oN, rfl, hH⟩; refine ⟨STT, ?_⟩; intro a hA) | (refine DAT ?_; clear hA; rintro _ w ⟨oN, cN, rfl, hH2⟩; clear hH; have hH := (hH2 _ (by (repeat constructor))).tail; clear hH2; refine ⟨STT, ?_⟩; intro a hA))) )
    exact rt1 (.inl rfl) rfl hA rfl ⟨rfl, hH.kp⟩
  · by_cases hb : 2147483647 < x / 2
    · have e2 : addrW x = 0 := if_pos (.inr hb)
      rw [e2]
      repeat' (first | (first | (refine GT ?_ ?_ <;> intro hg <;> clear hA a <;> intro a hA <;> (first | exact FA | replace hg := of_decide_eq_true hg | replace hg := of_decide_eq_false hg | skip)) | (refine QT ?_; clear hA a; intro a hA) | (first | (refine BT ?_; clear hA hH; rintro _ w ⟨bN, rfl, hH⟩ a hA) | (refine LT ?_; clear hA hH; rintro _ w ⟨oN, rfl, hH⟩ a hA) | (refine AT ?_; clear hA; rintro _ w ⟨oN, cN, rfl, hH2⟩ a hA; clear hH; have hH := (hH2 _ (by (repeat constructor))).tail; clear hH2) | (refine S0T ?_; clear hH; rintro _ w hH) )) | ((first | refine CT ?_ | (refine DT ?_ ?_ <;> intro hc <;> try (exfalso; omega))) <;> repeat' refine CT ?_) | (first | (refine DSK ?_; clear hA a; intro a hA) | (first | (refine DLT ?_; clear hA hH; rintro _ w ⟨oN, rfl, hH⟩; refine ⟨STT, ?_⟩; intro a hA) | (refine DAT ?_; clear hA; rintro _ w ⟨oN, cN, rfl, hH2⟩; clear hH; have hH := (hH2 _ (by (repeat constructor))).tail; clear hH2; refine ⟨STT, ?_⟩; intro a hA))) )
      all_goals exact rt1 (.inl rfl) rfl hA rfl ⟨rfl, hH.kp⟩
    · have e2 : addrW x = x / 2 := if_neg (by omega)
      have e3 : IntKind.i64.wrap (IntKind.u64.wrap (x.tdiv 2)) = x / 2 := by rw [h4]; exact wrap_i64 ⟨by omega, by omega⟩
      rw [e2]
      repeat' (first | (first | (refine GT ?_ ?_ <;> intro hg <;> clear hA a <;> intro a hA <;> (first | exact FA | replace hg := of_decide_eq_true hg | replace hg := of_decide_eq_false hg | skip)) | ((first | apply st_ex hA hH rfl rfl (by decide) | apply dr_ex hA rfl rfl rfl (by decide) | apply dr_exp hA rfl rfl rfl (by decide) | apply dr_ex3 hA hH rfl rfl rfl (by decide)); (first | (apply ex_convert (v := x / 2); rfl; exact e3)); clear hA a; intro a hA) | (refine QT ?_; clear hA a; intro a hA) | (first | (refine BT ?_; clear hA hH; rintro _ w ⟨bN, rfl, hH⟩ a hA) | (refine LT ?_; clear hA hH; rintro _ w ⟨oN, rfl, hH⟩ a hA) | (refine AT ?_; clear hA; rintro _ w ⟨oN, cN, rfl, hH2⟩ a hA; clear hH; have hH := (hH2 _ (by (repeat constructor))).tail; clear hH2) | (refine S0T ?_; clear hH; rintro _ w hH) )) | ((first | refine CT ?_ | (refine DT ?_ ?_ <;> intro hc <;> try (exfalso; omega))) <;> repeat' refine CT ?_) | (first | (refine DSK ?_; clear hA a; intro a hA) | (first | (refine DLT ?_; clear hA hH; rintro _ w ⟨oN, rfl, hH⟩; refine ⟨STT, ?_⟩; intro a hA) | (refine DAT ?_; clear hA; rintro _ w ⟨oN, cN, rfl, hH2⟩; clear hH; have hH := (hH2 _ (by (repeat constructor))).tail; clear hH2; refine ⟨STT, ?_⟩; intro a hA))) )
      exact rt1 (.inl rfl) rfl hA rfl ⟨rfl, hH.kp⟩

theorem ref_spec (w0 : World) (ad : Nat) (h : ad ≤ 2147483647) : Ret Try.prog 30 #[.int .i64 (ad : Int)] w0 (fun v w => v = .int .u64 (2 * (ad : Int)) ∧ Kp w0 noM w) := by
  have hH : HS w0 noM [] w0 := HS.init w0 noM
  have h1 : IntKind.u64.wrap (ad : Int) = ad := IntWalk.u64_in _ (by omega)
  have h2 : shlK .u64 (ad : Int) 1 = 2 * (ad : Int) := by
    unfold shlK
    have : IntKind.u64.wrap ((ad : Int) * 2 ^ (1 : Int).toNat) = 2 * (ad : Int) := by
      show ((ad : Int) * 2 ^ 1) % 18446744073709551616 = _
      omega
    first | exact this | (simp at this ⊢; exact this)
  (refine enter (N := 12) Try.func30 rfl Try.ntmps30 rfl ?_; intro a hA; dsimp only [sl0, Nat.reduceAdd] at hA)
  repeat' (first | (first | (refine GT ?_ ?_ <;> intro hg <;> clear hA a <;> intro a hA <;> (first | exact FA | replace hg := of_decide_eq_true hg | replace hg := of_decide_eq_false hg | skip)) | ((first | apply st_ex hA hH rfl rfl (by decide) | apply dr_ex hA rfl rfl rfl (by decide) | apply dr_exp hA rfl rfl rfl (by decide) | apply dr_ex3 hA hH rfl rfl rfl (by decide)); (first | (apply ex_convert (v := (ad : Int)); rfl; exact h1) | (apply ex_shl (v := 2 * (ad : Int)); rfl; rfl; decide; exact h2)); clear hA a; intro a hA) | (refine QT ?_; clear hA a; intro a hA) | (first | (refine BT ?_; clear hA hH; rintro _ w ⟨bN, rfl, hH⟩ a hA) | (refine LT ?_; clear hA hH; rintro _ w ⟨oN, rfl, hH⟩ a hA) | (refine AT ?_; clear hA; rintro _ w ⟨oN, cN, rfl, hH2⟩ a hA; clear hH; have hH := (hH2 _ (by (repeat constructor))).tail; clear hH2) | (refine S0T ?_; clear hH; rintro _ w hH) )) | ((first | refine CT ?_ | (refine DT ?_ ?_ <;> intro hc <;> try (exfalso; omega))) <;> repeat' refine CT ?_) | (first | (refine DSK ?_; clear hA a; intro a hA) | (first | (refine DLT ?_; clear hA hH; rintro _ w ⟨oN, rfl, hH⟩; refine ⟨STT, ?_⟩; intro a hA) | (refine DAT ?_; clear hA; rintro _ w ⟨oN, cN, rfl, hH2⟩; clear hH; have hH := (hH2 _ (by (repeat constructor))).tail; clear hH2; refine ⟨STT, ?_⟩; intro a hA))) )
  exact rt1 (.inl rfl) rfl hA rfl ⟨rfl, hH.kp⟩

theorem cmpN_spec (w0 : World) (a b : Nat) (h : a ≤ 100000) (h' : b ≤ 100000) :
    Ret Try.prog 93 #[.int .i64 (a : Int), .int .i64 (b : Int)] w0 (fun v w => v = .int .i64 ((b : Int) - (a : Int)) ∧ Kp w0 noM w) := by
  have hH : HS w0 noM [] w0 := HS.init w0 noM
  (refine enter (N := 8) Try.func93 rfl Try.ntmps93 rfl ?_; intro a hA; dsimp only [sl0, Nat.reduceAdd] at hA)
  repeat' (first | (first | (refine GT ?_ ?_ <;> intro hg <;> clear hA a <;> intro a hA <;> (first | exact FA | replace hg := of_decide_eq_true hg | replace hg := of_decide_eq_false hg | skip)) | (refine QT ?_; clear hA a; intro a hA) | (first | (refine BT ?_; clear hA hH; rintro _ w ⟨bN, rfl, hH⟩ a hA) | (refine LT ?_; clear hA hH; rintro _ w ⟨oN, rfl, hH⟩ a hA) | (refine AT ?_; clear hA; rintro _ w ⟨oN, cN, rfl, hH2⟩ a hA; clear hH; have hH := (hH2 _ (by (repeat constructor))).tail; clear hH2) | (refine S0T ?_; clear hH; rintro _ w hH) )) | ((first | refine CT ?_ | (refine DT ?_ ?_ <;> intro hc <;> try (exfalso; omega))) <;> repeat' refine CT ?_) | (first | (refine DSK ?_; clear hA a; intro a hA) | (first | (refine DLT ?_; clear hA hH; rintro _ w ⟨oN, rfl, hH⟩; refine ⟨STT, ?_⟩; intro a hA) | (refine DAT ?_; clear hA; rintro _ w ⟨oN, cN, rfl, hH2⟩; clear hH; have hH := (hH2 _ (by (repeat constructor))).tail; clear hH2; refine ⟨STT, ?_⟩; intro a hA))) )
  exact rt1 (.inl rfl) rfl hA rfl ⟨rfl, hH.kp⟩

theorem searchN_spec (w0 : World) (o : Option Addr) (c : Nat) (gr : List Nat) (t : Nat) (hr : Rd w0 o (flat encN gr)) (hl : gr.length ≤ 1048576) (hs : gr.Pairwise (· > ·)) (hb : ∀ a ∈ gr, a ≤ 100000) (ht : t ≤ 100000) :
    Ret Try.prog 92 #[.slice o gr.length c, .int .i64 (t : Int), .func (.func 93) #[] #[]] w0
      (fun v w => (∃ (i : Nat) (b : Bool), v = .tuple #[.int .i64 i, .bool b] ∧ PosF gr t i) ∧ Kp w0 noM w) := by
  have hH : HS w0 noM [] w0 := HS.init w0 noM
  have hsp : Sp o gr.length := hr.sp (sz := 1) (flat_length encN_len gr) (by omega)
  have hs2 : ∀ (k k' r r' : Nat), k < k' → gr[k]? = some r → gr[k']? = some r' → r' < r := fun k k' r r' hkk h1 h2 => by
    have a1 := List.getElem?_eq_some_iff.1 h1
    have a2 := List.getElem?_eq_some_iff.1 h2
    have := List.pairwise_iff_getElem.1 hs k k' a1.1 a2.1 hkk
    rw [a1.2, a2.2] at this
    exact this
  (refine enter (N := 49) Try.func92 rfl Try.ntmps92 rfl ?_; intro a hA; dsimp only [sl0, Nat.reduceAdd] at hA)
  repeat' (first | (first | (refine GT ?_ ?_ <;> intro hg <;> clear hA a <;> intro a hA <;> (first | exact FA | replace hg := of_decide_eq_true hg | replace hg := of_decide_eq_false hg | skip)) | (refine QT ?_; clear hA a; intro a hA) | (first | (refine BT ?_; clear hA hH; rintro _ w ⟨bN, rfl, hH⟩ a hA) | (refine LT ?_; clear hA hH; rintro _ w ⟨oN, rfl, hH⟩ a hA) | (refine AT ?_; clear hA; rintro _ w ⟨oN, cN, rfl, hH2⟩ a hA; clear hH; have hH := (hH2 _ (by (repeat constructor))).tail; clear hH2) | (refine S0T ?_; clear hH; rintro _ w hH) )) | ((first | refine CT ?_ | (refine DT ?_ ?_ <;> intro hc <;> try (exfalso; omega))) <;> repeat' refine CT ?_) | (first | (refine DSK ?_; clear hA a; intro a hA) | (first | (refine DLT ?_; clear hA hH; rintro _ w ⟨oN, rfl, hH⟩; refine ⟨STT, ?_⟩; intro a hA) | (refine DAT ?_; clear hA; rintro _ w ⟨oN, cN, rfl, hH2⟩; clear hH; have hH := (hH2 _ (by (repeat constructor))).tail; clear hH2; refine ⟨STT, ?_⟩; intro a hA))) )
  refine wp_lpj (S := Nat × Nat) (fun s a w => (s.1 ≤ s.2 ∧ s.2 ≤ gr.length ∧ (∀ (k r : Nat), k < s.1 → gr[k]? = some r → t < r) ∧ ∀ (k r : Nat), s.2 ≤ k → gr[k]? = some r → r ≤ t) ∧ HS w0 noM [] w ∧
      Sl 49 [(0, .slice o gr.length c), (1, .int .i64 t), (2, .func (.func 93) #[] #[]), (8, .int .i64 gr.length), (9, .int .i64 s.1), (10, .int .i64 s.2)] a)
    (fun s => s.2 - s.1) (fun a w => ∃ i, PosF gr t i ∧ HS w0 noM [] w ∧ Sl 49 [(0, .slice o gr.length c), (1, .int .i64 t), (2, .func (.func 93) #[] #[]), (8, .int .i64 gr.length), (9, .int .i64 i)] a)
    (0, gr.length) ⟨⟨Nat.zero_le _, Nat.le_refl _, fun k r h => absurd h (Nat.not_lt_zero _), fun k r h hk => by have := (List.getElem?_eq_some_iff.1 hk).1; dsimp only at h; omega⟩, hH, (hA.sub (by (repeat (first | exact trivial | refine ⟨rfl, ?_⟩))))⟩ ?_ ?_
  · clear hA hH
    rintro ⟨i, j⟩ a w ⟨⟨h1, h2, h3, h4⟩, hH, hA⟩
    dsimp only at h1 h2 h3 h4 hH hA
    by_cases hlt : i < j
    rotate_left
    · obtain rfl : i = j := by omega
      repeat' (first | (first | (refine GT ?_ ?_ <;> intro hg <;> clear hA a <;> intro a hA <;> (first | exact FA | replace hg := of_decide_eq_true hg | replace hg := of_decide_eq_false hg | skip)) | (refine QT ?_; clear hA a; intro a hA) | (first | (refine BT ?_; clear hA hH; rintro _ w ⟨bN, rfl, hH⟩ a hA) | (refine LT ?_; clear hA hH; rintro _ w ⟨oN, rfl, hH⟩ a hA) | (refine AT ?_; clear hA; rintro _ w ⟨oN, cN, rfl, hH2⟩ a hA; clear hH; have hH := (hH2 _ (by (repeat constructor))).tail; clear hH2) | (refine S0T ?_; clear hH; rintro _ w hH) )) | ((first | refine CT ?_ | (refine DT ?_ ?_ <;> intro hc <;> try (exfalso; omega))) <;> repeat' refine CT ?_) | (first | (refine DSK ?_; clear hA a; intro a hA) | (first | (refine DLT ?_; clear hA hH; rintro _ w ⟨oN, rfl, hH⟩; refine ⟨STT, ?_⟩; intro a hA) | (refine DAT ?_; clear hA; rintro _ w ⟨oN, cN, rfl, hH2⟩; clear hH; have hH := (hH2 _ (by (repeat constructor))).tail; clear hH2; refine ⟨STT, ?_⟩; intro a hA))) )
      exact ⟨i, ⟨h2, h3, h4⟩, hH, (hA.sub (by (repeat (first | exact trivial | refine ⟨rfl, ?_⟩))))⟩
    obtain ⟨m, hm⟩ : ∃ m, (i + j) / 2 = m := ⟨_, rfl⟩
    have hmi : i ≤ m ∧ m < j := by omega
    obtain ⟨x, hx⟩ : ∃ x, gr[m]? = some x := ⟨_, List.getElem?_eq_getElem (by omega)⟩
    have hxb := hb _ (List.mem_of_getElem? hx)
    have hc1 : IntKind.u64.wrap ((i : Int) + j) = ((i + j : Nat) : Int) := by rw [u64_mod]; omega
    have hc2 : shrK .u64 ((i + j : Nat) : Int) 1 = (m : Int) := by rw [shr1, hm]
    have hc3 : IntKind.i64.wrap (m : Int) = m := wrap_i64 ⟨by omega, by omega⟩
    have hcx := encN_at hx
    repeat' (first | (first | (refine GT ?_ ?_ <;> intro hg <;> clear hA a <;> intro a hA <;> (first | exact FA | replace hg := of_decide_eq_true hg | replace hg := of_decide_eq_false hg | skip)) | ((first | apply st_ex hA hH rfl rfl (by decide) | apply dr_ex hA rfl rfl rfl (by decide) | apply dr_exp hA rfl rfl rfl (by decide) | apply dr_ex3 hA hH rfl rfl rfl (by decide)); (first | (apply ex_convert (v := ((i + j : Nat) : Int)); rfl; exact hc1) | (apply ex_convert (v := (m : Int)); rfl; exact hc3) | (apply ex_shr (v := (m : Int)); rfl; rfl; decide; exact hc2)); clear hA a; intro a hA) | (refine QT ?_; clear hA a; intro a hA) | (first | (refine BT ?_; clear hA hH; rintro _ w ⟨bN, rfl, hH⟩ a hA) | (refine LT ?_; clear hA hH; rintro _ w ⟨oN, rfl, hH⟩ a hA) | (refine AT ?_; clear hA; rintro _ w ⟨oN, cN, rfl, hH2⟩ a hA; clear hH; have hH := (hH2 _ (by (repeat constructor))).tail; clear hH2) | (refine S0T ?_; clear hH; rintro _ w hH) )) | ((first | refine CT ?_ | (refine DT ?_ ?_ <;> intro hc <;> try (exfalso; omega))) <;> repeat' refine CT ?_) | (first | (refine DSK ?_; clear hA a; intro a hA) | (first | (refine DLT ?_; clear hA hH; rintro _ w ⟨oN, rfl, hH⟩; refine ⟨STT, ?_⟩; intro a hA) | (refine DAT ?_; clear hA; rintro _ w ⟨oN, cN, rfl, hH2⟩; clear hH; have hH := (hH2 _ (by (repeat constructor))).tail; clear hH2; refine ⟨STT, ?_⟩; intro a hA))) )
    (refine st_op hA rfl rfl (by decide) (op_call rfl rfl rfl (cmpN_spec _ x t hxb ht)) ?_; clear hA; rintro _ w ⟨rfl, hk⟩ a hA; replace hH := hH.keep hk; clear hk)
    repeat' (first | (first | (refine GT ?_ ?_ <;> intro hg <;> clear hA a <;> intro a hA <;> (first | exact FA | replace hg := of_decide_eq_true hg | replace hg := of_decide_eq_false hg | skip)) | (refine QT ?_; clear hA a; intro a hA) | (first | (refine BT ?_; clear hA hH; rintro _ w ⟨bN, rfl, hH⟩ a hA) | (refine LT ?_; clear hA hH; rintro _ w ⟨oN, rfl, hH⟩ a hA) | (refine AT ?_; clear hA; rintro _ w ⟨oN, cN, rfl, hH2⟩ a hA; clear hH; have hH := (hH2 _ (by (repeat constructor))).tail; clear hH2) | (refine S0T ?_; clear hH; rintro _ w hH) )) | ((first | refine CT ?_ | (refine DT ?_ ?_ <;> intro hc <;> try (exfalso; omega))) <;> repeat' refine CT ?_) | (first | (refine DSK ?_; clear hA a; intro a hA) | (first | (refine DLT ?_; clear hA hH; rintro _ w ⟨oN, rfl, hH⟩; refine ⟨STT, ?_⟩; intro a hA) | (refine DAT ?_; clear hA; rintro _ w ⟨oN, cN, rfl, hH2⟩; clear hH; have hH := (hH2 _ (by (repeat constructor))).tail; clear hH2; refine ⟨STT, ?_⟩; intro a hA))) )
    · refine ⟨(m + 1, j), ⟨⟨by show m + 1 ≤ j; omega, h2, fun k r hk' hkr => ?_, h4⟩, hH, (hA.sub (by (repeat (first | exact trivial | refine ⟨rfl, ?_⟩))))⟩, by show j - (m + 1) < j - i; omega⟩
      rcases Nat.lt_or_ge k m with h | h
      · have := hs2 k m r _ h hkr hx
        omega
      · obtain rfl : k = m := by have : k < m + 1 := hk'; omega
        rw [hx] at hkr
        obtain rfl := Option.some.inj hkr
        omega
    · refine ⟨(i, m), ⟨⟨hmi.1, by show m ≤ gr.length; omega, h3, fun k r hk' hkr => ?_⟩, hH, (hA.sub (by (repeat (first | exact trivial | refine ⟨rfl, ?_⟩))))⟩, by show m - i < j - i; omega⟩
      rcases Nat.lt_or_ge m k with h | h
      · have := hs2 m k _ r h hx hkr
        omega
      · obtain rfl : k = m := by have : m ≤ k := hk'; omega
        rw [hx] at hkr
        obtain rfl := Option.some.inj hkr
        omega
  · clear hA hH
    rintro a w ⟨i, hpos, hH, hA⟩
    have hpi := hpos.1
    by_cases hil : i < gr.length
    · obtain ⟨x, hx⟩ : ∃ x, gr[i]? = some x := ⟨_, List.getElem?_eq_getElem hil⟩
      have hxb := hb _ (List.mem_of_getElem? hx)
      have hcx := encN_at hx
      repeat' (first | (first | (refine GT ?_ ?_ <;> intro hg <;> clear hA a <;> intro a hA <;> (first | exact FA | replace hg := of_decide_eq_true hg | replace hg := of_decide_eq_false hg | skip)) | (refine QT ?_; clear hA a; intro a hA) | (first | (refine BT ?_; clear hA hH; rintro _ w ⟨bN, rfl, hH⟩ a hA) | (refine LT ?_; clear hA hH; rintro _ w ⟨oN, rfl, hH⟩ a hA) | (refine AT ?_; clear hA; rintro _ w ⟨oN, cN, rfl, hH2⟩ a hA; clear hH; have hH := (hH2 _ (by (repeat constructor))).tail; clear hH2) | (refine S0T ?_; clear hH; rintro _ w hH) )) | ((first | refine CT ?_ | (refine DT ?_ ?_ <;> intro hc <;> try (exfalso; omega))) <;> repeat' refine CT ?_) | (first | (refine DSK ?_; clear hA a; intro a hA) | (first | (refine DLT ?_; clear hA hH; rintro _ w ⟨oN, rfl, hH⟩; refine ⟨STT, ?_⟩; intro a hA) | (refine DAT ?_; clear hA; rintro _ w ⟨oN, cN, rfl, hH2⟩; clear hH; have hH := (hH2 _ (by (repeat constructor))).tail; clear hH2; refine ⟨STT, ?_⟩; intro a hA))) )
      (refine st_op hA rfl rfl (by decide) (op_call rfl rfl rfl (cmpN_spec _ x t hxb ht)) ?_; clear hA; rintro _ w ⟨rfl, hk⟩ a hA; replace hH := hH.keep hk; clear hk)
      repeat' (first | (first | (refine GT ?_ ?_ <;> intro hg <;> clear hA a <;> intro a hA <;> (first | exact FA | replace hg := of_decide_eq_true hg | replace hg := of_decide_eq_false hg | skip)) | (refine QT ?_; clear hA a; intro a hA) | (first | (refine BT ?_; clear hA hH; rintro _ w ⟨bN, rfl, hH⟩ a hA) | (refine LT ?_; clear hA hH; rintro _ w ⟨oN, rfl, hH⟩ a hA) | (refine AT ?_; clear hA; rintro _ w ⟨oN, cN, rfl, hH2⟩ a hA; clear hH; have hH := (hH2 _ (by (repeat constructor))).tail; clear hH2) | (refine S0T ?_; clear hH; rintro _ w hH) )) | ((first | refine CT ?_ | (refine DT ?_ ?_ <;> intro hc <;> try (exfalso; omega))) <;> repeat' refine CT ?_) | (first | (refine DSK ?_; clear hA a; intro a hA) | (first | (refine DLT ?_; clear hA hH; rintro _ w ⟨oN, rfl, hH⟩; refine ⟨STT, ?_⟩; intro a hA) | (refine DAT ?_; clear hA; rintro _ w ⟨oN, cN, rfl, hH2⟩; clear hH; have hH := (hH2 _ (by (repeat constructor))).tail; clear hH2; refine ⟨STT, ?_⟩; intro a hA))) )
      exact rt2 (.inl rfl) rfl hA rfl rfl ⟨⟨i, _, rfl, hpos⟩, hH.kp⟩
    · repeat' (first | (first | (refine GT ?_ ?_ <;> intro hg <;> clear hA a <;> intro a hA <;> (first | exact FA | replace hg := of_decide_eq_true hg | replace hg := of_decide_eq_false hg | skip)) | (refine QT ?_; clear hA a; intro a hA) | (first | (refine BT ?_; clear hA hH; rintro _ w ⟨bN, rfl, hH⟩ a hA) | (refine LT ?_; clear hA hH; rintro _ w ⟨oN, rfl, hH⟩ a hA) | (refine AT ?_; clear hA; rintro _ w ⟨oN, cN, rfl, hH2⟩ a hA; clear hH; have hH := (hH2 _ (by (repeat constructor))).tail; clear hH2) | (refine S0T ?_; clear hH; rintro _ w hH) )) | ((first | refine CT ?_ | (refine DT ?_ ?_ <;> intro hc <;> try (exfalso; omega))) <;> repeat' refine CT ?_) | (first | (refine DSK ?_; clear hA a; intro a hA) | (first | (refine DLT ?_; clear hA hH; rintro _ w ⟨oN, rfl, hH⟩; refine ⟨STT, ?_⟩; intro a hA) | (refine DAT ?_; clear hA; rintro _ w ⟨oN, cN, rfl, hH2⟩; clear hH; have hH := (hH2 _ (by (repeat constructor))).tail; clear hH2; refine ⟨STT, ?_⟩; intro a hA))) )
      exact rt2 (.inl rfl) rfl hA rfl rfl ⟨⟨i, _, rfl, hpos⟩, hH.kp⟩
end Go.Proofs.Ytdfhajdejlhamaa
namespace Go.Proofs.Ytdfhajdejlhamaa
open Go Go.Fw
set_option linter.unusedVariables false
def insN (fr : List Nat) (i : Nat) (r : Nat) : List Nat := fr.take i ++ r :: fr.drop i
theorem insN_len {fr : List Nat} {i : Nat} {r : Nat} (hi : i ≤ fr.length) : (insN fr i r).length = fr.length + 1 := by simp [insN]; omega
set_option maxRecDepth 10000 attribute [local irreducible] Code.wp wpList Calls Ex Op1 sat bat blk cb own Go.Fw.mp Go.Fw.mpO Go.Fw.mpI Go.Fw.mpE Go.Fw.itr HS Rd Ret wkD Hp Cl Cls Exit.then Exit.inBlock Exit.noGoto bodyPost Go.Fw.flat wk2 Go.Fw.all Go.Fw.owns wpOp

set_option maxHeartbeats 4000000 in
theorem insertN_spec (w0 : World) (M : Nat → Prop) (o ov : Option Addr) (c i : Nat) (fr : List Nat) (r : Nat) (hH : HS w0 M [own 3 1 o fr.length c (flat encN fr), own 3 1 ov 1 1 (encN r)] w0) (hi : i ≤ fr.length) (hl : fr.length ≤ 1048576) :
    Ret Try.prog 94 #[.slice o fr.length c, .int .i64 i, .slice ov 1 1] w0
      (fun v w => ∃ o' c', v = .slice o' (fr.length + 1) c' ∧ HS w0 M [own 3 1 o' (fr.length + 1) c' (flat encN (insN fr i r))] w) := by
  have hle := hH.own_le (o := o) (by exact MEMT)
  obtain ⟨bv, spv, rfl, -, -, hv3, hv4, hHv⟩ := (hH.perm (.swap _ _ _)).own_block (by omega)
  have hspv : spv = [] := List.length_eq_zero_iff.1 (by rw [encN_len] at hv4; omega)
  subst hspv
  rw [List.append_nil] at hHv
  replace hH := hHv.perm (.swap _ _ _)
  clear hHv
  by_cases hin : i = fr.length
  · subst hin
    have hrv : Rd w0 (some (bat bv 0)) (encN r) := by
      have := hH.cb_rd (b := bv) (by exact MEMT) 0
      rwa [List.drop_zero] at this
    (refine enter (N := 95) Try.func94 rfl Try.ntmps94 rfl ?_; intro a hA; dsimp only [sl0, Nat.reduceAdd] at hA)
    repeat' (first | (first | (refine GT ?_ ?_ <;> intro hg <;> clear hA a <;> intro a hA <;> (first | exact FA | replace hg := of_decide_eq_true hg | replace hg := of_decide_eq_false hg | skip)) | ((first | apply st_ex hA hH rfl rfl (by decide) | apply dr_ex hA rfl rfl rfl (by decide) | apply dr_exp hA rfl rfl rfl (by decide) | apply dr_ex3 hA hH rfl rfl rfl (by decide)); (first | (apply ex_slice_lo (k := fr.length); rfl; rfl; rfl; omega)); clear hA a; intro a hA) | (refine QT ?_; clear hA a; intro a hA) | (first | (refine BT ?_; clear hA hH; rintro _ w ⟨bN, rfl, hH⟩ a hA) | (refine LT ?_; clear hA hH; rintro _ w ⟨oN, rfl, hH⟩ a hA) | (refine AT ?_; clear hA; rintro _ w ⟨oN, cN, rfl, hH2⟩ a hA; clear hH; have hH := (hH2 _ (by (repeat constructor))).tail; clear hH2) | (refine S0T ?_; clear hH; rintro _ w hH) | (apply st_op hA rfl rfl (by decide); apply op_append; rfl; rfl; exact hH; exact MEMT; exact hrv; exact encN_len r; rfl; decide; exact rfl; (unfold maxLen; omega); omega; clear hA; rintro _ w ⟨oN, cN, rfl, hH2⟩ a hA; clear hH; have hH := hH2 _ (by (repeat constructor)); clear hH2))) | ((first | refine CT ?_ | (refine DT ?_ ?_ <;> intro hc <;> try (exfalso; omega))) <;> repeat' refine CT ?_) | (first | (refine DSK ?_; clear hA a; intro a hA) | (first | (refine DLT ?_; clear hA hH; rintro _ w ⟨oN, rfl, hH⟩; refine ⟨STT, ?_⟩; intro a hA) | (refine DAT ?_; clear hA; rintro _ w ⟨oN, cN, rfl, hH2⟩; clear hH; have hH := (hH2 _ (by (repeat constructor))).tail; clear hH2; refine ⟨STT, ?_⟩; intro a hA))) )
    have e : flat encN fr ++ encN r = flat encN (insN fr fr.length r) := by
      unfold insN
      rw [List.take_length, List.drop_length, ← flat_snoc]
    rw [e] at hH
    exact rt1 (.inl rfl) rfl hA rfl ⟨_, _, rfl, hH.head⟩
  have hlt : i < fr.length := by omega
  obtain ⟨b, spare, rfl, h1, h2, h3, h4, hH⟩ := hH.own_block (by omega)
  have hne := hH.cb_ne
  have hlen : (flat encN fr ++ spare).length = c * 1 := by rw [List.length_append]; exact h4
  have hA_ : (flat encN (fr.take i)).length = i * 1 := by rw [flat_length encN_len, List.length_take]; omega
  have hB_ : (flat encN (fr.drop i)).length = (fr.length - i) * 1 := by rw [flat_length encN_len, List.length_drop]
  have hsplit : flat encN fr = flat encN (fr.take i) ++ flat encN (fr.drop i) := by rw [← flat_append, List.take_append_drop]
  have hins : flat encN (insN fr i r) = flat encN (fr.take i) ++ (encN r ++ flat encN (fr.drop i)) := by
    unfold insN
    rw [flat_append, flat_cons]
  have hq1 : (if c = i then 0 else 0 + i * 1) = i * 1 := by rw [if_neg (by omega), Nat.zero_add]
  by_cases hroom : fr.length + 1 ≤ c
  rotate_left
  · -- into a new block
    (refine enter (N := 95) Try.func94 rfl Try.ntmps94 rfl ?_; intro a hA; dsimp only [sl0, Nat.reduceAdd] at hA)
    repeat' (first | (first | (refine GT ?_ ?_ <;> intro hg <;> clear hA a <;> intro a hA <;> (first | exact FA | replace hg := of_decide_eq_true hg | replace hg := of_decide_eq_false hg | skip)) | ((first | apply st_ex hA hH rfl rfl (by decide) | apply dr_ex hA rfl rfl rfl (by decide) | apply dr_exp hA rfl rfl rfl (by decide) | apply dr_ex3 hA hH rfl rfl rfl (by decide)); (first | (apply ex_slice_lo_b (k := i) (q := i * 1); rfl; rfl; rfl; omega; exact hq1) | (apply ex_slice_hi (k := i); rfl; rfl; rfl; omega) | (apply ex_cap_slice; rfl)); clear hA a; intro a hA) | (refine QT ?_; clear hA a; intro a hA) | (first | (refine BT ?_; clear hA hH; rintro _ w ⟨bN, rfl, hH⟩ a hA) | (refine LT ?_; clear hA hH; rintro _ w ⟨oN, rfl, hH⟩ a hA) | (refine AT ?_; clear hA; rintro _ w ⟨oN, cN, rfl, hH2⟩ a hA; clear hH; have hH := (hH2 _ (by (repeat constructor))).tail; clear hH2) | (refine S0T ?_; clear hH; rintro _ w hH) )) | ((first | refine CT ?_ | (refine DT ?_ ?_ <;> intro hc <;> try (exfalso; omega))) <;> repeat' refine CT ?_) | (first | (refine DSK ?_; clear hA a; intro a hA) | (first | (refine DLT ?_; clear hA hH; rintro _ w ⟨oN, rfl, hH⟩; refine ⟨STT, ?_⟩; intro a hA) | (refine DAT ?_; clear hA; rintro _ w ⟨oN, cN, rfl, hH2⟩; clear hH; have hH := (hH2 _ (by (repeat constructor))).tail; clear hH2; refine ⟨STT, ?_⟩; intro a hA))) )
    have holds : ∀ j u, (flat encN (fr.take i))[j]? = some u → w0.cell? ((bat b 0).add j) = some u := by
      intro j u hj
      have := hH.cb_news (b := b) (k := 0) (m := (flat encN (fr.take i)).length) (List.mem_cons_self ..) j u
      have e5 : ((flat encN fr ++ spare).drop 0).take (flat encN (fr.take i)).length = flat encN (fr.take i) := by
        rw [List.drop_zero, hsplit, List.append_assoc, List.take_append_of_le_length (Nat.le_refl _), List.take_length]
      rw [e5] at this
      exact this hj
    repeat' (first | (first | (refine GT ?_ ?_ <;> intro hg <;> clear hA a <;> intro a hA <;> (first | exact FA | replace hg := of_decide_eq_true hg | replace hg := of_decide_eq_false hg | skip)) | (refine QT ?_; clear hA a; intro a hA) | (first | (refine BT ?_; clear hA hH; rintro _ w ⟨bN, rfl, hH⟩ a hA) | (refine LT ?_; clear hA hH; rintro _ w ⟨oN, rfl, hH⟩ a hA) | (refine AT ?_; clear hA; rintro _ w ⟨oN, cN, rfl, hH2⟩ a hA; clear hH; have hH := (hH2 _ (by (repeat constructor))).tail; clear hH2) | (refine S0T ?_; clear hH; rintro _ w hH) | (apply st_op hA rfl rfl (by decide); apply op_append_mk (k := fr.length + 1 - i); rfl; rfl; omega; exact hH; exact holds; exact hA_; rfl; omega; omega; (unfold maxLen; omega); omega; omega; clear hA; rintro _ w ⟨o2, c2, rest, rfl, hrest, hH2⟩ a hA))) | ((first | refine CT ?_ | (refine DT ?_ ?_ <;> intro hc <;> try (exfalso; omega))) <;> repeat' refine CT ?_) | (first | (refine DSK ?_; clear hA a; intro a hA) | (first | (refine DLT ?_; clear hA hH; rintro _ w ⟨oN, rfl, hH⟩; refine ⟨STT, ?_⟩; intro a hA) | (refine DAT ?_; clear hA; rintro _ w ⟨oN, cN, rfl, hH2⟩; clear hH; have hH := (hH2 _ (by (repeat constructor))).tail; clear hH2; refine ⟨STT, ?_⟩; intro a hA))) )
    have en : i + (fr.length + 1 - i) = fr.length + 1 := by omega
    rw [en] at hA hH2
    have hle2 := hH2.own_le (o := o2) (by exact MEMT)
    obtain ⟨b2, sp2, rfl, k1, k2, k3, k4, hH3⟩ := hH2.own_block (by omega)
    clear hH hH2
    have hH := hH3
    clear hH3
    have hq3 : (if c2 = i then 0 else 0 + i * 1) = i * 1 := by rw [if_neg (by omega), Nat.zero_add]
    have hq4 : (if c2 = i + 1 then 0 else 0 + (i + 1) * 1) = (i + 1) * 1 := by rw [if_neg (by omega), Nat.zero_add]
    have hrv : ∀ j u, (encN r)[j]? = some u → w.cell? ((bat bv 0).add j) = some u := by
      intro j u hj
      have := hH.cb_news (b := bv) (k := 0) (m := (encN r).length) (by exact MEMT) j u
      rw [List.drop_zero, List.take_length] at this
      exact this hj
    have hl1 : (encN r).length = Nat.min 1 (fr.length + 1 - i) * 1 := by rw [show Nat.min 1 (fr.length + 1 - i) = 1 by show min 1 (fr.length + 1 - i) = 1; omega]; rfl
    have hf1 : i * 1 + (encN r).length ≤ (flat encN (fr.take i) ++ rest ++ sp2).length := by
      rw [List.length_append, List.length_append, hA_, hrest, encN_len]; omega
    repeat' (first | (first | (refine GT ?_ ?_ <;> intro hg <;> clear hA a <;> intro a hA <;> (first | exact FA | replace hg := of_decide_eq_true hg | replace hg := of_decide_eq_false hg | skip)) | ((first | apply st_ex hA hH rfl rfl (by decide) | apply dr_ex hA rfl rfl rfl (by decide) | apply dr_exp hA rfl rfl rfl (by decide) | apply dr_ex3 hA hH rfl rfl rfl (by decide)); (first | (apply ex_slice_lo_b (k := i) (q := i * 1); rfl; rfl; rfl; omega; exact hq3)); clear hA a; intro a hA) | (refine QT ?_; clear hA a; intro a hA) | (first | (refine BT ?_; clear hA hH; rintro _ w ⟨bN, rfl, hH⟩ a hA) | (refine LT ?_; clear hA hH; rintro _ w ⟨oN, rfl, hH⟩ a hA) | (refine AT ?_; clear hA; rintro _ w ⟨oN, cN, rfl, hH2⟩ a hA; clear hH; have hH := (hH2 _ (by (repeat constructor))).tail; clear hH2) | (refine S0T ?_; clear hH; rintro _ w hH) | (apply st_op hA rfl rfl (by decide); apply op_copy_cb; rfl; rfl; exact hH; exact hrv; exact hl1; rfl; exact hf1; (repeat constructor); clear hA hH; rintro _ w ⟨rfl, hH⟩ a hA))) | ((first | refine CT ?_ | (refine DT ?_ ?_ <;> intro hc <;> try (exfalso; omega))) <;> repeat' refine CT ?_) | (first | (refine DSK ?_; clear hA a; intro a hA) | (first | (refine DLT ?_; clear hA hH; rintro _ w ⟨oN, rfl, hH⟩; refine ⟨STT, ?_⟩; intro a hA) | (refine DAT ?_; clear hA; rintro _ w ⟨oN, cN, rfl, hH2⟩; clear hH; have hH := (hH2 _ (by (repeat constructor))).tail; clear hH2; refine ⟨STT, ?_⟩; intro a hA))) )
    have hB5 : ((flat encN fr ++ spare).drop (i * 1)).take (flat encN (fr.drop i)).length = flat encN (fr.drop i) := by
      have := @mid_take (flat encN (fr.take i)) [] (flat encN (fr.drop i)) spare
      rw [List.length_nil, Nat.add_zero, hA_, List.nil_append, ← List.append_assoc, ← hsplit] at this
      exact this
    have hl2 : (flat encN (fr.drop i)).length = Nat.min (fr.length - i) (fr.length + 1 - (i + 1)) * 1 := by
      rw [hB_, show Nat.min (fr.length - i) (fr.length + 1 - (i + 1)) = fr.length - i by show min (fr.length - i) (fr.length + 1 - (i + 1)) = _; omega]
    have hpl : (put (flat encN (fr.take i) ++ rest ++ sp2) (i * 1) (encN r)).length = c2 * 1 := by rw [put_length hf1, List.length_append]; exact k4
    have hf2 : (i + 1) * 1 + (flat encN (fr.drop i)).length ≤ (put (flat encN (fr.take i) ++ rest ++ sp2) (i * 1) (encN r)).length := by rw [hpl, hB_]; omega
    have hone : (flat encN (fr.drop i)).all (·.oneCell') = true := flat_one_cell (fun _ => rfl) _
    (refine wp_draw_HS [(0, 2), (1, 2), (2, 2), (3, 2), (4, 2), (5, 2), (6, 2), (7, 2), (8, 0)] mixed (by decide +kernel) hH.drop_ ?_; replace hH := hH.drew)
    have hrB : ∀ j u, (flat encN (fr.drop i))[j]? = some u → w.drew.cell? ((bat b (i * 1)).add j) = some u := by
      intro j u hj
      have := hH.cb_news (b := b) (k := i * 1) (m := (flat encN (fr.drop i)).length) (by exact MEMT) j u
      rw [hB5] at this
      exact this hj
    repeat' (first | (first | (refine GT ?_ ?_ <;> intro hg <;> clear hA a <;> intro a hA <;> (first | exact FA | replace hg := of_decide_eq_true hg | replace hg := of_decide_eq_false hg | skip)) | ((first | apply st_ex hA hH rfl rfl (by decide) | apply dr_ex hA rfl rfl rfl (by decide) | apply dr_exp hA rfl rfl rfl (by decide) | apply dr_ex3 hA hH rfl rfl rfl (by decide)); (first | (apply ex_slice_lo_b (k := i + 1) (q := (i + 1) * 1); rfl; rfl; rfl; omega; exact hq4) | (apply ex_slice_lo_b (k := i) (q := i * 1); rfl; rfl; rfl; omega; exact hq1)); clear hA a; intro a hA) | (refine QT ?_; clear hA a; intro a hA) | (first | (refine BT ?_; clear hA hH; rintro _ w ⟨bN, rfl, hH⟩ a hA) | (refine LT ?_; clear hA hH; rintro _ w ⟨oN, rfl, hH⟩ a hA) | (refine AT ?_; clear hA; rintro _ w ⟨oN, cN, rfl, hH2⟩ a hA; clear hH; have hH := (hH2 _ (by (repeat constructor))).tail; clear hH2) | (refine S0T ?_; clear hH; rintro _ w hH) )) | ((first | refine CT ?_ | (refine DT ?_ ?_ <;> intro hc <;> try (exfalso; omega))) <;> repeat' refine CT ?_) | (first | (refine DSK ?_; clear hA a; intro a hA) | (first | (refine DLT ?_; clear hA hH; rintro _ w ⟨oN, rfl, hH⟩; refine ⟨STT, ?_⟩; intro a hA) | (refine DAT ?_; clear hA; rintro _ w ⟨oN, cN, rfl, hH2⟩; clear hH; have hH := (hH2 _ (by (repeat constructor))).tail; clear hH2; refine ⟨STT, ?_⟩; intro a hA))) | (apply dr_op hA rfl rfl rfl (by decide); apply op_copy_cb; rfl; rfl; exact hH; exact hrB; exact hl2; exact hone; exact hf2; (repeat constructor); clear hA hH; rintro _ w ⟨rfl, hH⟩; refine ⟨STT, ?_⟩; intro a hA))
    have hrest2 : rest.length = 1 + (fr.length - i) * 1 := by rw [hrest]; omega
    have e7 : put (put (flat encN (fr.take i) ++ rest ++ sp2) (i * 1) (encN r)) ((i + 1) * 1) (flat encN (fr.drop i)) = flat encN (insN fr i r) ++ sp2 := by
      have e8 : flat encN (fr.take i) ++ rest ++ sp2 = flat encN (fr.take i) ++ (rest.take 1 ++ (rest.drop 1 ++ sp2)) := by
        rw [← List.append_assoc (rest.take 1), List.take_append_drop, List.append_assoc]
      rw [e8, put_seg hA_.symm (by rw [encN_len, List.length_take]; omega), ← List.append_assoc (flat encN (fr.take i)), put_seg (by rw [List.length_append, hA_, encN_len]; omega) (by rw [hB_, List.length_drop]; omega), hins]
      simp
    rw [e7] at hH
    have hil : (flat encN (insN fr i r)).length = (fr.length + 1) * 1 := by rw [flat_length encN_len, insN_len hi]
    refine rt1 (.inl rfl) rfl hA rfl ⟨_, _, rfl, (hH.head).block_own hil k1 k2 ?_⟩
    rw [hil, ← k3]
    exact k4
  · (refine enter (N := 95) Try.func94 rfl Try.ntmps94 rfl ?_; intro a hA; dsimp only [sl0, Nat.reduceAdd] at hA)
    repeat' (first | (first | (refine GT ?_ ?_ <;> intro hg <;> clear hA a <;> intro a hA <;> (first | exact FA | replace hg := of_decide_eq_true hg | replace hg := of_decide_eq_false hg | skip)) | ((first | apply st_ex hA hH rfl rfl (by decide) | apply dr_ex hA rfl rfl rfl (by decide) | apply dr_exp hA rfl rfl rfl (by decide) | apply dr_ex3 hA hH rfl rfl rfl (by decide)); (first | (apply ex_slice_lo_b (k := i) (q := i * 1); rfl; rfl; rfl; omega; exact hq1) | (apply ex_slice_hi (k := fr.length + 1); rfl; rfl; rfl; omega) | (apply ex_cap_slice; rfl)); clear hA a; intro a hA) | (refine QT ?_; clear hA a; intro a hA) | (first | (refine BT ?_; clear hA hH; rintro _ w ⟨bN, rfl, hH⟩ a hA) | (refine LT ?_; clear hA hH; rintro _ w ⟨oN, rfl, hH⟩ a hA) | (refine AT ?_; clear hA; rintro _ w ⟨oN, cN, rfl, hH2⟩ a hA; clear hH; have hH := (hH2 _ (by (repeat constructor))).tail; clear hH2) | (refine S0T ?_; clear hH; rintro _ w hH) )) | ((first | refine CT ?_ | (refine DT ?_ ?_ <;> intro hc <;> try (exfalso; omega))) <;> repeat' refine CT ?_) | (first | (refine DSK ?_; clear hA a; intro a hA) | (first | (refine DLT ?_; clear hA hH; rintro _ w ⟨oN, rfl, hH⟩; refine ⟨STT, ?_⟩; intro a hA) | (refine DAT ?_; clear hA; rintro _ w ⟨oN, cN, rfl, hH2⟩; clear hH; have hH := (hH2 _ (by (repeat constructor))).tail; clear hH2; refine ⟨STT, ?_⟩; intro a hA))) )
    have hsp2 : 1 ≤ spare.length := by rw [List.length_append, h3] at hlen; omega
    have hq2 : (if c = i + 1 then 0 else 0 + (i + 1) * 1) = (i + 1) * 1 := by rw [if_neg (by omega), Nat.zero_add]
    have hc2 : (flat encN fr ++ spare).length ≠ 0 := by rw [hlen]; omega
    repeat' (first | (first | (refine GT ?_ ?_ <;> intro hg <;> clear hA a <;> intro a hA <;> (first | exact FA | replace hg := of_decide_eq_true hg | replace hg := of_decide_eq_false hg | skip)) | ((first | apply st_ex hA hH rfl rfl (by decide) | apply dr_ex hA rfl rfl rfl (by decide) | apply dr_exp hA rfl rfl rfl (by decide) | apply dr_ex3 hA hH rfl rfl rfl (by decide)); (first | (apply ex_slice_lo_b (k := i + 1) (q := (i + 1) * 1); rfl; rfl; rfl; omega; exact hq2)); clear hA a; intro a hA) | (refine QT ?_; clear hA a; intro a hA) | (first | (refine BT ?_; clear hA hH; rintro _ w ⟨bN, rfl, hH⟩ a hA) | (refine LT ?_; clear hA hH; rintro _ w ⟨oN, rfl, hH⟩ a hA) | (refine AT ?_; clear hA; rintro _ w ⟨oN, cN, rfl, hH2⟩ a hA; clear hH; have hH := (hH2 _ (by (repeat constructor))).tail; clear hH2) | (refine S0T ?_; clear hH; rintro _ w hH) | (apply st_op hA rfl rfl (by decide); apply op_overlaps (t := 44) (tR := 4) Try.func100 (by kernel_rfl) (by kernel_rfl) (by kernel_rfl) (by kernel_rfl); rfl; rfl; exact hH; exact MEMT; exact MEMT; exact Ne.symm hne; exact hc2; clear hA; rintro _ w2 ⟨rfl, hw2⟩ a hA; rw [hw2]; clear hw2 w2))) | ((first | refine CT ?_ | (refine DT ?_ ?_ <;> intro hc <;> try (exfalso; omega))) <;> repeat' refine CT ?_) | (first | (refine DSK ?_; clear hA a; intro a hA) | (first | (refine DLT ?_; clear hA hH; rintro _ w ⟨oN, rfl, hH⟩; refine ⟨STT, ?_⟩; intro a hA) | (refine DAT ?_; clear hA; rintro _ w ⟨oN, cN, rfl, hH2⟩; clear hH; have hH := (hH2 _ (by (repeat constructor))).tail; clear hH2; refine ⟨STT, ?_⟩; intro a hA))) )
    have hB5 : ((flat encN fr ++ spare).drop (i * 1)).take (flat encN (fr.drop i)).length = flat encN (fr.drop i) := by
      have := @mid_take (flat encN (fr.take i)) [] (flat encN (fr.drop i)) spare
      rw [List.length_nil, Nat.add_zero, hA_, List.nil_append, ← List.append_assoc, ← hsplit] at this
      exact this
    have hl2 : (flat encN (fr.drop i)).length = Nat.min (fr.length + 1 - i) (fr.length + 1 - (i + 1)) * 1 := by
      rw [hB_, show Nat.min (fr.length + 1 - i) (fr.length + 1 - (i + 1)) = fr.length - i by show min (fr.length + 1 - i) (fr.length + 1 - (i + 1)) = _; omega]
    have hf2 : (i + 1) * 1 + (flat encN (fr.drop i)).length ≤ (flat encN fr ++ spare).length := by rw [hlen, hB_]; omega
    have hone : (flat encN (fr.drop i)).all (·.oneCell') = true := flat_one_cell (fun _ => rfl) _
    (refine wp_draw_HS [(0, 2), (1, 2), (2, 2), (3, 2), (4, 2), (5, 2), (6, 2), (7, 2), (8, 0)] mixed (by decide +kernel) hH.drop_ ?_; replace hH := hH.drew)
    have hrB : ∀ j u, (flat encN (fr.drop i))[j]? = some u → w0.drew.cell? ((bat b (i * 1)).add j) = some u := by
      intro j u hj
      have := hH.cb_news (b := b) (k := i * 1) (m := (flat encN (fr.drop i)).length) (by exact MEMT) j u
      rw [hB5] at this
      exact this hj
    repeat' (first | (first | (refine GT ?_ ?_ <;> intro hg <;> clear hA a <;> intro a hA <;> (first | exact FA | replace hg := of_decide_eq_true hg | replace hg := of_decide_eq_false hg | skip)) | ((first | apply st_ex hA hH rfl rfl (by decide) | apply dr_ex hA rfl rfl rfl (by decide) | apply dr_exp hA rfl rfl rfl (by decide) | apply dr_ex3 hA hH rfl rfl rfl (by decide)); (first | (apply ex_slice_lo_b (k := i + 1) (q := (i + 1) * 1); rfl; rfl; rfl; omega; exact hq2) | (apply ex_slice_lo_b (k := i) (q := i * 1); rfl; rfl; rfl; omega; exact hq1)); clear hA a; intro a hA) | (refine QT ?_; clear hA a; intro a hA) | (first | (refine BT ?_; clear hA hH; rintro _ w ⟨bN, rfl, hH⟩ a hA) | (refine LT ?_; clear hA hH; rintro _ w ⟨oN, rfl, hH⟩ a hA) | (refine AT ?_; clear hA; rintro _ w ⟨oN, cN, rfl, hH2⟩ a hA; clear hH; have hH := (hH2 _ (by (repeat constructor))).tail; clear hH2) | (refine S0T ?_; clear hH; rintro _ w hH) )) | ((first | refine CT ?_ | (refine DT ?_ ?_ <;> intro hc <;> try (exfalso; omega))) <;> repeat' refine CT ?_) | (first | (refine DSK ?_; clear hA a; intro a hA) | (first | (refine DLT ?_; clear hA hH; rintro _ w ⟨oN, rfl, hH⟩; refine ⟨STT, ?_⟩; intro a hA) | (refine DAT ?_; clear hA; rintro _ w ⟨oN, cN, rfl, hH2⟩; clear hH; have hH := (hH2 _ (by (repeat constructor))).tail; clear hH2; refine ⟨STT, ?_⟩; intro a hA))) | (apply dr_op hA rfl rfl rfl (by decide); apply op_copy_cb; rfl; rfl; exact hH; exact hrB; exact hl2; exact hone; exact hf2; (repeat constructor); clear hA hH; rintro _ w ⟨rfl, hH⟩; refine ⟨STT, ?_⟩; intro a hA))
    have hrv : ∀ j u, (encN r)[j]? = some u → w.cell? ((bat bv 0).add j) = some u := by
      intro j u hj
      have := hH.cb_news (b := bv) (k := 0) (m := (encN r).length) (by exact MEMT) j u
      rw [List.drop_zero, List.take_length] at this
      exact this hj
    have hl1 : (encN r).length = Nat.min 1 (fr.length + 1 - i) * 1 := by rw [show Nat.min 1 (fr.length + 1 - i) = 1 by show min 1 (fr.length + 1 - i) = 1; omega]; rfl
    have hf1 : i * 1 + (encN r).length ≤ (put (flat encN fr ++ spare) ((i + 1) * 1) (flat encN (fr.drop i))).length := by
      rw [put_length hf2, hlen, encN_len]; omega
    repeat' (first | (first | (refine GT ?_ ?_ <;> intro hg <;> clear hA a <;> intro a hA <;> (first | exact FA | replace hg := of_decide_eq_true hg | replace hg := of_decide_eq_false hg | skip)) | ((first | apply st_ex hA hH rfl rfl (by decide) | apply dr_ex hA rfl rfl rfl (by decide) | apply dr_exp hA rfl rfl rfl (by decide) | apply dr_ex3 hA hH rfl rfl rfl (by decide)); (first | (apply ex_slice_lo_b (k := i) (q := i * 1); rfl; rfl; rfl; omega; exact hq1)); clear hA a; intro a hA) | (refine QT ?_; clear hA a; intro a hA) | (first | (refine BT ?_; clear hA hH; rintro _ w ⟨bN, rfl, hH⟩ a hA) | (refine LT ?_; clear hA hH; rintro _ w ⟨oN, rfl, hH⟩ a hA) | (refine AT ?_; clear hA; rintro _ w ⟨oN, cN, rfl, hH2⟩ a hA; clear hH; have hH := (hH2 _ (by (repeat constructor))).tail; clear hH2) | (refine S0T ?_; clear hH; rintro _ w hH) | (apply st_op hA rfl rfl (by decide); apply op_copy_cb; rfl; rfl; exact hH; exact hrv; exact hl1; rfl; exact hf1; (repeat constructor); clear hA hH; rintro _ w ⟨rfl, hH⟩ a hA))) | ((first | refine CT ?_ | (refine DT ?_ ?_ <;> intro hc <;> try (exfalso; omega))) <;> repeat' refine CT ?_) | (first | (refine DSK ?_; clear hA a; intro a hA) | (first | (refine DLT ?_; clear hA hH; rintro _ w ⟨oN, rfl, hH⟩; refine ⟨STT, ?_⟩; intro a hA) | (refine DAT ?_; clear hA; rintro _ w ⟨oN, cN, rfl, hH2⟩; clear hH; have hH := (hH2 _ (by (repeat constructor))).tail; clear hH2; refine ⟨STT, ?_⟩; intro a hA))) )
    have e7 : put (put (flat encN fr ++ spare) ((i + 1) * 1) (flat encN (fr.drop i))) (i * 1) (encN r) = flat encN (insN fr i r) ++ spare.drop 1 := by
      have e8 : flat encN fr ++ spare = flat encN (fr.take i) ++ (flat encN (fr.drop i) ++ (spare.take 1 ++ spare.drop 1)) := by
        rw [List.take_append_drop, ← List.append_assoc, ← hsplit]
      have e9 := @ins_cells (flat encN (fr.take i)) (encN r) (flat encN (fr.drop i)) (spare.take 1) (spare.drop 1) (by rw [encN_len, List.length_take]; omega)
      rw [hA_, encN_len, show i * 1 + 1 = (i + 1) * 1 by omega] at e9
      rw [e8, e9, hins]
    rw [e7] at hH
    have hil : (flat encN (insN fr i r)).length = (fr.length + 1) * 1 := by rw [flat_length encN_len, insN_len hi]
    refine rt1 (.inl rfl) rfl hA rfl ⟨_, _, rfl, (hH.head).block_own hil hroom h2 ?_⟩
    rw [hil, List.length_drop]
    omega
end Go.Proofs.Ytdfhajdejlhamaa
