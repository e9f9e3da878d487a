/-
  The walks over the document's heap where it turns: Free, Set, Alloc. Conditions: none.
-/
import Derived.Test.YtejpcidfigmnkaaRA
namespace Go.Proofs.Ytejpcidfigmnkaa
open Go Go.Fw
set_option linter.unusedVariables false
theorem zip_mid {A B : List Ob} {dA dB : List Sd} {o : Ob} {d : Sd} (h : A.length = dA.length) : (A ++ o :: B).zip (dA ++ d :: dB) = A.zip dA ++ (o, d) :: B.zip dB := by
  rw [List.zip_append h]
  rfl
theorem zip_two {A B : List Ob} {dA dB : List Sd} (h : A.length = dA.length) : (A ++ B).zip (dA ++ dB) = A.zip dA ++ B.zip dB := List.zip_append h
theorem flat_two {α : Type} (enc : α → List Value) (a b : List α) : flat enc a ++ flat enc b = flat enc (a ++ b) := (flat_append enc a b).symm
theorem rd_take {α : Type} {enc : α → List Value} {sz : Nat} (henc : ∀ x, (enc x).length = sz) {w : World} {o : Option Addr} {A B : List α} (h : Rd w o (flat enc (A ++ B))) : Rd w o (flat enc A) := by
  have := h.take (A.length * sz)
  rwa [flat_take henc, List.take_left] at this
theorem rd_drop {α : Type} {enc : α → List Value} {sz : Nat} (henc : ∀ x, (enc x).length = sz) {w : World} {o : Option Addr} {A B : List α} {c k n : Nat} (h : Rd w o (flat enc (A ++ B))) (hk : k = A.length) (hn : (A ++ B).length = n) (hc : n ≤ c) : Rd w (subO o c k sz) (flat enc B) := by
  subst hk
  have := h.sub (n := n) (c := c) (k := A.length) (sz := sz) (by rw [flat_length henc, hn]) (by rw [← hn, List.length_append]; omega) hc
  rwa [flat_drop henc, List.drop_left] at this
theorem free_of {N : Nat} {A B : List Ob} {o : Ob} {z : Int} (h : Lay N 1 (A ++ o :: B)) (hz : (o.a : Int) = z) (ho : objA (A ++ o :: B) z = some o) : freeA (A ++ o :: B) z = (0, A ++ B) := by
  subst hz
  simp only [freeA, ho]
  rw [filter_free h]
section
variable {w0 w : World} {M : Nat → Prop} {p q r s x : It} {A B : List It}
theorem HS.re1 (h : HS w0 M [p, q, r, all (A ++ x :: B)] w) : HS w0 M [q, p, all (A ++ B)] w := by
  have h1 := h.perm (H' := [all (A ++ x :: B), q, p, r]) (by (repeat (first | exact List.Perm.nil | refine perm_pick 0 rfl ?_ | refine perm_pick 1 rfl ?_ | refine perm_pick 2 rfl ?_ | refine perm_pick 3 rfl ?_ | refine perm_pick 4 rfl ?_ | refine perm_pick 5 rfl ?_ | refine perm_pick 6 rfl ?_ | refine perm_pick 7 rfl ?_ | refine perm_pick 8 rfl ?_ | refine perm_pick 9 rfl ?_ | refine perm_pick 10 rfl ?_ | refine perm_pick 11 rfl ?_)))
  have h3 := h1.all_out.tail
  exact (h3.perm (H' := [r, q, p, all (A ++ B)]) (by (repeat (first | exact List.Perm.nil | refine perm_pick 0 rfl ?_ | refine perm_pick 1 rfl ?_ | refine perm_pick 2 rfl ?_ | refine perm_pick 3 rfl ?_ | refine perm_pick 4 rfl ?_ | refine perm_pick 5 rfl ?_ | refine perm_pick 6 rfl ?_ | refine perm_pick 7 rfl ?_ | refine perm_pick 8 rfl ?_ | refine perm_pick 9 rfl ?_ | refine perm_pick 10 rfl ?_ | refine perm_pick 11 rfl ?_)))).tail
theorem HS.re3 {c : It} (h : HS w0 M [p, x, c, q, r, all (A ++ B)] w) : HS w0 M [q, p, all (A ++ x :: B)] w := by
  have h1 := h.perm (H' := [c, r, x, all (A ++ B), q, p]) (by (repeat (first | exact List.Perm.nil | refine perm_pick 0 rfl ?_ | refine perm_pick 1 rfl ?_ | refine perm_pick 2 rfl ?_ | refine perm_pick 3 rfl ?_ | refine perm_pick 4 rfl ?_ | refine perm_pick 5 rfl ?_ | refine perm_pick 6 rfl ?_ | refine perm_pick 7 rfl ?_ | refine perm_pick 8 rfl ?_ | refine perm_pick 9 rfl ?_ | refine perm_pick 10 rfl ?_ | refine perm_pick 11 rfl ?_)))
  exact h1.tail.tail.all_in.perm (by (repeat (first | exact List.Perm.nil | refine perm_pick 0 rfl ?_ | refine perm_pick 1 rfl ?_ | refine perm_pick 2 rfl ?_ | refine perm_pick 3 rfl ?_ | refine perm_pick 4 rfl ?_ | refine perm_pick 5 rfl ?_ | refine perm_pick 6 rfl ?_ | refine perm_pick 7 rfl ?_ | refine perm_pick 8 rfl ?_ | refine perm_pick 9 rfl ?_ | refine perm_pick 10 rfl ?_ | refine perm_pick 11 rfl ?_)))
theorem HS.re2 (h : HS w0 M [x, q, p, all (A ++ s :: B)] w) : HS w0 M [q, p, all (A ++ x :: B)] w := by
  have h1 := h.perm (H' := [all (A ++ s :: B), x, q, p]) (by (repeat (first | exact List.Perm.nil | refine perm_pick 0 rfl ?_ | refine perm_pick 1 rfl ?_ | refine perm_pick 2 rfl ?_ | refine perm_pick 3 rfl ?_ | refine perm_pick 4 rfl ?_ | refine perm_pick 5 rfl ?_ | refine perm_pick 6 rfl ?_ | refine perm_pick 7 rfl ?_ | refine perm_pick 8 rfl ?_ | refine perm_pick 9 rfl ?_ | refine perm_pick 10 rfl ?_ | refine perm_pick 11 rfl ?_)))
  have h3 := h1.all_out.tail
  have h4 := h3.perm (H' := [x, all (A ++ B), q, p]) (by (repeat (first | exact List.Perm.nil | refine perm_pick 0 rfl ?_ | refine perm_pick 1 rfl ?_ | refine perm_pick 2 rfl ?_ | refine perm_pick 3 rfl ?_ | refine perm_pick 4 rfl ?_ | refine perm_pick 5 rfl ?_ | refine perm_pick 6 rfl ?_ | refine perm_pick 7 rfl ?_ | refine perm_pick 8 rfl ?_ | refine perm_pick 9 rfl ?_ | refine perm_pick 10 rfl ?_ | refine perm_pick 11 rfl ?_)))
  exact h4.all_in.perm (by (repeat (first | exact List.Perm.nil | refine perm_pick 0 rfl ?_ | refine perm_pick 1 rfl ?_ | refine perm_pick 2 rfl ?_ | refine perm_pick 3 rfl ?_ | refine perm_pick 4 rfl ?_ | refine perm_pick 5 rfl ?_ | refine perm_pick 6 rfl ?_ | refine perm_pick 7 rfl ?_ | refine perm_pick 8 rfl ?_ | refine perm_pick 9 rfl ?_ | refine perm_pick 10 rfl ?_ | refine perm_pick 11 rfl ?_)))
end
theorem rf_close {w0 w : World} {M : Nat → Prop} {b N : Nat} {A B : List Ob} {dA dB : List Sd} {oN : Option Addr} {cN : Nat} (hl : dA.length = A.length) (hl2 : dB.length = B.length)
    (h : HS w0 M [cb b 73 [.int .i64 N, .slice oN (A ++ B).length cN], own 70 3 oN (A ++ B).length cN (flat encO ((A ++ B).zip (dA ++ dB))), all (owns 33 1 encW dA (A.map (·.fs)) ++ owns 33 1 encW dB (B.map (·.fs)))] w) : HS w0 M [rfI b N (A ++ B)] w := by
  refine rf_shut ⟨oN, cN, dA ++ dB⟩ (by simp [hl, hl2]) ?_
  unfold rfQ
  rw [List.map_append, owns_split (by rw [List.length_map]; exact hl)]
  exact h
theorem rf_close0 {w0 w : World} {M : Nat → Prop} {b N : Nat} (h : HS w0 M [cb b 73 [.int .i64 N, .slice none 0 0], own 70 3 none 0 0 [], all []] w) : HS w0 M [rfI b N []] w :=
  rf_shut ⟨none, 0, []⟩ rfl h
theorem set_mid {α : Type} (X Y : List α) (y y' : α) : (X ++ y :: Y).set X.length y' = X ++ y' :: Y := by simp
theorem flat_set2 {L : List Ob} {ds : List Sd} {k : Nat} {o o' : Ob} {d d' : Sd} (h : (L.zip ds)[k]? = some (o, d)) (ha : o'.a = o.a) (hk : o'.kind = o.kind) : put (flat encO (L.zip ds)) (k * 3 + 2) [.slice d'.1 d'.2.1 d'.2.2] = flat encO ((L.zip ds).set k (o', d')) :=
  flat_put encO_len h (by unfold encO; dsimp only; rw [ha, hk]; rfl) (by simp)
theorem rf_close2 {w0 w : World} {M : Nat → Prop} {b N : Nat} {A B : List Ob} {dA dB : List Sd} {o : Ob} {d : Sd} {oN : Option Addr} {cN : Nat} (hl : dA.length = A.length) (hl2 : dB.length = B.length)
    (h : HS w0 M [cb b 73 [.int .i64 N, .slice oN (A ++ o :: B).length cN], own 70 3 oN (A ++ o :: B).length cN (flat encO (A.zip dA ++ (o, d) :: B.zip dB)), all (owns 33 1 encW dA (A.map (·.fs)) ++ own 33 1 d.1 d.2.1 d.2.2 (flat encW o.fs) :: owns 33 1 encW dB (B.map (·.fs)))] w) : HS w0 M [rfI b N (A ++ o :: B)] w := by
  refine rf_shut ⟨oN, cN, dA ++ d :: dB⟩ (by simp [hl, hl2]) ?_
  unfold rfQ
  rw [List.map_append, owns_split (by rw [List.length_map]; exact hl), List.map_cons, owns_cons, zip_mid hl.symm]
  exact h
theorem flat_new (Z1 Z2 : List (Ob × Sd)) (x : Ob × Sd) : flat encO Z1 ++ [.int .i64 x.1.a, .int .i64 x.1.kind, .slice x.2.1 x.2.2.1 x.2.2.2] ++ flat encO Z2 = flat encO (Z1 ++ x :: Z2) := by
  rw [flat_append, show flat encO (x :: Z2) = encO x ++ flat encO Z2 by simp [flat]]
  simp [encO]
theorem insA_at {N size : Nat} {new : Nat → Ob} {B : List Ob} : ∀ {A : List Ob} {p : Nat}, Sm size p A → size < nxt N B - endA p A → insA N size new p (A ++ B) = some (endA p A, A ++ new (endA p A) :: B) := by
  intro A
  induction A with
  | nil =>
    intro p _ h
    cases B with
    | nil => exact if_pos h
    | cons o B => exact if_pos h
  | cons a A ih =>
    intro p h1 h2
    have := ih (p := a.fin) h1.2 h2
    show insA N size new p (a :: (A ++ B)) = _
    simp only [insA]
    rw [if_neg h1.1, this]
    rfl
theorem insA_no {N size : Nat} {new : Nat → Ob} : ∀ {A : List Ob} {p : Nat}, Sm size p A → ¬ size < N - endA p A → insA N size new p A = none := by
  intro A
  induction A with
  | nil => intro p _ h; exact if_neg h
  | cons a A ih =>
    intro p h1 h2
    have := ih (p := a.fin) h1.2 h2
    simp only [insA]
    rw [if_neg h1.1, this]
    rfl
theorem Sm.snoc {size : Nat} {o : Ob} : ∀ {A : List Ob} {p : Nat}, Sm size p A → ¬ size < o.a - endA p A → Sm size p (A ++ [o]) := by
  intro A
  induction A with
  | nil => intro p _ h; exact ⟨h, trivial⟩
  | cons a A ih => intro p h1 h2; exact ⟨h1.1, ih (p := a.fin) h1.2 h2⟩
set_option maxRecDepth 10000 attribute [local irreducible] Code.wp wpList Calls Ex Op1 sat bat blk cb own Go.Fw.mp Go.Fw.mpO Go.Fw.mpI Go.Fw.mpE Go.Fw.itr HS Rd Ret wkD Hp Cl Cls Exit.then Exit.inBlock Exit.noGoto bodyPost Go.Fw.flat wk2 Go.Fw.all Go.Fw.owns wpOp
attribute [local irreducible] hdA gaps isA roomA longA nextA gapT findI objA

theorem rfree_spec (w0 : World) (M : Nat → Prop) (b N : Nat) (L : List Ob) (z : Int) (hok : Ok N L) (hH : HS w0 M [rfI b N L] w0) :
    Ret Try.prog 52 #[.pointer (some (bat b 0)), .int .i64 z] w0 (fun v w => v = .int .i64 (freeA L z).1 ∧ HS w0 M [rfI b N (freeA L z).2] w) := by
  have hL := hok.len
  (refine enter (N := 32) Try.func52 rfl Try.ntmps52 rfl ?_; intro a hA; dsimp only [sl0, Nat.reduceAdd] at hA)
  repeat' (first | (first | (refine GT ?_ ?_ <;> intro hg <;> clear hA a <;> intro a hA <;> (first | exact FA | replace hg := of_decide_eq_true hg | replace hg := of_decide_eq_false hg | skip)) | (refine QT0 ?_; clear hA a; intro a hA) | (first | (refine BT ?_; clear hA hH; rintro _ w ⟨bN, rfl, hH⟩ a hA) | (refine LT ?_; clear hA hH; rintro _ w ⟨oN, rfl, hH⟩ a hA) | (refine AT ?_; clear hA; rintro _ w ⟨oN, cN, rfl, hH2⟩ a hA; clear hH; have hH := (hH2 _ (by (repeat constructor))).tail; clear hH2) | (refine S0T ?_; clear hH; rintro _ w hH) )) | ((first | refine CT ?_ | (refine DT ?_ ?_ <;> intro hc <;> try (exfalso; omega))) <;> repeat' refine CT ?_) | (first | (refine DSK ?_; clear hA a; intro a hA) | (first | (refine DLT ?_; clear hA hH; rintro _ w ⟨oN, rfl, hH⟩; refine ⟨STT, ?_⟩; intro a hA) | (refine DAT ?_; clear hA; rintro _ w ⟨oN, cN, rfl, hH2⟩; clear hH; have hH := (hH2 _ (by (repeat constructor))).tail; clear hH2; refine ⟨STT, ?_⟩; intro a hA))) )
  (refine st_op hA rfl rfl (by decide) (op_call rfl rfl rfl (rfind_spec _ b N L z hL (rf_read hH))) ?_; clear hA; rintro _ w ⟨rfl, hk⟩ a hA)
  replace hH := hH.keep hk
  clear hk
  rcases findI_obj L z with ⟨h1, h2⟩ | ⟨k, o, h1, h2, h3⟩
  · have hf : freeA L z = (7, L) := by simp only [freeA, h1]
    rw [h2] at hA
    rw [hf]
    repeat' (first | (first | (refine GT ?_ ?_ <;> intro hg <;> clear hA a <;> intro a hA <;> (first | exact FA | replace hg := of_decide_eq_true hg | replace hg := of_decide_eq_false hg | skip)) | (refine QT0 ?_; clear hA a; intro a hA) | (first | (refine BT ?_; clear hA hH; rintro _ w ⟨bN, rfl, hH⟩ a hA) | (refine LT ?_; clear hA hH; rintro _ w ⟨oN, rfl, hH⟩ a hA) | (refine AT ?_; clear hA; rintro _ w ⟨oN, cN, rfl, hH2⟩ a hA; clear hH; have hH := (hH2 _ (by (repeat constructor))).tail; clear hH2) | (refine S0T ?_; clear hH; rintro _ w hH) )) | ((first | refine CT ?_ | (refine DT ?_ ?_ <;> intro hc <;> try (exfalso; omega))) <;> repeat' refine CT ?_) | (first | (refine DSK ?_; clear hA a; intro a hA) | (first | (refine DLT ?_; clear hA hH; rintro _ w ⟨oN, rfl, hH⟩; refine ⟨STT, ?_⟩; intro a hA) | (refine DAT ?_; clear hA; rintro _ w ⟨oN, cN, rfl, hH2⟩; clear hH; have hH := (hH2 _ (by (repeat constructor))).tail; clear hH2; refine ⟨STT, ?_⟩; intro a hA))) )
    exact rt1 (.inl rfl) rfl hA rfl ⟨rfl, hH⟩
  rw [h2] at hA
  obtain ⟨q, hql, hH2⟩ := rf_open hH
  have hq := rfQ_read hql hH2
  clear hH
  have hH := hH2
  clear hH2
  have hsp := hq.sp
  obtain ⟨d, c, hd, hrd, ca, ck, cf⟩ := hq.at h3
  obtain ⟨qo, qc, ds⟩ := q
  dsimp only at hd hql
  obtain ⟨e1, e2⟩ := split_at h3
  obtain ⟨e3, e4⟩ := split_at hd
  generalize L.take k = A at *
  generalize L.drop (k + 1) = B at *
  generalize ds.take k = dA at *
  generalize ds.drop (k + 1) = dB at *
  subst e1
  subst e3
  subst e2
  have hz := (objA_some h1).2
  rw [free_of hok.lay hz h1]
  unfold rfQ at hH
  dsimp only at hH
  rw [zip_mid e4.symm] at hH
  have hlen : (A ++ o :: B).length = A.length + (B.length + 1) := by rw [List.length_append, List.length_cons]
  have hql2 : B.length = dB.length := by simp at hql; omega
  have hz1 : (A.zip dA).length = A.length := by rw [List.length_zip]; omega
  have hz2 : (B.zip dB).length = B.length := by rw [List.length_zip]; omega
  have hk1 : A.length + 1 = (A.zip dA ++ [(o, d, o.fs.length, c)]).length := by rw [List.length_append, hz1]; rfl
  have hk2 : ((A.zip dA ++ [(o, d, o.fs.length, c)]) ++ B.zip dB).length = A.length + (B.length + 1) := by rw [List.length_append, ← hk1, hz2]; omega
  have hqc := hq.nO
  dsimp only at hqc hsp
  rw [hlen] at hqc
  rw [hlen] at hL
  repeat' (first | (first | (refine GT ?_ ?_ <;> intro hg <;> clear hA a <;> intro a hA <;> (first | exact FA | replace hg := of_decide_eq_true hg | replace hg := of_decide_eq_false hg | skip)) | ((first | apply st_ex hA hH rfl rfl (by decide) | apply dr_ex hA rfl rfl rfl (by decide) | apply dr_exp hA rfl rfl rfl (by decide) | apply dr_ex3 hA hH rfl rfl rfl (by decide)); (first | (apply ex_slice_hi (k := A.length); rfl; rfl; rfl; omega)); clear hA a; intro a hA) | (refine QT0 ?_; clear hA a; intro a hA) | (first | (refine BT ?_; clear hA hH; rintro _ w ⟨bN, rfl, hH⟩ a hA) | (refine LT ?_; clear hA hH; rintro _ w ⟨oN, rfl, hH⟩ a hA) | (refine AT ?_; clear hA; rintro _ w ⟨oN, cN, rfl, hH2⟩ a hA; clear hH; have hH := (hH2 _ (by (repeat constructor))).tail; clear hH2) | (refine S0T ?_; clear hH; rintro _ w hH) | (apply st_op hA rfl rfl (by decide); apply op_append; rfl; rfl; exact hH; exact MEMT; exact rd_take encO_len (hH.own_rd (o := qo) (by exact MEMT)); exact (by rw [flat_length encO_len, hz1]); rfl; decide; exact flat_one_cell (fun _ => rfl) _; (unfold maxLen; omega); omega; clear hA; rintro _ w ⟨oN, cN, rfl, hH2⟩ a hA; clear hH; have hH := hH2 _ (by (repeat constructor)); clear hH2))) | ((first | refine CT ?_ | (refine DT ?_ ?_ <;> intro hc <;> try (exfalso; omega))) <;> repeat' refine CT ?_) | (first | (refine DSK ?_; clear hA a; intro a hA) | (first | (refine DLT ?_; clear hA hH; rintro _ w ⟨oN, rfl, hH⟩; refine ⟨STT, ?_⟩; intro a hA) | (refine DAT ?_; clear hA; rintro _ w ⟨oN, cN, rfl, hH2⟩; clear hH; have hH := (hH2 _ (by (repeat constructor))).tail; clear hH2; refine ⟨STT, ?_⟩; intro a hA))) )
  simp only [Nat.zero_add, List.nil_append] at hH hA
  rw [hlen] at hA
  repeat' (first | (first | (refine GT ?_ ?_ <;> intro hg <;> clear hA a <;> intro a hA <;> (first | exact FA | replace hg := of_decide_eq_true hg | replace hg := of_decide_eq_false hg | skip)) | ((first | apply st_ex hA hH rfl rfl (by decide) | apply dr_ex hA rfl rfl rfl (by decide) | apply dr_exp hA rfl rfl rfl (by decide) | apply dr_ex3 hA hH rfl rfl rfl (by decide)); (first | (apply ex_slice_lo (k := A.length + 1); rfl; rfl; rfl; omega)); clear hA a; intro a hA) | (refine QT0 ?_; clear hA a; intro a hA) | (first | (refine BT ?_; clear hA hH; rintro _ w ⟨bN, rfl, hH⟩ a hA) | (refine LT ?_; clear hA hH; rintro _ w ⟨oN, rfl, hH⟩ a hA) | (refine AT ?_; clear hA; rintro _ w ⟨oN, cN, rfl, hH2⟩ a hA; clear hH; have hH := (hH2 _ (by (repeat constructor))).tail; clear hH2) | (refine S0T ?_; clear hH; rintro _ w hH) | (apply st_op hA rfl rfl (by decide); apply op_append; rfl; rfl; exact hH; exact MEMT; exact rd_drop encO_len (A := A.zip dA ++ [(o, d, o.fs.length, c)]) (B := B.zip dB) (k := A.length + 1) (n := A.length + (B.length + 1)) (by rw [List.append_assoc]; exact hH.own_rd (o := qo) (by exact MEMT)) hk1 hk2 (by omega); exact (by rw [flat_length encO_len, hz2]; omega); rfl; decide; exact flat_one_cell (fun _ => rfl) _; (unfold maxLen; omega); omega; clear hA; rintro _ w ⟨oN, cN, rfl, hH2⟩ a hA; clear hH; have hH := hH2 _ (by (repeat constructor)); clear hH2) | (apply st_op0 hA rfl rfl; apply op_store_fld; rfl; rfl; rfl; exact hH; (repeat constructor); (repeat rfl); clear hH; rintro _ w hH))) | ((first | refine CT ?_ | (refine DT ?_ ?_ <;> intro hc <;> try (exfalso; omega))) <;> repeat' refine CT ?_) | (first | (refine DSK ?_; clear hA a; intro a hA) | (first | (refine DLT ?_; clear hA hH; rintro _ w ⟨oN, rfl, hH⟩; refine ⟨STT, ?_⟩; intro a hA) | (refine DAT ?_; clear hA; rintro _ w ⟨oN, cN, rfl, hH2⟩; clear hH; have hH := (hH2 _ (by (repeat constructor))).tail; clear hH2; refine ⟨STT, ?_⟩; intro a hA))) )
  have en : A.length + (A.length + (B.length + 1) - (A.length + 1)) = (A ++ B).length := by rw [List.length_append]; omega
  rw [en, flat_two, ← zip_two e4.symm] at hH
  refine rt1 (.inl rfl) rfl hA rfl ⟨rfl, ?_⟩
  rw [List.map_append, List.map_cons, owns_split (by rw [List.length_map]; exact e4), owns_cons] at hH
  exact rf_close e4 hql2.symm (HS.re1 hH)

theorem rset_spec (w0 : World) (M : Nat → Prop) (b N : Nat) (L : List Ob) (z i x : Int) (hok : Ok N L) (hH : HS w0 M [rfI b N L] w0) :
    Ret Try.prog 43 #[.pointer (some (bat b 0)), .int .i64 z, .int .i64 i, .int .u64 x] w0 (fun v w => v = .int .i64 (setA L z i x).1 ∧ HS w0 M [rfI b N (setA L z i x).2] w) := by
  have hL := hok.len
  (refine enter (N := 53) Try.func43 rfl Try.ntmps43 rfl ?_; intro a hA; dsimp only [sl0, Nat.reduceAdd] at hA)
  repeat' (first | (first | (refine GT ?_ ?_ <;> intro hg <;> clear hA a <;> intro a hA <;> (first | exact FA | replace hg := of_decide_eq_true hg | replace hg := of_decide_eq_false hg | skip)) | (refine QT0 ?_; clear hA a; intro a hA) | (first | (refine BT ?_; clear hA hH; rintro _ w ⟨bN, rfl, hH⟩ a hA) | (refine LT ?_; clear hA hH; rintro _ w ⟨oN, rfl, hH⟩ a hA) | (refine AT ?_; clear hA; rintro _ w ⟨oN, cN, rfl, hH2⟩ a hA; clear hH; have hH := (hH2 _ (by (repeat constructor))).tail; clear hH2) | (refine S0T ?_; clear hH; rintro _ w hH) )) | ((first | refine CT ?_ | (refine DT ?_ ?_ <;> intro hc <;> try (exfalso; omega))) <;> repeat' refine CT ?_) | (first | (refine DSK ?_; clear hA a; intro a hA) | (first | (refine DLT ?_; clear hA hH; rintro _ w ⟨oN, rfl, hH⟩; refine ⟨STT, ?_⟩; intro a hA) | (refine DAT ?_; clear hA; rintro _ w ⟨oN, cN, rfl, hH2⟩; clear hH; have hH := (hH2 _ (by (repeat constructor))).tail; clear hH2; refine ⟨STT, ?_⟩; intro a hA))) )
  (refine st_op hA rfl rfl (by decide) (op_call rfl rfl rfl (rfind_spec _ b N L z hL (rf_read hH))) ?_; clear hA; rintro _ w ⟨rfl, hk⟩ a hA)
  replace hH := hH.keep hk
  clear hk
  rcases findI_obj L z with ⟨h1, h2⟩ | ⟨k, o, h1, h2, h3⟩
  · have hf : setA L z i x = (7, L) := by simp only [setA, h1]
    rw [h2] at hA
    rw [hf]
    repeat' (first | (first | (refine GT ?_ ?_ <;> intro hg <;> clear hA a <;> intro a hA <;> (first | exact FA | replace hg := of_decide_eq_true hg | replace hg := of_decide_eq_false hg | skip)) | (refine QT0 ?_; clear hA a; intro a hA) | (first | (refine BT ?_; clear hA hH; rintro _ w ⟨bN, rfl, hH⟩ a hA) | (refine LT ?_; clear hA hH; rintro _ w ⟨oN, rfl, hH⟩ a hA) | (refine AT ?_; clear hA; rintro _ w ⟨oN, cN, rfl, hH2⟩ a hA; clear hH; have hH := (hH2 _ (by (repeat constructor))).tail; clear hH2) | (refine S0T ?_; clear hH; rintro _ w hH) )) | ((first | refine CT ?_ | (refine DT ?_ ?_ <;> intro hc <;> try (exfalso; omega))) <;> repeat' refine CT ?_) | (first | (refine DSK ?_; clear hA a; intro a hA) | (first | (refine DLT ?_; clear hA hH; rintro _ w ⟨oN, rfl, hH⟩; refine ⟨STT, ?_⟩; intro a hA) | (refine DAT ?_; clear hA; rintro _ w ⟨oN, cN, rfl, hH2⟩; clear hH; have hH := (hH2 _ (by (repeat constructor))).tail; clear hH2; refine ⟨STT, ?_⟩; intro a hA))) )
    exact rt1 (.inl rfl) rfl hA rfl ⟨rfl, hH⟩
  rw [h2] at hA
  have hkL := (List.getElem?_eq_some_iff.1 h3).1
  have hm := (hok.kd o (List.mem_of_getElem? h3)).2
  by_cases hir : 0 ≤ i ∧ i < (o.fs.length : Int)
  rotate_left
  · have hf : setA L z i x = (2, L) := by simp only [setA, h1]; rw [if_neg hir]
    rw [hf]
    obtain ⟨q, hql, hH2⟩ := rf_open hH
    have hq := rfQ_read hql hH2
    have hsp := hq.sp
    obtain ⟨d, c, hd, hrd, ca, ck, cf⟩ := hq.at h3
    clear hH
    have hH := hH2
    clear hH2
    unfold rfQ at hH
    repeat' (first | (first | (refine GT ?_ ?_ <;> intro hg <;> clear hA a <;> intro a hA <;> (first | exact FA | replace hg := of_decide_eq_true hg | replace hg := of_decide_eq_false hg | skip)) | ((first | apply st_ex hA hH rfl rfl (by decide) | apply dr_ex hA rfl rfl rfl (by decide) | apply dr_exp hA rfl rfl rfl (by decide) | apply dr_ex3 hA hH rfl rfl rfl (by decide)); (first | (apply ex_load; rfl; apply cl_own; exact MEMT; exact cf)); clear hA a; intro a hA) | (refine QT0 ?_; clear hA a; intro a hA) | (first | (refine BT ?_; clear hA hH; rintro _ w ⟨bN, rfl, hH⟩ a hA) | (refine LT ?_; clear hA hH; rintro _ w ⟨oN, rfl, hH⟩ a hA) | (refine AT ?_; clear hA; rintro _ w ⟨oN, cN, rfl, hH2⟩ a hA; clear hH; have hH := (hH2 _ (by (repeat constructor))).tail; clear hH2) | (refine S0T ?_; clear hH; rintro _ w hH) )) | ((first | refine CT ?_ | (refine DT ?_ ?_ <;> intro hc <;> try (exfalso; omega))) <;> repeat' refine CT ?_) | (first | (refine DSK ?_; clear hA a; intro a hA) | (first | (refine DLT ?_; clear hA hH; rintro _ w ⟨oN, rfl, hH⟩; refine ⟨STT, ?_⟩; intro a hA) | (refine DAT ?_; clear hA; rintro _ w ⟨oN, cN, rfl, hH2⟩; clear hH; have hH := (hH2 _ (by (repeat constructor))).tail; clear hH2; refine ⟨STT, ?_⟩; intro a hA))) )
    all_goals exact rt1 (.inl rfl) rfl hA rfl ⟨rfl, rf_shut q hql hH⟩
  obtain ⟨j, rfl⟩ : ∃ j : Nat, i = j := ⟨i.toNat, by omega⟩
  have hj : j < o.fs.length := by omega
  obtain ⟨q, hql, hH2⟩ := rf_open hH
  have hq := rfQ_read hql hH2
  clear hH
  have hH := hH2
  clear hH2
  have hsp := hq.sp
  obtain ⟨d, c, hd, hrd, ca, ck, cf⟩ := hq.at h3
  obtain ⟨qo, qc, ds⟩ := q
  dsimp only at hd hql ca ck cf
  have hzL : (L.zip ds)[k]? = some (o, (d, o.fs.length, c)) := zip_at h3 hd
  have hzl : (L.zip ds).length = L.length := by rw [List.length_zip, hql]; omega
  have hfs : setA L z j x = (0, setL L o.a j x) := by
    have := (objA_some h1).2
    subst this
    simp only [setA, h1]; rw [if_pos hir]; rfl
  rw [hfs]
  unfold rfQ at hH
  dsimp only at hH
  repeat' (first | (first | (refine GT ?_ ?_ <;> intro hg <;> clear hA a <;> intro a hA <;> (first | exact FA | replace hg := of_decide_eq_true hg | replace hg := of_decide_eq_false hg | skip)) | ((first | apply st_ex hA hH rfl rfl (by decide) | apply dr_ex hA rfl rfl rfl (by decide) | apply dr_exp hA rfl rfl rfl (by decide) | apply dr_ex3 hA hH rfl rfl rfl (by decide)); (first | (apply ex_load; rfl; apply cl_own; exact MEMT; exact cf)); clear hA a; intro a hA) | (refine QT0 ?_; clear hA a; intro a hA) | (first | (refine BT ?_; clear hA hH; rintro _ w ⟨bN, rfl, hH⟩ a hA) | (refine LT ?_; clear hA hH; rintro _ w ⟨oN, rfl, hH⟩ a hA) | (refine AT ?_; clear hA; rintro _ w ⟨oN, cN, rfl, hH2⟩ a hA; clear hH; have hH := (hH2 _ (by (repeat constructor))).tail; clear hH2) | (refine S0T ?_; clear hH; rintro _ w hH) )) | ((first | refine CT ?_ | (refine DT ?_ ?_ <;> intro hc <;> try (exfalso; omega))) <;> repeat' refine CT ?_) | (first | (refine DSK ?_; clear hA a; intro a hA) | (first | (refine DLT ?_; clear hA hH; rintro _ w ⟨oN, rfl, hH⟩; refine ⟨STT, ?_⟩; intro a hA) | (refine DAT ?_; clear hA; rintro _ w ⟨oN, cN, rfl, hH2⟩; clear hH; have hH := (hH2 _ (by (repeat constructor))).tail; clear hH2; refine ⟨STT, ?_⟩; intro a hA))) )
  have hrow : (L.map (·.fs))[k]? = some o.fs := by rw [List.getElem?_map, h3]; rfl
  repeat' (first | (first | (refine GT ?_ ?_ <;> intro hg <;> clear hA a <;> intro a hA <;> (first | exact FA | replace hg := of_decide_eq_true hg | replace hg := of_decide_eq_false hg | skip)) | ((first | apply st_ex hA hH rfl rfl (by decide) | apply dr_ex hA rfl rfl rfl (by decide) | apply dr_exp hA rfl rfl rfl (by decide) | apply dr_ex3 hA hH rfl rfl rfl (by decide)); (first | (apply ex_load; rfl; apply cl_own; exact MEMT; exact cf)); clear hA a; intro a hA) | (refine QT0 ?_; clear hA a; intro a hA) | (first | (refine BT ?_; clear hA hH; rintro _ w ⟨bN, rfl, hH⟩ a hA) | (refine LT ?_; clear hA hH; rintro _ w ⟨oN, rfl, hH⟩ a hA) | (refine AT ?_; clear hA; rintro _ w ⟨oN, cN, rfl, hH2⟩ a hA; clear hH; have hH := (hH2 _ (by (repeat constructor))).tail; clear hH2) | (refine S0T ?_; clear hH; rintro _ w hH) | (apply st_op hA rfl rfl (by decide); apply op_append; rfl; rfl; exact hH; exact MEMT; exact (hH.owns_rd (by exact MEMT) hd hrow).1; exact (flat_length encW_len _); rfl; decide; exact flat_one_cell (fun _ => rfl) _; (unfold maxLen; omega); omega; clear hA; rintro _ w ⟨oN, cN, rfl, hH2⟩ a hA; clear hH; have hH := hH2 _ (by (repeat constructor)); clear hH2))) | ((first | refine CT ?_ | (refine DT ?_ ?_ <;> intro hc <;> try (exfalso; omega))) <;> repeat' refine CT ?_) | (first | (refine DSK ?_; clear hA a; intro a hA) | (first | (refine DLT ?_; clear hA hH; rintro _ w ⟨oN, rfl, hH⟩; refine ⟨STT, ?_⟩; intro a hA) | (refine DAT ?_; clear hA; rintro _ w ⟨oN, cN, rfl, hH2⟩; clear hH; have hH := (hH2 _ (by (repeat constructor))).tail; clear hH2; refine ⟨STT, ?_⟩; intro a hA))) )
  simp only [Nat.zero_add, List.nil_append] at hH hA
  have hspN : Sp oN o.fs.length := hH.own_sp (by exact MEMT)
  repeat' (first | (first | (refine GT ?_ ?_ <;> intro hg <;> clear hA a <;> intro a hA <;> (first | exact FA | replace hg := of_decide_eq_true hg | replace hg := of_decide_eq_false hg | skip)) | ((first | apply st_ex hA hH rfl rfl (by decide) | apply dr_ex hA rfl rfl rfl (by decide) | apply dr_exp hA rfl rfl rfl (by decide) | apply dr_ex3 hA hH rfl rfl rfl (by decide)); (first | (apply ex_load; rfl; apply cl_own; exact MEMT; exact cf)); clear hA a; intro a hA) | (refine QT0 ?_; clear hA a; intro a hA) | (first | (refine BT ?_; clear hA hH; rintro _ w ⟨bN, rfl, hH⟩ a hA) | (refine LT ?_; clear hA hH; rintro _ w ⟨oN, rfl, hH⟩ a hA) | (refine AT ?_; clear hA; rintro _ w ⟨oN, cN, rfl, hH2⟩ a hA; clear hH; have hH := (hH2 _ (by (repeat constructor))).tail; clear hH2) | (refine S0T ?_; clear hH; rintro _ w hH) | (apply st_op0 hA rfl rfl; apply op_set1 (enc := encW) (y0 := x) (j := j * 1); rfl; rfl; rfl; rfl; exact encW_len; exact hH; (repeat constructor); omega; clear hH; rintro _ w hH) | (apply st_op0 hA rfl rfl; apply op_store_own1 (o := qo); rfl; rfl; rfl; exact hH; (repeat constructor); (rw [flat_length encO_len, hzl]; omega); exact flat_set2 (d' := (oN, o.fs.length, cN)) (o' := { o with fs := o.fs.set j x }) hzL rfl rfl; clear hH; rintro _ w hH))) | ((first | refine CT ?_ | (refine DT ?_ ?_ <;> intro hc <;> try (exfalso; omega))) <;> repeat' refine CT ?_) | (first | (refine DSK ?_; clear hA a; intro a hA) | (first | (refine DLT ?_; clear hA hH; rintro _ w ⟨oN, rfl, hH⟩; refine ⟨STT, ?_⟩; intro a hA) | (refine DAT ?_; clear hA; rintro _ w ⟨oN, cN, rfl, hH2⟩; clear hH; have hH := (hH2 _ (by (repeat constructor))).tail; clear hH2; refine ⟨STT, ?_⟩; intro a hA))) )
  refine rt1 (.inl rfl) rfl hA rfl ⟨rfl, ?_⟩
  obtain ⟨e1, e2⟩ := split_at h3
  obtain ⟨e3, e4⟩ := split_at hd
  generalize L.take k = A at *
  generalize L.drop (k + 1) = B at *
  generalize ds.take k = dA at *
  generalize ds.drop (k + 1) = dB at *
  subst e1
  subst e3
  subst e2
  have hz1 : (A.zip dA).length = A.length := by rw [List.length_zip]; omega
  have hlB : dB.length = B.length := by simp at hql; omega
  rw [setL_mid hok.lay]
  have hset : ((A ++ o :: B).zip (dA ++ (d, o.fs.length, c) :: dB)).set A.length ({ o with fs := o.fs.set j x }, ((oN, o.fs.length, cN) : Sd)) = A.zip dA ++ ({ o with fs := o.fs.set j x }, ((oN, o.fs.length, cN) : Sd)) :: B.zip dB := by
    rw [zip_mid e4.symm, ← hz1, set_mid]
  rw [hset, Nat.mul_one, List.map_append, owns_split (by rw [List.length_map]; exact e4), List.map_cons, owns_cons] at hH
  have hl2 : (A ++ o :: B).length = (A ++ { o with fs := o.fs.set j x } :: B).length := by simp
  have hl3 : o.fs.length = (o.fs.set j x).length := by simp
  rw [hl2] at hH
  exact rf_close2 (d := (oN, o.fs.length, cN)) e4 hlB (HS.re2 hH)

theorem ralloc_spec (w0 : World) (M : Nat → Prop) (b N : Nat) (L : List Ob) (k s : Int) (hok : Ok N L) (hH : HS w0 M [rfI b N L] w0) :
    Ret Try.prog 42 #[.pointer (some (bat b 0)), .int .i64 k, .int .i64 s] w0 (fun v w => v = .tuple #[.int .i64 (allocA N L k s).1, .int .i64 (allocA N L k s).2.1] ∧ HS w0 M [rfI b N (allocA N L k s).2.2] w) := by
  have hL := hok.len
  have hn2 := hok.n2
  (refine enter (N := 81) Try.func42 rfl Try.ntmps42 rfl ?_; intro a hA; dsimp only [sl0, Nat.reduceAdd] at hA)
  by_cases hk : k < 1 ∨ 6 < k
  · have hf : allocA N L k s = (0, 8, L) := if_pos hk
    rw [hf]
    repeat' (first | (first | (refine GT ?_ ?_ <;> intro hg <;> clear hA a <;> intro a hA <;> (first | exact FA | replace hg := of_decide_eq_true hg | replace hg := of_decide_eq_false hg | skip)) | (refine QT0 ?_; clear hA a; intro a hA) | (first | (refine BT ?_; clear hA hH; rintro _ w ⟨bN, rfl, hH⟩ a hA) | (refine LT ?_; clear hA hH; rintro _ w ⟨oN, rfl, hH⟩ a hA) | (refine AT ?_; clear hA; rintro _ w ⟨oN, cN, rfl, hH2⟩ a hA; clear hH; have hH := (hH2 _ (by (repeat constructor))).tail; clear hH2) | (refine S0T ?_; clear hH; rintro _ w hH) )) | ((first | refine CT ?_ | (refine DT ?_ ?_ <;> intro hc <;> try (exfalso; omega))) <;> repeat' refine CT ?_) | (first | (refine DSK ?_; clear hA a; intro a hA) | (first | (refine DLT ?_; clear hA hH; rintro _ w ⟨oN, rfl, hH⟩; refine ⟨STT, ?_⟩; intro a hA) | (refine DAT ?_; clear hA; rintro _ w ⟨oN, cN, rfl, hH2⟩; clear hH; have hH := (hH2 _ (by (repeat constructor))).tail; clear hH2; refine ⟨STT, ?_⟩; intro a hA))) )
    all_goals exact rt2 (.inl rfl) rfl hA rfl rfl ⟨rfl, hH⟩
  by_cases hs : s < 0 ∨ 4096 < s
  · have hf : allocA N L k s = (0, 2, L) := by unfold allocA; rw [if_neg hk, if_pos hs]
    rw [hf]
    repeat' (first | (first | (refine GT ?_ ?_ <;> intro hg <;> clear hA a <;> intro a hA <;> (first | exact FA | replace hg := of_decide_eq_true hg | replace hg := of_decide_eq_false hg | skip)) | (refine QT0 ?_; clear hA a; intro a hA) | (first | (refine BT ?_; clear hA hH; rintro _ w ⟨bN, rfl, hH⟩ a hA) | (refine LT ?_; clear hA hH; rintro _ w ⟨oN, rfl, hH⟩ a hA) | (refine AT ?_; clear hA; rintro _ w ⟨oN, cN, rfl, hH2⟩ a hA; clear hH; have hH := (hH2 _ (by (repeat constructor))).tail; clear hH2) | (refine S0T ?_; clear hH; rintro _ w hH) )) | ((first | refine CT ?_ | (refine DT ?_ ?_ <;> intro hc <;> try (exfalso; omega))) <;> repeat' refine CT ?_) | (first | (refine DSK ?_; clear hA a; intro a hA) | (first | (refine DLT ?_; clear hA hH; rintro _ w ⟨oN, rfl, hH⟩; refine ⟨STT, ?_⟩; intro a hA) | (refine DAT ?_; clear hA; rintro _ w ⟨oN, cN, rfl, hH2⟩; clear hH; have hH := (hH2 _ (by (repeat constructor))).tail; clear hH2; refine ⟨STT, ?_⟩; intro a hA))) )
    all_goals exact rt2 (.inl rfl) rfl hA rfl rfl ⟨rfl, hH⟩
  obtain ⟨kd, rfl⟩ : ∃ n : Nat, k = n := ⟨k.toNat, by omega⟩
  obtain ⟨sz, rfl⟩ : ∃ n : Nat, s = n := ⟨s.toNat, by omega⟩
  have hf : allocA N L kd sz = match insA N sz (newO kd sz) 1 L with
    | none => (0, 6, L)
    | some (p, L') => ((p : Int), 0, L') := by
    unfold allocA
    rw [if_neg hk, if_neg hs]
    rfl
  rw [hf]
  obtain ⟨q, hql, hH2⟩ := rf_open hH
  clear hH
  have hH := hH2
  clear hH2
  unfold rfQ at hH
  repeat' (first | (first | (refine GT ?_ ?_ <;> intro hg <;> clear hA a <;> intro a hA <;> (first | exact FA | replace hg := of_decide_eq_true hg | replace hg := of_decide_eq_false hg | skip)) | (refine QT0 ?_; clear hA a; intro a hA) | (first | (refine BT ?_; clear hA hH; rintro _ w ⟨bN, rfl, hH⟩ a hA) | (refine LT ?_; clear hA hH; rintro _ w ⟨oN, rfl, hH⟩ a hA) | (refine AT ?_; clear hA; rintro _ w ⟨oN, cN, rfl, hH2⟩ a hA; clear hH; have hH := (hH2 _ (by (repeat constructor))).tail; clear hH2) | (refine S0T ?_; clear hH; rintro _ w hH) )) | ((first | refine CT ?_ | (refine DT ?_ ?_ <;> intro hc <;> try (exfalso; omega))) <;> repeat' refine CT ?_) | (first | (refine DSK ?_; clear hA a; intro a hA) | (first | (refine DLT ?_; clear hA hH; rintro _ w ⟨oN, rfl, hH⟩; refine ⟨STT, ?_⟩; intro a hA) | (refine DAT ?_; clear hA; rintro _ w ⟨oN, cN, rfl, hH2⟩; clear hH; have hH := (hH2 _ (by (repeat constructor))).tail; clear hH2; refine ⟨STT, ?_⟩; intro a hA))) )
  refine wp_lpj (S := Nat) (fun i a w => i ≤ L.length + 1 ∧ (i ≤ L.length → Sm sz 1 (L.take i)) ∧ (i = L.length + 1 → insA N sz (newO kd sz) 1 L = none) ∧ HS w0 M (rfQ b N L q ++ []) w ∧ Sl 81 [(0, .pointer (some (bat b 0))), (1, .int .i64 kd), (2, .int .i64 sz), (8, .int .i64 i)] a) (fun i => L.length + 1 - i)
    (fun a w => insA N sz (newO kd sz) 1 L = none ∧ HS w0 M (rfQ b N L q ++ []) w ∧ Sl 81 [] a) 0 ⟨by omega, fun _ => trivial, fun h => by omega, hH, (hA.sub (by (repeat (first | exact trivial | refine ⟨rfl, ?_⟩))))⟩ ?_ ?_
  rotate_left
  · clear hA hH
    rintro a w ⟨hno, hH, hA⟩
    rw [hno]
    repeat' (first | (first | (refine GT ?_ ?_ <;> intro hg <;> clear hA a <;> intro a hA <;> (first | exact FA | replace hg := of_decide_eq_true hg | replace hg := of_decide_eq_false hg | skip)) | (refine QT0 ?_; clear hA a; intro a hA) | (first | (refine BT ?_; clear hA hH; rintro _ w ⟨bN, rfl, hH⟩ a hA) | (refine LT ?_; clear hA hH; rintro _ w ⟨oN, rfl, hH⟩ a hA) | (refine AT ?_; clear hA; rintro _ w ⟨oN, cN, rfl, hH2⟩ a hA; clear hH; have hH := (hH2 _ (by (repeat constructor))).tail; clear hH2) | (refine S0T ?_; clear hH; rintro _ w hH) )) | ((first | refine CT ?_ | (refine DT ?_ ?_ <;> intro hc <;> try (exfalso; omega))) <;> repeat' refine CT ?_) | (first | (refine DSK ?_; clear hA a; intro a hA) | (first | (refine DLT ?_; clear hA hH; rintro _ w ⟨oN, rfl, hH⟩; refine ⟨STT, ?_⟩; intro a hA) | (refine DAT ?_; clear hA; rintro _ w ⟨oN, cN, rfl, hH2⟩; clear hH; have hH := (hH2 _ (by (repeat constructor))).tail; clear hH2; refine ⟨STT, ?_⟩; intro a hA))) )
    exact rt2 (.inl rfl) rfl hA rfl rfl ⟨rfl, rf_shut q hql hH⟩
  clear hA hH
  rintro i a w ⟨hi, hs1, hs2, hH, hA⟩
  by_cases hlt : i ≤ L.length
  rotate_left
  · obtain rfl : i = L.length + 1 := by omega
    unfold rfQ at hH
    repeat' (first | (first | (refine GT ?_ ?_ <;> intro hg <;> clear hA a <;> intro a hA <;> (first | exact FA | replace hg := of_decide_eq_true hg | replace hg := of_decide_eq_false hg | skip)) | (refine QT0 ?_; clear hA a; intro a hA) | (first | (refine BT ?_; clear hA hH; rintro _ w ⟨bN, rfl, hH⟩ a hA) | (refine LT ?_; clear hA hH; rintro _ w ⟨oN, rfl, hH⟩ a hA) | (refine AT ?_; clear hA; rintro _ w ⟨oN, cN, rfl, hH2⟩ a hA; clear hH; have hH := (hH2 _ (by (repeat constructor))).tail; clear hH2) | (refine S0T ?_; clear hH; rintro _ w hH) )) | ((first | refine CT ?_ | (refine DT ?_ ?_ <;> intro hc <;> try (exfalso; omega))) <;> repeat' refine CT ?_) | (first | (refine DSK ?_; clear hA a; intro a hA) | (first | (refine DLT ?_; clear hA hH; rintro _ w ⟨oN, rfl, hH⟩; refine ⟨STT, ?_⟩; intro a hA) | (refine DAT ?_; clear hA; rintro _ w ⟨oN, cN, rfl, hH2⟩; clear hH; have hH := (hH2 _ (by (repeat constructor))).tail; clear hH2; refine ⟨STT, ?_⟩; intro a hA))) )
    exact ⟨hs2 rfl, hH, (hA.sub (by (repeat (first | exact trivial | refine ⟨rfl, ?_⟩))))⟩
  have hsm := hs1 hlt
  have hq := rfQ_read hql hH
  have hsp := hq.sp
  have hqc := hq.nO
  have hok2 := hok
  rw [← List.take_append_drop i L] at hok2
  have hgp := hok2.split
  have hgap := fun w (h : RfR w b N L) => gap_spec w b N (L.take i) (L.drop i) i (by rw [List.length_take]; omega) hok2 (by rw [List.take_append_drop]; exact h)
  unfold rfQ at hH
  repeat' (first | (first | (refine GT ?_ ?_ <;> intro hg <;> clear hA a <;> intro a hA <;> (first | exact FA | replace hg := of_decide_eq_true hg | replace hg := of_decide_eq_false hg | skip)) | (refine QT0 ?_; clear hA a; intro a hA) | (first | (refine BT ?_; clear hA hH; rintro _ w ⟨bN, rfl, hH⟩ a hA) | (refine LT ?_; clear hA hH; rintro _ w ⟨oN, rfl, hH⟩ a hA) | (refine AT ?_; clear hA; rintro _ w ⟨oN, cN, rfl, hH2⟩ a hA; clear hH; have hH := (hH2 _ (by (repeat constructor))).tail; clear hH2) | (refine S0T ?_; clear hH; rintro _ w hH) )) | ((first | refine CT ?_ | (refine DT ?_ ?_ <;> intro hc <;> try (exfalso; omega))) <;> repeat' refine CT ?_) | (first | (refine DSK ?_; clear hA a; intro a hA) | (first | (refine DLT ?_; clear hA hH; rintro _ w ⟨oN, rfl, hH⟩; refine ⟨STT, ?_⟩; intro a hA) | (refine DAT ?_; clear hA; rintro _ w ⟨oN, cN, rfl, hH2⟩; clear hH; have hH := (hH2 _ (by (repeat constructor))).tail; clear hH2; refine ⟨STT, ?_⟩; intro a hA))) )
  (refine st_op hA rfl rfl (by decide) (op_call rfl rfl rfl (hgap _ ⟨q, hq⟩)) ?_; clear hA; rintro _ w ⟨rfl, hk⟩ a hA)
  replace hH := hH.keep hk
  clear hk hgap
  repeat' (first | (first | (refine GT ?_ ?_ <;> intro hg <;> clear hA a <;> intro a hA <;> (first | exact FA | replace hg := of_decide_eq_true hg | replace hg := of_decide_eq_false hg | skip)) | (refine QT0 ?_; clear hA a; intro a hA) | (first | (refine BT ?_; clear hA hH; rintro _ w ⟨bN, rfl, hH⟩ a hA) | (refine LT ?_; clear hA hH; rintro _ w ⟨oN, rfl, hH⟩ a hA) | (refine AT ?_; clear hA; rintro _ w ⟨oN, cN, rfl, hH2⟩ a hA; clear hH; have hH := (hH2 _ (by (repeat constructor))).tail; clear hH2) | (refine S0T ?_; clear hH; rintro _ w hH) )) | ((first | refine CT ?_ | (refine DT ?_ ?_ <;> intro hc <;> try (exfalso; omega))) <;> repeat' refine CT ?_) | (first | (refine DSK ?_; clear hA a; intro a hA) | (first | (refine DLT ?_; clear hA hH; rintro _ w ⟨oN, rfl, hH⟩; refine ⟨STT, ?_⟩; intro a hA) | (refine DAT ?_; clear hA; rintro _ w ⟨oN, cN, rfl, hH2⟩; clear hH; have hH := (hH2 _ (by (repeat constructor))).tail; clear hH2; refine ⟨STT, ?_⟩; intro a hA))) )
  rotate_left
  · -- too small
    refine ⟨i + 1, ⟨by omega, fun h => ?_, fun h => ?_, hH, (hA.sub (by (repeat (first | exact trivial | refine ⟨rfl, ?_⟩))))⟩, by omega⟩
    · rw [List.take_add_one, List.getElem?_eq_getElem (by omega)]
      refine hsm.snoc ?_
      rw [List.drop_eq_getElem_cons (by omega)] at *
      simp only [nxt] at *
      omega
    · obtain rfl : i = L.length := by omega
      rw [List.take_of_length_le (Nat.le_refl _), List.drop_of_length_le (Nat.le_refl _)] at *
      refine insA_no hsm ?_
      simp only [nxt] at *
      omega
  have hins := insA_at (N := N) (new := newO kd sz) (B := L.drop i) hsm (by omega)
  rw [List.take_append_drop] at hins
  rw [hins]
  dsimp only
  have eL : L = L.take i ++ L.drop i := (List.take_append_drop i L).symm
  have eD : q.ds = q.ds.take i ++ q.ds.drop i := (List.take_append_drop i q.ds).symm
  have lA : (L.take i).length = i := by rw [List.length_take]; omega
  have ldA : (q.ds.take i).length = i := by rw [List.length_take]; omega
  have ldB : (q.ds.drop i).length = (L.drop i).length := by rw [List.length_drop, List.length_drop]; omega
  have lB : L.length = i + (L.drop i).length := by rw [List.length_drop]; omega
  generalize L.take i = A at *
  generalize L.drop i = B at *
  generalize q.ds.take i = dA at *
  generalize q.ds.drop i = dB at *
  have hz1 : (A.zip dA).length = i := by rw [List.length_zip]; omega
  have hz2 : (B.zip dB).length = B.length := by rw [List.length_zip]; omega
  have hZ : L.zip q.ds = A.zip dA ++ B.zip dB := by
    rw [eD]
    conv => lhs; rw [eL]
    exact zip_two (by omega)
  rw [hZ] at hH
  generalize he1 : endA 1 A = e1 at *
  generalize q.o = qo at *
  generalize q.c = qc at *
  repeat' (first | (first | (refine GT ?_ ?_ <;> intro hg <;> clear hA a <;> intro a hA <;> (first | exact FA | replace hg := of_decide_eq_true hg | replace hg := of_decide_eq_false hg | skip)) | ((first | apply st_ex hA hH rfl rfl (by decide) | apply dr_ex hA rfl rfl rfl (by decide) | apply dr_exp hA rfl rfl rfl (by decide) | apply dr_ex3 hA hH rfl rfl rfl (by decide)); (first | (apply ex_build_p #[.int .i64 (e1 : Int), .int .i64 (kd : Int), .slice none 0 0]; rfl; (repeat (first | (intro _ h; exact absurd h (List.not_mem_nil)) | (refine List.forall_mem_cons.2 ⟨one_cell_of _ _, ?_⟩))); rfl)); clear hA a; intro a hA) | (refine QT0 ?_; clear hA a; intro a hA) | (first | (refine BT ?_; clear hA hH; rintro _ w ⟨bN, rfl, hH⟩ a hA) | (refine LT ?_; clear hA hH; rintro _ w ⟨oN, rfl, hH⟩ a hA) | (refine AT ?_; clear hA; rintro _ w ⟨oN, cN, rfl, hH2⟩ a hA; clear hH; have hH := (hH2 _ (by (repeat constructor))).tail; clear hH2) | (refine S0T ?_; clear hH; rintro _ w hH) | (apply st_op0 hA rfl rfl; apply op_store_agg (vs := [.int .i64 (e1 : Int), .int .i64 (kd : Int), .slice none 0 0]); rfl; rfl; exact hH; (repeat constructor); (repeat rfl); clear hH; rintro _ w hH))) | ((first | refine CT ?_ | (refine DT ?_ ?_ <;> intro hc <;> try (exfalso; omega))) <;> repeat' refine CT ?_) | (first | (refine DSK ?_; clear hA a; intro a hA) | (first | (refine DLT ?_; clear hA hH; rintro _ w ⟨oN, rfl, hH⟩; refine ⟨STT, ?_⟩; intro a hA) | (refine DAT ?_; clear hA; rintro _ w ⟨oN, cN, rfl, hH2⟩; clear hH; have hH := (hH2 _ (by (repeat constructor))).tail; clear hH2; refine ⟨STT, ?_⟩; intro a hA))) )
  replace hH := hH.nil_own 33 1
  rw [own_nil0 33 1 none 0 0 ones_zero] at hH
  refine wp_lpj (S := Nat × Option Addr × Nat) (fun s a w => s.1 ≤ sz ∧ HS w0 M [own 33 1 s.2.1 s.1 s.2.2 (flat encW (List.replicate s.1 1)), cb bN 70 [.int .i64 (e1 : Int), .int .i64 (kd : Int), .slice s.2.1 s.1 s.2.2],
      cb b 73 [.int .i64 N, .slice qo L.length qc], own 70 3 qo L.length qc (flat encO (A.zip dA ++ B.zip dB)), all (owns 33 1 encW q.ds (L.map (·.fs)))] w ∧
      Sl 81 [(0, .pointer (some (bat b 0))), (2, .int .i64 sz), (8, .int .i64 i), (9, .int .i64 e1), (11, .pointer (some (bat bN 0))), (12, .int .i64 s.1)] a) (fun s => sz - s.1)
    (fun a w => ∃ oW cW, HS w0 M [own 33 1 oW sz cW (flat encW (List.replicate sz 1)), cb bN 70 [.int .i64 (e1 : Int), .int .i64 (kd : Int), .slice oW sz cW],
      cb b 73 [.int .i64 N, .slice qo L.length qc], own 70 3 qo L.length qc (flat encO (A.zip dA ++ B.zip dB)), all (owns 33 1 encW q.ds (L.map (·.fs)))] w ∧
      Sl 81 [(0, .pointer (some (bat b 0))), (8, .int .i64 i), (9, .int .i64 e1), (11, .pointer (some (bat bN 0)))] a) (0, none, 0) ⟨Nat.zero_le _, hH, (hA.sub (by (repeat (first | exact trivial | refine ⟨rfl, ?_⟩))))⟩ ?_ ?_
  · clear hA hH
    rintro ⟨k2, oW, cW⟩ a w ⟨hk2, hH, hA⟩
    dsimp only at hk2 hH hA
    by_cases hlt2 : k2 < sz
    rotate_left
    · obtain rfl : k2 = sz := by omega
      repeat' (first | (first | (refine GT ?_ ?_ <;> intro hg <;> clear hA a <;> intro a hA <;> (first | exact FA | replace hg := of_decide_eq_true hg | replace hg := of_decide_eq_false hg | skip)) | (refine QT0 ?_; clear hA a; intro a hA) | (first | (refine BT ?_; clear hA hH; rintro _ w ⟨bN, rfl, hH⟩ a hA) | (refine LT ?_; clear hA hH; rintro _ w ⟨oN, rfl, hH⟩ a hA) | (refine AT ?_; clear hA; rintro _ w ⟨oN, cN, rfl, hH2⟩ a hA; clear hH; have hH := (hH2 _ (by (repeat constructor))).tail; clear hH2) | (refine S0T ?_; clear hH; rintro _ w hH) )) | ((first | refine CT ?_ | (refine DT ?_ ?_ <;> intro hc <;> try (exfalso; omega))) <;> repeat' refine CT ?_) | (first | (refine DSK ?_; clear hA a; intro a hA) | (first | (refine DLT ?_; clear hA hH; rintro _ w ⟨oN, rfl, hH⟩; refine ⟨STT, ?_⟩; intro a hA) | (refine DAT ?_; clear hA; rintro _ w ⟨oN, cN, rfl, hH2⟩; clear hH; have hH := (hH2 _ (by (repeat constructor))).tail; clear hH2; refine ⟨STT, ?_⟩; intro a hA))) )
      exact ⟨oW, cW, hH, (hA.sub (by (repeat (first | exact trivial | refine ⟨rfl, ?_⟩))))⟩
    repeat' (first | (first | (refine GT ?_ ?_ <;> intro hg <;> clear hA a <;> intro a hA <;> (first | exact FA | replace hg := of_decide_eq_true hg | replace hg := of_decide_eq_false hg | skip)) | (refine QT0 ?_; clear hA a; intro a hA) | (first | (refine BT ?_; clear hA hH; rintro _ w ⟨bN, rfl, hH⟩ a hA) | (refine LT ?_; clear hA hH; rintro _ w ⟨oN, rfl, hH⟩ a hA) | (refine AT ?_; clear hA; rintro _ w ⟨oN, cN, rfl, hH2⟩ a hA; clear hH; have hH := (hH2 _ (by (repeat constructor))).tail; clear hH2) | (refine S0T ?_; clear hH; rintro _ w hH) | (apply st_op0 hA rfl rfl; apply op_store_fld; rfl; rfl; rfl; exact hH; (repeat constructor); (repeat rfl); clear hH; rintro _ w hH))) | ((first | refine CT ?_ | (refine DT ?_ ?_ <;> intro hc <;> try (exfalso; omega))) <;> repeat' refine CT ?_) | (first | (refine DSK ?_; clear hA a; intro a hA) | (first | (refine DLT ?_; clear hA hH; rintro _ w ⟨oN, rfl, hH⟩; refine ⟨STT, ?_⟩; intro a hA) | (refine DAT ?_; clear hA; rintro _ w ⟨oN, cN, rfl, hH2⟩; clear hH; have hH := (hH2 _ (by (repeat constructor))).tail; clear hH2; refine ⟨STT, ?_⟩; intro a hA))) )
    simp only [Nat.zero_add] at hA hH
    rw [ones_snoc] at hH
    exact ⟨(k2 + 1, _, _), ⟨hlt2, hH, (hA.sub (by (repeat (first | exact trivial | refine ⟨rfl, ?_⟩))))⟩, by show sz - (k2 + 1) < sz - k2; omega⟩
  clear hA hH
  rintro a w ⟨oW, cW, hH, hA⟩
  repeat' (first | (first | (refine GT ?_ ?_ <;> intro hg <;> clear hA a <;> intro a hA <;> (first | exact FA | replace hg := of_decide_eq_true hg | replace hg := of_decide_eq_false hg | skip)) | ((first | apply st_ex hA hH rfl rfl (by decide) | apply dr_ex hA rfl rfl rfl (by decide) | apply dr_exp hA rfl rfl rfl (by decide) | apply dr_ex3 hA hH rfl rfl rfl (by decide)); (first | (apply ex_slice_hi (k := i); rfl; rfl; rfl; omega)); clear hA a; intro a hA) | (refine QT0 ?_; clear hA a; intro a hA) | (first | (refine BT ?_; clear hA hH; rintro _ w ⟨bN, rfl, hH⟩ a hA) | (refine LT ?_; clear hA hH; rintro _ w ⟨oN, rfl, hH⟩ a hA) | (refine AT ?_; clear hA; rintro _ w ⟨oN, cN, rfl, hH2⟩ a hA; clear hH; have hH := (hH2 _ (by (repeat constructor))).tail; clear hH2) | (refine S0T ?_; clear hH; rintro _ w hH) | (apply st_op hA rfl rfl (by decide); apply op_append; rfl; rfl; exact hH; exact MEMT; exact rd_take encO_len (hH.own_rd (o := qo) (by exact MEMT)); exact (by rw [flat_length encO_len, hz1]); rfl; decide; exact flat_one_cell (fun _ => rfl) _; (unfold maxLen; omega); omega; clear hA; rintro _ w ⟨oN, cN, rfl, hH2⟩ a hA; clear hH; have hH := hH2 _ (by (repeat constructor)); clear hH2))) | ((first | refine CT ?_ | (refine DT ?_ ?_ <;> intro hc <;> try (exfalso; omega))) <;> repeat' refine CT ?_) | (first | (refine DSK ?_; clear hA a; intro a hA) | (first | (refine DLT ?_; clear hA hH; rintro _ w ⟨oN, rfl, hH⟩; refine ⟨STT, ?_⟩; intro a hA) | (refine DAT ?_; clear hA; rintro _ w ⟨oN, cN, rfl, hH2⟩; clear hH; have hH := (hH2 _ (by (repeat constructor))).tail; clear hH2; refine ⟨STT, ?_⟩; intro a hA))) )
  simp only [Nat.zero_add, List.nil_append] at hH hA
  repeat' (first | (first | (refine GT ?_ ?_ <;> intro hg <;> clear hA a <;> intro a hA <;> (first | exact FA | replace hg := of_decide_eq_true hg | replace hg := of_decide_eq_false hg | skip)) | ((first | apply st_ex hA hH rfl rfl (by decide) | apply dr_ex hA rfl rfl rfl (by decide) | apply dr_exp hA rfl rfl rfl (by decide) | apply dr_ex3 hA hH rfl rfl rfl (by decide)); (first | (apply ex_slice_lo (k := i); rfl; rfl; rfl; omega)); clear hA a; intro a hA) | (refine QT0 ?_; clear hA a; intro a hA) | (first | (refine BT ?_; clear hA hH; rintro _ w ⟨bN, rfl, hH⟩ a hA) | (refine LT ?_; clear hA hH; rintro _ w ⟨oN, rfl, hH⟩ a hA) | (refine AT ?_; clear hA; rintro _ w ⟨oN, cN, rfl, hH2⟩ a hA; clear hH; have hH := (hH2 _ (by (repeat constructor))).tail; clear hH2) | (refine S0T ?_; clear hH; rintro _ w hH) | (apply st_op hA rfl rfl (by decide); apply op_append; rfl; rfl; exact hH; exact MEMT; exact rd_drop encO_len (A := A.zip dA) (B := B.zip dB) (k := i) (n := L.length) (hH.own_rd (o := qo) (by exact MEMT)) hz1.symm (by rw [List.length_append, hz1, hz2]; omega) (by omega); exact (by rw [flat_length encO_len, hz2]; omega); rfl; decide; exact flat_one_cell (fun _ => rfl) _; (unfold maxLen; omega); omega; clear hA; rintro _ w ⟨oN, cN, rfl, hH2⟩ a hA; clear hH; have hH := hH2 _ (by (repeat constructor)); clear hH2) | (apply st_op0 hA rfl rfl; apply op_store_fld; rfl; rfl; rfl; exact hH; (repeat constructor); (repeat rfl); clear hH; rintro _ w hH))) | ((first | refine CT ?_ | (refine DT ?_ ?_ <;> intro hc <;> try (exfalso; omega))) <;> repeat' refine CT ?_) | (first | (refine DSK ?_; clear hA a; intro a hA) | (first | (refine DLT ?_; clear hA hH; rintro _ w ⟨oN, rfl, hH⟩; refine ⟨STT, ?_⟩; intro a hA) | (refine DAT ?_; clear hA; rintro _ w ⟨oN, cN, rfl, hH2⟩; clear hH; have hH := (hH2 _ (by (repeat constructor))).tail; clear hH2; refine ⟨STT, ?_⟩; intro a hA))) )
  have en : i + 1 + (L.length - i) = (A ++ newO kd sz e1 :: B).length := by rw [List.length_append, List.length_cons]; omega
  have hnew := flat_new (A.zip dA) (B.zip dB) (newO kd sz e1, ((oW, sz, cW) : Sd))
  have hnl : L.map (·.fs) = A.map (·.fs) ++ B.map (·.fs) := by rw [eL, List.map_append]
  rw [show (newO kd sz e1).a = e1 from rfl, show (newO kd sz e1).kind = kd from rfl] at hnew
  dsimp only at hnew
  rw [en, hnew, eD, hnl, owns_split (by rw [List.length_map]; omega)] at hH
  refine rt2 (.inl rfl) rfl hA rfl rfl ⟨rfl, ?_⟩
  exact rf_close2 (d := (oW, sz, cW)) (by omega) ldB (HS.re3 hH)
end Go.Proofs.Ytejpcidfigmnkaa
