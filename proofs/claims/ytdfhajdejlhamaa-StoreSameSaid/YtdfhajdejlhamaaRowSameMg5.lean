/-
  The walk over slices.Insert of one number. Conditions: none.
  A collector in memory; the walks over what only looks at it, and over shade. Conditions: none.
  The walks over a collector's calls: Begin, Step, Finish, Alloc, Write, New. Conditions: none.
-/
import Derived.Test.YtdfhajdejlhamaaRowSameMg4
import Derived.Test.YtdfhajdejlhamaaRowSameMg0
namespace Go.Proofs.Ytdfhajdejlhamaa
open Go Go.Fw
set_option linter.unusedVariables false
def insN (fr : List Nat) (i : Nat) (r : Nat) : List Nat := fr.take i ++ r :: fr.drop i
theorem insN_len {fr : List Nat} {i : Nat} {r : Nat} (hi : i ≤ fr.length) : (insN fr i r).length = fr.length + 1 := by simp [insN]; omega
set_option maxRecDepth 10000 attribute [local irreducible] Code.wp wpList Calls Ex Op1 sat bat blk cb own Go.Fw.mp Go.Fw.mpO Go.Fw.mpI Go.Fw.mpE Go.Fw.itr HS Rd Ret wkD Hp Cl Cls Exit.then Exit.inBlock Exit.noGoto bodyPost Go.Fw.flat wk2 Go.Fw.all Go.Fw.owns wpOp

set_option maxHeartbeats 4000000 in
theorem insertN_spec (w0 : World) (M : Nat → Prop) (o ov : Option Addr) (c i : Nat) (fr : List Nat) (r : Nat) (hH : HS w0 M [own 3 1 o fr.length c (flat encN fr), own 3 1 ov 1 1 (encN r)] w0) (hi : i ≤ fr.length) (hl : fr.length ≤ 1048576) :
    Ret Try.prog 94 #[.slice o fr.length c, .int .i64 i, .slice ov 1 1] w0
      (fun v w => ∃ o' c', v = .slice o' (fr.length + 1) c' ∧ HS w0 M [own 3 1 o' (fr.length + 1) c' (flat encN (insN fr i r))] w) := by
  have hle := hH.own_le (o := o) (by exact MEMT)
  obtain ⟨bv, spv, rfl, -, -, hv3, hv4, hHv⟩ := (hH.perm (.swap _ _ _)).own_block (by omega)
  have hspv : spv = [] := List.length_eq_zero_iff.1 (by rw [encN_len] at hv4; omega)
  subst hspv
  rw [List.append_nil] at hHv
  replace hH := hHv.perm (.swap _ _ _)
  clear hHv
  by_cases hin : i = fr.length
  · subst hin
    have hrv : Rd w0 (some (bat bv 0)) (encN r) := by
      have := hH.cb_rd (b := bv) (by exact MEMT) 0
      rwa [List.drop_zero] at this
    (refine enter (N := 95) Try.func94 rfl Try.ntmps94 rfl ?_; intro a hA; dsimp only [sl0, Nat.reduceAdd] at hA)
    repeat' (first | (first | (refine GT ?_ ?_ <;> intro hg <;> clear hA a <;> intro a hA <;> (first | exact FA | replace hg := of_decide_eq_true hg | replace hg := of_decide_eq_false hg | skip)) | ((first | apply st_ex hA hH rfl rfl (by decide) | apply dr_ex hA rfl rfl rfl (by decide) | apply dr_exp hA rfl rfl rfl (by decide) | apply dr_ex3 hA hH rfl rfl rfl (by decide)); (first | (apply ex_slice_lo (k := fr.length); rfl; rfl; rfl; omega)); clear hA a; intro a hA) | (refine QT ?_; clear hA a; intro a hA) | (first | (refine BT ?_; clear hA hH; rintro _ w ⟨bN, rfl, hH⟩ a hA) | (refine LT ?_; clear hA hH; rintro _ w ⟨oN, rfl, hH⟩ a hA) | (refine AT ?_; clear hA; rintro _ w ⟨oN, cN, rfl, hH2⟩ a hA; clear hH; have hH := (hH2 _ (by (repeat constructor))).tail; clear hH2) | (refine S0T ?_; clear hH; rintro _ w hH) | (apply st_op hA rfl rfl (by decide); apply op_append; rfl; rfl; exact hH; exact MEMT; exact hrv; exact encN_len r; rfl; decide; exact rfl; (unfold maxLen; omega); omega; clear hA; rintro _ w ⟨oN, cN, rfl, hH2⟩ a hA; clear hH; have hH := hH2 _ (by (repeat constructor)); clear hH2))) | ((first | refine CT ?_ | (refine DT ?_ ?_ <;> intro hc <;> try (exfalso; omega))) <;> repeat' refine CT ?_) | (first | (refine DSK ?_; clear hA a; intro a hA) | (first | (refine DLT ?_; clear hA hH; rintro _ w ⟨oN, rfl, hH⟩; refine ⟨STT, ?_⟩; intro a hA) | (refine DAT ?_; clear hA; rintro _ w ⟨oN, cN, rfl, hH2⟩; clear hH; have hH := (hH2 _ (by (repeat constructor))).tail; clear hH2; refine ⟨STT, ?_⟩; intro a hA))) )
    have e : flat encN fr ++ encN r = flat encN (insN fr fr.length r) := by
      unfold insN
      rw [List.take_length, List.drop_length, ← flat_snoc]
    rw [e] at hH
    exact rt1 (.inl rfl) rfl hA rfl ⟨_, _, rfl, hH.head⟩
  have hlt : i < fr.length := by omega
  obtain ⟨b, spare, rfl, h1, h2, h3, h4, hH⟩ := hH.own_block (by omega)
  have hne := hH.cb_ne
  have hlen : (flat encN fr ++ spare).length = c * 1 := by rw [List.length_append]; exact h4
  have hA_ : (flat encN (fr.take i)).length = i * 1 := by rw [flat_length encN_len, List.length_take]; omega
  have hB_ : (flat encN (fr.drop i)).length = (fr.length - i) * 1 := by rw [flat_length encN_len, List.length_drop]
  have hsplit : flat encN fr = flat encN (fr.take i) ++ flat encN (fr.drop i) := by rw [← flat_append, List.take_append_drop]
  have hins : flat encN (insN fr i r) = flat encN (fr.take i) ++ (encN r ++ flat encN (fr.drop i)) := by
    unfold insN
    rw [flat_append, flat_cons]
  have hq1 : (if c = i then 0 else 0 + i * 1) = i * 1 := by rw [if_neg (by omega), Nat.zero_add]
  by_cases hroom : fr.length + 1 ≤ c
  rotate_left
  · -- into a new block
    (refine enter (N := 95) Try.func94 rfl Try.ntmps94 rfl ?_; intro a hA; dsimp only [sl0, Nat.reduceAdd] at hA)
    repeat' (first | (first | (refine GT ?_ ?_ <;> intro hg <;> clear hA a <;> intro a hA <;> (first | exact FA | replace hg := of_decide_eq_true hg | replace hg := of_decide_eq_false hg | skip)) | ((first | apply st_ex hA hH rfl rfl (by decide) | apply dr_ex hA rfl rfl rfl (by decide) | apply dr_exp hA rfl rfl rfl (by decide) | apply dr_ex3 hA hH rfl rfl rfl (by decide)); (first | (apply ex_slice_lo_b (k := i) (q := i * 1); rfl; rfl; rfl; omega; exact hq1) | (apply ex_slice_hi (k := i); rfl; rfl; rfl; omega) | (apply ex_cap_slice; rfl)); clear hA a; intro a hA) | (refine QT ?_; clear hA a; intro a hA) | (first | (refine BT ?_; clear hA hH; rintro _ w ⟨bN, rfl, hH⟩ a hA) | (refine LT ?_; clear hA hH; rintro _ w ⟨oN, rfl, hH⟩ a hA) | (refine AT ?_; clear hA; rintro _ w ⟨oN, cN, rfl, hH2⟩ a hA; clear hH; have hH := (hH2 _ (by (repeat constructor))).tail; clear hH2) | (refine S0T ?_; clear hH; rintro _ w hH) )) | ((first | refine CT ?_ | (refine DT ?_ ?_ <;> intro hc <;> try (exfalso; omega))) <;> repeat' refine CT ?_) | (first | (refine DSK ?_; clear hA a; intro a hA) | (first | (refine DLT ?_; clear hA hH; rintro _ w ⟨oN, rfl, hH⟩; refine ⟨STT, ?_⟩; intro a hA) | (refine DAT ?_; clear hA; rintro _ w ⟨oN, cN, rfl, hH2⟩; clear hH; have hH := (hH2 _ (by (repeat constructor))).tail; clear hH2; refine ⟨STT, ?_⟩; intro a hA))) )
    have holds : ∀ j u, (flat encN (fr.take i))[j]? = some u → w0.cell? ((bat b 0).add j) = some u := by
      intro j u hj
      have := hH.cb_news (b := b) (k := 0) (m := (flat encN (fr.take i)).length) (List.mem_cons_self ..) j u
      have e5 : ((flat encN fr ++ spare).drop 0).take (flat encN (fr.take i)).length = flat encN (fr.take i) := by
        rw [List.drop_zero, hsplit, List.append_assoc, List.take_append_of_le_length (Nat.le_refl _), List.take_length]
      rw [e5] at this
      exact this hj
    repeat' (first | (first | (refine GT ?_ ?_ <;> intro hg <;> clear hA a <;> intro a hA <;> (first | exact FA | replace hg := of_decide_eq_true hg | replace hg := of_decide_eq_false hg | skip)) | (refine QT ?_; clear hA a; intro a hA) | (first | (refine BT ?_; clear hA hH; rintro _ w ⟨bN, rfl, hH⟩ a hA) | (refine LT ?_; clear hA hH; rintro _ w ⟨oN, rfl, hH⟩ a hA) | (refine AT ?_; clear hA; rintro _ w ⟨oN, cN, rfl, hH2⟩ a hA; clear hH; have hH := (hH2 _ (by (repeat constructor))).tail; clear hH2) | (refine S0T ?_; clear hH; rintro _ w hH) | (apply st_op hA rfl rfl (by decide); apply op_append_mk (k := fr.length + 1 - i); rfl; rfl; omega; exact hH; exact holds; exact hA_; rfl; omega; omega; (unfold maxLen; omega); omega; omega; clear hA; rintro _ w ⟨o2, c2, rest, rfl, hrest, hH2⟩ a hA))) | ((first | refine CT ?_ | (refine DT ?_ ?_ <;> intro hc <;> try (exfalso; omega))) <;> repeat' refine CT ?_) | (first | (refine DSK ?_; clear hA a; intro a hA) | (first | (refine DLT ?_; clear hA hH; rintro _ w ⟨oN, rfl, hH⟩; refine ⟨STT, ?_⟩; intro a hA) | (refine DAT ?_; clear hA; rintro _ w ⟨oN, cN, rfl, hH2⟩; clear hH; have hH := (hH2 _ (by (repeat constructor))).tail; clear hH2; refine ⟨STT, ?_⟩; intro a hA))) )
    have en : i + (fr.length + 1 - i) = fr.length + 1 := by omega
    rw [en] at hA hH2
    have hle2 := hH2.own_le (o := o2) (by exact MEMT)
    obtain ⟨b2, sp2, rfl, k1, k2, k3, k4, hH3⟩ := hH2.own_block (by omega)
    clear hH hH2
    have hH := hH3
    clear hH3
    have hq3 : (if c2 = i then 0 else 0 + i * 1) = i * 1 := by rw [if_neg (by omega), Nat.zero_add]
    have hq4 : (if c2 = i + 1 then 0 else 0 + (i + 1) * 1) = (i + 1) * 1 := by rw [if_neg (by omega), Nat.zero_add]
    have hrv : ∀ j u, (encN r)[j]? = some u → w.cell? ((bat bv 0).add j) = some u := by
      intro j u hj
      have := hH.cb_news (b := bv) (k := 0) (m := (encN r).length) (by exact MEMT) j u
      rw [List.drop_zero, List.take_length] at this
      exact this hj
    have hl1 : (encN r).length = Nat.min 1 (fr.length + 1 - i) * 1 := by rw [show Nat.min 1 (fr.length + 1 - i) = 1 by show min 1 (fr.length + 1 - i) = 1; omega]; rfl
    have hf1 : i * 1 + (encN r).length ≤ (flat encN (fr.take i) ++ rest ++ sp2).length := by
      rw [List.length_append, List.length_append, hA_, hrest, encN_len]; omega
    repeat' (first | (first | (refine GT ?_ ?_ <;> intro hg <;> clear hA a <;> intro a hA <;> (first | exact FA | replace hg := of_decide_eq_true hg | replace hg := of_decide_eq_false hg | skip)) | ((first | apply st_ex hA hH rfl rfl (by decide) | apply dr_ex hA rfl rfl rfl (by decide) | apply dr_exp hA rfl rfl rfl (by decide) | apply dr_ex3 hA hH rfl rfl rfl (by decide)); (first | (apply ex_slice_lo_b (k := i) (q := i * 1); rfl; rfl; rfl; omega; exact hq3)); clear hA a; intro a hA) | (refine QT ?_; clear hA a; intro a hA) | (first | (refine BT ?_; clear hA hH; rintro _ w ⟨bN, rfl, hH⟩ a hA) | (refine LT ?_; clear hA hH; rintro _ w ⟨oN, rfl, hH⟩ a hA) | (refine AT ?_; clear hA; rintro _ w ⟨oN, cN, rfl, hH2⟩ a hA; clear hH; have hH := (hH2 _ (by (repeat constructor))).tail; clear hH2) | (refine S0T ?_; clear hH; rintro _ w hH) | (apply st_op hA rfl rfl (by decide); apply op_copy_cb; rfl; rfl; exact hH; exact hrv; exact hl1; rfl; exact hf1; (repeat constructor); clear hA hH; rintro _ w ⟨rfl, hH⟩ a hA))) | ((first | refine CT ?_ | (refine DT ?_ ?_ <;> intro hc <;> try (exfalso; omega))) <;> repeat' refine CT ?_) | (first | (refine DSK ?_; clear hA a; intro a hA) | (first | (refine DLT ?_; clear hA hH; rintro _ w ⟨oN, rfl, hH⟩; refine ⟨STT, ?_⟩; intro a hA) | (refine DAT ?_; clear hA; rintro _ w ⟨oN, cN, rfl, hH2⟩; clear hH; have hH := (hH2 _ (by (repeat constructor))).tail; clear hH2; refine ⟨STT, ?_⟩; intro a hA))) )
    have hB5 : ((flat encN fr ++ spare).drop (i * 1)).take (flat encN (fr.drop i)).length = flat encN (fr.drop i) := by
      have := @mid_take (flat encN (fr.take i)) [] (flat encN (fr.drop i)) spare
      rw [List.length_nil, Nat.add_zero, hA_, List.nil_append, ← List.append_assoc, ← hsplit] at this
      exact this
    have hl2 : (flat encN (fr.drop i)).length = Nat.min (fr.length - i) (fr.length + 1 - (i + 1)) * 1 := by
      rw [hB_, show Nat.min (fr.length - i) (fr.length + 1 - (i + 1)) = fr.length - i by show min (fr.length - i) (fr.length + 1 - (i + 1)) = _; omega]
    have hpl : (put (flat encN (fr.take i) ++ rest ++ sp2) (i * 1) (encN r)).length = c2 * 1 := by rw [put_length hf1, List.length_append]; exact k4
    have hf2 : (i + 1) * 1 + (flat encN (fr.drop i)).length ≤ (put (flat encN (fr.take i) ++ rest ++ sp2) (i * 1) (encN r)).length := by rw [hpl, hB_]; omega
    have hone : (flat encN (fr.drop i)).all (·.oneCell') = true := flat_one_cell (fun _ => rfl) _
    (refine wp_draw_HS [(0, 2), (1, 2), (2, 2), (3, 2), (4, 2), (5, 2), (6, 2), (7, 2), (8, 0)] mixed (by decide +kernel) hH.drop_ ?_; replace hH := hH.drew)
    have hrB : ∀ j u, (flat encN (fr.drop i))[j]? = some u → w.drew.cell? ((bat b (i * 1)).add j) = some u := by
      intro j u hj
      have := hH.cb_news (b := b) (k := i * 1) (m := (flat encN (fr.drop i)).length) (by exact MEMT) j u
      rw [hB5] at this
      exact this hj
    repeat' (first | (first | (refine GT ?_ ?_ <;> intro hg <;> clear hA a <;> intro a hA <;> (first | exact FA | replace hg := of_decide_eq_true hg | replace hg := of_decide_eq_false hg | skip)) | ((first | apply st_ex hA hH rfl rfl (by decide) | apply dr_ex hA rfl rfl rfl (by decide) | apply dr_exp hA rfl rfl rfl (by decide) | apply dr_ex3 hA hH rfl rfl rfl (by decide)); (first | (apply ex_slice_lo_b (k := i + 1) (q := (i + 1) * 1); rfl; rfl; rfl; omega; exact hq4) | (apply ex_slice_lo_b (k := i) (q := i * 1); rfl; rfl; rfl; omega; exact hq1)); clear hA a; intro a hA) | (refine QT ?_; clear hA a; intro a hA) | (first | (refine BT ?_; clear hA hH; rintro _ w ⟨bN, rfl, hH⟩ a hA) | (refine LT ?_; clear hA hH; rintro _ w ⟨oN, rfl, hH⟩ a hA) | (refine AT ?_; clear hA; rintro _ w ⟨oN, cN, rfl, hH2⟩ a hA; clear hH; have hH := (hH2 _ (by (repeat constructor))).tail; clear hH2) | (refine S0T ?_; clear hH; rintro _ w hH) )) | ((first | refine CT ?_ | (refine DT ?_ ?_ <;> intro hc <;> try (exfalso; omega))) <;> repeat' refine CT ?_) | (first | (refine DSK ?_; clear hA a; intro a hA) | (first | (refine DLT ?_; clear hA hH; rintro _ w ⟨oN, rfl, hH⟩; refine ⟨STT, ?_⟩; intro a hA) | (refine DAT ?_; clear hA; rintro _ w ⟨oN, cN, rfl, hH2⟩; clear hH; have hH := (hH2 _ (by (repeat constructor))).tail; clear hH2; refine ⟨STT, ?_⟩; intro a hA))) | (apply dr_op hA rfl rfl rfl (by decide); apply op_copy_cb; rfl; rfl; exact hH; exact hrB; exact hl2; exact hone; exact hf2; (repeat constructor); clear hA hH; rintro _ w ⟨rfl, hH⟩; refine ⟨STT, ?_⟩; intro a hA))
    have hrest2 : rest.length = 1 + (fr.length - i) * 1 := by rw [hrest]; omega
    have e7 : put (put (flat encN (fr.take i) ++ rest ++ sp2) (i * 1) (encN r)) ((i + 1) * 1) (flat encN (fr.drop i)) = flat encN (insN fr i r) ++ sp2 := by
      have e8 : flat encN (fr.take i) ++ rest ++ sp2 = flat encN (fr.take i) ++ (rest.take 1 ++ (rest.drop 1 ++ sp2)) := by
        rw [← List.append_assoc (rest.take 1), List.take_append_drop, List.append_assoc]
      rw [e8, put_seg hA_.symm (by rw [encN_len, List.length_take]; omega), ← List.append_assoc (flat encN (fr.take i)), put_seg (by rw [List.length_append, hA_, encN_len]; omega) (by rw [hB_, List.length_drop]; omega), hins]
      simp
    rw [e7] at hH
    have hil : (flat encN (insN fr i r)).length = (fr.length + 1) * 1 := by rw [flat_length encN_len, insN_len hi]
    refine rt1 (.inl rfl) rfl hA rfl ⟨_, _, rfl, (hH.head).block_own hil k1 k2 ?_⟩
    rw [hil, ← k3]
    exact k4
  · (refine enter (N := 95) Try.func94 rfl Try.ntmps94 rfl ?_; intro a hA; dsimp only [sl0, Nat.reduceAdd] at hA)
    repeat' (first | (first | (refine GT ?_ ?_ <;> intro hg <;> clear hA a <;> intro a hA <;> (first | exact FA | replace hg := of_decide_eq_true hg | replace hg := of_decide_eq_false hg | skip)) | ((first | apply st_ex hA hH rfl rfl (by decide) | apply dr_ex hA rfl rfl rfl (by decide) | apply dr_exp hA rfl rfl rfl (by decide) | apply dr_ex3 hA hH rfl rfl rfl (by decide)); (first | (apply ex_slice_lo_b (k := i) (q := i * 1); rfl; rfl; rfl; omega; exact hq1) | (apply ex_slice_hi (k := fr.length + 1); rfl; rfl; rfl; omega) | (apply ex_cap_slice; rfl)); clear hA a; intro a hA) | (refine QT ?_; clear hA a; intro a hA) | (first | (refine BT ?_; clear hA hH; rintro _ w ⟨bN, rfl, hH⟩ a hA) | (refine LT ?_; clear hA hH; rintro _ w ⟨oN, rfl, hH⟩ a hA) | (refine AT ?_; clear hA; rintro _ w ⟨oN, cN, rfl, hH2⟩ a hA; clear hH; have hH := (hH2 _ (by (repeat constructor))).tail; clear hH2) | (refine S0T ?_; clear hH; rintro _ w hH) )) | ((first | refine CT ?_ | (refine DT ?_ ?_ <;> intro hc <;> try (exfalso; omega))) <;> repeat' refine CT ?_) | (first | (refine DSK ?_; clear hA a; intro a hA) | (first | (refine DLT ?_; clear hA hH; rintro _ w ⟨oN, rfl, hH⟩; refine ⟨STT, ?_⟩; intro a hA) | (refine DAT ?_; clear hA; rintro _ w ⟨oN, cN, rfl, hH2⟩; clear hH; have hH := (hH2 _ (by (repeat constructor))).tail; clear hH2; refine ⟨STT, ?_⟩; intro a hA))) )
    have hsp2 : 1 ≤ spare.length := by rw [List.length_append, h3] at hlen; omega
    have hq2 : (if c = i + 1 then 0 else 0 + (i + 1) * 1) = (i + 1) * 1 := by rw [if_neg (by omega), Nat.zero_add]
    have hc2 : (flat encN fr ++ spare).length ≠ 0 := by rw [hlen]; omega
    repeat' (first | (first | (refine GT ?_ ?_ <;> intro hg <;> clear hA a <;> intro a hA <;> (first | exact FA | replace hg := of_decide_eq_true hg | replace hg := of_decide_eq_false hg | skip)) | ((first | apply st_ex hA hH rfl rfl (by decide) | apply dr_ex hA rfl rfl rfl (by decide) | apply dr_exp hA rfl rfl rfl (by decide) | apply dr_ex3 hA hH rfl rfl rfl (by decide)); (first | (apply ex_slice_lo_b (k := i + 1) (q := (i + 1) * 1); rfl; rfl; rfl; omega; exact hq2)); clear hA a; intro a hA) | (refine QT ?_; clear hA a; intro a hA) | (first | (refine BT ?_; clear hA hH; rintro _ w ⟨bN, rfl, hH⟩ a hA) | (refine LT ?_; clear hA hH; rintro _ w ⟨oN, rfl, hH⟩ a hA) | (refine AT ?_; clear hA; rintro _ w ⟨oN, cN, rfl, hH2⟩ a hA; clear hH; have hH := (hH2 _ (by (repeat constructor))).tail; clear hH2) | (refine S0T ?_; clear hH; rintro _ w hH) | (apply st_op hA rfl rfl (by decide); apply op_overlaps (t := 44) (tR := 4) Try.func100 (by kernel_rfl) (by kernel_rfl) (by kernel_rfl) (by kernel_rfl); rfl; rfl; exact hH; exact MEMT; exact MEMT; exact Ne.symm hne; exact hc2; clear hA; rintro _ w2 ⟨rfl, hw2⟩ a hA; rw [hw2]; clear hw2 w2))) | ((first | refine CT ?_ | (refine DT ?_ ?_ <;> intro hc <;> try (exfalso; omega))) <;> repeat' refine CT ?_) | (first | (refine DSK ?_; clear hA a; intro a hA) | (first | (refine DLT ?_; clear hA hH; rintro _ w ⟨oN, rfl, hH⟩; refine ⟨STT, ?_⟩; intro a hA) | (refine DAT ?_; clear hA; rintro _ w ⟨oN, cN, rfl, hH2⟩; clear hH; have hH := (hH2 _ (by (repeat constructor))).tail; clear hH2; refine ⟨STT, ?_⟩; intro a hA))) )
    have hB5 : ((flat encN fr ++ spare).drop (i * 1)).take (flat encN (fr.drop i)).length = flat encN (fr.drop i) := by
      have := @mid_take (flat encN (fr.take i)) [] (flat encN (fr.drop i)) spare
      rw [List.length_nil, Nat.add_zero, hA_, List.nil_append, ← List.append_assoc, ← hsplit] at this
      exact this
    have hl2 : (flat encN (fr.drop i)).length = Nat.min (fr.length + 1 - i) (fr.length + 1 - (i + 1)) * 1 := by
      rw [hB_, show Nat.min (fr.length + 1 - i) (fr.length + 1 - (i + 1)) = fr.length - i by show min (fr.length + 1 - i) (fr.length + 1 - (i + 1)) = _; omega]
    have hf2 : (i + 1) * 1 + (flat encN (fr.drop i)).length ≤ (flat encN fr ++ spare).length := by rw [hlen, hB_]; omega
    have hone : (flat encN (fr.drop i)).all (·.oneCell') = true := flat_one_cell (fun _ => rfl) _
    (refine wp_draw_HS [(0, 2), (1, 2), (2, 2), (3, 2), (4, 2), (5, 2), (6, 2), (7, 2), (8, 0)] mixed (by decide +kernel) hH.drop_ ?_; replace hH := hH.drew)
    have hrB : ∀ j u, (flat encN (fr.drop i))[j]? = some u → w0.drew.cell? ((bat b (i * 1)).add j) = some u := by
      intro j u hj
      have := hH.cb_news (b := b) (k := i * 1) (m := (flat encN (fr.drop i)).length) (by exact MEMT) j u
      rw [hB5] at this
      exact this hj
    repeat' (first | (first | (refine GT ?_ ?_ <;> intro hg <;> clear hA a <;> intro a hA <;> (first | exact FA | replace hg := of_decide_eq_true hg | replace hg := of_decide_eq_false hg | skip)) | ((first | apply st_ex hA hH rfl rfl (by decide) | apply dr_ex hA rfl rfl rfl (by decide) | apply dr_exp hA rfl rfl rfl (by decide) | apply dr_ex3 hA hH rfl rfl rfl (by decide)); (first | (apply ex_slice_lo_b (k := i + 1) (q := (i + 1) * 1); rfl; rfl; rfl; omega; exact hq2) | (apply ex_slice_lo_b (k := i) (q := i * 1); rfl; rfl; rfl; omega; exact hq1)); clear hA a; intro a hA) | (refine QT ?_; clear hA a; intro a hA) | (first | (refine BT ?_; clear hA hH; rintro _ w ⟨bN, rfl, hH⟩ a hA) | (refine LT ?_; clear hA hH; rintro _ w ⟨oN, rfl, hH⟩ a hA) | (refine AT ?_; clear hA; rintro _ w ⟨oN, cN, rfl, hH2⟩ a hA; clear hH; have hH := (hH2 _ (by (repeat constructor))).tail; clear hH2) | (refine S0T ?_; clear hH; rintro _ w hH) )) | ((first | refine CT ?_ | (refine DT ?_ ?_ <;> intro hc <;> try (exfalso; omega))) <;> repeat' refine CT ?_) | (first | (refine DSK ?_; clear hA a; intro a hA) | (first | (refine DLT ?_; clear hA hH; rintro _ w ⟨oN, rfl, hH⟩; refine ⟨STT, ?_⟩; intro a hA) | (refine DAT ?_; clear hA; rintro _ w ⟨oN, cN, rfl, hH2⟩; clear hH; have hH := (hH2 _ (by (repeat constructor))).tail; clear hH2; refine ⟨STT, ?_⟩; intro a hA))) | (apply dr_op hA rfl rfl rfl (by decide); apply op_copy_cb; rfl; rfl; exact hH; exact hrB; exact hl2; exact hone; exact hf2; (repeat constructor); clear hA hH; rintro _ w ⟨rfl, hH⟩; refine ⟨STT, ?_⟩; intro a hA))
    have hrv : ∀ j u, (encN r)[j]? = some u → w.cell? ((bat bv 0).add j) = some u := by
      intro j u hj
      have := hH.cb_news (b := bv) (k := 0) (m := (encN r).length) (by exact MEMT) j u
      rw [List.drop_zero, List.take_length] at this
      exact this hj
    have hl1 : (encN r).length = Nat.min 1 (fr.length + 1 - i) * 1 := by rw [show Nat.min 1 (fr.length + 1 - i) = 1 by show min 1 (fr.length + 1 - i) = 1; omega]; rfl
    have hf1 : i * 1 + (encN r).length ≤ (put (flat encN fr ++ spare) ((i + 1) * 1) (flat encN (fr.drop i))).length := by
      rw [put_length hf2, hlen, encN_len]; omega
    repeat' (first | (first | (refine GT ?_ ?_ <;> intro hg <;> clear hA a <;> intro a hA <;> (first | exact FA | replace hg := of_decide_eq_true hg | replace hg := of_decide_eq_false hg | skip)) | ((first | apply st_ex hA hH rfl rfl (by decide) | apply dr_ex hA rfl rfl rfl (by decide) | apply dr_exp hA rfl rfl rfl (by decide) | apply dr_ex3 hA hH rfl rfl rfl (by decide)); (first | (apply ex_slice_lo_b (k := i) (q := i * 1); rfl; rfl; rfl; omega; exact hq1)); clear hA a; intro a hA) | (refine QT ?_; clear hA a; intro a hA) | (first | (refine BT ?_; clear hA hH; rintro _ w ⟨bN, rfl, hH⟩ a hA) | (refine LT ?_; clear hA hH; rintro _ w ⟨oN, rfl, hH⟩ a hA) | (refine AT ?_; clear hA; rintro _ w ⟨oN, cN, rfl, hH2⟩ a hA; clear hH; have hH := (hH2 _ (by (repeat constructor))).tail; clear hH2) | (refine S0T ?_; clear hH; rintro _ w hH) | (apply st_op hA rfl rfl (by decide); apply op_copy_cb; rfl; rfl; exact hH; exact hrv; exact hl1; rfl; exact hf1; (repeat constructor); clear hA hH; rintro _ w ⟨rfl, hH⟩ a hA))) | ((first | refine CT ?_ | (refine DT ?_ ?_ <;> intro hc <;> try (exfalso; omega))) <;> repeat' refine CT ?_) | (first | (refine DSK ?_; clear hA a; intro a hA) | (first | (refine DLT ?_; clear hA hH; rintro _ w ⟨oN, rfl, hH⟩; refine ⟨STT, ?_⟩; intro a hA) | (refine DAT ?_; clear hA; rintro _ w ⟨oN, cN, rfl, hH2⟩; clear hH; have hH := (hH2 _ (by (repeat constructor))).tail; clear hH2; refine ⟨STT, ?_⟩; intro a hA))) )
    have e7 : put (put (flat encN fr ++ spare) ((i + 1) * 1) (flat encN (fr.drop i))) (i * 1) (encN r) = flat encN (insN fr i r) ++ spare.drop 1 := by
      have e8 : flat encN fr ++ spare = flat encN (fr.take i) ++ (flat encN (fr.drop i) ++ (spare.take 1 ++ spare.drop 1)) := by
        rw [List.take_append_drop, ← List.append_assoc, ← hsplit]
      have e9 := @ins_cells (flat encN (fr.take i)) (encN r) (flat encN (fr.drop i)) (spare.take 1) (spare.drop 1) (by rw [encN_len, List.length_take]; omega)
      rw [hA_, encN_len, show i * 1 + 1 = (i + 1) * 1 by omega] at e9
      rw [e8, e9, hins]
    rw [e7] at hH
    have hil : (flat encN (insN fr i r)).length = (fr.length + 1) * 1 := by rw [flat_length encN_len, insN_len hi]
    refine rt1 (.inl rfl) rfl hA rfl ⟨_, _, rfl, (hH.head).block_own hil hroom h2 ?_⟩
    rw [hil, List.length_drop]
    omega
end Go.Proofs.Ytdfhajdejlhamaa
namespace Go.Proofs.Ytdfhajdejlhamaa
open Go Go.Fw
set_option linter.unusedVariables false
def encC (c : Nat) : List Value := [.int .u8 (c : Int)]
theorem encC_len (c : Nat) : (encC c).length = 1 := rfl
structure GQ where
  oC : Option Addr
  cC : Nat
  oG : Option Addr
  cG : Nat
def gcQ (bg b N : Nat) (s : GS) (q : GQ) : List It := [cb bg 109 [.pointer (some (bat b 0)), .int .i64 s.ph, .slice q.oC N q.cC, .slice q.oG s.gr.length q.cG, .int .i64 s.pl], own 5 1 q.oC N q.cC (flat encC s.cl), own 3 1 q.oG s.gr.length q.cG (flat encN s.gr)]
/-- a collector of a heap -/
def gcI (bg b N : Nat) (s : GS) : It := exI fun q => all (gcQ bg b N s q)
structure GcQ (w : World) (bg b N : Nat) (s : GS) (q : GQ) : Prop where
  c0 : w.cell? (bat bg 0) = some (.pointer (some (bat b 0)))
  c1 : w.cell? (bat bg 1) = some (.int .i64 s.ph)
  c2 : w.cell? (bat bg 2) = some (.slice q.oC N q.cC)
  c3 : w.cell? (bat bg 3) = some (.slice q.oG s.gr.length q.cG)
  c4 : w.cell? (bat bg 4) = some (.int .i64 s.pl)
  rC : Rd w q.oC (flat encC s.cl)
  rG : Rd w q.oG (flat encN s.gr)
  nG : s.gr.length ≤ q.cG
def GcR (w : World) (bg b N : Nat) (s : GS) : Prop := ∃ q, GcQ w bg b N s q
theorem gc_open {w0 w : World} {M : Nat → Prop} {H : List It} {bg b N : Nat} {s : GS} (h : HS w0 M (gcI bg b N s :: H) w) : ∃ q, HS w0 M (gcQ bg b N s q ++ H) w := by
  obtain ⟨q, h1⟩ := h.exI_open
  exact ⟨q, h1.open_⟩
theorem gc_shut {w0 w : World} {M : Nat → Prop} {H : List It} {bg b N : Nat} {s : GS} (q : GQ) (h : HS w0 M (gcQ bg b N s q ++ H) w) : HS w0 M (gcI bg b N s :: H) w := HS.exI_shut q h.shut
theorem gcQ_read {w0 w : World} {M : Nat → Prop} {H : List It} {bg b N : Nat} {s : GS} {q : GQ} (h1 : HS w0 M (gcQ bg b N s q ++ H) w) : GcQ w bg b N s q :=
  ⟨h1.cell (b := bg) (j := 0) (List.mem_cons_self ..) rfl, h1.cell (b := bg) (j := 1) (List.mem_cons_self ..) rfl, h1.cell (b := bg) (j := 2) (List.mem_cons_self ..) rfl, h1.cell (b := bg) (j := 3) (List.mem_cons_self ..) rfl, h1.cell (b := bg) (j := 4) (List.mem_cons_self ..) rfl,
    h1.own_rd (o := q.oC) (xs := flat encC s.cl) (by exact .tail _ (.head _)), h1.own_rd (o := q.oG) (xs := flat encN s.gr) (by exact .tail _ (.tail _ (.head _))), (h1.own_le (o := q.oG) (xs := flat encN s.gr) (by exact .tail _ (.tail _ (.head _)))).1⟩
theorem gc_read {w0 w : World} {M : Nat → Prop} {H : List It} {bg b N : Nat} {s : GS} (h : HS w0 M (gcI bg b N s :: H) w) : GcR w bg b N s :=
  let ⟨q, h1⟩ := gc_open h
  ⟨q, gcQ_read h1⟩
theorem gc_readM {w0 w : World} {M : Nat → Prop} {H : List It} {bg b N : Nat} {s : GS} (h : HS w0 M H w) (hm : gcI bg b N s ∈ H) : GcR w bg b N s := gc_read (h.pick hm)
theorem GcQ.keep {w w' : World} {bg b N : Nat} {s : GS} {q : GQ} (h : GcQ w bg b N s q) (hk : Kp w noM w') : GcQ w' bg b N s q := by
  have hH : HS w noM [] w' := (HS.init w noM).keep hk
  exact ⟨hH.cellw h.c0 id, hH.cellw h.c1 id, hH.cellw h.c2 id, hH.cellw h.c3 id, hH.cellw h.c4 id, hH.rd h.rC id, hH.rd h.rG id, h.nG⟩
theorem GcR.keep {w w' : World} {bg b N : Nat} {s : GS} (h : GcR w bg b N s) (hk : Kp w noM w') : GcR w' bg b N s :=
  let ⟨q, hq⟩ := h
  ⟨q, hq.keep hk⟩
def whiteZ (s : GS) (z : Int) : Bool := isA s.L z && (col s z.toNat == 0)
theorem whiteZ_nat (s : GS) (a : Nat) : whiteZ s (a : Int) = whiteG s a := rfl
theorem kind_is (L : List Ob) (z : Int) : decide ((kindA L z).2 = 0) = isA L z := by
  unfold kindA
  cases isA L z <;> rfl
theorem isA_obj {L : List Ob} {z : Int} (h : isA L z = true) : ∃ o ∈ L, (o.a : Int) = z := isA_iff.1 h
theorem cl_at {N : Nat} {s : GS} (h : GOk N s) {a : Nat} (ha : a < N) : s.cl[a]? = some (col s a) := by
  have : a < s.cl.length := by rw [h.cll]; exact ha
  unfold col
  rw [List.getD_eq_getElem?_getD, List.getElem?_eq_getElem this]
  rfl
theorem encC_at {l : List Nat} {i : Nat} {a : Nat} (h : l[i]? = some a) : (flat encC l)[i * 1]? = some (.int .u8 (a : Int)) := flat_get0 encC_len h rfl
theorem falling_len : ∀ {l : List Nat} {N : Nat}, l.Pairwise (· > ·) → (∀ a ∈ l, a < N) → l.length ≤ N
  | [], N, _, _ => Nat.zero_le _
  | a :: l, N, h, hb => by
    rw [List.pairwise_cons] at h
    have h1 := falling_len (l := l) (N := a) h.2 fun b hb' => h.1 b hb'
    have h2 := hb a (List.mem_cons_self ..)
    rw [List.length_cons]
    omega
theorem gr_le {N : Nat} {s : GS} (h : GOk N s) : ∀ a ∈ s.gr, a < N := fun a ha => (h.lt (h.obj a (by rw [(h.grm a).1 ha]; decide))).2
theorem gr_len {N : Nat} {s : GS} (h : GOk N s) : s.gr.length ≤ N := falling_len h.grs (gr_le h)
theorem insN_insF {gr : List Nat} {t i : Nat} (hp : PosF gr t i) (ht : t ∉ gr) : insN gr i t = insF gr t := by
  unfold insN insF
  have e1 : gr.filter (fun a => decide (t < a)) = gr.take i := by
    conv => lhs; rw [← List.take_append_drop i gr]
    rw [List.filter_append, List.filter_eq_self.2, List.filter_eq_nil_iff.2, List.append_nil]
    · intro a ha
      obtain ⟨k, hk⟩ := List.getElem?_of_mem ha
      rw [List.getElem?_drop] at hk
      have := hp.2.2 (i + k) a (by omega) hk
      simpa using this
    · intro a ha
      obtain ⟨k, hk⟩ := List.getElem?_of_mem ha
      have hkl := (List.getElem?_eq_some_iff.1 hk).1
      rw [List.length_take] at hkl
      rw [List.getElem?_take_of_lt (by omega)] at hk
      simpa using hp.2.1 k a (by omega) hk
  have e2 : gr.filter (fun a => !decide (t < a)) = gr.drop i := by
    conv => lhs; rw [← List.take_append_drop i gr]
    rw [List.filter_append, List.filter_eq_nil_iff.2, List.filter_eq_self.2, List.nil_append]
    · intro a ha
      obtain ⟨k, hk⟩ := List.getElem?_of_mem ha
      rw [List.getElem?_drop] at hk
      have := hp.2.2 (i + k) a (by omega) hk
      simpa using this
    · intro a ha
      obtain ⟨k, hk⟩ := List.getElem?_of_mem ha
      have hkl := (List.getElem?_eq_some_iff.1 hk).1
      rw [List.length_take] at hkl
      rw [List.getElem?_take_of_lt (by omega)] at hk
      have := hp.2.1 k a (by omega) hk
      simpa using this
  rw [e1, e2]
theorem insertN_f {w0 w : World} {M : Nat → Prop} {H : List It} {o ov : Option Addr} {c i : Nat} {fr : List Nat} {r : Nat} (hH : HS w0 M (own 3 1 o fr.length c (flat encN fr) :: own 3 1 ov 1 1 (encN r) :: H) w) (hi : i ≤ fr.length) (hl : fr.length ≤ 1048576) :
    Ret Try.prog 94 #[.slice o fr.length c, .int .i64 i, .slice ov 1 1] w (fun v w' => ∃ o' c', v = .slice o' (fr.length + 1) c' ∧ HS w0 M (own 3 1 o' (fr.length + 1) c' (flat encN (insN fr i r)) :: H) w') := by
  obtain ⟨Mc, h1, -, h2⟩ := HS.frame (Hc := [own 3 1 o fr.length c (flat encN fr), own 3 1 ov 1 1 (encN r)]) (Hf := H) hH
  exact (insertN_spec w Mc o ov c i fr r h1 hi hl).mono fun v w' ⟨o', c', h3, h4⟩ => ⟨o', c', h3, h2 _ _ h4⟩
set_option maxRecDepth 10000 attribute [local irreducible] Code.wp wpList Calls Ex Op1 sat bat blk cb own Go.Fw.mp Go.Fw.mpO Go.Fw.mpI Go.Fw.mpE Go.Fw.itr HS Rd Ret wkD Hp Cl Cls Exit.then Exit.inBlock Exit.noGoto bodyPost Go.Fw.flat wk2 Go.Fw.all Go.Fw.owns wpOp
attribute [local irreducible] hdA gaps isA nextA allocA freeA sizeA kindA setA getA whiteZ numW addrW

theorem gis_spec (w0 : World) (bg b N : Nat) (s : GS) (z : Int) (hG : GcR w0 bg b N s) (hR : HpR w0 b N s.L) : Ret Try.prog 99 #[.pointer (some (bat bg 0)), .int .i64 z] w0 (fun v w => v = .bool (isA s.L z) ∧ Kp w0 noM w) := by
  have hH : HS w0 noM [] w0 := HS.init w0 noM
  obtain ⟨q, hq⟩ := hG
  have h0 := hq.c0
  (refine enter (N := 18) Try.func99 rfl Try.ntmps99 rfl ?_; intro a hA; dsimp only [sl0, Nat.reduceAdd] at hA)
  repeat' (first | (first | (refine GT ?_ ?_ <;> intro hg <;> clear hA a <;> intro a hA <;> (first | exact FA | replace hg := of_decide_eq_true hg | replace hg := of_decide_eq_false hg | skip)) | (refine QT ?_; clear hA a; intro a hA) | (first | (refine BT ?_; clear hA hH; rintro _ w ⟨bN, rfl, hH⟩ a hA) | (refine LT ?_; clear hA hH; rintro _ w ⟨oN, rfl, hH⟩ a hA) | (refine AT ?_; clear hA; rintro _ w ⟨oN, cN, rfl, hH2⟩ a hA; clear hH; have hH := (hH2 _ (by (repeat constructor))).tail; clear hH2) | (refine S0T ?_; clear hH; rintro _ w hH) )) | ((first | refine CT ?_ | (refine DT ?_ ?_ <;> intro hc <;> try (exfalso; omega))) <;> repeat' refine CT ?_) | (first | (refine DSK ?_; clear hA a; intro a hA) | (first | (refine DLT ?_; clear hA hH; rintro _ w ⟨oN, rfl, hH⟩; refine ⟨STT, ?_⟩; intro a hA) | (refine DAT ?_; clear hA; rintro _ w ⟨oN, cN, rfl, hH2⟩; clear hH; have hH := (hH2 _ (by (repeat constructor))).tail; clear hH2; refine ⟨STT, ?_⟩; intro a hA))) )
  (refine st_op hA rfl rfl (by decide) (op_call rfl rfl rfl (kind_r (hR.keep hH.kp))) ?_; clear hA; rintro _ w ⟨rfl, hk⟩ a hA; replace hH := hH.keep hk; clear hk)
  repeat' (first | (first | (refine GT ?_ ?_ <;> intro hg <;> clear hA a <;> intro a hA <;> (first | exact FA | replace hg := of_decide_eq_true hg | replace hg := of_decide_eq_false hg | skip)) | (refine QT ?_; clear hA a; intro a hA) | (first | (refine BT ?_; clear hA hH; rintro _ w ⟨bN, rfl, hH⟩ a hA) | (refine LT ?_; clear hA hH; rintro _ w ⟨oN, rfl, hH⟩ a hA) | (refine AT ?_; clear hA; rintro _ w ⟨oN, cN, rfl, hH2⟩ a hA; clear hH; have hH := (hH2 _ (by (repeat constructor))).tail; clear hH2) | (refine S0T ?_; clear hH; rintro _ w hH) )) | ((first | refine CT ?_ | (refine DT ?_ ?_ <;> intro hc <;> try (exfalso; omega))) <;> repeat' refine CT ?_) | (first | (refine DSK ?_; clear hA a; intro a hA) | (first | (refine DLT ?_; clear hA hH; rintro _ w ⟨oN, rfl, hH⟩; refine ⟨STT, ?_⟩; intro a hA) | (refine DAT ?_; clear hA; rintro _ w ⟨oN, cN, rfl, hH2⟩; clear hH; have hH := (hH2 _ (by (repeat constructor))).tail; clear hH2; refine ⟨STT, ?_⟩; intro a hA))) )
  exact rt1 (.inl rfl) rfl hA rfl ⟨by rw [← kind_is], hH.kp⟩

theorem gwhite_spec (w0 : World) (bg b N : Nat) (s : GS) (z : Int) (hok : GOk N s) (hG : GcR w0 bg b N s) (hR : HpR w0 b N s.L) : Ret Try.prog 91 #[.pointer (some (bat bg 0)), .int .i64 z] w0 (fun v w => v = .bool (whiteZ s z) ∧ Kp w0 noM w) := by
  have hH : HS w0 noM [] w0 := HS.init w0 noM
  have hG0 := hG
  obtain ⟨q, hq⟩ := hG
  have h2 := hq.c2
  have hrC := hq.rC
  have hn2 := hok.n2
  have hsp : Sp q.oC N := hrC.sp (sz := 1) (by rw [flat_length encC_len, hok.cll]) (by omega)
  (refine enter (N := 18) Try.func91 rfl Try.ntmps91 rfl ?_; intro a hA; dsimp only [sl0, Nat.reduceAdd] at hA)
  repeat' (first | (first | (refine GT ?_ ?_ <;> intro hg <;> clear hA a <;> intro a hA <;> (first | exact FA | replace hg := of_decide_eq_true hg | replace hg := of_decide_eq_false hg | skip)) | (refine QT ?_; clear hA a; intro a hA) | (first | (refine BT ?_; clear hA hH; rintro _ w ⟨bN, rfl, hH⟩ a hA) | (refine LT ?_; clear hA hH; rintro _ w ⟨oN, rfl, hH⟩ a hA) | (refine AT ?_; clear hA; rintro _ w ⟨oN, cN, rfl, hH2⟩ a hA; clear hH; have hH := (hH2 _ (by (repeat constructor))).tail; clear hH2) | (refine S0T ?_; clear hH; rintro _ w hH) )) | ((first | refine CT ?_ | (refine DT ?_ ?_ <;> intro hc <;> try (exfalso; omega))) <;> repeat' refine CT ?_) | (first | (refine DSK ?_; clear hA a; intro a hA) | (first | (refine DLT ?_; clear hA hH; rintro _ w ⟨oN, rfl, hH⟩; refine ⟨STT, ?_⟩; intro a hA) | (refine DAT ?_; clear hA; rintro _ w ⟨oN, cN, rfl, hH2⟩; clear hH; have hH := (hH2 _ (by (repeat constructor))).tail; clear hH2; refine ⟨STT, ?_⟩; intro a hA))) )
  (refine st_op hA rfl rfl (by decide) (op_call rfl rfl rfl (gis_spec _ bg b N s z (hG0.keep hH.kp) (hR.keep hH.kp))) ?_; clear hA; rintro _ w ⟨rfl, hk⟩ a hA; replace hH := hH.keep hk; clear hk)
  cases hi : isA s.L z with
  | false =>
    rw [hi] at hA
    repeat' (first | (first | (refine GT ?_ ?_ <;> intro hg <;> clear hA a <;> intro a hA <;> (first | exact FA | replace hg := of_decide_eq_true hg | replace hg := of_decide_eq_false hg | skip)) | (refine QT ?_; clear hA a; intro a hA) | (first | (refine BT ?_; clear hA hH; rintro _ w ⟨bN, rfl, hH⟩ a hA) | (refine LT ?_; clear hA hH; rintro _ w ⟨oN, rfl, hH⟩ a hA) | (refine AT ?_; clear hA; rintro _ w ⟨oN, cN, rfl, hH2⟩ a hA; clear hH; have hH := (hH2 _ (by (repeat constructor))).tail; clear hH2) | (refine S0T ?_; clear hH; rintro _ w hH) )) | ((first | refine CT ?_ | (refine DT ?_ ?_ <;> intro hc <;> try (exfalso; omega))) <;> repeat' refine CT ?_) | (first | (refine DSK ?_; clear hA a; intro a hA) | (first | (refine DLT ?_; clear hA hH; rintro _ w ⟨oN, rfl, hH⟩; refine ⟨STT, ?_⟩; intro a hA) | (refine DAT ?_; clear hA; rintro _ w ⟨oN, cN, rfl, hH2⟩; clear hH; have hH := (hH2 _ (by (repeat constructor))).tail; clear hH2; refine ⟨STT, ?_⟩; intro a hA))) )
    exact rt1 (.inl rfl) rfl hA rfl ⟨by unfold whiteZ; rw [hi]; rfl, hH.kp⟩
  | true =>
    obtain ⟨o, ho, rfl⟩ := isA_obj hi
    have hlt := hok.lt ⟨o, ho, rfl⟩
    have hc := encC_at (cl_at hok hlt.2)
    rw [hi] at hA
    repeat' (first | (first | (refine GT ?_ ?_ <;> intro hg <;> clear hA a <;> intro a hA <;> (first | exact FA | replace hg := of_decide_eq_true hg | replace hg := of_decide_eq_false hg | skip)) | (refine QT ?_; clear hA a; intro a hA) | (first | (refine BT ?_; clear hA hH; rintro _ w ⟨bN, rfl, hH⟩ a hA) | (refine LT ?_; clear hA hH; rintro _ w ⟨oN, rfl, hH⟩ a hA) | (refine AT ?_; clear hA; rintro _ w ⟨oN, cN, rfl, hH2⟩ a hA; clear hH; have hH := (hH2 _ (by (repeat constructor))).tail; clear hH2) | (refine S0T ?_; clear hH; rintro _ w hH) )) | ((first | refine CT ?_ | (refine DT ?_ ?_ <;> intro hc <;> try (exfalso; omega))) <;> repeat' refine CT ?_) | (first | (refine DSK ?_; clear hA a; intro a hA) | (first | (refine DLT ?_; clear hA hH; rintro _ w ⟨oN, rfl, hH⟩; refine ⟨STT, ?_⟩; intro a hA) | (refine DAT ?_; clear hA; rintro _ w ⟨oN, cN, rfl, hH2⟩; clear hH; have hH := (hH2 _ (by (repeat constructor))).tail; clear hH2; refine ⟨STT, ?_⟩; intro a hA))) )
    refine rt1 (.inl rfl) rfl hA rfl ⟨?_, hH.kp⟩
    unfold whiteZ
    rw [hi, Int.toNat_natCast, Bool.true_and]
    congr 1
    cases hcc : col s o.a with
    | zero => rfl
    | succ n =>
      rw [decide_eq_false (by omega)]
      rfl

theorem gphase_spec (w0 : World) (bg b N : Nat) (s : GS) (hG : GcR w0 bg b N s) : Ret Try.prog 71 #[.pointer (some (bat bg 0))] w0 (fun v w => v = .int .i64 s.ph ∧ Kp w0 noM w) := by
  have hH : HS w0 noM [] w0 := HS.init w0 noM
  obtain ⟨q, hq⟩ := hG
  have h1 := hq.c1
  (refine enter (N := 7) Try.func71 rfl Try.ntmps71 rfl ?_; intro a hA; dsimp only [sl0, Nat.reduceAdd] at hA)
  repeat' (first | (first | (refine GT ?_ ?_ <;> intro hg <;> clear hA a <;> intro a hA <;> (first | exact FA | replace hg := of_decide_eq_true hg | replace hg := of_decide_eq_false hg | skip)) | (refine QT ?_; clear hA a; intro a hA) | (first | (refine BT ?_; clear hA hH; rintro _ w ⟨bN, rfl, hH⟩ a hA) | (refine LT ?_; clear hA hH; rintro _ w ⟨oN, rfl, hH⟩ a hA) | (refine AT ?_; clear hA; rintro _ w ⟨oN, cN, rfl, hH2⟩ a hA; clear hH; have hH := (hH2 _ (by (repeat constructor))).tail; clear hH2) | (refine S0T ?_; clear hH; rintro _ w hH) )) | ((first | refine CT ?_ | (refine DT ?_ ?_ <;> intro hc <;> try (exfalso; omega))) <;> repeat' refine CT ?_) | (first | (refine DSK ?_; clear hA a; intro a hA) | (first | (refine DLT ?_; clear hA hH; rintro _ w ⟨oN, rfl, hH⟩; refine ⟨STT, ?_⟩; intro a hA) | (refine DAT ?_; clear hA; rintro _ w ⟨oN, cN, rfl, hH2⟩; clear hH; have hH := (hH2 _ (by (repeat constructor))).tail; clear hH2; refine ⟨STT, ?_⟩; intro a hA))) )
  exact rt1 (.inl rfl) rfl hA rfl ⟨rfl, hH.kp⟩

theorem gshade_spec (w0 : World) (M : Nat → Prop) (bg b N : Nat) (s : GS) (x : Int) (hok : GOk N s) (hp : s.ph = 1) (hU : U x) (hH : HS w0 M [gcI bg b N s, hpI b N s.L] w0) :
    Ret Try.prog 73 #[.pointer (some (bat bg 0)), .int .u64 x] w0 (fun v w => HS w0 M [gcI bg b N (shadeG s x), hpI b N s.L] w) := by
  have hn2 := hok.n2
  have haN := addrN_eq hU
  (refine enter (N := 43) Try.func73 rfl Try.ntmps73 rfl ?_; intro a hA; dsimp only [sl0, Nat.reduceAdd] at hA)
  repeat' (first | (first | (refine GT ?_ ?_ <;> intro hg <;> clear hA a <;> intro a hA <;> (first | exact FA | replace hg := of_decide_eq_true hg | replace hg := of_decide_eq_false hg | skip)) | (refine QT ?_; clear hA a; intro a hA) | (first | (refine BT ?_; clear hA hH; rintro _ w ⟨bN, rfl, hH⟩ a hA) | (refine LT ?_; clear hA hH; rintro _ w ⟨oN, rfl, hH⟩ a hA) | (refine AT ?_; clear hA; rintro _ w ⟨oN, cN, rfl, hH2⟩ a hA; clear hH; have hH := (hH2 _ (by (repeat constructor))).tail; clear hH2) | (refine S0T ?_; clear hH; rintro _ w hH) )) | ((first | refine CT ?_ | (refine DT ?_ ?_ <;> intro hc <;> try (exfalso; omega))) <;> repeat' refine CT ?_) | (first | (refine DSK ?_; clear hA a; intro a hA) | (first | (refine DLT ?_; clear hA hH; rintro _ w ⟨oN, rfl, hH⟩; refine ⟨STT, ?_⟩; intro a hA) | (refine DAT ?_; clear hA; rintro _ w ⟨oN, cN, rfl, hH2⟩; clear hH; have hH := (hH2 _ (by (repeat constructor))).tail; clear hH2; refine ⟨STT, ?_⟩; intro a hA))) )
  (refine st_op hA rfl rfl (by decide) (op_call rfl rfl rfl (addr_spec _ x hU)) ?_; clear hA; rintro _ w ⟨rfl, hk⟩ a hA; replace hH := hH.keep hk; clear hk)
  repeat' (first | (first | (refine GT ?_ ?_ <;> intro hg <;> clear hA a <;> intro a hA <;> (first | exact FA | replace hg := of_decide_eq_true hg | replace hg := of_decide_eq_false hg | skip)) | (refine QT ?_; clear hA a; intro a hA) | (first | (refine BT ?_; clear hA hH; rintro _ w ⟨bN, rfl, hH⟩ a hA) | (refine LT ?_; clear hA hH; rintro _ w ⟨oN, rfl, hH⟩ a hA) | (refine AT ?_; clear hA; rintro _ w ⟨oN, cN, rfl, hH2⟩ a hA; clear hH; have hH := (hH2 _ (by (repeat constructor))).tail; clear hH2) | (refine S0T ?_; clear hH; rintro _ w hH) )) | ((first | refine CT ?_ | (refine DT ?_ ?_ <;> intro hc <;> try (exfalso; omega))) <;> repeat' refine CT ?_) | (first | (refine DSK ?_; clear hA a; intro a hA) | (first | (refine DLT ?_; clear hA hH; rintro _ w ⟨oN, rfl, hH⟩; refine ⟨STT, ?_⟩; intro a hA) | (refine DAT ?_; clear hA; rintro _ w ⟨oN, cN, rfl, hH2⟩; clear hH; have hH := (hH2 _ (by (repeat constructor))).tail; clear hH2; refine ⟨STT, ?_⟩; intro a hA))) )
  (refine st_op hA rfl rfl (by decide) (op_call rfl rfl rfl (isnum_spec _ x hU)) ?_; clear hA; rintro _ w ⟨rfl, hk⟩ a hA; replace hH := hH.keep hk; clear hk)
  by_cases hc : numW x = true ∨ whiteG s (addrN x) = false
  · have hs : shadeG s x = s := if_pos hc
    rw [hs]
    cases hn : numW x with
    | true =>
      rw [hn] at hA
      repeat' (first | (first | (refine GT ?_ ?_ <;> intro hg <;> clear hA a <;> intro a hA <;> (first | exact FA | replace hg := of_decide_eq_true hg | replace hg := of_decide_eq_false hg | skip)) | (refine QT ?_; clear hA a; intro a hA) | (first | (refine BT ?_; clear hA hH; rintro _ w ⟨bN, rfl, hH⟩ a hA) | (refine LT ?_; clear hA hH; rintro _ w ⟨oN, rfl, hH⟩ a hA) | (refine AT ?_; clear hA; rintro _ w ⟨oN, cN, rfl, hH2⟩ a hA; clear hH; have hH := (hH2 _ (by (repeat constructor))).tail; clear hH2) | (refine S0T ?_; clear hH; rintro _ w hH) )) | ((first | refine CT ?_ | (refine DT ?_ ?_ <;> intro hc <;> try (exfalso; omega))) <;> repeat' refine CT ?_) | (first | (refine DSK ?_; clear hA a; intro a hA) | (first | (refine DLT ?_; clear hA hH; rintro _ w ⟨oN, rfl, hH⟩; refine ⟨STT, ?_⟩; intro a hA) | (refine DAT ?_; clear hA; rintro _ w ⟨oN, cN, rfl, hH2⟩; clear hH; have hH := (hH2 _ (by (repeat constructor))).tail; clear hH2; refine ⟨STT, ?_⟩; intro a hA))) )
      exact rt0 (.inl rfl) rfl hA hH
    | false =>
      rw [hn] at hA hc
      have hw : whiteZ s (addrW x) = false := by rw [← haN, whiteZ_nat]; rcases hc with h | h; cases h; exact h
      repeat' (first | (first | (refine GT ?_ ?_ <;> intro hg <;> clear hA a <;> intro a hA <;> (first | exact FA | replace hg := of_decide_eq_true hg | replace hg := of_decide_eq_false hg | skip)) | (refine QT ?_; clear hA a; intro a hA) | (first | (refine BT ?_; clear hA hH; rintro _ w ⟨bN, rfl, hH⟩ a hA) | (refine LT ?_; clear hA hH; rintro _ w ⟨oN, rfl, hH⟩ a hA) | (refine AT ?_; clear hA; rintro _ w ⟨oN, cN, rfl, hH2⟩ a hA; clear hH; have hH := (hH2 _ (by (repeat constructor))).tail; clear hH2) | (refine S0T ?_; clear hH; rintro _ w hH) )) | ((first | refine CT ?_ | (refine DT ?_ ?_ <;> intro hc <;> try (exfalso; omega))) <;> repeat' refine CT ?_) | (first | (refine DSK ?_; clear hA a; intro a hA) | (first | (refine DLT ?_; clear hA hH; rintro _ w ⟨oN, rfl, hH⟩; refine ⟨STT, ?_⟩; intro a hA) | (refine DAT ?_; clear hA; rintro _ w ⟨oN, cN, rfl, hH2⟩; clear hH; have hH := (hH2 _ (by (repeat constructor))).tail; clear hH2; refine ⟨STT, ?_⟩; intro a hA))) )
      (refine st_op hA rfl rfl (by decide) (op_call rfl rfl rfl (gwhite_spec _ bg b N s (addrW x) hok (gc_read hH) (hp_readM hH (by exact MEMT)))) ?_; clear hA; rintro _ w ⟨rfl, hk⟩ a hA; replace hH := hH.keep hk; clear hk)
      rw [hw] at hA
      repeat' (first | (first | (refine GT ?_ ?_ <;> intro hg <;> clear hA a <;> intro a hA <;> (first | exact FA | replace hg := of_decide_eq_true hg | replace hg := of_decide_eq_false hg | skip)) | (refine QT ?_; clear hA a; intro a hA) | (first | (refine BT ?_; clear hA hH; rintro _ w ⟨bN, rfl, hH⟩ a hA) | (refine LT ?_; clear hA hH; rintro _ w ⟨oN, rfl, hH⟩ a hA) | (refine AT ?_; clear hA; rintro _ w ⟨oN, cN, rfl, hH2⟩ a hA; clear hH; have hH := (hH2 _ (by (repeat constructor))).tail; clear hH2) | (refine S0T ?_; clear hH; rintro _ w hH) )) | ((first | refine CT ?_ | (refine DT ?_ ?_ <;> intro hc <;> try (exfalso; omega))) <;> repeat' refine CT ?_) | (first | (refine DSK ?_; clear hA a; intro a hA) | (first | (refine DLT ?_; clear hA hH; rintro _ w ⟨oN, rfl, hH⟩; refine ⟨STT, ?_⟩; intro a hA) | (refine DAT ?_; clear hA; rintro _ w ⟨oN, cN, rfl, hH2⟩; clear hH; have hH := (hH2 _ (by (repeat constructor))).tail; clear hH2; refine ⟨STT, ?_⟩; intro a hA))) )
      exact rt0 (.inl rfl) rfl hA hH
  obtain ⟨hn, hw⟩ : numW x = false ∧ whiteG s (addrN x) = true := by
    cases hn : numW x <;> cases hw : whiteG s (addrN x) <;> simp_all
  have hs : shadeG s x = { s with cl := s.cl.set (addrN x) 1, gr := insF s.gr (addrN x) } := if_neg hc
  have hwz : whiteZ s (addrW x) = true := by rw [← haN, whiteZ_nat]; exact hw
  rw [whiteG_iff] at hw
  have hlt := hok.lt hw.1
  have hnot : addrN x ∉ s.gr := fun hm => by have := (hok.grm _).1 hm; omega
  have hgl := gr_len hok
  rw [hn] at hA
  repeat' (first | (first | (refine GT ?_ ?_ <;> intro hg <;> clear hA a <;> intro a hA <;> (first | exact FA | replace hg := of_decide_eq_true hg | replace hg := of_decide_eq_false hg | skip)) | (refine QT ?_; clear hA a; intro a hA) | (first | (refine BT ?_; clear hA hH; rintro _ w ⟨bN, rfl, hH⟩ a hA) | (refine LT ?_; clear hA hH; rintro _ w ⟨oN, rfl, hH⟩ a hA) | (refine AT ?_; clear hA; rintro _ w ⟨oN, cN, rfl, hH2⟩ a hA; clear hH; have hH := (hH2 _ (by (repeat constructor))).tail; clear hH2) | (refine S0T ?_; clear hH; rintro _ w hH) )) | ((first | refine CT ?_ | (refine DT ?_ ?_ <;> intro hc <;> try (exfalso; omega))) <;> repeat' refine CT ?_) | (first | (refine DSK ?_; clear hA a; intro a hA) | (first | (refine DLT ?_; clear hA hH; rintro _ w ⟨oN, rfl, hH⟩; refine ⟨STT, ?_⟩; intro a hA) | (refine DAT ?_; clear hA; rintro _ w ⟨oN, cN, rfl, hH2⟩; clear hH; have hH := (hH2 _ (by (repeat constructor))).tail; clear hH2; refine ⟨STT, ?_⟩; intro a hA))) )
  (refine st_op hA rfl rfl (by decide) (op_call rfl rfl rfl (gwhite_spec _ bg b N s (addrW x) hok (gc_read hH) (hp_readM hH (by exact MEMT)))) ?_; clear hA; rintro _ w ⟨rfl, hk⟩ a hA; replace hH := hH.keep hk; clear hk)
  rw [hwz] at hA
  obtain ⟨q, hH2⟩ := gc_open hH
  clear hH
  have hH := hH2
  clear hH2
  unfold gcQ at hH
  rw [← haN] at hA
  have hspC : Sp q.oC N := hH.own_sp (o := q.oC) (by exact MEMT)
  repeat' (first | (first | (refine GT ?_ ?_ <;> intro hg <;> clear hA a <;> intro a hA <;> (first | exact FA | replace hg := of_decide_eq_true hg | replace hg := of_decide_eq_false hg | skip)) | (refine QT ?_; clear hA a; intro a hA) | (first | (refine BT ?_; clear hA hH; rintro _ w ⟨bN, rfl, hH⟩ a hA) | (refine LT ?_; clear hA hH; rintro _ w ⟨oN, rfl, hH⟩ a hA) | (refine AT ?_; clear hA; rintro _ w ⟨oN, cN, rfl, hH2⟩ a hA; clear hH; have hH := (hH2 _ (by (repeat constructor))).tail; clear hH2) | (refine S0T ?_; clear hH; rintro _ w hH) | (apply st_op0 hA rfl rfl; apply op_set1 (enc := encC) (y0 := 1) (j := addrN x * 1); rfl; rfl; rfl; rfl; exact encC_len; exact hH; (repeat constructor); (rw [hok.cll]; omega); clear hH; rintro _ w hH))) | ((first | refine CT ?_ | (refine DT ?_ ?_ <;> intro hc <;> try (exfalso; omega))) <;> repeat' refine CT ?_) | (first | (refine DSK ?_; clear hA a; intro a hA) | (first | (refine DLT ?_; clear hA hH; rintro _ w ⟨oN, rfl, hH⟩; refine ⟨STT, ?_⟩; intro a hA) | (refine DAT ?_; clear hA; rintro _ w ⟨oN, cN, rfl, hH2⟩; clear hH; have hH := (hH2 _ (by (repeat constructor))).tail; clear hH2; refine ⟨STT, ?_⟩; intro a hA))) )
  (refine st_op hA rfl rfl (by decide) (op_call rfl rfl rfl (searchN_spec _ q.oG q.cG s.gr (addrN x) (hH.own_rd (o := q.oG) (by exact MEMT)) (by omega) hok.grs (fun a ha => by have := gr_le hok a ha; omega) (by omega))) ?_; clear hA; rintro _ w ⟨⟨i, b2, rfl, hpos⟩, hk⟩ a hA)
  replace hH := hH.keep hk
  clear hk
  repeat' (first | (first | (refine GT ?_ ?_ <;> intro hg <;> clear hA a <;> intro a hA <;> (first | exact FA | replace hg := of_decide_eq_true hg | replace hg := of_decide_eq_false hg | skip)) | (refine QT ?_; clear hA a; intro a hA) | (first | (refine BT ?_; clear hA hH; rintro _ w ⟨bN, rfl, hH⟩ a hA) | (refine LT ?_; clear hA hH; rintro _ w ⟨oN, rfl, hH⟩ a hA) | (refine AT ?_; clear hA; rintro _ w ⟨oN, cN, rfl, hH2⟩ a hA; clear hH; have hH := (hH2 _ (by (repeat constructor))).tail; clear hH2) | (refine S0T ?_; clear hH; rintro _ w hH) )) | ((first | refine CT ?_ | (refine DT ?_ ?_ <;> intro hc <;> try (exfalso; omega))) <;> repeat' refine CT ?_) | (first | (refine DSK ?_; clear hA a; intro a hA) | (first | (refine DLT ?_; clear hA hH; rintro _ w ⟨oN, rfl, hH⟩; refine ⟨STT, ?_⟩; intro a hA) | (refine DAT ?_; clear hA; rintro _ w ⟨oN, cN, rfl, hH2⟩; clear hH; have hH := (hH2 _ (by (repeat constructor))).tail; clear hH2; refine ⟨STT, ?_⟩; intro a hA))) )
  (refine st_op hA rfl rfl (by decide) (op_call rfl rfl rfl (insertN_f (fr := s.gr) (r := addrN x) (o := q.oG) (hH.perm (perm_pick 3 rfl (.refl _))) hpos.1 (by omega))) ?_; clear hA; rintro _ w ⟨o2, c2, rfl, hH2⟩ a hA)
  clear hH
  have hH := hH2
  clear hH2
  rw [insN_insF hpos hnot] at hH
  repeat' (first | (first | (refine GT ?_ ?_ <;> intro hg <;> clear hA a <;> intro a hA <;> (first | exact FA | replace hg := of_decide_eq_true hg | replace hg := of_decide_eq_false hg | skip)) | (refine QT ?_; clear hA a; intro a hA) | (first | (refine BT ?_; clear hA hH; rintro _ w ⟨bN, rfl, hH⟩ a hA) | (refine LT ?_; clear hA hH; rintro _ w ⟨oN, rfl, hH⟩ a hA) | (refine AT ?_; clear hA; rintro _ w ⟨oN, cN, rfl, hH2⟩ a hA; clear hH; have hH := (hH2 _ (by (repeat constructor))).tail; clear hH2) | (refine S0T ?_; clear hH; rintro _ w hH) | (apply st_op0 hA rfl rfl; apply op_store_fld; rfl; rfl; rfl; exact hH; (repeat constructor); (repeat rfl); clear hH; rintro _ w hH))) | ((first | refine CT ?_ | (refine DT ?_ ?_ <;> intro hc <;> try (exfalso; omega))) <;> repeat' refine CT ?_) | (first | (refine DSK ?_; clear hA a; intro a hA) | (first | (refine DLT ?_; clear hA hH; rintro _ w ⟨oN, rfl, hH⟩; refine ⟨STT, ?_⟩; intro a hA) | (refine DAT ?_; clear hA; rintro _ w ⟨oN, cN, rfl, hH2⟩; clear hH; have hH := (hH2 _ (by (repeat constructor))).tail; clear hH2; refine ⟨STT, ?_⟩; intro a hA))) )
  refine rt0 (.inr rfl) rfl hA ?_
  rw [hs]
  refine gc_shut ⟨q.oC, q.cC, o2, c2⟩ ?_
  unfold gcQ
  dsimp only
  rw [insF_len]
  rw [Nat.mul_one] at hH
  exact hH.perm (by (repeat (first | exact List.Perm.nil | refine perm_pick 0 rfl ?_ | refine perm_pick 1 rfl ?_ | refine perm_pick 2 rfl ?_ | refine perm_pick 3 rfl ?_ | refine perm_pick 4 rfl ?_ | refine perm_pick 5 rfl ?_ | refine perm_pick 6 rfl ?_ | refine perm_pick 7 rfl ?_ | refine perm_pick 8 rfl ?_ | refine perm_pick 9 rfl ?_ | refine perm_pick 10 rfl ?_ | refine perm_pick 11 rfl ?_)))
theorem gshade_f {w0 w : World} {M : Nat → Prop} {H : List It} {bg b N : Nat} {s : GS} {L : List Ob} {x : Int} (hH : HS w0 M (gcI bg b N s :: hpI b N L :: H) w) (hok : GOk N s) (hp : s.ph = 1) (hU : U x) (hL : s.L = L) :
    Ret Try.prog 73 #[.pointer (some (bat bg 0)), .int .u64 x] w (fun v w' => HS w0 M (gcI bg b N (shadeG s x) :: hpI b N L :: H) w') := by
  subst hL
  obtain ⟨Mc, h1, -, h2⟩ := HS.frame (Hc := [gcI bg b N s, hpI b N s.L]) (Hf := H) hH
  exact (gshade_spec w Mc bg b N s x hok hp hU h1).mono fun v w' h3 => h2 _ _ h3
end Go.Proofs.Ytdfhajdejlhamaa
namespace Go.Proofs.Ytdfhajdejlhamaa
open Go Go.Fw
set_option linter.unusedVariables false
section
variable {w0 : World} {M : Nat → Prop} {H : List It} {bg b N : Nat} {s : GS}
theorem cl_gh (hm : gcI bg b N s ∈ H) : Cl (HS w0 M H) (bat bg 0) (.pointer (some (bat b 0))) := fun w hH => let ⟨_, hq⟩ := gc_readM hH hm; hq.c0
theorem cl_gp (hm : gcI bg b N s ∈ H) : Cl (HS w0 M H) (bat bg 1) (.int .i64 s.ph) := fun w hH => let ⟨_, hq⟩ := gc_readM hH hm; hq.c1
theorem cl_gl (hm : gcI bg b N s ∈ H) : Cl (HS w0 M H) (bat bg 4) (.int .i64 s.pl) := fun w hH => let ⟨_, hq⟩ := gc_readM hH hm; hq.c4
end
theorem cl_rdH {w0 : World} {M : Nat → Prop} {H : List It} {o : Option Addr} {xs : List Value} {j : Nat} {u : Value} (hrd : ∀ H' w', HS w0 M H' w' → Rd w' o xs) (hj : xs[j]? = some u) : Cl (HS w0 M H) (sat o j) u := fun w hH => (hrd _ _ hH).2 j u hj
theorem begin_L {N : Nat} {s : GS} (h : GOk N s) (roots : List Int) : (beginG s roots).2.L = s.L := by
  unfold beginG
  split
  · rename_i h0
    exact (shades_ok (s := { s with ph := 1 }) rfl (begin_pre h h0) roots).2.1
  · rfl
set_option maxRecDepth 10000 attribute [local irreducible] Code.wp wpList Calls Ex Op1 sat bat blk cb own Go.Fw.mp Go.Fw.mpO Go.Fw.mpI Go.Fw.mpE Go.Fw.itr HS Rd Ret wkD Hp Cl Cls Exit.then Exit.inBlock Exit.noGoto bodyPost Go.Fw.flat wk2 Go.Fw.all Go.Fw.owns wpOp
attribute [local irreducible] hdA gaps isA nextA allocA freeA sizeA kindA setA getA whiteZ numW addrW shadeG gcI hpI

set_option maxHeartbeats 4000000 in
theorem gbegin_spec (w0 : World) (M : Nat → Prop) (bg b N : Nat) (s : GS) (roots : List Int) (oR : Option Addr) (cR : Nat) (hok : GOk N s) (hU : ∀ x ∈ roots, U x) (hl : roots.length ≤ 140737488355328) (hrd : ∀ H' w', HS w0 M H' w' → Rd w' oR (flat encW roots)) (hH : HS w0 M [gcI bg b N s, hpI b N s.L] w0) :
    Ret Try.prog 45 #[.pointer (some (bat bg 0)), .slice oR roots.length cR] w0 (fun v w => v = .int .i64 (beginG s roots).1 ∧ HS w0 M [gcI bg b N (beginG s roots).2, hpI b N s.L] w) := by
  have hspR : Sp oR roots.length := (hrd _ _ hH).sp (sz := 1) (flat_length encW_len _) (by omega)
  (refine enter (N := 25) Try.func45 rfl Try.ntmps45 rfl ?_; intro a hA; dsimp only [sl0, Nat.reduceAdd] at hA)
  by_cases hp : s.ph = 0
  rotate_left
  · have e : beginG s roots = (9, s) := if_neg hp
    rw [e]
    repeat' (first | (first | (refine GT ?_ ?_ <;> intro hg <;> clear hA a <;> intro a hA <;> (first | exact FA | replace hg := of_decide_eq_true hg | replace hg := of_decide_eq_false hg | skip)) | ((first | apply st_ex hA hH rfl rfl (by decide) | apply dr_ex hA rfl rfl rfl (by decide) | apply dr_exp hA rfl rfl rfl (by decide) | apply dr_ex3 hA hH rfl rfl rfl (by decide)); (first | (apply ex_load; rfl; exact cl_gp MEMT)); clear hA a; intro a hA) | (refine QT ?_; clear hA a; intro a hA) | (first | (refine BT ?_; clear hA hH; rintro _ w ⟨bN, rfl, hH⟩ a hA) | (refine LT ?_; clear hA hH; rintro _ w ⟨oN, rfl, hH⟩ a hA) | (refine AT ?_; clear hA; rintro _ w ⟨oN, cN, rfl, hH2⟩ a hA; clear hH; have hH := (hH2 _ (by (repeat constructor))).tail; clear hH2) | (refine S0T ?_; clear hH; rintro _ w hH) )) | ((first | refine CT ?_ | (refine DT ?_ ?_ <;> intro hc <;> try (exfalso; omega))) <;> repeat' refine CT ?_) | (first | (refine DSK ?_; clear hA a; intro a hA) | (first | (refine DLT ?_; clear hA hH; rintro _ w ⟨oN, rfl, hH⟩; refine ⟨STT, ?_⟩; intro a hA) | (refine DAT ?_; clear hA; rintro _ w ⟨oN, cN, rfl, hH2⟩; clear hH; have hH := (hH2 _ (by (repeat constructor))).tail; clear hH2; refine ⟨STT, ?_⟩; intro a hA))) )
    exact rt1 (.inl rfl) rfl hA rfl ⟨rfl, hH⟩
  have e : beginG s roots = (0, roots.foldl shadeG { s with ph := 1 }) := if_pos hp
  rw [e]
  have hok1 := begin_pre hok hp
  repeat' (first | (first | (refine GT ?_ ?_ <;> intro hg <;> clear hA a <;> intro a hA <;> (first | exact FA | replace hg := of_decide_eq_true hg | replace hg := of_decide_eq_false hg | skip)) | ((first | apply st_ex hA hH rfl rfl (by decide) | apply dr_ex hA rfl rfl rfl (by decide) | apply dr_exp hA rfl rfl rfl (by decide) | apply dr_ex3 hA hH rfl rfl rfl (by decide)); (first | (apply ex_load; rfl; exact cl_gp MEMT)); clear hA a; intro a hA) | (refine QT ?_; clear hA a; intro a hA) | (first | (refine BT ?_; clear hA hH; rintro _ w ⟨bN, rfl, hH⟩ a hA) | (refine LT ?_; clear hA hH; rintro _ w ⟨oN, rfl, hH⟩ a hA) | (refine AT ?_; clear hA; rintro _ w ⟨oN, cN, rfl, hH2⟩ a hA; clear hH; have hH := (hH2 _ (by (repeat constructor))).tail; clear hH2) | (refine S0T ?_; clear hH; rintro _ w hH) )) | ((first | refine CT ?_ | (refine DT ?_ ?_ <;> intro hc <;> try (exfalso; omega))) <;> repeat' refine CT ?_) | (first | (refine DSK ?_; clear hA a; intro a hA) | (first | (refine DLT ?_; clear hA hH; rintro _ w ⟨oN, rfl, hH⟩; refine ⟨STT, ?_⟩; intro a hA) | (refine DAT ?_; clear hA; rintro _ w ⟨oN, cN, rfl, hH2⟩; clear hH; have hH := (hH2 _ (by (repeat constructor))).tail; clear hH2; refine ⟨STT, ?_⟩; intro a hA))) )
  obtain ⟨q, hH2⟩ := gc_open hH
  clear hH
  have hH := hH2
  clear hH2
  unfold gcQ at hH
  repeat' (first | (first | (refine GT ?_ ?_ <;> intro hg <;> clear hA a <;> intro a hA <;> (first | exact FA | replace hg := of_decide_eq_true hg | replace hg := of_decide_eq_false hg | skip)) | (refine QT ?_; clear hA a; intro a hA) | (first | (refine BT ?_; clear hA hH; rintro _ w ⟨bN, rfl, hH⟩ a hA) | (refine LT ?_; clear hA hH; rintro _ w ⟨oN, rfl, hH⟩ a hA) | (refine AT ?_; clear hA; rintro _ w ⟨oN, cN, rfl, hH2⟩ a hA; clear hH; have hH := (hH2 _ (by (repeat constructor))).tail; clear hH2) | (refine S0T ?_; clear hH; rintro _ w hH) | (apply st_op0 hA rfl rfl; apply op_store_fld; rfl; rfl; rfl; exact hH; (repeat constructor); (repeat rfl); clear hH; rintro _ w hH))) | ((first | refine CT ?_ | (refine DT ?_ ?_ <;> intro hc <;> try (exfalso; omega))) <;> repeat' refine CT ?_) | (first | (refine DSK ?_; clear hA a; intro a hA) | (first | (refine DLT ?_; clear hA hH; rintro _ w ⟨oN, rfl, hH⟩; refine ⟨STT, ?_⟩; intro a hA) | (refine DAT ?_; clear hA; rintro _ w ⟨oN, cN, rfl, hH2⟩; clear hH; have hH := (hH2 _ (by (repeat constructor))).tail; clear hH2; refine ⟨STT, ?_⟩; intro a hA))) )
  replace hH : HS w0 M [gcI bg b N { s with ph := 1 }, hpI b N s.L] w := gc_shut q hH
  refine wp_lpj (S := Nat) (fun i a w => i ≤ roots.length ∧ HS w0 M [gcI bg b N ((roots.take i).foldl shadeG { s with ph := 1 }), hpI b N s.L] w ∧ Sl 25 [(0, .pointer (some (bat bg 0))), (15, .slice oR roots.length cR), (16, .int .i64 roots.length), (17, .int .i64 i)] a) (fun i => roots.length - i)
    (fun a w => HS w0 M [gcI bg b N (roots.foldl shadeG { s with ph := 1 }), hpI b N s.L] w ∧ Sl 25 [] a) 0 ⟨Nat.zero_le _, hH, (hA.sub (by (repeat (first | exact trivial | refine ⟨rfl, ?_⟩))))⟩ ?_ ?_
  rotate_left
  · clear hA hH
    rintro a w ⟨hH, hA⟩
    repeat' (first | (first | (refine GT ?_ ?_ <;> intro hg <;> clear hA a <;> intro a hA <;> (first | exact FA | replace hg := of_decide_eq_true hg | replace hg := of_decide_eq_false hg | skip)) | (refine QT ?_; clear hA a; intro a hA) | (first | (refine BT ?_; clear hA hH; rintro _ w ⟨bN, rfl, hH⟩ a hA) | (refine LT ?_; clear hA hH; rintro _ w ⟨oN, rfl, hH⟩ a hA) | (refine AT ?_; clear hA; rintro _ w ⟨oN, cN, rfl, hH2⟩ a hA; clear hH; have hH := (hH2 _ (by (repeat constructor))).tail; clear hH2) | (refine S0T ?_; clear hH; rintro _ w hH) )) | ((first | refine CT ?_ | (refine DT ?_ ?_ <;> intro hc <;> try (exfalso; omega))) <;> repeat' refine CT ?_) | (first | (refine DSK ?_; clear hA a; intro a hA) | (first | (refine DLT ?_; clear hA hH; rintro _ w ⟨oN, rfl, hH⟩; refine ⟨STT, ?_⟩; intro a hA) | (refine DAT ?_; clear hA; rintro _ w ⟨oN, cN, rfl, hH2⟩; clear hH; have hH := (hH2 _ (by (repeat constructor))).tail; clear hH2; refine ⟨STT, ?_⟩; intro a hA))) )
    exact rt1 (.inl rfl) rfl hA rfl ⟨rfl, hH⟩
  clear hA hH
  rintro i a w ⟨hi, hH, hA⟩
  by_cases hlt : i < roots.length
  rotate_left
  · rw [List.take_of_length_le (by omega)] at hH
    repeat' (first | (first | (refine GT ?_ ?_ <;> intro hg <;> clear hA a <;> intro a hA <;> (first | exact FA | replace hg := of_decide_eq_true hg | replace hg := of_decide_eq_false hg | skip)) | (refine QT ?_; clear hA a; intro a hA) | (first | (refine BT ?_; clear hA hH; rintro _ w ⟨bN, rfl, hH⟩ a hA) | (refine LT ?_; clear hA hH; rintro _ w ⟨oN, rfl, hH⟩ a hA) | (refine AT ?_; clear hA; rintro _ w ⟨oN, cN, rfl, hH2⟩ a hA; clear hH; have hH := (hH2 _ (by (repeat constructor))).tail; clear hH2) | (refine S0T ?_; clear hH; rintro _ w hH) )) | ((first | refine CT ?_ | (refine DT ?_ ?_ <;> intro hc <;> try (exfalso; omega))) <;> repeat' refine CT ?_) | (first | (refine DSK ?_; clear hA a; intro a hA) | (first | (refine DLT ?_; clear hA hH; rintro _ w ⟨oN, rfl, hH⟩; refine ⟨STT, ?_⟩; intro a hA) | (refine DAT ?_; clear hA; rintro _ w ⟨oN, cN, rfl, hH2⟩; clear hH; have hH := (hH2 _ (by (repeat constructor))).tail; clear hH2; refine ⟨STT, ?_⟩; intro a hA))) )
    exact ⟨hH, (hA.sub (by (repeat (first | exact trivial | refine ⟨rfl, ?_⟩))))⟩
  obtain ⟨x, hx⟩ : ∃ x, roots[i]? = some x := ⟨_, List.getElem?_eq_getElem hlt⟩
  have hcx : (flat encW roots)[i * 1]? = some (.int .u64 x) := flat_get0 encW_len hx rfl
  obtain ⟨g1, g2, g3, g4, g5⟩ := shades_ok (s := { s with ph := 1 }) rfl hok1 (roots.take i)
  have hst : (roots.take (i + 1)).foldl shadeG { s with ph := 1 } = shadeG ((roots.take i).foldl shadeG { s with ph := 1 }) x := by
    rw [List.take_add_one, hx]
    simp
  have hclx : Cl (HS w0 M [gcI bg b N ((roots.take i).foldl shadeG { s with ph := 1 }), hpI b N s.L]) (sat oR (i * 1)) (.int .u64 x) := cl_rdH hrd hcx
  repeat' (first | (first | (refine GT ?_ ?_ <;> intro hg <;> clear hA a <;> intro a hA <;> (first | exact FA | replace hg := of_decide_eq_true hg | replace hg := of_decide_eq_false hg | skip)) | ((first | apply st_ex hA hH rfl rfl (by decide) | apply dr_ex hA rfl rfl rfl (by decide) | apply dr_exp hA rfl rfl rfl (by decide) | apply dr_ex3 hA hH rfl rfl rfl (by decide)); (first | (apply ex_load; rfl; exact hclx)); clear hA a; intro a hA) | (refine QT ?_; clear hA a; intro a hA) | (first | (refine BT ?_; clear hA hH; rintro _ w ⟨bN, rfl, hH⟩ a hA) | (refine LT ?_; clear hA hH; rintro _ w ⟨oN, rfl, hH⟩ a hA) | (refine AT ?_; clear hA; rintro _ w ⟨oN, cN, rfl, hH2⟩ a hA; clear hH; have hH := (hH2 _ (by (repeat constructor))).tail; clear hH2) | (refine S0T ?_; clear hH; rintro _ w hH) )) | ((first | refine CT ?_ | (refine DT ?_ ?_ <;> intro hc <;> try (exfalso; omega))) <;> repeat' refine CT ?_) | (first | (refine DSK ?_; clear hA a; intro a hA) | (first | (refine DLT ?_; clear hA hH; rintro _ w ⟨oN, rfl, hH⟩; refine ⟨STT, ?_⟩; intro a hA) | (refine DAT ?_; clear hA; rintro _ w ⟨oN, cN, rfl, hH2⟩; clear hH; have hH := (hH2 _ (by (repeat constructor))).tail; clear hH2; refine ⟨STT, ?_⟩; intro a hA))) )
  (refine st_op hA rfl rfl (by decide) (op_call rfl rfl rfl (gshade_f hH g1 g3 (hU x (List.mem_of_getElem? hx)) g2)) ?_; clear hA hH; rintro _ w hH a hA)
  rw [← hst] at hH
  repeat' (first | (first | (refine GT ?_ ?_ <;> intro hg <;> clear hA a <;> intro a hA <;> (first | exact FA | replace hg := of_decide_eq_true hg | replace hg := of_decide_eq_false hg | skip)) | (refine QT ?_; clear hA a; intro a hA) | (first | (refine BT ?_; clear hA hH; rintro _ w ⟨bN, rfl, hH⟩ a hA) | (refine LT ?_; clear hA hH; rintro _ w ⟨oN, rfl, hH⟩ a hA) | (refine AT ?_; clear hA; rintro _ w ⟨oN, cN, rfl, hH2⟩ a hA; clear hH; have hH := (hH2 _ (by (repeat constructor))).tail; clear hH2) | (refine S0T ?_; clear hH; rintro _ w hH) )) | ((first | refine CT ?_ | (refine DT ?_ ?_ <;> intro hc <;> try (exfalso; omega))) <;> repeat' refine CT ?_) | (first | (refine DSK ?_; clear hA a; intro a hA) | (first | (refine DLT ?_; clear hA hH; rintro _ w ⟨oN, rfl, hH⟩; refine ⟨STT, ?_⟩; intro a hA) | (refine DAT ?_; clear hA; rintro _ w ⟨oN, cN, rfl, hH2⟩; clear hH; have hH := (hH2 _ (by (repeat constructor))).tail; clear hH2; refine ⟨STT, ?_⟩; intro a hA))) )
  exact ⟨i + 1, ⟨hlt, hH, (hA.sub (by (repeat (first | exact trivial | refine ⟨rfl, ?_⟩))))⟩, by omega⟩
theorem gbegin_f {w0 w : World} {M : Nat → Prop} {H : List It} {bg b N : Nat} {s : GS} {L : List Ob} {roots : List Int} {oR : Option Addr} {cR : Nat} (hH : HS w0 M (gcI bg b N s :: hpI b N L :: H) w) (hok : GOk N s) (hU : ∀ x ∈ roots, U x) (hl : roots.length ≤ 140737488355328) (hrd : ∀ Hc w', HS w0 M (Hc ++ H) w' → Rd w' oR (flat encW roots)) (hL : s.L = L) :
    Ret Try.prog 45 #[.pointer (some (bat bg 0)), .slice oR roots.length cR] w (fun v w' => v = .int .i64 (beginG s roots).1 ∧ HS w0 M (gcI bg b N (beginG s roots).2 :: hpI b N (beginG s roots).2.L :: H) w') := by
  subst hL
  rw [begin_L hok]
  obtain ⟨Mc, h1, -, h2⟩ := HS.frame (Hc := [gcI bg b N s, hpI b N s.L]) (Hf := H) hH
  exact (gbegin_spec w Mc bg b N s roots oR cR hok hU hl (fun H' w' hw => hrd _ _ (h2 _ _ hw)) h1).mono fun v w' ⟨h3, h4⟩ => ⟨h3, h2 _ _ h4⟩
end Go.Proofs.Ytdfhajdejlhamaa
