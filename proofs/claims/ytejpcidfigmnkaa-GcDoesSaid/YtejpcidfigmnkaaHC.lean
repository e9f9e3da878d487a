/-
  The walk over slices.Insert of one run. Conditions: none.
-/
import Derived.Test.YtejpcidfigmnkaaHB
namespace Go.Proofs.Ytejpcidfigmnkaa
open Go Go.Fw
set_option linter.unusedVariables false
def insR (fr : List (Int × Int)) (i : Nat) (r : Int × Int) : List (Int × Int) := fr.take i ++ r :: fr.drop i
theorem flat_cons {α : Type} (enc : α → List Value) (x : α) (l : List α) : flat enc (x :: l) = enc x ++ flat enc l := by simp [flat]
theorem insR_len {fr : List (Int × Int)} {i : Nat} {r : Int × Int} (hi : i ≤ fr.length) : (insR fr i r).length = fr.length + 1 := by simp [insR]; omega
set_option maxRecDepth 10000 attribute [local irreducible] Code.wp wpList Calls Ex Op1 sat bat blk cb own Go.Fw.mp Go.Fw.mpO Go.Fw.mpI Go.Fw.mpE Go.Fw.itr HS Rd Ret wkD Hp Cl Cls Exit.then Exit.inBlock Exit.noGoto bodyPost Go.Fw.flat wk2 Go.Fw.all Go.Fw.owns wpOp

set_option maxHeartbeats 4000000 in
theorem insert_spec (w0 : World) (M : Nat → Prop) (o ov : Option Addr) (c i : Nat) (fr : List (Int × Int)) (r : Int × Int) (hH : HS w0 M [own 84 2 o fr.length c (flat encP fr), own 84 2 ov 1 1 (encP r)] w0) (hi : i ≤ fr.length) (hl : fr.length ≤ 1048576) :
    Ret Try.prog 67 #[.slice o fr.length c, .int .i64 i, .slice ov 1 1] w0
      (fun v w => ∃ o' c', v = .slice o' (fr.length + 1) c' ∧ HS w0 M [own 84 2 o' (fr.length + 1) c' (flat encP (insR fr i r))] w) := by
  have hle := hH.own_le (o := o) (by exact MEMT)
  obtain ⟨bv, spv, rfl, -, -, hv3, hv4, hHv⟩ := (hH.perm (.swap _ _ _)).own_block (by omega)
  have hspv : spv = [] := List.length_eq_zero_iff.1 (by rw [encP_len] at hv4; omega)
  subst hspv
  rw [List.append_nil] at hHv
  replace hH := hHv.perm (.swap _ _ _)
  clear hHv
  by_cases hin : i = fr.length
  · subst hin
    have hrv : Rd w0 (some (bat bv 0)) (encP r) := by
      have := hH.cb_rd (b := bv) (by exact MEMT) 0
      rwa [List.drop_zero] at this
    (refine enter (N := 95) Try.func67 rfl Try.ntmps67 rfl ?_; intro a hA; dsimp only [sl0, Nat.reduceAdd] at hA)
    repeat' (first | (first | (refine GT ?_ ?_ <;> intro hg <;> clear hA a <;> intro a hA <;> (first | exact FA | replace hg := of_decide_eq_true hg | replace hg := of_decide_eq_false hg | skip)) | ((first | apply st_ex hA hH rfl rfl (by decide) | apply dr_ex hA rfl rfl rfl (by decide) | apply dr_exp hA rfl rfl rfl (by decide) | apply dr_ex3 hA hH rfl rfl rfl (by decide)); (first | (apply ex_slice_lo (k := fr.length); rfl; rfl; rfl; omega)); clear hA a; intro a hA) | (refine QT0 ?_; clear hA a; intro a hA) | (first | (refine BT ?_; clear hA hH; rintro _ w ⟨bN, rfl, hH⟩ a hA) | (refine LT ?_; clear hA hH; rintro _ w ⟨oN, rfl, hH⟩ a hA) | (refine AT ?_; clear hA; rintro _ w ⟨oN, cN, rfl, hH2⟩ a hA; clear hH; have hH := (hH2 _ (by (repeat constructor))).tail; clear hH2) | (refine S0T ?_; clear hH; rintro _ w hH) | (apply st_op hA rfl rfl (by decide); apply op_append; rfl; rfl; exact hH; exact MEMT; exact hrv; exact encP_len r; rfl; decide; exact rfl; (unfold maxLen; omega); omega; clear hA; rintro _ w ⟨oN, cN, rfl, hH2⟩ a hA; clear hH; have hH := hH2 _ (by (repeat constructor)); clear hH2))) | ((first | refine CT ?_ | (refine DT ?_ ?_ <;> intro hc <;> try (exfalso; omega))) <;> repeat' refine CT ?_) | (first | (refine DSK ?_; clear hA a; intro a hA) | (first | (refine DLT ?_; clear hA hH; rintro _ w ⟨oN, rfl, hH⟩; refine ⟨STT, ?_⟩; intro a hA) | (refine DAT ?_; clear hA; rintro _ w ⟨oN, cN, rfl, hH2⟩; clear hH; have hH := (hH2 _ (by (repeat constructor))).tail; clear hH2; refine ⟨STT, ?_⟩; intro a hA))) )
    have e : flat encP fr ++ encP r = flat encP (insR fr fr.length r) := by
      unfold insR
      rw [List.take_length, List.drop_length, ← flat_snoc]
    rw [e] at hH
    exact rt1 (.inl rfl) rfl hA rfl ⟨_, _, rfl, hH.head⟩
  have hlt : i < fr.length := by omega
  obtain ⟨b, spare, rfl, h1, h2, h3, h4, hH⟩ := hH.own_block (by omega)
  have hne := hH.cb_ne
  have hlen : (flat encP fr ++ spare).length = c * 2 := by rw [List.length_append]; exact h4
  have hA_ : (flat encP (fr.take i)).length = i * 2 := by rw [flat_length encP_len, List.length_take]; omega
  have hB_ : (flat encP (fr.drop i)).length = (fr.length - i) * 2 := by rw [flat_length encP_len, List.length_drop]
  have hsplit : flat encP fr = flat encP (fr.take i) ++ flat encP (fr.drop i) := by rw [← flat_append, List.take_append_drop]
  have hins : flat encP (insR fr i r) = flat encP (fr.take i) ++ (encP r ++ flat encP (fr.drop i)) := by
    unfold insR
    rw [flat_append, flat_cons]
  have hq1 : (if c = i then 0 else 0 + i * 2) = i * 2 := by rw [if_neg (by omega), Nat.zero_add]
  by_cases hroom : fr.length + 1 ≤ c
  rotate_left
  · -- into a new block
    (refine enter (N := 95) Try.func67 rfl Try.ntmps67 rfl ?_; intro a hA; dsimp only [sl0, Nat.reduceAdd] at hA)
    repeat' (first | (first | (refine GT ?_ ?_ <;> intro hg <;> clear hA a <;> intro a hA <;> (first | exact FA | replace hg := of_decide_eq_true hg | replace hg := of_decide_eq_false hg | skip)) | ((first | apply st_ex hA hH rfl rfl (by decide) | apply dr_ex hA rfl rfl rfl (by decide) | apply dr_exp hA rfl rfl rfl (by decide) | apply dr_ex3 hA hH rfl rfl rfl (by decide)); (first | (apply ex_slice_lo_b (k := i) (q := i * 2); rfl; rfl; rfl; omega; exact hq1) | (apply ex_slice_hi (k := i); rfl; rfl; rfl; omega) | (apply ex_cap_slice; rfl)); clear hA a; intro a hA) | (refine QT0 ?_; clear hA a; intro a hA) | (first | (refine BT ?_; clear hA hH; rintro _ w ⟨bN, rfl, hH⟩ a hA) | (refine LT ?_; clear hA hH; rintro _ w ⟨oN, rfl, hH⟩ a hA) | (refine AT ?_; clear hA; rintro _ w ⟨oN, cN, rfl, hH2⟩ a hA; clear hH; have hH := (hH2 _ (by (repeat constructor))).tail; clear hH2) | (refine S0T ?_; clear hH; rintro _ w hH) )) | ((first | refine CT ?_ | (refine DT ?_ ?_ <;> intro hc <;> try (exfalso; omega))) <;> repeat' refine CT ?_) | (first | (refine DSK ?_; clear hA a; intro a hA) | (first | (refine DLT ?_; clear hA hH; rintro _ w ⟨oN, rfl, hH⟩; refine ⟨STT, ?_⟩; intro a hA) | (refine DAT ?_; clear hA; rintro _ w ⟨oN, cN, rfl, hH2⟩; clear hH; have hH := (hH2 _ (by (repeat constructor))).tail; clear hH2; refine ⟨STT, ?_⟩; intro a hA))) )
    have holds : ∀ j u, (flat encP (fr.take i))[j]? = some u → w0.cell? ((bat b 0).add j) = some u := by
      intro j u hj
      have := hH.cb_news (b := b) (k := 0) (m := (flat encP (fr.take i)).length) (List.mem_cons_self ..) j u
      have e5 : ((flat encP fr ++ spare).drop 0).take (flat encP (fr.take i)).length = flat encP (fr.take i) := by
        rw [List.drop_zero, hsplit, List.append_assoc, List.take_append_of_le_length (Nat.le_refl _), List.take_length]
      rw [e5] at this
      exact this hj
    repeat' (first | (first | (refine GT ?_ ?_ <;> intro hg <;> clear hA a <;> intro a hA <;> (first | exact FA | replace hg := of_decide_eq_true hg | replace hg := of_decide_eq_false hg | skip)) | (refine QT0 ?_; clear hA a; intro a hA) | (first | (refine BT ?_; clear hA hH; rintro _ w ⟨bN, rfl, hH⟩ a hA) | (refine LT ?_; clear hA hH; rintro _ w ⟨oN, rfl, hH⟩ a hA) | (refine AT ?_; clear hA; rintro _ w ⟨oN, cN, rfl, hH2⟩ a hA; clear hH; have hH := (hH2 _ (by (repeat constructor))).tail; clear hH2) | (refine S0T ?_; clear hH; rintro _ w hH) | (apply st_op hA rfl rfl (by decide); apply op_append_mk (k := fr.length + 1 - i); rfl; rfl; omega; exact hH; exact holds; exact hA_; rfl; omega; omega; (unfold maxLen; omega); omega; omega; clear hA; rintro _ w ⟨o2, c2, rest, rfl, hrest, hH2⟩ a hA))) | ((first | refine CT ?_ | (refine DT ?_ ?_ <;> intro hc <;> try (exfalso; omega))) <;> repeat' refine CT ?_) | (first | (refine DSK ?_; clear hA a; intro a hA) | (first | (refine DLT ?_; clear hA hH; rintro _ w ⟨oN, rfl, hH⟩; refine ⟨STT, ?_⟩; intro a hA) | (refine DAT ?_; clear hA; rintro _ w ⟨oN, cN, rfl, hH2⟩; clear hH; have hH := (hH2 _ (by (repeat constructor))).tail; clear hH2; refine ⟨STT, ?_⟩; intro a hA))) )
    have en : i + (fr.length + 1 - i) = fr.length + 1 := by omega
    rw [en] at hA hH2
    have hle2 := hH2.own_le (o := o2) (by exact MEMT)
    obtain ⟨b2, sp2, rfl, k1, k2, k3, k4, hH3⟩ := hH2.own_block (by omega)
    clear hH hH2
    have hH := hH3
    clear hH3
    have hq3 : (if c2 = i then 0 else 0 + i * 2) = i * 2 := by rw [if_neg (by omega), Nat.zero_add]
    have hq4 : (if c2 = i + 1 then 0 else 0 + (i + 1) * 2) = (i + 1) * 2 := by rw [if_neg (by omega), Nat.zero_add]
    have hrv : ∀ j u, (encP r)[j]? = some u → w.cell? ((bat bv 0).add j) = some u := by
      intro j u hj
      have := hH.cb_news (b := bv) (k := 0) (m := (encP r).length) (by exact MEMT) j u
      rw [List.drop_zero, List.take_length] at this
      exact this hj
    have hl1 : (encP r).length = Nat.min 1 (fr.length + 1 - i) * 2 := by rw [show Nat.min 1 (fr.length + 1 - i) = 1 by show min 1 (fr.length + 1 - i) = 1; omega]; rfl
    have hf1 : i * 2 + (encP r).length ≤ (flat encP (fr.take i) ++ rest ++ sp2).length := by
      rw [List.length_append, List.length_append, hA_, hrest, encP_len]; omega
    repeat' (first | (first | (refine GT ?_ ?_ <;> intro hg <;> clear hA a <;> intro a hA <;> (first | exact FA | replace hg := of_decide_eq_true hg | replace hg := of_decide_eq_false hg | skip)) | ((first | apply st_ex hA hH rfl rfl (by decide) | apply dr_ex hA rfl rfl rfl (by decide) | apply dr_exp hA rfl rfl rfl (by decide) | apply dr_ex3 hA hH rfl rfl rfl (by decide)); (first | (apply ex_slice_lo_b (k := i) (q := i * 2); rfl; rfl; rfl; omega; exact hq3)); clear hA a; intro a hA) | (refine QT0 ?_; clear hA a; intro a hA) | (first | (refine BT ?_; clear hA hH; rintro _ w ⟨bN, rfl, hH⟩ a hA) | (refine LT ?_; clear hA hH; rintro _ w ⟨oN, rfl, hH⟩ a hA) | (refine AT ?_; clear hA; rintro _ w ⟨oN, cN, rfl, hH2⟩ a hA; clear hH; have hH := (hH2 _ (by (repeat constructor))).tail; clear hH2) | (refine S0T ?_; clear hH; rintro _ w hH) | (apply st_op hA rfl rfl (by decide); apply op_copy_cb; rfl; rfl; exact hH; exact hrv; exact hl1; rfl; exact hf1; (repeat constructor); clear hA hH; rintro _ w ⟨rfl, hH⟩ a hA))) | ((first | refine CT ?_ | (refine DT ?_ ?_ <;> intro hc <;> try (exfalso; omega))) <;> repeat' refine CT ?_) | (first | (refine DSK ?_; clear hA a; intro a hA) | (first | (refine DLT ?_; clear hA hH; rintro _ w ⟨oN, rfl, hH⟩; refine ⟨STT, ?_⟩; intro a hA) | (refine DAT ?_; clear hA; rintro _ w ⟨oN, cN, rfl, hH2⟩; clear hH; have hH := (hH2 _ (by (repeat constructor))).tail; clear hH2; refine ⟨STT, ?_⟩; intro a hA))) )
    have hB5 : ((flat encP fr ++ spare).drop (i * 2)).take (flat encP (fr.drop i)).length = flat encP (fr.drop i) := by
      have := @mid_take (flat encP (fr.take i)) [] (flat encP (fr.drop i)) spare
      rw [List.length_nil, Nat.add_zero, hA_, List.nil_append, ← List.append_assoc, ← hsplit] at this
      exact this
    have hl2 : (flat encP (fr.drop i)).length = Nat.min (fr.length - i) (fr.length + 1 - (i + 1)) * 2 := by
      rw [hB_, show Nat.min (fr.length - i) (fr.length + 1 - (i + 1)) = fr.length - i by show min (fr.length - i) (fr.length + 1 - (i + 1)) = _; omega]
    have hpl : (put (flat encP (fr.take i) ++ rest ++ sp2) (i * 2) (encP r)).length = c2 * 2 := by rw [put_length hf1, List.length_append]; exact k4
    have hf2 : (i + 1) * 2 + (flat encP (fr.drop i)).length ≤ (put (flat encP (fr.take i) ++ rest ++ sp2) (i * 2) (encP r)).length := by rw [hpl, hB_]; omega
    have hone : (flat encP (fr.drop i)).all (·.oneCell') = true := flat_one_cell (fun _ => rfl) _
    (refine wp_draw_HS [(0, 2), (1, 2), (2, 2), (3, 2), (4, 2), (5, 2), (6, 2), (7, 2), (8, 0)] mixed (by decide +kernel) hH.drop_ ?_; replace hH := hH.drew)
    have hrB : ∀ j u, (flat encP (fr.drop i))[j]? = some u → w.drew.cell? ((bat b (i * 2)).add j) = some u := by
      intro j u hj
      have := hH.cb_news (b := b) (k := i * 2) (m := (flat encP (fr.drop i)).length) (by exact MEMT) j u
      rw [hB5] at this
      exact this hj
    repeat' (first | (first | (refine GT ?_ ?_ <;> intro hg <;> clear hA a <;> intro a hA <;> (first | exact FA | replace hg := of_decide_eq_true hg | replace hg := of_decide_eq_false hg | skip)) | ((first | apply st_ex hA hH rfl rfl (by decide) | apply dr_ex hA rfl rfl rfl (by decide) | apply dr_exp hA rfl rfl rfl (by decide) | apply dr_ex3 hA hH rfl rfl rfl (by decide)); (first | (apply ex_slice_lo_b (k := i + 1) (q := (i + 1) * 2); rfl; rfl; rfl; omega; exact hq4) | (apply ex_slice_lo_b (k := i) (q := i * 2); rfl; rfl; rfl; omega; exact hq1)); clear hA a; intro a hA) | (refine QT0 ?_; clear hA a; intro a hA) | (first | (refine BT ?_; clear hA hH; rintro _ w ⟨bN, rfl, hH⟩ a hA) | (refine LT ?_; clear hA hH; rintro _ w ⟨oN, rfl, hH⟩ a hA) | (refine AT ?_; clear hA; rintro _ w ⟨oN, cN, rfl, hH2⟩ a hA; clear hH; have hH := (hH2 _ (by (repeat constructor))).tail; clear hH2) | (refine S0T ?_; clear hH; rintro _ w hH) )) | ((first | refine CT ?_ | (refine DT ?_ ?_ <;> intro hc <;> try (exfalso; omega))) <;> repeat' refine CT ?_) | (first | (refine DSK ?_; clear hA a; intro a hA) | (first | (refine DLT ?_; clear hA hH; rintro _ w ⟨oN, rfl, hH⟩; refine ⟨STT, ?_⟩; intro a hA) | (refine DAT ?_; clear hA; rintro _ w ⟨oN, cN, rfl, hH2⟩; clear hH; have hH := (hH2 _ (by (repeat constructor))).tail; clear hH2; refine ⟨STT, ?_⟩; intro a hA))) | (apply dr_op hA rfl rfl rfl (by decide); apply op_copy_cb; rfl; rfl; exact hH; exact hrB; exact hl2; exact hone; exact hf2; (repeat constructor); clear hA hH; rintro _ w ⟨rfl, hH⟩; refine ⟨STT, ?_⟩; intro a hA))
    have hrest2 : rest.length = 2 + (fr.length - i) * 2 := by rw [hrest]; omega
    have e7 : put (put (flat encP (fr.take i) ++ rest ++ sp2) (i * 2) (encP r)) ((i + 1) * 2) (flat encP (fr.drop i)) = flat encP (insR fr i r) ++ sp2 := by
      have e8 : flat encP (fr.take i) ++ rest ++ sp2 = flat encP (fr.take i) ++ (rest.take 2 ++ (rest.drop 2 ++ sp2)) := by
        rw [← List.append_assoc (rest.take 2), List.take_append_drop, List.append_assoc]
      rw [e8, put_seg hA_.symm (by rw [encP_len, List.length_take]; omega), ← List.append_assoc (flat encP (fr.take i)), put_seg (by rw [List.length_append, hA_, encP_len]; omega) (by rw [hB_, List.length_drop]; omega), hins]
      simp
    rw [e7] at hH
    have hil : (flat encP (insR fr i r)).length = (fr.length + 1) * 2 := by rw [flat_length encP_len, insR_len hi]
    refine rt1 (.inl rfl) rfl hA rfl ⟨_, _, rfl, (hH.head).block_own hil k1 k2 ?_⟩
    rw [hil, ← k3]
    exact k4
  · (refine enter (N := 95) Try.func67 rfl Try.ntmps67 rfl ?_; intro a hA; dsimp only [sl0, Nat.reduceAdd] at hA)
    repeat' (first | (first | (refine GT ?_ ?_ <;> intro hg <;> clear hA a <;> intro a hA <;> (first | exact FA | replace hg := of_decide_eq_true hg | replace hg := of_decide_eq_false hg | skip)) | ((first | apply st_ex hA hH rfl rfl (by decide) | apply dr_ex hA rfl rfl rfl (by decide) | apply dr_exp hA rfl rfl rfl (by decide) | apply dr_ex3 hA hH rfl rfl rfl (by decide)); (first | (apply ex_slice_lo_b (k := i) (q := i * 2); rfl; rfl; rfl; omega; exact hq1) | (apply ex_slice_hi (k := fr.length + 1); rfl; rfl; rfl; omega) | (apply ex_cap_slice; rfl)); clear hA a; intro a hA) | (refine QT0 ?_; clear hA a; intro a hA) | (first | (refine BT ?_; clear hA hH; rintro _ w ⟨bN, rfl, hH⟩ a hA) | (refine LT ?_; clear hA hH; rintro _ w ⟨oN, rfl, hH⟩ a hA) | (refine AT ?_; clear hA; rintro _ w ⟨oN, cN, rfl, hH2⟩ a hA; clear hH; have hH := (hH2 _ (by (repeat constructor))).tail; clear hH2) | (refine S0T ?_; clear hH; rintro _ w hH) )) | ((first | refine CT ?_ | (refine DT ?_ ?_ <;> intro hc <;> try (exfalso; omega))) <;> repeat' refine CT ?_) | (first | (refine DSK ?_; clear hA a; intro a hA) | (first | (refine DLT ?_; clear hA hH; rintro _ w ⟨oN, rfl, hH⟩; refine ⟨STT, ?_⟩; intro a hA) | (refine DAT ?_; clear hA; rintro _ w ⟨oN, cN, rfl, hH2⟩; clear hH; have hH := (hH2 _ (by (repeat constructor))).tail; clear hH2; refine ⟨STT, ?_⟩; intro a hA))) )
    have hsp2 : 2 ≤ spare.length := by rw [List.length_append, h3] at hlen; omega
    have hq2 : (if c = i + 1 then 0 else 0 + (i + 1) * 2) = (i + 1) * 2 := by rw [if_neg (by omega), Nat.zero_add]
    have hc2 : (flat encP fr ++ spare).length ≠ 0 := by rw [hlen]; omega
    repeat' (first | (first | (refine GT ?_ ?_ <;> intro hg <;> clear hA a <;> intro a hA <;> (first | exact FA | replace hg := of_decide_eq_true hg | replace hg := of_decide_eq_false hg | skip)) | ((first | apply st_ex hA hH rfl rfl (by decide) | apply dr_ex hA rfl rfl rfl (by decide) | apply dr_exp hA rfl rfl rfl (by decide) | apply dr_ex3 hA hH rfl rfl rfl (by decide)); (first | (apply ex_slice_lo_b (k := i + 1) (q := (i + 1) * 2); rfl; rfl; rfl; omega; exact hq2)); clear hA a; intro a hA) | (refine QT0 ?_; clear hA a; intro a hA) | (first | (refine BT ?_; clear hA hH; rintro _ w ⟨bN, rfl, hH⟩ a hA) | (refine LT ?_; clear hA hH; rintro _ w ⟨oN, rfl, hH⟩ a hA) | (refine AT ?_; clear hA; rintro _ w ⟨oN, cN, rfl, hH2⟩ a hA; clear hH; have hH := (hH2 _ (by (repeat constructor))).tail; clear hH2) | (refine S0T ?_; clear hH; rintro _ w hH) | (apply st_op hA rfl rfl (by decide); apply op_overlaps (t := 80) (tR := 4) Try.func72 (by kernel_rfl) (by kernel_rfl) (by kernel_rfl) (by kernel_rfl); rfl; rfl; exact hH; exact MEMT; exact MEMT; exact Ne.symm hne; exact hc2; clear hA; rintro _ w2 ⟨rfl, hw2⟩ a hA; rw [hw2]; clear hw2 w2))) | ((first | refine CT ?_ | (refine DT ?_ ?_ <;> intro hc <;> try (exfalso; omega))) <;> repeat' refine CT ?_) | (first | (refine DSK ?_; clear hA a; intro a hA) | (first | (refine DLT ?_; clear hA hH; rintro _ w ⟨oN, rfl, hH⟩; refine ⟨STT, ?_⟩; intro a hA) | (refine DAT ?_; clear hA; rintro _ w ⟨oN, cN, rfl, hH2⟩; clear hH; have hH := (hH2 _ (by (repeat constructor))).tail; clear hH2; refine ⟨STT, ?_⟩; intro a hA))) )
    have hB5 : ((flat encP fr ++ spare).drop (i * 2)).take (flat encP (fr.drop i)).length = flat encP (fr.drop i) := by
      have := @mid_take (flat encP (fr.take i)) [] (flat encP (fr.drop i)) spare
      rw [List.length_nil, Nat.add_zero, hA_, List.nil_append, ← List.append_assoc, ← hsplit] at this
      exact this
    have hl2 : (flat encP (fr.drop i)).length = Nat.min (fr.length + 1 - i) (fr.length + 1 - (i + 1)) * 2 := by
      rw [hB_, show Nat.min (fr.length + 1 - i) (fr.length + 1 - (i + 1)) = fr.length - i by show min (fr.length + 1 - i) (fr.length + 1 - (i + 1)) = _; omega]
    have hf2 : (i + 1) * 2 + (flat encP (fr.drop i)).length ≤ (flat encP fr ++ spare).length := by rw [hlen, hB_]; omega
    have hone : (flat encP (fr.drop i)).all (·.oneCell') = true := flat_one_cell (fun _ => rfl) _
    (refine wp_draw_HS [(0, 2), (1, 2), (2, 2), (3, 2), (4, 2), (5, 2), (6, 2), (7, 2), (8, 0)] mixed (by decide +kernel) hH.drop_ ?_; replace hH := hH.drew)
    have hrB : ∀ j u, (flat encP (fr.drop i))[j]? = some u → w0.drew.cell? ((bat b (i * 2)).add j) = some u := by
      intro j u hj
      have := hH.cb_news (b := b) (k := i * 2) (m := (flat encP (fr.drop i)).length) (by exact MEMT) j u
      rw [hB5] at this
      exact this hj
    repeat' (first | (first | (refine GT ?_ ?_ <;> intro hg <;> clear hA a <;> intro a hA <;> (first | exact FA | replace hg := of_decide_eq_true hg | replace hg := of_decide_eq_false hg | skip)) | ((first | apply st_ex hA hH rfl rfl (by decide) | apply dr_ex hA rfl rfl rfl (by decide) | apply dr_exp hA rfl rfl rfl (by decide) | apply dr_ex3 hA hH rfl rfl rfl (by decide)); (first | (apply ex_slice_lo_b (k := i + 1) (q := (i + 1) * 2); rfl; rfl; rfl; omega; exact hq2) | (apply ex_slice_lo_b (k := i) (q := i * 2); rfl; rfl; rfl; omega; exact hq1)); clear hA a; intro a hA) | (refine QT0 ?_; clear hA a; intro a hA) | (first | (refine BT ?_; clear hA hH; rintro _ w ⟨bN, rfl, hH⟩ a hA) | (refine LT ?_; clear hA hH; rintro _ w ⟨oN, rfl, hH⟩ a hA) | (refine AT ?_; clear hA; rintro _ w ⟨oN, cN, rfl, hH2⟩ a hA; clear hH; have hH := (hH2 _ (by (repeat constructor))).tail; clear hH2) | (refine S0T ?_; clear hH; rintro _ w hH) )) | ((first | refine CT ?_ | (refine DT ?_ ?_ <;> intro hc <;> try (exfalso; omega))) <;> repeat' refine CT ?_) | (first | (refine DSK ?_; clear hA a; intro a hA) | (first | (refine DLT ?_; clear hA hH; rintro _ w ⟨oN, rfl, hH⟩; refine ⟨STT, ?_⟩; intro a hA) | (refine DAT ?_; clear hA; rintro _ w ⟨oN, cN, rfl, hH2⟩; clear hH; have hH := (hH2 _ (by (repeat constructor))).tail; clear hH2; refine ⟨STT, ?_⟩; intro a hA))) | (apply dr_op hA rfl rfl rfl (by decide); apply op_copy_cb; rfl; rfl; exact hH; exact hrB; exact hl2; exact hone; exact hf2; (repeat constructor); clear hA hH; rintro _ w ⟨rfl, hH⟩; refine ⟨STT, ?_⟩; intro a hA))
    have hrv : ∀ j u, (encP r)[j]? = some u → w.cell? ((bat bv 0).add j) = some u := by
      intro j u hj
      have := hH.cb_news (b := bv) (k := 0) (m := (encP r).length) (by exact MEMT) j u
      rw [List.drop_zero, List.take_length] at this
      exact this hj
    have hl1 : (encP r).length = Nat.min 1 (fr.length + 1 - i) * 2 := by rw [show Nat.min 1 (fr.length + 1 - i) = 1 by show min 1 (fr.length + 1 - i) = 1; omega]; rfl
    have hf1 : i * 2 + (encP r).length ≤ (put (flat encP fr ++ spare) ((i + 1) * 2) (flat encP (fr.drop i))).length := by
      rw [put_length hf2, hlen, encP_len]; omega
    repeat' (first | (first | (refine GT ?_ ?_ <;> intro hg <;> clear hA a <;> intro a hA <;> (first | exact FA | replace hg := of_decide_eq_true hg | replace hg := of_decide_eq_false hg | skip)) | ((first | apply st_ex hA hH rfl rfl (by decide) | apply dr_ex hA rfl rfl rfl (by decide) | apply dr_exp hA rfl rfl rfl (by decide) | apply dr_ex3 hA hH rfl rfl rfl (by decide)); (first | (apply ex_slice_lo_b (k := i) (q := i * 2); rfl; rfl; rfl; omega; exact hq1)); clear hA a; intro a hA) | (refine QT0 ?_; clear hA a; intro a hA) | (first | (refine BT ?_; clear hA hH; rintro _ w ⟨bN, rfl, hH⟩ a hA) | (refine LT ?_; clear hA hH; rintro _ w ⟨oN, rfl, hH⟩ a hA) | (refine AT ?_; clear hA; rintro _ w ⟨oN, cN, rfl, hH2⟩ a hA; clear hH; have hH := (hH2 _ (by (repeat constructor))).tail; clear hH2) | (refine S0T ?_; clear hH; rintro _ w hH) | (apply st_op hA rfl rfl (by decide); apply op_copy_cb; rfl; rfl; exact hH; exact hrv; exact hl1; rfl; exact hf1; (repeat constructor); clear hA hH; rintro _ w ⟨rfl, hH⟩ a hA))) | ((first | refine CT ?_ | (refine DT ?_ ?_ <;> intro hc <;> try (exfalso; omega))) <;> repeat' refine CT ?_) | (first | (refine DSK ?_; clear hA a; intro a hA) | (first | (refine DLT ?_; clear hA hH; rintro _ w ⟨oN, rfl, hH⟩; refine ⟨STT, ?_⟩; intro a hA) | (refine DAT ?_; clear hA; rintro _ w ⟨oN, cN, rfl, hH2⟩; clear hH; have hH := (hH2 _ (by (repeat constructor))).tail; clear hH2; refine ⟨STT, ?_⟩; intro a hA))) )
    have e7 : put (put (flat encP fr ++ spare) ((i + 1) * 2) (flat encP (fr.drop i))) (i * 2) (encP r) = flat encP (insR fr i r) ++ spare.drop 2 := by
      have e8 : flat encP fr ++ spare = flat encP (fr.take i) ++ (flat encP (fr.drop i) ++ (spare.take 2 ++ spare.drop 2)) := by
        rw [List.take_append_drop, ← List.append_assoc, ← hsplit]
      have e9 := @ins_cells (flat encP (fr.take i)) (encP r) (flat encP (fr.drop i)) (spare.take 2) (spare.drop 2) (by rw [encP_len, List.length_take]; omega)
      rw [hA_, encP_len, show i * 2 + 2 = (i + 1) * 2 by omega] at e9
      rw [e8, e9, hins]
    rw [e7] at hH
    have hil : (flat encP (insR fr i r)).length = (fr.length + 1) * 2 := by rw [flat_length encP_len, insR_len hi]
    refine rt1 (.inl rfl) rfl hA rfl ⟨_, _, rfl, (hH.head).block_own hil hroom h2 ?_⟩
    rw [hil, List.length_drop]
    omega
end Go.Proofs.Ytejpcidfigmnkaa
