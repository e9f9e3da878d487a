/-
  The walk over slices.Insert of one number. Conditions: none.
  The walk over slices.Insert of one value. Conditions: none.
  slices.Clone, slices.Repeat of one value. Conditions: none.
-/
import Derived.Test.YtenlcdokaadobaaGreatDoorRowFuelMg11
namespace Go.Proofs.YtenlcdokaadobaaGreatDoor
open Go Go.Fw
set_option linter.unusedVariables false
def insV {α : Type} (fr : List α) (i : Nat) (r : α) : List α := fr.take i ++ r :: fr.drop i
theorem insV_len {α : Type} {fr : List α} {i : Nat} {r : α} (hi : i ≤ fr.length) : (insV fr i r).length = fr.length + 1 := by simp [insV]; omega
theorem insV_eq {α : Type} {fr : List α} {i : Nat} {r : α} (hi : i ≤ fr.length) : fr.insertIdx i r = insV fr i r := by
  rw [ins_eq r fr i hi]
  unfold insV
  simp
def encV (v : Value) : List Value := [v]
theorem encV_len (v : Value) : (encV v).length = 1 := rfl
theorem flat_cons {α : Type} (enc : α → List Value) (x : α) (l : List α) : flat enc (x :: l) = enc x ++ flat enc l := rfl
theorem flatV : ∀ (l : List Value), flat encV l = l
  | [] => rfl
  | v :: l => by show encV v ++ flat encV l = _; rw [flatV l]; rfl
set_option maxRecDepth 10000 attribute [local irreducible] Code.wp wpList Calls Ex Op1 sat bat blk cb own Go.Fw.mp Go.Fw.mpO Go.Fw.mpI Go.Fw.mpE Go.Fw.itr HS Rd Ret wkD Hp Cl Cls Exit.then Exit.inBlock Exit.noGoto bodyPost Go.Fw.flat wk2 Go.Fw.all Go.Fw.owns wpOp

set_option maxHeartbeats 4000000 in
theorem insertI_spec (w0 : World) (M : Nat → Prop) (o ov : Option Addr) (c i : Nat) (fr : List Int) (r : Int) (hH : HS w0 M [own 2 1 o fr.length c (flat Fw.encI fr), own 2 1 ov 1 1 (Fw.encI r)] w0) (hi : i ≤ fr.length) (hl : fr.length ≤ 1048576) (h1r : (Fw.encI r).all (·.oneCell') = true) (hall : ∀ l, l = fr.drop i → (flat Fw.encI l).all (·.oneCell') = true) :
    Ret Tryz.prog 95 #[.slice o fr.length c, .int .i64 i, .slice ov 1 1] w0
      (fun v w => ∃ o' c', v = .slice o' (fr.length + 1) c' ∧ HS w0 M [own 2 1 o' (fr.length + 1) c' (flat Fw.encI (insV fr i r))] w) := by
  have hle := hH.own_le (o := o) (by exact MEMT)
  obtain ⟨bv, spv, rfl, -, -, hv3, hv4, hHv⟩ := (hH.perm (.swap _ _ _)).own_block (by omega)
  have hspv : spv = [] := List.length_eq_zero_iff.1 (by rw [Fw.encI_len] at hv4; omega)
  subst hspv
  rw [List.append_nil] at hHv
  replace hH := hHv.perm (.swap _ _ _)
  clear hHv
  by_cases hin : i = fr.length
  · subst hin
    have hrv : Rd w0 (some (bat bv 0)) (Fw.encI r) := by
      have := hH.cb_rd (b := bv) (by exact MEMT) 0
      rwa [List.drop_zero] at this
    (refine enter (N := 95) Tryz.func95 rfl Tryz.ntmps95 rfl ?_; intro a hA; dsimp only [sl0, Nat.reduceAdd] at hA)
    repeat' (first | ((first | apply st_ex hA hH rfl rfl (by decide) | apply dr_ex hA rfl rfl rfl (by decide) | apply dr_exp hA rfl rfl rfl (by decide) | apply dr_ex3 hA hH rfl rfl rfl (by decide)); (first | (apply ex_slice_lo (k := fr.length); rfl; rfl; rfl; omega)); clear hA a; intro a hA) | (refine QT ?_; clear hA a; intro a hA) | (apply st_op hA rfl rfl (by decide); apply op_append; rfl; rfl; exact hH; exact MEMT; exact hrv; exact Fw.encI_len r; rfl; decide; exact h1r; (unfold maxLen; omega); omega; clear hA; rintro _ w ⟨oN, cN, rfl, hH2⟩ a hA; clear hH; have hH := hH2 _ (by (repeat constructor)); clear hH2) | ((first | refine CT ?_ | (refine DT ?_ ?_ <;> intro hc <;> try (exfalso; omega))) <;> repeat' refine CT ?_))
    have e : flat Fw.encI fr ++ Fw.encI r = flat Fw.encI (insV fr fr.length r) := by
      unfold insV
      rw [List.take_length, List.drop_length, ← flat_snoc]
    rw [e] at hH
    exact rt1 (.inl rfl) rfl hA rfl ⟨_, _, rfl, hH.head⟩
  have hlt : i < fr.length := by omega
  obtain ⟨b, spare, rfl, h1, h2, h3, h4, hH⟩ := hH.own_block (by omega)
  have hne := hH.cb_ne
  have hlen : (flat Fw.encI fr ++ spare).length = c * 1 := by rw [List.length_append]; exact h4
  have hA_ : (flat Fw.encI (fr.take i)).length = i * 1 := by rw [flat_length Fw.encI_len, List.length_take]; omega
  have hB_ : (flat Fw.encI (fr.drop i)).length = (fr.length - i) * 1 := by rw [flat_length Fw.encI_len, List.length_drop]
  have hsplit : flat Fw.encI fr = flat Fw.encI (fr.take i) ++ flat Fw.encI (fr.drop i) := by rw [← flat_append, List.take_append_drop]
  have hins : flat Fw.encI (insV fr i r) = flat Fw.encI (fr.take i) ++ (Fw.encI r ++ flat Fw.encI (fr.drop i)) := by
    unfold insV
    rw [flat_append, flat_cons]
  have hq1 : (if c = i then 0 else 0 + i * 1) = i * 1 := by rw [if_neg (by omega), Nat.zero_add]
  by_cases hroom : fr.length + 1 ≤ c
  rotate_left
  · -- into a new block
    (refine enter (N := 95) Tryz.func95 rfl Tryz.ntmps95 rfl ?_; intro a hA; dsimp only [sl0, Nat.reduceAdd] at hA)
    repeat' (first | ((first | apply st_ex hA hH rfl rfl (by decide) | apply dr_ex hA rfl rfl rfl (by decide) | apply dr_exp hA rfl rfl rfl (by decide) | apply dr_ex3 hA hH rfl rfl rfl (by decide)); (first | (apply ex_slice_lo_b (k := i) (q := i * 1); rfl; rfl; rfl; omega; exact hq1) | (apply ex_slice_hi (k := i); rfl; rfl; rfl; omega) | (apply ex_cap_slice; rfl)); clear hA a; intro a hA) | (refine QT ?_; clear hA a; intro a hA) | ((first | refine CT ?_ | (refine DT ?_ ?_ <;> intro hc <;> try (exfalso; omega))) <;> repeat' refine CT ?_))
    have holds : ∀ j u, (flat Fw.encI (fr.take i))[j]? = some u → w0.cell? ((bat b 0).add j) = some u := by
      intro j u hj
      have := hH.cb_news (b := b) (k := 0) (m := (flat Fw.encI (fr.take i)).length) (List.mem_cons_self ..) j u
      have e5 : ((flat Fw.encI fr ++ spare).drop 0).take (flat Fw.encI (fr.take i)).length = flat Fw.encI (fr.take i) := by
        rw [List.drop_zero, hsplit, List.append_assoc, List.take_append_of_le_length (Nat.le_refl _), List.take_length]
      rw [e5] at this
      exact this hj
    repeat' (first | (refine QT ?_; clear hA a; intro a hA) | (apply st_op hA rfl rfl (by decide); apply op_append_mk (k := fr.length + 1 - i); rfl; rfl; omega; exact hH; exact holds; exact hA_; rfl; omega; omega; (unfold maxLen; omega); omega; omega; clear hA; rintro _ w ⟨o2, c2, rest, rfl, hrest, hH2⟩ a hA))
    have en : i + (fr.length + 1 - i) = fr.length + 1 := by omega
    rw [en] at hA hH2
    have hle2 := hH2.own_le (o := o2) (by exact MEMT)
    obtain ⟨b2, sp2, rfl, k1, k2, k3, k4, hH3⟩ := hH2.own_block (by omega)
    clear hH hH2
    have hH := hH3
    clear hH3
    have hq3 : (if c2 = i then 0 else 0 + i * 1) = i * 1 := by rw [if_neg (by omega), Nat.zero_add]
    have hq4 : (if c2 = i + 1 then 0 else 0 + (i + 1) * 1) = (i + 1) * 1 := by rw [if_neg (by omega), Nat.zero_add]
    have hrv : ∀ j u, (Fw.encI r)[j]? = some u → w.cell? ((bat bv 0).add j) = some u := by
      intro j u hj
      have := hH.cb_news (b := bv) (k := 0) (m := (Fw.encI r).length) (by exact MEMT) j u
      rw [List.drop_zero, List.take_length] at this
      exact this hj
    have hl1 : (Fw.encI r).length = Nat.min 1 (fr.length + 1 - i) * 1 := by rw [show Nat.min 1 (fr.length + 1 - i) = 1 by show min 1 (fr.length + 1 - i) = 1; omega]; rfl
    have hf1 : i * 1 + (Fw.encI r).length ≤ (flat Fw.encI (fr.take i) ++ rest ++ sp2).length := by
      rw [List.length_append, List.length_append, hA_, hrest, Fw.encI_len]; omega
    repeat' (first | ((first | apply st_ex hA hH rfl rfl (by decide) | apply dr_ex hA rfl rfl rfl (by decide) | apply dr_exp hA rfl rfl rfl (by decide) | apply dr_ex3 hA hH rfl rfl rfl (by decide)); (first | (apply ex_slice_lo_b (k := i) (q := i * 1); rfl; rfl; rfl; omega; exact hq3)); clear hA a; intro a hA) | (refine QT ?_; clear hA a; intro a hA) | (apply st_op hA rfl rfl (by decide); apply op_copy_cb; rfl; rfl; exact hH; exact hrv; exact hl1; exact h1r; exact hf1; (repeat constructor); clear hA hH; rintro _ w ⟨rfl, hH⟩ a hA) | (refine CT ?_ <;> repeat' refine CT ?_))
    have hB5 : ((flat Fw.encI fr ++ spare).drop (i * 1)).take (flat Fw.encI (fr.drop i)).length = flat Fw.encI (fr.drop i) := by
      have := @mid_take (flat Fw.encI (fr.take i)) [] (flat Fw.encI (fr.drop i)) spare
      rw [List.length_nil, Nat.add_zero, hA_, List.nil_append, ← List.append_assoc, ← hsplit] at this
      exact this
    have hl2 : (flat Fw.encI (fr.drop i)).length = Nat.min (fr.length - i) (fr.length + 1 - (i + 1)) * 1 := by
      rw [hB_, show Nat.min (fr.length - i) (fr.length + 1 - (i + 1)) = fr.length - i by show min (fr.length - i) (fr.length + 1 - (i + 1)) = _; omega]
    have hpl : (put (flat Fw.encI (fr.take i) ++ rest ++ sp2) (i * 1) (Fw.encI r)).length = c2 * 1 := by rw [put_length hf1, List.length_append]; exact k4
    have hf2 : (i + 1) * 1 + (flat Fw.encI (fr.drop i)).length ≤ (put (flat Fw.encI (fr.take i) ++ rest ++ sp2) (i * 1) (Fw.encI r)).length := by rw [hpl, hB_]; omega
    have hone : (flat Fw.encI (fr.drop i)).all (·.oneCell') = true := hall _ rfl
    (refine wp_draw_HS [(0, 2), (1, 2), (2, 2), (3, 2), (4, 2), (5, 2), (6, 2), (7, 2), (8, 0)] mixed (by decide +kernel) hH.drop_ ?_; replace hH := hH.drew)
    have hrB : ∀ j u, (flat Fw.encI (fr.drop i))[j]? = some u → w.drew.cell? ((bat b (i * 1)).add j) = some u := by
      intro j u hj
      have := hH.cb_news (b := b) (k := i * 1) (m := (flat Fw.encI (fr.drop i)).length) (by exact MEMT) j u
      rw [hB5] at this
      exact this hj
    repeat' (first | ((first | apply st_ex hA hH rfl rfl (by decide) | apply dr_ex hA rfl rfl rfl (by decide) | apply dr_exp hA rfl rfl rfl (by decide) | apply dr_ex3 hA hH rfl rfl rfl (by decide)); (first | (apply ex_slice_lo_b (k := i + 1) (q := (i + 1) * 1); rfl; rfl; rfl; omega; exact hq4) | (apply ex_slice_lo_b (k := i) (q := i * 1); rfl; rfl; rfl; omega; exact hq1)); clear hA a; intro a hA) | (refine QT ?_; clear hA a; intro a hA) | (refine CT ?_ <;> repeat' refine CT ?_) | (apply dr_op hA rfl rfl rfl (by decide); apply op_copy_cb; rfl; rfl; exact hH; exact hrB; exact hl2; exact hone; exact hf2; (repeat constructor); clear hA hH; rintro _ w ⟨rfl, hH⟩; refine ⟨STT, ?_⟩; intro a hA))
    have hrest2 : rest.length = 1 + (fr.length - i) * 1 := by rw [hrest]; omega
    have e7 : put (put (flat Fw.encI (fr.take i) ++ rest ++ sp2) (i * 1) (Fw.encI r)) ((i + 1) * 1) (flat Fw.encI (fr.drop i)) = flat Fw.encI (insV fr i r) ++ sp2 := by
      have e8 : flat Fw.encI (fr.take i) ++ rest ++ sp2 = flat Fw.encI (fr.take i) ++ (rest.take 1 ++ (rest.drop 1 ++ sp2)) := by
        rw [← List.append_assoc (rest.take 1), List.take_append_drop, List.append_assoc]
      rw [e8, put_seg hA_.symm (by rw [Fw.encI_len, List.length_take]; omega), ← List.append_assoc (flat Fw.encI (fr.take i)), put_seg (by rw [List.length_append, hA_, Fw.encI_len]; omega) (by rw [hB_, List.length_drop]; omega), hins]
      simp
    rw [e7] at hH
    have hil : (flat Fw.encI (insV fr i r)).length = (fr.length + 1) * 1 := by rw [flat_length Fw.encI_len, insV_len hi]
    refine rt1 (.inl rfl) rfl hA rfl ⟨_, _, rfl, (hH.head).block_own hil k1 k2 ?_⟩
    rw [hil, ← k3]
    exact k4
  · (refine enter (N := 95) Tryz.func95 rfl Tryz.ntmps95 rfl ?_; intro a hA; dsimp only [sl0, Nat.reduceAdd] at hA)
    repeat' (first | ((first | apply st_ex hA hH rfl rfl (by decide) | apply dr_ex hA rfl rfl rfl (by decide) | apply dr_exp hA rfl rfl rfl (by decide) | apply dr_ex3 hA hH rfl rfl rfl (by decide)); (first | (apply ex_slice_lo_b (k := i) (q := i * 1); rfl; rfl; rfl; omega; exact hq1) | (apply ex_slice_hi (k := fr.length + 1); rfl; rfl; rfl; omega) | (apply ex_cap_slice; rfl)); clear hA a; intro a hA) | (refine QT ?_; clear hA a; intro a hA) | ((first | refine CT ?_ | (refine DT ?_ ?_ <;> intro hc <;> try (exfalso; omega))) <;> repeat' refine CT ?_))
    have hsp2 : 1 ≤ spare.length := by rw [List.length_append, h3] at hlen; omega
    have hq2 : (if c = i + 1 then 0 else 0 + (i + 1) * 1) = (i + 1) * 1 := by rw [if_neg (by omega), Nat.zero_add]
    have hc2 : (flat Fw.encI fr ++ spare).length ≠ 0 := by rw [hlen]; omega
    repeat' (first | ((first | apply st_ex hA hH rfl rfl (by decide) | apply dr_ex hA rfl rfl rfl (by decide) | apply dr_exp hA rfl rfl rfl (by decide) | apply dr_ex3 hA hH rfl rfl rfl (by decide)); (first | (apply ex_slice_lo_b (k := i + 1) (q := (i + 1) * 1); rfl; rfl; rfl; omega; exact hq2)); clear hA a; intro a hA) | (refine QT ?_; clear hA a; intro a hA) | (apply st_op hA rfl rfl (by decide); apply op_overlaps (t := 48) (tR := 4) Tryz.func118 (by kernel_rfl) (by kernel_rfl) (by kernel_rfl) (by kernel_rfl); rfl; rfl; exact hH; exact MEMT; exact MEMT; exact Ne.symm hne; exact hc2; clear hA; rintro _ w2 ⟨rfl, hw2⟩ a hA; rw [hw2]; clear hw2 w2) | (refine CT ?_ <;> repeat' refine CT ?_))
    have hB5 : ((flat Fw.encI fr ++ spare).drop (i * 1)).take (flat Fw.encI (fr.drop i)).length = flat Fw.encI (fr.drop i) := by
      have := @mid_take (flat Fw.encI (fr.take i)) [] (flat Fw.encI (fr.drop i)) spare
      rw [List.length_nil, Nat.add_zero, hA_, List.nil_append, ← List.append_assoc, ← hsplit] at this
      exact this
    have hl2 : (flat Fw.encI (fr.drop i)).length = Nat.min (fr.length + 1 - i) (fr.length + 1 - (i + 1)) * 1 := by
      rw [hB_, show Nat.min (fr.length + 1 - i) (fr.length + 1 - (i + 1)) = fr.length - i by show min (fr.length + 1 - i) (fr.length + 1 - (i + 1)) = _; omega]
    have hf2 : (i + 1) * 1 + (flat Fw.encI (fr.drop i)).length ≤ (flat Fw.encI fr ++ spare).length := by rw [hlen, hB_]; omega
    have hone : (flat Fw.encI (fr.drop i)).all (·.oneCell') = true := hall _ rfl
    (refine wp_draw_HS [(0, 2), (1, 2), (2, 2), (3, 2), (4, 2), (5, 2), (6, 2), (7, 2), (8, 0)] mixed (by decide +kernel) hH.drop_ ?_; replace hH := hH.drew)
    have hrB : ∀ j u, (flat Fw.encI (fr.drop i))[j]? = some u → w0.drew.cell? ((bat b (i * 1)).add j) = some u := by
      intro j u hj
      have := hH.cb_news (b := b) (k := i * 1) (m := (flat Fw.encI (fr.drop i)).length) (by exact MEMT) j u
      rw [hB5] at this
      exact this hj
    repeat' (first | ((first | apply st_ex hA hH rfl rfl (by decide) | apply dr_ex hA rfl rfl rfl (by decide) | apply dr_exp hA rfl rfl rfl (by decide) | apply dr_ex3 hA hH rfl rfl rfl (by decide)); (first | (apply ex_slice_lo_b (k := i + 1) (q := (i + 1) * 1); rfl; rfl; rfl; omega; exact hq2) | (apply ex_slice_lo_b (k := i) (q := i * 1); rfl; rfl; rfl; omega; exact hq1)); clear hA a; intro a hA) | (refine QT ?_; clear hA a; intro a hA) | (refine CT ?_ <;> repeat' refine CT ?_) | (apply dr_op hA rfl rfl rfl (by decide); apply op_copy_cb; rfl; rfl; exact hH; exact hrB; exact hl2; exact hone; exact hf2; (repeat constructor); clear hA hH; rintro _ w ⟨rfl, hH⟩; refine ⟨STT, ?_⟩; intro a hA))
    have hrv : ∀ j u, (Fw.encI r)[j]? = some u → w.cell? ((bat bv 0).add j) = some u := by
      intro j u hj
      have := hH.cb_news (b := bv) (k := 0) (m := (Fw.encI r).length) (by exact MEMT) j u
      rw [List.drop_zero, List.take_length] at this
      exact this hj
    have hl1 : (Fw.encI r).length = Nat.min 1 (fr.length + 1 - i) * 1 := by rw [show Nat.min 1 (fr.length + 1 - i) = 1 by show min 1 (fr.length + 1 - i) = 1; omega]; rfl
    have hf1 : i * 1 + (Fw.encI r).length ≤ (put (flat Fw.encI fr ++ spare) ((i + 1) * 1) (flat Fw.encI (fr.drop i))).length := by
      rw [put_length hf2, hlen, Fw.encI_len]; omega
    repeat' (first | ((first | apply st_ex hA hH rfl rfl (by decide) | apply dr_ex hA rfl rfl rfl (by decide) | apply dr_exp hA rfl rfl rfl (by decide) | apply dr_ex3 hA hH rfl rfl rfl (by decide)); (first | (apply ex_slice_lo_b (k := i) (q := i * 1); rfl; rfl; rfl; omega; exact hq1)); clear hA a; intro a hA) | (refine QT ?_; clear hA a; intro a hA) | (apply st_op hA rfl rfl (by decide); apply op_copy_cb; rfl; rfl; exact hH; exact hrv; exact hl1; exact h1r; exact hf1; (repeat constructor); clear hA hH; rintro _ w ⟨rfl, hH⟩ a hA) | (refine CT ?_ <;> repeat' refine CT ?_))
    have e7 : put (put (flat Fw.encI fr ++ spare) ((i + 1) * 1) (flat Fw.encI (fr.drop i))) (i * 1) (Fw.encI r) = flat Fw.encI (insV fr i r) ++ spare.drop 1 := by
      have e8 : flat Fw.encI fr ++ spare = flat Fw.encI (fr.take i) ++ (flat Fw.encI (fr.drop i) ++ (spare.take 1 ++ spare.drop 1)) := by
        rw [List.take_append_drop, ← List.append_assoc, ← hsplit]
      have e9 := @ins_cells (flat Fw.encI (fr.take i)) (Fw.encI r) (flat Fw.encI (fr.drop i)) (spare.take 1) (spare.drop 1) (by rw [Fw.encI_len, List.length_take]; omega)
      rw [hA_, Fw.encI_len, show i * 1 + 1 = (i + 1) * 1 by omega] at e9
      rw [e8, e9, hins]
    rw [e7] at hH
    have hil : (flat Fw.encI (insV fr i r)).length = (fr.length + 1) * 1 := by rw [flat_length Fw.encI_len, insV_len hi]
    refine rt1 (.inl rfl) rfl hA rfl ⟨_, _, rfl, (hH.head).block_own hil hroom h2 ?_⟩
    rw [hil, List.length_drop]
    omega
end Go.Proofs.YtenlcdokaadobaaGreatDoor
namespace Go.Proofs.YtenlcdokaadobaaGreatDoor
open Go Go.Fw
set_option linter.unusedVariables false
set_option maxRecDepth 10000 attribute [local irreducible] Code.wp wpList Calls Ex Op1 sat bat blk cb own Go.Fw.mp Go.Fw.mpO Go.Fw.mpI Go.Fw.mpE Go.Fw.itr HS Rd Ret wkD Hp Cl Cls Exit.then Exit.inBlock Exit.noGoto bodyPost Go.Fw.flat wk2 Go.Fw.all Go.Fw.owns wpOp

set_option maxHeartbeats 4000000 in
theorem insertV_spec (w0 : World) (M : Nat → Prop) (o ov : Option Addr) (c i : Nat) (fr : List Value) (r : Value) (hH : HS w0 M [own 137 1 o fr.length c (flat encV fr), own 137 1 ov 1 1 (encV r)] w0) (hi : i ≤ fr.length) (hl : fr.length ≤ 1048576) (h1r : (encV r).all (·.oneCell') = true) (hall : ∀ l, l = fr.drop i → (flat encV l).all (·.oneCell') = true) :
    Ret Tryz.prog 96 #[.slice o fr.length c, .int .i64 i, .slice ov 1 1] w0
      (fun v w => ∃ o' c', v = .slice o' (fr.length + 1) c' ∧ HS w0 M [own 137 1 o' (fr.length + 1) c' (flat encV (insV fr i r))] w) := by
  have hle := hH.own_le (o := o) (by exact MEMT)
  obtain ⟨bv, spv, rfl, -, -, hv3, hv4, hHv⟩ := (hH.perm (.swap _ _ _)).own_block (by omega)
  have hspv : spv = [] := List.length_eq_zero_iff.1 (by rw [encV_len] at hv4; omega)
  subst hspv
  rw [List.append_nil] at hHv
  replace hH := hHv.perm (.swap _ _ _)
  clear hHv
  by_cases hin : i = fr.length
  · subst hin
    have hrv : Rd w0 (some (bat bv 0)) (encV r) := by
      have := hH.cb_rd (b := bv) (by exact MEMT) 0
      rwa [List.drop_zero] at this
    (refine enter (N := 95) Tryz.func96 rfl Tryz.ntmps96 rfl ?_; intro a hA; dsimp only [sl0, Nat.reduceAdd] at hA)
    repeat' (first | ((first | apply st_ex hA hH rfl rfl (by decide) | apply dr_ex hA rfl rfl rfl (by decide) | apply dr_exp hA rfl rfl rfl (by decide) | apply dr_ex3 hA hH rfl rfl rfl (by decide)); (first | (apply ex_slice_lo (k := fr.length); rfl; rfl; rfl; omega)); clear hA a; intro a hA) | (refine QT ?_; clear hA a; intro a hA) | (apply st_op hA rfl rfl (by decide); apply op_append; rfl; rfl; exact hH; exact MEMT; exact hrv; exact encV_len r; rfl; decide; exact h1r; (unfold maxLen; omega); omega; clear hA; rintro _ w ⟨oN, cN, rfl, hH2⟩ a hA; clear hH; have hH := hH2 _ (by (repeat constructor)); clear hH2) | ((first | refine CT ?_ | (refine DT ?_ ?_ <;> intro hc <;> try (exfalso; omega))) <;> repeat' refine CT ?_))
    have e : flat encV fr ++ encV r = flat encV (insV fr fr.length r) := by
      unfold insV
      rw [List.take_length, List.drop_length, ← flat_snoc]
    rw [e] at hH
    exact rt1 (.inl rfl) rfl hA rfl ⟨_, _, rfl, hH.head⟩
  have hlt : i < fr.length := by omega
  obtain ⟨b, spare, rfl, h1, h2, h3, h4, hH⟩ := hH.own_block (by omega)
  have hne := hH.cb_ne
  have hlen : (flat encV fr ++ spare).length = c * 1 := by rw [List.length_append]; exact h4
  have hA_ : (flat encV (fr.take i)).length = i * 1 := by rw [flat_length encV_len, List.length_take]; omega
  have hB_ : (flat encV (fr.drop i)).length = (fr.length - i) * 1 := by rw [flat_length encV_len, List.length_drop]
  have hsplit : flat encV fr = flat encV (fr.take i) ++ flat encV (fr.drop i) := by rw [← flat_append, List.take_append_drop]
  have hins : flat encV (insV fr i r) = flat encV (fr.take i) ++ (encV r ++ flat encV (fr.drop i)) := by
    unfold insV
    rw [flat_append, flat_cons]
  have hq1 : (if c = i then 0 else 0 + i * 1) = i * 1 := by rw [if_neg (by omega), Nat.zero_add]
  by_cases hroom : fr.length + 1 ≤ c
  rotate_left
  · -- into a new block
    (refine enter (N := 95) Tryz.func96 rfl Tryz.ntmps96 rfl ?_; intro a hA; dsimp only [sl0, Nat.reduceAdd] at hA)
    repeat' (first | ((first | apply st_ex hA hH rfl rfl (by decide) | apply dr_ex hA rfl rfl rfl (by decide) | apply dr_exp hA rfl rfl rfl (by decide) | apply dr_ex3 hA hH rfl rfl rfl (by decide)); (first | (apply ex_slice_lo_b (k := i) (q := i * 1); rfl; rfl; rfl; omega; exact hq1) | (apply ex_slice_hi (k := i); rfl; rfl; rfl; omega) | (apply ex_cap_slice; rfl)); clear hA a; intro a hA) | (refine QT ?_; clear hA a; intro a hA) | ((first | refine CT ?_ | (refine DT ?_ ?_ <;> intro hc <;> try (exfalso; omega))) <;> repeat' refine CT ?_))
    have holds : ∀ j u, (flat encV (fr.take i))[j]? = some u → w0.cell? ((bat b 0).add j) = some u := by
      intro j u hj
      have := hH.cb_news (b := b) (k := 0) (m := (flat encV (fr.take i)).length) (List.mem_cons_self ..) j u
      have e5 : ((flat encV fr ++ spare).drop 0).take (flat encV (fr.take i)).length = flat encV (fr.take i) := by
        rw [List.drop_zero, hsplit, List.append_assoc, List.take_append_of_le_length (Nat.le_refl _), List.take_length]
      rw [e5] at this
      exact this hj
    repeat' (first | (refine QT ?_; clear hA a; intro a hA) | (apply st_op hA rfl rfl (by decide); apply op_append_mk (k := fr.length + 1 - i); rfl; rfl; omega; exact hH; exact holds; exact hA_; rfl; omega; omega; (unfold maxLen; omega); omega; omega; clear hA; rintro _ w ⟨o2, c2, rest, rfl, hrest, hH2⟩ a hA))
    have en : i + (fr.length + 1 - i) = fr.length + 1 := by omega
    rw [en] at hA hH2
    have hle2 := hH2.own_le (o := o2) (by exact MEMT)
    obtain ⟨b2, sp2, rfl, k1, k2, k3, k4, hH3⟩ := hH2.own_block (by omega)
    clear hH hH2
    have hH := hH3
    clear hH3
    have hq3 : (if c2 = i then 0 else 0 + i * 1) = i * 1 := by rw [if_neg (by omega), Nat.zero_add]
    have hq4 : (if c2 = i + 1 then 0 else 0 + (i + 1) * 1) = (i + 1) * 1 := by rw [if_neg (by omega), Nat.zero_add]
    have hrv : ∀ j u, (encV r)[j]? = some u → w.cell? ((bat bv 0).add j) = some u := by
      intro j u hj
      have := hH.cb_news (b := bv) (k := 0) (m := (encV r).length) (by exact MEMT) j u
      rw [List.drop_zero, List.take_length] at this
      exact this hj
    have hl1 : (encV r).length = Nat.min 1 (fr.length + 1 - i) * 1 := by rw [show Nat.min 1 (fr.length + 1 - i) = 1 by show min 1 (fr.length + 1 - i) = 1; omega]; rfl
    have hf1 : i * 1 + (encV r).length ≤ (flat encV (fr.take i) ++ rest ++ sp2).length := by
      rw [List.length_append, List.length_append, hA_, hrest, encV_len]; omega
    repeat' (first | ((first | apply st_ex hA hH rfl rfl (by decide) | apply dr_ex hA rfl rfl rfl (by decide) | apply dr_exp hA rfl rfl rfl (by decide) | apply dr_ex3 hA hH rfl rfl rfl (by decide)); (first | (apply ex_slice_lo_b (k := i) (q := i * 1); rfl; rfl; rfl; omega; exact hq3)); clear hA a; intro a hA) | (refine QT ?_; clear hA a; intro a hA) | (apply st_op hA rfl rfl (by decide); apply op_copy_cb; rfl; rfl; exact hH; exact hrv; exact hl1; exact h1r; exact hf1; (repeat constructor); clear hA hH; rintro _ w ⟨rfl, hH⟩ a hA) | (refine CT ?_ <;> repeat' refine CT ?_))
    have hB5 : ((flat encV fr ++ spare).drop (i * 1)).take (flat encV (fr.drop i)).length = flat encV (fr.drop i) := by
      have := @mid_take (flat encV (fr.take i)) [] (flat encV (fr.drop i)) spare
      rw [List.length_nil, Nat.add_zero, hA_, List.nil_append, ← List.append_assoc, ← hsplit] at this
      exact this
    have hl2 : (flat encV (fr.drop i)).length = Nat.min (fr.length - i) (fr.length + 1 - (i + 1)) * 1 := by
      rw [hB_, show Nat.min (fr.length - i) (fr.length + 1 - (i + 1)) = fr.length - i by show min (fr.length - i) (fr.length + 1 - (i + 1)) = _; omega]
    have hpl : (put (flat encV (fr.take i) ++ rest ++ sp2) (i * 1) (encV r)).length = c2 * 1 := by rw [put_length hf1, List.length_append]; exact k4
    have hf2 : (i + 1) * 1 + (flat encV (fr.drop i)).length ≤ (put (flat encV (fr.take i) ++ rest ++ sp2) (i * 1) (encV r)).length := by rw [hpl, hB_]; omega
    have hone : (flat encV (fr.drop i)).all (·.oneCell') = true := hall _ rfl
    (refine wp_draw_HS [(0, 2), (1, 2), (2, 2), (3, 2), (4, 2), (5, 2), (6, 2), (7, 2), (8, 0)] mixed (by decide +kernel) hH.drop_ ?_; replace hH := hH.drew)
    have hrB : ∀ j u, (flat encV (fr.drop i))[j]? = some u → w.drew.cell? ((bat b (i * 1)).add j) = some u := by
      intro j u hj
      have := hH.cb_news (b := b) (k := i * 1) (m := (flat encV (fr.drop i)).length) (by exact MEMT) j u
      rw [hB5] at this
      exact this hj
    repeat' (first | ((first | apply st_ex hA hH rfl rfl (by decide) | apply dr_ex hA rfl rfl rfl (by decide) | apply dr_exp hA rfl rfl rfl (by decide) | apply dr_ex3 hA hH rfl rfl rfl (by decide)); (first | (apply ex_slice_lo_b (k := i + 1) (q := (i + 1) * 1); rfl; rfl; rfl; omega; exact hq4) | (apply ex_slice_lo_b (k := i) (q := i * 1); rfl; rfl; rfl; omega; exact hq1)); clear hA a; intro a hA) | (refine QT ?_; clear hA a; intro a hA) | (refine CT ?_ <;> repeat' refine CT ?_) | (apply dr_op hA rfl rfl rfl (by decide); apply op_copy_cb; rfl; rfl; exact hH; exact hrB; exact hl2; exact hone; exact hf2; (repeat constructor); clear hA hH; rintro _ w ⟨rfl, hH⟩; refine ⟨STT, ?_⟩; intro a hA))
    have hrest2 : rest.length = 1 + (fr.length - i) * 1 := by rw [hrest]; omega
    have e7 : put (put (flat encV (fr.take i) ++ rest ++ sp2) (i * 1) (encV r)) ((i + 1) * 1) (flat encV (fr.drop i)) = flat encV (insV fr i r) ++ sp2 := by
      have e8 : flat encV (fr.take i) ++ rest ++ sp2 = flat encV (fr.take i) ++ (rest.take 1 ++ (rest.drop 1 ++ sp2)) := by
        rw [← List.append_assoc (rest.take 1), List.take_append_drop, List.append_assoc]
      rw [e8, put_seg hA_.symm (by rw [encV_len, List.length_take]; omega), ← List.append_assoc (flat encV (fr.take i)), put_seg (by rw [List.length_append, hA_, encV_len]; omega) (by rw [hB_, List.length_drop]; omega), hins]
      simp
    rw [e7] at hH
    have hil : (flat encV (insV fr i r)).length = (fr.length + 1) * 1 := by rw [flat_length encV_len, insV_len hi]
    refine rt1 (.inl rfl) rfl hA rfl ⟨_, _, rfl, (hH.head).block_own hil k1 k2 ?_⟩
    rw [hil, ← k3]
    exact k4
  · (refine enter (N := 95) Tryz.func96 rfl Tryz.ntmps96 rfl ?_; intro a hA; dsimp only [sl0, Nat.reduceAdd] at hA)
    repeat' (first | ((first | apply st_ex hA hH rfl rfl (by decide) | apply dr_ex hA rfl rfl rfl (by decide) | apply dr_exp hA rfl rfl rfl (by decide) | apply dr_ex3 hA hH rfl rfl rfl (by decide)); (first | (apply ex_slice_lo_b (k := i) (q := i * 1); rfl; rfl; rfl; omega; exact hq1) | (apply ex_slice_hi (k := fr.length + 1); rfl; rfl; rfl; omega) | (apply ex_cap_slice; rfl)); clear hA a; intro a hA) | (refine QT ?_; clear hA a; intro a hA) | ((first | refine CT ?_ | (refine DT ?_ ?_ <;> intro hc <;> try (exfalso; omega))) <;> repeat' refine CT ?_))
    have hsp2 : 1 ≤ spare.length := by rw [List.length_append, h3] at hlen; omega
    have hq2 : (if c = i + 1 then 0 else 0 + (i + 1) * 1) = (i + 1) * 1 := by rw [if_neg (by omega), Nat.zero_add]
    have hc2 : (flat encV fr ++ spare).length ≠ 0 := by rw [hlen]; omega
    repeat' (first | ((first | apply st_ex hA hH rfl rfl (by decide) | apply dr_ex hA rfl rfl rfl (by decide) | apply dr_exp hA rfl rfl rfl (by decide) | apply dr_ex3 hA hH rfl rfl rfl (by decide)); (first | (apply ex_slice_lo_b (k := i + 1) (q := (i + 1) * 1); rfl; rfl; rfl; omega; exact hq2)); clear hA a; intro a hA) | (refine QT ?_; clear hA a; intro a hA) | (apply st_op hA rfl rfl (by decide); apply op_overlaps (t := 88) (tR := 4) Tryz.func120 (by kernel_rfl) (by kernel_rfl) (by kernel_rfl) (by kernel_rfl); rfl; rfl; exact hH; exact MEMT; exact MEMT; exact Ne.symm hne; exact hc2; clear hA; rintro _ w2 ⟨rfl, hw2⟩ a hA; rw [hw2]; clear hw2 w2) | (refine CT ?_ <;> repeat' refine CT ?_))
    have hB5 : ((flat encV fr ++ spare).drop (i * 1)).take (flat encV (fr.drop i)).length = flat encV (fr.drop i) := by
      have := @mid_take (flat encV (fr.take i)) [] (flat encV (fr.drop i)) spare
      rw [List.length_nil, Nat.add_zero, hA_, List.nil_append, ← List.append_assoc, ← hsplit] at this
      exact this
    have hl2 : (flat encV (fr.drop i)).length = Nat.min (fr.length + 1 - i) (fr.length + 1 - (i + 1)) * 1 := by
      rw [hB_, show Nat.min (fr.length + 1 - i) (fr.length + 1 - (i + 1)) = fr.length - i by show min (fr.length + 1 - i) (fr.length + 1 - (i + 1)) = _; omega]
    have hf2 : (i + 1) * 1 + (flat encV (fr.drop i)).length ≤ (flat encV fr ++ spare).length := by rw [hlen, hB_]; omega
    have hone : (flat encV (fr.drop i)).all (·.oneCell') = true := hall _ rfl
    (refine wp_draw_HS [(0, 2), (1, 2), (2, 2), (3, 2), (4, 2), (5, 2), (6, 2), (7, 2), (8, 0)] mixed (by decide +kernel) hH.drop_ ?_; replace hH := hH.drew)
    have hrB : ∀ j u, (flat encV (fr.drop i))[j]? = some u → w0.drew.cell? ((bat b (i * 1)).add j) = some u := by
      intro j u hj
      have := hH.cb_news (b := b) (k := i * 1) (m := (flat encV (fr.drop i)).length) (by exact MEMT) j u
      rw [hB5] at this
      exact this hj
    repeat' (first | ((first | apply st_ex hA hH rfl rfl (by decide) | apply dr_ex hA rfl rfl rfl (by decide) | apply dr_exp hA rfl rfl rfl (by decide) | apply dr_ex3 hA hH rfl rfl rfl (by decide)); (first | (apply ex_slice_lo_b (k := i + 1) (q := (i + 1) * 1); rfl; rfl; rfl; omega; exact hq2) | (apply ex_slice_lo_b (k := i) (q := i * 1); rfl; rfl; rfl; omega; exact hq1)); clear hA a; intro a hA) | (refine QT ?_; clear hA a; intro a hA) | (refine CT ?_ <;> repeat' refine CT ?_) | (apply dr_op hA rfl rfl rfl (by decide); apply op_copy_cb; rfl; rfl; exact hH; exact hrB; exact hl2; exact hone; exact hf2; (repeat constructor); clear hA hH; rintro _ w ⟨rfl, hH⟩; refine ⟨STT, ?_⟩; intro a hA))
    have hrv : ∀ j u, (encV r)[j]? = some u → w.cell? ((bat bv 0).add j) = some u := by
      intro j u hj
      have := hH.cb_news (b := bv) (k := 0) (m := (encV r).length) (by exact MEMT) j u
      rw [List.drop_zero, List.take_length] at this
      exact this hj
    have hl1 : (encV r).length = Nat.min 1 (fr.length + 1 - i) * 1 := by rw [show Nat.min 1 (fr.length + 1 - i) = 1 by show min 1 (fr.length + 1 - i) = 1; omega]; rfl
    have hf1 : i * 1 + (encV r).length ≤ (put (flat encV fr ++ spare) ((i + 1) * 1) (flat encV (fr.drop i))).length := by
      rw [put_length hf2, hlen, encV_len]; omega
    repeat' (first | ((first | apply st_ex hA hH rfl rfl (by decide) | apply dr_ex hA rfl rfl rfl (by decide) | apply dr_exp hA rfl rfl rfl (by decide) | apply dr_ex3 hA hH rfl rfl rfl (by decide)); (first | (apply ex_slice_lo_b (k := i) (q := i * 1); rfl; rfl; rfl; omega; exact hq1)); clear hA a; intro a hA) | (refine QT ?_; clear hA a; intro a hA) | (apply st_op hA rfl rfl (by decide); apply op_copy_cb; rfl; rfl; exact hH; exact hrv; exact hl1; exact h1r; exact hf1; (repeat constructor); clear hA hH; rintro _ w ⟨rfl, hH⟩ a hA) | (refine CT ?_ <;> repeat' refine CT ?_))
    have e7 : put (put (flat encV fr ++ spare) ((i + 1) * 1) (flat encV (fr.drop i))) (i * 1) (encV r) = flat encV (insV fr i r) ++ spare.drop 1 := by
      have e8 : flat encV fr ++ spare = flat encV (fr.take i) ++ (flat encV (fr.drop i) ++ (spare.take 1 ++ spare.drop 1)) := by
        rw [List.take_append_drop, ← List.append_assoc, ← hsplit]
      have e9 := @ins_cells (flat encV (fr.take i)) (encV r) (flat encV (fr.drop i)) (spare.take 1) (spare.drop 1) (by rw [encV_len, List.length_take]; omega)
      rw [hA_, encV_len, show i * 1 + 1 = (i + 1) * 1 by omega] at e9
      rw [e8, e9, hins]
    rw [e7] at hH
    have hil : (flat encV (insV fr i r)).length = (fr.length + 1) * 1 := by rw [flat_length encV_len, insV_len hi]
    refine rt1 (.inl rfl) rfl hA rfl ⟨_, _, rfl, (hH.head).block_own hil hroom h2 ?_⟩
    rw [hil, List.length_drop]
    omega
end Go.Proofs.YtenlcdokaadobaaGreatDoor
namespace Go.Proofs.YtenlcdokaadobaaGreatDoor
open Go Go.Fw
set_option linter.unusedVariables false
theorem and_low {a : Nat} (h : a ≤ 1000000) : andK .u64 (a : Int) 4294967295 = (a : Int) := by
  unfold andK
  have e1 : (BitVec.ofInt IntKind.u64.bits (a : Int) &&& BitVec.ofInt IntKind.u64.bits 4294967295).toNat = a := by
    show (BitVec.ofInt 64 (a : Int) &&& BitVec.ofInt 64 4294967295).toNat = a
    rw [BitVec.toNat_and]
    have h1 : (BitVec.ofInt 64 (a : Int)).toNat = a := by
      rw [BitVec.toNat_ofInt]
      omega
    have h2 : (BitVec.ofInt 64 4294967295).toNat = 2 ^ 32 - 1 := by decide
    rw [h1, h2, Nat.and_two_pow_sub_one_eq_mod]
    omega
  rw [e1]
  exact IntWalk.u64_in _ ⟨by omega, by omega⟩
theorem shr_low {a : Nat} (h : a ≤ 1000000) : shrK .u64 (a : Int) 32 = 0 := by
  unfold shrK
  have : min (Int.toNat 32) IntKind.u64.bits = 32 := by decide
  rw [this, Int.fdiv_eq_ediv_of_nonneg _ (by decide)]
  show (a : Int) / 4294967296 = 0
  omega
theorem u64n {a : Nat} (h : a ≤ 1000000) : IntKind.u64.wrap (a : Int) = a := IntWalk.u64_in _ ⟨by omega, by omega⟩
theorem u64m {a : Nat} (h : a ≤ 1000000) : IntKind.u64.wrap (1 * (a : Int)) = a := by rw [Int.one_mul]; exact u64n h
theorem rd_nil {w : World} {o : Option Addr} {xs : List Value} (h : Rd w o xs) (ho : o.isNone = true) : xs = [] := by
  cases xs with
  | nil => rfl
  | cons x l => obtain ⟨b, off, h1⟩ := h.1 (by rw [List.length_cons]; omega); rw [h1] at ho; cases ho
theorem rd_empty (w : World) (o : Option Addr) : Rd w o [] := ⟨fun h => by simp at h, fun j u h => by simp at h⟩
theorem rd_take {w : World} {o : Option Addr} {xs : List Value} (h : Rd w o xs) (k : Nat) : Rd w o (xs.take k) := ⟨fun h1 => h.1 (by rw [List.length_take] at h1; omega), fun j u hj => h.2 j u (by rw [List.getElem?_take] at hj; split at hj; exact hj; cases hj)⟩
theorem sub0 (o : Option Addr) (c sz : Nat) : subO o c 0 sz = o := by
  unfold subO
  split
  · rfl
  · cases o with
    | none => rfl
    | some a => simp [Addr.add]
def fillV (v : Value) (m n : Nat) : List Value := List.replicate m v ++ List.replicate (n - m) Value.nilIface
theorem fillV_len {v : Value} {m n : Nat} (h : m ≤ n) : (fillV v m n).length = n := by unfold fillV; simp; omega
theorem fillV_take {v : Value} {m n : Nat} (h : m ≤ n) (k : Nat) : (fillV v m n).take (min m k) = List.replicate (min m k) v := by
  unfold fillV
  rw [List.take_append_of_le_length (by simp; omega), List.take_replicate]
  congr 1
  omega
theorem fillV_put {v : Value} {m n k : Nat} (h : m + k ≤ n) : put (fillV v m n) m (List.replicate k v) = fillV v (m + k) n := by
  unfold fillV
  have e : List.replicate (n - m) Value.nilIface = List.replicate k Value.nilIface ++ List.replicate (n - (m + k)) Value.nilIface := by
    rw [List.replicate_append_replicate]; congr 1; omega
  rw [e, put_seg (by simp) (by simp), ← List.append_assoc, List.replicate_append_replicate]
theorem fillV_0 (v : Value) (n : Nat) : fillV v 0 n = List.replicate n Value.nilIface := by unfold fillV; simp
theorem fillV_n (v : Value) (n : Nat) : fillV v n n = List.replicate n v := by unfold fillV; simp
theorem rep_one {v : Value} (h : v.oneCell' = true) (k : Nat) : (List.replicate k v).all (·.oneCell') = true := by simp [h]
set_option maxRecDepth 10000 attribute [local irreducible] Code.wp wpList Calls Ex Op1 sat bat blk cb own Go.Fw.mp Go.Fw.mpO Go.Fw.mpI Go.Fw.mpE Go.Fw.itr HS Rd Ret wkD Hp Cl Cls Exit.then Exit.inBlock Exit.noGoto bodyPost Go.Fw.flat wk2 Go.Fw.all Go.Fw.owns wpOp
attribute [local irreducible] sk mpK sko mvO entK opM Go.Fw.mset Go.Fw.mv opK w63 shrK andK IntKind.wrap fillV

set_option maxHeartbeats 8000000 in
theorem Mul64_spec (w0 : World) (n : Nat) (hn : n ≤ 256) : Ret Tryz.prog 161 #[.int .u64 1, .int .u64 n] w0 (fun v w => v = .tuple #[.int .u64 0, .int .u64 n] ∧ Kp w0 noM w) := by
  have hH : HS w0 noM [] w0 := HS.init w0 noM
  have a1 : andK .u64 1 4294967295 = 1 := and_low (a := 1) (by omega)
  have s1 : shrK .u64 1 32 = 0 := shr_low (a := 1) (by omega)
  have a2 := and_low (a := n) (by omega)
  have s2 := shr_low (a := n) (by omega)
  have a0 : andK .u64 0 4294967295 = 0 := and_low (a := 0) (by omega)
  have s0 : shrK .u64 0 32 = 0 := shr_low (a := 0) (by omega)
  have m1 := u64m (a := n) (by omega)
  have z0 : IntKind.u64.wrap 0 = 0 := u64n (a := 0) (by omega)
  have m0 : IntKind.u64.wrap (0 * (n : Int)) = 0 := by rw [Int.zero_mul]; exact z0
  have m2 : IntKind.u64.wrap (1 * 0) = 0 := by rw [Int.mul_zero]; exact z0
  have m3 : IntKind.u64.wrap (0 * 0) = 0 := by rw [Int.mul_zero]; exact z0
  have p0 : IntKind.u64.wrap (0 + 0) = 0 := by rw [Int.add_zero]; exact z0
  (refine enter (N := 51) Tryz.func161 rfl Tryz.ntmps161 rfl ?_; intro a hA; dsimp only [sl0, Nat.reduceAdd] at hA)
  repeat' (first | ((first | apply st_ex hA hH rfl rfl (by decide) | apply dr_ex hA rfl rfl rfl (by decide) | apply dr_exp hA rfl rfl rfl (by decide) | apply dr_ex3 hA hH rfl rfl rfl (by decide)); (first | (apply ex_and; rfl; rfl; first | exact a1 | exact a2 | exact a0) | (apply ex_shr; rfl; rfl; decide; first | exact s1 | exact s2 | exact s0) | (apply ex_mulK; rfl; rfl; first | exact m1 | exact m0 | exact m2 | exact m3) | (apply ex_addK; rfl; rfl; exact p0)); clear hA a; intro a hA) | (refine QT ?_; clear hA a; intro a hA) | (refine CT ?_ <;> repeat' refine CT ?_))
  exact rt2 (.inl rfl) rfl hA rfl rfl ⟨rfl, hH.kp⟩
set_option maxHeartbeats 4000000 in
theorem Mul_spec (w0 : World) (n : Nat) (hn : n ≤ 256) : Ret Tryz.prog 141 #[.int .u64 1, .int .u64 n] w0 (fun v w => v = .tuple #[.int .u64 0, .int .u64 n] ∧ Kp w0 noM w) := by
  have hH : HS w0 noM [] w0 := HS.init w0 noM
  (refine enter (N := 30) Tryz.func141 rfl Tryz.ntmps141 rfl ?_; intro a hA; dsimp only [sl0, Nat.reduceAdd] at hA)
  repeat' (first | (refine QT ?_; clear hA a; intro a hA) | (refine st_op hA rfl rfl (by decide) (op_call rfl rfl rfl (Mul64_spec _ n hn)) ?_; clear hA; rintro _ w ⟨rfl, hk⟩ a hA; replace hH := hH.keep hk; clear hk) | (refine CT ?_ <;> repeat' refine CT ?_))
  exact rt2 (.inl rfl) rfl hA rfl rfl ⟨rfl, hH.kp⟩
set_option maxHeartbeats 4000000 in
theorem cloneI_spec (w0 : World) (o : Option Addr) (c : Nat) (l : List Int) (hR : Rd w0 o (flat Fw.encI l)) (hl : l.length ≤ 1048576) :
    Ret Tryz.prog 93 #[.slice o l.length c] w0 (fun v w => ∃ o' c', v = .slice o' l.length c' ∧ HS w0 noM [own 2 1 o' l.length c' (flat Fw.encI l)] w) := by
  have hH : HS w0 noM [] w0 := HS.init w0 noM
  have hfl : (flat Fw.encI l).length = l.length * 1 := flat_length Fw.encI_len _
  have hon : (flat Fw.encI l).all (·.oneCell') = true := flat_one_cell (fun _ => rfl) _
  (refine enter (N := 8) Tryz.func93 rfl Tryz.ntmps93 rfl ?_; intro a hA; dsimp only [sl0, Nat.reduceAdd] at hA)
  repeat' (first | ((first | apply st_ex hA hH rfl rfl (by decide) | apply dr_ex hA rfl rfl rfl (by decide) | apply dr_exp hA rfl rfl rfl (by decide) | apply dr_ex3 hA hH rfl rfl rfl (by decide)); (first | (apply ex_eqlNil; rfl; rfl)); clear hA a; intro a hA) | (refine QT ?_; clear hA a; intro a hA) | (refine LT ?_; clear hA hH; rintro _ w ⟨oN, rfl, hH⟩ a hA) | ((first | refine CT ?_ | (refine DT ?_ ?_ <;> intro hc <;> try (exfalso; omega))) <;> repeat' refine CT ?_))
  · have hnil := rd_nil hR (by assumption)
    obtain rfl : l = [] := List.length_eq_zero_iff.1 (by rw [← Nat.mul_one l.length, ← hfl, hnil]; rfl)
    rw [flatI_nil]
    exact rt1 (.inl rfl) rfl hA rfl ⟨none, 0, rfl, hH.nil_own 2 1⟩
  · have hRw := hH.rd hR id
    (apply st_op hA rfl rfl (by decide); apply op_append; rfl; rfl; exact hH; exact MEMT; exact hRw; exact hfl; rfl; decide; exact hon; (unfold maxLen; omega); omega; clear hA; rintro _ w ⟨oN, cN, rfl, hH2⟩ a hA; clear hH; have hH := hH2 _ (by (repeat constructor)); clear hH2)
    repeat' (first | (refine QT ?_; clear hA a; intro a hA) | (refine CT ?_ <;> repeat' refine CT ?_))
    rw [Nat.zero_add] at hA hH
    exact rt1 (.inl rfl) rfl hA rfl ⟨_, _, rfl, hH⟩
set_option maxHeartbeats 4000000 in
theorem cloneV_spec (w0 : World) (o : Option Addr) (c : Nat) (l : List Value) (hR : Rd w0 o l) (hon : l.all (·.oneCell') = true) (hl : l.length ≤ 1048576) :
    Ret Tryz.prog 94 #[.slice o l.length c] w0 (fun v w => ∃ o' c', v = .slice o' l.length c' ∧ HS w0 noM [own 137 1 o' l.length c' l] w) := by
  have hH : HS w0 noM [] w0 := HS.init w0 noM
  have hfl : l.length = l.length * 1 := by omega
  (refine enter (N := 8) Tryz.func94 rfl Tryz.ntmps94 rfl ?_; intro a hA; dsimp only [sl0, Nat.reduceAdd] at hA)
  repeat' (first | ((first | apply st_ex hA hH rfl rfl (by decide) | apply dr_ex hA rfl rfl rfl (by decide) | apply dr_exp hA rfl rfl rfl (by decide) | apply dr_ex3 hA hH rfl rfl rfl (by decide)); (first | (apply ex_eqlNil; rfl; rfl)); clear hA a; intro a hA) | (refine QT ?_; clear hA a; intro a hA) | (refine LT ?_; clear hA hH; rintro _ w ⟨oN, rfl, hH⟩ a hA) | ((first | refine CT ?_ | (refine DT ?_ ?_ <;> intro hc <;> try (exfalso; omega))) <;> repeat' refine CT ?_))
  · obtain rfl : l = [] := rd_nil hR (by assumption)
    exact rt1 (.inl rfl) rfl hA rfl ⟨none, 0, rfl, hH.nil_own 137 1⟩
  · have hRw := hH.rd hR id
    (apply st_op hA rfl rfl (by decide); apply op_append; rfl; rfl; exact hH; exact MEMT; exact hRw; exact hfl; rfl; decide; exact hon; (unfold maxLen; omega); omega; clear hA; rintro _ w ⟨oN, cN, rfl, hH2⟩ a hA; clear hH; have hH := hH2 _ (by (repeat constructor)); clear hH2)
    repeat' (first | (refine QT ?_; clear hA a; intro a hA) | (refine CT ?_ <;> repeat' refine CT ?_))
    rw [Nat.zero_add] at hA hH
    exact rt1 (.inl rfl) rfl hA rfl ⟨_, _, rfl, hH⟩
set_option maxHeartbeats 8000000 in
theorem repeat_spec (w0 : World) (o : Option Addr) (n : Nat) (v : Value) (hR : Rd w0 o [v]) (hv : v.oneCell' = true) (hn : n ≤ 256) :
    Ret Tryz.prog 129 #[.slice o 1 1, .int .i64 n] w0 (fun r w => ∃ o', r = .slice o' n n ∧ HS w0 noM [own 137 1 o' n n (List.replicate n v)] w) := by
  have hH : HS w0 noM [] w0 := HS.init w0 noM
  have u1 : IntKind.u64.wrap ((1 : Nat) : Int) = 1 := u64n (a := 1) (by omega)
  have u2 := u64n (a := n) (by omega)
  have u3 : IntKind.i64.wrap (n : Int) = n := wrap_i64 (by unfold i64ok; omega)
  (refine enter (N := 48) Tryz.func129 rfl Tryz.ntmps129 rfl ?_; intro a hA; dsimp only [sl0, Nat.reduceAdd] at hA)
  repeat' (first | (refine GT ?_ ?_ <;> intro hg <;> clear hA a <;> intro a hA <;> (first | exact FA | replace hg := of_decide_eq_true hg | replace hg := of_decide_eq_false hg | skip)) | ((first | apply st_ex hA hH rfl rfl (by decide) | apply dr_ex hA rfl rfl rfl (by decide) | apply dr_exp hA rfl rfl rfl (by decide) | apply dr_ex3 hA hH rfl rfl rfl (by decide)); (first | (apply ex_convert; rfl; first | exact u1 | exact u2 | exact u3)); clear hA a; intro a hA) | (refine QT ?_; clear hA a; intro a hA) | (refine st_op hA rfl rfl (by decide) (op_call rfl rfl rfl (Mul_spec _ n hn)) ?_; clear hA; rintro _ w ⟨rfl, hk⟩ a hA; replace hH := hH.keep hk; clear hk) | (apply st_op hA rfl rfl (by decide); apply op_make1 (encV) (Value.nilIface) (n := n); rfl; rfl; omega; omega; (unfold maxLen; omega); omega; rfl; rfl; exact hH; clear hA hH; rintro _ w ⟨oN, rfl, hH⟩ a hA) | ((first | refine CT ?_ | (refine DT ?_ ?_ <;> intro hc <;> try (exfalso; omega))) <;> repeat' refine CT ?_))
  rw [flatV, ← fillV_0 v] at hH
  have hc0 : (([v] : List Value).take (min 1 n)).length = Nat.min 1 n := by rw [List.length_take]; show min (min 1 n) 1 = min 1 n; omega
  have ht0 : ([v] : List Value).take (min 1 n) = List.replicate (min 1 n) v := by
    rcases Nat.eq_zero_or_pos n with h | h
    · subst h; rfl
    · rw [show min 1 n = 1 by omega]; rfl
  have hRw := rd_take (hH.rd hR id) (min 1 n)
  rw [ht0] at hc0 hRw
  have hp0 := fillV_put (v := v) (m := 0) (n := n) (k := min 1 n) (by omega)
  rw [Nat.zero_add] at hp0
  have hb0 : 0 + (List.replicate (min 1 n) v).length ≤ (fillV v 0 n).length := by rw [fillV_len (Nat.zero_le _), hc0]; show 0 + min 1 n ≤ n; omega
  have hrp : ∀ H, Rp (own 137 1 oN n n (fillV v 0 n) :: H) (own 137 1 oN n n (fillV v 0 n)) (own 137 1 oN n n (put (fillV v 0 n) 0 (List.replicate (min 1 n) v))) (own 137 1 oN n n (put (fillV v 0 n) 0 (List.replicate (min 1 n) v)) :: H) := fun H => .here
  (apply st_op hA rfl rfl (by decide); apply op_copy (k := 0) (news := List.replicate (min 1 n) v); rfl; rfl; exact hH; exact hRw; exact hc0; exact (fun h => ⟨(sub0 _ _ _).symm, by rw [hc0] at h; show 0 < n; have h1 : 0 < min 1 n := h; omega⟩); exact rep_one hv _; exact hb0; exact hrp _; clear hA hH; rintro _ w ⟨rfl, hH⟩ a hA)
  rw [hp0] at hH
  have hmin : Nat.min 1 n = min 1 n := rfl
  rw [hmin] at hA
  repeat' (first | (refine QT ?_; clear hA a; intro a hA) | (refine CT ?_ <;> repeat' refine CT ?_))
  refine wp_lpk (S := Nat) (fun m a w => (m ≤ n ∧ (0 < n → 0 < m)) ∧ HS w0 noM [own 137 1 oN n n (fillV v m n)] w ∧ Sl 48 [(8, .int .i64 m), (7, .slice oN n n)] a) (fun m => n - m)
    (fun a w => HS w0 noM [own 137 1 oN n n (List.replicate n v)] w ∧ Sl 48 [(7, .slice oN n n)] a) (min 1 n) ⟨⟨by omega, by omega⟩, hH, (hA.sub (by (repeat (first | exact trivial | refine ⟨rfl, ?_⟩)); first | done | fail "sub"))⟩ ?_ ?_
  · clear hA hH hp0 hb0 hrp hRw hc0 ht0
    rintro m a w ⟨⟨hm, hm0⟩, hH, hA⟩
    by_cases hlt : m < n
    rotate_left
    · obtain rfl : m = n := by omega
      rw [fillV_n] at hH
      repeat' (first | (refine QT ?_; clear hA a; intro a hA) | ((first | refine CT ?_ | (refine DT ?_ ?_ <;> intro hc <;> try (exfalso; omega))) <;> repeat' refine CT ?_))
      exact ⟨hH, (hA.sub (by (repeat (first | exact trivial | refine ⟨rfl, ?_⟩)); first | done | fail "sub"))⟩
    have hsp := hH.own_sp (T := 137) (.head _)
    have hlen := fillV_len (v := v) (Nat.le_of_lt hlt)
    obtain ⟨k, hk⟩ : ∃ k, k = min m (n - m) := ⟨_, rfl⟩
    have hc1 : (List.replicate k v).length = Nat.min m (n - m) := by rw [List.length_replicate, hk]
    have hp1 := fillV_put (v := v) (m := m) (n := n) (k := k) (by omega)
    have hb1 : m + (List.replicate k v).length ≤ (fillV v m n).length := by rw [hlen, List.length_replicate]; omega
    have hrp : ∀ H, Rp (own 137 1 oN n n (fillV v m n) :: H) (own 137 1 oN n n (fillV v m n)) (own 137 1 oN n n (put (fillV v m n) m (List.replicate k v))) (own 137 1 oN n n (put (fillV v m n) m (List.replicate k v)) :: H) := fun H => .here
    have htk : (fillV v m n).take k = List.replicate k v := by
      have := fillV_take (v := v) (Nat.le_of_lt hlt) (n - m)
      rw [← hk] at this
      exact this
    repeat' (first | (refine QT ?_; clear hA a; intro a hA) | ((first | refine CT ?_ | (refine DT ?_ ?_ <;> intro hc <;> try (exfalso; omega))) <;> repeat' refine CT ?_))
    (refine wp_draw_HS [(0, 1), (1, 1), (2, 1), (3, 1), (4, 1), (5, 1), (6, 1), (7, 0), (8, 1), (9, 1)] mixed (by decide +kernel) hH.drop_ ?_; replace hH := hH.drew)
    repeat' (first | ((first | apply st_ex hA hH rfl rfl (by decide) | apply dr_ex hA rfl rfl rfl (by decide) | apply dr_exp hA rfl rfl rfl (by decide) | apply dr_ex3 hA hH rfl rfl rfl (by decide)); (first | (apply ex_slice_lo (k := m); rfl; rfl; rfl; omega) | (apply ex_slice_hi (k := m); rfl; rfl; rfl; omega)); clear hA a; intro a hA) | (refine QT ?_; clear hA a; intro a hA))
    have hRk := rd_take (hH.own_rd (T := 137) (.head _)) k
    rw [htk] at hRk
    (apply dr_op hA rfl rfl rfl (by decide); apply op_copy (k := m) (news := List.replicate k v); rfl; rfl; exact hH; exact hRk; exact hc1; exact (fun h => ⟨rfl, hlt⟩); exact rep_one hv _; exact hb1; exact hrp _; clear hA hH; rintro _ w ⟨rfl, hH⟩; refine ⟨STT, ?_⟩; intro a hA)
    rw [hp1] at hH
    have hmk : Nat.min m (n - m) = k := hk.symm
    rw [hmk] at hA
    repeat' (first | (refine QT ?_; clear hA a; intro a hA) | (refine CT ?_ <;> repeat' refine CT ?_))
    exact ⟨m + k, ⟨⟨by omega, fun _ => by omega⟩, hH, (hA.sub (by (repeat (first | exact trivial | refine ⟨rfl, ?_⟩)); first | done | fail "sub"))⟩, by omega⟩
  clear hA hH
  rintro a w ⟨hH, hA⟩
  repeat' (first | (refine QT ?_; clear hA a; intro a hA) | (refine CT ?_ <;> repeat' refine CT ?_))
  exact rt1 (.inl rfl) rfl hA rfl ⟨_, rfl, hH⟩
end Go.Proofs.YtenlcdokaadobaaGreatDoor
