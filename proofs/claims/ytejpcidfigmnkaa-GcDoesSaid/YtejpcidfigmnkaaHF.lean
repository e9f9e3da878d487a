/-
  Walks over New, Set, Copy. Conditions: none.
-/
import Derived.Test.YtejpcidfigmnkaaHE
import Derived.Test.YtejpcidfigmnkaaFw12
namespace Go.Proofs.Ytejpcidfigmnkaa
open Go Go.Fw
set_option linter.unusedVariables false
theorem rep_new {N : Nat} (h : 2 ≤ N ∧ N ≤ 65536) : Rep N [] (List.replicate N 0) (List.replicate N (0, 0)) where
  n2 := h
  cl := List.length_replicate
  hl := List.length_replicate
  lay := by show 1 ≤ N; omega
  hd := fun i hi => by rw [List.getElem?_replicate, if_pos hi]; rfl
  fd := fun o ho => absurd ho (List.not_mem_nil)
  kd := fun o ho => absurd ho (List.not_mem_nil)
theorem gaps_new {N : Nat} (h : 2 ≤ N) : gaps N 1 [] = [((1 : Int), (N : Int) - 1)] := by
  show gap1 1 N = _
  rw [gap1_pos (by omega)]
  congr 2
  omega
set_option maxRecDepth 10000 attribute [local irreducible] Code.wp wpList Calls Ex Op1 sat bat blk cb own Go.Fw.mp Go.Fw.mpO Go.Fw.mpI Go.Fw.mpE Go.Fw.itr HS Rd Ret wkD Hp Cl Cls Exit.then Exit.inBlock Exit.noGoto bodyPost Go.Fw.flat wk2 Go.Fw.all Go.Fw.owns wpOp
attribute [local irreducible] hdA gaps isA

theorem of_spec (w0 : World) : Ret Try.prog 40 #[.int .i64 0] w0 (fun v w => v = .int .u64 1 ∧ Kp w0 noM w) := by
  have hH : HS w0 noM [] w0 := HS.init w0 noM
  (refine enter (N := 7) Try.func40 rfl Try.ntmps40 rfl ?_; intro a hA; dsimp only [sl0, Nat.reduceAdd] at hA)
  repeat' (first | (first | (refine GT ?_ ?_ <;> intro hg <;> clear hA a <;> intro a hA <;> (first | exact FA | replace hg := of_decide_eq_true hg | replace hg := of_decide_eq_false hg | skip)) | ((first | apply st_ex hA hH rfl rfl (by decide) | apply dr_ex hA rfl rfl rfl (by decide) | apply dr_exp hA rfl rfl rfl (by decide) | apply dr_ex3 hA hH rfl rfl rfl (by decide)); (first | (apply ex_convert (v := 0); rfl; decide) | (apply ex_shl (v := 0); rfl; rfl; decide; decide) | (apply ex_or (v := 1); rfl; rfl; decide)); clear hA a; intro a hA) | (refine QT0 ?_; clear hA a; intro a hA) | (first | (refine BT ?_; clear hA hH; rintro _ w ⟨bN, rfl, hH⟩ a hA) | (refine LT ?_; clear hA hH; rintro _ w ⟨oN, rfl, hH⟩ a hA) | (refine AT ?_; clear hA; rintro _ w ⟨oN, cN, rfl, hH2⟩ a hA; clear hH; have hH := (hH2 _ (by (repeat constructor))).tail; clear hH2) | (refine S0T ?_; clear hH; rintro _ w hH) )) | ((first | refine CT ?_ | (refine DT ?_ ?_ <;> intro hc <;> try (exfalso; omega))) <;> repeat' refine CT ?_) | (first | (refine DSK ?_; clear hA a; intro a hA) | (first | (refine DLT ?_; clear hA hH; rintro _ w ⟨oN, rfl, hH⟩; refine ⟨STT, ?_⟩; intro a hA) | (refine DAT ?_; clear hA; rintro _ w ⟨oN, cN, rfl, hH2⟩; clear hH; have hH := (hH2 _ (by (repeat constructor))).tail; clear hH2; refine ⟨STT, ?_⟩; intro a hA))) )
  exact rt1 (.inl rfl) rfl hA rfl ⟨rfl, hH.kp⟩

theorem new_spec (w0 : World) (z : Int) :
    Ret Try.prog 32 #[.int .i64 z] w0 (fun v w => (v = .pointer none ∧ ¬ (2 ≤ z ∧ z ≤ 65536) ∧ Kp w0 noM w) ∨ ((2 ≤ z ∧ z ≤ 65536) ∧ ∃ b, v = .pointer (some (bat b 0)) ∧ HS w0 noM [hpI b z.toNat []] w)) := by
  have hH : HS w0 noM [] w0 := HS.init w0 noM
  (refine enter (N := 19) Try.func32 rfl Try.ntmps32 rfl ?_; intro a hA; dsimp only [sl0, Nat.reduceAdd] at hA)
  by_cases hz : 2 ≤ z ∧ z ≤ 65536
  · obtain ⟨N, rfl⟩ : ∃ N : Nat, z = N := ⟨z.toNat, by omega⟩
    repeat' (first | (first | (refine GT ?_ ?_ <;> intro hg <;> clear hA a <;> intro a hA <;> (first | exact FA | replace hg := of_decide_eq_true hg | replace hg := of_decide_eq_false hg | skip)) | (refine QT0 ?_; clear hA a; intro a hA) | (first | (refine BT ?_; clear hA hH; rintro _ w ⟨bN, rfl, hH⟩ a hA) | (refine LT ?_; clear hA hH; rintro _ w ⟨oN, rfl, hH⟩ a hA) | (refine AT ?_; clear hA; rintro _ w ⟨oN, cN, rfl, hH2⟩ a hA; clear hH; have hH := (hH2 _ (by (repeat constructor))).tail; clear hH2) | (refine S0T ?_; clear hH; rintro _ w hH) )) | ((first | refine CT ?_ | (refine DT ?_ ?_ <;> intro hc <;> try (exfalso; omega))) <;> repeat' refine CT ?_) | (first | (refine DSK ?_; clear hA a; intro a hA) | (first | (refine DLT ?_; clear hA hH; rintro _ w ⟨oN, rfl, hH⟩; refine ⟨STT, ?_⟩; intro a hA) | (refine DAT ?_; clear hA; rintro _ w ⟨oN, cN, rfl, hH2⟩; clear hH; have hH := (hH2 _ (by (repeat constructor))).tail; clear hH2; refine ⟨STT, ?_⟩; intro a hA))) )
    have h2 := hz.1
    have h3 := hz.2
    (refine wp_drawG [(0, 1), (2, 1), (4, 1), (5, 1), (6, 1)] [1,3,7] [(8, 2), (9, 0), (10, 2)] mixed (by decide +kernel) hH.drop_ ?_; replace hH := hH.drew)
    repeat' (first | (apply de_ex hA rfl rfl rfl (by decide); (first | (apply ex_move; rfl) | (apply ex_assign; rfl)  | exact EXT); clear hA a; intro a hA) | apply de_nil)
    refine wkO_three (e1 := ⟨1, 10, fun v it => ∃ o, v = .slice o N N ∧ it = own 33 1 o N N (flat encW (List.replicate N 0))⟩) (e2 := ⟨3, 12, fun v it => ∃ o, v = .slice o N N ∧ it = own 78 2 o N N (flat encP (List.replicate N (0, 0)))⟩)
      (e3 := ⟨7, 16, fun v it => ∃ o, v = .slice o 1 1 ∧ it = own 84 2 o 1 1 [.int .i64 1, .int .i64 ((N : Int) - 1)]⟩) hA hH ?_ ?_ ?_ (by show [10, 12, 16].Nodup; decide) (by show [1, 3, 7].Nodup; decide) ?_
    · refine ⟨rfl, by dsimp only; decide, _, rfl, rfl, rfl, fun He w hH => (op_make encW 0 (n := N) rfl rfl rfl rfl ?_ ?_ encW_len rfl (by decide) hH).mono ?_⟩
      · unfold maxLen; omega
      · omega
      · rintro v w' ⟨o, rfl, h⟩
        exact ⟨_, ⟨o, rfl, rfl⟩, h⟩
    · refine ⟨rfl, by dsimp only; decide, _, rfl, rfl, rfl, fun He w hH => (op_make encP (0, 0) (n := N) rfl rfl rfl rfl ?_ ?_ encP_len rfl (by decide) hH).mono ?_⟩
      · unfold maxLen; omega
      · omega
      · rintro v w' ⟨o, rfl, h⟩
        exact ⟨_, ⟨o, rfl, rfl⟩, h⟩
    · refine ⟨rfl, by dsimp only; decide, _, rfl, rfl, rfl, fun He w hH => (op_sliceLit rfl rfl (.c2 .nil) rfl rfl rfl hH).mono ?_⟩
      rintro v w' ⟨o, rfl, h⟩
      exact ⟨_, ⟨o, rfl, rfl⟩, h⟩
    clear hA hH a
    rintro v1 it1 v2 it2 v3 it3 w a ⟨o1, rfl, rfl⟩ ⟨o2, rfl, rfl⟩ ⟨o3, rfl, rfl⟩ hH hA
    dsimp only at hA
    repeat' (first | (first | (refine GT ?_ ?_ <;> intro hg <;> clear hA a <;> intro a hA <;> (first | exact FA | replace hg := of_decide_eq_true hg | replace hg := of_decide_eq_false hg | skip)) | (refine QT0 ?_; clear hA a; intro a hA) | (first | (refine BT ?_; clear hA hH; rintro _ w ⟨bN, rfl, hH⟩ a hA) | (refine LT ?_; clear hA hH; rintro _ w ⟨oN, rfl, hH⟩ a hA) | (refine AT ?_; clear hA; rintro _ w ⟨oN, cN, rfl, hH2⟩ a hA; clear hH; have hH := (hH2 _ (by (repeat constructor))).tail; clear hH2) | (refine S0T ?_; clear hH; rintro _ w hH) )) | ((first | refine CT ?_ | (refine DT ?_ ?_ <;> intro hc <;> try (exfalso; omega))) <;> repeat' refine CT ?_) | (first | (refine DSK ?_; clear hA a; intro a hA) | (first | (refine DLT ?_; clear hA hH; rintro _ w ⟨oN, rfl, hH⟩; refine ⟨STT, ?_⟩; intro a hA) | (refine DAT ?_; clear hA; rintro _ w ⟨oN, cN, rfl, hH2⟩; clear hH; have hH := (hH2 _ (by (repeat constructor))).tail; clear hH2; refine ⟨STT, ?_⟩; intro a hA))) | (apply dr_op hA rfl rfl rfl (by decide); apply op_box_agg; rfl; exact hH; clear hA hH; rintro _ w ⟨bN, rfl, hH⟩; refine ⟨STT, ?_⟩; intro a hA))
    have e : ([.int .i64 1, .int .i64 ((N : Int) - 1)] : List Value) = flat encP (gaps N 1 []) := by rw [gaps_new (by omega)]; simp [flat, encP]
    have e1 : (gaps N 1 []).length = 1 := by rw [gaps_new (by omega)]; rfl
    rw [e] at hH
    refine rt1 (.inl rfl) rfl hA rfl (Or.inr ⟨hz, bN, rfl, ?_⟩)
    show HS w0 noM [hpI bN N []] w
    exact hp_shut ⟨o1, N, o2, N, o3, 1, _, _⟩ (rep_new ⟨by omega, by omega⟩) (by unfold hpQ; rw [e1]; exact hH)
  · repeat' (first | (first | (refine GT ?_ ?_ <;> intro hg <;> clear hA a <;> intro a hA <;> (first | exact FA | replace hg := of_decide_eq_true hg | replace hg := of_decide_eq_false hg | skip)) | (refine QT0 ?_; clear hA a; intro a hA) | (first | (refine BT ?_; clear hA hH; rintro _ w ⟨bN, rfl, hH⟩ a hA) | (refine LT ?_; clear hA hH; rintro _ w ⟨oN, rfl, hH⟩ a hA) | (refine AT ?_; clear hA; rintro _ w ⟨oN, cN, rfl, hH2⟩ a hA; clear hH; have hH := (hH2 _ (by (repeat constructor))).tail; clear hH2) | (refine S0T ?_; clear hH; rintro _ w hH) )) | ((first | refine CT ?_ | (refine DT ?_ ?_ <;> intro hc <;> try (exfalso; omega))) <;> repeat' refine CT ?_) | (first | (refine DSK ?_; clear hA a; intro a hA) | (first | (refine DLT ?_; clear hA hH; rintro _ w ⟨oN, rfl, hH⟩; refine ⟨STT, ?_⟩; intro a hA) | (refine DAT ?_; clear hA; rintro _ w ⟨oN, cN, rfl, hH2⟩; clear hH; have hH := (hH2 _ (by (repeat constructor))).tail; clear hH2; refine ⟨STT, ?_⟩; intro a hA))) )
    all_goals exact rt1 (.inl rfl) rfl hA rfl (Or.inl ⟨rfl, hz, hH.kp⟩)
end Go.Proofs.Ytejpcidfigmnkaa
