/-
  Walks over the heap's methods that look at all: Next, Room, Longest. Conditions: none.
-/
import Derived.Test.YtejpcidfigmnkaaHD
namespace Go.Proofs.Ytejpcidfigmnkaa
open Go Go.Fw
set_option linter.unusedVariables false
set_option maxRecDepth 10000 attribute [local irreducible] Code.wp wpList Calls Ex Op1 sat bat blk cb own Go.Fw.mp Go.Fw.mpO Go.Fw.mpI Go.Fw.mpE Go.Fw.itr HS Rd Ret wkD Hp Cl Cls Exit.then Exit.inBlock Exit.noGoto bodyPost Go.Fw.flat wk2 Go.Fw.all Go.Fw.owns wpOp
attribute [local irreducible] hdA gaps isA roomA longA nextA

theorem next_spec (w0 : World) (b N : Nat) (L : List Ob) (z : Int) (hR : HpR w0 b N L) :
    Ret Try.prog 31 #[.pointer (some (bat b 0)), .int .i64 z] w0 (fun v w => v = .int .i64 (nextA L z) ∧ Kp w0 noM w) := by
  have hH : HS w0 noM [] w0 := HS.init w0 noM
  obtain ⟨q, hq⟩ := hR
  have hn2 := hq.rep.n2
  have hspH : Sp q.oH N := hq.rH.sp (sz := 2) (by rw [flat_length encP_len, hq.rep.hl]) (by omega)
  (refine enter (N := 27) Try.func31 rfl Try.ntmps31 rfl ?_; intro a hA; dsimp only [sl0, Nat.reduceAdd] at hA)
  repeat' (first | (first | (refine GT ?_ ?_ <;> intro hg <;> clear hA a <;> intro a hA <;> (first | exact FA | replace hg := of_decide_eq_true hg | replace hg := of_decide_eq_false hg | skip)) | ((first | apply st_ex hA hH rfl rfl (by decide) | apply dr_ex hA rfl rfl rfl (by decide) | apply dr_exp hA rfl rfl rfl (by decide) | apply dr_ex3 hA hH rfl rfl rfl (by decide)); (first | (apply ex_max; rfl; rfl)); clear hA a; intro a hA) | (refine QT0 ?_; clear hA a; intro a hA) | (first | (refine BT ?_; clear hA hH; rintro _ w ⟨bN, rfl, hH⟩ a hA) | (refine LT ?_; clear hA hH; rintro _ w ⟨oN, rfl, hH⟩ a hA) | (refine AT ?_; clear hA; rintro _ w ⟨oN, cN, rfl, hH2⟩ a hA; clear hH; have hH := (hH2 _ (by (repeat constructor))).tail; clear hH2) | (refine S0T ?_; clear hH; rintro _ w hH) )) | ((first | refine CT ?_ | (refine DT ?_ ?_ <;> intro hc <;> try (exfalso; omega))) <;> repeat' refine CT ?_) | (first | (refine DSK ?_; clear hA a; intro a hA) | (first | (refine DLT ?_; clear hA hH; rintro _ w ⟨oN, rfl, hH⟩; refine ⟨STT, ?_⟩; intro a hA) | (refine DAT ?_; clear hA; rintro _ w ⟨oN, cN, rfl, hH2⟩; clear hH; have hH := (hH2 _ (by (repeat constructor))).tail; clear hH2; refine ⟨STT, ?_⟩; intro a hA))) )
  by_cases hz : (N : Int) ≤ z
  · have e : (if (1 : Int) > z then (1 : Int) else z) = z := if_neg (by omega)
    rw [e] at hA
    have hnx : nextA L z = 0 := next_none fun o ho h => by
      have := (hq.rep.lay.mem o ho).2
      unfold Ob.fin at this
      omega
    refine wp_lp (S := Unit) (fun s a w => HS w0 noM [] w ∧ Sl 27 [(0, .pointer (some (bat b 0))), (5, .int .i64 z)] a) (fun _ => 0) () ⟨hH, (hA.sub (by (repeat (first | exact trivial | refine ⟨rfl, ?_⟩))))⟩ ?_
    clear hA hH
    rintro _ a w ⟨hH, hA⟩
    repeat' (first | (first | (refine GT ?_ ?_ <;> intro hg <;> clear hA a <;> intro a hA <;> (first | exact FA | replace hg := of_decide_eq_true hg | replace hg := of_decide_eq_false hg | skip)) | ((first | apply st_ex hA hH rfl rfl (by decide) | apply dr_ex hA rfl rfl rfl (by decide) | apply dr_exp hA rfl rfl rfl (by decide) | apply dr_ex3 hA hH rfl rfl rfl (by decide)); (first | (apply ex_load; rfl; exact cl_w hq.c1 id)); clear hA a; intro a hA) | (refine QT0 ?_; clear hA a; intro a hA) | (first | (refine BT ?_; clear hA hH; rintro _ w ⟨bN, rfl, hH⟩ a hA) | (refine LT ?_; clear hA hH; rintro _ w ⟨oN, rfl, hH⟩ a hA) | (refine AT ?_; clear hA; rintro _ w ⟨oN, cN, rfl, hH2⟩ a hA; clear hH; have hH := (hH2 _ (by (repeat constructor))).tail; clear hH2) | (refine S0T ?_; clear hH; rintro _ w hH) )) | ((first | refine CT ?_ | (refine DT ?_ ?_ <;> intro hc <;> try (exfalso; omega))) <;> repeat' refine CT ?_) | (first | (refine DSK ?_; clear hA a; intro a hA) | (first | (refine DLT ?_; clear hA hH; rintro _ w ⟨oN, rfl, hH⟩; refine ⟨STT, ?_⟩; intro a hA) | (refine DAT ?_; clear hA; rintro _ w ⟨oN, cN, rfl, hH2⟩; clear hH; have hH := (hH2 _ (by (repeat constructor))).tail; clear hH2; refine ⟨STT, ?_⟩; intro a hA))) )
    exact rt1 (.inl rfl) rfl hA rfl ⟨by rw [hnx], hH.kp⟩
  obtain ⟨i0, hi0, h01, h0z, h0N, h0m⟩ : ∃ i0 : Nat, (if (1 : Int) > z then (1 : Int) else z) = (i0 : Int) ∧ 1 ≤ i0 ∧ z ≤ (i0 : Int) ∧ i0 ≤ N ∧ (i0 = 1 ∨ (i0 : Int) = z) := by
    by_cases h1 : (1 : Int) > z
    · exact ⟨1, if_pos h1, by omega, by omega, by omega, .inl rfl⟩
    · exact ⟨z.toNat, by rw [if_neg h1]; omega, by omega, by omega, by omega, .inr (by omega)⟩
  rw [hi0] at hA
  refine wp_lp (S := Nat) (fun i a w => (i0 ≤ i ∧ i ≤ N ∧ ∀ k : Nat, i0 ≤ k → k < i → isA L (k : Int) = false) ∧ HS w0 noM [] w ∧ Sl 27 [(0, .pointer (some (bat b 0))), (5, .int .i64 i)] a)
    (fun i => N - i) i0 ⟨⟨Nat.le_refl _, h0N, fun k h h' => by omega⟩, hH, (hA.sub (by (repeat (first | exact trivial | refine ⟨rfl, ?_⟩))))⟩ ?_
  clear hA hH
  rintro i a w ⟨⟨hi1, hi2, hno⟩, hH, hA⟩
  have hno2 : ∀ k : Nat, z ≤ (k : Int) → k < i → isA L (k : Int) = false := fun k h h' => by
    rcases Nat.lt_or_ge k i0 with h3 | h3
    · exact hq.rep.out (by omega)
    · exact hno k h3 h'
  by_cases hlt : i < N
  · obtain ⟨hc1, hc2⟩ := cell_head hq hlt
    have his := hq.rep.is_ hlt
    repeat' (first | (first | (refine GT ?_ ?_ <;> intro hg <;> clear hA a <;> intro a hA <;> (first | exact FA | replace hg := of_decide_eq_true hg | replace hg := of_decide_eq_false hg | skip)) | ((first | apply st_ex hA hH rfl rfl (by decide) | apply dr_ex hA rfl rfl rfl (by decide) | apply dr_exp hA rfl rfl rfl (by decide) | apply dr_ex3 hA hH rfl rfl rfl (by decide)); (first | (apply ex_load; rfl; exact cl_w hq.c1 id) | (apply ex_load; rfl; exact cl_rd hq.rH id hc1)); clear hA a; intro a hA) | (refine QT0 ?_; clear hA a; intro a hA) | (first | (refine BT ?_; clear hA hH; rintro _ w ⟨bN, rfl, hH⟩ a hA) | (refine LT ?_; clear hA hH; rintro _ w ⟨oN, rfl, hH⟩ a hA) | (refine AT ?_; clear hA; rintro _ w ⟨oN, cN, rfl, hH2⟩ a hA; clear hH; have hH := (hH2 _ (by (repeat constructor))).tail; clear hH2) | (refine S0T ?_; clear hH; rintro _ w hH) )) | ((first | refine CT ?_ | (refine DT ?_ ?_ <;> intro hc <;> try (exfalso; omega))) <;> repeat' refine CT ?_) | (first | (refine DSK ?_; clear hA a; intro a hA) | (first | (refine DLT ?_; clear hA hH; rintro _ w ⟨oN, rfl, hH⟩; refine ⟨STT, ?_⟩; intro a hA) | (refine DAT ?_; clear hA; rintro _ w ⟨oN, cN, rfl, hH2⟩; clear hH; have hH := (hH2 _ (by (repeat constructor))).tail; clear hH2; refine ⟨STT, ?_⟩; intro a hA))) )
    · have hnx : nextA L z = i := next_at hq.rep.lay (by omega) (by rw [his]; exact decide_eq_true (by assumption)) hno2
      exact rt1 (.inl rfl) rfl hA rfl ⟨by rw [hnx], hH.kp⟩
    · refine ⟨i + 1, ⟨⟨by omega, hlt, fun k h h' => ?_⟩, hH, (hA.sub (by (repeat (first | exact trivial | refine ⟨rfl, ?_⟩))))⟩, by omega⟩
      rcases Nat.lt_or_ge k i with h3 | h3
      · exact hno k h h3
      · obtain rfl : k = i := by omega
        rw [his]
        exact decide_eq_false (by assumption)
  have hnx : nextA L z = 0 := next_none fun o ho h => by
    have h1 := (hq.rep.lay.mem o ho).2
    unfold Ob.fin at h1
    have := hno2 o.a h (by omega)
    rw [isA_iff.2 ⟨o, ho, rfl⟩] at this
    cases this
  repeat' (first | (first | (refine GT ?_ ?_ <;> intro hg <;> clear hA a <;> intro a hA <;> (first | exact FA | replace hg := of_decide_eq_true hg | replace hg := of_decide_eq_false hg | skip)) | ((first | apply st_ex hA hH rfl rfl (by decide) | apply dr_ex hA rfl rfl rfl (by decide) | apply dr_exp hA rfl rfl rfl (by decide) | apply dr_ex3 hA hH rfl rfl rfl (by decide)); (first | (apply ex_load; rfl; exact cl_w hq.c1 id)); clear hA a; intro a hA) | (refine QT0 ?_; clear hA a; intro a hA) | (first | (refine BT ?_; clear hA hH; rintro _ w ⟨bN, rfl, hH⟩ a hA) | (refine LT ?_; clear hA hH; rintro _ w ⟨oN, rfl, hH⟩ a hA) | (refine AT ?_; clear hA; rintro _ w ⟨oN, cN, rfl, hH2⟩ a hA; clear hH; have hH := (hH2 _ (by (repeat constructor))).tail; clear hH2) | (refine S0T ?_; clear hH; rintro _ w hH) )) | ((first | refine CT ?_ | (refine DT ?_ ?_ <;> intro hc <;> try (exfalso; omega))) <;> repeat' refine CT ?_) | (first | (refine DSK ?_; clear hA a; intro a hA) | (first | (refine DLT ?_; clear hA hH; rintro _ w ⟨oN, rfl, hH⟩; refine ⟨STT, ?_⟩; intro a hA) | (refine DAT ?_; clear hA; rintro _ w ⟨oN, cN, rfl, hH2⟩; clear hH; have hH := (hH2 _ (by (repeat constructor))).tail; clear hH2; refine ⟨STT, ?_⟩; intro a hA))) )
  exact rt1 (.inl rfl) rfl hA rfl ⟨by rw [hnx], hH.kp⟩

end Go.Proofs.Ytejpcidfigmnkaa
