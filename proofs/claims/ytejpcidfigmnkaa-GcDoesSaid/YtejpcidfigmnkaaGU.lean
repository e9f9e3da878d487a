/-
  Walks over the document's Alloc, Write. Conditions: none.
-/
import Derived.Test.YtejpcidfigmnkaaGZ
namespace Go.Proofs.Ytejpcidfigmnkaa
open Go Go.Fw
set_option linter.unusedVariables false
theorem alloc_both {N : Nat} {s : GS} (hok : GOk N s) (k z : Int) : (∃ e, e ≠ 0 ∧ allocG N s k z = (0, e, s) ∧ allocA N s.L k z = (0, e, s.L)) ∨
    ∃ (s' : GS) (o : Ob), allocG N s k z = ((o.a : Int), 0, s') ∧ allocA N s.L k z = ((o.a : Int), 0, s'.L) ∧ GOk N s' ∧ s'.ph = s.ph ∧ s'.pl = s.pl ∧ col s o.a = 0 ∧ (∀ b, b ≠ o.a → col s' b = col s b) ∧ col s' o.a = (if s.ph = 1 ∨ s.ph = 2 ∧ s.pl ≤ o.a then 2 else 0) := by
  have hag := alloc_is N s k z
  rcases alloc_two hok.lay k z with ⟨e, he, h1⟩ | ⟨A, B, kd, sz, rfl, rfl, hk1, hk2, hsz, hL, h1, h2⟩
  · left
    refine ⟨e, he, ?_, h1⟩
    rw [hag, h1]
    exact if_neg he
  · right
    rw [h1] at hag
    dsimp only at hag
    rw [if_pos rfl] at hag
    rcases alloc_ok hok (kd : Int) (sz : Int) with ⟨e, he, h3⟩ | ⟨s', o, h3, h4, h5, h6, h7, h8, h9, h10, h11, h12, h13, h14⟩
    · rw [h3] at hag
      simp only [Prod.mk.injEq] at hag
      exact absurd hag.2.1 he
    · refine ⟨s', o, h3, ?_, h4, h5, h6, h11, h13, h14⟩
      rw [h3] at hag
      simp only [Prod.mk.injEq] at hag
      obtain ⟨e1, -, e3⟩ := hag
      rw [h1, e1, e3]
theorem find_ob {N : Nat} {L : List Ob} (hl : Lay N 1 L) {o : Ob} (ho : o ∈ L) : ∃ j : Nat, findI L (o.a : Int) = j ∧ L[j]? = some o := by
  have e := objA_mem hl ho
  rcases findI_obj L (o.a : Int) with ⟨h1, _⟩ | ⟨i, o', h1, h2, h3⟩
  · rw [e] at h1; cases h1
  · rw [e] at h1
    obtain rfl := Option.some.inj h1
    exact ⟨i, h2, h3⟩
theorem write_is (s : GS) (z i x : Int) : writeG s z i x = (if (getA s.L z i).2 = 0 then (0, { (if s.ph = 1 ∧ kdA s.L z.toNat ≠ 1 then shadeG s (getA s.L z i).1 else s) with L := (setA s.L z i x).2 }) else ((getA s.L z i).2, s)) := rfl
theorem gd_L {w0 w : World} {M : Nat → Prop} {H : List It} {bd b2 : Nat} {s : GS} {L : List Ob} (h : HS w0 M (gdI bd b2 s :: H) w) : HS w0 M (gdI bd b2 { s with L := L } :: H) w := gd_eq h (fun _ => rfl) rfl rfl
set_option maxRecDepth 10000 attribute [local irreducible] Code.wp wpList Calls Ex Op1 sat bat blk cb own Go.Fw.mp Go.Fw.mpO Go.Fw.mpI Go.Fw.mpE Go.Fw.itr HS Rd Ret wkD Hp Cl Cls Exit.then Exit.inBlock Exit.noGoto bodyPost Go.Fw.flat wk2 Go.Fw.all Go.Fw.owns wpOp
attribute [local irreducible] hdA gaps isA nextA allocA freeA sizeA kindA setA getA whiteZ numW addrW shadeG gcI hpI stepG beginG writeG allocG mu rfI inL findI objA reachA wo gdI markG blackG sweepG

set_option maxHeartbeats 4000000 in
theorem dalloc_spec (w0 : World) (M : Nat → Prop) (bd b2 N : Nat) (s : GS) (k z : Int) (hok : GOk N s) (hH : HS w0 M [gdI bd b2 s, rfI b2 N s.L] w0) :
    Ret Try.prog 13 #[.pointer (some (bat bd 0)), .int .i64 k, .int .i64 z] w0 (fun v w => v = .tuple #[.int .i64 (allocG N s k z).1, .int .i64 (allocG N s k z).2.1] ∧ HS w0 M [gdI bd b2 (allocG N s k z).2.2, rfI b2 N (allocG N s k z).2.2.L] w) := by
  have hn2 := hok.n2
  (refine enter (N := 54) Try.func13 rfl Try.ntmps13 rfl ?_; intro a hA; dsimp only [sl0, Nat.reduceAdd] at hA)
  repeat' (first | (first | (refine GT ?_ ?_ <;> intro hg <;> clear hA a <;> intro a hA <;> (first | exact FA | replace hg := of_decide_eq_true hg | replace hg := of_decide_eq_false hg | skip)) | ((first | apply st_ex hA hH rfl rfl (by decide) | apply dr_ex hA rfl rfl rfl (by decide) | apply dr_exp hA rfl rfl rfl (by decide) | apply dr_ex3 hA hH rfl rfl rfl (by decide)); (first | (apply ex_load; rfl; exact dcl_h MEMT)); clear hA a; intro a hA) | (refine QT ?_; clear hA a; intro a hA) | (first | (refine BT ?_; clear hA hH; rintro _ w ⟨bN, rfl, hH⟩ a hA) | (refine LT ?_; clear hA hH; rintro _ w ⟨oN, rfl, hH⟩ a hA) | (refine AT ?_; clear hA; rintro _ w ⟨oN, cN, rfl, hH2⟩ a hA; clear hH; have hH := (hH2 _ (by (repeat constructor))).tail; clear hH2) | (refine S0T ?_; clear hH; rintro _ w hH) )) | ((first | refine CT ?_ | (refine DT ?_ ?_ <;> intro hc <;> try (exfalso; omega))) <;> repeat' refine CT ?_) | (first | (refine DSK ?_; clear hA a; intro a hA) | (first | (refine DLT ?_; clear hA hH; rintro _ w ⟨oN, rfl, hH⟩; refine ⟨STT, ?_⟩; intro a hA) | (refine DAT ?_; clear hA; rintro _ w ⟨oN, cN, rfl, hH2⟩; clear hH; have hH := (hH2 _ (by (repeat constructor))).tail; clear hH2; refine ⟨STT, ?_⟩; intro a hA))) )
  replace hH := hH.perm (.swap _ _ _)
  (refine st_op hA rfl rfl (by decide) (op_call rfl rfl rfl (ralloc_f hH hok.Ok)) ?_; clear hA hH; rintro _ w ⟨rfl, hH⟩ a hA)
  replace hH := hH.perm (.swap _ _ _)
  rcases alloc_both hok k z with ⟨e, he, h1, h2⟩ | ⟨s', o, h1, h2, h3, h4, h5, h6, h7, h8⟩
  · rw [h1]
    rw [h2] at hA hH
    dsimp only at hA hH ⊢
    repeat' (first | (first | (refine GT ?_ ?_ <;> intro hg <;> clear hA a <;> intro a hA <;> (first | exact FA | replace hg := of_decide_eq_true hg | replace hg := of_decide_eq_false hg | skip)) | (refine QT ?_; clear hA a; intro a hA) | (first | (refine BT ?_; clear hA hH; rintro _ w ⟨bN, rfl, hH⟩ a hA) | (refine LT ?_; clear hA hH; rintro _ w ⟨oN, rfl, hH⟩ a hA) | (refine AT ?_; clear hA; rintro _ w ⟨oN, cN, rfl, hH2⟩ a hA; clear hH; have hH := (hH2 _ (by (repeat constructor))).tail; clear hH2) | (refine S0T ?_; clear hH; rintro _ w hH) )) | ((first | refine CT ?_ | (refine DT ?_ ?_ <;> intro hc <;> try (exfalso; omega))) <;> repeat' refine CT ?_) | (first | (refine DSK ?_; clear hA a; intro a hA) | (first | (refine DLT ?_; clear hA hH; rintro _ w ⟨oN, rfl, hH⟩; refine ⟨STT, ?_⟩; intro a hA) | (refine DAT ?_; clear hA; rintro _ w ⟨oN, cN, rfl, hH2⟩; clear hH; have hH := (hH2 _ (by (repeat constructor))).tail; clear hH2; refine ⟨STT, ?_⟩; intro a hA))) )
    exact rt2 (.inl rfl) rfl hA rfl rfl ⟨rfl, hH⟩
  rw [h1]
  rw [h2] at hA hH
  dsimp only at hA hH ⊢
  by_cases hc : s.ph = 1 ∨ s.ph = 2 ∧ s.pl ≤ o.a
  · rw [if_pos hc] at h8
    obtain ⟨q, hd, hH2⟩ := gd_open hH
    clear hH
    have hH := hH2
    clear hH2
    unfold gdQ at hH
    have hBle := hd.Ble hok
    have hd2 := hd.alloc (N := N) h6 h7 h8
    have hl1 : q.B.length + 1 = (q.B ++ [o.a]).length := by rw [List.length_append]; rfl
    repeat' (first | (first | (refine GT ?_ ?_ <;> intro hg <;> clear hA a <;> intro a hA <;> (first | exact FA | replace hg := of_decide_eq_true hg | replace hg := of_decide_eq_false hg | skip)) | (refine QT ?_; clear hA a; intro a hA) | (first | (refine BT ?_; clear hA hH; rintro _ w ⟨bN, rfl, hH⟩ a hA) | (refine LT ?_; clear hA hH; rintro _ w ⟨oN, rfl, hH⟩ a hA) | (refine AT ?_; clear hA; rintro _ w ⟨oN, cN, rfl, hH2⟩ a hA; clear hH; have hH := (hH2 _ (by (repeat constructor))).tail; clear hH2) | (refine S0T ?_; clear hH; rintro _ w hH) | (apply st_op0 hA rfl rfl; apply op_store_fld; rfl; rfl; rfl; exact hH; (repeat constructor); (repeat rfl); clear hH; rintro _ w hH))) | ((first | refine CT ?_ | (refine DT ?_ ?_ <;> intro hc <;> try (exfalso; omega))) <;> repeat' refine CT ?_) | (first | (refine DSK ?_; clear hA a; intro a hA) | (first | (refine DLT ?_; clear hA hH; rintro _ w ⟨oN, rfl, hH⟩; refine ⟨STT, ?_⟩; intro a hA) | (refine DAT ?_; clear hA; rintro _ w ⟨oN, cN, rfl, hH2⟩; clear hH; have hH := (hH2 _ (by (repeat constructor))).tail; clear hH2; refine ⟨STT, ?_⟩; intro a hA))) )
    all_goals
      rw [snocN, hl1] at hH
      refine rt2 (.inl rfl) rfl hA rfl rfl ⟨rfl, ?_⟩
      refine gd_shut ⟨q.G, q.B ++ [o.a], q.oG, q.cG, oN, cN⟩ hd2 ?_
      unfold gdQ
      rw [h4, h5]
      exact hH.perm (by (repeat (first | exact List.Perm.nil | refine perm_pick 0 rfl ?_ | refine perm_pick 1 rfl ?_ | refine perm_pick 2 rfl ?_ | refine perm_pick 3 rfl ?_ | refine perm_pick 4 rfl ?_ | refine perm_pick 5 rfl ?_ | refine perm_pick 6 rfl ?_ | refine perm_pick 7 rfl ?_ | refine perm_pick 8 rfl ?_ | refine perm_pick 9 rfl ?_ | refine perm_pick 10 rfl ?_ | refine perm_pick 11 rfl ?_)))
  · rw [if_neg hc] at h8
    replace hH := gd_eq (s' := s') hH (fun b => by by_cases hb : b = o.a; subst hb; omega; exact h7 b hb) h4 h5
    rw [← h4, ← h5] at hc
    repeat' (first | (first | (refine GT ?_ ?_ <;> intro hg <;> clear hA a <;> intro a hA <;> (first | exact FA | replace hg := of_decide_eq_true hg | replace hg := of_decide_eq_false hg | skip)) | ((first | apply st_ex hA hH rfl rfl (by decide) | apply dr_ex hA rfl rfl rfl (by decide) | apply dr_exp hA rfl rfl rfl (by decide) | apply dr_ex3 hA hH rfl rfl rfl (by decide)); (first | (apply ex_load; rfl; exact dcl_p MEMT) | (apply ex_load; rfl; exact dcl_l MEMT)); clear hA a; intro a hA) | (refine QT ?_; clear hA a; intro a hA) | (first | (refine BT ?_; clear hA hH; rintro _ w ⟨bN, rfl, hH⟩ a hA) | (refine LT ?_; clear hA hH; rintro _ w ⟨oN, rfl, hH⟩ a hA) | (refine AT ?_; clear hA; rintro _ w ⟨oN, cN, rfl, hH2⟩ a hA; clear hH; have hH := (hH2 _ (by (repeat constructor))).tail; clear hH2) | (refine S0T ?_; clear hH; rintro _ w hH) )) | ((first | refine CT ?_ | (refine DT ?_ ?_ <;> intro hc <;> try (exfalso; omega))) <;> repeat' refine CT ?_) | (first | (refine DSK ?_; clear hA a; intro a hA) | (first | (refine DLT ?_; clear hA hH; rintro _ w ⟨oN, rfl, hH⟩; refine ⟨STT, ?_⟩; intro a hA) | (refine DAT ?_; clear hA; rintro _ w ⟨oN, cN, rfl, hH2⟩; clear hH; have hH := (hH2 _ (by (repeat constructor))).tail; clear hH2; refine ⟨STT, ?_⟩; intro a hA))) )
    all_goals exact rt2 (.inl rfl) rfl hA rfl rfl ⟨rfl, hH⟩
theorem dalloc_f {w0 w : World} {M : Nat → Prop} {H : List It} {bd b2 N : Nat} {s : GS} {L : List Ob} {k z : Int} (hH : HS w0 M (gdI bd b2 s :: rfI b2 N L :: H) w) (hok : GOk N s) (hL : s.L = L) :
    Ret Try.prog 13 #[.pointer (some (bat bd 0)), .int .i64 k, .int .i64 z] w (fun v w' => v = .tuple #[.int .i64 (allocG N s k z).1, .int .i64 (allocG N s k z).2.1] ∧ HS w0 M (gdI bd b2 (allocG N s k z).2.2 :: rfI b2 N (allocG N s k z).2.2.L :: H) w') := by
  subst hL
  obtain ⟨Mc, h1, -, h2⟩ := HS.frame (Hc := [gdI bd b2 s, rfI b2 N s.L]) (Hf := H) hH
  exact (dalloc_spec w Mc bd b2 N s k z hok h1).mono fun v w' ⟨h3, h4⟩ => ⟨h3, h2 _ _ h4⟩

set_option maxHeartbeats 4000000 in
theorem dwrite_spec (w0 : World) (M : Nat → Prop) (bd b2 N : Nat) (s : GS) (z i x : Int) (hok : GOk N s) (hH : HS w0 M [gdI bd b2 s, rfI b2 N s.L] w0) :
    Ret Try.prog 15 #[.pointer (some (bat bd 0)), .int .i64 z, .int .i64 i, .int .u64 x] w0 (fun v w => v = .int .i64 (writeG s z i x).1 ∧ HS w0 M [gdI bd b2 (writeG s z i x).2, rfI b2 N (writeG s z i x).2.L] w) := by
  have hn2 := hok.n2
  have hlen := hok.lay.len
  (refine enter (N := 59) Try.func15 rfl Try.ntmps15 rfl ?_; intro a hA; dsimp only [sl0, Nat.reduceAdd] at hA)
  repeat' (first | (first | (refine GT ?_ ?_ <;> intro hg <;> clear hA a <;> intro a hA <;> (first | exact FA | replace hg := of_decide_eq_true hg | replace hg := of_decide_eq_false hg | skip)) | ((first | apply st_ex hA hH rfl rfl (by decide) | apply dr_ex hA rfl rfl rfl (by decide) | apply dr_exp hA rfl rfl rfl (by decide) | apply dr_ex3 hA hH rfl rfl rfl (by decide)); (first | (apply ex_load; rfl; exact dcl_h MEMT)); clear hA a; intro a hA) | (refine QT ?_; clear hA a; intro a hA) | (first | (refine BT ?_; clear hA hH; rintro _ w ⟨bN, rfl, hH⟩ a hA) | (refine LT ?_; clear hA hH; rintro _ w ⟨oN, rfl, hH⟩ a hA) | (refine AT ?_; clear hA; rintro _ w ⟨oN, cN, rfl, hH2⟩ a hA; clear hH; have hH := (hH2 _ (by (repeat constructor))).tail; clear hH2) | (refine S0T ?_; clear hH; rintro _ w hH) )) | ((first | refine CT ?_ | (refine DT ?_ ?_ <;> intro hc <;> try (exfalso; omega))) <;> repeat' refine CT ?_) | (first | (refine DSK ?_; clear hA a; intro a hA) | (first | (refine DLT ?_; clear hA hH; rintro _ w ⟨oN, rfl, hH⟩; refine ⟨STT, ?_⟩; intro a hA) | (refine DAT ?_; clear hA; rintro _ w ⟨oN, cN, rfl, hH2⟩; clear hH; have hH := (hH2 _ (by (repeat constructor))).tail; clear hH2; refine ⟨STT, ?_⟩; intro a hA))) )
  (refine st_op hA rfl rfl (by decide) (op_call rfl rfl rfl (rget_f hH (by exact MEMT) hok.Ok)) ?_; clear hA hH; rintro _ w ⟨rfl, hH⟩ a hA)
  rw [write_is]
  rcases get_cases hok.lay z i x with ⟨e, he, h1, h2⟩ | ⟨o, j, y, ho, rfl, rfl, hy, h1, h2⟩
  · rw [h1] at hA ⊢
    dsimp only at hA ⊢
    rw [if_neg he]
    repeat' (first | (first | (refine GT ?_ ?_ <;> intro hg <;> clear hA a <;> intro a hA <;> (first | exact FA | replace hg := of_decide_eq_true hg | replace hg := of_decide_eq_false hg | skip)) | (refine QT ?_; clear hA a; intro a hA) | (first | (refine BT ?_; clear hA hH; rintro _ w ⟨bN, rfl, hH⟩ a hA) | (refine LT ?_; clear hA hH; rintro _ w ⟨oN, rfl, hH⟩ a hA) | (refine AT ?_; clear hA; rintro _ w ⟨oN, cN, rfl, hH2⟩ a hA; clear hH; have hH := (hH2 _ (by (repeat constructor))).tail; clear hH2) | (refine S0T ?_; clear hH; rintro _ w hH) )) | ((first | refine CT ?_ | (refine DT ?_ ?_ <;> intro hc <;> try (exfalso; omega))) <;> repeat' refine CT ?_) | (first | (refine DSK ?_; clear hA a; intro a hA) | (first | (refine DLT ?_; clear hA hH; rintro _ w ⟨oN, rfl, hH⟩; refine ⟨STT, ?_⟩; intro a hA) | (refine DAT ?_; clear hA; rintro _ w ⟨oN, cN, rfl, hH2⟩; clear hH; have hH := (hH2 _ (by (repeat constructor))).tail; clear hH2; refine ⟨STT, ?_⟩; intro a hA))) )
    exact rt1 (.inl rfl) rfl hA rfl ⟨rfl, hH⟩
  rw [h1] at hA ⊢
  rw [h2]
  dsimp only at hA ⊢
  rw [if_pos rfl, Int.toNat_natCast, (fsA_at hok.lay ho).2]
  dsimp only
  repeat' (first | (first | (refine GT ?_ ?_ <;> intro hg <;> clear hA a <;> intro a hA <;> (first | exact FA | replace hg := of_decide_eq_true hg | replace hg := of_decide_eq_false hg | skip)) | (refine QT ?_; clear hA a; intro a hA) | (first | (refine BT ?_; clear hA hH; rintro _ w ⟨bN, rfl, hH⟩ a hA) | (refine LT ?_; clear hA hH; rintro _ w ⟨oN, rfl, hH⟩ a hA) | (refine AT ?_; clear hA; rintro _ w ⟨oN, cN, rfl, hH2⟩ a hA; clear hH; have hH := (hH2 _ (by (repeat constructor))).tail; clear hH2) | (refine S0T ?_; clear hH; rintro _ w hH) )) | ((first | refine CT ?_ | (refine DT ?_ ?_ <;> intro hc <;> try (exfalso; omega))) <;> repeat' refine CT ?_) | (first | (refine DSK ?_; clear hA a; intro a hA) | (first | (refine DLT ?_; clear hA hH; rintro _ w ⟨oN, rfl, hH⟩; refine ⟨STT, ?_⟩; intro a hA) | (refine DAT ?_; clear hA; rintro _ w ⟨oN, cN, rfl, hH2⟩; clear hH; have hH := (hH2 _ (by (repeat constructor))).tail; clear hH2; refine ⟨STT, ?_⟩; intro a hA))) )
  by_cases hp : s.ph = 1
  rotate_left
  · rw [if_neg (fun h => hp h.1)]
    (refine wp_draw_HS [(0, 1), (1, 1), (2, 1), (3, 1), (4, 1), (5, 1), (6, 1), (7, 1), (8, 1), (9, 1), (10, 1), (11, 1), (12, 1), (13, 1), (14, 1), (15, 1), (16, 1), (17, 1), (18, 0), (19, 1), (20, 1), (21, 1), (22, 1), (23, 2)] mixed (by decide +kernel) hH ?_; replace hH := hH.drew)
    repeat' (first | (first | (refine GT ?_ ?_ <;> intro hg <;> clear hA a <;> intro a hA <;> (first | exact FA | replace hg := of_decide_eq_true hg | replace hg := of_decide_eq_false hg | skip)) | ((first | apply st_ex hA hH rfl rfl (by decide) | apply dr_ex hA rfl rfl rfl (by decide) | apply dr_exp hA rfl rfl rfl (by decide) | apply dr_ex3 hA hH rfl rfl rfl (by decide)); (first | (apply ex_load; rfl; exact dcl_h MEMT) | (apply ex_load; rfl; exact dcl_p MEMT)); clear hA a; intro a hA) | (refine QT ?_; clear hA a; intro a hA) | (first | (refine BT ?_; clear hA hH; rintro _ w ⟨bN, rfl, hH⟩ a hA) | (refine LT ?_; clear hA hH; rintro _ w ⟨oN, rfl, hH⟩ a hA) | (refine AT ?_; clear hA; rintro _ w ⟨oN, cN, rfl, hH2⟩ a hA; clear hH; have hH := (hH2 _ (by (repeat constructor))).tail; clear hH2) | (refine S0T ?_; clear hH; rintro _ w hH) )) | ((first | refine CT ?_ | (refine DT ?_ ?_ <;> intro hc <;> try (exfalso; omega))) <;> repeat' refine CT ?_) | (first | (refine DSK ?_; clear hA a; intro a hA) | (first | (refine DLT ?_; clear hA hH; rintro _ w ⟨oN, rfl, hH⟩; refine ⟨STT, ?_⟩; intro a hA) | (refine DAT ?_; clear hA; rintro _ w ⟨oN, cN, rfl, hH2⟩; clear hH; have hH := (hH2 _ (by (repeat constructor))).tail; clear hH2; refine ⟨STT, ?_⟩; intro a hA))) )
    replace hH := hH.perm (.swap _ _ _)
    (refine st_op hA rfl rfl (by decide) (op_call rfl rfl rfl (rset_f hH hok.Ok)) ?_; clear hA hH; rintro _ w ⟨rfl, hH⟩ a hA)
    rw [h2] at hA hH
    replace hH := hH.perm (.swap _ _ _)
    repeat' (first | (first | (refine GT ?_ ?_ <;> intro hg <;> clear hA a <;> intro a hA <;> (first | exact FA | replace hg := of_decide_eq_true hg | replace hg := of_decide_eq_false hg | skip)) | (refine QT ?_; clear hA a; intro a hA) | (first | (refine BT ?_; clear hA hH; rintro _ w ⟨bN, rfl, hH⟩ a hA) | (refine LT ?_; clear hA hH; rintro _ w ⟨oN, rfl, hH⟩ a hA) | (refine AT ?_; clear hA; rintro _ w ⟨oN, cN, rfl, hH2⟩ a hA; clear hH; have hH := (hH2 _ (by (repeat constructor))).tail; clear hH2) | (refine S0T ?_; clear hH; rintro _ w hH) )) | ((first | refine CT ?_ | (refine DT ?_ ?_ <;> intro hc <;> try (exfalso; omega))) <;> repeat' refine CT ?_) | (first | (refine DSK ?_; clear hA a; intro a hA) | (first | (refine DLT ?_; clear hA hH; rintro _ w ⟨oN, rfl, hH⟩; refine ⟨STT, ?_⟩; intro a hA) | (refine DAT ?_; clear hA; rintro _ w ⟨oN, cN, rfl, hH2⟩; clear hH; have hH := (hH2 _ (by (repeat constructor))).tail; clear hH2; refine ⟨STT, ?_⟩; intro a hA))) )
    exact rt1 (.inl rfl) rfl hA rfl ⟨rfl, gd_L hH⟩
  obtain ⟨q2, hp2, hH2⟩ := rf_open (hH.perm (.swap _ _ _))
  have hq := rfQ_read hp2 hH2
  obtain ⟨j', hj, hLj⟩ := find_ob hok.lay ho
  obtain ⟨d, cd, hd1, hrd0, ca, ck, cf⟩ := hq.at hLj
  have hspq := hq.sp
  have hjl := (List.getElem?_eq_some_iff.1 hLj).1
  replace hH : HS w0 M [cb b2 73 [.int .i64 N, .slice q2.o s.L.length q2.c], own 70 3 q2.o s.L.length q2.c (flat encO (s.L.zip q2.ds)), all (owns 33 1 encW q2.ds (s.L.map (·.fs))), gdI bd b2 s] w := hH2
  clear hH2
  (refine wp_draw_HS [(0, 1), (1, 1), (2, 1), (3, 1), (4, 1), (5, 1), (6, 1), (7, 1), (8, 1), (9, 1), (10, 1), (11, 1), (12, 1), (13, 1), (14, 1), (15, 1), (16, 1), (17, 1), (18, 0), (19, 1), (20, 1), (21, 1), (22, 1), (23, 2)] mixed (by decide +kernel) hH ?_; replace hH := hH.drew)
  repeat' (first | (first | (refine GT ?_ ?_ <;> intro hg <;> clear hA a <;> intro a hA <;> (first | exact FA | replace hg := of_decide_eq_true hg | replace hg := of_decide_eq_false hg | skip)) | ((first | apply st_ex hA hH rfl rfl (by decide) | apply dr_ex hA rfl rfl rfl (by decide) | apply dr_exp hA rfl rfl rfl (by decide) | apply dr_ex3 hA hH rfl rfl rfl (by decide)); (first | (apply ex_load; rfl; exact dcl_h MEMT) | (apply ex_load; rfl; exact dcl_p MEMT)); clear hA a; intro a hA) | (refine QT ?_; clear hA a; intro a hA) | (first | (refine BT ?_; clear hA hH; rintro _ w ⟨bN, rfl, hH⟩ a hA) | (refine LT ?_; clear hA hH; rintro _ w ⟨oN, rfl, hH⟩ a hA) | (refine AT ?_; clear hA; rintro _ w ⟨oN, cN, rfl, hH2⟩ a hA; clear hH; have hH := (hH2 _ (by (repeat constructor))).tail; clear hH2) | (refine S0T ?_; clear hH; rintro _ w hH) )) | ((first | refine CT ?_ | (refine DT ?_ ?_ <;> intro hc <;> try (exfalso; omega))) <;> repeat' refine CT ?_) | (first | (refine DSK ?_; clear hA a; intro a hA) | (first | (refine DLT ?_; clear hA hH; rintro _ w ⟨oN, rfl, hH⟩; refine ⟨STT, ?_⟩; intro a hA) | (refine DAT ?_; clear hA; rintro _ w ⟨oN, cN, rfl, hH2⟩; clear hH; have hH := (hH2 _ (by (repeat constructor))).tail; clear hH2; refine ⟨STT, ?_⟩; intro a hA))) )
  (refine dr_op hA rfl rfl rfl (by decide) (op_call rfl rfl rfl (rfind_spec _ b2 N s.L _ (by omega) ⟨q2, rfQ_read hp2 (H := [gdI bd b2 s]) hH⟩)) ?_; clear hA; rintro _ w ⟨rfl, hk⟩; replace hH := hH.keep hk; clear hk; refine ⟨STT, ?_⟩; intro a hA)
  rw [hj] at hA
  by_cases hk1 : o.kind = 1
  · rw [if_neg (fun h => h.2 hk1)]
    repeat' (first | (first | (refine GT ?_ ?_ <;> intro hg <;> clear hA a <;> intro a hA <;> (first | exact FA | replace hg := of_decide_eq_true hg | replace hg := of_decide_eq_false hg | skip)) | ((first | apply st_ex hA hH rfl rfl (by decide) | apply dr_ex hA rfl rfl rfl (by decide) | apply dr_exp hA rfl rfl rfl (by decide) | apply dr_ex3 hA hH rfl rfl rfl (by decide)); (first | (apply ex_load; rfl; exact dcl_h MEMT)); clear hA a; intro a hA) | (refine QT ?_; clear hA a; intro a hA) | (first | (refine BT ?_; clear hA hH; rintro _ w ⟨bN, rfl, hH⟩ a hA) | (refine LT ?_; clear hA hH; rintro _ w ⟨oN, rfl, hH⟩ a hA) | (refine AT ?_; clear hA; rintro _ w ⟨oN, cN, rfl, hH2⟩ a hA; clear hH; have hH := (hH2 _ (by (repeat constructor))).tail; clear hH2) | (refine S0T ?_; clear hH; rintro _ w hH) )) | ((first | refine CT ?_ | (refine DT ?_ ?_ <;> intro hc <;> try (exfalso; omega))) <;> repeat' refine CT ?_) | (first | (refine DSK ?_; clear hA a; intro a hA) | (first | (refine DLT ?_; clear hA hH; rintro _ w ⟨oN, rfl, hH⟩; refine ⟨STT, ?_⟩; intro a hA) | (refine DAT ?_; clear hA; rintro _ w ⟨oN, cN, rfl, hH2⟩; clear hH; have hH := (hH2 _ (by (repeat constructor))).tail; clear hH2; refine ⟨STT, ?_⟩; intro a hA))) )
    replace hH : HS w0 M [rfI b2 N s.L, gdI bd b2 s] w := rf_shut q2 hp2 hH
    repeat' (first | (first | (refine GT ?_ ?_ <;> intro hg <;> clear hA a <;> intro a hA <;> (first | exact FA | replace hg := of_decide_eq_true hg | replace hg := of_decide_eq_false hg | skip)) | (refine QT ?_; clear hA a; intro a hA) | (first | (refine BT ?_; clear hA hH; rintro _ w ⟨bN, rfl, hH⟩ a hA) | (refine LT ?_; clear hA hH; rintro _ w ⟨oN, rfl, hH⟩ a hA) | (refine AT ?_; clear hA; rintro _ w ⟨oN, cN, rfl, hH2⟩ a hA; clear hH; have hH := (hH2 _ (by (repeat constructor))).tail; clear hH2) | (refine S0T ?_; clear hH; rintro _ w hH) )) | ((first | refine CT ?_ | (refine DT ?_ ?_ <;> intro hc <;> try (exfalso; omega))) <;> repeat' refine CT ?_) | (first | (refine DSK ?_; clear hA a; intro a hA) | (first | (refine DLT ?_; clear hA hH; rintro _ w ⟨oN, rfl, hH⟩; refine ⟨STT, ?_⟩; intro a hA) | (refine DAT ?_; clear hA; rintro _ w ⟨oN, cN, rfl, hH2⟩; clear hH; have hH := (hH2 _ (by (repeat constructor))).tail; clear hH2; refine ⟨STT, ?_⟩; intro a hA))) )
    (refine st_op hA rfl rfl (by decide) (op_call rfl rfl rfl (rset_f hH hok.Ok)) ?_; clear hA hH; rintro _ w ⟨rfl, hH⟩ a hA)
    rw [h2] at hA hH
    replace hH := hH.perm (.swap _ _ _)
    repeat' (first | (first | (refine GT ?_ ?_ <;> intro hg <;> clear hA a <;> intro a hA <;> (first | exact FA | replace hg := of_decide_eq_true hg | replace hg := of_decide_eq_false hg | skip)) | (refine QT ?_; clear hA a; intro a hA) | (first | (refine BT ?_; clear hA hH; rintro _ w ⟨bN, rfl, hH⟩ a hA) | (refine LT ?_; clear hA hH; rintro _ w ⟨oN, rfl, hH⟩ a hA) | (refine AT ?_; clear hA; rintro _ w ⟨oN, cN, rfl, hH2⟩ a hA; clear hH; have hH := (hH2 _ (by (repeat constructor))).tail; clear hH2) | (refine S0T ?_; clear hH; rintro _ w hH) )) | ((first | refine CT ?_ | (refine DT ?_ ?_ <;> intro hc <;> try (exfalso; omega))) <;> repeat' refine CT ?_) | (first | (refine DSK ?_; clear hA a; intro a hA) | (first | (refine DLT ?_; clear hA hH; rintro _ w ⟨oN, rfl, hH⟩; refine ⟨STT, ?_⟩; intro a hA) | (refine DAT ?_; clear hA; rintro _ w ⟨oN, cN, rfl, hH2⟩; clear hH; have hH := (hH2 _ (by (repeat constructor))).tail; clear hH2; refine ⟨STT, ?_⟩; intro a hA))) )
    exact rt1 (.inl rfl) rfl hA rfl ⟨rfl, gd_L hH⟩
  · rw [if_pos ⟨hp, hk1⟩]
    repeat' (first | (first | (refine GT ?_ ?_ <;> intro hg <;> clear hA a <;> intro a hA <;> (first | exact FA | replace hg := of_decide_eq_true hg | replace hg := of_decide_eq_false hg | skip)) | (refine QT ?_; clear hA a; intro a hA) | (first | (refine BT ?_; clear hA hH; rintro _ w ⟨bN, rfl, hH⟩ a hA) | (refine LT ?_; clear hA hH; rintro _ w ⟨oN, rfl, hH⟩ a hA) | (refine AT ?_; clear hA; rintro _ w ⟨oN, cN, rfl, hH2⟩ a hA; clear hH; have hH := (hH2 _ (by (repeat constructor))).tail; clear hH2) | (refine S0T ?_; clear hH; rintro _ w hH) )) | ((first | refine CT ?_ | (refine DT ?_ ?_ <;> intro hc <;> try (exfalso; omega))) <;> repeat' refine CT ?_) | (first | (refine DSK ?_; clear hA a; intro a hA) | (first | (refine DLT ?_; clear hA hH; rintro _ w ⟨oN, rfl, hH⟩; refine ⟨STT, ?_⟩; intro a hA) | (refine DAT ?_; clear hA; rintro _ w ⟨oN, cN, rfl, hH2⟩; clear hH; have hH := (hH2 _ (by (repeat constructor))).tail; clear hH2; refine ⟨STT, ?_⟩; intro a hA))) )
    replace hH : HS w0 M [gdI bd b2 s, rfI b2 N s.L] w := (rf_shut q2 hp2 hH).perm (.swap _ _ _)
    (refine st_op hA rfl rfl (by decide) (op_call rfl rfl rfl (dshade_f hH hok (hok.us o ho y (List.mem_of_getElem? hy)) rfl)) ?_; clear hA hH; rintro _ w hH a hA)
    repeat' (first | (first | (refine GT ?_ ?_ <;> intro hg <;> clear hA a <;> intro a hA <;> (first | exact FA | replace hg := of_decide_eq_true hg | replace hg := of_decide_eq_false hg | skip)) | ((first | apply st_ex hA hH rfl rfl (by decide) | apply dr_ex hA rfl rfl rfl (by decide) | apply dr_exp hA rfl rfl rfl (by decide) | apply dr_ex3 hA hH rfl rfl rfl (by decide)); (first | (apply ex_load; rfl; exact dcl_h MEMT)); clear hA a; intro a hA) | (refine QT ?_; clear hA a; intro a hA) | (first | (refine BT ?_; clear hA hH; rintro _ w ⟨bN, rfl, hH⟩ a hA) | (refine LT ?_; clear hA hH; rintro _ w ⟨oN, rfl, hH⟩ a hA) | (refine AT ?_; clear hA; rintro _ w ⟨oN, cN, rfl, hH2⟩ a hA; clear hH; have hH := (hH2 _ (by (repeat constructor))).tail; clear hH2) | (refine S0T ?_; clear hH; rintro _ w hH) )) | ((first | refine CT ?_ | (refine DT ?_ ?_ <;> intro hc <;> try (exfalso; omega))) <;> repeat' refine CT ?_) | (first | (refine DSK ?_; clear hA a; intro a hA) | (first | (refine DLT ?_; clear hA hH; rintro _ w ⟨oN, rfl, hH⟩; refine ⟨STT, ?_⟩; intro a hA) | (refine DAT ?_; clear hA; rintro _ w ⟨oN, cN, rfl, hH2⟩; clear hH; have hH := (hH2 _ (by (repeat constructor))).tail; clear hH2; refine ⟨STT, ?_⟩; intro a hA))) )
    replace hH := hH.perm (.swap _ _ _)
    (refine st_op hA rfl rfl (by decide) (op_call rfl rfl rfl (rset_f hH hok.Ok)) ?_; clear hA hH; rintro _ w ⟨rfl, hH⟩ a hA)
    rw [h2] at hA hH
    replace hH := hH.perm (.swap _ _ _)
    repeat' (first | (first | (refine GT ?_ ?_ <;> intro hg <;> clear hA a <;> intro a hA <;> (first | exact FA | replace hg := of_decide_eq_true hg | replace hg := of_decide_eq_false hg | skip)) | (refine QT ?_; clear hA a; intro a hA) | (first | (refine BT ?_; clear hA hH; rintro _ w ⟨bN, rfl, hH⟩ a hA) | (refine LT ?_; clear hA hH; rintro _ w ⟨oN, rfl, hH⟩ a hA) | (refine AT ?_; clear hA; rintro _ w ⟨oN, cN, rfl, hH2⟩ a hA; clear hH; have hH := (hH2 _ (by (repeat constructor))).tail; clear hH2) | (refine S0T ?_; clear hH; rintro _ w hH) )) | ((first | refine CT ?_ | (refine DT ?_ ?_ <;> intro hc <;> try (exfalso; omega))) <;> repeat' refine CT ?_) | (first | (refine DSK ?_; clear hA a; intro a hA) | (first | (refine DLT ?_; clear hA hH; rintro _ w ⟨oN, rfl, hH⟩; refine ⟨STT, ?_⟩; intro a hA) | (refine DAT ?_; clear hA; rintro _ w ⟨oN, cN, rfl, hH2⟩; clear hH; have hH := (hH2 _ (by (repeat constructor))).tail; clear hH2; refine ⟨STT, ?_⟩; intro a hA))) )
    exact rt1 (.inl rfl) rfl hA rfl ⟨rfl, gd_L hH⟩
theorem dwrite_f {w0 w : World} {M : Nat → Prop} {H : List It} {bd b2 N : Nat} {s : GS} {L : List Ob} {z i x : Int} (hH : HS w0 M (gdI bd b2 s :: rfI b2 N L :: H) w) (hok : GOk N s) (hL : s.L = L) :
    Ret Try.prog 15 #[.pointer (some (bat bd 0)), .int .i64 z, .int .i64 i, .int .u64 x] w (fun v w' => v = .int .i64 (writeG s z i x).1 ∧ HS w0 M (gdI bd b2 (writeG s z i x).2 :: rfI b2 N (writeG s z i x).2.L :: H) w') := by
  subst hL
  obtain ⟨Mc, h1, -, h2⟩ := HS.frame (Hc := [gdI bd b2 s, rfI b2 N s.L]) (Hf := H) hH
  exact (dwrite_spec w Mc bd b2 N s z i x hok h1).mono fun v w' ⟨h3, h4⟩ => ⟨h3, h2 _ _ h4⟩
end Go.Proofs.Ytejpcidfigmnkaa
