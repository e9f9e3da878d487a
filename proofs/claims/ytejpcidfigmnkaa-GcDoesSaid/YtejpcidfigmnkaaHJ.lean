/-
  The walk over Free. Conditions: none.
-/
import Derived.Test.YtejpcidfigmnkaaHI
namespace Go.Proofs.Ytejpcidfigmnkaa
open Go Go.Fw
set_option linter.unusedVariables false
theorem gaps_rising {N p : Nat} {L : List Ob} (h : Lay N p L) (hN : N ≤ 65536) : Rising (gaps N p L) := by
  refine ⟨fun r hr => ?_, fun k k' r r' hkk hr hr' => ?_⟩
  · have := gaps_mem h r hr
    omega
  · have h1 := gaps_pair h
    have hk := (List.getElem?_eq_some_iff.1 hr)
    have hk' := (List.getElem?_eq_some_iff.1 hr')
    have := List.pairwise_iff_getElem.1 h1 k k' hk.1 hk'.1 hkk
    rw [hk.2, hk'.2] at this
    exact this
theorem pos_mid {G1 G2 : List (Int × Int)} {t : Int} {i : Nat} (h1 : ∀ r ∈ G1, r.1 < t) (h2 : ∀ r ∈ G2, t ≤ r.1) (h : Pos (G1 ++ G2) t i) : i = G1.length := by
  obtain ⟨hl, ha, hb⟩ := h
  rcases Nat.lt_trichotomy i G1.length with hi | hi | hi
  · have e : (G1 ++ G2)[i]? = some (G1[i]) := by rw [List.getElem?_append_left hi, List.getElem?_eq_getElem hi]
    have := hb i _ (Nat.le_refl _) e
    have := h1 _ (List.getElem_mem hi)
    omega
  · exact hi
  · rw [List.length_append] at hl
    have hG : 0 < G2.length := by omega
    have e : (G1 ++ G2)[G1.length]? = some (G2[0]) := by rw [List.getElem?_append_right (Nat.le_refl _), Nat.sub_self, List.getElem?_eq_getElem hG]
    have := ha _ _ hi e
    have := h2 _ (List.getElem_mem hG)
    omega
set_option maxRecDepth 10000 attribute [local irreducible] Code.wp wpList Calls Ex Op1 sat bat blk cb own Go.Fw.mp Go.Fw.mpO Go.Fw.mpI Go.Fw.mpE Go.Fw.itr HS Rd Ret wkD Hp Cl Cls Exit.then Exit.inBlock Exit.noGoto bodyPost Go.Fw.flat wk2 Go.Fw.all Go.Fw.owns wpOp
attribute [local irreducible] hdA gaps isA

set_option maxHeartbeats 4000000 in
theorem free_spec (w0 : World) (M : Nat → Prop) (b N : Nat) (L : List Ob) (z : Int) (hH : HS w0 M [hpI b N L] w0) :
    Ret Try.prog 49 #[.pointer (some (bat b 0)), .int .i64 z] w0 (fun v w => v = .int .i64 (freeA L z).1 ∧ HS w0 M [hpI b N (freeA L z).2] w) := by
  (refine enter (N := 137) Try.func49 rfl Try.ntmps49 rfl ?_; intro a hA; dsimp only [sl0, Nat.reduceAdd] at hA)
  repeat' (first | (first | (refine GT ?_ ?_ <;> intro hg <;> clear hA a <;> intro a hA <;> (first | exact FA | replace hg := of_decide_eq_true hg | replace hg := of_decide_eq_false hg | skip)) | (refine QT0 ?_; clear hA a; intro a hA) | (first | (refine BT ?_; clear hA hH; rintro _ w ⟨bN, rfl, hH⟩ a hA) | (refine LT ?_; clear hA hH; rintro _ w ⟨oN, rfl, hH⟩ a hA) | (refine AT ?_; clear hA; rintro _ w ⟨oN, cN, rfl, hH2⟩ a hA; clear hH; have hH := (hH2 _ (by (repeat constructor))).tail; clear hH2) | (refine S0T ?_; clear hH; rintro _ w hH) )) | ((first | refine CT ?_ | (refine DT ?_ ?_ <;> intro hc <;> try (exfalso; omega))) <;> repeat' refine CT ?_) | (first | (refine DSK ?_; clear hA a; intro a hA) | (first | (refine DLT ?_; clear hA hH; rintro _ w ⟨oN, rfl, hH⟩; refine ⟨STT, ?_⟩; intro a hA) | (refine DAT ?_; clear hA; rintro _ w ⟨oN, cN, rfl, hH2⟩; clear hH; have hH := (hH2 _ (by (repeat constructor))).tail; clear hH2; refine ⟨STT, ?_⟩; intro a hA))) )
  (refine st_op hA rfl rfl (by decide) (op_call rfl rfl rfl (is_spec _ b N L z (hp_read hH))) ?_; clear hA; rintro _ w ⟨rfl, hk⟩ a hA)
  replace hH := hH.keep hk
  clear hk
  cases ho : objA L z with
  | none =>
    have hfA : freeA L z = (7, L) := by simp only [freeA, ho]
    rw [objA_none ho] at hA
    rw [hfA]
    repeat' (first | (first | (refine GT ?_ ?_ <;> intro hg <;> clear hA a <;> intro a hA <;> (first | exact FA | replace hg := of_decide_eq_true hg | replace hg := of_decide_eq_false hg | skip)) | (refine QT0 ?_; clear hA a; intro a hA) | (first | (refine BT ?_; clear hA hH; rintro _ w ⟨bN, rfl, hH⟩ a hA) | (refine LT ?_; clear hA hH; rintro _ w ⟨oN, rfl, hH⟩ a hA) | (refine AT ?_; clear hA; rintro _ w ⟨oN, cN, rfl, hH2⟩ a hA; clear hH; have hH := (hH2 _ (by (repeat constructor))).tail; clear hH2) | (refine S0T ?_; clear hH; rintro _ w hH) )) | ((first | refine CT ?_ | (refine DT ?_ ?_ <;> intro hc <;> try (exfalso; omega))) <;> repeat' refine CT ?_) | (first | (refine DSK ?_; clear hA a; intro a hA) | (first | (refine DLT ?_; clear hA hH; rintro _ w ⟨oN, rfl, hH⟩; refine ⟨STT, ?_⟩; intro a hA) | (refine DAT ?_; clear hA; rintro _ w ⟨oN, cN, rfl, hH2⟩; clear hH; have hH := (hH2 _ (by (repeat constructor))).tail; clear hH2; refine ⟨STT, ?_⟩; intro a hA))) )
    exact rt1 (.inl rfl) rfl hA rfl ⟨rfl, hH⟩
  | some o =>
  obtain ⟨hx, hxz⟩ := objA_some ho
  rw [objA_is ho] at hA
  subst hxz
  obtain ⟨A, B, rfl⟩ := List.append_of_mem hx
  obtain ⟨q, hp, hH2⟩ := hp_open hH
  clear hH
  have hH := hH2
  clear hH2
  have hlay := hp.lay
  have hn2 := hp.n2
  have hhl := hp.hl
  have hkd := (hp.kd o hx).2
  have hfrl := hp.frl
  have hfA : freeA (A ++ o :: B) (o.a : Int) = (0, A ++ B) := by simp only [freeA, ho]; rw [filter_free hlay]
  rw [hfA]
  obtain ⟨hg1, hg2, hl3, hle1, hle2, hle3⟩ := free_law hlay
  have hL := left_mem hlay
  have hR := right_mem hlay
  have hT := gtl_mem hlay
  have hI := gin_mem hlay.split.1
  have hris := gaps_rising hlay hn2.2
  have hfin : o.fin = o.a + 1 + o.fs.length := rfl
  have ho1 := (hlay.mem o hx).1
  have hhd : q.hs[o.a]? = some ((o.kind : Int), (o.fs.length : Int)) := by rw [hp.hd o.a (by omega), hdA_at hlay hx]
  have hrep := rep_free hp
  unfold hpQ at hH
  simp only [List.append_nil] at hH
  rw [hg1] at hH hris hfrl
  generalize hG1 : gin 1 A ++ gap1 (endA 1 A) o.a = G1 at *
  generalize hG2 : gap1 o.fin (nxt N B) ++ gtl N B = G2 at *
  have hrl : ∀ (m : Int) (vs : List Value), vs = [.int .i64 (o.a : Int), .int .i64 m] → True := fun _ _ _ => trivial
  repeat' (first | (first | (refine GT ?_ ?_ <;> intro hg <;> clear hA a <;> intro a hA <;> (first | exact FA | replace hg := of_decide_eq_true hg | replace hg := of_decide_eq_false hg | skip)) | ((first | apply st_ex hA hH rfl rfl (by decide) | apply dr_ex hA rfl rfl rfl (by decide) | apply dr_exp hA rfl rfl rfl (by decide) | apply dr_ex3 hA hH rfl rfl rfl (by decide)); (first | (apply ex_load; rfl; exact cl_own (by exact MEMT) (encP1 hhd)) | (apply ex_build_p #[.int .i64 0, .int .i64 0]; rfl; (repeat (first | (intro _ h; exact absurd h (List.not_mem_nil)) | (refine List.forall_mem_cons.2 ⟨one_cell_of _ _, ?_⟩))); rfl)); clear hA a; intro a hA) | (refine QT0 ?_; clear hA a; intro a hA) | (first | (refine BT ?_; clear hA hH; rintro _ w ⟨bN, rfl, hH⟩ a hA) | (refine LT ?_; clear hA hH; rintro _ w ⟨oN, rfl, hH⟩ a hA) | (refine AT ?_; clear hA; rintro _ w ⟨oN, cN, rfl, hH2⟩ a hA; clear hH; have hH := (hH2 _ (by (repeat constructor))).tail; clear hH2) | (refine S0T ?_; clear hH; rintro _ w hH) | (apply st_op0 hA rfl rfl; apply op_setP (i := o.a) (m := 0) (r := 0); rfl; rfl; exact hH; (repeat constructor); omega; clear hH; rintro _ w hH) | (apply st_op0 hA rfl rfl; apply op_store_agg (vs := [.int .i64 (o.a : Int), .int .i64 ((o.fs.length : Int) + 1)]); rfl; rfl; exact hH; (repeat constructor); (repeat rfl); clear hH; rintro _ w hH))) | ((first | refine CT ?_ | (refine DT ?_ ?_ <;> intro hc <;> try (exfalso; omega))) <;> repeat' refine CT ?_) | (first | (refine DSK ?_; clear hA a; intro a hA) | (first | (refine DLT ?_; clear hA hH; rintro _ w ⟨oN, rfl, hH⟩; refine ⟨STT, ?_⟩; intro a hA) | (refine DAT ?_; clear hA; rintro _ w ⟨oN, cN, rfl, hH2⟩; clear hH; have hH := (hH2 _ (by (repeat constructor))).tail; clear hH2; refine ⟨STT, ?_⟩; intro a hA))) )
  clear hrl
  generalize hbR : bN = bR at *
  clear hbR bN
  (refine wp_draw_HS [(0, 1), (1, 1), (2, 1), (3, 1), (4, 1), (5, 1), (6, 0), (7, 2), (8, 2), (9, 2), (10, 2), (11, 2)] mixed (by decide +kernel) hH ?_; replace hH := hH.drew)
  repeat' (first | (first | (refine GT ?_ ?_ <;> intro hg <;> clear hA a <;> intro a hA <;> (first | exact FA | replace hg := of_decide_eq_true hg | replace hg := of_decide_eq_false hg | skip)) | (refine QT0 ?_; clear hA a; intro a hA) | (first | (refine BT ?_; clear hA hH; rintro _ w ⟨bN, rfl, hH⟩ a hA) | (refine LT ?_; clear hA hH; rintro _ w ⟨oN, rfl, hH⟩ a hA) | (refine AT ?_; clear hA; rintro _ w ⟨oN, cN, rfl, hH2⟩ a hA; clear hH; have hH := (hH2 _ (by (repeat constructor))).tail; clear hH2) | (refine S0T ?_; clear hH; rintro _ w hH) )) | ((first | refine CT ?_ | (refine DT ?_ ?_ <;> intro hc <;> try (exfalso; omega))) <;> repeat' refine CT ?_) | (first | (refine DSK ?_; clear hA a; intro a hA) | (first | (refine DLT ?_; clear hA hH; rintro _ w ⟨oN, rfl, hH⟩; refine ⟨STT, ?_⟩; intro a hA) | (refine DAT ?_; clear hA; rintro _ w ⟨oN, cN, rfl, hH2⟩; clear hH; have hH := (hH2 _ (by (repeat constructor))).tail; clear hH2; refine ⟨STT, ?_⟩; intro a hA))) )
  refine dr_op hA rfl rfl rfl (by decide) (op_call rfl rfl rfl (search_spec _ q.oF q.cF (G1 ++ G2) (o.a : Int) (hH.own_rd (by exact MEMT)) (by omega) hris (by omega))) ?_
  clear hA
  rintro _ w ⟨⟨i, fnd, rfl, hpos⟩, hk⟩
  replace hH := hH.keep hk
  clear hk
  refine ⟨hH, ?_⟩
  intro a hA
  obtain rfl := pos_mid hL (fun r hr => by have := hR r hr; omega) hpos
  clear hpos
  repeat' (first | (first | (refine GT ?_ ?_ <;> intro hg <;> clear hA a <;> intro a hA <;> (first | exact FA | replace hg := of_decide_eq_true hg | replace hg := of_decide_eq_false hg | skip)) | (refine QT0 ?_; clear hA a; intro a hA) | (first | (refine BT ?_; clear hA hH; rintro _ w ⟨bN, rfl, hH⟩ a hA) | (refine LT ?_; clear hA hH; rintro _ w ⟨oN, rfl, hH⟩ a hA) | (refine AT ?_; clear hA; rintro _ w ⟨oN, cN, rfl, hH2⟩ a hA; clear hH; have hH := (hH2 _ (by (repeat constructor))).tail; clear hH2) | (refine S0T ?_; clear hH; rintro _ w hH) )) | ((first | refine CT ?_ | (refine DT ?_ ?_ <;> intro hc <;> try (exfalso; omega))) <;> repeat' refine CT ?_) | (first | (refine DSK ?_; clear hA a; intro a hA) | (first | (refine DLT ?_; clear hA hH; rintro _ w ⟨oN, rfl, hH⟩; refine ⟨STT, ?_⟩; intro a hA) | (refine DAT ?_; clear hA; rintro _ w ⟨oN, cN, rfl, hH2⟩; clear hH; have hH := (hH2 _ (by (repeat constructor))).tail; clear hH2; refine ⟨STT, ?_⟩; intro a hA))) )
  generalize hTl : gtl N B = Tl at *
  have hfrl2 : (G1 ++ Tl).length ≤ 65536 := by
    rw [← hG2] at hfrl
    rw [List.length_append, List.length_append] at hfrl
    rw [List.length_append]
    omega
  refine wp_join3 (fun a w => ∃ oF cF, HS w0 M [cb bR 84 [.int .i64 (o.a : Int), .int .i64 ((nxt N B - o.a : Nat) : Int)], cb b 82 [.slice q.oC N q.cC, .slice q.oH N q.cH, .slice oF (G1 ++ Tl).length cF], own 33 1 q.oC N q.cC (flat encW q.cs), own 78 2 q.oH N q.cH (flat encP (q.hs.set o.a (0, 0))), own 84 2 oF (G1 ++ Tl).length cF (flat encP (G1 ++ Tl))] w ∧ Sl 137 [(0, .pointer (some (bat b 0))), (4, .int .i64 0), (5, .pointer (some (bat bR 0))), (6, .int .i64 (G1.length : Int))] a) ?_ ?_
  rotate_left
  · clear hA hH a
    rintro a w ⟨oF, cF, hH, hA⟩
    replace hH := hH.perm (H' := [cb bR 84 [.int .i64 (o.a : Int), .int .i64 ((nxt N B - o.a : Nat) : Int)], cb b 82 [.slice q.oC N q.cC, .slice q.oH N q.cH, .slice oF (G1 ++ Tl).length cF], own 33 1 q.oC N q.cC (flat encW q.cs), own 78 2 q.oH N q.cH (flat encP (q.hs.set o.a (0, 0))), own 84 2 oF (G1 ++ Tl).length cF (flat encP (G1 ++ Tl))]) (by (repeat (first | exact List.Perm.nil | refine perm_pick 0 rfl ?_ | refine perm_pick 1 rfl ?_ | refine perm_pick 2 rfl ?_ | refine perm_pick 3 rfl ?_ | refine perm_pick 4 rfl ?_ | refine perm_pick 5 rfl ?_ | refine perm_pick 6 rfl ?_ | refine perm_pick 7 rfl ?_ | refine perm_pick 8 rfl ?_ | refine perm_pick 9 rfl ?_ | refine perm_pick 10 rfl ?_ | refine perm_pick 11 rfl ?_)))
    repeat apply wp_seq
    refine wp_join3 (fun a w => ¬ endA 1 A < o.a ∧ HS w0 M [cb bR 84 [.int .i64 (o.a : Int), .int .i64 ((nxt N B - o.a : Nat) : Int)], cb b 82 [.slice q.oC N q.cC, .slice q.oH N q.cH, .slice oF (G1 ++ Tl).length cF], own 33 1 q.oC N q.cC (flat encW q.cs), own 78 2 q.oH N q.cH (flat encP (q.hs.set o.a (0, 0))), own 84 2 oF (G1 ++ Tl).length cF (flat encP (G1 ++ Tl))] w ∧ Sl 137 [(0, .pointer (some (bat b 0))), (5, .pointer (some (bat bR 0))), (6, .int .i64 (G1.length : Int))] a) ?_ ?_
    · by_cases he : endA 1 A < o.a
      · have hG1e : G1 = gin 1 A ++ [(((endA 1 A : Nat) : Int), ((o.a - endA 1 A : Nat) : Int))] := by rw [← hG1, gap1_pos he]
        have hk1 : G1.length = (gin 1 A).length + 1 := by rw [hG1e, List.length_append]; rfl
        have hgk : (G1 ++ Tl)[(gin 1 A).length]? = some (((endA 1 A : Nat) : Int), ((o.a - endA 1 A : Nat) : Int)) := by
          rw [hG1e, List.append_assoc, List.getElem?_append_right (Nat.le_refl _), Nat.sub_self]
          rfl
        have hkl : (gin 1 A).length < (G1 ++ Tl).length := (List.getElem?_eq_some_iff.1 hgk).1
        have hnew : (G1 ++ Tl).set (gin 1 A).length (((endA 1 A : Nat) : Int), ((o.a - endA 1 A : Nat) : Int) + ((nxt N B - o.a : Nat) : Int)) = gaps N 1 (A ++ B) := by
          rw [hg2, hG1e, List.append_assoc, List.set_append, if_neg (Nat.lt_irrefl _), Nat.sub_self]
          rw [show ((o.a - endA 1 A : Nat) : Int) + ((nxt N B - o.a : Nat) : Int) = ((nxt N B - endA 1 A : Nat) : Int) by omega]
          rfl
        have hnl : (G1 ++ Tl).length = (gaps N 1 (A ++ B)).length := by rw [← hnew, List.length_set]
        generalize hkk : (gin 1 A).length = k at *
        rw [hk1] at hA
        have hsub : ((k + 1 : Nat) : Int) - 1 = (k : Int) := by omega
        (refine wp_draw_HS [(0, 1), (1, 1), (2, 1), (3, 1), (4, 1), (5, 1), (6, 1), (7, 1), (8, 1), (9, 1), (10, 1), (11, 1), (12, 1), (13, 1), (14, 1), (15, 1), (16, 1), (17, 1), (18, 1), (19, 1), (20, 1), (21, 1), (22, 1), (23, 1), (24, 1), (25, 1)] mixed (by decide +kernel) hH ?_; replace hH := hH.drew)
        repeat' (first | (first | (refine GT ?_ ?_ <;> intro hg <;> clear hA a <;> intro a hA <;> (first | exact FA | replace hg := of_decide_eq_true hg | replace hg := of_decide_eq_false hg | skip)) | ((first | apply st_ex hA hH rfl rfl (by decide) | apply dr_ex hA rfl rfl rfl (by decide) | apply dr_exp hA rfl rfl rfl (by decide) | apply dr_ex3 hA hH rfl rfl rfl (by decide)); (first | (apply ex_load; rfl; exact cl_own (by exact MEMT) (encP0 hgk)) | (apply ex_load; rfl; exact cl_own (by exact MEMT) (encP1 hgk))); clear hA a; intro a hA) | (refine QT0 ?_; clear hA a; intro a hA) | (first | (refine BT ?_; clear hA hH; rintro _ w ⟨bN, rfl, hH⟩ a hA) | (refine LT ?_; clear hA hH; rintro _ w ⟨oN, rfl, hH⟩ a hA) | (refine AT ?_; clear hA; rintro _ w ⟨oN, cN, rfl, hH2⟩ a hA; clear hH; have hH := (hH2 _ (by (repeat constructor))).tail; clear hH2) | (refine S0T ?_; clear hH; rintro _ w hH) )) | ((first | refine CT ?_ | (refine DT ?_ ?_ <;> intro hc <;> try (exfalso; omega))) <;> repeat' refine CT ?_) | (first | (refine DSK ?_; clear hA a; intro a hA) | (first | (refine DLT ?_; clear hA hH; rintro _ w ⟨oN, rfl, hH⟩; refine ⟨STT, ?_⟩; intro a hA) | (refine DAT ?_; clear hA; rintro _ w ⟨oN, cN, rfl, hH2⟩; clear hH; have hH := (hH2 _ (by (repeat constructor))).tail; clear hH2; refine ⟨STT, ?_⟩; intro a hA))) )
        (refine wp_draw2_HS [(0, 1), (1, 1), (2, 1), (3, 1), (4, 1), (5, 1), (6, 1), (7, 1), (8, 1), (9, 1), (10, 1), (11, 1), (12, 2), (13, 2)] [14] mixed (by decide +kernel) hH ?_; replace hH := hH.drew)
        repeat' (first | (first | (refine GT ?_ ?_ <;> intro hg <;> clear hA a <;> intro a hA <;> (first | exact FA | replace hg := of_decide_eq_true hg | replace hg := of_decide_eq_false hg | skip)) | ((first | apply st_ex hA hH rfl rfl (by decide) | apply dr_ex hA rfl rfl rfl (by decide) | apply dr_exp hA rfl rfl rfl (by decide) | apply dr_ex3 hA hH rfl rfl rfl (by decide)); (first | (apply ex_load; rfl; exact cl_own (by exact MEMT) (encP1 hgk))); clear hA a; intro a hA) | (refine QT0 ?_; clear hA a; intro a hA) | (first | (refine BT ?_; clear hA hH; rintro _ w ⟨bN, rfl, hH⟩ a hA) | (refine LT ?_; clear hA hH; rintro _ w ⟨oN, rfl, hH⟩ a hA) | (refine AT ?_; clear hA; rintro _ w ⟨oN, cN, rfl, hH2⟩ a hA; clear hH; have hH := (hH2 _ (by (repeat constructor))).tail; clear hH2) | (refine S0T ?_; clear hH; rintro _ w hH) | (apply dr_op03 hA rfl rfl rfl; apply op_setP1; rfl; rfl; exact hH; exact hgk; (repeat constructor); clear hH; rintro _ w hH))) | ((first | refine CT ?_ | (refine DT ?_ ?_ <;> intro hc <;> try (exfalso; omega))) <;> repeat' refine CT ?_) | (first | (refine DSK ?_; clear hA a; intro a hA) | (first | (refine DLT ?_; clear hA hH; rintro _ w ⟨oN, rfl, hH⟩; refine ⟨STT, ?_⟩; intro a hA) | (refine DAT ?_; clear hA; rintro _ w ⟨oN, cN, rfl, hH2⟩; clear hH; have hH := (hH2 _ (by (repeat constructor))).tail; clear hH2; refine ⟨STT, ?_⟩; intro a hA))) )
        rw [hnew, hnl] at hH
        refine rt1 (.inl rfl) rfl hA rfl ⟨rfl, hp_shut ⟨q.oC, q.cC, q.oH, q.cH, oF, cF, q.cs, q.hs.set o.a (0, 0)⟩ hrep ?_⟩
        unfold hpQ
        exact hH.tail
      · have hG1e : G1 = gin 1 A := by rw [← hG1, gap1_nil he, List.append_nil]
        by_cases h0 : G1.length = 0
        · (refine wp_draw_HS [(0, 1), (1, 1), (2, 1), (3, 1), (4, 1), (5, 1), (6, 1), (7, 1), (8, 1), (9, 1), (10, 1), (11, 1), (12, 1), (13, 1), (14, 1), (15, 1), (16, 1), (17, 1), (18, 1), (19, 1), (20, 1), (21, 1), (22, 1), (23, 1), (24, 1), (25, 1)] mixed (by decide +kernel) hH ?_; replace hH := hH.drew)
          repeat' (first | (first | (refine GT ?_ ?_ <;> intro hg <;> clear hA a <;> intro a hA <;> (first | exact FA | replace hg := of_decide_eq_true hg | replace hg := of_decide_eq_false hg | skip)) | (refine QT0 ?_; clear hA a; intro a hA) | (first | (refine BT ?_; clear hA hH; rintro _ w ⟨bN, rfl, hH⟩ a hA) | (refine LT ?_; clear hA hH; rintro _ w ⟨oN, rfl, hH⟩ a hA) | (refine AT ?_; clear hA; rintro _ w ⟨oN, cN, rfl, hH2⟩ a hA; clear hH; have hH := (hH2 _ (by (repeat constructor))).tail; clear hH2) | (refine S0T ?_; clear hH; rintro _ w hH) )) | ((first | refine CT ?_ | (refine DT ?_ ?_ <;> intro hc <;> try (exfalso; omega))) <;> repeat' refine CT ?_) | (first | (refine DSK ?_; clear hA a; intro a hA) | (first | (refine DLT ?_; clear hA hH; rintro _ w ⟨oN, rfl, hH⟩; refine ⟨STT, ?_⟩; intro a hA) | (refine DAT ?_; clear hA; rintro _ w ⟨oN, cN, rfl, hH2⟩; clear hH; have hH := (hH2 _ (by (repeat constructor))).tail; clear hH2; refine ⟨STT, ?_⟩; intro a hA))) )
          exact ⟨he, hH, (hA.sub (by (repeat (first | exact trivial | refine ⟨rfl, ?_⟩))))⟩
        · obtain ⟨k, hk1⟩ : ∃ k, G1.length = k + 1 := ⟨G1.length - 1, by omega⟩
          obtain ⟨⟨ra, rn⟩, hr⟩ : ∃ x, G1[k]? = some x := ⟨_, List.getElem?_eq_getElem (by omega)⟩
          have hgk : (G1 ++ Tl)[k]? = some (ra, rn) := by rw [List.getElem?_append_left (by omega)]; exact hr
          have hkl : k < (G1 ++ Tl).length := (List.getElem?_eq_some_iff.1 hgk).1
          have hrm := hI (ra, rn) (by rw [← hG1e]; exact List.mem_of_getElem? hr)
          dsimp only at hrm
          rw [hk1] at hA
          (refine wp_draw_HS [(0, 1), (1, 1), (2, 1), (3, 1), (4, 1), (5, 1), (6, 1), (7, 1), (8, 1), (9, 1), (10, 1), (11, 1), (12, 1), (13, 1), (14, 1), (15, 1), (16, 1), (17, 1), (18, 1), (19, 1), (20, 1), (21, 1), (22, 1), (23, 1), (24, 1), (25, 1)] mixed (by decide +kernel) hH ?_; replace hH := hH.drew)
          repeat' (first | (first | (refine GT ?_ ?_ <;> intro hg <;> clear hA a <;> intro a hA <;> (first | exact FA | replace hg := of_decide_eq_true hg | replace hg := of_decide_eq_false hg | skip)) | ((first | apply st_ex hA hH rfl rfl (by decide) | apply dr_ex hA rfl rfl rfl (by decide) | apply dr_exp hA rfl rfl rfl (by decide) | apply dr_ex3 hA hH rfl rfl rfl (by decide)); (first | (apply ex_load; rfl; exact cl_own (by exact MEMT) (encP0 hgk)) | (apply ex_load; rfl; exact cl_own (by exact MEMT) (encP1 hgk))); clear hA a; intro a hA) | (refine QT0 ?_; clear hA a; intro a hA) | (first | (refine BT ?_; clear hA hH; rintro _ w ⟨bN, rfl, hH⟩ a hA) | (refine LT ?_; clear hA hH; rintro _ w ⟨oN, rfl, hH⟩ a hA) | (refine AT ?_; clear hA; rintro _ w ⟨oN, cN, rfl, hH2⟩ a hA; clear hH; have hH := (hH2 _ (by (repeat constructor))).tail; clear hH2) | (refine S0T ?_; clear hH; rintro _ w hH) )) | ((first | refine CT ?_ | (refine DT ?_ ?_ <;> intro hc <;> try (exfalso; omega))) <;> repeat' refine CT ?_) | (first | (refine DSK ?_; clear hA a; intro a hA) | (first | (refine DLT ?_; clear hA hH; rintro _ w ⟨oN, rfl, hH⟩; refine ⟨STT, ?_⟩; intro a hA) | (refine DAT ?_; clear hA; rintro _ w ⟨oN, cN, rfl, hH2⟩; clear hH; have hH := (hH2 _ (by (repeat constructor))).tail; clear hH2; refine ⟨STT, ?_⟩; intro a hA))) )
          rw [← hk1] at hA
          exact ⟨he, hH, (hA.sub (by (repeat (first | exact trivial | refine ⟨rfl, ?_⟩))))⟩
    clear hA hH a
    rintro a w ⟨he, hH, hA⟩
    have hG1e : G1 = gin 1 A := by rw [← hG1, gap1_nil he, List.append_nil]
    repeat apply wp_seq
    (refine wp_draw2_HS [(0, 2), (1, 2), (2, 2), (3, 2), (4, 1), (5, 2), (6, 1), (7, 0)] [8, 9, 10, 11] mixed (by decide +kernel) hH ?_; replace hH := hH.drew)
    repeat' (first | (first | (refine GT ?_ ?_ <;> intro hg <;> clear hA a <;> intro a hA <;> (first | exact FA | replace hg := of_decide_eq_true hg | replace hg := of_decide_eq_false hg | skip)) | (refine QT0 ?_; clear hA a; intro a hA) | (first | (refine BT ?_; clear hA hH; rintro _ w ⟨bN, rfl, hH⟩ a hA) | (refine LT ?_; clear hA hH; rintro _ w ⟨oN, rfl, hH⟩ a hA) | (refine AT ?_; clear hA; rintro _ w ⟨oN, cN, rfl, hH2⟩ a hA; clear hH; have hH := (hH2 _ (by (repeat constructor))).tail; clear hH2) | (refine S0T ?_; clear hH; rintro _ w hH) )) | ((first | refine CT ?_ | (refine DT ?_ ?_ <;> intro hc <;> try (exfalso; omega))) <;> repeat' refine CT ?_) | (first | (refine DSK ?_; clear hA a; intro a hA) | (first | (refine DLT ?_; clear hA hH; rintro _ w ⟨oN, rfl, hH⟩; refine ⟨STT, ?_⟩; intro a hA) | (refine DAT ?_; clear hA; rintro _ w ⟨oN, cN, rfl, hH2⟩; clear hH; have hH := (hH2 _ (by (repeat constructor))).tail; clear hH2; refine ⟨STT, ?_⟩; intro a hA))) | (apply dr_op hA rfl rfl rfl (by decide); apply op_sliceLit; rfl; rfl; exact CATST; rfl; rfl; rfl; exact hH; clear hA hH; rintro _ w ⟨oN, rfl, hH⟩; refine ⟨hH.tail, ?_⟩; intro a hA))
    have hP := hH.perm (H' := [own 84 2 oF (G1 ++ Tl).length cF (flat encP (G1 ++ Tl)), own 84 2 oN 1 1 (encP ((o.a : Int), ((nxt N B - o.a : Nat) : Int)))] ++ [cb bR 84 [.int .i64 (o.a : Int), .int .i64 ((nxt N B - o.a : Nat) : Int)], cb b 82 [.slice q.oC N q.cC, .slice q.oH N q.cH, .slice oF (G1 ++ Tl).length cF], own 33 1 q.oC N q.cC (flat encW q.cs), own 78 2 q.oH N q.cH (flat encP (q.hs.set o.a (0, 0)))]) (by simp only [List.cons_append, List.nil_append]; (repeat (first | exact List.Perm.nil | refine perm_pick 0 rfl ?_ | refine perm_pick 1 rfl ?_ | refine perm_pick 2 rfl ?_ | refine perm_pick 3 rfl ?_ | refine perm_pick 4 rfl ?_ | refine perm_pick 5 rfl ?_ | refine perm_pick 6 rfl ?_ | refine perm_pick 7 rfl ?_ | refine perm_pick 8 rfl ?_ | refine perm_pick 9 rfl ?_ | refine perm_pick 10 rfl ?_ | refine perm_pick 11 rfl ?_)))
    obtain ⟨Mc, hf, -, hback2⟩ := hP.frame
    have hins := insert_spec _ Mc oF oN cF G1.length (G1 ++ Tl) _ hf (by rw [List.length_append]; omega) (by omega)
    (refine dr_op3 hA rfl rfl rfl (by decide) (op_call rfl rfl rfl hins) ?_; clear hA; rintro _ w ⟨o3, c3, rfl, hq⟩ a hA)
    replace hH := hback2 _ _ hq
    clear hback2 hf hq hP hins
    rw [List.singleton_append] at hH
    have hir : insR (G1 ++ Tl) G1.length ((o.a : Int), ((nxt N B - o.a : Nat) : Int)) = gaps N 1 (A ++ B) := by
      rw [hg2]
      unfold insR
      rw [List.take_append_of_le_length (Nat.le_refl _), List.take_length, List.drop_append_of_le_length (Nat.le_refl _), List.drop_length, List.nil_append, hG1e, show endA 1 A = o.a by omega]
    have hirl : (G1 ++ Tl).length + 1 = (gaps N 1 (A ++ B)).length := by rw [← hir, insR_len (by rw [List.length_append]; omega)]
    rw [hir, hirl] at hH
    rw [hirl] at hA
    repeat' (first | (first | (refine GT ?_ ?_ <;> intro hg <;> clear hA a <;> intro a hA <;> (first | exact FA | replace hg := of_decide_eq_true hg | replace hg := of_decide_eq_false hg | skip)) | (refine QT0 ?_; clear hA a; intro a hA) | (first | (refine BT ?_; clear hA hH; rintro _ w ⟨bN, rfl, hH⟩ a hA) | (refine LT ?_; clear hA hH; rintro _ w ⟨oN, rfl, hH⟩ a hA) | (refine AT ?_; clear hA; rintro _ w ⟨oN, cN, rfl, hH2⟩ a hA; clear hH; have hH := (hH2 _ (by (repeat constructor))).tail; clear hH2) | (refine S0T ?_; clear hH; rintro _ w hH) | (apply dr_op03 hA rfl rfl rfl; apply op_store_fld; rfl; rfl; rfl; exact hH; (repeat constructor); (repeat rfl); clear hH; rintro _ w hH))) | ((first | refine CT ?_ | (refine DT ?_ ?_ <;> intro hc <;> try (exfalso; omega))) <;> repeat' refine CT ?_) | (first | (refine DSK ?_; clear hA a; intro a hA) | (first | (refine DLT ?_; clear hA hH; rintro _ w ⟨oN, rfl, hH⟩; refine ⟨STT, ?_⟩; intro a hA) | (refine DAT ?_; clear hA; rintro _ w ⟨oN, cN, rfl, hH2⟩; clear hH; have hH := (hH2 _ (by (repeat constructor))).tail; clear hH2; refine ⟨STT, ?_⟩; intro a hA))) )
    refine rt1 (.inl rfl) rfl hA rfl ⟨rfl, hp_shut ⟨q.oC, q.cC, q.oH, q.cH, o3, c3, q.cs, q.hs.set o.a (0, 0)⟩ hrep ?_⟩
    unfold hpQ
    refine HS.left (H2 := [cb bR 84 [.int .i64 (o.a : Int), .int .i64 ((nxt N B - o.a : Nat) : Int)]]) (hH.perm ?_)
    simp only [List.append_nil, List.cons_append, List.nil_append]
    (repeat (first | exact List.Perm.nil | refine perm_pick 0 rfl ?_ | refine perm_pick 1 rfl ?_ | refine perm_pick 2 rfl ?_ | refine perm_pick 3 rfl ?_ | refine perm_pick 4 rfl ?_ | refine perm_pick 5 rfl ?_ | refine perm_pick 6 rfl ?_ | refine perm_pick 7 rfl ?_ | refine perm_pick 8 rfl ?_ | refine perm_pick 9 rfl ?_ | refine perm_pick 10 rfl ?_ | refine perm_pick 11 rfl ?_))
  by_cases hm : o.fin < nxt N B
  · have hG2e : G2 = (((o.fin : Nat) : Int), ((nxt N B - o.fin : Nat) : Int)) :: Tl := by rw [← hG2, gap1_pos hm]; rfl
    have hget : (G1 ++ G2)[G1.length]? = some (((o.fin : Nat) : Int), ((nxt N B - o.fin : Nat) : Int)) := by
      rw [hG2e, List.getElem?_append_right (Nat.le_refl _), Nat.sub_self]
      rfl
    have hil : G1.length < (G1 ++ G2).length := (List.getElem?_eq_some_iff.1 hget).1
    (refine wp_draw_HS [(0, 1), (1, 1), (2, 1), (3, 1), (4, 1), (5, 1), (6, 1), (7, 1), (8, 1), (9, 1), (10, 1), (11, 1), (12, 1), (13, 1), (14, 1), (15, 1), (16, 1), (17, 1), (18, 1), (19, 1), (20, 1), (21, 1), (22, 1)] mixed (by decide +kernel) hH ?_; replace hH := hH.drew)
    repeat' (first | (first | (refine GT ?_ ?_ <;> intro hg <;> clear hA a <;> intro a hA <;> (first | exact FA | replace hg := of_decide_eq_true hg | replace hg := of_decide_eq_false hg | skip)) | ((first | apply st_ex hA hH rfl rfl (by decide) | apply dr_ex hA rfl rfl rfl (by decide) | apply dr_exp hA rfl rfl rfl (by decide) | apply dr_ex3 hA hH rfl rfl rfl (by decide)); (first | (apply ex_load; rfl; exact cl_own (by exact MEMT) (encP0 hget))); clear hA a; intro a hA) | (refine QT0 ?_; clear hA a; intro a hA) | (first | (refine BT ?_; clear hA hH; rintro _ w ⟨bN, rfl, hH⟩ a hA) | (refine LT ?_; clear hA hH; rintro _ w ⟨oN, rfl, hH⟩ a hA) | (refine AT ?_; clear hA; rintro _ w ⟨oN, cN, rfl, hH2⟩ a hA; clear hH; have hH := (hH2 _ (by (repeat constructor))).tail; clear hH2) | (refine S0T ?_; clear hH; rintro _ w hH) )) | ((first | refine CT ?_ | (refine DT ?_ ?_ <;> intro hc <;> try (exfalso; omega))) <;> repeat' refine CT ?_) | (first | (refine DSK ?_; clear hA a; intro a hA) | (first | (refine DLT ?_; clear hA hH; rintro _ w ⟨oN, rfl, hH⟩; refine ⟨STT, ?_⟩; intro a hA) | (refine DAT ?_; clear hA; rintro _ w ⟨oN, cN, rfl, hH2⟩; clear hH; have hH := (hH2 _ (by (repeat constructor))).tail; clear hH2; refine ⟨STT, ?_⟩; intro a hA))) )
    (refine wp_draw2_HS [(0, 1), (1, 1), (2, 1), (3, 1), (4, 1), (5, 1), (6, 1), (7, 1), (8, 1), (9, 1), (10, 1), (11, 2)] [12] mixed (by decide +kernel) hH ?_; replace hH := hH.drew)
    repeat' (first | (first | (refine GT ?_ ?_ <;> intro hg <;> clear hA a <;> intro a hA <;> (first | exact FA | replace hg := of_decide_eq_true hg | replace hg := of_decide_eq_false hg | skip)) | ((first | apply st_ex hA hH rfl rfl (by decide) | apply dr_ex hA rfl rfl rfl (by decide) | apply dr_exp hA rfl rfl rfl (by decide) | apply dr_ex3 hA hH rfl rfl rfl (by decide)); (first | (apply ex_load; rfl; exact cl_own (by exact MEMT) (encP1 hget))); clear hA a; intro a hA) | (refine QT0 ?_; clear hA a; intro a hA) | (first | (refine BT ?_; clear hA hH; rintro _ w ⟨bN, rfl, hH⟩ a hA) | (refine LT ?_; clear hA hH; rintro _ w ⟨oN, rfl, hH⟩ a hA) | (refine AT ?_; clear hA; rintro _ w ⟨oN, cN, rfl, hH2⟩ a hA; clear hH; have hH := (hH2 _ (by (repeat constructor))).tail; clear hH2) | (refine S0T ?_; clear hH; rintro _ w hH) | (apply dr_op03 hA rfl rfl rfl; apply op_store_fld; rfl; rfl; rfl; exact hH; (repeat constructor); (repeat rfl); clear hH; rintro _ w hH))) | ((first | refine CT ?_ | (refine DT ?_ ?_ <;> intro hc <;> try (exfalso; omega))) <;> repeat' refine CT ?_) | (first | (refine DSK ?_; clear hA a; intro a hA) | (first | (refine DLT ?_; clear hA hH; rintro _ w ⟨oN, rfl, hH⟩; refine ⟨STT, ?_⟩; intro a hA) | (refine DAT ?_; clear hA; rintro _ w ⟨oN, cN, rfl, hH2⟩; clear hH; have hH := (hH2 _ (by (repeat constructor))).tail; clear hH2; refine ⟨STT, ?_⟩; intro a hA))) )
    have hP := hH.perm (H' := [own 84 2 q.oF (G1 ++ G2).length q.cF (flat encP (G1 ++ G2))] ++ [cb bR 84 [.int .i64 (o.a : Int), .int .i64 (((o.fs.length : Int) + 1) + ((nxt N B - o.fin : Nat) : Int))], cb b 82 [.slice q.oC N q.cC, .slice q.oH N q.cH, .slice q.oF (G1 ++ G2).length q.cF], own 33 1 q.oC N q.cC (flat encW q.cs), own 78 2 q.oH N q.cH (flat encP (q.hs.set o.a (0, 0)))]) (by simp only [List.cons_append, List.nil_append]; (repeat (first | exact List.Perm.nil | refine perm_pick 0 rfl ?_ | refine perm_pick 1 rfl ?_ | refine perm_pick 2 rfl ?_ | refine perm_pick 3 rfl ?_ | refine perm_pick 4 rfl ?_ | refine perm_pick 5 rfl ?_ | refine perm_pick 6 rfl ?_ | refine perm_pick 7 rfl ?_ | refine perm_pick 8 rfl ?_ | refine perm_pick 9 rfl ?_ | refine perm_pick 10 rfl ?_ | refine perm_pick 11 rfl ?_)))
    obtain ⟨Mc, hf, -, hback2⟩ := hP.frame
    have hdel := delete_spec _ Mc q.oF q.cF G1.length _ hf hil (by omega)
    (refine st_op hA rfl rfl (by decide) (op_call rfl rfl rfl (hdel)) ?_; clear hA; rintro _ w ⟨o2, c2, rfl, hq⟩ a hA)
    replace hH := hback2 _ _ hq
    clear hback2 hf hq hP hdel
    have hel : (G1 ++ G2).eraseIdx G1.length = G1 ++ Tl := by
      rw [hG2e, List.eraseIdx_append_of_length_le (Nat.le_refl _), Nat.sub_self]
      rfl
    have hel2 : (G1 ++ G2).length - 1 = (G1 ++ Tl).length := by rw [hG2e, List.length_append, List.length_append]; simp
    rw [hel, hel2, List.singleton_append, show ((o.fs.length : Int) + 1) + ((nxt N B - o.fin : Nat) : Int) = ((nxt N B - o.a : Nat) : Int) by omega] at hH
    rw [hel2] at hA
    repeat' (first | (first | (refine GT ?_ ?_ <;> intro hg <;> clear hA a <;> intro a hA <;> (first | exact FA | replace hg := of_decide_eq_true hg | replace hg := of_decide_eq_false hg | skip)) | (refine QT0 ?_; clear hA a; intro a hA) | (first | (refine BT ?_; clear hA hH; rintro _ w ⟨bN, rfl, hH⟩ a hA) | (refine LT ?_; clear hA hH; rintro _ w ⟨oN, rfl, hH⟩ a hA) | (refine AT ?_; clear hA; rintro _ w ⟨oN, cN, rfl, hH2⟩ a hA; clear hH; have hH := (hH2 _ (by (repeat constructor))).tail; clear hH2) | (refine S0T ?_; clear hH; rintro _ w hH) | (apply st_op0 hA rfl rfl; apply op_store_fld; rfl; rfl; rfl; exact hH; (repeat constructor); (repeat rfl); clear hH; rintro _ w hH))) | ((first | refine CT ?_ | (refine DT ?_ ?_ <;> intro hc <;> try (exfalso; omega))) <;> repeat' refine CT ?_) | (first | (refine DSK ?_; clear hA a; intro a hA) | (first | (refine DLT ?_; clear hA hH; rintro _ w ⟨oN, rfl, hH⟩; refine ⟨STT, ?_⟩; intro a hA) | (refine DAT ?_; clear hA; rintro _ w ⟨oN, cN, rfl, hH2⟩; clear hH; have hH := (hH2 _ (by (repeat constructor))).tail; clear hH2; refine ⟨STT, ?_⟩; intro a hA))) )
    exact ⟨o2, c2, hH.perm (by (repeat (first | exact List.Perm.nil | refine perm_pick 0 rfl ?_ | refine perm_pick 1 rfl ?_ | refine perm_pick 2 rfl ?_ | refine perm_pick 3 rfl ?_ | refine perm_pick 4 rfl ?_ | refine perm_pick 5 rfl ?_ | refine perm_pick 6 rfl ?_ | refine perm_pick 7 rfl ?_ | refine perm_pick 8 rfl ?_ | refine perm_pick 9 rfl ?_ | refine perm_pick 10 rfl ?_ | refine perm_pick 11 rfl ?_))), (hA.sub (by (repeat (first | exact trivial | refine ⟨rfl, ?_⟩))))⟩
  · have hx1 : nxt N B = o.fin := by omega
    have hG2e : G2 = Tl := by rw [← hG2, gap1_nil hm, List.nil_append]
    rw [hG2e, show (o.fs.length : Int) + 1 = ((nxt N B - o.a : Nat) : Int) by omega] at hH
    by_cases hlen : G1.length < (G1 ++ G2).length
    · obtain ⟨⟨ra, rn⟩, hget⟩ : ∃ x, (G1 ++ Tl)[G1.length]? = some x := ⟨_, List.getElem?_eq_getElem (by rw [← hG2e]; exact hlen)⟩
      have hra := hT (ra, rn) (by
        rw [List.getElem?_append_right (Nat.le_refl _)] at hget
        exact List.mem_of_getElem? hget)
      dsimp only at hra
      rw [hG2e] at hlen
      have hx2 : ((nxt N B - o.a : Nat) : Int) + (o.a : Int) = nxt N B := by omega
      (refine wp_draw_HS [(0, 1), (1, 1), (2, 1), (3, 1), (4, 1), (5, 1), (6, 1), (7, 1), (8, 1), (9, 1), (10, 1), (11, 1), (12, 1), (13, 1), (14, 1), (15, 1), (16, 1), (17, 1), (18, 1), (19, 1), (20, 1), (21, 1), (22, 1)] mixed (by decide +kernel) hH ?_; replace hH := hH.drew)
      repeat' (first | (first | (refine GT ?_ ?_ <;> intro hg <;> clear hA a <;> intro a hA <;> (first | exact FA | replace hg := of_decide_eq_true hg | replace hg := of_decide_eq_false hg | skip)) | ((first | apply st_ex hA hH rfl rfl (by decide) | apply dr_ex hA rfl rfl rfl (by decide) | apply dr_exp hA rfl rfl rfl (by decide) | apply dr_ex3 hA hH rfl rfl rfl (by decide)); (first | (apply ex_load; rfl; exact cl_own (by exact MEMT) (encP0 hget))); clear hA a; intro a hA) | (refine QT0 ?_; clear hA a; intro a hA) | (first | (refine BT ?_; clear hA hH; rintro _ w ⟨bN, rfl, hH⟩ a hA) | (refine LT ?_; clear hA hH; rintro _ w ⟨oN, rfl, hH⟩ a hA) | (refine AT ?_; clear hA; rintro _ w ⟨oN, cN, rfl, hH2⟩ a hA; clear hH; have hH := (hH2 _ (by (repeat constructor))).tail; clear hH2) | (refine S0T ?_; clear hH; rintro _ w hH) )) | ((first | refine CT ?_ | (refine DT ?_ ?_ <;> intro hc <;> try (exfalso; omega))) <;> repeat' refine CT ?_) | (first | (refine DSK ?_; clear hA a; intro a hA) | (first | (refine DLT ?_; clear hA hH; rintro _ w ⟨oN, rfl, hH⟩; refine ⟨STT, ?_⟩; intro a hA) | (refine DAT ?_; clear hA; rintro _ w ⟨oN, cN, rfl, hH2⟩; clear hH; have hH := (hH2 _ (by (repeat constructor))).tail; clear hH2; refine ⟨STT, ?_⟩; intro a hA))) )
      exact ⟨q.oF, q.cF, hH.perm (by (repeat (first | exact List.Perm.nil | refine perm_pick 0 rfl ?_ | refine perm_pick 1 rfl ?_ | refine perm_pick 2 rfl ?_ | refine perm_pick 3 rfl ?_ | refine perm_pick 4 rfl ?_ | refine perm_pick 5 rfl ?_ | refine perm_pick 6 rfl ?_ | refine perm_pick 7 rfl ?_ | refine perm_pick 8 rfl ?_ | refine perm_pick 9 rfl ?_ | refine perm_pick 10 rfl ?_ | refine perm_pick 11 rfl ?_))), (hA.sub (by (repeat (first | exact trivial | refine ⟨rfl, ?_⟩))))⟩
    · rw [hG2e] at hlen
      (refine wp_draw_HS [(0, 1), (1, 1), (2, 1), (3, 1), (4, 1), (5, 1), (6, 1), (7, 1), (8, 1), (9, 1), (10, 1), (11, 1), (12, 1), (13, 1), (14, 1), (15, 1), (16, 1), (17, 1), (18, 1), (19, 1), (20, 1), (21, 1), (22, 1)] mixed (by decide +kernel) hH ?_; replace hH := hH.drew)
      repeat' (first | (first | (refine GT ?_ ?_ <;> intro hg <;> clear hA a <;> intro a hA <;> (first | exact FA | replace hg := of_decide_eq_true hg | replace hg := of_decide_eq_false hg | skip)) | (refine QT0 ?_; clear hA a; intro a hA) | (first | (refine BT ?_; clear hA hH; rintro _ w ⟨bN, rfl, hH⟩ a hA) | (refine LT ?_; clear hA hH; rintro _ w ⟨oN, rfl, hH⟩ a hA) | (refine AT ?_; clear hA; rintro _ w ⟨oN, cN, rfl, hH2⟩ a hA; clear hH; have hH := (hH2 _ (by (repeat constructor))).tail; clear hH2) | (refine S0T ?_; clear hH; rintro _ w hH) )) | ((first | refine CT ?_ | (refine DT ?_ ?_ <;> intro hc <;> try (exfalso; omega))) <;> repeat' refine CT ?_) | (first | (refine DSK ?_; clear hA a; intro a hA) | (first | (refine DLT ?_; clear hA hH; rintro _ w ⟨oN, rfl, hH⟩; refine ⟨STT, ?_⟩; intro a hA) | (refine DAT ?_; clear hA; rintro _ w ⟨oN, cN, rfl, hH2⟩; clear hH; have hH := (hH2 _ (by (repeat constructor))).tail; clear hH2; refine ⟨STT, ?_⟩; intro a hA))) )
      exact ⟨q.oF, q.cF, hH.perm (by (repeat (first | exact List.Perm.nil | refine perm_pick 0 rfl ?_ | refine perm_pick 1 rfl ?_ | refine perm_pick 2 rfl ?_ | refine perm_pick 3 rfl ?_ | refine perm_pick 4 rfl ?_ | refine perm_pick 5 rfl ?_ | refine perm_pick 6 rfl ?_ | refine perm_pick 7 rfl ?_ | refine perm_pick 8 rfl ?_ | refine perm_pick 9 rfl ?_ | refine perm_pick 10 rfl ?_ | refine perm_pick 11 rfl ?_))), (hA.sub (by (repeat (first | exact trivial | refine ⟨rfl, ?_⟩))))⟩
end Go.Proofs.Ytejpcidfigmnkaa
