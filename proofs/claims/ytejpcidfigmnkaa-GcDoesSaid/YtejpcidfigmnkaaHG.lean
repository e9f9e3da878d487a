/-
  Walks over Set and Copy. Conditions: none.
-/
import Derived.Test.YtejpcidfigmnkaaHF
import Derived.Test.YtejpcidfigmnkaaPC
namespace Go.Proofs.Ytejpcidfigmnkaa
open Go Go.Fw
set_option linter.unusedVariables false
theorem hpQ_read {w0 w : World} {M : Nat → Prop} {H : List It} {b N : Nat} {L : List Ob} {q : HQ} (hp : Rep N L q.cs q.hs) (h1 : HS w0 M (hpQ b N (gaps N 1 L) q ++ H) w) : HpQ w b N L q :=
  ⟨hp, h1.cell (b := b) (j := 0) (List.mem_cons_self ..) rfl, h1.cell (b := b) (j := 1) (List.mem_cons_self ..) rfl, h1.cell (b := b) (j := 2) (List.mem_cons_self ..) rfl, h1.own_rd (o := q.oC) MEMT, h1.own_rd (o := q.oH) (xs := flat encP q.hs) (by exact .tail _ (.tail _ (.head _))), h1.own_rd (o := q.oF) (xs := flat encP (gaps N 1 L)) (by exact .tail _ (.tail _ (.tail _ (.head _)))),
    (h1.own_le (o := q.oC) (xs := flat encW q.cs) (by exact .tail _ (.head _))).1, (h1.own_le (o := q.oH) (xs := flat encP q.hs) (by exact .tail _ (.tail _ (.head _)))).1, (h1.own_le (o := q.oF) (xs := flat encP (gaps N 1 L)) (by exact .tail _ (.tail _ (.tail _ (.head _))))).1⟩
theorem sub_sp {w : World} {b N : Nat} {L : List Ob} {q : HQ} (h : HpQ w b N L q) (i j n : Nat) (hij : i ≠ j) : Sp (subO q.oC i j 1) n := fun _ => by
  obtain ⟨bb, off, hoC⟩ := h.oC_some
  rw [hoC]
  unfold subO
  rw [if_neg hij]
  simp only [Option.map_some, Addr.add]
  split
  · exact ⟨bb, off, rfl⟩
  · exact ⟨bb, _, rfl⟩
theorem rd_len {w : World} {o : Option Addr} {xs : List Value} (h : Rd w o xs) (ho : o = none) : xs.length = 0 := by
  rcases Nat.eq_zero_or_pos xs.length with h1 | h1
  · exact h1
  · obtain ⟨bb, off, hb⟩ := h.1 h1
    rw [ho] at hb
    cases hb
set_option maxRecDepth 10000 attribute [local irreducible] Code.wp wpList Calls Ex Op1 sat bat blk cb own Go.Fw.mp Go.Fw.mpO Go.Fw.mpI Go.Fw.mpE Go.Fw.itr HS Rd Ret wkD Hp Cl Cls Exit.then Exit.inBlock Exit.noGoto bodyPost Go.Fw.flat wk2 Go.Fw.all Go.Fw.owns wpOp
attribute [local irreducible] hdA gaps isA

theorem set_spec (w0 : World) (M : Nat → Prop) (b N : Nat) (L : List Ob) (z i x : Int) (hH : HS w0 M [hpI b N L] w0) :
    Ret Try.prog 39 #[.pointer (some (bat b 0)), .int .i64 z, .int .i64 i, .int .u64 x] w0 (fun v w => v = .int .i64 (setA L z i x).1 ∧ HS w0 M [hpI b N (setA L z i x).2] w) := by
  (refine enter (N := 27) Try.func39 rfl Try.ntmps39 rfl ?_; intro a hA; dsimp only [sl0, Nat.reduceAdd] at hA)
  repeat' (first | (first | (refine GT ?_ ?_ <;> intro hg <;> clear hA a <;> intro a hA <;> (first | exact FA | replace hg := of_decide_eq_true hg | replace hg := of_decide_eq_false hg | skip)) | (refine QT0 ?_; clear hA a; intro a hA) | (first | (refine BT ?_; clear hA hH; rintro _ w ⟨bN, rfl, hH⟩ a hA) | (refine LT ?_; clear hA hH; rintro _ w ⟨oN, rfl, hH⟩ a hA) | (refine AT ?_; clear hA; rintro _ w ⟨oN, cN, rfl, hH2⟩ a hA; clear hH; have hH := (hH2 _ (by (repeat constructor))).tail; clear hH2) | (refine S0T ?_; clear hH; rintro _ w hH) )) | ((first | refine CT ?_ | (refine DT ?_ ?_ <;> intro hc <;> try (exfalso; omega))) <;> repeat' refine CT ?_) | (first | (refine DSK ?_; clear hA a; intro a hA) | (first | (refine DLT ?_; clear hA hH; rintro _ w ⟨oN, rfl, hH⟩; refine ⟨STT, ?_⟩; intro a hA) | (refine DAT ?_; clear hA; rintro _ w ⟨oN, cN, rfl, hH2⟩; clear hH; have hH := (hH2 _ (by (repeat constructor))).tail; clear hH2; refine ⟨STT, ?_⟩; intro a hA))) )
  (refine st_op hA rfl rfl (by decide) (op_call rfl rfl rfl (get_spec _ b N L z i (hp_read hH))) ?_; clear hA; rintro _ w ⟨rfl, hk⟩ a hA)
  replace hH := hH.keep hk
  clear hk
  cases ho : objA L z with
  | none =>
    have hgA : getA L z i = (0, 7) := by simp only [getA, ho]
    have hsA : setA L z i x = (7, L) := by simp only [setA, ho]
    rw [hgA] at hA
    rw [hsA]
    repeat' (first | (first | (refine GT ?_ ?_ <;> intro hg <;> clear hA a <;> intro a hA <;> (first | exact FA | replace hg := of_decide_eq_true hg | replace hg := of_decide_eq_false hg | skip)) | (refine QT0 ?_; clear hA a; intro a hA) | (first | (refine BT ?_; clear hA hH; rintro _ w ⟨bN, rfl, hH⟩ a hA) | (refine LT ?_; clear hA hH; rintro _ w ⟨oN, rfl, hH⟩ a hA) | (refine AT ?_; clear hA; rintro _ w ⟨oN, cN, rfl, hH2⟩ a hA; clear hH; have hH := (hH2 _ (by (repeat constructor))).tail; clear hH2) | (refine S0T ?_; clear hH; rintro _ w hH) )) | ((first | refine CT ?_ | (refine DT ?_ ?_ <;> intro hc <;> try (exfalso; omega))) <;> repeat' refine CT ?_) | (first | (refine DSK ?_; clear hA a; intro a hA) | (first | (refine DLT ?_; clear hA hH; rintro _ w ⟨oN, rfl, hH⟩; refine ⟨STT, ?_⟩; intro a hA) | (refine DAT ?_; clear hA; rintro _ w ⟨oN, cN, rfl, hH2⟩; clear hH; have hH := (hH2 _ (by (repeat constructor))).tail; clear hH2; refine ⟨STT, ?_⟩; intro a hA))) )
    exact rt1 (.inl rfl) rfl hA rfl ⟨rfl, hH⟩
  | some o =>
  obtain ⟨hx, hxz⟩ := objA_some ho
  subst hxz
  by_cases hir : 0 ≤ i ∧ i < (o.fs.length : Int)
  rotate_left
  · have hgA : getA L (o.a : Int) i = (0, 2) := by simp only [getA, ho]; rw [if_neg hir]
    have hsA : setA L (o.a : Int) i x = (2, L) := by simp only [setA, ho]; rw [if_neg hir]
    rw [hgA] at hA
    rw [hsA]
    repeat' (first | (first | (refine GT ?_ ?_ <;> intro hg <;> clear hA a <;> intro a hA <;> (first | exact FA | replace hg := of_decide_eq_true hg | replace hg := of_decide_eq_false hg | skip)) | (refine QT0 ?_; clear hA a; intro a hA) | (first | (refine BT ?_; clear hA hH; rintro _ w ⟨bN, rfl, hH⟩ a hA) | (refine LT ?_; clear hA hH; rintro _ w ⟨oN, rfl, hH⟩ a hA) | (refine AT ?_; clear hA; rintro _ w ⟨oN, cN, rfl, hH2⟩ a hA; clear hH; have hH := (hH2 _ (by (repeat constructor))).tail; clear hH2) | (refine S0T ?_; clear hH; rintro _ w hH) )) | ((first | refine CT ?_ | (refine DT ?_ ?_ <;> intro hc <;> try (exfalso; omega))) <;> repeat' refine CT ?_) | (first | (refine DSK ?_; clear hA a; intro a hA) | (first | (refine DLT ?_; clear hA hH; rintro _ w ⟨oN, rfl, hH⟩; refine ⟨STT, ?_⟩; intro a hA) | (refine DAT ?_; clear hA; rintro _ w ⟨oN, cN, rfl, hH2⟩; clear hH; have hH := (hH2 _ (by (repeat constructor))).tail; clear hH2; refine ⟨STT, ?_⟩; intro a hA))) )
    exact rt1 (.inl rfl) rfl hA rfl ⟨rfl, hH⟩
  obtain ⟨j, rfl⟩ : ∃ j : Nat, i = j := ⟨i.toNat, by omega⟩
  have hj : j < o.fs.length := by omega
  have hgA : getA L (o.a : Int) j = (o.fs.getD j 0, 0) := by simp only [getA, ho]; rw [if_pos hir]; rfl
  have hsA : setA L (o.a : Int) j x = (0, setL L o.a j x) := by simp only [setA, ho]; rw [if_pos hir]; rfl
  rw [hgA] at hA
  rw [hsA]
  obtain ⟨q, hp, hH2⟩ := hp_open hH
  clear hH
  have hH := hH2
  clear hH2
  have hq := hpQ_read hp hH
  unfold hpQ at hH
  have hm := hp.lay.mem o hx
  have hfin : o.fin = o.a + 1 + o.fs.length := rfl
  obtain ⟨bb, off, hoC⟩ := hq.oC_some
  have hsat : sat (subO q.oC o.fin (o.a + 1) 1) (j * 1) = sat q.oC (o.a + 1 + j) := by rw [sat_sub hoC (by omega), Nat.mul_one]
  have hspF := sub_sp hq o.fin (o.a + 1) o.fs.length (by omega)
  have hcl := hp.cl
  have hlt : o.a + 1 + j < q.cs.length := by omega
  repeat' (first | (first | (refine GT ?_ ?_ <;> intro hg <;> clear hA a <;> intro a hA <;> (first | exact FA | replace hg := of_decide_eq_true hg | replace hg := of_decide_eq_false hg | skip)) | (refine QT0 ?_; clear hA a; intro a hA) | (first | (refine BT ?_; clear hA hH; rintro _ w ⟨bN, rfl, hH⟩ a hA) | (refine LT ?_; clear hA hH; rintro _ w ⟨oN, rfl, hH⟩ a hA) | (refine AT ?_; clear hA; rintro _ w ⟨oN, cN, rfl, hH2⟩ a hA; clear hH; have hH := (hH2 _ (by (repeat constructor))).tail; clear hH2) | (refine S0T ?_; clear hH; rintro _ w hH) )) | ((first | refine CT ?_ | (refine DT ?_ ?_ <;> intro hc <;> try (exfalso; omega))) <;> repeat' refine CT ?_) | (first | (refine DSK ?_; clear hA a; intro a hA) | (first | (refine DLT ?_; clear hA hH; rintro _ w ⟨oN, rfl, hH⟩; refine ⟨STT, ?_⟩; intro a hA) | (refine DAT ?_; clear hA; rintro _ w ⟨oN, cN, rfl, hH2⟩; clear hH; have hH := (hH2 _ (by (repeat constructor))).tail; clear hH2; refine ⟨STT, ?_⟩; intro a hA))) )
  (refine st_op hA rfl rfl (by decide) (op_call rfl rfl rfl (fields_spec _ b N L q o hq hx)) ?_; clear hA; rintro _ w ⟨rfl, hk⟩ a hA)
  replace hH := hH.keep hk
  clear hk
  repeat' (first | (first | (refine GT ?_ ?_ <;> intro hg <;> clear hA a <;> intro a hA <;> (first | exact FA | replace hg := of_decide_eq_true hg | replace hg := of_decide_eq_false hg | skip)) | (refine QT0 ?_; clear hA a; intro a hA) | (first | (refine BT ?_; clear hA hH; rintro _ w ⟨bN, rfl, hH⟩ a hA) | (refine LT ?_; clear hA hH; rintro _ w ⟨oN, rfl, hH⟩ a hA) | (refine AT ?_; clear hA; rintro _ w ⟨oN, cN, rfl, hH2⟩ a hA; clear hH; have hH := (hH2 _ (by (repeat constructor))).tail; clear hH2) | (refine S0T ?_; clear hH; rintro _ w hH) | (apply st_op0 hA rfl rfl; apply op_set1 (enc := encW) (y0 := x) (j := o.a + 1 + j); rw [← hsat]; rfl; rfl; rfl; rfl; exact encW_len; exact hH; (repeat constructor); exact hlt; clear hH; rintro _ w hH))) | ((first | refine CT ?_ | (refine DT ?_ ?_ <;> intro hc <;> try (exfalso; omega))) <;> repeat' refine CT ?_) | (first | (refine DSK ?_; clear hA a; intro a hA) | (first | (refine DLT ?_; clear hA hH; rintro _ w ⟨oN, rfl, hH⟩; refine ⟨STT, ?_⟩; intro a hA) | (refine DAT ?_; clear hA; rintro _ w ⟨oN, cN, rfl, hH2⟩; clear hH; have hH := (hH2 _ (by (repeat constructor))).tail; clear hH2; refine ⟨STT, ?_⟩; intro a hA))) )
  refine rt1 (.inl rfl) rfl hA rfl ⟨rfl, ?_⟩
  refine hp_shut ⟨q.oC, q.cC, q.oH, q.cH, q.oF, q.cF, _, q.hs⟩ (rep_set hp hx hj) ?_
  rw [gaps_set]
  exact hH

end Go.Proofs.Ytejpcidfigmnkaa
