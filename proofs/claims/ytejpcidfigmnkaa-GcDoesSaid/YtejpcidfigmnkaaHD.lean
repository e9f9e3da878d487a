/-
  Walks over the heap's methods that only look. Conditions: none.
-/
import Derived.Test.YtejpcidfigmnkaaHC
import Derived.Test.YtejpcidfigmnkaaPB
namespace Go.Proofs.Ytejpcidfigmnkaa
open Go Go.Fw
set_option linter.unusedVariables false
def encW (x : Int) : List Value := [.int .u64 x]
theorem encW_len (x : Int) : (encW x).length = 1 := rfl
structure HQ where
  oC : Option Addr
  cC : Nat
  oH : Option Addr
  cH : Nat
  oF : Option Addr
  cF : Nat
  cs : List Int
  hs : List (Int × Int)
def hpQ (b N : Nat) (fr : List (Int × Int)) (q : HQ) : List It :=
  [cb b 82 [.slice q.oC N q.cC, .slice q.oH N q.cH, .slice q.oF fr.length q.cF], own 33 1 q.oC N q.cC (flat encW q.cs), own 78 2 q.oH N q.cH (flat encP q.hs), own 84 2 q.oF fr.length q.cF (flat encP fr)]
/-- a heap: of so many cells, with these objects -/
def hpI (b N : Nat) (L : List Ob) : It := exI fun q => facI (Rep N L q.cs q.hs) (all (hpQ b N (gaps N 1 L) q))
/-- a heap that can be read -/
structure HpQ (w : World) (b N : Nat) (L : List Ob) (q : HQ) : Prop where
  rep : Rep N L q.cs q.hs
  c0 : w.cell? (bat b 0) = some (.slice q.oC N q.cC)
  c1 : w.cell? (bat b 1) = some (.slice q.oH N q.cH)
  c2 : w.cell? (bat b 2) = some (.slice q.oF (gaps N 1 L).length q.cF)
  rC : Rd w q.oC (flat encW q.cs)
  rH : Rd w q.oH (flat encP q.hs)
  rF : Rd w q.oF (flat encP (gaps N 1 L))
  nC : N ≤ q.cC
  nH : N ≤ q.cH
  nF : (gaps N 1 L).length ≤ q.cF
def HpR (w : World) (b N : Nat) (L : List Ob) : Prop := ∃ q, HpQ w b N L q
theorem gaps_len {N : Nat} : ∀ (L : List Ob) (p : Nat), (gaps N p L).length ≤ L.length + 1
  | [], p => by unfold gaps gap1; split <;> simp
  | o :: L, p => by
    have := gaps_len (N := N) L o.fin
    rw [gaps_cons, List.length_append, List.length_cons]
    unfold gap1
    split <;> simp <;> omega
theorem Lay.len {N : Nat} : ∀ {L : List Ob} {p : Nat}, Lay N p L → L.length + p ≤ N
  | [], p, h => by have : p ≤ N := h; simpa using this
  | o :: L, p, h => by
    have h1 := h.1
    have h2 := Lay.len h.2
    unfold Ob.fin at h2
    rw [List.length_cons]
    omega
theorem Rep.frl {N : Nat} {L : List Ob} {cs : List Int} {hs : List (Int × Int)} (h : Rep N L cs hs) : (gaps N 1 L).length ≤ 65536 := by
  have h1 := gaps_len (N := N) L 1
  have h2 := h.lay.len
  have h3 := h.n2
  omega
theorem hp_open {w0 w : World} {M : Nat → Prop} {H : List It} {b N : Nat} {L : List Ob} (h : HS w0 M (hpI b N L :: H) w) : ∃ q, Rep N L q.cs q.hs ∧ HS w0 M (hpQ b N (gaps N 1 L) q ++ H) w := by
  obtain ⟨q, h1⟩ := h.exI_open
  obtain ⟨hp, h2⟩ := h1.facI_open
  exact ⟨q, hp, h2.open_⟩
theorem hp_shut {w0 w : World} {M : Nat → Prop} {H : List It} {b N : Nat} {L : List Ob} (q : HQ) (hp : Rep N L q.cs q.hs) (h : HS w0 M (hpQ b N (gaps N 1 L) q ++ H) w) : HS w0 M (hpI b N L :: H) w :=
  HS.exI_shut q (HS.facI_shut hp h.shut)
theorem hp_read {w0 w : World} {M : Nat → Prop} {H : List It} {b N : Nat} {L : List Ob} (h : HS w0 M (hpI b N L :: H) w) : HpR w b N L := by
  obtain ⟨q, hp, h1⟩ := hp_open h
  exact ⟨q, hp, h1.cell (b := b) (j := 0) (List.mem_cons_self ..) rfl, h1.cell (b := b) (j := 1) (List.mem_cons_self ..) rfl, h1.cell (b := b) (j := 2) (List.mem_cons_self ..) rfl, h1.own_rd (o := q.oC) MEMT, h1.own_rd (o := q.oH) (xs := flat encP q.hs) (by exact .tail _ (.tail _ (.head _))), h1.own_rd (o := q.oF) (xs := flat encP (gaps N 1 L)) (by exact .tail _ (.tail _ (.tail _ (.head _)))),
    (h1.own_le (o := q.oC) (xs := flat encW q.cs) (by exact .tail _ (.head _))).1, (h1.own_le (o := q.oH) (xs := flat encP q.hs) (by exact .tail _ (.tail _ (.head _)))).1, (h1.own_le (o := q.oF) (xs := flat encP (gaps N 1 L)) (by exact .tail _ (.tail _ (.tail _ (.head _))))).1⟩
theorem HpQ.keep {w w' : World} {b N : Nat} {L : List Ob} {q : HQ} (h : HpQ w b N L q) (hk : Kp w noM w') : HpQ w' b N L q := by
  have hH : HS w noM [] w' := (HS.init w noM).keep hk
  exact ⟨h.rep, hH.cellw h.c0 id, hH.cellw h.c1 id, hH.cellw h.c2 id, hH.rd h.rC id, hH.rd h.rH id, hH.rd h.rF id, h.nC, h.nH, h.nF⟩
theorem HpR.keep {w w' : World} {b N : Nat} {L : List Ob} (h : HpR w b N L) (hk : Kp w noM w') : HpR w' b N L :=
  let ⟨q, hq⟩ := h
  ⟨q, hq.keep hk⟩
theorem sat_sub {o : Option Addr} {bb off c k j : Nat} (ho : o = some ⟨bb, off, none⟩) (hc : c ≠ k) : sat (subO o c k 1) j = sat o (k + j) := by
  subst ho
  simp [subO, hc, sat, blkO, offO, Addr.add]
  split <;> simp_all [Nat.add_assoc]
theorem HpQ.oC_some {w : World} {b N : Nat} {L : List Ob} {q : HQ} (h : HpQ w b N L q) : ∃ bb off, q.oC = some ⟨bb, off, none⟩ := h.rC.1 (by rw [flat_length encW_len, h.rep.cl]; have := h.rep.n2; omega)
theorem cell_head {w : World} {b N : Nat} {L : List Ob} {q : HQ} (h : HpQ w b N L q) {i : Nat} (hi : i < N) : (flat encP q.hs)[i * 2 + 0]? = some (.int .i64 (hdA L i).1) ∧ (flat encP q.hs)[i * 2 + 1]? = some (.int .i64 (hdA L i).2) :=
  ⟨encP0 (h.rep.hd i hi), encP1 (h.rep.hd i hi)⟩
set_option maxRecDepth 10000 attribute [local irreducible] Code.wp wpList Calls Ex Op1 sat bat blk cb own Go.Fw.mp Go.Fw.mpO Go.Fw.mpI Go.Fw.mpE Go.Fw.itr HS Rd Ret wkD Hp Cl Cls Exit.then Exit.inBlock Exit.noGoto bodyPost Go.Fw.flat wk2 Go.Fw.all Go.Fw.owns wpOp
attribute [local irreducible] hdA gaps isA

theorem is_spec (w0 : World) (b N : Nat) (L : List Ob) (z : Int) (hR : HpR w0 b N L) :
    Ret Try.prog 56 #[.pointer (some (bat b 0)), .int .i64 z] w0 (fun v w => v = .bool (isA L z) ∧ Kp w0 noM w) := by
  have hH : HS w0 noM [] w0 := HS.init w0 noM
  obtain ⟨q, hq⟩ := hR
  have hn2 := hq.rep.n2
  have hspH : Sp q.oH N := hq.rH.sp (sz := 2) (by rw [flat_length encP_len, hq.rep.hl]) (by omega)
  (refine enter (N := 27) Try.func56 rfl Try.ntmps56 rfl ?_; intro a hA; dsimp only [sl0, Nat.reduceAdd] at hA)
  by_cases hz : 0 ≤ z ∧ z < (N : Int)
  · obtain ⟨i, rfl⟩ : ∃ i : Nat, z = i := ⟨z.toNat, by omega⟩
    have his := hq.rep.is_ (i := i) (by omega)
    obtain ⟨hc1, hc2⟩ := cell_head hq (i := i) (by omega)
    repeat' (first | (first | (refine GT ?_ ?_ <;> intro hg <;> clear hA a <;> intro a hA <;> (first | exact FA | replace hg := of_decide_eq_true hg | replace hg := of_decide_eq_false hg | skip)) | ((first | apply st_ex hA hH rfl rfl (by decide) | apply dr_ex hA rfl rfl rfl (by decide) | apply dr_exp hA rfl rfl rfl (by decide) | apply dr_ex3 hA hH rfl rfl rfl (by decide)); (first | (apply ex_load; rfl; exact cl_w hq.c1 id) | (apply ex_load; rfl; exact cl_rd hq.rH id hc1)); clear hA a; intro a hA) | (refine QT0 ?_; clear hA a; intro a hA) | (first | (refine BT ?_; clear hA hH; rintro _ w ⟨bN, rfl, hH⟩ a hA) | (refine LT ?_; clear hA hH; rintro _ w ⟨oN, rfl, hH⟩ a hA) | (refine AT ?_; clear hA; rintro _ w ⟨oN, cN, rfl, hH2⟩ a hA; clear hH; have hH := (hH2 _ (by (repeat constructor))).tail; clear hH2) | (refine S0T ?_; clear hH; rintro _ w hH) )) | ((first | refine CT ?_ | (refine DT ?_ ?_ <;> intro hc <;> try (exfalso; omega))) <;> repeat' refine CT ?_) | (first | (refine DSK ?_; clear hA a; intro a hA) | (first | (refine DLT ?_; clear hA hH; rintro _ w ⟨oN, rfl, hH⟩; refine ⟨STT, ?_⟩; intro a hA) | (refine DAT ?_; clear hA; rintro _ w ⟨oN, cN, rfl, hH2⟩; clear hH; have hH := (hH2 _ (by (repeat constructor))).tail; clear hH2; refine ⟨STT, ?_⟩; intro a hA))) )
    · exact rt1 (.inl rfl) rfl hA rfl ⟨by rw [his], hH.kp⟩
    · exact rt1 (.inl rfl) rfl hA rfl ⟨by rw [hq.rep.out (by omega)], hH.kp⟩
  · have hout := hq.rep.out (z := z) (by omega)
    repeat' (first | (first | (refine GT ?_ ?_ <;> intro hg <;> clear hA a <;> intro a hA <;> (first | exact FA | replace hg := of_decide_eq_true hg | replace hg := of_decide_eq_false hg | skip)) | ((first | apply st_ex hA hH rfl rfl (by decide) | apply dr_ex hA rfl rfl rfl (by decide) | apply dr_exp hA rfl rfl rfl (by decide) | apply dr_ex3 hA hH rfl rfl rfl (by decide)); (first | (apply ex_load; rfl; exact cl_w hq.c1 id)); clear hA a; intro a hA) | (refine QT0 ?_; clear hA a; intro a hA) | (first | (refine BT ?_; clear hA hH; rintro _ w ⟨bN, rfl, hH⟩ a hA) | (refine LT ?_; clear hA hH; rintro _ w ⟨oN, rfl, hH⟩ a hA) | (refine AT ?_; clear hA; rintro _ w ⟨oN, cN, rfl, hH2⟩ a hA; clear hH; have hH := (hH2 _ (by (repeat constructor))).tail; clear hH2) | (refine S0T ?_; clear hH; rintro _ w hH) )) | ((first | refine CT ?_ | (refine DT ?_ ?_ <;> intro hc <;> try (exfalso; omega))) <;> repeat' refine CT ?_) | (first | (refine DSK ?_; clear hA a; intro a hA) | (first | (refine DLT ?_; clear hA hH; rintro _ w ⟨oN, rfl, hH⟩; refine ⟨STT, ?_⟩; intro a hA) | (refine DAT ?_; clear hA; rintro _ w ⟨oN, cN, rfl, hH2⟩; clear hH; have hH := (hH2 _ (by (repeat constructor))).tail; clear hH2; refine ⟨STT, ?_⟩; intro a hA))) )
    all_goals exact rt1 (.inl rfl) rfl hA rfl ⟨by rw [hout]; try (first | rfl | (congr 1; (first | (rw [decide_eq_decide]; omega) | (rw [eq_comm, decide_eq_true_iff]; omega) | (rw [eq_comm, decide_eq_false_iff_not]; omega) | (rw [decide_eq_true_iff]; omega) | (rw [decide_eq_false_iff_not]; omega)))), hH.kp⟩

theorem words_spec (w0 : World) (b N : Nat) (L : List Ob) (hR : HpR w0 b N L) :
    Ret Try.prog 44 #[.pointer (some (bat b 0))] w0 (fun v w => v = .int .i64 N ∧ Kp w0 noM w) := by
  have hH : HS w0 noM [] w0 := HS.init w0 noM
  obtain ⟨q, hq⟩ := hR
  (refine enter (N := 8) Try.func44 rfl Try.ntmps44 rfl ?_; intro a hA; dsimp only [sl0, Nat.reduceAdd] at hA)
  repeat' (first | (first | (refine GT ?_ ?_ <;> intro hg <;> clear hA a <;> intro a hA <;> (first | exact FA | replace hg := of_decide_eq_true hg | replace hg := of_decide_eq_false hg | skip)) | ((first | apply st_ex hA hH rfl rfl (by decide) | apply dr_ex hA rfl rfl rfl (by decide) | apply dr_exp hA rfl rfl rfl (by decide) | apply dr_ex3 hA hH rfl rfl rfl (by decide)); (first | (apply ex_load; rfl; exact cl_w hq.c0 id)); clear hA a; intro a hA) | (refine QT0 ?_; clear hA a; intro a hA) | (first | (refine BT ?_; clear hA hH; rintro _ w ⟨bN, rfl, hH⟩ a hA) | (refine LT ?_; clear hA hH; rintro _ w ⟨oN, rfl, hH⟩ a hA) | (refine AT ?_; clear hA; rintro _ w ⟨oN, cN, rfl, hH2⟩ a hA; clear hH; have hH := (hH2 _ (by (repeat constructor))).tail; clear hH2) | (refine S0T ?_; clear hH; rintro _ w hH) )) | ((first | refine CT ?_ | (refine DT ?_ ?_ <;> intro hc <;> try (exfalso; omega))) <;> repeat' refine CT ?_) | (first | (refine DSK ?_; clear hA a; intro a hA) | (first | (refine DLT ?_; clear hA hH; rintro _ w ⟨oN, rfl, hH⟩; refine ⟨STT, ?_⟩; intro a hA) | (refine DAT ?_; clear hA; rintro _ w ⟨oN, cN, rfl, hH2⟩; clear hH; have hH := (hH2 _ (by (repeat constructor))).tail; clear hH2; refine ⟨STT, ?_⟩; intro a hA))) )
  exact rt1 (.inl rfl) rfl hA rfl ⟨rfl, hH.kp⟩

theorem kind_spec (w0 : World) (b N : Nat) (L : List Ob) (z : Int) (hR : HpR w0 b N L) :
    Ret Try.prog 28 #[.pointer (some (bat b 0)), .int .i64 z] w0 (fun v w => v = (if isA L z then .tuple #[.int .i64 (hdA L z.toNat).1, .int .i64 0] else .tuple #[.int .i64 0, .int .i64 7]) ∧ Kp w0 noM w) := by
  have hH : HS w0 noM [] w0 := HS.init w0 noM
  obtain ⟨q, hq⟩ := hR
  have hn2 := hq.rep.n2
  have hspH : Sp q.oH N := hq.rH.sp (sz := 2) (by rw [flat_length encP_len, hq.rep.hl]) (by omega)
  (refine enter (N := 18) Try.func28 rfl Try.ntmps28 rfl ?_; intro a hA; dsimp only [sl0, Nat.reduceAdd] at hA)
  repeat' (first | (first | (refine GT ?_ ?_ <;> intro hg <;> clear hA a <;> intro a hA <;> (first | exact FA | replace hg := of_decide_eq_true hg | replace hg := of_decide_eq_false hg | skip)) | (refine QT0 ?_; clear hA a; intro a hA) | (first | (refine BT ?_; clear hA hH; rintro _ w ⟨bN, rfl, hH⟩ a hA) | (refine LT ?_; clear hA hH; rintro _ w ⟨oN, rfl, hH⟩ a hA) | (refine AT ?_; clear hA; rintro _ w ⟨oN, cN, rfl, hH2⟩ a hA; clear hH; have hH := (hH2 _ (by (repeat constructor))).tail; clear hH2) | (refine S0T ?_; clear hH; rintro _ w hH) )) | ((first | refine CT ?_ | (refine DT ?_ ?_ <;> intro hc <;> try (exfalso; omega))) <;> repeat' refine CT ?_) | (first | (refine DSK ?_; clear hA a; intro a hA) | (first | (refine DLT ?_; clear hA hH; rintro _ w ⟨oN, rfl, hH⟩; refine ⟨STT, ?_⟩; intro a hA) | (refine DAT ?_; clear hA; rintro _ w ⟨oN, cN, rfl, hH2⟩; clear hH; have hH := (hH2 _ (by (repeat constructor))).tail; clear hH2; refine ⟨STT, ?_⟩; intro a hA))) )
  (refine st_op hA rfl rfl (by decide) (op_call rfl rfl rfl (is_spec _ b N L z ⟨q, hq⟩)) ?_; clear hA; rintro _ w ⟨rfl, hk⟩ a hA)
  replace hH := hH.keep hk
  cases hi : isA L z with
  | false =>
    rw [hi] at hA
    repeat' (first | (first | (refine GT ?_ ?_ <;> intro hg <;> clear hA a <;> intro a hA <;> (first | exact FA | replace hg := of_decide_eq_true hg | replace hg := of_decide_eq_false hg | skip)) | (refine QT0 ?_; clear hA a; intro a hA) | (first | (refine BT ?_; clear hA hH; rintro _ w ⟨bN, rfl, hH⟩ a hA) | (refine LT ?_; clear hA hH; rintro _ w ⟨oN, rfl, hH⟩ a hA) | (refine AT ?_; clear hA; rintro _ w ⟨oN, cN, rfl, hH2⟩ a hA; clear hH; have hH := (hH2 _ (by (repeat constructor))).tail; clear hH2) | (refine S0T ?_; clear hH; rintro _ w hH) )) | ((first | refine CT ?_ | (refine DT ?_ ?_ <;> intro hc <;> try (exfalso; omega))) <;> repeat' refine CT ?_) | (first | (refine DSK ?_; clear hA a; intro a hA) | (first | (refine DLT ?_; clear hA hH; rintro _ w ⟨oN, rfl, hH⟩; refine ⟨STT, ?_⟩; intro a hA) | (refine DAT ?_; clear hA; rintro _ w ⟨oN, cN, rfl, hH2⟩; clear hH; have hH := (hH2 _ (by (repeat constructor))).tail; clear hH2; refine ⟨STT, ?_⟩; intro a hA))) )
    exact rt2 (.inl rfl) rfl hA rfl rfl ⟨rfl, hH.kp⟩
  | true =>
    obtain ⟨i, rfl, hiN⟩ : ∃ i : Nat, z = i ∧ i < N := by
      have h1 := hq.rep.out (z := z)
      refine ⟨z.toNat, ?_, ?_⟩ <;>
      · rcases (by omega : (z ≤ 0 ∨ (N : Int) ≤ z) ∨ (0 < z ∧ z < (N : Int))) with h | h
        · rw [h1 h] at hi; cases hi
        · omega
    obtain ⟨hc1, hc2⟩ := cell_head hq hiN
    rw [hi] at hA
    repeat' (first | (first | (refine GT ?_ ?_ <;> intro hg <;> clear hA a <;> intro a hA <;> (first | exact FA | replace hg := of_decide_eq_true hg | replace hg := of_decide_eq_false hg | skip)) | ((first | apply st_ex hA hH rfl rfl (by decide) | apply dr_ex hA rfl rfl rfl (by decide) | apply dr_exp hA rfl rfl rfl (by decide) | apply dr_ex3 hA hH rfl rfl rfl (by decide)); (first | (apply ex_load; rfl; exact cl_w hq.c1 id) | (apply ex_load; rfl; exact cl_rd hq.rH id hc1)); clear hA a; intro a hA) | (refine QT0 ?_; clear hA a; intro a hA) | (first | (refine BT ?_; clear hA hH; rintro _ w ⟨bN, rfl, hH⟩ a hA) | (refine LT ?_; clear hA hH; rintro _ w ⟨oN, rfl, hH⟩ a hA) | (refine AT ?_; clear hA; rintro _ w ⟨oN, cN, rfl, hH2⟩ a hA; clear hH; have hH := (hH2 _ (by (repeat constructor))).tail; clear hH2) | (refine S0T ?_; clear hH; rintro _ w hH) )) | ((first | refine CT ?_ | (refine DT ?_ ?_ <;> intro hc <;> try (exfalso; omega))) <;> repeat' refine CT ?_) | (first | (refine DSK ?_; clear hA a; intro a hA) | (first | (refine DLT ?_; clear hA hH; rintro _ w ⟨oN, rfl, hH⟩; refine ⟨STT, ?_⟩; intro a hA) | (refine DAT ?_; clear hA; rintro _ w ⟨oN, cN, rfl, hH2⟩; clear hH; have hH := (hH2 _ (by (repeat constructor))).tail; clear hH2; refine ⟨STT, ?_⟩; intro a hA))) )
    exact rt2 (.inl rfl) rfl hA rfl rfl ⟨by simp, hH.kp⟩

theorem size_spec (w0 : World) (b N : Nat) (L : List Ob) (z : Int) (hR : HpR w0 b N L) :
    Ret Try.prog 35 #[.pointer (some (bat b 0)), .int .i64 z] w0 (fun v w => v = (if isA L z then .tuple #[.int .i64 (hdA L z.toNat).2, .int .i64 0] else .tuple #[.int .i64 0, .int .i64 7]) ∧ Kp w0 noM w) := by
  have hH : HS w0 noM [] w0 := HS.init w0 noM
  obtain ⟨q, hq⟩ := hR
  have hn2 := hq.rep.n2
  have hspH : Sp q.oH N := hq.rH.sp (sz := 2) (by rw [flat_length encP_len, hq.rep.hl]) (by omega)
  (refine enter (N := 18) Try.func35 rfl Try.ntmps35 rfl ?_; intro a hA; dsimp only [sl0, Nat.reduceAdd] at hA)
  repeat' (first | (first | (refine GT ?_ ?_ <;> intro hg <;> clear hA a <;> intro a hA <;> (first | exact FA | replace hg := of_decide_eq_true hg | replace hg := of_decide_eq_false hg | skip)) | (refine QT0 ?_; clear hA a; intro a hA) | (first | (refine BT ?_; clear hA hH; rintro _ w ⟨bN, rfl, hH⟩ a hA) | (refine LT ?_; clear hA hH; rintro _ w ⟨oN, rfl, hH⟩ a hA) | (refine AT ?_; clear hA; rintro _ w ⟨oN, cN, rfl, hH2⟩ a hA; clear hH; have hH := (hH2 _ (by (repeat constructor))).tail; clear hH2) | (refine S0T ?_; clear hH; rintro _ w hH) )) | ((first | refine CT ?_ | (refine DT ?_ ?_ <;> intro hc <;> try (exfalso; omega))) <;> repeat' refine CT ?_) | (first | (refine DSK ?_; clear hA a; intro a hA) | (first | (refine DLT ?_; clear hA hH; rintro _ w ⟨oN, rfl, hH⟩; refine ⟨STT, ?_⟩; intro a hA) | (refine DAT ?_; clear hA; rintro _ w ⟨oN, cN, rfl, hH2⟩; clear hH; have hH := (hH2 _ (by (repeat constructor))).tail; clear hH2; refine ⟨STT, ?_⟩; intro a hA))) )
  (refine st_op hA rfl rfl (by decide) (op_call rfl rfl rfl (is_spec _ b N L z ⟨q, hq⟩)) ?_; clear hA; rintro _ w ⟨rfl, hk⟩ a hA)
  replace hH := hH.keep hk
  cases hi : isA L z with
  | false =>
    rw [hi] at hA
    repeat' (first | (first | (refine GT ?_ ?_ <;> intro hg <;> clear hA a <;> intro a hA <;> (first | exact FA | replace hg := of_decide_eq_true hg | replace hg := of_decide_eq_false hg | skip)) | (refine QT0 ?_; clear hA a; intro a hA) | (first | (refine BT ?_; clear hA hH; rintro _ w ⟨bN, rfl, hH⟩ a hA) | (refine LT ?_; clear hA hH; rintro _ w ⟨oN, rfl, hH⟩ a hA) | (refine AT ?_; clear hA; rintro _ w ⟨oN, cN, rfl, hH2⟩ a hA; clear hH; have hH := (hH2 _ (by (repeat constructor))).tail; clear hH2) | (refine S0T ?_; clear hH; rintro _ w hH) )) | ((first | refine CT ?_ | (refine DT ?_ ?_ <;> intro hc <;> try (exfalso; omega))) <;> repeat' refine CT ?_) | (first | (refine DSK ?_; clear hA a; intro a hA) | (first | (refine DLT ?_; clear hA hH; rintro _ w ⟨oN, rfl, hH⟩; refine ⟨STT, ?_⟩; intro a hA) | (refine DAT ?_; clear hA; rintro _ w ⟨oN, cN, rfl, hH2⟩; clear hH; have hH := (hH2 _ (by (repeat constructor))).tail; clear hH2; refine ⟨STT, ?_⟩; intro a hA))) )
    exact rt2 (.inl rfl) rfl hA rfl rfl ⟨rfl, hH.kp⟩
  | true =>
    obtain ⟨i, rfl, hiN⟩ : ∃ i : Nat, z = i ∧ i < N := by
      have h1 := hq.rep.out (z := z)
      refine ⟨z.toNat, ?_, ?_⟩ <;>
      · rcases (by omega : (z ≤ 0 ∨ (N : Int) ≤ z) ∨ (0 < z ∧ z < (N : Int))) with h | h
        · rw [h1 h] at hi; cases hi
        · omega
    obtain ⟨hc1, hc2⟩ := cell_head hq hiN
    rw [hi] at hA
    repeat' (first | (first | (refine GT ?_ ?_ <;> intro hg <;> clear hA a <;> intro a hA <;> (first | exact FA | replace hg := of_decide_eq_true hg | replace hg := of_decide_eq_false hg | skip)) | ((first | apply st_ex hA hH rfl rfl (by decide) | apply dr_ex hA rfl rfl rfl (by decide) | apply dr_exp hA rfl rfl rfl (by decide) | apply dr_ex3 hA hH rfl rfl rfl (by decide)); (first | (apply ex_load; rfl; exact cl_w hq.c1 id) | (apply ex_load; rfl; exact cl_rd hq.rH id hc2)); clear hA a; intro a hA) | (refine QT0 ?_; clear hA a; intro a hA) | (first | (refine BT ?_; clear hA hH; rintro _ w ⟨bN, rfl, hH⟩ a hA) | (refine LT ?_; clear hA hH; rintro _ w ⟨oN, rfl, hH⟩ a hA) | (refine AT ?_; clear hA; rintro _ w ⟨oN, cN, rfl, hH2⟩ a hA; clear hH; have hH := (hH2 _ (by (repeat constructor))).tail; clear hH2) | (refine S0T ?_; clear hH; rintro _ w hH) )) | ((first | refine CT ?_ | (refine DT ?_ ?_ <;> intro hc <;> try (exfalso; omega))) <;> repeat' refine CT ?_) | (first | (refine DSK ?_; clear hA a; intro a hA) | (first | (refine DLT ?_; clear hA hH; rintro _ w ⟨oN, rfl, hH⟩; refine ⟨STT, ?_⟩; intro a hA) | (refine DAT ?_; clear hA; rintro _ w ⟨oN, cN, rfl, hH2⟩; clear hH; have hH := (hH2 _ (by (repeat constructor))).tail; clear hH2; refine ⟨STT, ?_⟩; intro a hA))) )
    exact rt2 (.inl rfl) rfl hA rfl rfl ⟨by simp, hH.kp⟩

/-- an object's fields, as a part of the cells -/
theorem fields_spec (w0 : World) (b N : Nat) (L : List Ob) (q : HQ) (o : Ob) (hq : HpQ w0 b N L q) (ho : o ∈ L) :
    Ret Try.prog 57 #[.pointer (some (bat b 0)), .int .i64 (o.a : Int)] w0 (fun v w => v = .slice (subO q.oC o.fin (o.a + 1) 1) o.fs.length o.fs.length ∧ Kp w0 noM w) := by
  have hH : HS w0 noM [] w0 := HS.init w0 noM
  have hn2 := hq.rep.n2
  have hspH : Sp q.oH N := hq.rH.sp (sz := 2) (by rw [flat_length encP_len, hq.rep.hl]) (by omega)
  have hm := hq.rep.lay.mem o ho
  have hfin : o.fin = o.a + 1 + o.fs.length := rfl
  have hoN : o.a < N := by omega
  obtain ⟨hc1, hc2⟩ := cell_head hq hoN
  have hd2 : (hdA L o.a).2 = (o.fs.length : Int) := by unfold hdA; rw [findA_mem hq.rep.lay ho]
  rw [hd2] at hc2
  have hnC := hq.nC
  have hk := (hq.rep.kd o ho).2
  (refine enter (N := 26) Try.func57 rfl Try.ntmps57 rfl ?_; intro a hA; dsimp only [sl0, Nat.reduceAdd] at hA)
  repeat' (first | (first | (refine GT ?_ ?_ <;> intro hg <;> clear hA a <;> intro a hA <;> (first | exact FA | replace hg := of_decide_eq_true hg | replace hg := of_decide_eq_false hg | skip)) | ((first | apply st_ex hA hH rfl rfl (by decide) | apply dr_ex hA rfl rfl rfl (by decide) | apply dr_exp hA rfl rfl rfl (by decide) | apply dr_ex3 hA hH rfl rfl rfl (by decide)); (first | (apply ex_load; rfl; exact cl_w hq.c1 id) | (apply ex_load; rfl; exact cl_w hq.c0 id) | (apply ex_load; rfl; exact cl_rd hq.rH id hc2) | (apply ex_slice_3 (i := o.a + 1) (j := o.fin) (k := o.fin); rfl; rfl; rfl; rfl; omega; omega; omega; omega; omega; omega)); clear hA a; intro a hA) | (refine QT0 ?_; clear hA a; intro a hA) | (first | (refine BT ?_; clear hA hH; rintro _ w ⟨bN, rfl, hH⟩ a hA) | (refine LT ?_; clear hA hH; rintro _ w ⟨oN, rfl, hH⟩ a hA) | (refine AT ?_; clear hA; rintro _ w ⟨oN, cN, rfl, hH2⟩ a hA; clear hH; have hH := (hH2 _ (by (repeat constructor))).tail; clear hH2) | (refine S0T ?_; clear hH; rintro _ w hH) )) | ((first | refine CT ?_ | (refine DT ?_ ?_ <;> intro hc <;> try (exfalso; omega))) <;> repeat' refine CT ?_) | (first | (refine DSK ?_; clear hA a; intro a hA) | (first | (refine DLT ?_; clear hA hH; rintro _ w ⟨oN, rfl, hH⟩; refine ⟨STT, ?_⟩; intro a hA) | (refine DAT ?_; clear hA; rintro _ w ⟨oN, cN, rfl, hH2⟩; clear hH; have hH := (hH2 _ (by (repeat constructor))).tail; clear hH2; refine ⟨STT, ?_⟩; intro a hA))) )
  rw [show o.fin - (o.a + 1) = o.fs.length by omega] at hA
  exact rt1 (.inl rfl) rfl hA rfl ⟨rfl, hH.kp⟩

theorem get_spec (w0 : World) (b N : Nat) (L : List Ob) (z i : Int) (hR : HpR w0 b N L) :
    Ret Try.prog 37 #[.pointer (some (bat b 0)), .int .i64 z, .int .i64 i] w0 (fun v w => v = .tuple #[.int .u64 (getA L z i).1, .int .i64 (getA L z i).2] ∧ Kp w0 noM w) := by
  have hH : HS w0 noM [] w0 := HS.init w0 noM
  obtain ⟨q, hq⟩ := hR
  have hn2 := hq.rep.n2
  have hspH : Sp q.oH N := hq.rH.sp (sz := 2) (by rw [flat_length encP_len, hq.rep.hl]) (by omega)
  (refine enter (N := 34) Try.func37 rfl Try.ntmps37 rfl ?_; intro a hA; dsimp only [sl0, Nat.reduceAdd] at hA)
  repeat' (first | (first | (refine GT ?_ ?_ <;> intro hg <;> clear hA a <;> intro a hA <;> (first | exact FA | replace hg := of_decide_eq_true hg | replace hg := of_decide_eq_false hg | skip)) | (refine QT0 ?_; clear hA a; intro a hA) | (first | (refine BT ?_; clear hA hH; rintro _ w ⟨bN, rfl, hH⟩ a hA) | (refine LT ?_; clear hA hH; rintro _ w ⟨oN, rfl, hH⟩ a hA) | (refine AT ?_; clear hA; rintro _ w ⟨oN, cN, rfl, hH2⟩ a hA; clear hH; have hH := (hH2 _ (by (repeat constructor))).tail; clear hH2) | (refine S0T ?_; clear hH; rintro _ w hH) )) | ((first | refine CT ?_ | (refine DT ?_ ?_ <;> intro hc <;> try (exfalso; omega))) <;> repeat' refine CT ?_) | (first | (refine DSK ?_; clear hA a; intro a hA) | (first | (refine DLT ?_; clear hA hH; rintro _ w ⟨oN, rfl, hH⟩; refine ⟨STT, ?_⟩; intro a hA) | (refine DAT ?_; clear hA; rintro _ w ⟨oN, cN, rfl, hH2⟩; clear hH; have hH := (hH2 _ (by (repeat constructor))).tail; clear hH2; refine ⟨STT, ?_⟩; intro a hA))) )
  (refine st_op hA rfl rfl (by decide) (op_call rfl rfl rfl (is_spec _ b N L z ⟨q, hq⟩)) ?_; clear hA; rintro _ w ⟨rfl, hk⟩ a hA)
  replace hH := hH.keep hk
  clear hk
  cases ho : objA L z with
  | none =>
    rw [objA_none ho] at hA
    repeat' (first | (first | (refine GT ?_ ?_ <;> intro hg <;> clear hA a <;> intro a hA <;> (first | exact FA | replace hg := of_decide_eq_true hg | replace hg := of_decide_eq_false hg | skip)) | (refine QT0 ?_; clear hA a; intro a hA) | (first | (refine BT ?_; clear hA hH; rintro _ w ⟨bN, rfl, hH⟩ a hA) | (refine LT ?_; clear hA hH; rintro _ w ⟨oN, rfl, hH⟩ a hA) | (refine AT ?_; clear hA; rintro _ w ⟨oN, cN, rfl, hH2⟩ a hA; clear hH; have hH := (hH2 _ (by (repeat constructor))).tail; clear hH2) | (refine S0T ?_; clear hH; rintro _ w hH) )) | ((first | refine CT ?_ | (refine DT ?_ ?_ <;> intro hc <;> try (exfalso; omega))) <;> repeat' refine CT ?_) | (first | (refine DSK ?_; clear hA a; intro a hA) | (first | (refine DLT ?_; clear hA hH; rintro _ w ⟨oN, rfl, hH⟩; refine ⟨STT, ?_⟩; intro a hA) | (refine DAT ?_; clear hA; rintro _ w ⟨oN, cN, rfl, hH2⟩; clear hH; have hH := (hH2 _ (by (repeat constructor))).tail; clear hH2; refine ⟨STT, ?_⟩; intro a hA))) )
    exact rt2 (.inl rfl) rfl hA rfl rfl ⟨by simp [getA, ho], hH.kp⟩
  | some x =>
  obtain ⟨hx, hxz⟩ := objA_some ho
  rw [objA_is ho] at hA
  subst hxz
  have hm := hq.rep.lay.mem x hx
  have hfin : x.fin = x.a + 1 + x.fs.length := rfl
  have hxN : x.a < N := by omega
  obtain ⟨hc1, hc2⟩ := cell_head hq hxN
  have hd2 : (hdA L x.a).2 = (x.fs.length : Int) := by unfold hdA; rw [findA_mem hq.rep.lay hx]
  rw [hd2] at hc2
  have hkd := (hq.rep.kd x hx).2
  by_cases hir : 0 ≤ i ∧ i < (x.fs.length : Int)
  rotate_left
  · have hgA : getA L (x.a : Int) i = (0, 2) := by simp only [getA, ho]; rw [if_neg hir]
    repeat' (first | (first | (refine GT ?_ ?_ <;> intro hg <;> clear hA a <;> intro a hA <;> (first | exact FA | replace hg := of_decide_eq_true hg | replace hg := of_decide_eq_false hg | skip)) | ((first | apply st_ex hA hH rfl rfl (by decide) | apply dr_ex hA rfl rfl rfl (by decide) | apply dr_exp hA rfl rfl rfl (by decide) | apply dr_ex3 hA hH rfl rfl rfl (by decide)); (first | (apply ex_load; rfl; exact cl_w hq.c1 id) | (apply ex_load; rfl; exact cl_rd hq.rH id hc2)); clear hA a; intro a hA) | (refine QT0 ?_; clear hA a; intro a hA) | (first | (refine BT ?_; clear hA hH; rintro _ w ⟨bN, rfl, hH⟩ a hA) | (refine LT ?_; clear hA hH; rintro _ w ⟨oN, rfl, hH⟩ a hA) | (refine AT ?_; clear hA; rintro _ w ⟨oN, cN, rfl, hH2⟩ a hA; clear hH; have hH := (hH2 _ (by (repeat constructor))).tail; clear hH2) | (refine S0T ?_; clear hH; rintro _ w hH) )) | ((first | refine CT ?_ | (refine DT ?_ ?_ <;> intro hc <;> try (exfalso; omega))) <;> repeat' refine CT ?_) | (first | (refine DSK ?_; clear hA a; intro a hA) | (first | (refine DLT ?_; clear hA hH; rintro _ w ⟨oN, rfl, hH⟩; refine ⟨STT, ?_⟩; intro a hA) | (refine DAT ?_; clear hA; rintro _ w ⟨oN, cN, rfl, hH2⟩; clear hH; have hH := (hH2 _ (by (repeat constructor))).tail; clear hH2; refine ⟨STT, ?_⟩; intro a hA))) )
    all_goals exact rt2 (.inl rfl) rfl hA rfl rfl ⟨by rw [hgA], hH.kp⟩
  obtain ⟨j, rfl⟩ : ∃ j : Nat, i = j := ⟨i.toNat, by omega⟩
  obtain ⟨y, hy⟩ : ∃ y, x.fs[j]? = some y := ⟨_, List.getElem?_eq_getElem (by omega)⟩
  have hgA : getA L (x.a : Int) j = (y, 0) := by simp only [getA, ho]; rw [if_pos hir]; simp [List.getD, hy]
  have hcy := hq.rep.fd x hx j y hy
  obtain ⟨bb, off, hoC⟩ := hq.oC_some
  have hcW : (flat encW q.cs)[x.a + 1 + j * 1]? = some (.int .u64 y) := by
    have := flat_get0 encW_len (v := .int .u64 y) hcy rfl
    rw [Nat.mul_one] at this
    rw [Nat.mul_one]
    exact this
  have hsat : sat (subO q.oC x.fin (x.a + 1) 1) (j * 1) = sat q.oC (x.a + 1 + j * 1) := sat_sub hoC (by omega)
  have hspF : Sp (subO q.oC x.fin (x.a + 1) 1) x.fs.length := fun _ => by
    rw [hoC]
    unfold subO
    rw [if_neg (by omega)]
    simp only [Option.map_some, Addr.add]
    split
    · exact ⟨bb, off, rfl⟩
    · exact ⟨bb, _, rfl⟩
  repeat' (first | (first | (refine GT ?_ ?_ <;> intro hg <;> clear hA a <;> intro a hA <;> (first | exact FA | replace hg := of_decide_eq_true hg | replace hg := of_decide_eq_false hg | skip)) | ((first | apply st_ex hA hH rfl rfl (by decide) | apply dr_ex hA rfl rfl rfl (by decide) | apply dr_exp hA rfl rfl rfl (by decide) | apply dr_ex3 hA hH rfl rfl rfl (by decide)); (first | (apply ex_load; rfl; exact cl_w hq.c1 id) | (apply ex_load; rfl; exact cl_rd hq.rH id hc2)); clear hA a; intro a hA) | (refine QT0 ?_; clear hA a; intro a hA) | (first | (refine BT ?_; clear hA hH; rintro _ w ⟨bN, rfl, hH⟩ a hA) | (refine LT ?_; clear hA hH; rintro _ w ⟨oN, rfl, hH⟩ a hA) | (refine AT ?_; clear hA; rintro _ w ⟨oN, cN, rfl, hH2⟩ a hA; clear hH; have hH := (hH2 _ (by (repeat constructor))).tail; clear hH2) | (refine S0T ?_; clear hH; rintro _ w hH) )) | ((first | refine CT ?_ | (refine DT ?_ ?_ <;> intro hc <;> try (exfalso; omega))) <;> repeat' refine CT ?_) | (first | (refine DSK ?_; clear hA a; intro a hA) | (first | (refine DLT ?_; clear hA hH; rintro _ w ⟨oN, rfl, hH⟩; refine ⟨STT, ?_⟩; intro a hA) | (refine DAT ?_; clear hA; rintro _ w ⟨oN, cN, rfl, hH2⟩; clear hH; have hH := (hH2 _ (by (repeat constructor))).tail; clear hH2; refine ⟨STT, ?_⟩; intro a hA))) )
  (refine st_op hA rfl rfl (by decide) (op_call rfl rfl rfl (fields_spec _ b N L q x (hq.keep hH.kp) hx)) ?_; clear hA; rintro _ w ⟨rfl, hk⟩ a hA)
  replace hH := hH.keep hk
  repeat' (first | (first | (refine GT ?_ ?_ <;> intro hg <;> clear hA a <;> intro a hA <;> (first | exact FA | replace hg := of_decide_eq_true hg | replace hg := of_decide_eq_false hg | skip)) | ((first | apply st_ex hA hH rfl rfl (by decide) | apply dr_ex hA rfl rfl rfl (by decide) | apply dr_exp hA rfl rfl rfl (by decide) | apply dr_ex3 hA hH rfl rfl rfl (by decide)); (first | (apply ex_load; rfl; rw [hsat]; exact cl_rd hq.rC id hcW)); clear hA a; intro a hA) | (refine QT0 ?_; clear hA a; intro a hA) | (first | (refine BT ?_; clear hA hH; rintro _ w ⟨bN, rfl, hH⟩ a hA) | (refine LT ?_; clear hA hH; rintro _ w ⟨oN, rfl, hH⟩ a hA) | (refine AT ?_; clear hA; rintro _ w ⟨oN, cN, rfl, hH2⟩ a hA; clear hH; have hH := (hH2 _ (by (repeat constructor))).tail; clear hH2) | (refine S0T ?_; clear hH; rintro _ w hH) )) | ((first | refine CT ?_ | (refine DT ?_ ?_ <;> intro hc <;> try (exfalso; omega))) <;> repeat' refine CT ?_) | (first | (refine DSK ?_; clear hA a; intro a hA) | (first | (refine DLT ?_; clear hA hH; rintro _ w ⟨oN, rfl, hH⟩; refine ⟨STT, ?_⟩; intro a hA) | (refine DAT ?_; clear hA; rintro _ w ⟨oN, cN, rfl, hH2⟩; clear hH; have hH := (hH2 _ (by (repeat constructor))).tail; clear hH2; refine ⟨STT, ?_⟩; intro a hA))) )
  exact rt2 (.inl rfl) rfl hA rfl rfl ⟨by rw [hgA], hH.kp⟩
end Go.Proofs.Ytejpcidfigmnkaa
