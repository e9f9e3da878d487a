/-
  The document's Right, by its parts. Conditions: none.
  Graphs that may be: edges rise, they are small, what lives is bound before. Conditions: none.
  What the program's Right asks is what the document's asks. Conditions: none.
  Registers found in order are right, and as few as the press. Conditions: none.
  Colours: the press suffices, and they are right. Conditions: none.
  The law's v and fits. Conditions: none.
  The law's own graph. Conditions: none.
-/
import Derived.Test.YtjfanjcoppeeaaaRowColoursMg9
import Derived.Test.YtjfanjcoppeeaaaRowColoursMg7
namespace Go.Proofs.Ytjfanjcoppeeaaa
open Go Go.Fw
set_option linter.unusedVariables false
def hvL (q : List Int) : List Int := q.foldl insF []
theorem hvL_snoc (q : List Int) (x : Int) : insF (hvL q) x = hvL (q ++ [x]) := by unfold hvL; rw [List.foldl_append]; rfl
theorem hvL_len (q : List Int) : (hvL q).length = q.length := by
  have : ∀ (q s : List Int), (q.foldl insF s).length = q.length + s.length := by
    intro q
    induction q with
    | nil => intro s; exact (Nat.zero_add _).symm
    | cons x q ih =>
      intro s
      rw [List.foldl_cons, ih, insF_len, List.length_cons]
      omega
  exact this q []
theorem mem_hvL {q : List Int} {y : Int} : y ∈ hvL q ↔ y ∈ q := by
  have : ∀ (q s : List Int), y ∈ q.foldl insF s ↔ y ∈ q ∨ y ∈ s := by
    intro q
    induction q with
    | nil => intro s; simp
    | cons x q ih =>
      intro s
      rw [List.foldl_cons, ih, mem_insF, List.mem_cons]
      constructor
      · rintro (h | h | h)
        · exact .inl (.inr h)
        · exact .inl (.inl h)
        · exact .inr h
      · rintro ((h | h) | h)
        · exact .inr (.inl h)
        · exact .inl h
        · exact .inr (.inr h)
  have h := this q []
  unfold hvL
  simpa using h
/-- registers are right at a slot, by the document -/
def okS (f : Gr) (ss : List (Option (Nat × List Int))) (l : List Rg) (sl : Nat × Option Nat) : Prop :=
  ∀ bl, f.bs.l[sl.1]? = some bl → match sl.2 with
    | none => ((bl.ps.l ++ intoF f ss sl.1 (vrs f)).map (regOf l)).Nodup
    | some k => ∀ ins, bl.is.l[k]? = some ins → ∀ x ∈ bhF f ss bl k, regOf l x ≠ regOf l ins.x
def RefP (f : Gr) (ss : List (Option (Nat × List Int))) (l : List Rg) : Prop :=
  (∀ r ∈ l, 0 ≤ r.r) ∧ (l.map Rg.v).Nodup ∧ hvL (l.map Rg.v) = vrs f ∧ regOf l 0 = 0 ∧ regOf l 1 = 1 ∧ ∀ sl ∈ slots f f.bs.l.length, okS f ss l sl
theorem okS_n {f : Gr} {ss : List (Option (Nat × List Int))} {l : List Rg} {n : Nat} {bl : Blc} (hbl : f.bs.l[n]? = some bl) : okS f ss l (n, none) ↔ ((bl.ps.l ++ intoF f ss n (vrs f)).map (regOf l)).Nodup := by
  constructor
  · intro h
    exact h bl hbl
  · intro h b hb
    rw [hbl] at hb
    cases hb
    exact h
theorem okS_i {f : Gr} {ss : List (Option (Nat × List Int))} {l : List Rg} {n k : Nat} {bl : Blc} {ins : Ins} (hbl : f.bs.l[n]? = some bl) (hi : bl.is.l[k]? = some ins) : okS f ss l (n, some k) ↔ ∀ x ∈ bhF f ss bl k, regOf l x ≠ regOf l ins.x := by
  constructor
  · intro h
    exact h bl hbl ins hi
  · intro h b hb i hi'
    rw [hbl] at hb
    cases hb
    rw [hi] at hi'
    cases hi'
    exact h
theorem all_snoc {α : Type} {P : α → Prop} {l : List α} {x : α} (h : ∀ y ∈ l, P y) (hx : P x) : ∀ y ∈ l ++ [x], P y := by
  intro y hy
  rcases List.mem_append.1 hy with h1 | h1
  · exact h y h1
  · rw [List.mem_singleton] at h1
    exact h1 ▸ hx
theorem nd_snoc {l : List Int} {x : Int} (h : l.Nodup) (hx : x ∉ l) : (l ++ [x]).Nodup :=
  List.nodup_append.2 ⟨h, List.nodup_cons.2 ⟨List.not_mem_nil, List.nodup_nil⟩, fun a ha b hb e => by rw [List.mem_singleton] at hb; subst hb; exact hx (e ▸ ha)⟩
theorem nd_not {l : List Rg} {i : Nat} {r : Rg} (hr : l[i]? = some r) (h : r.v ∈ (l.take i).map Rg.v) : ¬ (l.map Rg.v).Nodup := by
  intro hn
  have h4 : ((l.take (i + 1)).map Rg.v).Nodup := List.Nodup.sublist ((List.take_sublist _ _).map _) hn
  rw [map_v_next hr] at h4
  exact (List.nodup_append.1 h4).2.2 _ h _ (.head _) rfl
theorem hvL_nil (l : List Rg) : hvL ((l.take 0).map Rg.v) = [] := by rw [List.take_zero]; rfl
theorem nd_nil (l : List Rg) : ((l.take 0).map Rg.v).Nodup := by rw [List.take_zero]; exact List.nodup_nil
set_option maxRecDepth 10000 attribute [local irreducible] Code.wp wpList Calls Ex Op1 sat bat blk cb own Go.Fw.mp Go.Fw.mpO Go.Fw.mpI Go.Fw.mpE Go.Fw.itr HS Rd Ret wkD Hp Cl Cls Exit.then Exit.inBlock Exit.noGoto bodyPost Go.Fw.flat wk2 Go.Fw.all Go.Fw.owns wpOp
attribute [local irreducible] sk mpK srt sko mvO insP blkP skP varsL vrs intoF filF bhF cnt prs slots slotB hvL regOf

set_option maxHeartbeats 8000000 in
theorem refRight_spec (f : Gr) (ss : List (Option (Nat × List Int))) (hF : ∀ n, FixAt f ss n) (hU : Up f) (hsl : ss.length = f.bs.l.length) (hS : Small f) (w0 : World) (oL : Option Addr) (cL : Nat) (l : List Rg) (hL : Rd w0 oL (flat encR l)) (hll : l.length ≤ 1000000) (hR : RdG w0 f) :
    Ret Try.prog 11 #[.agg (encG f).toArray, .slice oL l.length cL] w0 (fun v w => ∃ b, v = .bool b ∧ (b = true ↔ RefP f ss l) ∧ Kp w0 noM w) := by
  have hH : HS w0 noM [] w0 := HS.init w0 noM
  have hSb := hS.bs
  have hll9 : l.length ≤ 9223372036854775807 := by omega
  have hsp : Sp f.bs.o f.bs.l.length := hR.1.1.sp (sz := 6) (flat_length encBl_len _) (by omega)
  have hspL : Sp oL l.length := hL.sp (sz := 2) (flat_length encR_len _) (by omega)
  (refine enter (N := 126) Try.func11 rfl Try.ntmps11 rfl ?_; intro a hA; dsimp only [sl0, Nat.reduceAdd] at hA)
  repeat' (first | (first | (refine GT ?_ ?_ <;> intro hg <;> clear hA a <;> intro a hA <;> (first | exact FA | replace hg := of_decide_eq_true hg | replace hg := of_decide_eq_false hg | skip)) | (refine QT ?_; clear hA a; intro a hA) | (first | (refine BT ?_; clear hA hH; rintro _ w ⟨bN, rfl, hH⟩ a hA) | (refine LT ?_; clear hA hH; rintro _ w ⟨oN, rfl, hH⟩ a hA) | (refine AT ?_; clear hA; rintro _ w ⟨oN, cN, rfl, hH2⟩ a hA; clear hH; have hH := (hH2 _ (by (repeat constructor))).tail; clear hH2) | (refine S0T ?_; clear hH; rintro _ w hH) )) | ((first | refine CT ?_ | (refine DT ?_ ?_ <;> intro hc <;> try (exfalso; omega))) <;> repeat' refine CT ?_) | (first | (refine DSK ?_; clear hA a; intro a hA) | (first | (refine DLT ?_; clear hA hH; rintro _ w ⟨oN, rfl, hH⟩; refine ⟨STT, ?_⟩; intro a hA) | (refine DAT ?_; clear hA; rintro _ w ⟨oN, cN, rfl, hH2⟩; clear hH; have hH := (hH2 _ (by (repeat constructor))).tail; clear hH2; refine ⟨STT, ?_⟩; intro a hA))) )
  obtain ⟨bF, hbF⟩ : ∃ x, x = bN := ⟨_, rfl⟩
  rw [← hbF] at hA hH
  clear hbF bN
  refine wp_lpk (S := Nat) (fun i a w => ∃ o c, (i ≤ l.length ∧ (∀ r ∈ l.take i, 0 ≤ r.r) ∧ ((l.take i).map Rg.v).Nodup) ∧ HS w0 noM [own 3 1 o (hvL ((l.take i).map Rg.v)).length c (flat Fw.encI (hvL ((l.take i).map Rg.v))), cb bF 30 (encG f)] w ∧
      Sl 126 [(6, .int .i64 i), (5, .slice o (hvL ((l.take i).map Rg.v)).length c), (2, .pointer (some (bat bF 0))), (1, .slice oL l.length cL)] a) (fun i => l.length - i)
    (fun a w => ∃ o c, ((∀ r ∈ l, 0 ≤ r.r) ∧ (l.map Rg.v).Nodup) ∧ HS w0 noM [own 3 1 o (hvL (l.map Rg.v)).length c (flat Fw.encI (hvL (l.map Rg.v))), cb bF 30 (encG f)] w ∧
      Sl 126 [(5, .slice o (hvL (l.map Rg.v)).length c), (2, .pointer (some (bat bF 0))), (1, .slice oL l.length cL)] a) 0 ⟨oN, 0, ⟨Nat.zero_le _, (by rw [List.take_zero]; exact fun r hr => absurd hr List.not_mem_nil), nd_nil l⟩, (by rw [hvL_nil, flatI_nil]; exact hH), (by rw [hvL_nil]; exact (hA.sub (by (repeat (first | exact trivial | refine ⟨rfl, ?_⟩)))))⟩ ?_ ?_
  · clear hA hH
    rintro i a w ⟨o, c, ⟨hi, hp, hn⟩, hH, hA⟩
    by_cases hlt : i < l.length
    rotate_left
    · obtain rfl : i = l.length := by omega
      rw [List.take_length] at hA hH hp hn
      repeat' (first | (first | (refine GT ?_ ?_ <;> intro hg <;> clear hA a <;> intro a hA <;> (first | exact FA | replace hg := of_decide_eq_true hg | replace hg := of_decide_eq_false hg | skip)) | (refine QT ?_; clear hA a; intro a hA) | (first | (refine BT ?_; clear hA hH; rintro _ w ⟨bN, rfl, hH⟩ a hA) | (refine LT ?_; clear hA hH; rintro _ w ⟨oN, rfl, hH⟩ a hA) | (refine AT ?_; clear hA; rintro _ w ⟨oN, cN, rfl, hH2⟩ a hA; clear hH; have hH := (hH2 _ (by (repeat constructor))).tail; clear hH2) | (refine S0T ?_; clear hH; rintro _ w hH) )) | ((first | refine CT ?_ | (refine DT ?_ ?_ <;> intro hc <;> try (exfalso; omega))) <;> repeat' refine CT ?_) | (first | (refine DSK ?_; clear hA a; intro a hA) | (first | (refine DLT ?_; clear hA hH; rintro _ w ⟨oN, rfl, hH⟩; refine ⟨STT, ?_⟩; intro a hA) | (refine DAT ?_; clear hA; rintro _ w ⟨oN, cN, rfl, hH2⟩; clear hH; have hH := (hH2 _ (by (repeat constructor))).tail; clear hH2; refine ⟨STT, ?_⟩; intro a hA))) )
      exact ⟨o, c, ⟨hp, hn⟩, hH, (hA.sub (by (repeat (first | exact trivial | refine ⟨rfl, ?_⟩))))⟩
    obtain ⟨r, hr⟩ : ∃ x, l[i]? = some x := ⟨_, List.getElem?_eq_getElem hlt⟩
    obtain ⟨hv0, hv1⟩ := encR_at hr
    have hml : (hvL ((l.take i).map Rg.v)).length ≤ 1000000 := by rw [hvL_len, List.length_map, List.length_take]; omega
    have hml9 : (hvL ((l.take i).map Rg.v)).length ≤ 9223372036854775807 := by omega
    repeat' (first | (first | (refine GT ?_ ?_ <;> intro hg <;> clear hA a <;> intro a hA <;> (first | exact FA | replace hg := of_decide_eq_true hg | replace hg := of_decide_eq_false hg | skip)) | ((first | apply st_ex hA hH rfl rfl (by decide) | apply dr_ex hA rfl rfl rfl (by decide) | apply dr_exp hA rfl rfl rfl (by decide) | apply dr_ex3 hA hH rfl rfl rfl (by decide)); (first | (apply ex_load; rfl; exact cl_rd hL id hv0) | (apply ex_load; rfl; exact cl_rd hL id hv1) | (apply ex_indexAddr_nat; rfl; rfl; omega; exact hspL)); clear hA a; intro a hA) | (refine QT ?_; clear hA a; intro a hA) | (first | (refine BT ?_; clear hA hH; rintro _ w ⟨bN, rfl, hH⟩ a hA) | (refine LT ?_; clear hA hH; rintro _ w ⟨oN, rfl, hH⟩ a hA) | (refine AT ?_; clear hA; rintro _ w ⟨oN, cN, rfl, hH2⟩ a hA; clear hH; have hH := (hH2 _ (by (repeat constructor))).tail; clear hH2) | (refine S0T ?_; clear hH; rintro _ w hH) )) | ((first | refine CT ?_ | (refine DT ?_ ?_ <;> intro hc <;> try (exfalso; omega))) <;> repeat' refine CT ?_) | (first | (refine DSK ?_; clear hA a; intro a hA) | (first | (refine DLT ?_; clear hA hH; rintro _ w ⟨oN, rfl, hH⟩; refine ⟨STT, ?_⟩; intro a hA) | (refine DAT ?_; clear hA; rintro _ w ⟨oN, cN, rfl, hH2⟩; clear hH; have hH := (hH2 _ (by (repeat constructor))).tail; clear hH2; refine ⟨STT, ?_⟩; intro a hA))) )
    · have hneg : r.r < 0 := by assumption
      exact rt1 (.inl rfl) rfl hA rfl ⟨false, rfl, no_iff (fun h => (by have := h.1 r (List.mem_of_getElem? hr); omega)), hH.kp⟩
    (refine st_op hA rfl rfl (by decide) (op_call rfl rfl rfl (in_spec _ o c _ r.v (hH.own_rd (.head _)) hml9)) ?_; clear hA; rintro _ w ⟨rfl, hk⟩ a hA; replace hH := hH.keep hk; clear hk)
    repeat' (first | (first | (refine GT ?_ ?_ <;> intro hg <;> clear hA a <;> intro a hA <;> (first | exact FA | replace hg := of_decide_eq_true hg | replace hg := of_decide_eq_false hg | skip)) | ((first | apply st_ex hA hH rfl rfl (by decide) | apply dr_ex hA rfl rfl rfl (by decide) | apply dr_exp hA rfl rfl rfl (by decide) | apply dr_ex3 hA hH rfl rfl rfl (by decide)); (first | (apply ex_load; rfl; exact cl_rd hL id hv0) | (apply ex_indexAddr_nat; rfl; rfl; omega; exact hspL)); clear hA a; intro a hA) | (refine QT ?_; clear hA a; intro a hA) | (first | (refine BT ?_; clear hA hH; rintro _ w ⟨bN, rfl, hH⟩ a hA) | (refine LT ?_; clear hA hH; rintro _ w ⟨oN, rfl, hH⟩ a hA) | (refine AT ?_; clear hA; rintro _ w ⟨oN, cN, rfl, hH2⟩ a hA; clear hH; have hH := (hH2 _ (by (repeat constructor))).tail; clear hH2) | (refine S0T ?_; clear hH; rintro _ w hH) )) | ((first | refine CT ?_ | (refine DT ?_ ?_ <;> intro hc <;> try (exfalso; omega))) <;> repeat' refine CT ?_) | (first | (refine DSK ?_; clear hA a; intro a hA) | (first | (refine DLT ?_; clear hA hH; rintro _ w ⟨oN, rfl, hH⟩; refine ⟨STT, ?_⟩; intro a hA) | (refine DAT ?_; clear hA; rintro _ w ⟨oN, cN, rfl, hH2⟩; clear hH; have hH := (hH2 _ (by (repeat constructor))).tail; clear hH2; refine ⟨STT, ?_⟩; intro a hA))) )
    · have hin : r.v ∈ hvL ((l.take i).map Rg.v) := by assumption
      exact rt1 (.inl rfl) rfl hA rfl ⟨false, rfl, no_iff (fun h => nd_not hr (mem_hvL.1 hin) h.2.1), hH.kp⟩
    have hin : ¬ r.v ∈ hvL ((l.take i).map Rg.v) := by assumption
    (refine st_op hA rfl rfl (by decide) (op_call rfl rfl rfl (insert_spec _ o c _ r.v (hH.own_rd (.head _)) hml)) ?_; clear hA; rintro _ w ⟨o2, c2, rfl, hj2⟩ a hA; replace hH := hH.join hj2; clear hj2)
    repeat' (first | (first | (refine GT ?_ ?_ <;> intro hg <;> clear hA a <;> intro a hA <;> (first | exact FA | replace hg := of_decide_eq_true hg | replace hg := of_decide_eq_false hg | skip)) | (refine QT ?_; clear hA a; intro a hA) | (first | (refine BT ?_; clear hA hH; rintro _ w ⟨bN, rfl, hH⟩ a hA) | (refine LT ?_; clear hA hH; rintro _ w ⟨oN, rfl, hH⟩ a hA) | (refine AT ?_; clear hA; rintro _ w ⟨oN, cN, rfl, hH2⟩ a hA; clear hH; have hH := (hH2 _ (by (repeat constructor))).tail; clear hH2) | (refine S0T ?_; clear hH; rintro _ w hH) )) | ((first | refine CT ?_ | (refine DT ?_ ?_ <;> intro hc <;> try (exfalso; omega))) <;> repeat' refine CT ?_) | (first | (refine DSK ?_; clear hA a; intro a hA) | (first | (refine DLT ?_; clear hA hH; rintro _ w ⟨oN, rfl, hH⟩; refine ⟨STT, ?_⟩; intro a hA) | (refine DAT ?_; clear hA; rintro _ w ⟨oN, cN, rfl, hH2⟩; clear hH; have hH := (hH2 _ (by (repeat constructor))).tail; clear hH2; refine ⟨STT, ?_⟩; intro a hA))) )
    rw [hvL_snoc, ← map_v_next hr] at hA hH
    exact ⟨i + 1, ⟨o2, c2, ⟨hlt, ge_next hr hp (by omega), by rw [map_v_next hr]; exact nd_snoc hn (fun h => hin (mem_hvL.2 h))⟩, hH.rm 1, (hA.sub (by (repeat (first | exact trivial | refine ⟨rfl, ?_⟩))))⟩, by omega⟩
  clear hA hH
  rintro a w ⟨o, c, ⟨hge, hnd⟩, hH, hA⟩
  obtain ⟨hv, hhv⟩ : ∃ x, x = hvL (l.map Rg.v) := ⟨_, rfl⟩
  have hvl : hv.length ≤ 1000000 := by rw [hhv, hvL_len, List.length_map]; omega
  rw [← hhv] at hA hH
  repeat' (first | (first | (refine GT ?_ ?_ <;> intro hg <;> clear hA a <;> intro a hA <;> (first | exact FA | replace hg := of_decide_eq_true hg | replace hg := of_decide_eq_false hg | skip)) | (refine QT ?_; clear hA a; intro a hA) | (first | (refine BT ?_; clear hA hH; rintro _ w ⟨bN, rfl, hH⟩ a hA) | (refine LT ?_; clear hA hH; rintro _ w ⟨oN, rfl, hH⟩ a hA) | (refine AT ?_; clear hA; rintro _ w ⟨oN, cN, rfl, hH2⟩ a hA; clear hH; have hH := (hH2 _ (by (repeat constructor))).tail; clear hH2) | (refine S0T ?_; clear hH; rintro _ w hH) )) | ((first | refine CT ?_ | (refine DT ?_ ?_ <;> intro hc <;> try (exfalso; omega))) <;> repeat' refine CT ?_) | (first | (refine DSK ?_; clear hA a; intro a hA) | (first | (refine DLT ?_; clear hA hH; rintro _ w ⟨oN, rfl, hH⟩; refine ⟨STT, ?_⟩; intro a hA) | (refine DAT ?_; clear hA; rintro _ w ⟨oN, cN, rfl, hH2⟩; clear hH; have hH := (hH2 _ (by (repeat constructor))).tail; clear hH2; refine ⟨STT, ?_⟩; intro a hA))) )
  (refine st_op hA rfl rfl (by decide) (op_call rfl rfl rfl (vars_spec _ f (hR.keep hH.kp) hS.vs)) ?_; clear hA; rintro _ w ⟨oV, cV, rfl, hj⟩ a hA; replace hH := hH.join hj; clear hj)
  have hvv := vrs_le hS.vs
  rw [← vrs_eq] at hA hH
  repeat' (first | (first | (refine GT ?_ ?_ <;> intro hg <;> clear hA a <;> intro a hA <;> (first | exact FA | replace hg := of_decide_eq_true hg | replace hg := of_decide_eq_false hg | skip)) | (refine QT ?_; clear hA a; intro a hA) | (first | (refine BT ?_; clear hA hH; rintro _ w ⟨bN, rfl, hH⟩ a hA) | (refine LT ?_; clear hA hH; rintro _ w ⟨oN, rfl, hH⟩ a hA) | (refine AT ?_; clear hA; rintro _ w ⟨oN, cN, rfl, hH2⟩ a hA; clear hH; have hH := (hH2 _ (by (repeat constructor))).tail; clear hH2) | (refine S0T ?_; clear hH; rintro _ w hH) )) | ((first | refine CT ?_ | (refine DT ?_ ?_ <;> intro hc <;> try (exfalso; omega))) <;> repeat' refine CT ?_) | (first | (refine DSK ?_; clear hA a; intro a hA) | (first | (refine DLT ?_; clear hA hH; rintro _ w ⟨oN, rfl, hH⟩; refine ⟨STT, ?_⟩; intro a hA) | (refine DAT ?_; clear hA; rintro _ w ⟨oN, cN, rfl, hH2⟩; clear hH; have hH := (hH2 _ (by (repeat constructor))).tail; clear hH2; refine ⟨STT, ?_⟩; intro a hA))) )
  · exact rt1 (.inl rfl) rfl hA rfl ⟨false, rfl, no_iff (fun h => (by have h1 := congrArg List.length (hhv.trans h.2.2.1); omega)), hH.kp⟩
  have hlv : hv.length = (vrs f).length := by omega
  replace hH : HS w0 noM [own 3 1 oV (vrs f).length cV (flat Fw.encI (vrs f)), own 3 1 o hv.length c (flat Fw.encI hv), cb bF 30 (encG f)] w := hH
  have hspV := hH.own_sp (T := 3) (o := oV) (.head _)
  have hspH := hH.own_sp (T := 3) (o := o) (.tail _ (.head _))
  refine wp_lpk (S := Nat) (fun i a w => (i ≤ hv.length ∧ hv.take i = (vrs f).take i) ∧ HS w0 noM [own 3 1 oV (vrs f).length cV (flat Fw.encI (vrs f)), own 3 1 o hv.length c (flat Fw.encI hv), cb bF 30 (encG f)] w ∧
      Sl 126 [(8, .int .i64 i), (7, .slice oV (vrs f).length cV), (5, .slice o hv.length c), (2, .pointer (some (bat bF 0))), (1, .slice oL l.length cL)] a) (fun i => hv.length - i)
    (fun a w => hv = vrs f ∧ HS w0 noM [cb bF 30 (encG f)] w ∧
      Sl 126 [(2, .pointer (some (bat bF 0))), (1, .slice oL l.length cL)] a) 0 ⟨⟨Nat.zero_le _, by rw [List.take_zero, List.take_zero]⟩, hH, (hA.sub (by (repeat (first | exact trivial | refine ⟨rfl, ?_⟩))))⟩ ?_ ?_
  · clear hA hH
    rintro i a w ⟨⟨hi, hp⟩, hH, hA⟩
    by_cases hlt : i < hv.length
    rotate_left
    · repeat' (first | (first | (refine GT ?_ ?_ <;> intro hg <;> clear hA a <;> intro a hA <;> (first | exact FA | replace hg := of_decide_eq_true hg | replace hg := of_decide_eq_false hg | skip)) | (refine QT ?_; clear hA a; intro a hA) | (first | (refine BT ?_; clear hA hH; rintro _ w ⟨bN, rfl, hH⟩ a hA) | (refine LT ?_; clear hA hH; rintro _ w ⟨oN, rfl, hH⟩ a hA) | (refine AT ?_; clear hA; rintro _ w ⟨oN, cN, rfl, hH2⟩ a hA; clear hH; have hH := (hH2 _ (by (repeat constructor))).tail; clear hH2) | (refine S0T ?_; clear hH; rintro _ w hH) )) | ((first | refine CT ?_ | (refine DT ?_ ?_ <;> intro hc <;> try (exfalso; omega))) <;> repeat' refine CT ?_) | (first | (refine DSK ?_; clear hA a; intro a hA) | (first | (refine DLT ?_; clear hA hH; rintro _ w ⟨oN, rfl, hH⟩; refine ⟨STT, ?_⟩; intro a hA) | (refine DAT ?_; clear hA; rintro _ w ⟨oN, cN, rfl, hH2⟩; clear hH; have hH := (hH2 _ (by (repeat constructor))).tail; clear hH2; refine ⟨STT, ?_⟩; intro a hA))) )
      exact ⟨by rw [List.take_of_length_le (by omega), List.take_of_length_le (by omega)] at hp; exact hp, hH.tail.tail, (hA.sub (by (repeat (first | exact trivial | refine ⟨rfl, ?_⟩))))⟩
    obtain ⟨x, hx⟩ : ∃ x, hv[i]? = some x := ⟨_, List.getElem?_eq_getElem hlt⟩
    obtain ⟨y, hy⟩ : ∃ y, (vrs f)[i]? = some y := ⟨_, List.getElem?_eq_getElem (by omega)⟩
    have hcx : (flat Fw.encI hv)[i * 1]? = some (.int .i64 x) := flat_get (off := 0) Fw.encI_len hx rfl
    have hcy : (flat Fw.encI (vrs f))[i * 1]? = some (.int .i64 y) := flat_get (off := 0) Fw.encI_len hy rfl
    repeat' (first | (first | (refine GT ?_ ?_ <;> intro hg <;> clear hA a <;> intro a hA <;> (first | exact FA | replace hg := of_decide_eq_true hg | replace hg := of_decide_eq_false hg | skip)) | (refine QT ?_; clear hA a; intro a hA) | (first | (refine BT ?_; clear hA hH; rintro _ w ⟨bN, rfl, hH⟩ a hA) | (refine LT ?_; clear hA hH; rintro _ w ⟨oN, rfl, hH⟩ a hA) | (refine AT ?_; clear hA; rintro _ w ⟨oN, cN, rfl, hH2⟩ a hA; clear hH; have hH := (hH2 _ (by (repeat constructor))).tail; clear hH2) | (refine S0T ?_; clear hH; rintro _ w hH) )) | ((first | refine CT ?_ | (refine DT ?_ ?_ <;> intro hc <;> try (exfalso; omega))) <;> repeat' refine CT ?_) | (first | (refine DSK ?_; clear hA a; intro a hA) | (first | (refine DLT ?_; clear hA hH; rintro _ w ⟨oN, rfl, hH⟩; refine ⟨STT, ?_⟩; intro a hA) | (refine DAT ?_; clear hA; rintro _ w ⟨oN, cN, rfl, hH2⟩; clear hH; have hH := (hH2 _ (by (repeat constructor))).tail; clear hH2; refine ⟨STT, ?_⟩; intro a hA))) )
    (refine wp_draw_HS [(0, 1), (1, 1), (2, 1), (3, 1), (4, 1), (5, 1), (6, 1), (7, 1), (8, 1)] mixed (by decide +kernel) hH ?_; replace hH := hH.drew)
    repeat' (first | (first | (refine GT ?_ ?_ <;> intro hg <;> clear hA a <;> intro a hA <;> (first | exact FA | replace hg := of_decide_eq_true hg | replace hg := of_decide_eq_false hg | skip)) | ((first | apply st_ex hA hH rfl rfl (by decide) | apply dr_ex hA rfl rfl rfl (by decide) | apply dr_exp hA rfl rfl rfl (by decide) | apply dr_ex3 hA hH rfl rfl rfl (by decide)); (first | (apply ex_indexAddr_nat; rfl; rfl; omega; exact hspV) | (apply ex_indexAddr_nat; rfl; rfl; omega; exact hspH) | (apply ex_load; rfl; apply cl_own (T := 3) (o := o); exact MEMT; exact hcx) | (apply ex_load; rfl; apply cl_own (T := 3) (o := oV); exact MEMT; exact hcy)); clear hA a; intro a hA) | (refine QT ?_; clear hA a; intro a hA) | (first | (refine BT ?_; clear hA hH; rintro _ w ⟨bN, rfl, hH⟩ a hA) | (refine LT ?_; clear hA hH; rintro _ w ⟨oN, rfl, hH⟩ a hA) | (refine AT ?_; clear hA; rintro _ w ⟨oN, cN, rfl, hH2⟩ a hA; clear hH; have hH := (hH2 _ (by (repeat constructor))).tail; clear hH2) | (refine S0T ?_; clear hH; rintro _ w hH) )) | ((first | refine CT ?_ | (refine DT ?_ ?_ <;> intro hc <;> try (exfalso; omega))) <;> repeat' refine CT ?_) | (first | (refine DSK ?_; clear hA a; intro a hA) | (first | (refine DLT ?_; clear hA hH; rintro _ w ⟨oN, rfl, hH⟩; refine ⟨STT, ?_⟩; intro a hA) | (refine DAT ?_; clear hA; rintro _ w ⟨oN, cN, rfl, hH2⟩; clear hH; have hH := (hH2 _ (by (repeat constructor))).tail; clear hH2; refine ⟨STT, ?_⟩; intro a hA))) )
    · have hxy : x ≠ y := by assumption
      exact rt1 (.inl rfl) rfl hA rfl ⟨false, rfl, no_iff (fun h => hxy (by rw [hhv, h.2.2.1, hy] at hx; exact (Option.some.inj hx).symm)), hH.kp⟩
    · exact ⟨i + 1, ⟨⟨hlt, eq_take hx hy hp (by omega)⟩, hH, (hA.sub (by (repeat (first | exact trivial | refine ⟨rfl, ?_⟩))))⟩, by omega⟩
  clear hA hH
  rintro a w ⟨heq, hH, hA⟩
  have hpre : hvL (l.map Rg.v) = vrs f := hhv.symm.trans heq
  repeat' (first | (first | (refine GT ?_ ?_ <;> intro hg <;> clear hA a <;> intro a hA <;> (first | exact FA | replace hg := of_decide_eq_true hg | replace hg := of_decide_eq_false hg | skip)) | (refine QT ?_; clear hA a; intro a hA) | (first | (refine BT ?_; clear hA hH; rintro _ w ⟨bN, rfl, hH⟩ a hA) | (refine LT ?_; clear hA hH; rintro _ w ⟨oN, rfl, hH⟩ a hA) | (refine AT ?_; clear hA; rintro _ w ⟨oN, cN, rfl, hH2⟩ a hA; clear hH; have hH := (hH2 _ (by (repeat constructor))).tail; clear hH2) | (refine S0T ?_; clear hH; rintro _ w hH) )) | ((first | refine CT ?_ | (refine DT ?_ ?_ <;> intro hc <;> try (exfalso; omega))) <;> repeat' refine CT ?_) | (first | (refine DSK ?_; clear hA a; intro a hA) | (first | (refine DLT ?_; clear hA hH; rintro _ w ⟨oN, rfl, hH⟩; refine ⟨STT, ?_⟩; intro a hA) | (refine DAT ?_; clear hA; rintro _ w ⟨oN, cN, rfl, hH2⟩; clear hH; have hH := (hH2 _ (by (repeat constructor))).tail; clear hH2; refine ⟨STT, ?_⟩; intro a hA))) )
  (refine st_op hA rfl rfl (by decide) (op_call rfl rfl rfl (reg_spec _ oL cL l 0 (hH.rd hL id) hll9)) ?_; clear hA; rintro _ w ⟨rfl, hk⟩ a hA; replace hH := hH.keep hk; clear hk)
  repeat' (first | (first | (refine GT ?_ ?_ <;> intro hg <;> clear hA a <;> intro a hA <;> (first | exact FA | replace hg := of_decide_eq_true hg | replace hg := of_decide_eq_false hg | skip)) | (refine QT ?_; clear hA a; intro a hA) | (first | (refine BT ?_; clear hA hH; rintro _ w ⟨bN, rfl, hH⟩ a hA) | (refine LT ?_; clear hA hH; rintro _ w ⟨oN, rfl, hH⟩ a hA) | (refine AT ?_; clear hA; rintro _ w ⟨oN, cN, rfl, hH2⟩ a hA; clear hH; have hH := (hH2 _ (by (repeat constructor))).tail; clear hH2) | (refine S0T ?_; clear hH; rintro _ w hH) )) | ((first | refine CT ?_ | (refine DT ?_ ?_ <;> intro hc <;> try (exfalso; omega))) <;> repeat' refine CT ?_) | (first | (refine DSK ?_; clear hA a; intro a hA) | (first | (refine DLT ?_; clear hA hH; rintro _ w ⟨oN, rfl, hH⟩; refine ⟨STT, ?_⟩; intro a hA) | (refine DAT ?_; clear hA; rintro _ w ⟨oN, cN, rfl, hH2⟩; clear hH; have hH := (hH2 _ (by (repeat constructor))).tail; clear hH2; refine ⟨STT, ?_⟩; intro a hA))) )
  · have hne : regOf l 0 ≠ 0 := by assumption
    exact rt1 (.inl rfl) rfl hA rfl ⟨false, rfl, no_iff (fun h => hne h.2.2.2.1), hH.kp⟩
  have hr0 : regOf l 0 = 0 := by
    have : ¬ regOf l 0 ≠ 0 := by assumption
    omega
  (refine st_op hA rfl rfl (by decide) (op_call rfl rfl rfl (reg_spec _ oL cL l 1 (hH.rd hL id) hll9)) ?_; clear hA; rintro _ w ⟨rfl, hk⟩ a hA; replace hH := hH.keep hk; clear hk)
  repeat' (first | (first | (refine GT ?_ ?_ <;> intro hg <;> clear hA a <;> intro a hA <;> (first | exact FA | replace hg := of_decide_eq_true hg | replace hg := of_decide_eq_false hg | skip)) | (refine QT ?_; clear hA a; intro a hA) | (first | (refine BT ?_; clear hA hH; rintro _ w ⟨bN, rfl, hH⟩ a hA) | (refine LT ?_; clear hA hH; rintro _ w ⟨oN, rfl, hH⟩ a hA) | (refine AT ?_; clear hA; rintro _ w ⟨oN, cN, rfl, hH2⟩ a hA; clear hH; have hH := (hH2 _ (by (repeat constructor))).tail; clear hH2) | (refine S0T ?_; clear hH; rintro _ w hH) )) | ((first | refine CT ?_ | (refine DT ?_ ?_ <;> intro hc <;> try (exfalso; omega))) <;> repeat' refine CT ?_) | (first | (refine DSK ?_; clear hA a; intro a hA) | (first | (refine DLT ?_; clear hA hH; rintro _ w ⟨oN, rfl, hH⟩; refine ⟨STT, ?_⟩; intro a hA) | (refine DAT ?_; clear hA; rintro _ w ⟨oN, cN, rfl, hH2⟩; clear hH; have hH := (hH2 _ (by (repeat constructor))).tail; clear hH2; refine ⟨STT, ?_⟩; intro a hA))) )
  · have hne : regOf l 1 ≠ 1 := by assumption
    exact rt1 (.inl rfl) rfl hA rfl ⟨false, rfl, no_iff (fun h => hne h.2.2.2.2.1), hH.kp⟩
  have hr1 : regOf l 1 = 1 := by
    have : ¬ regOf l 1 ≠ 1 := by assumption
    omega
  refine wp_lpk (S := Nat) (fun n a w => (n ≤ f.bs.l.length ∧ ∀ sl ∈ slots f n, okS f ss l sl) ∧ HS w0 noM [cb bF 30 (encG f)] w ∧ Sl 126 [(9, .int .i64 n), (2, .pointer (some (bat bF 0))), (1, .slice oL l.length cL)] a) (fun n => f.bs.l.length - n)
    (fun a w => (∀ sl ∈ slots f f.bs.l.length, okS f ss l sl) ∧ HS w0 noM [] w ∧ Sl 126 [] a) 0 ⟨⟨Nat.zero_le _, (by rw [slots_0]; exact fun sl h => absurd h List.not_mem_nil)⟩, hH, (hA.sub (by (repeat (first | exact trivial | refine ⟨rfl, ?_⟩))))⟩ ?_ ?_
  · clear hA hH
    rintro n a w ⟨⟨hn, hok⟩, hH, hA⟩
    by_cases hlt : n < f.bs.l.length
    rotate_left
    · obtain rfl : n = f.bs.l.length := by omega
      repeat' (first | (first | (refine GT ?_ ?_ <;> intro hg <;> clear hA a <;> intro a hA <;> (first | exact FA | replace hg := of_decide_eq_true hg | replace hg := of_decide_eq_false hg | skip)) | (refine QT ?_; clear hA a; intro a hA) | (first | (refine BT ?_; clear hA hH; rintro _ w ⟨bN, rfl, hH⟩ a hA) | (refine LT ?_; clear hA hH; rintro _ w ⟨oN, rfl, hH⟩ a hA) | (refine AT ?_; clear hA; rintro _ w ⟨oN, cN, rfl, hH2⟩ a hA; clear hH; have hH := (hH2 _ (by (repeat constructor))).tail; clear hH2) | (refine S0T ?_; clear hH; rintro _ w hH) )) | ((first | refine CT ?_ | (refine DT ?_ ?_ <;> intro hc <;> try (exfalso; omega))) <;> repeat' refine CT ?_) | (first | (refine DSK ?_; clear hA a; intro a hA) | (first | (refine DLT ?_; clear hA hH; rintro _ w ⟨oN, rfl, hH⟩; refine ⟨STT, ?_⟩; intro a hA) | (refine DAT ?_; clear hA; rintro _ w ⟨oN, cN, rfl, hH2⟩; clear hH; have hH := (hH2 _ (by (repeat constructor))).tail; clear hH2; refine ⟨STT, ?_⟩; intro a hA))) )
      exact ⟨hok, hH.tail, (hA.sub (by (repeat (first | exact trivial | refine ⟨rfl, ?_⟩))))⟩
    obtain ⟨bl, hbl⟩ : ∃ bl, f.bs.l[n]? = some bl := ⟨_, List.getElem?_eq_getElem hlt⟩
    have hbR := hR.2 bl (List.mem_of_getElem? hbl)
    have hvs := flat_all encBl_len hbl
    obtain ⟨hpsl, hisl⟩ := hS.each bl (List.mem_of_getElem? hbl)
    have hspI : Sp bl.is.o bl.is.l.length := hbR.2.1.1.sp (sz := 5) (flat_length encIn_len _) (by omega)
    have hil := intoF_len f ss n (vrs f)
    have hvl := vrs_le hS.vs
    repeat' (first | (first | (refine GT ?_ ?_ <;> intro hg <;> clear hA a <;> intro a hA <;> (first | exact FA | replace hg := of_decide_eq_true hg | replace hg := of_decide_eq_false hg | skip)) | ((first | apply st_ex hA hH rfl rfl (by decide) | apply dr_ex hA rfl rfl rfl (by decide) | apply dr_exp hA rfl rfl rfl (by decide) | apply dr_ex3 hA hH rfl rfl rfl (by decide)); (first | (apply ex_load_st (vs := encBl bl); rfl; rfl; exact cls_rd hR.1.1 id hvs)); clear hA a; intro a hA) | (refine QT ?_; clear hA a; intro a hA) | (first | (refine BT ?_; clear hA hH; rintro _ w ⟨bN, rfl, hH⟩ a hA) | (refine LT ?_; clear hA hH; rintro _ w ⟨oN, rfl, hH⟩ a hA) | (refine AT ?_; clear hA; rintro _ w ⟨oN, cN, rfl, hH2⟩ a hA; clear hH; have hH := (hH2 _ (by (repeat constructor))).tail; clear hH2) | (refine S0T ?_; clear hH; rintro _ w hH) | (apply st_op0 hA rfl rfl; apply op_store_agg (vs := encBl bl); rfl; rfl; exact hH; (repeat constructor); (repeat rfl); clear hH; rintro _ w hH))) | ((first | refine CT ?_ | (refine DT ?_ ?_ <;> intro hc <;> try (exfalso; omega))) <;> repeat' refine CT ?_) | (first | (refine DSK ?_; clear hA a; intro a hA) | (first | (refine DLT ?_; clear hA hH; rintro _ w ⟨oN, rfl, hH⟩; refine ⟨STT, ?_⟩; intro a hA) | (refine DAT ?_; clear hA; rintro _ w ⟨oN, cN, rfl, hH2⟩; clear hH; have hH := (hH2 _ (by (repeat constructor))).tail; clear hH2; refine ⟨STT, ?_⟩; intro a hA))) )
    obtain ⟨bB, hbB⟩ : ∃ x, x = bN := ⟨_, rfl⟩
    rw [← hbB] at hA hH
    clear hbB bN
    (refine wp_draw_HS [(0, 1), (2, 1), (3, 1), (5, 1), (6, 1), (1, 0), (4, 0), (7, 0), (8, 0), (9, 0), (10, 1)] mixed (by decide +kernel) hH ?_; replace hH := hH.drew)
    repeat' (first | (first | (refine GT ?_ ?_ <;> intro hg <;> clear hA a <;> intro a hA <;> (first | exact FA | replace hg := of_decide_eq_true hg | replace hg := of_decide_eq_false hg | skip)) | (refine QT ?_; clear hA a; intro a hA) | (first | (refine BT ?_; clear hA hH; rintro _ w ⟨bN, rfl, hH⟩ a hA) | (refine LT ?_; clear hA hH; rintro _ w ⟨oN, rfl, hH⟩ a hA) | (refine AT ?_; clear hA; rintro _ w ⟨oN, cN, rfl, hH2⟩ a hA; clear hH; have hH := (hH2 _ (by (repeat constructor))).tail; clear hH2) | (refine S0T ?_; clear hH; rintro _ w hH) )) | ((first | refine CT ?_ | (refine DT ?_ ?_ <;> intro hc <;> try (exfalso; omega))) <;> repeat' refine CT ?_) | (first | (refine DSK ?_; clear hA a; intro a hA) | (first | (refine DLT ?_; clear hA hH; rintro _ w ⟨oN, rfl, hH⟩; refine ⟨STT, ?_⟩; intro a hA) | (refine DAT ?_; clear hA; rintro _ w ⟨oN, cN, rfl, hH2⟩; clear hH; have hH := (hH2 _ (by (repeat constructor))).tail; clear hH2; refine ⟨STT, ?_⟩; intro a hA))) )
    (apply dr_op hA rfl rfl rfl (by decide); apply op_sliceLit; rfl; rfl; exact CATST; rfl; rfl; rfl; exact hH; clear hA hH; rintro _ w ⟨oA, rfl, hH⟩; refine ⟨hH.tail, ?_⟩; intro a hA)
    (apply dr_op hA rfl rfl rfl (by decide); apply op_append; rfl; rfl; exact hH; exact MEMT; exact (hH.rd hbR.1.1 id); exact flat_length Fw.encI_len _; rfl; decide; exact flat_one_cell (fun _ => rfl) _; (unfold maxLen; omega); omega; clear hA; rintro _ w ⟨oN, cN, rfl, hH2⟩; clear hH; have hH := hH2 _ (by (repeat constructor)); clear hH2; refine ⟨hH.tail, ?_⟩; intro a hA)
    (refine dr_op hA rfl rfl rfl (by decide) (op_call rfl rfl rfl (into_spec f ss hF hU hsl hSb hS.vs n _ bl hbl (hR.keep hH.kp))) ?_; clear hA; rintro _ w ⟨oV, cV, rfl, hj⟩; refine ⟨(hH.join hj).tail.tail, ?_⟩; intro a hA)
    replace hH := hH.join hj
    clear hj
    rw [List.nil_append, Nat.zero_add] at hH
    rw [Nat.zero_add] at hA
    replace hH : HS w0 noM [own 3 1 oV (intoF f ss n (vrs f)).length cV (flat Fw.encI (intoF f ss n (vrs f))), own 3 1 oN bl.ps.l.length cN (flat Fw.encI bl.ps.l), cb bB 52 (encBl bl), cb bF 30 (encG f)] w := hH
    (apply dr_op hA rfl rfl rfl (by decide); apply op_append; rfl; rfl; exact hH; exact MEMT; exact (hH.own_rd (.head _)); exact flat_length Fw.encI_len _; rfl; decide; exact flat_one_cell (fun _ => rfl) _; (unfold maxLen; omega); omega; clear hA; rintro _ w ⟨oN, cN, rfl, hH2⟩; clear hH; have hH := hH2 _ (by (repeat constructor)); clear hH2; refine ⟨hH.tail.tail, ?_⟩; intro a hA)
    rw [flatI_app, ← List.length_append] at hH
    rw [← List.length_append] at hA
    have hal : (bl.ps.l ++ intoF f ss n (vrs f)).length ≤ 9223372036854775807 := by rw [List.length_append]; omega
    (refine dr_op hA rfl rfl rfl (by decide) (op_call rfl rfl rfl (unlike_spec _ oL cL l _ _ (bl.ps.l ++ intoF f ss n (vrs f)) (hH.rd hL id) hll9 (hH.own_rd (.tail _ (.head _))) hal)) ?_; clear hA; rintro _ w ⟨rfl, hk⟩; refine ⟨(hH.keep hk).tail.tail, ?_⟩; intro a hA)
    replace hH := (hH.keep hk).tail.tail
    clear hk
    repeat' (first | (first | (refine GT ?_ ?_ <;> intro hg <;> clear hA a <;> intro a hA <;> (first | exact FA | replace hg := of_decide_eq_true hg | replace hg := of_decide_eq_false hg | skip)) | (refine QT ?_; clear hA a; intro a hA) | (first | (refine BT ?_; clear hA hH; rintro _ w ⟨bN, rfl, hH⟩ a hA) | (refine LT ?_; clear hA hH; rintro _ w ⟨oN, rfl, hH⟩ a hA) | (refine AT ?_; clear hA; rintro _ w ⟨oN, cN, rfl, hH2⟩ a hA; clear hH; have hH := (hH2 _ (by (repeat constructor))).tail; clear hH2) | (refine S0T ?_; clear hH; rintro _ w hH) )) | ((first | refine CT ?_ | (refine DT ?_ ?_ <;> intro hc <;> try (exfalso; omega))) <;> repeat' refine CT ?_) | (first | (refine DSK ?_; clear hA a; intro a hA) | (first | (refine DLT ?_; clear hA hH; rintro _ w ⟨oN, rfl, hH⟩; refine ⟨STT, ?_⟩; intro a hA) | (refine DAT ?_; clear hA; rintro _ w ⟨oN, cN, rfl, hH2⟩; clear hH; have hH := (hH2 _ (by (repeat constructor))).tail; clear hH2; refine ⟨STT, ?_⟩; intro a hA))) )
    · have hno : ¬ ((bl.ps.l ++ intoF f ss n (vrs f)).map (regOf l)).Nodup := by assumption
      exact rt1 (.inl rfl) rfl hA rfl ⟨false, rfl, no_iff (fun h => hno ((okS_n hbl).1 (h.2.2.2.2.2 _ (slot_mem hbl (slot_none _ _))))), hH.kp⟩
    have hyes : okS f ss l (n, none) := (okS_n hbl).2 (by assumption)
    refine wp_lpk (S := Nat) (fun i a w => (i ≤ bl.is.l.length ∧ ∀ sl ∈ slots f n ++ slotB n i, okS f ss l sl) ∧ HS w0 noM [cb bB 52 (encBl bl), cb bF 30 (encG f)] w ∧ Sl 126 [(11, .int .i64 i), (10, .pointer (some (bat bB 0))), (9, .int .i64 n), (2, .pointer (some (bat bF 0))), (1, .slice oL l.length cL)] a) (fun i => bl.is.l.length - i)
      (fun a w => (∀ sl ∈ slots f n ++ slotB n bl.is.l.length, okS f ss l sl) ∧ HS w0 noM [cb bF 30 (encG f)] w ∧ Sl 126 [(9, .int .i64 n), (2, .pointer (some (bat bF 0))), (1, .slice oL l.length cL)] a) 0 ⟨⟨Nat.zero_le _, (by rw [slotB_0]; exact all_snoc hok hyes)⟩, hH, (hA.sub (by (repeat (first | exact trivial | refine ⟨rfl, ?_⟩))))⟩ ?_ ?_
    · clear hA hH hyes hok
      rintro i a w ⟨⟨hi, hok⟩, hH, hA⟩
      by_cases hlti : i < bl.is.l.length
      rotate_left
      · obtain rfl : i = bl.is.l.length := by omega
        repeat' (first | (first | (refine GT ?_ ?_ <;> intro hg <;> clear hA a <;> intro a hA <;> (first | exact FA | replace hg := of_decide_eq_true hg | replace hg := of_decide_eq_false hg | skip)) | (refine QT ?_; clear hA a; intro a hA) | (first | (refine BT ?_; clear hA hH; rintro _ w ⟨bN, rfl, hH⟩ a hA) | (refine LT ?_; clear hA hH; rintro _ w ⟨oN, rfl, hH⟩ a hA) | (refine AT ?_; clear hA; rintro _ w ⟨oN, cN, rfl, hH2⟩ a hA; clear hH; have hH := (hH2 _ (by (repeat constructor))).tail; clear hH2) | (refine S0T ?_; clear hH; rintro _ w hH) )) | ((first | refine CT ?_ | (refine DT ?_ ?_ <;> intro hc <;> try (exfalso; omega))) <;> repeat' refine CT ?_) | (first | (refine DSK ?_; clear hA a; intro a hA) | (first | (refine DLT ?_; clear hA hH; rintro _ w ⟨oN, rfl, hH⟩; refine ⟨STT, ?_⟩; intro a hA) | (refine DAT ?_; clear hA; rintro _ w ⟨oN, cN, rfl, hH2⟩; clear hH; have hH := (hH2 _ (by (repeat constructor))).tail; clear hH2; refine ⟨STT, ?_⟩; intro a hA))) )
        exact ⟨hok, hH.tail, (hA.sub (by (repeat (first | exact trivial | refine ⟨rfl, ?_⟩))))⟩
      obtain ⟨ins, hins⟩ : ∃ x, bl.is.l[i]? = some x := ⟨_, List.getElem?_eq_getElem hlti⟩
      have hbhl := filF_len (bhB ss bl i) (vrs f)
      have hvx : (flat encIn bl.is.l)[i * 5 + 0]? = some (.int .i64 ins.x) := flat_get (off := 0) encIn_len hins rfl
      repeat' (first | (first | (refine GT ?_ ?_ <;> intro hg <;> clear hA a <;> intro a hA <;> (first | exact FA | replace hg := of_decide_eq_true hg | replace hg := of_decide_eq_false hg | skip)) | (refine QT ?_; clear hA a; intro a hA) | (first | (refine BT ?_; clear hA hH; rintro _ w ⟨bN, rfl, hH⟩ a hA) | (refine LT ?_; clear hA hH; rintro _ w ⟨oN, rfl, hH⟩ a hA) | (refine AT ?_; clear hA; rintro _ w ⟨oN, cN, rfl, hH2⟩ a hA; clear hH; have hH := (hH2 _ (by (repeat constructor))).tail; clear hH2) | (refine S0T ?_; clear hH; rintro _ w hH) )) | ((first | refine CT ?_ | (refine DT ?_ ?_ <;> intro hc <;> try (exfalso; omega))) <;> repeat' refine CT ?_) | (first | (refine DSK ?_; clear hA a; intro a hA) | (first | (refine DLT ?_; clear hA hH; rintro _ w ⟨oN, rfl, hH⟩; refine ⟨STT, ?_⟩; intro a hA) | (refine DAT ?_; clear hA; rintro _ w ⟨oN, cN, rfl, hH2⟩; clear hH; have hH := (hH2 _ (by (repeat constructor))).tail; clear hH2; refine ⟨STT, ?_⟩; intro a hA))) )
      (refine st_op hA rfl rfl (by decide) (op_call rfl rfl rfl (behind_spec f ss hF hU hsl hSb hS.vs n i _ bl ins hbl hins (hR.keep hH.kp) (bhB ss bl i) (bhB_iff hins))) ?_; clear hA; rintro _ w ⟨oV, cV, rfl, hj⟩ a hA; replace hH := hH.join hj; clear hj)
      obtain ⟨bh, hbh⟩ : ∃ x, x = filF (bhB ss bl i) (vrs f) := ⟨_, rfl⟩
      rw [← hbh] at hA hH hbhl
      replace hH : HS w0 noM [own 3 1 oV bh.length cV (flat Fw.encI bh), cb bB 52 (encBl bl), cb bF 30 (encG f)] w := hH
      have hspV := hH.own_sp (T := 3) (o := oV) (.head _)
      repeat' (first | (first | (refine GT ?_ ?_ <;> intro hg <;> clear hA a <;> intro a hA <;> (first | exact FA | replace hg := of_decide_eq_true hg | replace hg := of_decide_eq_false hg | skip)) | (refine QT ?_; clear hA a; intro a hA) | (first | (refine BT ?_; clear hA hH; rintro _ w ⟨bN, rfl, hH⟩ a hA) | (refine LT ?_; clear hA hH; rintro _ w ⟨oN, rfl, hH⟩ a hA) | (refine AT ?_; clear hA; rintro _ w ⟨oN, cN, rfl, hH2⟩ a hA; clear hH; have hH := (hH2 _ (by (repeat constructor))).tail; clear hH2) | (refine S0T ?_; clear hH; rintro _ w hH) )) | ((first | refine CT ?_ | (refine DT ?_ ?_ <;> intro hc <;> try (exfalso; omega))) <;> repeat' refine CT ?_) | (first | (refine DSK ?_; clear hA a; intro a hA) | (first | (refine DLT ?_; clear hA hH; rintro _ w ⟨oN, rfl, hH⟩; refine ⟨STT, ?_⟩; intro a hA) | (refine DAT ?_; clear hA; rintro _ w ⟨oN, cN, rfl, hH2⟩; clear hH; have hH := (hH2 _ (by (repeat constructor))).tail; clear hH2; refine ⟨STT, ?_⟩; intro a hA))) )
      refine wp_lpk (S := Nat) (fun k a w => (k ≤ bh.length ∧ ∀ x ∈ bh.take k, regOf l x ≠ regOf l ins.x) ∧ HS w0 noM [own 3 1 oV bh.length cV (flat Fw.encI bh), cb bB 52 (encBl bl), cb bF 30 (encG f)] w ∧ Sl 126 [(13, .int .i64 k), (12, .slice oV bh.length cV), (11, .int .i64 i), (10, .pointer (some (bat bB 0))), (9, .int .i64 n), (2, .pointer (some (bat bF 0))), (1, .slice oL l.length cL)] a) (fun k => bh.length - k)
        (fun a w => (∀ x ∈ bh, regOf l x ≠ regOf l ins.x) ∧ HS w0 noM [cb bB 52 (encBl bl), cb bF 30 (encG f)] w ∧ Sl 126 [(11, .int .i64 i), (10, .pointer (some (bat bB 0))), (9, .int .i64 n), (2, .pointer (some (bat bF 0))), (1, .slice oL l.length cL)] a) 0 ⟨⟨Nat.zero_le _, (by rw [List.take_zero]; exact fun x h => absurd h List.not_mem_nil)⟩, hH, (hA.sub (by (repeat (first | exact trivial | refine ⟨rfl, ?_⟩))))⟩ ?_ ?_
      · clear hA hH
        rintro k a w ⟨⟨hk, hall⟩, hH, hA⟩
        by_cases hltk : k < bh.length
        rotate_left
        · obtain rfl : k = bh.length := by omega
          rw [List.take_length] at hall
          repeat' (first | (first | (refine GT ?_ ?_ <;> intro hg <;> clear hA a <;> intro a hA <;> (first | exact FA | replace hg := of_decide_eq_true hg | replace hg := of_decide_eq_false hg | skip)) | (refine QT ?_; clear hA a; intro a hA) | (first | (refine BT ?_; clear hA hH; rintro _ w ⟨bN, rfl, hH⟩ a hA) | (refine LT ?_; clear hA hH; rintro _ w ⟨oN, rfl, hH⟩ a hA) | (refine AT ?_; clear hA; rintro _ w ⟨oN, cN, rfl, hH2⟩ a hA; clear hH; have hH := (hH2 _ (by (repeat constructor))).tail; clear hH2) | (refine S0T ?_; clear hH; rintro _ w hH) )) | ((first | refine CT ?_ | (refine DT ?_ ?_ <;> intro hc <;> try (exfalso; omega))) <;> repeat' refine CT ?_) | (first | (refine DSK ?_; clear hA a; intro a hA) | (first | (refine DLT ?_; clear hA hH; rintro _ w ⟨oN, rfl, hH⟩; refine ⟨STT, ?_⟩; intro a hA) | (refine DAT ?_; clear hA; rintro _ w ⟨oN, cN, rfl, hH2⟩; clear hH; have hH := (hH2 _ (by (repeat constructor))).tail; clear hH2; refine ⟨STT, ?_⟩; intro a hA))) )
          exact ⟨hall, hH.tail, (hA.sub (by (repeat (first | exact trivial | refine ⟨rfl, ?_⟩))))⟩
        obtain ⟨x, hx⟩ : ∃ x, bh[k]? = some x := ⟨_, List.getElem?_eq_getElem hltk⟩
        have hcx : (flat Fw.encI bh)[k * 1]? = some (.int .i64 x) := flat_get (off := 0) Fw.encI_len hx rfl
        repeat' (first | (first | (refine GT ?_ ?_ <;> intro hg <;> clear hA a <;> intro a hA <;> (first | exact FA | replace hg := of_decide_eq_true hg | replace hg := of_decide_eq_false hg | skip)) | (refine QT ?_; clear hA a; intro a hA) | (first | (refine BT ?_; clear hA hH; rintro _ w ⟨bN, rfl, hH⟩ a hA) | (refine LT ?_; clear hA hH; rintro _ w ⟨oN, rfl, hH⟩ a hA) | (refine AT ?_; clear hA; rintro _ w ⟨oN, cN, rfl, hH2⟩ a hA; clear hH; have hH := (hH2 _ (by (repeat constructor))).tail; clear hH2) | (refine S0T ?_; clear hH; rintro _ w hH) )) | ((first | refine CT ?_ | (refine DT ?_ ?_ <;> intro hc <;> try (exfalso; omega))) <;> repeat' refine CT ?_) | (first | (refine DSK ?_; clear hA a; intro a hA) | (first | (refine DLT ?_; clear hA hH; rintro _ w ⟨oN, rfl, hH⟩; refine ⟨STT, ?_⟩; intro a hA) | (refine DAT ?_; clear hA; rintro _ w ⟨oN, cN, rfl, hH2⟩; clear hH; have hH := (hH2 _ (by (repeat constructor))).tail; clear hH2; refine ⟨STT, ?_⟩; intro a hA))) )
        (refine wp_draw_HS [(0, 1), (1, 1), (2, 1), (3, 1), (4, 1), (6, 1), (7, 1), (8, 1), (9, 1), (10, 1), (11, 1), (12, 1), (5, 0), (13, 0), (14, 1)] mixed (by decide +kernel) hH ?_; replace hH := hH.drew)
        repeat' (first | (first | (refine GT ?_ ?_ <;> intro hg <;> clear hA a <;> intro a hA <;> (first | exact FA | replace hg := of_decide_eq_true hg | replace hg := of_decide_eq_false hg | skip)) | ((first | apply st_ex hA hH rfl rfl (by decide) | apply dr_ex hA rfl rfl rfl (by decide) | apply dr_exp hA rfl rfl rfl (by decide) | apply dr_ex3 hA hH rfl rfl rfl (by decide)); (first | (apply ex_indexAddr_nat; rfl; rfl; omega; exact hspV) | (apply ex_indexAddr_nat; rfl; rfl; omega; exact hspI) | (apply ex_load; rfl; exact cl_rd hbR.2.1.1 id hvx) | (apply ex_load; rfl; apply cl_own (T := 3) (o := oV); exact MEMT; exact hcx)); clear hA a; intro a hA) | (refine QT ?_; clear hA a; intro a hA) | (first | (refine BT ?_; clear hA hH; rintro _ w ⟨bN, rfl, hH⟩ a hA) | (refine LT ?_; clear hA hH; rintro _ w ⟨oN, rfl, hH⟩ a hA) | (refine AT ?_; clear hA; rintro _ w ⟨oN, cN, rfl, hH2⟩ a hA; clear hH; have hH := (hH2 _ (by (repeat constructor))).tail; clear hH2) | (refine S0T ?_; clear hH; rintro _ w hH) )) | ((first | refine CT ?_ | (refine DT ?_ ?_ <;> intro hc <;> try (exfalso; omega))) <;> repeat' refine CT ?_) | (first | (refine DSK ?_; clear hA a; intro a hA) | (first | (refine DLT ?_; clear hA hH; rintro _ w ⟨oN, rfl, hH⟩; refine ⟨STT, ?_⟩; intro a hA) | (refine DAT ?_; clear hA; rintro _ w ⟨oN, cN, rfl, hH2⟩; clear hH; have hH := (hH2 _ (by (repeat constructor))).tail; clear hH2; refine ⟨STT, ?_⟩; intro a hA))) )
        (refine dr_op hA rfl rfl rfl (by decide) (op_call rfl rfl rfl (reg_spec _ oL cL l x (hH.rd hL id) hll9)) ?_; clear hA; rintro _ w ⟨rfl, hk⟩; refine ⟨hH.keep hk, ?_⟩; intro a hA)
        replace hH := hH.keep hk
        clear hk
        (refine dr_op hA rfl rfl rfl (by decide) (op_call rfl rfl rfl (reg_spec _ oL cL l ins.x (hH.rd hL id) hll9)) ?_; clear hA; rintro _ w ⟨rfl, hk⟩; refine ⟨hH.keep hk, ?_⟩; intro a hA)
        replace hH := hH.keep hk
        clear hk
        repeat' (first | (first | (refine GT ?_ ?_ <;> intro hg <;> clear hA a <;> intro a hA <;> (first | exact FA | replace hg := of_decide_eq_true hg | replace hg := of_decide_eq_false hg | skip)) | (refine QT ?_; clear hA a; intro a hA) | (first | (refine BT ?_; clear hA hH; rintro _ w ⟨bN, rfl, hH⟩ a hA) | (refine LT ?_; clear hA hH; rintro _ w ⟨oN, rfl, hH⟩ a hA) | (refine AT ?_; clear hA; rintro _ w ⟨oN, cN, rfl, hH2⟩ a hA; clear hH; have hH := (hH2 _ (by (repeat constructor))).tail; clear hH2) | (refine S0T ?_; clear hH; rintro _ w hH) )) | ((first | refine CT ?_ | (refine DT ?_ ?_ <;> intro hc <;> try (exfalso; omega))) <;> repeat' refine CT ?_) | (first | (refine DSK ?_; clear hA a; intro a hA) | (first | (refine DLT ?_; clear hA hH; rintro _ w ⟨oN, rfl, hH⟩; refine ⟨STT, ?_⟩; intro a hA) | (refine DAT ?_; clear hA; rintro _ w ⟨oN, cN, rfl, hH2⟩; clear hH; have hH := (hH2 _ (by (repeat constructor))).tail; clear hH2; refine ⟨STT, ?_⟩; intro a hA))) )
        · have he : regOf l x = regOf l ins.x := by assumption
          exact rt1 (.inl rfl) rfl hA rfl ⟨false, rfl, no_iff (fun h => (okS_i hbl hins).1 (h.2.2.2.2.2 _ (slot_mem hbl (slot_some hlti))) x (by rw [bhF_eq, ← hbh]; exact List.mem_of_getElem? hx) he), hH.kp⟩
        · exact ⟨k + 1, ⟨⟨hltk, by rw [take_snoc hx]; exact all_snoc hall (by assumption)⟩, hH, (hA.sub (by (repeat (first | exact trivial | refine ⟨rfl, ?_⟩))))⟩, by omega⟩
      clear hA hH
      rintro a w ⟨hall, hH, hA⟩
      have hyes : okS f ss l (n, some i) := (okS_i hbl hins).2 (by rw [bhF_eq, ← hbh]; exact hall)
      repeat' (first | (first | (refine GT ?_ ?_ <;> intro hg <;> clear hA a <;> intro a hA <;> (first | exact FA | replace hg := of_decide_eq_true hg | replace hg := of_decide_eq_false hg | skip)) | (refine QT ?_; clear hA a; intro a hA) | (first | (refine BT ?_; clear hA hH; rintro _ w ⟨bN, rfl, hH⟩ a hA) | (refine LT ?_; clear hA hH; rintro _ w ⟨oN, rfl, hH⟩ a hA) | (refine AT ?_; clear hA; rintro _ w ⟨oN, cN, rfl, hH2⟩ a hA; clear hH; have hH := (hH2 _ (by (repeat constructor))).tail; clear hH2) | (refine S0T ?_; clear hH; rintro _ w hH) )) | ((first | refine CT ?_ | (refine DT ?_ ?_ <;> intro hc <;> try (exfalso; omega))) <;> repeat' refine CT ?_) | (first | (refine DSK ?_; clear hA a; intro a hA) | (first | (refine DLT ?_; clear hA hH; rintro _ w ⟨oN, rfl, hH⟩; refine ⟨STT, ?_⟩; intro a hA) | (refine DAT ?_; clear hA; rintro _ w ⟨oN, cN, rfl, hH2⟩; clear hH; have hH := (hH2 _ (by (repeat constructor))).tail; clear hH2; refine ⟨STT, ?_⟩; intro a hA))) )
      exact ⟨i + 1, ⟨⟨hlti, by rw [slotB_snoc, ← List.append_assoc]; exact all_snoc hok hyes⟩, hH, (hA.sub (by (repeat (first | exact trivial | refine ⟨rfl, ?_⟩))))⟩, by omega⟩
    clear hA hH hyes hok
    rintro a w ⟨hok, hH, hA⟩
    rw [← slots_next hbl] at hok
    repeat' (first | (first | (refine GT ?_ ?_ <;> intro hg <;> clear hA a <;> intro a hA <;> (first | exact FA | replace hg := of_decide_eq_true hg | replace hg := of_decide_eq_false hg | skip)) | (refine QT ?_; clear hA a; intro a hA) | (first | (refine BT ?_; clear hA hH; rintro _ w ⟨bN, rfl, hH⟩ a hA) | (refine LT ?_; clear hA hH; rintro _ w ⟨oN, rfl, hH⟩ a hA) | (refine AT ?_; clear hA; rintro _ w ⟨oN, cN, rfl, hH2⟩ a hA; clear hH; have hH := (hH2 _ (by (repeat constructor))).tail; clear hH2) | (refine S0T ?_; clear hH; rintro _ w hH) )) | ((first | refine CT ?_ | (refine DT ?_ ?_ <;> intro hc <;> try (exfalso; omega))) <;> repeat' refine CT ?_) | (first | (refine DSK ?_; clear hA a; intro a hA) | (first | (refine DLT ?_; clear hA hH; rintro _ w ⟨oN, rfl, hH⟩; refine ⟨STT, ?_⟩; intro a hA) | (refine DAT ?_; clear hA; rintro _ w ⟨oN, cN, rfl, hH2⟩; clear hH; have hH := (hH2 _ (by (repeat constructor))).tail; clear hH2; refine ⟨STT, ?_⟩; intro a hA))) )
    exact ⟨n + 1, ⟨⟨hlt, hok⟩, hH, (hA.sub (by (repeat (first | exact trivial | refine ⟨rfl, ?_⟩))))⟩, by omega⟩
  clear hA hH
  rintro a w ⟨hok, hH, hA⟩
  repeat' (first | (first | (refine GT ?_ ?_ <;> intro hg <;> clear hA a <;> intro a hA <;> (first | exact FA | replace hg := of_decide_eq_true hg | replace hg := of_decide_eq_false hg | skip)) | (refine QT ?_; clear hA a; intro a hA) | (first | (refine BT ?_; clear hA hH; rintro _ w ⟨bN, rfl, hH⟩ a hA) | (refine LT ?_; clear hA hH; rintro _ w ⟨oN, rfl, hH⟩ a hA) | (refine AT ?_; clear hA; rintro _ w ⟨oN, cN, rfl, hH2⟩ a hA; clear hH; have hH := (hH2 _ (by (repeat constructor))).tail; clear hH2) | (refine S0T ?_; clear hH; rintro _ w hH) )) | ((first | refine CT ?_ | (refine DT ?_ ?_ <;> intro hc <;> try (exfalso; omega))) <;> repeat' refine CT ?_) | (first | (refine DSK ?_; clear hA a; intro a hA) | (first | (refine DLT ?_; clear hA hH; rintro _ w ⟨oN, rfl, hH⟩; refine ⟨STT, ?_⟩; intro a hA) | (refine DAT ?_; clear hA; rintro _ w ⟨oN, cN, rfl, hH2⟩; clear hH; have hH := (hH2 _ (by (repeat constructor))).tail; clear hH2; refine ⟨STT, ?_⟩; intro a hA))) )
  exact rt1 (.inl rfl) rfl hA rfl ⟨true, rfl, yes_iff ⟨hge, hnd, hpre, hr0, hr1, hok⟩, hH.kp⟩
end Go.Proofs.Ytjfanjcoppeeaaa
namespace Go.Proofs.Ytjfanjcoppeeaaa
open Go Go.Fw
set_option linter.unusedVariables false
theorem up_of {g : Grs} {f : Gr} {B : Nat → List Int} (h : GOkB g f B) : Up f := fun n bl hb t ht => by
  have := (h.blk n bl hb).edges t ht
  exact ⟨this.1, this.2.1⟩
theorem uses_at {l : List Atm} {x : Int} (h : uses l x = true) : ∃ a ∈ l, a.k = 1 ∧ a.n = x := by
  unfold uses at h
  obtain ⟨a, ha, h⟩ := List.any_eq_true.1 h
  rw [Bool.and_eq_true, decide_eq_true_iff, decide_eq_true_iff] at h
  exact ⟨a, ha, h.1, h.2⟩
theorem atS_var {g : Grs} {S : Int → Prop} {a : Atm} (h : atS g S a) (hk : a.k = 1) : a.n = 0 ∨ a.n = 1 ∨ S a.n := by
  rcases h with ⟨_, h1, h2, h3⟩ | ⟨h1, _⟩ | ⟨h1, _⟩
  · rcases h3 with h3 | h3
    · by_cases h0 : a.n = 0
      · exact .inl h0
      · exact .inr (.inl (by omega))
    · exact .inr (.inr h3)
  · omega
  · omega
/-- what lives ahead of an Ins is there -/
theorem lv_now {g : Grs} {f : Gr} {B : Nat → List Int} (h : GOkB g f B) {ss : List (Option (Nat × List Int))} {n : Nat} {bl : Blc} (hb : f.bs.l[n]? = some bl) (ht : ∀ t ∈ bl.e.to.l, ∀ x, x ∈ setAt ss t.b.toNat → x = 0 ∨ x = 1 ∨ x ∈ B t.b.toNat) :
    ∀ k i x, i + k = bl.is.l.length → LvAt ss bl i x → x = 0 ∨ x = 1 ∨ nowS (B n) bl i x := by
  have hB := h.blk n bl hb
  intro k
  induction k with
  | zero =>
    intro i x hk hl
    obtain rfl : i = bl.is.l.length := by omega
    rw [lvAt_end] at hl
    rcases hl with hl | ⟨t, htm, hl | ⟨h0, s, hs, hx⟩⟩
    · obtain ⟨a, ha, h1, rfl⟩ := uses_at hl
      exact atS_var (hB.ends a ha) h1
    · obtain ⟨a, ha, h1, rfl⟩ := uses_at hl
      exact atS_var ((hB.edges t htm).2.2 a ha) h1
    · have hx2 : x ∈ setAt ss t.b.toNat := by
        unfold setAt
        rw [hs]
        exact hx
      rcases ht t htm x hx2 with h1 | h1 | h1
      · exact .inl h1
      · exact .inr (.inl h1)
      · exact .inr (.inr (h.flow n bl hb t htm x h1))
  | succ k ih =>
    intro i x hk hl
    obtain ⟨ins, hi⟩ : ∃ y, bl.is.l[i]? = some y := ⟨_, List.getElem?_eq_getElem (by omega)⟩
    rw [lvAt_at hi] at hl
    rcases hl with (hl | ⟨_, hl⟩) | ⟨hl, hne⟩
    · obtain ⟨a, ha, h1, rfl⟩ := uses_at hl
      exact atS_var (hB.ins i ins hi a ha) h1
    · exact .inl hl
    · rcases ih (i + 1) x (by omega) hl with h1 | h1 | h1
      · exact .inl h1
      · exact .inr (.inl h1)
      · refine .inr (.inr ?_)
        unfold nowS at h1 ⊢
        rw [map_x_snoc hi, List.mem_append, List.mem_singleton] at h1
        rcases h1 with h1 | h1 | h1 | h1
        · exact .inl h1
        · exact .inr (.inl h1)
        · exact .inr (.inr h1)
        · exact absurd h1 hne
theorem live_B {g : Grs} {f : Gr} {B : Nat → List Int} (h : GOkB g f B) {ss : List (Option (Nat × List Int))} (hF : ∀ n, FixAt f ss n) (hsl : ss.length = f.bs.l.length) : ∀ k n x, n + k = f.bs.l.length → x ∈ setAt ss n → x = 0 ∨ x = 1 ∨ x ∈ B n := by
  intro k
  induction k using Nat.strongRecOn with
  | _ k ih =>
    intro n x hk hx
    cases hb : f.bs.l[n]? with
    | none =>
      have h1 := List.getElem?_eq_none_iff.1 hb
      unfold setAt at hx
      rw [List.getElem?_eq_none_iff.2 (by omega)] at hx
      exact absurd hx List.not_mem_nil
    | some bl =>
      have hnl := (List.getElem?_eq_some_iff.1 hb).1
      have hbl := (hF n bl hb x).1 hx
      have ht : ∀ t ∈ bl.e.to.l, ∀ x, x ∈ setAt ss t.b.toNat → x = 0 ∨ x = 1 ∨ x ∈ B t.b.toNat := fun t ht x hx => by
        have he := (h.blk n bl hb).edges t ht
        exact ih (f.bs.l.length - t.b.toNat) (by omega) t.b.toNat x (by omega) hx
      rcases lv_now h hb ht bl.is.l.length 0 x (by omega) (blk_lv hbl) with h1 | h1 | h1
      · exact .inl h1
      · exact .inr (.inl h1)
      · refine .inr (.inr ?_)
        rcases h1 with h1 | h1 | h1
        · exact h1
        · exact absurd h1 (blk_ps hbl)
        · rw [List.take_zero] at h1
          exact absurd h1 List.not_mem_nil
theorem live_B2 {g : Grs} {f : Gr} {B : Nat → List Int} (h : GOkB g f B) {ss : List (Option (Nat × List Int))} (hF : ∀ n, FixAt f ss n) (hsl : ss.length = f.bs.l.length) (n : Nat) (x : Int) (hx : x ∈ setAt ss n) : x = 0 ∨ x = 1 ∨ x ∈ B n := by
  by_cases hn : n ≤ f.bs.l.length
  · exact live_B h hF hsl (f.bs.l.length - n) n x (by omega) hx
  · unfold setAt at hx
    rw [List.getElem?_eq_none_iff.2 (by omega)] at hx
    exact absurd hx List.not_mem_nil
/-- what is bound ahead of a slot -/
def bef (f : Gr) (sl : Nat × Option Nat) : List Int :=
  match sl.2 with
  | none => evs f sl.1
  | some i => evs f sl.1 ++ (f.bs.l.getD sl.1 blc0).ps.l ++ ((f.bs.l.getD sl.1 blc0).is.l.take i).map Ins.x
theorem ks_bef {g : Grs} {f : Gr} {B : Nat → List Int} (h : GOkB g f B) {ss : List (Option (Nat × List Int))} (hF : ∀ n, FixAt f ss n) (hsl : ss.length = f.bs.l.length) {sl : Nat × Option Nat} {p : Pl} (hp : IsAt f ss sl p) {x : Int} (hx : x ∈ p.ks) : x = 0 ∨ x = 1 ∨ x ∈ bef f sl := by
  obtain ⟨n, o⟩ := sl
  obtain ⟨bl, hb, hn, hp⟩ := hp
  have hnl := (List.getElem?_eq_some_iff.1 hb).1
  cases o with
  | none =>
    obtain ⟨_, _, h3⟩ := hp
    rcases live_B2 h hF hsl n x ((h3 x).1 hx) with h1 | h1 | h1
    · exact .inl h1
    · exact .inr (.inl h1)
    · exact .inr (.inr (h.sub n hnl x h1))
  | some i =>
    obtain ⟨ins, hi, _, _, h3⟩ := hp
    have h4 := (h3 x).1 hx
    have hil := (List.getElem?_eq_some_iff.1 hi).1
    rcases lv_now h hb (fun t ht x hx => live_B2 h hF hsl _ x hx) (bl.is.l.length - (i + 1)) (i + 1) x (by omega) h4.2 with h1 | h1 | h1
    · exact .inl h1
    · exact .inr (.inl h1)
    · refine .inr (.inr ?_)
      unfold bef
      dsimp only
      rw [blD hb]
      rcases h1 with h1 | h1 | h1
      · exact List.mem_append_left _ (List.mem_append_left _ (h.sub n hnl x h1))
      · exact List.mem_append_left _ (List.mem_append_right _ h1)
      · rw [map_x_snoc hi, List.mem_append, List.mem_singleton] at h1
        rcases h1 with h1 | h1
        · exact List.mem_append_right _ h1
        · exact absurd h1 h4.1
theorem evs_le (f : Gr) (n : Nat) : ∀ x ∈ evs f n, x ∈ f.bs.l.flatMap bvs := fun x hx => by
  unfold evs at hx
  obtain ⟨b, hb, hx⟩ := List.mem_flatMap.1 hx
  exact List.mem_flatMap.2 ⟨b, List.mem_of_mem_take hb, hx⟩
theorem bef_le (f : Gr) {sl : Nat × Option Nat} (h : sl.1 < f.bs.l.length) {x : Int} (hx : x ∈ bef f sl) : x ∈ f.bs.l.flatMap bvs := by
  obtain ⟨n, o⟩ := sl
  have hb : f.bs.l[n]? = some f.bs.l[n] := List.getElem?_eq_getElem h
  cases o with
  | none => exact evs_le f n x hx
  | some i =>
    unfold bef at hx
    dsimp only at hx
    rw [blD hb] at hx
    rcases List.mem_append.1 hx with h1 | h1
    · rcases List.mem_append.1 h1 with h1 | h1
      · exact evs_le f n x h1
      · exact List.mem_flatMap.2 ⟨_, List.mem_of_getElem? hb, List.mem_append_left _ h1⟩
    · refine List.mem_flatMap.2 ⟨_, List.mem_of_getElem? hb, List.mem_append_right _ ?_⟩
      obtain ⟨y, hy, rfl⟩ := List.mem_map.1 h1
      exact List.mem_map.2 ⟨y, List.mem_of_mem_take hy, rfl⟩
theorem bvs_eq (l : List Blc) : varsL l = [0, 1] ++ l.flatMap bvs := rfl
theorem isAt_lt {f : Gr} {ss : List (Option (Nat × List Int))} {sl : Nat × Option Nat} {p : Pl} (hp : IsAt f ss sl p) : sl.1 < f.bs.l.length := by
  obtain ⟨bl, hb, _⟩ := hp
  exact (List.getElem?_eq_some_iff.1 hb).1
theorem ks_vars {g : Grs} {f : Gr} {B : Nat → List Int} (h : GOkB g f B) {ss : List (Option (Nat × List Int))} (hF : ∀ n, FixAt f ss n) (hsl : ss.length = f.bs.l.length) {sl : Nat × Option Nat} {p : Pl} (hp : IsAt f ss sl p) {x : Int} (hx : x ∈ p.ks) : x ∈ varsL f.bs.l := by
  rw [bvs_eq]
  rcases ks_bef h hF hsl hp hx with h1 | h1 | h1
  · exact List.mem_append_left _ (h1 ▸ .head _)
  · exact List.mem_append_left _ (h1 ▸ .tail _ (.head _))
  · exact List.mem_append_right _ (bef_le f (isAt_lt hp) h1)
theorem bvs_sub {l : List Blc} {b : Blc} (h : b ∈ l) : b.ps.l.length + b.is.l.length ≤ (l.flatMap bvs).length := by
  induction l with
  | nil => cases h
  | cons c l ih =>
    rw [List.flatMap_cons, List.length_append]
    rcases List.mem_cons.1 h with rfl | h
    · have : (bvs b).length = b.ps.l.length + b.is.l.length := by unfold bvs; rw [List.length_append, List.length_map]
      omega
    · have := ih h
      omega
theorem small_of {g : Grs} {f : Gr} {B : Nat → List Int} (h : GOkB g f B) : Small f := by
  have hs := h.size
  have hv : (varsL f.bs.l).length = 2 + (f.bs.l.flatMap bvs).length := by rw [bvs_eq, List.length_append]; rfl
  refine ⟨by omega, by omega, fun bl hb => ?_, fun ss hsl hF sl p hp => ?_⟩
  · have := bvs_sub hb
    omega
  · have hnd : p.ks.Nodup := by
      obtain ⟨bl, _, hn, _⟩ := hp
      exact hn
    have := nodup_sub hnd (m := varsL f.bs.l) fun x hx => ks_vars h hF hsl hp hx
    omega
end Go.Proofs.Ytjfanjcoppeeaaa
namespace Go.Proofs.Ytjfanjcoppeeaaa
open Go Go.Fw
set_option linter.unusedVariables false
theorem sorted_uniq : ∀ {l m : List Int}, l.Pairwise (· ≤ ·) → m.Pairwise (· ≤ ·) → l.Perm m → l = m
  | [], m, _, _, h => h.nil_eq.symm ▸ rfl
  | x :: l, [], _, _, h => absurd h.length_eq (by simp)
  | x :: l, y :: m, h1, h2, h => by
    have hxy : x = y := by
      have hx : x ∈ y :: m := h.mem_iff.1 (.head _)
      have hy : y ∈ x :: l := h.mem_iff.2 (.head _)
      rcases List.mem_cons.1 hx with hx | hx
      · exact hx
      rcases List.mem_cons.1 hy with hy | hy
      · exact hy.symm
      have h3 := (List.pairwise_cons.1 h1).1 y hy
      have h4 := (List.pairwise_cons.1 h2).1 x hx
      omega
    subst hxy
    rw [sorted_uniq (List.pairwise_cons.1 h1).2 (List.pairwise_cons.1 h2).2 h.cons_inv]
theorem insF_perm : ∀ (l : List Int) (x : Int), (insF l x).Perm (x :: l)
  | [], x => .refl _
  | y :: l, x => by
    unfold insF
    split
    · exact .refl _
    · exact ((insF_perm l x).cons y).trans (.swap _ _ _)
theorem insF_sorted : ∀ {l : List Int} {x : Int}, l.Pairwise (· ≤ ·) → (insF l x).Pairwise (· ≤ ·)
  | [], x, _ => List.pairwise_singleton _ _
  | y :: l, x, h => by
    unfold insF
    split
    · rename_i hxy
      refine List.pairwise_cons.2 ⟨fun z hz => ?_, h⟩
      rcases List.mem_cons.1 hz with rfl | hz
      · omega
      · have := (List.pairwise_cons.1 h).1 z hz
        omega
    · rename_i hxy
      refine List.pairwise_cons.2 ⟨fun z hz => ?_, insF_sorted (List.pairwise_cons.1 h).2⟩
      rcases mem_insF.1 hz with rfl | hz
      · omega
      · exact (List.pairwise_cons.1 h).1 z hz
theorem foldI_sorted : ∀ (q s : List Int), s.Pairwise (· ≤ ·) → (q.foldl insF s).Pairwise (· ≤ ·)
  | [], s, h => h
  | x :: q, s, h => foldI_sorted q _ (insF_sorted h)
theorem foldI_perm : ∀ (q s : List Int), (q.foldl insF s).Perm (q ++ s)
  | [], s => .refl _
  | x :: q, s => (foldI_perm q _).trans (((insF_perm s x).append_left q).trans List.perm_middle)
theorem hvL_srt (q : List Int) : hvL q = srt q := by
  refine sorted_uniq (foldI_sorted q [] List.Pairwise.nil) (srt_sorted q) ((foldI_perm q []).trans ?_)
  rw [List.append_nil]
  exact (srt_perm q).symm
theorem vrs_srt (f : Gr) : vrs f = srt (varsL f.bs.l) := by
  refine sorted_uniq (foldI_sorted _ _ (by simp)) (srt_sorted _) (((foldI_perm _ _).trans List.perm_append_comm).trans ?_)
  refine .trans ?_ (srt_perm _).symm
  unfold vpre
  rw [List.take_length]
  exact .refl _
theorem vars_nodup {g : Grs} {f : Gr} {B : Nat → List Int} (h : GOkB g f B) : (varsL f.bs.l).Nodup := by
  rw [bvs_eq]
  refine List.nodup_append.2 ⟨by simp, h.ev.nd, fun a ha b hb e => ?_⟩
  subst e
  have := (h.ev.rg a hb).1
  simp at ha
  omega
theorem vrs_nodup {g : Grs} {f : Gr} {B : Nat → List Int} (h : GOkB g f B) : (vrs f).Nodup := by
  rw [vrs_srt]
  exact (srt_perm _).nodup_iff.2 (vars_nodup h)
theorem mem_vrs {f : Gr} {x : Int} : x ∈ vrs f ↔ x ∈ varsL f.bs.l := by rw [vrs_srt, mem_srt]
/-! ## the map of registers -/
def prR (r : Rg) : Int × Int := (r.v, r.r)
theorem mkM_eq : ∀ (l : List Rg), (l.map Rg.v).Nodup → mkM l = l.map prR := by
  have key : ∀ (l : List Rg) (m : List (Int × Int)), (l.map Rg.v).Nodup → (∀ r ∈ l, lkI m r.v = none) → l.foldl (fun m r => setI m r.v r.r) m = m ++ l.map prR := by
    intro l
    induction l with
    | nil => intro m _ _; simp
    | cons r l ih =>
      intro m hn hm
      rw [List.map_cons, List.nodup_cons] at hn
      have hs : setI m r.v r.r = m ++ [(r.v, r.r)] := by
        unfold setI
        rw [hm r (.head _)]
        rfl
      rw [List.foldl_cons, hs, ih _ hn.2 fun s hs => ?_]
      · rw [List.append_assoc]
        rfl
      · have h1 := hm s (.tail _ hs)
        unfold lkI at h1 ⊢
        rw [Option.map_eq_none_iff] at h1 ⊢
        rw [List.find?_append, h1]
        have hne : (r.v == s.v) = false := by
          have : r.v ≠ s.v := fun e => hn.1 (e ▸ List.mem_map.2 ⟨s, hs, rfl⟩)
          simpa using this
        simp [hne]
  intro l h
  have := key l [] h fun r hr => rfl
  exact this
theorem rgM_reg : ∀ {l : List Rg} {x : Int}, x ∈ l.map Rg.v → rgM (l.map prR) x = regOf l x
  | r :: l, x, h => by
    unfold rgM lkI
    rw [List.map_cons, List.find?_cons]
    by_cases hx : r.v = x
    · have : ((prR r).1 == x) = true := by simp [prR, hx]
      rw [this, regOf, if_pos hx]
      rfl
    · have : ((prR r).1 == x) = false := by simpa [prR] using hx
      rw [this, regOf, if_neg hx]
      rw [List.map_cons] at h
      rcases List.mem_cons.1 h with h | h
      · exact absurd h.symm hx
      · exact rgM_reg h
/-! ## places as the document has them -/
theorem into_vars {g : Grs} {f : Gr} {B : Nat → List Int} (h : GOkB g f B) {ss : List (Option (Nat × List Int))} (hF : ∀ n, FixAt f ss n) (hsl : ss.length = f.bs.l.length) {n : Nat} (hn : n < f.bs.l.length) {x : Int} (hx : x ∈ setAt ss n) : x ∈ varsL f.bs.l := by
  rw [bvs_eq]
  rcases live_B2 h hF hsl n x hx with h1 | h1 | h1
  · exact List.mem_append_left _ (h1 ▸ .head _)
  · exact List.mem_append_left _ (h1 ▸ .tail _ (.head _))
  · exact List.mem_append_right _ (evs_le f n x (h.sub n hn x h1))
theorem bh_vars {g : Grs} {f : Gr} {B : Nat → List Int} (h : GOkB g f B) {ss : List (Option (Nat × List Int))} (hF : ∀ n, FixAt f ss n) (hsl : ss.length = f.bs.l.length) {n i : Nat} {bl : Blc} {ins : Ins} (hb : f.bs.l[n]? = some bl) (hi : bl.is.l[i]? = some ins) {x : Int} (hx : LvAt ss bl (i + 1) x) : x ∈ varsL f.bs.l := by
  have hnl := (List.getElem?_eq_some_iff.1 hb).1
  have hil := (List.getElem?_eq_some_iff.1 hi).1
  rw [bvs_eq]
  rcases lv_now h hb (fun t ht x hx => live_B2 h hF hsl _ x hx) (bl.is.l.length - (i + 1)) (i + 1) x (by omega) hx with h1 | h1 | h1
  · exact List.mem_append_left _ (h1 ▸ .head _)
  · exact List.mem_append_left _ (h1 ▸ .tail _ (.head _))
  · refine List.mem_append_right _ ?_
    have hm := List.mem_of_getElem? hb
    rcases h1 with h1 | h1 | h1
    · exact evs_le f n x (h.sub n hnl x h1)
    · exact List.mem_flatMap.2 ⟨bl, hm, List.mem_append_left _ h1⟩
    · refine List.mem_flatMap.2 ⟨bl, hm, List.mem_append_right _ ?_⟩
      obtain ⟨y, hy, rfl⟩ := List.mem_map.1 h1
      exact List.mem_map.2 ⟨y, List.mem_of_mem_take hy, rfl⟩
theorem mem_into {g : Grs} {f : Gr} {B : Nat → List Int} (h : GOkB g f B) {ss : List (Option (Nat × List Int))} (hF : ∀ n, FixAt f ss n) (hsl : ss.length = f.bs.l.length) {n : Nat} (hn : n < f.bs.l.length) {x : Int} : x ∈ intoF f ss n (vrs f) ↔ x ∈ setAt ss n := by
  unfold intoF
  rw [List.mem_filter, decide_eq_true_iff]
  exact ⟨And.right, fun hx => ⟨mem_vrs.2 (into_vars h hF hsl hn hx), hx⟩⟩
theorem mem_bh {g : Grs} {f : Gr} {B : Nat → List Int} (h : GOkB g f B) {ss : List (Option (Nat × List Int))} (hF : ∀ n, FixAt f ss n) (hsl : ss.length = f.bs.l.length) {n i : Nat} {bl : Blc} {ins : Ins} (hb : f.bs.l[n]? = some bl) (hi : bl.is.l[i]? = some ins) {x : Int} : x ∈ bhF f ss bl i ↔ x ≠ ins.x ∧ LvAt ss bl (i + 1) x := by
  unfold bhF filF
  rw [List.mem_filter, bhB_iff hi]
  exact ⟨And.right, fun hx => ⟨mem_vrs.2 (bh_vars h hF hsl hb hi hx.2), hx⟩⟩
theorem isAt_N {g : Grs} {f : Gr} {B : Nat → List Int} (h : GOkB g f B) {ss : List (Option (Nat × List Int))} (hF : ∀ n, FixAt f ss n) (hsl : ss.length = f.bs.l.length) {n : Nat} {bl : Blc} (hb : f.bs.l[n]? = some bl) : IsAt f ss (n, none) ⟨bl.ps.l, intoF f ss n (vrs f), true⟩ :=
  ⟨bl, hb, List.Nodup.sublist List.filter_sublist (vrs_nodup h), rfl, rfl, fun x => mem_into h hF hsl (List.getElem?_eq_some_iff.1 hb).1⟩
theorem isAt_I {g : Grs} {f : Gr} {B : Nat → List Int} (h : GOkB g f B) {ss : List (Option (Nat × List Int))} (hF : ∀ n, FixAt f ss n) (hsl : ss.length = f.bs.l.length) {n i : Nat} {bl : Blc} {ins : Ins} (hb : f.bs.l[n]? = some bl) (hi : bl.is.l[i]? = some ins) : IsAt f ss (n, some i) ⟨[ins.x], bhF f ss bl i, false⟩ :=
  ⟨bl, hb, List.Nodup.sublist List.filter_sublist (vrs_nodup h), ins, hi, rfl, rfl, fun x => mem_bh h hF hsl hb hi⟩
theorem map_congr_on {f g : Int → Int} {l : List Int} (h : ∀ x ∈ l, f x = g x) : l.map f = l.map g := List.map_congr_left h
theorem slot_cases {f : Gr} {sl : Nat × Option Nat} (h : sl ∈ slots f f.bs.l.length) : ∃ n bl, f.bs.l[n]? = some bl ∧ (sl = (n, none) ∨ ∃ i ins, bl.is.l[i]? = some ins ∧ sl = (n, some i)) := by
  unfold slots at h
  obtain ⟨n, hn, h⟩ := List.mem_flatMap.1 h
  have hnl := List.mem_range.1 hn
  have hb : f.bs.l[n]? = some f.bs.l[n] := List.getElem?_eq_getElem hnl
  refine ⟨n, _, hb, ?_⟩
  unfold slotB isLen at h
  rw [hb] at h
  rcases List.mem_cons.1 h with h | h
  · exact .inl h
  · obtain ⟨i, hi, rfl⟩ := List.mem_map.1 h
    exact .inr ⟨i, _, List.getElem?_eq_getElem (List.mem_range.1 hi), rfl⟩
/-- registers agree on all variables -/
theorem all_okS {g : Grs} {f : Gr} {B : Nat → List Int} (h : GOkB g f B) {ss : List (Option (Nat × List Int))} (hF : ∀ n, FixAt f ss n) (hsl : ss.length = f.bs.l.length) {l : List Rg} {m : List (Int × Int)} (hm : ∀ x ∈ varsL f.bs.l, rgM m x = regOf l x) :
    AllOk f m ↔ ∀ sl ∈ slots f f.bs.l.length, okS f ss l sl := by
  have hps : ∀ {n : Nat} {bl : Blc}, f.bs.l[n]? = some bl → ∀ x ∈ bl.ps.l, x ∈ varsL f.bs.l := fun hb x hx => by
    rw [bvs_eq]
    exact List.mem_append_right _ (List.mem_flatMap.2 ⟨_, List.mem_of_getElem? hb, List.mem_append_left _ hx⟩)
  have hxs : ∀ {n i : Nat} {bl : Blc} {ins : Ins}, f.bs.l[n]? = some bl → bl.is.l[i]? = some ins → ins.x ∈ varsL f.bs.l := fun hb hi => by
    rw [bvs_eq]
    exact List.mem_append_right _ (List.mem_flatMap.2 ⟨_, List.mem_of_getElem? hb, List.mem_append_right _ (List.mem_map.2 ⟨_, List.mem_of_getElem? hi, rfl⟩)⟩)
  have eN : ∀ {n : Nat} {bl : Blc}, f.bs.l[n]? = some bl → (okPl m ⟨bl.ps.l, intoF f ss n (vrs f), true⟩ ↔ okS f ss l (n, none)) := fun {n bl} hb => by
    have hn := (List.getElem?_eq_some_iff.1 hb).1
    rw [okS_n hb, List.map_append]
    unfold okPl
    dsimp only
    rw [map_congr_on (f := rgM m) (g := regOf l) fun x hx => hm x (into_vars h hF hsl hn ((mem_into h hF hsl hn).1 hx)), map_congr_on (f := rgM m) (g := regOf l) fun x hx => hm x (hps hb x hx), List.nodup_append]
    constructor
    · rintro ⟨h1, h2, h3⟩
      refine ⟨h2, h1 rfl, fun a ha b hb2 e => ?_⟩
      obtain ⟨x, hx, rfl⟩ := List.mem_map.1 ha
      exact h3 x hx (by rw [hm x (hps hb x hx), e]; exact hb2)
    · rintro ⟨h1, h2, h3⟩
      refine ⟨fun _ => h2, h1, fun x hx hc => ?_⟩
      rw [hm x (hps hb x hx)] at hc
      exact h3 _ (List.mem_map.2 ⟨x, hx, rfl⟩) _ hc rfl
  have eI : ∀ {n i : Nat} {bl : Blc} {ins : Ins}, f.bs.l[n]? = some bl → bl.is.l[i]? = some ins → (okPl m ⟨[ins.x], bhF f ss bl i, false⟩ ↔ okS f ss l (n, some i)) := fun {n i bl ins} hb hi => by
    rw [okS_i hb hi]
    unfold okPl
    dsimp only
    rw [map_congr_on (f := rgM m) (g := regOf l) fun x hx => hm x (bh_vars h hF hsl hb hi ((mem_bh h hF hsl hb hi).1 hx).2)]
    constructor
    · rintro ⟨_, _, h3⟩ x hx e
      have := h3 ins.x (.head _)
      rw [hm _ (hxs hb hi), ← e] at this
      exact this (List.mem_map.2 ⟨x, hx, rfl⟩)
    · intro h3
      refine ⟨fun hc => (by cases hc), List.nodup_cons.2 ⟨List.not_mem_nil, List.nodup_nil⟩, fun x hx hc => ?_⟩
      rw [List.mem_singleton] at hx
      subst hx
      rw [hm _ (hxs hb hi)] at hc
      obtain ⟨y, hy, e⟩ := List.mem_map.1 hc
      exact h3 y hy e
  have hU := up_of h
  constructor
  · intro ha sl hs
    obtain ⟨n, bl, hb, rfl | ⟨i, ins, hi, rfl⟩⟩ := slot_cases hs
    · exact (eN hb).1 (ha ss hsl hF _ hs _ (isAt_N h hF hsl hb))
    · exact (eI hb hi).1 (ha ss hsl hF _ hs _ (isAt_I h hF hsl hb hi))
  · intro ha s2 hl2 hF2 sl hs p hp
    obtain ⟨n, bl, hb, rfl | ⟨i, ins, hi, rfl⟩⟩ := slot_cases hs
    · exact okPl_perm (isAt_uniq (setAt_uniq hU hF hF2 hsl hl2) (by omega) (isAt_N h hF hsl hb) hp) ((eN hb).2 (ha _ hs))
    · exact okPl_perm (isAt_uniq (setAt_uniq hU hF hF2 hsl hl2) (by omega) (isAt_I h hF hsl hb hi) hp) ((eI hb hi).2 (ha _ hs))
theorem mem01 (f : Gr) : (0 : Int) ∈ varsL f.bs.l ∧ (1 : Int) ∈ varsL f.bs.l := by
  rw [bvs_eq]
  exact ⟨.head _, .tail _ (.head _)⟩
/-- the program's Right answers as the document's -/
theorem right_iff {g : Grs} {f : Gr} {B : Nat → List Int} (h : GOkB g f B) {ss : List (Option (Nat × List Int))} (hF : ∀ n, FixAt f ss n) (hsl : ss.length = f.bs.l.length) (l : List Rg) : RightP f l ↔ RefP f ss l := by
  have hperm : srt (l.map Rg.v) = srt (varsL f.bs.l) → (l.map Rg.v).Perm (varsL f.bs.l) := fun e => (srt_perm _).symm.trans (e ▸ srt_perm _)
  have hmm : srt (l.map Rg.v) = srt (varsL f.bs.l) → (l.map Rg.v).Nodup ∧ mkM l = l.map prR ∧ ∀ x ∈ varsL f.bs.l, rgM (mkM l) x = regOf l x := fun e => by
    have hp := hperm e
    have hn := hp.nodup_iff.2 (vars_nodup h)
    refine ⟨hn, mkM_eq l hn, fun x hx => ?_⟩
    rw [mkM_eq l hn]
    exact rgM_reg (hp.mem_iff.2 hx)
  constructor
  · rintro ⟨h1, h2, h3, h4, h5, h6⟩
    obtain ⟨hn, he, hr⟩ := hmm h2
    exact ⟨h1, hn, by rw [hvL_srt, vrs_srt]; exact h2, by rw [← hr 0 (mem01 f).1]; exact h4, by rw [← hr 1 (mem01 f).2]; exact h5, (all_okS h hF hsl hr).1 h6⟩
  · rintro ⟨h1, h2, h3, h4, h5, h6⟩
    rw [hvL_srt, vrs_srt] at h3
    obtain ⟨hn, he, hr⟩ := hmm h3
    exact ⟨h1, h3, by rw [he, List.length_map], by rw [hr 0 (mem01 f).1]; exact h4, by rw [hr 1 (mem01 f).2]; exact h5, (all_okS h hF hsl hr).2 h6⟩
end Go.Proofs.Ytjfanjcoppeeaaa
namespace Go.Proofs.Ytjfanjcoppeeaaa
open Go Go.Fw
set_option linter.unusedVariables false
theorem lkI_set (m : List (Int × Int)) (k v p : Int) : lkI (setI m k v) p = if p = k then some v else lkI m p := by
  unfold setI
  split
  · rename_i hs
    induction m with
    | nil => simp [lkI] at hs
    | cons e m ih =>
      by_cases hek : e.1 = k
      · have hb : (e.1 == k) = true := by simpa using hek
        simp only [List.map_cons, hb, if_true, lkI, List.find?_cons]
        by_cases hpk : p = k
        · subst hpk; simp
        · have h1 : (k == p) = false := by simpa using fun h => hpk h.symm
          have h2 : (e.1 == p) = false := by rw [hek]; exact h1
          rw [if_neg hpk, h1, h2]
          have key : ∀ l : List (Int × Int), (l.map (fun e => if e.1 == k then (k, v) else e)).find? (fun e => e.1 == p) = l.find? (fun e => e.1 == p) := by
            intro l
            induction l with
            | nil => rfl
            | cons d l ihl =>
              rw [List.map_cons, List.find?_cons, List.find?_cons]
              by_cases hd : d.1 = k
              · have hd1 : (d.1 == k) = true := by simpa using hd
                have hd2 : (d.1 == p) = false := by rw [hd]; exact h1
                simp only [hd1, if_true, h1, hd2, ihl]
              · have hd1 : (d.1 == k) = false := by simpa using hd
                simp only [hd1, Bool.false_eq_true, if_false, ihl]
          simp only [key]
      · have hb : (e.1 == k) = false := by simpa using hek
        have hs' : (lkI m k).isSome = true := by
          unfold lkI at hs ⊢
          rw [List.find?_cons, hb] at hs
          exact hs
        have := ih hs'
        unfold lkI at this ⊢
        simp only [List.map_cons, hb, Bool.false_eq_true, if_false, List.find?_cons]
        by_cases hep : e.1 = p
        · have h1 : (e.1 == p) = true := by simpa using hep
          have hpk : ¬ p = k := fun h => hek (hep.trans h)
          simp only [h1, if_neg hpk]
        · have h1 : (e.1 == p) = false := by simpa using hep
          simp only [h1]
          exact this
  · rename_i hs
    have hs2 : lkI m k = none := by simpa using hs
    unfold lkI at hs2 ⊢
    rw [List.find?_append]
    by_cases hpk : p = k
    · subst hpk
      rw [Option.map_eq_none_iff] at hs2
      rw [hs2, if_pos rfl]
      simp
    · rw [if_neg hpk]
      have h1 : (k == p) = false := by simpa using fun h => hpk h.symm
      cases h2 : m.find? (fun e => e.1 == p) with
      | none => simp [h1]
      | some e => simp
theorem rgM_set_ne {m : List (Int × Int)} {k v p : Int} (h : p ≠ k) : rgM (setI m k v) p = rgM m p := by
  unfold rgM
  rw [lkI_set, if_neg h]
theorem rgM_set_eq {m : List (Int × Int)} {k v : Int} : rgM (setI m k v) k = v := by
  unfold rgM
  rw [lkI_set, if_pos rfl]
  rfl
/-- what stands when some are bound at a place -/
structure AsgOk (m : List (Int × Int)) (ks bs : List Int) (s : List (Int × Int) × List Int) : Prop where
  tl : s.2 = ks.map (rgM m) ++ bs.map (rgM s.1)
  ne : ∀ y, y ∉ bs → lkI s.1 y = lkI m y
  nd : (bs.map (rgM s.1)).Nodup
  off : ∀ x ∈ bs, rgM s.1 x ∉ ks.map (rgM m)
  some_ : ∀ x ∈ bs, (lkI s.1 x).isSome = true
  lt : ∀ x ∈ bs, 0 ≤ rgM s.1 x ∧ rgM s.1 x < ks.length + bs.length
theorem asgs_ok (m : List (Int × Int)) (ks bs : List Int) (hn : bs.Nodup) : ∀ i, i ≤ bs.length → AsgOk m ks (bs.take i) (asgs m ks (bs.take i)) := by
  intro i
  induction i with
  | zero =>
    intro _
    rw [List.take_zero, asgs_nil]
    exact ⟨by simp, fun y _ => rfl, List.nodup_nil, fun x h => absurd h List.not_mem_nil, fun x h => absurd h List.not_mem_nil, fun x h => absurd h List.not_mem_nil⟩
  | succ i ih =>
    intro hi
    have h := ih (by omega)
    obtain ⟨x, hx⟩ : ∃ x, bs[i]? = some x := ⟨_, List.getElem?_eq_getElem hi⟩
    rw [asgs_snoc m ks hx]
    generalize asgs m ks (bs.take i) = s at h
    have hxn : x ∉ bs.take i := by
      have h4 : (bs.take (i + 1)).Nodup := List.Nodup.sublist (List.take_sublist _ _) hn
      rw [take_snoc hx] at h4
      exact fun hc => (List.nodup_append.1 h4).2.2 x hc x (.head _) rfl
    have hl := lst_is s.2
    have hll : lst s.2 ≤ s.2.length := lst_le hl.2
    have hlen : s.2.length = ks.length + i := by
      rw [h.tl, List.length_append, List.length_map, List.length_map, List.length_take]
      omega
    have hlt : (bs.take (i + 1)).length = i + 1 := by rw [List.length_take]; omega
    have hlt0 : (bs.take i).length = i := by rw [List.length_take]; omega
    have hmap : (bs.take i).map (rgM (asg s x).1) = (bs.take i).map (rgM s.1) := List.map_congr_left fun y hy => rgM_set_ne (fun e : y = x => hxn (e ▸ hy))
    have hrx : rgM (asg s x).1 x = (lst s.2 : Int) := rgM_set_eq
    rw [take_snoc hx]
    have hin1 : ∀ z, z ∈ ks.map (rgM m) → z ∈ s.2 := fun z hz => by
      have := List.mem_append_left ((bs.take i).map (rgM s.1)) hz
      rwa [← h.tl] at this
    have hin2 : ∀ z, z ∈ (bs.take i).map (rgM s.1) → z ∈ s.2 := fun z hz => by
      have := List.mem_append_right (ks.map (rgM m)) hz
      rwa [← h.tl] at this
    have hoff : (lst s.2 : Int) ∉ ks.map (rgM m) := fun hc => hl.1 (hin1 _ hc)
    refine ⟨?_, fun y hy => ?_, ?_, fun y hy => ?_, fun y hy => ?_, fun y hy => ?_⟩
    · rw [List.map_append, hmap, List.map_cons, List.map_nil, hrx, ← List.append_assoc, ← h.tl]
      rfl
    · rw [List.mem_append, List.mem_singleton, not_or] at hy
      show lkI (setI s.1 x _) y = _
      rw [lkI_set, if_neg hy.2]
      exact h.ne y hy.1
    · rw [List.map_append, hmap, List.map_cons, List.map_nil, hrx]
      refine List.nodup_append.2 ⟨h.nd, List.nodup_cons.2 ⟨List.not_mem_nil, List.nodup_nil⟩, fun a ha b hb e => ?_⟩
      rw [List.mem_singleton] at hb
      subst hb
      subst e
      exact hl.1 (hin2 _ ha)
    · rcases List.mem_append.1 hy with hy | hy
      · show rgM (setI s.1 x _) y ∉ _
        rw [rgM_set_ne (fun e : y = x => hxn (e ▸ hy))]
        exact h.off y hy
      · rw [List.mem_singleton] at hy
        subst hy
        rw [hrx]
        exact hoff
    · show (lkI (setI s.1 x _) y).isSome = true
      rw [lkI_set]
      split
      · rfl
      · rename_i hne
        rcases List.mem_append.1 hy with hy | hy
        · exact h.some_ y hy
        · rw [List.mem_singleton] at hy
          exact absurd hy hne
    · rw [List.length_append]
      show _ ∧ _ < (ks.length : Int) + (((bs.take i).length + 1 : Nat) : Int)
      rcases List.mem_append.1 hy with hy | hy
      · show 0 ≤ rgM (setI s.1 x _) y ∧ rgM (setI s.1 x _) y < _
        rw [rgM_set_ne (fun e : y = x => hxn (e ▸ hy))]
        have := h.lt y hy
        omega
      · rw [List.mem_singleton] at hy
        subst hy
        rw [hrx, hlt0]
        omega
theorem asgs_all (m : List (Int × Int)) (ks bs : List Int) (hn : bs.Nodup) : AsgOk m ks bs (asgs m ks bs) := by
  have := asgs_ok m ks bs hn bs.length (Nat.le_refl _)
  rwa [List.take_length] at this
/-- places in order: what lives is bound, what is bound is new -/
inductive Chain : List Int → List Pl → Prop
  | nil {A : List Int} : Chain A []
  | cons {A : List Int} {p : Pl} {pl : List Pl} (h1 : ∀ x ∈ p.ks, x = 0 ∨ x = 1 ∨ x ∈ A) (h2 : p.bs.Nodup) (h3 : ∀ x ∈ p.bs, x ≠ 0 ∧ x ≠ 1 ∧ x ∉ A) (h4 : Chain (A ++ p.bs) pl) : Chain A (p :: pl)
/-- a place whose bound ones are unlike each other and what lives -/
def okB (m : List (Int × Int)) (p : Pl) : Prop := (p.bs.map (rgM m)).Nodup ∧ ∀ x ∈ p.bs, rgM m x ∉ p.ks.map (rgM m)
structure StOk (A : List Int) (s : Nat × List (Int × Int)) : Prop where
  two : 2 ≤ s.1
  z : lkI s.2 0 = some 0
  o : lkI s.2 1 = some 1
  all : ∀ x ∈ A, (lkI s.2 x).isSome = true ∧ 0 ≤ rgM s.2 x ∧ rgM s.2 x < s.1
theorem greedy : ∀ {pl : List Pl} {A : List Int} {s s1 : Nat × List (Int × Int)}, Chain A pl → StOk A s → goes atC s pl = some s1 →
    StOk (A ++ pl.flatMap Pl.bs) s1 ∧ (∀ y, y ∉ pl.flatMap Pl.bs → lkI s1.2 y = lkI s.2 y) ∧ (∀ p ∈ pl, okB s1.2 p) ∧ s1.1 = (pl.map fun p => p.bs.length + p.ks.length).foldl max s.1
  | [], A, s, s1, hc, hs, hg => by
    cases hg
    rw [List.flatMap_nil, List.append_nil]
    exact ⟨hs, fun y _ => rfl, fun p hp => absurd hp List.not_mem_nil, rfl⟩
  | p :: pl, A, s, s1, hc, hs, hg => by
    cases hc with
    | cons h1 h2 h3 h4 =>
    have ha := asgs_all s.2 p.ks p.bs h2
    obtain ⟨s2, hs2⟩ : ∃ x, x = (max s.1 (p.bs.length + p.ks.length), (asgs s.2 p.ks p.bs).1) := ⟨_, rfl⟩
    have hg2 : goes atC s2 pl = some s1 := by rw [hs2]; exact hg
    have h21 : s2.1 = max s.1 (p.bs.length + p.ks.length) := by rw [hs2]
    have h22 : s2.2 = (asgs s.2 p.ks p.bs).1 := by rw [hs2]
    have hne : ∀ y, y ∉ p.bs → lkI s2.2 y = lkI s.2 y := by rw [h22]; exact ha.ne
    have hand : (p.bs.map (rgM s2.2)).Nodup := by rw [h22]; exact ha.nd
    have haoff : ∀ x ∈ p.bs, rgM s2.2 x ∉ p.ks.map (rgM s.2) := by rw [h22]; exact ha.off
    have hasome : ∀ x ∈ p.bs, (lkI s2.2 x).isSome = true := by rw [h22]; exact ha.some_
    have halt : ∀ x ∈ p.bs, 0 ≤ rgM s2.2 x ∧ rgM s2.2 x < p.ks.length + p.bs.length := by rw [h22]; exact ha.lt
    clear ha h22
    have hA : ∀ x ∈ A, x ∉ p.bs := fun x hx hc => (h3 x hc).2.2 hx
    have hst : StOk (A ++ p.bs) s2 := by
      refine ⟨by have := hs.two; omega, ?_, ?_, fun x hx => ?_⟩
      · rw [hne 0 fun hc => (h3 0 hc).1 rfl]; exact hs.z
      · rw [hne 1 fun hc => (h3 1 hc).2.1 rfl]; exact hs.o
      · rcases List.mem_append.1 hx with hx | hx
        · have h5 := hs.all x hx
          have e : lkI s2.2 x = lkI s.2 x := hne x (hA x hx)
          have e2 : rgM s2.2 x = rgM s.2 x := by unfold rgM; rw [e]
          rw [e, e2]
          exact ⟨h5.1, h5.2.1, by omega⟩
        · have h5 := halt x hx
          exact ⟨hasome x hx, h5.1, by omega⟩
    obtain ⟨g1, g2, g3, g4⟩ := greedy h4 hst hg2
    have hfresh : ∀ y, y ∈ A ∨ y ∈ p.bs ∨ y = 0 ∨ y = 1 → y ∉ pl.flatMap Pl.bs := by
      clear hg hg2 g1 g2 g3 g4
      have key : ∀ {pl : List Pl} {A : List Int}, Chain A pl → ∀ y, (y ∈ A ∨ y = 0 ∨ y = 1) → y ∉ pl.flatMap Pl.bs := by
        intro pl
        induction pl with
        | nil => intro A _ y _; exact List.not_mem_nil
        | cons q pl ih =>
          intro A hc y hy
          cases hc with
          | cons k1 k2 k3 k4 =>
            rw [List.flatMap_cons, List.mem_append]
            rintro (h | h)
            · have := k3 y h
              rcases hy with hy | hy | hy
              · exact this.2.2 hy
              · exact this.1 hy
              · exact this.2.1 hy
            · exact ih k4 y (hy.imp (fun h => List.mem_append_left _ h) id) h
      intro y hy
      refine key h4 y ?_
      rcases hy with h | h | h | h
      · exact .inl (List.mem_append_left _ h)
      · exact .inl (List.mem_append_right _ h)
      · exact .inr (.inl h)
      · exact .inr (.inr h)
    have hst2 : ∀ y, y ∈ A ∨ y ∈ p.bs ∨ y = 0 ∨ y = 1 → rgM s1.2 y = rgM s2.2 y := fun y hy => by
      unfold rgM
      rw [g2 y (hfresh y hy)]
    refine ⟨?_, fun y hy => ?_, fun q hq => ?_, ?_⟩
    · rw [List.flatMap_cons, ← List.append_assoc]
      exact g1
    · rw [List.flatMap_cons, List.mem_append, not_or] at hy
      rw [g2 y hy.2, hne y hy.1]
    · rcases List.mem_cons.1 hq with rfl | hq
      · have e1 : q.bs.map (rgM s1.2) = q.bs.map (rgM s2.2) := List.map_congr_left fun y hy => hst2 y (.inr (.inl hy))
        have e2 : q.ks.map (rgM s1.2) = q.ks.map (rgM s.2) := List.map_congr_left fun y hy => by
          have h5 := h1 y hy
          rw [hst2 y (h5.elim (fun h => .inr (.inr (.inl h))) fun h => h.elim (fun h => .inr (.inr (.inr h))) .inl)]
          unfold rgM
          rw [hne y fun hc => ?_]
          have h6 := h3 y hc
          rcases h5 with h5 | h5 | h5
          · exact h6.1 h5
          · exact h6.2.1 h5
          · exact h6.2.2 h5
        refine ⟨by rw [e1]; exact hand, fun x hx => ?_⟩
        rw [e2, hst2 x (.inr (.inl hx))]
        exact haoff x hx
      · exact g3 q hq
    · rw [g4, List.map_cons, List.foldl_cons, h21]
end Go.Proofs.Ytjfanjcoppeeaaa
namespace Go.Proofs.Ytjfanjcoppeeaaa
open Go Go.Fw
set_option linter.unusedVariables false
theorem chain_app : ∀ {p1 : List Pl} {A : List Int} {p2 : List Pl}, Chain A p1 → Chain (A ++ p1.flatMap Pl.bs) p2 → Chain A (p1 ++ p2)
  | [], A, p2, _, h => by rw [List.flatMap_nil, List.append_nil] at h; exact h
  | p :: p1, A, p2, h1, h2 => by
    cases h1 with
    | cons a b c d =>
      refine .cons a b c (chain_app d ?_)
      rw [List.flatMap_cons, ← List.append_assoc] at h2
      exact h2
theorem fa2_split {α β : Type} {R : α → β → Prop} : ∀ {l1 l2 : List α} {m : List β}, FA2 R (l1 ++ l2) m → ∃ m1 m2, m = m1 ++ m2 ∧ FA2 R l1 m1 ∧ FA2 R l2 m2
  | [], l2, m, h => ⟨[], m, rfl, .nil, h⟩
  | x :: l1, l2, m, h => by
    cases h with
    | cons h1 h2 =>
      obtain ⟨m1, m2, rfl, h3, h4⟩ := fa2_split h2
      exact ⟨_ :: m1, m2, rfl, .cons h1 h3, h4⟩
theorem evs_nodup {g : Grs} {f : Gr} {B : Nat → List Int} (h : GOkB g f B) (n : Nat) : (evs f n).Nodup := by
  have h1 := h.ev.nd
  have : f.bs.l.flatMap bvs = evs f n ++ (f.bs.l.drop n).flatMap bvs := by
    unfold evs
    rw [← List.flatMap_append, List.take_append_drop]
  rw [this] at h1
  exact (List.nodup_append.1 h1).1
theorem evs_ge {g : Grs} {f : Gr} {B : Nat → List Int} (h : GOkB g f B) {n : Nat} {x : Int} (hx : x ∈ evs f n) : x ≠ 0 ∧ x ≠ 1 := by
  have := (h.ev.rg x (evs_le f n x hx)).1
  exact ⟨by omega, by omega⟩
theorem chain_blk {g : Grs} {f : Gr} {B : Nat → List Int} (h : GOkB g f B) {ss : List (Option (Nat × List Int))} (hF : ∀ n, FixAt f ss n) (hsl : ss.length = f.bs.l.length) {n : Nat} {bl : Blc} (hb : f.bs.l[n]? = some bl) :
    ∀ i, i ≤ bl.is.l.length → ∀ {pl : List Pl}, FA2 (IsAt f ss) (slotB n i) pl → Chain (evs f n) pl ∧ pl.flatMap Pl.bs = bl.ps.l ++ (bl.is.l.take i).map Ins.x := by
  have hnd := evs_nodup h (n + 1)
  rw [evs_next hb] at hnd
  obtain ⟨_, hn2, hn3⟩ := List.nodup_append.1 hnd
  have hge : ∀ x ∈ bvs bl, x ≠ 0 ∧ x ≠ 1 := fun x hx => evs_ge h (n := n + 1) (by rw [evs_next hb]; exact List.mem_append_right _ hx)
  have hnb : (bl.ps.l ++ bl.is.l.map Ins.x).Nodup := hn2
  intro i
  induction i with
  | zero =>
    intro _ pl hpl
    rw [slotB_0] at hpl
    cases hpl with
    | cons hp hr =>
    cases hr
    rename_i p
    have hk := fun x hx => ks_bef h hF hsl hp (x := x) hx
    obtain ⟨bl', hb', _, h1, _, _⟩ := hp
    rw [hb] at hb'
    cases hb'
    refine ⟨.cons hk (by rw [h1]; exact (List.nodup_append.1 hnb).1) (fun x hx => ?_) .nil, ?_⟩
    · rw [h1] at hx
      have hx2 : x ∈ bvs bl := List.mem_append_left _ hx
      exact ⟨(hge x hx2).1, (hge x hx2).2, fun hc => hn3 x hc x hx2 rfl⟩
    · rw [List.take_zero, List.flatMap_cons, List.flatMap_nil, h1]
      simp
  | succ i ih =>
    intro hi pl hpl
    rw [slotB_snoc] at hpl
    obtain ⟨p1, p2, rfl, hp1, hp2⟩ := fa2_split hpl
    obtain ⟨hc, he⟩ := ih (by omega) hp1
    cases hp2 with
    | cons hp hr =>
    cases hr
    rename_i p
    have hk := fun x hx => ks_bef h hF hsl hp (x := x) hx
    obtain ⟨bl', hb', _, ins, hins, h1, _, _⟩ := hp
    rw [hb] at hb'
    cases hb'
    have hx2 : ins.x ∈ bvs bl := List.mem_append_right _ (List.mem_map.2 ⟨ins, List.mem_of_getElem? hins, rfl⟩)
    have hsn := map_x_snoc hins
    have hnb2 : (bl.ps.l ++ ((bl.is.l.take i).map Ins.x ++ [ins.x])).Nodup := by
      rw [← hsn]
      exact List.Nodup.sublist ((List.Sublist.refl _).append ((List.take_sublist _ _).map _)) hnb
    rw [← List.append_assoc] at hnb2
    refine ⟨chain_app hc (.cons (fun x hx => ?_) (by rw [h1]; simp) (fun x hx => ?_) .nil), ?_⟩
    · rcases hk x hx with h2 | h2 | h2
      · exact .inl h2
      · exact .inr (.inl h2)
      · refine .inr (.inr ?_)
        rw [he]
        unfold bef at h2
        dsimp only at h2
        rw [blD hb, List.append_assoc] at h2
        exact h2
    · rw [h1, List.mem_singleton] at hx
      subst hx
      refine ⟨(hge _ hx2).1, (hge _ hx2).2, fun hcc => ?_⟩
      rcases List.mem_append.1 hcc with h2 | h2
      · exact hn3 _ h2 _ hx2 rfl
      · rw [he] at h2
        exact (List.nodup_append.1 hnb2).2.2 _ h2 _ (.head _) rfl
    · rw [List.flatMap_append, he, List.flatMap_cons, List.flatMap_nil, h1, hsn]
      simp
theorem chain_all {g : Grs} {f : Gr} {B : Nat → List Int} (h : GOkB g f B) {ss : List (Option (Nat × List Int))} (hF : ∀ n, FixAt f ss n) (hsl : ss.length = f.bs.l.length) :
    ∀ n, n ≤ f.bs.l.length → ∀ {pl : List Pl}, FA2 (IsAt f ss) (slots f n) pl → Chain [] pl ∧ pl.flatMap Pl.bs = evs f n := by
  intro n
  induction n with
  | zero =>
    intro _ pl hpl
    rw [slots_0] at hpl
    cases hpl
    exact ⟨.nil, rfl⟩
  | succ n ih =>
    intro hn pl hpl
    have hb : f.bs.l[n]? = some f.bs.l[n] := List.getElem?_eq_getElem hn
    rw [slots_next hb] at hpl
    obtain ⟨p1, p2, rfl, hp1, hp2⟩ := fa2_split hpl
    obtain ⟨hc, he⟩ := ih (by omega) hp1
    obtain ⟨hc2, he2⟩ := chain_blk h hF hsl hb _ (Nat.le_refl _) hp2
    refine ⟨chain_app hc (by rw [he]; exact hc2), ?_⟩
    rw [List.flatMap_append, he, he2, evs_next hb, List.take_length]
    rfl
/-! ## what lives at one time is unlike -/
theorem nodup_inj {f : Int → Int} : ∀ {l : List Int}, l.Nodup → (∀ x ∈ l, ∀ y ∈ l, x ≠ y → f x ≠ f y) → (l.map f).Nodup
  | [], _, _ => List.nodup_nil
  | x :: l, hn, h => by
    rw [List.nodup_cons] at hn
    rw [List.map_cons, List.nodup_cons]
    refine ⟨fun hc => ?_, nodup_inj hn.2 fun a ha b hb => h a (.tail _ ha) b (.tail _ hb)⟩
    obtain ⟨y, hy, e⟩ := List.mem_map.1 hc
    exact h y (.tail _ hy) x (.head _) (fun e2 => hn.1 (e2 ▸ hy)) e
theorem inj_live {g : Grs} {f : Gr} {B : Nat → List Int} (h : GOkB g f B) {ss : List (Option (Nat × List Int))} (hF : ∀ n, FixAt f ss n) (hsl : ss.length = f.bs.l.length) {m : List (Int × Int)} (hz : rgM m 0 = 0) (ho : rgM m 1 = 1)
    (hok : ∀ sl ∈ slots f f.bs.l.length, ∃ p, IsAt f ss sl p ∧ okB m p) : ∀ n, n < f.bs.l.length → ∀ x y, x ∈ setAt ss n → y ∈ setAt ss n → x ≠ y → rgM m x ≠ rgM m y := by
  intro n
  induction n using Nat.strongRecOn with
  | _ n ih =>
    intro hn x y hx hy hne
    by_cases h0 : n = 0
    · subst h0
      have hx1 := live_B2 h hF hsl 0 x hx
      have hy1 := live_B2 h hF hsl 0 y hy
      rw [h.b0] at hx1 hy1
      rcases hx1 with rfl | rfl | hx1 <;> rcases hy1 with rfl | rfl | hy1 <;> first | exact absurd rfl hne | (rw [hz, ho]; decide) | (rw [ho, hz]; decide) | exact absurd hx1 List.not_mem_nil | exact absurd hy1 List.not_mem_nil
    · obtain ⟨k, bl, hk, hb, t, ht, htb⟩ := h.pre n (by omega) hn
      have hend : ∀ x, x ∈ setAt ss n → LvAt ss bl bl.is.l.length x := fun x hx => by
        rw [lvAt_end]
        refine .inr ⟨t, ht, .inr ⟨by omega, ?_⟩⟩
        have e : t.b.toNat = n := by omega
        have hs : ss[n]? = some (ss[n]'(by omega)) := List.getElem?_eq_getElem _
        rw [e, hs]
        unfold setAt at hx
        rw [hs] at hx
        exact ⟨_, rfl, hx⟩
      have hkl := (List.getElem?_eq_some_iff.1 hb).1
      have key : ∀ i, i ≤ bl.is.l.length → ∀ x y, LvAt ss bl i x → LvAt ss bl i y → x ≠ y → rgM m x ≠ rgM m y := by
        intro i
        induction i with
        | zero =>
          intro _ x y hx hy hne
          obtain ⟨p, hp, hpo⟩ := hok (k, none) (slot_mem hb (slot_none _ _))
          obtain ⟨bl', hb', _, h1, _, h3⟩ := hp
          rw [hb] at hb'
          cases hb'
          have hsp : ∀ z, LvAt ss bl 0 z → z ∈ bl.ps.l ∨ z ∈ setAt ss k := fun z hz => by
            by_cases hzp : z ∈ bl.ps.l
            · exact .inl hzp
            · exact .inr ((hF k bl hb z).2 (blk_mk hz hzp))
          unfold okB at hpo
          rw [h1] at hpo
          rcases hsp x hx with hx1 | hx1 <;> rcases hsp y hy with hy1 | hy1
          · exact nodup_map_ne hpo.1 hx1 hy1 hne
          · exact fun e => hpo.2 x hx1 (e ▸ List.mem_map.2 ⟨y, (h3 y).2 hy1, rfl⟩)
          · exact fun e => hpo.2 y hy1 (e ▸ List.mem_map.2 ⟨x, (h3 x).2 hx1, rfl⟩)
          · exact ih k hk hkl x y hx1 hy1 hne
        | succ i ihi =>
          intro hi x y hx hy hne
          obtain ⟨ins, hins⟩ : ∃ z, bl.is.l[i]? = some z := ⟨_, List.getElem?_eq_getElem hi⟩
          obtain ⟨p, hp, hpo⟩ := hok (k, some i) (slot_mem hb (slot_some hi))
          obtain ⟨bl', hb', _, ins', hins', h1, _, h3⟩ := hp
          rw [hb] at hb'
          cases hb'
          rw [hins] at hins'
          cases hins'
          unfold okB at hpo
          rw [h1] at hpo
          by_cases hxd : x = ins.x
          · subst hxd
            exact fun e => hpo.2 _ (.head _) (e ▸ List.mem_map.2 ⟨y, (h3 y).2 ⟨fun e => hne e.symm, hy⟩, rfl⟩)
          · by_cases hyd : y = ins.x
            · subst hyd
              exact fun e => hpo.2 _ (.head _) (e ▸ List.mem_map.2 ⟨x, (h3 x).2 ⟨hxd, hx⟩, rfl⟩)
            · exact ihi (by omega) x y ((lvAt_at hins).2 (.inr ⟨hx, hxd⟩)) ((lvAt_at hins).2 (.inr ⟨hy, hyd⟩)) hne
      exact key _ (Nat.le_refl _) x y (hend x hx) (hend y hy) hne
theorem allOk_of {g : Grs} {f : Gr} {B : Nat → List Int} (h : GOkB g f B) {ss : List (Option (Nat × List Int))} (hF : ∀ n, FixAt f ss n) (hsl : ss.length = f.bs.l.length) {m : List (Int × Int)} (hz : rgM m 0 = 0) (ho : rgM m 1 = 1)
    (hok : ∀ sl ∈ slots f f.bs.l.length, ∃ p, IsAt f ss sl p ∧ okB m p) : AllOk f m := by
  intro s2 hl2 hF2 sl hs q hq
  obtain ⟨p, hp, hpo⟩ := hok sl hs
  refine okPl_perm (isAt_uniq (setAt_uniq (up_of h) hF hF2 hsl hl2) (by omega) hp hq) ⟨fun hb => ?_, hpo.1, hpo.2⟩
  obtain ⟨n, o⟩ := sl
  obtain ⟨bl, hb', hn, hp⟩ := hp
  cases o with
  | none =>
    have hnl := (List.getElem?_eq_some_iff.1 hb').1
    exact nodup_inj hn fun x hx y hy hne => inj_live h hF hsl hz ho hok n hnl x y ((hp.2.2 x).1 hx) ((hp.2.2 y).1 hy) hne
  | some i =>
    obtain ⟨_, _, _, hb2, _⟩ := hp
    rw [hb2] at hb
    cases hb
/-! ## the press -/
theorem cnt_eq {g : Grs} {f : Gr} {B : Nat → List Int} (h : GOkB g f B) {ss : List (Option (Nat × List Int))} (hF : ∀ n, FixAt f ss n) (hsl : ss.length = f.bs.l.length) {sl : Nat × Option Nat} {p : Pl} (hp : IsAt f ss sl p) : p.bs.length + p.ks.length = cnt f ss sl := by
  have hu := setAt_uniq (up_of h) hF hF hsl hsl
  obtain ⟨n, o⟩ := sl
  have hp' := hp
  obtain ⟨bl, hb, _, hp2⟩ := hp
  cases o with
  | none =>
    have := isAt_uniq hu rfl hp' (isAt_N h hF hsl hb)
    rw [cnt_n hb, this.1, this.2.2.length_eq]
  | some i =>
    obtain ⟨ins, hi, _⟩ := hp2
    have := isAt_uniq hu rfl hp' (isAt_I h hF hsl hb hi)
    rw [cnt_i hb, this.1, this.2.2.length_eq]
    rfl
theorem fa2_map {α β γ : Type} {R : α → β → Prop} {u : α → γ} {v : β → γ} : ∀ {l : List α} {m : List β}, FA2 R l m → (∀ x y, R x y → v y = u x) → m.map v = l.map u
  | [], m, h, _ => by cases h; rfl
  | x :: l, m, h, hv => by
    cases h with
    | cons h1 h2 => rw [List.map_cons, List.map_cons, hv _ _ h1, fa2_map h2 hv]
theorem regOf_of {vs : List Int} {m : List (Int × Int)} : ∀ {x : Int}, x ∈ vs → regOf (regsOf vs m) x = rgM m x := by
  induction vs with
  | nil => intro x h; cases h
  | cons y vs ih =>
    intro x hx
    show (if y = x then rgM m y else regOf (regsOf vs m) x) = _
    by_cases hyx : y = x
    · rw [if_pos hyx, hyx]
    · rw [if_neg hyx]
      rcases List.mem_cons.1 hx with h | h
      · exact absurd h.symm hyx
      · exact ih h
theorem regsOf_v (vs : List Int) (m : List (Int × Int)) : (regsOf vs m).map Rg.v = vs := by
  unfold regsOf
  rw [List.map_map]
  exact List.map_id _
/-- all of it -/
theorem colour_ok {g : Grs} {f : Gr} {B : Nat → List Int} (h : GOkB g f B) {ss : List (Option (Nat × List Int))} (hF : ∀ n, FixAt f ss n) (hsl : ss.length = f.bs.l.length) {pl : List Pl} {s1 : Nat × List (Int × Int)} (hpl : FA2 (IsAt f ss) (slots f f.bs.l.length) pl) (hg : goes atC (2, m01) pl = some s1) :
    s1.1 = prs f ss (slots f f.bs.l.length) ∧ RightP f (regsOf (srt (varsL f.bs.l)) s1.2) ∧ ∀ r ∈ regsOf (srt (varsL f.bs.l)) s1.2, r.r < s1.1 := by
  obtain ⟨hc, hbs⟩ := chain_all h hF hsl _ (Nat.le_refl _) hpl
  obtain ⟨g1, g2, g3, g4⟩ := greedy hc (⟨Nat.le_refl _, rfl, rfl, fun x hx => absurd hx List.not_mem_nil⟩ : StOk [] (2, m01)) hg
  have hev : evs f f.bs.l.length = f.bs.l.flatMap bvs := by unfold evs; rw [List.take_length]
  rw [List.nil_append, hbs, hev] at g1
  have hz : rgM s1.2 0 = 0 := by unfold rgM; rw [g1.z]; rfl
  have ho : rgM s1.2 1 = 1 := by unfold rgM; rw [g1.o]; rfl
  have hrange : ∀ x ∈ varsL f.bs.l, 0 ≤ rgM s1.2 x ∧ rgM s1.2 x < s1.1 := fun x hx => by
    rw [bvs_eq] at hx
    have h2 := g1.two
    rcases List.mem_append.1 hx with hx | hx
    · simp only [List.mem_cons, List.not_mem_nil, or_false] at hx
      rcases hx with rfl | rfl
      · rw [hz]; omega
      · rw [ho]; omega
    · exact (g1.all x hx).2
  have hall : AllOk f s1.2 := allOk_of h hF hsl hz ho fun sl hs => by
    obtain ⟨p, hp, hi⟩ := fa2_mem hpl hs
    exact ⟨p, hi, g3 p hp⟩
  have hm1 : ∀ x ∈ varsL f.bs.l, rgM s1.2 x = regOf (regsOf (srt (varsL f.bs.l)) s1.2) x := fun x hx => (regOf_of (mem_srt.2 hx)).symm
  have hnd : ((regsOf (srt (varsL f.bs.l)) s1.2).map Rg.v).Nodup := by
    rw [regsOf_v]
    exact (srt_perm _).nodup_iff.2 (vars_nodup h)
  have hm2 : ∀ x ∈ varsL f.bs.l, rgM (mkM (regsOf (srt (varsL f.bs.l)) s1.2)) x = regOf (regsOf (srt (varsL f.bs.l)) s1.2) x := fun x hx => by
    rw [mkM_eq _ hnd]
    exact rgM_reg (by rw [regsOf_v]; exact mem_srt.2 hx)
  refine ⟨?_, ⟨fun r hr => ?_, ?_, ?_, ?_, ?_, ?_⟩, fun r hr => ?_⟩
  · rw [g4, fa2_map hpl (u := cnt f ss) fun sl p hp => cnt_eq h hF hsl hp]
    rfl
  · obtain ⟨x, hx, rfl⟩ := List.mem_map.1 hr
    exact (hrange x (mem_srt.1 hx)).1
  · rw [regsOf_v]
    exact sorted_uniq (srt_sorted _) (srt_sorted _) (srt_perm _)
  · rw [mkM_eq _ hnd, List.length_map]
  · rw [hm2 0 (mem01 f).1, ← hm1 0 (mem01 f).1]; exact hz
  · rw [hm2 1 (mem01 f).2, ← hm1 1 (mem01 f).2]; exact ho
  · exact (all_okS h hF hsl hm2).2 ((all_okS h hF hsl hm1).1 hall)
  · obtain ⟨x, hx, rfl⟩ := List.mem_map.1 hr
    exact (hrange x (mem_srt.1 hx)).2
end Go.Proofs.Ytjfanjcoppeeaaa
namespace Go.Fw
open Go Go.RowKit
theorem rt1c {P : Program} {N : Nat} {l : List (Nat × Value)} {a : Act} {w : World} {C : World → Prop} {fn : Func} {R : Value → World → Prop} {p : Tmp} {ty sz by_ : Nat} {z : Value} {zs : List Value} {fl : List (Nat × Nat)} {q : Addr} {vs : List Value} {e : Exit} [h0 : TSt P ty fl] [hi : TIf P ty z zs sz by_] (he : e = .ret ∨ e = .normal) (hr : fn.results = #[.cell p ty]) (hA : Sl N l a)
    (hp : lk l p = some (.pointer (some q))) (hl : vs.length = sz) (hC : C w) (hc : Cls C q vs) (h : R (.agg vs.toArray) w) : bodyPost P fn (fun e w' => ∃ v, e = .returned v ∧ R v w') e a w := by
  have hg : a.tmps.getD p undef = .pointer (some q) := by simp [Array.getD_eq_getD_getElem?, hA.get p _ hp]
  obtain ⟨ti, h3, h4, h5, h6⟩ := hi.eq
  have hrun : (results fn a.tmps).run P w = .ok (.agg vs.toArray) w := by
    have e1 : (results fn a.tmps).run P w = ((asAddr (a.tmps.getD p undef)).run P w).andThen fun b w₁ => (loadVar ty b).run P w₁ := by
      simp only [results, hr]
      simp [Sem.run_bind, Result.andThen]
    rw [e1, hg]
    simp [asAddr, loadVar, run_isAgg_st, sizeOf, typeInfo, h3, h5, ← hl, run_loadCells_list w q vs (hc w hC), Result.andThen]
  rcases he with rfl | rfl
  · exact bodyPost_ret hrun hA.defers ⟨_, rfl, h⟩
  · exact bodyPost_end hrun hA.defers ⟨_, rfl, h⟩
end Go.Fw
namespace Go.Proofs.Ytjfanjcoppeeaaa
open Go Go.Fw
set_option linter.unusedVariables false
theorem gr_at {l : List Gr} {k : Nat} (h : k < l.length) : l[k]? = some (l.getD k gr00) := by
  rw [List.getD_eq_getElem?_getD, List.getElem?_eq_getElem h]
  rfl
set_option maxRecDepth 10000 attribute [local irreducible] Code.wp wpList Calls Ex Op1 sat bat blk cb own Go.Fw.mp Go.Fw.mpO Go.Fw.mpI Go.Fw.mpE Go.Fw.itr HS Rd Ret wkD Hp Cl Cls Exit.then Exit.inBlock Exit.noGoto bodyPost Go.Fw.flat wk2 Go.Fw.all Go.Fw.owns wpOp
attribute [local irreducible] sk mpK srt sko mvO entK geS GOk

set_option maxHeartbeats 4000000 in
theorem v_spec (w0 : World) (n : Int) : Ret Try.prog 16 #[.int .i64 n] w0 (fun v w => v = .agg #[.int .i64 1, .int .i64 n] ∧ Kp w0 noM w) := by
  have hH : HS w0 noM [] w0 := HS.init w0 noM
  (refine enter (N := 5) Try.func16 rfl Try.ntmps16 rfl ?_; intro a hA; dsimp only [sl0, Nat.reduceAdd] at hA)
  repeat' (first | (first | (refine GT ?_ ?_ <;> intro hg <;> clear hA a <;> intro a hA <;> (first | exact FA | replace hg := of_decide_eq_true hg | replace hg := of_decide_eq_false hg | skip)) | (refine QT ?_; clear hA a; intro a hA) | (first | (refine BT ?_; clear hA hH; rintro _ w ⟨bN, rfl, hH⟩ a hA) | (refine LT ?_; clear hA hH; rintro _ w ⟨oN, rfl, hH⟩ a hA) | (refine AT ?_; clear hA; rintro _ w ⟨oN, cN, rfl, hH2⟩ a hA; clear hH; have hH := (hH2 _ (by (repeat constructor))).tail; clear hH2) | (refine S0T ?_; clear hH; rintro _ w hH) | (apply st_op0 hA rfl rfl; apply op_store_agg (vs := [.int .i64 1, .int .i64 n]); rfl; rfl; exact hH; (repeat constructor); (repeat rfl); clear hH; rintro _ w hH))) | ((first | refine CT ?_ | (refine DT ?_ ?_ <;> intro hc <;> try (exfalso; omega))) <;> repeat' refine CT ?_) | (first | (refine DSK ?_; clear hA a; intro a hA) | (first | (refine DLT ?_; clear hA hH; rintro _ w ⟨oN, rfl, hH⟩; refine ⟨STT, ?_⟩; intro a hA) | (refine DAT ?_; clear hA; rintro _ w ⟨oN, cN, rfl, hH2⟩; clear hH; have hH := (hH2 _ (by (repeat constructor))).tail; clear hH2; refine ⟨STT, ?_⟩; intro a hA))) )
  exact rt1c (vs := [.int .i64 1, .int .i64 n]) (.inl rfl) rfl hA rfl rfl hH (cls_cb_all (by exact MEMT)) ⟨rfl, hH.kp⟩
set_option maxHeartbeats 4000000 in
theorem fits_spec (w0 : World) (g : Grs) (k : Int) (hR : RdGs w0 g) (hbs : ∀ f ∈ g.fs.l, f.bs.l.length ≤ 1048576 ∧ ∀ bl ∈ f.bs.l, bl.e.to.l.length ≤ 1048576) :
    Ret Try.prog 9 #[.agg (encGs g).toArray, .int .i64 k] w0 (fun v w => ∃ f b, v = .tuple #[.agg (encG f).toArray, .bool b] ∧ Kp w0 noM w ∧ (b = true → f ∈ g.fs.l ∧ GOk g f)) := by
  have hH : HS w0 noM [] w0 := HS.init w0 noM
  have hle := hR.1.le
  have hspF : Sp g.fs.o g.fs.l.length := hR.1.1.sp (sz := 2) (flat_length encG_len _) (by omega)
  (refine enter (N := 37) Try.func9 rfl Try.ntmps9 rfl ?_; intro a hA; dsimp only [sl0, Nat.reduceAdd] at hA)
  repeat' (first | (first | (refine GT ?_ ?_ <;> intro hg <;> clear hA a <;> intro a hA <;> (first | exact FA | replace hg := of_decide_eq_true hg | replace hg := of_decide_eq_false hg | skip)) | ((first | apply st_ex hA hH rfl rfl (by decide) | apply dr_ex hA rfl rfl rfl (by decide) | apply dr_exp hA rfl rfl rfl (by decide) | apply dr_ex3 hA hH rfl rfl rfl (by decide)); (first | (apply ex_build_p (cs := (encG gr00).toArray); rfl; (repeat (first | (intro _ h; exact absurd h (List.not_mem_nil)) | (refine List.forall_mem_cons.2 ⟨one_cell_of _ _, ?_⟩))); rfl) | (apply ex_load_st (vs := encG (g.fs.l.getD k.toNat gr00)); rfl; rfl; refine cls_rd hR.1.1 id (flat_all encG_len (gr_at ?_)); omega)); clear hA a; intro a hA) | (refine QT ?_; clear hA a; intro a hA) | (first | (refine BT ?_; clear hA hH; rintro _ w ⟨bN, rfl, hH⟩ a hA) | (refine LT ?_; clear hA hH; rintro _ w ⟨oN, rfl, hH⟩ a hA) | (refine AT ?_; clear hA; rintro _ w ⟨oN, cN, rfl, hH2⟩ a hA; clear hH; have hH := (hH2 _ (by (repeat constructor))).tail; clear hH2) | (refine S0T ?_; clear hH; rintro _ w hH) | (apply st_op0 hA rfl rfl; apply op_store_agg (vs := encG gr00); rfl; rfl; exact hH; (repeat constructor); (repeat rfl); clear hH; rintro _ w hH) | (apply st_op0 hA rfl rfl; apply op_store_agg (vs := encG (g.fs.l.getD k.toNat gr00)); rfl; rfl; exact hH; (repeat constructor); (repeat rfl); clear hH; rintro _ w hH) | (refine st_op hA rfl rfl (by decide) (op_call rfl rfl rfl (Parts_spec _ g _ (hR.keep hH.kp))) ?_; clear hA; rintro _ w ⟨n, rfl, hk⟩ a hA; replace hH := hH.keep hk; clear hk) | (refine st_op hA rfl rfl (by decide) (op_call rfl rfl rfl (May_spec _ g (hR.keep hH.kp) (by omega) hbs)) ?_; clear hA; rintro _ w ⟨b, rfl, hk, hb⟩ a hA; replace hH := hH.keep hk; clear hk))) | ((first | refine CT ?_ | (refine DT ?_ ?_ <;> intro hc <;> try (exfalso; omega))) <;> repeat' refine CT ?_) | (first | (refine DSK ?_; clear hA a; intro a hA) | (first | (refine DLT ?_; clear hA hH; rintro _ w ⟨oN, rfl, hH⟩; refine ⟨STT, ?_⟩; intro a hA) | (refine DAT ?_; clear hA; rintro _ w ⟨oN, cN, rfl, hH2⟩; clear hH; have hH := (hH2 _ (by (repeat constructor))).tail; clear hH2; refine ⟨STT, ?_⟩; intro a hA))) )
  all_goals first
    | exact rt2c (vs := encG gr00) (.inl rfl) rfl hA rfl rfl rfl hH (cls_cb_all (by exact MEMT)) ⟨_, _, rfl, hH.kp, fun h => by cases h⟩
    | skip
  have hbt : b = true := by
    have : (!b) = false := by assumption
    cases b <;> first | rfl | cases this
  have hk1 : k.toNat < g.fs.l.length := by omega
  have hm : g.fs.l.getD k.toNat gr00 ∈ g.fs.l := List.mem_of_getElem? (gr_at hk1)
  have hgo := hb hbt _ hm
  exact rt2c (vs := encG (g.fs.l.getD k.toNat gr00)) (.inl rfl) rfl hA rfl rfl rfl hH (cls_cb_all (by exact MEMT)) ⟨_, _, rfl, hH.kp, fun _ => ⟨hm, hgo⟩⟩
end Go.Proofs.Ytjfanjcoppeeaaa
namespace Go.Proofs.Ytjfanjcoppeeaaa
open Go Go.Fw
set_option linter.unusedVariables false
def ins00 (oA : Option Addr) : Ins := ⟨2, ⟨2, 1, nilV, ⟨oA, 2, [⟨1, 1⟩, ⟨1, 1⟩]⟩⟩⟩
def blk00 (oI oA oE : Option Addr) : Blc := ⟨nilV, ⟨oI, 1, [ins00 oA]⟩, ⟨4, nilV, nilV, ⟨oE, 1, [⟨1, nilV⟩]⟩⟩⟩
def blk01 (oR : Option Addr) : Blc := ⟨nilV, nilV, ⟨1, ⟨oR, 1, [⟨1, 2⟩]⟩, nilV, nilV⟩⟩
def grA (oB oI oA oE oR : Option Addr) : Gr := ⟨0, ⟨oB, 2, [blk00 oI oA oE, blk01 oR]⟩⟩
def grs0 : Grs := ⟨nilV, nilV, nilV, nilV, nilV⟩
def BA (n : Nat) : List Int := if n = 1 then [2] else []
section
variable {oB oI oA oE oR : Option Addr}
theorem grA_at {n : Nat} {bl : Blc} (h : (grA oB oI oA oE oR).bs.l[n]? = some bl) : (n = 0 ∧ bl = blk00 oI oA oE) ∨ (n = 1 ∧ bl = blk01 oR) := by
  match n, h with
  | 0, h => cases h; exact .inl ⟨rfl, rfl⟩
  | 1, h => cases h; exact .inr ⟨rfl, rfl⟩
  | n + 2, h => cases h
theorem grA_ok : GOkB grs0 (grA oB oI oA oE oR) BA := by
  refine ⟨(show 0 < 2 by decide), rfl, fun n bl hb => ?_, ?_, fun n bl hb t ht x hx => ?_, fun n hn x hx => ?_, fun n h0 hn => ?_, by show 2 * 2 + 1 ≤ 65536; decide⟩
  · rcases grA_at hb with ⟨rfl, rfl⟩ | ⟨rfl, rfl⟩
    · refine ⟨fun _ => rfl, fun i x hi a ha => ?_, fun a ha => absurd ha List.not_mem_nil, fun t ht => ?_⟩
      · match i, hi with
        | 0, hi =>
          cases hi
          have ha2 : a = ⟨1, 1⟩ := by
            have : a ∈ [(⟨1, 1⟩ : Atm), ⟨1, 1⟩] := ha
            simpa using this
          subst ha2
          exact .inl ⟨rfl, by decide, by decide, .inl (by decide)⟩
        | i + 1, hi => cases hi
      · have ht2 : t = ⟨1, nilV⟩ := by
          have : t ∈ [(⟨1, nilV⟩ : Edg)] := ht
          simpa using this
        subst ht2
        exact ⟨by decide, by show (1 : Int) < ((2 : Nat) : Int); decide, fun a ha => absurd ha List.not_mem_nil⟩
    · refine ⟨fun h => absurd h (by decide), fun i x hi a ha => (by cases hi), fun a ha => ?_, fun t ht => absurd ht List.not_mem_nil⟩
      have ha2 : a = ⟨1, 2⟩ := by
        have : a ∈ [(⟨1, 2⟩ : Atm)] := ha
        simpa using this
      subst ha2
      exact .inl ⟨rfl, by decide, by decide, .inr (.inl (by show (2 : Int) ∈ [2]; exact .head _))⟩
  · show EvOk [2]
    exact ⟨by simp, fun x hx => by rw [List.mem_singleton] at hx; subst hx; decide⟩
  · rcases grA_at hb with ⟨rfl, rfl⟩ | ⟨rfl, rfl⟩
    · have ht2 : t = ⟨1, nilV⟩ := by
        have : t ∈ [(⟨1, nilV⟩ : Edg)] := ht
        simpa using this
      subst ht2
      have hx2 : x ∈ [(2 : Int)] := hx
      rw [List.mem_singleton] at hx2
      subst hx2
      exact .inr (.inr (.head _))
    · exact absurd ht List.not_mem_nil
  · match n, hn with
    | 0, _ => exact absurd hx List.not_mem_nil
    | 1, _ =>
      show x ∈ [(2 : Int)]
      exact hx
    | n + 2, hn => exact absurd hn (by show ¬ n + 2 < 2; omega)
  · match n, hn with
    | 0, _ => omega
    | 1, _ => exact ⟨0, _, by decide, rfl, ⟨1, nilV⟩, .head _, rfl⟩
    | n + 2, hn => exact absurd hn (by show ¬ n + 2 < 2; omega)
theorem uses1 (n x : Int) (l : List Atm) : uses (⟨1, n⟩ :: l) x = true ↔ n = x ∨ uses l x = true := by
  unfold uses
  rw [List.any_cons, Bool.or_eq_true]
  simp
theorem uses0 (x : Int) : uses [] x = true ↔ False := by simp [uses]
variable {ss : List (Option (Nat × List Int))}
theorem grA_1 (hF : ∀ n, FixAt (grA oB oI oA oE oR) ss n) (x : Int) : x ∈ setAt ss 1 ↔ x = 2 := by
  rw [hF 1 _ rfl x]
  show (uses [⟨1, 2⟩] x = true ∨ ∃ t ∈ ([] : List Edg), edgeP ss t x) ∧ x ∉ ([] : List Int) ↔ _
  rw [uses1, uses0]
  constructor
  · rintro ⟨(h | h) | ⟨t, ht, _⟩, _⟩
    · exact h.symm
    · exact h.elim
    · exact absurd ht List.not_mem_nil
  · intro h
    exact ⟨.inl (.inl h.symm), List.not_mem_nil⟩
theorem grA_last (hF : ∀ n, FixAt (grA oB oI oA oE oR) ss n) (hsl : ss.length = 2) (x : Int) : lastP (blk00 oI oA oE).e ss x ↔ x = 2 := by
  have h1 : ss[1]? = some ss[1] := List.getElem?_eq_getElem (by omega)
  have h2 := grA_1 hF x
  unfold setAt at h2
  rw [h1] at h2
  show (uses [] x = true ∨ ∃ t ∈ [(⟨1, nilV⟩ : Edg)], uses t.a.l x = true ∨ 0 ≤ t.b ∧ ∃ s, ss[t.b.toNat]? = some s ∧ x ∈ kso s) ↔ _
  rw [← h2]
  constructor
  · rintro (h | ⟨t, ht, h⟩)
    · exact ((uses0 x).1 h).elim
    · rw [List.mem_singleton] at ht
      subst ht
      rcases h with h | ⟨_, s, hs, hx⟩
      · exact ((uses0 x).1 h).elim
      · have hs2 : ss[1]? = some s := hs
        rw [h1] at hs2
        cases hs2
        exact hx
  · intro h
    exact .inr ⟨_, .head _, .inr ⟨by decide, _, h1, h⟩⟩
theorem grA_0 (hF : ∀ n, FixAt (grA oB oI oA oE oR) ss n) (hsl : ss.length = 2) (x : Int) : x ∈ setAt ss 0 ↔ x = 1 := by
  rw [hF 0 _ rfl x]
  show ((uses [⟨1, 1⟩, ⟨1, 1⟩] x = true ∨ (2 : Int) = 5 ∧ x = 0) ∨ (lastP (blk00 oI oA oE).e ss x ∧ x ≠ 2)) ∧ x ∉ ([] : List Int) ↔ _
  rw [uses1, uses1, uses0, grA_last hF hsl]
  constructor
  · rintro ⟨((h | h | h) | ⟨h, _⟩) | ⟨h1, h2⟩, _⟩
    · exact h.symm
    · exact h.symm
    · exact h.elim
    · exact absurd h (by decide)
    · exact absurd h1 h2
  · intro h
    exact ⟨.inl (.inl (.inl h.symm)), List.not_mem_nil⟩
theorem one_list {l : List Int} {a : Int} (hn : l.Nodup) (h : ∀ x, x ∈ l ↔ x = a) : l = [a] := by
  match l, hn, h with
  | [], _, h => exact absurd ((h a).2 rfl) List.not_mem_nil
  | [b], _, h => rw [(h b).1 (.head _)]
  | b :: c :: l, hn, h =>
    have h1 := (h b).1 (.head _)
    have h2 := (h c).1 (.tail _ (.head _))
    rw [List.nodup_cons] at hn
    exact absurd (h1.trans h2.symm ▸ .head _) hn.1
theorem nil_list {l : List Int} (h : ∀ x, x ∉ l) : l = [] := List.eq_nil_iff_forall_not_mem.2 h
theorem grA_prs (hF : ∀ n, FixAt (grA oB oI oA oE oR) ss n) (hsl : ss.length = 2) : prs (grA oB oI oA oE oR) ss (slots (grA oB oI oA oE oR) (grA oB oI oA oE oR).bs.l.length) = 2 := by
  have h := grA_ok (oB := oB) (oI := oI) (oA := oA) (oE := oE) (oR := oR)
  have e0 : intoF (grA oB oI oA oE oR) ss 0 (vrs (grA oB oI oA oE oR)) = [1] := one_list (List.Nodup.sublist List.filter_sublist (vrs_nodup h)) fun x => (mem_into h hF hsl (show 0 < 2 by decide)).trans (grA_0 hF hsl x)
  have e1 : intoF (grA oB oI oA oE oR) ss 1 (vrs (grA oB oI oA oE oR)) = [2] := one_list (List.Nodup.sublist List.filter_sublist (vrs_nodup h)) fun x => (mem_into h hF hsl (show 1 < 2 by decide)).trans (grA_1 hF x)
  have e2 : bhF (grA oB oI oA oE oR) ss (blk00 oI oA oE) 0 = [] := nil_list fun x hx => by
    have h1 := (mem_bh h hF hsl (n := 0) (i := 0) (bl := blk00 oI oA oE) (ins := ins00 oA) rfl rfl).1 hx
    exact h1.1 ((grA_last hF hsl x).1 h1.2)
  have hs : slots (grA oB oI oA oE oR) (grA oB oI oA oE oR).bs.l.length = [(0, none), (0, some 0), (1, none)] := rfl
  have c0 : cnt (grA oB oI oA oE oR) ss (0, none) = 1 := by rw [cnt_n (bl := blk00 oI oA oE) rfl, e0]; rfl
  have c1 : cnt (grA oB oI oA oE oR) ss (0, some 0) = 1 := by rw [cnt_i (bl := blk00 oI oA oE) rfl, e2]; rfl
  have c2 : cnt (grA oB oI oA oE oR) ss (1, none) = 1 := by rw [cnt_n (bl := blk01 oR) rfl, e1]; rfl
  rw [hs]
  unfold prs
  simp only [List.map_cons, List.map_nil, c0, c1, c2]
  rfl
theorem grA_vars : varsL (grA oB oI oA oE oR).bs.l = [0, 1, 2] := rfl
theorem grA_nil : ¬ RightP (grA oB oI oA oE oR) [] := fun h => by
  have h2 := congrArg List.length h.2.1
  rw [srt_len, srt_len, grA_vars] at h2
  cases h2
end
end Go.Proofs.Ytjfanjcoppeeaaa
