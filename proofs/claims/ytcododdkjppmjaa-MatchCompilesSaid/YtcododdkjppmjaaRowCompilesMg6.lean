/-
  The walk over Compile (the program's). Conditions: none.
  Walks over the document's small functions: a path by a step; a row's condition of a path. Conditions: none.
  The walk over a row made plain (the document's). Conditions: none.
-/
import Derived.Test.YtcododdkjppmjaaRowCompilesMg5
namespace Go.Proofs.Ytcododdkjppmjaa
open Go Go.Fw
set_option linter.unusedVariables false
def rowsP : List AP → Nat → List Ln
  | [], _ => []
  | p :: l, i => plain (i : Int) [] [([], p)] :: rowsP l (i + 1)
theorem rowsP_snoc : ∀ (l : List AP) (p : AP) (i : Nat), rowsP (l ++ [p]) i = rowsP l i ++ [plain ((i + l.length : Nat) : Int) [] [([], p)]]
  | [], p, i => rfl
  | q :: l, p, i => by
    rw [List.cons_append, rowsP, rowsP_snoc l p (i + 1), rowsP, List.length_cons]
    rw [show i + 1 + l.length = i + (l.length + 1) by omega]
    rfl
theorem rowsP_len : ∀ (l : List AP) (i : Nat), (rowsP l i).length = l.length
  | [], i => rfl
  | q :: l, i => by rw [rowsP, List.length_cons, rowsP_len l (i + 1), List.length_cons]
theorem row_rw {n : Int} {p : AP} (hf : formP p = true) (hs : szA p ≤ 256) : Rw (plain n [] [([], p)]) := by
  refine plain_rw (fun c hc => ?_) (List.pairwise_singleton _ _) ?_ (fun c hc => ?_) (fun b hb => absurd hb List.not_mem_nil)
  · rw [List.mem_singleton] at hc; subst hc; exact hf
  · rw [szC_cons]; show szA p + 0 + 0 ≤ 256; omega
  · rw [List.mem_singleton] at hc; subst hc; show 0 + szA p ≤ 256; omega
theorem rowsP_rw : ∀ (l : List AP) (i : Nat), (∀ p ∈ l, formP p = true ∧ szA p ≤ 256) → ∀ r ∈ rowsP l i, Rw r
  | [], i, _, r, h => absurd h List.not_mem_nil
  | p :: l, i, hp, r, h => by
    rw [rowsP] at h
    rcases List.mem_cons.1 h with rfl | h
    · exact row_rw (hp p (.head _)).1 (hp p (.head _)).2
    · exact rowsP_rw l (i + 1) (fun q hq => hp q (.tail _ hq)) r h
def z0 : Tr := .mk hd0 0 0 [] [] [] []
/-- what Compile answers: what is wrong; a tree -/
def comP (l : List AP) : Int × Tr :=
  if 64 < l.length ∨ l.any (fun p => decide (256 < partsP p 256)) = true then (3, z0)
  else if l.any (fun p => !formP p) = true then (5, z0)
  else if (treeP 1024 hd0 (rowsP l 0) 1024).2 < 0 then (3, z0) else (0, (treeP 1024 hd0 (rowsP l 0) 1024).1)
def RdAs (w : World) (o : Option Addr) (c : Nat) (l : List AP) : Prop := Rd w o (flat encA l) ∧ l.length ≤ c ∧ c ≤ maxLen ∧ ∀ a ∈ l, RdA w a
theorem RdAs.keep {w w' : World} {o : Option Addr} {c : Nat} {l : List AP} (h : RdAs w o c l) (hk : Kp w noM w') : RdAs w' o c l := ⟨((HS.init w noM).keep hk).rd h.1 id, h.2.1, h.2.2.1, fun a ha => (h.2.2.2 a ha).keep hk⟩
theorem hs_z0 {w0 w : World} {H : List It} (h : HS w0 noM H w) : HS w0 noM (all (itF (zT hd0)) :: H) w := by
  rw [itF_eq]
  exact HS.shut (L := [_, _, _, _, _, _, _]) ((((((((h.nil_all).nil_all).nil_own _ _).nil_own _ _).nil_all).nil_own _ _).nil_own _ _))
theorem RdQ_nil (w : World) : RdQ w none 0 [] := ⟨⟨fun h => absurd h (by decide), fun j u h => by simp [flat] at h⟩, Nat.zero_le _, Nat.zero_le _⟩
theorem un_z0 : (zT hd0).un = z0 := by rw [un_eq]; rfl
theorem comP_many {l : List AP} (h : 64 < l.length ∨ l.any (fun p => decide (256 < partsP p 256)) = true) : comP l = (3, z0) := by unfold comP; rw [if_pos h]
theorem comP_form {l : List AP} (h : ¬ (64 < l.length ∨ l.any (fun p => decide (256 < partsP p 256)) = true)) (h2 : l.any (fun p => !formP p) = true) : comP l = (5, z0) := by unfold comP; rw [if_neg h, if_pos h2]
theorem comP_great {l : List AP} (h : ¬ (64 < l.length ∨ l.any (fun p => decide (256 < partsP p 256)) = true)) (h2 : ¬ l.any (fun p => !formP p) = true) (h3 : (treeP 1024 hd0 (rowsP l 0) 1024).2 < 0) : comP l = (3, z0) := by unfold comP; rw [if_neg h, if_neg h2, if_pos h3]
theorem comP_ok {l : List AP} (h : ¬ (64 < l.length ∨ l.any (fun p => decide (256 < partsP p 256)) = true)) (h2 : ¬ l.any (fun p => !formP p) = true) (h3 : ¬ (treeP 1024 hd0 (rowsP l 0) 1024).2 < 0) : comP l = (0, (treeP 1024 hd0 (rowsP l 0) 1024).1) := by unfold comP; rw [if_neg h, if_neg h2, if_neg h3]
theorem few_of {l : List AP} (h : ¬ (64 < l.length ∨ l.any (fun p => decide (256 < partsP p 256)) = true)) (h2 : ¬ l.any (fun p => !formP p) = true) : l.length ≤ 64 ∧ ∀ p ∈ l, formP p = true ∧ szA p ≤ 256 := by
  have h1 : ¬ 64 < l.length := fun h1 => h (.inl h1)
  refine ⟨by omega, fun p hp => ⟨?_, ?_⟩⟩
  · cases hf : formP p with
    | true => rfl
    | false => exact absurd (List.any_eq_true.2 ⟨p, hp, by rw [hf]; rfl⟩) h2
  · have h3 : ¬ 256 < partsP p 256 := fun h3 => h (.inr (List.any_eq_true.2 ⟨p, hp, decide_eq_true h3⟩))
    have h4 := sz_parts p 256 (by omega)
    omega
set_option maxRecDepth 10000 attribute [local irreducible] Code.wp wpList Calls Ex Op1 sat bat blk cb own Go.Fw.mp Go.Fw.mpO Go.Fw.mpI Go.Fw.mpE Go.Fw.itr HS Rd Ret wkD Hp Cl Cls Exit.then Exit.inBlock Exit.noGoto bodyPost Go.Fw.flat wk2 Go.Fw.all Go.Fw.owns wpOp
attribute [local irreducible] encA encC encL itT itTs itF itFs comP treeP formP partsP szA

theorem com1_spec (w0 : World) (p : AP) (hR : RdA w0 p) : Ret Try.prog 16 #[.agg #[.int .i64 p.k, .int .i64 p.v, .int .i64 p.n, .string p.s, .slice p.ol p.ls.length p.cl, .slice p.oa p.ps.length p.ca]] w0 (fun v w => v = .bool (decide (256 < partsP p 256)) ∧ Kp w0 noM w) := by
  have hH : HS w0 noM [] w0 := HS.init w0 noM
  (refine enter (N := 6) Try.func16 rfl Try.ntmps16 rfl ?_; intro a hA; dsimp only [sl0, Nat.reduceAdd] at hA)
  repeat' (first | (first | (refine GT ?_ ?_ <;> intro hg <;> clear hA a <;> intro a hA <;> (first | exact FA | replace hg := of_decide_eq_true hg | replace hg := of_decide_eq_false hg | skip)) | (refine QT ?_; clear hA a; intro a hA) | (first | (refine BT ?_; clear hA hH; rintro _ w ⟨bN, rfl, hH⟩ a hA) | (refine LT ?_; clear hA hH; rintro _ w ⟨oN, rfl, hH⟩ a hA) | (refine AT ?_; clear hA; rintro _ w ⟨oN, cN, rfl, hH2⟩ a hA; clear hH; have hH := (hH2 _ (by (repeat constructor))).tail; clear hH2) | (refine S0T ?_; clear hH; rintro _ w hH) )) | ((first | refine CT ?_ | (refine DT ?_ ?_ <;> intro hc <;> try (exfalso; omega))) <;> repeat' refine CT ?_) | (first | (refine DSK ?_; clear hA a; intro a hA) | (first | (refine DLT ?_; clear hA hH; rintro _ w ⟨oN, rfl, hH⟩; refine ⟨STT, ?_⟩; intro a hA) | (refine DAT ?_; clear hA; rintro _ w ⟨oN, cN, rfl, hH2⟩; clear hH; have hH := (hH2 _ (by (repeat constructor))).tail; clear hH2; refine ⟨STT, ?_⟩; intro a hA))) )
  (refine st_op hA rfl rfl (by decide) (op_call rfl rfl rfl (parts_spec _ p (Nat.lt_succ_self _) _ 256 (by omega) (hR.keep hH.kp))) ?_; clear hA; rintro _ w ⟨rfl, hk⟩ a hA; replace hH := hH.keep hk; clear hk)
  repeat' (first | (first | (refine GT ?_ ?_ <;> intro hg <;> clear hA a <;> intro a hA <;> (first | exact FA | replace hg := of_decide_eq_true hg | replace hg := of_decide_eq_false hg | skip)) | (refine QT ?_; clear hA a; intro a hA) | (first | (refine BT ?_; clear hA hH; rintro _ w ⟨bN, rfl, hH⟩ a hA) | (refine LT ?_; clear hA hH; rintro _ w ⟨oN, rfl, hH⟩ a hA) | (refine AT ?_; clear hA; rintro _ w ⟨oN, cN, rfl, hH2⟩ a hA; clear hH; have hH := (hH2 _ (by (repeat constructor))).tail; clear hH2) | (refine S0T ?_; clear hH; rintro _ w hH) )) | ((first | refine CT ?_ | (refine DT ?_ ?_ <;> intro hc <;> try (exfalso; omega))) <;> repeat' refine CT ?_) | (first | (refine DSK ?_; clear hA a; intro a hA) | (first | (refine DLT ?_; clear hA hH; rintro _ w ⟨oN, rfl, hH⟩; refine ⟨STT, ?_⟩; intro a hA) | (refine DAT ?_; clear hA; rintro _ w ⟨oN, cN, rfl, hH2⟩; clear hH; have hH := (hH2 _ (by (repeat constructor))).tail; clear hH2; refine ⟨STT, ?_⟩; intro a hA))) )
  exact rt1 (.inl rfl) rfl hA rfl ⟨rfl, hH.kp⟩
theorem com2_spec (w0 : World) (p : AP) (hR : RdA w0 p) : Ret Try.prog 18 #[.agg #[.int .i64 p.k, .int .i64 p.v, .int .i64 p.n, .string p.s, .slice p.ol p.ls.length p.cl, .slice p.oa p.ps.length p.ca]] w0 (fun v w => v = .bool (!formP p) ∧ Kp w0 noM w) := by
  have hH : HS w0 noM [] w0 := HS.init w0 noM
  (refine enter (N := 6) Try.func18 rfl Try.ntmps18 rfl ?_; intro a hA; dsimp only [sl0, Nat.reduceAdd] at hA)
  repeat' (first | (first | (refine GT ?_ ?_ <;> intro hg <;> clear hA a <;> intro a hA <;> (first | exact FA | replace hg := of_decide_eq_true hg | replace hg := of_decide_eq_false hg | skip)) | (refine QT ?_; clear hA a; intro a hA) | (first | (refine BT ?_; clear hA hH; rintro _ w ⟨bN, rfl, hH⟩ a hA) | (refine LT ?_; clear hA hH; rintro _ w ⟨oN, rfl, hH⟩ a hA) | (refine AT ?_; clear hA; rintro _ w ⟨oN, cN, rfl, hH2⟩ a hA; clear hH; have hH := (hH2 _ (by (repeat constructor))).tail; clear hH2) | (refine S0T ?_; clear hH; rintro _ w hH) )) | ((first | refine CT ?_ | (refine DT ?_ ?_ <;> intro hc <;> try (exfalso; omega))) <;> repeat' refine CT ?_) | (first | (refine DSK ?_; clear hA a; intro a hA) | (first | (refine DLT ?_; clear hA hH; rintro _ w ⟨oN, rfl, hH⟩; refine ⟨STT, ?_⟩; intro a hA) | (refine DAT ?_; clear hA; rintro _ w ⟨oN, cN, rfl, hH2⟩; clear hH; have hH := (hH2 _ (by (repeat constructor))).tail; clear hH2; refine ⟨STT, ?_⟩; intro a hA))) )
  (refine st_op hA rfl rfl (by decide) (op_call rfl rfl rfl (form_spec _ p (Nat.lt_succ_self _) _ (hR.keep hH.kp))) ?_; clear hA; rintro _ w ⟨rfl, hk⟩ a hA; replace hH := hH.keep hk; clear hk)
  repeat' (first | (first | (refine GT ?_ ?_ <;> intro hg <;> clear hA a <;> intro a hA <;> (first | exact FA | replace hg := of_decide_eq_true hg | replace hg := of_decide_eq_false hg | skip)) | (refine QT ?_; clear hA a; intro a hA) | (first | (refine BT ?_; clear hA hH; rintro _ w ⟨bN, rfl, hH⟩ a hA) | (refine LT ?_; clear hA hH; rintro _ w ⟨oN, rfl, hH⟩ a hA) | (refine AT ?_; clear hA; rintro _ w ⟨oN, cN, rfl, hH2⟩ a hA; clear hH; have hH := (hH2 _ (by (repeat constructor))).tail; clear hH2) | (refine S0T ?_; clear hH; rintro _ w hH) )) | ((first | refine CT ?_ | (refine DT ?_ ?_ <;> intro hc <;> try (exfalso; omega))) <;> repeat' refine CT ?_) | (first | (refine DSK ?_; clear hA a; intro a hA) | (first | (refine DLT ?_; clear hA hH; rintro _ w ⟨oN, rfl, hH⟩; refine ⟨STT, ?_⟩; intro a hA) | (refine DAT ?_; clear hA; rintro _ w ⟨oN, cN, rfl, hH2⟩; clear hH; have hH := (hH2 _ (by (repeat constructor))).tail; clear hH2; refine ⟨STT, ?_⟩; intro a hA))) )
  exact rt1 (.inl rfl) rfl hA rfl ⟨rfl, hH.kp⟩
set_option maxHeartbeats 8000000 in
theorem compile_spec (w0 : World) (o : Option Addr) (c : Nat) (l : List AP) (hR : RdAs w0 o c l) :
    Ret Try.prog 6 #[.slice o l.length c] w0 (fun v w => ∃ t : MT, v = .tuple #[.agg (encT t).toArray, .int .i64 (comP l).1] ∧ t.un = (comP l).2 ∧ HS w0 noM [all (itF t)] w) := by
  have hH : HS w0 noM [] w0 := HS.init w0 noM
  have hlc := hR.2
  unfold maxLen at hlc
  have hsp : Sp o l.length := hR.1.sp (sz := 6) (flat_length encA_len l) (by omega)
  (refine enter (N := 50) Try.func6 rfl Try.ntmps6 rfl ?_; intro a hA; dsimp only [sl0, Nat.reduceAdd] at hA)
  repeat' (first | (first | (refine GT ?_ ?_ <;> intro hg <;> clear hA a <;> intro a hA <;> (first | exact FA | replace hg := of_decide_eq_true hg | replace hg := of_decide_eq_false hg | skip)) | (refine QT ?_; clear hA a; intro a hA) | (first | (refine BT ?_; clear hA hH; rintro _ w ⟨bN, rfl, hH⟩ a hA) | (refine LT ?_; clear hA hH; rintro _ w ⟨oN, rfl, hH⟩ a hA) | (refine AT ?_; clear hA; rintro _ w ⟨oN, cN, rfl, hH2⟩ a hA; clear hH; have hH := (hH2 _ (by (repeat constructor))).tail; clear hH2) | (refine S0T ?_; clear hH; rintro _ w hH) )) | ((first | refine CT ?_ | (refine DT ?_ ?_ <;> intro hc <;> try (exfalso; omega))) <;> repeat' refine CT ?_) | (first | (refine DSK ?_; clear hA a; intro a hA) | (first | (refine DLT ?_; clear hA hH; rintro _ w ⟨oN, rfl, hH⟩; refine ⟨STT, ?_⟩; intro a hA) | (refine DAT ?_; clear hA; rintro _ w ⟨oN, cN, rfl, hH2⟩; clear hH; have hH := (hH2 _ (by (repeat constructor))).tail; clear hH2; refine ⟨STT, ?_⟩; intro a hA))) )
  · have hcom := comP_many (l := l) (.inl (by omega))
    repeat' (first | (first | (refine GT ?_ ?_ <;> intro hg <;> clear hA a <;> intro a hA <;> (first | exact FA | replace hg := of_decide_eq_true hg | replace hg := of_decide_eq_false hg | skip)) | ((first | apply st_ex hA hH rfl rfl (by decide) | apply dr_ex hA rfl rfl rfl (by decide) | apply dr_exp hA rfl rfl rfl (by decide) | apply dr_ex3 hA hH rfl rfl rfl (by decide)); (first | (apply ex_build_p (encT (zT hd0)).toArray; rfl; (repeat (first | (intro _ h; exact absurd h (List.not_mem_nil)) | (refine List.forall_mem_cons.2 ⟨one_cell_of _ _, ?_⟩))); rfl)); clear hA a; intro a hA) | (refine QT ?_; clear hA a; intro a hA) | (first | (refine BT ?_; clear hA hH; rintro _ w ⟨bN, rfl, hH⟩ a hA) | (refine LT ?_; clear hA hH; rintro _ w ⟨oN, rfl, hH⟩ a hA) | (refine AT ?_; clear hA; rintro _ w ⟨oN, cN, rfl, hH2⟩ a hA; clear hH; have hH := (hH2 _ (by (repeat constructor))).tail; clear hH2) | (refine S0T ?_; clear hH; rintro _ w hH) | (apply st_op0 hA rfl rfl; apply op_store_agg (vs := encT (zT hd0)); rfl; rfl; exact hH; (repeat constructor); (repeat rfl); clear hH; rintro _ w hH))) | ((first | refine CT ?_ | (refine DT ?_ ?_ <;> intro hc <;> try (exfalso; omega))) <;> repeat' refine CT ?_) | (first | (refine DSK ?_; clear hA a; intro a hA) | (first | (refine DLT ?_; clear hA hH; rintro _ w ⟨oN, rfl, hH⟩; refine ⟨STT, ?_⟩; intro a hA) | (refine DAT ?_; clear hA; rintro _ w ⟨oN, cN, rfl, hH2⟩; clear hH; have hH := (hH2 _ (by (repeat constructor))).tail; clear hH2; refine ⟨STT, ?_⟩; intro a hA))) )
    exact rt2c (vs := encT (zT hd0)) (.inl rfl) rfl hA rfl rfl rfl hH (cls_cb_all (by exact MEMT)) ⟨zT hd0, by rw [hcom], by rw [hcom]; exact un_z0, hs_z0 hH.drop_⟩
  (refine st_op hA rfl rfl (by decide) (op_call rfl rfl rfl (containsA_spec _ o c l 16 #[] #[] (fun p => decide (256 < partsP p 256)) (hH.rd hR.1 id) (by unfold maxLen; omega) (fun x hx w hw => com1_spec w x ((hR.2.2.2 x hx).keep (hH.kp.trans hw fun b hb => hb.elim))))) ?_; clear hA; rintro _ w ⟨rfl, hk⟩ a hA; replace hH := hH.keep hk; clear hk)
  cases hmany : l.any (fun p => decide (256 < partsP p 256)) with
  | true =>
    rw [hmany] at hA
    have hcom := comP_many (l := l) (.inr hmany)
    repeat' (first | (first | (refine GT ?_ ?_ <;> intro hg <;> clear hA a <;> intro a hA <;> (first | exact FA | replace hg := of_decide_eq_true hg | replace hg := of_decide_eq_false hg | skip)) | ((first | apply st_ex hA hH rfl rfl (by decide) | apply dr_ex hA rfl rfl rfl (by decide) | apply dr_exp hA rfl rfl rfl (by decide) | apply dr_ex3 hA hH rfl rfl rfl (by decide)); (first | (apply ex_build_p (encT (zT hd0)).toArray; rfl; (repeat (first | (intro _ h; exact absurd h (List.not_mem_nil)) | (refine List.forall_mem_cons.2 ⟨one_cell_of _ _, ?_⟩))); rfl)); clear hA a; intro a hA) | (refine QT ?_; clear hA a; intro a hA) | (first | (refine BT ?_; clear hA hH; rintro _ w ⟨bN, rfl, hH⟩ a hA) | (refine LT ?_; clear hA hH; rintro _ w ⟨oN, rfl, hH⟩ a hA) | (refine AT ?_; clear hA; rintro _ w ⟨oN, cN, rfl, hH2⟩ a hA; clear hH; have hH := (hH2 _ (by (repeat constructor))).tail; clear hH2) | (refine S0T ?_; clear hH; rintro _ w hH) | (apply st_op0 hA rfl rfl; apply op_store_agg (vs := encT (zT hd0)); rfl; rfl; exact hH; (repeat constructor); (repeat rfl); clear hH; rintro _ w hH))) | ((first | refine CT ?_ | (refine DT ?_ ?_ <;> intro hc <;> try (exfalso; omega))) <;> repeat' refine CT ?_) | (first | (refine DSK ?_; clear hA a; intro a hA) | (first | (refine DLT ?_; clear hA hH; rintro _ w ⟨oN, rfl, hH⟩; refine ⟨STT, ?_⟩; intro a hA) | (refine DAT ?_; clear hA; rintro _ w ⟨oN, cN, rfl, hH2⟩; clear hH; have hH := (hH2 _ (by (repeat constructor))).tail; clear hH2; refine ⟨STT, ?_⟩; intro a hA))) )
    exact rt2c (vs := encT (zT hd0)) (.inl rfl) rfl hA rfl rfl rfl hH (cls_cb_all (by exact MEMT)) ⟨zT hd0, by rw [hcom], by rw [hcom]; exact un_z0, hs_z0 hH.drop_⟩
  | false =>
  rw [hmany] at hA
  have hnm : ¬ (64 < l.length ∨ l.any (fun p => decide (256 < partsP p 256)) = true) := by rw [hmany]; rintro (h | h); omega; cases h
  repeat' (first | (first | (refine GT ?_ ?_ <;> intro hg <;> clear hA a <;> intro a hA <;> (first | exact FA | replace hg := of_decide_eq_true hg | replace hg := of_decide_eq_false hg | skip)) | (refine QT ?_; clear hA a; intro a hA) | (first | (refine BT ?_; clear hA hH; rintro _ w ⟨bN, rfl, hH⟩ a hA) | (refine LT ?_; clear hA hH; rintro _ w ⟨oN, rfl, hH⟩ a hA) | (refine AT ?_; clear hA; rintro _ w ⟨oN, cN, rfl, hH2⟩ a hA; clear hH; have hH := (hH2 _ (by (repeat constructor))).tail; clear hH2) | (refine S0T ?_; clear hH; rintro _ w hH) )) | ((first | refine CT ?_ | (refine DT ?_ ?_ <;> intro hc <;> try (exfalso; omega))) <;> repeat' refine CT ?_) | (first | (refine DSK ?_; clear hA a; intro a hA) | (first | (refine DLT ?_; clear hA hH; rintro _ w ⟨oN, rfl, hH⟩; refine ⟨STT, ?_⟩; intro a hA) | (refine DAT ?_; clear hA; rintro _ w ⟨oN, cN, rfl, hH2⟩; clear hH; have hH := (hH2 _ (by (repeat constructor))).tail; clear hH2; refine ⟨STT, ?_⟩; intro a hA))) )
  (refine st_op hA rfl rfl (by decide) (op_call rfl rfl rfl (containsA_spec _ o c l 18 #[] #[] (fun p => !formP p) (hH.rd hR.1 id) (by unfold maxLen; omega) (fun x hx w hw => com2_spec w x ((hR.2.2.2 x hx).keep (hH.kp.trans hw fun b hb => hb.elim))))) ?_; clear hA; rintro _ w ⟨rfl, hk⟩ a hA; replace hH := hH.keep hk; clear hk)
  cases hform : l.any (fun p => !formP p) with
  | true =>
    rw [hform] at hA
    have hcom := comP_form (l := l) hnm hform
    repeat' (first | (first | (refine GT ?_ ?_ <;> intro hg <;> clear hA a <;> intro a hA <;> (first | exact FA | replace hg := of_decide_eq_true hg | replace hg := of_decide_eq_false hg | skip)) | ((first | apply st_ex hA hH rfl rfl (by decide) | apply dr_ex hA rfl rfl rfl (by decide) | apply dr_exp hA rfl rfl rfl (by decide) | apply dr_ex3 hA hH rfl rfl rfl (by decide)); (first | (apply ex_build_p (encT (zT hd0)).toArray; rfl; (repeat (first | (intro _ h; exact absurd h (List.not_mem_nil)) | (refine List.forall_mem_cons.2 ⟨one_cell_of _ _, ?_⟩))); rfl)); clear hA a; intro a hA) | (refine QT ?_; clear hA a; intro a hA) | (first | (refine BT ?_; clear hA hH; rintro _ w ⟨bN, rfl, hH⟩ a hA) | (refine LT ?_; clear hA hH; rintro _ w ⟨oN, rfl, hH⟩ a hA) | (refine AT ?_; clear hA; rintro _ w ⟨oN, cN, rfl, hH2⟩ a hA; clear hH; have hH := (hH2 _ (by (repeat constructor))).tail; clear hH2) | (refine S0T ?_; clear hH; rintro _ w hH) | (apply st_op0 hA rfl rfl; apply op_store_agg (vs := encT (zT hd0)); rfl; rfl; exact hH; (repeat constructor); (repeat rfl); clear hH; rintro _ w hH))) | ((first | refine CT ?_ | (refine DT ?_ ?_ <;> intro hc <;> try (exfalso; omega))) <;> repeat' refine CT ?_) | (first | (refine DSK ?_; clear hA a; intro a hA) | (first | (refine DLT ?_; clear hA hH; rintro _ w ⟨oN, rfl, hH⟩; refine ⟨STT, ?_⟩; intro a hA) | (refine DAT ?_; clear hA; rintro _ w ⟨oN, cN, rfl, hH2⟩; clear hH; have hH := (hH2 _ (by (repeat constructor))).tail; clear hH2; refine ⟨STT, ?_⟩; intro a hA))) )
    exact rt2c (vs := encT (zT hd0)) (.inl rfl) rfl hA rfl rfl rfl hH (cls_cb_all (by exact MEMT)) ⟨zT hd0, by rw [hcom], by rw [hcom]; exact un_z0, hs_z0 hH.drop_⟩
  | false =>
  rw [hform] at hA
  have hnf : ¬ l.any (fun p => !formP p) = true := by rw [hform]; exact Bool.false_ne_true
  have hfew := few_of hnm hnf
  obtain ⟨b2, hb2⟩ : ∃ b, b = bN := ⟨_, rfl⟩
  rw [← hb2] at hA hH
  clear hb2 bN
  repeat' (first | (first | (refine GT ?_ ?_ <;> intro hg <;> clear hA a <;> intro a hA <;> (first | exact FA | replace hg := of_decide_eq_true hg | replace hg := of_decide_eq_false hg | skip)) | (refine QT ?_; clear hA a; intro a hA) | (first | (refine BT ?_; clear hA hH; rintro _ w ⟨bN, rfl, hH⟩ a hA) | (refine LT ?_; clear hA hH; rintro _ w ⟨oN, rfl, hH⟩ a hA) | (refine AT ?_; clear hA; rintro _ w ⟨oN, cN, rfl, hH2⟩ a hA; clear hH; have hH := (hH2 _ (by (repeat constructor))).tail; clear hH2) | (refine S0T ?_; clear hH; rintro _ w hH) )) | ((first | refine CT ?_ | (refine DT ?_ ?_ <;> intro hc <;> try (exfalso; omega))) <;> repeat' refine CT ?_) | (first | (refine DSK ?_; clear hA a; intro a hA) | (first | (refine DLT ?_; clear hA hH; rintro _ w ⟨oN, rfl, hH⟩; refine ⟨STT, ?_⟩; intro a hA) | (refine DAT ?_; clear hA; rintro _ w ⟨oN, cN, rfl, hH2⟩; clear hH; have hH := (hH2 _ (by (repeat constructor))).tail; clear hH2; refine ⟨STT, ?_⟩; intro a hA))) )
  refine wp_lpk (S := Nat) (fun i a w => ∃ (K : World → Prop) (oo : Option Addr) (co : Nat) (lo : List ML), (i ≤ l.length ∧ (∀ w, K w → Kp w0 noM w ∧ ∀ m ∈ lo, RdL w m) ∧ lo.map ML.un = rowsP (l.take i) 0 ∧ lo.length = i) ∧
      HS w0 noM [own 52 3 oo lo.length co (flat encL lo), frz w0 K, Go.Fw.cb b2 29 (encT (zT hd0))] w ∧ Sl 50 [(2, .pointer (some (bat b2 0))), (4, .slice oo lo.length co), (20, .slice o l.length c), (21, .int .i64 l.length), (22, .int .i64 i)] a)
    (fun i => l.length - i)
    (fun a w => ∃ (K : World → Prop) (oo : Option Addr) (co : Nat) (lo : List ML), ((∀ w, K w → Kp w0 noM w ∧ ∀ m ∈ lo, RdL w m) ∧ lo.map ML.un = rowsP l 0) ∧
      HS w0 noM [own 52 3 oo lo.length co (flat encL lo), frz w0 K, Go.Fw.cb b2 29 (encT (zT hd0))] w ∧ Sl 50 [(2, .pointer (some (bat b2 0))), (4, .slice oo lo.length co)] a) 0
    ⟨fun w => Kp w0 noM w, none, 0, [], ⟨Nat.zero_le _, fun w h => ⟨h, fun m hm => absurd hm List.not_mem_nil⟩, by rw [List.take_zero]; rfl, rfl⟩, ((hH.frz_nil fun w h => h).nil_flat encL 52 3).perm (by (repeat (first | exact List.Perm.refl _ | exact List.Perm.nil | refine perm_pick 0 rfl ?_ | refine perm_pick 1 rfl ?_ | refine perm_pick 2 rfl ?_ | refine perm_pick 3 rfl ?_ | refine perm_pick 4 rfl ?_ | refine perm_pick 5 rfl ?_ | refine perm_pick 6 rfl ?_ | refine perm_pick 7 rfl ?_ | refine perm_pick 8 rfl ?_ | refine perm_pick 9 rfl ?_ | refine perm_pick 10 rfl ?_ | refine perm_pick 11 rfl ?_))), (hA.sub (by (repeat (first | exact trivial | refine ⟨rfl, ?_⟩))))⟩ ?_ ?_
  · clear hA hH
    rintro i a w ⟨K, oo, co, lo, ⟨hi, hK, hlo, hll⟩, hH, hA⟩
    by_cases hlt : i < l.length
    rotate_left
    · obtain rfl : i = l.length := by omega
      rw [List.take_length] at hlo
      repeat' (first | (first | (refine GT ?_ ?_ <;> intro hg <;> clear hA a <;> intro a hA <;> (first | exact FA | replace hg := of_decide_eq_true hg | replace hg := of_decide_eq_false hg | skip)) | (refine QT ?_; clear hA a; intro a hA) | (first | (refine BT ?_; clear hA hH; rintro _ w ⟨bN, rfl, hH⟩ a hA) | (refine LT ?_; clear hA hH; rintro _ w ⟨oN, rfl, hH⟩ a hA) | (refine AT ?_; clear hA; rintro _ w ⟨oN, cN, rfl, hH2⟩ a hA; clear hH; have hH := (hH2 _ (by (repeat constructor))).tail; clear hH2) | (refine S0T ?_; clear hH; rintro _ w hH) )) | ((first | refine CT ?_ | (refine DT ?_ ?_ <;> intro hc <;> try (exfalso; omega))) <;> repeat' refine CT ?_) | (first | (refine DSK ?_; clear hA a; intro a hA) | (first | (refine DLT ?_; clear hA hH; rintro _ w ⟨oN, rfl, hH⟩; refine ⟨STT, ?_⟩; intro a hA) | (refine DAT ?_; clear hA; rintro _ w ⟨oN, cN, rfl, hH2⟩; clear hH; have hH := (hH2 _ (by (repeat constructor))).tail; clear hH2; refine ⟨STT, ?_⟩; intro a hA))) )
      exact ⟨K, oo, co, lo, ⟨hK, hlo⟩, hH, (hA.sub (by (repeat (first | exact trivial | refine ⟨rfl, ?_⟩))))⟩
    obtain ⟨x, hx⟩ : ∃ x, l[i]? = some x := ⟨_, List.getElem?_eq_getElem hlt⟩
    have hxm := List.mem_of_getElem? hx
    have hvs := flat_all encA_len hx
    rw [encA_eq] at hvs
    repeat' (first | (first | (refine GT ?_ ?_ <;> intro hg <;> clear hA a <;> intro a hA <;> (first | exact FA | replace hg := of_decide_eq_true hg | replace hg := of_decide_eq_false hg | skip)) | ((first | apply st_ex hA hH rfl rfl (by decide) | apply dr_ex hA rfl rfl rfl (by decide) | apply dr_exp hA rfl rfl rfl (by decide) | apply dr_ex3 hA hH rfl rfl rfl (by decide)); (first | (apply ex_load_st (vs := [.int .i64 x.k, .int .i64 x.v, .int .i64 x.n, .string x.s, .slice x.ol x.ls.length x.cl, .slice x.oa x.ps.length x.ca]); rfl; rfl; exact cls_rd hR.1 id hvs)); clear hA a; intro a hA) | (refine QT ?_; clear hA a; intro a hA) | (first | (refine BT ?_; clear hA hH; rintro _ w ⟨bN, rfl, hH⟩ a hA) | (refine LT ?_; clear hA hH; rintro _ w ⟨oN, rfl, hH⟩ a hA) | (refine AT ?_; clear hA; rintro _ w ⟨oN, cN, rfl, hH2⟩ a hA; clear hH; have hH := (hH2 _ (by (repeat constructor))).tail; clear hH2) | (refine S0T ?_; clear hH; rintro _ w hH) | (apply st_op0 hA rfl rfl; apply op_store_agg (vs := [.int .i64 x.k, .int .i64 x.v, .int .i64 x.n, .string x.s, .slice x.ol x.ls.length x.cl, .slice x.oa x.ps.length x.ca]); rfl; rfl; exact hH; (repeat constructor); (repeat rfl); clear hH; rintro _ w hH))) | ((first | refine CT ?_ | (refine DT ?_ ?_ <;> intro hc <;> try (exfalso; omega))) <;> repeat' refine CT ?_) | (first | (refine DSK ?_; clear hA a; intro a hA) | (first | (refine DLT ?_; clear hA hH; rintro _ w ⟨oN, rfl, hH⟩; refine ⟨STT, ?_⟩; intro a hA) | (refine DAT ?_; clear hA; rintro _ w ⟨oN, cN, rfl, hH2⟩; clear hH; have hH := (hH2 _ (by (repeat constructor))).tail; clear hH2; refine ⟨STT, ?_⟩; intro a hA))) )
    repeat' (first | (first | (refine GT ?_ ?_ <;> intro hg <;> clear hA a <;> intro a hA <;> (first | exact FA | replace hg := of_decide_eq_true hg | replace hg := of_decide_eq_false hg | skip)) | ((first | apply st_ex hA hH rfl rfl (by decide) | apply dr_ex hA rfl rfl rfl (by decide) | apply dr_exp hA rfl rfl rfl (by decide) | apply dr_ex3 hA hH rfl rfl rfl (by decide)); (first | (apply ex_build_p #[.int .i64 i, .slice none 0 0, .slice none 0 0]; rfl; (repeat (first | (intro _ h; exact absurd h (List.not_mem_nil)) | (refine List.forall_mem_cons.2 ⟨one_cell_of _ _, ?_⟩))); rfl) | (apply ex_build_12 (us := [.int .i64 x.k, .int .i64 x.v, .int .i64 x.n, .string x.s, .slice x.ol x.ls.length x.cl, .slice x.oa x.ps.length x.ca]); rfl; rfl; rfl; rfl; rfl; exact ⟨size_of _ _ _, size_of _ _ _, trivial⟩)); clear hA a; intro a hA) | (refine QT ?_; clear hA a; intro a hA) | (first | (refine BT ?_; clear hA hH; rintro _ w ⟨bN, rfl, hH⟩ a hA) | (refine LT ?_; clear hA hH; rintro _ w ⟨oN, rfl, hH⟩ a hA) | (refine AT ?_; clear hA; rintro _ w ⟨oN, cN, rfl, hH2⟩ a hA; clear hH; have hH := (hH2 _ (by (repeat constructor))).tail; clear hH2) | (refine S0T ?_; clear hH; rintro _ w hH) )) | ((first | refine CT ?_ | (refine DT ?_ ?_ <;> intro hc <;> try (exfalso; omega))) <;> repeat' refine CT ?_) | (first | (refine DSK ?_; clear hA a; intro a hA) | (first | (refine DLT ?_; clear hA hH; rintro _ w ⟨oN, rfl, hH⟩; refine ⟨STT, ?_⟩; intro a hA) | (refine DAT ?_; clear hA; rintro _ w ⟨oN, cN, rfl, hH2⟩; clear hH; have hH := (hH2 _ (by (repeat constructor))).tail; clear hH2; refine ⟨STT, ?_⟩; intro a hA))) )
    (apply st_op hA rfl rfl (by decide); apply op_sliceLit (xs := [.slice (MC.mk none 0 [] x).o (MC.mk none 0 [] x).q.length (MC.mk none 0 [] x).c, .int .i64 (MC.mk none 0 [] x).p.k, .int .i64 (MC.mk none 0 [] x).p.v, .int .i64 (MC.mk none 0 [] x).p.n, .string (MC.mk none 0 [] x).p.s, .slice (MC.mk none 0 [] x).p.ol (MC.mk none 0 [] x).p.ls.length (MC.mk none 0 [] x).p.cl, .slice (MC.mk none 0 [] x).p.oa (MC.mk none 0 [] x).p.ps.length (MC.mk none 0 [] x).p.ca]) (vs := [.agg #[.slice (MC.mk none 0 [] x).o (MC.mk none 0 [] x).q.length (MC.mk none 0 [] x).c, .int .i64 (MC.mk none 0 [] x).p.k, .int .i64 (MC.mk none 0 [] x).p.v, .int .i64 (MC.mk none 0 [] x).p.n, .string (MC.mk none 0 [] x).p.s, .slice (MC.mk none 0 [] x).p.ol (MC.mk none 0 [] x).p.ls.length (MC.mk none 0 [] x).p.cl, .slice (MC.mk none 0 [] x).p.oa (MC.mk none 0 [] x).p.ps.length (MC.mk none 0 [] x).p.ca]]); rfl; rfl; exact (Cats.cn (cs := [.slice (MC.mk none 0 [] x).o (MC.mk none 0 [] x).q.length (MC.mk none 0 [] x).c, .int .i64 (MC.mk none 0 [] x).p.k, .int .i64 (MC.mk none 0 [] x).p.v, .int .i64 (MC.mk none 0 [] x).p.n, .string (MC.mk none 0 [] x).p.s, .slice (MC.mk none 0 [] x).p.ol (MC.mk none 0 [] x).p.ls.length (MC.mk none 0 [] x).p.cl, .slice (MC.mk none 0 [] x).p.oa (MC.mk none 0 [] x).p.ps.length (MC.mk none 0 [] x).p.ca]) Cats.nil); rfl; rfl; rfl; exact hH; clear hA hH; rintro _ w ⟨oN, rfl, hH⟩ a hA)
    rw [← encC_eq] at hH
    have hle := hH.own_le (.head _)
    have hF := ((hH.pk 3 rfl).pk 1 rfl).frz_own
    have hR2 : ∀ w, Rd w oN (encC (MC.mk none 0 [] x)) ∧ K w → RdBs w none 0 [] ∧ RdCs w oN 1 [MC.mk none 0 [] x] := fun w h => ⟨RdBs_nil w, by rw [flat_one]; exact h.1, hle.1, hle.2, fun m hm => by
      rw [List.mem_singleton] at hm
      subst hm
      exact ⟨RdQ_nil w, (hR.2.2.2 x hxm).keep (hK w h.2).1⟩⟩
    have hfx := hfew.2 x hxm
    (refine st_op hA rfl rfl (by decide) (op_call rfl rfl rfl (plain_spec w0 _ _ _ (ML.mk i none 0 [] none 0 []) oN 1 [MC.mk none 0 [] x] hF hR2 (fun m hm => by rw [List.mem_singleton] at hm; subst hm; exact hfx.1) (fun m hm => by rw [List.mem_singleton] at hm; subst hm; show 0 + szA x ≤ 1000; omega) (by rw [List.map_cons, szC_cons]; show szA x + 0 + 0 ≤ 1000; omega))) ?_; clear hA hH hF; rintro _ w ⟨K4, m4, rfl, hK4, hun, hH⟩ a hA)
    repeat' (first | (first | (refine GT ?_ ?_ <;> intro hg <;> clear hA a <;> intro a hA <;> (first | exact FA | replace hg := of_decide_eq_true hg | replace hg := of_decide_eq_false hg | skip)) | (refine QT ?_; clear hA a; intro a hA) | (first | (refine BT ?_; clear hA hH; rintro _ w ⟨bN, rfl, hH⟩ a hA) | (refine LT ?_; clear hA hH; rintro _ w ⟨oN, rfl, hH⟩ a hA) | (refine AT ?_; clear hA; rintro _ w ⟨oN, cN, rfl, hH2⟩ a hA; clear hH; have hH := (hH2 _ (by (repeat constructor))).tail; clear hH2) | (refine S0T ?_; clear hH; rintro _ w hH) )) | ((first | refine CT ?_ | (refine DT ?_ ?_ <;> intro hc <;> try (exfalso; omega))) <;> repeat' refine CT ?_) | (first | (refine DSK ?_; clear hA a; intro a hA) | (first | (refine DLT ?_; clear hA hH; rintro _ w ⟨oN, rfl, hH⟩; refine ⟨STT, ?_⟩; intro a hA) | (refine DAT ?_; clear hA; rintro _ w ⟨oN, cN, rfl, hH2⟩; clear hH; have hH := (hH2 _ (by (repeat constructor))).tail; clear hH2; refine ⟨STT, ?_⟩; intro a hA))) )
    rw [← encL_eq, ← flat_snoc, ← len_snoc lo m4] at hH
    rw [← len_snoc lo m4] at hA
    refine ⟨i + 1, ⟨K4, oN, cN, lo ++ [m4], ⟨hlt, fun w hw => ?_, ?_, by rw [len_snoc, hll]⟩, ?_, (hA.sub (by (repeat (first | exact trivial | refine ⟨rfl, ?_⟩))))⟩, by omega⟩
    · have h4 := hK4 w hw
      have h5 := hK w h4.1.2
      refine ⟨h5.1, fun m hm => ?_⟩
      rcases List.mem_append.1 hm with hm | hm
      · exact h5.2 m hm
      · rw [List.mem_singleton] at hm; subst hm; exact h4.2
    · rw [take_next hx, rowsP_snoc, List.map_append, hlo, List.length_take, Nat.min_eq_left hi, Nat.zero_add]
      show _ ++ [m4.un] = _
      rw [hun]
      rfl
    · exact (hH.er 1).perm (by (repeat (first | exact List.Perm.refl _ | exact List.Perm.nil | refine perm_pick 0 rfl ?_ | refine perm_pick 1 rfl ?_ | refine perm_pick 2 rfl ?_ | refine perm_pick 3 rfl ?_ | refine perm_pick 4 rfl ?_ | refine perm_pick 5 rfl ?_ | refine perm_pick 6 rfl ?_ | refine perm_pick 7 rfl ?_ | refine perm_pick 8 rfl ?_ | refine perm_pick 9 rfl ?_ | refine perm_pick 10 rfl ?_ | refine perm_pick 11 rfl ?_)))
  clear hA hH
  rintro a w ⟨K, oo, co, lo, ⟨hK, hlo⟩, hH, hA⟩
  repeat' (first | (first | (refine GT ?_ ?_ <;> intro hg <;> clear hA a <;> intro a hA <;> (first | exact FA | replace hg := of_decide_eq_true hg | replace hg := of_decide_eq_false hg | skip)) | (refine QT ?_; clear hA a; intro a hA) | (first | (refine BT ?_; clear hA hH; rintro _ w ⟨bN, rfl, hH⟩ a hA) | (refine LT ?_; clear hA hH; rintro _ w ⟨oN, rfl, hH⟩ a hA) | (refine AT ?_; clear hA; rintro _ w ⟨oN, cN, rfl, hH2⟩ a hA; clear hH; have hH := (hH2 _ (by (repeat constructor))).tail; clear hH2) | (refine S0T ?_; clear hH; rintro _ w hH) )) | ((first | refine CT ?_ | (refine DT ?_ ?_ <;> intro hc <;> try (exfalso; omega))) <;> repeat' refine CT ?_) | (first | (refine DSK ?_; clear hA a; intro a hA) | (first | (refine DLT ?_; clear hA hH; rintro _ w ⟨oN, rfl, hH⟩; refine ⟨STT, ?_⟩; intro a hA) | (refine DAT ?_; clear hA; rintro _ w ⟨oN, cN, rfl, hH2⟩; clear hH; have hH := (hH2 _ (by (repeat constructor))).tail; clear hH2; refine ⟨STT, ?_⟩; intro a hA))) )
  have hle := hH.own_le (T := 52) (xs := flat encL lo) (by exact MEMT)
  have hrw := rowsP_rw l 0 hfew.2
  have hlol : lo.length ≤ 64 := by
    have e1 := congrArg List.length hlo
    rw [List.length_map, rowsP_len] at e1
    omega
  have hrw2 : ∀ m ∈ lo, Rw m.un := fun m hm => hrw m.un (hlo ▸ List.mem_map.2 ⟨m, hm, rfl⟩)
  have hF := (((hH.pk 2 rfl).pk 2 rfl).frz_own).pk 1 rfl
  (refine st_op hA rfl rfl (by decide) (op_call rfl rfl rfl (tree_spec 1024 w0 _ _ _ bN 1024 oo co lo hd0 hF (fun w hw => ⟨hw.1, hle.1, hle.2, (hK w hw.2).2⟩) hrw2 hlol (by decide) (by decide) (by decide))) ?_; clear hA hH hF; rintro _ w ⟨K3, t, rfl, hK3, hth, htu, hH⟩ a hA)
  rw [hlo] at htu hH
  have hsz := treeP_sz 1024 hd0 (rowsP l 0) 1024 hrw
  rw [← htu] at hsz
  generalize hx2 : (treeP 1024 hd0 (rowsP l 0) 1024).2 = x2 at *
  repeat' (first | (first | (refine GT ?_ ?_ <;> intro hg <;> clear hA a <;> intro a hA <;> (first | exact FA | replace hg := of_decide_eq_true hg | replace hg := of_decide_eq_false hg | skip)) | (refine QT ?_; clear hA a; intro a hA) | (first | (refine BT ?_; clear hA hH; rintro _ w ⟨bN, rfl, hH⟩ a hA) | (refine LT ?_; clear hA hH; rintro _ w ⟨oN, rfl, hH⟩ a hA) | (refine AT ?_; clear hA; rintro _ w ⟨oN, cN, rfl, hH2⟩ a hA; clear hH; have hH := (hH2 _ (by (repeat constructor))).tail; clear hH2) | (refine S0T ?_; clear hH; rintro _ w hH) | (apply st_op0 hA rfl rfl; apply op_store_agg (vs := encT t); rfl; rfl; exact hH; (repeat constructor); (repeat rfl); clear hH; rintro _ w hH))) | ((first | refine CT ?_ | (refine DT ?_ ?_ <;> intro hc <;> try (exfalso; omega))) <;> repeat' refine CT ?_) | (first | (refine DSK ?_; clear hA a; intro a hA) | (first | (refine DLT ?_; clear hA hH; rintro _ w ⟨oN, rfl, hH⟩; refine ⟨STT, ?_⟩; intro a hA) | (refine DAT ?_; clear hA; rintro _ w ⟨oN, cN, rfl, hH2⟩; clear hH; have hH := (hH2 _ (by (repeat constructor))).tail; clear hH2; refine ⟨STT, ?_⟩; intro a hA))) )
  · have hcom := comP_great (l := l) hnm hnf (by rw [hx2]; assumption)
    repeat' (first | (first | (refine GT ?_ ?_ <;> intro hg <;> clear hA a <;> intro a hA <;> (first | exact FA | replace hg := of_decide_eq_true hg | replace hg := of_decide_eq_false hg | skip)) | ((first | apply st_ex hA hH rfl rfl (by decide) | apply dr_ex hA rfl rfl rfl (by decide) | apply dr_exp hA rfl rfl rfl (by decide) | apply dr_ex3 hA hH rfl rfl rfl (by decide)); (first | (apply ex_build_p (encT (zT hd0)).toArray; rfl; (repeat (first | (intro _ h; exact absurd h (List.not_mem_nil)) | (refine List.forall_mem_cons.2 ⟨one_cell_of _ _, ?_⟩))); rfl)); clear hA a; intro a hA) | (refine QT ?_; clear hA a; intro a hA) | (first | (refine BT ?_; clear hA hH; rintro _ w ⟨bN, rfl, hH⟩ a hA) | (refine LT ?_; clear hA hH; rintro _ w ⟨oN, rfl, hH⟩ a hA) | (refine AT ?_; clear hA; rintro _ w ⟨oN, cN, rfl, hH2⟩ a hA; clear hH; have hH := (hH2 _ (by (repeat constructor))).tail; clear hH2) | (refine S0T ?_; clear hH; rintro _ w hH) | (apply st_op0 hA rfl rfl; apply op_store_agg (vs := encT (zT hd0)); rfl; rfl; exact hH; (repeat constructor); (repeat rfl); clear hH; rintro _ w hH))) | ((first | refine CT ?_ | (refine DT ?_ ?_ <;> intro hc <;> try (exfalso; omega))) <;> repeat' refine CT ?_) | (first | (refine DSK ?_; clear hA a; intro a hA) | (first | (refine DLT ?_; clear hA hH; rintro _ w ⟨oN, rfl, hH⟩; refine ⟨STT, ?_⟩; intro a hA) | (refine DAT ?_; clear hA; rintro _ w ⟨oN, cN, rfl, hH2⟩; clear hH; have hH := (hH2 _ (by (repeat constructor))).tail; clear hH2; refine ⟨STT, ?_⟩; intro a hA))) )
    exact rt2c (vs := encT (zT hd0)) (.inl rfl) rfl hA rfl rfl rfl hH (cls_cb_all (by exact MEMT)) ⟨zT hd0, by rw [hcom], by rw [hcom]; exact un_z0, hs_z0 hH.drop_⟩
  · have hcom := comP_ok (l := l) hnm hnf (by rw [hx2]; assumption)
    repeat' (first | (first | (refine GT ?_ ?_ <;> intro hg <;> clear hA a <;> intro a hA <;> (first | exact FA | replace hg := of_decide_eq_true hg | replace hg := of_decide_eq_false hg | skip)) | (refine QT ?_; clear hA a; intro a hA) | (first | (refine BT ?_; clear hA hH; rintro _ w ⟨bN, rfl, hH⟩ a hA) | (refine LT ?_; clear hA hH; rintro _ w ⟨oN, rfl, hH⟩ a hA) | (refine AT ?_; clear hA; rintro _ w ⟨oN, cN, rfl, hH2⟩ a hA; clear hH; have hH := (hH2 _ (by (repeat constructor))).tail; clear hH2) | (refine S0T ?_; clear hH; rintro _ w hH) )) | ((first | refine CT ?_ | (refine DT ?_ ?_ <;> intro hc <;> try (exfalso; omega))) <;> repeat' refine CT ?_) | (first | (refine DSK ?_; clear hA a; intro a hA) | (first | (refine DLT ?_; clear hA hH; rintro _ w ⟨oN, rfl, hH⟩; refine ⟨STT, ?_⟩; intro a hA) | (refine DAT ?_; clear hA; rintro _ w ⟨oN, cN, rfl, hH2⟩; clear hH; have hH := (hH2 _ (by (repeat constructor))).tail; clear hH2; refine ⟨STT, ?_⟩; intro a hA))) )
    (refine st_op hA rfl rfl (by decide) (op_call rfl rfl rfl (own_spec _ t (Nat.lt_succ_self _) w0 _ _ K3 ((hH.pk 3 rfl).pk 3 rfl) (fun w hw => (hK3 w hw).2) hsz)) ?_; clear hA hH; rintro _ w ⟨t', rfl, hth', htu', hH⟩ a hA)
    repeat' (first | (first | (refine GT ?_ ?_ <;> intro hg <;> clear hA a <;> intro a hA <;> (first | exact FA | replace hg := of_decide_eq_true hg | replace hg := of_decide_eq_false hg | skip)) | (refine QT ?_; clear hA a; intro a hA) | (first | (refine BT ?_; clear hA hH; rintro _ w ⟨bN, rfl, hH⟩ a hA) | (refine LT ?_; clear hA hH; rintro _ w ⟨oN, rfl, hH⟩ a hA) | (refine AT ?_; clear hA; rintro _ w ⟨oN, cN, rfl, hH2⟩ a hA; clear hH; have hH := (hH2 _ (by (repeat constructor))).tail; clear hH2) | (refine S0T ?_; clear hH; rintro _ w hH) | (apply st_op0 hA rfl rfl; apply op_store_agg (vs := encT t'); rfl; rfl; exact hH; (repeat constructor); (repeat rfl); clear hH; rintro _ w hH))) | ((first | refine CT ?_ | (refine DT ?_ ?_ <;> intro hc <;> try (exfalso; omega))) <;> repeat' refine CT ?_) | (first | (refine DSK ?_; clear hA a; intro a hA) | (first | (refine DLT ?_; clear hA hH; rintro _ w ⟨oN, rfl, hH⟩; refine ⟨STT, ?_⟩; intro a hA) | (refine DAT ?_; clear hA; rintro _ w ⟨oN, cN, rfl, hH2⟩; clear hH; have hH := (hH2 _ (by (repeat constructor))).tail; clear hH2; refine ⟨STT, ?_⟩; intro a hA))) )
    exact rt2c (vs := encT t') (.inl rfl) rfl hA rfl rfl rfl hH (cls_cb_all (by exact MEMT)) ⟨t', by rw [hcom], by rw [hcom, htu', htu], hH.head⟩
end Go.Proofs.Ytcododdkjppmjaa
namespace Go.Proofs.Ytcododdkjppmjaa
open Go Go.Fw
set_option linter.unusedVariables false
def ap0 : AP := .mk 0 0 0 emp none 0 [] none 0 []
def c00 : MC := ⟨none, 0, [], ap0⟩
set_option maxRecDepth 10000 attribute [local irreducible] Code.wp wpList Calls Ex Op1 sat bat blk cb own Go.Fw.mp Go.Fw.mpO Go.Fw.mpI Go.Fw.mpE Go.Fw.itr HS Rd Ret wkD Hp Cl Cls Exit.then Exit.inBlock Exit.noGoto bodyPost Go.Fw.flat wk2 Go.Fw.all Go.Fw.owns wpOp
attribute [local irreducible] encA encC encL

set_option maxHeartbeats 4000000 in
theorem longer_spec (w0 : World) (o : Option Addr) (c : Nat) (q : Pth) (x : ByteArray) (hq : RdQ w0 o c q) (hn : q.length ≤ 100000) :
    Ret Try.prog 45 #[.slice o q.length c, .string x] w0 (fun v w => ∃ o' c', v = .slice o' (q ++ [x]).length c' ∧ HS w0 noM [own 9 1 o' (q ++ [x]).length c' (flat encX (q ++ [x]))] w) := by
  have hH : HS w0 noM [] w0 := HS.init w0 noM
  (refine enter (N := 11) Try.func45 rfl Try.ntmps45 rfl ?_; intro a hA; dsimp only [sl0, Nat.reduceAdd] at hA)
  repeat' (first | (first | (refine GT ?_ ?_ <;> intro hg <;> clear hA a <;> intro a hA <;> (first | exact FA | replace hg := of_decide_eq_true hg | replace hg := of_decide_eq_false hg | skip)) | (refine QT ?_; clear hA a; intro a hA) | (first | (refine BT ?_; clear hA hH; rintro _ w ⟨bN, rfl, hH⟩ a hA) | (refine LT ?_; clear hA hH; rintro _ w ⟨oN, rfl, hH⟩ a hA) | (refine AT ?_; clear hA; rintro _ w ⟨oN, cN, rfl, hH2⟩ a hA; clear hH; have hH := (hH2 _ (by (repeat constructor))).tail; clear hH2) | (refine S0T ?_; clear hH; rintro _ w hH) | (apply st_op hA rfl rfl (by decide); apply op_append; rfl; rfl; exact hH; exact MEMT; exact hH.rd hq.1 id; exact flat_length encX_len q; rfl; decide; exact encX_one _; (unfold maxLen; omega); omega; clear hA; rintro _ w ⟨oN, cN, rfl, hH2⟩ a hA; clear hH; have hH := hH2 _ (by (repeat constructor)); clear hH2))) | ((first | refine CT ?_ | (refine DT ?_ ?_ <;> intro hc <;> try (exfalso; omega))) <;> repeat' refine CT ?_) | (first | (refine DSK ?_; clear hA a; intro a hA) | (first | (refine DLT ?_; clear hA hH; rintro _ w ⟨oN, rfl, hH⟩; refine ⟨STT, ?_⟩; intro a hA) | (refine DAT ?_; clear hA; rintro _ w ⟨oN, cN, rfl, hH2⟩; clear hH; have hH := (hH2 _ (by (repeat constructor))).tail; clear hH2; refine ⟨STT, ?_⟩; intro a hA))) )
  repeat' (first | (first | (refine GT ?_ ?_ <;> intro hg <;> clear hA a <;> intro a hA <;> (first | exact FA | replace hg := of_decide_eq_true hg | replace hg := of_decide_eq_false hg | skip)) | (refine QT ?_; clear hA a; intro a hA) | (first | (refine BT ?_; clear hA hH; rintro _ w ⟨bN, rfl, hH⟩ a hA) | (refine LT ?_; clear hA hH; rintro _ w ⟨oN, rfl, hH⟩ a hA) | (refine AT ?_; clear hA; rintro _ w ⟨oN, cN, rfl, hH2⟩ a hA; clear hH; have hH := (hH2 _ (by (repeat constructor))).tail; clear hH2) | (refine S0T ?_; clear hH; rintro _ w hH) )) | ((first | refine CT ?_ | (refine DT ?_ ?_ <;> intro hc <;> try (exfalso; omega))) <;> repeat' refine CT ?_) | (first | (refine DSK ?_; clear hA a; intro a hA) | (first | (refine DLT ?_; clear hA hH; rintro _ w ⟨oN, rfl, hH⟩; refine ⟨STT, ?_⟩; intro a hA) | (refine DAT ?_; clear hA; rintro _ w ⟨oN, cN, rfl, hH2⟩; clear hH; have hH := (hH2 _ (by (repeat constructor))).tail; clear hH2; refine ⟨STT, ?_⟩; intro a hA))) )
  rw [List.nil_append, ← show encX x = [.string x] from rfl, ← flat_snoc, Nat.zero_add, ← len_snoc q x] at hH
  rw [Nat.zero_add, ← len_snoc q x] at hA
  exact rt1 (.inl rfl) rfl hA rfl ⟨_, _, rfl, hH⟩
set_option maxHeartbeats 4000000 in
theorem of_spec (w0 : World) (m : ML) (o : Option Addr) (c : Nat) (q : Pth) (hm : RdCs w0 m.oc m.cc m.cs) (hq : RdQ w0 o c q) (hn : m.cs.length ≤ 1000000) (hml : ∀ x ∈ m.cs, x.q.length ≤ 1000000) :
    Ret Try.prog 46 #[.agg #[.int .i64 m.n, .slice m.oc m.cs.length m.cc, .slice m.ob m.bs.length m.cb], .slice o q.length c] w0 (fun v w => ((∀ x ∈ m.cs, x.q ≠ q) ∧ v = .tuple #[.agg #[.slice c00.o c00.q.length c00.c, .int .i64 c00.p.k, .int .i64 c00.p.v, .int .i64 c00.p.n, .string c00.p.s, .slice c00.p.ol c00.p.ls.length c00.p.cl, .slice c00.p.oa c00.p.ps.length c00.p.ca], .bool false] ∨
      ∃ (j : Nat) (y : MC), m.cs[j]? = some y ∧ y.q = q ∧ (∀ (k : Nat) (z : MC), k < j → m.cs[k]? = some z → z.q ≠ q) ∧ v = .tuple #[.agg #[.slice y.o y.q.length y.c, .int .i64 y.p.k, .int .i64 y.p.v, .int .i64 y.p.n, .string y.p.s, .slice y.p.ol y.p.ls.length y.p.cl, .slice y.p.oa y.p.ps.length y.p.ca], .bool true]) ∧ Kp w0 noM w) := by
  have hH : HS w0 noM [] w0 := HS.init w0 noM
  have hsp : Sp m.oc m.cs.length := hm.1.sp (sz := 7) (flat_length encC_len m.cs) (by omega)
  (refine enter (N := 28) Try.func46 rfl Try.ntmps46 rfl ?_; intro a hA; dsimp only [sl0, Nat.reduceAdd] at hA)
  repeat' (first | (first | (refine GT ?_ ?_ <;> intro hg <;> clear hA a <;> intro a hA <;> (first | exact FA | replace hg := of_decide_eq_true hg | replace hg := of_decide_eq_false hg | skip)) | (refine QT ?_; clear hA a; intro a hA) | (first | (refine BT ?_; clear hA hH; rintro _ w ⟨bN, rfl, hH⟩ a hA) | (refine LT ?_; clear hA hH; rintro _ w ⟨oN, rfl, hH⟩ a hA) | (refine AT ?_; clear hA; rintro _ w ⟨oN, cN, rfl, hH2⟩ a hA; clear hH; have hH := (hH2 _ (by (repeat constructor))).tail; clear hH2) | (refine S0T ?_; clear hH; rintro _ w hH) )) | ((first | refine CT ?_ | (refine DT ?_ ?_ <;> intro hc <;> try (exfalso; omega))) <;> repeat' refine CT ?_) | (first | (refine DSK ?_; clear hA a; intro a hA) | (first | (refine DLT ?_; clear hA hH; rintro _ w ⟨oN, rfl, hH⟩; refine ⟨STT, ?_⟩; intro a hA) | (refine DAT ?_; clear hA; rintro _ w ⟨oN, cN, rfl, hH2⟩; clear hH; have hH := (hH2 _ (by (repeat constructor))).tail; clear hH2; refine ⟨STT, ?_⟩; intro a hA))) )
  obtain ⟨b4, hb4⟩ : ∃ b, b = bN := ⟨_, rfl⟩
  rw [← hb4] at hA hH
  clear hb4 bN
  obtain ⟨b2, hb2⟩ : ∃ b, b = bN := ⟨_, rfl⟩
  rw [← hb2] at hA hH
  clear hb2 bN
  refine wp_lpk (S := Nat) (fun i a w => (i ≤ m.cs.length ∧ ∀ (k : Nat) (z : MC), k < i → m.cs[k]? = some z → z.q ≠ q) ∧ HS w0 noM [Go.Fw.cb b4 67 [.slice c00.o c00.q.length c00.c, .int .i64 c00.p.k, .int .i64 c00.p.v, .int .i64 c00.p.n, .string c00.p.s, .slice c00.p.ol c00.p.ls.length c00.p.cl, .slice c00.p.oa c00.p.ps.length c00.p.ca], Go.Fw.cb b2 64 [.int .i64 m.n, .slice m.oc m.cs.length m.cc, .slice m.ob m.bs.length m.cb]] w ∧ Sl 28 [(1, .slice o q.length c), (2, .pointer (some (bat b2 0))), (4, .pointer (some (bat b4 0))), (6, .int .i64 i)] a) (fun i => m.cs.length - i)
    (fun a w => (∀ x ∈ m.cs, x.q ≠ q) ∧ HS w0 noM [Go.Fw.cb b4 67 [.slice c00.o c00.q.length c00.c, .int .i64 c00.p.k, .int .i64 c00.p.v, .int .i64 c00.p.n, .string c00.p.s, .slice c00.p.ol c00.p.ls.length c00.p.cl, .slice c00.p.oa c00.p.ps.length c00.p.ca]] w ∧ Sl 28 [(4, .pointer (some (bat b4 0)))] a) 0 ⟨⟨Nat.zero_le _, fun k x hk => absurd hk (Nat.not_lt_zero _)⟩, hH, (hA.sub (by (repeat (first | exact trivial | refine ⟨rfl, ?_⟩))))⟩ ?_ ?_
  rotate_left
  · clear hA hH
    rintro a w ⟨hn, hH, hA⟩
    repeat' (first | (first | (refine GT ?_ ?_ <;> intro hg <;> clear hA a <;> intro a hA <;> (first | exact FA | replace hg := of_decide_eq_true hg | replace hg := of_decide_eq_false hg | skip)) | ((first | apply st_ex hA hH rfl rfl (by decide) | apply dr_ex hA rfl rfl rfl (by decide) | apply dr_exp hA rfl rfl rfl (by decide) | apply dr_ex3 hA hH rfl rfl rfl (by decide)); (first | (apply ex_build_p #[.slice c00.o c00.q.length c00.c, .int .i64 c00.p.k, .int .i64 c00.p.v, .int .i64 c00.p.n, .string c00.p.s, .slice c00.p.ol c00.p.ls.length c00.p.cl, .slice c00.p.oa c00.p.ps.length c00.p.ca]; rfl; (repeat (first | (intro _ h; exact absurd h (List.not_mem_nil)) | (refine List.forall_mem_cons.2 ⟨one_cell_of _ _, ?_⟩))); rfl) | (apply ex_build_g [(0, 1), (1, 6)] #[.slice c00.o c00.q.length c00.c, .int .i64 c00.p.k, .int .i64 c00.p.v, .int .i64 c00.p.n, .string c00.p.s, .slice c00.p.ol c00.p.ls.length c00.p.cl, .slice c00.p.oa c00.p.ps.length c00.p.ca]; rfl; exact ⟨size_of _ _ _, size_of _ _ _, trivial⟩; rfl)); clear hA a; intro a hA) | (refine QT ?_; clear hA a; intro a hA) | (first | (refine BT ?_; clear hA hH; rintro _ w ⟨bN, rfl, hH⟩ a hA) | (refine LT ?_; clear hA hH; rintro _ w ⟨oN, rfl, hH⟩ a hA) | (refine AT ?_; clear hA; rintro _ w ⟨oN, cN, rfl, hH2⟩ a hA; clear hH; have hH := (hH2 _ (by (repeat constructor))).tail; clear hH2) | (refine S0T ?_; clear hH; rintro _ w hH) | (apply st_op0 hA rfl rfl; apply op_store_agg (vs := [.slice c00.o c00.q.length c00.c, .int .i64 c00.p.k, .int .i64 c00.p.v, .int .i64 c00.p.n, .string c00.p.s, .slice c00.p.ol c00.p.ls.length c00.p.cl, .slice c00.p.oa c00.p.ps.length c00.p.ca]); rfl; rfl; exact hH; (repeat constructor); (repeat rfl); clear hH; rintro _ w hH))) | ((first | refine CT ?_ | (refine DT ?_ ?_ <;> intro hc <;> try (exfalso; omega))) <;> repeat' refine CT ?_) | (first | (refine DSK ?_; clear hA a; intro a hA) | (first | (refine DLT ?_; clear hA hH; rintro _ w ⟨oN, rfl, hH⟩; refine ⟨STT, ?_⟩; intro a hA) | (refine DAT ?_; clear hA; rintro _ w ⟨oN, cN, rfl, hH2⟩; clear hH; have hH := (hH2 _ (by (repeat constructor))).tail; clear hH2; refine ⟨STT, ?_⟩; intro a hA))) )
    exact rt2c (vs := [.slice c00.o c00.q.length c00.c, .int .i64 c00.p.k, .int .i64 c00.p.v, .int .i64 c00.p.n, .string c00.p.s, .slice c00.p.ol c00.p.ls.length c00.p.cl, .slice c00.p.oa c00.p.ps.length c00.p.ca]) (.inl rfl) rfl hA rfl rfl rfl hH (cls_cb_all (by exact MEMT)) ⟨.inl ⟨hn, rfl⟩, hH.kp⟩
  clear hA hH
  rintro i a w ⟨⟨hi, hno⟩, hH, hA⟩
  by_cases hlt : i < m.cs.length
  rotate_left
  · repeat' (first | (first | (refine GT ?_ ?_ <;> intro hg <;> clear hA a <;> intro a hA <;> (first | exact FA | replace hg := of_decide_eq_true hg | replace hg := of_decide_eq_false hg | skip)) | (refine QT ?_; clear hA a; intro a hA) | (first | (refine BT ?_; clear hA hH; rintro _ w ⟨bN, rfl, hH⟩ a hA) | (refine LT ?_; clear hA hH; rintro _ w ⟨oN, rfl, hH⟩ a hA) | (refine AT ?_; clear hA; rintro _ w ⟨oN, cN, rfl, hH2⟩ a hA; clear hH; have hH := (hH2 _ (by (repeat constructor))).tail; clear hH2) | (refine S0T ?_; clear hH; rintro _ w hH) )) | ((first | refine CT ?_ | (refine DT ?_ ?_ <;> intro hc <;> try (exfalso; omega))) <;> repeat' refine CT ?_) | (first | (refine DSK ?_; clear hA a; intro a hA) | (first | (refine DLT ?_; clear hA hH; rintro _ w ⟨oN, rfl, hH⟩; refine ⟨STT, ?_⟩; intro a hA) | (refine DAT ?_; clear hA; rintro _ w ⟨oN, cN, rfl, hH2⟩; clear hH; have hH := (hH2 _ (by (repeat constructor))).tail; clear hH2; refine ⟨STT, ?_⟩; intro a hA))) )
    exact ⟨fun x hx => by
      obtain ⟨k, hk⟩ := List.getElem?_of_mem hx
      exact hno k x (by have := (List.getElem?_eq_some_iff.1 hk).1; omega) hk, hH.head, (hA.sub (by (repeat (first | exact trivial | refine ⟨rfl, ?_⟩))))⟩
  obtain ⟨x, hx⟩ : ∃ x, m.cs[i]? = some x := ⟨_, List.getElem?_eq_getElem hlt⟩
  have hxm := List.mem_of_getElem? hx
  have hvs := flat_all encC_len hx
  rw [encC_eq] at hvs
  have hvs0 := hvs 0 _ rfl
  have hrx := hm.2.2.2 x hxm
  repeat' (first | (first | (refine GT ?_ ?_ <;> intro hg <;> clear hA a <;> intro a hA <;> (first | exact FA | replace hg := of_decide_eq_true hg | replace hg := of_decide_eq_false hg | skip)) | ((first | apply st_ex hA hH rfl rfl (by decide) | apply dr_ex hA rfl rfl rfl (by decide) | apply dr_exp hA rfl rfl rfl (by decide) | apply dr_ex3 hA hH rfl rfl rfl (by decide)); (first | (apply ex_load; rfl; exact cl_rd hm.1 id hvs0)); clear hA a; intro a hA) | (refine QT ?_; clear hA a; intro a hA) | (first | (refine BT ?_; clear hA hH; rintro _ w ⟨bN, rfl, hH⟩ a hA) | (refine LT ?_; clear hA hH; rintro _ w ⟨oN, rfl, hH⟩ a hA) | (refine AT ?_; clear hA; rintro _ w ⟨oN, cN, rfl, hH2⟩ a hA; clear hH; have hH := (hH2 _ (by (repeat constructor))).tail; clear hH2) | (refine S0T ?_; clear hH; rintro _ w hH) )) | ((first | refine CT ?_ | (refine DT ?_ ?_ <;> intro hc <;> try (exfalso; omega))) <;> repeat' refine CT ?_) | (first | (refine DSK ?_; clear hA a; intro a hA) | (first | (refine DLT ?_; clear hA hH; rintro _ w ⟨oN, rfl, hH⟩; refine ⟨STT, ?_⟩; intro a hA) | (refine DAT ?_; clear hA; rintro _ w ⟨oN, cN, rfl, hH2⟩; clear hH; have hH := (hH2 _ (by (repeat constructor))).tail; clear hH2; refine ⟨STT, ?_⟩; intro a hA))) )
  (refine st_op hA rfl rfl (by decide) (op_call rfl rfl rfl (sameX_spec _ x.o o x.c c x.q q (hH.rd hrx.1.1 id) (hH.rd hq.1 id) (hml x hxm))) ?_; clear hA; rintro _ w ⟨rfl, hk⟩ a hA; replace hH := hH.keep hk; clear hk)
  by_cases hxq : x.q = q
  · rw [decide_eq_true hxq] at hA
    repeat' (first | (first | (refine GT ?_ ?_ <;> intro hg <;> clear hA a <;> intro a hA <;> (first | exact FA | replace hg := of_decide_eq_true hg | replace hg := of_decide_eq_false hg | skip)) | ((first | apply st_ex hA hH rfl rfl (by decide) | apply dr_ex hA rfl rfl rfl (by decide) | apply dr_exp hA rfl rfl rfl (by decide) | apply dr_ex3 hA hH rfl rfl rfl (by decide)); (first | (apply ex_load_st (vs := [.slice x.o x.q.length x.c, .int .i64 x.p.k, .int .i64 x.p.v, .int .i64 x.p.n, .string x.p.s, .slice x.p.ol x.p.ls.length x.p.cl, .slice x.p.oa x.p.ps.length x.p.ca]); rfl; rfl; exact cls_rd hm.1 id hvs)); clear hA a; intro a hA) | (refine QT ?_; clear hA a; intro a hA) | (first | (refine BT ?_; clear hA hH; rintro _ w ⟨bN, rfl, hH⟩ a hA) | (refine LT ?_; clear hA hH; rintro _ w ⟨oN, rfl, hH⟩ a hA) | (refine AT ?_; clear hA; rintro _ w ⟨oN, cN, rfl, hH2⟩ a hA; clear hH; have hH := (hH2 _ (by (repeat constructor))).tail; clear hH2) | (refine S0T ?_; clear hH; rintro _ w hH) | (apply st_op0 hA rfl rfl; apply op_store_agg (vs := [.slice x.o x.q.length x.c, .int .i64 x.p.k, .int .i64 x.p.v, .int .i64 x.p.n, .string x.p.s, .slice x.p.ol x.p.ls.length x.p.cl, .slice x.p.oa x.p.ps.length x.p.ca]); rfl; rfl; exact hH; (repeat constructor); (repeat rfl); clear hH; rintro _ w hH))) | ((first | refine CT ?_ | (refine DT ?_ ?_ <;> intro hc <;> try (exfalso; omega))) <;> repeat' refine CT ?_) | (first | (refine DSK ?_; clear hA a; intro a hA) | (first | (refine DLT ?_; clear hA hH; rintro _ w ⟨oN, rfl, hH⟩; refine ⟨STT, ?_⟩; intro a hA) | (refine DAT ?_; clear hA; rintro _ w ⟨oN, cN, rfl, hH2⟩; clear hH; have hH := (hH2 _ (by (repeat constructor))).tail; clear hH2; refine ⟨STT, ?_⟩; intro a hA))) )
    exact rt2c (vs := [.slice x.o x.q.length x.c, .int .i64 x.p.k, .int .i64 x.p.v, .int .i64 x.p.n, .string x.p.s, .slice x.p.ol x.p.ls.length x.p.cl, .slice x.p.oa x.p.ps.length x.p.ca]) (.inl rfl) rfl hA rfl rfl rfl hH (cls_cb_all (by exact MEMT)) ⟨.inr ⟨i, x, hx, hxq, hno, rfl⟩, hH.kp⟩
  · rw [decide_eq_false hxq] at hA
    repeat' (first | (first | (refine GT ?_ ?_ <;> intro hg <;> clear hA a <;> intro a hA <;> (first | exact FA | replace hg := of_decide_eq_true hg | replace hg := of_decide_eq_false hg | skip)) | (refine QT ?_; clear hA a; intro a hA) | (first | (refine BT ?_; clear hA hH; rintro _ w ⟨bN, rfl, hH⟩ a hA) | (refine LT ?_; clear hA hH; rintro _ w ⟨oN, rfl, hH⟩ a hA) | (refine AT ?_; clear hA; rintro _ w ⟨oN, cN, rfl, hH2⟩ a hA; clear hH; have hH := (hH2 _ (by (repeat constructor))).tail; clear hH2) | (refine S0T ?_; clear hH; rintro _ w hH) )) | ((first | refine CT ?_ | (refine DT ?_ ?_ <;> intro hc <;> try (exfalso; omega))) <;> repeat' refine CT ?_) | (first | (refine DSK ?_; clear hA a; intro a hA) | (first | (refine DLT ?_; clear hA hH; rintro _ w ⟨oN, rfl, hH⟩; refine ⟨STT, ?_⟩; intro a hA) | (refine DAT ?_; clear hA; rintro _ w ⟨oN, cN, rfl, hH2⟩; clear hH; have hH := (hH2 _ (by (repeat constructor))).tail; clear hH2; refine ⟨STT, ?_⟩; intro a hA))) )
    exact ⟨i + 1, ⟨⟨hlt, fun k z hk hz => by
      by_cases hki : k = i
      · subst hki
        rw [hx] at hz
        obtain rfl := Option.some.inj hz
        exact hxq
      · exact hno k z (by omega) hz⟩, hH, (hA.sub (by (repeat (first | exact trivial | refine ⟨rfl, ?_⟩))))⟩, by omega⟩
end Go.Proofs.Ytcododdkjppmjaa
namespace Go.Proofs.Ytcododdkjppmjaa
open Go Go.Fw
set_option linter.unusedVariables false
def chi (q : Pth) (ls : List ByteArray) (ps : List AP) : List Cnd := List.zipWith (fun x a => (q ++ [x], a)) ls ps
theorem plC_chi : ∀ (q : Pth) (ls : List ByteArray) (ps : List AP), plC (chi q ls ps) = plL q ls ps
  | q, x :: ls, a :: ps => by
    have ih := plC_chi q ls ps
    show plC ((q ++ [x], a) :: chi q ls ps) = _
    rw [plC_cons, ih, plL]
  | q, [], _ => by rw [plL]; rfl
  | q, _ :: _, [] => by rw [plL]; rfl
theorem chi_sz : ∀ (q : Pth) (ls : List ByteArray) (ps : List AP), szC (chi q ls ps) ≤ szL ps
  | q, x :: ls, a :: ps => by
    have ih := chi_sz q ls ps
    show szC ((q ++ [x], a) :: chi q ls ps) ≤ _
    rw [szC_cons, szL]
    show szA a + _ ≤ _
    omega
  | q, [], _ => Nat.zero_le _
  | q, _ :: _, [] => Nat.zero_le _
theorem szL_len : ∀ (ps : List AP), ps.length ≤ szL ps
  | [] => Nat.le_refl _
  | a :: ps => by
    rw [List.length_cons, szL]
    have := szL_len ps
    have := szA_pos a
    omega
theorem chi_mem : ∀ {q : Pth} {ls : List ByteArray} {ps : List AP} {d : Cnd}, d ∈ chi q ls ps → d.1.length = q.length + 1 ∧ d.2 ∈ ps
  | q, x :: ls, a :: ps, d, h => by
    rcases List.mem_cons.1 (show d ∈ (q ++ [x], a) :: chi q ls ps from h) with rfl | h
    · exact ⟨by simp, .head _⟩
    · have := chi_mem h
      exact ⟨this.1, .tail _ this.2⟩
  | q, [], _, d, h => absurd (show d ∈ [] from h) List.not_mem_nil
  | q, _ :: _, [], d, h => absurd (show d ∈ [] from h) List.not_mem_nil
theorem chi_snoc {q : Pth} {ls : List ByteArray} {ps : List AP} {i : Nat} {x : ByteArray} {a : AP} (hx : ls[i]? = some x) (ha : ps[i]? = some a) : chi q (ls.take (i + 1)) (ps.take (i + 1)) = chi q (ls.take i) (ps.take i) ++ [(q ++ [x], a)] := by
  rw [take_next hx, take_next ha]
  unfold chi
  have h1 := (List.getElem?_eq_some_iff.1 hx).1
  have h2 := (List.getElem?_eq_some_iff.1 ha).1
  rw [List.zipWith_append (by rw [List.length_take, List.length_take]; omega)]
  rfl
theorem RdCs.drop1 {w : World} {o : Option Addr} {c : Nat} {x : MC} {l : List MC} (h : RdCs w o c (x :: l)) : RdCs w (subO o c 1 7) (c - 1) l := by
  have h1 := h.1.sub (k := 1) (c := c) (flat_length encC_len (x :: l)) (by rw [List.length_cons]; omega) h.2.1
  rw [flat_drop encC_len] at h1
  have h2 := h.2.1
  have h3 := h.2.2.1
  rw [List.length_cons] at h2
  exact ⟨h1, by omega, by omega, fun m hm => h.2.2.2 m (.tail _ hm)⟩
set_option maxRecDepth 10000 attribute [local irreducible] Code.wp wpList Calls Ex Op1 sat bat blk cb own Go.Fw.mp Go.Fw.mpO Go.Fw.mpI Go.Fw.mpE Go.Fw.itr HS Rd Ret wkD Hp Cl Cls Exit.then Exit.inBlock Exit.noGoto bodyPost Go.Fw.flat wk2 Go.Fw.all Go.Fw.owns wpOp
attribute [local irreducible] encA encC encB encL formP formL partsP partsL plP plL plC szA szL szC

set_option maxHeartbeats 8000000 in
theorem rplain_spec (w0 w : World) (H : List It) (K : World → Prop) (m : ML)
    (hH : HS w0 noM (frz w0 K :: H) w) (hR : ∀ w, K w → RdL w m) (hf : ∀ x ∈ m.cs, formP x.p = true) (hq : ∀ x ∈ m.cs, x.q.length + szA x.p ≤ 1000) (hs : szC (m.cs.map MC.un) + m.bs.length ≤ 1000) :
    Ret Try.prog 25 #[.agg #[.int .i64 m.n, .slice m.oc m.cs.length m.cc, .slice m.ob m.bs.length m.cb]] w (fun v w' => ∃ (K' : World → Prop) (m' : ML), v = .agg #[.int .i64 m'.n, .slice m'.oc m'.cs.length m'.cc, .slice m'.ob m'.bs.length m'.cb] ∧
      (∀ w, K' w → K w ∧ RdL w m') ∧ m'.un = plain m.n (m.bs.map MB.un) (m.cs.map MC.un) ∧ HS w0 noM (frz w0 K' :: H) w') := by
  have hln : m.cs.length ≤ 1000 := by
    have := szC_len (m.cs.map MC.un)
    rw [List.length_map] at this
    omega
  (refine enter (N := 86) Try.func25 rfl Try.ntmps25 rfl ?_; intro a hA; dsimp only [sl0, Nat.reduceAdd] at hA)
  repeat' (first | (first | (refine GT ?_ ?_ <;> intro hg <;> clear hA a <;> intro a hA <;> (first | exact FA | replace hg := of_decide_eq_true hg | replace hg := of_decide_eq_false hg | skip)) | (refine QT ?_; clear hA a; intro a hA) | (first | (refine BT ?_; clear hA hH; rintro _ w ⟨bN, rfl, hH⟩ a hA) | (refine LT ?_; clear hA hH; rintro _ w ⟨oN, rfl, hH⟩ a hA) | (refine AT ?_; clear hA; rintro _ w ⟨oN, cN, rfl, hH2⟩ a hA; clear hH; have hH := (hH2 _ (by (repeat constructor))).tail; clear hH2) | (refine S0T ?_; clear hH; rintro _ w hH) )) | ((first | refine CT ?_ | (refine DT ?_ ?_ <;> intro hc <;> try (exfalso; omega))) <;> repeat' refine CT ?_) | (first | (refine DSK ?_; clear hA a; intro a hA) | (first | (refine DLT ?_; clear hA hH; rintro _ w ⟨oN, rfl, hH⟩; refine ⟨STT, ?_⟩; intro a hA) | (refine DAT ?_; clear hA; rintro _ w ⟨oN, cN, rfl, hH2⟩; clear hH; have hH := (hH2 _ (by (repeat constructor))).tail; clear hH2; refine ⟨STT, ?_⟩; intro a hA))) )
  obtain ⟨b2, hb2⟩ : ∃ b, b = bN := ⟨_, rfl⟩
  rw [← hb2] at hA hH
  clear hb2 bN
  obtain ⟨b1, hb1⟩ : ∃ b, b = bN := ⟨_, rfl⟩
  rw [← hb1] at hA hH
  clear hb1 bN
  have hone := encB_one m.bs
  refine wp_drawT (qs [0, 1, 3, 4] (.two 2 7 (.two 5 7 (.q 6 (.one 7 (.one 8 .nil))) (.one 5 (.q 6 (.one 8 .nil)))) (.one 2 (.one 5 (.q 6 (.one 8 .nil)))))) (fun a w => ∃ b3 ob bx, HS w0 noM (Go.Fw.cb b3 64 [.int .i64 m.n, .slice none 0 0, .slice ob m.bs.length bx] :: own 72 2 ob m.bs.length bx (flat encB m.bs) :: Go.Fw.cb b2 64 [.int .i64 0, .slice none 0 0, .slice none 0 0] :: Go.Fw.cb b1 64 [.int .i64 m.n, .slice m.oc m.cs.length m.cc, .slice m.ob m.bs.length m.cb] :: frz w0 K :: H) w ∧
    Sl 86 [(1, .pointer (some (bat b1 0))), (2, .pointer (some (bat b2 0))), (3, .pointer (some (bat b3 0)))] a) mixed (by decide +kernel) hH ?_ ?_
  · replace hH := hH.drew
    (repeat (apply dt_ex hA rfl rfl rfl (by decide); (first | exact EXT | exact EXT2 ); clear hA a; intro a hA))
    apply dt_two
    · (apply dt_op hA rfl rfl rfl (by decide); apply op_sliceLit; rfl; rfl; exact CATST; rfl; rfl; rfl; exact hH; clear hA hH; rintro _ w ⟨oN, rfl, hH⟩; refine ⟨(by (first | exact hH | exact hH.tail | exact hH.tail.tail | exact hH.tail.tail.tail | exact hH.tail.tail.tail.tail)), ?_⟩; intro a hA)
      apply dt_two
      · (apply dt_op hA rfl rfl rfl (by decide); apply op_append; rfl; rfl; exact hH; exact MEMT; exact (hR _ (hH.frz (by exact MEMT))).2.1; exact flat_length encB_len _; rfl; decide; exact hone; (unfold maxLen; omega); omega; clear hA; rintro _ w ⟨oN, cN, rfl, hH2⟩; clear hH; have hH := hH2 _ (by (repeat constructor)); clear hH2; refine ⟨(by (first | exact hH | exact hH.tail | exact hH.tail.tail | exact hH.tail.tail.tail | exact hH.tail.tail.tail.tail)), ?_⟩; intro a hA)
        rw [Nat.zero_add] at hA hH
        rw [List.nil_append] at hH
        (repeat (apply dt_ex hA rfl rfl rfl (by decide); (first | exact EXT | exact EXT2 | (apply ex_build_p #[.int .i64 m.n, .slice none 0 0, .slice oN m.bs.length cN]; rfl; (repeat (first | (intro _ h; exact absurd h (List.not_mem_nil)) | (refine List.forall_mem_cons.2 ⟨one_cell_of _ _, ?_⟩))); rfl)); clear hA a; intro a hA))
        (apply dt_op hA rfl rfl rfl (by decide); apply op_alloc; exact hH; clear hA hH; rintro _ w ⟨bN, rfl, hH⟩; refine ⟨(by (first | exact hH | exact hH.tail | exact hH.tail.tail | exact hH.tail.tail.tail | exact hH.tail.tail.tail.tail)), ?_⟩; intro a hA)
        (apply dt_op0 hA rfl rfl rfl; apply op_store_agg (vs := [.int .i64 m.n, .slice none 0 0, .slice oN m.bs.length cN]); rfl; rfl; exact hH; (repeat constructor); (repeat rfl); clear hH; rintro _ w hH; refine ⟨(by (first | exact hH | exact hH.tail | exact hH.tail.tail | exact hH.tail.tail.tail | exact hH.tail.tail.tail.tail)), ?_⟩; apply dt_nil)
        exact ⟨_, _, _, hH.perm (by (repeat (first | exact List.Perm.refl _ | exact List.Perm.nil | refine perm_pick 0 rfl ?_ | refine perm_pick 1 rfl ?_ | refine perm_pick 2 rfl ?_ | refine perm_pick 3 rfl ?_ | refine perm_pick 4 rfl ?_ | refine perm_pick 5 rfl ?_ | refine perm_pick 6 rfl ?_ | refine perm_pick 7 rfl ?_ | refine perm_pick 8 rfl ?_ | refine perm_pick 9 rfl ?_ | refine perm_pick 10 rfl ?_ | refine perm_pick 11 rfl ?_))), (hA.sub (by (repeat (first | exact trivial | refine ⟨rfl, ?_⟩))))⟩
      · (apply dt_op hA rfl rfl rfl (by decide); apply op_alloc; exact hH; clear hA hH; rintro _ w ⟨bN, rfl, hH⟩; refine ⟨(by (first | exact hH | exact hH.tail | exact hH.tail.tail | exact hH.tail.tail.tail | exact hH.tail.tail.tail.tail)), ?_⟩; intro a hA)
        (apply dt_op hA rfl rfl rfl (by decide); apply op_append; rfl; rfl; exact hH; exact MEMT; exact (hR _ (hH.frz (by exact MEMT))).2.1; exact flat_length encB_len _; rfl; decide; exact hone; (unfold maxLen; omega); omega; clear hA; rintro _ w ⟨oN, cN, rfl, hH2⟩; clear hH; have hH := hH2 _ (by (repeat constructor)); clear hH2; refine ⟨(by (first | exact hH | exact hH.tail | exact hH.tail.tail | exact hH.tail.tail.tail | exact hH.tail.tail.tail.tail)), ?_⟩; intro a hA)
        rw [Nat.zero_add] at hA hH
        rw [List.nil_append] at hH
        (repeat (apply dt_ex hA rfl rfl rfl (by decide); (first | exact EXT | exact EXT2 | (apply ex_build_p #[.int .i64 m.n, .slice none 0 0, .slice oN m.bs.length cN]; rfl; (repeat (first | (intro _ h; exact absurd h (List.not_mem_nil)) | (refine List.forall_mem_cons.2 ⟨one_cell_of _ _, ?_⟩))); rfl)); clear hA a; intro a hA))
        (apply dt_op0 hA rfl rfl rfl; apply op_store_agg (vs := [.int .i64 m.n, .slice none 0 0, .slice oN m.bs.length cN]); rfl; rfl; exact hH; (repeat constructor); (repeat rfl); clear hH; rintro _ w hH; refine ⟨(by (first | exact hH | exact hH.tail | exact hH.tail.tail | exact hH.tail.tail.tail | exact hH.tail.tail.tail.tail)), ?_⟩; apply dt_nil)
        exact ⟨_, _, _, hH.perm (by (repeat (first | exact List.Perm.refl _ | exact List.Perm.nil | refine perm_pick 0 rfl ?_ | refine perm_pick 1 rfl ?_ | refine perm_pick 2 rfl ?_ | refine perm_pick 3 rfl ?_ | refine perm_pick 4 rfl ?_ | refine perm_pick 5 rfl ?_ | refine perm_pick 6 rfl ?_ | refine perm_pick 7 rfl ?_ | refine perm_pick 8 rfl ?_ | refine perm_pick 9 rfl ?_ | refine perm_pick 10 rfl ?_ | refine perm_pick 11 rfl ?_))), (hA.sub (by (repeat (first | exact trivial | refine ⟨rfl, ?_⟩))))⟩
    · (apply dt_op hA rfl rfl rfl (by decide); apply op_alloc; exact hH; clear hA hH; rintro _ w ⟨bN, rfl, hH⟩; refine ⟨(by (first | exact hH | exact hH.tail | exact hH.tail.tail | exact hH.tail.tail.tail | exact hH.tail.tail.tail.tail)), ?_⟩; intro a hA)
      (apply dt_op hA rfl rfl rfl (by decide); apply op_sliceLit; rfl; rfl; exact CATST; rfl; rfl; rfl; exact hH; clear hA hH; rintro _ w ⟨oN, rfl, hH⟩; refine ⟨(by (first | exact hH | exact hH.tail | exact hH.tail.tail | exact hH.tail.tail.tail | exact hH.tail.tail.tail.tail)), ?_⟩; intro a hA)
      (apply dt_op hA rfl rfl rfl (by decide); apply op_append; rfl; rfl; exact hH; exact MEMT; exact (hR _ (hH.frz (by exact MEMT))).2.1; exact flat_length encB_len _; rfl; decide; exact hone; (unfold maxLen; omega); omega; clear hA; rintro _ w ⟨oN, cN, rfl, hH2⟩; clear hH; have hH := hH2 _ (by (repeat constructor)); clear hH2; refine ⟨(by (first | exact hH | exact hH.tail | exact hH.tail.tail | exact hH.tail.tail.tail | exact hH.tail.tail.tail.tail)), ?_⟩; intro a hA)
      rw [Nat.zero_add] at hA hH
      rw [List.nil_append] at hH
      (repeat (apply dt_ex hA rfl rfl rfl (by decide); (first | exact EXT | exact EXT2 | (apply ex_build_p #[.int .i64 m.n, .slice none 0 0, .slice oN m.bs.length cN]; rfl; (repeat (first | (intro _ h; exact absurd h (List.not_mem_nil)) | (refine List.forall_mem_cons.2 ⟨one_cell_of _ _, ?_⟩))); rfl)); clear hA a; intro a hA))
      (apply dt_op0 hA rfl rfl rfl; apply op_store_agg (vs := [.int .i64 m.n, .slice none 0 0, .slice oN m.bs.length cN]); rfl; rfl; exact hH; (repeat constructor); (repeat rfl); clear hH; rintro _ w hH; refine ⟨(by (first | exact hH | exact hH.tail | exact hH.tail.tail | exact hH.tail.tail.tail | exact hH.tail.tail.tail.tail)), ?_⟩; apply dt_nil)
      exact ⟨_, _, _, hH.perm (by (repeat (first | exact List.Perm.refl _ | exact List.Perm.nil | refine perm_pick 0 rfl ?_ | refine perm_pick 1 rfl ?_ | refine perm_pick 2 rfl ?_ | refine perm_pick 3 rfl ?_ | refine perm_pick 4 rfl ?_ | refine perm_pick 5 rfl ?_ | refine perm_pick 6 rfl ?_ | refine perm_pick 7 rfl ?_ | refine perm_pick 8 rfl ?_ | refine perm_pick 9 rfl ?_ | refine perm_pick 10 rfl ?_ | refine perm_pick 11 rfl ?_))), (hA.sub (by (repeat (first | exact trivial | refine ⟨rfl, ?_⟩))))⟩
  clear hA hH
  rintro a w ⟨b3, ob, bx, hH, hA⟩
  repeat' (first | (first | (refine GT ?_ ?_ <;> intro hg <;> clear hA a <;> intro a hA <;> (first | exact FA | replace hg := of_decide_eq_true hg | replace hg := of_decide_eq_false hg | skip)) | (refine QT ?_; clear hA a; intro a hA) | (first | (refine BT ?_; clear hA hH; rintro _ w ⟨bN, rfl, hH⟩ a hA) | (refine LT ?_; clear hA hH; rintro _ w ⟨oN, rfl, hH⟩ a hA) | (refine AT ?_; clear hA; rintro _ w ⟨oN, cN, rfl, hH2⟩ a hA; clear hH; have hH := (hH2 _ (by (repeat constructor))).tail; clear hH2) | (refine S0T ?_; clear hH; rintro _ w hH) | (apply st_op hA rfl rfl (by decide); apply op_append; rfl; rfl; exact hH; exact MEMT; exact (hR _ (hH.frz (by exact MEMT))).1.1; exact flat_length encC_len _; rfl; decide; exact encC_one _; (unfold maxLen; omega); omega; clear hA; rintro _ w ⟨oN, cN, rfl, hH2⟩ a hA; clear hH; have hH := hH2 _ (by (repeat constructor)); clear hH2))) | ((first | refine CT ?_ | (refine DT ?_ ?_ <;> intro hc <;> try (exfalso; omega))) <;> repeat' refine CT ?_) | (first | (refine DSK ?_; clear hA a; intro a hA) | (first | (refine DLT ?_; clear hA hH; rintro _ w ⟨oN, rfl, hH⟩; refine ⟨STT, ?_⟩; intro a hA) | (refine DAT ?_; clear hA; rintro _ w ⟨oN, cN, rfl, hH2⟩; clear hH; have hH := (hH2 _ (by (repeat constructor))).tail; clear hH2; refine ⟨STT, ?_⟩; intro a hA))) )
  rw [Nat.zero_add] at hA hH
  rw [List.nil_append] at hH
  have hle0 := hH.own_le (.head _)
  replace hH := ((hH.pk 5 rfl).pk 1 rfl).frz_own
  refine wp_lpk (S := Nat) (fun s a w => ∃ (K' : World → Prop) (oc ob ot : Option Addr) (cx bx ct : Nat) (nc : List MC) (nb : List MB) (td : List MC), (s = szC (td.map MC.un) ∧ (∀ w, K' w → K w ∧ RdCs w ot ct td ∧ (∀ c ∈ nc, RdC w c) ∧ ∀ b ∈ nb, RdB w b) ∧ (∀ c ∈ td, formP c.p = true ∧ c.q.length + szA c.p ≤ 1000) ∧ szC (td.map MC.un) + nc.length + nb.length + m.bs.length ≤ 1000 ∧ (plC (m.cs.map MC.un)).1 = nc.map MC.un ++ (plC (td.map MC.un)).1 ∧ (plC (m.cs.map MC.un)).2 = nb.map MB.un ++ (plC (td.map MC.un)).2) ∧
      HS w0 noM (Go.Fw.cb b3 64 [.int .i64 m.n, .slice oc nc.length cx, .slice ob (m.bs ++ nb).length bx] :: own 67 7 oc nc.length cx (flat encC nc) :: own 72 2 ob (m.bs ++ nb).length bx (flat encB (m.bs ++ nb)) :: Go.Fw.cb b2 64 [.int .i64 0, .slice none 0 0, .slice none 0 0] :: frz w0 K' :: H) w ∧ Sl 86 [(2, .pointer (some (bat b2 0))), (3, .pointer (some (bat b3 0))), (4, .slice ot td.length ct)] a)
    (fun s => s)
    (fun a w => ∃ (K' : World → Prop) (oc ob : Option Addr) (cx bx : Nat) (nc : List MC) (nb : List MB), ((∀ w, K' w → K w ∧ (∀ c ∈ nc, RdC w c) ∧ ∀ b ∈ nb, RdB w b) ∧ (plC (m.cs.map MC.un)).1 = nc.map MC.un ∧ (plC (m.cs.map MC.un)).2 = nb.map MB.un) ∧
      HS w0 noM (Go.Fw.cb b3 64 [.int .i64 m.n, .slice oc nc.length cx, .slice ob (m.bs ++ nb).length bx] :: own 67 7 oc nc.length cx (flat encC nc) :: own 72 2 ob (m.bs ++ nb).length bx (flat encB (m.bs ++ nb)) :: Go.Fw.cb b2 64 [.int .i64 0, .slice none 0 0, .slice none 0 0] :: frz w0 K' :: H) w ∧ Sl 86 [(2, .pointer (some (bat b2 0))), (3, .pointer (some (bat b3 0)))] a) _
    ⟨fun w => Rd w oN (flat encC m.cs) ∧ K w, none, ob, oN, 0, bx, cN, [], [], m.cs, ⟨rfl, fun w h => ⟨h.2, ⟨h.1, hle0.1, hle0.2, (hR w h.2).1.2.2.2⟩, fun c h => absurd h List.not_mem_nil, fun c h => absurd h List.not_mem_nil⟩, fun c hc => ⟨hf c hc, hq c hc⟩, by show _ + 0 + 0 + _ ≤ 1000; omega, rfl, rfl⟩, by
      rw [List.append_nil]; exact ((hH.er 4).nil_flat encC 67 7).perm (by (repeat (first | exact List.Perm.refl _ | exact List.Perm.nil | refine perm_pick 0 rfl ?_ | refine perm_pick 1 rfl ?_ | refine perm_pick 2 rfl ?_ | refine perm_pick 3 rfl ?_ | refine perm_pick 4 rfl ?_ | refine perm_pick 5 rfl ?_ | refine perm_pick 6 rfl ?_ | refine perm_pick 7 rfl ?_ | refine perm_pick 8 rfl ?_ | refine perm_pick 9 rfl ?_ | refine perm_pick 10 rfl ?_ | refine perm_pick 11 rfl ?_))), (hA.sub (by (repeat (first | exact trivial | refine ⟨rfl, ?_⟩))))⟩ ?_ ?_
  · clear hA hH
    rintro s a w ⟨K', oc, ob, ot, cx, bx, ct, nc, nb, td, ⟨rfl, hK', hG, hsz, hp1, hp2⟩, hH, hA⟩
    rcases td with _ | ⟨c, td⟩
    · repeat' (first | (first | (refine GT ?_ ?_ <;> intro hg <;> clear hA a <;> intro a hA <;> (first | exact FA | replace hg := of_decide_eq_true hg | replace hg := of_decide_eq_false hg | skip)) | (refine QT ?_; clear hA a; intro a hA) | (first | (refine BT ?_; clear hA hH; rintro _ w ⟨bN, rfl, hH⟩ a hA) | (refine LT ?_; clear hA hH; rintro _ w ⟨oN, rfl, hH⟩ a hA) | (refine AT ?_; clear hA; rintro _ w ⟨oN, cN, rfl, hH2⟩ a hA; clear hH; have hH := (hH2 _ (by (repeat constructor))).tail; clear hH2) | (refine S0T ?_; clear hH; rintro _ w hH) )) | ((first | refine CT ?_ | (refine DT ?_ ?_ <;> intro hc <;> try (exfalso; omega))) <;> repeat' refine CT ?_) | (first | (refine DSK ?_; clear hA a; intro a hA) | (first | (refine DLT ?_; clear hA hH; rintro _ w ⟨oN, rfl, hH⟩; refine ⟨STT, ?_⟩; intro a hA) | (refine DAT ?_; clear hA; rintro _ w ⟨oN, cN, rfl, hH2⟩; clear hH; have hH := (hH2 _ (by (repeat constructor))).tail; clear hH2; refine ⟨STT, ?_⟩; intro a hA))) )
      exact ⟨K', oc, ob, cx, bx, nc, nb, ⟨fun w h => ⟨(hK' w h).1, (hK' w h).2.2⟩, by rw [hp1, List.map_nil, plC_nil, List.append_nil], by rw [hp2, List.map_nil, plC_nil, List.append_nil]⟩, hH, (hA.sub (by (repeat (first | exact trivial | refine ⟨rfl, ?_⟩))))⟩
    · rw [List.map_cons, szC_cons] at hsz
      rw [List.map_cons, plC_cons] at hp1 hp2
      have hmu : szC ((c :: td).map MC.un) = szA c.p + szC (td.map MC.un) := by rw [List.map_cons, szC_cons]; rfl
      have hpos := szA_pos c.p
      have hcp : szA c.un.2 = szA c.p := rfl
      have hcg := hG c (.head _)
      have hlt : 0 < (c :: td).length := Nat.succ_pos _
      have htl : td.length ≤ 1000 := by
        have := szC_len (td.map MC.un)
        rw [List.length_map] at this
        omega
      have hspT : Sp ot (c :: td).length := (hK' _ (hH.frz (by exact MEMT))).2.1.1.sp (sz := 7) (flat_length encC_len (c :: td)) (by omega)
      have hrT : ∀ w, K' w → Rd w ot (flat encC (c :: td)) := fun w h => (hK' w h).2.1.1
      have hRc : ∀ w, K' w → RdC w c := fun w h => (hK' w h).2.1.2.2.2 c (.head _)
      have hRt : ∀ w, K' w → RdCs w (subO ot ct 1 7) (ct - 1) td := fun w h => (hK' w h).2.1.drop1
      have hvs := flat_all encC_len (l := c :: td) (i := 0) (x := c) rfl
      rw [encC_eq] at hvs
      have hcA : RdA _ c.p := (hRc _ (hH.frz (by exact MEMT))).2
      have hlp := hcA.c
      unfold maxLen at hlp
      have hspA : Sp c.p.oa c.p.ps.length := hcA.a.sp (sz := 6) (flat_length encA_len c.p.ps) (by omega)
      have hspL : Sp c.p.ol c.p.ls.length := hcA.l.sp (sz := 1) (flat_length encX_len c.p.ls) (by omega)
      clear hcA
      have hfk := form_k hcg.1
      have hpsl := szL_len c.p.ps
      have hszp := szA_eq c.p
      have hbl : (m.bs ++ nb).length = m.bs.length + nb.length := List.length_append
      repeat' (first | (first | (refine GT ?_ ?_ <;> intro hg <;> clear hA a <;> intro a hA <;> (first | exact FA | replace hg := of_decide_eq_true hg | replace hg := of_decide_eq_false hg | skip)) | ((first | apply st_ex hA hH rfl rfl (by decide) | apply dr_ex hA rfl rfl rfl (by decide) | apply dr_exp hA rfl rfl rfl (by decide) | apply dr_ex3 hA hH rfl rfl rfl (by decide)); (first | (apply ex_load_st (vs := [.slice c.o c.q.length c.c, .int .i64 c.p.k, .int .i64 c.p.v, .int .i64 c.p.n, .string c.p.s, .slice c.p.ol c.p.ls.length c.p.cl, .slice c.p.oa c.p.ps.length c.p.ca]); rfl; rfl; exact cls_frz MEMT hrT hvs) | (apply ex_slice_lo (k := 1); rfl; rfl; rfl; rw [List.length_cons]; omega)); clear hA a; intro a hA) | (refine QT ?_; clear hA a; intro a hA) | (first | (refine BT ?_; clear hA hH; rintro _ w ⟨bN, rfl, hH⟩ a hA) | (refine LT ?_; clear hA hH; rintro _ w ⟨oN, rfl, hH⟩ a hA) | (refine AT ?_; clear hA; rintro _ w ⟨oN, cN, rfl, hH2⟩ a hA; clear hH; have hH := (hH2 _ (by (repeat constructor))).tail; clear hH2) | (refine S0T ?_; clear hH; rintro _ w hH) | (apply st_op0 hA rfl rfl; apply op_store_agg (vs := [.slice c.o c.q.length c.c, .int .i64 c.p.k, .int .i64 c.p.v, .int .i64 c.p.n, .string c.p.s, .slice c.p.ol c.p.ls.length c.p.cl, .slice c.p.oa c.p.ps.length c.p.ca]); rfl; rfl; exact hH; (repeat constructor); (repeat rfl); clear hH; rintro _ w hH))) | ((first | refine CT ?_ | (refine DT ?_ ?_ <;> intro hc <;> try (exfalso; omega))) <;> repeat' refine CT ?_) | (first | (refine DSK ?_; clear hA a; intro a hA) | (first | (refine DLT ?_; clear hA hH; rintro _ w ⟨oN, rfl, hH⟩; refine ⟨STT, ?_⟩; intro a hA) | (refine DAT ?_; clear hA; rintro _ w ⟨oN, cN, rfl, hH2⟩; clear hH; have hH := (hH2 _ (by (repeat constructor))).tail; clear hH2; refine ⟨STT, ?_⟩; intro a hA))) )
      all_goals (try (obtain ⟨b5, hb5⟩ : ∃ b, b = bN := ⟨_, rfl⟩; rw [← hb5] at hA hH; clear hb5 bN))
      · have hpl : plP c.un.1 c.un.2 = ([], []) := plP_0 c.q (.inl (by assumption))
        rw [hpl] at hp1 hp2
        exact ⟨_, ⟨K', oc, ob, _, cx, bx, _, nc, nb, td, ⟨rfl, fun w h => ⟨(hK' w h).1, hRt w h, (hK' w h).2.2⟩, fun d hd => hG d (.tail _ hd), by omega, hp1, hp2⟩, hH.er 0, (hA.sub (by (repeat (first | exact trivial | refine ⟨rfl, ?_⟩))))⟩, by rw [hmu]; omega⟩
      · have hpl : plP c.un.1 c.un.2 = ([], []) := plP_0 c.q (.inr (by assumption))
        rw [hpl] at hp1 hp2
        exact ⟨_, ⟨K', oc, ob, _, cx, bx, _, nc, nb, td, ⟨rfl, fun w h => ⟨(hK' w h).1, hRt w h, (hK' w h).2.2⟩, fun d hd => hG d (.tail _ hd), by omega, hp1, hp2⟩, hH.er 0, (hA.sub (by (repeat (first | exact trivial | refine ⟨rfl, ?_⟩))))⟩, by rw [hmu]; omega⟩
      · have hpl : plP c.un.1 c.un.2 = ([], [(c.p.v, c.q)]) := plP_v c.q (by assumption)
        rw [hpl] at hp1 hp2
        (apply st_op0 hA rfl rfl; apply op_store_fld (cs' := [.int .i64 m.n, .slice oc nc.length cx, .slice oN ((m.bs ++ nb).length + 1) cN]); rfl; rfl; rfl; exact hH; (repeat constructor); clear hH; rintro _ w hH)
        repeat' (first | (first | (refine GT ?_ ?_ <;> intro hg <;> clear hA a <;> intro a hA <;> (first | exact FA | replace hg := of_decide_eq_true hg | replace hg := of_decide_eq_false hg | skip)) | (refine QT ?_; clear hA a; intro a hA) | (first | (refine BT ?_; clear hA hH; rintro _ w ⟨bN, rfl, hH⟩ a hA) | (refine LT ?_; clear hA hH; rintro _ w ⟨oN, rfl, hH⟩ a hA) | (refine AT ?_; clear hA; rintro _ w ⟨oN, cN, rfl, hH2⟩ a hA; clear hH; have hH := (hH2 _ (by (repeat constructor))).tail; clear hH2) | (refine S0T ?_; clear hH; rintro _ w hH) )) | ((first | refine CT ?_ | (refine DT ?_ ?_ <;> intro hc <;> try (exfalso; omega))) <;> repeat' refine CT ?_) | (first | (refine DSK ?_; clear hA a; intro a hA) | (first | (refine DLT ?_; clear hA hH; rintro _ w ⟨oN, rfl, hH⟩; refine ⟨STT, ?_⟩; intro a hA) | (refine DAT ?_; clear hA; rintro _ w ⟨oN, cN, rfl, hH2⟩; clear hH; have hH := (hH2 _ (by (repeat constructor))).tail; clear hH2; refine ⟨STT, ?_⟩; intro a hA))) )
        rw [← encB_mk, ← flat_snoc, ← len_snoc (m.bs ++ nb) ⟨c.p.v, c.o, c.c, c.q⟩, List.append_assoc] at hH
        exact ⟨_, ⟨K', oc, oN, _, cx, cN, _, nc, nb ++ [MB.mk c.p.v c.o c.c c.q], td, ⟨rfl, fun w h => ⟨(hK' w h).1, hRt w h, (hK' w h).2.2.1, fun b hb => by
          rcases List.mem_append.1 hb with hb | hb
          · exact (hK' w h).2.2.2 b hb
          · rw [List.mem_singleton] at hb; subst hb; exact (hRc w h).1⟩, fun d hd => hG d (.tail _ hd), by rw [List.length_append]; show _ + (_ + 1) + _ ≤ _; omega, hp1, by rw [hp2, List.map_append, List.append_assoc]; rfl⟩, hH.er 0, (hA.sub (by (repeat (first | exact trivial | refine ⟨rfl, ?_⟩))))⟩, by rw [hmu]; omega⟩
      · have h9 : c.p.k = 9 := by assumption
        have hpl : plP c.un.1 c.un.2 = plL c.q c.p.ls c.p.ps := plP_r c.q h9
        rw [hpl] at hp1 hp2
        have hpll := hfk.2.1 h9
        refine wp_lpk (S := Nat) (fun i a w => ∃ (K2 : World → Prop) (om : Option Addr) (cm : Nat) (mo : List MC), (i ≤ c.p.ps.length ∧ (∀ w, K2 w → K' w ∧ ∀ d ∈ mo, RdC w d) ∧ mo.map MC.un = chi c.q (c.p.ls.take i) (c.p.ps.take i) ∧ mo.length = i) ∧
            HS w0 noM (own 67 7 om mo.length cm (flat encC mo) :: Go.Fw.cb b5 67 [.slice c.o c.q.length c.c, .int .i64 c.p.k, .int .i64 c.p.v, .int .i64 c.p.n, .string c.p.s, .slice c.p.ol c.p.ls.length c.p.cl, .slice c.p.oa c.p.ps.length c.p.ca] :: Go.Fw.cb b3 64 [.int .i64 m.n, .slice oc nc.length cx, .slice ob (m.bs ++ nb).length bx] :: own 67 7 oc nc.length cx (flat encC nc) :: own 72 2 ob (m.bs ++ nb).length bx (flat encB (m.bs ++ nb)) :: Go.Fw.cb b2 64 [.int .i64 0, .slice none 0 0, .slice none 0 0] :: frz w0 K2 :: H) w ∧
            Sl 86 [(2, .pointer (some (bat b2 0))), (3, .pointer (some (bat b3 0))), (4, .slice (subO ot ct 1 7) td.length (ct - 1)), (5, .pointer (some (bat b5 0))), (6, .slice om mo.length cm), (7, .int .i64 i)] a)
          (fun i => c.p.ps.length - i)
          (fun a w => ∃ (K2 : World → Prop) (om : Option Addr) (cm : Nat) (mo : List MC), ((∀ w, K2 w → K' w ∧ ∀ d ∈ mo, RdC w d) ∧ mo.map MC.un = chi c.q c.p.ls c.p.ps ∧ mo.length = c.p.ps.length) ∧
            HS w0 noM (own 67 7 om mo.length cm (flat encC mo) :: Go.Fw.cb b5 67 [.slice c.o c.q.length c.c, .int .i64 c.p.k, .int .i64 c.p.v, .int .i64 c.p.n, .string c.p.s, .slice c.p.ol c.p.ls.length c.p.cl, .slice c.p.oa c.p.ps.length c.p.ca] :: Go.Fw.cb b3 64 [.int .i64 m.n, .slice oc nc.length cx, .slice ob (m.bs ++ nb).length bx] :: own 67 7 oc nc.length cx (flat encC nc) :: own 72 2 ob (m.bs ++ nb).length bx (flat encB (m.bs ++ nb)) :: Go.Fw.cb b2 64 [.int .i64 0, .slice none 0 0, .slice none 0 0] :: frz w0 K2 :: H) w ∧
            Sl 86 [(2, .pointer (some (bat b2 0))), (3, .pointer (some (bat b3 0))), (4, .slice (subO ot ct 1 7) td.length (ct - 1)), (6, .slice om mo.length cm)] a) 0
          ⟨K', oN, 0, [], ⟨Nat.zero_le _, fun w h => ⟨h, fun d hd => absurd hd List.not_mem_nil⟩, rfl, rfl⟩, hH.conv (it' := own 67 7 oN 0 0 (flat encC [])) .here (fun F h => by rw [flat_nil]; exact h), (hA.sub (by (repeat (first | exact trivial | refine ⟨rfl, ?_⟩))))⟩ ?_ ?_
        · clear hA hH
          rintro i a w ⟨K2, om, cm, mo, ⟨hi, hK2, hmo, hml⟩, hH, hA⟩
          by_cases hil : i < c.p.ps.length
          rotate_left
          · obtain rfl : i = c.p.ps.length := by omega
            rw [List.take_length, hpll, List.take_length] at hmo
            repeat' (first | (first | (refine GT ?_ ?_ <;> intro hg <;> clear hA a <;> intro a hA <;> (first | exact FA | replace hg := of_decide_eq_true hg | replace hg := of_decide_eq_false hg | skip)) | (refine QT ?_; clear hA a; intro a hA) | (first | (refine BT ?_; clear hA hH; rintro _ w ⟨bN, rfl, hH⟩ a hA) | (refine LT ?_; clear hA hH; rintro _ w ⟨oN, rfl, hH⟩ a hA) | (refine AT ?_; clear hA; rintro _ w ⟨oN, cN, rfl, hH2⟩ a hA; clear hH; have hH := (hH2 _ (by (repeat constructor))).tail; clear hH2) | (refine S0T ?_; clear hH; rintro _ w hH) )) | ((first | refine CT ?_ | (refine DT ?_ ?_ <;> intro hc <;> try (exfalso; omega))) <;> repeat' refine CT ?_) | (first | (refine DSK ?_; clear hA a; intro a hA) | (first | (refine DLT ?_; clear hA hH; rintro _ w ⟨oN, rfl, hH⟩; refine ⟨STT, ?_⟩; intro a hA) | (refine DAT ?_; clear hA; rintro _ w ⟨oN, cN, rfl, hH2⟩; clear hH; have hH := (hH2 _ (by (repeat constructor))).tail; clear hH2; refine ⟨STT, ?_⟩; intro a hA))) )
            exact ⟨K2, om, cm, mo, ⟨hK2, hmo, by omega⟩, hH, (hA.sub (by (repeat (first | exact trivial | refine ⟨rfl, ?_⟩))))⟩
          obtain ⟨x, hx⟩ : ∃ x, c.p.ps[i]? = some x := ⟨_, List.getElem?_eq_getElem hil⟩
          obtain ⟨lb, hlb⟩ : ∃ x, c.p.ls[i]? = some x := ⟨_, List.getElem?_eq_getElem (by omega)⟩
          have hxm := List.mem_of_getElem? hx
          have hxs := flat_all encA_len hx
          rw [encA_eq] at hxs
          have hcx := encX_at hlb
          have hrA : ∀ w, K2 w → Rd w c.p.oa (flat encA c.p.ps) := fun w h => (hRc w (hK2 w h).1).2.a
          have hrL : ∀ w, K2 w → Rd w c.p.ol (flat encX c.p.ls) := fun w h => (hRc w (hK2 w h).1).2.l
          repeat' (first | (first | (refine GT ?_ ?_ <;> intro hg <;> clear hA a <;> intro a hA <;> (first | exact FA | replace hg := of_decide_eq_true hg | replace hg := of_decide_eq_false hg | skip)) | (refine QT ?_; clear hA a; intro a hA) | (first | (refine BT ?_; clear hA hH; rintro _ w ⟨bN, rfl, hH⟩ a hA) | (refine LT ?_; clear hA hH; rintro _ w ⟨oN, rfl, hH⟩ a hA) | (refine AT ?_; clear hA; rintro _ w ⟨oN, cN, rfl, hH2⟩ a hA; clear hH; have hH := (hH2 _ (by (repeat constructor))).tail; clear hH2) | (refine S0T ?_; clear hH; rintro _ w hH) )) | ((first | refine CT ?_ | (refine DT ?_ ?_ <;> intro hc <;> try (exfalso; omega))) <;> repeat' refine CT ?_) | (first | (refine DSK ?_; clear hA a; intro a hA) | (first | (refine DLT ?_; clear hA hH; rintro _ w ⟨oN, rfl, hH⟩; refine ⟨STT, ?_⟩; intro a hA) | (refine DAT ?_; clear hA; rintro _ w ⟨oN, cN, rfl, hH2⟩; clear hH; have hH := (hH2 _ (by (repeat constructor))).tail; clear hH2; refine ⟨STT, ?_⟩; intro a hA))) )
          (refine wp_draw_HS (H := [Go.Fw.cb b5 67 [.slice c.o c.q.length c.c, .int .i64 c.p.k, .int .i64 c.p.v, .int .i64 c.p.n, .string c.p.s, .slice c.p.ol c.p.ls.length c.p.cl, .slice c.p.oa c.p.ps.length c.p.ca], frz w0 K2]) [(0, 1), (1, 1), (2, 1), (3, 1), (4, 1), (5, 1), (6, 1), (7, 1), (8, 1), (10, 1), (11, 1), (12, 1), (13, 1), (14, 1), (15, 1), (9, 0), (16, 2), (17, 0), (18, 0), (19, 2)] mixed (by decide +kernel) (hH.two 1 5 rfl rfl) ?_; replace hH := hH.drew)
          repeat' (first | (first | (refine GT ?_ ?_ <;> intro hg <;> clear hA a <;> intro a hA <;> (first | exact FA | replace hg := of_decide_eq_true hg | replace hg := of_decide_eq_false hg | skip)) | ((first | apply st_ex hA hH rfl rfl (by decide) | apply dr_ex hA rfl rfl rfl (by decide) | apply dr_exp hA rfl rfl rfl (by decide) | apply dr_ex3 hA hH rfl rfl rfl (by decide)); (first | (apply ex_load_st (vs := [.int .i64 x.k, .int .i64 x.v, .int .i64 x.n, .string x.s, .slice x.ol x.ls.length x.cl, .slice x.oa x.ps.length x.ca]); rfl; rfl; exact cls_frz MEMT hrA hxs) | (apply ex_load; rfl; exact cl_frz MEMT hrL hcx)); clear hA a; intro a hA) | (refine QT ?_; clear hA a; intro a hA) | (first | (refine BT ?_; clear hA hH; rintro _ w ⟨bN, rfl, hH⟩ a hA) | (refine LT ?_; clear hA hH; rintro _ w ⟨oN, rfl, hH⟩ a hA) | (refine AT ?_; clear hA; rintro _ w ⟨oN, cN, rfl, hH2⟩ a hA; clear hH; have hH := (hH2 _ (by (repeat constructor))).tail; clear hH2) | (refine S0T ?_; clear hH; rintro _ w hH) )) | ((first | refine CT ?_ | (refine DT ?_ ?_ <;> intro hc <;> try (exfalso; omega))) <;> repeat' refine CT ?_) | (first | (refine DSK ?_; clear hA a; intro a hA) | (first | (refine DLT ?_; clear hA hH; rintro _ w ⟨oN, rfl, hH⟩; refine ⟨STT, ?_⟩; intro a hA) | (refine DAT ?_; clear hA; rintro _ w ⟨oN, cN, rfl, hH2⟩; clear hH; have hH := (hH2 _ (by (repeat constructor))).tail; clear hH2; refine ⟨STT, ?_⟩; intro a hA))) )
          (refine dr_op hA rfl rfl rfl (by decide) (op_call rfl rfl rfl (longer_spec _ c.o c.c c.q lb ((hRc _ (hK2 _ (hH.frz (by exact MEMT))).1).1) (by omega))) ?_; clear hA; rintro _ w ⟨o2, c2, rfl, hj⟩; refine ⟨by replace hH := hH.join hj; exact hH.two 2 6 rfl rfl, ?_⟩; intro a hA)
          replace hH := hH.join hj
          clear hj
          have hle2 := hH.own_le (.head _)
          repeat' (first | (first | (refine GT ?_ ?_ <;> intro hg <;> clear hA a <;> intro a hA <;> (first | exact FA | replace hg := of_decide_eq_true hg | replace hg := of_decide_eq_false hg | skip)) | ((first | apply st_ex hA hH rfl rfl (by decide) | apply dr_ex hA rfl rfl rfl (by decide) | apply dr_exp hA rfl rfl rfl (by decide) | apply dr_ex3 hA hH rfl rfl rfl (by decide)); (first | (apply ex_build_12 (us := [.int .i64 x.k, .int .i64 x.v, .int .i64 x.n, .string x.s, .slice x.ol x.ls.length x.cl, .slice x.oa x.ps.length x.ca]); rfl; rfl; rfl; rfl; rfl; exact ⟨size_of _ _ _, size_of _ _ _, trivial⟩)); clear hA a; intro a hA) | (refine QT ?_; clear hA a; intro a hA) | (first | (refine BT ?_; clear hA hH; rintro _ w ⟨bN, rfl, hH⟩ a hA) | (refine LT ?_; clear hA hH; rintro _ w ⟨oN, rfl, hH⟩ a hA) | (refine AT ?_; clear hA; rintro _ w ⟨oN, cN, rfl, hH2⟩ a hA; clear hH; have hH := (hH2 _ (by (repeat constructor))).tail; clear hH2) | (refine S0T ?_; clear hH; rintro _ w hH) )) | ((first | refine CT ?_ | (refine DT ?_ ?_ <;> intro hc <;> try (exfalso; omega))) <;> repeat' refine CT ?_) | (first | (refine DSK ?_; clear hA a; intro a hA) | (first | (refine DLT ?_; clear hA hH; rintro _ w ⟨oN, rfl, hH⟩; refine ⟨STT, ?_⟩; intro a hA) | (refine DAT ?_; clear hA; rintro _ w ⟨oN, cN, rfl, hH2⟩; clear hH; have hH := (hH2 _ (by (repeat constructor))).tail; clear hH2; refine ⟨STT, ?_⟩; intro a hA))) )
          (apply dr_op hA rfl rfl rfl (by decide); apply op_sliceLit (xs := [.slice (MC.mk o2 c2 (c.q ++ [lb]) x).o (MC.mk o2 c2 (c.q ++ [lb]) x).q.length (MC.mk o2 c2 (c.q ++ [lb]) x).c, .int .i64 (MC.mk o2 c2 (c.q ++ [lb]) x).p.k, .int .i64 (MC.mk o2 c2 (c.q ++ [lb]) x).p.v, .int .i64 (MC.mk o2 c2 (c.q ++ [lb]) x).p.n, .string (MC.mk o2 c2 (c.q ++ [lb]) x).p.s, .slice (MC.mk o2 c2 (c.q ++ [lb]) x).p.ol (MC.mk o2 c2 (c.q ++ [lb]) x).p.ls.length (MC.mk o2 c2 (c.q ++ [lb]) x).p.cl, .slice (MC.mk o2 c2 (c.q ++ [lb]) x).p.oa (MC.mk o2 c2 (c.q ++ [lb]) x).p.ps.length (MC.mk o2 c2 (c.q ++ [lb]) x).p.ca]) (vs := [.agg #[.slice (MC.mk o2 c2 (c.q ++ [lb]) x).o (MC.mk o2 c2 (c.q ++ [lb]) x).q.length (MC.mk o2 c2 (c.q ++ [lb]) x).c, .int .i64 (MC.mk o2 c2 (c.q ++ [lb]) x).p.k, .int .i64 (MC.mk o2 c2 (c.q ++ [lb]) x).p.v, .int .i64 (MC.mk o2 c2 (c.q ++ [lb]) x).p.n, .string (MC.mk o2 c2 (c.q ++ [lb]) x).p.s, .slice (MC.mk o2 c2 (c.q ++ [lb]) x).p.ol (MC.mk o2 c2 (c.q ++ [lb]) x).p.ls.length (MC.mk o2 c2 (c.q ++ [lb]) x).p.cl, .slice (MC.mk o2 c2 (c.q ++ [lb]) x).p.oa (MC.mk o2 c2 (c.q ++ [lb]) x).p.ps.length (MC.mk o2 c2 (c.q ++ [lb]) x).p.ca]]); rfl; rfl; exact (Cats.cn (cs := [.slice (MC.mk o2 c2 (c.q ++ [lb]) x).o (MC.mk o2 c2 (c.q ++ [lb]) x).q.length (MC.mk o2 c2 (c.q ++ [lb]) x).c, .int .i64 (MC.mk o2 c2 (c.q ++ [lb]) x).p.k, .int .i64 (MC.mk o2 c2 (c.q ++ [lb]) x).p.v, .int .i64 (MC.mk o2 c2 (c.q ++ [lb]) x).p.n, .string (MC.mk o2 c2 (c.q ++ [lb]) x).p.s, .slice (MC.mk o2 c2 (c.q ++ [lb]) x).p.ol (MC.mk o2 c2 (c.q ++ [lb]) x).p.ls.length (MC.mk o2 c2 (c.q ++ [lb]) x).p.cl, .slice (MC.mk o2 c2 (c.q ++ [lb]) x).p.oa (MC.mk o2 c2 (c.q ++ [lb]) x).p.ps.length (MC.mk o2 c2 (c.q ++ [lb]) x).p.ca]) Cats.nil); rfl; rfl; rfl; exact hH; clear hA hH; rintro _ w ⟨oN, rfl, hH⟩; refine ⟨hH.two 3 7 rfl rfl, ?_⟩; intro a hA)
          (apply dr_op hA rfl rfl rfl (by decide); apply op_append; rfl; rfl; exact hH; exact MEMT; exact (hH.own_rd (List.Mem.head _)); exact rfl; rfl; decide; exact rfl; (unfold maxLen; omega); omega; clear hA; rintro _ w ⟨oN, cN, rfl, hH2⟩; clear hH; have hH := hH2 _ (by (repeat constructor)); clear hH2; refine ⟨hH.two 3 7 rfl rfl, ?_⟩; intro a hA)
          repeat' (first | (first | (refine GT ?_ ?_ <;> intro hg <;> clear hA a <;> intro a hA <;> (first | exact FA | replace hg := of_decide_eq_true hg | replace hg := of_decide_eq_false hg | skip)) | (refine QT ?_; clear hA a; intro a hA) | (first | (refine BT ?_; clear hA hH; rintro _ w ⟨bN, rfl, hH⟩ a hA) | (refine LT ?_; clear hA hH; rintro _ w ⟨oN, rfl, hH⟩ a hA) | (refine AT ?_; clear hA; rintro _ w ⟨oN, cN, rfl, hH2⟩ a hA; clear hH; have hH := (hH2 _ (by (repeat constructor))).tail; clear hH2) | (refine S0T ?_; clear hH; rintro _ w hH) )) | ((first | refine CT ?_ | (refine DT ?_ ?_ <;> intro hc <;> try (exfalso; omega))) <;> repeat' refine CT ?_) | (first | (refine DSK ?_; clear hA a; intro a hA) | (first | (refine DLT ?_; clear hA hH; rintro _ w ⟨oN, rfl, hH⟩; refine ⟨STT, ?_⟩; intro a hA) | (refine DAT ?_; clear hA; rintro _ w ⟨oN, cN, rfl, hH2⟩; clear hH; have hH := (hH2 _ (by (repeat constructor))).tail; clear hH2; refine ⟨STT, ?_⟩; intro a hA))) )
          rw [← encC_eq, ← flat_snoc, ← len_snoc mo] at hH
          rw [← len_snoc mo (MC.mk o2 c2 (c.q ++ [lb]) x)] at hA
          refine ⟨i + 1, ⟨_, oN, cN, mo ++ [MC.mk o2 c2 (c.q ++ [lb]) x], ⟨hil, ?_, by rw [chi_snoc hlb hx, List.map_append, hmo]; rfl, by rw [len_snoc, hml]⟩, ((((hH.er 0).pk 7 rfl).pk 1 rfl).frz_own).perm (by (repeat (first | exact List.Perm.refl _ | exact List.Perm.nil | refine perm_pick 0 rfl ?_ | refine perm_pick 1 rfl ?_ | refine perm_pick 2 rfl ?_ | refine perm_pick 3 rfl ?_ | refine perm_pick 4 rfl ?_ | refine perm_pick 5 rfl ?_ | refine perm_pick 6 rfl ?_ | refine perm_pick 7 rfl ?_ | refine perm_pick 8 rfl ?_ | refine perm_pick 9 rfl ?_ | refine perm_pick 10 rfl ?_ | refine perm_pick 11 rfl ?_))), (hA.sub (by (repeat (first | exact trivial | refine ⟨rfl, ?_⟩))))⟩, by omega⟩
          rintro w ⟨h1, h2⟩
          refine ⟨(hK2 w h2).1, fun d hd => ?_⟩
          rcases List.mem_append.1 hd with hd | hd
          · exact (hK2 w h2).2 d hd
          · rw [List.mem_singleton] at hd
            subst hd
            exact ⟨⟨h1, hle2⟩, (hRc w (hK2 w h2).1).2.s x hxm⟩
        clear hA hH
        rintro a w ⟨K2, om, cm, mo, ⟨hK2, hmo, hml⟩, hH, hA⟩
        have hcz := chi_sz c.q c.p.ls c.p.ps
        rw [← hmo] at hcz
        have hmol : mo.length ≤ 1000 := by
          have := szC_len (mo.map MC.un)
          rw [List.length_map] at this
          omega
        repeat' (first | (first | (refine GT ?_ ?_ <;> intro hg <;> clear hA a <;> intro a hA <;> (first | exact FA | replace hg := of_decide_eq_true hg | replace hg := of_decide_eq_false hg | skip)) | (refine QT ?_; clear hA a; intro a hA) | (first | (refine BT ?_; clear hA hH; rintro _ w ⟨bN, rfl, hH⟩ a hA) | (refine LT ?_; clear hA hH; rintro _ w ⟨oN, rfl, hH⟩ a hA) | (refine AT ?_; clear hA; rintro _ w ⟨oN, cN, rfl, hH2⟩ a hA; clear hH; have hH := (hH2 _ (by (repeat constructor))).tail; clear hH2) | (refine S0T ?_; clear hH; rintro _ w hH) | (apply st_op hA rfl rfl (by decide); apply op_append; rfl; rfl; exact hH; exact MEMT; exact (hRt _ (hK2 _ (hH.frz (by exact MEMT))).1).1; exact flat_length encC_len _; rfl; decide; exact encC_one _; (unfold maxLen; omega); omega; clear hA; rintro _ w ⟨oN, cN, rfl, hH2⟩ a hA; clear hH; have hH := hH2 _ (by (repeat constructor)); clear hH2))) | ((first | refine CT ?_ | (refine DT ?_ ?_ <;> intro hc <;> try (exfalso; omega))) <;> repeat' refine CT ?_) | (first | (refine DSK ?_; clear hA a; intro a hA) | (first | (refine DLT ?_; clear hA hH; rintro _ w ⟨oN, rfl, hH⟩; refine ⟨STT, ?_⟩; intro a hA) | (refine DAT ?_; clear hA; rintro _ w ⟨oN, cN, rfl, hH2⟩; clear hH; have hH := (hH2 _ (by (repeat constructor))).tail; clear hH2; refine ⟨STT, ?_⟩; intro a hA))) )
        rw [← flat_append, ← List.length_append] at hH
        rw [← List.length_append] at hA
        have hle3 := hH.own_le (.head _)
        refine ⟨szC ((mo ++ td).map MC.un), ⟨fun w => Rd w oN (flat encC (mo ++ td)) ∧ K2 w, oc, ob, oN, cx, bx, cN, nc, nb, mo ++ td, ⟨rfl, fun w h => ?_, fun d hd => ?_, ?_, ?_, ?_⟩, (((hH.pk 6 rfl).pk 1 rfl).frz_own.er 1).perm (by (repeat (first | exact List.Perm.refl _ | exact List.Perm.nil | refine perm_pick 0 rfl ?_ | refine perm_pick 1 rfl ?_ | refine perm_pick 2 rfl ?_ | refine perm_pick 3 rfl ?_ | refine perm_pick 4 rfl ?_ | refine perm_pick 5 rfl ?_ | refine perm_pick 6 rfl ?_ | refine perm_pick 7 rfl ?_ | refine perm_pick 8 rfl ?_ | refine perm_pick 9 rfl ?_ | refine perm_pick 10 rfl ?_ | refine perm_pick 11 rfl ?_))), (hA.sub (by (repeat (first | exact trivial | refine ⟨rfl, ?_⟩))))⟩, ?_⟩
        · have h2 := hK2 w h.2
          have h3 := hK' w h2.1
          refine ⟨h3.1, ⟨h.1, hle3.1, hle3.2, fun d hd => ?_⟩, h3.2.2⟩
          rcases List.mem_append.1 hd with hd | hd
          · exact h2.2 d hd
          · exact (hRt w h2.1).2.2.2 d hd
        · rcases List.mem_append.1 hd with hd | hd
          · have h1 : d.un ∈ chi c.q c.p.ls c.p.ps := hmo ▸ List.mem_map.2 ⟨d, hd, rfl⟩
            have h2 := chi_mem h1
            have h3 : formP d.p = true := hfk.2.2 d.p h2.2
            have h4 : szA d.p ≤ szL c.p.ps := szL_mem h2.2
            have h5 : d.q.length = c.q.length + 1 := h2.1
            exact ⟨h3, by omega⟩
          · exact hG d (.tail _ hd)
        · rw [List.map_append, szC_append]; omega
        · rw [hp1, List.map_append, plC_append, hmo, plC_chi]
        · rw [hp2, List.map_append, plC_append, hmo, plC_chi]
        · rw [List.map_append, szC_append, hmu]; omega
      · have hpl : plP c.un.1 c.un.2 = ([(c.q, c.p)], []) := plP_c c.q (by assumption) (by assumption) (by assumption) (by assumption)
        rw [hpl] at hp1 hp2
        (apply st_op hA rfl rfl (by decide); apply op_sliceLit (xs := [.slice c.o c.q.length c.c, .int .i64 c.p.k, .int .i64 c.p.v, .int .i64 c.p.n, .string c.p.s, .slice c.p.ol c.p.ls.length c.p.cl, .slice c.p.oa c.p.ps.length c.p.ca]) (vs := [.agg #[.slice c.o c.q.length c.c, .int .i64 c.p.k, .int .i64 c.p.v, .int .i64 c.p.n, .string c.p.s, .slice c.p.ol c.p.ls.length c.p.cl, .slice c.p.oa c.p.ps.length c.p.ca]]); rfl; rfl; exact (Cats.cn (cs := [.slice c.o c.q.length c.c, .int .i64 c.p.k, .int .i64 c.p.v, .int .i64 c.p.n, .string c.p.s, .slice c.p.ol c.p.ls.length c.p.cl, .slice c.p.oa c.p.ps.length c.p.ca]) Cats.nil); rfl; rfl; rfl; exact hH; clear hA hH; rintro _ w ⟨oN, rfl, hH⟩ a hA)
        repeat' (first | (first | (refine GT ?_ ?_ <;> intro hg <;> clear hA a <;> intro a hA <;> (first | exact FA | replace hg := of_decide_eq_true hg | replace hg := of_decide_eq_false hg | skip)) | (refine QT ?_; clear hA a; intro a hA) | (first | (refine BT ?_; clear hA hH; rintro _ w ⟨bN, rfl, hH⟩ a hA) | (refine LT ?_; clear hA hH; rintro _ w ⟨oN, rfl, hH⟩ a hA) | (refine AT ?_; clear hA; rintro _ w ⟨oN, cN, rfl, hH2⟩ a hA; clear hH; have hH := (hH2 _ (by (repeat constructor))).tail; clear hH2) | (refine S0T ?_; clear hH; rintro _ w hH) )) | ((first | refine CT ?_ | (refine DT ?_ ?_ <;> intro hc <;> try (exfalso; omega))) <;> repeat' refine CT ?_) | (first | (refine DSK ?_; clear hA a; intro a hA) | (first | (refine DLT ?_; clear hA hH; rintro _ w ⟨oN, rfl, hH⟩; refine ⟨STT, ?_⟩; intro a hA) | (refine DAT ?_; clear hA; rintro _ w ⟨oN, cN, rfl, hH2⟩; clear hH; have hH := (hH2 _ (by (repeat constructor))).tail; clear hH2; refine ⟨STT, ?_⟩; intro a hA))) )
        (apply st_op0 hA rfl rfl; apply op_store_fld (cs' := [.int .i64 m.n, .slice oN (nc.length + 1) cN, .slice ob (m.bs ++ nb).length bx]); rfl; rfl; rfl; exact hH; (repeat constructor); clear hH; rintro _ w hH)
        repeat' (first | (first | (refine GT ?_ ?_ <;> intro hg <;> clear hA a <;> intro a hA <;> (first | exact FA | replace hg := of_decide_eq_true hg | replace hg := of_decide_eq_false hg | skip)) | (refine QT ?_; clear hA a; intro a hA) | (first | (refine BT ?_; clear hA hH; rintro _ w ⟨bN, rfl, hH⟩ a hA) | (refine LT ?_; clear hA hH; rintro _ w ⟨oN, rfl, hH⟩ a hA) | (refine AT ?_; clear hA; rintro _ w ⟨oN, cN, rfl, hH2⟩ a hA; clear hH; have hH := (hH2 _ (by (repeat constructor))).tail; clear hH2) | (refine S0T ?_; clear hH; rintro _ w hH) )) | ((first | refine CT ?_ | (refine DT ?_ ?_ <;> intro hc <;> try (exfalso; omega))) <;> repeat' refine CT ?_) | (first | (refine DSK ?_; clear hA a; intro a hA) | (first | (refine DLT ?_; clear hA hH; rintro _ w ⟨oN, rfl, hH⟩; refine ⟨STT, ?_⟩; intro a hA) | (refine DAT ?_; clear hA; rintro _ w ⟨oN, cN, rfl, hH2⟩; clear hH; have hH := (hH2 _ (by (repeat constructor))).tail; clear hH2; refine ⟨STT, ?_⟩; intro a hA))) )
        rw [← encC_eq, ← flat_snoc, ← len_snoc nc c] at hH
        exact ⟨_, ⟨K', oN, ob, _, cN, bx, _, nc ++ [c], nb, td, ⟨rfl, fun w h => ⟨(hK' w h).1, hRt w h, fun b hb => by
          rcases List.mem_append.1 hb with hb | hb
          · exact (hK' w h).2.2.1 b hb
          · rw [List.mem_singleton] at hb; subst hb; exact hRc w h, (hK' w h).2.2.2⟩, fun d hd => hG d (.tail _ hd), by rw [List.length_append]; show _ + (_ + 1) + _ + _ ≤ _; omega, by rw [hp1, List.map_append, List.append_assoc]; rfl, hp2⟩, hH.er 0, (hA.sub (by (repeat (first | exact trivial | refine ⟨rfl, ?_⟩))))⟩, by rw [hmu]; omega⟩
  clear hA hH
  rintro a w ⟨K', oc, ob, cx, bx, nc, nb, ⟨hK', hnc, hnb⟩, hH, hA⟩
  repeat' (first | (first | (refine GT ?_ ?_ <;> intro hg <;> clear hA a <;> intro a hA <;> (first | exact FA | replace hg := of_decide_eq_true hg | replace hg := of_decide_eq_false hg | skip)) | (refine QT ?_; clear hA a; intro a hA) | (first | (refine BT ?_; clear hA hH; rintro _ w ⟨bN, rfl, hH⟩ a hA) | (refine LT ?_; clear hA hH; rintro _ w ⟨oN, rfl, hH⟩ a hA) | (refine AT ?_; clear hA; rintro _ w ⟨oN, cN, rfl, hH2⟩ a hA; clear hH; have hH := (hH2 _ (by (repeat constructor))).tail; clear hH2) | (refine S0T ?_; clear hH; rintro _ w hH) | (apply st_op0 hA rfl rfl; apply op_store_agg (vs := [.int .i64 (ML.mk m.n oc cx nc ob bx (m.bs ++ nb)).n, .slice (ML.mk m.n oc cx nc ob bx (m.bs ++ nb)).oc (ML.mk m.n oc cx nc ob bx (m.bs ++ nb)).cs.length (ML.mk m.n oc cx nc ob bx (m.bs ++ nb)).cc, .slice (ML.mk m.n oc cx nc ob bx (m.bs ++ nb)).ob (ML.mk m.n oc cx nc ob bx (m.bs ++ nb)).bs.length (ML.mk m.n oc cx nc ob bx (m.bs ++ nb)).cb]); rfl; rfl; exact hH; (repeat constructor); (repeat rfl); clear hH; rintro _ w hH))) | ((first | refine CT ?_ | (refine DT ?_ ?_ <;> intro hc <;> try (exfalso; omega))) <;> repeat' refine CT ?_) | (first | (refine DSK ?_; clear hA a; intro a hA) | (first | (refine DLT ?_; clear hA hH; rintro _ w ⟨oN, rfl, hH⟩; refine ⟨STT, ?_⟩; intro a hA) | (refine DAT ?_; clear hA; rintro _ w ⟨oN, cN, rfl, hH2⟩; clear hH; have hH := (hH2 _ (by (repeat constructor))).tail; clear hH2; refine ⟨STT, ?_⟩; intro a hA))) )
  have hleC := hH.own_le (T := 67) (xs := flat encC nc) (by exact MEMT)
  have hleB := hH.own_le (T := 72) (xs := flat encB (m.bs ++ nb)) (by exact MEMT)
  have hF := (((((hH.pk 4 rfl).pk 2 rfl).frz_own.pk 2 rfl).frz_own.er 1).er 1)
  refine rt1c (vs := [.int .i64 (ML.mk m.n oc cx nc ob bx (m.bs ++ nb)).n, .slice (ML.mk m.n oc cx nc ob bx (m.bs ++ nb)).oc (ML.mk m.n oc cx nc ob bx (m.bs ++ nb)).cs.length (ML.mk m.n oc cx nc ob bx (m.bs ++ nb)).cc, .slice (ML.mk m.n oc cx nc ob bx (m.bs ++ nb)).ob (ML.mk m.n oc cx nc ob bx (m.bs ++ nb)).bs.length (ML.mk m.n oc cx nc ob bx (m.bs ++ nb)).cb]) (.inl rfl) rfl hA rfl rfl hH (cls_cb_all (by exact MEMT)) ⟨_, ML.mk m.n oc cx nc ob bx (m.bs ++ nb), rfl, ?_, ?_, hF⟩
  · rintro w ⟨h1, h2, h3⟩
    have h4 := hK' w h3
    refine ⟨h4.1, ⟨h2, hleC.1, hleC.2, h4.2.1⟩, ⟨h1, hleB.1, hleB.2, fun b hb => ?_⟩⟩
    rcases List.mem_append.1 hb with hb | hb
    · exact (hR w h4.1).2.2.2.2 b hb
    · exact h4.2.2 b hb
  · unfold ML.un plain
    rw [List.map_append, ← hnb, ← hnc]
end Go.Proofs.Ytcododdkjppmjaa
