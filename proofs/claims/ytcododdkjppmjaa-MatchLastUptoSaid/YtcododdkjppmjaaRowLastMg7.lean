/-
  The walk over the law MatchLast, where what it is handed is not great. Conditions: none.
  The frame of a law's proof, where what is handed in is not great ('..UptoSaid'). Conditions: none.
  What the bound of '..UptoSaid' gives. Conditions: none.
-/
import Derived.Test.YtcododdkjppmjaaRowLastMg6
import Derived.Test.YtcododdkjppmjaaRowLastMg1
import Derived.JoinedCond
import Derived.Test.YtcododdkjppmjaaRows
namespace Go.Proofs.Ytcododdkjppmjaa
open Go Go.Fw
set_option linter.unusedVariables false
theorem own_rds {w : World} {o : Option Addr} {c : Nat} {l : List AP} (h : Rd w o (flat encA (l ++ [anyP]))) (h1 : (l ++ [anyP]).length ≤ c) (h2 : c ≤ maxLen) (ha : ∀ a ∈ l, RdA w a) : RdAs w o c (l ++ [anyP]) := by
  refine ⟨h, h1, h2, fun a hm => ?_⟩
  rcases List.mem_append.1 hm with hm | hm
  · exact ha a hm
  · rw [List.mem_singleton] at hm; subst hm; exact RdA_any
theorem own_rds2 {w : World} {o : Option Addr} {c : Nat} {l m : List AP} (h : Rd w o (flat encA (l ++ m))) (h1 : (l ++ m).length ≤ c) (h2 : c ≤ maxLen) (ha : ∀ a ∈ l, RdA w a) (hb : ∀ a ∈ m, RdA w a) : RdAs w o c (l ++ m) := by
  refine ⟨h, h1, h2, fun a hm => ?_⟩
  rcases List.mem_append.1 hm with hm | hm
  · exact ha a hm
  · exact hb a hm
theorem flat_app2 (a b : List AP) : [] ++ flat encA a ++ flat encA b = flat encA (a ++ b) := by rw [flat_append]; rfl
set_option maxRecDepth 10000 attribute [local irreducible] Code.wp wpList Calls Ex Op1 sat bat blk cb own Go.Fw.mp Go.Fw.mpO Go.Fw.mpI Go.Fw.mpE Go.Fw.itr HS Rd Ret wkD Hp Cl Cls Exit.then Exit.inBlock Exit.noGoto bodyPost Go.Fw.flat wk2 Go.Fw.all Go.Fw.owns wpOp
attribute [local irreducible] encA encC encB encL itF comP

set_option maxHeartbeats 8000000 in
theorem last_spec (w0 : World) (o : Option Addr) (c : Nat) (l : List AP) (hR : RdAs w0 o c l) (o2 : Option Addr) (c2 : Nat) (m : List AP) (hR2 : RdAs w0 o2 c2 m) (hl : l.length ≤ 1048576) (hm : m.length ≤ 1048576) :
    Ret Try.prog 4 #[.slice o l.length c, .slice o2 m.length c2] w0 (LawR w0) := by
  have hH : HS w0 noM [] w0 := HS.init w0 noM
  (refine enter (N := 55) Try.func4 rfl Try.ntmps4 rfl ?_; intro a hA; dsimp only [sl0, Nat.reduceAdd] at hA)
  repeat' (first | (first | (refine GT ?_ ?_ <;> intro hg <;> clear hA a <;> intro a hA <;> (first | exact FA | replace hg := of_decide_eq_true hg | replace hg := of_decide_eq_false hg | skip)) | (refine QT ?_; clear hA a; intro a hA) | (first | (refine BT ?_; clear hA hH; rintro _ w ⟨bN, rfl, hH⟩ a hA) | (refine LT ?_; clear hA hH; rintro _ w ⟨oN, rfl, hH⟩ a hA) | (refine AT ?_; clear hA; rintro _ w ⟨oN, cN, rfl, hH2⟩ a hA; clear hH; have hH := (hH2 _ (by (repeat constructor))).tail; clear hH2) | (refine S0T ?_; clear hH; rintro _ w hH) )) | ((first | refine CT ?_ | (refine DT ?_ ?_ <;> intro hc <;> try (exfalso; omega))) <;> repeat' refine CT ?_) | (first | (refine DSK ?_; clear hA a; intro a hA) | (first | (refine DLT ?_; clear hA hH; rintro _ w ⟨oN, rfl, hH⟩; refine ⟨STT, ?_⟩; intro a hA) | (refine DAT ?_; clear hA; rintro _ w ⟨oN, cN, rfl, hH2⟩; clear hH; have hH := (hH2 _ (by (repeat constructor))).tail; clear hH2; refine ⟨STT, ?_⟩; intro a hA))) )
  (refine st_op hA rfl rfl (by decide) (op_call rfl rfl rfl (awake_spec _)) ?_; clear hA; rintro _ w ⟨rfl, hk⟩ a hA; replace hH := hH.keep hk; clear hk)
  repeat' (first | (first | (refine GT ?_ ?_ <;> intro hg <;> clear hA a <;> intro a hA <;> (first | exact FA | replace hg := of_decide_eq_true hg | replace hg := of_decide_eq_false hg | skip)) | ((first | apply st_ex hA hH rfl rfl (by decide) | apply dr_ex hA rfl rfl rfl (by decide) | apply dr_exp hA rfl rfl rfl (by decide) | apply dr_ex3 hA hH rfl rfl rfl (by decide)); (first | (apply ex_build_p #[.int .i64 anyP.k, .int .i64 anyP.v, .int .i64 anyP.n, .string anyP.s, .slice anyP.ol anyP.ls.length anyP.cl, .slice anyP.oa anyP.ps.length anyP.ca]; rfl; (repeat (first | (intro _ h; exact absurd h (List.not_mem_nil)) | (refine List.forall_mem_cons.2 ⟨one_cell_of _ _, ?_⟩))); rfl)); clear hA a; intro a hA) | (refine QT ?_; clear hA a; intro a hA) | (first | (refine BT ?_; clear hA hH; rintro _ w ⟨bN, rfl, hH⟩ a hA) | (refine LT ?_; clear hA hH; rintro _ w ⟨oN, rfl, hH⟩ a hA) | (refine AT ?_; clear hA; rintro _ w ⟨oN, cN, rfl, hH2⟩ a hA; clear hH; have hH := (hH2 _ (by (repeat constructor))).tail; clear hH2) | (refine S0T ?_; clear hH; rintro _ w hH) | (apply st_op hA rfl rfl (by decide); apply op_append; rfl; rfl; exact hH; exact MEMT; exact (hR.keep hH.kp).1; exact flat_length encA_len _; rfl; decide; exact encA_one _; (unfold maxLen; omega); omega; clear hA; rintro _ w ⟨oN, cN, rfl, hH2⟩ a hA; clear hH; have hH := hH2 _ (by (repeat constructor)); clear hH2))) | ((first | refine CT ?_ | (refine DT ?_ ?_ <;> intro hc <;> try (exfalso; omega))) <;> repeat' refine CT ?_) | (first | (refine DSK ?_; clear hA a; intro a hA) | (first | (refine DLT ?_; clear hA hH; rintro _ w ⟨oN, rfl, hH⟩; refine ⟨STT, ?_⟩; intro a hA) | (refine DAT ?_; clear hA; rintro _ w ⟨oN, cN, rfl, hH2⟩; clear hH; have hH := (hH2 _ (by (repeat constructor))).tail; clear hH2; refine ⟨STT, ?_⟩; intro a hA))) )
  (apply st_op hA rfl rfl (by decide); apply op_sliceLit (xs := [.int .i64 anyP.k, .int .i64 anyP.v, .int .i64 anyP.n, .string anyP.s, .slice anyP.ol anyP.ls.length anyP.cl, .slice anyP.oa anyP.ps.length anyP.ca]) (vs := [.agg #[.int .i64 anyP.k, .int .i64 anyP.v, .int .i64 anyP.n, .string anyP.s, .slice anyP.ol anyP.ls.length anyP.cl, .slice anyP.oa anyP.ps.length anyP.ca]]); rfl; rfl; exact (Cats.cn (cs := [.int .i64 anyP.k, .int .i64 anyP.v, .int .i64 anyP.n, .string anyP.s, .slice anyP.ol anyP.ls.length anyP.cl, .slice anyP.oa anyP.ps.length anyP.ca]) Cats.nil); rfl; rfl; rfl; exact hH; clear hA hH; rintro _ w ⟨oN, rfl, hH⟩ a hA)
  repeat' (first | (first | (refine GT ?_ ?_ <;> intro hg <;> clear hA a <;> intro a hA <;> (first | exact FA | replace hg := of_decide_eq_true hg | replace hg := of_decide_eq_false hg | skip)) | (refine QT ?_; clear hA a; intro a hA) | (first | (refine BT ?_; clear hA hH; rintro _ w ⟨bN, rfl, hH⟩ a hA) | (refine LT ?_; clear hA hH; rintro _ w ⟨oN, rfl, hH⟩ a hA) | (refine AT ?_; clear hA; rintro _ w ⟨oN, cN, rfl, hH2⟩ a hA; clear hH; have hH := (hH2 _ (by (repeat constructor))).tail; clear hH2) | (refine S0T ?_; clear hH; rintro _ w hH) )) | ((first | refine CT ?_ | (refine DT ?_ ?_ <;> intro hc <;> try (exfalso; omega))) <;> repeat' refine CT ?_) | (first | (refine DSK ?_; clear hA a; intro a hA) | (first | (refine DLT ?_; clear hA hH; rintro _ w ⟨oN, rfl, hH⟩; refine ⟨STT, ?_⟩; intro a hA) | (refine DAT ?_; clear hA; rintro _ w ⟨oN, cN, rfl, hH2⟩; clear hH; have hH := (hH2 _ (by (repeat constructor))).tail; clear hH2; refine ⟨STT, ?_⟩; intro a hA))) )
  have e1 : 0 + l.length + 1 = (l ++ [anyP]).length := by rw [List.length_append]; show _ = _ + 1; omega
  have hLl : (l ++ [anyP]).length = l.length + 1 := by rw [List.length_append]; rfl
  rw [e1] at hA hH
  rw [← encA_eq anyP, ← flat_one encA anyP, flat_app2] at hH
  obtain ⟨oL, hoL⟩ : ∃ b, b = oN := ⟨_, rfl⟩
  obtain ⟨cL, hcL⟩ : ∃ b, b = cN := ⟨_, rfl⟩
  rw [← hoL, ← hcL] at hA hH
  clear hoL oN hcL cN e1
  have hle := hH.own_le (.head _)
  have hRL : RdAs w oL cL (l ++ [anyP]) := own_rds (hH.own_rd (.head _)) hle.1 hle.2 (hR.keep hH.kp).2.2.2
  (refine st_op hA rfl rfl (by decide) (op_call rfl rfl rfl (compile_spec _ oL cL (l ++ [anyP]) hRL)) ?_; clear hA hRL; rintro _ w ⟨ta, rfl, hta, hj⟩ a hA; replace hH := hH.join hj; clear hj)
  repeat' (first | (first | (refine GT ?_ ?_ <;> intro hg <;> clear hA a <;> intro a hA <;> (first | exact FA | replace hg := of_decide_eq_true hg | replace hg := of_decide_eq_false hg | skip)) | (refine QT ?_; clear hA a; intro a hA) | (first | (refine BT ?_; clear hA hH; rintro _ w ⟨bN, rfl, hH⟩ a hA) | (refine LT ?_; clear hA hH; rintro _ w ⟨oN, rfl, hH⟩ a hA) | (refine AT ?_; clear hA; rintro _ w ⟨oN, cN, rfl, hH2⟩ a hA; clear hH; have hH := (hH2 _ (by (repeat constructor))).tail; clear hH2) | (refine S0T ?_; clear hH; rintro _ w hH) | (apply st_op0 hA rfl rfl; apply op_store_agg (vs := encT ta); rfl; rfl; exact hH; (repeat constructor); (repeat rfl); clear hH; rintro _ w hH) | (apply st_op hA rfl rfl (by decide); apply op_append; rfl; rfl; exact hH; exact MEMT; exact (hH.own_rd (by exact MEMT)); exact flat_length encA_len _; rfl; decide; exact encA_one _; (unfold maxLen; omega); omega; clear hA; rintro _ w ⟨oN, cN, rfl, hH2⟩ a hA; clear hH; have hH := hH2 _ (by (repeat constructor)); clear hH2) | (apply st_op hA rfl rfl (by decide); apply op_append; rfl; rfl; exact hH; exact MEMT; exact (hR2.keep hH.kp).1; exact flat_length encA_len _; rfl; decide; exact encA_one _; (unfold maxLen; omega); omega; clear hA; rintro _ w ⟨oN, cN, rfl, hH2⟩ a hA; clear hH; have hH := hH2 _ (by (repeat constructor)); clear hH2))) | ((first | refine CT ?_ | (refine DT ?_ ?_ <;> intro hc <;> try (exfalso; omega))) <;> repeat' refine CT ?_) | (first | (refine DSK ?_; clear hA a; intro a hA) | (first | (refine DLT ?_; clear hA hH; rintro _ w ⟨oN, rfl, hH⟩; refine ⟨STT, ?_⟩; intro a hA) | (refine DAT ?_; clear hA; rintro _ w ⟨oN, cN, rfl, hH2⟩; clear hH; have hH := (hH2 _ (by (repeat constructor))).tail; clear hH2; refine ⟨STT, ?_⟩; intro a hA))) )
  have e2 : 0 + (l ++ [anyP]).length + m.length = (l ++ [anyP] ++ m).length := by have := @List.length_append _ (l ++ [anyP]) m; omega
  rw [e2] at hA hH
  rw [flat_app2] at hH
  obtain ⟨oM, hoM⟩ : ∃ b, b = oN := ⟨_, rfl⟩
  obtain ⟨cM, hcM⟩ : ∃ b, b = cN := ⟨_, rfl⟩
  obtain ⟨b6, hb6⟩ : ∃ b, b = bN := ⟨_, rfl⟩
  rw [← hoM, ← hcM, ← hb6] at hA hH
  clear hoM oN hcM cN hb6 bN e2
  have hle2 := hH.own_le (.head _)
  have hRM : RdAs w oM cM (l ++ [anyP] ++ m) := own_rds2 (hH.own_rd (.head _)) hle2.1 hle2.2 (fun a ha => by
    rcases List.mem_append.1 ha with ha | ha
    · exact (hR.keep hH.kp).2.2.2 a ha
    · rw [List.mem_singleton] at ha; subst ha; exact RdA_any) (hR2.keep hH.kp).2.2.2
  (refine st_op hA rfl rfl (by decide) (op_call rfl rfl rfl (compile_spec _ oM cM (l ++ [anyP] ++ m) hRM)) ?_; clear hA hRM; rintro _ w ⟨tb, rfl, htb, hj⟩ a hA; replace hH := hH.join hj; clear hj)
  repeat' (first | (first | (refine GT ?_ ?_ <;> intro hg <;> clear hA a <;> intro a hA <;> (first | exact FA | replace hg := of_decide_eq_true hg | replace hg := of_decide_eq_false hg | skip)) | (refine QT ?_; clear hA a; intro a hA) | (first | (refine BT ?_; clear hA hH; rintro _ w ⟨bN, rfl, hH⟩ a hA) | (refine LT ?_; clear hA hH; rintro _ w ⟨oN, rfl, hH⟩ a hA) | (refine AT ?_; clear hA; rintro _ w ⟨oN, cN, rfl, hH2⟩ a hA; clear hH; have hH := (hH2 _ (by (repeat constructor))).tail; clear hH2) | (refine S0T ?_; clear hH; rintro _ w hH) | (apply st_op0 hA rfl rfl; apply op_store_agg (vs := encT tb); rfl; rfl; exact hH; (repeat constructor); (repeat rfl); clear hH; rintro _ w hH))) | ((first | refine CT ?_ | (refine DT ?_ ?_ <;> intro hc <;> try (exfalso; omega))) <;> repeat' refine CT ?_) | (first | (refine DSK ?_; clear hA a; intro a hA) | (first | (refine DLT ?_; clear hA hH; rintro _ w ⟨oN, rfl, hH⟩; refine ⟨STT, ?_⟩; intro a hA) | (refine DAT ?_; clear hA; rintro _ w ⟨oN, cN, rfl, hH2⟩; clear hH; have hH := (hH2 _ (by (repeat constructor))).tail; clear hH2; refine ⟨STT, ?_⟩; intro a hA))) )
  · exact rt1 (.inl rfl) rfl hA rfl ⟨rfl, hH.kp⟩
  · exact rt1 (.inl rfl) rfl hA rfl ⟨rfl, hH.kp⟩
  obtain ⟨hva, hvb, hn1, hn2, hn3⟩ := last_law l m (by omega) (by omega)
  rw [← hta] at hva hn1 hn3
  rw [← htb] at hvb hn1 hn2
  (refine wp_draw_HS [(0, 1), (2, 1), (1, 0), (3, 0), (4, 1), (5, 1), (6, 1), (7, 1), (8, 1), (9, 0), (10, 1), (11, 1), (12, 1), (13, 1), (14, 1), (15, 0), (16, 1), (17, 1)] mixed (by decide +kernel) hH ?_; replace hH := hH.drew)
  repeat' (first | (first | (refine GT ?_ ?_ <;> intro hg <;> clear hA a <;> intro a hA <;> (first | exact FA | replace hg := of_decide_eq_true hg | replace hg := of_decide_eq_false hg | skip)) | (refine QT ?_; clear hA a; intro a hA) | (first | (refine BT ?_; clear hA hH; rintro _ w ⟨bN, rfl, hH⟩ a hA) | (refine LT ?_; clear hA hH; rintro _ w ⟨oN, rfl, hH⟩ a hA) | (refine AT ?_; clear hA; rintro _ w ⟨oN, cN, rfl, hH2⟩ a hA; clear hH; have hH := (hH2 _ (by (repeat constructor))).tail; clear hH2) | (refine S0T ?_; clear hH; rintro _ w hH) )) | ((first | refine CT ?_ | (refine DT ?_ ?_ <;> intro hc <;> try (exfalso; omega))) <;> repeat' refine CT ?_) | (first | (refine DSK ?_; clear hA a; intro a hA) | (first | (refine DLT ?_; clear hA hH; rintro _ w ⟨oN, rfl, hH⟩; refine ⟨STT, ?_⟩; intro a hA) | (refine DAT ?_; clear hA; rintro _ w ⟨oN, cN, rfl, hH2⟩; clear hH; have hH := (hH2 _ (by (repeat constructor))).tail; clear hH2; refine ⟨STT, ?_⟩; intro a hA))) )
  (refine dr_op hA rfl rfl rfl (by decide) (op_call rfl rfl rfl (count_spec _ tb (Nat.lt_succ_self _) _ 4096 (HS.rdT hH (.tail _ (.head _))) (by omega) (by decide))) ?_; clear hA; rintro _ w ⟨rfl, hk⟩; refine ⟨hH.keep hk, ?_⟩; intro a hA)
  replace hH := hH.keep hk
  clear hk
  (refine dr_op hA rfl rfl rfl (by decide) (op_call rfl rfl rfl (count_spec _ ta (Nat.lt_succ_self _) _ 4096 (HS.rdT hH (.tail _ (.tail _ (.tail _ (.tail _ (.head _)))))) (by omega) (by decide))) ?_; clear hA; rintro _ w ⟨rfl, hk⟩; refine ⟨hH.keep hk, ?_⟩; intro a hA)
  replace hH := hH.keep hk
  clear hk
  repeat' (first | (first | (refine GT ?_ ?_ <;> intro hg <;> clear hA a <;> intro a hA <;> (first | exact FA | replace hg := of_decide_eq_true hg | replace hg := of_decide_eq_false hg | skip)) | (refine QT ?_; clear hA a; intro a hA) | (first | (refine BT ?_; clear hA hH; rintro _ w ⟨bN, rfl, hH⟩ a hA) | (refine LT ?_; clear hA hH; rintro _ w ⟨oN, rfl, hH⟩ a hA) | (refine AT ?_; clear hA; rintro _ w ⟨oN, cN, rfl, hH2⟩ a hA; clear hH; have hH := (hH2 _ (by (repeat constructor))).tail; clear hH2) | (refine S0T ?_; clear hH; rintro _ w hH) )) | ((first | refine CT ?_ | (refine DT ?_ ?_ <;> intro hc <;> try (exfalso; omega))) <;> repeat' refine CT ?_) | (first | (refine DSK ?_; clear hA a; intro a hA) | (first | (refine DLT ?_; clear hA hH; rintro _ w ⟨oN, rfl, hH⟩; refine ⟨STT, ?_⟩; intro a hA) | (refine DAT ?_; clear hA; rintro _ w ⟨oN, cN, rfl, hH2⟩; clear hH; have hH := (hH2 _ (by (repeat constructor))).tail; clear hH2; refine ⟨STT, ?_⟩; intro a hA))) )
  (refine dr_op hA rfl rfl rfl (by decide) (op_call rfl rfl rfl (leaves_spec _ _ tb (Nat.lt_succ_self _) _ (HS.rdT hH (.tail _ (.head _))) hvb)) ?_; clear hA; rintro _ w ⟨rfl, hk⟩; refine ⟨hH.keep hk, ?_⟩; intro a hA)
  replace hH := hH.keep hk
  clear hk
  repeat' (first | (first | (refine GT ?_ ?_ <;> intro hg <;> clear hA a <;> intro a hA <;> (first | exact FA | replace hg := of_decide_eq_true hg | replace hg := of_decide_eq_false hg | skip)) | (refine QT ?_; clear hA a; intro a hA) | (first | (refine BT ?_; clear hA hH; rintro _ w ⟨bN, rfl, hH⟩ a hA) | (refine LT ?_; clear hA hH; rintro _ w ⟨oN, rfl, hH⟩ a hA) | (refine AT ?_; clear hA; rintro _ w ⟨oN, cN, rfl, hH2⟩ a hA; clear hH; have hH := (hH2 _ (by (repeat constructor))).tail; clear hH2) | (refine S0T ?_; clear hH; rintro _ w hH) )) | ((first | refine CT ?_ | (refine DT ?_ ?_ <;> intro hc <;> try (exfalso; omega))) <;> repeat' refine CT ?_) | (first | (refine DSK ?_; clear hA a; intro a hA) | (first | (refine DLT ?_; clear hA hH; rintro _ w ⟨oN, rfl, hH⟩; refine ⟨STT, ?_⟩; intro a hA) | (refine DAT ?_; clear hA; rintro _ w ⟨oN, cN, rfl, hH2⟩; clear hH; have hH := (hH2 _ (by (repeat constructor))).tail; clear hH2; refine ⟨STT, ?_⟩; intro a hA))) )
  (refine dr_op hA rfl rfl rfl (by decide) (op_call rfl rfl rfl (leaves_spec _ _ ta (Nat.lt_succ_self _) _ (HS.rdT hH (.tail _ (.tail _ (.tail _ (.tail _ (.head _)))))) hva)) ?_; clear hA; rintro _ w ⟨rfl, hk⟩; refine ⟨hH.keep hk, ?_⟩; intro a hA)
  replace hH := hH.keep hk
  clear hk
  repeat' (first | (first | (refine GT ?_ ?_ <;> intro hg <;> clear hA a <;> intro a hA <;> (first | exact FA | replace hg := of_decide_eq_true hg | replace hg := of_decide_eq_false hg | skip)) | (refine QT ?_; clear hA a; intro a hA) | (first | (refine BT ?_; clear hA hH; rintro _ w ⟨bN, rfl, hH⟩ a hA) | (refine LT ?_; clear hA hH; rintro _ w ⟨oN, rfl, hH⟩ a hA) | (refine AT ?_; clear hA; rintro _ w ⟨oN, cN, rfl, hH2⟩ a hA; clear hH; have hH := (hH2 _ (by (repeat constructor))).tail; clear hH2) | (refine S0T ?_; clear hH; rintro _ w hH) )) | ((first | refine CT ?_ | (refine DT ?_ ?_ <;> intro hc <;> try (exfalso; omega))) <;> repeat' refine CT ?_) | (first | (refine DSK ?_; clear hA a; intro a hA) | (first | (refine DLT ?_; clear hA hH; rintro _ w ⟨oN, rfl, hH⟩; refine ⟨STT, ?_⟩; intro a hA) | (refine DAT ?_; clear hA; rintro _ w ⟨oN, cN, rfl, hH2⟩; clear hH; have hH := (hH2 _ (by (repeat constructor))).tail; clear hH2; refine ⟨STT, ?_⟩; intro a hA))) )
  exact rt1 (.inl rfl) rfl hA rfl ⟨rfl, hH.kp⟩
end Go.Proofs.Ytcododdkjppmjaa
namespace Go.Fw
open Go Go.ChangeShapes Go.WideShapes Go.ChangeAt Go.RowKit
set_option linter.unusedVariables false
section
variable {H : Type} {enc : TypeId × Value → H}
theorem law_lifted_upto {C : Checked} {os : Os} {f : FuncId} {fn : Func} {s : ChangeSpec} {k : (H : Type) → List (DataW H) → Bool} {F : Stop.Interp} {conds : List PathCond} {tb : TypeId}
    (own : ownKnob C.prog.godebug = none) (started : os.Started) (noInit : C.prog.inits.idxOf? f = none) (hfn : C.prog.funcs[f]? = some fn)
    (witness : ∃ (w : World) (tape : Tape) (i : Input), w.os = os ∧ (w.forCall tape i).Shaped C.prog ∧ i.vars = [] ∧ Input.okWide C.prog (w.forCall tape i) .any w.heap.size f i ∧
      ({ OpenSpec.ofChange s with cond := some k } : OpenSpec).pre6 enc C.prog fn conds false (w.forCall tape i).memory i.args ∧ ({} : Assume).holds C.prog (lone (Frame.enter C.prog f i.args .normal) [] (w.forCall tape i)))
    (hl : laidOutB C.prog = true) (hrd : fn.params.toList.all (fun t => C.prog.readableRec t && decide (t < C.prog.types.size)) = true) (hv : s.vars = [])
    (hs : ∀ ds : List (DataW H), ds.length = fn.params.size → (s.fn H (ds ++ [])).results = [.lit (.bool true)] ∧ (s.fn H (ds ++ [])).args = ds ∧ (s.fn H (ds ++ [])).vars = [])
    (hrt : fn.resultTypes = #[tb]) (hb : C.prog.underlying tb = some .bool)
    (walk : ∀ (W : World) (base : Nat) (args : Array Value) (ds : List (DataW H)) (p : List MemPlace),
      (∀ (j : Nat) t v, fn.params[j]? = some t → args[j]? = some v → Value.okWide C.prog W .any base t v) →
      DataW.TrodAll enc C.prog W 0 (fun _ => true) true fn.params.toList args.toList ds p → (∃ gs, k H (ds ++ gs) = true) → Ret C.prog f args W (LawR W)) :
    ReturnsInHanded {} C os f .any (({ OpenSpec.ofChange s with cond := some k } : OpenSpec).pre6 enc C.prog fn conds false) ((({ OpenSpec.ofChange s with cond := some k } : OpenSpec).at F).post enc C.prog fn false true false false) := by
  refine returnsInHanded_of_cond (s := { OpenSpec.ofChange s with cond := some k }) (k := k) rfl own started noInit hfn witness ?_
  intro W base args ds gs before hval hW _ hk _
  have hA := hW
  obtain ⟨p, q, hA, _⟩ := hA
  refine Calls.mono (walk W base args ds p hval hA ⟨gs, hk⟩) ?_
  rintro e W' ⟨v, rfl, rfl, hk⟩
  exact ⟨_, rfl, law_post hl hrd hv hs hrt hb hW hk⟩
theorem trod_slice_len {P : Program} {w : World} {base : Nat} {spare : Nat → Bool} {held : Bool} {t e : TypeId} {o : Option Addr} {n c : Nat} {d : DataW H} {p : List MemPlace} (ht : P.underlying t = some (.slice e)) (h : DataW.Trod enc P w base spare held t (.slice o n c) d p) :
    n = 0 ∨ ∃ elems rest, d = .slice elems rest ∧ n = elems.length := by
  obtain ⟨fuel, hf⟩ := h
  rcases DataW.trod_slice ht hf with ⟨hc, _⟩ | ⟨a, len, cap, elems, rest, n', _, hc, hx, _, _, _, hl, _⟩
  · simp [Value.cells] at hc
    exact .inl hc.2.1
  · simp [Value.cells] at hc
    have := congrArg Prod.fst hx
    exact .inr ⟨_, _, this, by rw [List.length_map]; omega⟩
end
end Go.Fw
namespace Go.Proofs.Ytcododdkjppmjaa
open Go Go.Fw
set_option linter.unusedVariables false
theorem bulk_pos {H : Type} (d : DataW H) : 1 ≤ Rows.uptoBulk d := by
  cases d with
  | lit l => cases l <;> simp [Rows.uptoBulk]
  | _ => simp [Rows.uptoBulk]
theorem bulk_mem {H : Type} {d : DataW H} : ∀ {l : List (DataW H)}, d ∈ l → Rows.uptoBulk d ≤ Rows.uptoBulkAll l
  | x :: l, h => by
    rw [Rows.uptoBulkAll]
    rcases List.mem_cons.1 h with rfl | h
    · omega
    · have := bulk_mem h; omega
theorem bulk_len {H : Type} : ∀ (l : List (DataW H)), l.length ≤ Rows.uptoBulkAll l
  | [] => Nat.zero_le _
  | x :: l => by
    rw [Rows.uptoBulkAll, List.length_cons]
    have := bulk_pos x
    have := bulk_len l
    omega
theorem bulk_of {H : Type} {ds : List (DataW H)} {d : DataW H} (hk : ∃ gs, Rows.uptoSmall H (ds ++ gs) = true) (hd : d ∈ ds) : Rows.uptoBulk d ≤ 1048576 := by
  obtain ⟨gs, hk⟩ := hk
  have h : Rows.uptoBulkAll (ds ++ gs) ≤ 1048576 := of_decide_eq_true hk
  have := bulk_mem (List.mem_append_left gs hd)
  omega
theorem bulk_slice {H : Type} {elems rest : List (DataW H)} : elems.length ≤ Rows.uptoBulk (.slice elems rest) := by
  rw [Rows.uptoBulk]
  have := bulk_len elems
  omega
theorem bulk_arg {H : Type} {enc : TypeId × Value → H} {P : Program} {w : World} {base : Nat} {spare : Nat → Bool} {held : Bool} {t e : TypeId} {o : Option Addr} {n c : Nat} {d : DataW H} {p : List MemPlace} {ds : List (DataW H)}
    (ht : P.underlying t = some (.slice e)) (h : DataW.Trod enc P w base spare held t (.slice o n c) d p) (hd : d ∈ ds) (hk : ∃ gs, Rows.uptoSmall H (ds ++ gs) = true) : n ≤ 1048576 := by
  rcases trod_slice_len ht h with rfl | ⟨elems, rest, rfl, rfl⟩
  · exact Nat.zero_le _
  · exact Nat.le_trans bulk_slice (bulk_of hk hd)
end Go.Proofs.Ytcododdkjppmjaa
