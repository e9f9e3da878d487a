/-
  The law's awake. Conditions: none.
  The sets of a graph exist. Conditions: none.
  The walk over the law AllocRight. Conditions: none.
  Numbered variables are right; without the first they are not. Conditions: none.
  The walk over the law AllocUnlike. Conditions: none.
  The walk over the law AllocMore. Conditions: none.
  The walk over the law AllocColours. Conditions: none.
  The walk over the law AllocNeeds. Conditions: none.
  What the bound of '..UptoSaid' gives. Conditions: none.
  What is handed in, taken apart, with what the bound of '..UptoSaid' gives. Conditions: none.
  Graphs and registers handed in. Conditions: none.
-/
import Derived.Test.YtjfanjcoppeeaaaRowMoreMg8
import Derived.Test.YtjfanjcoppeeaaaRows
import Derived.Test.YtjfanjcoppeeaaaRowMoreMg1
import Derived.Test.YtjfanjcoppeeaaaRowMoreMg2
namespace Go.Proofs.Ytjfanjcoppeeaaa
open Go Go.Fw
set_option linter.unusedVariables false
theorem flat2 (a b : Blc) : encBl a ++ (encBl b ++ []) = flat encBl [a, b] := rfl
theorem rd_nil (w : World) : Rd w none [] := ((HS.init w noM).nil_own 0 1).own_rd (.head _)
theorem grA_rd {w' : World} {oB oI oA oE oR : Option Addr} (rB : Rd w' oB (flat encBl [blk00 oI oA oE, blk01 oR])) (rR : Rd w' oR [.int .i64 1, .int .i64 2]) (rE : Rd w' oE (encEd ⟨1, nilV⟩)) (rI : Rd w' oI (encIn (ins00 oA))) (rA : Rd w' oA [.int .i64 1, .int .i64 1, .int .i64 1, .int .i64 1]) : RdG w' (grA oB oI oA oE oR) := by
  have hml : (2 : Nat) ≤ maxLen := by unfold maxLen; omega
  have hml1 : (1 : Nat) ≤ maxLen := by unfold maxLen; omega
  have hnl : (0 : Nat) ≤ maxLen := Nat.zero_le _
  have rN : ∀ {α : Type} (enc : α → List Value), RdV w' enc nilV := fun enc => ⟨rd_nil w', Nat.le_refl _, hnl⟩
  refine ⟨⟨rB, Nat.le_refl _, hml⟩, fun b hb => ?_⟩
  have hb2 : b ∈ [blk00 oI oA oE, blk01 oR] := hb
  simp only [List.mem_cons, List.not_mem_nil, or_false] at hb2
  rcases hb2 with rfl | rfl
  · refine ⟨rN _, ⟨rI, Nat.le_refl _, hml1⟩, fun x hx => ?_, rN _, rN _, ⟨rE, Nat.le_refl _, hml1⟩, fun x hx => ?_⟩
    · have hx2 : x ∈ [ins00 oA] := hx
      rw [List.mem_singleton] at hx2
      subst hx2
      exact ⟨rN _, ⟨rA, Nat.le_refl _, hml⟩⟩
    · have hx2 : x ∈ [(⟨1, nilV⟩ : Edg)] := hx
      rw [List.mem_singleton] at hx2
      subst hx2
      exact rN _
  · exact ⟨rN _, rN _, fun x hx => absurd hx List.not_mem_nil, ⟨rR, Nat.le_refl _, hml1⟩, rN _, rN _, fun x hx => absurd hx List.not_mem_nil⟩
theorem own2 (T : Nat) (d0 d1 : Sd) (r0 r1 : List Int) : owns T 1 Fw.encI [d0, d1] [r0, r1] = [own T 1 d0.1 d0.2.1 d0.2.2 (flat Fw.encI r0), own T 1 d1.1 d1.2.1 d1.2.2 (flat Fw.encI r1)] := rfl
theorem two_list {α : Type} {l : List α} (h : l.length = 2) : ∃ a b, l = [a, b] := by
  match l, h with
  | [a, b], _ => exact ⟨a, b, rfl⟩
theorem live_rows {oB oI oA oE oR : Option Addr} {ss : List (Option (Nat × List Int))} {rows : List (List Int)} (hF : ∀ n, FixAt (grA oB oI oA oE oR) ss n) (hsl : ss.length = 2) (h : LiveOk ss rows) (hl : rows.length = 2) : rows = [[1], [2]] := by
  obtain ⟨r0, r1, rfl⟩ := two_list hl
  have h0 := h 0 r0 rfl
  have h1 := h 1 r1 rfl
  rw [one_list h0.2.2 fun x => (h0.1 x).trans (grA_0 hF hsl x), one_list h1.2.2 fun x => (h1.1 x).trans (grA_1 hF x)]
theorem sd_at0 (d0 d1 : Sd) : (flat Fw.encS [d0, d1])[Int.toNat 0 * 1]? = some (.slice d0.1 d0.2.1 d0.2.2) := rfl
theorem sd_at1 (d0 d1 : Sd) : (flat Fw.encS [d0, d1])[Int.toNat 1 * 1]? = some (.slice d1.1 d1.2.1 d1.2.2) := rfl
theorem int_at0 (n : Int) : (flat Fw.encI [n])[Int.toNat 0 * 1]? = some (.int .i64 n) := rfl
theorem flatI_l1 (n : Int) : (flat Fw.encI [n]).length = 1 := rfl
theorem regs3 {oB oI oA oE oR : Option Addr} (m : List (Int × Int)) : (regsOf (srt (varsL (grA oB oI oA oE oR).bs.l)) m).length = 3 := by rw [regsOf_len, srt_len]; rfl
theorem flatR_n : flat encR [] = [] := rfl
set_option maxRecDepth 10000 attribute [local irreducible] Code.wp wpList Calls Ex Op1 sat bat blk cb own Go.Fw.mp Go.Fw.mpO Go.Fw.mpI Go.Fw.mpE Go.Fw.itr HS Rd Ret wkD Hp Cl Cls Exit.then Exit.inBlock Exit.noGoto bodyPost Go.Fw.flat wk2 Go.Fw.all Go.Fw.owns wpOp
attribute [local irreducible] sk mpK srt sko mvO entK geS GOk RightP regsOf varsL prs slots

set_option maxHeartbeats 16000000 in
theorem awake_spec (w0 : World) : Ret Try.prog 8 #[] w0 (fun v w => v = .bool true ∧ Kp w0 noM w) := by
  have hH : HS w0 noM [] w0 := HS.init w0 noM
  (refine enter (N := 91) Try.func8 rfl Try.ntmps8 rfl ?_; intro a hA; dsimp only [sl0, Nat.reduceAdd] at hA)
  repeat' (first | (first | (refine GT ?_ ?_ <;> intro hg <;> clear hA a <;> intro a hA <;> (first | exact FA | replace hg := of_decide_eq_true hg | replace hg := of_decide_eq_false hg | skip)) | (refine QT ?_; clear hA a; intro a hA) | (first | (refine BT ?_; clear hA hH; rintro _ w ⟨bN, rfl, hH⟩ a hA) | (refine LT ?_; clear hA hH; rintro _ w ⟨oN, rfl, hH⟩ a hA) | (refine AT ?_; clear hA; rintro _ w ⟨oN, cN, rfl, hH2⟩ a hA; clear hH; have hH := (hH2 _ (by (repeat constructor))).tail; clear hH2) | (refine S0T ?_; clear hH; rintro _ w hH) | (refine st_op hA rfl rfl (by decide) (op_call rfl rfl rfl (v_spec _ _)) ?_; clear hA; rintro _ w ⟨rfl, hk⟩ a hA; replace hH := hH.keep hk; clear hk))) | ((first | refine CT ?_ | (refine DT ?_ ?_ <;> intro hc <;> try (exfalso; omega))) <;> repeat' refine CT ?_) | (first | (refine DSK ?_; clear hA a; intro a hA) | (first | (refine DLT ?_; clear hA hH; rintro _ w ⟨oN, rfl, hH⟩; refine ⟨STT, ?_⟩; intro a hA) | (refine DAT ?_; clear hA; rintro _ w ⟨oN, cN, rfl, hH2⟩; clear hH; have hH := (hH2 _ (by (repeat constructor))).tail; clear hH2; refine ⟨STT, ?_⟩; intro a hA))) )
  obtain ⟨oA, hoA⟩ : ∃ x, x = oN := ⟨_, rfl⟩
  rw [← hoA] at hA hH
  clear hoA oN
  repeat' (first | (first | (refine GT ?_ ?_ <;> intro hg <;> clear hA a <;> intro a hA <;> (first | exact FA | replace hg := of_decide_eq_true hg | replace hg := of_decide_eq_false hg | skip)) | ((first | apply st_ex hA hH rfl rfl (by decide) | apply dr_ex hA rfl rfl rfl (by decide) | apply dr_exp hA rfl rfl rfl (by decide) | apply dr_ex3 hA hH rfl rfl rfl (by decide)); (first | (apply ex_build_p (cs := (encSt (ins00 oA).r).toArray); rfl; (repeat (first | (intro _ h; exact absurd h (List.not_mem_nil)) | (refine List.forall_mem_cons.2 ⟨one_cell_of _ _, ?_⟩))); rfl) | (apply ex_build (szs := [(0, 1), (1, 4)]) (cs := (encIn (ins00 oA)).toArray); exact run_szl (by (repeat (first | exact SzL.nil | refine SzL.cons ⟨_, rfl, by decide⟩ ?_))); rfl; rfl)); clear hA a; intro a hA) | (refine QT ?_; clear hA a; intro a hA) | (first | (refine BT ?_; clear hA hH; rintro _ w ⟨bN, rfl, hH⟩ a hA) | (refine LT ?_; clear hA hH; rintro _ w ⟨oN, rfl, hH⟩ a hA) | (refine AT ?_; clear hA; rintro _ w ⟨oN, cN, rfl, hH2⟩ a hA; clear hH; have hH := (hH2 _ (by (repeat constructor))).tail; clear hH2) | (refine S0T ?_; clear hH; rintro _ w hH) | (apply st_op hA rfl rfl (by decide); apply op_sliceLit (xs := encIn (ins00 oA)) (vs := [.agg (encIn (ins00 oA)).toArray]); rfl; rfl; exact (Cats.cn (cs := encIn (ins00 oA)) Cats.nil); rfl; rfl; rfl; exact hH; clear hA hH; rintro _ w ⟨oN, rfl, hH⟩ a hA))) | ((first | refine CT ?_ | (refine DT ?_ ?_ <;> intro hc <;> try (exfalso; omega))) <;> repeat' refine CT ?_) | (first | (refine DSK ?_; clear hA a; intro a hA) | (first | (refine DLT ?_; clear hA hH; rintro _ w ⟨oN, rfl, hH⟩; refine ⟨STT, ?_⟩; intro a hA) | (refine DAT ?_; clear hA; rintro _ w ⟨oN, cN, rfl, hH2⟩; clear hH; have hH := (hH2 _ (by (repeat constructor))).tail; clear hH2; refine ⟨STT, ?_⟩; intro a hA))) )
  obtain ⟨oI, hoI⟩ : ∃ x, x = oN := ⟨_, rfl⟩
  rw [← hoI] at hA hH
  clear hoI oN
  repeat' (first | (first | (refine GT ?_ ?_ <;> intro hg <;> clear hA a <;> intro a hA <;> (first | exact FA | replace hg := of_decide_eq_true hg | replace hg := of_decide_eq_false hg | skip)) | ((first | apply st_ex hA hH rfl rfl (by decide) | apply dr_ex hA rfl rfl rfl (by decide) | apply dr_exp hA rfl rfl rfl (by decide) | apply dr_ex3 hA hH rfl rfl rfl (by decide)); (first | (apply ex_build_p (cs := (encEd ⟨1, nilV⟩).toArray); rfl; (repeat (first | (intro _ h; exact absurd h (List.not_mem_nil)) | (refine List.forall_mem_cons.2 ⟨one_cell_of _ _, ?_⟩))); rfl)); clear hA a; intro a hA) | (refine QT ?_; clear hA a; intro a hA) | (first | (refine BT ?_; clear hA hH; rintro _ w ⟨bN, rfl, hH⟩ a hA) | (refine LT ?_; clear hA hH; rintro _ w ⟨oN, rfl, hH⟩ a hA) | (refine AT ?_; clear hA; rintro _ w ⟨oN, cN, rfl, hH2⟩ a hA; clear hH; have hH := (hH2 _ (by (repeat constructor))).tail; clear hH2) | (refine S0T ?_; clear hH; rintro _ w hH) | (apply st_op hA rfl rfl (by decide); apply op_sliceLit (xs := encEd ⟨1, nilV⟩) (vs := [.agg (encEd ⟨1, nilV⟩).toArray]); rfl; rfl; exact (Cats.cn (cs := encEd ⟨1, nilV⟩) Cats.nil); rfl; rfl; rfl; exact hH; clear hA hH; rintro _ w ⟨oN, rfl, hH⟩ a hA))) | ((first | refine CT ?_ | (refine DT ?_ ?_ <;> intro hc <;> try (exfalso; omega))) <;> repeat' refine CT ?_) | (first | (refine DSK ?_; clear hA a; intro a hA) | (first | (refine DLT ?_; clear hA hH; rintro _ w ⟨oN, rfl, hH⟩; refine ⟨STT, ?_⟩; intro a hA) | (refine DAT ?_; clear hA; rintro _ w ⟨oN, cN, rfl, hH2⟩; clear hH; have hH := (hH2 _ (by (repeat constructor))).tail; clear hH2; refine ⟨STT, ?_⟩; intro a hA))) )
  obtain ⟨oE, hoE⟩ : ∃ x, x = oN := ⟨_, rfl⟩
  rw [← hoE] at hA hH
  clear hoE oN
  repeat' (first | (first | (refine GT ?_ ?_ <;> intro hg <;> clear hA a <;> intro a hA <;> (first | exact FA | replace hg := of_decide_eq_true hg | replace hg := of_decide_eq_false hg | skip)) | ((first | apply st_ex hA hH rfl rfl (by decide) | apply dr_ex hA rfl rfl rfl (by decide) | apply dr_exp hA rfl rfl rfl (by decide) | apply dr_ex3 hA hH rfl rfl rfl (by decide)); (first | (apply ex_build_p (cs := (encEn (blk00 oI oA oE).e).toArray); rfl; (repeat (first | (intro _ h; exact absurd h (List.not_mem_nil)) | (refine List.forall_mem_cons.2 ⟨one_cell_of _ _, ?_⟩))); rfl) | (apply ex_build (szs := [(0, 1), (1, 1), (2, 4)]) (cs := (encBl (blk00 oI oA oE)).toArray); exact run_szl (by (repeat (first | exact SzL.nil | refine SzL.cons ⟨_, rfl, by decide⟩ ?_))); rfl; rfl)); clear hA a; intro a hA) | (refine QT ?_; clear hA a; intro a hA) | (first | (refine BT ?_; clear hA hH; rintro _ w ⟨bN, rfl, hH⟩ a hA) | (refine LT ?_; clear hA hH; rintro _ w ⟨oN, rfl, hH⟩ a hA) | (refine AT ?_; clear hA; rintro _ w ⟨oN, cN, rfl, hH2⟩ a hA; clear hH; have hH := (hH2 _ (by (repeat constructor))).tail; clear hH2) | (refine S0T ?_; clear hH; rintro _ w hH) | (refine st_op hA rfl rfl (by decide) (op_call rfl rfl rfl (v_spec _ _)) ?_; clear hA; rintro _ w ⟨rfl, hk⟩ a hA; replace hH := hH.keep hk; clear hk))) | ((first | refine CT ?_ | (refine DT ?_ ?_ <;> intro hc <;> try (exfalso; omega))) <;> repeat' refine CT ?_) | (first | (refine DSK ?_; clear hA a; intro a hA) | (first | (refine DLT ?_; clear hA hH; rintro _ w ⟨oN, rfl, hH⟩; refine ⟨STT, ?_⟩; intro a hA) | (refine DAT ?_; clear hA; rintro _ w ⟨oN, cN, rfl, hH2⟩; clear hH; have hH := (hH2 _ (by (repeat constructor))).tail; clear hH2; refine ⟨STT, ?_⟩; intro a hA))) )
  obtain ⟨oR, hoR⟩ : ∃ x, x = oN := ⟨_, rfl⟩
  rw [← hoR] at hA hH
  clear hoR oN
  repeat' (first | (first | (refine GT ?_ ?_ <;> intro hg <;> clear hA a <;> intro a hA <;> (first | exact FA | replace hg := of_decide_eq_true hg | replace hg := of_decide_eq_false hg | skip)) | ((first | apply st_ex hA hH rfl rfl (by decide) | apply dr_ex hA rfl rfl rfl (by decide) | apply dr_exp hA rfl rfl rfl (by decide) | apply dr_ex3 hA hH rfl rfl rfl (by decide)); (first | (apply ex_build_p (cs := (encEn (blk01 oR).e).toArray); rfl; (repeat (first | (intro _ h; exact absurd h (List.not_mem_nil)) | (refine List.forall_mem_cons.2 ⟨one_cell_of _ _, ?_⟩))); rfl) | (apply ex_build (szs := [(0, 1), (1, 1), (2, 4)]) (cs := (encBl (blk01 oR)).toArray); exact run_szl (by (repeat (first | exact SzL.nil | refine SzL.cons ⟨_, rfl, by decide⟩ ?_))); rfl; rfl)); clear hA a; intro a hA) | (refine QT ?_; clear hA a; intro a hA) | (first | (refine BT ?_; clear hA hH; rintro _ w ⟨bN, rfl, hH⟩ a hA) | (refine LT ?_; clear hA hH; rintro _ w ⟨oN, rfl, hH⟩ a hA) | (refine AT ?_; clear hA; rintro _ w ⟨oN, cN, rfl, hH2⟩ a hA; clear hH; have hH := (hH2 _ (by (repeat constructor))).tail; clear hH2) | (refine S0T ?_; clear hH; rintro _ w hH) )) | ((first | refine CT ?_ | (refine DT ?_ ?_ <;> intro hc <;> try (exfalso; omega))) <;> repeat' refine CT ?_) | (first | (refine DSK ?_; clear hA a; intro a hA) | (first | (refine DLT ?_; clear hA hH; rintro _ w ⟨oN, rfl, hH⟩; refine ⟨STT, ?_⟩; intro a hA) | (refine DAT ?_; clear hA; rintro _ w ⟨oN, cN, rfl, hH2⟩; clear hH; have hH := (hH2 _ (by (repeat constructor))).tail; clear hH2; refine ⟨STT, ?_⟩; intro a hA))) )
  (apply st_op hA rfl rfl (by decide); apply op_sliceLit (xs := encBl (blk00 oI oA oE) ++ (encBl (blk01 oR) ++ [])) (vs := [.agg (encBl (blk00 oI oA oE)).toArray, .agg (encBl (blk01 oR)).toArray]); rfl; rfl; exact (Cats.cn (cs := encBl (blk00 oI oA oE)) (Cats.cn (cs := encBl (blk01 oR)) Cats.nil)); rfl; rfl; rfl; exact hH; clear hA hH; rintro _ w ⟨oB, rfl, hH⟩ a hA)
  rw [flat2] at hH
  repeat' (first | (first | (refine GT ?_ ?_ <;> intro hg <;> clear hA a <;> intro a hA <;> (first | exact FA | replace hg := of_decide_eq_true hg | replace hg := of_decide_eq_false hg | skip)) | ((first | apply st_ex hA hH rfl rfl (by decide) | apply dr_ex hA rfl rfl rfl (by decide) | apply dr_exp hA rfl rfl rfl (by decide) | apply dr_ex3 hA hH rfl rfl rfl (by decide)); (first | (apply ex_build_p (cs := (encG (grA oB oI oA oE oR)).toArray); rfl; (repeat (first | (intro _ h; exact absurd h (List.not_mem_nil)) | (refine List.forall_mem_cons.2 ⟨one_cell_of _ _, ?_⟩))); rfl)); clear hA a; intro a hA) | (refine QT ?_; clear hA a; intro a hA) | (first | (refine BT ?_; clear hA hH; rintro _ w ⟨bN, rfl, hH⟩ a hA) | (refine LT ?_; clear hA hH; rintro _ w ⟨oN, rfl, hH⟩ a hA) | (refine AT ?_; clear hA; rintro _ w ⟨oN, cN, rfl, hH2⟩ a hA; clear hH; have hH := (hH2 _ (by (repeat constructor))).tail; clear hH2) | (refine S0T ?_; clear hH; rintro _ w hH) | (apply st_op0 hA rfl rfl; apply op_store_agg (vs := encG (grA oB oI oA oE oR)); rfl; rfl; exact hH; (repeat constructor); (repeat rfl); clear hH; rintro _ w hH))) | ((first | refine CT ?_ | (refine DT ?_ ?_ <;> intro hc <;> try (exfalso; omega))) <;> repeat' refine CT ?_) | (first | (refine DSK ?_; clear hA a; intro a hA) | (first | (refine DLT ?_; clear hA hH; rintro _ w ⟨oN, rfl, hH⟩; refine ⟨STT, ?_⟩; intro a hA) | (refine DAT ?_; clear hA; rintro _ w ⟨oN, cN, rfl, hH2⟩; clear hH; have hH := (hH2 _ (by (repeat constructor))).tail; clear hH2; refine ⟨STT, ?_⟩; intro a hA))) )
  have hR : ∀ {w'}, HS w0 noM [cb bN 30 (encG (grA oB oI oA oE oR)), own 52 6 oB 2 2 (flat encBl [blk00 oI oA oE, blk01 oR]), own 63 2 oR 1 1 [.int .i64 1, .int .i64 2], own 54 2 oE 1 1 (encEd ⟨1, nilV⟩), own 58 5 oI 1 1 (encIn (ins00 oA)), own 63 2 oA 2 2 [.int .i64 1, .int .i64 1, .int .i64 1, .int .i64 1]] w' → RdG w' (grA oB oI oA oE oR) := fun {w'} hH => by
    have rB := hH.own_rd (T := 52) (o := oB) (n := 2) (cap := 2) (by exact MEMT)
    have rR := hH.own_rd (T := 63) (o := oR) (n := 1) (cap := 1) (by exact MEMT)
    have rE := hH.own_rd (T := 54) (o := oE) (n := 1) (cap := 1) (by exact MEMT)
    have rI := hH.own_rd (T := 58) (o := oI) (n := 1) (cap := 1) (by exact MEMT)
    have rA := hH.own_rd (T := 63) (o := oA) (n := 2) (cap := 2) (by exact MEMT)
    exact grA_rd rB rR rE rI rA
  have hR0 := hR hH
  have hU := up_of (grA_ok (oB := oB) (oI := oI) (oA := oA) (oE := oE) (oR := oR))
  have hS := small_of (grA_ok (oB := oB) (oI := oI) (oA := oA) (oE := oE) (oR := oR))
  clear hR
  obtain ⟨G, hG⟩ : ∃ x, x = grA oB oI oA oE oR := ⟨_, rfl⟩
  rw [← hG] at hA hH hR0 hU hS
  have hGl : G.bs.l.length = 2 := by rw [hG]; rfl
  have hlive : ∀ {ss : List (Option (Nat × List Int))} {rows : List (List Int)}, (∀ n, FixAt G ss n) → ss.length = G.bs.l.length → LiveOk ss rows → rows.length = 2 → rows = [[1], [2]] := fun {ss rows} h1 h2 h3 h4 => by
    subst hG
    exact live_rows h1 h2 h3 h4
  have hcol : ∀ {ss : List (Option (Nat × List Int))} {pl : List Pl} {s1 : Nat × List (Int × Int)}, (∀ n, FixAt G ss n) → ss.length = G.bs.l.length → FA2 (IsAt G ss) (slots G G.bs.l.length) pl → goes atC (2, m01) pl = some s1 → s1.1 = 2 ∧ RightP G (regsOf (srt (varsL G.bs.l)) s1.2) := fun {ss pl s1} h1 h2 h3 h4 => by
    subst hG
    have h5 := colour_ok grA_ok h1 h2 h3 h4
    exact ⟨h5.1.trans (grA_prs h1 h2), h5.2.1⟩
  have h3 : ∀ m, (regsOf (srt (varsL G.bs.l)) m).length = 3 := fun m => by subst hG; exact regs3 m
  have hnil : ¬ RightP G [] := by subst hG; exact grA_nil
  clear hG
  (refine st_op hA rfl rfl (by decide) (op_call rfl rfl rfl (Live_spec _ G hR0 hU hS)) ?_; clear hA; rintro _ w ⟨ss, ds, rows, oL, cL, hsl, hF, hrl, hdl, hlo, rfl, hj⟩ a hA)
  have hR1 := hR0.keep hj.kp
  replace hH := hH.join hj
  clear hj
  replace hH := HS.left (H1 := [own 44 1 oL ds.length cL (flat Fw.encS ds), all (owns 3 1 Fw.encI ds rows), cb bN 30 (encG G)]) (H2 := _) hH
  have hrows := hlive hF hsl hlo (by omega)
  subst hrows
  obtain ⟨d0, d1, rfl⟩ := two_list (show ds.length = 2 from hdl)
  rw [own2] at hH
  replace hH := (hH.up 1 rfl).open_
  dsimp only [List.eraseIdx_cons_succ, List.eraseIdx_cons_zero, List.cons_append, List.nil_append] at hH
  have hl0 := hH.own_len (T := 3) (o := d0.1) (.head _)
  have hl1 := hH.own_len (T := 3) (o := d1.1) (.tail _ (.head _))
  rw [flatI_l1] at hl0 hl1
  obtain ⟨o0, n0, c0⟩ := d0
  obtain ⟨o1, n1, c1⟩ := d1
  dsimp only at hH hl0 hl1
  obtain rfl : n0 = 1 := by omega
  obtain rfl : n1 = 1 := by omega
  have hsp0 := hH.own_sp (T := 3) (o := o0) (n := 1) (.head _)
  have hsp1 := hH.own_sp (T := 3) (o := o1) (n := 1) (.tail _ (.head _))
  have hspL := hH.own_sp (T := 44) (o := oL) (n := 2) (.tail _ (.tail _ (.head _)))
  have hv0 := sd_at0 (o0, 1, c0) (o1, 1, c1)
  have hv1 := sd_at1 (o0, 1, c0) (o1, 1, c1)
  have hx0 := int_at0 1
  have hx1 := int_at0 2
  repeat' (first | (first | (refine GT ?_ ?_ <;> intro hg <;> clear hA a <;> intro a hA <;> (first | exact FA | replace hg := of_decide_eq_true hg | replace hg := of_decide_eq_false hg | skip)) | (refine QT ?_; clear hA a; intro a hA) | (first | (refine BT ?_; clear hA hH; rintro _ w ⟨bN, rfl, hH⟩ a hA) | (refine LT ?_; clear hA hH; rintro _ w ⟨oN, rfl, hH⟩ a hA) | (refine AT ?_; clear hA; rintro _ w ⟨oN, cN, rfl, hH2⟩ a hA; clear hH; have hH := (hH2 _ (by (repeat constructor))).tail; clear hH2) | (refine S0T ?_; clear hH; rintro _ w hH) )) | ((first | refine CT ?_ | (refine DT ?_ ?_ <;> intro hc <;> try (exfalso; omega))) <;> repeat' refine CT ?_) | (first | (refine DSK ?_; clear hA a; intro a hA) | (first | (refine DLT ?_; clear hA hH; rintro _ w ⟨oN, rfl, hH⟩; refine ⟨STT, ?_⟩; intro a hA) | (refine DAT ?_; clear hA; rintro _ w ⟨oN, cN, rfl, hH2⟩; clear hH; have hH := (hH2 _ (by (repeat constructor))).tail; clear hH2; refine ⟨STT, ?_⟩; intro a hA))) )
  (refine st_op hA rfl rfl (by decide) (op_call rfl rfl rfl (Colour_spec _ G 2 hR1 hU hS)) ?_; clear hA; rintro _ w ⟨ss2, pl, s1, hsl2, hF2, hpl, hgo, hcase⟩ a hA)
  have hc2 := hcol hF2 hsl2 hpl hgo
  rcases hcase with ⟨hlt, rfl, hk⟩ | ⟨hge, oC, cC, rfl, hj⟩
  · have := hc2.1
    omega
  have hR2 := hR1.keep hj.kp
  replace hH := hH.join hj
  clear hj hge
  repeat' (first | (first | (refine GT ?_ ?_ <;> intro hg <;> clear hA a <;> intro a hA <;> (first | exact FA | replace hg := of_decide_eq_true hg | replace hg := of_decide_eq_false hg | skip)) | (refine QT ?_; clear hA a; intro a hA) | (first | (refine BT ?_; clear hA hH; rintro _ w ⟨bN, rfl, hH⟩ a hA) | (refine LT ?_; clear hA hH; rintro _ w ⟨oN, rfl, hH⟩ a hA) | (refine AT ?_; clear hA; rintro _ w ⟨oN, cN, rfl, hH2⟩ a hA; clear hH; have hH := (hH2 _ (by (repeat constructor))).tail; clear hH2) | (refine S0T ?_; clear hH; rintro _ w hH) )) | ((first | refine CT ?_ | (refine DT ?_ ?_ <;> intro hc <;> try (exfalso; omega))) <;> repeat' refine CT ?_) | (first | (refine DSK ?_; clear hA a; intro a hA) | (first | (refine DLT ?_; clear hA hH; rintro _ w ⟨oN, rfl, hH⟩; refine ⟨STT, ?_⟩; intro a hA) | (refine DAT ?_; clear hA; rintro _ w ⟨oN, cN, rfl, hH2⟩; clear hH; have hH := (hH2 _ (by (repeat constructor))).tail; clear hH2; refine ⟨STT, ?_⟩; intro a hA))) )
  (refine st_op hA rfl rfl (by decide) (op_call rfl rfl rfl (Colour_spec _ G 1 hR2 hU hS)) ?_; clear hA; rintro _ w ⟨ss3, pl3, s3, hsl3, hF3, hpl3, hgo3, hcase⟩ a hA)
  have hc3 := hcol hF3 hsl3 hpl3 hgo3
  rcases hcase with ⟨hlt, rfl, hk⟩ | ⟨hge, oC3, cC3, rfl, hj⟩
  rotate_left
  · have := hc3.1
    omega
  replace hH := hH.keep hk
  have hR3 := hR2.keep hk
  clear hk hlt
  obtain ⟨rl, hrl2⟩ : ∃ x, x = regsOf (srt (varsL G.bs.l)) s1.2 := ⟨_, rfl⟩
  have hrl3 : rl.length = 3 := by rw [hrl2]; exact h3 _
  have hrr := hc2.2
  rw [← hrl2] at hA hH hrr
  clear hrl2
  have hrC := hH.own_rd (T := 40) (o := oC) (n := rl.length) (cap := cC) (by exact MEMT)
  repeat' (first | (first | (refine GT ?_ ?_ <;> intro hg <;> clear hA a <;> intro a hA <;> (first | exact FA | replace hg := of_decide_eq_true hg | replace hg := of_decide_eq_false hg | skip)) | ((first | apply st_ex hA hH rfl rfl (by decide) | apply dr_ex hA rfl rfl rfl (by decide) | apply dr_exp hA rfl rfl rfl (by decide) | apply dr_ex3 hA hH rfl rfl rfl (by decide)); (first | (apply ex_indexAddr; rfl; rfl; decide; (show _ < (2 : Int)); decide; exact hspL) | (apply ex_indexAddr; rfl; rfl; decide; (show _ < (1 : Int)); decide; exact hsp0) | (apply ex_indexAddr; rfl; rfl; decide; (show _ < (1 : Int)); decide; exact hsp1) | (apply ex_load; rfl; apply cl_own (T := 44); exact MEMT; exact hv0) | (apply ex_load; rfl; apply cl_own (T := 44); exact MEMT; exact hv1) | (apply ex_load; rfl; apply cl_own (T := 3) (o := o0); exact MEMT; exact hx0) | (apply ex_load; rfl; apply cl_own (T := 3) (o := o1); exact MEMT; exact hx1)); clear hA a; intro a hA) | (refine QT ?_; clear hA a; intro a hA) | (first | (refine BT ?_; clear hA hH; rintro _ w ⟨bN, rfl, hH⟩ a hA) | (refine LT ?_; clear hA hH; rintro _ w ⟨oN, rfl, hH⟩ a hA) | (refine AT ?_; clear hA; rintro _ w ⟨oN, cN, rfl, hH2⟩ a hA; clear hH; have hH := (hH2 _ (by (repeat constructor))).tail; clear hH2) | (refine S0T ?_; clear hH; rintro _ w hH) )) | ((first | refine CT ?_ | (refine DT ?_ ?_ <;> intro hc <;> try (exfalso; omega))) <;> repeat' refine CT ?_) | (first | (refine DSK ?_; clear hA a; intro a hA) | (first | (refine DLT ?_; clear hA hH; rintro _ w ⟨oN, rfl, hH⟩; refine ⟨STT, ?_⟩; intro a hA) | (refine DAT ?_; clear hA; rintro _ w ⟨oN, cN, rfl, hH2⟩; clear hH; have hH := (hH2 _ (by (repeat constructor))).tail; clear hH2; refine ⟨STT, ?_⟩; intro a hA))) )
  (refine st_op hA rfl rfl (by decide) (op_call rfl rfl rfl (Right_spec _ G oC cC rl hR3 hU hS hrC (by omega))) ?_; clear hA; rintro _ w ⟨b, rfl, hb, hk⟩ a hA)
  obtain rfl : b = true := hb.mpr hrr
  replace hH := hH.keep hk
  have hR4 := hR3.keep hk
  clear hk hb
  repeat' (first | (first | (refine GT ?_ ?_ <;> intro hg <;> clear hA a <;> intro a hA <;> (first | exact FA | replace hg := of_decide_eq_true hg | replace hg := of_decide_eq_false hg | skip)) | (refine QT ?_; clear hA a; intro a hA) | (first | (refine BT ?_; clear hA hH; rintro _ w ⟨bN, rfl, hH⟩ a hA) | (refine LT ?_; clear hA hH; rintro _ w ⟨oN, rfl, hH⟩ a hA) | (refine AT ?_; clear hA; rintro _ w ⟨oN, cN, rfl, hH2⟩ a hA; clear hH; have hH := (hH2 _ (by (repeat constructor))).tail; clear hH2) | (refine S0T ?_; clear hH; rintro _ w hH) )) | ((first | refine CT ?_ | (refine DT ?_ ?_ <;> intro hc <;> try (exfalso; omega))) <;> repeat' refine CT ?_) | (first | (refine DSK ?_; clear hA a; intro a hA) | (first | (refine DLT ?_; clear hA hH; rintro _ w ⟨oN, rfl, hH⟩; refine ⟨STT, ?_⟩; intro a hA) | (refine DAT ?_; clear hA; rintro _ w ⟨oN, cN, rfl, hH2⟩; clear hH; have hH := (hH2 _ (by (repeat constructor))).tail; clear hH2; refine ⟨STT, ?_⟩; intro a hA))) )
  (refine st_op hA rfl rfl (by decide) (op_call rfl rfl rfl (Right_spec _ G none 0 [] hR4 hU hS (by rw [flatR_n]; exact rd_nil _) (by decide))) ?_; clear hA; rintro _ w ⟨b, rfl, hb, hk⟩ a hA)
  obtain rfl : b = false := by
    cases b
    · rfl
    · exact absurd (hb.mp rfl) hnil
  replace hH := hH.keep hk
  clear hk hb
  repeat' (first | (first | (refine GT ?_ ?_ <;> intro hg <;> clear hA a <;> intro a hA <;> (first | exact FA | replace hg := of_decide_eq_true hg | replace hg := of_decide_eq_false hg | skip)) | (refine QT ?_; clear hA a; intro a hA) | (first | (refine BT ?_; clear hA hH; rintro _ w ⟨bN, rfl, hH⟩ a hA) | (refine LT ?_; clear hA hH; rintro _ w ⟨oN, rfl, hH⟩ a hA) | (refine AT ?_; clear hA; rintro _ w ⟨oN, cN, rfl, hH2⟩ a hA; clear hH; have hH := (hH2 _ (by (repeat constructor))).tail; clear hH2) | (refine S0T ?_; clear hH; rintro _ w hH) )) | ((first | refine CT ?_ | (refine DT ?_ ?_ <;> intro hc <;> try (exfalso; omega))) <;> repeat' refine CT ?_) | (first | (refine DSK ?_; clear hA a; intro a hA) | (first | (refine DLT ?_; clear hA hH; rintro _ w ⟨oN, rfl, hH⟩; refine ⟨STT, ?_⟩; intro a hA) | (refine DAT ?_; clear hA; rintro _ w ⟨oN, cN, rfl, hH2⟩; clear hH; have hH := (hH2 _ (by (repeat constructor))).tail; clear hH2; refine ⟨STT, ?_⟩; intro a hA))) )
  · exact rt1 (.inl rfl) rfl hA rfl ⟨rfl, hH.kp⟩
  all_goals
    exact absurd rfl (by assumption : ¬ ((1 : Nat) : Int) = 1)
end Go.Proofs.Ytjfanjcoppeeaaa
namespace Go.Proofs.Ytjfanjcoppeeaaa
open Go Go.Fw
set_option linter.unusedVariables false
def Few (P : Int → Prop) : Prop := ∃ l : List Int, ∀ x, P x → x ∈ l
theorem Few.or {P Q : Int → Prop} (h : Few P) (g : Few Q) : Few fun x => P x ∨ Q x := by
  obtain ⟨l, hl⟩ := h
  obtain ⟨m, hm⟩ := g
  exact ⟨l ++ m, fun x h => List.mem_append.2 (h.imp (hl x) (hm x))⟩
theorem Few.imp {P Q : Int → Prop} (h : Few P) (g : ∀ x, Q x → P x) : Few Q := by
  obtain ⟨l, hl⟩ := h
  exact ⟨l, fun x hx => hl x (g x hx)⟩
theorem go_up {g : Grs} {f : Gr} (h : GOk g f) : Up f := by
  obtain ⟨B, h⟩ := h
  exact up_of h
theorem go_small {g : Grs} {f : Gr} (h : GOk g f) : Small f := by
  obtain ⟨B, h⟩ := h
  exact small_of h
theorem go_colour {g : Grs} {f : Gr} (h : GOk g f) {ss : List (Option (Nat × List Int))} (hF : ∀ n, FixAt f ss n) (hsl : ss.length = f.bs.l.length) {pl : List Pl} {s1 : Nat × List (Int × Int)} (hpl : FA2 (IsAt f ss) (slots f f.bs.l.length) pl) (hg : goes atC (2, m01) pl = some s1) :
    s1.1 = prs f ss (slots f f.bs.l.length) ∧ RightP f (regsOf (srt (varsL f.bs.l)) s1.2) ∧ ∀ r ∈ regsOf (srt (varsL f.bs.l)) s1.2, r.r < s1.1 := by
  obtain ⟨B, h⟩ := h
  exact colour_ok h hF hsl hpl hg
end Go.Proofs.Ytjfanjcoppeeaaa
namespace Go.Proofs.Ytjfanjcoppeeaaa
open Go Go.Fw Go.ChangeShapes Go.WideShapes Go.ChangeAt Go.RowKit Go.Deep
set_option linter.unusedVariables false
/-- what is known of the sizes -/
def BigOk (g : Grs) : Prop := g.fs.l.length ≤ 1048576 ∧ ∀ f ∈ g.fs.l, f.bs.l.length ≤ 1048576 ∧ ∀ bl ∈ f.bs.l, bl.e.to.l.length ≤ 1048576
set_option maxRecDepth 10000 attribute [local irreducible] Code.wp wpList Calls Ex Op1 sat bat blk cb own Go.Fw.mp Go.Fw.mpO Go.Fw.mpI Go.Fw.mpE Go.Fw.itr HS Rd Ret wkD Hp Cl Cls Exit.then Exit.inBlock Exit.noGoto bodyPost Go.Fw.flat wk2 Go.Fw.all Go.Fw.owns wpOp
attribute [local irreducible] sk mpK srt sko mvO entK geS GOk RightP regsOf varsL prs slots vrs

end Go.Proofs.Ytjfanjcoppeeaaa
namespace Go.Proofs.Ytjfanjcoppeeaaa
open Go Go.Fw
set_option linter.unusedVariables false
end Go.Proofs.Ytjfanjcoppeeaaa
namespace Go.Proofs.Ytjfanjcoppeeaaa
open Go Go.Fw Go.ChangeShapes Go.WideShapes Go.ChangeAt Go.RowKit Go.Deep
set_option linter.unusedVariables false
set_option maxRecDepth 10000 attribute [local irreducible] Code.wp wpList Calls Ex Op1 sat bat blk cb own Go.Fw.mp Go.Fw.mpO Go.Fw.mpI Go.Fw.mpE Go.Fw.itr HS Rd Ret wkD Hp Cl Cls Exit.then Exit.inBlock Exit.noGoto bodyPost Go.Fw.flat wk2 Go.Fw.all Go.Fw.owns wpOp
attribute [local irreducible] sk mpK srt sko mvO entK geS GOk RightP regsOf varsL prs slots vrs

end Go.Proofs.Ytjfanjcoppeeaaa
namespace Go.Proofs.Ytjfanjcoppeeaaa
open Go Go.Fw Go.ChangeShapes Go.WideShapes Go.ChangeAt Go.RowKit Go.Deep
set_option linter.unusedVariables false
theorem filF_congr {p q : Int → Bool} {l : List Int} (h : ∀ x, p x = q x) : filF p l = filF q l := by
  have : p = q := funext h
  rw [this]
theorem prs_uniq {f : Gr} (hU : Up f) {ss s2 : List (Option (Nat × List Int))} (h1 : ∀ n, FixAt f ss n) (h2 : ∀ n, FixAt f s2 n) (hl1 : ss.length = f.bs.l.length) (hl2 : s2.length = f.bs.l.length) : prs f ss (slots f f.bs.l.length) = prs f s2 (slots f f.bs.l.length) := by
  have hs := setAt_uniq hU h1 h2 hl1 hl2
  unfold prs
  congr 1
  refine List.map_congr_left fun sl hsl => ?_
  obtain ⟨n, bl, hb, rfl | ⟨i, ins, hi, rfl⟩⟩ := slot_cases hsl
  · rw [cnt_n hb, cnt_n hb]
    congr 2
    unfold intoF
    refine List.filter_congr fun x _ => ?_
    exact decide_eq_decide.2 (hs n x)
  · rw [cnt_i hb, cnt_i hb, bhF_eq, bhF_eq]
    congr 2
    refine filF_congr fun x => ?_
    refine Bool.eq_iff_iff.2 ?_
    rw [bhB_iff hi, bhB_iff hi]
    exact and_congr Iff.rfl (insP_congr (lastP_uniq hs (by omega) bl.e) _ x)
set_option maxRecDepth 10000 attribute [local irreducible] Code.wp wpList Calls Ex Op1 sat bat blk cb own Go.Fw.mp Go.Fw.mpO Go.Fw.mpI Go.Fw.mpE Go.Fw.itr HS Rd Ret wkD Hp Cl Cls Exit.then Exit.inBlock Exit.noGoto bodyPost Go.Fw.flat wk2 Go.Fw.all Go.Fw.owns wpOp
attribute [local irreducible] sk mpK srt sko mvO entK geS GOk RightP regsOf varsL prs slots vrs

set_option maxHeartbeats 4000000 in
theorem more_law (w0 : World) (g : Grs) (k many more : Int) (hR : RdGs w0 g) (hbs : BigOk g) (hmo : 0 ≤ more ∧ more ≤ 255) :
    Ret Try.prog 7 #[.agg (encGs g).toArray, .int .i64 k, .int .i64 many, .int .u8 more] w0 (LawR w0) := by
  have hH : HS w0 noM [] w0 := HS.init w0 noM
  (refine enter (N := 81) Try.func7 rfl Try.ntmps7 rfl ?_; intro a hA; dsimp only [sl0, Nat.reduceAdd] at hA)
  repeat' (first | (first | (refine GT ?_ ?_ <;> intro hg <;> clear hA a <;> intro a hA <;> (first | exact FA | replace hg := of_decide_eq_true hg | replace hg := of_decide_eq_false hg | skip)) | (refine QT ?_; clear hA a; intro a hA) | (first | (refine BT ?_; clear hA hH; rintro _ w ⟨bN, rfl, hH⟩ a hA) | (refine LT ?_; clear hA hH; rintro _ w ⟨oN, rfl, hH⟩ a hA) | (refine AT ?_; clear hA; rintro _ w ⟨oN, cN, rfl, hH2⟩ a hA; clear hH; have hH := (hH2 _ (by (repeat constructor))).tail; clear hH2) | (refine S0T ?_; clear hH; rintro _ w hH) )) | ((first | refine CT ?_ | (refine DT ?_ ?_ <;> intro hc <;> try (exfalso; omega))) <;> repeat' refine CT ?_) | (first | (refine DSK ?_; clear hA a; intro a hA) | (first | (refine DLT ?_; clear hA hH; rintro _ w ⟨oN, rfl, hH⟩; refine ⟨STT, ?_⟩; intro a hA) | (refine DAT ?_; clear hA; rintro _ w ⟨oN, cN, rfl, hH2⟩; clear hH; have hH := (hH2 _ (by (repeat constructor))).tail; clear hH2; refine ⟨STT, ?_⟩; intro a hA))) )
  (refine st_op hA rfl rfl (by decide) (op_call rfl rfl rfl (awake_spec _)) ?_; clear hA; rintro _ w ⟨rfl, hk⟩ a hA; replace hH := hH.keep hk; clear hk)
  repeat' (first | (first | (refine GT ?_ ?_ <;> intro hg <;> clear hA a <;> intro a hA <;> (first | exact FA | replace hg := of_decide_eq_true hg | replace hg := of_decide_eq_false hg | skip)) | (refine QT ?_; clear hA a; intro a hA) | (first | (refine BT ?_; clear hA hH; rintro _ w ⟨bN, rfl, hH⟩ a hA) | (refine LT ?_; clear hA hH; rintro _ w ⟨oN, rfl, hH⟩ a hA) | (refine AT ?_; clear hA; rintro _ w ⟨oN, cN, rfl, hH2⟩ a hA; clear hH; have hH := (hH2 _ (by (repeat constructor))).tail; clear hH2) | (refine S0T ?_; clear hH; rintro _ w hH) )) | ((first | refine CT ?_ | (refine DT ?_ ?_ <;> intro hc <;> try (exfalso; omega))) <;> repeat' refine CT ?_) | (first | (refine DSK ?_; clear hA a; intro a hA) | (first | (refine DLT ?_; clear hA hH; rintro _ w ⟨oN, rfl, hH⟩; refine ⟨STT, ?_⟩; intro a hA) | (refine DAT ?_; clear hA; rintro _ w ⟨oN, cN, rfl, hH2⟩; clear hH; have hH := (hH2 _ (by (repeat constructor))).tail; clear hH2; refine ⟨STT, ?_⟩; intro a hA))) )
  (refine st_op hA rfl rfl (by decide) (op_call rfl rfl rfl (fits_spec _ g _ (hR.keep hH.kp) hbs.2)) ?_; clear hA; rintro _ w ⟨f, b, rfl, hk, hgo⟩ a hA; replace hH := hH.keep hk; clear hk)
  repeat' (first | (first | (refine GT ?_ ?_ <;> intro hg <;> clear hA a <;> intro a hA <;> (first | exact FA | replace hg := of_decide_eq_true hg | replace hg := of_decide_eq_false hg | skip)) | (refine QT ?_; clear hA a; intro a hA) | (first | (refine BT ?_; clear hA hH; rintro _ w ⟨bN, rfl, hH⟩ a hA) | (refine LT ?_; clear hA hH; rintro _ w ⟨oN, rfl, hH⟩ a hA) | (refine AT ?_; clear hA; rintro _ w ⟨oN, cN, rfl, hH2⟩ a hA; clear hH; have hH := (hH2 _ (by (repeat constructor))).tail; clear hH2) | (refine S0T ?_; clear hH; rintro _ w hH) | (apply st_op0 hA rfl rfl; apply op_store_agg (vs := encG f); rfl; rfl; exact hH; (repeat constructor); (repeat rfl); clear hH; rintro _ w hH))) | ((first | refine CT ?_ | (refine DT ?_ ?_ <;> intro hc <;> try (exfalso; omega))) <;> repeat' refine CT ?_) | (first | (refine DSK ?_; clear hA a; intro a hA) | (first | (refine DLT ?_; clear hA hH; rintro _ w ⟨oN, rfl, hH⟩; refine ⟨STT, ?_⟩; intro a hA) | (refine DAT ?_; clear hA; rintro _ w ⟨oN, cN, rfl, hH2⟩; clear hH; have hH := (hH2 _ (by (repeat constructor))).tail; clear hH2; refine ⟨STT, ?_⟩; intro a hA))) )
  · exact rt1 (.inl rfl) rfl hA rfl ⟨rfl, hH.kp⟩
  · exact rt1 (.inl rfl) rfl hA rfl ⟨rfl, hH.kp⟩
  have hbt : b = true := by
    have : (!b) = false := by assumption
    cases b <;> first | rfl | cases this
  obtain ⟨hm, hok⟩ := hgo hbt
  have hRf : RdG w0 f := hR.2.1 f hm
  have hU := go_up hok
  have hS := go_small hok
  obtain ⟨bF, hbF⟩ : ∃ x, x = bN := ⟨_, rfl⟩
  rw [← hbF] at hA hH
  clear hbF bN
  replace hH := HS.left (H1 := [cb bF 30 (encG f)]) (H2 := _) hH
  repeat' (first | (first | (refine GT ?_ ?_ <;> intro hg <;> clear hA a <;> intro a hA <;> (first | exact FA | replace hg := of_decide_eq_true hg | replace hg := of_decide_eq_false hg | skip)) | (refine QT ?_; clear hA a; intro a hA) | (first | (refine BT ?_; clear hA hH; rintro _ w ⟨bN, rfl, hH⟩ a hA) | (refine LT ?_; clear hA hH; rintro _ w ⟨oN, rfl, hH⟩ a hA) | (refine AT ?_; clear hA; rintro _ w ⟨oN, cN, rfl, hH2⟩ a hA; clear hH; have hH := (hH2 _ (by (repeat constructor))).tail; clear hH2) | (refine S0T ?_; clear hH; rintro _ w hH) )) | ((first | refine CT ?_ | (refine DT ?_ ?_ <;> intro hc <;> try (exfalso; omega))) <;> repeat' refine CT ?_) | (first | (refine DSK ?_; clear hA a; intro a hA) | (first | (refine DLT ?_; clear hA hH; rintro _ w ⟨oN, rfl, hH⟩; refine ⟨STT, ?_⟩; intro a hA) | (refine DAT ?_; clear hA; rintro _ w ⟨oN, cN, rfl, hH2⟩; clear hH; have hH := (hH2 _ (by (repeat constructor))).tail; clear hH2; refine ⟨STT, ?_⟩; intro a hA))) )
  (refine st_op hA rfl rfl (by decide) (op_call rfl rfl rfl (Colour_spec _ f many (hRf.keep hH.kp) hU hS)) ?_; clear hA; rintro _ w ⟨ss, pl, s1, hsl, hF, hpl, hgc, hcase⟩ a hA)
  have hc1 := go_colour hok hF hsl hpl hgc
  rcases hcase with ⟨hlt, rfl, hk⟩ | ⟨hge, oL, cL, rfl, hj⟩
  · replace hH := hH.keep hk
    clear hk
    repeat' (first | (first | (refine GT ?_ ?_ <;> intro hg <;> clear hA a <;> intro a hA <;> (first | exact FA | replace hg := of_decide_eq_true hg | replace hg := of_decide_eq_false hg | skip)) | (refine QT ?_; clear hA a; intro a hA) | (first | (refine BT ?_; clear hA hH; rintro _ w ⟨bN, rfl, hH⟩ a hA) | (refine LT ?_; clear hA hH; rintro _ w ⟨oN, rfl, hH⟩ a hA) | (refine AT ?_; clear hA; rintro _ w ⟨oN, cN, rfl, hH2⟩ a hA; clear hH; have hH := (hH2 _ (by (repeat constructor))).tail; clear hH2) | (refine S0T ?_; clear hH; rintro _ w hH) )) | ((first | refine CT ?_ | (refine DT ?_ ?_ <;> intro hc <;> try (exfalso; omega))) <;> repeat' refine CT ?_) | (first | (refine DSK ?_; clear hA a; intro a hA) | (first | (refine DLT ?_; clear hA hH; rintro _ w ⟨oN, rfl, hH⟩; refine ⟨STT, ?_⟩; intro a hA) | (refine DAT ?_; clear hA; rintro _ w ⟨oN, cN, rfl, hH2⟩; clear hH; have hH := (hH2 _ (by (repeat constructor))).tail; clear hH2; refine ⟨STT, ?_⟩; intro a hA))) )
    all_goals exact rt1 (.inl rfl) rfl hA rfl ⟨rfl, hH.kp⟩
  replace hH := hH.join hj
  clear hj
  obtain ⟨l1, hl1⟩ : ∃ x, x = regsOf (srt (varsL f.bs.l)) s1.2 := ⟨_, rfl⟩
  have hll1 : l1.length ≤ 1000000 := by rw [hl1, regsOf_len, srt_len]; exact hS.vs
  rw [← hl1] at hA hH hc1
  clear hl1
  replace hH : HS w0 noM [own 40 2 oL l1.length cL (flat encR l1), cb bF 30 (encG f)] w := hH
  have hwr : IntKind.i64.wrap more = more := wrap_i64 ⟨by omega, by omega⟩
  have hmn : many ≤ 1048576 := by omega
  have hmg : 0 ≤ many := by omega
  repeat' (first | (first | (refine GT ?_ ?_ <;> intro hg <;> clear hA a <;> intro a hA <;> (first | exact FA | replace hg := of_decide_eq_true hg | replace hg := of_decide_eq_false hg | skip)) | ((first | apply st_ex hA hH rfl rfl (by decide) | apply dr_ex hA rfl rfl rfl (by decide) | apply dr_exp hA rfl rfl rfl (by decide) | apply dr_ex3 hA hH rfl rfl rfl (by decide)); (first | (apply ex_convert (v := more); rfl; exact hwr)); clear hA a; intro a hA) | (refine QT ?_; clear hA a; intro a hA) | (first | (refine BT ?_; clear hA hH; rintro _ w ⟨bN, rfl, hH⟩ a hA) | (refine LT ?_; clear hA hH; rintro _ w ⟨oN, rfl, hH⟩ a hA) | (refine AT ?_; clear hA; rintro _ w ⟨oN, cN, rfl, hH2⟩ a hA; clear hH; have hH := (hH2 _ (by (repeat constructor))).tail; clear hH2) | (refine S0T ?_; clear hH; rintro _ w hH) )) | ((first | refine CT ?_ | (refine DT ?_ ?_ <;> intro hc <;> try (exfalso; omega))) <;> repeat' refine CT ?_) | (first | (refine DSK ?_; clear hA a; intro a hA) | (first | (refine DLT ?_; clear hA hH; rintro _ w ⟨oN, rfl, hH⟩; refine ⟨STT, ?_⟩; intro a hA) | (refine DAT ?_; clear hA; rintro _ w ⟨oN, cN, rfl, hH2⟩; clear hH; have hH := (hH2 _ (by (repeat constructor))).tail; clear hH2; refine ⟨STT, ?_⟩; intro a hA))) )
  (refine st_op hA rfl rfl (by decide) (op_call rfl rfl rfl (Colour_spec _ f (many + more) (hRf.keep hH.kp) hU hS)) ?_; clear hA; rintro _ w ⟨ss2, pl2, s2, hsl2, hF2, hpl2, hgc2, hcase⟩ a hA)
  have hc2 := go_colour hok hF2 hsl2 hpl2 hgc2
  have hpp := prs_uniq hU hF hF2 hsl hsl2
  have hc12 := hc1.1
  have hc22 := hc2.1
  rcases hcase with ⟨hlt, rfl, hk⟩ | ⟨hge2, oM, cM, rfl, hj⟩
  · omega
  replace hH := hH.join hj
  clear hj
  obtain ⟨l2, hl2⟩ : ∃ x, x = regsOf (srt (varsL f.bs.l)) s2.2 := ⟨_, rfl⟩
  have hll2 : l2.length ≤ 1000000 := by rw [hl2, regsOf_len, srt_len]; exact hS.vs
  rw [← hl2] at hA hH hc2
  clear hl2
  have hreg : ∀ r ∈ l2, ¬ many ≤ r.r := fun r hr => by
    have := hc2.2.2 r hr
    omega
  replace hH : HS w0 noM [own 40 2 oM l2.length cM (flat encR l2), own 40 2 oL l1.length cL (flat encR l1), cb bF 30 (encG f)] w := hH
  repeat' (first | (first | (refine GT ?_ ?_ <;> intro hg <;> clear hA a <;> intro a hA <;> (first | exact FA | replace hg := of_decide_eq_true hg | replace hg := of_decide_eq_false hg | skip)) | (refine QT ?_; clear hA a; intro a hA) | (first | (refine BT ?_; clear hA hH; rintro _ w ⟨bN, rfl, hH⟩ a hA) | (refine LT ?_; clear hA hH; rintro _ w ⟨oN, rfl, hH⟩ a hA) | (refine AT ?_; clear hA; rintro _ w ⟨oN, cN, rfl, hH2⟩ a hA; clear hH; have hH := (hH2 _ (by (repeat constructor))).tail; clear hH2) | (refine S0T ?_; clear hH; rintro _ w hH) )) | ((first | refine CT ?_ | (refine DT ?_ ?_ <;> intro hc <;> try (exfalso; omega))) <;> repeat' refine CT ?_) | (first | (refine DSK ?_; clear hA a; intro a hA) | (first | (refine DLT ?_; clear hA hH; rintro _ w ⟨oN, rfl, hH⟩; refine ⟨STT, ?_⟩; intro a hA) | (refine DAT ?_; clear hA; rintro _ w ⟨oN, cN, rfl, hH2⟩; clear hH; have hH := (hH2 _ (by (repeat constructor))).tail; clear hH2; refine ⟨STT, ?_⟩; intro a hA))) )
  (refine st_op hA rfl rfl (by decide) (op_call rfl rfl rfl (Right_spec _ f oL cL l1 (hRf.keep hH.kp) hU hS (hH.own_rd (.tail _ (.head _))) hll1)) ?_; clear hA; rintro _ w ⟨b1, rfl, hb1, hk⟩ a hA; replace hH := hH.keep hk; clear hk)
  obtain rfl : b1 = true := hb1.mpr hc1.2.1
  clear hb1
  repeat' (first | (first | (refine GT ?_ ?_ <;> intro hg <;> clear hA a <;> intro a hA <;> (first | exact FA | replace hg := of_decide_eq_true hg | replace hg := of_decide_eq_false hg | skip)) | (refine QT ?_; clear hA a; intro a hA) | (first | (refine BT ?_; clear hA hH; rintro _ w ⟨bN, rfl, hH⟩ a hA) | (refine LT ?_; clear hA hH; rintro _ w ⟨oN, rfl, hH⟩ a hA) | (refine AT ?_; clear hA; rintro _ w ⟨oN, cN, rfl, hH2⟩ a hA; clear hH; have hH := (hH2 _ (by (repeat constructor))).tail; clear hH2) | (refine S0T ?_; clear hH; rintro _ w hH) )) | ((first | refine CT ?_ | (refine DT ?_ ?_ <;> intro hc <;> try (exfalso; omega))) <;> repeat' refine CT ?_) | (first | (refine DSK ?_; clear hA a; intro a hA) | (first | (refine DLT ?_; clear hA hH; rintro _ w ⟨oN, rfl, hH⟩; refine ⟨STT, ?_⟩; intro a hA) | (refine DAT ?_; clear hA; rintro _ w ⟨oN, cN, rfl, hH2⟩; clear hH; have hH := (hH2 _ (by (repeat constructor))).tail; clear hH2; refine ⟨STT, ?_⟩; intro a hA))) )
  (refine st_op hA rfl rfl (by decide) (op_call rfl rfl rfl (Right_spec _ f oM cM l2 (hRf.keep hH.kp) hU hS (hH.own_rd (.head _)) hll2)) ?_; clear hA; rintro _ w ⟨b2, rfl, hb2, hk⟩ a hA; replace hH := hH.keep hk; clear hk)
  obtain rfl : b2 = true := hb2.mpr hc2.2.1
  clear hb2
  have hspM := hH.own_sp (T := 40) (o := oM) (n := l2.length) (.head _)
  repeat' (first | (first | (refine GT ?_ ?_ <;> intro hg <;> clear hA a <;> intro a hA <;> (first | exact FA | replace hg := of_decide_eq_true hg | replace hg := of_decide_eq_false hg | skip)) | (refine QT ?_; clear hA a; intro a hA) | (first | (refine BT ?_; clear hA hH; rintro _ w ⟨bN, rfl, hH⟩ a hA) | (refine LT ?_; clear hA hH; rintro _ w ⟨oN, rfl, hH⟩ a hA) | (refine AT ?_; clear hA; rintro _ w ⟨oN, cN, rfl, hH2⟩ a hA; clear hH; have hH := (hH2 _ (by (repeat constructor))).tail; clear hH2) | (refine S0T ?_; clear hH; rintro _ w hH) )) | ((first | refine CT ?_ | (refine DT ?_ ?_ <;> intro hc <;> try (exfalso; omega))) <;> repeat' refine CT ?_) | (first | (refine DSK ?_; clear hA a; intro a hA) | (first | (refine DLT ?_; clear hA hH; rintro _ w ⟨oN, rfl, hH⟩; refine ⟨STT, ?_⟩; intro a hA) | (refine DAT ?_; clear hA; rintro _ w ⟨oN, cN, rfl, hH2⟩; clear hH; have hH := (hH2 _ (by (repeat constructor))).tail; clear hH2; refine ⟨STT, ?_⟩; intro a hA))) )
  refine wp_lpk (S := Nat) (fun i a w => (i ≤ l2.length) ∧ HS w0 noM [own 40 2 oM l2.length cM (flat encR l2)] w ∧
      Sl 81 [(70, .int .i64 i), (69, .int .i64 l2.length), (13, .slice oM l2.length cM), (2, .int .i64 many)] a) (fun i => l2.length - i)
    (fun a w => HS w0 noM [] w ∧ Sl 81 [] a) 0 ⟨Nat.zero_le _, hH.head, (hA.sub (by (repeat (first | exact trivial | refine ⟨rfl, ?_⟩))))⟩ ?_ ?_
  · clear hA hH
    rintro i a w ⟨hi, hH, hA⟩
    by_cases hlt : i < l2.length
    rotate_left
    · obtain rfl : i = l2.length := by omega
      repeat' (first | (first | (refine GT ?_ ?_ <;> intro hg <;> clear hA a <;> intro a hA <;> (first | exact FA | replace hg := of_decide_eq_true hg | replace hg := of_decide_eq_false hg | skip)) | (refine QT ?_; clear hA a; intro a hA) | (first | (refine BT ?_; clear hA hH; rintro _ w ⟨bN, rfl, hH⟩ a hA) | (refine LT ?_; clear hA hH; rintro _ w ⟨oN, rfl, hH⟩ a hA) | (refine AT ?_; clear hA; rintro _ w ⟨oN, cN, rfl, hH2⟩ a hA; clear hH; have hH := (hH2 _ (by (repeat constructor))).tail; clear hH2) | (refine S0T ?_; clear hH; rintro _ w hH) )) | ((first | refine CT ?_ | (refine DT ?_ ?_ <;> intro hc <;> try (exfalso; omega))) <;> repeat' refine CT ?_) | (first | (refine DSK ?_; clear hA a; intro a hA) | (first | (refine DLT ?_; clear hA hH; rintro _ w ⟨oN, rfl, hH⟩; refine ⟨STT, ?_⟩; intro a hA) | (refine DAT ?_; clear hA; rintro _ w ⟨oN, cN, rfl, hH2⟩; clear hH; have hH := (hH2 _ (by (repeat constructor))).tail; clear hH2; refine ⟨STT, ?_⟩; intro a hA))) )
      exact ⟨hH.tail, (hA.sub (by (repeat (first | exact trivial | refine ⟨rfl, ?_⟩))))⟩
    obtain ⟨r, hr⟩ : ∃ x, l2[i]? = some x := ⟨_, List.getElem?_eq_getElem hlt⟩
    have hv := (encR_at hr).2
    have hnr := hreg r (List.mem_of_getElem? hr)
    repeat' (first | (first | (refine GT ?_ ?_ <;> intro hg <;> clear hA a <;> intro a hA <;> (first | exact FA | replace hg := of_decide_eq_true hg | replace hg := of_decide_eq_false hg | skip)) | ((first | apply st_ex hA hH rfl rfl (by decide) | apply dr_ex hA rfl rfl rfl (by decide) | apply dr_exp hA rfl rfl rfl (by decide) | apply dr_ex3 hA hH rfl rfl rfl (by decide)); (first | (apply ex_indexAddr_nat; rfl; rfl; omega; exact hspM) | (apply ex_load; rfl; apply cl_own (T := 40); exact MEMT; exact hv)); clear hA a; intro a hA) | (refine QT ?_; clear hA a; intro a hA) | (first | (refine BT ?_; clear hA hH; rintro _ w ⟨bN, rfl, hH⟩ a hA) | (refine LT ?_; clear hA hH; rintro _ w ⟨oN, rfl, hH⟩ a hA) | (refine AT ?_; clear hA; rintro _ w ⟨oN, cN, rfl, hH2⟩ a hA; clear hH; have hH := (hH2 _ (by (repeat constructor))).tail; clear hH2) | (refine S0T ?_; clear hH; rintro _ w hH) )) | ((first | refine CT ?_ | (refine DT ?_ ?_ <;> intro hc <;> try (exfalso; omega))) <;> repeat' refine CT ?_) | (first | (refine DSK ?_; clear hA a; intro a hA) | (first | (refine DLT ?_; clear hA hH; rintro _ w ⟨oN, rfl, hH⟩; refine ⟨STT, ?_⟩; intro a hA) | (refine DAT ?_; clear hA; rintro _ w ⟨oN, cN, rfl, hH2⟩; clear hH; have hH := (hH2 _ (by (repeat constructor))).tail; clear hH2; refine ⟨STT, ?_⟩; intro a hA))) )
    exact ⟨i + 1, ⟨hlt, hH, (hA.sub (by (repeat (first | exact trivial | refine ⟨rfl, ?_⟩))))⟩, by omega⟩
  clear hA hH
  rintro a w ⟨hH, hA⟩
  repeat' (first | (first | (refine GT ?_ ?_ <;> intro hg <;> clear hA a <;> intro a hA <;> (first | exact FA | replace hg := of_decide_eq_true hg | replace hg := of_decide_eq_false hg | skip)) | (refine QT ?_; clear hA a; intro a hA) | (first | (refine BT ?_; clear hA hH; rintro _ w ⟨bN, rfl, hH⟩ a hA) | (refine LT ?_; clear hA hH; rintro _ w ⟨oN, rfl, hH⟩ a hA) | (refine AT ?_; clear hA; rintro _ w ⟨oN, cN, rfl, hH2⟩ a hA; clear hH; have hH := (hH2 _ (by (repeat constructor))).tail; clear hH2) | (refine S0T ?_; clear hH; rintro _ w hH) )) | ((first | refine CT ?_ | (refine DT ?_ ?_ <;> intro hc <;> try (exfalso; omega))) <;> repeat' refine CT ?_) | (first | (refine DSK ?_; clear hA a; intro a hA) | (first | (refine DLT ?_; clear hA hH; rintro _ w ⟨oN, rfl, hH⟩; refine ⟨STT, ?_⟩; intro a hA) | (refine DAT ?_; clear hA; rintro _ w ⟨oN, cN, rfl, hH2⟩; clear hH; have hH := (hH2 _ (by (repeat constructor))).tail; clear hH2; refine ⟨STT, ?_⟩; intro a hA))) )
  exact rt1 (.inl rfl) rfl hA rfl ⟨rfl, hH.kp⟩
end Go.Proofs.Ytjfanjcoppeeaaa
namespace Go.Proofs.Ytjfanjcoppeeaaa
open Go Go.Fw Go.ChangeShapes Go.WideShapes Go.ChangeAt Go.RowKit Go.Deep
set_option linter.unusedVariables false
set_option maxRecDepth 10000 attribute [local irreducible] Code.wp wpList Calls Ex Op1 sat bat blk cb own Go.Fw.mp Go.Fw.mpO Go.Fw.mpI Go.Fw.mpE Go.Fw.itr HS Rd Ret wkD Hp Cl Cls Exit.then Exit.inBlock Exit.noGoto bodyPost Go.Fw.flat wk2 Go.Fw.all Go.Fw.owns wpOp
attribute [local irreducible] sk mpK srt sko mvO entK geS GOk RightP regsOf varsL prs slots vrs

end Go.Proofs.Ytjfanjcoppeeaaa
namespace Go.Fw
open Go Go.RowKit
end Go.Fw
namespace Go.Proofs.Ytjfanjcoppeeaaa
open Go Go.Fw Go.ChangeShapes Go.WideShapes Go.ChangeAt Go.RowKit Go.Deep
set_option linter.unusedVariables false
set_option maxRecDepth 10000 attribute [local irreducible] Code.wp wpList Calls Ex Op1 sat bat blk cb own Go.Fw.mp Go.Fw.mpO Go.Fw.mpI Go.Fw.mpE Go.Fw.itr HS Rd Ret wkD Hp Cl Cls Exit.then Exit.inBlock Exit.noGoto bodyPost Go.Fw.flat wk2 Go.Fw.all Go.Fw.owns wpOp
attribute [local irreducible] sk mpK srt sko mvO entK geS GOk RightP regsOf varsL prs slots vrs FixAt LiveOk setAt

end Go.Proofs.Ytjfanjcoppeeaaa
namespace Go.Proofs.Ytjfanjcoppeeaaa
open Go Go.Fw
set_option linter.unusedVariables false
theorem bulk_pos {H : Type} (d : DataW H) : 1 ≤ Rows.uptoBulk d := by
  cases d with
  | lit l => cases l <;> simp [Rows.uptoBulk]
  | _ => simp [Rows.uptoBulk]
theorem bulk_mem {H : Type} {d : DataW H} : ∀ {l : List (DataW H)}, d ∈ l → Rows.uptoBulk d ≤ Rows.uptoBulkAll l
  | x :: l, h => by
    rw [Rows.uptoBulkAll]
    rcases List.mem_cons.1 h with rfl | h
    · omega
    · have := bulk_mem h; omega
theorem bulk_len {H : Type} : ∀ (l : List (DataW H)), l.length ≤ Rows.uptoBulkAll l
  | [] => Nat.zero_le _
  | x :: l => by
    rw [Rows.uptoBulkAll, List.length_cons]
    have := bulk_pos x
    have := bulk_len l
    omega
theorem bulk_of {H : Type} {ds : List (DataW H)} {d : DataW H} (hk : ∃ gs, Rows.uptoSmall H (ds ++ gs) = true) (hd : d ∈ ds) : Rows.uptoBulk d ≤ 1048576 := by
  obtain ⟨gs, hk⟩ := hk
  have h : Rows.uptoBulkAll (ds ++ gs) ≤ 1048576 := of_decide_eq_true hk
  have := bulk_mem (List.mem_append_left gs hd)
  omega
theorem bulk_slice {H : Type} {elems rest : List (DataW H)} : elems.length ≤ Rows.uptoBulk (.slice elems rest) := by
  rw [Rows.uptoBulk]
  have := bulk_len elems
  omega
end Go.Proofs.Ytjfanjcoppeeaaa
namespace Go.Proofs.Ytjfanjcoppeeaaa
open Go Go.Fw Go.ChangeShapes Go.WideShapes Go.ChangeAt Go.RowKit Go.Deep
set_option linter.unusedVariables false
section
variable {H : Type} {enc0 : TypeId × Value → H} {w : World} {held : Bool}
/-- cells that type t reads are an α's; and if what was read is small, K holds -/
def Opn (enc0 : TypeId × Value → H) (w : World) (held : Bool) (t : TypeId) {α : Type} (enc : α → List Value) (K : α → Prop) : Prop :=
  ∀ (fuel : Nat) (cs : List Value) (x : DataW H × List MemPlace), DataW.trod enc0 Try.prog w 0 (fun _ => true) held fuel t cs = some x → ∃ a, cs = enc a ∧ (Rows.uptoBulk x.1 ≤ 1048576 → K a)
theorem opn_int {t : TypeId} {k : IntKind} [h : TIn Try.prog t k] : Opn enc0 w held t (fun n : Int => [.int k n]) (fun _ => True) := fun fuel cs x hx => by
  obtain ⟨n, rfl, _⟩ := DataW.trod_int h.eq hx
  exact ⟨n, rfl, fun _ => trivial⟩
theorem opn_str {t : TypeId} [h : TSr Try.prog t] : Opn enc0 w held t (fun s : ByteArray => [.string s]) (fun _ => True) := fun fuel cs x hx => by
  obtain ⟨n, rfl, _⟩ := DataW.trod_string h.eq hx
  exact ⟨n, rfl, fun _ => trivial⟩
theorem rd_of0 {a : Addr} {vs : List Value} (h : ∀ j v, vs[j]? = some v → w.cell? (a.add j) = some v) : Rd w (some a) vs := by
  cases vs with
  | nil => exact ⟨fun h => absurd h (by decide), fun j u h => by simp at h⟩
  | cons v vs =>
    have h1 := World.cell?_spot (h 0 v rfl)
    have hs : a.spot = none := by simpa [Addr.add] using h1
    refine ⟨fun _ => ⟨a.block, a.off, by rw [← hs]⟩, fun j u hj => ?_⟩
    rw [← add_sat a hs]
    exact h j u hj
/-- a slice: where it lies, its room, what stands in it -/
theorem opn_slice {t e : TypeId} [ht : TSl Try.prog t e] {α : Type} {enc : α → List Value} {K : α → Prop} {sz : Nat} (he : Opn enc0 w held e enc K) (hc : Try.prog.cellsOf e = sz) (hsz : 0 < sz) (hl : ∀ a, (enc a).length = sz) :
    Opn enc0 w held t (fun v : Option Addr × Nat × List α => [.slice v.1 v.2.2.length v.2.1]) (fun v => (Rd w v.1 (flat enc v.2.2) ∧ v.2.2.length ≤ v.2.1 ∧ v.2.1 ≤ maxLen) ∧ v.2.2.length ≤ 1048576 ∧ ∀ a ∈ v.2.2, K a) := fun fuel cs x hx => by
  rcases DataW.trod_slice ht.eq hx with ⟨rfl, rfl⟩ | ⟨a, len, cap, elems, rest, n, rfl, rfl, rfl, hb, hle, hm, hlen, hel, _, _⟩
  · exact ⟨(none, 0, []), rfl, fun _ => ⟨⟨⟨fun h => absurd h (Nat.lt_irrefl 0), fun j u h => by simp [flat] at h⟩, Nat.le_refl _, Nat.zero_le _⟩, Nat.zero_le _, fun a ha => absurd ha List.not_mem_nil⟩⟩
  · obtain ⟨l, hll, hp⟩ := choose_list (fun i (p : α) => (∀ j v, (enc p)[j]? = some v → w.cell? (a.add (i * sz + j)) = some v) ∧ ∀ y, elems[i]? = some y → Rows.uptoBulk y.1 ≤ 1048576 → K p) len (fun i hi => by
      have h1 := hel i hi
      have h2 : elems[i]? = some (elems[i]'(by omega)) := List.getElem?_eq_getElem (by omega)
      rw [h2, hc] at h1
      obtain ⟨cs', hcs, ht'⟩ := Option.bind_eq_some_iff.1 h1
      obtain ⟨_, hcl, hat⟩ := World.cells?_some hcs
      obtain ⟨p, rfl, hK⟩ := he _ _ _ ht'
      refine ⟨p, fun j v hj => ?_, fun y hy hbk => ?_⟩
      · have hjl := (List.getElem?_eq_some_iff.1 hj).1
        rw [hl] at hjl
        rw [← Go.Deep.add_add, hat j hjl, hj]
      · rw [h2] at hy
        cases hy
        exact hK hbk)
    subst hll
    refine ⟨(some a, cap, l), rfl, fun hbk => ⟨⟨rd_of0 fun j v hj => ?_, hle, hm⟩, ?_, fun p hp' => ?_⟩⟩
    · dsimp only at hj
      have hjl := (List.getElem?_eq_some_iff.1 hj).1
      rw [flat_length hl] at hjl
      have hjq : j / sz < l.length := Nat.div_lt_of_lt_mul (by rw [Nat.mul_comm]; exact hjl)
      obtain ⟨p, hpp⟩ : ∃ p, l[j / sz]? = some p := ⟨_, List.getElem?_eq_getElem hjq⟩
      have h6 := (hp _ _ hpp).1 (j % sz)
      have ej : j / sz * sz + j % sz = j := by rw [Nat.mul_comm]; exact Nat.div_add_mod j sz
      obtain ⟨u, hu⟩ : ∃ u, (enc p)[j % sz]? = some u := ⟨_, List.getElem?_eq_getElem (by rw [hl]; exact Nat.mod_lt _ hsz)⟩
      have h7 := flat_get hl hpp hu
      rw [ej, hj] at h7
      have h8 := h6 u hu
      rw [ej] at h8
      rw [h8, ← Option.some.inj h7]
    · have := bulk_slice (elems := elems.map (·.1)) (rest := rest.map (·.1))
      rw [List.length_map] at this
      dsimp only at hbk ⊢
      omega
    · dsimp only at hp' hbk
      obtain ⟨i, hi⟩ := List.getElem?_of_mem hp'
      have hil := (List.getElem?_eq_some_iff.1 hi).1
      obtain ⟨y, hy⟩ : ∃ y, elems[i]? = some y := ⟨_, List.getElem?_eq_getElem (by omega)⟩
      refine (hp i p hi).2 y hy ?_
      have h9 := bulk_mem (List.mem_map_of_mem (f := fun x => x.1) (List.mem_of_getElem? hy))
      rw [Rows.uptoBulk] at hbk
      omega
theorem opn_struct {t : TypeId} {fl : List (Nat × Nat)} [ht : TSt Try.prog t fl] {fuel : Nat} {cs : List Value} {x : DataW H × List MemPlace} (hx : DataW.trod enc0 Try.prog w 0 (fun _ => true) held fuel t cs = some x) :
    ∃ n, cs.length = Try.prog.cellsOf t ∧ ∀ (i ft off : Nat), fl[i]? = some (ft, off) → ∃ y : DataW H × List MemPlace, DataW.trod enc0 Try.prog w 0 (fun _ => true) held n ft ((cs.drop off).take (Try.prog.cellsOf ft)) = some y ∧ (Rows.uptoBulk x.1 ≤ 1048576 → Rows.uptoBulk y.1 ≤ 1048576) := by
  obtain ⟨fs, hfs, hfl⟩ := ht.eq
  obtain ⟨ys, n, rfl, rfl, hcl, hyl, hf⟩ := DataW.trod_struct hfs hx
  refine ⟨n, hcl, fun i ft off hi => ?_⟩
  rw [← hfl, List.getElem?_map] at hi
  obtain ⟨fd, hfd, e⟩ := Option.map_eq_some_iff.1 hi
  cases e
  have hfd2 : fs[i]? = some fd := by rw [← Array.getElem?_toList]; exact hfd
  have h1 := hf i fd hfd2
  have hil : i < ys.length := by
    rw [hyl]
    exact (Array.getElem?_eq_some_iff.1 hfd2).1
  rw [List.getElem?_eq_getElem hil] at h1
  refine ⟨_, h1, fun hbk => ?_⟩
  have h9 := bulk_mem (List.mem_map_of_mem (f := fun x => x.1) (List.getElem_mem hil))
  rw [Rows.uptoBulk] at hbk
  omega
theorem cut_at (cs : List Value) (off s : Nat) : cs.drop off = (cs.drop off).take s ++ cs.drop (off + s) := by
  rw [← List.drop_drop]
  exact (List.take_append_drop s (cs.drop off)).symm
theorem opn_imp {t : TypeId} {α β : Type} {enc : α → List Value} {K : α → Prop} {enc2 : β → List Value} {K2 : β → Prop} (h : Opn enc0 w held t enc K) (f : α → β) (he : ∀ a, enc a = enc2 (f a)) (hK : ∀ a, K a → K2 (f a)) : Opn enc0 w held t enc2 K2 := fun fuel cs x hx => by
  obtain ⟨a, rfl, hk⟩ := h fuel cs x hx
  exact ⟨f a, he a, fun hb => hK a (hk hb)⟩
theorem opn_arg {t : TypeId} {α : Type} {enc : α → List Value} {K : α → Prop} (h : Opn enc0 w held t enc K) {v : Value} {d : DataW H} {p : List MemPlace} {ds : List (DataW H)} (hT : DataW.Trod enc0 Try.prog w 0 (fun _ => true) held t v d p) (hd : d ∈ ds) (hk : ∃ gs, Rows.uptoSmall H (ds ++ gs) = true) :
    ∃ a, v.cells.toList = enc a ∧ K a := by
  obtain ⟨fuel, hf⟩ := hT
  obtain ⟨a, he, hK⟩ := h fuel _ _ hf
  exact ⟨a, he, hK (bulk_of hk hd)⟩
end
end Go.Proofs.Ytjfanjcoppeeaaa
namespace Go.Proofs.Ytjfanjcoppeeaaa
open Go Go.Fw Go.ChangeShapes Go.WideShapes Go.ChangeAt Go.RowKit Go.Deep
set_option linter.unusedVariables false
section
variable {H : Type} {enc0 : TypeId × Value → H} {w : World} {held : Bool}
theorem cutc {cs A B : List Value} {o s o2 : Nat} (z : o2 = o + s) (e : (cs.drop o).take s = A) (h : cs.drop o2 = B) : cs.drop o = A ++ B := by
  subst z
  rw [cut_at cs o s, e, h]
theorem cutn {cs : List Value} {o n : Nat} (h : cs.length = n) (z : n = o) : cs.drop o = [] := List.drop_eq_nil_of_le (by omega)
theorem opn_vec {t e : TypeId} [ht : TSl Try.prog t e] {α : Type} {enc : α → List Value} {K : α → Prop} {sz : Nat} (he : Opn enc0 w held e enc K) (hc : Try.prog.cellsOf e = sz) (hsz : 0 < sz) (hl : ∀ a, (enc a).length = sz) :
    Opn enc0 w held t (fun v : Vec α => [.slice v.o v.l.length v.c]) (fun v => RdV w enc v ∧ v.l.length ≤ 1048576 ∧ ∀ a ∈ v.l, K a) :=
  opn_imp (opn_slice he hc hsz hl) (fun v => ⟨v.1, v.2.1, v.2.2⟩) (fun v => rfl) (fun v h => h)
theorem opn_encI {t : TypeId} [h : TIn Try.prog t .i64] : Opn enc0 w held t Fw.encI (fun _ => True) := opn_imp opn_int id (fun _ => rfl) (fun _ _ => trivial)
theorem opn_encX {t : TypeId} [h : TSr Try.prog t] : Opn enc0 w held t encX (fun _ => True) := opn_imp opn_str id (fun _ => rfl) (fun _ _ => trivial)
theorem opn_atm : Opn enc0 w held 63 encAt (fun _ => True) := fun fuel cs x hx => by
  obtain ⟨n, hcl, hf⟩ := opn_struct hx
  obtain ⟨y0, h0, b0⟩ := hf 0 _ _ rfl
  obtain ⟨a0, e0, k0⟩ := (opn_int) n _ _ h0
  obtain ⟨y1, h1, b1⟩ := hf 1 _ _ rfl
  obtain ⟨a1, e1, k1⟩ := (opn_int) n _ _ h1
  refine ⟨⟨a0, a1⟩, cutc (o2 := 1) (by kernel_rfl) e0 (cutc (o2 := 2) (by kernel_rfl) e1 (cutn (o := 2) hcl (by kernel_rfl))), fun hb => ?_⟩
  have g0 := k0 (b0 hb)
  have g1 := k1 (b1 hb)
  exact trivial
theorem opn_stp : Opn enc0 w held 56 encSt (fun s => RdV w Fw.encI s.ns ∧ RdV w encAt s.a) := fun fuel cs x hx => by
  obtain ⟨n, hcl, hf⟩ := opn_struct hx
  obtain ⟨y0, h0, b0⟩ := hf 0 _ _ rfl
  obtain ⟨a0, e0, k0⟩ := (opn_int) n _ _ h0
  obtain ⟨y1, h1, b1⟩ := hf 1 _ _ rfl
  obtain ⟨a1, e1, k1⟩ := (opn_int) n _ _ h1
  obtain ⟨y2, h2, b2⟩ := hf 2 _ _ rfl
  obtain ⟨a2, e2, k2⟩ := (opn_vec (opn_encI) (by kernel_rfl) (by decide) Fw.encI_len) n _ _ h2
  obtain ⟨y3, h3, b3⟩ := hf 3 _ _ rfl
  obtain ⟨a3, e3, k3⟩ := (opn_vec (opn_atm) (by kernel_rfl) (by decide) encAt_len) n _ _ h3
  refine ⟨⟨a0, a1, a2, a3⟩, cutc (o2 := 1) (by kernel_rfl) e0 (cutc (o2 := 2) (by kernel_rfl) e1 (cutc (o2 := 3) (by kernel_rfl) e2 (cutc (o2 := 4) (by kernel_rfl) e3 (cutn (o := 4) hcl (by kernel_rfl))))), fun hb => ?_⟩
  have g0 := k0 (b0 hb)
  have g1 := k1 (b1 hb)
  have g2 := k2 (b2 hb)
  have g3 := k3 (b3 hb)
  exact ⟨g2.1, g3.1⟩
theorem opn_ins : Opn enc0 w held 58 encIn (fun i => RdIn w i) := fun fuel cs x hx => by
  obtain ⟨n, hcl, hf⟩ := opn_struct hx
  obtain ⟨y0, h0, b0⟩ := hf 0 _ _ rfl
  obtain ⟨a0, e0, k0⟩ := (opn_int) n _ _ h0
  obtain ⟨y1, h1, b1⟩ := hf 1 _ _ rfl
  obtain ⟨a1, e1, k1⟩ := (opn_stp) n _ _ h1
  refine ⟨⟨a0, a1⟩, cutc (o2 := 1) (by kernel_rfl) e0 (cutc (o2 := 5) (by kernel_rfl) e1 (cutn (o := 5) hcl (by kernel_rfl))), fun hb => ?_⟩
  have g0 := k0 (b0 hb)
  have g1 := k1 (b1 hb)
  exact g1
theorem opn_edg : Opn enc0 w held 54 encEd (fun e => RdV w encAt e.a) := fun fuel cs x hx => by
  obtain ⟨n, hcl, hf⟩ := opn_struct hx
  obtain ⟨y0, h0, b0⟩ := hf 0 _ _ rfl
  obtain ⟨a0, e0, k0⟩ := (opn_int) n _ _ h0
  obtain ⟨y1, h1, b1⟩ := hf 1 _ _ rfl
  obtain ⟨a1, e1, k1⟩ := (opn_vec (opn_atm) (by kernel_rfl) (by decide) encAt_len) n _ _ h1
  refine ⟨⟨a0, a1⟩, cutc (o2 := 1) (by kernel_rfl) e0 (cutc (o2 := 2) (by kernel_rfl) e1 (cutn (o := 2) hcl (by kernel_rfl))), fun hb => ?_⟩
  have g0 := k0 (b0 hb)
  have g1 := k1 (b1 hb)
  exact g1.1
theorem opn_en : Opn enc0 w held 50 encEn (fun e => RdEn w e ∧ e.to.l.length ≤ 1048576) := fun fuel cs x hx => by
  obtain ⟨n, hcl, hf⟩ := opn_struct hx
  obtain ⟨y0, h0, b0⟩ := hf 0 _ _ rfl
  obtain ⟨a0, e0, k0⟩ := (opn_int) n _ _ h0
  obtain ⟨y1, h1, b1⟩ := hf 1 _ _ rfl
  obtain ⟨a1, e1, k1⟩ := (opn_vec (opn_atm) (by kernel_rfl) (by decide) encAt_len) n _ _ h1
  obtain ⟨y2, h2, b2⟩ := hf 2 _ _ rfl
  obtain ⟨a2, e2, k2⟩ := (opn_vec (opn_encI) (by kernel_rfl) (by decide) Fw.encI_len) n _ _ h2
  obtain ⟨y3, h3, b3⟩ := hf 3 _ _ rfl
  obtain ⟨a3, e3, k3⟩ := (opn_vec (opn_edg) (by kernel_rfl) (by decide) encEd_len) n _ _ h3
  refine ⟨⟨a0, a1, a2, a3⟩, cutc (o2 := 1) (by kernel_rfl) e0 (cutc (o2 := 2) (by kernel_rfl) e1 (cutc (o2 := 3) (by kernel_rfl) e2 (cutc (o2 := 4) (by kernel_rfl) e3 (cutn (o := 4) hcl (by kernel_rfl))))), fun hb => ?_⟩
  have g0 := k0 (b0 hb)
  have g1 := k1 (b1 hb)
  have g2 := k2 (b2 hb)
  have g3 := k3 (b3 hb)
  exact ⟨⟨g1.1, g2.1, g3.1, g3.2.2⟩, g3.2.1⟩
theorem opn_blc : Opn enc0 w held 52 encBl (fun b => RdBl w b ∧ b.e.to.l.length ≤ 1048576) := fun fuel cs x hx => by
  obtain ⟨n, hcl, hf⟩ := opn_struct hx
  obtain ⟨y0, h0, b0⟩ := hf 0 _ _ rfl
  obtain ⟨a0, e0, k0⟩ := (opn_vec (opn_encI) (by kernel_rfl) (by decide) Fw.encI_len) n _ _ h0
  obtain ⟨y1, h1, b1⟩ := hf 1 _ _ rfl
  obtain ⟨a1, e1, k1⟩ := (opn_vec (opn_ins) (by kernel_rfl) (by decide) encIn_len) n _ _ h1
  obtain ⟨y2, h2, b2⟩ := hf 2 _ _ rfl
  obtain ⟨a2, e2, k2⟩ := (opn_en) n _ _ h2
  refine ⟨⟨a0, a1, a2⟩, cutc (o2 := 1) (by kernel_rfl) e0 (cutc (o2 := 2) (by kernel_rfl) e1 (cutc (o2 := 6) (by kernel_rfl) e2 (cutn (o := 6) hcl (by kernel_rfl)))), fun hb => ?_⟩
  have g0 := k0 (b0 hb)
  have g1 := k1 (b1 hb)
  have g2 := k2 (b2 hb)
  exact ⟨⟨g0.1, g1.1, g1.2.2, g2.1⟩, g2.2⟩
theorem opn_gr : Opn enc0 w held 30 encG (fun g => RdG w g ∧ g.bs.l.length ≤ 1048576 ∧ ∀ bl ∈ g.bs.l, bl.e.to.l.length ≤ 1048576) := fun fuel cs x hx => by
  obtain ⟨n, hcl, hf⟩ := opn_struct hx
  obtain ⟨y0, h0, b0⟩ := hf 0 _ _ rfl
  obtain ⟨a0, e0, k0⟩ := (opn_int) n _ _ h0
  obtain ⟨y1, h1, b1⟩ := hf 1 _ _ rfl
  obtain ⟨a1, e1, k1⟩ := (opn_vec (opn_blc) (by kernel_rfl) (by decide) encBl_len) n _ _ h1
  refine ⟨⟨a0, a1⟩, cutc (o2 := 1) (by kernel_rfl) e0 (cutc (o2 := 2) (by kernel_rfl) e1 (cutn (o := 2) hcl (by kernel_rfl))), fun hb => ?_⟩
  have g0 := k0 (b0 hb)
  have g1 := k1 (b1 hb)
  exact ⟨⟨g1.1, fun b hb => (g1.2.2 b hb).1⟩, g1.2.1, fun b hb => (g1.2.2 b hb).2⟩
theorem opn_grs : Opn enc0 w held 25 encGs (fun g => RdGs w g ∧ BigOk g) := fun fuel cs x hx => by
  obtain ⟨n, hcl, hf⟩ := opn_struct hx
  obtain ⟨y0, h0, b0⟩ := hf 0 _ _ rfl
  obtain ⟨a0, e0, k0⟩ := (opn_vec (opn_gr) (by kernel_rfl) (by decide) encG_len) n _ _ h0
  obtain ⟨y1, h1, b1⟩ := hf 1 _ _ rfl
  obtain ⟨a1, e1, k1⟩ := (opn_vec (opn_encX) (by kernel_rfl) (by decide) encX_len) n _ _ h1
  obtain ⟨y2, h2, b2⟩ := hf 2 _ _ rfl
  obtain ⟨a2, e2, k2⟩ := (opn_vec (opn_encX) (by kernel_rfl) (by decide) encX_len) n _ _ h2
  obtain ⟨y3, h3, b3⟩ := hf 3 _ _ rfl
  obtain ⟨a3, e3, k3⟩ := (opn_vec (opn_encX) (by kernel_rfl) (by decide) encX_len) n _ _ h3
  obtain ⟨y4, h4, b4⟩ := hf 4 _ _ rfl
  obtain ⟨a4, e4, k4⟩ := (opn_vec (opn_encX) (by kernel_rfl) (by decide) encX_len) n _ _ h4
  refine ⟨⟨a0, a1, a2, a3, a4⟩, cutc (o2 := 1) (by kernel_rfl) e0 (cutc (o2 := 2) (by kernel_rfl) e1 (cutc (o2 := 3) (by kernel_rfl) e2 (cutc (o2 := 4) (by kernel_rfl) e3 (cutc (o2 := 5) (by kernel_rfl) e4 (cutn (o := 5) hcl (by kernel_rfl)))))), fun hb => ?_⟩
  have g0 := k0 (b0 hb)
  have g1 := k1 (b1 hb)
  have g2 := k2 (b2 hb)
  have g3 := k3 (b3 hb)
  have g4 := k4 (b4 hb)
  exact ⟨⟨g0.1, fun f hf => (g0.2.2 f hf).1, g1.1, g2.1, g3.1, g4.1⟩, g0.2.1, fun f hf => (g0.2.2 f hf).2⟩
set_option maxRecDepth 100000 in
theorem argG {base : Nat} {v : Value} {d : DataW H} {p : List MemPlace} {ds : List (DataW H)} (hv : Value.okWide Try.prog w .any base 25 v) (h : DataW.Trod enc0 Try.prog w 0 (fun _ => true) held 25 v d p) (hd : d ∈ ds) (hk : ∃ gs, Rows.uptoSmall H (ds ++ gs) = true) :
    ∃ g : Grs, v = .agg (encGs g).toArray ∧ RdGs w g ∧ BigOk g := by
  obtain ⟨cs, rfl, _⟩ := okWide_struct Try.underlying25 hv
  obtain ⟨g, he, hK⟩ := opn_arg opn_grs h hd hk
  have he : cs.toList = encGs g := he
  exact ⟨g, by rw [← he], hK⟩
set_option maxRecDepth 100000 in
theorem argU8 {base : Nat} {v : Value} {d : DataW H} {p : List MemPlace} (hv : Value.okWide Try.prog w .any base 5 v) (h : DataW.Trod enc0 Try.prog w 0 (fun _ => true) held 5 v d p) : ∃ n : Int, v = .int .u8 n ∧ 0 ≤ n ∧ n ≤ 255 := by
  obtain ⟨n, rfl⟩ := okWide_int Try.underlying5 hv
  obtain ⟨fuel, hf⟩ := h
  obtain ⟨m, e, _, hw⟩ := DataW.trod_int Try.underlying5 hf
  simp [Value.cells] at e
  subst e
  have hw2 : (decide (IntKind.u8.min ≤ n) && decide (n ≤ IntKind.u8.max)) = true := hw
  rw [Bool.and_eq_true, decide_eq_true_eq, decide_eq_true_eq] at hw2
  exact ⟨n, rfl, hw2.1, hw2.2⟩
end
theorem own_ : ownKnob Try.checked.prog.godebug = none := by kernel_rfl
theorem laidOut : laidOutB Try.checked.prog = true := by kernel_rfl
end Go.Proofs.Ytjfanjcoppeeaaa
