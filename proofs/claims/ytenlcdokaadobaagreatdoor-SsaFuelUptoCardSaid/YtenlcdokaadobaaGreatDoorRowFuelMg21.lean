/-
  ssa.Of's parts at a function that returns a number: graph. Conditions: none.
  ssa.Of at no function, and at one that returns five. Conditions: none.
-/
import Derived.Test.YtenlcdokaadobaaGreatDoorRowFuelMg20
namespace Go.Proofs.YtenlcdokaadobaaGreatDoor
open Go Go.Fw
set_option linter.unusedVariables false
theorem dr_bl (o1 : Option Addr) (n : Int) (i : Nat) (v : Value) (h : (encBl (bl5 o1 1 n))[i]? = some v) : (dr1 o1 0)[Int.toNat 0 * 7 + 0 + i]? = some v := by
  match i, h with
  | 0, h => exact h
  | 1, h => exact h
  | 2, h => exact h
  | 3, h => exact h
  | 4, h => exact h
  | 5, h => exact h
theorem flat_one {α : Type} (X : List α) : (List.replicate 1 X).flatten = X := by simp
set_option maxRecDepth 10000 attribute [local irreducible] Code.wp wpList Calls Ex Op1 sat bat blk cb own Go.Fw.mp Go.Fw.mpO Go.Fw.mpI Go.Fw.mpE Go.Fw.itr HS Rd Ret wkD Hp Cl Cls Exit.then Exit.inBlock Exit.noGoto bodyPost Go.Fw.flat wk2 Go.Fw.all Go.Fw.owns wpOp
attribute [local irreducible] sk mpK sko mvO entK opM Go.Fw.mset Go.Fw.mv opK

set_option maxHeartbeats 16000000 in
theorem graph1_spec (w0 : World) (o : Option Addr) (n : Int) (hR : Rd w0 o (encAt ⟨2, n⟩)) :
    Ret Tryz.prog 40 #[.agg (encF o 0).toArray] w0 (fun r w =>
      ∃ oB cB o1, r = .agg (encG ⟨0, ⟨oB, cB, [bl5 o1 1 n]⟩⟩).toArray ∧ HS w0 noM [own 53 6 oB 1 cB (encBl (bl5 o1 1 n)), own 65 2 o1 1 1 (encAt ⟨2, n⟩)] w) := by
  have hH : HS w0 noM [] w0 := HS.init w0 noM
  (refine enter (N := 83) Tryz.func40 rfl Tryz.ntmps40 rfl ?_; intro a hA; dsimp only [sl0, Nat.reduceAdd] at hA)
  repeat' (first | ((first | apply st_ex hA hH rfl rfl (by decide) | apply dr_ex hA rfl rfl rfl (by decide) | apply dr_exp hA rfl rfl rfl (by decide) | apply dr_ex3 hA hH rfl rfl rfl (by decide)); (first | (apply ex_build_p (cs := (encMk none 0 0 bJ).toArray); rfl; (repeat (first | (intro _ h; exact absurd h (List.not_mem_nil)) | (refine List.forall_mem_cons.2 ⟨one_cell_of _ _, ?_⟩))); rfl)); clear hA a; intro a hA) | (refine QT ?_; clear hA a; intro a hA) | (refine BT ?_; clear hA hH; rintro _ w ⟨bN, rfl, hH⟩ a hA) | (refine st_op hA rfl rfl (by decide) (op_makeMap hH) ?_; clear hA hH; rintro _ w ⟨bJ, rfl, hH⟩ a hA) | (refine CT ?_ <;> repeat' refine CT ?_))
  have key : ∃ bM b2 bF, HS w0 noM (cb bM 174 (encMk none 0 0 bJ) :: cb bF 72 (encF o 0) :: cb b2 44 [.int .i64 0, .slice none 0 0] :: mp bJ [] :: []) w ∧ Sl 83 [(17, .pointer (some (bat bM 0))), (16, .pointer (some (bat bM 0))), (3, .pointer (some (bat bM 0))), (2, .pointer (some (bat b2 0))), (1, .pointer (some (bat bF 0)))] a := ⟨_, _, _, hH.perm (by (repeat (first | exact List.Perm.refl _ | exact List.Perm.nil | refine perm_pick 0 rfl ?_ | refine perm_pick 1 rfl ?_ | refine perm_pick 2 rfl ?_ | refine perm_pick 3 rfl ?_ | refine perm_pick 4 rfl ?_ | refine perm_pick 5 rfl ?_ | refine perm_pick 6 rfl ?_ | refine perm_pick 7 rfl ?_ | refine perm_pick 8 rfl ?_ | refine perm_pick 9 rfl ?_ | refine perm_pick 10 rfl ?_ | refine perm_pick 11 rfl ?_))), (hA.sub (by (repeat (first | exact trivial | refine ⟨rfl, ?_⟩)); first | done | fail "sub"))⟩
  clear hA hH
  obtain ⟨bM, b2, bF, hH, hA⟩ := key
  (refine st_op hA rfl rfl (by decide) (op_call rfl rfl rfl (fresh0_spec w0 w _ bM bJ hH)) ?_; clear hA hH; rintro _ w ⟨oD, cD, rfl, hH⟩ a hA)
  repeat' (first | (refine QT ?_; clear hA a; intro a hA))
  (refine st_op hA rfl rfl (by decide) (op_call rfl rfl rfl (fill1_spec w0 w _ bM bJ bF cD oD o ⟨2, n⟩ hH hR)) ?_; clear hA hH; rintro _ w ⟨o1, hH⟩ a hA)
  have hspD : Sp oD 1 := hH.own_sp (T := 179) (.tail _ (.head _))
  repeat' (first | (refine QT ?_; clear hA a; intro a hA) | (refine CT ?_ <;> repeat' refine CT ?_))
  (refine st_op hA rfl rfl (by decide) (op_call rfl rfl rfl (order1_spec w0 w _ bM bJ cD oD o1 hspD hH)) ?_; clear hA hH; rintro _ w ⟨oL, cL, rfl, hH⟩ a hA)
  have hspL : Sp oL 1 := hH.own_sp (T := 3) (.tail _ (.tail _ (.head _)))
  replace hH := (((hH.rm 6)).perm (H' := cb bM 174 (encMk oD 1 cD bJ) :: own 179 7 oD 1 cD (dr1 o1 0) :: own 3 1 oL 1 cL [.int .i64 0] :: own 65 2 o1 1 1 (encAt ⟨2, n⟩) :: cb bF 72 (encF o 0) :: cb b2 44 [.int .i64 0, .slice none 0 0] :: []) (by (repeat (first | exact List.Perm.refl _ | exact List.Perm.nil | refine perm_pick 0 rfl ?_ | refine perm_pick 1 rfl ?_ | refine perm_pick 2 rfl ?_ | refine perm_pick 3 rfl ?_ | refine perm_pick 4 rfl ?_ | refine perm_pick 5 rfl ?_ | refine perm_pick 6 rfl ?_ | refine perm_pick 7 rfl ?_ | refine perm_pick 8 rfl ?_ | refine perm_pick 9 rfl ?_ | refine perm_pick 10 rfl ?_ | refine perm_pick 11 rfl ?_))))
  repeat' (first | (refine QT ?_; clear hA a; intro a hA) | (refine st_op hA rfl rfl (by decide) (op_makeMap hH) ?_; clear hA hH; rintro _ w ⟨bP, rfl, hH⟩ a hA) | (refine CT ?_ <;> repeat' refine CT ?_))
  refine wp_lpk (S := Nat) (fun i a w => ∃ m, i ≤ 1 ∧ HS w0 noM (mp bP m :: cb bM 174 (encMk oD 1 cD bJ) :: own 179 7 oD 1 cD (dr1 o1 0) :: own 3 1 oL 1 cL [.int .i64 0] :: own 65 2 o1 1 1 (encAt ⟨2, n⟩) :: cb bF 72 (encF o 0) :: cb b2 44 [.int .i64 0, .slice none 0 0] :: []) w ∧ Sl 83 [(26, .int .i64 i), (25, .int .i64 (1 : Nat)), (24, .slice oL 1 cL), (5, .map (some bP)), (4, .slice oL 1 cL), (3, .pointer (some (bat bM 0))), (2, .pointer (some (bat b2 0))), (1, .pointer (some (bat bF 0)))] a) (fun i => 1 - i)
    (fun a w => HS w0 noM (cb bM 174 (encMk oD 1 cD bJ) :: own 179 7 oD 1 cD (dr1 o1 0) :: own 3 1 oL 1 cL [.int .i64 0] :: own 65 2 o1 1 1 (encAt ⟨2, n⟩) :: cb bF 72 (encF o 0) :: cb b2 44 [.int .i64 0, .slice none 0 0] :: []) w ∧ Sl 83 [(4, .slice oL 1 cL), (3, .pointer (some (bat bM 0))), (2, .pointer (some (bat b2 0))), (1, .pointer (some (bat bF 0)))] a) 0 ⟨[], Nat.zero_le _, hH, (hA.sub (by (repeat (first | exact trivial | refine ⟨rfl, ?_⟩)); first | done | fail "sub"))⟩ ?_ ?_
  · clear hA hH
    rintro i a w ⟨m, hi, hH, hA⟩
    by_cases hlt : i < 1
    rotate_left
    · repeat' (first | (refine QT ?_; clear hA a; intro a hA) | ((first | refine CT ?_ | (refine DT ?_ ?_ <;> intro hc <;> try (exfalso; omega))) <;> repeat' refine CT ?_))
      exact ⟨hH.tail, (hA.sub (by (repeat (first | exact trivial | refine ⟨rfl, ?_⟩)); first | done | fail "sub"))⟩
    obtain rfl : i = 0 := by omega
    have hv0 : [Value.int .i64 0][0 * 1]? = some (.int .i64 0) := rfl
    repeat' (first | ((first | apply st_ex hA hH rfl rfl (by decide) | apply dr_ex hA rfl rfl rfl (by decide) | apply dr_exp hA rfl rfl rfl (by decide) | apply dr_ex3 hA hH rfl rfl rfl (by decide)); (first | (apply ex_indexAddr_nat; rfl; rfl; omega; exact hspL) | (apply ex_load; rfl; exact cl_own (T := 3) (o := oL) MEMT hv0)); clear hA a; intro a hA) | (refine QT ?_; clear hA a; intro a hA) | (apply st_op0 hA rfl rfl; apply op_mapUpdate; rfl; rfl; rfl; exact hH; (repeat constructor); clear hH; rintro _ w hH) | (refine CT ?_ <;> repeat' refine CT ?_))
    exact ⟨1, ⟨_, Nat.le_refl _, hH, (hA.sub (by (repeat (first | exact trivial | refine ⟨rfl, ?_⟩)); first | done | fail "sub"))⟩, by omega⟩
  clear hA hH
  rintro a w ⟨hH, hA⟩
  repeat' (first | ((first | apply st_ex hA hH rfl rfl (by decide) | apply dr_ex hA rfl rfl rfl (by decide) | apply dr_exp hA rfl rfl rfl (by decide) | apply dr_ex3 hA hH rfl rfl rfl (by decide)); (first | (apply ex_build_p (cs := #[.int .i64 0, .slice none 0 0]); rfl; (repeat (first | (intro _ h; exact absurd h (List.not_mem_nil)) | (refine List.forall_mem_cons.2 ⟨one_cell_of _ _, ?_⟩))); rfl)); clear hA a; intro a hA) | (refine QT ?_; clear hA a; intro a hA) | (refine BT ?_; clear hA hH; rintro _ w ⟨bN, rfl, hH⟩ a hA) | (apply st_op0 hA rfl rfl; apply op_store_agg (vs := [.int .i64 0, .slice none 0 0]); rfl; rfl; exact hH; (repeat constructor); (repeat rfl); clear hH; rintro _ w hH) | (refine CT ?_ <;> repeat' refine CT ?_))
  obtain ⟨b8, hb3⟩ : ∃ x, x = bN := ⟨_, rfl⟩; rw [← hb3] at hA hH; clear hb3 bN
  have hb8 := hH
  refine wp_lpk (S := Nat) (fun i a w => ∃ oB cB, i ≤ 1 ∧ (i = 0 → oB = none ∧ cB = 0) ∧ HS w0 noM (own 53 6 oB i cB ((List.replicate i (encBl (bl5 o1 1 n))).flatten) :: cb b8 44 [.int .i64 0, .slice oB i cB] :: cb bM 174 (encMk oD 1 cD bJ) :: own 179 7 oD 1 cD (dr1 o1 0) :: own 3 1 oL 1 cL [.int .i64 0] :: own 65 2 o1 1 1 (encAt ⟨2, n⟩) :: cb bF 72 (encF o 0) :: cb b2 44 [.int .i64 0, .slice none 0 0] :: []) w ∧ Sl 83 [(40, .int .i64 i), (39, .int .i64 (1 : Nat)), (38, .slice oL 1 cL), (8, .pointer (some (bat b8 0))), (3, .pointer (some (bat bM 0))), (2, .pointer (some (bat b2 0)))] a) (fun i => 1 - i)
    (fun a w => ∃ oB cB, HS w0 noM (own 53 6 oB 1 cB (encBl (bl5 o1 1 n)) :: cb b8 44 [.int .i64 0, .slice oB 1 cB] :: cb bM 174 (encMk oD 1 cD bJ) :: own 179 7 oD 1 cD (dr1 o1 0) :: own 3 1 oL 1 cL [.int .i64 0] :: own 65 2 o1 1 1 (encAt ⟨2, n⟩) :: cb bF 72 (encF o 0) :: cb b2 44 [.int .i64 0, .slice none 0 0] :: []) w ∧ Sl 83 [(8, .pointer (some (bat b8 0))), (2, .pointer (some (bat b2 0)))] a) 0 ⟨none, 0, Nat.zero_le _, fun _ => ⟨rfl, rfl⟩, hH.nil_own 53 6, (hA.sub (by (repeat (first | exact trivial | refine ⟨rfl, ?_⟩)); first | done | fail "sub"))⟩ ?_ ?_
  · clear hA hH hb8
    rintro i a w ⟨oB, cB, hi, hi0, hH, hA⟩
    by_cases hlt : i < 1
    rotate_left
    · obtain rfl : i = 1 := by omega
      repeat' (first | (refine QT ?_; clear hA a; intro a hA) | (refine CT ?_ <;> repeat' refine CT ?_))
      exact ⟨oB, cB, hH, (hA.sub (by (repeat (first | exact trivial | refine ⟨rfl, ?_⟩)); first | done | fail "sub"))⟩
    obtain rfl : i = 0 := by omega
    obtain ⟨rfl, rfl⟩ := hi0 rfl
    have hv0 : [Value.int .i64 0][0 * 1]? = some (.int .i64 0) := rfl
    repeat' (first | ((first | apply st_ex hA hH rfl rfl (by decide) | apply dr_ex hA rfl rfl rfl (by decide) | apply dr_exp hA rfl rfl rfl (by decide) | apply dr_ex3 hA hH rfl rfl rfl (by decide)); (first | (apply ex_indexAddr_nat; rfl; rfl; omega; exact hspL) | (apply ex_load; rfl; exact cl_own (T := 3) (o := oL) MEMT hv0) | (apply ex_indexAddr; rfl; rfl; decide; omega; exact hspD) | (apply ex_load_st (vs := encBl (bl5 o1 1 n)); rfl; rfl; exact cls_own (T := 179) (o := oD) MEMT (dr_bl o1 n))); clear hA a; intro a hA) | (refine QT ?_; clear hA a; intro a hA) | (refine BT ?_; clear hA hH; rintro _ w ⟨bN, rfl, hH⟩ a hA) | (apply st_op0 hA rfl rfl; apply op_store_agg (vs := encBl (bl5 o1 1 n)); rfl; rfl; exact hH; (repeat constructor); (repeat rfl); clear hH; rintro _ w hH) | (refine CT ?_ <;> repeat' refine CT ?_))
    obtain ⟨b11, hb3⟩ : ∃ x, x = bN := ⟨_, rfl⟩; rw [← hb3] at hA hH; clear hb3 bN
    have hl0 : (0 : Nat) = (bl5 o1 1 n).e.to.l.length := rfl
    refine wp_lpk (S := Nat) (fun i a w => i = 0 ∧ HS w0 noM (cb b11 53 (encBl (bl5 o1 1 n)) :: own 53 6 none 0 0 [] :: cb b8 44 [.int .i64 0, .slice none 0 0] :: cb bM 174 (encMk oD 1 cD bJ) :: own 179 7 oD 1 cD (dr1 o1 0) :: own 3 1 oL 1 cL [.int .i64 0] :: own 65 2 o1 1 1 (encAt ⟨2, n⟩) :: cb bF 72 (encF o 0) :: cb b2 44 [.int .i64 0, .slice none 0 0] :: []) w ∧ Sl 83 [(56, .int .i64 0), (55, .int .i64 (0 : Nat)), (11, .pointer (some (bat b11 0))), (40, .int .i64 (0 : Nat)), (39, .int .i64 (1 : Nat)), (38, .slice oL 1 cL), (8, .pointer (some (bat b8 0))), (3, .pointer (some (bat bM 0))), (2, .pointer (some (bat b2 0)))] a) (fun i => i)
      (fun a w => HS w0 noM (cb b11 53 (encBl (bl5 o1 1 n)) :: own 53 6 none 0 0 [] :: cb b8 44 [.int .i64 0, .slice none 0 0] :: cb bM 174 (encMk oD 1 cD bJ) :: own 179 7 oD 1 cD (dr1 o1 0) :: own 3 1 oL 1 cL [.int .i64 0] :: own 65 2 o1 1 1 (encAt ⟨2, n⟩) :: cb bF 72 (encF o 0) :: cb b2 44 [.int .i64 0, .slice none 0 0] :: []) w ∧ Sl 83 [(11, .pointer (some (bat b11 0))), (40, .int .i64 (0 : Nat)), (39, .int .i64 (1 : Nat)), (38, .slice oL 1 cL), (8, .pointer (some (bat b8 0))), (3, .pointer (some (bat bM 0))), (2, .pointer (some (bat b2 0)))] a) 0 ⟨rfl, hH, (hA.sub (by (repeat (first | exact trivial | refine ⟨rfl, ?_⟩)); first | done | fail "sub"))⟩ ?_ ?_
    · clear hA hH
      rintro i a w ⟨hi, hH, hA⟩
      repeat' (first | (refine QT ?_; clear hA a; intro a hA) | (refine CT ?_ <;> repeat' refine CT ?_))
      exact ⟨hH, (hA.sub (by (repeat (first | exact trivial | refine ⟨rfl, ?_⟩)); first | done | fail "sub"))⟩
    clear hA hH
    rintro a w ⟨hH, hA⟩
    repeat' (first | ((first | apply st_ex hA hH rfl rfl (by decide) | apply dr_ex hA rfl rfl rfl (by decide) | apply dr_exp hA rfl rfl rfl (by decide) | apply dr_ex3 hA hH rfl rfl rfl (by decide)); (first | (apply ex_load_st (vs := encBl (bl5 o1 1 n)); rfl; rfl; exact cls_cb_all MEMT)); clear hA a; intro a hA) | (refine QT ?_; clear hA a; intro a hA) | (refine AT ?_; clear hA; rintro _ w ⟨oN, cN, rfl, hH2⟩ a hA; clear hH; have hH := (hH2 _ (by (repeat constructor))).tail; clear hH2) | (apply st_op hA rfl rfl (by decide); apply op_sliceLit (xs := encBl (bl5 o1 1 n)) (vs := [.agg (encBl (bl5 o1 1 n)).toArray]); rfl; rfl; exact (Cats.cn (cs := encBl (bl5 o1 1 n)) Cats.nil); rfl; rfl; rfl; exact hH; clear hA hH; rintro _ w ⟨oN, rfl, hH⟩ a hA) | (refine CT ?_ <;> repeat' refine CT ?_))
    repeat' (first | (refine QT ?_; clear hA a; intro a hA) | (apply st_op0 hA rfl rfl; apply op_store_fld (cs' := [.int .i64 0, .slice oN (0 + 1) cN]); rfl; rfl; rfl; exact hH; (repeat constructor); clear hH; rintro _ w hH) | (refine CT ?_ <;> repeat' refine CT ?_))
    refine ⟨1, ⟨oN, cN, Nat.le_refl _, fun h => absurd h (by decide), ?_, (hA.sub (by (repeat (first | exact trivial | refine ⟨rfl, ?_⟩)); first | done | fail "sub"))⟩, by omega⟩
    rw [flat_one]
    exact (hH.rm 0).perm (by (repeat (first | exact List.Perm.refl _ | exact List.Perm.nil | refine perm_pick 0 rfl ?_ | refine perm_pick 1 rfl ?_ | refine perm_pick 2 rfl ?_ | refine perm_pick 3 rfl ?_ | refine perm_pick 4 rfl ?_ | refine perm_pick 5 rfl ?_ | refine perm_pick 6 rfl ?_ | refine perm_pick 7 rfl ?_ | refine perm_pick 8 rfl ?_ | refine perm_pick 9 rfl ?_ | refine perm_pick 10 rfl ?_ | refine perm_pick 11 rfl ?_)))
  clear hA hH hb8
  rintro a w ⟨oB, cB, hH, hA⟩
  repeat' (first | ((first | apply st_ex hA hH rfl rfl (by decide) | apply dr_ex hA rfl rfl rfl (by decide) | apply dr_exp hA rfl rfl rfl (by decide) | apply dr_ex3 hA hH rfl rfl rfl (by decide)); (first | (apply ex_load_st (vs := [.int .i64 0, .slice oB 1 cB]); rfl; rfl; exact cls_cb_all MEMT)); clear hA a; intro a hA) | (refine QT ?_; clear hA a; intro a hA) | (apply st_op0 hA rfl rfl; apply op_store_agg (vs := [.int .i64 0, .slice oB 1 cB]); rfl; rfl; exact hH; (repeat constructor); (repeat rfl); clear hH; rintro _ w hH) | (refine CT ?_ <;> repeat' refine CT ?_))
  refine rt1c (vs := [.int .i64 0, .slice oB 1 cB]) (.inl rfl) rfl hA rfl rfl hH (cls_cb_all (by exact MEMT)) ⟨oB, cB, o1, rfl, ?_⟩
  exact (((((hH.rm 1).rm 1).rm 1).rm 1).rm 2).rm 2
end Go.Proofs.YtenlcdokaadobaaGreatDoor
namespace Go.Proofs.YtenlcdokaadobaaGreatDoor
open Go Go.Fw
set_option linter.unusedVariables false
def gr0s : Grs := ⟨nilV, nilV, nilV, nilV, nilV⟩
theorem flatF0 (o : Option Addr) : flat (encF o) [] = [] := rfl
theorem flatF1 (o : Option Addr) : flat (encF o) [0] = encF o 0 := by show encF o 0 ++ [] = _; rw [List.append_nil]
theorem rdv_one {α : Type} {w : World} {enc : α → List Value} {o : Option Addr} {c : Nat} {x : α} (h : Rd w o (enc x)) (hc : 1 ≤ c ∧ c ≤ maxLen) : RdV w enc ⟨o, c, [x]⟩ := ⟨by show Rd w o (enc x ++ []); rw [List.append_nil]; exact h, hc.1, hc.2⟩
theorem rdv_nil {α : Type} (w : World) (enc : α → List Value) : RdV w enc nilV := ⟨rd_empty _ _, Nat.le_refl _, Nat.zero_le _⟩
def h5 (oB oA oG o1 o2 o3 o4 : Option Addr) (cB cG c1 c2 c3 c4 : Nat) (g : Grs) : Grs := ⟨⟨oG, cG, [⟨0, ⟨oB, cB, [bl5 oA 1 5]⟩⟩]⟩, ⟨o1, c1, g.ls.l⟩, ⟨o2, c2, g.ts.l⟩, ⟨o3, c3, g.xs.l⟩, ⟨o4, c4, g.ss.l⟩⟩
theorem h5_rd {w0 w : World} {H : List It} {oB oA oG o1 o2 o3 o4 : Option Addr} {cB cG c1 c2 c3 c4 : Nat} {g : Grs} (hH : HS w0 noM (own 44 2 oG 1 cG (encG ⟨0, ⟨oB, cB, [bl5 oA 1 5]⟩⟩) :: own 53 6 oB 1 cB (encBl (bl5 oA 1 5)) :: own 65 2 oA 1 1 (encAt ⟨2, 5⟩) :: own 9 1 o1 g.ls.l.length c1 (flat encX g.ls.l) :: own 9 1 o2 g.ts.l.length c2 (flat encX g.ts.l) :: own 9 1 o3 g.xs.l.length c3 (flat encX g.xs.l) :: own 9 1 o4 g.ss.l.length c4 (flat encX g.ss.l) :: H) w) : RdGs w (h5 oB oA oG o1 o2 o3 o4 cB cG c1 c2 c3 c4 g) := by
  have hG := hH.own_rd (T := 44) (.head _)
  have hGl := hH.own_le (T := 44) (.head _)
  have hB := hH.own_rd (T := 53) (.tail _ (.head _))
  have hBl := hH.own_le (T := 53) (.tail _ (.head _))
  have hA := hH.own_rd (T := 65) (.tail _ (.tail _ (.head _)))
  have h1 := hH.own_rd (T := 9) (.tail _ (.tail _ (.tail _ (.head _))))
  have h1l := hH.own_le (T := 9) (.tail _ (.tail _ (.tail _ (.head _))))
  have h2 := hH.own_rd (T := 9) (.tail _ (.tail _ (.tail _ (.tail _ (.head _)))))
  have h2l := hH.own_le (T := 9) (.tail _ (.tail _ (.tail _ (.tail _ (.head _)))))
  have h3 := hH.own_rd (T := 9) (.tail _ (.tail _ (.tail _ (.tail _ (.tail _ (.head _))))))
  have h3l := hH.own_le (T := 9) (.tail _ (.tail _ (.tail _ (.tail _ (.tail _ (.head _))))))
  have h4 := hH.own_rd (T := 9) (.tail _ (.tail _ (.tail _ (.tail _ (.tail _ (.tail _ (.head _)))))))
  have h4l := hH.own_le (T := 9) (.tail _ (.tail _ (.tail _ (.tail _ (.tail _ (.tail _ (.head _)))))))
  refine ⟨rdv_one hG hGl, fun x hx => ?_, ⟨h1, h1l⟩, ⟨h2, h2l⟩, ⟨h3, h3l⟩, ⟨h4, h4l⟩⟩
  obtain rfl := List.mem_singleton.1 hx
  refine ⟨rdv_one hB hBl, fun b hb => ?_⟩
  obtain rfl := List.mem_singleton.1 hb
  exact ⟨rdv_nil _ _, rdv_nil _ _, fun i hi => absurd hi (List.not_mem_nil), rdv_one hA ⟨Nat.le_refl _, by decide⟩, rdv_nil _ _, rdv_nil _ _, fun x hx => absurd hx (List.not_mem_nil)⟩
set_option maxRecDepth 10000 attribute [local irreducible] Code.wp wpList Calls Ex Op1 sat bat blk cb own Go.Fw.mp Go.Fw.mpO Go.Fw.mpI Go.Fw.mpE Go.Fw.itr HS Rd Ret wkD Hp Cl Cls Exit.then Exit.inBlock Exit.noGoto bodyPost Go.Fw.flat wk2 Go.Fw.all Go.Fw.owns wpOp
attribute [local irreducible] sk mpK sko mvO entK opM Go.Fw.mset Go.Fw.mv opK

set_option maxHeartbeats 8000000 in
theorem of0_spec (w0 : World) (g : Grs) (hg : g.fs.l = []) (hls : RdV w0 encX g.ls) (hts : RdV w0 encX g.ts) (hxs : RdV w0 encX g.xs) (hss : RdV w0 encX g.ss) (o : Option Addr) (hr : Rd w0 o (encAt at5)) :
    Ret Tryz.prog 17 #[.agg (encP none 0 0 g).toArray] w0 (fun r w => r = .tuple #[.agg (encGs gr0s).toArray, .int .i64 5] ∧ Kp w0 noM w) := by
  have hH : HS w0 noM [] w0 := HS.init w0 noM
  have hno : ¬ AnfP [] g := fun h => absurd h.pos (by decide)
  (refine enter (N := 44) Tryz.func17 rfl Tryz.ntmps17 rfl ?_; intro a hA; dsimp only [sl0, Nat.reduceAdd] at hA)
  repeat' (first | ((first | apply st_ex hA hH rfl rfl (by decide) | apply dr_ex hA rfl rfl rfl (by decide) | apply dr_exp hA rfl rfl rfl (by decide) | apply dr_ex3 hA hH rfl rfl rfl (by decide)); (first | (apply ex_load_st (vs := encP none 0 0 g); rfl; rfl; exact cls_cb_all MEMT)); clear hA a; intro a hA) | (refine QT ?_; clear hA a; intro a hA) | (refine BT ?_; clear hA hH; rintro _ w ⟨bN, rfl, hH⟩ a hA) | (refine CT ?_ <;> repeat' refine CT ?_))
  (refine st_op hA rfl rfl (by decide) (op_call rfl rfl rfl (anfMay5_spec _ none 0 [] o g (by rw [flatF0]; exact rd_empty _ _) (hH.rd hr id) (by decide) (hls.keep hH.kp) (hts.keep hH.kp) (hxs.keep hH.kp) (hss.keep hH.kp))) ?_; clear hA; rintro _ w ⟨b, rfl, hb, hk⟩ a hA; replace hH := hH.keep hk; clear hk)
  obtain rfl : b = false := by
    cases b with
    | false => rfl
    | true => exact absurd (hb.1 rfl) hno
  repeat' (first | ((first | apply st_ex hA hH rfl rfl (by decide) | apply dr_ex hA rfl rfl rfl (by decide) | apply dr_exp hA rfl rfl rfl (by decide) | apply dr_ex3 hA hH rfl rfl rfl (by decide)); (first | (apply ex_build_p (cs := (encGs gr0s).toArray); rfl; (repeat (first | (intro _ h; exact absurd h (List.not_mem_nil)) | (refine List.forall_mem_cons.2 ⟨one_cell_of _ _, ?_⟩))); rfl)); clear hA a; intro a hA) | (refine QT ?_; clear hA a; intro a hA) | (apply st_op0 hA rfl rfl; apply op_store_agg (vs := encGs gr0s); rfl; rfl; exact hH; (repeat constructor); (repeat rfl); clear hH; rintro _ w hH) | (refine CT ?_ <;> repeat' refine CT ?_))
  exact rt2c (vs := encGs gr0s) (.inl rfl) rfl hA rfl rfl rfl hH (cls_cb_all (by exact MEMT)) ⟨rfl, hH.kp⟩
set_option maxHeartbeats 16000000 in
theorem of1_spec (w0 : World) (g : Grs) (oF o : Option Addr) (cF : Nat) (hF : Rd w0 oF (encF o 0)) (hr : Rd w0 o (encAt at5)) (hls : RdV w0 encX g.ls) (hts : RdV w0 encX g.ts) (hxs : RdV w0 encX g.xs) (hss : RdV w0 encX g.ss)
    (hx : g.xs.l = xs4) (hl : g.ls.l = []) (ht : g.ts.l = []) (hs : g.ss.l = []) :
    Ret Tryz.prog 17 #[.agg (encP oF 1 cF g).toArray] w0 (fun r w => ∃ oB oA oG o1 o2 o3 o4 cB cG c1 c2 c3 c4, r = .tuple #[.agg (encGs (h5 oB oA oG o1 o2 o3 o4 cB cG c1 c2 c3 c4 g)).toArray, .int .i64 0] ∧ HS w0 noM (own 44 2 oG 1 cG (encG ⟨0, ⟨oB, cB, [bl5 oA 1 5]⟩⟩) :: own 53 6 oB 1 cB (encBl (bl5 oA 1 5)) :: own 65 2 oA 1 1 (encAt ⟨2, 5⟩) :: own 9 1 o1 g.ls.l.length c1 (flat encX g.ls.l) :: own 9 1 o2 g.ts.l.length c2 (flat encX g.ts.l) :: own 9 1 o3 g.xs.l.length c3 (flat encX g.xs.l) :: own 9 1 o4 g.ss.l.length c4 (flat encX g.ss.l) :: []) w) := by
  have hH : HS w0 noM [] w0 := HS.init w0 noM
  have hyes : AnfP [0] g := anf4 hx hl ht hs
  have e1 := flatF1 o
  (refine enter (N := 44) Tryz.func17 rfl Tryz.ntmps17 rfl ?_; intro a hA; dsimp only [sl0, Nat.reduceAdd] at hA)
  repeat' (first | ((first | apply st_ex hA hH rfl rfl (by decide) | apply dr_ex hA rfl rfl rfl (by decide) | apply dr_exp hA rfl rfl rfl (by decide) | apply dr_ex3 hA hH rfl rfl rfl (by decide)); (first | (apply ex_load_st (vs := encP oF 1 cF g); rfl; rfl; exact cls_cb_all MEMT)); clear hA a; intro a hA) | (refine QT ?_; clear hA a; intro a hA) | (refine BT ?_; clear hA hH; rintro _ w ⟨bN, rfl, hH⟩ a hA) | (refine CT ?_ <;> repeat' refine CT ?_))
  (refine st_op hA rfl rfl (by decide) (op_call rfl rfl rfl (anfMay5_spec _ oF cF [0] o g (by rw [e1]; exact hH.rd hF id) (hH.rd hr id) (by decide) (hls.keep hH.kp) (hts.keep hH.kp) (hxs.keep hH.kp) (hss.keep hH.kp))) ?_; clear hA; rintro _ w ⟨b, rfl, hb, hk⟩ a hA; replace hH := hH.keep hk; clear hk)
  obtain rfl : b = true := hb.2 hyes
  have key : ∃ b1 b2, HS w0 noM (cb b1 34 (encP oF 1 cF g) :: cb b2 25 (encGs gr0s) :: []) w ∧ Sl 44 [(8, .bool true), (2, .pointer (some (bat b2 0))), (1, .pointer (some (bat b1 0))), (3, .int .i64 0)] a := ⟨_, _, hH.perm (by (repeat (first | exact List.Perm.refl _ | exact List.Perm.nil | refine perm_pick 0 rfl ?_ | refine perm_pick 1 rfl ?_ | refine perm_pick 2 rfl ?_ | refine perm_pick 3 rfl ?_ | refine perm_pick 4 rfl ?_ | refine perm_pick 5 rfl ?_ | refine perm_pick 6 rfl ?_ | refine perm_pick 7 rfl ?_ | refine perm_pick 8 rfl ?_ | refine perm_pick 9 rfl ?_ | refine perm_pick 10 rfl ?_ | refine perm_pick 11 rfl ?_))), (hA.sub (by (repeat (first | exact trivial | refine ⟨rfl, ?_⟩)); first | done | fail "sub"))⟩
  clear hA hH
  obtain ⟨b1, b2, hH, hA⟩ := key
  repeat' (first | (refine QT ?_; clear hA a; intro a hA) | (refine CT ?_ <;> repeat' refine CT ?_))
  have hST : HS w0 noM [cb b1 34 (encP oF 1 cF g)] w := HS.left (H1 := [_]) hH
  refine wp_drawT (qs [0, 1, 3, 4, 6, 7, 9, 10] (.two 2 13 (.two 5 13 (.two 8 13 (.two 11 13 (.q 12 (.one 13 (.one 14 .nil))) (.one 11 (.q 12 (.one 14 .nil)))) (.one 8 (.one 11 (.q 12 (.one 14 .nil))))) (.one 5 (.one 8 (.one 11 (.q 12 (.one 14 .nil)))))) (.one 2 (.one 5 (.one 8 (.one 11 (.q 12 (.one 14 .nil)))))))) (fun a w => ∃ b4 o1 o2 o3 o4 c1 c2 c3 c4, HS w0 noM (cb b4 25 [.slice none 0 0, .slice o1 g.ls.l.length c1, .slice o2 g.ts.l.length c2, .slice o3 g.xs.l.length c3, .slice o4 g.ss.l.length c4] :: own 9 1 o1 g.ls.l.length c1 (flat encX g.ls.l) :: own 9 1 o2 g.ts.l.length c2 (flat encX g.ts.l) :: own 9 1 o3 g.xs.l.length c3 (flat encX g.xs.l) :: own 9 1 o4 g.ss.l.length c4 (flat encX g.ss.l) :: cb b1 34 (encP oF 1 cF g) :: cb b2 25 (encGs gr0s) :: []) w ∧ Sl 44 [(4, .pointer (some (bat b4 0))), (2, .pointer (some (bat b2 0))), (1, .pointer (some (bat b1 0))), (3, .int .i64 0)] a) mixed (by decide +kernel) hST ?_ ?_
  · clear hST
    replace hH := hH.drew
    (repeat (apply dt_ex hA rfl rfl rfl (by decide); (first | exact EXT | exact EXT2 ); clear hA a; intro a hA))
    apply dt_two
    rotate_left
    · (apply dt_op hA rfl rfl rfl (by decide); apply op_alloc; exact hH; clear hA hH; rintro _ w ⟨bN, rfl, hH⟩; refine ⟨hH.pick (by exact MEMT), ?_⟩; intro a hA)
      (refine dt_op hA rfl rfl rfl (by decide) (op_call rfl rfl rfl (cloneX_spec _ g.ls (hls.keep hH.kp) (by rw [hl]; decide))) ?_; clear hA; rintro _ w ⟨o1, c1, rfl, hj⟩; replace hH := hH.join hj; clear hj; refine ⟨hH.pick (by exact MEMT), ?_⟩; intro a hA)
      (refine dt_op hA rfl rfl rfl (by decide) (op_call rfl rfl rfl (cloneX_spec _ g.ts (hts.keep hH.kp) (by rw [ht]; decide))) ?_; clear hA; rintro _ w ⟨o2, c2, rfl, hj⟩; replace hH := hH.join hj; clear hj; refine ⟨hH.pick (by exact MEMT), ?_⟩; intro a hA)
      (refine dt_op hA rfl rfl rfl (by decide) (op_call rfl rfl rfl (cloneX_spec _ g.xs (hxs.keep hH.kp) (by rw [hx]; decide))) ?_; clear hA; rintro _ w ⟨o3, c3, rfl, hj⟩; replace hH := hH.join hj; clear hj; refine ⟨hH.pick (by exact MEMT), ?_⟩; intro a hA)
      (refine dt_op hA rfl rfl rfl (by decide) (op_call rfl rfl rfl (cloneX_spec _ g.ss (hss.keep hH.kp) (by rw [hs]; decide))) ?_; clear hA; rintro _ w ⟨o4, c4, rfl, hj⟩; replace hH := hH.join hj; clear hj; refine ⟨hH.pick (by exact MEMT), ?_⟩; intro a hA)
      (repeat (apply dt_ex hA rfl rfl rfl (by decide); (first | exact EXT | exact EXT2 | (apply ex_build_p (cs := ([.slice none 0 0, .slice o1 g.ls.l.length c1, .slice o2 g.ts.l.length c2, .slice o3 g.xs.l.length c3, .slice o4 g.ss.l.length c4]).toArray); rfl; (repeat (first | (intro _ h; exact absurd h (List.not_mem_nil)) | (refine List.forall_mem_cons.2 ⟨one_cell_of _ _, ?_⟩))); rfl)); clear hA a; intro a hA))
      (apply dt_op0 hA rfl rfl rfl; apply op_store_agg (vs := [.slice none 0 0, .slice o1 g.ls.l.length c1, .slice o2 g.ts.l.length c2, .slice o3 g.xs.l.length c3, .slice o4 g.ss.l.length c4]); rfl; rfl; exact hH; (repeat constructor); (repeat rfl); clear hH; rintro _ w hH; refine ⟨hH.pick (by exact MEMT), ?_⟩; apply dt_nil)
      exact ⟨_, o1, o2, o3, o4, c1, c2, c3, c4, hH.perm (by (repeat (first | exact List.Perm.refl _ | exact List.Perm.nil | refine perm_pick 0 rfl ?_ | refine perm_pick 1 rfl ?_ | refine perm_pick 2 rfl ?_ | refine perm_pick 3 rfl ?_ | refine perm_pick 4 rfl ?_ | refine perm_pick 5 rfl ?_ | refine perm_pick 6 rfl ?_ | refine perm_pick 7 rfl ?_ | refine perm_pick 8 rfl ?_ | refine perm_pick 9 rfl ?_ | refine perm_pick 10 rfl ?_ | refine perm_pick 11 rfl ?_))), (hA.sub (by (repeat (first | exact trivial | refine ⟨rfl, ?_⟩)); first | done | fail "sub"))⟩
    (refine dt_op hA rfl rfl rfl (by decide) (op_call rfl rfl rfl (cloneX_spec _ g.ls (hls.keep hH.kp) (by rw [hl]; decide))) ?_; clear hA; rintro _ w ⟨o1, c1, rfl, hj⟩; replace hH := hH.join hj; clear hj; refine ⟨hH.pick (by exact MEMT), ?_⟩; intro a hA)
    apply dt_two
    rotate_left
    · (apply dt_op hA rfl rfl rfl (by decide); apply op_alloc; exact hH; clear hA hH; rintro _ w ⟨bN, rfl, hH⟩; refine ⟨hH.pick (by exact MEMT), ?_⟩; intro a hA)
      (refine dt_op hA rfl rfl rfl (by decide) (op_call rfl rfl rfl (cloneX_spec _ g.ts (hts.keep hH.kp) (by rw [ht]; decide))) ?_; clear hA; rintro _ w ⟨o2, c2, rfl, hj⟩; replace hH := hH.join hj; clear hj; refine ⟨hH.pick (by exact MEMT), ?_⟩; intro a hA)
      (refine dt_op hA rfl rfl rfl (by decide) (op_call rfl rfl rfl (cloneX_spec _ g.xs (hxs.keep hH.kp) (by rw [hx]; decide))) ?_; clear hA; rintro _ w ⟨o3, c3, rfl, hj⟩; replace hH := hH.join hj; clear hj; refine ⟨hH.pick (by exact MEMT), ?_⟩; intro a hA)
      (refine dt_op hA rfl rfl rfl (by decide) (op_call rfl rfl rfl (cloneX_spec _ g.ss (hss.keep hH.kp) (by rw [hs]; decide))) ?_; clear hA; rintro _ w ⟨o4, c4, rfl, hj⟩; replace hH := hH.join hj; clear hj; refine ⟨hH.pick (by exact MEMT), ?_⟩; intro a hA)
      (repeat (apply dt_ex hA rfl rfl rfl (by decide); (first | exact EXT | exact EXT2 | (apply ex_build_p (cs := ([.slice none 0 0, .slice o1 g.ls.l.length c1, .slice o2 g.ts.l.length c2, .slice o3 g.xs.l.length c3, .slice o4 g.ss.l.length c4]).toArray); rfl; (repeat (first | (intro _ h; exact absurd h (List.not_mem_nil)) | (refine List.forall_mem_cons.2 ⟨one_cell_of _ _, ?_⟩))); rfl)); clear hA a; intro a hA))
      (apply dt_op0 hA rfl rfl rfl; apply op_store_agg (vs := [.slice none 0 0, .slice o1 g.ls.l.length c1, .slice o2 g.ts.l.length c2, .slice o3 g.xs.l.length c3, .slice o4 g.ss.l.length c4]); rfl; rfl; exact hH; (repeat constructor); (repeat rfl); clear hH; rintro _ w hH; refine ⟨hH.pick (by exact MEMT), ?_⟩; apply dt_nil)
      exact ⟨_, o1, o2, o3, o4, c1, c2, c3, c4, hH.perm (by (repeat (first | exact List.Perm.refl _ | exact List.Perm.nil | refine perm_pick 0 rfl ?_ | refine perm_pick 1 rfl ?_ | refine perm_pick 2 rfl ?_ | refine perm_pick 3 rfl ?_ | refine perm_pick 4 rfl ?_ | refine perm_pick 5 rfl ?_ | refine perm_pick 6 rfl ?_ | refine perm_pick 7 rfl ?_ | refine perm_pick 8 rfl ?_ | refine perm_pick 9 rfl ?_ | refine perm_pick 10 rfl ?_ | refine perm_pick 11 rfl ?_))), (hA.sub (by (repeat (first | exact trivial | refine ⟨rfl, ?_⟩)); first | done | fail "sub"))⟩
    (refine dt_op hA rfl rfl rfl (by decide) (op_call rfl rfl rfl (cloneX_spec _ g.ts (hts.keep hH.kp) (by rw [ht]; decide))) ?_; clear hA; rintro _ w ⟨o2, c2, rfl, hj⟩; replace hH := hH.join hj; clear hj; refine ⟨hH.pick (by exact MEMT), ?_⟩; intro a hA)
    apply dt_two
    rotate_left
    · (apply dt_op hA rfl rfl rfl (by decide); apply op_alloc; exact hH; clear hA hH; rintro _ w ⟨bN, rfl, hH⟩; refine ⟨hH.pick (by exact MEMT), ?_⟩; intro a hA)
      (refine dt_op hA rfl rfl rfl (by decide) (op_call rfl rfl rfl (cloneX_spec _ g.xs (hxs.keep hH.kp) (by rw [hx]; decide))) ?_; clear hA; rintro _ w ⟨o3, c3, rfl, hj⟩; replace hH := hH.join hj; clear hj; refine ⟨hH.pick (by exact MEMT), ?_⟩; intro a hA)
      (refine dt_op hA rfl rfl rfl (by decide) (op_call rfl rfl rfl (cloneX_spec _ g.ss (hss.keep hH.kp) (by rw [hs]; decide))) ?_; clear hA; rintro _ w ⟨o4, c4, rfl, hj⟩; replace hH := hH.join hj; clear hj; refine ⟨hH.pick (by exact MEMT), ?_⟩; intro a hA)
      (repeat (apply dt_ex hA rfl rfl rfl (by decide); (first | exact EXT | exact EXT2 | (apply ex_build_p (cs := ([.slice none 0 0, .slice o1 g.ls.l.length c1, .slice o2 g.ts.l.length c2, .slice o3 g.xs.l.length c3, .slice o4 g.ss.l.length c4]).toArray); rfl; (repeat (first | (intro _ h; exact absurd h (List.not_mem_nil)) | (refine List.forall_mem_cons.2 ⟨one_cell_of _ _, ?_⟩))); rfl)); clear hA a; intro a hA))
      (apply dt_op0 hA rfl rfl rfl; apply op_store_agg (vs := [.slice none 0 0, .slice o1 g.ls.l.length c1, .slice o2 g.ts.l.length c2, .slice o3 g.xs.l.length c3, .slice o4 g.ss.l.length c4]); rfl; rfl; exact hH; (repeat constructor); (repeat rfl); clear hH; rintro _ w hH; refine ⟨hH.pick (by exact MEMT), ?_⟩; apply dt_nil)
      exact ⟨_, o1, o2, o3, o4, c1, c2, c3, c4, hH.perm (by (repeat (first | exact List.Perm.refl _ | exact List.Perm.nil | refine perm_pick 0 rfl ?_ | refine perm_pick 1 rfl ?_ | refine perm_pick 2 rfl ?_ | refine perm_pick 3 rfl ?_ | refine perm_pick 4 rfl ?_ | refine perm_pick 5 rfl ?_ | refine perm_pick 6 rfl ?_ | refine perm_pick 7 rfl ?_ | refine perm_pick 8 rfl ?_ | refine perm_pick 9 rfl ?_ | refine perm_pick 10 rfl ?_ | refine perm_pick 11 rfl ?_))), (hA.sub (by (repeat (first | exact trivial | refine ⟨rfl, ?_⟩)); first | done | fail "sub"))⟩
    (refine dt_op hA rfl rfl rfl (by decide) (op_call rfl rfl rfl (cloneX_spec _ g.xs (hxs.keep hH.kp) (by rw [hx]; decide))) ?_; clear hA; rintro _ w ⟨o3, c3, rfl, hj⟩; replace hH := hH.join hj; clear hj; refine ⟨hH.pick (by exact MEMT), ?_⟩; intro a hA)
    apply dt_two
    rotate_left
    · (apply dt_op hA rfl rfl rfl (by decide); apply op_alloc; exact hH; clear hA hH; rintro _ w ⟨bN, rfl, hH⟩; refine ⟨hH.pick (by exact MEMT), ?_⟩; intro a hA)
      (refine dt_op hA rfl rfl rfl (by decide) (op_call rfl rfl rfl (cloneX_spec _ g.ss (hss.keep hH.kp) (by rw [hs]; decide))) ?_; clear hA; rintro _ w ⟨o4, c4, rfl, hj⟩; replace hH := hH.join hj; clear hj; refine ⟨hH.pick (by exact MEMT), ?_⟩; intro a hA)
      (repeat (apply dt_ex hA rfl rfl rfl (by decide); (first | exact EXT | exact EXT2 | (apply ex_build_p (cs := ([.slice none 0 0, .slice o1 g.ls.l.length c1, .slice o2 g.ts.l.length c2, .slice o3 g.xs.l.length c3, .slice o4 g.ss.l.length c4]).toArray); rfl; (repeat (first | (intro _ h; exact absurd h (List.not_mem_nil)) | (refine List.forall_mem_cons.2 ⟨one_cell_of _ _, ?_⟩))); rfl)); clear hA a; intro a hA))
      (apply dt_op0 hA rfl rfl rfl; apply op_store_agg (vs := [.slice none 0 0, .slice o1 g.ls.l.length c1, .slice o2 g.ts.l.length c2, .slice o3 g.xs.l.length c3, .slice o4 g.ss.l.length c4]); rfl; rfl; exact hH; (repeat constructor); (repeat rfl); clear hH; rintro _ w hH; refine ⟨hH.pick (by exact MEMT), ?_⟩; apply dt_nil)
      exact ⟨_, o1, o2, o3, o4, c1, c2, c3, c4, hH.perm (by (repeat (first | exact List.Perm.refl _ | exact List.Perm.nil | refine perm_pick 0 rfl ?_ | refine perm_pick 1 rfl ?_ | refine perm_pick 2 rfl ?_ | refine perm_pick 3 rfl ?_ | refine perm_pick 4 rfl ?_ | refine perm_pick 5 rfl ?_ | refine perm_pick 6 rfl ?_ | refine perm_pick 7 rfl ?_ | refine perm_pick 8 rfl ?_ | refine perm_pick 9 rfl ?_ | refine perm_pick 10 rfl ?_ | refine perm_pick 11 rfl ?_))), (hA.sub (by (repeat (first | exact trivial | refine ⟨rfl, ?_⟩)); first | done | fail "sub"))⟩
    (refine dt_op hA rfl rfl rfl (by decide) (op_call rfl rfl rfl (cloneX_spec _ g.ss (hss.keep hH.kp) (by rw [hs]; decide))) ?_; clear hA; rintro _ w ⟨o4, c4, rfl, hj⟩; replace hH := hH.join hj; clear hj; refine ⟨hH.pick (by exact MEMT), ?_⟩; intro a hA)
    (repeat (apply dt_ex hA rfl rfl rfl (by decide); (first | exact EXT | exact EXT2 | (apply ex_build_p (cs := ([.slice none 0 0, .slice o1 g.ls.l.length c1, .slice o2 g.ts.l.length c2, .slice o3 g.xs.l.length c3, .slice o4 g.ss.l.length c4]).toArray); rfl; (repeat (first | (intro _ h; exact absurd h (List.not_mem_nil)) | (refine List.forall_mem_cons.2 ⟨one_cell_of _ _, ?_⟩))); rfl)); clear hA a; intro a hA))
    (apply dt_op hA rfl rfl rfl (by decide); apply op_alloc; exact hH; clear hA hH; rintro _ w ⟨bN, rfl, hH⟩; refine ⟨hH.pick (by exact MEMT), ?_⟩; intro a hA)
    (apply dt_op0 hA rfl rfl rfl; apply op_store_agg (vs := [.slice none 0 0, .slice o1 g.ls.l.length c1, .slice o2 g.ts.l.length c2, .slice o3 g.xs.l.length c3, .slice o4 g.ss.l.length c4]); rfl; rfl; exact hH; (repeat constructor); (repeat rfl); clear hH; rintro _ w hH; refine ⟨hH.pick (by exact MEMT), ?_⟩; apply dt_nil)
    exact ⟨_, o1, o2, o3, o4, c1, c2, c3, c4, hH.perm (by (repeat (first | exact List.Perm.refl _ | exact List.Perm.nil | refine perm_pick 0 rfl ?_ | refine perm_pick 1 rfl ?_ | refine perm_pick 2 rfl ?_ | refine perm_pick 3 rfl ?_ | refine perm_pick 4 rfl ?_ | refine perm_pick 5 rfl ?_ | refine perm_pick 6 rfl ?_ | refine perm_pick 7 rfl ?_ | refine perm_pick 8 rfl ?_ | refine perm_pick 9 rfl ?_ | refine perm_pick 10 rfl ?_ | refine perm_pick 11 rfl ?_))), (hA.sub (by (repeat (first | exact trivial | refine ⟨rfl, ?_⟩)); first | done | fail "sub"))⟩
  clear hA hH hST
  rintro a w ⟨b4, o1, o2, o3, o4, c1, c2, c3, c4, hH, hA⟩
  repeat' (first | (refine QT ?_; clear hA a; intro a hA) | (refine CT ?_ <;> repeat' refine CT ?_))
  have hspF : Sp oF 1 := hF.sp (sz := 12) rfl (by omega)
  refine wp_lpk (S := Nat) (fun i a w => ((i = 0 ∧ HS w0 noM (cb b4 25 [.slice none 0 0, .slice o1 g.ls.l.length c1, .slice o2 g.ts.l.length c2, .slice o3 g.xs.l.length c3, .slice o4 g.ss.l.length c4] :: own 9 1 o1 g.ls.l.length c1 (flat encX g.ls.l) :: own 9 1 o2 g.ts.l.length c2 (flat encX g.ts.l) :: own 9 1 o3 g.xs.l.length c3 (flat encX g.xs.l) :: own 9 1 o4 g.ss.l.length c4 (flat encX g.ss.l) :: cb b1 34 (encP oF 1 cF g) :: cb b2 25 (encGs gr0s) :: []) w) ∨ (i = 1 ∧ ∃ oB cB oA oG cG, HS w0 noM (cb b4 25 [.slice oG 1 cG, .slice o1 g.ls.l.length c1, .slice o2 g.ts.l.length c2, .slice o3 g.xs.l.length c3, .slice o4 g.ss.l.length c4] :: own 44 2 oG 1 cG (encG ⟨0, ⟨oB, cB, [bl5 oA 1 5]⟩⟩) :: own 53 6 oB 1 cB (encBl (bl5 oA 1 5)) :: own 65 2 oA 1 1 (encAt ⟨2, 5⟩) :: own 9 1 o1 g.ls.l.length c1 (flat encX g.ls.l) :: own 9 1 o2 g.ts.l.length c2 (flat encX g.ts.l) :: own 9 1 o3 g.xs.l.length c3 (flat encX g.xs.l) :: own 9 1 o4 g.ss.l.length c4 (flat encX g.ss.l) :: cb b1 34 (encP oF 1 cF g) :: cb b2 25 (encGs gr0s) :: []) w)) ∧ Sl 44 [(27, .int .i64 i), (26, .int .i64 (1 : Nat)), (25, .slice oF 1 cF), (4, .pointer (some (bat b4 0))), (2, .pointer (some (bat b2 0))), (3, .int .i64 0)] a) (fun i => 1 - i)
    (fun a w => ∃ oB cB oA oG cG, HS w0 noM (cb b4 25 [.slice oG 1 cG, .slice o1 g.ls.l.length c1, .slice o2 g.ts.l.length c2, .slice o3 g.xs.l.length c3, .slice o4 g.ss.l.length c4] :: own 44 2 oG 1 cG (encG ⟨0, ⟨oB, cB, [bl5 oA 1 5]⟩⟩) :: own 53 6 oB 1 cB (encBl (bl5 oA 1 5)) :: own 65 2 oA 1 1 (encAt ⟨2, 5⟩) :: own 9 1 o1 g.ls.l.length c1 (flat encX g.ls.l) :: own 9 1 o2 g.ts.l.length c2 (flat encX g.ts.l) :: own 9 1 o3 g.xs.l.length c3 (flat encX g.xs.l) :: own 9 1 o4 g.ss.l.length c4 (flat encX g.ss.l) :: cb b1 34 (encP oF 1 cF g) :: cb b2 25 (encGs gr0s) :: []) w ∧ Sl 44 [(4, .pointer (some (bat b4 0))), (2, .pointer (some (bat b2 0))), (3, .int .i64 0)] a) 0 ⟨.inl ⟨rfl, hH⟩, (hA.sub (by (repeat (first | exact trivial | refine ⟨rfl, ?_⟩)); first | done | fail "sub"))⟩ ?_ ?_
  · clear hA hH
    rintro i a w ⟨⟨rfl, hH⟩ | ⟨rfl, oB, cB, oA, oG, cG, hH⟩, hA⟩
    rotate_left
    · repeat' (first | (refine QT ?_; clear hA a; intro a hA) | (refine CT ?_ <;> repeat' refine CT ?_))
      exact ⟨oB, cB, oA, oG, cG, hH, (hA.sub (by (repeat (first | exact trivial | refine ⟨rfl, ?_⟩)); first | done | fail "sub"))⟩
    repeat' (first | ((first | apply st_ex hA hH rfl rfl (by decide) | apply dr_ex hA rfl rfl rfl (by decide) | apply dr_exp hA rfl rfl rfl (by decide) | apply dr_ex3 hA hH rfl rfl rfl (by decide)); (first | (apply ex_indexAddr_nat; rfl; rfl; omega; exact hspF) | (apply ex_load_st (vs := encF o 0); rfl; rfl; exact cls_rd hF id (fun i v h => (by rw [Nat.zero_mul, Nat.zero_add]; exact h)))); clear hA a; intro a hA) | (refine QT ?_; clear hA a; intro a hA) | (refine BT ?_; clear hA hH; rintro _ w ⟨bN, rfl, hH⟩ a hA) | (apply st_op0 hA rfl rfl; apply op_store_agg (vs := encF o 0); rfl; rfl; exact hH; (repeat constructor); (repeat rfl); clear hH; rintro _ w hH) | (refine CT ?_ <;> repeat' refine CT ?_))
    obtain ⟨b6, hb6⟩ : ∃ x, x = bN := ⟨_, rfl⟩
    rw [← hb6] at hA hH
    clear hb6 bN
    have hST : HS w0 noM [cb b6 72 (encF o 0), cb b4 25 [.slice none 0 0, .slice o1 g.ls.l.length c1, .slice o2 g.ts.l.length c2, .slice o3 g.xs.l.length c3, .slice o4 g.ss.l.length c4]] w := HS.left (H1 := [_, _]) hH
    replace hH := hH.nil_own 44 2
    (refine wp_draw2_HS (H := [_, _]) [(0, 1), (1, 1), (2, 1), (3, 0), (4, 0), (5, 0), (6, 1)] [7] mixed (by decide +kernel) (hST) ?_; replace hH := hH.drew)
    clear hST
    repeat' (first | ((first | apply st_ex hA hH rfl rfl (by decide) | apply dr_ex hA rfl rfl rfl (by decide) | apply dr_exp hA rfl rfl rfl (by decide) | apply dr_ex3 hA hH rfl rfl rfl (by decide)); (first | (apply ex_load_st (vs := encF o 0); rfl; rfl; exact cls_cb_all MEMT)); clear hA a; intro a hA) | (refine QT ?_; clear hA a; intro a hA))
    (refine dr_op hA rfl rfl rfl (by decide) (op_call rfl rfl rfl (graph1_spec _ o 5 (hH.rd hr id))) ?_; clear hA; rintro _ w ⟨oB, cB, oA, rfl, hj⟩; replace hH := hH.join hj; clear hj; refine ⟨HS.left (H1 := [_, _]) hH.tail.tail.tail, ?_⟩; intro a hA)
    (apply dr_op hA rfl rfl rfl (by decide); apply op_sliceLit (xs := encG ⟨0, ⟨oB, cB, [bl5 oA 1 5]⟩⟩) (vs := [.agg (encG ⟨0, ⟨oB, cB, [bl5 oA 1 5]⟩⟩).toArray]); rfl; rfl; exact (Cats.cn (cs := encG ⟨0, ⟨oB, cB, [bl5 oA 1 5]⟩⟩) Cats.nil); rfl; rfl; rfl; exact hH; clear hA hH; rintro _ w ⟨oN, rfl, hH⟩; refine ⟨HS.left (H1 := [_, _]) hH.tail.tail.tail.tail, ?_⟩; intro a hA)
    (apply dr_op hA rfl rfl rfl (by decide); apply op_append; rfl; rfl; exact hH; exact MEMT; exact (hH.own_rd (List.Mem.head _)); exact rfl; rfl; decide; exact rfl; (unfold maxLen; omega); omega; clear hA; rintro _ w ⟨oN, cN, rfl, hH2⟩; clear hH; have hH := hH2 _ (by (repeat constructor)); clear hH2; refine ⟨HS.left (H1 := [_, _]) hH.tail.tail.tail.tail, ?_⟩; intro a hA)
    repeat' (first | (refine QT ?_; clear hA a; intro a hA) | (apply dr_op03 hA rfl rfl rfl; apply op_store_fld (cs' := [.slice oN (0 + 1) cN, .slice o1 g.ls.l.length c1, .slice o2 g.ts.l.length c2, .slice o3 g.xs.l.length c3, .slice o4 g.ss.l.length c4]); rfl; rfl; rfl; exact hH; (repeat constructor); clear hH; rintro _ w hH) | (refine CT ?_ <;> repeat' refine CT ?_))
    exact ⟨1, ⟨.inr ⟨rfl, oB, cB, oA, oN, cN, ((hH.rm 0).rm 3).perm (by (repeat (first | exact List.Perm.refl _ | exact List.Perm.nil | refine perm_pick 0 rfl ?_ | refine perm_pick 1 rfl ?_ | refine perm_pick 2 rfl ?_ | refine perm_pick 3 rfl ?_ | refine perm_pick 4 rfl ?_ | refine perm_pick 5 rfl ?_ | refine perm_pick 6 rfl ?_ | refine perm_pick 7 rfl ?_ | refine perm_pick 8 rfl ?_ | refine perm_pick 9 rfl ?_ | refine perm_pick 10 rfl ?_ | refine perm_pick 11 rfl ?_)))⟩, (hA.sub (by (repeat (first | exact trivial | refine ⟨rfl, ?_⟩)); first | done | fail "sub"))⟩, by omega⟩
  clear hA hH
  rintro a w ⟨oB, cB, oA, oG, cG, hH, hA⟩
  obtain ⟨h, hh⟩ : ∃ h, h = h5 oB oA oG o1 o2 o3 o4 cB cG c1 c2 c3 c4 g := ⟨_, rfl⟩
  have hRh : RdGs w h := by rw [hh]; exact h5_rd (hH.perm (H' := own 44 2 oG 1 cG (encG ⟨0, ⟨oB, cB, [bl5 oA 1 5]⟩⟩) :: own 53 6 oB 1 cB (encBl (bl5 oA 1 5)) :: own 65 2 oA 1 1 (encAt ⟨2, 5⟩) :: own 9 1 o1 g.ls.l.length c1 (flat encX g.ls.l) :: own 9 1 o2 g.ts.l.length c2 (flat encX g.ts.l) :: own 9 1 o3 g.xs.l.length c3 (flat encX g.xs.l) :: own 9 1 o4 g.ss.l.length c4 (flat encX g.ss.l) :: cb b4 25 [.slice oG 1 cG, .slice o1 g.ls.l.length c1, .slice o2 g.ts.l.length c2, .slice o3 g.xs.l.length c3, .slice o4 g.ss.l.length c4] :: cb b1 34 (encP oF 1 cF g) :: cb b2 25 (encGs gr0s) :: []) (by (repeat (first | exact List.Perm.refl _ | exact List.Perm.nil | refine perm_pick 0 rfl ?_ | refine perm_pick 1 rfl ?_ | refine perm_pick 2 rfl ?_ | refine perm_pick 3 rfl ?_ | refine perm_pick 4 rfl ?_ | refine perm_pick 5 rfl ?_ | refine perm_pick 6 rfl ?_ | refine perm_pick 7 rfl ?_ | refine perm_pick 8 rfl ?_ | refine perm_pick 9 rfl ?_ | refine perm_pick 10 rfl ?_ | refine perm_pick 11 rfl ?_))))
  have hfacts : h.fs = ⟨oG, cG, [⟨0, ⟨oB, cB, [bl5 oA 1 5]⟩⟩]⟩ ∧ h.xs.l = xs4 ∧ h.ls.l = [] ∧ h.ts.l = [] ∧ h.ss.l = [] := by rw [hh]; exact ⟨rfl, hx, hl, ht, hs⟩
  have hmay : MayP h := may5 (n := 5) (of := none) (oc := 0) (by decide) (by rw [hfacts.1]) hfacts.2.1 hfacts.2.2.1 hfacts.2.2.2.1 hfacts.2.2.2.2
  have hGh : encGs h = [.slice oG 1 cG, .slice o1 g.ls.l.length c1, .slice o2 g.ts.l.length c2, .slice o3 g.xs.l.length c3, .slice o4 g.ss.l.length c4] := by rw [hh]; rfl
  rw [← hGh] at hH
  repeat' (first | ((first | apply st_ex hA hH rfl rfl (by decide) | apply dr_ex hA rfl rfl rfl (by decide) | apply dr_exp hA rfl rfl rfl (by decide) | apply dr_ex3 hA hH rfl rfl rfl (by decide)); (first | (apply ex_load_st (vs := encGs h); rfl; rfl; exact cls_cb_all MEMT)); clear hA a; intro a hA) | (refine QT ?_; clear hA a; intro a hA) | (refine CT ?_ <;> repeat' refine CT ?_))
  (refine st_op hA rfl rfl (by decide) (op_call rfl rfl rfl (May_spec _ h hRh (by rw [hfacts.1]; exact (by decide : 1 ≤ 100000)) (by
    rw [hfacts.1]
    intro f hf
    obtain rfl := List.mem_singleton.1 hf
    refine ⟨by show 1 ≤ _; decide, fun bl hb => ?_⟩
    obtain rfl := List.mem_singleton.1 hb
    show 0 ≤ _; decide))) ?_; clear hA; rintro _ w ⟨b, rfl, hk, hb⟩ a hA; replace hH := hH.keep hk; replace hRh := hRh.keep hk; clear hk)
  obtain rfl : b = true := hb.2 hmay
  repeat' (first | ((first | apply st_ex hA hH rfl rfl (by decide) | apply dr_ex hA rfl rfl rfl (by decide) | apply dr_exp hA rfl rfl rfl (by decide) | apply dr_ex3 hA hH rfl rfl rfl (by decide)); (first | (apply ex_load_st (vs := encGs h); rfl; rfl; exact cls_cb_all MEMT)); clear hA a; intro a hA) | (refine QT ?_; clear hA a; intro a hA) | (apply st_op0 hA rfl rfl; apply op_store_agg (vs := encGs h); rfl; rfl; exact hH; (repeat constructor); (repeat rfl); clear hH; rintro _ w hH) | (refine CT ?_ <;> repeat' refine CT ?_))
  refine rt2c (vs := encGs h) (.inl rfl) rfl hA rfl rfl rfl hH (cls_cb_all (by exact MEMT)) ⟨oB, oA, oG, o1, o2, o3, o4, cB, cG, c1, c2, c3, c4, by rw [hh], ?_⟩
  exact ((((hH.perm (H' := own 44 2 oG 1 cG (encG ⟨0, ⟨oB, cB, [bl5 oA 1 5]⟩⟩) :: own 53 6 oB 1 cB (encBl (bl5 oA 1 5)) :: own 65 2 oA 1 1 (encAt ⟨2, 5⟩) :: own 9 1 o1 g.ls.l.length c1 (flat encX g.ls.l) :: own 9 1 o2 g.ts.l.length c2 (flat encX g.ts.l) :: own 9 1 o3 g.xs.l.length c3 (flat encX g.xs.l) :: own 9 1 o4 g.ss.l.length c4 (flat encX g.ss.l) :: cb b4 25 (encGs h) :: cb b1 34 (encP oF 1 cF g) :: cb b2 25 (encGs h) :: []) (by (repeat (first | exact List.Perm.refl _ | exact List.Perm.nil | refine perm_pick 0 rfl ?_ | refine perm_pick 1 rfl ?_ | refine perm_pick 2 rfl ?_ | refine perm_pick 3 rfl ?_ | refine perm_pick 4 rfl ?_ | refine perm_pick 5 rfl ?_ | refine perm_pick 6 rfl ?_ | refine perm_pick 7 rfl ?_ | refine perm_pick 8 rfl ?_ | refine perm_pick 9 rfl ?_ | refine perm_pick 10 rfl ?_ | refine perm_pick 11 rfl ?_)))).rm 7).rm 7).rm 7)
end Go.Proofs.YtenlcdokaadobaaGreatDoor
