/-
  The walk over the rows that are left where something is known (the document's). Conditions: none.
  The walk over the document's tree, where nothing is tested. Conditions: none.
  The walk over the document's tree, where something is tested. Conditions: none.
-/
import Derived.Test.YtcododdkjppmjaaRowCompilesMg6
namespace Go.Fw
open Go Go.RowKit
theorem HS.three {w0 w : World} {H : List It} {x y z : It} (h : HS w0 noM H w) (i j k : Nat) (hi : H[i]? = some x) (hj : (H.eraseIdx i)[j]? = some y) (hk : ((H.eraseIdx i).eraseIdx j)[k]? = some z) : HS w0 noM [x, y, z] w :=
  ((h.pk i hi).perm (((perm_pick0 j hj).trans ((perm_pick0 k hk).cons y)).cons x)).dropH (L := [x, y, z])
end Go.Fw
namespace Go.Proofs.Ytcododdkjppmjaa
open Go Go.Fw
set_option linter.unusedVariables false
theorem leftC_snoc (q : Pth) (l : List Cnd) (c : Cnd) : leftC q (l ++ [c]) = leftC q l ++ (if c.1 = q then step q c else [c]) := by unfold leftC; simp
theorem leftC_nil (q : Pth) : leftC q [] = [] := rfl
theorem leftC_len (q : Pth) : ∀ (l : List Cnd), (leftC q l).length ≤ l.length
  | [] => Nat.le_refl _
  | c :: l => by
    have e : leftC q (c :: l) = (if c.1 = q then step q c else [c]) ++ leftC q l := rfl
    rw [e, List.length_append, List.length_cons]
    have h1 := leftC_len q l
    have h2 : (if c.1 = q then step q c else [c]).length ≤ 1 := by
      split
      · exact step_len q c
      · exact Nat.le_refl _
    omega
set_option maxRecDepth 10000 attribute [local irreducible] Code.wp wpList Calls Ex Op1 sat bat blk cb own Go.Fw.mp Go.Fw.mpO Go.Fw.mpI Go.Fw.mpE Go.Fw.itr HS Rd Ret wkD Hp Cl Cls Exit.then Exit.inBlock Exit.noGoto bodyPost Go.Fw.flat wk2 Go.Fw.all Go.Fw.owns wpOp
attribute [local irreducible] encA encC encB encL formP formL partsP partsL plP plL plC szA szL szC left leftC

set_option maxHeartbeats 8000000 in
theorem rleft_spec (w0 w : World) (H : List It) (K : World → Prop) (o oq : Option Addr) (c cq : Nat) (l : List ML) (q : Pth) (h : Hd)
    (hH : HS w0 noM (frz w0 K :: H) w) (hR : ∀ w, K w → RdLs w o c l ∧ RdQ w oq cq q) (hrw : ∀ m ∈ l, Rw m.un) (hl : l.length ≤ 1000) (hq : q.length ≤ 1000) :
    Ret Try.prog 49 #[.slice o l.length c, .slice oq q.length cq, .agg #[.int .i64 h.ap.k, .int .i64 h.ap.v, .int .i64 h.ap.n, .string h.ap.s, .slice h.ap.ol h.ap.ls.length h.ap.cl, .slice h.ap.oa h.ap.ps.length h.ap.ca]] w (fun v w' => ∃ (K' : World → Prop) (o' : Option Addr) (c' : Nat) (l' : List ML), v = .slice o' l'.length c' ∧
      (∀ w, K' w → K w ∧ RdLs w o' c' l') ∧ l'.map ML.un = left q h (l.map ML.un) ∧ HS w0 noM (frz w0 K' :: H) w') := by
  have hK0 := hH.frz_w (.head _) hR
  have hsp : Sp o l.length := hK0.1.1.sp (sz := 3) (flat_length encL_len l) (by omega)
  have hrL : ∀ w, K w → Rd w o (flat encL l) := fun w h => (hR w h).1.1
  clear hK0
  (refine enter (N := 108) Try.func49 rfl Try.ntmps49 rfl ?_; intro a hA; dsimp only [sl0, Nat.reduceAdd] at hA)
  repeat' (first | (first | (refine GT ?_ ?_ <;> intro hg <;> clear hA a <;> intro a hA <;> (first | exact FA | replace hg := of_decide_eq_true hg | replace hg := of_decide_eq_false hg | skip)) | (refine QT ?_; clear hA a; intro a hA) | (first | (refine BT ?_; clear hA hH; rintro _ w ⟨bN, rfl, hH⟩ a hA) | (refine LT ?_; clear hA hH; rintro _ w ⟨oN, rfl, hH⟩ a hA) | (refine AT ?_; clear hA; rintro _ w ⟨oN, cN, rfl, hH2⟩ a hA; clear hH; have hH := (hH2 _ (by (repeat constructor))).tail; clear hH2) | (refine S0T ?_; clear hH; rintro _ w hH) )) | ((first | refine CT ?_ | (refine DT ?_ ?_ <;> intro hc <;> try (exfalso; omega))) <;> repeat' refine CT ?_) | (first | (refine DSK ?_; clear hA a; intro a hA) | (first | (refine DLT ?_; clear hA hH; rintro _ w ⟨oN, rfl, hH⟩; refine ⟨STT, ?_⟩; intro a hA) | (refine DAT ?_; clear hA; rintro _ w ⟨oN, cN, rfl, hH2⟩; clear hH; have hH := (hH2 _ (by (repeat constructor))).tail; clear hH2; refine ⟨STT, ?_⟩; intro a hA))) )
  obtain ⟨oE, hoE⟩ : ∃ b, b = oN := ⟨_, rfl⟩
  rw [← hoE] at hA hH
  clear hoE oN
  obtain ⟨b5, hb5⟩ : ∃ b, b = bN := ⟨_, rfl⟩
  rw [← hb5] at hA hH
  clear hb5 bN
  replace hH := hH.conv (it' := own 64 3 oE 0 0 (flat encL [])) .here (fun F h => by rw [flat_nil]; exact h)
  refine wp_lpk (S := Nat) (fun i a w => ∃ (K' : World → Prop) (oo : Option Addr) (co : Nat) (lo : List ML), (i ≤ l.length ∧ (∀ w, K' w → K w ∧ ∀ m ∈ lo, RdL w m) ∧ lo.map ML.un = left q h ((l.take i).map ML.un)) ∧
      HS w0 noM (own 64 3 oo lo.length co (flat encL lo) :: frz w0 K' :: Go.Fw.cb b5 38 [.int .i64 h.ap.k, .int .i64 h.ap.v, .int .i64 h.ap.n, .string h.ap.s, .slice h.ap.ol h.ap.ls.length h.ap.cl, .slice h.ap.oa h.ap.ps.length h.ap.ca] :: H) w ∧ Sl 108 [(0, .slice o l.length c), (1, .slice oq q.length cq), (5, .pointer (some (bat b5 0))), (7, .slice oo lo.length co), (8, .int .i64 i)] a)
    (fun i => l.length - i)
    (fun a w => ∃ (K' : World → Prop) (oo : Option Addr) (co : Nat) (lo : List ML), ((∀ w, K' w → K w ∧ ∀ m ∈ lo, RdL w m) ∧ lo.map ML.un = left q h (l.map ML.un)) ∧
      HS w0 noM (own 64 3 oo lo.length co (flat encL lo) :: frz w0 K' :: Go.Fw.cb b5 38 [.int .i64 h.ap.k, .int .i64 h.ap.v, .int .i64 h.ap.n, .string h.ap.s, .slice h.ap.ol h.ap.ls.length h.ap.cl, .slice h.ap.oa h.ap.ps.length h.ap.ca] :: H) w ∧ Sl 108 [(7, .slice oo lo.length co)] a) 0
    ⟨K, oE, 0, [], ⟨Nat.zero_le _, fun w hK => ⟨hK, fun m h => absurd h List.not_mem_nil⟩, by rw [List.take_zero]; exact left_nil q h⟩, hH.perm (by (repeat (first | exact List.Perm.refl _ | exact List.Perm.nil | refine perm_pick 0 rfl ?_ | refine perm_pick 1 rfl ?_ | refine perm_pick 2 rfl ?_ | refine perm_pick 3 rfl ?_ | refine perm_pick 4 rfl ?_ | refine perm_pick 5 rfl ?_ | refine perm_pick 6 rfl ?_ | refine perm_pick 7 rfl ?_ | refine perm_pick 8 rfl ?_ | refine perm_pick 9 rfl ?_ | refine perm_pick 10 rfl ?_ | refine perm_pick 11 rfl ?_))), (hA.sub (by (repeat (first | exact trivial | refine ⟨rfl, ?_⟩))))⟩ ?_ ?_
  rotate_left
  · clear hA hH
    rintro a w ⟨K', oo, co, lo, ⟨hK', hlo⟩, hH, hA⟩
    have hle := hH.own_le (.head _)
    repeat' (first | (first | (refine GT ?_ ?_ <;> intro hg <;> clear hA a <;> intro a hA <;> (first | exact FA | replace hg := of_decide_eq_true hg | replace hg := of_decide_eq_false hg | skip)) | (refine QT ?_; clear hA a; intro a hA) | (first | (refine BT ?_; clear hA hH; rintro _ w ⟨bN, rfl, hH⟩ a hA) | (refine LT ?_; clear hA hH; rintro _ w ⟨oN, rfl, hH⟩ a hA) | (refine AT ?_; clear hA; rintro _ w ⟨oN, cN, rfl, hH2⟩ a hA; clear hH; have hH := (hH2 _ (by (repeat constructor))).tail; clear hH2) | (refine S0T ?_; clear hH; rintro _ w hH) )) | ((first | refine CT ?_ | (refine DT ?_ ?_ <;> intro hc <;> try (exfalso; omega))) <;> repeat' refine CT ?_) | (first | (refine DSK ?_; clear hA a; intro a hA) | (first | (refine DLT ?_; clear hA hH; rintro _ w ⟨oN, rfl, hH⟩; refine ⟨STT, ?_⟩; intro a hA) | (refine DAT ?_; clear hA; rintro _ w ⟨oN, cN, rfl, hH2⟩; clear hH; have hH := (hH2 _ (by (repeat constructor))).tail; clear hH2; refine ⟨STT, ?_⟩; intro a hA))) )
    refine rt1 (.inl rfl) rfl hA rfl ⟨_, oo, co, lo, rfl, ?_, hlo, hH.frz_own.er 1⟩
    rintro w ⟨h1, h2⟩
    exact ⟨(hK' w h2).1, h1, hle.1, hle.2, (hK' w h2).2⟩
  clear hA hH
  rintro i a w ⟨K', oo, co, lo, ⟨hi, hK', hlo⟩, hH, hA⟩
  by_cases hlt : i < l.length
  rotate_left
  · obtain rfl : i = l.length := by omega
    rw [List.take_length] at hlo
    repeat' (first | (first | (refine GT ?_ ?_ <;> intro hg <;> clear hA a <;> intro a hA <;> (first | exact FA | replace hg := of_decide_eq_true hg | replace hg := of_decide_eq_false hg | skip)) | (refine QT ?_; clear hA a; intro a hA) | (first | (refine BT ?_; clear hA hH; rintro _ w ⟨bN, rfl, hH⟩ a hA) | (refine LT ?_; clear hA hH; rintro _ w ⟨oN, rfl, hH⟩ a hA) | (refine AT ?_; clear hA; rintro _ w ⟨oN, cN, rfl, hH2⟩ a hA; clear hH; have hH := (hH2 _ (by (repeat constructor))).tail; clear hH2) | (refine S0T ?_; clear hH; rintro _ w hH) )) | ((first | refine CT ?_ | (refine DT ?_ ?_ <;> intro hc <;> try (exfalso; omega))) <;> repeat' refine CT ?_) | (first | (refine DSK ?_; clear hA a; intro a hA) | (first | (refine DLT ?_; clear hA hH; rintro _ w ⟨oN, rfl, hH⟩; refine ⟨STT, ?_⟩; intro a hA) | (refine DAT ?_; clear hA; rintro _ w ⟨oN, cN, rfl, hH2⟩; clear hH; have hH := (hH2 _ (by (repeat constructor))).tail; clear hH2; refine ⟨STT, ?_⟩; intro a hA))) )
    exact ⟨K', oo, co, lo, ⟨hK', hlo⟩, hH, (hA.sub (by (repeat (first | exact trivial | refine ⟨rfl, ?_⟩))))⟩
  obtain ⟨x, hx⟩ : ∃ x, l[i]? = some x := ⟨_, List.getElem?_eq_getElem hlt⟩
  have hxm := List.mem_of_getElem? hx
  have hvs := flat_all encL_len hx
  rw [encL_eq] at hvs
  have hvs0 := hvs 0 _ rfl
  have hvs1 := hvs 1 _ rfl
  have hvs2 := hvs 2 _ rfl
  have hrL2 : ∀ w, K' w → Rd w o (flat encL l) := fun w h => hrL w (hK' w h).1
  have hRx : ∀ w, K' w → RdL w x := fun w h => (hR w (hK' w h).1).1.2.2.2 x hxm
  have hRq : ∀ w, K' w → RdQ w oq cq q := fun w h => (hR w (hK' w h).1).2
  have hxw := hrw x hxm
  have hxu : (l.map ML.un)[i]? = some x.un := by rw [List.getElem?_map, hx]; rfl
  have hsn := left_snoc q h ((l.map ML.un).take i) x.un
  rw [← take_next hxu, ← List.map_take, ← List.map_take] at hsn
  have hlol : lo.length ≤ i := by
    have e1 := congrArg List.length hlo
    rw [List.length_map] at e1
    have := left_len q h ((l.take i).map ML.un)
    rw [List.length_map, List.length_take] at this
    omega
  have hcl : x.cs.length ≤ 256 := by
    have h1 := hxw.sz
    have h2 := szC_len x.un.cs
    have : x.un.cs.length = x.cs.length := List.length_map ..
    omega
  have hcq : ∀ m ∈ x.cs, m.q.length + szA m.p ≤ 256 := fun m hm => hxw.path m.un (List.mem_map.2 ⟨m, hm, rfl⟩)
  have hcf : ∀ m ∈ x.cs, formP m.p = true := fun m hm => hxw.form m.un (List.mem_map.2 ⟨m, hm, rfl⟩)
  repeat' (first | (first | (refine GT ?_ ?_ <;> intro hg <;> clear hA a <;> intro a hA <;> (first | exact FA | replace hg := of_decide_eq_true hg | replace hg := of_decide_eq_false hg | skip)) | ((first | apply st_ex hA hH rfl rfl (by decide) | apply dr_ex hA rfl rfl rfl (by decide) | apply dr_exp hA rfl rfl rfl (by decide) | apply dr_ex3 hA hH rfl rfl rfl (by decide)); (first | (apply ex_load_st (vs := [.int .i64 x.n, .slice x.oc x.cs.length x.cc, .slice x.ob x.bs.length x.cb]); rfl; rfl; exact cls_frz MEMT hrL2 hvs)); clear hA a; intro a hA) | (refine QT ?_; clear hA a; intro a hA) | (first | (refine BT ?_; clear hA hH; rintro _ w ⟨bN, rfl, hH⟩ a hA) | (refine LT ?_; clear hA hH; rintro _ w ⟨oN, rfl, hH⟩ a hA) | (refine AT ?_; clear hA; rintro _ w ⟨oN, cN, rfl, hH2⟩ a hA; clear hH; have hH := (hH2 _ (by (repeat constructor))).tail; clear hH2) | (refine S0T ?_; clear hH; rintro _ w hH) )) | ((first | refine CT ?_ | (refine DT ?_ ?_ <;> intro hc <;> try (exfalso; omega))) <;> repeat' refine CT ?_) | (first | (refine DSK ?_; clear hA a; intro a hA) | (first | (refine DLT ?_; clear hA hH; rintro _ w ⟨oN, rfl, hH⟩; refine ⟨STT, ?_⟩; intro a hA) | (refine DAT ?_; clear hA; rintro _ w ⟨oN, cN, rfl, hH2⟩; clear hH; have hH := (hH2 _ (by (repeat constructor))).tail; clear hH2; refine ⟨STT, ?_⟩; intro a hA))) )
  (refine st_op hA rfl rfl (by decide) (op_call rfl rfl rfl (of_spec _ x oq cq q (hRx _ (hH.frz (by exact MEMT))).1 (hRq _ (hH.frz (by exact MEMT))) (by omega) (fun m hm => by have := hcq m hm; omega))) ?_; clear hA; rintro _ w ⟨hcase, hk⟩ a hA; replace hH := hH.keep hk; clear hk)
  rcases hcase with ⟨hno, rfl⟩ | ⟨j, y, hy, hyq, hfirst, rfl⟩
  · have hl1 : leftL q h x.un = [x.un] := by unfold leftL; rw [show of q x.un.cs = none from of_none hno]
    rw [hl1] at hsn
    repeat' (first | (first | (refine GT ?_ ?_ <;> intro hg <;> clear hA a <;> intro a hA <;> (first | exact FA | replace hg := of_decide_eq_true hg | replace hg := of_decide_eq_false hg | skip)) | ((first | apply st_ex hA hH rfl rfl (by decide) | apply dr_ex hA rfl rfl rfl (by decide) | apply dr_exp hA rfl rfl rfl (by decide) | apply dr_ex3 hA hH rfl rfl rfl (by decide)); (first | (apply ex_load_st (vs := [.int .i64 x.n, .slice x.oc x.cs.length x.cc, .slice x.ob x.bs.length x.cb]); rfl; rfl; exact cls_frz MEMT hrL2 hvs)); clear hA a; intro a hA) | (refine QT ?_; clear hA a; intro a hA) | (first | (refine BT ?_; clear hA hH; rintro _ w ⟨bN, rfl, hH⟩ a hA) | (refine LT ?_; clear hA hH; rintro _ w ⟨oN, rfl, hH⟩ a hA) | (refine AT ?_; clear hA; rintro _ w ⟨oN, cN, rfl, hH2⟩ a hA; clear hH; have hH := (hH2 _ (by (repeat constructor))).tail; clear hH2) | (refine S0T ?_; clear hH; rintro _ w hH) | (apply st_op0 hA rfl rfl; apply op_store_agg (vs := [.slice c00.o c00.q.length c00.c, .int .i64 c00.p.k, .int .i64 c00.p.v, .int .i64 c00.p.n, .string c00.p.s, .slice c00.p.ol c00.p.ls.length c00.p.cl, .slice c00.p.oa c00.p.ps.length c00.p.ca]); rfl; rfl; exact hH; (repeat constructor); (repeat rfl); clear hH; rintro _ w hH))) | ((first | refine CT ?_ | (refine DT ?_ ?_ <;> intro hc <;> try (exfalso; omega))) <;> repeat' refine CT ?_) | (first | (refine DSK ?_; clear hA a; intro a hA) | (first | (refine DLT ?_; clear hA hH; rintro _ w ⟨oN, rfl, hH⟩; refine ⟨STT, ?_⟩; intro a hA) | (refine DAT ?_; clear hA; rintro _ w ⟨oN, cN, rfl, hH2⟩; clear hH; have hH := (hH2 _ (by (repeat constructor))).tail; clear hH2; refine ⟨STT, ?_⟩; intro a hA))) )
    rw [← encL_eq, ← flat_snoc, ← len_snoc lo x] at hH
    rw [← len_snoc lo x] at hA
    exact ⟨i + 1, ⟨K', oN, cN, lo ++ [x], ⟨hlt, fun w hw => ⟨(hK' w hw).1, fun m hm => by
      rcases List.mem_append.1 hm with hm | hm
      · exact (hK' w hw).2 m hm
      · rw [List.mem_singleton] at hm; subst hm; exact hRx w hw⟩, by rw [hsn, List.map_append, hlo]; rfl⟩, hH.er 0, (hA.sub (by (repeat (first | exact trivial | refine ⟨rfl, ?_⟩))))⟩, by omega⟩
  have hof : of q x.un.cs = some y.un := of_some hy hyq hfirst
  repeat' (first | (first | (refine GT ?_ ?_ <;> intro hg <;> clear hA a <;> intro a hA <;> (first | exact FA | replace hg := of_decide_eq_true hg | replace hg := of_decide_eq_false hg | skip)) | (refine QT ?_; clear hA a; intro a hA) | (first | (refine BT ?_; clear hA hH; rintro _ w ⟨bN, rfl, hH⟩ a hA) | (refine LT ?_; clear hA hH; rintro _ w ⟨oN, rfl, hH⟩ a hA) | (refine AT ?_; clear hA; rintro _ w ⟨oN, cN, rfl, hH2⟩ a hA; clear hH; have hH := (hH2 _ (by (repeat constructor))).tail; clear hH2) | (refine S0T ?_; clear hH; rintro _ w hH) | (apply st_op0 hA rfl rfl; apply op_store_agg (vs := [.slice y.o y.q.length y.c, .int .i64 y.p.k, .int .i64 y.p.v, .int .i64 y.p.n, .string y.p.s, .slice y.p.ol y.p.ls.length y.p.cl, .slice y.p.oa y.p.ps.length y.p.ca]); rfl; rfl; exact hH; (repeat constructor); (repeat rfl); clear hH; rintro _ w hH))) | ((first | refine CT ?_ | (refine DT ?_ ?_ <;> intro hc <;> try (exfalso; omega))) <;> repeat' refine CT ?_) | (first | (refine DSK ?_; clear hA a; intro a hA) | (first | (refine DLT ?_; clear hA hH; rintro _ w ⟨oN, rfl, hH⟩; refine ⟨STT, ?_⟩; intro a hA) | (refine DAT ?_; clear hA; rintro _ w ⟨oN, cN, rfl, hH2⟩; clear hH; have hH := (hH2 _ (by (repeat constructor))).tail; clear hH2; refine ⟨STT, ?_⟩; intro a hA))) )
  obtain ⟨b9, hb9⟩ : ∃ b, b = bN := ⟨_, rfl⟩
  rw [← hb9] at hA hH
  clear hb9 bN
  (refine wp_draw_HS [(0, 1), (1, 1), (3, 1), (2, 0), (4, 0), (5, 2)] mixed (by decide +kernel) hH ?_; replace hH := hH.drew)
  repeat' (first | (first | (refine GT ?_ ?_ <;> intro hg <;> clear hA a <;> intro a hA <;> (first | exact FA | replace hg := of_decide_eq_true hg | replace hg := of_decide_eq_false hg | skip)) | ((first | apply st_ex hA hH rfl rfl (by decide) | apply dr_ex hA rfl rfl rfl (by decide) | apply dr_exp hA rfl rfl rfl (by decide) | apply dr_ex3 hA hH rfl rfl rfl (by decide)); (first | (apply ex_load_st (vs := [.int .i64 y.p.k, .int .i64 y.p.v, .int .i64 y.p.n, .string y.p.s, .slice y.p.ol y.p.ls.length y.p.cl, .slice y.p.oa y.p.ps.length y.p.ca]); rfl; rfl; exact cls_cb MEMT (fun i v h => by rw [Nat.add_comm]; exact h))); clear hA a; intro a hA) | (refine QT ?_; clear hA a; intro a hA) | (first | (refine BT ?_; clear hA hH; rintro _ w ⟨bN, rfl, hH⟩ a hA) | (refine LT ?_; clear hA hH; rintro _ w ⟨oN, rfl, hH⟩ a hA) | (refine AT ?_; clear hA; rintro _ w ⟨oN, cN, rfl, hH2⟩ a hA; clear hH; have hH := (hH2 _ (by (repeat constructor))).tail; clear hH2) | (refine S0T ?_; clear hH; rintro _ w hH) )) | ((first | refine CT ?_ | (refine DT ?_ ?_ <;> intro hc <;> try (exfalso; omega))) <;> repeat' refine CT ?_) | (first | (refine DSK ?_; clear hA a; intro a hA) | (first | (refine DLT ?_; clear hA hH; rintro _ w ⟨oN, rfl, hH⟩; refine ⟨STT, ?_⟩; intro a hA) | (refine DAT ?_; clear hA; rintro _ w ⟨oN, cN, rfl, hH2⟩; clear hH; have hH := (hH2 _ (by (repeat constructor))).tail; clear hH2; refine ⟨STT, ?_⟩; intro a hA))) )
  (refine dr_op hA rfl rfl rfl (by decide) (op_call rfl rfl rfl (head_spec _ y.p)) ?_; clear hA; rintro _ w ⟨rfl, hk⟩; refine ⟨hH.keep hk, ?_⟩; intro a hA)
  replace hH := hH.keep hk
  clear hk
  (refine dr_op hA rfl rfl rfl (by decide) (op_call rfl rfl rfl (equal_spec _ y.p.hd.ap h.ap)) ?_; clear hA; rintro _ w ⟨rfl, hk⟩; refine ⟨hH.keep hk, ?_⟩; intro a hA)
  replace hH := hH.keep hk
  clear hk
  have hde : decide (y.p.hd.ap.hd = h.ap.hd) = decide (y.p.hd = h) := rfl
  rw [hde] at hA
  by_cases hyh : y.p.hd = h
  rotate_left
  · rw [decide_eq_false hyh] at hA
    have hl1 : leftL q h x.un = [] := by unfold leftL; rw [hof]; exact if_neg hyh
    rw [hl1, List.append_nil] at hsn
    repeat' (first | (first | (refine GT ?_ ?_ <;> intro hg <;> clear hA a <;> intro a hA <;> (first | exact FA | replace hg := of_decide_eq_true hg | replace hg := of_decide_eq_false hg | skip)) | (refine QT ?_; clear hA a; intro a hA) | (first | (refine BT ?_; clear hA hH; rintro _ w ⟨bN, rfl, hH⟩ a hA) | (refine LT ?_; clear hA hH; rintro _ w ⟨oN, rfl, hH⟩ a hA) | (refine AT ?_; clear hA; rintro _ w ⟨oN, cN, rfl, hH2⟩ a hA; clear hH; have hH := (hH2 _ (by (repeat constructor))).tail; clear hH2) | (refine S0T ?_; clear hH; rintro _ w hH) )) | ((first | refine CT ?_ | (refine DT ?_ ?_ <;> intro hc <;> try (exfalso; omega))) <;> repeat' refine CT ?_) | (first | (refine DSK ?_; clear hA a; intro a hA) | (first | (refine DLT ?_; clear hA hH; rintro _ w ⟨oN, rfl, hH⟩; refine ⟨STT, ?_⟩; intro a hA) | (refine DAT ?_; clear hA; rintro _ w ⟨oN, cN, rfl, hH2⟩; clear hH; have hH := (hH2 _ (by (repeat constructor))).tail; clear hH2; refine ⟨STT, ?_⟩; intro a hA))) )
    exact ⟨i + 1, ⟨K', oo, co, lo, ⟨hlt, hK', by rw [hsn, hlo]⟩, hH.er 0, (hA.sub (by (repeat (first | exact trivial | refine ⟨rfl, ?_⟩))))⟩, by omega⟩
  rw [decide_eq_true hyh] at hA
  have hl1 : leftL q h x.un = [plain x.n (x.bs.map MB.un) (leftC q x.un.cs)] := by unfold leftL; rw [hof]; exact if_pos hyh
  rw [hl1] at hsn
  repeat' (first | (first | (refine GT ?_ ?_ <;> intro hg <;> clear hA a <;> intro a hA <;> (first | exact FA | replace hg := of_decide_eq_true hg | replace hg := of_decide_eq_false hg | skip)) | (refine QT ?_; clear hA a; intro a hA) | (first | (refine BT ?_; clear hA hH; rintro _ w ⟨bN, rfl, hH⟩ a hA) | (refine LT ?_; clear hA hH; rintro _ w ⟨oN, rfl, hH⟩ a hA) | (refine AT ?_; clear hA; rintro _ w ⟨oN, cN, rfl, hH2⟩ a hA; clear hH; have hH := (hH2 _ (by (repeat constructor))).tail; clear hH2) | (refine S0T ?_; clear hH; rintro _ w hH) )) | ((first | refine CT ?_ | (refine DT ?_ ?_ <;> intro hc <;> try (exfalso; omega))) <;> repeat' refine CT ?_) | (first | (refine DSK ?_; clear hA a; intro a hA) | (first | (refine DLT ?_; clear hA hH; rintro _ w ⟨oN, rfl, hH⟩; refine ⟨STT, ?_⟩; intro a hA) | (refine DAT ?_; clear hA; rintro _ w ⟨oN, cN, rfl, hH2⟩; clear hH; have hH := (hH2 _ (by (repeat constructor))).tail; clear hH2; refine ⟨STT, ?_⟩; intro a hA))) )
  (refine wp_draw2_HS [(0, 1), (1, 1), (2, 1), (3, 1), (4, 1), (5, 1), (6, 1), (7, 1), (8, 1), (9, 1), (10, 1), (11, 0)] [12] mixed (by decide +kernel) hH ?_; replace hH := hH.drew)
  repeat' (first | (first | (refine GT ?_ ?_ <;> intro hg <;> clear hA a <;> intro a hA <;> (first | exact FA | replace hg := of_decide_eq_true hg | replace hg := of_decide_eq_false hg | skip)) | ((first | apply st_ex hA hH rfl rfl (by decide) | apply dr_ex hA rfl rfl rfl (by decide) | apply dr_exp hA rfl rfl rfl (by decide) | apply dr_ex3 hA hH rfl rfl rfl (by decide)); (first | (apply ex_load; rfl; exact cl_frz MEMT hrL2 hvs0) | (apply ex_load; rfl; exact cl_frz MEMT hrL2 hvs2) | (apply ex_build_p #[.int .i64 x.n, .slice none 0 0, .slice x.ob x.bs.length x.cb]; rfl; (repeat (first | (intro _ h; exact absurd h (List.not_mem_nil)) | (refine List.forall_mem_cons.2 ⟨one_cell_of _ _, ?_⟩))); rfl)); clear hA a; intro a hA) | (refine QT ?_; clear hA a; intro a hA) | (first | (refine BT ?_; clear hA hH; rintro _ w ⟨bN, rfl, hH⟩ a hA) | (refine LT ?_; clear hA hH; rintro _ w ⟨oN, rfl, hH⟩ a hA) | (refine AT ?_; clear hA; rintro _ w ⟨oN, cN, rfl, hH2⟩ a hA; clear hH; have hH := (hH2 _ (by (repeat constructor))).tail; clear hH2) | (refine S0T ?_; clear hH; rintro _ w hH) )) | ((first | refine CT ?_ | (refine DT ?_ ?_ <;> intro hc <;> try (exfalso; omega))) <;> repeat' refine CT ?_) | (first | (refine DSK ?_; clear hA a; intro a hA) | (first | (refine DLT ?_; clear hA hH; rintro _ w ⟨oN, rfl, hH⟩; refine ⟨STT, ?_⟩; intro a hA) | (refine DAT ?_; clear hA; rintro _ w ⟨oN, cN, rfl, hH2⟩; clear hH; have hH := (hH2 _ (by (repeat constructor))).tail; clear hH2; refine ⟨STT, ?_⟩; intro a hA))) )
  (apply dr_op hA rfl rfl rfl (by decide); apply op_alloc; exact hH; clear hA hH; rintro _ w ⟨b11, rfl, hH⟩; refine ⟨hH.tail, ?_⟩; intro a hA)
  repeat' (first | (first | (refine GT ?_ ?_ <;> intro hg <;> clear hA a <;> intro a hA <;> (first | exact FA | replace hg := of_decide_eq_true hg | replace hg := of_decide_eq_false hg | skip)) | (refine QT ?_; clear hA a; intro a hA) | (first | (refine BT ?_; clear hA hH; rintro _ w ⟨bN, rfl, hH⟩ a hA) | (refine LT ?_; clear hA hH; rintro _ w ⟨oN, rfl, hH⟩ a hA) | (refine AT ?_; clear hA; rintro _ w ⟨oN, cN, rfl, hH2⟩ a hA; clear hH; have hH := (hH2 _ (by (repeat constructor))).tail; clear hH2) | (refine S0T ?_; clear hH; rintro _ w hH) )) | ((first | refine CT ?_ | (refine DT ?_ ?_ <;> intro hc <;> try (exfalso; omega))) <;> repeat' refine CT ?_) | (first | (refine DSK ?_; clear hA a; intro a hA) | (first | (refine DLT ?_; clear hA hH; rintro _ w ⟨oN, rfl, hH⟩; refine ⟨STT, ?_⟩; intro a hA) | (refine DAT ?_; clear hA; rintro _ w ⟨oN, cN, rfl, hH2⟩; clear hH; have hH := (hH2 _ (by (repeat constructor))).tail; clear hH2; refine ⟨STT, ?_⟩; intro a hA))) )
  (apply dr_op03 hA rfl rfl rfl; apply op_store_agg (vs := [.int .i64 x.n, .slice none 0 0, .slice x.ob x.bs.length x.cb]); rfl; rfl; exact hH; (repeat constructor); (repeat rfl); clear hH; rintro _ w hH)
  repeat' (first | (first | (refine GT ?_ ?_ <;> intro hg <;> clear hA a <;> intro a hA <;> (first | exact FA | replace hg := of_decide_eq_true hg | replace hg := of_decide_eq_false hg | skip)) | (refine QT ?_; clear hA a; intro a hA) | (first | (refine BT ?_; clear hA hH; rintro _ w ⟨bN, rfl, hH⟩ a hA) | (refine LT ?_; clear hA hH; rintro _ w ⟨oN, rfl, hH⟩ a hA) | (refine AT ?_; clear hA; rintro _ w ⟨oN, cN, rfl, hH2⟩ a hA; clear hH; have hH := (hH2 _ (by (repeat constructor))).tail; clear hH2) | (refine S0T ?_; clear hH; rintro _ w hH) )) | ((first | refine CT ?_ | (refine DT ?_ ?_ <;> intro hc <;> try (exfalso; omega))) <;> repeat' refine CT ?_) | (first | (refine DSK ?_; clear hA a; intro a hA) | (first | (refine DLT ?_; clear hA hH; rintro _ w ⟨oN, rfl, hH⟩; refine ⟨STT, ?_⟩; intro a hA) | (refine DAT ?_; clear hA; rintro _ w ⟨oN, cN, rfl, hH2⟩; clear hH; have hH := (hH2 _ (by (repeat constructor))).tail; clear hH2; refine ⟨STT, ?_⟩; intro a hA))) )
  have hspC : Sp x.oc x.cs.length := (hRx _ (hH.frz (by exact MEMT))).1.1.sp (sz := 7) (flat_length encC_len x.cs) (by omega)
  have hrC : ∀ w, K' w → Rd w x.oc (flat encC x.cs) := fun w h => (hRx w h).1.1
  refine wp_lpk (S := Nat) (fun k a w => ∃ (K2 : World → Prop) (oc : Option Addr) (cx : Nat) (nc : List MC), (k ≤ x.cs.length ∧ (∀ w, K2 w → K' w ∧ ∀ c ∈ nc, RdC w c) ∧ nc.map MC.un = leftC q ((x.cs.take k).map MC.un)) ∧
      HS w0 noM (Go.Fw.cb b11 64 [.int .i64 x.n, .slice oc nc.length cx, .slice x.ob x.bs.length x.cb] :: own 67 7 oc nc.length cx (flat encC nc) :: own 64 3 oo lo.length co (flat encL lo) :: frz w0 K2 :: Go.Fw.cb b5 38 [.int .i64 h.ap.k, .int .i64 h.ap.v, .int .i64 h.ap.n, .string h.ap.s, .slice h.ap.ol h.ap.ls.length h.ap.cl, .slice h.ap.oa h.ap.ps.length h.ap.ca] :: H) w ∧ Sl 108 [(0, .slice o l.length c), (1, .slice oq q.length cq), (5, .pointer (some (bat b5 0))), (7, .slice oo lo.length co), (8, .int .i64 i), (11, .pointer (some (bat b11 0))), (12, .int .i64 k)] a)
    (fun k => x.cs.length - k)
    (fun a w => ∃ (K2 : World → Prop) (oc : Option Addr) (cx : Nat) (nc : List MC), ((∀ w, K2 w → K' w ∧ ∀ c ∈ nc, RdC w c) ∧ nc.map MC.un = leftC q x.un.cs) ∧
      HS w0 noM (Go.Fw.cb b11 64 [.int .i64 x.n, .slice oc nc.length cx, .slice x.ob x.bs.length x.cb] :: own 67 7 oc nc.length cx (flat encC nc) :: own 64 3 oo lo.length co (flat encL lo) :: frz w0 K2 :: Go.Fw.cb b5 38 [.int .i64 h.ap.k, .int .i64 h.ap.v, .int .i64 h.ap.n, .string h.ap.s, .slice h.ap.ol h.ap.ls.length h.ap.cl, .slice h.ap.oa h.ap.ps.length h.ap.ca] :: H) w ∧ Sl 108 [(0, .slice o l.length c), (1, .slice oq q.length cq), (5, .pointer (some (bat b5 0))), (7, .slice oo lo.length co), (8, .int .i64 i), (11, .pointer (some (bat b11 0)))] a) 0
    ⟨K', none, 0, [], ⟨Nat.zero_le _, fun w hK => ⟨hK, fun m h => absurd h List.not_mem_nil⟩, by rw [List.take_zero]; exact (leftC_nil q).symm⟩, ((hH.er 1).nil_flat encC 67 7).perm (by (repeat (first | exact List.Perm.refl _ | exact List.Perm.nil | refine perm_pick 0 rfl ?_ | refine perm_pick 1 rfl ?_ | refine perm_pick 2 rfl ?_ | refine perm_pick 3 rfl ?_ | refine perm_pick 4 rfl ?_ | refine perm_pick 5 rfl ?_ | refine perm_pick 6 rfl ?_ | refine perm_pick 7 rfl ?_ | refine perm_pick 8 rfl ?_ | refine perm_pick 9 rfl ?_ | refine perm_pick 10 rfl ?_ | refine perm_pick 11 rfl ?_))), (hA.sub (by (repeat (first | exact trivial | refine ⟨rfl, ?_⟩))))⟩ ?_ ?_
  · clear hA hH
    rintro k a w ⟨K2, oc, cx, nc, ⟨hkl, hK2, hnc⟩, hH, hA⟩
    have hrL3 : ∀ w, K2 w → Rd w o (flat encL l) := fun w h => hrL2 w (hK2 w h).1
    by_cases hlk : k < x.cs.length
    rotate_left
    · obtain rfl : k = x.cs.length := by omega
      rw [List.take_length] at hnc
      repeat' (first | (first | (refine GT ?_ ?_ <;> intro hg <;> clear hA a <;> intro a hA <;> (first | exact FA | replace hg := of_decide_eq_true hg | replace hg := of_decide_eq_false hg | skip)) | ((first | apply st_ex hA hH rfl rfl (by decide) | apply dr_ex hA rfl rfl rfl (by decide) | apply dr_exp hA rfl rfl rfl (by decide) | apply dr_ex3 hA hH rfl rfl rfl (by decide)); (first | (apply ex_load; rfl; exact cl_frz MEMT hrL3 hvs1)); clear hA a; intro a hA) | (refine QT ?_; clear hA a; intro a hA) | (first | (refine BT ?_; clear hA hH; rintro _ w ⟨bN, rfl, hH⟩ a hA) | (refine LT ?_; clear hA hH; rintro _ w ⟨oN, rfl, hH⟩ a hA) | (refine AT ?_; clear hA; rintro _ w ⟨oN, cN, rfl, hH2⟩ a hA; clear hH; have hH := (hH2 _ (by (repeat constructor))).tail; clear hH2) | (refine S0T ?_; clear hH; rintro _ w hH) )) | ((first | refine CT ?_ | (refine DT ?_ ?_ <;> intro hc <;> try (exfalso; omega))) <;> repeat' refine CT ?_) | (first | (refine DSK ?_; clear hA a; intro a hA) | (first | (refine DLT ?_; clear hA hH; rintro _ w ⟨oN, rfl, hH⟩; refine ⟨STT, ?_⟩; intro a hA) | (refine DAT ?_; clear hA; rintro _ w ⟨oN, cN, rfl, hH2⟩; clear hH; have hH := (hH2 _ (by (repeat constructor))).tail; clear hH2; refine ⟨STT, ?_⟩; intro a hA))) )
      exact ⟨K2, oc, cx, nc, ⟨hK2, hnc⟩, hH, (hA.sub (by (repeat (first | exact trivial | refine ⟨rfl, ?_⟩))))⟩
    obtain ⟨z, hz⟩ : ∃ z, x.cs[k]? = some z := ⟨_, List.getElem?_eq_getElem hlk⟩
    have hzm := List.mem_of_getElem? hz
    have hzs := flat_all encC_len hz
    rw [encC_eq] at hzs
    have hrC2 : ∀ w, K2 w → Rd w x.oc (flat encC x.cs) := fun w h => hrC w (hK2 w h).1
    have hRz : ∀ w, K2 w → RdC w z := fun w h => (hRx w (hK2 w h).1).1.2.2.2 z hzm
    have hls := leftC_snoc q ((x.cs.take k).map MC.un) z.un
    have hzu : (x.cs.take (k + 1)).map MC.un = (x.cs.take k).map MC.un ++ [z.un] := by rw [take_next hz, List.map_append]; rfl
    rw [← hzu] at hls
    have hncl : nc.length ≤ 256 := by
      have e1 := congrArg List.length hnc
      rw [List.length_map] at e1
      have := leftC_len q ((x.cs.take k).map MC.un)
      rw [List.length_map, List.length_take] at this
      omega
    have hzq := hcq z hzm
    repeat' (first | (first | (refine GT ?_ ?_ <;> intro hg <;> clear hA a <;> intro a hA <;> (first | exact FA | replace hg := of_decide_eq_true hg | replace hg := of_decide_eq_false hg | skip)) | ((first | apply st_ex hA hH rfl rfl (by decide) | apply dr_ex hA rfl rfl rfl (by decide) | apply dr_exp hA rfl rfl rfl (by decide) | apply dr_ex3 hA hH rfl rfl rfl (by decide)); (first | (apply ex_load; rfl; exact cl_frz MEMT hrL3 hvs1) | (apply ex_load_st (vs := [.slice z.o z.q.length z.c, .int .i64 z.p.k, .int .i64 z.p.v, .int .i64 z.p.n, .string z.p.s, .slice z.p.ol z.p.ls.length z.p.cl, .slice z.p.oa z.p.ps.length z.p.ca]); rfl; rfl; exact cls_frz MEMT hrC2 hzs)); clear hA a; intro a hA) | (refine QT ?_; clear hA a; intro a hA) | (first | (refine BT ?_; clear hA hH; rintro _ w ⟨bN, rfl, hH⟩ a hA) | (refine LT ?_; clear hA hH; rintro _ w ⟨oN, rfl, hH⟩ a hA) | (refine AT ?_; clear hA; rintro _ w ⟨oN, cN, rfl, hH2⟩ a hA; clear hH; have hH := (hH2 _ (by (repeat constructor))).tail; clear hH2) | (refine S0T ?_; clear hH; rintro _ w hH) | (apply st_op0 hA rfl rfl; apply op_store_agg (vs := [.slice z.o z.q.length z.c, .int .i64 z.p.k, .int .i64 z.p.v, .int .i64 z.p.n, .string z.p.s, .slice z.p.ol z.p.ls.length z.p.cl, .slice z.p.oa z.p.ps.length z.p.ca]); rfl; rfl; exact hH; (repeat constructor); (repeat rfl); clear hH; rintro _ w hH))) | ((first | refine CT ?_ | (refine DT ?_ ?_ <;> intro hc <;> try (exfalso; omega))) <;> repeat' refine CT ?_) | (first | (refine DSK ?_; clear hA a; intro a hA) | (first | (refine DLT ?_; clear hA hH; rintro _ w ⟨oN, rfl, hH⟩; refine ⟨STT, ?_⟩; intro a hA) | (refine DAT ?_; clear hA; rintro _ w ⟨oN, cN, rfl, hH2⟩; clear hH; have hH := (hH2 _ (by (repeat constructor))).tail; clear hH2; refine ⟨STT, ?_⟩; intro a hA))) )
    obtain ⟨b13, hb13⟩ : ∃ b, b = bN := ⟨_, rfl⟩
    rw [← hb13] at hA hH
    clear hb13 bN
    (refine st_op hA rfl rfl (by decide) (op_call rfl rfl rfl (sameX_spec _ z.o oq z.c cq z.q q ((hRz _ (hH.frz (by exact MEMT))).1.1) ((hRq _ (hK2 _ (hH.frz (by exact MEMT))).1).1) (by omega))) ?_; clear hA; rintro _ w ⟨rfl, hk⟩ a hA; replace hH := hH.keep hk; clear hk)
    by_cases hzq2 : z.q = q
    rotate_left
    · rw [decide_eq_false hzq2] at hA
      rw [if_neg (show ¬ z.un.1 = q from hzq2)] at hls
      repeat' (first | (first | (refine GT ?_ ?_ <;> intro hg <;> clear hA a <;> intro a hA <;> (first | exact FA | replace hg := of_decide_eq_true hg | replace hg := of_decide_eq_false hg | skip)) | (refine QT ?_; clear hA a; intro a hA) | (first | (refine BT ?_; clear hA hH; rintro _ w ⟨bN, rfl, hH⟩ a hA) | (refine LT ?_; clear hA hH; rintro _ w ⟨oN, rfl, hH⟩ a hA) | (refine AT ?_; clear hA; rintro _ w ⟨oN, cN, rfl, hH2⟩ a hA; clear hH; have hH := (hH2 _ (by (repeat constructor))).tail; clear hH2) | (refine S0T ?_; clear hH; rintro _ w hH) )) | ((first | refine CT ?_ | (refine DT ?_ ?_ <;> intro hc <;> try (exfalso; omega))) <;> repeat' refine CT ?_) | (first | (refine DSK ?_; clear hA a; intro a hA) | (first | (refine DLT ?_; clear hA hH; rintro _ w ⟨oN, rfl, hH⟩; refine ⟨STT, ?_⟩; intro a hA) | (refine DAT ?_; clear hA; rintro _ w ⟨oN, cN, rfl, hH2⟩; clear hH; have hH := (hH2 _ (by (repeat constructor))).tail; clear hH2; refine ⟨STT, ?_⟩; intro a hA))) )
      (apply st_op hA rfl rfl (by decide); apply op_sliceLit (xs := [.slice z.o z.q.length z.c, .int .i64 z.p.k, .int .i64 z.p.v, .int .i64 z.p.n, .string z.p.s, .slice z.p.ol z.p.ls.length z.p.cl, .slice z.p.oa z.p.ps.length z.p.ca]) (vs := [.agg #[.slice z.o z.q.length z.c, .int .i64 z.p.k, .int .i64 z.p.v, .int .i64 z.p.n, .string z.p.s, .slice z.p.ol z.p.ls.length z.p.cl, .slice z.p.oa z.p.ps.length z.p.ca]]); rfl; rfl; exact (Cats.cn (cs := [.slice z.o z.q.length z.c, .int .i64 z.p.k, .int .i64 z.p.v, .int .i64 z.p.n, .string z.p.s, .slice z.p.ol z.p.ls.length z.p.cl, .slice z.p.oa z.p.ps.length z.p.ca]) Cats.nil); rfl; rfl; rfl; exact hH; clear hA hH; rintro _ w ⟨oN, rfl, hH⟩ a hA)
      repeat' (first | (first | (refine GT ?_ ?_ <;> intro hg <;> clear hA a <;> intro a hA <;> (first | exact FA | replace hg := of_decide_eq_true hg | replace hg := of_decide_eq_false hg | skip)) | (refine QT ?_; clear hA a; intro a hA) | (first | (refine BT ?_; clear hA hH; rintro _ w ⟨bN, rfl, hH⟩ a hA) | (refine LT ?_; clear hA hH; rintro _ w ⟨oN, rfl, hH⟩ a hA) | (refine AT ?_; clear hA; rintro _ w ⟨oN, cN, rfl, hH2⟩ a hA; clear hH; have hH := (hH2 _ (by (repeat constructor))).tail; clear hH2) | (refine S0T ?_; clear hH; rintro _ w hH) )) | ((first | refine CT ?_ | (refine DT ?_ ?_ <;> intro hc <;> try (exfalso; omega))) <;> repeat' refine CT ?_) | (first | (refine DSK ?_; clear hA a; intro a hA) | (first | (refine DLT ?_; clear hA hH; rintro _ w ⟨oN, rfl, hH⟩; refine ⟨STT, ?_⟩; intro a hA) | (refine DAT ?_; clear hA; rintro _ w ⟨oN, cN, rfl, hH2⟩; clear hH; have hH := (hH2 _ (by (repeat constructor))).tail; clear hH2; refine ⟨STT, ?_⟩; intro a hA))) )
      (apply st_op0 hA rfl rfl; apply op_store_fld (cs' := [.int .i64 x.n, .slice oN (nc.length + 1) cN, .slice x.ob x.bs.length x.cb]); rfl; rfl; rfl; exact hH; (repeat constructor); clear hH; rintro _ w hH)
      repeat' (first | (first | (refine GT ?_ ?_ <;> intro hg <;> clear hA a <;> intro a hA <;> (first | exact FA | replace hg := of_decide_eq_true hg | replace hg := of_decide_eq_false hg | skip)) | (refine QT ?_; clear hA a; intro a hA) | (first | (refine BT ?_; clear hA hH; rintro _ w ⟨bN, rfl, hH⟩ a hA) | (refine LT ?_; clear hA hH; rintro _ w ⟨oN, rfl, hH⟩ a hA) | (refine AT ?_; clear hA; rintro _ w ⟨oN, cN, rfl, hH2⟩ a hA; clear hH; have hH := (hH2 _ (by (repeat constructor))).tail; clear hH2) | (refine S0T ?_; clear hH; rintro _ w hH) )) | ((first | refine CT ?_ | (refine DT ?_ ?_ <;> intro hc <;> try (exfalso; omega))) <;> repeat' refine CT ?_) | (first | (refine DSK ?_; clear hA a; intro a hA) | (first | (refine DLT ?_; clear hA hH; rintro _ w ⟨oN, rfl, hH⟩; refine ⟨STT, ?_⟩; intro a hA) | (refine DAT ?_; clear hA; rintro _ w ⟨oN, cN, rfl, hH2⟩; clear hH; have hH := (hH2 _ (by (repeat constructor))).tail; clear hH2; refine ⟨STT, ?_⟩; intro a hA))) )
      rw [← encC_eq, ← flat_snoc, ← len_snoc nc z] at hH
      exact ⟨k + 1, ⟨K2, oN, cN, nc ++ [z], ⟨hlk, fun w hw => ⟨(hK2 w hw).1, fun m hm => by
        rcases List.mem_append.1 hm with hm | hm
        · exact (hK2 w hw).2 m hm
        · rw [List.mem_singleton] at hm; subst hm; exact hRz w hw⟩, by rw [hls, List.map_append, hnc]; rfl⟩, hH.er 0, (hA.sub (by (repeat (first | exact trivial | refine ⟨rfl, ?_⟩))))⟩, by omega⟩
    rw [decide_eq_true hzq2] at hA
    rw [if_pos (show z.un.1 = q from hzq2)] at hls
    repeat' (first | (first | (refine GT ?_ ?_ <;> intro hg <;> clear hA a <;> intro a hA <;> (first | exact FA | replace hg := of_decide_eq_true hg | replace hg := of_decide_eq_false hg | skip)) | (refine QT ?_; clear hA a; intro a hA) | (first | (refine BT ?_; clear hA hH; rintro _ w ⟨bN, rfl, hH⟩ a hA) | (refine LT ?_; clear hA hH; rintro _ w ⟨oN, rfl, hH⟩ a hA) | (refine AT ?_; clear hA; rintro _ w ⟨oN, cN, rfl, hH2⟩ a hA; clear hH; have hH := (hH2 _ (by (repeat constructor))).tail; clear hH2) | (refine S0T ?_; clear hH; rintro _ w hH) )) | ((first | refine CT ?_ | (refine DT ?_ ?_ <;> intro hc <;> try (exfalso; omega))) <;> repeat' refine CT ?_) | (first | (refine DSK ?_; clear hA a; intro a hA) | (first | (refine DLT ?_; clear hA hH; rintro _ w ⟨oN, rfl, hH⟩; refine ⟨STT, ?_⟩; intro a hA) | (refine DAT ?_; clear hA; rintro _ w ⟨oN, cN, rfl, hH2⟩; clear hH; have hH := (hH2 _ (by (repeat constructor))).tail; clear hH2; refine ⟨STT, ?_⟩; intro a hA))) )
    · have h8 : z.p.k = 8 := by assumption
      have hz1 := (form_k (hcf z hzm)).1 h8
      obtain ⟨arg, harg⟩ : ∃ a, z.p.ps = [a] := by
        match hps : z.p.ps with
        | [a] => exact ⟨a, rfl⟩
        | [] => rw [hps] at hz1; simp at hz1
        | _ :: _ :: _ => rw [hps] at hz1; simp at hz1
      have hst : step q z.un = [(q ++ [emp], arg)] := by
        unfold step
        rw [if_pos (show z.un.2.k = 8 from h8)]
        show (match z.p.ps with | a :: _ => [(q ++ [emp], a)] | [] => []) = _
        rw [harg]
      rw [hst] at hls
      have hAa : ∀ w, K2 w → Rd w z.p.oa (flat encA z.p.ps) := fun w h => (hRz w h).2.a
      have hav := flat_all encA_len (l := z.p.ps) (i := 0) (x := arg) (by rw [harg]; rfl)
      rw [encA_eq] at hav
      have hspA : Sp z.p.oa z.p.ps.length := (hAa _ (hH.frz (by exact MEMT))).sp (sz := 6) (flat_length encA_len z.p.ps) (by omega)
      (refine wp_draw2_HS (H := [Go.Fw.cb b11 64 [.int .i64 x.n, .slice oc nc.length cx, .slice x.ob x.bs.length x.cb], Go.Fw.cb b13 67 [.slice z.o z.q.length z.c, .int .i64 z.p.k, .int .i64 z.p.v, .int .i64 z.p.n, .string z.p.s, .slice z.p.ol z.p.ls.length z.p.cl, .slice z.p.oa z.p.ps.length z.p.ca], frz w0 K2]) [(0, 1), (1, 1), (2, 1), (4, 1), (5, 1), (6, 1), (7, 1), (8, 1), (3, 0), (9, 2), (10, 0), (11, 0), (12, 2)] [13] mixed (by decide +kernel) (hH.three 1 0 2 rfl rfl rfl) ?_; replace hH := hH.drew)
      repeat' (first | (first | (refine GT ?_ ?_ <;> intro hg <;> clear hA a <;> intro a hA <;> (first | exact FA | replace hg := of_decide_eq_true hg | replace hg := of_decide_eq_false hg | skip)) | ((first | apply st_ex hA hH rfl rfl (by decide) | apply dr_ex hA rfl rfl rfl (by decide) | apply dr_exp hA rfl rfl rfl (by decide) | apply dr_ex3 hA hH rfl rfl rfl (by decide)); (first | (apply ex_load_st (vs := [.int .i64 arg.k, .int .i64 arg.v, .int .i64 arg.n, .string arg.s, .slice arg.ol arg.ls.length arg.cl, .slice arg.oa arg.ps.length arg.ca]); rfl; rfl; exact cls_frz MEMT hAa hav)); clear hA a; intro a hA) | (refine QT ?_; clear hA a; intro a hA) | (first | (refine BT ?_; clear hA hH; rintro _ w ⟨bN, rfl, hH⟩ a hA) | (refine LT ?_; clear hA hH; rintro _ w ⟨oN, rfl, hH⟩ a hA) | (refine AT ?_; clear hA; rintro _ w ⟨oN, cN, rfl, hH2⟩ a hA; clear hH; have hH := (hH2 _ (by (repeat constructor))).tail; clear hH2) | (refine S0T ?_; clear hH; rintro _ w hH) )) | ((first | refine CT ?_ | (refine DT ?_ ?_ <;> intro hc <;> try (exfalso; omega))) <;> repeat' refine CT ?_) | (first | (refine DSK ?_; clear hA a; intro a hA) | (first | (refine DLT ?_; clear hA hH; rintro _ w ⟨oN, rfl, hH⟩; refine ⟨STT, ?_⟩; intro a hA) | (refine DAT ?_; clear hA; rintro _ w ⟨oN, cN, rfl, hH2⟩; clear hH; have hH := (hH2 _ (by (repeat constructor))).tail; clear hH2; refine ⟨STT, ?_⟩; intro a hA))) )
      (refine dr_op hA rfl rfl rfl (by decide) (op_call rfl rfl rfl (longer_spec _ oq cq q emp ((hRq _ (hK2 _ (hH.frz (by exact MEMT))).1)) (by omega))) ?_; clear hA; rintro _ w ⟨o2, c2, rfl, hj⟩; refine ⟨by replace hH := hH.join hj; exact hH.three 2 1 3 rfl rfl rfl, ?_⟩; intro a hA)
      replace hH := hH.join hj
      clear hj
      have hle2 := hH.own_le (.head _)
      repeat' (first | (first | (refine GT ?_ ?_ <;> intro hg <;> clear hA a <;> intro a hA <;> (first | exact FA | replace hg := of_decide_eq_true hg | replace hg := of_decide_eq_false hg | skip)) | ((first | apply st_ex hA hH rfl rfl (by decide) | apply dr_ex hA rfl rfl rfl (by decide) | apply dr_exp hA rfl rfl rfl (by decide) | apply dr_ex3 hA hH rfl rfl rfl (by decide)); (first | (apply ex_build_12 (us := [.int .i64 arg.k, .int .i64 arg.v, .int .i64 arg.n, .string arg.s, .slice arg.ol arg.ls.length arg.cl, .slice arg.oa arg.ps.length arg.ca]); rfl; rfl; rfl; rfl; rfl; exact ⟨size_of _ _ _, size_of _ _ _, trivial⟩)); clear hA a; intro a hA) | (refine QT ?_; clear hA a; intro a hA) | (first | (refine BT ?_; clear hA hH; rintro _ w ⟨bN, rfl, hH⟩ a hA) | (refine LT ?_; clear hA hH; rintro _ w ⟨oN, rfl, hH⟩ a hA) | (refine AT ?_; clear hA; rintro _ w ⟨oN, cN, rfl, hH2⟩ a hA; clear hH; have hH := (hH2 _ (by (repeat constructor))).tail; clear hH2) | (refine S0T ?_; clear hH; rintro _ w hH) )) | ((first | refine CT ?_ | (refine DT ?_ ?_ <;> intro hc <;> try (exfalso; omega))) <;> repeat' refine CT ?_) | (first | (refine DSK ?_; clear hA a; intro a hA) | (first | (refine DLT ?_; clear hA hH; rintro _ w ⟨oN, rfl, hH⟩; refine ⟨STT, ?_⟩; intro a hA) | (refine DAT ?_; clear hA; rintro _ w ⟨oN, cN, rfl, hH2⟩; clear hH; have hH := (hH2 _ (by (repeat constructor))).tail; clear hH2; refine ⟨STT, ?_⟩; intro a hA))) )
      (apply dr_op hA rfl rfl rfl (by decide); apply op_sliceLit (xs := [.slice (MC.mk o2 c2 (q ++ [emp]) arg).o (MC.mk o2 c2 (q ++ [emp]) arg).q.length (MC.mk o2 c2 (q ++ [emp]) arg).c, .int .i64 (MC.mk o2 c2 (q ++ [emp]) arg).p.k, .int .i64 (MC.mk o2 c2 (q ++ [emp]) arg).p.v, .int .i64 (MC.mk o2 c2 (q ++ [emp]) arg).p.n, .string (MC.mk o2 c2 (q ++ [emp]) arg).p.s, .slice (MC.mk o2 c2 (q ++ [emp]) arg).p.ol (MC.mk o2 c2 (q ++ [emp]) arg).p.ls.length (MC.mk o2 c2 (q ++ [emp]) arg).p.cl, .slice (MC.mk o2 c2 (q ++ [emp]) arg).p.oa (MC.mk o2 c2 (q ++ [emp]) arg).p.ps.length (MC.mk o2 c2 (q ++ [emp]) arg).p.ca]) (vs := [.agg #[.slice (MC.mk o2 c2 (q ++ [emp]) arg).o (MC.mk o2 c2 (q ++ [emp]) arg).q.length (MC.mk o2 c2 (q ++ [emp]) arg).c, .int .i64 (MC.mk o2 c2 (q ++ [emp]) arg).p.k, .int .i64 (MC.mk o2 c2 (q ++ [emp]) arg).p.v, .int .i64 (MC.mk o2 c2 (q ++ [emp]) arg).p.n, .string (MC.mk o2 c2 (q ++ [emp]) arg).p.s, .slice (MC.mk o2 c2 (q ++ [emp]) arg).p.ol (MC.mk o2 c2 (q ++ [emp]) arg).p.ls.length (MC.mk o2 c2 (q ++ [emp]) arg).p.cl, .slice (MC.mk o2 c2 (q ++ [emp]) arg).p.oa (MC.mk o2 c2 (q ++ [emp]) arg).p.ps.length (MC.mk o2 c2 (q ++ [emp]) arg).p.ca]]); rfl; rfl; exact (Cats.cn (cs := [.slice (MC.mk o2 c2 (q ++ [emp]) arg).o (MC.mk o2 c2 (q ++ [emp]) arg).q.length (MC.mk o2 c2 (q ++ [emp]) arg).c, .int .i64 (MC.mk o2 c2 (q ++ [emp]) arg).p.k, .int .i64 (MC.mk o2 c2 (q ++ [emp]) arg).p.v, .int .i64 (MC.mk o2 c2 (q ++ [emp]) arg).p.n, .string (MC.mk o2 c2 (q ++ [emp]) arg).p.s, .slice (MC.mk o2 c2 (q ++ [emp]) arg).p.ol (MC.mk o2 c2 (q ++ [emp]) arg).p.ls.length (MC.mk o2 c2 (q ++ [emp]) arg).p.cl, .slice (MC.mk o2 c2 (q ++ [emp]) arg).p.oa (MC.mk o2 c2 (q ++ [emp]) arg).p.ps.length (MC.mk o2 c2 (q ++ [emp]) arg).p.ca]) Cats.nil); rfl; rfl; rfl; exact hH; clear hA hH; rintro _ w ⟨oN, rfl, hH⟩; refine ⟨hH.three 3 2 4 rfl rfl rfl, ?_⟩; intro a hA)
      (apply dr_op hA rfl rfl rfl (by decide); apply op_append; rfl; rfl; exact hH; exact MEMT; exact (hH.own_rd (List.Mem.head _)); exact rfl; rfl; decide; exact rfl; (unfold maxLen; omega); omega; clear hA; rintro _ w ⟨oN, cN, rfl, hH2⟩; clear hH; have hH := hH2 _ (by (repeat constructor)); clear hH2; refine ⟨hH.three 3 2 4 rfl rfl rfl, ?_⟩; intro a hA)
      repeat' (first | (first | (refine GT ?_ ?_ <;> intro hg <;> clear hA a <;> intro a hA <;> (first | exact FA | replace hg := of_decide_eq_true hg | replace hg := of_decide_eq_false hg | skip)) | (refine QT ?_; clear hA a; intro a hA) | (first | (refine BT ?_; clear hA hH; rintro _ w ⟨bN, rfl, hH⟩ a hA) | (refine LT ?_; clear hA hH; rintro _ w ⟨oN, rfl, hH⟩ a hA) | (refine AT ?_; clear hA; rintro _ w ⟨oN, cN, rfl, hH2⟩ a hA; clear hH; have hH := (hH2 _ (by (repeat constructor))).tail; clear hH2) | (refine S0T ?_; clear hH; rintro _ w hH) )) | ((first | refine CT ?_ | (refine DT ?_ ?_ <;> intro hc <;> try (exfalso; omega))) <;> repeat' refine CT ?_) | (first | (refine DSK ?_; clear hA a; intro a hA) | (first | (refine DLT ?_; clear hA hH; rintro _ w ⟨oN, rfl, hH⟩; refine ⟨STT, ?_⟩; intro a hA) | (refine DAT ?_; clear hA; rintro _ w ⟨oN, cN, rfl, hH2⟩; clear hH; have hH := (hH2 _ (by (repeat constructor))).tail; clear hH2; refine ⟨STT, ?_⟩; intro a hA))) )
      (apply dr_op03 hA rfl rfl rfl; apply op_store_fld (cs' := [.int .i64 x.n, .slice oN (nc.length + 1) cN, .slice x.ob x.bs.length x.cb]); rfl; rfl; rfl; exact hH; (repeat constructor); clear hH; rintro _ w hH)
      rw [← encC_eq, ← flat_snoc, ← len_snoc nc (MC.mk o2 c2 (q ++ [emp]) arg)] at hH
      repeat' (first | (first | (refine GT ?_ ?_ <;> intro hg <;> clear hA a <;> intro a hA <;> (first | exact FA | replace hg := of_decide_eq_true hg | replace hg := of_decide_eq_false hg | skip)) | (refine QT ?_; clear hA a; intro a hA) | (first | (refine BT ?_; clear hA hH; rintro _ w ⟨bN, rfl, hH⟩ a hA) | (refine LT ?_; clear hA hH; rintro _ w ⟨oN, rfl, hH⟩ a hA) | (refine AT ?_; clear hA; rintro _ w ⟨oN, cN, rfl, hH2⟩ a hA; clear hH; have hH := (hH2 _ (by (repeat constructor))).tail; clear hH2) | (refine S0T ?_; clear hH; rintro _ w hH) )) | ((first | refine CT ?_ | (refine DT ?_ ?_ <;> intro hc <;> try (exfalso; omega))) <;> repeat' refine CT ?_) | (first | (refine DSK ?_; clear hA a; intro a hA) | (first | (refine DLT ?_; clear hA hH; rintro _ w ⟨oN, rfl, hH⟩; refine ⟨STT, ?_⟩; intro a hA) | (refine DAT ?_; clear hA; rintro _ w ⟨oN, cN, rfl, hH2⟩; clear hH; have hH := (hH2 _ (by (repeat constructor))).tail; clear hH2; refine ⟨STT, ?_⟩; intro a hA))) )
      refine ⟨k + 1, ⟨_, oN, cN, nc ++ [MC.mk o2 c2 (q ++ [emp]) arg], ⟨hlk, ?_, by rw [hls, List.map_append, hnc]; rfl⟩, (((((hH.er 0).er 1).pk 4 rfl).pk 1 rfl).frz_own).perm (by (repeat (first | exact List.Perm.refl _ | exact List.Perm.nil | refine perm_pick 0 rfl ?_ | refine perm_pick 1 rfl ?_ | refine perm_pick 2 rfl ?_ | refine perm_pick 3 rfl ?_ | refine perm_pick 4 rfl ?_ | refine perm_pick 5 rfl ?_ | refine perm_pick 6 rfl ?_ | refine perm_pick 7 rfl ?_ | refine perm_pick 8 rfl ?_ | refine perm_pick 9 rfl ?_ | refine perm_pick 10 rfl ?_ | refine perm_pick 11 rfl ?_))), (hA.sub (by (repeat (first | exact trivial | refine ⟨rfl, ?_⟩))))⟩, by omega⟩
      rintro w ⟨h1, h2⟩
      refine ⟨(hK2 w h2).1, fun m hm => ?_⟩
      rcases List.mem_append.1 hm with hm | hm
      · exact (hK2 w h2).2 m hm
      · rw [List.mem_singleton] at hm
        subst hm
        exact ⟨⟨h1, hle2⟩, (hRz w h2).2.s arg (by rw [harg]; exact .head _)⟩
    · have hst : step q z.un = [] := by
        unfold step
        rw [if_neg (show ¬ z.un.2.k = 8 by assumption)]
      rw [hst, List.append_nil] at hls
      exact ⟨k + 1, ⟨K2, oc, cx, nc, ⟨hlk, hK2, by rw [hls, hnc]⟩, hH.er 0, (hA.sub (by (repeat (first | exact trivial | refine ⟨rfl, ?_⟩))))⟩, by omega⟩
  clear hA hH
  rintro a w ⟨K2, oc, cx, nc, ⟨hK2, hnc⟩, hH, hA⟩
  have hok := leftC_ok (q := q) hxw
  rw [← hnc] at hok
  have hle3 := hH.own_le (T := 67) (xs := flat encC nc) (by exact MEMT)
  repeat' (first | (first | (refine GT ?_ ?_ <;> intro hg <;> clear hA a <;> intro a hA <;> (first | exact FA | replace hg := of_decide_eq_true hg | replace hg := of_decide_eq_false hg | skip)) | (refine QT ?_; clear hA a; intro a hA) | (first | (refine BT ?_; clear hA hH; rintro _ w ⟨bN, rfl, hH⟩ a hA) | (refine LT ?_; clear hA hH; rintro _ w ⟨oN, rfl, hH⟩ a hA) | (refine AT ?_; clear hA; rintro _ w ⟨oN, cN, rfl, hH2⟩ a hA; clear hH; have hH := (hH2 _ (by (repeat constructor))).tail; clear hH2) | (refine S0T ?_; clear hH; rintro _ w hH) )) | ((first | refine CT ?_ | (refine DT ?_ ?_ <;> intro hc <;> try (exfalso; omega))) <;> repeat' refine CT ?_) | (first | (refine DSK ?_; clear hA a; intro a hA) | (first | (refine DLT ?_; clear hA hH; rintro _ w ⟨oN, rfl, hH⟩; refine ⟨STT, ?_⟩; intro a hA) | (refine DAT ?_; clear hA; rintro _ w ⟨oN, cN, rfl, hH2⟩; clear hH; have hH := (hH2 _ (by (repeat constructor))).tail; clear hH2; refine ⟨STT, ?_⟩; intro a hA))) )
  have hF := ((hH.pk 3 rfl).pk 2 rfl).frz_own
  have hsz : szC (nc.map MC.un) + x.bs.length ≤ 1000 := by
    have e1 := hok.2
    have e2 : x.un.bs.length = x.bs.length := List.length_map ..
    omega
  (refine st_op hA rfl rfl (by decide) (op_call rfl rfl rfl (rplain_spec w0 _ _ _ (ML.mk x.n oc cx nc x.ob x.cb x.bs) hF (fun w hw => ⟨⟨hw.1, hle3.1, hle3.2, (hK2 w hw.2).2⟩, (hRx w (hK2 w hw.2).1).2⟩) (fun m hm => (hok.1 m.un (List.mem_map.2 ⟨m, hm, rfl⟩)).1) (fun m hm => Nat.le_trans (hok.1 m.un (List.mem_map.2 ⟨m, hm, rfl⟩)).2 (by omega)) hsz)) ?_; clear hA hH hF; rintro _ w ⟨K4, m4, rfl, hK4, hun, hH⟩ a hA)
  repeat' (first | (first | (refine GT ?_ ?_ <;> intro hg <;> clear hA a <;> intro a hA <;> (first | exact FA | replace hg := of_decide_eq_true hg | replace hg := of_decide_eq_false hg | skip)) | (refine QT ?_; clear hA a; intro a hA) | (first | (refine BT ?_; clear hA hH; rintro _ w ⟨bN, rfl, hH⟩ a hA) | (refine LT ?_; clear hA hH; rintro _ w ⟨oN, rfl, hH⟩ a hA) | (refine AT ?_; clear hA; rintro _ w ⟨oN, cN, rfl, hH2⟩ a hA; clear hH; have hH := (hH2 _ (by (repeat constructor))).tail; clear hH2) | (refine S0T ?_; clear hH; rintro _ w hH) )) | ((first | refine CT ?_ | (refine DT ?_ ?_ <;> intro hc <;> try (exfalso; omega))) <;> repeat' refine CT ?_) | (first | (refine DSK ?_; clear hA a; intro a hA) | (first | (refine DLT ?_; clear hA hH; rintro _ w ⟨oN, rfl, hH⟩; refine ⟨STT, ?_⟩; intro a hA) | (refine DAT ?_; clear hA; rintro _ w ⟨oN, cN, rfl, hH2⟩; clear hH; have hH := (hH2 _ (by (repeat constructor))).tail; clear hH2; refine ⟨STT, ?_⟩; intro a hA))) )
  rw [← encL_eq, ← flat_snoc, ← len_snoc lo m4] at hH
  rw [← len_snoc lo m4] at hA
  refine ⟨i + 1, ⟨K4, oN, cN, lo ++ [m4], ⟨hlt, fun w hw => ?_, ?_⟩, (hH.er 1).perm (by (repeat (first | exact List.Perm.refl _ | exact List.Perm.nil | refine perm_pick 0 rfl ?_ | refine perm_pick 1 rfl ?_ | refine perm_pick 2 rfl ?_ | refine perm_pick 3 rfl ?_ | refine perm_pick 4 rfl ?_ | refine perm_pick 5 rfl ?_ | refine perm_pick 6 rfl ?_ | refine perm_pick 7 rfl ?_ | refine perm_pick 8 rfl ?_ | refine perm_pick 9 rfl ?_ | refine perm_pick 10 rfl ?_ | refine perm_pick 11 rfl ?_))), (hA.sub (by (repeat (first | exact trivial | refine ⟨rfl, ?_⟩))))⟩, by omega⟩
  · have h4 := hK4 w hw
    have h5 := hK2 w h4.1.2
    refine ⟨(hK' w h5.1).1, fun m hm => ?_⟩
    rcases List.mem_append.1 hm with hm | hm
    · exact (hK' w h5.1).2 m hm
    · rw [List.mem_singleton] at hm; subst hm; exact h4.2
  · rw [hsn, List.map_append, hlo, ← hnc]
    show _ ++ [m4.un] = _
    rw [hun]
end Go.Proofs.Ytcododdkjppmjaa
namespace Go.Proofs.Ytcododdkjppmjaa
open Go Go.Fw
set_option linter.unusedVariables false
/-- a tree that can be read -/
inductive RdT (w : World) : MT → Prop
  | mk {t : MT} (h1 : RdBs w t.ob t.cb t.bs) (h2 : RdQ w t.oq t.cq t.q) (h3 : Rd w t.ot (flat encR t.ts) ∧ t.ts.length ≤ t.ct ∧ t.ct ≤ maxLen) (h4 : Rd w t.oe (flat encT t.es) ∧ t.es.length ≤ t.ce ∧ t.ce ≤ maxLen)
      (h5 : ∀ s ∈ t.ts, RdT w s) (h6 : ∀ s ∈ t.es, RdT w s) : RdT w t
theorem RdT.b {w : World} {t : MT} (h : RdT w t) : RdBs w t.ob t.cb t.bs := by cases h; assumption
theorem RdT.q {w : World} {t : MT} (h : RdT w t) : RdQ w t.oq t.cq t.q := by cases h; assumption
theorem RdT.t {w : World} {t : MT} (h : RdT w t) : Rd w t.ot (flat encR t.ts) ∧ t.ts.length ≤ t.ct ∧ t.ct ≤ maxLen := by cases h; assumption
theorem RdT.e {w : World} {t : MT} (h : RdT w t) : Rd w t.oe (flat encT t.es) ∧ t.es.length ≤ t.ce ∧ t.ce ≤ maxLen := by cases h; assumption
theorem RdT.ts {w : World} {t : MT} (h : RdT w t) : ∀ s ∈ t.ts, RdT w s := by cases h; assumption
theorem RdT.es {w : World} {t : MT} (h : RdT w t) : ∀ s ∈ t.es, RdT w s := by cases h; assumption
theorem RdT.keep {w w' : World} {t : MT} (h : RdT w t) (hk : Kp w noM w') : RdT w' t := by
  have hH : HS w noM [] w' := (HS.init w noM).keep hk
  induction h with
  | mk h1 h2 h3 h4 h5 h6 ih5 ih6 => exact .mk (h1.keep hk) (h2.keep hk) ⟨hH.rd h3.1 id, h3.2⟩ ⟨hH.rd h4.1 id, h4.2⟩ ih5 ih6
theorem Rd_none (w : World) : Rd w none [] := ⟨fun h => absurd h (by decide), fun j u h => by simp at h⟩
theorem RdT_n {w : World} {h : Hd} {k n : Int} {ob : Option Addr} {cb : Nat} {bs : List MB} (hb : RdBs w ob cb bs) : RdT w (nT h k n ob cb bs) :=
  .mk hb (RdQ_nil w) ⟨Rd_none w, Nat.zero_le _, Nat.zero_le _⟩ ⟨Rd_none w, Nat.zero_le _, Nat.zero_le _⟩ (fun s hs => absurd hs List.not_mem_nil) (fun s hs => absurd hs List.not_mem_nil)
set_option maxRecDepth 10000 attribute [local irreducible] Code.wp wpList Calls Ex Op1 sat bat blk cb own Go.Fw.mp Go.Fw.mpO Go.Fw.mpI Go.Fw.mpE Go.Fw.itr HS Rd Ret wkD Hp Cl Cls Exit.then Exit.inBlock Exit.noGoto bodyPost Go.Fw.flat wk2 Go.Fw.all Go.Fw.owns wpOp
attribute [local irreducible] encA encC encB encL treeP treeB brsP heads restL left

set_option maxHeartbeats 8000000 in
theorem rtree_stop (w0 w : World) (H : List It) (K : World → Prop) (x : Int) (o : Option Addr) (c : Nat) (l : List ML) (h : Hd)
    (hH : HS w0 noM (frz w0 K :: H) w) (hx : x - 1 < 0 ∨ l.length = 0) (hx2 : -100000 ≤ x) (hx3 : x ≤ 1024) :
    Ret Try.prog 26 #[.slice o l.length c, .int .i64 x] w (fun v w' => ∃ (K' : World → Prop) (t : MT), v = .tuple #[.agg (encT t).toArray, .int .i64 (x - 1)] ∧ (∀ w, K' w → K w ∧ RdT w t) ∧ t.h = h ∧ t.un = (.mk h 1 0 [] [] [] []) ∧ HS w0 noM (frz w0 K' :: H) w') := by
  have i0 : i64ok (x - 1) := by unfold i64ok; omega
  (refine enter (N := 148) Try.func26 rfl Try.ntmps26 rfl ?_; intro a hA; dsimp only [sl0, Nat.reduceAdd] at hA)
  repeat' (first | (first | (refine GT ?_ ?_ <;> intro hg <;> clear hA a <;> intro a hA <;> (first | exact FA | replace hg := of_decide_eq_true hg | replace hg := of_decide_eq_false hg | skip)) | ((first | apply st_ex hA hH rfl rfl (by decide) | apply dr_ex hA rfl rfl rfl (by decide) | apply dr_exp hA rfl rfl rfl (by decide) | apply dr_ex3 hA hH rfl rfl rfl (by decide)); (first | (apply ex_build_p #[.int .i64 1, .int .i64 0, .slice none 0 0, .slice none 0 0, .slice none 0 0, .slice none 0 0]; rfl; (repeat (first | (intro _ h; exact absurd h (List.not_mem_nil)) | (refine List.forall_mem_cons.2 ⟨one_cell_of _ _, ?_⟩))); rfl)); clear hA a; intro a hA) | (refine QT ?_; clear hA a; intro a hA) | (first | (refine BT ?_; clear hA hH; rintro _ w ⟨bN, rfl, hH⟩ a hA) | (refine LT ?_; clear hA hH; rintro _ w ⟨oN, rfl, hH⟩ a hA) | (refine AT ?_; clear hA; rintro _ w ⟨oN, cN, rfl, hH2⟩ a hA; clear hH; have hH := (hH2 _ (by (repeat constructor))).tail; clear hH2) | (refine S0T ?_; clear hH; rintro _ w hH) | (apply st_op0 hA rfl rfl; apply op_store_agg (vs := [.int .i64 1, .int .i64 0, .slice none 0 0, .slice none 0 0, .slice none 0 0, .slice none 0 0]); rfl; rfl; exact hH; (repeat constructor); (repeat rfl); clear hH; rintro _ w hH))) | ((first | refine CT ?_ | (refine DT ?_ ?_ <;> intro hc <;> try (exfalso; omega))) <;> repeat' refine CT ?_) | (first | (refine DSK ?_; clear hA a; intro a hA) | (first | (refine DLT ?_; clear hA hH; rintro _ w ⟨oN, rfl, hH⟩; refine ⟨STT, ?_⟩; intro a hA) | (refine DAT ?_; clear hA; rintro _ w ⟨oN, cN, rfl, hH2⟩; clear hH; have hH := (hH2 _ (by (repeat constructor))).tail; clear hH2; refine ⟨STT, ?_⟩; intro a hA))) )
  all_goals first
    | (exfalso; omega)
    | exact rt2c (vs := encT (nT h 1 0 none 0 [])) (.inl rfl) rfl hA rfl rfl rfl hH (cls_cb_all (by exact MEMT)) ⟨K, nT h 1 0 none 0 [], rfl, fun w hw => ⟨hw, RdT_n (RdBs_nil w)⟩, rfl, un_n .., hH.tail⟩
    | skip
set_option maxHeartbeats 8000000 in
theorem rtree_leaf (w0 w : World) (H : List It) (K : World → Prop) (x : Int) (o : Option Addr) (c : Nat) (m : ML) (l : List ML) (h : Hd)
    (hH : HS w0 noM (frz w0 K :: H) w) (hR : ∀ w, K w → RdLs w o c (m :: l)) (hl : (m :: l).length ≤ 64) (hx : ¬ x - 1 < 0) (hx2 : x ≤ 1024) (hcs : m.cs = []) :
    Ret Try.prog 26 #[.slice o (m :: l).length c, .int .i64 x] w (fun v w' => ∃ (K' : World → Prop) (t : MT), v = .tuple #[.agg (encT t).toArray, .int .i64 (x - 1)] ∧ (∀ w, K' w → K w ∧ RdT w t) ∧ t.h = h ∧ t.un = (.mk h 2 m.n (m.bs.map MB.un) [] [] []) ∧ HS w0 noM (frz w0 K' :: H) w') := by
  have i0 : i64ok (x - 1) := by unfold i64ok; omega
  have hK0 := hH.frz_w (.head _) hR
  have hsp : Sp o (m :: l).length := hK0.1.sp (sz := 3) (flat_length encL_len (m :: l)) (by omega)
  clear hK0
  have hlen : 0 < (m :: l).length := Nat.succ_pos _
  have hrL : ∀ w, K w → Rd w o (flat encL (m :: l)) := fun w h => (hR w h).1
  have hm : ∀ w, K w → RdL w m := fun w h => (hR w h).2.2.2 m (.head _)
  have hvm := flat_all encL_len (l := m :: l) (i := 0) (x := m) rfl
  rw [encL_eq] at hvm
  have hvm0 := hvm 0 _ rfl
  have hvm1 := hvm 1 _ rfl
  have hvm2 := hvm 2 _ rfl
  have hcl0 : m.cs.length = 0 := by rw [hcs]; rfl
  generalize m :: l = ll at *
  (refine enter (N := 148) Try.func26 rfl Try.ntmps26 rfl ?_; intro a hA; dsimp only [sl0, Nat.reduceAdd] at hA)
  repeat' (first | (first | (refine GT ?_ ?_ <;> intro hg <;> clear hA a <;> intro a hA <;> (first | exact FA | replace hg := of_decide_eq_true hg | replace hg := of_decide_eq_false hg | skip)) | ((first | apply st_ex hA hH rfl rfl (by decide) | apply dr_ex hA rfl rfl rfl (by decide) | apply dr_exp hA rfl rfl rfl (by decide) | apply dr_ex3 hA hH rfl rfl rfl (by decide)); (first | (apply ex_load; rfl; exact cl_frz MEMT hrL hvm1)); clear hA a; intro a hA) | (refine QT ?_; clear hA a; intro a hA) | (first | (refine BT ?_; clear hA hH; rintro _ w ⟨bN, rfl, hH⟩ a hA) | (refine LT ?_; clear hA hH; rintro _ w ⟨oN, rfl, hH⟩ a hA) | (refine AT ?_; clear hA; rintro _ w ⟨oN, cN, rfl, hH2⟩ a hA; clear hH; have hH := (hH2 _ (by (repeat constructor))).tail; clear hH2) | (refine S0T ?_; clear hH; rintro _ w hH) )) | ((first | refine CT ?_ | (refine DT ?_ ?_ <;> intro hc <;> try (exfalso; omega))) <;> repeat' refine CT ?_) | (first | (refine DSK ?_; clear hA a; intro a hA) | (first | (refine DLT ?_; clear hA hH; rintro _ w ⟨oN, rfl, hH⟩; refine ⟨STT, ?_⟩; intro a hA) | (refine DAT ?_; clear hA; rintro _ w ⟨oN, cN, rfl, hH2⟩; clear hH; have hH := (hH2 _ (by (repeat constructor))).tail; clear hH2; refine ⟨STT, ?_⟩; intro a hA))) )
  all_goals (try (exfalso; omega))
  (refine wp_draw2_HS [(0, 1), (1, 1), (2, 1), (3, 1), (4, 1), (5, 1), (6, 1), (7, 1), (8, 1), (9, 2)] [10,11] mixed (by decide +kernel) hH ?_; replace hH := hH.drew)
  repeat' (first | (first | (refine GT ?_ ?_ <;> intro hg <;> clear hA a <;> intro a hA <;> (first | exact FA | replace hg := of_decide_eq_true hg | replace hg := of_decide_eq_false hg | skip)) | ((first | apply st_ex hA hH rfl rfl (by decide) | apply dr_ex hA rfl rfl rfl (by decide) | apply dr_exp hA rfl rfl rfl (by decide) | apply dr_ex3 hA hH rfl rfl rfl (by decide)); (first | (apply ex_load; rfl; exact cl_frz MEMT hrL hvm0) | (apply ex_load; rfl; exact cl_frz MEMT hrL hvm2) | (apply ex_build_p #[.int .i64 2, .int .i64 m.n, .slice m.ob m.bs.length m.cb, .slice none 0 0, .slice none 0 0, .slice none 0 0]; rfl; (repeat (first | (intro _ h; exact absurd h (List.not_mem_nil)) | (refine List.forall_mem_cons.2 ⟨one_cell_of _ _, ?_⟩))); rfl)); clear hA a; intro a hA) | (refine QT ?_; clear hA a; intro a hA) | (first | (refine BT ?_; clear hA hH; rintro _ w ⟨bN, rfl, hH⟩ a hA) | (refine LT ?_; clear hA hH; rintro _ w ⟨oN, rfl, hH⟩ a hA) | (refine AT ?_; clear hA; rintro _ w ⟨oN, cN, rfl, hH2⟩ a hA; clear hH; have hH := (hH2 _ (by (repeat constructor))).tail; clear hH2) | (refine S0T ?_; clear hH; rintro _ w hH) )) | ((first | refine CT ?_ | (refine DT ?_ ?_ <;> intro hc <;> try (exfalso; omega))) <;> repeat' refine CT ?_) | (first | (refine DSK ?_; clear hA a; intro a hA) | (first | (refine DLT ?_; clear hA hH; rintro _ w ⟨oN, rfl, hH⟩; refine ⟨STT, ?_⟩; intro a hA) | (refine DAT ?_; clear hA; rintro _ w ⟨oN, cN, rfl, hH2⟩; clear hH; have hH := (hH2 _ (by (repeat constructor))).tail; clear hH2; refine ⟨STT, ?_⟩; intro a hA))) )
  (apply dr_op03 hA rfl rfl rfl; apply op_store_agg (vs := [.int .i64 2, .int .i64 m.n, .slice m.ob m.bs.length m.cb, .slice none 0 0, .slice none 0 0, .slice none 0 0]); rfl; rfl; exact hH; (repeat constructor); (repeat rfl); clear hH; rintro _ w hH)
  repeat' (first | (first | (refine GT ?_ ?_ <;> intro hg <;> clear hA a <;> intro a hA <;> (first | exact FA | replace hg := of_decide_eq_true hg | replace hg := of_decide_eq_false hg | skip)) | (refine QT ?_; clear hA a; intro a hA) | (first | (refine BT ?_; clear hA hH; rintro _ w ⟨bN, rfl, hH⟩ a hA) | (refine LT ?_; clear hA hH; rintro _ w ⟨oN, rfl, hH⟩ a hA) | (refine AT ?_; clear hA; rintro _ w ⟨oN, cN, rfl, hH2⟩ a hA; clear hH; have hH := (hH2 _ (by (repeat constructor))).tail; clear hH2) | (refine S0T ?_; clear hH; rintro _ w hH) )) | ((first | refine CT ?_ | (refine DT ?_ ?_ <;> intro hc <;> try (exfalso; omega))) <;> repeat' refine CT ?_) | (first | (refine DSK ?_; clear hA a; intro a hA) | (first | (refine DLT ?_; clear hA hH; rintro _ w ⟨oN, rfl, hH⟩; refine ⟨STT, ?_⟩; intro a hA) | (refine DAT ?_; clear hA; rintro _ w ⟨oN, cN, rfl, hH2⟩; clear hH; have hH := (hH2 _ (by (repeat constructor))).tail; clear hH2; refine ⟨STT, ?_⟩; intro a hA))) )
  exact rt2c (vs := encT (nT h 2 m.n m.ob m.cb m.bs)) (.inl rfl) rfl hA rfl rfl rfl hH (cls_cb_all (by exact MEMT)) ⟨K, nT h 2 m.n m.ob m.cb m.bs, rfl, fun w hw => ⟨hw, RdT_n (hm w hw).2⟩, rfl, un_n .., hH.tail⟩
end Go.Proofs.Ytcododdkjppmjaa
namespace Go.Proofs.Ytcododdkjppmjaa
open Go Go.Fw
set_option linter.unusedVariables false
def TreeSpecR (f : Nat) : Prop := ∀ (w0 w : World) (H : List It) (K : World → Prop) (x : Int) (o : Option Addr) (c : Nat) (l : List ML) (h : Hd),
    HS w0 noM (frz w0 K :: H) w → (∀ w, K w → RdLs w o c l) → (∀ m ∈ l, Rw m.un) → l.length ≤ 64 → x ≤ f → -100000 ≤ x → x ≤ 1024 →
    Ret Try.prog 26 #[.slice o l.length c, .int .i64 x] w (fun v w' => ∃ (K' : World → Prop) (t : MT), v = .tuple #[.agg (encT t).toArray, .int .i64 ((treeP f h (l.map ML.un) x).2)] ∧ (∀ w, K' w → K w ∧ RdT w t) ∧ t.h = h ∧ t.un = (treeP f h (l.map ML.un) x).1 ∧ HS w0 noM (frz w0 K' :: H) w')
theorem any_take {g : Hd} {hs : List Hd} {k : Nat} {y : Hd} (hy : hs[k]? = some y) : ((hs.take (k + 1)).any fun z => decide (z = g)) = (((hs.take k).any fun z => decide (z = g)) || decide (y = g)) := by
  rw [take_next hy, List.any_append]
  simp
theorem any_in {g : Hd} {hs : List Hd} : (hs.any fun z => decide (z = g)) = decide (g ∈ hs) := by
  rw [Bool.eq_iff_iff, List.any_eq_true, decide_eq_true_iff]
  exact ⟨fun ⟨z, hz, h⟩ => (of_decide_eq_true h) ▸ hz, fun h => ⟨g, h, decide_eq_true rfl⟩⟩
set_option maxRecDepth 10000 attribute [local irreducible] Code.wp wpList Calls Ex Op1 sat bat blk cb own Go.Fw.mp Go.Fw.mpO Go.Fw.mpI Go.Fw.mpE Go.Fw.itr HS Rd Ret wkD Hp Cl Cls Exit.then Exit.inBlock Exit.noGoto bodyPost Go.Fw.flat wk2 Go.Fw.all Go.Fw.owns wpOp
attribute [local irreducible] encA encC encB encL treeP treeB brsP heads restL left

set_option maxHeartbeats 8000000 in
theorem rtree_test (f : Nat) (ih : TreeSpecR f) (w0 w : World) (H : List It) (K : World → Prop) (x : Int) (o : Option Addr) (c : Nat) (m : ML) (l : List ML) (h : Hd) (c0 : MC) (cs0 : List MC)
    (hH : HS w0 noM (frz w0 K :: H) w) (hR : ∀ w, K w → RdLs w o c (m :: l)) (hrw : ∀ s ∈ m :: l, Rw s.un) (hl : (m :: l).length ≤ 64) (hxf : x ≤ f + 1) (hx : ¬ x - 1 < 0) (hx2 : x ≤ 1024) (hcs : m.cs = c0 :: cs0) :
    Ret Try.prog 26 #[.slice o (m :: l).length c, .int .i64 x] w (fun v w' => ∃ (K' : World → Prop) (t : MT), v = .tuple #[.agg (encT t).toArray, .int .i64 ((treeP f hd0 (restL c0.q ((m :: l).map ML.un)) (brsP (treeP f) c0.q ((m :: l).map ML.un) (heads c0.q ((m :: l).map ML.un)) (x - 1)).2).2)] ∧ (∀ w, K' w → K w ∧ RdT w t) ∧ t.h = h ∧ t.un = (.mk h 3 0 [] c0.q (brsP (treeP f) c0.q ((m :: l).map ML.un) (heads c0.q ((m :: l).map ML.un)) (x - 1)).1 [(treeP f hd0 (restL c0.q ((m :: l).map ML.un)) (brsP (treeP f) c0.q ((m :: l).map ML.un) (heads c0.q ((m :: l).map ML.un)) (x - 1)).2).1]) ∧ HS w0 noM (frz w0 K' :: H) w') := by
  have i0 : i64ok (x - 1) := by unfold i64ok; omega
  have hK0 := hH.frz_w (.head _) hR
  have hsp : Sp o (m :: l).length := hK0.1.sp (sz := 3) (flat_length encL_len (m :: l)) (by omega)
  have hm0 := hK0.2.2.2 m (.head _)
  clear hK0
  have hspC : Sp m.oc m.cs.length := hm0.1.1.sp (sz := 7) (flat_length encC_len m.cs) (by omega)
  clear hm0
  have hlen : 0 < (m :: l).length := Nat.succ_pos _
  have hrL : ∀ w, K w → Rd w o (flat encL (m :: l)) := fun w h => (hR w h).1
  have hm : ∀ w, K w → RdL w m := fun w h => (hR w h).2.2.2 m (.head _)
  have hvm := flat_all encL_len (l := m :: l) (i := 0) (x := m) rfl
  rw [encL_eq] at hvm
  have hvm1 := hvm 1 _ rfl
  have hrC : ∀ w, K w → Rd w m.oc (flat encC m.cs) := fun w h => (hm w h).1.1
  have hrQ : ∀ w, K w → RdQ w c0.o c0.c c0.q := fun w h => ((hm w h).1.2.2.2 c0 (by rw [hcs]; exact .head _)).1
  have hqc : c0.q.length ≤ 256 := by
    have := (hrw m (.head _)).path c0.un (by show c0.un ∈ m.cs.map MC.un; rw [hcs]; exact .head _)
    have h2 : c0.un.1 = c0.q := rfl
    rw [h2] at this
    omega
  have hvc := flat_all encC_len (l := m.cs) (i := 0) (x := c0) (by rw [hcs]; rfl)
  rw [encC_eq] at hvc
  have hvc0 := hvc 0 _ rfl
  have hcl0 : 0 < m.cs.length := by rw [hcs]; exact Nat.succ_pos _
  generalize hll : m :: l = ll at *
  (refine enter (N := 148) Try.func26 rfl Try.ntmps26 rfl ?_; intro a hA; dsimp only [sl0, Nat.reduceAdd] at hA)
  repeat' (first | (first | (refine GT ?_ ?_ <;> intro hg <;> clear hA a <;> intro a hA <;> (first | exact FA | replace hg := of_decide_eq_true hg | replace hg := of_decide_eq_false hg | skip)) | ((first | apply st_ex hA hH rfl rfl (by decide) | apply dr_ex hA rfl rfl rfl (by decide) | apply dr_exp hA rfl rfl rfl (by decide) | apply dr_ex3 hA hH rfl rfl rfl (by decide)); (first | (apply ex_load; rfl; exact cl_frz MEMT hrL hvm1) | (apply ex_load; rfl; exact cl_frz MEMT hrC hvc0) | (apply ex_build_p #[.int .i64 3, .int .i64 0, .slice none 0 0, .slice c0.o c0.q.length c0.c, .slice none 0 0, .slice none 0 0]; rfl; (repeat (first | (intro _ h; exact absurd h (List.not_mem_nil)) | (refine List.forall_mem_cons.2 ⟨one_cell_of _ _, ?_⟩))); rfl)); clear hA a; intro a hA) | (refine QT ?_; clear hA a; intro a hA) | (first | (refine BT ?_; clear hA hH; rintro _ w ⟨bN, rfl, hH⟩ a hA) | (refine LT ?_; clear hA hH; rintro _ w ⟨oN, rfl, hH⟩ a hA) | (refine AT ?_; clear hA; rintro _ w ⟨oN, cN, rfl, hH2⟩ a hA; clear hH; have hH := (hH2 _ (by (repeat constructor))).tail; clear hH2) | (refine S0T ?_; clear hH; rintro _ w hH) | (apply st_op0 hA rfl rfl; apply op_store_agg (vs := [.int .i64 3, .int .i64 0, .slice none 0 0, .slice c0.o c0.q.length c0.c, .slice none 0 0, .slice none 0 0]); rfl; rfl; exact hH; (repeat constructor); (repeat rfl); clear hH; rintro _ w hH))) | ((first | refine CT ?_ | (refine DT ?_ ?_ <;> intro hc <;> try (exfalso; omega))) <;> repeat' refine CT ?_) | (first | (refine DSK ?_; clear hA a; intro a hA) | (first | (refine DLT ?_; clear hA hH; rintro _ w ⟨oN, rfl, hH⟩; refine ⟨STT, ?_⟩; intro a hA) | (refine DAT ?_; clear hA; rintro _ w ⟨oN, cN, rfl, hH2⟩; clear hH; have hH := (hH2 _ (by (repeat constructor))).tail; clear hH2; refine ⟨STT, ?_⟩; intro a hA))) )
  all_goals (try (exfalso; omega))
  obtain ⟨oE, hoE⟩ : ∃ b, b = oN := ⟨_, rfl⟩
  rw [← hoE] at hA hH
  clear hoE oN
  obtain ⟨b7, hb7⟩ : ∃ b, b = bN := ⟨_, rfl⟩
  rw [← hb7] at hA hH
  clear hb7 bN
  obtain ⟨b4, hb4⟩ : ∃ b, b = bN := ⟨_, rfl⟩
  rw [← hb4] at hA hH
  clear hb4 bN
  replace hH := hH.conv (it' := own 64 3 oE 0 0 (flat encL [])) .here (fun F h => by rw [flat_nil]; exact h)
  have hsn1 : ∀ {i : Nat} {s : ML}, ll[i]? = some s → heads c0.q ((ll.take (i + 1)).map ML.un) = headS c0.q (heads c0.q ((ll.take i).map ML.un)) s.un := fun hs => by
    rw [take_next hs, List.map_append]; exact heads_snoc ..
  have hsn2 : ∀ {i : Nat} {s : ML}, ll[i]? = some s → restL c0.q ((ll.take (i + 1)).map ML.un) = restL c0.q ((ll.take i).map ML.un) ++ (if (of c0.q s.un.cs).isNone then [s.un] else []) := fun hs => by
    rw [take_next hs, List.map_append]; exact restL_snoc ..
  refine wp_lpk (S := Nat) (fun i a w => ∃ (ob oo : Option Addr) (cb_ co : Nat) (hs : List Hd) (lo : List ML), (i ≤ ll.length ∧ hs = heads c0.q ((ll.take i).map ML.un) ∧ lo.map ML.un = restL c0.q ((ll.take i).map ML.un) ∧ ∀ s ∈ lo, s ∈ ll) ∧
      HS w0 noM (own 75 12 ob (hs.map zT).length cb_ (flat encR (hs.map zT)) :: own 64 3 oo lo.length co (flat encL lo) :: Go.Fw.cb b7 29 [.int .i64 3, .int .i64 0, .slice none 0 0, .slice c0.o c0.q.length c0.c, .slice ob (hs.map zT).length cb_, .slice none 0 0] :: Go.Fw.cb b4 29 [.int .i64 0, .int .i64 0, .slice none 0 0, .slice none 0 0, .slice none 0 0, .slice none 0 0] :: frz w0 K :: H) w ∧ Sl 148 [(0, .slice o ll.length c), (1, .int .i64 (x - 1)), (4, .pointer (some (bat b4 0))), (6, .slice c0.o c0.q.length c0.c), (7, .pointer (some (bat b7 0))), (8, .slice oo lo.length co), (9, .int .i64 i)] a)
    (fun i => ll.length - i)
    (fun a w => ∃ (ob oo : Option Addr) (cb_ co : Nat) (hs : List Hd) (lo : List ML), (hs = heads c0.q (ll.map ML.un) ∧ lo.map ML.un = restL c0.q (ll.map ML.un) ∧ ∀ s ∈ lo, s ∈ ll) ∧
      HS w0 noM (own 75 12 ob (hs.map zT).length cb_ (flat encR (hs.map zT)) :: own 64 3 oo lo.length co (flat encL lo) :: Go.Fw.cb b7 29 [.int .i64 3, .int .i64 0, .slice none 0 0, .slice c0.o c0.q.length c0.c, .slice ob (hs.map zT).length cb_, .slice none 0 0] :: Go.Fw.cb b4 29 [.int .i64 0, .int .i64 0, .slice none 0 0, .slice none 0 0, .slice none 0 0, .slice none 0 0] :: frz w0 K :: H) w ∧ Sl 148 [(0, .slice o ll.length c), (1, .int .i64 (x - 1)), (4, .pointer (some (bat b4 0))), (6, .slice c0.o c0.q.length c0.c), (7, .pointer (some (bat b7 0))), (8, .slice oo lo.length co)] a) 0
    ⟨none, oE, 0, 0, [], [], ⟨Nat.zero_le _, by rw [List.take_zero]; exact heads_nil _, by rw [List.take_zero]; exact restL_nil _, fun s hs => absurd hs List.not_mem_nil⟩, (hH.nil_flat encR 75 12).perm (by (repeat (first | exact List.Perm.refl _ | exact List.Perm.nil | refine perm_pick 0 rfl ?_ | refine perm_pick 1 rfl ?_ | refine perm_pick 2 rfl ?_ | refine perm_pick 3 rfl ?_ | refine perm_pick 4 rfl ?_ | refine perm_pick 5 rfl ?_ | refine perm_pick 6 rfl ?_ | refine perm_pick 7 rfl ?_ | refine perm_pick 8 rfl ?_ | refine perm_pick 9 rfl ?_ | refine perm_pick 10 rfl ?_ | refine perm_pick 11 rfl ?_))), (hA.sub (by (repeat (first | exact trivial | refine ⟨rfl, ?_⟩))))⟩ ?_ ?_
  · clear hA hH
    --((
    rintro i a w ⟨ob, oo, cb_, co, hs, lo, ⟨hi, hhs, hlo, hlm⟩, hH, hA⟩
    by_cases hlt : i < ll.length
    rotate_left
    · obtain rfl : i = ll.length := by omega
      rw [List.take_length] at hhs hlo
      repeat' (first | (first | (refine GT ?_ ?_ <;> intro hg <;> clear hA a <;> intro a hA <;> (first | exact FA | replace hg := of_decide_eq_true hg | replace hg := of_decide_eq_false hg | skip)) | (refine QT ?_; clear hA a; intro a hA) | (first | (refine BT ?_; clear hA hH; rintro _ w ⟨bN, rfl, hH⟩ a hA) | (refine LT ?_; clear hA hH; rintro _ w ⟨oN, rfl, hH⟩ a hA) | (refine AT ?_; clear hA; rintro _ w ⟨oN, cN, rfl, hH2⟩ a hA; clear hH; have hH := (hH2 _ (by (repeat constructor))).tail; clear hH2) | (refine S0T ?_; clear hH; rintro _ w hH) )) | ((first | refine CT ?_ | (refine DT ?_ ?_ <;> intro hc <;> try (exfalso; omega))) <;> repeat' refine CT ?_) | (first | (refine DSK ?_; clear hA a; intro a hA) | (first | (refine DLT ?_; clear hA hH; rintro _ w ⟨oN, rfl, hH⟩; refine ⟨STT, ?_⟩; intro a hA) | (refine DAT ?_; clear hA; rintro _ w ⟨oN, cN, rfl, hH2⟩; clear hH; have hH := (hH2 _ (by (repeat constructor))).tail; clear hH2; refine ⟨STT, ?_⟩; intro a hA))) )
      exact ⟨ob, oo, cb_, co, hs, lo, ⟨hhs, hlo, hlm⟩, hH, (hA.sub (by (repeat (first | exact trivial | refine ⟨rfl, ?_⟩))))⟩
    obtain ⟨s, hs0⟩ : ∃ s, ll[i]? = some s := ⟨_, List.getElem?_eq_getElem hlt⟩
    have hsm := List.mem_of_getElem? hs0
    have hvs := flat_all encL_len hs0
    rw [encL_eq] at hvs
    have hRx : ∀ w, K w → RdL w s := fun w h => (hR w h).2.2.2 s hsm
    have hsw := hrw s hsm
    have hs1 := hsn1 hs0
    have hs2 := hsn2 hs0
    have hcl : s.cs.length ≤ 256 := by
      have h1 := hsw.sz
      have h2 := szC_len s.un.cs
      have : s.un.cs.length = s.cs.length := List.length_map ..
      omega
    have hcq : ∀ m ∈ s.cs, m.q.length + szA m.p ≤ 256 := fun m hm => hsw.path m.un (List.mem_map.2 ⟨m, hm, rfl⟩)
    have hlol : lo.length ≤ 64 := by
      have e1 := congrArg List.length hlo
      rw [List.length_map] at e1
      have := restL_len c0.q ((ll.take i).map ML.un)
      rw [List.length_map, List.length_take] at this
      omega
    have hhsl : hs.length ≤ 64 := by
      have := heads_len c0.q ((ll.take i).map ML.un)
      rw [← hhs, List.length_map, List.length_take] at this
      omega
    have hhl : (hs.map zT).length = hs.length := List.length_map ..
    repeat' (first | (first | (refine GT ?_ ?_ <;> intro hg <;> clear hA a <;> intro a hA <;> (first | exact FA | replace hg := of_decide_eq_true hg | replace hg := of_decide_eq_false hg | skip)) | ((first | apply st_ex hA hH rfl rfl (by decide) | apply dr_ex hA rfl rfl rfl (by decide) | apply dr_exp hA rfl rfl rfl (by decide) | apply dr_ex3 hA hH rfl rfl rfl (by decide)); (first | (apply ex_load_st (vs := [.int .i64 s.n, .slice s.oc s.cs.length s.cc, .slice s.ob s.bs.length s.cb]); rfl; rfl; exact cls_frz MEMT hrL hvs)); clear hA a; intro a hA) | (refine QT ?_; clear hA a; intro a hA) | (first | (refine BT ?_; clear hA hH; rintro _ w ⟨bN, rfl, hH⟩ a hA) | (refine LT ?_; clear hA hH; rintro _ w ⟨oN, rfl, hH⟩ a hA) | (refine AT ?_; clear hA; rintro _ w ⟨oN, cN, rfl, hH2⟩ a hA; clear hH; have hH := (hH2 _ (by (repeat constructor))).tail; clear hH2) | (refine S0T ?_; clear hH; rintro _ w hH) )) | ((first | refine CT ?_ | (refine DT ?_ ?_ <;> intro hc <;> try (exfalso; omega))) <;> repeat' refine CT ?_) | (first | (refine DSK ?_; clear hA a; intro a hA) | (first | (refine DLT ?_; clear hA hH; rintro _ w ⟨oN, rfl, hH⟩; refine ⟨STT, ?_⟩; intro a hA) | (refine DAT ?_; clear hA; rintro _ w ⟨oN, cN, rfl, hH2⟩; clear hH; have hH := (hH2 _ (by (repeat constructor))).tail; clear hH2; refine ⟨STT, ?_⟩; intro a hA))) )
    (refine st_op hA rfl rfl (by decide) (op_call rfl rfl rfl (of_spec _ s c0.o c0.c c0.q (hRx _ (hH.frz (by exact MEMT))).1 (hrQ _ (hH.frz (by exact MEMT))) (by omega) (fun m hm => by have := hcq m hm; omega))) ?_; clear hA; rintro _ w ⟨hcase, hk⟩ a hA; replace hH := hH.keep hk; clear hk)
    rcases hcase with ⟨hno, rfl⟩ | ⟨j, y, hy, hyq, hfirst, rfl⟩
    · have hof := of_none hno
      rw [headS_none hof] at hs1
      rw [if_pos (show (of c0.q s.un.cs).isNone = true by rw [show of c0.q s.un.cs = none from hof]; rfl)] at hs2
      repeat' (first | (first | (refine GT ?_ ?_ <;> intro hg <;> clear hA a <;> intro a hA <;> (first | exact FA | replace hg := of_decide_eq_true hg | replace hg := of_decide_eq_false hg | skip)) | ((first | apply st_ex hA hH rfl rfl (by decide) | apply dr_ex hA rfl rfl rfl (by decide) | apply dr_exp hA rfl rfl rfl (by decide) | apply dr_ex3 hA hH rfl rfl rfl (by decide)); (first | (apply ex_load_st (vs := [.int .i64 s.n, .slice s.oc s.cs.length s.cc, .slice s.ob s.bs.length s.cb]); rfl; rfl; exact cls_frz MEMT hrL hvs)); clear hA a; intro a hA) | (refine QT ?_; clear hA a; intro a hA) | (first | (refine BT ?_; clear hA hH; rintro _ w ⟨bN, rfl, hH⟩ a hA) | (refine LT ?_; clear hA hH; rintro _ w ⟨oN, rfl, hH⟩ a hA) | (refine AT ?_; clear hA; rintro _ w ⟨oN, cN, rfl, hH2⟩ a hA; clear hH; have hH := (hH2 _ (by (repeat constructor))).tail; clear hH2) | (refine S0T ?_; clear hH; rintro _ w hH) | (apply st_op0 hA rfl rfl; apply op_store_agg (vs := [.slice c00.o c00.q.length c00.c, .int .i64 c00.p.k, .int .i64 c00.p.v, .int .i64 c00.p.n, .string c00.p.s, .slice c00.p.ol c00.p.ls.length c00.p.cl, .slice c00.p.oa c00.p.ps.length c00.p.ca]); rfl; rfl; exact hH; (repeat constructor); (repeat rfl); clear hH; rintro _ w hH))) | ((first | refine CT ?_ | (refine DT ?_ ?_ <;> intro hc <;> try (exfalso; omega))) <;> repeat' refine CT ?_) | (first | (refine DSK ?_; clear hA a; intro a hA) | (first | (refine DLT ?_; clear hA hH; rintro _ w ⟨oN, rfl, hH⟩; refine ⟨STT, ?_⟩; intro a hA) | (refine DAT ?_; clear hA; rintro _ w ⟨oN, cN, rfl, hH2⟩; clear hH; have hH := (hH2 _ (by (repeat constructor))).tail; clear hH2; refine ⟨STT, ?_⟩; intro a hA))) )
      rw [← encL_eq, ← flat_snoc, ← len_snoc lo s] at hH
      rw [← len_snoc lo s] at hA
      exact ⟨i + 1, ⟨ob, oN, cb_, cN, hs, lo ++ [s], ⟨hlt, by rw [hs1, hhs], by rw [hs2, List.map_append, hlo]; rfl, fun r hr => by
        rcases List.mem_append.1 hr with hr | hr
        · exact hlm r hr
        · rw [List.mem_singleton] at hr; subst hr; exact hsm⟩, hH.er 0, (hA.sub (by (repeat (first | exact trivial | refine ⟨rfl, ?_⟩))))⟩, by omega⟩
    have hof : of c0.q s.un.cs = some y.un := of_some hy hyq hfirst
    rw [if_neg (show ¬ (of c0.q s.un.cs).isNone = true by rw [hof]; exact Bool.false_ne_true), List.append_nil] at hs2
    repeat' (first | (first | (refine GT ?_ ?_ <;> intro hg <;> clear hA a <;> intro a hA <;> (first | exact FA | replace hg := of_decide_eq_true hg | replace hg := of_decide_eq_false hg | skip)) | (refine QT ?_; clear hA a; intro a hA) | (first | (refine BT ?_; clear hA hH; rintro _ w ⟨bN, rfl, hH⟩ a hA) | (refine LT ?_; clear hA hH; rintro _ w ⟨oN, rfl, hH⟩ a hA) | (refine AT ?_; clear hA; rintro _ w ⟨oN, cN, rfl, hH2⟩ a hA; clear hH; have hH := (hH2 _ (by (repeat constructor))).tail; clear hH2) | (refine S0T ?_; clear hH; rintro _ w hH) | (apply st_op0 hA rfl rfl; apply op_store_agg (vs := [.slice y.o y.q.length y.c, .int .i64 y.p.k, .int .i64 y.p.v, .int .i64 y.p.n, .string y.p.s, .slice y.p.ol y.p.ls.length y.p.cl, .slice y.p.oa y.p.ps.length y.p.ca]); rfl; rfl; exact hH; (repeat constructor); (repeat rfl); clear hH; rintro _ w hH))) | ((first | refine CT ?_ | (refine DT ?_ ?_ <;> intro hc <;> try (exfalso; omega))) <;> repeat' refine CT ?_) | (first | (refine DSK ?_; clear hA a; intro a hA) | (first | (refine DLT ?_; clear hA hH; rintro _ w ⟨oN, rfl, hH⟩; refine ⟨STT, ?_⟩; intro a hA) | (refine DAT ?_; clear hA; rintro _ w ⟨oN, cN, rfl, hH2⟩; clear hH; have hH := (hH2 _ (by (repeat constructor))).tail; clear hH2; refine ⟨STT, ?_⟩; intro a hA))) )
    obtain ⟨b10, hb10⟩ : ∃ b, b = bN := ⟨_, rfl⟩
    rw [← hb10] at hA hH
    clear hb10 bN
    refine wp_lpk (S := Nat) (fun k a w => (k ≤ hs.length) ∧
        HS w0 noM (Go.Fw.cb b10 67 [.slice y.o y.q.length y.c, .int .i64 y.p.k, .int .i64 y.p.v, .int .i64 y.p.n, .string y.p.s, .slice y.p.ol y.p.ls.length y.p.cl, .slice y.p.oa y.p.ps.length y.p.ca] :: own 75 12 ob (hs.map zT).length cb_ (flat encR (hs.map zT)) :: own 64 3 oo lo.length co (flat encL lo) :: Go.Fw.cb b7 29 [.int .i64 3, .int .i64 0, .slice none 0 0, .slice c0.o c0.q.length c0.c, .slice ob (hs.map zT).length cb_, .slice none 0 0] :: Go.Fw.cb b4 29 [.int .i64 0, .int .i64 0, .slice none 0 0, .slice none 0 0, .slice none 0 0, .slice none 0 0] :: frz w0 K :: H) w ∧
        Sl 148 [(0, .slice o ll.length c), (1, .int .i64 (x - 1)), (4, .pointer (some (bat b4 0))), (6, .slice c0.o c0.q.length c0.c), (7, .pointer (some (bat b7 0))), (8, .slice oo lo.length co), (9, .int .i64 i), (10, .pointer (some (bat b10 0))), (12, .bool ((hs.take k).any fun z => decide (z = y.p.hd))), (13, .int .i64 k)] a)
      (fun k => hs.length - k)
      (fun a w => HS w0 noM (Go.Fw.cb b10 67 [.slice y.o y.q.length y.c, .int .i64 y.p.k, .int .i64 y.p.v, .int .i64 y.p.n, .string y.p.s, .slice y.p.ol y.p.ls.length y.p.cl, .slice y.p.oa y.p.ps.length y.p.ca] :: own 75 12 ob (hs.map zT).length cb_ (flat encR (hs.map zT)) :: own 64 3 oo lo.length co (flat encL lo) :: Go.Fw.cb b7 29 [.int .i64 3, .int .i64 0, .slice none 0 0, .slice c0.o c0.q.length c0.c, .slice ob (hs.map zT).length cb_, .slice none 0 0] :: Go.Fw.cb b4 29 [.int .i64 0, .int .i64 0, .slice none 0 0, .slice none 0 0, .slice none 0 0, .slice none 0 0] :: frz w0 K :: H) w ∧
        Sl 148 [(0, .slice o ll.length c), (1, .int .i64 (x - 1)), (4, .pointer (some (bat b4 0))), (6, .slice c0.o c0.q.length c0.c), (7, .pointer (some (bat b7 0))), (8, .slice oo lo.length co), (9, .int .i64 i), (10, .pointer (some (bat b10 0))), (12, .bool (decide (y.p.hd ∈ hs)))] a) 0
      ⟨Nat.zero_le _, hH, (hA.sub (by (repeat (first | exact trivial | refine ⟨rfl, ?_⟩))))⟩ ?_ ?_
    · clear hA hH
      rintro k a w ⟨hk, hH, hA⟩
      by_cases hlk : k < hs.length
      rotate_left
      · obtain rfl : k = hs.length := by omega
        rw [List.take_length, any_in] at hA
        repeat' (first | (first | (refine GT ?_ ?_ <;> intro hg <;> clear hA a <;> intro a hA <;> (first | exact FA | replace hg := of_decide_eq_true hg | replace hg := of_decide_eq_false hg | skip)) | (refine QT ?_; clear hA a; intro a hA) | (first | (refine BT ?_; clear hA hH; rintro _ w ⟨bN, rfl, hH⟩ a hA) | (refine LT ?_; clear hA hH; rintro _ w ⟨oN, rfl, hH⟩ a hA) | (refine AT ?_; clear hA; rintro _ w ⟨oN, cN, rfl, hH2⟩ a hA; clear hH; have hH := (hH2 _ (by (repeat constructor))).tail; clear hH2) | (refine S0T ?_; clear hH; rintro _ w hH) )) | ((first | refine CT ?_ | (refine DT ?_ ?_ <;> intro hc <;> try (exfalso; omega))) <;> repeat' refine CT ?_) | (first | (refine DSK ?_; clear hA a; intro a hA) | (first | (refine DLT ?_; clear hA hH; rintro _ w ⟨oN, rfl, hH⟩; refine ⟨STT, ?_⟩; intro a hA) | (refine DAT ?_; clear hA; rintro _ w ⟨oN, cN, rfl, hH2⟩; clear hH; have hH := (hH2 _ (by (repeat constructor))).tail; clear hH2; refine ⟨STT, ?_⟩; intro a hA))) )
        exact ⟨hH, (hA.sub (by (repeat (first | exact trivial | refine ⟨rfl, ?_⟩))))⟩
      obtain ⟨g, hg⟩ : ∃ g, hs[k]? = some g := ⟨_, List.getElem?_eq_getElem hlk⟩
      have hzg : (hs.map zT)[k]? = some (zT g) := by rw [List.getElem?_map, hg]; rfl
      have hvg := flat_all encR_len hzg
      have hat := any_take (g := y.p.hd) hg
      have hvg2 : ∀ i v, ([.int .i64 g.ap.k, .int .i64 g.ap.v, .int .i64 g.ap.n, .string g.ap.s, .slice g.ap.ol g.ap.ls.length g.ap.cl, .slice g.ap.oa g.ap.ps.length g.ap.ca])[i]? = some v → (flat encR (hs.map zT))[k * 12 + 0 + i]? = some v := fun i v h => by rw [Nat.add_zero]; exact hvg i v (by have := encR_head (zT g) i v h; rw [Nat.zero_add] at this; exact this)
      repeat' (first | (first | (refine GT ?_ ?_ <;> intro hg <;> clear hA a <;> intro a hA <;> (first | exact FA | replace hg := of_decide_eq_true hg | replace hg := of_decide_eq_false hg | skip)) | (refine QT ?_; clear hA a; intro a hA) | (first | (refine BT ?_; clear hA hH; rintro _ w ⟨bN, rfl, hH⟩ a hA) | (refine LT ?_; clear hA hH; rintro _ w ⟨oN, rfl, hH⟩ a hA) | (refine AT ?_; clear hA; rintro _ w ⟨oN, cN, rfl, hH2⟩ a hA; clear hH; have hH := (hH2 _ (by (repeat constructor))).tail; clear hH2) | (refine S0T ?_; clear hH; rintro _ w hH) )) | ((first | refine CT ?_ | (refine DT ?_ ?_ <;> intro hc <;> try (exfalso; omega))) <;> repeat' refine CT ?_) | (first | (refine DSK ?_; clear hA a; intro a hA) | (first | (refine DLT ?_; clear hA hH; rintro _ w ⟨oN, rfl, hH⟩; refine ⟨STT, ?_⟩; intro a hA) | (refine DAT ?_; clear hA; rintro _ w ⟨oN, cN, rfl, hH2⟩; clear hH; have hH := (hH2 _ (by (repeat constructor))).tail; clear hH2; refine ⟨STT, ?_⟩; intro a hA))) )
      cases hkn : (hs.take k).any fun z => decide (z = y.p.hd) with
      | true =>
        rw [hkn] at hA hat
        (refine wp_draw_HS [(0, 1), (1, 1), (2, 1), (3, 1), (4, 1), (5, 1), (6, 1), (7, 1), (8, 1), (9, 1), (10, 0), (11, 0), (12, 2), (13, 2)] mixed (by decide +kernel) hH ?_; replace hH := hH.drew)
        repeat' (first | (first | (refine GT ?_ ?_ <;> intro hg <;> clear hA a <;> intro a hA <;> (first | exact FA | replace hg := of_decide_eq_true hg | replace hg := of_decide_eq_false hg | skip)) | (refine QT ?_; clear hA a; intro a hA) | (first | (refine BT ?_; clear hA hH; rintro _ w ⟨bN, rfl, hH⟩ a hA) | (refine LT ?_; clear hA hH; rintro _ w ⟨oN, rfl, hH⟩ a hA) | (refine AT ?_; clear hA; rintro _ w ⟨oN, cN, rfl, hH2⟩ a hA; clear hH; have hH := (hH2 _ (by (repeat constructor))).tail; clear hH2) | (refine S0T ?_; clear hH; rintro _ w hH) )) | ((first | refine CT ?_ | (refine DT ?_ ?_ <;> intro hc <;> try (exfalso; omega))) <;> repeat' refine CT ?_) | (first | (refine DSK ?_; clear hA a; intro a hA) | (first | (refine DLT ?_; clear hA hH; rintro _ w ⟨oN, rfl, hH⟩; refine ⟨STT, ?_⟩; intro a hA) | (refine DAT ?_; clear hA; rintro _ w ⟨oN, cN, rfl, hH2⟩; clear hH; have hH := (hH2 _ (by (repeat constructor))).tail; clear hH2; refine ⟨STT, ?_⟩; intro a hA))) )
        rw [Bool.true_or] at hat
        exact ⟨k + 1, ⟨hlk, hH, by rw [hat]; exact (hA.sub (by (repeat (first | exact trivial | refine ⟨rfl, ?_⟩))))⟩, by omega⟩
      | false =>
        rw [hkn] at hA hat
        (refine wp_draw_HS [(0, 1), (1, 1), (2, 1), (3, 1), (4, 1), (5, 1), (6, 1), (7, 1), (8, 1), (9, 1), (10, 0), (11, 0), (12, 2), (13, 2)] mixed (by decide +kernel) hH ?_; replace hH := hH.drew)
        repeat' (first | (first | (refine GT ?_ ?_ <;> intro hg <;> clear hA a <;> intro a hA <;> (first | exact FA | replace hg := of_decide_eq_true hg | replace hg := of_decide_eq_false hg | skip)) | ((first | apply st_ex hA hH rfl rfl (by decide) | apply dr_ex hA rfl rfl rfl (by decide) | apply dr_exp hA rfl rfl rfl (by decide) | apply dr_ex3 hA hH rfl rfl rfl (by decide)); (first | (apply ex_load_st (vs := [.int .i64 g.ap.k, .int .i64 g.ap.v, .int .i64 g.ap.n, .string g.ap.s, .slice g.ap.ol g.ap.ls.length g.ap.cl, .slice g.ap.oa g.ap.ps.length g.ap.ca]); rfl; rfl; apply cls_own; exact MEMT; exact hvg2) | (apply ex_load_st (vs := [.int .i64 y.p.k, .int .i64 y.p.v, .int .i64 y.p.n, .string y.p.s, .slice y.p.ol y.p.ls.length y.p.cl, .slice y.p.oa y.p.ps.length y.p.ca]); rfl; rfl; exact cls_cb MEMT (fun i v h => by rw [Nat.add_comm]; exact h))); clear hA a; intro a hA) | (refine QT ?_; clear hA a; intro a hA) | (first | (refine BT ?_; clear hA hH; rintro _ w ⟨bN, rfl, hH⟩ a hA) | (refine LT ?_; clear hA hH; rintro _ w ⟨oN, rfl, hH⟩ a hA) | (refine AT ?_; clear hA; rintro _ w ⟨oN, cN, rfl, hH2⟩ a hA; clear hH; have hH := (hH2 _ (by (repeat constructor))).tail; clear hH2) | (refine S0T ?_; clear hH; rintro _ w hH) )) | ((first | refine CT ?_ | (refine DT ?_ ?_ <;> intro hc <;> try (exfalso; omega))) <;> repeat' refine CT ?_) | (first | (refine DSK ?_; clear hA a; intro a hA) | (first | (refine DLT ?_; clear hA hH; rintro _ w ⟨oN, rfl, hH⟩; refine ⟨STT, ?_⟩; intro a hA) | (refine DAT ?_; clear hA; rintro _ w ⟨oN, cN, rfl, hH2⟩; clear hH; have hH := (hH2 _ (by (repeat constructor))).tail; clear hH2; refine ⟨STT, ?_⟩; intro a hA))) )
        (refine dr_op hA rfl rfl rfl (by decide) (op_call rfl rfl rfl (head_spec _ y.p)) ?_; clear hA; rintro _ w ⟨rfl, hk⟩; refine ⟨hH.keep hk, ?_⟩; intro a hA)
        replace hH := hH.keep hk
        clear hk
        (refine dr_op hA rfl rfl rfl (by decide) (op_call rfl rfl rfl (equal_spec _ g.ap y.p.hd.ap)) ?_; clear hA; rintro _ w ⟨rfl, hk⟩; refine ⟨hH.keep hk, ?_⟩; intro a hA)
        replace hH := hH.keep hk
        clear hk
        repeat' (first | (first | (refine GT ?_ ?_ <;> intro hg <;> clear hA a <;> intro a hA <;> (first | exact FA | replace hg := of_decide_eq_true hg | replace hg := of_decide_eq_false hg | skip)) | (refine QT ?_; clear hA a; intro a hA) | (first | (refine BT ?_; clear hA hH; rintro _ w ⟨bN, rfl, hH⟩ a hA) | (refine LT ?_; clear hA hH; rintro _ w ⟨oN, rfl, hH⟩ a hA) | (refine AT ?_; clear hA; rintro _ w ⟨oN, cN, rfl, hH2⟩ a hA; clear hH; have hH := (hH2 _ (by (repeat constructor))).tail; clear hH2) | (refine S0T ?_; clear hH; rintro _ w hH) )) | ((first | refine CT ?_ | (refine DT ?_ ?_ <;> intro hc <;> try (exfalso; omega))) <;> repeat' refine CT ?_) | (first | (refine DSK ?_; clear hA a; intro a hA) | (first | (refine DLT ?_; clear hA hH; rintro _ w ⟨oN, rfl, hH⟩; refine ⟨STT, ?_⟩; intro a hA) | (refine DAT ?_; clear hA; rintro _ w ⟨oN, cN, rfl, hH2⟩; clear hH; have hH := (hH2 _ (by (repeat constructor))).tail; clear hH2; refine ⟨STT, ?_⟩; intro a hA))) )
        rw [Bool.false_or] at hat
        exact ⟨k + 1, ⟨hlk, hH, by rw [hat]; exact (hA.sub (by (repeat (first | exact trivial | refine ⟨rfl, ?_⟩))))⟩, by omega⟩
    clear hA hH
    rintro a w ⟨hH, hA⟩
    by_cases hin : y.p.hd ∈ hs
    · rw [decide_eq_true hin] at hA
      rw [headS_in hof (hhs ▸ hin)] at hs1
      repeat' (first | (first | (refine GT ?_ ?_ <;> intro hg <;> clear hA a <;> intro a hA <;> (first | exact FA | replace hg := of_decide_eq_true hg | replace hg := of_decide_eq_false hg | skip)) | (refine QT ?_; clear hA a; intro a hA) | (first | (refine BT ?_; clear hA hH; rintro _ w ⟨bN, rfl, hH⟩ a hA) | (refine LT ?_; clear hA hH; rintro _ w ⟨oN, rfl, hH⟩ a hA) | (refine AT ?_; clear hA; rintro _ w ⟨oN, cN, rfl, hH2⟩ a hA; clear hH; have hH := (hH2 _ (by (repeat constructor))).tail; clear hH2) | (refine S0T ?_; clear hH; rintro _ w hH) )) | ((first | refine CT ?_ | (refine DT ?_ ?_ <;> intro hc <;> try (exfalso; omega))) <;> repeat' refine CT ?_) | (first | (refine DSK ?_; clear hA a; intro a hA) | (first | (refine DLT ?_; clear hA hH; rintro _ w ⟨oN, rfl, hH⟩; refine ⟨STT, ?_⟩; intro a hA) | (refine DAT ?_; clear hA; rintro _ w ⟨oN, cN, rfl, hH2⟩; clear hH; have hH := (hH2 _ (by (repeat constructor))).tail; clear hH2; refine ⟨STT, ?_⟩; intro a hA))) )
      exact ⟨i + 1, ⟨ob, oo, cb_, co, hs, lo, ⟨hlt, by rw [hs1, hhs], by rw [hs2, hlo], hlm⟩, hH.er 0, (hA.sub (by (repeat (first | exact trivial | refine ⟨rfl, ?_⟩))))⟩, by omega⟩
    · rw [decide_eq_false hin] at hA
      rw [headS_out hof (hhs ▸ hin), ← hhs] at hs1
      have hll2 : (hs.map zT).length ≤ 64 := by rw [List.length_map]; exact hhsl
      repeat' (first | (first | (refine GT ?_ ?_ <;> intro hg <;> clear hA a <;> intro a hA <;> (first | exact FA | replace hg := of_decide_eq_true hg | replace hg := of_decide_eq_false hg | skip)) | (refine QT ?_; clear hA a; intro a hA) | (first | (refine BT ?_; clear hA hH; rintro _ w ⟨bN, rfl, hH⟩ a hA) | (refine LT ?_; clear hA hH; rintro _ w ⟨oN, rfl, hH⟩ a hA) | (refine AT ?_; clear hA; rintro _ w ⟨oN, cN, rfl, hH2⟩ a hA; clear hH; have hH := (hH2 _ (by (repeat constructor))).tail; clear hH2) | (refine S0T ?_; clear hH; rintro _ w hH) )) | ((first | refine CT ?_ | (refine DT ?_ ?_ <;> intro hc <;> try (exfalso; omega))) <;> repeat' refine CT ?_) | (first | (refine DSK ?_; clear hA a; intro a hA) | (first | (refine DLT ?_; clear hA hH; rintro _ w ⟨oN, rfl, hH⟩; refine ⟨STT, ?_⟩; intro a hA) | (refine DAT ?_; clear hA; rintro _ w ⟨oN, cN, rfl, hH2⟩; clear hH; have hH := (hH2 _ (by (repeat constructor))).tail; clear hH2; refine ⟨STT, ?_⟩; intro a hA))) )
      (refine wp_draw2_HS (H := [Go.Fw.cb b7 29 [.int .i64 3, .int .i64 0, .slice none 0 0, .slice c0.o c0.q.length c0.c, .slice ob (hs.map zT).length cb_, .slice none 0 0], Go.Fw.cb b10 67 [.slice y.o y.q.length y.c, .int .i64 y.p.k, .int .i64 y.p.v, .int .i64 y.p.n, .string y.p.s, .slice y.p.ol y.p.ls.length y.p.cl, .slice y.p.oa y.p.ps.length y.p.ca]]) [(0, 1), (1, 1), (2, 1), (3, 1), (4, 0), (5, 2), (6, 0), (7, 0), (8, 2)] [9] mixed (by decide +kernel) (hH.two 3 0 rfl rfl) ?_; replace hH := hH.drew)
      repeat' (first | (first | (refine GT ?_ ?_ <;> intro hg <;> clear hA a <;> intro a hA <;> (first | exact FA | replace hg := of_decide_eq_true hg | replace hg := of_decide_eq_false hg | skip)) | ((first | apply st_ex hA hH rfl rfl (by decide) | apply dr_ex hA rfl rfl rfl (by decide) | apply dr_exp hA rfl rfl rfl (by decide) | apply dr_ex3 hA hH rfl rfl rfl (by decide)); (first | (apply ex_load_st (vs := [.int .i64 y.p.k, .int .i64 y.p.v, .int .i64 y.p.n, .string y.p.s, .slice y.p.ol y.p.ls.length y.p.cl, .slice y.p.oa y.p.ps.length y.p.ca]); rfl; rfl; exact cls_cb MEMT (fun i v h => by rw [Nat.add_comm]; exact h))); clear hA a; intro a hA) | (refine QT ?_; clear hA a; intro a hA) | (first | (refine BT ?_; clear hA hH; rintro _ w ⟨bN, rfl, hH⟩ a hA) | (refine LT ?_; clear hA hH; rintro _ w ⟨oN, rfl, hH⟩ a hA) | (refine AT ?_; clear hA; rintro _ w ⟨oN, cN, rfl, hH2⟩ a hA; clear hH; have hH := (hH2 _ (by (repeat constructor))).tail; clear hH2) | (refine S0T ?_; clear hH; rintro _ w hH) )) | ((first | refine CT ?_ | (refine DT ?_ ?_ <;> intro hc <;> try (exfalso; omega))) <;> repeat' refine CT ?_) | (first | (refine DSK ?_; clear hA a; intro a hA) | (first | (refine DLT ?_; clear hA hH; rintro _ w ⟨oN, rfl, hH⟩; refine ⟨STT, ?_⟩; intro a hA) | (refine DAT ?_; clear hA; rintro _ w ⟨oN, cN, rfl, hH2⟩; clear hH; have hH := (hH2 _ (by (repeat constructor))).tail; clear hH2; refine ⟨STT, ?_⟩; intro a hA))) )
      (refine dr_op hA rfl rfl rfl (by decide) (op_call rfl rfl rfl (head_spec _ y.p)) ?_; clear hA; rintro _ w ⟨rfl, hk⟩; refine ⟨(hH.keep hk).two 3 0 rfl rfl, ?_⟩; intro a hA)
      replace hH := hH.keep hk
      clear hk
      repeat' (first | (first | (refine GT ?_ ?_ <;> intro hg <;> clear hA a <;> intro a hA <;> (first | exact FA | replace hg := of_decide_eq_true hg | replace hg := of_decide_eq_false hg | skip)) | ((first | apply st_ex hA hH rfl rfl (by decide) | apply dr_ex hA rfl rfl rfl (by decide) | apply dr_exp hA rfl rfl rfl (by decide) | apply dr_ex3 hA hH rfl rfl rfl (by decide)); (first | (apply ex_build_g (vs := [.agg #[.int .i64 y.p.hd.ap.k, .int .i64 y.p.hd.ap.v, .int .i64 y.p.hd.ap.n, .string y.p.hd.ap.s, .slice y.p.hd.ap.ol y.p.hd.ap.ls.length y.p.hd.ap.cl, .slice y.p.hd.ap.oa y.p.hd.ap.ps.length y.p.hd.ap.ca] ]) [(0, 6), (6, 6)] (encR (zT y.p.hd)).toArray; rfl; exact ⟨size_of _ _ _, size_of _ _ _, trivial⟩; exact fill_R y.p.hd)); clear hA a; intro a hA) | (refine QT ?_; clear hA a; intro a hA) | (first | (refine BT ?_; clear hA hH; rintro _ w ⟨bN, rfl, hH⟩ a hA) | (refine LT ?_; clear hA hH; rintro _ w ⟨oN, rfl, hH⟩ a hA) | (refine AT ?_; clear hA; rintro _ w ⟨oN, cN, rfl, hH2⟩ a hA; clear hH; have hH := (hH2 _ (by (repeat constructor))).tail; clear hH2) | (refine S0T ?_; clear hH; rintro _ w hH) )) | ((first | refine CT ?_ | (refine DT ?_ ?_ <;> intro hc <;> try (exfalso; omega))) <;> repeat' refine CT ?_) | (first | (refine DSK ?_; clear hA a; intro a hA) | (first | (refine DLT ?_; clear hA hH; rintro _ w ⟨oN, rfl, hH⟩; refine ⟨STT, ?_⟩; intro a hA) | (refine DAT ?_; clear hA; rintro _ w ⟨oN, cN, rfl, hH2⟩; clear hH; have hH := (hH2 _ (by (repeat constructor))).tail; clear hH2; refine ⟨STT, ?_⟩; intro a hA))) )
      (apply dr_op hA rfl rfl rfl (by decide); apply op_sliceLit (xs := encR (zT y.p.hd)) (vs := [.agg (encR (zT y.p.hd)).toArray]); rfl; rfl; exact (Cats.cn (cs := encR (zT y.p.hd)) Cats.nil); rfl; rfl; rfl; exact hH; clear hA hH; rintro _ w ⟨oN, rfl, hH⟩; refine ⟨hH.two 4 1 rfl rfl, ?_⟩; intro a hA)
      (apply dr_op hA rfl rfl rfl (by decide); apply op_append; rfl; rfl; exact hH; exact MEMT; exact (hH.own_rd (List.Mem.head _)); exact rfl; rfl; decide; exact rfl; (unfold maxLen; omega); omega; clear hA; rintro _ w ⟨oN, cN, rfl, hH2⟩; clear hH; have hH := hH2 _ (by (repeat constructor)); clear hH2; refine ⟨hH.two 4 1 rfl rfl, ?_⟩; intro a hA)
      repeat' (first | (first | (refine GT ?_ ?_ <;> intro hg <;> clear hA a <;> intro a hA <;> (first | exact FA | replace hg := of_decide_eq_true hg | replace hg := of_decide_eq_false hg | skip)) | (refine QT ?_; clear hA a; intro a hA) | (first | (refine BT ?_; clear hA hH; rintro _ w ⟨bN, rfl, hH⟩ a hA) | (refine LT ?_; clear hA hH; rintro _ w ⟨oN, rfl, hH⟩ a hA) | (refine AT ?_; clear hA; rintro _ w ⟨oN, cN, rfl, hH2⟩ a hA; clear hH; have hH := (hH2 _ (by (repeat constructor))).tail; clear hH2) | (refine S0T ?_; clear hH; rintro _ w hH) )) | ((first | refine CT ?_ | (refine DT ?_ ?_ <;> intro hc <;> try (exfalso; omega))) <;> repeat' refine CT ?_) | (first | (refine DSK ?_; clear hA a; intro a hA) | (first | (refine DLT ?_; clear hA hH; rintro _ w ⟨oN, rfl, hH⟩; refine ⟨STT, ?_⟩; intro a hA) | (refine DAT ?_; clear hA; rintro _ w ⟨oN, cN, rfl, hH2⟩; clear hH; have hH := (hH2 _ (by (repeat constructor))).tail; clear hH2; refine ⟨STT, ?_⟩; intro a hA))) )
      (apply dr_op03 hA rfl rfl rfl; apply op_store_fld (cs' := [.int .i64 3, .int .i64 0, .slice none 0 0, .slice c0.o c0.q.length c0.c, .slice oN ((hs.map zT).length + 1) cN, .slice none 0 0]); rfl; rfl; rfl; exact hH; (repeat constructor); clear hH; rintro _ w hH)
      rw [← flat_snoc, ← len_snoc (hs.map zT) (zT y.p.hd)] at hH
      rw [← len_snoc (hs.map zT) (zT y.p.hd)] at hA
      have em : hs.map zT ++ [zT y.p.hd] = (hs ++ [y.p.hd]).map zT := by rw [List.map_append]; rfl
      rw [em] at hH hA
      repeat' (first | (first | (refine GT ?_ ?_ <;> intro hg <;> clear hA a <;> intro a hA <;> (first | exact FA | replace hg := of_decide_eq_true hg | replace hg := of_decide_eq_false hg | skip)) | (refine QT ?_; clear hA a; intro a hA) | (first | (refine BT ?_; clear hA hH; rintro _ w ⟨bN, rfl, hH⟩ a hA) | (refine LT ?_; clear hA hH; rintro _ w ⟨oN, rfl, hH⟩ a hA) | (refine AT ?_; clear hA; rintro _ w ⟨oN, cN, rfl, hH2⟩ a hA; clear hH; have hH := (hH2 _ (by (repeat constructor))).tail; clear hH2) | (refine S0T ?_; clear hH; rintro _ w hH) )) | ((first | refine CT ?_ | (refine DT ?_ ?_ <;> intro hc <;> try (exfalso; omega))) <;> repeat' refine CT ?_) | (first | (refine DSK ?_; clear hA a; intro a hA) | (first | (refine DLT ?_; clear hA hH; rintro _ w ⟨oN, rfl, hH⟩; refine ⟨STT, ?_⟩; intro a hA) | (refine DAT ?_; clear hA; rintro _ w ⟨oN, cN, rfl, hH2⟩; clear hH; have hH := (hH2 _ (by (repeat constructor))).tail; clear hH2; refine ⟨STT, ?_⟩; intro a hA))) )
      exact ⟨i + 1, ⟨oN, oo, cN, co, hs ++ [y.p.hd], lo, ⟨hlt, by rw [hs1]; rfl, by rw [hs2, hlo], hlm⟩, ((hH.er 0).er 0), (hA.sub (by (repeat (first | exact trivial | refine ⟨rfl, ?_⟩))))⟩, by omega⟩
    --))
  clear hA hH hsn1 hsn2
  rintro a w ⟨ob, oo, cb_, co, hs, lo, ⟨hhs, hlo, hlm⟩, hH, hA⟩
  have hleo := hH.own_le (T := 64) (xs := flat encL lo) (by exact MEMT)
  replace hH := ((hH.pk 4 rfl).pk 2 rfl).frz_own
  have hlm2 : ∀ w, (Rd w oo (flat encL lo) ∧ K w) → RdLs w oo co lo := fun w h => ⟨h.1, hleo.1, hleo.2, fun s hs => (hR w h.2).2.2.2 s (hlm s hs)⟩
  have hKK : ∀ w, (Rd w oo (flat encL lo) ∧ K w) → K w := fun w h => h.2
  generalize hK1 : (fun w => Rd w oo (flat encL lo) ∧ K w) = K1 at *
  replace hlm2 : ∀ w, K1 w → RdLs w oo co lo := fun w h => hlm2 w (by rw [← hK1] at h; exact h)
  replace hKK : ∀ w, K1 w → K w := fun w h => hKK w (by rw [← hK1] at h; exact h)
  clear hK1
  obtain ⟨N, hN⟩ : ∃ N, N = (hs.map zT).length := ⟨_, rfl⟩
  rw [← hN] at hH
  have hNh : hs.length = N := by rw [hN, List.length_map]
  have hhl : hs.length ≤ 64 := by
    have := heads_len c0.q (ll.map ML.un)
    rw [← hhs, List.length_map] at this
    omega
  repeat' (first | (first | (refine GT ?_ ?_ <;> intro hg <;> clear hA a <;> intro a hA <;> (first | exact FA | replace hg := of_decide_eq_true hg | replace hg := of_decide_eq_false hg | skip)) | (refine QT ?_; clear hA a; intro a hA) | (first | (refine BT ?_; clear hA hH; rintro _ w ⟨bN, rfl, hH⟩ a hA) | (refine LT ?_; clear hA hH; rintro _ w ⟨oN, rfl, hH⟩ a hA) | (refine AT ?_; clear hA; rintro _ w ⟨oN, cN, rfl, hH2⟩ a hA; clear hH; have hH := (hH2 _ (by (repeat constructor))).tail; clear hH2) | (refine S0T ?_; clear hH; rintro _ w hH) )) | ((first | refine CT ?_ | (refine DT ?_ ?_ <;> intro hc <;> try (exfalso; omega))) <;> repeat' refine CT ?_) | (first | (refine DSK ?_; clear hA a; intro a hA) | (first | (refine DLT ?_; clear hA hH; rintro _ w ⟨oN, rfl, hH⟩; refine ⟨STT, ?_⟩; intro a hA) | (refine DAT ?_; clear hA; rintro _ w ⟨oN, cN, rfl, hH2⟩; clear hH; have hH := (hH2 _ (by (repeat constructor))).tail; clear hH2; refine ⟨STT, ?_⟩; intro a hA))) )
  clear hN
  refine wp_lpk (S := Nat) (fun i a w => ∃ (K' : World → Prop) (ts : List MT), (i ≤ N ∧ ts.length = i ∧ ts.map MT.un = (brsP (treeP f) c0.q (ll.map ML.un) (hs.take i) (x - 1)).1 ∧ ts.map MT.h = hs.take i ∧ ∀ w, K' w → K1 w ∧ ∀ t ∈ ts, RdT w t) ∧
      HS w0 noM (own 75 12 ob N cb_ (flat encR (ts ++ (hs.drop i).map zT)) :: Go.Fw.cb b7 29 [.int .i64 3, .int .i64 0, .slice none 0 0, .slice c0.o c0.q.length c0.c, .slice ob N cb_, .slice none 0 0] :: Go.Fw.cb b4 29 [.int .i64 0, .int .i64 0, .slice none 0 0, .slice none 0 0, .slice none 0 0, .slice none 0 0] :: frz w0 K' :: H) w ∧ Sl 148 [(0, .slice o ll.length c), (1, .int .i64 (brsP (treeP f) c0.q (ll.map ML.un) (hs.take i) (x - 1)).2), (4, .pointer (some (bat b4 0))), (6, .slice c0.o c0.q.length c0.c), (7, .pointer (some (bat b7 0))), (8, .slice oo lo.length co), (14, .int .i64 i)] a)
    (fun i => N - i)
    (fun a w => ∃ (K' : World → Prop) (ts : List MT) (i : Nat), (i = N ∧ ts.length = i ∧ ts.map MT.un = (brsP (treeP f) c0.q (ll.map ML.un) (hs.take i) (x - 1)).1 ∧ ts.map MT.h = hs.take i ∧ ∀ w, K' w → K1 w ∧ ∀ t ∈ ts, RdT w t) ∧
      HS w0 noM (own 75 12 ob N cb_ (flat encR (ts ++ (hs.drop i).map zT)) :: Go.Fw.cb b7 29 [.int .i64 3, .int .i64 0, .slice none 0 0, .slice c0.o c0.q.length c0.c, .slice ob N cb_, .slice none 0 0] :: Go.Fw.cb b4 29 [.int .i64 0, .int .i64 0, .slice none 0 0, .slice none 0 0, .slice none 0 0, .slice none 0 0] :: frz w0 K' :: H) w ∧ Sl 148 [(1, .int .i64 (brsP (treeP f) c0.q (ll.map ML.un) (hs.take i) (x - 1)).2), (4, .pointer (some (bat b4 0))), (7, .pointer (some (bat b7 0))), (8, .slice oo lo.length co)] a) 0
    ⟨K1, [], ⟨Nat.zero_le _, rfl, by rw [List.take_zero, brsP_nil]; rfl, by rw [List.take_zero]; rfl, fun w h => ⟨h, fun t ht => absurd ht List.not_mem_nil⟩⟩, hH.perm (by (repeat (first | exact List.Perm.refl _ | exact List.Perm.nil | refine perm_pick 0 rfl ?_ | refine perm_pick 1 rfl ?_ | refine perm_pick 2 rfl ?_ | refine perm_pick 3 rfl ?_ | refine perm_pick 4 rfl ?_ | refine perm_pick 5 rfl ?_ | refine perm_pick 6 rfl ?_ | refine perm_pick 7 rfl ?_ | refine perm_pick 8 rfl ?_ | refine perm_pick 9 rfl ?_ | refine perm_pick 10 rfl ?_ | refine perm_pick 11 rfl ?_))), by rw [List.take_zero, brsP_nil]; exact (hA.sub (by (repeat (first | exact trivial | refine ⟨rfl, ?_⟩))))⟩ ?_ ?_
  · clear hA hH
    rintro i a w ⟨K', ts, ⟨hi, htl, htu, hth, hK'⟩, hH, hA⟩
    by_cases hlt : i < N
    rotate_left
    · repeat' (first | (first | (refine GT ?_ ?_ <;> intro hg <;> clear hA a <;> intro a hA <;> (first | exact FA | replace hg := of_decide_eq_true hg | replace hg := of_decide_eq_false hg | skip)) | (refine QT ?_; clear hA a; intro a hA) | (first | (refine BT ?_; clear hA hH; rintro _ w ⟨bN, rfl, hH⟩ a hA) | (refine LT ?_; clear hA hH; rintro _ w ⟨oN, rfl, hH⟩ a hA) | (refine AT ?_; clear hA; rintro _ w ⟨oN, cN, rfl, hH2⟩ a hA; clear hH; have hH := (hH2 _ (by (repeat constructor))).tail; clear hH2) | (refine S0T ?_; clear hH; rintro _ w hH) )) | ((first | refine CT ?_ | (refine DT ?_ ?_ <;> intro hc <;> try (exfalso; omega))) <;> repeat' refine CT ?_) | (first | (refine DSK ?_; clear hA a; intro a hA) | (first | (refine DLT ?_; clear hA hH; rintro _ w ⟨oN, rfl, hH⟩; refine ⟨STT, ?_⟩; intro a hA) | (refine DAT ?_; clear hA; rintro _ w ⟨oN, cN, rfl, hH2⟩; clear hH; have hH := (hH2 _ (by (repeat constructor))).tail; clear hH2; refine ⟨STT, ?_⟩; intro a hA))) )
      exact ⟨K', ts, i, ⟨by omega, htl, htu, hth, hK'⟩, hH, (hA.sub (by (repeat (first | exact trivial | refine ⟨rfl, ?_⟩))))⟩
    obtain ⟨g, hg⟩ : ∃ g, hs[i]? = some g := ⟨_, List.getElem?_eq_getElem (by omega)⟩
    have hdrop : (hs.drop i).map zT = zT g :: (hs.drop (i + 1)).map zT := by
      obtain ⟨h1, h2⟩ := List.getElem?_eq_some_iff.1 hg
      rw [List.drop_eq_getElem_cons h1, h2]; rfl
    have hbs := brsP_snoc (T := treeP f) (q := c0.q) (l := ll.map ML.un) (hs.take i) g (x - 1)
    rw [← take_next hg] at hbs
    have hble := brsP_le (T := treeP f) (q := c0.q) (l := ll.map ML.un) (fun h s x hs => treeP_le f h s x (by rw [List.length_map] at hs; omega)) (hs.take i) (x - 1)
    rw [List.length_take] at hble
    have hp1 : pos (x - 1) = x - 1 := if_pos (by omega)
    have hp2 : 0 ≤ pos (brsP (treeP f) c0.q (ll.map ML.un) (hs.take i) (x - 1)).2 := by unfold pos; split <;> omega
    have hwi : (ts ++ (hs.drop i).map zT)[i]? = some (zT g) := by rw [hdrop, List.getElem?_append_right (by omega), htl, Nat.sub_self]; rfl
    have hws : (ts ++ (hs.drop i).map zT).set i = fun t => (ts ++ [t]) ++ (hs.drop (i + 1)).map zT := by
      funext t
      rw [hdrop, List.set_append_right (h := by omega), htl, Nat.sub_self, List.append_assoc]
      rfl
    have hvs := flat_all encR_len hwi
    have hvg2 : ∀ j v, ([.int .i64 g.ap.k, .int .i64 g.ap.v, .int .i64 g.ap.n, .string g.ap.s, .slice g.ap.ol g.ap.ls.length g.ap.cl, .slice g.ap.oa g.ap.ps.length g.ap.ca])[j]? = some v → (flat encR (ts ++ (hs.drop i).map zT))[i * 12 + 0 + j]? = some v := fun j v h => by rw [Nat.add_zero]; exact hvs j v (by have := encR_head (zT g) j v h; rw [Nat.zero_add] at this; exact this)
    have hrw2 : ∀ (l2 : List ML), l2.map ML.un = left c0.q g (ll.map ML.un) → (∀ m ∈ l2, Rw m.un) ∧ l2.length ≤ 64 := by
      intro l2 h2
      refine ⟨fun m hm => ?_, ?_⟩
      · refine left_rw (q := c0.q) (h := g) (l := ll.map ML.un) (fun r hr => ?_) m.un (h2 ▸ List.mem_map.2 ⟨m, hm, rfl⟩)
        obtain ⟨s, hs, rfl⟩ := List.mem_map.1 hr
        exact hrw s hs
      · have e1 := congrArg List.length h2
        have e2 := left_len c0.q g (ll.map ML.un)
        rw [List.length_map] at e1 e2
        omega
    have hlen12 : (flat encR (ts ++ (hs.drop i).map zT)).length = N * 12 := hH.own_len (T := 75) (by exact MEMT)
    repeat' (first | (first | (refine GT ?_ ?_ <;> intro hg <;> clear hA a <;> intro a hA <;> (first | exact FA | replace hg := of_decide_eq_true hg | replace hg := of_decide_eq_false hg | skip)) | (refine QT ?_; clear hA a; intro a hA) | (first | (refine BT ?_; clear hA hH; rintro _ w ⟨bN, rfl, hH⟩ a hA) | (refine LT ?_; clear hA hH; rintro _ w ⟨oN, rfl, hH⟩ a hA) | (refine AT ?_; clear hA; rintro _ w ⟨oN, cN, rfl, hH2⟩ a hA; clear hH; have hH := (hH2 _ (by (repeat constructor))).tail; clear hH2) | (refine S0T ?_; clear hH; rintro _ w hH) )) | ((first | refine CT ?_ | (refine DT ?_ ?_ <;> intro hc <;> try (exfalso; omega))) <;> repeat' refine CT ?_) | (first | (refine DSK ?_; clear hA a; intro a hA) | (first | (refine DLT ?_; clear hA hH; rintro _ w ⟨oN, rfl, hH⟩; refine ⟨STT, ?_⟩; intro a hA) | (refine DAT ?_; clear hA; rintro _ w ⟨oN, cN, rfl, hH2⟩; clear hH; have hH := (hH2 _ (by (repeat constructor))).tail; clear hH2; refine ⟨STT, ?_⟩; intro a hA))) )
    (refine wp_draw2_HS (H := [Go.Fw.cb b7 29 [.int .i64 3, .int .i64 0, .slice none 0 0, .slice c0.o c0.q.length c0.c, .slice ob N cb_, .slice none 0 0], own 75 12 ob N cb_ (flat encR (ts ++ (hs.drop i).map zT))]) [(0, 1), (1, 1), (2, 1), (3, 1), (4, 1), (5, 1), (6, 1), (7, 1), (8, 1), (9, 1), (10, 1), (12, 1), (11, 0), (13, 0), (14, 2), (15, 2), (16, 2), (17, 2), (18, 2)] [19,20] mixed (by decide +kernel) ((hH.two 1 0 rfl rfl)) ?_; replace hH := hH.drew)
    repeat' (first | (first | (refine GT ?_ ?_ <;> intro hg <;> clear hA a <;> intro a hA <;> (first | exact FA | replace hg := of_decide_eq_true hg | replace hg := of_decide_eq_false hg | skip)) | ((first | apply st_ex hA hH rfl rfl (by decide) | apply dr_ex hA rfl rfl rfl (by decide) | apply dr_exp hA rfl rfl rfl (by decide) | apply dr_ex3 hA hH rfl rfl rfl (by decide)); (first | (apply ex_load_st (vs := [.int .i64 g.ap.k, .int .i64 g.ap.v, .int .i64 g.ap.n, .string g.ap.s, .slice g.ap.ol g.ap.ls.length g.ap.cl, .slice g.ap.oa g.ap.ps.length g.ap.ca]); rfl; rfl; apply cls_own; exact MEMT; exact hvg2)); clear hA a; intro a hA) | (refine QT ?_; clear hA a; intro a hA) | (first | (refine BT ?_; clear hA hH; rintro _ w ⟨bN, rfl, hH⟩ a hA) | (refine LT ?_; clear hA hH; rintro _ w ⟨oN, rfl, hH⟩ a hA) | (refine AT ?_; clear hA; rintro _ w ⟨oN, cN, rfl, hH2⟩ a hA; clear hH; have hH := (hH2 _ (by (repeat constructor))).tail; clear hH2) | (refine S0T ?_; clear hH; rintro _ w hH) )) | ((first | refine CT ?_ | (refine DT ?_ ?_ <;> intro hc <;> try (exfalso; omega))) <;> repeat' refine CT ?_) | (first | (refine DSK ?_; clear hA a; intro a hA) | (first | (refine DLT ?_; clear hA hH; rintro _ w ⟨oN, rfl, hH⟩; refine ⟨STT, ?_⟩; intro a hA) | (refine DAT ?_; clear hA; rintro _ w ⟨oN, cN, rfl, hH2⟩; clear hH; have hH := (hH2 _ (by (repeat constructor))).tail; clear hH2; refine ⟨STT, ?_⟩; intro a hA))) )
    (refine dr_op hA rfl rfl rfl (by decide) (op_call rfl rfl rfl (rleft_spec _ _ _ _ o c0.o c c0.c ll c0.q g (hH.pk 3 rfl) (fun w hw => ⟨hR w (hKK w (hK' w hw).1), hrQ w (hKK w (hK' w hw).1)⟩) hrw (by omega) (by omega))) ?_; clear hA; rintro _ w ⟨K2, o2, c2, l2, rfl, hK2, hl2, hH⟩; refine ⟨hH.two 2 1 rfl rfl, ?_⟩; intro a hA)
    (refine dr_op hA rfl rfl rfl (by decide) (op_call rfl rfl rfl (ih _ _ _ K2 _ o2 c2 l2 g hH (fun w hw => (hK2 w hw).2) (hrw2 l2 hl2).1 (hrw2 l2 hl2).2 (by omega) (by omega) (by omega))) ?_; clear hA; rintro _ w ⟨K3, t, rfl, hK3, hth3, htu3, hH⟩; refine ⟨hH.two 2 1 rfl rfl, ?_⟩; intro a hA)
    repeat' (first | (first | (refine GT ?_ ?_ <;> intro hg <;> clear hA a <;> intro a hA <;> (first | exact FA | replace hg := of_decide_eq_true hg | replace hg := of_decide_eq_false hg | skip)) | (refine QT ?_; clear hA a; intro a hA) | (first | (refine BT ?_; clear hA hH; rintro _ w ⟨bN, rfl, hH⟩ a hA) | (refine LT ?_; clear hA hH; rintro _ w ⟨oN, rfl, hH⟩ a hA) | (refine AT ?_; clear hA; rintro _ w ⟨oN, cN, rfl, hH2⟩ a hA; clear hH; have hH := (hH2 _ (by (repeat constructor))).tail; clear hH2) | (refine S0T ?_; clear hH; rintro _ w hH) )) | ((first | refine CT ?_ | (refine DT ?_ ?_ <;> intro hc <;> try (exfalso; omega))) <;> repeat' refine CT ?_) | (first | (refine DSK ?_; clear hA a; intro a hA) | (first | (refine DLT ?_; clear hA hH; rintro _ w ⟨oN, rfl, hH⟩; refine ⟨STT, ?_⟩; intro a hA) | (refine DAT ?_; clear hA; rintro _ w ⟨oN, cN, rfl, hH2⟩; clear hH; have hH := (hH2 _ (by (repeat constructor))).tail; clear hH2; refine ⟨STT, ?_⟩; intro a hA))) )
    (apply dr_op03 hA rfl rfl rfl; apply op_store_own (vs := encT t); rfl; rfl; exact hH; (repeat constructor); (rw [hlen12]; omega); exact flat_put encR_len (off := 6) hwi (put_R hth3) (Nat.le_refl 12); clear hH; rintro _ w hH)
    rw [congrFun hws t] at hH
    rw [hl2] at htu3 hA
    repeat' (first | (first | (refine GT ?_ ?_ <;> intro hg <;> clear hA a <;> intro a hA <;> (first | exact FA | replace hg := of_decide_eq_true hg | replace hg := of_decide_eq_false hg | skip)) | (refine QT ?_; clear hA a; intro a hA) | (first | (refine BT ?_; clear hA hH; rintro _ w ⟨bN, rfl, hH⟩ a hA) | (refine LT ?_; clear hA hH; rintro _ w ⟨oN, rfl, hH⟩ a hA) | (refine AT ?_; clear hA; rintro _ w ⟨oN, cN, rfl, hH2⟩ a hA; clear hH; have hH := (hH2 _ (by (repeat constructor))).tail; clear hH2) | (refine S0T ?_; clear hH; rintro _ w hH) )) | ((first | refine CT ?_ | (refine DT ?_ ?_ <;> intro hc <;> try (exfalso; omega))) <;> repeat' refine CT ?_) | (first | (refine DSK ?_; clear hA a; intro a hA) | (first | (refine DLT ?_; clear hA hH; rintro _ w ⟨oN, rfl, hH⟩; refine ⟨STT, ?_⟩; intro a hA) | (refine DAT ?_; clear hA; rintro _ w ⟨oN, cN, rfl, hH2⟩; clear hH; have hH := (hH2 _ (by (repeat constructor))).tail; clear hH2; refine ⟨STT, ?_⟩; intro a hA))) )
    refine ⟨i + 1, ⟨K3, ts ++ [t], ⟨hlt, by rw [len_snoc, htl], ?_, ?_, fun w hw => ?_⟩, hH.perm (by (repeat (first | exact List.Perm.refl _ | exact List.Perm.nil | refine perm_pick 0 rfl ?_ | refine perm_pick 1 rfl ?_ | refine perm_pick 2 rfl ?_ | refine perm_pick 3 rfl ?_ | refine perm_pick 4 rfl ?_ | refine perm_pick 5 rfl ?_ | refine perm_pick 6 rfl ?_ | refine perm_pick 7 rfl ?_ | refine perm_pick 8 rfl ?_ | refine perm_pick 9 rfl ?_ | refine perm_pick 10 rfl ?_ | refine perm_pick 11 rfl ?_))), by rw [hbs]; exact (hA.sub (by (repeat (first | exact trivial | refine ⟨rfl, ?_⟩))))⟩, by omega⟩
    · rw [List.map_append, hbs, htu]
      show _ ++ [t.un] = _
      rw [htu3]
    · rw [List.map_append, hth, take_next hg]
      show _ ++ [t.h] = _
      rw [hth3]
    · have h3 := hK3 w hw
      have h4 := hK' w (hK2 w h3.1).1
      refine ⟨h4.1, fun s hs => ?_⟩
      rcases List.mem_append.1 hs with hs | hs
      · exact h4.2 s hs
      · rw [List.mem_singleton] at hs; subst hs; exact h3.2
  clear hA hH
  rintro a w ⟨K', ts, i, ⟨hi, htl, htu, hth, hK'⟩, hH, hA⟩
  subst hi
  have htk : hs.take i = hs := List.take_of_length_le (by omega)
  have hdr : (hs.drop i).map zT = [] := by rw [List.drop_of_length_le (by omega)]; rfl
  rw [hdr, List.append_nil] at hH
  rw [htk] at htu hth hA
  subst htl
  rw [hhs] at htu hA
  have hble := brsP_le (T := treeP f) (q := c0.q) (l := ll.map ML.un) (fun h s x hs => treeP_le f h s x (by rw [List.length_map] at hs; omega)) (heads c0.q (ll.map ML.un)) (x - 1)
  have hh2 : (heads c0.q (ll.map ML.un)).length ≤ 64 := by rw [← hhs]; exact hhl
  have hp1 : pos (x - 1) = x - 1 := if_pos (by omega)
  have hp2 : 0 ≤ pos (brsP (treeP f) c0.q (ll.map ML.un) (heads c0.q (ll.map ML.un)) (x - 1)).2 := by unfold pos; split <;> omega
  have hlol : lo.length ≤ 64 := by
    have e1 := congrArg List.length hlo
    rw [List.length_map] at e1
    have := restL_len c0.q (ll.map ML.un)
    rw [List.length_map] at this
    omega
  generalize hx1 : (brsP (treeP f) c0.q (ll.map ML.un) (heads c0.q (ll.map ML.un)) (x - 1)).2 = x1 at *
  repeat' (first | (first | (refine GT ?_ ?_ <;> intro hg <;> clear hA a <;> intro a hA <;> (first | exact FA | replace hg := of_decide_eq_true hg | replace hg := of_decide_eq_false hg | skip)) | ((first | apply st_ex hA hH rfl rfl (by decide) | apply dr_ex hA rfl rfl rfl (by decide) | apply dr_exp hA rfl rfl rfl (by decide) | apply dr_ex3 hA hH rfl rfl rfl (by decide)); (first | (apply ex_build_p (encT (zT hd0)).toArray; rfl; (repeat (first | (intro _ h; exact absurd h (List.not_mem_nil)) | (refine List.forall_mem_cons.2 ⟨one_cell_of _ _, ?_⟩))); rfl)); clear hA a; intro a hA) | (refine QT ?_; clear hA a; intro a hA) | (first | (refine BT ?_; clear hA hH; rintro _ w ⟨bN, rfl, hH⟩ a hA) | (refine LT ?_; clear hA hH; rintro _ w ⟨oN, rfl, hH⟩ a hA) | (refine AT ?_; clear hA; rintro _ w ⟨oN, cN, rfl, hH2⟩ a hA; clear hH; have hH := (hH2 _ (by (repeat constructor))).tail; clear hH2) | (refine S0T ?_; clear hH; rintro _ w hH) | (apply st_op0 hA rfl rfl; apply op_store_agg (vs := encT (zT hd0)); rfl; rfl; exact hH; (repeat constructor); (repeat rfl); clear hH; rintro _ w hH))) | ((first | refine CT ?_ | (refine DT ?_ ?_ <;> intro hc <;> try (exfalso; omega))) <;> repeat' refine CT ?_) | (first | (refine DSK ?_; clear hA a; intro a hA) | (first | (refine DLT ?_; clear hA hH; rintro _ w ⟨oN, rfl, hH⟩; refine ⟨STT, ?_⟩; intro a hA) | (refine DAT ?_; clear hA; rintro _ w ⟨oN, cN, rfl, hH2⟩; clear hH; have hH := (hH2 _ (by (repeat constructor))).tail; clear hH2; refine ⟨STT, ?_⟩; intro a hA))) )
  (refine st_op hA rfl rfl (by decide) (op_call rfl rfl rfl (ih _ _ _ K' x1 oo co lo hd0 (hH.pk 4 rfl) (fun w hw => hlm2 w (hK' w hw).1) (fun s hs => hrw s (hlm s hs)) hlol (by omega) (by omega) (by omega))) ?_; clear hA hH; rintro _ w ⟨K3, e, rfl, hK3, hth3, htu3, hH⟩ a hA)
  rw [hlo] at htu3 hA
  replace hH := hH.nil_own 29 6
  repeat' (first | (first | (refine GT ?_ ?_ <;> intro hg <;> clear hA a <;> intro a hA <;> (first | exact FA | replace hg := of_decide_eq_true hg | replace hg := of_decide_eq_false hg | skip)) | (refine QT ?_; clear hA a; intro a hA) | (first | (refine BT ?_; clear hA hH; rintro _ w ⟨bN, rfl, hH⟩ a hA) | (refine LT ?_; clear hA hH; rintro _ w ⟨oN, rfl, hH⟩ a hA) | (refine AT ?_; clear hA; rintro _ w ⟨oN, cN, rfl, hH2⟩ a hA; clear hH; have hH := (hH2 _ (by (repeat constructor))).tail; clear hH2) | (refine S0T ?_; clear hH; rintro _ w hH) | (apply st_op0 hA rfl rfl; apply op_store_agg (vs := encT e); rfl; rfl; exact hH; (repeat constructor); (repeat rfl); clear hH; rintro _ w hH))) | ((first | refine CT ?_ | (refine DT ?_ ?_ <;> intro hc <;> try (exfalso; omega))) <;> repeat' refine CT ?_) | (first | (refine DSK ?_; clear hA a; intro a hA) | (first | (refine DLT ?_; clear hA hH; rintro _ w ⟨oN, rfl, hH⟩; refine ⟨STT, ?_⟩; intro a hA) | (refine DAT ?_; clear hA; rintro _ w ⟨oN, cN, rfl, hH2⟩; clear hH; have hH := (hH2 _ (by (repeat constructor))).tail; clear hH2; refine ⟨STT, ?_⟩; intro a hA))) )
  (apply st_op hA rfl rfl (by decide); apply op_sliceLit (xs := encT e) (vs := [.agg (encT e).toArray]); rfl; rfl; exact (Cats.cn (cs := encT e) Cats.nil); rfl; rfl; rfl; exact hH; clear hA hH; rintro _ w ⟨oN, rfl, hH⟩ a hA)
  repeat' (first | (first | (refine GT ?_ ?_ <;> intro hg <;> clear hA a <;> intro a hA <;> (first | exact FA | replace hg := of_decide_eq_true hg | replace hg := of_decide_eq_false hg | skip)) | (refine QT ?_; clear hA a; intro a hA) | (first | (refine BT ?_; clear hA hH; rintro _ w ⟨bN, rfl, hH⟩ a hA) | (refine LT ?_; clear hA hH; rintro _ w ⟨oN, rfl, hH⟩ a hA) | (refine AT ?_; clear hA; rintro _ w ⟨oN, cN, rfl, hH2⟩ a hA; clear hH; have hH := (hH2 _ (by (repeat constructor))).tail; clear hH2) | (refine S0T ?_; clear hH; rintro _ w hH) )) | ((first | refine CT ?_ | (refine DT ?_ ?_ <;> intro hc <;> try (exfalso; omega))) <;> repeat' refine CT ?_) | (first | (refine DSK ?_; clear hA a; intro a hA) | (first | (refine DLT ?_; clear hA hH; rintro _ w ⟨oN, rfl, hH⟩; refine ⟨STT, ?_⟩; intro a hA) | (refine DAT ?_; clear hA; rintro _ w ⟨oN, cN, rfl, hH2⟩; clear hH; have hH := (hH2 _ (by (repeat constructor))).tail; clear hH2; refine ⟨STT, ?_⟩; intro a hA))) )
  rw [List.nil_append, Nat.zero_add] at hH
  rw [Nat.zero_add] at hA
  (apply st_op0 hA rfl rfl; apply op_store_fld (cs' := [.int .i64 3, .int .i64 0, .slice none 0 0, .slice c0.o c0.q.length c0.c, .slice ob ts.length cb_, .slice oN 1 cN]); rfl; rfl; rfl; exact hH; (repeat constructor); clear hH; rintro _ w hH)
  repeat' (first | (first | (refine GT ?_ ?_ <;> intro hg <;> clear hA a <;> intro a hA <;> (first | exact FA | replace hg := of_decide_eq_true hg | replace hg := of_decide_eq_false hg | skip)) | (refine QT ?_; clear hA a; intro a hA) | (first | (refine BT ?_; clear hA hH; rintro _ w ⟨bN, rfl, hH⟩ a hA) | (refine LT ?_; clear hA hH; rintro _ w ⟨oN, rfl, hH⟩ a hA) | (refine AT ?_; clear hA; rintro _ w ⟨oN, cN, rfl, hH2⟩ a hA; clear hH; have hH := (hH2 _ (by (repeat constructor))).tail; clear hH2) | (refine S0T ?_; clear hH; rintro _ w hH) | (apply st_op0 hA rfl rfl; apply op_store_agg (vs := [.int .i64 3, .int .i64 0, .slice none 0 0, .slice c0.o c0.q.length c0.c, .slice ob ts.length cb_, .slice oN 1 cN]); rfl; rfl; exact hH; (repeat constructor); (repeat rfl); clear hH; rintro _ w hH))) | ((first | refine CT ?_ | (refine DT ?_ ?_ <;> intro hc <;> try (exfalso; omega))) <;> repeat' refine CT ?_) | (first | (refine DSK ?_; clear hA a; intro a hA) | (first | (refine DLT ?_; clear hA hH; rintro _ w ⟨oN, rfl, hH⟩; refine ⟨STT, ?_⟩; intro a hA) | (refine DAT ?_; clear hA; rintro _ w ⟨oN, cN, rfl, hH2⟩; clear hH; have hH := (hH2 _ (by (repeat constructor))).tail; clear hH2; refine ⟨STT, ?_⟩; intro a hA))) )
  have hleE := hH.own_le (T := 29) (xs := encT e) (by exact MEMT)
  have hleB := hH.own_le (T := 75) (xs := flat encR ts) (by exact MEMT)
  have hF := ((((((hH.pk 1 rfl).pk 1 rfl).frz_own.pk 2 rfl).frz_own.er 1).er 1).er 1)
  refine rt2c (vs := encT (MT.mk h 3 0 none 0 [] c0.o c0.c c0.q ob cb_ ts oN cN [e])) (.inl rfl) rfl hA rfl rfl rfl hH (cls_cb_all (by exact MEMT)) ⟨_, MT.mk h 3 0 none 0 [] c0.o c0.c c0.q ob cb_ ts oN cN [e], rfl, ?_, rfl, ?_, hF⟩
  · rintro w ⟨h1, h2, h3⟩
    have h4 := hK3 w h3
    have h5 := hK' w h4.1
    refine ⟨hKK w h5.1, .mk (RdBs_nil w) (hrQ w (hKK w h5.1)) ⟨h1, hleB⟩ ⟨?_, hleE⟩ h5.2 fun s hs => ?_⟩
    · show Rd w oN (flat encT [e])
      rw [flat_one]
      exact h2
    · rw [show s = e from List.mem_singleton.1 hs]
      exact h4.2
  · rw [un_eq]
    show Tr.mk h 3 0 [] c0.q (ts.map MT.un) [e.un] = _
    rw [htu, htu3]
theorem rtree_spec : ∀ (f : Nat), TreeSpecR f
  | 0 => fun w0 w H K x o c l h hH hR hrw hl hx hx1 hx2 => by rw [treeP_neg (by omega)]; exact rtree_stop w0 w H K x o c l h hH (.inl (by omega)) hx1 hx2
  | f + 1 => fun w0 w H K x o c l h hH hR hrw hl hxf hx1 hx2 => by
    by_cases hx : x - 1 < 0
    · rw [treeP_neg hx]; exact rtree_stop w0 w H K x o c l h hH (.inl hx) hx1 hx2
    rw [treeP_s]
    match l, hR, hrw, hl with
    | [], hR, hrw, hl => rw [List.map_nil, treeB_nil]; exact rtree_stop w0 w H K x o c [] h hH (.inr rfl) hx1 hx2
    | m :: l, hR, hrw, hl =>
      match hcs : m.cs with
      | [] =>
        have hcu : m.un.cs = [] := by show m.cs.map MC.un = []; rw [hcs]; rfl
        rw [List.map_cons, treeB_leaf hx hcu]
        exact rtree_leaf w0 w H K x o c m l h hH hR hl hx hx2 hcs
      | c0 :: cs0 =>
        have hcu : m.un.cs = c0.un :: cs0.map MC.un := by show m.cs.map MC.un = _; rw [hcs]; rfl
        rw [List.map_cons, treeB_test hx hcu, ← List.map_cons]
        exact rtree_test f (rtree_spec f) w0 w H K x o c m l h c0 cs0 hH hR hrw hl (by omega) hx hx2 hcs
end Go.Proofs.Ytcododdkjppmjaa
