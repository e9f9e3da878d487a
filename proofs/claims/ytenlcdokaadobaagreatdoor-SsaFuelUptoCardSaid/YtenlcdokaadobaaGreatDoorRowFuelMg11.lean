/-
  ssa.May: exactly. Conditions: none.
  slices.BinarySearch of numbers. Conditions: none.
  What steps do with texts. Conditions: none.
-/
import Derived.Test.YtenlcdokaadobaaGreatDoorRowFuelMg10
import Derived.Test.YtenlcdokaadobaaGreatDoorRowFuelMg7
namespace Go.Proofs.YtenlcdokaadobaaGreatDoor
open Go Go.Fw
set_option linter.unusedVariables false
def gr00 : Gr := ⟨0, nilV⟩
def encD (g : Grs) (f : Gr) (oA : Option Addr) (nA cA : Nat) (p : Int) (e : Option Nat) (oT : Option Addr) (nT cT : Nat) : List Value := [.slice g.fs.o g.fs.l.length g.fs.c, .slice g.ls.o g.ls.l.length g.ls.c, .slice g.ts.o g.ts.l.length g.ts.c, .slice g.xs.o g.xs.l.length g.xs.c, .slice g.ss.o g.ss.l.length g.ss.c,
  .int .i64 f.caps, .slice f.bs.o f.bs.l.length f.bs.c, .slice oA nA cA, .int .i64 p, .map e, .slice oT nT cT]
theorem encD_C (g : Grs) (f : Gr) (oA : Option Addr) (nA cA : Nat) (p : Int) (e : Nat) (oT : Option Addr) (nT cT : Nat) : encD g f oA nA cA p (some e) oT nT cT = encC ⟨g, f, oA, nA, cA, e, oT, nT, cT⟩ p := rfl
theorem map_caps_next {l : List Gr} {i : Nat} {f : Gr} (h : l[i]? = some f) : (l.take (i + 1)).map Gr.caps = (l.take i).map Gr.caps ++ [f.caps] := by rw [take_snoc h, List.map_append]; rfl
theorem map_caps_len {l : List Gr} {i : Nat} (h : i ≤ l.length) : ((l.take i).map Gr.caps).length = i := by rw [List.length_map, List.length_take]; omega
theorem flatF_snoc (o : Option Addr) (l : List Int) (c : Int) : flat (encF o) l ++ encF o c = flat (encF o) (l ++ [c]) := by rw [flat_snoc]
theorem fill_F (o : Option Addr) (c : Int) (z : Array Value) (hz : z.size = 12) : Instr.fill (([(0, 1), (1, 11)] : List (Nat × Nat))[·]?) z [(0, .int .i64 c), (1, .agg (encB o).toArray)] = some (encF o c).toArray := by
  obtain ⟨l⟩ := z
  match l, hz with
  | [z0, z1, z2, z3, z4, z5, z6, z7, z8, z9, z10, z11], _ =>
    simp [Instr.fill, encF, encB, Value.cells]
theorem rep_skb {w0 w : World} {M : Nat → Prop} {H : List It} (h : HS w0 M H w) (n : Nat) : HS w0 M (all ((List.replicate n (none : Option (Nat × List Int))).map sko) :: H) w := by
  refine HS.shut ?_
  induction n with
  | zero => exact h
  | succ n ih =>
    rw [List.replicate_succ, List.map_cons, List.cons_append]
    exact ih.nil_all
set_option maxRecDepth 10000 attribute [local irreducible] Code.wp wpList Calls Ex Op1 sat bat blk cb own Go.Fw.mp Go.Fw.mpO Go.Fw.mpI Go.Fw.mpE Go.Fw.itr HS Rd Ret wkD Hp Cl Cls Exit.then Exit.inBlock Exit.noGoto bodyPost Go.Fw.flat wk2 Go.Fw.all Go.Fw.owns wpOp
attribute [local irreducible] sk mpK sko mvO entK geS

set_option maxHeartbeats 16000000 in
theorem May_spec (w0 : World) (g : Grs) (hR : RdGs w0 g) (hl : g.fs.l.length ≤ 100000) (hbs : ∀ f ∈ g.fs.l, f.bs.l.length ≤ 1048576 ∧ ∀ bl ∈ f.bs.l, bl.e.to.l.length ≤ 1048576) :
    Ret Tryz.prog 14 #[.agg (encGs g).toArray] w0 (fun v w => ∃ b, v = .bool b ∧ Kp w0 noM w ∧ (b = true ↔ MayP g)) := by
  have hH : HS w0 noM [] w0 := HS.init w0 noM
  have hspF : Sp g.fs.o g.fs.l.length := hR.1.1.sp (sz := 2) (flat_length encG_len _) (by omega)
  (refine enter (N := 111) Tryz.func14 rfl Tryz.ntmps14 rfl ?_; intro a hA; dsimp only [sl0, Nat.reduceAdd] at hA)
  repeat' (first | ((first | apply st_ex hA hH rfl rfl (by decide) | apply dr_ex hA rfl rfl rfl (by decide) | apply dr_exp hA rfl rfl rfl (by decide) | apply dr_ex3 hA hH rfl rfl rfl (by decide)); (first | (apply ex_build_p (cs := (encAt at0).toArray); rfl; (repeat (first | (intro _ h; exact absurd h (List.not_mem_nil)) | (refine List.forall_mem_cons.2 ⟨one_cell_of _ _, ?_⟩))); rfl)); clear hA a; intro a hA) | (refine QT ?_; clear hA a; intro a hA) | (refine BT ?_; clear hA hH; rintro _ w ⟨bN, rfl, hH⟩ a hA) | (refine LT ?_; clear hA hH; rintro _ w ⟨oN, rfl, hH⟩ a hA) | (apply st_op hA rfl rfl (by decide); apply op_sliceLit (xs := encAt at0) (vs := [.agg (encAt at0).toArray]); rfl; rfl; exact (Cats.cn (cs := encAt at0) Cats.nil); rfl; rfl; rfl; exact hH; clear hA hH; rintro _ w ⟨oN, rfl, hH⟩ a hA) | (refine CT ?_ <;> repeat' refine CT ?_))
  obtain ⟨oN0, hoN0⟩ : ∃ x, x = oN := ⟨_, rfl⟩
  rw [← hoN0] at hA hH
  clear hoN0 oN
  obtain ⟨b1, hb1⟩ : ∃ x, x = bN := ⟨_, rfl⟩
  rw [← hb1] at hA hH
  clear hb1 bN
  repeat' (first | ((first | apply st_ex hA hH rfl rfl (by decide) | apply dr_ex hA rfl rfl rfl (by decide) | apply dr_exp hA rfl rfl rfl (by decide) | apply dr_ex3 hA hH rfl rfl rfl (by decide)); (first | (apply ex_build (szs := [(0, 1), (1, 1), (2, 1), (3, 1), (4, 1), (5, 4), (9, 1), (10, 1)]) (cs := (encB oN0).toArray); exact run_szl (by (repeat (first | exact SzL.nil | refine SzL.cons ⟨_, rfl, by decide⟩ ?_))); rfl; rfl)); clear hA a; intro a hA) | (refine QT ?_; clear hA a; intro a hA) | (refine BT ?_; clear hA hH; rintro _ w ⟨bN, rfl, hH⟩ a hA) | (apply st_op0 hA rfl rfl; apply op_store_agg (vs := encB oN0); rfl; rfl; exact hH; (repeat constructor); (repeat rfl); clear hH; rintro _ w hH) | (refine CT ?_ <;> repeat' refine CT ?_))
  obtain ⟨b3, hb3⟩ : ∃ x, x = bN := ⟨_, rfl⟩
  rw [← hb3] at hA hH
  clear hb3 bN
  repeat' (first | ((first | apply st_ex hA hH rfl rfl (by decide) | apply dr_ex hA rfl rfl rfl (by decide) | apply dr_exp hA rfl rfl rfl (by decide) | apply dr_ex3 hA hH rfl rfl rfl (by decide)); (first | (apply ex_build_p (cs := (encP none 0 0 g).toArray); rfl; (repeat (first | (intro _ h; exact absurd h (List.not_mem_nil)) | (refine List.forall_mem_cons.2 ⟨one_cell_of _ _, ?_⟩))); rfl)); clear hA a; intro a hA) | (refine QT ?_; clear hA a; intro a hA) | (refine BT ?_; clear hA hH; rintro _ w ⟨bN, rfl, hH⟩ a hA) | (apply st_op0 hA rfl rfl; apply op_store_agg (vs := encP none 0 0 g); rfl; rfl; exact hH; (repeat constructor); (repeat rfl); clear hH; rintro _ w hH) | (refine CT ?_ <;> repeat' refine CT ?_))
  obtain ⟨b4, hb4⟩ : ∃ x, x = bN := ⟨_, rfl⟩
  rw [← hb4] at hA hH
  clear hb4 bN
  refine wp_lpk (S := Nat) (fun i a w => ∃ oF cF, i ≤ g.fs.l.length ∧ HS w0 noM [cb b4 34 (encP oF i cF g), own 72 12 oF i cF (flat (encF oN0) ((g.fs.l.take i).map Gr.caps)), cb b3 70 (encB oN0), own 65 2 oN0 1 1 (encAt at0), cb b1 25 (encGs g)] w ∧
      Sl 111 [(28, .int .i64 i), (27, .int .i64 g.fs.l.length), (26, .slice g.fs.o g.fs.l.length g.fs.c), (4, .pointer (some (bat b4 0))), (3, .pointer (some (bat b3 0))), (2, .bool false), (1, .pointer (some (bat b1 0)))] a) (fun i => g.fs.l.length - i)
    (fun a w => ∃ oF cF, HS w0 noM [cb b4 34 (encP oF g.fs.l.length cF g), own 72 12 oF g.fs.l.length cF (flat (encF oN0) ((g.fs.l.take g.fs.l.length).map Gr.caps)), cb b3 70 (encB oN0), own 65 2 oN0 1 1 (encAt at0), cb b1 25 (encGs g)] w ∧
      Sl 111 [(4, .pointer (some (bat b4 0))), (2, .bool false), (1, .pointer (some (bat b1 0)))] a) 0 ⟨none, 0, Nat.zero_le _, (by rw [List.take_zero]; exact (hH.nil_flat (encF oN0) 72 12).perm (by (repeat (first | exact List.Perm.refl _ | exact List.Perm.nil | refine perm_pick 0 rfl ?_ | refine perm_pick 1 rfl ?_ | refine perm_pick 2 rfl ?_ | refine perm_pick 3 rfl ?_ | refine perm_pick 4 rfl ?_ | refine perm_pick 5 rfl ?_ | refine perm_pick 6 rfl ?_ | refine perm_pick 7 rfl ?_ | refine perm_pick 8 rfl ?_ | refine perm_pick 9 rfl ?_ | refine perm_pick 10 rfl ?_ | refine perm_pick 11 rfl ?_)))), (hA.sub (by (repeat (first | exact trivial | refine ⟨rfl, ?_⟩)); first | done | fail "sub"))⟩ ?_ ?_
  · clear hA hH
    rintro i a w ⟨oF, cF, hi, hH, hA⟩
    by_cases hlt : i < g.fs.l.length
    rotate_left
    · obtain rfl : i = g.fs.l.length := by omega
      repeat' (first | (refine QT ?_; clear hA a; intro a hA) | ((first | refine CT ?_ | (refine DT ?_ ?_ <;> intro hc <;> try (exfalso; omega))) <;> repeat' refine CT ?_))
      exact ⟨oF, cF, hH, (hA.sub (by (repeat (first | exact trivial | refine ⟨rfl, ?_⟩)); first | done | fail "sub"))⟩
    obtain ⟨f, hf⟩ : ∃ x, g.fs.l[i]? = some x := ⟨_, List.getElem?_eq_getElem hlt⟩
    have hvf := flat_all encG_len hf
    have hcl := map_caps_len (l := g.fs.l) hi
    repeat' (first | ((first | apply st_ex hA hH rfl rfl (by decide) | apply dr_ex hA rfl rfl rfl (by decide) | apply dr_exp hA rfl rfl rfl (by decide) | apply dr_ex3 hA hH rfl rfl rfl (by decide)); (first | (apply ex_load_st (vs := encG f); rfl; rfl; exact cls_rd hR.1.1 id hvf) | (apply ex_indexAddr_nat; rfl; rfl; omega; exact hspF)); clear hA a; intro a hA) | (refine QT ?_; clear hA a; intro a hA) | (refine BT ?_; clear hA hH; rintro _ w ⟨bN, rfl, hH⟩ a hA) | (apply st_op0 hA rfl rfl; apply op_store_agg (vs := encG f); rfl; rfl; exact hH; (repeat constructor); (repeat rfl); clear hH; rintro _ w hH) | ((first | refine CT ?_ | (refine DT ?_ ?_ <;> intro hc <;> try (exfalso; omega))) <;> repeat' refine CT ?_))
    (refine st_ex hA hH rfl rfl (by decide) (ex_build (szs := [(0, 1), (1, 11)]) (cs := (encF oN0 f.caps).toArray) (run_szl (.cons ⟨_, rfl, by decide⟩ (.cons ⟨_, rfl, by decide⟩ .nil))) rfl (fill_F oN0 f.caps _ rfl)) ?_; clear hA a; intro a hA)
    obtain ⟨fc, hfc⟩ : ∃ x, x = encF oN0 f.caps := ⟨_, rfl⟩
    have hfl : fc.length = 12 := by rw [hfc]; rfl
    have hfo : fc.all (·.oneCell') = true := by rw [hfc]; rfl
    rw [← hfc] at hA
    have hcats : Cats 12 [.agg fc.toArray] fc := by
      have h := Cats.cn (cs := fc) Cats.nil
      rw [hfl, List.append_nil] at h
      exact h
    (apply st_op hA rfl rfl (by decide); apply op_sliceLit (xs := fc) (vs := [.agg fc.toArray]); rfl; rfl; exact hcats; rfl; rfl; rfl; exact hH; clear hA hH; rintro _ w ⟨oL, rfl, hH⟩ a hA)
    (apply st_op hA rfl rfl (by decide); apply op_append; rfl; rfl; exact hH; exact MEMT; exact (hH.own_rd (List.Mem.head _)); exact hfl; rfl; decide; exact hfo; (unfold maxLen; omega); omega; clear hA; rintro _ w ⟨oN, cN, rfl, hH2⟩ a hA; clear hH; have hH := hH2 _ (by (repeat constructor)); clear hH2)
    rw [hfc, flatF_snoc, ← map_caps_next hf] at hH
    repeat' (first | (refine QT ?_; clear hA a; intro a hA) | (apply st_op0 hA rfl rfl; apply op_store_fld (cs' := encP oN (i + 1) cN g); rfl; rfl; rfl; exact hH; (repeat constructor); clear hH; rintro _ w hH) | (refine CT ?_ <;> repeat' refine CT ?_))
    exact ⟨i + 1, ⟨oN, cN, hlt, (((hH.rm 0).rm 0).perm (by (repeat (first | exact List.Perm.refl _ | exact List.Perm.nil | refine perm_pick 0 rfl ?_ | refine perm_pick 1 rfl ?_ | refine perm_pick 2 rfl ?_ | refine perm_pick 3 rfl ?_ | refine perm_pick 4 rfl ?_ | refine perm_pick 5 rfl ?_ | refine perm_pick 6 rfl ?_ | refine perm_pick 7 rfl ?_ | refine perm_pick 8 rfl ?_ | refine perm_pick 9 rfl ?_ | refine perm_pick 10 rfl ?_ | refine perm_pick 11 rfl ?_)))), (hA.sub (by (repeat (first | exact trivial | refine ⟨rfl, ?_⟩)); first | done | fail "sub"))⟩, by omega⟩
  clear hA hH
  rintro a w ⟨oF, cF, hH, hA⟩
  rw [List.take_length] at hH
  obtain ⟨cl, hcl⟩ : ∃ x, x = g.fs.l.map Gr.caps := ⟨_, rfl⟩
  have hcll : cl.length = g.fs.l.length := by rw [hcl, List.length_map]
  rw [← hcl, ← hcll] at hH
  repeat' (first | (refine QT ?_; clear hA a; intro a hA) | (refine CT ?_ <;> repeat' refine CT ?_))
  have hcl0 := hcl
  (refine st_op hA rfl rfl (by decide) (op_call rfl rfl rfl (anfMay_spec _ oF cF cl oN0 g (hH.own_rd (.tail _ (.head _))) (hH.own_rd (T := 65) (n := 1) (cap := 1) (sz := 2) (by exact MEMT)) (by omega) (hR.2.2.1.keep hH.kp) (hR.2.2.2.1.keep hH.kp) (hR.2.2.2.2.1.keep hH.kp) (hR.2.2.2.2.2.keep hH.kp))) ?_; clear hA; rintro _ w ⟨b, rfl, hbA, hk⟩ a hA; replace hH := hH.keep hk; clear hk)
  rw [hcl] at hbA
  repeat' (first | ((first | apply st_ex hA hH rfl rfl (by decide) | apply dr_ex hA rfl rfl rfl (by decide) | apply dr_exp hA rfl rfl rfl (by decide) | apply dr_ex3 hA hH rfl rfl rfl (by decide)); (first | (apply ex_build (szs := [(0, 5), (5, 2), (7, 1), (8, 1), (9, 1), (10, 1)]) (cs := (encD g gr00 none 0 0 0 none none 0 0).toArray); exact run_szl (by (repeat (first | exact SzL.nil | refine SzL.cons ⟨_, rfl, by decide⟩ ?_))); rfl; rfl)); clear hA a; intro a hA) | (refine QT ?_; clear hA a; intro a hA) | (refine BT ?_; clear hA hH; rintro _ w ⟨bN, rfl, hH⟩ a hA) | ((first | refine CT ?_ | (refine DT ?_ ?_ <;> intro hc <;> try (exfalso; omega))) <;> repeat' refine CT ?_))
  · exact rt1 (.inl rfl) rfl hA rfl ⟨_, rfl, hH.kp, may_no (fun h => nb_no hbA (by assumption) h.anf)⟩
  have hanf := nb_yes hbA (by assumption)
  clear hbA
  obtain ⟨bC, hbC⟩ : ∃ x, x = bN := ⟨_, rfl⟩
  rw [← hbC] at hA hH
  clear hbC bN
  refine wp_lpk (S := Nat) (fun i a w => ∃ oA cA, i ≤ g.fs.l.length ∧ HS w0 noM [cb bC 112 (encD g gr00 oA i cA 0 none none 0 0), own 3 1 oA i cA (flat Fw.encI ((g.fs.l.take i).map Gr.caps)), cb b1 25 (encGs g)] w ∧
      Sl 111 [(51, .int .i64 i), (50, .int .i64 g.fs.l.length), (49, .slice g.fs.o g.fs.l.length g.fs.c), (7, .pointer (some (bat bC 0))), (2, .bool false), (1, .pointer (some (bat b1 0)))] a) (fun i => g.fs.l.length - i)
    (fun a w => ∃ oA cA, HS w0 noM [cb bC 112 (encD g gr00 oA g.fs.l.length cA 0 none none 0 0), own 3 1 oA g.fs.l.length cA (flat Fw.encI ((g.fs.l.take g.fs.l.length).map Gr.caps)), cb b1 25 (encGs g)] w ∧
      Sl 111 [(7, .pointer (some (bat bC 0))), (2, .bool false), (1, .pointer (some (bat b1 0)))] a) 0 ⟨none, 0, Nat.zero_le _, (by rw [List.take_zero]; exact HS.left (H1 := [_, _, _]) ((hH.nil_flat Fw.encI 3 1).perm (by (repeat (first | exact List.Perm.refl _ | exact List.Perm.nil | refine perm_pick 0 rfl ?_ | refine perm_pick 1 rfl ?_ | refine perm_pick 2 rfl ?_ | refine perm_pick 3 rfl ?_ | refine perm_pick 4 rfl ?_ | refine perm_pick 5 rfl ?_ | refine perm_pick 6 rfl ?_ | refine perm_pick 7 rfl ?_ | refine perm_pick 8 rfl ?_ | refine perm_pick 9 rfl ?_ | refine perm_pick 10 rfl ?_ | refine perm_pick 11 rfl ?_))))), (hA.sub (by (repeat (first | exact trivial | refine ⟨rfl, ?_⟩)); first | done | fail "sub"))⟩ ?_ ?_
  · clear hA hH
    rintro i a w ⟨oA, cA, hi, hH, hA⟩
    by_cases hlt : i < g.fs.l.length
    rotate_left
    · obtain rfl : i = g.fs.l.length := by omega
      repeat' (first | (refine QT ?_; clear hA a; intro a hA) | ((first | refine CT ?_ | (refine DT ?_ ?_ <;> intro hc <;> try (exfalso; omega))) <;> repeat' refine CT ?_))
      exact ⟨oA, cA, hH, (hA.sub (by (repeat (first | exact trivial | refine ⟨rfl, ?_⟩)); first | done | fail "sub"))⟩
    obtain ⟨f, hf⟩ : ∃ x, g.fs.l[i]? = some x := ⟨_, List.getElem?_eq_getElem hlt⟩
    have hvf := flat_all encG_len hf
    repeat' (first | ((first | apply st_ex hA hH rfl rfl (by decide) | apply dr_ex hA rfl rfl rfl (by decide) | apply dr_exp hA rfl rfl rfl (by decide) | apply dr_ex3 hA hH rfl rfl rfl (by decide)); (first | (apply ex_load_st (vs := encG f); rfl; rfl; exact cls_rd hR.1.1 id hvf) | (apply ex_indexAddr_nat; rfl; rfl; omega; exact hspF)); clear hA a; intro a hA) | (refine QT ?_; clear hA a; intro a hA) | (refine BT ?_; clear hA hH; rintro _ w ⟨bN, rfl, hH⟩ a hA) | (apply st_op0 hA rfl rfl; apply op_store_agg (vs := encG f); rfl; rfl; exact hH; (repeat constructor); (repeat rfl); clear hH; rintro _ w hH) | ((first | refine CT ?_ | (refine DT ?_ ?_ <;> intro hc <;> try (exfalso; omega))) <;> repeat' refine CT ?_))
    have hST : HS w0 noM [cb bN 44 (encG f), cb bC 112 (encD g gr00 oA i cA 0 none none 0 0)] w := HS.left (H1 := [_, _]) hH
    (refine wp_draw2_HS (H := [_, _]) [(0, 1), (1, 1), (2, 1), (3, 1), (4, 1), (5, 1), (6, 1), (7, 0), (8, 0), (9, 1), (10, 1)] [11] mixed (by decide +kernel) (hST) ?_; replace hH := hH.drew)
    clear hST
    repeat' (first | (refine QT ?_; clear hA a; intro a hA) | (refine DLT ?_; clear hA hH; rintro _ w ⟨oN, rfl, hH⟩; refine ⟨STT, ?_⟩; intro a hA))
    (apply dr_op hA rfl rfl rfl (by decide); apply op_sliceLit; rfl; rfl; exact CATST; rfl; rfl; rfl; exact hH; clear hA hH; rintro _ w ⟨oN, rfl, hH⟩; refine ⟨HS.left (H1 := [_, _]) hH.tail, ?_⟩; intro a hA)
    (apply dr_op hA rfl rfl rfl (by decide); apply op_append; rfl; rfl; exact hH; exact MEMT; exact (hH.own_rd (List.Mem.head _)); exact rfl; rfl; decide; exact rfl; (unfold maxLen; omega); omega; clear hA; rintro _ w ⟨oN, cN, rfl, hH2⟩; clear hH; have hH := hH2 _ (by (repeat constructor)); clear hH2; refine ⟨HS.left (H1 := [_, _]) hH.tail, ?_⟩; intro a hA)
    rw [flatI_s, ← map_caps_next hf] at hH
    repeat' (first | (refine QT ?_; clear hA a; intro a hA) | (refine CT ?_ <;> repeat' refine CT ?_))
    (apply dr_op03 hA rfl rfl rfl; apply op_store_fld (cs' := encD g gr00 oN (i + 1) cN 0 none none 0 0); rfl; rfl; rfl; exact hH; (repeat constructor); clear hH; rintro _ w hH)
    repeat' (first | (refine QT ?_; clear hA a; intro a hA) | (refine CT ?_ <;> repeat' refine CT ?_))
    exact ⟨i + 1, ⟨oN, cN, hlt, (((hH.rm 0).rm 0).perm (by (repeat (first | exact List.Perm.refl _ | exact List.Perm.nil | refine perm_pick 0 rfl ?_ | refine perm_pick 1 rfl ?_ | refine perm_pick 2 rfl ?_ | refine perm_pick 3 rfl ?_ | refine perm_pick 4 rfl ?_ | refine perm_pick 5 rfl ?_ | refine perm_pick 6 rfl ?_ | refine perm_pick 7 rfl ?_ | refine perm_pick 8 rfl ?_ | refine perm_pick 9 rfl ?_ | refine perm_pick 10 rfl ?_ | refine perm_pick 11 rfl ?_)))), (hA.sub (by (repeat (first | exact trivial | refine ⟨rfl, ?_⟩)); first | done | fail "sub"))⟩, by omega⟩
  clear hA hH
  rintro a w ⟨oA, cA, hH, hA⟩
  rw [List.take_length, ← hcl, ← hcll] at hH
  repeat' (first | (refine QT ?_; clear hA a; intro a hA) | (refine CT ?_ <;> repeat' refine CT ?_))
  refine wp_lpk (S := Nat) (fun i a w => ∃ f e oT nT cT, ∃ p : Int, (i ≤ g.fs.l.length ∧ p = (grS g i : Int) ∧ p ≤ 65536 ∧ ∀ k f, g.fs.l[k]? = some f → k < i → GrP g (g.fs.l.map Gr.caps) f) ∧ HS w0 noM [cb bC 112 (encD g f oA cl.length cA p e oT nT cT), own 3 1 oA cl.length cA (flat Fw.encI cl), cb b1 25 (encGs g)] w ∧
      Sl 111 [(70, .int .i64 i), (69, .int .i64 g.fs.l.length), (68, .slice g.fs.o g.fs.l.length g.fs.c), (7, .pointer (some (bat bC 0))), (2, .bool false), (1, .pointer (some (bat b1 0)))] a) (fun i => g.fs.l.length - i)
    (fun a w => MayP g ∧ HS w0 noM [] w ∧ Sl 111 [] a) 0 ⟨gr00, none, none, 0, 0, 0, ⟨Nat.zero_le _, rfl, by decide, fun k f hk h => absurd h (Nat.not_lt_zero _)⟩, hH, (hA.sub (by (repeat (first | exact trivial | refine ⟨rfl, ?_⟩)); first | done | fail "sub"))⟩ ?_ ?_
  · clear hA hH
    rintro i a w ⟨f0, e0, oT0, nT0, cT0, p, ⟨hi, hp0, hp1, hok⟩, hH, hA⟩
    by_cases hlt : i < g.fs.l.length
    rotate_left
    · obtain rfl : i = g.fs.l.length := by omega
      repeat' (first | (refine QT ?_; clear hA a; intro a hA) | ((first | refine CT ?_ | (refine DT ?_ ?_ <;> intro hc <;> try (exfalso; omega))) <;> repeat' refine CT ?_))
      refine ⟨⟨hanf, fun f hf => ?_, by rw [← grS_all]; omega⟩, hH.tail.tail.tail, (hA.sub (by (repeat (first | exact trivial | refine ⟨rfl, ?_⟩)); first | done | fail "sub"))⟩
      obtain ⟨k, hk⟩ := List.getElem?_of_mem hf
      exact hok k f hk (List.getElem?_eq_some_iff.1 hk).1
    obtain ⟨f, hf⟩ : ∃ x, g.fs.l[i]? = some x := ⟨_, List.getElem?_eq_getElem hlt⟩
    have hfm := List.mem_of_getElem? hf
    have hRf := hR.2.1 f hfm
    obtain ⟨hfb, hto⟩ := hbs f hfm
    have hvf := flat_all encG_len hf
    repeat' (first | ((first | apply st_ex hA hH rfl rfl (by decide) | apply dr_ex hA rfl rfl rfl (by decide) | apply dr_exp hA rfl rfl rfl (by decide) | apply dr_ex3 hA hH rfl rfl rfl (by decide)); (first | (apply ex_load_st (vs := encG f); rfl; rfl; exact cls_rd hR.1.1 id hvf) | (apply ex_indexAddr_nat; rfl; rfl; omega; exact hspF)); clear hA a; intro a hA) | (refine QT ?_; clear hA a; intro a hA) | (refine BT ?_; clear hA hH; rintro _ w ⟨bN, rfl, hH⟩ a hA) | (apply st_op0 hA rfl rfl; apply op_store_agg (vs := encG f); rfl; rfl; exact hH; (repeat constructor); (repeat rfl); clear hH; rintro _ w hH) | ((first | refine CT ?_ | (refine DT ?_ ?_ <;> intro hc <;> try (exfalso; omega))) <;> repeat' refine CT ?_))
    have hST : HS w0 noM [cb bN 44 (encG f)] w := HS.left (H1 := [_]) hH
    obtain ⟨b11, hb11⟩ : ∃ x, x = bN := ⟨_, rfl⟩
    rw [← hb11] at hA hH hST
    clear hb11 bN
    refine wp_drawT3 (qs3 [0, 1, 2, 3, 5, 6, 7] (.q 9 (.q 10 (.three 4 8 11 (.two 8 11 (.one 11 (.q 12 (.q 13 (.one 14 (.q 15 (.q 16 (.one 17 .nil))))))) (.q 12 (.q 13 (.two 8 14 (.one 14 (.q 15 (.q 16 (.one 17 .nil)))) (.one 8 (.q 15 (.q 16 (.one 17 .nil)))))))) (.two 4 11 (.one 11 (.q 12 (.q 13 (.one 14 (.q 15 (.q 16 (.one 17 .nil))))))) (.one 4 (.q 12 (.q 13 (.one 14 (.q 15 (.q 16 (.one 17 .nil)))))))) (.two 4 8 (.q 12 (.q 13 (.two 8 14 (.one 14 (.q 15 (.q 16 (.one 17 .nil)))) (.one 8 (.q 15 (.q 16 (.one 17 .nil))))))) (.one 4 (.q 12 (.q 13 (.one 14 (.q 15 (.q 16 (.one 17 .nil)))))))))))) (fun a w => ∃ bE oT, HS w0 noM [cb bC 112 (encD g f oA cl.length cA p (some bE) oT f.bs.l.length f.bs.l.length), sk bE [], own 109 1 oT f.bs.l.length f.bs.l.length (flat encO (List.replicate f.bs.l.length (none : Option (Nat × List Int)))), cb b11 44 (encG f), own 3 1 oA cl.length cA (flat Fw.encI cl), cb b1 25 (encGs g)] w ∧
      Sl 111 [(11, .pointer (some (bat b11 0))), (70, .int .i64 i), (69, .int .i64 g.fs.l.length), (68, .slice g.fs.o g.fs.l.length g.fs.c), (7, .pointer (some (bat bC 0))), (2, .bool false), (1, .pointer (some (bat b1 0)))] a) mixed (by decide +kernel) hST ?_ ?_
    · clear hST
      replace hH := hH.drew
      repeat' (first | apply d3_three | apply d3_two | (apply d3_ex hA rfl rfl rfl (by decide); exact EXT; clear hA a; intro a hA) | (refine d3_op hA rfl rfl rfl (by decide) (op_makeMapK hH) ?_; clear hA hH; rintro _ w ⟨bE, rfl, hH⟩; refine ⟨hH.pick (by exact MEMT), ?_⟩; intro a hA) | (apply d3_op hA rfl rfl rfl (by decide); apply op_make1 encO (none : Option (Nat × List Int)) (n := f.bs.l.length); rfl; rfl; omega; omega; (unfold maxLen; omega); omega; rfl; rfl; exact hH; clear hA hH; rintro _ w ⟨oT, rfl, hH⟩; refine ⟨hH.pick (by exact MEMT), ?_⟩; intro a hA) | (refine d3_op0 hA rfl rfl rfl (op_store_cb (vs := encG f) (cs' := encD g f oA cl.length cA p e0 oT0 nT0 cT0) rfl rfl hH (by (repeat constructor)) rfl rfl rfl (Nat.le_of_ble_eq_true rfl) rfl) ?_; clear hH; rintro _ w hH; refine ⟨hH.pick (by exact MEMT), ?_⟩) | (refine d3_op0 hA rfl rfl rfl (op_store_fld (cs' := encD g f oA cl.length cA p (some bE) oT0 nT0 cT0) rfl rfl rfl hH (by (repeat constructor)) rfl rfl) ?_; clear hH; rintro _ w hH; refine ⟨hH.pick (by exact MEMT), ?_⟩) | (refine d3_op0 hA rfl rfl rfl (op_store_fld (cs' := encD g f oA cl.length cA p (some bE) oT f.bs.l.length f.bs.l.length) rfl rfl rfl hH (by (repeat constructor)) rfl rfl) ?_; clear hH; rintro _ w hH; refine ⟨hH.pick (by exact MEMT), ?_⟩))
      all_goals exact ⟨_, _, hH.perm (by (repeat (first | exact List.Perm.refl _ | exact List.Perm.nil | refine perm_pick 0 rfl ?_ | refine perm_pick 1 rfl ?_ | refine perm_pick 2 rfl ?_ | refine perm_pick 3 rfl ?_ | refine perm_pick 4 rfl ?_ | refine perm_pick 5 rfl ?_ | refine perm_pick 6 rfl ?_ | refine perm_pick 7 rfl ?_ | refine perm_pick 8 rfl ?_ | refine perm_pick 9 rfl ?_ | refine perm_pick 10 rfl ?_ | refine perm_pick 11 rfl ?_))), (hA.sub (by (repeat (first | exact trivial | refine ⟨rfl, ?_⟩)); first | done | fail "sub"))⟩
    clear hA hH hST
    rintro a w ⟨bE, oT, hH, hA⟩
    repeat' (first | (refine QT ?_; clear hA a; intro a hA) | ((first | refine CT ?_ | (refine DT ?_ ?_ <;> intro hc <;> try (exfalso; omega))) <;> repeat' refine CT ?_))
    · exact rt1 (.inl rfl) rfl hA rfl ⟨_, rfl, hH.kp, may_no (fun h => (by have := (h.gr f hfm).ne; omega))⟩
    have hne : 0 < f.bs.l.length := by omega
    have hspT : Sp oT f.bs.l.length := hH.own_sp (T := 109) (.tail _ (.tail _ (.head _)))
    (refine st_op hA rfl rfl (by decide) (op_makeMapK hH) ?_; clear hA hH; rintro _ w ⟨b0, rfl, hH⟩ a hA)
    repeat' (first | ((first | apply st_ex hA hH rfl rfl (by decide) | apply dr_ex hA rfl rfl rfl (by decide) | apply dr_exp hA rfl rfl rfl (by decide) | apply dr_ex3 hA hH rfl rfl rfl (by decide)); (first | (apply ex_indexAddr; rfl; rfl; decide; omega; exact hspT)); clear hA a; intro a hA) | (refine QT ?_; clear hA a; intro a hA) | (apply st_op0 hA rfl rfl; apply op_set1 (enc := encO) (y0 := some (b0, [])); rfl; rfl; rfl; rfl; exact encO_len; exact hH; (repeat constructor); (rw [List.length_replicate]; exact hne); clear hH; rintro _ w hH) | (refine CT ?_ <;> repeat' refine CT ?_))
    obtain ⟨tc0, htc0⟩ : ∃ x, x = (List.replicate f.bs.l.length (none : Option (Nat × List Int))).set 0 (some (b0, [])) := ⟨_, rfl⟩
    have htz : Int.toNat 0 * 1 = 0 := rfl
    rw [htz, ← htc0] at hH
    have hl0 : 0 < ((List.replicate f.bs.l.length (none : Option (Nat × List Int))).map sko).length := by rw [List.length_map, List.length_replicate]; exact hne
    have hH1 := (rep_skb hH f.bs.l.length).openAt (List.getElem?_eq_getElem hl0)
    clear hH
    have hH := ((hH1.tail).perm (H' := sk b0 [] :: all (((List.replicate f.bs.l.length (none : Option (Nat × List Int))).map sko).eraseIdx 0) :: cb bC 112 (encD g f oA cl.length cA p (some bE) oT f.bs.l.length f.bs.l.length) :: sk bE [] :: own 109 1 oT f.bs.l.length f.bs.l.length (flat encO tc0) :: cb b11 44 (encG f) :: own 3 1 oA cl.length cA (flat Fw.encI cl) :: cb b1 25 (encGs g) :: []) (by (repeat (first | exact List.Perm.refl _ | exact List.Perm.nil | refine perm_pick 0 rfl ?_ | refine perm_pick 1 rfl ?_ | refine perm_pick 2 rfl ?_ | refine perm_pick 3 rfl ?_ | refine perm_pick 4 rfl ?_ | refine perm_pick 5 rfl ?_ | refine perm_pick 6 rfl ?_ | refine perm_pick 7 rfl ?_ | refine perm_pick 8 rfl ?_ | refine perm_pick 9 rfl ?_ | refine perm_pick 10 rfl ?_ | refine perm_pick 11 rfl ?_)))).shutAt hl0
    clear hH1
    rw [sko_sets, ← htc0, encD_C] at hH
    have hinv := linv_0 g f cl b0 p hp1 hne
    rw [← htc0] at hinv
    clear htc0
    obtain ⟨p0, hpp⟩ : ∃ x, x = p := ⟨_, rfl⟩
    rw [← hpp] at hH
    have hinv0 := hinv
    rw [← hpp] at hinv0 hp0 hp1
    clear hinv
    have hinv := hinv0
    clear hinv0 hpp p
    obtain ⟨c, hcE⟩ : ∃ x : Ck, x = ⟨g, f, oA, cl.length, cA, bE, oT, f.bs.l.length, f.bs.l.length⟩ := ⟨_, rfl⟩
    rw [← hcE] at hH
    refine wp_lpk (S := Nat) (fun n a w => ∃ tc th, ∃ p : Int, (n ≤ f.bs.l.length ∧ LInv g f cl p0 n th p ∧ tc.length = th.length ∧ ∀ m, n ≤ m → tc[m]? = th[m]?) ∧ HS w0 noM [cb bC 112 (encC c p), sk bE (evs f n), own 109 1 oT f.bs.l.length f.bs.l.length (flat encO tc), all (th.map sko), cb b11 44 (encG f), own 3 1 oA cl.length cA (flat Fw.encI cl), cb b1 25 (encGs g)] w ∧
        Sl 111 [(102, .int .i64 n), (101, .int .i64 f.bs.l.length), (100, .slice f.bs.o f.bs.l.length f.bs.c), (70, .int .i64 i), (69, .int .i64 g.fs.l.length), (68, .slice g.fs.o g.fs.l.length g.fs.c), (7, .pointer (some (bat bC 0))), (2, .bool false), (1, .pointer (some (bat b1 0)))] a) (fun n => f.bs.l.length - n)
      (fun a w => ∃ p : Int, (GrP g cl f ∧ p = p0 + grN f ∧ p ≤ 65536) ∧ HS w0 noM [cb bC 112 (encC c p), own 3 1 oA cl.length cA (flat Fw.encI cl), cb b1 25 (encGs g)] w ∧
        Sl 111 [(70, .int .i64 i), (69, .int .i64 g.fs.l.length), (68, .slice g.fs.o g.fs.l.length g.fs.c), (7, .pointer (some (bat bC 0))), (2, .bool false), (1, .pointer (some (bat b1 0)))] a) 0
      ⟨tc0, tc0, p0, ⟨Nat.zero_le _, hinv, rfl, fun m _ => rfl⟩, hH.perm (by (repeat (first | exact List.Perm.refl _ | exact List.Perm.nil | refine perm_pick 0 rfl ?_ | refine perm_pick 1 rfl ?_ | refine perm_pick 2 rfl ?_ | refine perm_pick 3 rfl ?_ | refine perm_pick 4 rfl ?_ | refine perm_pick 5 rfl ?_ | refine perm_pick 6 rfl ?_ | refine perm_pick 7 rfl ?_ | refine perm_pick 8 rfl ?_ | refine perm_pick 9 rfl ?_ | refine perm_pick 10 rfl ?_ | refine perm_pick 11 rfl ?_))), (hA.sub (by (repeat (first | exact trivial | refine ⟨rfl, ?_⟩)); first | done | fail "sub"))⟩ ?_ ?_
    · clear hA hH hinv hl0
      rintro n a w ⟨tc, th, p, ⟨hn, hinv, htl, hag⟩, hH, hA⟩
      have hsz := hinv.size
      have htp := hinv.top
      by_cases hltn : n < f.bs.l.length
      rotate_left
      · obtain rfl : n = f.bs.l.length := by omega
        repeat' (first | (refine QT ?_; clear hA a; intro a hA) | ((first | refine CT ?_ | (refine DT ?_ ?_ <;> intro hc <;> try (exfalso; omega))) <;> repeat' refine CT ?_))
        exact ⟨p, ⟨(linv_end hinv hne).1, (linv_end hinv hne).2, htp⟩, ((hH.rm 1).rm 1).rm 1 |>.rm 1, (hA.sub (by (repeat (first | exact trivial | refine ⟨rfl, ?_⟩)); first | done | fail "sub"))⟩
      obtain ⟨bl, hbl⟩ : ∃ bl, f.bs.l[n]? = some bl := ⟨_, List.getElem?_eq_getElem hltn⟩
      repeat' (first | (refine QT ?_; clear hA a; intro a hA) | ((first | refine CT ?_ | (refine DT ?_ ?_ <;> intro hc <;> try (exfalso; omega))) <;> repeat' refine CT ?_))
      have hcf : c.f = f := by rw [hcE]
      have hcg : c.g = g := by rw [hcE]
      have hbs2 := block_spec w0 w [cb b11 44 (encG f), own 3 1 oA cl.length cA (flat Fw.encI cl), cb b1 25 (encGs g)] c bC n p (evs f n) cl tc th bl (by subst hcE; exact hH) (by subst hcE; exact .tail _ (.head _)) (by subst hcE; rfl) (by omega) (by rw [hcf]; exact hRf) (by rw [hcf]; exact hbl) (hto bl (List.mem_of_getElem? hbl)) (by subst hcE; exact hinv.len.symm) htl (by rw [hcf]; exact hinv.len) hag (by omega) htp hinv.ev
      (refine st_op hA rfl rfl (by decide) (op_call rfl rfl rfl hbs2) ?_; clear hA hH hbs2)
      rintro _ w (⟨rfl, hblk, hH⟩ | ⟨rfl, hblk, tc', th', hthr, htcl, hag', hH⟩) a hA
      · rw [hcf, hcg] at hblk
        repeat' (first | (refine QT ?_; clear hA a; intro a hA) | (refine CT ?_ <;> repeat' refine CT ?_))
        exact rt1 (.inl rfl) rfl hA rfl ⟨_, rfl, hH.kp, may_no (may_gr_no hf hp0 (hcl ▸ linv_no hinv hbl hblk))⟩
      rw [hcf, hcg] at hblk
      have hinv2 := linv_next hinv hbl hblk hthr
      repeat' (first | (refine QT ?_; clear hA a; intro a hA) | (refine CT ?_ <;> repeat' refine CT ?_))
      have e5 : c.bE = bE := by rw [hcE]
      have e6 : c.oT = oT := by rw [hcE]
      have e7 : c.nT = f.bs.l.length := by rw [hcE]
      have e8 : c.cT = f.bs.l.length := by rw [hcE]
      rw [e5, e6, e7, e8, ← evs_next hbl] at hH
      exact ⟨n + 1, ⟨tc', th', _, ⟨hltn, hinv2, by rw [htcl, htl, hinv2.len, hinv.len], fun m hm => hag' m (by omega)⟩, hH, (hA.sub (by (repeat (first | exact trivial | refine ⟨rfl, ?_⟩)); first | done | fail "sub"))⟩, by omega⟩
    clear hA hH hinv
    rintro a w ⟨p', ⟨hg, hpe, hpt⟩, hH, hA⟩
    rw [hcl] at hg
    subst hcE
    rw [← encD_C] at hH
    repeat' (first | (refine QT ?_; clear hA a; intro a hA) | (refine CT ?_ <;> repeat' refine CT ?_))
    exact ⟨i + 1, ⟨f, some bE, oT, _, _, p', ⟨hlt, (by rw [grS_next hf]; omega), hpt, fun k f' hk hlt2 => (by
      by_cases hki : k = i
      · subst hki
        rw [hf] at hk
        cases hk
        exact hg
      · exact hok k f' hk (by omega))⟩, hH, (hA.sub (by (repeat (first | exact trivial | refine ⟨rfl, ?_⟩)); first | done | fail "sub"))⟩, by omega⟩
  clear hA hH
  rintro a w ⟨hall, hH, hA⟩
  repeat' (first | (refine QT ?_; clear hA a; intro a hA) | (refine CT ?_ <;> repeat' refine CT ?_))
  exact rt1 (.inl rfl) rfl hA rfl ⟨_, rfl, hH.kp, iff_of_true rfl hall⟩
end Go.Proofs.YtenlcdokaadobaaGreatDoor
namespace Go.Proofs.YtenlcdokaadobaaGreatDoor
open Go Go.Fw
set_option linter.unusedVariables false
theorem bsL_step {l : List Int} {x : Int} {i j : Nat} (h : i < j) : bsL l x i j = if l.getD ((i + j) / 2) 0 < x then bsL l x ((i + j) / 2 + 1) j else bsL l x i ((i + j) / 2) := by
  rw [bsL, if_pos h]
theorem bsL_end {l : List Int} {x : Int} {i j : Nat} (h : ¬ i < j) : bsL l x i j = i := by
  rw [bsL, if_neg h]
theorem half_u {i j : Nat} (h : i + j ≤ 4000000000) : IntKind.i64.wrap (shrK .u64 (IntKind.u64.wrap ((i : Int) + (j : Int))) 1) = (((i + j) / 2 : Nat) : Int) := by
  have e1 : IntKind.u64.wrap ((i : Int) + (j : Int)) = ((i + j : Nat) : Int) := by
    rw [← Int.natCast_add]
    exact IntWalk.u64_in _ ⟨by omega, by omega⟩
  have e2 : shrK .u64 ((i + j : Nat) : Int) 1 = (((i + j) / 2 : Nat) : Int) := by
    unfold shrK
    have : min (Int.toNat 1) IntKind.u64.bits = 1 := by decide
    rw [this]
    show Int.fdiv _ 2 = _
    rw [Int.fdiv_eq_ediv_of_nonneg _ (by omega)]
    omega
  rw [e1, e2]
  exact wrap_i64 (by unfold i64ok; omega)
theorem bsB_t {l : List Int} {x : Int} (h : bsI l x < l.length ∧ l.getD (bsI l x) 0 = x) : bsB l x = true := decide_eq_true h
theorem bsB_f {l : List Int} {x : Int} (h : ¬ (bsI l x < l.length ∧ l.getD (bsI l x) 0 = x)) : bsB l x = false := decide_eq_false h
set_option maxRecDepth 10000 attribute [local irreducible] Code.wp wpList Calls Ex Op1 sat bat blk cb own Go.Fw.mp Go.Fw.mpO Go.Fw.mpI Go.Fw.mpE Go.Fw.itr HS Rd Ret wkD Hp Cl Cls Exit.then Exit.inBlock Exit.noGoto bodyPost Go.Fw.flat wk2 Go.Fw.all Go.Fw.owns wpOp
attribute [local irreducible] sk mpK sko mvO entK opM Go.Fw.mset Go.Fw.mv opK w63

set_option maxHeartbeats 4000000 in
theorem isNaN_spec (w0 : World) (m : Int) : Ret Tryz.prog 99 #[.int .i64 m] w0 (fun v w => v = .bool false ∧ Kp w0 noM w) := by
  have hH : HS w0 noM [] w0 := HS.init w0 noM
  (refine enter (N := 6) Tryz.func99 rfl Tryz.ntmps99 rfl ?_; intro a hA; dsimp only [sl0, Nat.reduceAdd] at hA)
  repeat' (first | (refine QT ?_; clear hA a; intro a hA) | (refine CT ?_ <;> repeat' refine CT ?_))
  exact rt1 (.inl rfl) rfl hA rfl ⟨by simp, hH.kp⟩
set_option maxHeartbeats 4000000 in
theorem isNaN2_spec (w0 : World) (m : Int) : Ret Tryz.prog 124 #[.int .i64 m] w0 (fun v w => v = .bool false ∧ Kp w0 noM w) := by
  have hH : HS w0 noM [] w0 := HS.init w0 noM
  (refine enter (N := 6) Tryz.func124 rfl Tryz.ntmps124 rfl ?_; intro a hA; dsimp only [sl0, Nat.reduceAdd] at hA)
  repeat' (first | (refine QT ?_; clear hA a; intro a hA) | (refine CT ?_ <;> repeat' refine CT ?_))
  exact rt1 (.inl rfl) rfl hA rfl ⟨by simp, hH.kp⟩
set_option maxHeartbeats 4000000 in
theorem Less_spec (w0 : World) (m n : Int) : Ret Tryz.prog 98 #[.int .i64 m, .int .i64 n] w0 (fun v w => v = .bool (decide (m < n)) ∧ Kp w0 noM w) := by
  have hH : HS w0 noM [] w0 := HS.init w0 noM
  (refine enter (N := 17) Tryz.func98 rfl Tryz.ntmps98 rfl ?_; intro a hA; dsimp only [sl0, Nat.reduceAdd] at hA)
  repeat' (first | (refine GT ?_ ?_ <;> intro hg <;> clear hA a <;> intro a hA <;> (first | exact FA | replace hg := of_decide_eq_true hg | replace hg := of_decide_eq_false hg | skip)) | (refine QT ?_; clear hA a; intro a hA) | (refine st_op hA rfl rfl (by decide) (op_call rfl rfl rfl (isNaN2_spec _ _)) ?_; clear hA; rintro _ w ⟨rfl, hk⟩ a hA; replace hH := hH.keep hk; clear hk) | (refine CT ?_ <;> repeat' refine CT ?_))
  all_goals exact rt1 (.inl rfl) rfl hA rfl ⟨rfl, hH.kp⟩
set_option maxHeartbeats 8000000 in
theorem bs_spec (w0 : World) (o : Option Addr) (c : Nat) (l : List Int) (x : Int) (hR : Rd w0 o (flat Fw.encI l)) (hl : l.length ≤ 2000000000) :
    Ret Tryz.prog 57 #[.slice o l.length c, .int .i64 x] w0 (fun v w => v = .tuple #[.int .i64 (bsI l x), .bool (bsB l x)] ∧ Kp w0 noM w) := by
  have hH : HS w0 noM [] w0 := HS.init w0 noM
  have hsp : Sp o l.length := hR.sp (sz := 1) (flat_length Fw.encI_len _) (by omega)
  (refine enter (N := 54) Tryz.func57 rfl Tryz.ntmps57 rfl ?_; intro a hA; dsimp only [sl0, Nat.reduceAdd] at hA)
  repeat' (first | (refine QT ?_; clear hA a; intro a hA) | (refine CT ?_ <;> repeat' refine CT ?_))
  refine wp_lpk (S := Nat × Nat) (fun p a w => (p.1 ≤ p.2 ∧ p.2 ≤ l.length ∧ bsL l x p.1 p.2 = bsI l x) ∧ HS w0 noM [] w ∧ Sl 54 [(8, .int .i64 p.2), (7, .int .i64 p.1), (6, .int .i64 l.length), (0, .slice o l.length c), (1, .int .i64 x)] a) (fun p => p.2 - p.1)
    (fun a w => HS w0 noM [] w ∧ Sl 54 [(7, .int .i64 (bsI l x)), (6, .int .i64 l.length), (0, .slice o l.length c), (1, .int .i64 x)] a) (0, l.length) ⟨⟨Nat.zero_le _, Nat.le_refl _, rfl⟩, hH, (hA.sub (by (repeat (first | exact trivial | refine ⟨rfl, ?_⟩)); first | done | fail "sub"))⟩ ?_ ?_
  · clear hA hH
    rintro ⟨i, j⟩ a w ⟨⟨hij, hj, he⟩, hH, hA⟩
    dsimp only at hij hj he hA
    by_cases hlt : i < j
    rotate_left
    · rw [bsL_end hlt] at he
      repeat' (first | (refine QT ?_; clear hA a; intro a hA) | ((first | refine CT ?_ | (refine DT ?_ ?_ <;> intro hc <;> try (exfalso; omega))) <;> repeat' refine CT ?_))
      rw [he] at hA
      exact ⟨hH, (hA.sub (by (repeat (first | exact trivial | refine ⟨rfl, ?_⟩)); first | done | fail "sub"))⟩
    rw [bsL_step hlt] at he
    have hh : (i + j) / 2 < j := by omega
    have hh2 : i ≤ (i + j) / 2 := by omega
    obtain ⟨h, hhe⟩ : ∃ h, h = (i + j) / 2 := ⟨_, rfl⟩
    rw [← hhe] at he hh hh2
    have hw := half_u (i := i) (j := j) (by omega)
    rw [← hhe] at hw
    repeat' (first | ((first | apply st_ex hA hH rfl rfl (by decide) | apply dr_ex hA rfl rfl rfl (by decide) | apply dr_exp hA rfl rfl rfl (by decide) | apply dr_ex3 hA hH rfl rfl rfl (by decide)); (first | (apply ex_convert; rfl; exact hw) | (apply ex_convert; rfl; rfl) | (apply ex_shr; rfl; rfl; decide; rfl) | (apply ex_indexAddr_nat; rfl; rfl; omega; exact hsp) | (apply ex_load; rfl; refine cl_rd hR id (ints_at ?_); omega)); clear hA a; intro a hA) | (refine QT ?_; clear hA a; intro a hA) | (refine st_op hA rfl rfl (by decide) (op_call rfl rfl rfl (Less_spec _ _ _)) ?_; clear hA; rintro _ w ⟨rfl, hk⟩ a hA; replace hH := hH.keep hk; clear hk) | ((first | refine CT ?_ | (refine DT ?_ ?_ <;> intro hc <;> try (exfalso; omega))) <;> repeat' refine CT ?_))
    · rw [if_pos (by assumption)] at he
      exact ⟨(h + 1, j), ⟨⟨hh, hj, he⟩, hH, (hA.sub (by (repeat (first | exact trivial | refine ⟨rfl, ?_⟩)); first | done | fail "sub"))⟩, by dsimp only; omega⟩
    · rw [if_neg (by assumption)] at he
      exact ⟨(i, h), ⟨⟨hh2, by dsimp only; omega, he⟩, hH, (hA.sub (by (repeat (first | exact trivial | refine ⟨rfl, ?_⟩)); first | done | fail "sub"))⟩, by dsimp only; omega⟩
  clear hA hH
  rintro a w ⟨hH, hA⟩
  repeat' (first | (refine GT ?_ ?_ <;> intro hg <;> clear hA a <;> intro a hA <;> (first | exact FA | replace hg := of_decide_eq_true hg | replace hg := of_decide_eq_false hg | skip)) | ((first | apply st_ex hA hH rfl rfl (by decide) | apply dr_ex hA rfl rfl rfl (by decide) | apply dr_exp hA rfl rfl rfl (by decide) | apply dr_ex3 hA hH rfl rfl rfl (by decide)); (first | (apply ex_load; rfl; refine cl_rd hR id (ints_at ?_); omega) | (apply ex_indexAddr_nat; rfl; rfl; omega; exact hsp)); clear hA a; intro a hA) | (refine QT ?_; clear hA a; intro a hA) | (refine st_op hA rfl rfl (by decide) (op_call rfl rfl rfl (isNaN_spec _ _)) ?_; clear hA; rintro _ w ⟨rfl, hk⟩ a hA; replace hH := hH.keep hk; clear hk) | (refine CT ?_ <;> repeat' refine CT ?_))
  · exact rt2 (.inl rfl) rfl hA rfl rfl ⟨by rw [bsB_t ⟨by omega, by assumption⟩], hH.kp⟩
  · exact rt2 (.inl rfl) rfl hA rfl rfl ⟨by rw [bsB_f (fun h => (by assumption : ¬ l.getD (bsI l x) 0 = x) h.2)], hH.kp⟩
  · exact rt2 (.inl rfl) rfl hA rfl rfl ⟨by rw [bsB_f (fun h => (by have := h.1; omega))], hH.kp⟩
end Go.Proofs.YtenlcdokaadobaaGreatDoor
namespace Go.Proofs.YtenlcdokaadobaaGreatDoor
open Go Go.Fw
set_option linter.unusedVariables false
theorem RsV_val {c : Cx} {x : Vl} {w : Wd} {u v : Value} {r : Rs} (hr : r = .val x w) (h : RV c x u) (hv : v = .tuple #[u, .string empS]) : RsV c r v := by rw [hr]; exact ⟨u, h, hv⟩
theorem RsV_stk {c : Cx} {w : Wd} {v : Value} {r : Rs} (hr : r = stk w) (hv : v = .tuple #[.nilIface, .string empS]) : RsV c r v := RsV_val (x := .nil) hr (by rw [RV]) hv
theorem RsV_exn {c : Cx} {s : ByteArray} {v : Value} {r : Rs} (hr : r = .exn s) (hv : v = .tuple #[.nilIface, .string s]) : RsV c r v := by rw [hr]; exact hv
theorem RV_num {c : Cx} {n : Int} (h : iok n) : RV c (.num n) (.iface 2 (.int .i64 n)) := by rw [RV]; exact ⟨rfl, h⟩
theorem RV_txt {c : Cx} {s : ByteArray} (h : s.size ≤ 4096) : RV c (.txt s) (.iface 9 (.string s)) := by rw [RV]; exact ⟨rfl, h⟩
theorem bts_get {s : ByteArray} {i : Nat} (h : i < (bts s).length) : (bts s)[i]? = some ((bts s).getD i 0) := by
  rw [List.getD_eq_getElem?_getD, List.getElem?_eq_getElem h]; rfl
theorem bts_byte (s : ByteArray) (i : Nat) : (bts s).getD i 0 < 256 := by
  rw [List.getD_eq_getElem?_getD]
  cases h : (bts s)[i]? with
  | none => exact Nat.zero_lt_succ _
  | some b => exact bts_lt s b (List.mem_of_getElem? h)
theorem size_app (s t : ByteArray) : (s ++ t).size = s.size + t.size := ByteArray.size_append
set_option maxRecDepth 10000 attribute [local irreducible] Code.wp wpList Calls Ex Op1 sat bat blk cb own Go.Fw.mp Go.Fw.mpO Go.Fw.mpI Go.Fw.mpE Go.Fw.itr HS Rd Ret wkD Hp Cl Cls Exit.then Exit.inBlock Exit.noGoto bodyPost Go.Fw.flat wk2 Go.Fw.all Go.Fw.owns wpOp
attribute [local irreducible] sk mpK sko mvO entK opM Go.Fw.mset Go.Fw.mv opK w63

set_option maxHeartbeats 16000000 in
theorem texts_spec (w0 : World) (c : Cx) (op : Int) (l : List Vl) (vs : List Value) (oL : Option Addr) (cL : Nat) (wd : Wd) (hR : Rd w0 oL vs) (hV : RVs c l vs) (hop : (op = 17 ∧ 1 ≤ l.length) ∨ ((op = 18 ∨ op = 19) ∧ 2 ≤ l.length)) :
    Ret Tryz.prog 115 #[.int .i64 op, .slice oL vs.length cL] w0 (fun v w => RsV c (textsF op l wd) v ∧ Kp w0 noM w) := by
  have hH : HS w0 noM [] w0 := HS.init w0 noM
  have hsp : Sp oL vs.length := hR.sp (sz := 1) (by omega) (by omega)
  have hvl := hV.len
  obtain ⟨v0, hv0, hx0⟩ := hV.get0 (i := 0) (by omega)
  (refine enter (N := 73) Tryz.func115 rfl Tryz.ntmps115 rfl ?_; intro a hA; dsimp only [sl0, Nat.reduceAdd] at hA)
  repeat' (first | ((first | apply st_ex hA hH rfl rfl (by decide) | apply dr_ex hA rfl rfl rfl (by decide) | apply dr_exp hA rfl rfl rfl (by decide) | apply dr_ex3 hA hH rfl rfl rfl (by decide)); (first | (apply ex_indexAddr; rfl; rfl; decide; omega; exact hsp) | (apply ex_load; rfl; exact cl_rd hR id hv0)); clear hA a; intro a hA) | (refine QT ?_; clear hA a; intro a hA) | (refine CT ?_ <;> repeat' refine CT ?_))
  rcases hx0.asTxt with ⟨s, hs, rfl, hss⟩ | ⟨hs, hn⟩
  rotate_left
  · repeat' (first | ((first | apply st_ex hA hH rfl rfl (by decide) | apply dr_ex hA rfl rfl rfl (by decide) | apply dr_exp hA rfl rfl rfl (by decide) | apply dr_ex3 hA hH rfl rfl rfl (by decide)); (first | (apply ex_assertX; rfl; exact hn)); clear hA a; intro a hA) | (refine QT ?_; clear hA a; intro a hA) | (refine CT ?_ <;> repeat' refine CT ?_))
    exact rt2 (.inl rfl) rfl hA rfl rfl ⟨RsV_stk (by unfold textsF; rw [hs]) rfl, hH.kp⟩
  have hbl : (bts s).length ≤ 4096 := by rw [bts_len]; exact hss
  repeat' (first | ((first | apply st_ex hA hH rfl rfl (by decide) | apply dr_ex hA rfl rfl rfl (by decide) | apply dr_exp hA rfl rfl rfl (by decide) | apply dr_ex3 hA hH rfl rfl rfl (by decide)); (first | (apply ex_assertY; rfl) | (apply ex_len_string; rfl) | (apply ex_iface; rfl)); clear hA a; intro a hA) | (refine QT ?_; clear hA a; intro a hA) | ((first | refine CT ?_ | (refine DT ?_ ?_ <;> intro hc <;> try (exfalso; omega))) <;> repeat' refine CT ?_))
  · refine rt2 (.inl rfl) rfl hA rfl rfl ⟨RsV_val (x := .num (bts s).length) (w := wd) (by unfold textsF; rw [hs]; exact if_pos (by assumption)) (RV_num ⟨by omega, by omega⟩) rfl, hH.kp⟩
  · obtain ⟨v1, hv1, hx1⟩ := hV.get0 (i := 1) (by omega)
    have h19 : op = 19 := by assumption
    have e19 : textsF op l wd = (match asTxt (nth0 l 1) with | some t => if 4096 < (bts s).length + (bts t).length then .exn exnS else .val (.txt (s ++ t)) wd | none => stk wd) := by
      unfold textsF; rw [hs]; dsimp only; rw [if_neg (by omega), if_pos h19]; rfl
    repeat' (first | ((first | apply st_ex hA hH rfl rfl (by decide) | apply dr_ex hA rfl rfl rfl (by decide) | apply dr_exp hA rfl rfl rfl (by decide) | apply dr_ex3 hA hH rfl rfl rfl (by decide)); (first | (apply ex_load; rfl; exact cl_rd hR id hv1)); clear hA a; intro a hA) | (refine QT ?_; clear hA a; intro a hA))
    rcases hx1.asTxt with ⟨t, ht, rfl, hts⟩ | ⟨ht, hn⟩
    rotate_left
    · repeat' (first | ((first | apply st_ex hA hH rfl rfl (by decide) | apply dr_ex hA rfl rfl rfl (by decide) | apply dr_exp hA rfl rfl rfl (by decide) | apply dr_ex3 hA hH rfl rfl rfl (by decide)); (first | (apply ex_assertX; rfl; exact hn)); clear hA a; intro a hA) | (refine QT ?_; clear hA a; intro a hA) | (refine CT ?_ <;> repeat' refine CT ?_))
      exact rt2 (.inl rfl) rfl hA rfl rfl ⟨RsV_stk (w := wd) (by rw [e19, ht]) rfl, hH.kp⟩
    have hbt : (bts t).length ≤ 4096 := by rw [bts_len]; exact hts
    rw [ht] at e19
    dsimp only at e19
    repeat' (first | ((first | apply st_ex hA hH rfl rfl (by decide) | apply dr_ex hA rfl rfl rfl (by decide) | apply dr_exp hA rfl rfl rfl (by decide) | apply dr_ex3 hA hH rfl rfl rfl (by decide)); (first | (apply ex_assertY; rfl) | (apply ex_len_string; rfl) | (apply ex_iface; rfl) | (apply ex_addS; rfl; rfl; rw [← bts_len, ← bts_len]; omega)); clear hA a; intro a hA) | (refine QT ?_; clear hA a; intro a hA) | ((first | refine CT ?_ | (refine DT ?_ ?_ <;> intro hc <;> try (exfalso; omega))) <;> repeat' refine CT ?_))
    · rw [if_pos (by omega)] at e19
      exact rt2 (.inl rfl) rfl hA rfl rfl ⟨RsV_exn e19 rfl, hH.kp⟩
    · rw [if_neg (by omega)] at e19
      refine rt2 (.inl rfl) rfl hA rfl rfl ⟨RsV_val e19 (RV_txt ?_) rfl, hH.kp⟩
      rw [size_app, ← bts_len, ← bts_len]
      omega
  · obtain ⟨v1, hv1, hx1⟩ := hV.get0 (i := 1) (by omega)
    have e18 : textsF op l wd = (match asNum (nth0 l 1) with | some i => if i < 0 ∨ ((bts s).length : Int) ≤ i then .exn exnB else .val (.num ((bts s).getD i.toNat 0)) wd | none => stk wd) := by
      unfold textsF; rw [hs]; dsimp only; rw [if_neg (by omega), if_neg (by omega)]; rfl
    repeat' (first | ((first | apply st_ex hA hH rfl rfl (by decide) | apply dr_ex hA rfl rfl rfl (by decide) | apply dr_exp hA rfl rfl rfl (by decide) | apply dr_ex3 hA hH rfl rfl rfl (by decide)); (first | (apply ex_load; rfl; exact cl_rd hR id hv1)); clear hA a; intro a hA) | (refine QT ?_; clear hA a; intro a hA))
    rcases hx1.asNum with ⟨i, ht, rfl, hio⟩ | ⟨ht, hn⟩
    rotate_left
    · repeat' (first | ((first | apply st_ex hA hH rfl rfl (by decide) | apply dr_ex hA rfl rfl rfl (by decide) | apply dr_exp hA rfl rfl rfl (by decide) | apply dr_ex3 hA hH rfl rfl rfl (by decide)); (first | (apply ex_assertX; rfl; exact hn)); clear hA a; intro a hA) | (refine QT ?_; clear hA a; intro a hA) | (refine CT ?_ <;> repeat' refine CT ?_))
      exact rt2 (.inl rfl) rfl hA rfl rfl ⟨RsV_stk (w := wd) (by rw [e18, ht]) rfl, hH.kp⟩
    rw [ht] at e18
    dsimp only at e18
    repeat' (first | (refine GT ?_ ?_ <;> intro hg <;> clear hA a <;> intro a hA <;> (first | exact FA | replace hg := of_decide_eq_true hg | replace hg := of_decide_eq_false hg | skip)) | ((first | apply st_ex hA hH rfl rfl (by decide) | apply dr_ex hA rfl rfl rfl (by decide) | apply dr_exp hA rfl rfl rfl (by decide) | apply dr_ex3 hA hH rfl rfl rfl (by decide)); (first | (apply ex_assertY; rfl) | (apply ex_len_string; rfl) | (apply ex_iface; rfl)); clear hA a; intro a hA) | (refine QT ?_; clear hA a; intro a hA) | ((first | refine CT ?_ | (refine DT ?_ ?_ <;> intro hc <;> try (exfalso; omega))) <;> repeat' refine CT ?_))
    · rw [if_pos (.inl (by omega))] at e18
      exact rt2 (.inl rfl) rfl hA rfl rfl ⟨RsV_exn e18 rfl, hH.kp⟩
    · rw [if_pos (.inr (by omega))] at e18
      exact rt2 (.inl rfl) rfl hA rfl rfl ⟨RsV_exn e18 rfl, hH.kp⟩
    have hlt : i.toNat < (bts s).length := by omega
    have hby := bts_byte s i.toNat
    rw [if_neg (by omega)] at e18
    repeat' (first | ((first | apply st_ex hA hH rfl rfl (by decide) | apply dr_ex hA rfl rfl rfl (by decide) | apply dr_exp hA rfl rfl rfl (by decide) | apply dr_ex3 hA hH rfl rfl rfl (by decide)); (first | (apply ex_index_string (j := i.toNat); rfl; rfl; omega; exact bts_get hlt) | (apply ex_convert; rfl; exact wrap_i64 (by unfold i64ok; omega)) | (apply ex_iface; rfl)); clear hA a; intro a hA) | (refine QT ?_; clear hA a; intro a hA) | (refine CT ?_ <;> repeat' refine CT ?_))
    exact rt2 (.inl rfl) rfl hA rfl rfl ⟨RsV_val e18 (RV_num ⟨by omega, by omega⟩) rfl, hH.kp⟩
end Go.Proofs.YtenlcdokaadobaaGreatDoor
