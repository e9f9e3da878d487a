/-
  ssa.May: exactly. Conditions: none.
  slices.BinarySearch of numbers. Conditions: none.
  What steps do with texts. Conditions: none.
  The walk over slices.Insert of one number. Conditions: none.
  The walk over slices.Insert of one value. Conditions: none.
  slices.Clone, slices.Repeat of one value. Conditions: none.
  What steps do with arrays. Conditions: none.
-/
import Derived.Test.YtenlcdokaadobaaGreatDoorRowMayMg4
namespace Go.Proofs.YtenlcdokaadobaaGreatDoor
open Go Go.Fw
set_option linter.unusedVariables false
def gr00 : Gr := ⟨0, nilV⟩
def encD (g : Grs) (f : Gr) (oA : Option Addr) (nA cA : Nat) (p : Int) (e : Option Nat) (oT : Option Addr) (nT cT : Nat) : List Value := [.slice g.fs.o g.fs.l.length g.fs.c, .slice g.ls.o g.ls.l.length g.ls.c, .slice g.ts.o g.ts.l.length g.ts.c, .slice g.xs.o g.xs.l.length g.xs.c, .slice g.ss.o g.ss.l.length g.ss.c,
  .int .i64 f.caps, .slice f.bs.o f.bs.l.length f.bs.c, .slice oA nA cA, .int .i64 p, .map e, .slice oT nT cT]
theorem encD_C (g : Grs) (f : Gr) (oA : Option Addr) (nA cA : Nat) (p : Int) (e : Nat) (oT : Option Addr) (nT cT : Nat) : encD g f oA nA cA p (some e) oT nT cT = encC ⟨g, f, oA, nA, cA, e, oT, nT, cT⟩ p := rfl
theorem map_caps_next {l : List Gr} {i : Nat} {f : Gr} (h : l[i]? = some f) : (l.take (i + 1)).map Gr.caps = (l.take i).map Gr.caps ++ [f.caps] := by rw [take_snoc h, List.map_append]; rfl
theorem map_caps_len {l : List Gr} {i : Nat} (h : i ≤ l.length) : ((l.take i).map Gr.caps).length = i := by rw [List.length_map, List.length_take]; omega
theorem flatF_snoc (o : Option Addr) (l : List Int) (c : Int) : flat (encF o) l ++ encF o c = flat (encF o) (l ++ [c]) := by rw [flat_snoc]
theorem fill_F (o : Option Addr) (c : Int) (z : Array Value) (hz : z.size = 12) : Instr.fill (([(0, 1), (1, 11)] : List (Nat × Nat))[·]?) z [(0, .int .i64 c), (1, .agg (encB o).toArray)] = some (encF o c).toArray := by
  obtain ⟨l⟩ := z
  match l, hz with
  | [z0, z1, z2, z3, z4, z5, z6, z7, z8, z9, z10, z11], _ =>
    simp [Instr.fill, encF, encB, Value.cells]
theorem rep_skb {w0 w : World} {M : Nat → Prop} {H : List It} (h : HS w0 M H w) (n : Nat) : HS w0 M (all ((List.replicate n (none : Option (Nat × List Int))).map sko) :: H) w := by
  refine HS.shut ?_
  induction n with
  | zero => exact h
  | succ n ih =>
    rw [List.replicate_succ, List.map_cons, List.cons_append]
    exact ih.nil_all
set_option maxRecDepth 10000 attribute [local irreducible] Code.wp wpList Calls Ex Op1 sat bat blk cb own Go.Fw.mp Go.Fw.mpO Go.Fw.mpI Go.Fw.mpE Go.Fw.itr HS Rd Ret wkD Hp Cl Cls Exit.then Exit.inBlock Exit.noGoto bodyPost Go.Fw.flat wk2 Go.Fw.all Go.Fw.owns wpOp
attribute [local irreducible] sk mpK sko mvO entK geS

set_option maxHeartbeats 16000000 in
theorem May_spec (w0 : World) (g : Grs) (hR : RdGs w0 g) (hl : g.fs.l.length ≤ 100000) (hbs : ∀ f ∈ g.fs.l, f.bs.l.length ≤ 1048576 ∧ ∀ bl ∈ f.bs.l, bl.e.to.l.length ≤ 1048576) :
    Ret Tryz.prog 14 #[.agg (encGs g).toArray] w0 (fun v w => ∃ b, v = .bool b ∧ Kp w0 noM w ∧ (b = true ↔ MayP g)) := by
  have hH : HS w0 noM [] w0 := HS.init w0 noM
  have hspF : Sp g.fs.o g.fs.l.length := hR.1.1.sp (sz := 2) (flat_length encG_len _) (by omega)
  (refine enter (N := 111) Tryz.func14 rfl Tryz.ntmps14 rfl ?_; intro a hA; dsimp only [sl0, Nat.reduceAdd] at hA)
  repeat' (first | (refine XT ?_; apply XE; (first | (apply ex_build_p (cs := (encAt at0).toArray); rfl; exact FLT; rfl)); clear hA a; intro a hA) | (refine QT ?_; clear hA a; intro a hA) | (refine BT ?_; clear hA hH; rintro _ w ⟨bN, rfl, hH⟩ a hA) | (refine LT ?_; clear hA hH; rintro _ w ⟨oN, rfl, hH⟩ a hA) | (apply st_op hA rfl rfl (by decide); apply op_sliceLit (xs := encAt at0) (vs := [.agg (encAt at0).toArray]); rfl; rfl; exact (Cats.cn (cs := encAt at0) Cats.nil); rfl; rfl; rfl; exact hH; clear hA hH; rintro _ w ⟨oN, rfl, hH⟩ a hA) | (refine CT ?_ <;> repeat' refine CT ?_) | fail)
  obtain ⟨oN0, hoN0⟩ : ∃ x, x = oN := ⟨_, rfl⟩
  rw [← hoN0] at hA hH
  clear hoN0 oN
  obtain ⟨b1, hb1⟩ : ∃ x, x = bN := ⟨_, rfl⟩
  rw [← hb1] at hA hH
  clear hb1 bN
  repeat' (first | (refine XT ?_; apply XE; (first | (apply ex_build (szs := [(0, 1), (1, 1), (2, 1), (3, 1), (4, 1), (5, 4), (9, 1), (10, 1)]) (cs := (encB oN0).toArray); exact run_szl (by (repeat (first | exact SzL.nil | refine SzL.cons ⟨_, rfl, by decide⟩ ?_))); rfl; rfl)); clear hA a; intro a hA) | (refine QT ?_; clear hA a; intro a hA) | (refine BT ?_; clear hA hH; rintro _ w ⟨bN, rfl, hH⟩ a hA) | (apply st_op0 hA rfl rfl; apply op_store_agg (vs := encB oN0); rfl; rfl; exact hH; (repeat constructor); (repeat rfl); clear hH; rintro _ w hH) | (refine CT ?_ <;> repeat' refine CT ?_) | fail)
  obtain ⟨b3, hb3⟩ : ∃ x, x = bN := ⟨_, rfl⟩
  rw [← hb3] at hA hH
  clear hb3 bN
  repeat' (first | (refine XT ?_; apply XE; (first | (apply ex_build_p (cs := (encP none 0 0 g).toArray); rfl; exact FLT; rfl)); clear hA a; intro a hA) | (refine QT ?_; clear hA a; intro a hA) | (refine BT ?_; clear hA hH; rintro _ w ⟨bN, rfl, hH⟩ a hA) | (apply st_op0 hA rfl rfl; apply op_store_agg (vs := encP none 0 0 g); rfl; rfl; exact hH; (repeat constructor); (repeat rfl); clear hH; rintro _ w hH) | (refine CT ?_ <;> repeat' refine CT ?_) | fail)
  obtain ⟨b4, hb4⟩ : ∃ x, x = bN := ⟨_, rfl⟩
  rw [← hb4] at hA hH
  clear hb4 bN
  refine wp_lpk (S := Nat) (fun i a w => ∃ oF cF, i ≤ g.fs.l.length ∧ HS w0 noM [cb b4 34 (encP oF i cF g), own 72 12 oF i cF (flat (encF oN0) ((g.fs.l.take i).map Gr.caps)), cb b3 70 (encB oN0), own 65 2 oN0 1 1 (encAt at0), cb b1 25 (encGs g)] w ∧
      Sl 111 [(28, .int .i64 i), (27, .int .i64 g.fs.l.length), (26, .slice g.fs.o g.fs.l.length g.fs.c), (4, .pointer (some (bat b4 0))), (3, .pointer (some (bat b3 0))), (2, .bool false), (1, .pointer (some (bat b1 0)))] a) (fun i => g.fs.l.length - i)
    (fun a w => ∃ oF cF, HS w0 noM [cb b4 34 (encP oF g.fs.l.length cF g), own 72 12 oF g.fs.l.length cF (flat (encF oN0) ((g.fs.l.take g.fs.l.length).map Gr.caps)), cb b3 70 (encB oN0), own 65 2 oN0 1 1 (encAt at0), cb b1 25 (encGs g)] w ∧
      Sl 111 [(4, .pointer (some (bat b4 0))), (2, .bool false), (1, .pointer (some (bat b1 0)))] a) 0 ⟨none, 0, Nat.zero_le _, (by rw [List.take_zero]; exact (hH.nil_flat (encF oN0) 72 12).perm PMT), (hA.sub SBT)⟩ ?_ ?_
  · clear hA hH
    rintro i a w ⟨oF, cF, hi, hH, hA⟩
    by_cases hlt : i < g.fs.l.length
    rotate_left
    · obtain rfl : i = g.fs.l.length := by omega
      repeat' (first | (refine QT ?_; clear hA a; intro a hA) | ((first | refine CT ?_ | (refine DT ?_ ?_ <;> intro hc <;> try (exfalso; omega))) <;> repeat' refine CT ?_) | fail)
      exact ⟨oF, cF, hH, (hA.sub SBT)⟩
    obtain ⟨f, hf⟩ : ∃ x, g.fs.l[i]? = some x := ⟨_, List.getElem?_eq_getElem hlt⟩
    have hvf := flat_all encG_len hf
    have hcl := map_caps_len (l := g.fs.l) hi
    repeat' (first | (refine XT ?_; apply XE; (first | (apply ex_load_st (vs := encG f); rfl; rfl; exact cls_rd hR.1.1 id hvf) | (apply ex_indexAddr_nat; rfl; rfl; omega; exact hspF)); clear hA a; intro a hA) | (refine QT ?_; clear hA a; intro a hA) | (refine BT ?_; clear hA hH; rintro _ w ⟨bN, rfl, hH⟩ a hA) | (apply st_op0 hA rfl rfl; apply op_store_agg (vs := encG f); rfl; rfl; exact hH; (repeat constructor); (repeat rfl); clear hH; rintro _ w hH) | ((first | refine CT ?_ | (refine DT ?_ ?_ <;> intro hc <;> try (exfalso; omega))) <;> repeat' refine CT ?_) | fail)
    (refine st_ex hA hH rfl rfl (by decide) (ex_build (szs := [(0, 1), (1, 11)]) (cs := (encF oN0 f.caps).toArray) (run_szl (.cons ⟨_, rfl, by decide⟩ (.cons ⟨_, rfl, by decide⟩ .nil))) rfl (fill_F oN0 f.caps _ rfl)) ?_; clear hA a; intro a hA)
    obtain ⟨fc, hfc⟩ : ∃ x, x = encF oN0 f.caps := ⟨_, rfl⟩
    have hfl : fc.length = 12 := by rw [hfc]; rfl
    have hfo : fc.all (·.oneCell') = true := by rw [hfc]; rfl
    rw [← hfc] at hA
    have hcats : Cats 12 [.agg fc.toArray] fc := by
      have h := Cats.cn (cs := fc) Cats.nil
      rw [hfl, List.append_nil] at h
      exact h
    (apply st_op hA rfl rfl (by decide); apply op_sliceLit (xs := fc) (vs := [.agg fc.toArray]); rfl; rfl; exact hcats; rfl; rfl; rfl; exact hH; clear hA hH; rintro _ w ⟨oL, rfl, hH⟩ a hA)
    (apply st_op hA rfl rfl (by decide); apply op_append; rfl; rfl; exact hH; exact MEMT; exact (hH.own_rd (List.Mem.head _)); exact hfl; rfl; decide; exact hfo; (unfold maxLen; omega); omega; clear hA; rintro _ w ⟨oN, cN, rfl, hH2⟩ a hA; clear hH; have hH := hH2 _ (by (repeat constructor)); clear hH2)
    rw [hfc, flatF_snoc, ← map_caps_next hf] at hH
    repeat' (first | (refine QT ?_; clear hA a; intro a hA) | (apply st_op0 hA rfl rfl; apply op_store_fld (cs' := encP oN (i + 1) cN g); rfl; rfl; rfl; exact hH; (repeat constructor); clear hH; rintro _ w hH) | (refine CT ?_ <;> repeat' refine CT ?_) | fail)
    exact ⟨i + 1, ⟨oN, cN, hlt, (((hH.rm 0).rm 0).perm PMT), (hA.sub SBT)⟩, by omega⟩
  clear hA hH
  rintro a w ⟨oF, cF, hH, hA⟩
  rw [List.take_length] at hH
  obtain ⟨cl, hcl⟩ : ∃ x, x = g.fs.l.map Gr.caps := ⟨_, rfl⟩
  have hcll : cl.length = g.fs.l.length := by rw [hcl, List.length_map]
  rw [← hcl, ← hcll] at hH
  repeat' (first | (refine QT ?_; clear hA a; intro a hA) | (refine CT ?_ <;> repeat' refine CT ?_) | fail)
  have hcl0 := hcl
  (refine st_op hA rfl rfl (by decide) (op_call rfl rfl rfl (anfMay_spec _ oF cF cl oN0 g (hH.own_rd (.tail _ (.head _))) (hH.own_rd (T := 65) (n := 1) (cap := 1) (sz := 2) (by exact MEMT)) (by omega) (hR.2.2.1.keep hH.kp) (hR.2.2.2.1.keep hH.kp) (hR.2.2.2.2.1.keep hH.kp) (hR.2.2.2.2.2.keep hH.kp))) ?_; clear hA; rintro _ w ⟨b, rfl, hbA, hk⟩ a hA; replace hH := hH.keep hk; clear hk)
  rw [hcl] at hbA
  repeat' (first | (refine XT ?_; apply XE; (first | (apply ex_build (szs := [(0, 5), (5, 2), (7, 1), (8, 1), (9, 1), (10, 1)]) (cs := (encD g gr00 none 0 0 0 none none 0 0).toArray); exact run_szl (by (repeat (first | exact SzL.nil | refine SzL.cons ⟨_, rfl, by decide⟩ ?_))); rfl; rfl)); clear hA a; intro a hA) | (refine QT ?_; clear hA a; intro a hA) | (refine BT ?_; clear hA hH; rintro _ w ⟨bN, rfl, hH⟩ a hA) | ((first | refine CT ?_ | (refine DT ?_ ?_ <;> intro hc <;> try (exfalso; omega))) <;> repeat' refine CT ?_) | fail)
  · exact rt1 (.inl rfl) rfl hA rfl ⟨_, rfl, hH.kp, may_no (fun h => nb_no hbA (by assumption) h.anf)⟩
  have hanf := nb_yes hbA (by assumption)
  clear hbA
  obtain ⟨bC, hbC⟩ : ∃ x, x = bN := ⟨_, rfl⟩
  rw [← hbC] at hA hH
  clear hbC bN
  refine wp_lpk (S := Nat) (fun i a w => ∃ oA cA, i ≤ g.fs.l.length ∧ HS w0 noM [cb bC 112 (encD g gr00 oA i cA 0 none none 0 0), own 3 1 oA i cA (flat Fw.encI ((g.fs.l.take i).map Gr.caps)), cb b1 25 (encGs g)] w ∧
      Sl 111 [(51, .int .i64 i), (50, .int .i64 g.fs.l.length), (49, .slice g.fs.o g.fs.l.length g.fs.c), (7, .pointer (some (bat bC 0))), (2, .bool false), (1, .pointer (some (bat b1 0)))] a) (fun i => g.fs.l.length - i)
    (fun a w => ∃ oA cA, HS w0 noM [cb bC 112 (encD g gr00 oA g.fs.l.length cA 0 none none 0 0), own 3 1 oA g.fs.l.length cA (flat Fw.encI ((g.fs.l.take g.fs.l.length).map Gr.caps)), cb b1 25 (encGs g)] w ∧
      Sl 111 [(7, .pointer (some (bat bC 0))), (2, .bool false), (1, .pointer (some (bat b1 0)))] a) 0 ⟨none, 0, Nat.zero_le _, (by rw [List.take_zero]; exact HS.left (H1 := [_, _, _]) ((hH.nil_flat Fw.encI 3 1).perm PMT)), (hA.sub SBT)⟩ ?_ ?_
  · clear hA hH
    rintro i a w ⟨oA, cA, hi, hH, hA⟩
    by_cases hlt : i < g.fs.l.length
    rotate_left
    · obtain rfl : i = g.fs.l.length := by omega
      repeat' (first | (refine QT ?_; clear hA a; intro a hA) | ((first | refine CT ?_ | (refine DT ?_ ?_ <;> intro hc <;> try (exfalso; omega))) <;> repeat' refine CT ?_) | fail)
      exact ⟨oA, cA, hH, (hA.sub SBT)⟩
    obtain ⟨f, hf⟩ : ∃ x, g.fs.l[i]? = some x := ⟨_, List.getElem?_eq_getElem hlt⟩
    have hvf := flat_all encG_len hf
    repeat' (first | (refine XT ?_; apply XE; (first | (apply ex_load_st (vs := encG f); rfl; rfl; exact cls_rd hR.1.1 id hvf) | (apply ex_indexAddr_nat; rfl; rfl; omega; exact hspF)); clear hA a; intro a hA) | (refine QT ?_; clear hA a; intro a hA) | (refine BT ?_; clear hA hH; rintro _ w ⟨bN, rfl, hH⟩ a hA) | (apply st_op0 hA rfl rfl; apply op_store_agg (vs := encG f); rfl; rfl; exact hH; (repeat constructor); (repeat rfl); clear hH; rintro _ w hH) | ((first | refine CT ?_ | (refine DT ?_ ?_ <;> intro hc <;> try (exfalso; omega))) <;> repeat' refine CT ?_) | fail)
    have hST : HS w0 noM [cb bN 44 (encG f), cb bC 112 (encD g gr00 oA i cA 0 none none 0 0)] w := HS.left (H1 := [_, _]) hH
    (refine wp_draw2_HS (H := [_, _]) [(0, 1), (1, 1), (2, 1), (3, 1), (4, 1), (5, 1), (6, 1), (7, 0), (8, 0), (9, 1), (10, 1)] [11] mixed (by decide +kernel) (hST) ?_; replace hH := hH.drew)
    clear hST
    repeat' (first | (refine QT ?_; clear hA a; intro a hA) | (refine DLT ?_; clear hA hH; rintro _ w ⟨oN, rfl, hH⟩; refine ⟨STT, ?_⟩; intro a hA) | fail)
    (apply dr_op hA rfl rfl rfl (by decide); apply op_sliceLit; rfl; rfl; exact CATST; rfl; rfl; rfl; exact hH; clear hA hH; rintro _ w ⟨oN, rfl, hH⟩; refine ⟨HS.left (H1 := [_, _]) hH.tail, ?_⟩; intro a hA)
    (apply dr_op hA rfl rfl rfl (by decide); apply op_append; rfl; rfl; exact hH; exact MEMT; exact (hH.own_rd (List.Mem.head _)); exact rfl; rfl; decide; exact rfl; (unfold maxLen; omega); omega; clear hA; rintro _ w ⟨oN, cN, rfl, hH2⟩; clear hH; have hH := hH2 _ (by (repeat constructor)); clear hH2; refine ⟨HS.left (H1 := [_, _]) hH.tail, ?_⟩; intro a hA)
    rw [flatI_s, ← map_caps_next hf] at hH
    repeat' (first | (refine QT ?_; clear hA a; intro a hA) | (refine CT ?_ <;> repeat' refine CT ?_) | fail)
    (apply dr_op03 hA rfl rfl rfl; apply op_store_fld (cs' := encD g gr00 oN (i + 1) cN 0 none none 0 0); rfl; rfl; rfl; exact hH; (repeat constructor); clear hH; rintro _ w hH)
    repeat' (first | (refine QT ?_; clear hA a; intro a hA) | (refine CT ?_ <;> repeat' refine CT ?_) | fail)
    exact ⟨i + 1, ⟨oN, cN, hlt, (((hH.rm 0).rm 0).perm PMT), (hA.sub SBT)⟩, by omega⟩
  clear hA hH
  rintro a w ⟨oA, cA, hH, hA⟩
  rw [List.take_length, ← hcl, ← hcll] at hH
  repeat' (first | (refine QT ?_; clear hA a; intro a hA) | (refine CT ?_ <;> repeat' refine CT ?_) | fail)
  refine wp_lpk (S := Nat) (fun i a w => ∃ f e oT nT cT, ∃ p : Int, (i ≤ g.fs.l.length ∧ p = (grS g i : Int) ∧ p ≤ 65536 ∧ ∀ k f, g.fs.l[k]? = some f → k < i → GrP g (g.fs.l.map Gr.caps) f) ∧ HS w0 noM [cb bC 112 (encD g f oA cl.length cA p e oT nT cT), own 3 1 oA cl.length cA (flat Fw.encI cl), cb b1 25 (encGs g)] w ∧
      Sl 111 [(70, .int .i64 i), (69, .int .i64 g.fs.l.length), (68, .slice g.fs.o g.fs.l.length g.fs.c), (7, .pointer (some (bat bC 0))), (2, .bool false), (1, .pointer (some (bat b1 0)))] a) (fun i => g.fs.l.length - i)
    (fun a w => MayP g ∧ HS w0 noM [] w ∧ Sl 111 [] a) 0 ⟨gr00, none, none, 0, 0, 0, ⟨Nat.zero_le _, rfl, by decide, fun k f hk h => absurd h (Nat.not_lt_zero _)⟩, hH, (hA.sub SBT)⟩ ?_ ?_
  · clear hA hH
    rintro i a w ⟨f0, e0, oT0, nT0, cT0, p, ⟨hi, hp0, hp1, hok⟩, hH, hA⟩
    by_cases hlt : i < g.fs.l.length
    rotate_left
    · obtain rfl : i = g.fs.l.length := by omega
      repeat' (first | (refine QT ?_; clear hA a; intro a hA) | ((first | refine CT ?_ | (refine DT ?_ ?_ <;> intro hc <;> try (exfalso; omega))) <;> repeat' refine CT ?_) | fail)
      refine ⟨⟨hanf, fun f hf => ?_, by rw [← grS_all]; omega⟩, hH.tail.tail.tail, (hA.sub SBT)⟩
      obtain ⟨k, hk⟩ := List.getElem?_of_mem hf
      exact hok k f hk (List.getElem?_eq_some_iff.1 hk).1
    obtain ⟨f, hf⟩ : ∃ x, g.fs.l[i]? = some x := ⟨_, List.getElem?_eq_getElem hlt⟩
    have hfm := List.mem_of_getElem? hf
    have hRf := hR.2.1 f hfm
    obtain ⟨hfb, hto⟩ := hbs f hfm
    have hvf := flat_all encG_len hf
    repeat' (first | (refine XT ?_; apply XE; (first | (apply ex_load_st (vs := encG f); rfl; rfl; exact cls_rd hR.1.1 id hvf) | (apply ex_indexAddr_nat; rfl; rfl; omega; exact hspF)); clear hA a; intro a hA) | (refine QT ?_; clear hA a; intro a hA) | (refine BT ?_; clear hA hH; rintro _ w ⟨bN, rfl, hH⟩ a hA) | (apply st_op0 hA rfl rfl; apply op_store_agg (vs := encG f); rfl; rfl; exact hH; (repeat constructor); (repeat rfl); clear hH; rintro _ w hH) | ((first | refine CT ?_ | (refine DT ?_ ?_ <;> intro hc <;> try (exfalso; omega))) <;> repeat' refine CT ?_) | fail)
    have hST : HS w0 noM [cb bN 44 (encG f)] w := HS.left (H1 := [_]) hH
    obtain ⟨b11, hb11⟩ : ∃ x, x = bN := ⟨_, rfl⟩
    rw [← hb11] at hA hH hST
    clear hb11 bN
    refine wp_drawT3 (qs3 [0, 1, 2, 3, 5, 6, 7] (.q 9 (.q 10 (.three 4 8 11 (.two 8 11 (.one 11 (.q 12 (.q 13 (.one 14 (.q 15 (.q 16 (.one 17 .nil))))))) (.q 12 (.q 13 (.two 8 14 (.one 14 (.q 15 (.q 16 (.one 17 .nil)))) (.one 8 (.q 15 (.q 16 (.one 17 .nil)))))))) (.two 4 11 (.one 11 (.q 12 (.q 13 (.one 14 (.q 15 (.q 16 (.one 17 .nil))))))) (.one 4 (.q 12 (.q 13 (.one 14 (.q 15 (.q 16 (.one 17 .nil)))))))) (.two 4 8 (.q 12 (.q 13 (.two 8 14 (.one 14 (.q 15 (.q 16 (.one 17 .nil)))) (.one 8 (.q 15 (.q 16 (.one 17 .nil))))))) (.one 4 (.q 12 (.q 13 (.one 14 (.q 15 (.q 16 (.one 17 .nil)))))))))))) (fun a w => ∃ bE oT, HS w0 noM [cb bC 112 (encD g f oA cl.length cA p (some bE) oT f.bs.l.length f.bs.l.length), sk bE [], own 109 1 oT f.bs.l.length f.bs.l.length (flat encO (List.replicate f.bs.l.length (none : Option (Nat × List Int)))), cb b11 44 (encG f), own 3 1 oA cl.length cA (flat Fw.encI cl), cb b1 25 (encGs g)] w ∧
      Sl 111 [(11, .pointer (some (bat b11 0))), (70, .int .i64 i), (69, .int .i64 g.fs.l.length), (68, .slice g.fs.o g.fs.l.length g.fs.c), (7, .pointer (some (bat bC 0))), (2, .bool false), (1, .pointer (some (bat b1 0)))] a) mixed (by decide +kernel) hST ?_ ?_
    · clear hST
      replace hH := hH.drew
      repeat' (first | apply d3_three | apply d3_two | (apply d3_ex hA rfl rfl rfl (by decide); exact EXT; clear hA a; intro a hA) | (refine d3_op hA rfl rfl rfl (by decide) (op_makeMapK hH) ?_; clear hA hH; rintro _ w ⟨bE, rfl, hH⟩; refine ⟨hH.pick (by exact MEMT), ?_⟩; intro a hA) | (apply d3_op hA rfl rfl rfl (by decide); apply op_make1 encO (none : Option (Nat × List Int)) (n := f.bs.l.length); rfl; rfl; omega; omega; (unfold maxLen; omega); omega; rfl; rfl; exact hH; clear hA hH; rintro _ w ⟨oT, rfl, hH⟩; refine ⟨hH.pick (by exact MEMT), ?_⟩; intro a hA) | (refine d3_op0 hA rfl rfl rfl (op_store_cb (vs := encG f) (cs' := encD g f oA cl.length cA p e0 oT0 nT0 cT0) rfl rfl hH (by (repeat constructor)) rfl rfl rfl (Nat.le_of_ble_eq_true rfl) rfl) ?_; clear hH; rintro _ w hH; refine ⟨hH.pick (by exact MEMT), ?_⟩) | (refine d3_op0 hA rfl rfl rfl (op_store_fld (cs' := encD g f oA cl.length cA p (some bE) oT0 nT0 cT0) rfl rfl rfl hH (by (repeat constructor)) rfl rfl) ?_; clear hH; rintro _ w hH; refine ⟨hH.pick (by exact MEMT), ?_⟩) | (refine d3_op0 hA rfl rfl rfl (op_store_fld (cs' := encD g f oA cl.length cA p (some bE) oT f.bs.l.length f.bs.l.length) rfl rfl rfl hH (by (repeat constructor)) rfl rfl) ?_; clear hH; rintro _ w hH; refine ⟨hH.pick (by exact MEMT), ?_⟩))
      all_goals exact ⟨_, _, hH.perm PMT, (hA.sub SBT)⟩
    clear hA hH hST
    rintro a w ⟨bE, oT, hH, hA⟩
    repeat' (first | (refine QT ?_; clear hA a; intro a hA) | ((first | refine CT ?_ | (refine DT ?_ ?_ <;> intro hc <;> try (exfalso; omega))) <;> repeat' refine CT ?_) | fail)
    · exact rt1 (.inl rfl) rfl hA rfl ⟨_, rfl, hH.kp, may_no (fun h => (by have := (h.gr f hfm).ne; omega))⟩
    have hne : 0 < f.bs.l.length := by omega
    have hspT : Sp oT f.bs.l.length := hH.own_sp (T := 109) (.tail _ (.tail _ (.head _)))
    (refine st_op hA rfl rfl (by decide) (op_makeMapK hH) ?_; clear hA hH; rintro _ w ⟨b0, rfl, hH⟩ a hA)
    repeat' (first | (refine XT ?_; apply XE; (first | (apply ex_indexAddr; rfl; rfl; decide; omega; exact hspT)); clear hA a; intro a hA) | (refine QT ?_; clear hA a; intro a hA) | (apply st_op0 hA rfl rfl; apply op_set1 (enc := encO) (y0 := some (b0, [])); rfl; rfl; rfl; rfl; exact encO_len; exact hH; (repeat constructor); (rw [List.length_replicate]; exact hne); clear hH; rintro _ w hH) | (refine CT ?_ <;> repeat' refine CT ?_) | fail)
    obtain ⟨tc0, htc0⟩ : ∃ x, x = (List.replicate f.bs.l.length (none : Option (Nat × List Int))).set 0 (some (b0, [])) := ⟨_, rfl⟩
    have htz : Int.toNat 0 * 1 = 0 := rfl
    rw [htz, ← htc0] at hH
    have hl0 : 0 < ((List.replicate f.bs.l.length (none : Option (Nat × List Int))).map sko).length := by rw [List.length_map, List.length_replicate]; exact hne
    have hH1 := (rep_skb hH f.bs.l.length).openAt (List.getElem?_eq_getElem hl0)
    clear hH
    have hH := ((hH1.tail).perm (H' := sk b0 [] :: all (((List.replicate f.bs.l.length (none : Option (Nat × List Int))).map sko).eraseIdx 0) :: cb bC 112 (encD g f oA cl.length cA p (some bE) oT f.bs.l.length f.bs.l.length) :: sk bE [] :: own 109 1 oT f.bs.l.length f.bs.l.length (flat encO tc0) :: cb b11 44 (encG f) :: own 3 1 oA cl.length cA (flat Fw.encI cl) :: cb b1 25 (encGs g) :: []) PMT).shutAt hl0
    clear hH1
    rw [sko_sets, ← htc0, encD_C] at hH
    have hinv := linv_0 g f cl b0 p hp1 hne
    rw [← htc0] at hinv
    clear htc0
    obtain ⟨p0, hpp⟩ : ∃ x, x = p := ⟨_, rfl⟩
    rw [← hpp] at hH
    have hinv0 := hinv
    rw [← hpp] at hinv0 hp0 hp1
    clear hinv
    have hinv := hinv0
    clear hinv0 hpp p
    obtain ⟨c, hcE⟩ : ∃ x : Ck, x = ⟨g, f, oA, cl.length, cA, bE, oT, f.bs.l.length, f.bs.l.length⟩ := ⟨_, rfl⟩
    rw [← hcE] at hH
    refine wp_lpk (S := Nat) (fun n a w => ∃ tc th, ∃ p : Int, (n ≤ f.bs.l.length ∧ LInv g f cl p0 n th p ∧ tc.length = th.length ∧ ∀ m, n ≤ m → tc[m]? = th[m]?) ∧ HS w0 noM [cb bC 112 (encC c p), sk bE (evs f n), own 109 1 oT f.bs.l.length f.bs.l.length (flat encO tc), all (th.map sko), cb b11 44 (encG f), own 3 1 oA cl.length cA (flat Fw.encI cl), cb b1 25 (encGs g)] w ∧
        Sl 111 [(102, .int .i64 n), (101, .int .i64 f.bs.l.length), (100, .slice f.bs.o f.bs.l.length f.bs.c), (70, .int .i64 i), (69, .int .i64 g.fs.l.length), (68, .slice g.fs.o g.fs.l.length g.fs.c), (7, .pointer (some (bat bC 0))), (2, .bool false), (1, .pointer (some (bat b1 0)))] a) (fun n => f.bs.l.length - n)
      (fun a w => ∃ p : Int, (GrP g cl f ∧ p = p0 + grN f ∧ p ≤ 65536) ∧ HS w0 noM [cb bC 112 (encC c p), own 3 1 oA cl.length cA (flat Fw.encI cl), cb b1 25 (encGs g)] w ∧
        Sl 111 [(70, .int .i64 i), (69, .int .i64 g.fs.l.length), (68, .slice g.fs.o g.fs.l.length g.fs.c), (7, .pointer (some (bat bC 0))), (2, .bool false), (1, .pointer (some (bat b1 0)))] a) 0
      ⟨tc0, tc0, p0, ⟨Nat.zero_le _, hinv, rfl, fun m _ => rfl⟩, hH.perm PMT, (hA.sub SBT)⟩ ?_ ?_
    · clear hA hH hinv hl0
      rintro n a w ⟨tc, th, p, ⟨hn, hinv, htl, hag⟩, hH, hA⟩
      have hsz := hinv.size
      have htp := hinv.top
      by_cases hltn : n < f.bs.l.length
      rotate_left
      · obtain rfl : n = f.bs.l.length := by omega
        repeat' (first | (refine QT ?_; clear hA a; intro a hA) | ((first | refine CT ?_ | (refine DT ?_ ?_ <;> intro hc <;> try (exfalso; omega))) <;> repeat' refine CT ?_) | fail)
        exact ⟨p, ⟨(linv_end hinv hne).1, (linv_end hinv hne).2, htp⟩, ((hH.rm 1).rm 1).rm 1 |>.rm 1, (hA.sub SBT)⟩
      obtain ⟨bl, hbl⟩ : ∃ bl, f.bs.l[n]? = some bl := ⟨_, List.getElem?_eq_getElem hltn⟩
      repeat' (first | (refine QT ?_; clear hA a; intro a hA) | ((first | refine CT ?_ | (refine DT ?_ ?_ <;> intro hc <;> try (exfalso; omega))) <;> repeat' refine CT ?_) | fail)
      have hcf : c.f = f := by rw [hcE]
      have hcg : c.g = g := by rw [hcE]
      have hbs2 := block_spec w0 w [cb b11 44 (encG f), own 3 1 oA cl.length cA (flat Fw.encI cl), cb b1 25 (encGs g)] c bC n p (evs f n) cl tc th bl (by subst hcE; exact hH) (by subst hcE; exact .tail _ (.head _)) (by subst hcE; rfl) (by omega) (by rw [hcf]; exact hRf) (by rw [hcf]; exact hbl) (hto bl (List.mem_of_getElem? hbl)) (by subst hcE; exact hinv.len.symm) htl (by rw [hcf]; exact hinv.len) hag (by omega) htp hinv.ev
      (refine st_op hA rfl rfl (by decide) (op_call rfl rfl rfl hbs2) ?_; clear hA hH hbs2)
      rintro _ w (⟨rfl, hblk, hH⟩ | ⟨rfl, hblk, tc', th', hthr, htcl, hag', hH⟩) a hA
      · rw [hcf, hcg] at hblk
        repeat' (first | (refine QT ?_; clear hA a; intro a hA) | (refine CT ?_ <;> repeat' refine CT ?_) | fail)
        exact rt1 (.inl rfl) rfl hA rfl ⟨_, rfl, hH.kp, may_no (may_gr_no hf hp0 (hcl ▸ linv_no hinv hbl hblk))⟩
      rw [hcf, hcg] at hblk
      have hinv2 := linv_next hinv hbl hblk hthr
      repeat' (first | (refine QT ?_; clear hA a; intro a hA) | (refine CT ?_ <;> repeat' refine CT ?_) | fail)
      have e5 : c.bE = bE := by rw [hcE]
      have e6 : c.oT = oT := by rw [hcE]
      have e7 : c.nT = f.bs.l.length := by rw [hcE]
      have e8 : c.cT = f.bs.l.length := by rw [hcE]
      rw [e5, e6, e7, e8, ← evs_next hbl] at hH
      exact ⟨n + 1, ⟨tc', th', _, ⟨hltn, hinv2, by rw [htcl, htl, hinv2.len, hinv.len], fun m hm => hag' m (by omega)⟩, hH, (hA.sub SBT)⟩, by omega⟩
    clear hA hH hinv
    rintro a w ⟨p', ⟨hg, hpe, hpt⟩, hH, hA⟩
    rw [hcl] at hg
    subst hcE
    rw [← encD_C] at hH
    repeat' (first | (refine QT ?_; clear hA a; intro a hA) | (refine CT ?_ <;> repeat' refine CT ?_) | fail)
    exact ⟨i + 1, ⟨f, some bE, oT, _, _, p', ⟨hlt, (by rw [grS_next hf]; omega), hpt, fun k f' hk hlt2 => (by
      by_cases hki : k = i
      · subst hki
        rw [hf] at hk
        cases hk
        exact hg
      · exact hok k f' hk (by omega))⟩, hH, (hA.sub SBT)⟩, by omega⟩
  clear hA hH
  rintro a w ⟨hall, hH, hA⟩
  repeat' (first | (refine QT ?_; clear hA a; intro a hA) | (refine CT ?_ <;> repeat' refine CT ?_) | fail)
  exact rt1 (.inl rfl) rfl hA rfl ⟨_, rfl, hH.kp, iff_of_true rfl hall⟩
end Go.Proofs.YtenlcdokaadobaaGreatDoor
namespace Go.Proofs.YtenlcdokaadobaaGreatDoor
open Go Go.Fw
set_option linter.unusedVariables false
theorem bsL_step {l : List Int} {x : Int} {i j : Nat} (h : i < j) : bsL l x i j = if l.getD ((i + j) / 2) 0 < x then bsL l x ((i + j) / 2 + 1) j else bsL l x i ((i + j) / 2) := by
  rw [bsL, if_pos h]
theorem bsL_end {l : List Int} {x : Int} {i j : Nat} (h : ¬ i < j) : bsL l x i j = i := by
  rw [bsL, if_neg h]
theorem half_u {i j : Nat} (h : i + j ≤ 4000000000) : IntKind.i64.wrap (shrK .u64 (IntKind.u64.wrap ((i : Int) + (j : Int))) 1) = (((i + j) / 2 : Nat) : Int) := by
  have e1 : IntKind.u64.wrap ((i : Int) + (j : Int)) = ((i + j : Nat) : Int) := by
    rw [← Int.natCast_add]
    exact IntWalk.u64_in _ ⟨by omega, by omega⟩
  have e2 : shrK .u64 ((i + j : Nat) : Int) 1 = (((i + j) / 2 : Nat) : Int) := by
    unfold shrK
    have : min (Int.toNat 1) IntKind.u64.bits = 1 := by decide
    rw [this]
    show Int.fdiv _ 2 = _
    rw [Int.fdiv_eq_ediv_of_nonneg _ (by omega)]
    omega
  rw [e1, e2]
  exact wrap_i64 (by unfold i64ok; omega)
theorem bsB_t {l : List Int} {x : Int} (h : bsI l x < l.length ∧ l.getD (bsI l x) 0 = x) : bsB l x = true := decide_eq_true h
theorem bsB_f {l : List Int} {x : Int} (h : ¬ (bsI l x < l.length ∧ l.getD (bsI l x) 0 = x)) : bsB l x = false := decide_eq_false h
set_option maxRecDepth 10000 attribute [local irreducible] Code.wp wpList Calls Ex Op1 sat bat blk cb own Go.Fw.mp Go.Fw.mpO Go.Fw.mpI Go.Fw.mpE Go.Fw.itr HS Rd Ret wkD Hp Cl Cls Exit.then Exit.inBlock Exit.noGoto bodyPost Go.Fw.flat wk2 Go.Fw.all Go.Fw.owns wpOp
attribute [local irreducible] sk mpK sko mvO entK opM Go.Fw.mset Go.Fw.mv opK w63

set_option maxHeartbeats 4000000 in
theorem isNaN_spec (w0 : World) (m : Int) : Ret Tryz.prog 99 #[.int .i64 m] w0 (fun v w => v = .bool false ∧ Kp w0 noM w) := by
  have hH : HS w0 noM [] w0 := HS.init w0 noM
  (refine enter (N := 6) Tryz.func99 rfl Tryz.ntmps99 rfl ?_; intro a hA; dsimp only [sl0, Nat.reduceAdd] at hA)
  repeat' (first | (refine QT ?_; clear hA a; intro a hA) | (refine CT ?_ <;> repeat' refine CT ?_) | fail)
  exact rt1 (.inl rfl) rfl hA rfl ⟨by simp, hH.kp⟩
set_option maxHeartbeats 4000000 in
theorem isNaN2_spec (w0 : World) (m : Int) : Ret Tryz.prog 124 #[.int .i64 m] w0 (fun v w => v = .bool false ∧ Kp w0 noM w) := by
  have hH : HS w0 noM [] w0 := HS.init w0 noM
  (refine enter (N := 6) Tryz.func124 rfl Tryz.ntmps124 rfl ?_; intro a hA; dsimp only [sl0, Nat.reduceAdd] at hA)
  repeat' (first | (refine QT ?_; clear hA a; intro a hA) | (refine CT ?_ <;> repeat' refine CT ?_) | fail)
  exact rt1 (.inl rfl) rfl hA rfl ⟨by simp, hH.kp⟩
set_option maxHeartbeats 4000000 in
theorem Less_spec (w0 : World) (m n : Int) : Ret Tryz.prog 98 #[.int .i64 m, .int .i64 n] w0 (fun v w => v = .bool (decide (m < n)) ∧ Kp w0 noM w) := by
  have hH : HS w0 noM [] w0 := HS.init w0 noM
  (refine enter (N := 17) Tryz.func98 rfl Tryz.ntmps98 rfl ?_; intro a hA; dsimp only [sl0, Nat.reduceAdd] at hA)
  repeat' (first | (refine GT ?_ ?_ <;> intro hg <;> clear hA a <;> intro a hA <;> (first | exact FA | replace hg := of_decide_eq_true hg | replace hg := of_decide_eq_false hg | skip)) | (refine QT ?_; clear hA a; intro a hA) | (refine st_op hA rfl rfl (by decide) (op_call rfl rfl rfl (isNaN2_spec _ _)) ?_; clear hA; rintro _ w ⟨rfl, hk⟩ a hA; replace hH := hH.keep hk; clear hk) | (refine CT ?_ <;> repeat' refine CT ?_) | fail)
  all_goals exact rt1 (.inl rfl) rfl hA rfl ⟨rfl, hH.kp⟩
set_option maxHeartbeats 8000000 in
theorem bs_spec (w0 : World) (o : Option Addr) (c : Nat) (l : List Int) (x : Int) (hR : Rd w0 o (flat Fw.encI l)) (hl : l.length ≤ 2000000000) :
    Ret Tryz.prog 57 #[.slice o l.length c, .int .i64 x] w0 (fun v w => v = .tuple #[.int .i64 (bsI l x), .bool (bsB l x)] ∧ Kp w0 noM w) := by
  have hH : HS w0 noM [] w0 := HS.init w0 noM
  have hsp : Sp o l.length := hR.sp (sz := 1) (flat_length Fw.encI_len _) (by omega)
  (refine enter (N := 54) Tryz.func57 rfl Tryz.ntmps57 rfl ?_; intro a hA; dsimp only [sl0, Nat.reduceAdd] at hA)
  repeat' (first | (refine QT ?_; clear hA a; intro a hA) | (refine CT ?_ <;> repeat' refine CT ?_) | fail)
  refine wp_lpk (S := Nat × Nat) (fun p a w => (p.1 ≤ p.2 ∧ p.2 ≤ l.length ∧ bsL l x p.1 p.2 = bsI l x) ∧ HS w0 noM [] w ∧ Sl 54 [(8, .int .i64 p.2), (7, .int .i64 p.1), (6, .int .i64 l.length), (0, .slice o l.length c), (1, .int .i64 x)] a) (fun p => p.2 - p.1)
    (fun a w => HS w0 noM [] w ∧ Sl 54 [(7, .int .i64 (bsI l x)), (6, .int .i64 l.length), (0, .slice o l.length c), (1, .int .i64 x)] a) (0, l.length) ⟨⟨Nat.zero_le _, Nat.le_refl _, rfl⟩, hH, (hA.sub SBT)⟩ ?_ ?_
  · clear hA hH
    rintro ⟨i, j⟩ a w ⟨⟨hij, hj, he⟩, hH, hA⟩
    dsimp only at hij hj he hA
    by_cases hlt : i < j
    rotate_left
    · rw [bsL_end hlt] at he
      repeat' (first | (refine QT ?_; clear hA a; intro a hA) | ((first | refine CT ?_ | (refine DT ?_ ?_ <;> intro hc <;> try (exfalso; omega))) <;> repeat' refine CT ?_) | fail)
      rw [he] at hA
      exact ⟨hH, (hA.sub SBT)⟩
    rw [bsL_step hlt] at he
    have hh : (i + j) / 2 < j := by omega
    have hh2 : i ≤ (i + j) / 2 := by omega
    obtain ⟨h, hhe⟩ : ∃ h, h = (i + j) / 2 := ⟨_, rfl⟩
    rw [← hhe] at he hh hh2
    have hw := half_u (i := i) (j := j) (by omega)
    rw [← hhe] at hw
    repeat' (first | (refine XT ?_; apply XE; (first | (apply ex_convert; rfl; exact hw) | (apply ex_convert; rfl; rfl) | (apply ex_shr; rfl; rfl; decide; rfl) | (apply ex_indexAddr_nat; rfl; rfl; omega; exact hsp) | (apply ex_load; rfl; refine cl_rd hR id (ints_at ?_); omega)); clear hA a; intro a hA) | (refine QT ?_; clear hA a; intro a hA) | (refine st_op hA rfl rfl (by decide) (op_call rfl rfl rfl (Less_spec _ _ _)) ?_; clear hA; rintro _ w ⟨rfl, hk⟩ a hA; replace hH := hH.keep hk; clear hk) | ((first | refine CT ?_ | (refine DT ?_ ?_ <;> intro hc <;> try (exfalso; omega))) <;> repeat' refine CT ?_) | fail)
    · rw [if_pos (by assumption)] at he
      exact ⟨(h + 1, j), ⟨⟨hh, hj, he⟩, hH, (hA.sub SBT)⟩, by dsimp only; omega⟩
    · rw [if_neg (by assumption)] at he
      exact ⟨(i, h), ⟨⟨hh2, by dsimp only; omega, he⟩, hH, (hA.sub SBT)⟩, by dsimp only; omega⟩
  clear hA hH
  rintro a w ⟨hH, hA⟩
  repeat' (first | (refine GT ?_ ?_ <;> intro hg <;> clear hA a <;> intro a hA <;> (first | exact FA | replace hg := of_decide_eq_true hg | replace hg := of_decide_eq_false hg | skip)) | (refine XT ?_; apply XE; (first | (apply ex_load; rfl; refine cl_rd hR id (ints_at ?_); omega) | (apply ex_indexAddr_nat; rfl; rfl; omega; exact hsp)); clear hA a; intro a hA) | (refine QT ?_; clear hA a; intro a hA) | (refine st_op hA rfl rfl (by decide) (op_call rfl rfl rfl (isNaN_spec _ _)) ?_; clear hA; rintro _ w ⟨rfl, hk⟩ a hA; replace hH := hH.keep hk; clear hk) | (refine CT ?_ <;> repeat' refine CT ?_) | fail)
  · exact rt2 (.inl rfl) rfl hA rfl rfl ⟨by rw [bsB_t ⟨by omega, by assumption⟩], hH.kp⟩
  · exact rt2 (.inl rfl) rfl hA rfl rfl ⟨by rw [bsB_f (fun h => (by assumption : ¬ l.getD (bsI l x) 0 = x) h.2)], hH.kp⟩
  · exact rt2 (.inl rfl) rfl hA rfl rfl ⟨by rw [bsB_f (fun h => (by have := h.1; omega))], hH.kp⟩
end Go.Proofs.YtenlcdokaadobaaGreatDoor
namespace Go.Proofs.YtenlcdokaadobaaGreatDoor
open Go Go.Fw
set_option linter.unusedVariables false
theorem RsV_val {c : Cx} {x : Vl} {w : Wd} {u v : Value} {r : Rs} (hr : r = .val x w) (h : RV c x u) (hv : v = .tuple #[u, .string empS]) : RsV c r v := by rw [hr]; exact ⟨u, h, hv⟩
theorem RsV_stk {c : Cx} {w : Wd} {v : Value} {r : Rs} (hr : r = stk w) (hv : v = .tuple #[.nilIface, .string empS]) : RsV c r v := RsV_val (x := .nil) hr (by rw [RV]) hv
theorem RsV_exn {c : Cx} {s : ByteArray} {v : Value} {r : Rs} (hr : r = .exn s) (hv : v = .tuple #[.nilIface, .string s]) : RsV c r v := by rw [hr]; exact hv
theorem RV_num {c : Cx} {n : Int} (h : iok n) : RV c (.num n) (.iface 2 (.int .i64 n)) := by rw [RV]; exact ⟨rfl, h⟩
theorem RV_txt {c : Cx} {s : ByteArray} (h : s.size ≤ 4096) : RV c (.txt s) (.iface 9 (.string s)) := by rw [RV]; exact ⟨rfl, h⟩
theorem bts_get {s : ByteArray} {i : Nat} (h : i < (bts s).length) : (bts s)[i]? = some ((bts s).getD i 0) := by
  rw [List.getD_eq_getElem?_getD, List.getElem?_eq_getElem h]; rfl
theorem bts_byte (s : ByteArray) (i : Nat) : (bts s).getD i 0 < 256 := by
  rw [List.getD_eq_getElem?_getD]
  cases h : (bts s)[i]? with
  | none => exact Nat.zero_lt_succ _
  | some b => exact bts_lt s b (List.mem_of_getElem? h)
theorem size_app (s t : ByteArray) : (s ++ t).size = s.size + t.size := ByteArray.size_append
set_option maxRecDepth 10000 attribute [local irreducible] Code.wp wpList Calls Ex Op1 sat bat blk cb own Go.Fw.mp Go.Fw.mpO Go.Fw.mpI Go.Fw.mpE Go.Fw.itr HS Rd Ret wkD Hp Cl Cls Exit.then Exit.inBlock Exit.noGoto bodyPost Go.Fw.flat wk2 Go.Fw.all Go.Fw.owns wpOp
attribute [local irreducible] sk mpK sko mvO entK opM Go.Fw.mset Go.Fw.mv opK w63

set_option maxHeartbeats 16000000 in
theorem texts_spec (w0 : World) (c : Cx) (op : Int) (l : List Vl) (vs : List Value) (oL : Option Addr) (cL : Nat) (wd : Wd) (hR : Rd w0 oL vs) (hV : RVs c l vs) (hop : (op = 17 ∧ 1 ≤ l.length) ∨ ((op = 18 ∨ op = 19) ∧ 2 ≤ l.length)) :
    Ret Tryz.prog 115 #[.int .i64 op, .slice oL vs.length cL] w0 (fun v w => RsV c (textsF op l wd) v ∧ Kp w0 noM w) := by
  have hH : HS w0 noM [] w0 := HS.init w0 noM
  have hsp : Sp oL vs.length := hR.sp (sz := 1) (by omega) (by omega)
  have hvl := hV.len
  obtain ⟨v0, hv0, hx0⟩ := hV.get0 (i := 0) (by omega)
  (refine enter (N := 73) Tryz.func115 rfl Tryz.ntmps115 rfl ?_; intro a hA; dsimp only [sl0, Nat.reduceAdd] at hA)
  repeat' (first | (refine XT ?_; apply XE; (first | (apply ex_indexAddr; rfl; rfl; decide; omega; exact hsp) | (apply ex_load; rfl; exact cl_rd hR id hv0)); clear hA a; intro a hA) | (refine QT ?_; clear hA a; intro a hA) | (refine CT ?_ <;> repeat' refine CT ?_) | fail)
  rcases hx0.asTxt with ⟨s, hs, rfl, hss⟩ | ⟨hs, hn⟩
  rotate_left
  · repeat' (first | (refine XT ?_; apply XE; (first | (apply ex_assertX; rfl; exact hn)); clear hA a; intro a hA) | (refine QT ?_; clear hA a; intro a hA) | (refine CT ?_ <;> repeat' refine CT ?_) | fail)
    exact rt2 (.inl rfl) rfl hA rfl rfl ⟨RsV_stk (by unfold textsF; rw [hs]) rfl, hH.kp⟩
  have hbl : (bts s).length ≤ 4096 := by rw [bts_len]; exact hss
  repeat' (first | (refine XT ?_; apply XE; (first | (apply ex_assertY; rfl) | (apply ex_len_string; rfl) | (apply ex_iface; rfl)); clear hA a; intro a hA) | (refine QT ?_; clear hA a; intro a hA) | ((first | refine CT ?_ | (refine DT ?_ ?_ <;> intro hc <;> try (exfalso; omega))) <;> repeat' refine CT ?_) | fail)
  · refine rt2 (.inl rfl) rfl hA rfl rfl ⟨RsV_val (x := .num (bts s).length) (w := wd) (by unfold textsF; rw [hs]; exact if_pos (by assumption)) (RV_num ⟨by omega, by omega⟩) rfl, hH.kp⟩
  · obtain ⟨v1, hv1, hx1⟩ := hV.get0 (i := 1) (by omega)
    have h19 : op = 19 := by assumption
    have e19 : textsF op l wd = (match asTxt (nth0 l 1) with | some t => if 4096 < (bts s).length + (bts t).length then .exn exnS else .val (.txt (s ++ t)) wd | none => stk wd) := by
      unfold textsF; rw [hs]; dsimp only; rw [if_neg (by omega), if_pos h19]; rfl
    repeat' (first | (refine XT ?_; apply XE; (first | (apply ex_load; rfl; exact cl_rd hR id hv1)); clear hA a; intro a hA) | (refine QT ?_; clear hA a; intro a hA) | fail)
    rcases hx1.asTxt with ⟨t, ht, rfl, hts⟩ | ⟨ht, hn⟩
    rotate_left
    · repeat' (first | (refine XT ?_; apply XE; (first | (apply ex_assertX; rfl; exact hn)); clear hA a; intro a hA) | (refine QT ?_; clear hA a; intro a hA) | (refine CT ?_ <;> repeat' refine CT ?_) | fail)
      exact rt2 (.inl rfl) rfl hA rfl rfl ⟨RsV_stk (w := wd) (by rw [e19, ht]) rfl, hH.kp⟩
    have hbt : (bts t).length ≤ 4096 := by rw [bts_len]; exact hts
    rw [ht] at e19
    dsimp only at e19
    repeat' (first | (refine XT ?_; apply XE; (first | (apply ex_assertY; rfl) | (apply ex_len_string; rfl) | (apply ex_iface; rfl) | (apply ex_addS; rfl; rfl; rw [← bts_len, ← bts_len]; omega)); clear hA a; intro a hA) | (refine QT ?_; clear hA a; intro a hA) | ((first | refine CT ?_ | (refine DT ?_ ?_ <;> intro hc <;> try (exfalso; omega))) <;> repeat' refine CT ?_) | fail)
    · rw [if_pos (by omega)] at e19
      exact rt2 (.inl rfl) rfl hA rfl rfl ⟨RsV_exn e19 rfl, hH.kp⟩
    · rw [if_neg (by omega)] at e19
      refine rt2 (.inl rfl) rfl hA rfl rfl ⟨RsV_val e19 (RV_txt ?_) rfl, hH.kp⟩
      rw [size_app, ← bts_len, ← bts_len]
      omega
  · obtain ⟨v1, hv1, hx1⟩ := hV.get0 (i := 1) (by omega)
    have e18 : textsF op l wd = (match asNum (nth0 l 1) with | some i => if i < 0 ∨ ((bts s).length : Int) ≤ i then .exn exnB else .val (.num ((bts s).getD i.toNat 0)) wd | none => stk wd) := by
      unfold textsF; rw [hs]; dsimp only; rw [if_neg (by omega), if_neg (by omega)]; rfl
    repeat' (first | (refine XT ?_; apply XE; (first | (apply ex_load; rfl; exact cl_rd hR id hv1)); clear hA a; intro a hA) | (refine QT ?_; clear hA a; intro a hA) | fail)
    rcases hx1.asNum with ⟨i, ht, rfl, hio⟩ | ⟨ht, hn⟩
    rotate_left
    · repeat' (first | (refine XT ?_; apply XE; (first | (apply ex_assertX; rfl; exact hn)); clear hA a; intro a hA) | (refine QT ?_; clear hA a; intro a hA) | (refine CT ?_ <;> repeat' refine CT ?_) | fail)
      exact rt2 (.inl rfl) rfl hA rfl rfl ⟨RsV_stk (w := wd) (by rw [e18, ht]) rfl, hH.kp⟩
    rw [ht] at e18
    dsimp only at e18
    repeat' (first | (refine GT ?_ ?_ <;> intro hg <;> clear hA a <;> intro a hA <;> (first | exact FA | replace hg := of_decide_eq_true hg | replace hg := of_decide_eq_false hg | skip)) | (refine XT ?_; apply XE; (first | (apply ex_assertY; rfl) | (apply ex_len_string; rfl) | (apply ex_iface; rfl)); clear hA a; intro a hA) | (refine QT ?_; clear hA a; intro a hA) | ((first | refine CT ?_ | (refine DT ?_ ?_ <;> intro hc <;> try (exfalso; omega))) <;> repeat' refine CT ?_) | fail)
    · rw [if_pos (.inl (by omega))] at e18
      exact rt2 (.inl rfl) rfl hA rfl rfl ⟨RsV_exn e18 rfl, hH.kp⟩
    · rw [if_pos (.inr (by omega))] at e18
      exact rt2 (.inl rfl) rfl hA rfl rfl ⟨RsV_exn e18 rfl, hH.kp⟩
    have hlt : i.toNat < (bts s).length := by omega
    have hby := bts_byte s i.toNat
    rw [if_neg (by omega)] at e18
    repeat' (first | (refine XT ?_; apply XE; (first | (apply ex_index_string (j := i.toNat); rfl; rfl; omega; exact bts_get hlt) | (apply ex_convert; rfl; exact wrap_i64 (by unfold i64ok; omega)) | (apply ex_iface; rfl)); clear hA a; intro a hA) | (refine QT ?_; clear hA a; intro a hA) | (refine CT ?_ <;> repeat' refine CT ?_) | fail)
    exact rt2 (.inl rfl) rfl hA rfl rfl ⟨RsV_val e18 (RV_num ⟨by omega, by omega⟩) rfl, hH.kp⟩
end Go.Proofs.YtenlcdokaadobaaGreatDoor
namespace Go.Proofs.YtenlcdokaadobaaGreatDoor
open Go Go.Fw
set_option linter.unusedVariables false
def insV {α : Type} (fr : List α) (i : Nat) (r : α) : List α := fr.take i ++ r :: fr.drop i
theorem insV_len {α : Type} {fr : List α} {i : Nat} {r : α} (hi : i ≤ fr.length) : (insV fr i r).length = fr.length + 1 := by simp [insV]; omega
theorem insV_eq {α : Type} {fr : List α} {i : Nat} {r : α} (hi : i ≤ fr.length) : fr.insertIdx i r = insV fr i r := by
  rw [ins_eq r fr i hi]
  unfold insV
  simp
def encV (v : Value) : List Value := [v]
theorem encV_len (v : Value) : (encV v).length = 1 := rfl
theorem flat_cons {α : Type} (enc : α → List Value) (x : α) (l : List α) : flat enc (x :: l) = enc x ++ flat enc l := rfl
theorem flatV : ∀ (l : List Value), flat encV l = l
  | [] => rfl
  | v :: l => by show encV v ++ flat encV l = _; rw [flatV l]; rfl
set_option maxRecDepth 10000 attribute [local irreducible] Code.wp wpList Calls Ex Op1 sat bat blk cb own Go.Fw.mp Go.Fw.mpO Go.Fw.mpI Go.Fw.mpE Go.Fw.itr HS Rd Ret wkD Hp Cl Cls Exit.then Exit.inBlock Exit.noGoto bodyPost Go.Fw.flat wk2 Go.Fw.all Go.Fw.owns wpOp

set_option maxHeartbeats 4000000 in
theorem insertI_spec (w0 : World) (M : Nat → Prop) (o ov : Option Addr) (c i : Nat) (fr : List Int) (r : Int) (hH : HS w0 M [own 2 1 o fr.length c (flat Fw.encI fr), own 2 1 ov 1 1 (Fw.encI r)] w0) (hi : i ≤ fr.length) (hl : fr.length ≤ 1048576) (h1r : (Fw.encI r).all (·.oneCell') = true) (hall : ∀ l, l = fr.drop i → (flat Fw.encI l).all (·.oneCell') = true) :
    Ret Tryz.prog 95 #[.slice o fr.length c, .int .i64 i, .slice ov 1 1] w0
      (fun v w => ∃ o' c', v = .slice o' (fr.length + 1) c' ∧ HS w0 M [own 2 1 o' (fr.length + 1) c' (flat Fw.encI (insV fr i r))] w) := by
  have hle := hH.own_le (o := o) (by exact MEMT)
  obtain ⟨bv, spv, rfl, -, -, hv3, hv4, hHv⟩ := (hH.perm (.swap _ _ _)).own_block (by omega)
  have hspv : spv = [] := List.length_eq_zero_iff.1 (by rw [Fw.encI_len] at hv4; omega)
  subst hspv
  rw [List.append_nil] at hHv
  replace hH := hHv.perm (.swap _ _ _)
  clear hHv
  by_cases hin : i = fr.length
  · subst hin
    have hrv : Rd w0 (some (bat bv 0)) (Fw.encI r) := by
      have := hH.cb_rd (b := bv) (by exact MEMT) 0
      rwa [List.drop_zero] at this
    (refine enter (N := 95) Tryz.func95 rfl Tryz.ntmps95 rfl ?_; intro a hA; dsimp only [sl0, Nat.reduceAdd] at hA)
    repeat' (first | (refine XT ?_; apply XE; (first | (apply ex_slice_lo (k := fr.length); rfl; rfl; rfl; omega)); clear hA a; intro a hA) | (refine QT ?_; clear hA a; intro a hA) | (apply st_op hA rfl rfl (by decide); apply op_append; rfl; rfl; exact hH; exact MEMT; exact hrv; exact Fw.encI_len r; rfl; decide; exact h1r; (unfold maxLen; omega); omega; clear hA; rintro _ w ⟨oN, cN, rfl, hH2⟩ a hA; clear hH; have hH := hH2 _ (by (repeat constructor)); clear hH2) | ((first | refine CT ?_ | (refine DT ?_ ?_ <;> intro hc <;> try (exfalso; omega))) <;> repeat' refine CT ?_) | fail)
    have e : flat Fw.encI fr ++ Fw.encI r = flat Fw.encI (insV fr fr.length r) := by
      unfold insV
      rw [List.take_length, List.drop_length, ← flat_snoc]
    rw [e] at hH
    exact rt1 (.inl rfl) rfl hA rfl ⟨_, _, rfl, hH.head⟩
  have hlt : i < fr.length := by omega
  obtain ⟨b, spare, rfl, h1, h2, h3, h4, hH⟩ := hH.own_block (by omega)
  have hne := hH.cb_ne
  have hlen : (flat Fw.encI fr ++ spare).length = c * 1 := by rw [List.length_append]; exact h4
  have hA_ : (flat Fw.encI (fr.take i)).length = i * 1 := by rw [flat_length Fw.encI_len, List.length_take]; omega
  have hB_ : (flat Fw.encI (fr.drop i)).length = (fr.length - i) * 1 := by rw [flat_length Fw.encI_len, List.length_drop]
  have hsplit : flat Fw.encI fr = flat Fw.encI (fr.take i) ++ flat Fw.encI (fr.drop i) := by rw [← flat_append, List.take_append_drop]
  have hins : flat Fw.encI (insV fr i r) = flat Fw.encI (fr.take i) ++ (Fw.encI r ++ flat Fw.encI (fr.drop i)) := by
    unfold insV
    rw [flat_append, flat_cons]
  have hq1 : (if c = i then 0 else 0 + i * 1) = i * 1 := by rw [if_neg (by omega), Nat.zero_add]
  by_cases hroom : fr.length + 1 ≤ c
  rotate_left
  · -- into a new block
    (refine enter (N := 95) Tryz.func95 rfl Tryz.ntmps95 rfl ?_; intro a hA; dsimp only [sl0, Nat.reduceAdd] at hA)
    repeat' (first | (refine XT ?_; apply XE; (first | (apply ex_slice_lo_b (k := i) (q := i * 1); rfl; rfl; rfl; omega; exact hq1) | (apply ex_slice_hi (k := i); rfl; rfl; rfl; omega) | (apply ex_cap_slice; rfl)); clear hA a; intro a hA) | (refine QT ?_; clear hA a; intro a hA) | ((first | refine CT ?_ | (refine DT ?_ ?_ <;> intro hc <;> try (exfalso; omega))) <;> repeat' refine CT ?_) | fail)
    have holds : ∀ j u, (flat Fw.encI (fr.take i))[j]? = some u → w0.cell? ((bat b 0).add j) = some u := by
      intro j u hj
      have := hH.cb_news (b := b) (k := 0) (m := (flat Fw.encI (fr.take i)).length) (List.mem_cons_self ..) j u
      have e5 : ((flat Fw.encI fr ++ spare).drop 0).take (flat Fw.encI (fr.take i)).length = flat Fw.encI (fr.take i) := by
        rw [List.drop_zero, hsplit, List.append_assoc, List.take_append_of_le_length (Nat.le_refl _), List.take_length]
      rw [e5] at this
      exact this hj
    repeat' (first | (refine QT ?_; clear hA a; intro a hA) | (apply st_op hA rfl rfl (by decide); apply op_append_mk (k := fr.length + 1 - i); rfl; rfl; omega; exact hH; exact holds; exact hA_; rfl; omega; omega; (unfold maxLen; omega); omega; omega; clear hA; rintro _ w ⟨o2, c2, rest, rfl, hrest, hH2⟩ a hA) | fail)
    have en : i + (fr.length + 1 - i) = fr.length + 1 := by omega
    rw [en] at hA hH2
    have hle2 := hH2.own_le (o := o2) (by exact MEMT)
    obtain ⟨b2, sp2, rfl, k1, k2, k3, k4, hH3⟩ := hH2.own_block (by omega)
    clear hH hH2
    have hH := hH3
    clear hH3
    have hq3 : (if c2 = i then 0 else 0 + i * 1) = i * 1 := by rw [if_neg (by omega), Nat.zero_add]
    have hq4 : (if c2 = i + 1 then 0 else 0 + (i + 1) * 1) = (i + 1) * 1 := by rw [if_neg (by omega), Nat.zero_add]
    have hrv : ∀ j u, (Fw.encI r)[j]? = some u → w.cell? ((bat bv 0).add j) = some u := by
      intro j u hj
      have := hH.cb_news (b := bv) (k := 0) (m := (Fw.encI r).length) (by exact MEMT) j u
      rw [List.drop_zero, List.take_length] at this
      exact this hj
    have hl1 : (Fw.encI r).length = Nat.min 1 (fr.length + 1 - i) * 1 := by rw [show Nat.min 1 (fr.length + 1 - i) = 1 by show min 1 (fr.length + 1 - i) = 1; omega]; rfl
    have hf1 : i * 1 + (Fw.encI r).length ≤ (flat Fw.encI (fr.take i) ++ rest ++ sp2).length := by
      rw [List.length_append, List.length_append, hA_, hrest, Fw.encI_len]; omega
    repeat' (first | (refine XT ?_; apply XE; (first | (apply ex_slice_lo_b (k := i) (q := i * 1); rfl; rfl; rfl; omega; exact hq3)); clear hA a; intro a hA) | (refine QT ?_; clear hA a; intro a hA) | (apply st_op hA rfl rfl (by decide); apply op_copy_cb; rfl; rfl; exact hH; exact hrv; exact hl1; exact h1r; exact hf1; (repeat constructor); clear hA hH; rintro _ w ⟨rfl, hH⟩ a hA) | (refine CT ?_ <;> repeat' refine CT ?_) | fail)
    have hB5 : ((flat Fw.encI fr ++ spare).drop (i * 1)).take (flat Fw.encI (fr.drop i)).length = flat Fw.encI (fr.drop i) := by
      have := @mid_take (flat Fw.encI (fr.take i)) [] (flat Fw.encI (fr.drop i)) spare
      rw [List.length_nil, Nat.add_zero, hA_, List.nil_append, ← List.append_assoc, ← hsplit] at this
      exact this
    have hl2 : (flat Fw.encI (fr.drop i)).length = Nat.min (fr.length - i) (fr.length + 1 - (i + 1)) * 1 := by
      rw [hB_, show Nat.min (fr.length - i) (fr.length + 1 - (i + 1)) = fr.length - i by show min (fr.length - i) (fr.length + 1 - (i + 1)) = _; omega]
    have hpl : (put (flat Fw.encI (fr.take i) ++ rest ++ sp2) (i * 1) (Fw.encI r)).length = c2 * 1 := by rw [put_length hf1, List.length_append]; exact k4
    have hf2 : (i + 1) * 1 + (flat Fw.encI (fr.drop i)).length ≤ (put (flat Fw.encI (fr.take i) ++ rest ++ sp2) (i * 1) (Fw.encI r)).length := by rw [hpl, hB_]; omega
    have hone : (flat Fw.encI (fr.drop i)).all (·.oneCell') = true := hall _ rfl
    (refine wp_draw_HS [(0, 2), (1, 2), (2, 2), (3, 2), (4, 2), (5, 2), (6, 2), (7, 2), (8, 0)] mixed (by decide +kernel) hH.drop_ ?_; replace hH := hH.drew)
    have hrB : ∀ j u, (flat Fw.encI (fr.drop i))[j]? = some u → w.drew.cell? ((bat b (i * 1)).add j) = some u := by
      intro j u hj
      have := hH.cb_news (b := b) (k := i * 1) (m := (flat Fw.encI (fr.drop i)).length) (by exact MEMT) j u
      rw [hB5] at this
      exact this hj
    repeat' (first | (refine XT ?_; apply XE; (first | (apply ex_slice_lo_b (k := i + 1) (q := (i + 1) * 1); rfl; rfl; rfl; omega; exact hq4) | (apply ex_slice_lo_b (k := i) (q := i * 1); rfl; rfl; rfl; omega; exact hq1)); clear hA a; intro a hA) | (refine QT ?_; clear hA a; intro a hA) | (refine CT ?_ <;> repeat' refine CT ?_) | (apply dr_op hA rfl rfl rfl (by decide); apply op_copy_cb; rfl; rfl; exact hH; exact hrB; exact hl2; exact hone; exact hf2; (repeat constructor); clear hA hH; rintro _ w ⟨rfl, hH⟩; refine ⟨STT, ?_⟩; intro a hA) | fail)
    have hrest2 : rest.length = 1 + (fr.length - i) * 1 := by rw [hrest]; omega
    have e7 : put (put (flat Fw.encI (fr.take i) ++ rest ++ sp2) (i * 1) (Fw.encI r)) ((i + 1) * 1) (flat Fw.encI (fr.drop i)) = flat Fw.encI (insV fr i r) ++ sp2 := by
      have e8 : flat Fw.encI (fr.take i) ++ rest ++ sp2 = flat Fw.encI (fr.take i) ++ (rest.take 1 ++ (rest.drop 1 ++ sp2)) := by
        rw [← List.append_assoc (rest.take 1), List.take_append_drop, List.append_assoc]
      rw [e8, put_seg hA_.symm (by rw [Fw.encI_len, List.length_take]; omega), ← List.append_assoc (flat Fw.encI (fr.take i)), put_seg (by rw [List.length_append, hA_, Fw.encI_len]; omega) (by rw [hB_, List.length_drop]; omega), hins]
      simp
    rw [e7] at hH
    have hil : (flat Fw.encI (insV fr i r)).length = (fr.length + 1) * 1 := by rw [flat_length Fw.encI_len, insV_len hi]
    refine rt1 (.inl rfl) rfl hA rfl ⟨_, _, rfl, (hH.head).block_own hil k1 k2 ?_⟩
    rw [hil, ← k3]
    exact k4
  · (refine enter (N := 95) Tryz.func95 rfl Tryz.ntmps95 rfl ?_; intro a hA; dsimp only [sl0, Nat.reduceAdd] at hA)
    repeat' (first | (refine XT ?_; apply XE; (first | (apply ex_slice_lo_b (k := i) (q := i * 1); rfl; rfl; rfl; omega; exact hq1) | (apply ex_slice_hi (k := fr.length + 1); rfl; rfl; rfl; omega) | (apply ex_cap_slice; rfl)); clear hA a; intro a hA) | (refine QT ?_; clear hA a; intro a hA) | ((first | refine CT ?_ | (refine DT ?_ ?_ <;> intro hc <;> try (exfalso; omega))) <;> repeat' refine CT ?_) | fail)
    have hsp2 : 1 ≤ spare.length := by rw [List.length_append, h3] at hlen; omega
    have hq2 : (if c = i + 1 then 0 else 0 + (i + 1) * 1) = (i + 1) * 1 := by rw [if_neg (by omega), Nat.zero_add]
    have hc2 : (flat Fw.encI fr ++ spare).length ≠ 0 := by rw [hlen]; omega
    repeat' (first | (refine XT ?_; apply XE; (first | (apply ex_slice_lo_b (k := i + 1) (q := (i + 1) * 1); rfl; rfl; rfl; omega; exact hq2)); clear hA a; intro a hA) | (refine QT ?_; clear hA a; intro a hA) | (apply st_op hA rfl rfl (by decide); apply op_overlaps (t := 48) (tR := 4) Tryz.func118 (by kernel_rfl) (by kernel_rfl) (by kernel_rfl) (by kernel_rfl); rfl; rfl; exact hH; exact MEMT; exact MEMT; exact Ne.symm hne; exact hc2; clear hA; rintro _ w2 ⟨rfl, hw2⟩ a hA; rw [hw2]; clear hw2 w2) | (refine CT ?_ <;> repeat' refine CT ?_) | fail)
    have hB5 : ((flat Fw.encI fr ++ spare).drop (i * 1)).take (flat Fw.encI (fr.drop i)).length = flat Fw.encI (fr.drop i) := by
      have := @mid_take (flat Fw.encI (fr.take i)) [] (flat Fw.encI (fr.drop i)) spare
      rw [List.length_nil, Nat.add_zero, hA_, List.nil_append, ← List.append_assoc, ← hsplit] at this
      exact this
    have hl2 : (flat Fw.encI (fr.drop i)).length = Nat.min (fr.length + 1 - i) (fr.length + 1 - (i + 1)) * 1 := by
      rw [hB_, show Nat.min (fr.length + 1 - i) (fr.length + 1 - (i + 1)) = fr.length - i by show min (fr.length + 1 - i) (fr.length + 1 - (i + 1)) = _; omega]
    have hf2 : (i + 1) * 1 + (flat Fw.encI (fr.drop i)).length ≤ (flat Fw.encI fr ++ spare).length := by rw [hlen, hB_]; omega
    have hone : (flat Fw.encI (fr.drop i)).all (·.oneCell') = true := hall _ rfl
    (refine wp_draw_HS [(0, 2), (1, 2), (2, 2), (3, 2), (4, 2), (5, 2), (6, 2), (7, 2), (8, 0)] mixed (by decide +kernel) hH.drop_ ?_; replace hH := hH.drew)
    have hrB : ∀ j u, (flat Fw.encI (fr.drop i))[j]? = some u → w0.drew.cell? ((bat b (i * 1)).add j) = some u := by
      intro j u hj
      have := hH.cb_news (b := b) (k := i * 1) (m := (flat Fw.encI (fr.drop i)).length) (by exact MEMT) j u
      rw [hB5] at this
      exact this hj
    repeat' (first | (refine XT ?_; apply XE; (first | (apply ex_slice_lo_b (k := i + 1) (q := (i + 1) * 1); rfl; rfl; rfl; omega; exact hq2) | (apply ex_slice_lo_b (k := i) (q := i * 1); rfl; rfl; rfl; omega; exact hq1)); clear hA a; intro a hA) | (refine QT ?_; clear hA a; intro a hA) | (refine CT ?_ <;> repeat' refine CT ?_) | (apply dr_op hA rfl rfl rfl (by decide); apply op_copy_cb; rfl; rfl; exact hH; exact hrB; exact hl2; exact hone; exact hf2; (repeat constructor); clear hA hH; rintro _ w ⟨rfl, hH⟩; refine ⟨STT, ?_⟩; intro a hA) | fail)
    have hrv : ∀ j u, (Fw.encI r)[j]? = some u → w.cell? ((bat bv 0).add j) = some u := by
      intro j u hj
      have := hH.cb_news (b := bv) (k := 0) (m := (Fw.encI r).length) (by exact MEMT) j u
      rw [List.drop_zero, List.take_length] at this
      exact this hj
    have hl1 : (Fw.encI r).length = Nat.min 1 (fr.length + 1 - i) * 1 := by rw [show Nat.min 1 (fr.length + 1 - i) = 1 by show min 1 (fr.length + 1 - i) = 1; omega]; rfl
    have hf1 : i * 1 + (Fw.encI r).length ≤ (put (flat Fw.encI fr ++ spare) ((i + 1) * 1) (flat Fw.encI (fr.drop i))).length := by
      rw [put_length hf2, hlen, Fw.encI_len]; omega
    repeat' (first | (refine XT ?_; apply XE; (first | (apply ex_slice_lo_b (k := i) (q := i * 1); rfl; rfl; rfl; omega; exact hq1)); clear hA a; intro a hA) | (refine QT ?_; clear hA a; intro a hA) | (apply st_op hA rfl rfl (by decide); apply op_copy_cb; rfl; rfl; exact hH; exact hrv; exact hl1; exact h1r; exact hf1; (repeat constructor); clear hA hH; rintro _ w ⟨rfl, hH⟩ a hA) | (refine CT ?_ <;> repeat' refine CT ?_) | fail)
    have e7 : put (put (flat Fw.encI fr ++ spare) ((i + 1) * 1) (flat Fw.encI (fr.drop i))) (i * 1) (Fw.encI r) = flat Fw.encI (insV fr i r) ++ spare.drop 1 := by
      have e8 : flat Fw.encI fr ++ spare = flat Fw.encI (fr.take i) ++ (flat Fw.encI (fr.drop i) ++ (spare.take 1 ++ spare.drop 1)) := by
        rw [List.take_append_drop, ← List.append_assoc, ← hsplit]
      have e9 := @ins_cells (flat Fw.encI (fr.take i)) (Fw.encI r) (flat Fw.encI (fr.drop i)) (spare.take 1) (spare.drop 1) (by rw [Fw.encI_len, List.length_take]; omega)
      rw [hA_, Fw.encI_len, show i * 1 + 1 = (i + 1) * 1 by omega] at e9
      rw [e8, e9, hins]
    rw [e7] at hH
    have hil : (flat Fw.encI (insV fr i r)).length = (fr.length + 1) * 1 := by rw [flat_length Fw.encI_len, insV_len hi]
    refine rt1 (.inl rfl) rfl hA rfl ⟨_, _, rfl, (hH.head).block_own hil hroom h2 ?_⟩
    rw [hil, List.length_drop]
    omega
end Go.Proofs.YtenlcdokaadobaaGreatDoor
namespace Go.Proofs.YtenlcdokaadobaaGreatDoor
open Go Go.Fw
set_option linter.unusedVariables false
set_option maxRecDepth 10000 attribute [local irreducible] Code.wp wpList Calls Ex Op1 sat bat blk cb own Go.Fw.mp Go.Fw.mpO Go.Fw.mpI Go.Fw.mpE Go.Fw.itr HS Rd Ret wkD Hp Cl Cls Exit.then Exit.inBlock Exit.noGoto bodyPost Go.Fw.flat wk2 Go.Fw.all Go.Fw.owns wpOp

set_option maxHeartbeats 4000000 in
theorem insertV_spec (w0 : World) (M : Nat → Prop) (o ov : Option Addr) (c i : Nat) (fr : List Value) (r : Value) (hH : HS w0 M [own 137 1 o fr.length c (flat encV fr), own 137 1 ov 1 1 (encV r)] w0) (hi : i ≤ fr.length) (hl : fr.length ≤ 1048576) (h1r : (encV r).all (·.oneCell') = true) (hall : ∀ l, l = fr.drop i → (flat encV l).all (·.oneCell') = true) :
    Ret Tryz.prog 96 #[.slice o fr.length c, .int .i64 i, .slice ov 1 1] w0
      (fun v w => ∃ o' c', v = .slice o' (fr.length + 1) c' ∧ HS w0 M [own 137 1 o' (fr.length + 1) c' (flat encV (insV fr i r))] w) := by
  have hle := hH.own_le (o := o) (by exact MEMT)
  obtain ⟨bv, spv, rfl, -, -, hv3, hv4, hHv⟩ := (hH.perm (.swap _ _ _)).own_block (by omega)
  have hspv : spv = [] := List.length_eq_zero_iff.1 (by rw [encV_len] at hv4; omega)
  subst hspv
  rw [List.append_nil] at hHv
  replace hH := hHv.perm (.swap _ _ _)
  clear hHv
  by_cases hin : i = fr.length
  · subst hin
    have hrv : Rd w0 (some (bat bv 0)) (encV r) := by
      have := hH.cb_rd (b := bv) (by exact MEMT) 0
      rwa [List.drop_zero] at this
    (refine enter (N := 95) Tryz.func96 rfl Tryz.ntmps96 rfl ?_; intro a hA; dsimp only [sl0, Nat.reduceAdd] at hA)
    repeat' (first | (refine XT ?_; apply XE; (first | (apply ex_slice_lo (k := fr.length); rfl; rfl; rfl; omega)); clear hA a; intro a hA) | (refine QT ?_; clear hA a; intro a hA) | (apply st_op hA rfl rfl (by decide); apply op_append; rfl; rfl; exact hH; exact MEMT; exact hrv; exact encV_len r; rfl; decide; exact h1r; (unfold maxLen; omega); omega; clear hA; rintro _ w ⟨oN, cN, rfl, hH2⟩ a hA; clear hH; have hH := hH2 _ (by (repeat constructor)); clear hH2) | ((first | refine CT ?_ | (refine DT ?_ ?_ <;> intro hc <;> try (exfalso; omega))) <;> repeat' refine CT ?_) | fail)
    have e : flat encV fr ++ encV r = flat encV (insV fr fr.length r) := by
      unfold insV
      rw [List.take_length, List.drop_length, ← flat_snoc]
    rw [e] at hH
    exact rt1 (.inl rfl) rfl hA rfl ⟨_, _, rfl, hH.head⟩
  have hlt : i < fr.length := by omega
  obtain ⟨b, spare, rfl, h1, h2, h3, h4, hH⟩ := hH.own_block (by omega)
  have hne := hH.cb_ne
  have hlen : (flat encV fr ++ spare).length = c * 1 := by rw [List.length_append]; exact h4
  have hA_ : (flat encV (fr.take i)).length = i * 1 := by rw [flat_length encV_len, List.length_take]; omega
  have hB_ : (flat encV (fr.drop i)).length = (fr.length - i) * 1 := by rw [flat_length encV_len, List.length_drop]
  have hsplit : flat encV fr = flat encV (fr.take i) ++ flat encV (fr.drop i) := by rw [← flat_append, List.take_append_drop]
  have hins : flat encV (insV fr i r) = flat encV (fr.take i) ++ (encV r ++ flat encV (fr.drop i)) := by
    unfold insV
    rw [flat_append, flat_cons]
  have hq1 : (if c = i then 0 else 0 + i * 1) = i * 1 := by rw [if_neg (by omega), Nat.zero_add]
  by_cases hroom : fr.length + 1 ≤ c
  rotate_left
  · -- into a new block
    (refine enter (N := 95) Tryz.func96 rfl Tryz.ntmps96 rfl ?_; intro a hA; dsimp only [sl0, Nat.reduceAdd] at hA)
    repeat' (first | (refine XT ?_; apply XE; (first | (apply ex_slice_lo_b (k := i) (q := i * 1); rfl; rfl; rfl; omega; exact hq1) | (apply ex_slice_hi (k := i); rfl; rfl; rfl; omega) | (apply ex_cap_slice; rfl)); clear hA a; intro a hA) | (refine QT ?_; clear hA a; intro a hA) | ((first | refine CT ?_ | (refine DT ?_ ?_ <;> intro hc <;> try (exfalso; omega))) <;> repeat' refine CT ?_) | fail)
    have holds : ∀ j u, (flat encV (fr.take i))[j]? = some u → w0.cell? ((bat b 0).add j) = some u := by
      intro j u hj
      have := hH.cb_news (b := b) (k := 0) (m := (flat encV (fr.take i)).length) (List.mem_cons_self ..) j u
      have e5 : ((flat encV fr ++ spare).drop 0).take (flat encV (fr.take i)).length = flat encV (fr.take i) := by
        rw [List.drop_zero, hsplit, List.append_assoc, List.take_append_of_le_length (Nat.le_refl _), List.take_length]
      rw [e5] at this
      exact this hj
    repeat' (first | (refine QT ?_; clear hA a; intro a hA) | (apply st_op hA rfl rfl (by decide); apply op_append_mk (k := fr.length + 1 - i); rfl; rfl; omega; exact hH; exact holds; exact hA_; rfl; omega; omega; (unfold maxLen; omega); omega; omega; clear hA; rintro _ w ⟨o2, c2, rest, rfl, hrest, hH2⟩ a hA) | fail)
    have en : i + (fr.length + 1 - i) = fr.length + 1 := by omega
    rw [en] at hA hH2
    have hle2 := hH2.own_le (o := o2) (by exact MEMT)
    obtain ⟨b2, sp2, rfl, k1, k2, k3, k4, hH3⟩ := hH2.own_block (by omega)
    clear hH hH2
    have hH := hH3
    clear hH3
    have hq3 : (if c2 = i then 0 else 0 + i * 1) = i * 1 := by rw [if_neg (by omega), Nat.zero_add]
    have hq4 : (if c2 = i + 1 then 0 else 0 + (i + 1) * 1) = (i + 1) * 1 := by rw [if_neg (by omega), Nat.zero_add]
    have hrv : ∀ j u, (encV r)[j]? = some u → w.cell? ((bat bv 0).add j) = some u := by
      intro j u hj
      have := hH.cb_news (b := bv) (k := 0) (m := (encV r).length) (by exact MEMT) j u
      rw [List.drop_zero, List.take_length] at this
      exact this hj
    have hl1 : (encV r).length = Nat.min 1 (fr.length + 1 - i) * 1 := by rw [show Nat.min 1 (fr.length + 1 - i) = 1 by show min 1 (fr.length + 1 - i) = 1; omega]; rfl
    have hf1 : i * 1 + (encV r).length ≤ (flat encV (fr.take i) ++ rest ++ sp2).length := by
      rw [List.length_append, List.length_append, hA_, hrest, encV_len]; omega
    repeat' (first | (refine XT ?_; apply XE; (first | (apply ex_slice_lo_b (k := i) (q := i * 1); rfl; rfl; rfl; omega; exact hq3)); clear hA a; intro a hA) | (refine QT ?_; clear hA a; intro a hA) | (apply st_op hA rfl rfl (by decide); apply op_copy_cb; rfl; rfl; exact hH; exact hrv; exact hl1; exact h1r; exact hf1; (repeat constructor); clear hA hH; rintro _ w ⟨rfl, hH⟩ a hA) | (refine CT ?_ <;> repeat' refine CT ?_) | fail)
    have hB5 : ((flat encV fr ++ spare).drop (i * 1)).take (flat encV (fr.drop i)).length = flat encV (fr.drop i) := by
      have := @mid_take (flat encV (fr.take i)) [] (flat encV (fr.drop i)) spare
      rw [List.length_nil, Nat.add_zero, hA_, List.nil_append, ← List.append_assoc, ← hsplit] at this
      exact this
    have hl2 : (flat encV (fr.drop i)).length = Nat.min (fr.length - i) (fr.length + 1 - (i + 1)) * 1 := by
      rw [hB_, show Nat.min (fr.length - i) (fr.length + 1 - (i + 1)) = fr.length - i by show min (fr.length - i) (fr.length + 1 - (i + 1)) = _; omega]
    have hpl : (put (flat encV (fr.take i) ++ rest ++ sp2) (i * 1) (encV r)).length = c2 * 1 := by rw [put_length hf1, List.length_append]; exact k4
    have hf2 : (i + 1) * 1 + (flat encV (fr.drop i)).length ≤ (put (flat encV (fr.take i) ++ rest ++ sp2) (i * 1) (encV r)).length := by rw [hpl, hB_]; omega
    have hone : (flat encV (fr.drop i)).all (·.oneCell') = true := hall _ rfl
    (refine wp_draw_HS [(0, 2), (1, 2), (2, 2), (3, 2), (4, 2), (5, 2), (6, 2), (7, 2), (8, 0)] mixed (by decide +kernel) hH.drop_ ?_; replace hH := hH.drew)
    have hrB : ∀ j u, (flat encV (fr.drop i))[j]? = some u → w.drew.cell? ((bat b (i * 1)).add j) = some u := by
      intro j u hj
      have := hH.cb_news (b := b) (k := i * 1) (m := (flat encV (fr.drop i)).length) (by exact MEMT) j u
      rw [hB5] at this
      exact this hj
    repeat' (first | (refine XT ?_; apply XE; (first | (apply ex_slice_lo_b (k := i + 1) (q := (i + 1) * 1); rfl; rfl; rfl; omega; exact hq4) | (apply ex_slice_lo_b (k := i) (q := i * 1); rfl; rfl; rfl; omega; exact hq1)); clear hA a; intro a hA) | (refine QT ?_; clear hA a; intro a hA) | (refine CT ?_ <;> repeat' refine CT ?_) | (apply dr_op hA rfl rfl rfl (by decide); apply op_copy_cb; rfl; rfl; exact hH; exact hrB; exact hl2; exact hone; exact hf2; (repeat constructor); clear hA hH; rintro _ w ⟨rfl, hH⟩; refine ⟨STT, ?_⟩; intro a hA) | fail)
    have hrest2 : rest.length = 1 + (fr.length - i) * 1 := by rw [hrest]; omega
    have e7 : put (put (flat encV (fr.take i) ++ rest ++ sp2) (i * 1) (encV r)) ((i + 1) * 1) (flat encV (fr.drop i)) = flat encV (insV fr i r) ++ sp2 := by
      have e8 : flat encV (fr.take i) ++ rest ++ sp2 = flat encV (fr.take i) ++ (rest.take 1 ++ (rest.drop 1 ++ sp2)) := by
        rw [← List.append_assoc (rest.take 1), List.take_append_drop, List.append_assoc]
      rw [e8, put_seg hA_.symm (by rw [encV_len, List.length_take]; omega), ← List.append_assoc (flat encV (fr.take i)), put_seg (by rw [List.length_append, hA_, encV_len]; omega) (by rw [hB_, List.length_drop]; omega), hins]
      simp
    rw [e7] at hH
    have hil : (flat encV (insV fr i r)).length = (fr.length + 1) * 1 := by rw [flat_length encV_len, insV_len hi]
    refine rt1 (.inl rfl) rfl hA rfl ⟨_, _, rfl, (hH.head).block_own hil k1 k2 ?_⟩
    rw [hil, ← k3]
    exact k4
  · (refine enter (N := 95) Tryz.func96 rfl Tryz.ntmps96 rfl ?_; intro a hA; dsimp only [sl0, Nat.reduceAdd] at hA)
    repeat' (first | (refine XT ?_; apply XE; (first | (apply ex_slice_lo_b (k := i) (q := i * 1); rfl; rfl; rfl; omega; exact hq1) | (apply ex_slice_hi (k := fr.length + 1); rfl; rfl; rfl; omega) | (apply ex_cap_slice; rfl)); clear hA a; intro a hA) | (refine QT ?_; clear hA a; intro a hA) | ((first | refine CT ?_ | (refine DT ?_ ?_ <;> intro hc <;> try (exfalso; omega))) <;> repeat' refine CT ?_) | fail)
    have hsp2 : 1 ≤ spare.length := by rw [List.length_append, h3] at hlen; omega
    have hq2 : (if c = i + 1 then 0 else 0 + (i + 1) * 1) = (i + 1) * 1 := by rw [if_neg (by omega), Nat.zero_add]
    have hc2 : (flat encV fr ++ spare).length ≠ 0 := by rw [hlen]; omega
    repeat' (first | (refine XT ?_; apply XE; (first | (apply ex_slice_lo_b (k := i + 1) (q := (i + 1) * 1); rfl; rfl; rfl; omega; exact hq2)); clear hA a; intro a hA) | (refine QT ?_; clear hA a; intro a hA) | (apply st_op hA rfl rfl (by decide); apply op_overlaps (t := 88) (tR := 4) Tryz.func120 (by kernel_rfl) (by kernel_rfl) (by kernel_rfl) (by kernel_rfl); rfl; rfl; exact hH; exact MEMT; exact MEMT; exact Ne.symm hne; exact hc2; clear hA; rintro _ w2 ⟨rfl, hw2⟩ a hA; rw [hw2]; clear hw2 w2) | (refine CT ?_ <;> repeat' refine CT ?_) | fail)
    have hB5 : ((flat encV fr ++ spare).drop (i * 1)).take (flat encV (fr.drop i)).length = flat encV (fr.drop i) := by
      have := @mid_take (flat encV (fr.take i)) [] (flat encV (fr.drop i)) spare
      rw [List.length_nil, Nat.add_zero, hA_, List.nil_append, ← List.append_assoc, ← hsplit] at this
      exact this
    have hl2 : (flat encV (fr.drop i)).length = Nat.min (fr.length + 1 - i) (fr.length + 1 - (i + 1)) * 1 := by
      rw [hB_, show Nat.min (fr.length + 1 - i) (fr.length + 1 - (i + 1)) = fr.length - i by show min (fr.length + 1 - i) (fr.length + 1 - (i + 1)) = _; omega]
    have hf2 : (i + 1) * 1 + (flat encV (fr.drop i)).length ≤ (flat encV fr ++ spare).length := by rw [hlen, hB_]; omega
    have hone : (flat encV (fr.drop i)).all (·.oneCell') = true := hall _ rfl
    (refine wp_draw_HS [(0, 2), (1, 2), (2, 2), (3, 2), (4, 2), (5, 2), (6, 2), (7, 2), (8, 0)] mixed (by decide +kernel) hH.drop_ ?_; replace hH := hH.drew)
    have hrB : ∀ j u, (flat encV (fr.drop i))[j]? = some u → w0.drew.cell? ((bat b (i * 1)).add j) = some u := by
      intro j u hj
      have := hH.cb_news (b := b) (k := i * 1) (m := (flat encV (fr.drop i)).length) (by exact MEMT) j u
      rw [hB5] at this
      exact this hj
    repeat' (first | (refine XT ?_; apply XE; (first | (apply ex_slice_lo_b (k := i + 1) (q := (i + 1) * 1); rfl; rfl; rfl; omega; exact hq2) | (apply ex_slice_lo_b (k := i) (q := i * 1); rfl; rfl; rfl; omega; exact hq1)); clear hA a; intro a hA) | (refine QT ?_; clear hA a; intro a hA) | (refine CT ?_ <;> repeat' refine CT ?_) | (apply dr_op hA rfl rfl rfl (by decide); apply op_copy_cb; rfl; rfl; exact hH; exact hrB; exact hl2; exact hone; exact hf2; (repeat constructor); clear hA hH; rintro _ w ⟨rfl, hH⟩; refine ⟨STT, ?_⟩; intro a hA) | fail)
    have hrv : ∀ j u, (encV r)[j]? = some u → w.cell? ((bat bv 0).add j) = some u := by
      intro j u hj
      have := hH.cb_news (b := bv) (k := 0) (m := (encV r).length) (by exact MEMT) j u
      rw [List.drop_zero, List.take_length] at this
      exact this hj
    have hl1 : (encV r).length = Nat.min 1 (fr.length + 1 - i) * 1 := by rw [show Nat.min 1 (fr.length + 1 - i) = 1 by show min 1 (fr.length + 1 - i) = 1; omega]; rfl
    have hf1 : i * 1 + (encV r).length ≤ (put (flat encV fr ++ spare) ((i + 1) * 1) (flat encV (fr.drop i))).length := by
      rw [put_length hf2, hlen, encV_len]; omega
    repeat' (first | (refine XT ?_; apply XE; (first | (apply ex_slice_lo_b (k := i) (q := i * 1); rfl; rfl; rfl; omega; exact hq1)); clear hA a; intro a hA) | (refine QT ?_; clear hA a; intro a hA) | (apply st_op hA rfl rfl (by decide); apply op_copy_cb; rfl; rfl; exact hH; exact hrv; exact hl1; exact h1r; exact hf1; (repeat constructor); clear hA hH; rintro _ w ⟨rfl, hH⟩ a hA) | (refine CT ?_ <;> repeat' refine CT ?_) | fail)
    have e7 : put (put (flat encV fr ++ spare) ((i + 1) * 1) (flat encV (fr.drop i))) (i * 1) (encV r) = flat encV (insV fr i r) ++ spare.drop 1 := by
      have e8 : flat encV fr ++ spare = flat encV (fr.take i) ++ (flat encV (fr.drop i) ++ (spare.take 1 ++ spare.drop 1)) := by
        rw [List.take_append_drop, ← List.append_assoc, ← hsplit]
      have e9 := @ins_cells (flat encV (fr.take i)) (encV r) (flat encV (fr.drop i)) (spare.take 1) (spare.drop 1) (by rw [encV_len, List.length_take]; omega)
      rw [hA_, encV_len, show i * 1 + 1 = (i + 1) * 1 by omega] at e9
      rw [e8, e9, hins]
    rw [e7] at hH
    have hil : (flat encV (insV fr i r)).length = (fr.length + 1) * 1 := by rw [flat_length encV_len, insV_len hi]
    refine rt1 (.inl rfl) rfl hA rfl ⟨_, _, rfl, (hH.head).block_own hil hroom h2 ?_⟩
    rw [hil, List.length_drop]
    omega
end Go.Proofs.YtenlcdokaadobaaGreatDoor
namespace Go.Proofs.YtenlcdokaadobaaGreatDoor
open Go Go.Fw
set_option linter.unusedVariables false
theorem and_low {a : Nat} (h : a ≤ 1000000) : andK .u64 (a : Int) 4294967295 = (a : Int) := by
  unfold andK
  have e1 : (BitVec.ofInt IntKind.u64.bits (a : Int) &&& BitVec.ofInt IntKind.u64.bits 4294967295).toNat = a := by
    show (BitVec.ofInt 64 (a : Int) &&& BitVec.ofInt 64 4294967295).toNat = a
    rw [BitVec.toNat_and]
    have h1 : (BitVec.ofInt 64 (a : Int)).toNat = a := by
      rw [BitVec.toNat_ofInt]
      omega
    have h2 : (BitVec.ofInt 64 4294967295).toNat = 2 ^ 32 - 1 := by decide
    rw [h1, h2, Nat.and_two_pow_sub_one_eq_mod]
    omega
  rw [e1]
  exact IntWalk.u64_in _ ⟨by omega, by omega⟩
theorem shr_low {a : Nat} (h : a ≤ 1000000) : shrK .u64 (a : Int) 32 = 0 := by
  unfold shrK
  have : min (Int.toNat 32) IntKind.u64.bits = 32 := by decide
  rw [this, Int.fdiv_eq_ediv_of_nonneg _ (by decide)]
  show (a : Int) / 4294967296 = 0
  omega
theorem u64n {a : Nat} (h : a ≤ 1000000) : IntKind.u64.wrap (a : Int) = a := IntWalk.u64_in _ ⟨by omega, by omega⟩
theorem u64m {a : Nat} (h : a ≤ 1000000) : IntKind.u64.wrap (1 * (a : Int)) = a := by rw [Int.one_mul]; exact u64n h
theorem rd_nil {w : World} {o : Option Addr} {xs : List Value} (h : Rd w o xs) (ho : o.isNone = true) : xs = [] := by
  cases xs with
  | nil => rfl
  | cons x l => obtain ⟨b, off, h1⟩ := h.1 (by rw [List.length_cons]; omega); rw [h1] at ho; cases ho
theorem rd_empty (w : World) (o : Option Addr) : Rd w o [] := ⟨fun h => by simp at h, fun j u h => by simp at h⟩
theorem rd_take {w : World} {o : Option Addr} {xs : List Value} (h : Rd w o xs) (k : Nat) : Rd w o (xs.take k) := ⟨fun h1 => h.1 (by rw [List.length_take] at h1; omega), fun j u hj => h.2 j u (by rw [List.getElem?_take] at hj; split at hj; exact hj; cases hj)⟩
theorem sub0 (o : Option Addr) (c sz : Nat) : subO o c 0 sz = o := by
  unfold subO
  split
  · rfl
  · cases o with
    | none => rfl
    | some a => simp [Addr.add]
def fillV (v : Value) (m n : Nat) : List Value := List.replicate m v ++ List.replicate (n - m) Value.nilIface
theorem fillV_len {v : Value} {m n : Nat} (h : m ≤ n) : (fillV v m n).length = n := by unfold fillV; simp; omega
theorem fillV_take {v : Value} {m n : Nat} (h : m ≤ n) (k : Nat) : (fillV v m n).take (min m k) = List.replicate (min m k) v := by
  unfold fillV
  rw [List.take_append_of_le_length (by simp; omega), List.take_replicate]
  congr 1
  omega
theorem fillV_put {v : Value} {m n k : Nat} (h : m + k ≤ n) : put (fillV v m n) m (List.replicate k v) = fillV v (m + k) n := by
  unfold fillV
  have e : List.replicate (n - m) Value.nilIface = List.replicate k Value.nilIface ++ List.replicate (n - (m + k)) Value.nilIface := by
    rw [List.replicate_append_replicate]; congr 1; omega
  rw [e, put_seg (by simp) (by simp), ← List.append_assoc, List.replicate_append_replicate]
theorem fillV_0 (v : Value) (n : Nat) : fillV v 0 n = List.replicate n Value.nilIface := by unfold fillV; simp
theorem fillV_n (v : Value) (n : Nat) : fillV v n n = List.replicate n v := by unfold fillV; simp
theorem rep_one {v : Value} (h : v.oneCell' = true) (k : Nat) : (List.replicate k v).all (·.oneCell') = true := by simp [h]
set_option maxRecDepth 10000 attribute [local irreducible] Code.wp wpList Calls Ex Op1 sat bat blk cb own Go.Fw.mp Go.Fw.mpO Go.Fw.mpI Go.Fw.mpE Go.Fw.itr HS Rd Ret wkD Hp Cl Cls Exit.then Exit.inBlock Exit.noGoto bodyPost Go.Fw.flat wk2 Go.Fw.all Go.Fw.owns wpOp
attribute [local irreducible] sk mpK sko mvO entK opM Go.Fw.mset Go.Fw.mv opK w63 shrK andK IntKind.wrap fillV

set_option maxHeartbeats 8000000 in
theorem Mul64_spec (w0 : World) (n : Nat) (hn : n ≤ 256) : Ret Tryz.prog 161 #[.int .u64 1, .int .u64 n] w0 (fun v w => v = .tuple #[.int .u64 0, .int .u64 n] ∧ Kp w0 noM w) := by
  have hH : HS w0 noM [] w0 := HS.init w0 noM
  have a1 : andK .u64 1 4294967295 = 1 := and_low (a := 1) (by omega)
  have s1 : shrK .u64 1 32 = 0 := shr_low (a := 1) (by omega)
  have a2 := and_low (a := n) (by omega)
  have s2 := shr_low (a := n) (by omega)
  have a0 : andK .u64 0 4294967295 = 0 := and_low (a := 0) (by omega)
  have s0 : shrK .u64 0 32 = 0 := shr_low (a := 0) (by omega)
  have m1 := u64m (a := n) (by omega)
  have z0 : IntKind.u64.wrap 0 = 0 := u64n (a := 0) (by omega)
  have m0 : IntKind.u64.wrap (0 * (n : Int)) = 0 := by rw [Int.zero_mul]; exact z0
  have m2 : IntKind.u64.wrap (1 * 0) = 0 := by rw [Int.mul_zero]; exact z0
  have m3 : IntKind.u64.wrap (0 * 0) = 0 := by rw [Int.mul_zero]; exact z0
  have p0 : IntKind.u64.wrap (0 + 0) = 0 := by rw [Int.add_zero]; exact z0
  (refine enter (N := 51) Tryz.func161 rfl Tryz.ntmps161 rfl ?_; intro a hA; dsimp only [sl0, Nat.reduceAdd] at hA)
  repeat' (first | (refine XT ?_; apply XE; (first | (apply ex_and; rfl; rfl; first | exact a1 | exact a2 | exact a0) | (apply ex_shr; rfl; rfl; decide; first | exact s1 | exact s2 | exact s0) | (apply ex_mulK; rfl; rfl; first | exact m1 | exact m0 | exact m2 | exact m3) | (apply ex_addK; rfl; rfl; exact p0)); clear hA a; intro a hA) | (refine QT ?_; clear hA a; intro a hA) | (refine CT ?_ <;> repeat' refine CT ?_) | fail)
  exact rt2 (.inl rfl) rfl hA rfl rfl ⟨rfl, hH.kp⟩
set_option maxHeartbeats 4000000 in
theorem Mul_spec (w0 : World) (n : Nat) (hn : n ≤ 256) : Ret Tryz.prog 141 #[.int .u64 1, .int .u64 n] w0 (fun v w => v = .tuple #[.int .u64 0, .int .u64 n] ∧ Kp w0 noM w) := by
  have hH : HS w0 noM [] w0 := HS.init w0 noM
  (refine enter (N := 30) Tryz.func141 rfl Tryz.ntmps141 rfl ?_; intro a hA; dsimp only [sl0, Nat.reduceAdd] at hA)
  repeat' (first | (refine QT ?_; clear hA a; intro a hA) | (refine st_op hA rfl rfl (by decide) (op_call rfl rfl rfl (Mul64_spec _ n hn)) ?_; clear hA; rintro _ w ⟨rfl, hk⟩ a hA; replace hH := hH.keep hk; clear hk) | (refine CT ?_ <;> repeat' refine CT ?_) | fail)
  exact rt2 (.inl rfl) rfl hA rfl rfl ⟨rfl, hH.kp⟩
set_option maxHeartbeats 4000000 in
theorem cloneI_spec (w0 : World) (o : Option Addr) (c : Nat) (l : List Int) (hR : Rd w0 o (flat Fw.encI l)) (hl : l.length ≤ 1048576) :
    Ret Tryz.prog 93 #[.slice o l.length c] w0 (fun v w => ∃ o' c', v = .slice o' l.length c' ∧ HS w0 noM [own 2 1 o' l.length c' (flat Fw.encI l)] w) := by
  have hH : HS w0 noM [] w0 := HS.init w0 noM
  have hfl : (flat Fw.encI l).length = l.length * 1 := flat_length Fw.encI_len _
  have hon : (flat Fw.encI l).all (·.oneCell') = true := flat_one_cell (fun _ => rfl) _
  (refine enter (N := 8) Tryz.func93 rfl Tryz.ntmps93 rfl ?_; intro a hA; dsimp only [sl0, Nat.reduceAdd] at hA)
  repeat' (first | (refine XT ?_; apply XE; (first | (apply ex_eqlNil; rfl; rfl)); clear hA a; intro a hA) | (refine QT ?_; clear hA a; intro a hA) | (refine LT ?_; clear hA hH; rintro _ w ⟨oN, rfl, hH⟩ a hA) | ((first | refine CT ?_ | (refine DT ?_ ?_ <;> intro hc <;> try (exfalso; omega))) <;> repeat' refine CT ?_) | fail)
  · have hnil := rd_nil hR (by assumption)
    obtain rfl : l = [] := List.length_eq_zero_iff.1 (by rw [← Nat.mul_one l.length, ← hfl, hnil]; rfl)
    rw [flatI_nil]
    exact rt1 (.inl rfl) rfl hA rfl ⟨none, 0, rfl, hH.nil_own 2 1⟩
  · have hRw := hH.rd hR id
    (apply st_op hA rfl rfl (by decide); apply op_append; rfl; rfl; exact hH; exact MEMT; exact hRw; exact hfl; rfl; decide; exact hon; (unfold maxLen; omega); omega; clear hA; rintro _ w ⟨oN, cN, rfl, hH2⟩ a hA; clear hH; have hH := hH2 _ (by (repeat constructor)); clear hH2)
    repeat' (first | (refine QT ?_; clear hA a; intro a hA) | (refine CT ?_ <;> repeat' refine CT ?_) | fail)
    rw [Nat.zero_add] at hA hH
    exact rt1 (.inl rfl) rfl hA rfl ⟨_, _, rfl, hH⟩
set_option maxHeartbeats 4000000 in
theorem cloneV_spec (w0 : World) (o : Option Addr) (c : Nat) (l : List Value) (hR : Rd w0 o l) (hon : l.all (·.oneCell') = true) (hl : l.length ≤ 1048576) :
    Ret Tryz.prog 94 #[.slice o l.length c] w0 (fun v w => ∃ o' c', v = .slice o' l.length c' ∧ HS w0 noM [own 137 1 o' l.length c' l] w) := by
  have hH : HS w0 noM [] w0 := HS.init w0 noM
  have hfl : l.length = l.length * 1 := by omega
  (refine enter (N := 8) Tryz.func94 rfl Tryz.ntmps94 rfl ?_; intro a hA; dsimp only [sl0, Nat.reduceAdd] at hA)
  repeat' (first | (refine XT ?_; apply XE; (first | (apply ex_eqlNil; rfl; rfl)); clear hA a; intro a hA) | (refine QT ?_; clear hA a; intro a hA) | (refine LT ?_; clear hA hH; rintro _ w ⟨oN, rfl, hH⟩ a hA) | ((first | refine CT ?_ | (refine DT ?_ ?_ <;> intro hc <;> try (exfalso; omega))) <;> repeat' refine CT ?_) | fail)
  · obtain rfl : l = [] := rd_nil hR (by assumption)
    exact rt1 (.inl rfl) rfl hA rfl ⟨none, 0, rfl, hH.nil_own 137 1⟩
  · have hRw := hH.rd hR id
    (apply st_op hA rfl rfl (by decide); apply op_append; rfl; rfl; exact hH; exact MEMT; exact hRw; exact hfl; rfl; decide; exact hon; (unfold maxLen; omega); omega; clear hA; rintro _ w ⟨oN, cN, rfl, hH2⟩ a hA; clear hH; have hH := hH2 _ (by (repeat constructor)); clear hH2)
    repeat' (first | (refine QT ?_; clear hA a; intro a hA) | (refine CT ?_ <;> repeat' refine CT ?_) | fail)
    rw [Nat.zero_add] at hA hH
    exact rt1 (.inl rfl) rfl hA rfl ⟨_, _, rfl, hH⟩
set_option maxHeartbeats 8000000 in
theorem repeat_spec (w0 : World) (o : Option Addr) (n : Nat) (v : Value) (hR : Rd w0 o [v]) (hv : v.oneCell' = true) (hn : n ≤ 256) :
    Ret Tryz.prog 129 #[.slice o 1 1, .int .i64 n] w0 (fun r w => ∃ o', r = .slice o' n n ∧ HS w0 noM [own 137 1 o' n n (List.replicate n v)] w) := by
  have hH : HS w0 noM [] w0 := HS.init w0 noM
  have u1 : IntKind.u64.wrap ((1 : Nat) : Int) = 1 := u64n (a := 1) (by omega)
  have u2 := u64n (a := n) (by omega)
  have u3 : IntKind.i64.wrap (n : Int) = n := wrap_i64 (by unfold i64ok; omega)
  (refine enter (N := 48) Tryz.func129 rfl Tryz.ntmps129 rfl ?_; intro a hA; dsimp only [sl0, Nat.reduceAdd] at hA)
  repeat' (first | (refine GT ?_ ?_ <;> intro hg <;> clear hA a <;> intro a hA <;> (first | exact FA | replace hg := of_decide_eq_true hg | replace hg := of_decide_eq_false hg | skip)) | (refine XT ?_; apply XE; (first | (apply ex_convert; rfl; first | exact u1 | exact u2 | exact u3)); clear hA a; intro a hA) | (refine QT ?_; clear hA a; intro a hA) | (refine st_op hA rfl rfl (by decide) (op_call rfl rfl rfl (Mul_spec _ n hn)) ?_; clear hA; rintro _ w ⟨rfl, hk⟩ a hA; replace hH := hH.keep hk; clear hk) | (apply st_op hA rfl rfl (by decide); apply op_make1 (encV) (Value.nilIface) (n := n); rfl; rfl; omega; omega; (unfold maxLen; omega); omega; rfl; rfl; exact hH; clear hA hH; rintro _ w ⟨oN, rfl, hH⟩ a hA) | ((first | refine CT ?_ | (refine DT ?_ ?_ <;> intro hc <;> try (exfalso; omega))) <;> repeat' refine CT ?_) | fail)
  rw [flatV, ← fillV_0 v] at hH
  have hc0 : (([v] : List Value).take (min 1 n)).length = Nat.min 1 n := by rw [List.length_take]; show min (min 1 n) 1 = min 1 n; omega
  have ht0 : ([v] : List Value).take (min 1 n) = List.replicate (min 1 n) v := by
    rcases Nat.eq_zero_or_pos n with h | h
    · subst h; rfl
    · rw [show min 1 n = 1 by omega]; rfl
  have hRw := rd_take (hH.rd hR id) (min 1 n)
  rw [ht0] at hc0 hRw
  have hp0 := fillV_put (v := v) (m := 0) (n := n) (k := min 1 n) (by omega)
  rw [Nat.zero_add] at hp0
  have hb0 : 0 + (List.replicate (min 1 n) v).length ≤ (fillV v 0 n).length := by rw [fillV_len (Nat.zero_le _), hc0]; show 0 + min 1 n ≤ n; omega
  have hrp : ∀ H, Rp (own 137 1 oN n n (fillV v 0 n) :: H) (own 137 1 oN n n (fillV v 0 n)) (own 137 1 oN n n (put (fillV v 0 n) 0 (List.replicate (min 1 n) v))) (own 137 1 oN n n (put (fillV v 0 n) 0 (List.replicate (min 1 n) v)) :: H) := fun H => .here
  (apply st_op hA rfl rfl (by decide); apply op_copy (k := 0) (news := List.replicate (min 1 n) v); rfl; rfl; exact hH; exact hRw; exact hc0; exact (fun h => ⟨(sub0 _ _ _).symm, by rw [hc0] at h; show 0 < n; have h1 : 0 < min 1 n := h; omega⟩); exact rep_one hv _; exact hb0; exact hrp _; clear hA hH; rintro _ w ⟨rfl, hH⟩ a hA)
  rw [hp0] at hH
  have hmin : Nat.min 1 n = min 1 n := rfl
  rw [hmin] at hA
  repeat' (first | (refine QT ?_; clear hA a; intro a hA) | (refine CT ?_ <;> repeat' refine CT ?_) | fail)
  refine wp_lpk (S := Nat) (fun m a w => (m ≤ n ∧ (0 < n → 0 < m)) ∧ HS w0 noM [own 137 1 oN n n (fillV v m n)] w ∧ Sl 48 [(8, .int .i64 m), (7, .slice oN n n)] a) (fun m => n - m)
    (fun a w => HS w0 noM [own 137 1 oN n n (List.replicate n v)] w ∧ Sl 48 [(7, .slice oN n n)] a) (min 1 n) ⟨⟨by omega, by omega⟩, hH, (hA.sub SBT)⟩ ?_ ?_
  · clear hA hH hp0 hb0 hrp hRw hc0 ht0
    rintro m a w ⟨⟨hm, hm0⟩, hH, hA⟩
    by_cases hlt : m < n
    rotate_left
    · obtain rfl : m = n := by omega
      rw [fillV_n] at hH
      repeat' (first | (refine QT ?_; clear hA a; intro a hA) | ((first | refine CT ?_ | (refine DT ?_ ?_ <;> intro hc <;> try (exfalso; omega))) <;> repeat' refine CT ?_) | fail)
      exact ⟨hH, (hA.sub SBT)⟩
    have hsp := hH.own_sp (T := 137) (.head _)
    have hlen := fillV_len (v := v) (Nat.le_of_lt hlt)
    obtain ⟨k, hk⟩ : ∃ k, k = min m (n - m) := ⟨_, rfl⟩
    have hc1 : (List.replicate k v).length = Nat.min m (n - m) := by rw [List.length_replicate, hk]
    have hp1 := fillV_put (v := v) (m := m) (n := n) (k := k) (by omega)
    have hb1 : m + (List.replicate k v).length ≤ (fillV v m n).length := by rw [hlen, List.length_replicate]; omega
    have hrp : ∀ H, Rp (own 137 1 oN n n (fillV v m n) :: H) (own 137 1 oN n n (fillV v m n)) (own 137 1 oN n n (put (fillV v m n) m (List.replicate k v))) (own 137 1 oN n n (put (fillV v m n) m (List.replicate k v)) :: H) := fun H => .here
    have htk : (fillV v m n).take k = List.replicate k v := by
      have := fillV_take (v := v) (Nat.le_of_lt hlt) (n - m)
      rw [← hk] at this
      exact this
    repeat' (first | (refine QT ?_; clear hA a; intro a hA) | ((first | refine CT ?_ | (refine DT ?_ ?_ <;> intro hc <;> try (exfalso; omega))) <;> repeat' refine CT ?_) | fail)
    (refine wp_draw_HS [(0, 1), (1, 1), (2, 1), (3, 1), (4, 1), (5, 1), (6, 1), (7, 0), (8, 1), (9, 1)] mixed (by decide +kernel) hH.drop_ ?_; replace hH := hH.drew)
    repeat' (first | (refine XT ?_; apply XE; (first | (apply ex_slice_lo (k := m); rfl; rfl; rfl; omega) | (apply ex_slice_hi (k := m); rfl; rfl; rfl; omega)); clear hA a; intro a hA) | (refine QT ?_; clear hA a; intro a hA) | fail)
    have hRk := rd_take (hH.own_rd (T := 137) (.head _)) k
    rw [htk] at hRk
    (apply dr_op hA rfl rfl rfl (by decide); apply op_copy (k := m) (news := List.replicate k v); rfl; rfl; exact hH; exact hRk; exact hc1; exact (fun h => ⟨rfl, hlt⟩); exact rep_one hv _; exact hb1; exact hrp _; clear hA hH; rintro _ w ⟨rfl, hH⟩; refine ⟨STT, ?_⟩; intro a hA)
    rw [hp1] at hH
    have hmk : Nat.min m (n - m) = k := hk.symm
    rw [hmk] at hA
    repeat' (first | (refine QT ?_; clear hA a; intro a hA) | (refine CT ?_ <;> repeat' refine CT ?_) | fail)
    exact ⟨m + k, ⟨⟨by omega, fun _ => by omega⟩, hH, (hA.sub SBT)⟩, by omega⟩
  clear hA hH
  rintro a w ⟨hH, hA⟩
  repeat' (first | (refine QT ?_; clear hA a; intro a hA) | (refine CT ?_ <;> repeat' refine CT ?_) | fail)
  exact rt1 (.inl rfl) rfl hA rfl ⟨_, rfl, hH⟩
end Go.Proofs.YtenlcdokaadobaaGreatDoor
namespace Go.Proofs.YtenlcdokaadobaaGreatDoor
open Go Go.Fw
set_option linter.unusedVariables false
def Rs.wd (r : Rs) (w : Wd) : Wd :=
  match r with
  | .val _ w' => w'
  | .exn _ => w
theorem sto_arr {w0 w : World} {H : List It} {sx : Sx} {i p k : Nat} {o : Option Addr} {us : List Value} (h : HS w0 noM (all (sx.map obI) :: H) w) (hi : sx[i]? = some (p, Ob.arr o k us)) :
    HS w0 noM (cb p 246 [.slice o us.length k] :: own 137 1 o us.length k us :: all ((sx.map obI).eraseIdx i) :: H) w :=
  HS.open_ (L := [_, _]) (h.openAt (i := i) (x := obI (p, Ob.arr o k us)) (by rw [List.getElem?_map, hi]; rfl))
theorem sto_arr_set {w0 w : World} {H : List It} {sx : Sx} {i p k : Nat} {o : Option Addr} {us : List Value} (h : HS w0 noM (cb p 246 [.slice o us.length k] :: own 137 1 o us.length k us :: all ((sx.map obI).eraseIdx i) :: H) w) (hi : i < sx.length) :
    HS w0 noM (all ((sx.set i (p, Ob.arr o k us)).map obI) :: H) w := by
  have h1 : HS w0 noM (obI (p, Ob.arr o k us) :: all ((sx.map obI).eraseIdx i) :: H) w := HS.shut (L := [cb p 246 [.slice o us.length k], own 137 1 o us.length k us]) h
  have h2 := h1.shutAt (by rw [List.length_map]; exact hi)
  rw [List.map_set]
  exact h2
theorem sto_arr_add {w0 w : World} {H : List It} {sx : Sx} {p k : Nat} {o : Option Addr} {us : List Value} (h : HS w0 noM (cb p 246 [.slice o us.length k] :: own 137 1 o us.length k us :: all (sx.map obI) :: H) w) :
    HS w0 noM (all ((sx ++ [(p, Ob.arr o k us)]).map obI) :: H) w := by
  have h1 : HS w0 noM (obI (p, Ob.arr o k us) :: all (sx.map obI) :: H) w := HS.shut (L := [cb p 246 [.slice o us.length k], own 137 1 o us.length k us]) h
  have h2 := h1.pushA
  rw [List.map_append]
  exact h2
theorem sto_cell {w0 w : World} {H : List It} {sx : Sx} {i p : Nat} {v : Value} (h : HS w0 noM (all (sx.map obI) :: H) w) (hi : sx[i]? = some (p, Ob.cell v)) :
    HS w0 noM (cb p 234 [v] :: all ((sx.map obI).eraseIdx i) :: H) w := h.openAt (i := i) (x := obI (p, Ob.cell v)) (by rw [List.getElem?_map, hi]; rfl)
theorem sto_cell_set {w0 w : World} {H : List It} {sx : Sx} {i p : Nat} {v : Value} (h : HS w0 noM (cb p 234 [v] :: all ((sx.map obI).eraseIdx i) :: H) w) (hi : i < sx.length) :
    HS w0 noM (all ((sx.set i (p, Ob.cell v)).map obI) :: H) w := by
  have h1 : HS w0 noM (obI (p, Ob.cell v) :: all ((sx.map obI).eraseIdx i) :: H) w := h
  have h2 := h1.shutAt (by rw [List.length_map]; exact hi)
  rw [List.map_set]
  exact h2
theorem sto_cell_add {w0 w : World} {H : List It} {sx : Sx} {p : Nat} {v : Value} (h : HS w0 noM (cb p 234 [v] :: all (sx.map obI) :: H) w) :
    HS w0 noM (all ((sx ++ [(p, Ob.cell v)]).map obI) :: H) w := by
  have h1 : HS w0 noM (obI (p, Ob.cell v) :: all (sx.map obI) :: H) w := h
  have h2 := h1.pushA
  rw [List.map_append]
  exact h2
theorem set_self {α : Type} {l : List α} {i : Nat} {x : α} (h : l[i]? = some x) : l.set i x = l := set_same h
theorem getD_some {α : Type} {l : List α} {i : Nat} {x d : α} (h : l[i]? = some x) : l.getD i d = x := by rw [List.getD_eq_getElem?_getD, h]; rfl
theorem arr_of {c : Cx} {sx : Sx} {st : List (List Vl)} {i p : Nat} (h : StR c sx st) (hi : c.ad[i]? = some (p, false)) : ∃ o k us l, sx[i]? = some (p, .arr o k us) ∧ st[i]? = some l ∧ RVs c l us := by
  obtain ⟨ob, l, h1, h2, h3, h4⟩ := h.place hi
  cases ob with
  | cell v => cases h2
  | arr o k us => exact ⟨o, k, us, l, h1, h3, h4⟩
theorem cell_of {c : Cx} {sx : Sx} {st : List (List Vl)} {i p : Nat} (h : StR c sx st) (hi : c.ad[i]? = some (p, true)) : ∃ v x, sx[i]? = some (p, .cell v) ∧ st[i]? = some [x] ∧ RV c x v := by
  obtain ⟨ob, l, h1, h2, h3, h4⟩ := h.place hi
  cases ob with
  | arr o k us => cases h2
  | cell v =>
    obtain ⟨x, rfl, h5⟩ := h4
    exact ⟨v, x, h1, h3, h5⟩
def Pst (w0 : World) (c : Cx) (H : List It) (r : Rs) (wd : Wd) (v : Value) (w : World) : Prop :=
  ∃ d sx, (c.le d ∧ d.bd ≤ c.bd + 1) ∧ HS w0 noM (frz w0 d.K :: all (sx.map obI) :: H) w ∧ RsV d r v ∧ StR d sx (r.wd wd).st
theorem Pst.same {w0 w : World} {c : Cx} {H : List It} {r : Rs} {wd : Wd} {v : Value} {sx : Sx} (hH : HS w0 noM (frz w0 c.K :: all (sx.map obI) :: H) w) (hr : RsV c r v) (hS : StR c sx (r.wd wd).st) : Pst w0 c H r wd v w := ⟨c, sx, ⟨c.le_refl, Nat.le_succ _⟩, hH, hr, hS⟩
theorem RV_ar {c : Cx} {i p : Nat} (h : c.ad[i]? = some (p, false)) : RV c (.ar i) (ptrV 243 p) := by rw [RV]; exact ⟨p, rfl, h⟩
theorem RV_cl {c : Cx} {i p : Nat} (h : c.ad[i]? = some (p, true)) : RV c (.cl i) (ptrV 232 p) := by rw [RV]; exact ⟨p, rfl, h⟩
theorem StR.next {c : Cx} {sx : Sx} {st : List (List Vl)} (h : StR c sx st) (e : Nat × Bool) : (c.ad ++ [e])[st.length]? = some e := by
  have h1 : c.ad.length = st.length := by rw [h.ad, ← h.len]; unfold adr; rw [List.length_map]
  rw [List.getElem?_append_right (by omega), h1, Nat.sub_self]
  rfl
theorem Pst.arr {w0 w : World} {c : Cx} {H : List It} {r : Rs} {wd : Wd} {sx : Sx} {p m : Nat} {o : Option Addr} {x : Vl} {u v : Value} (hH : HS w0 noM (cb p 246 [.slice o m m] :: own 137 1 o m m (List.replicate m u) :: all (sx.map obI) :: frz w0 c.K :: H) w) (hx : RV c x u) (hS : StR c sx wd.st)
    (hr : r = .val (.ar wd.st.length) { wd with st := wd.st ++ [List.replicate m x] }) (hv : v = .tuple #[ptrV 243 p, .string empS]) : Pst w0 c H r wd v w := by
  obtain ⟨hle, hS2⟩ := hS.add (p := p) (ob := .arr o m (List.replicate m u)) (l := List.replicate m x) (RVs.rep hx m)
  refine ⟨_, _, ⟨hle, Nat.le_succ _⟩, ?_, RsV_val hr (RV_ar (hS.next _)) hv, by rw [hr]; exact hS2⟩
  have e : (List.replicate m u).length = m := List.length_replicate
  have h1 : HS w0 noM (cb p 246 [.slice o (List.replicate m u).length m] :: own 137 1 o (List.replicate m u).length m (List.replicate m u) :: all (sx.map obI) :: frz w0 c.K :: H) w := by rw [e]; exact hH
  exact (sto_arr_add h1).perm (.swap _ _ _)
theorem arr13 {l : List Vl} {wd : Wd} {op : Int} (h : op = 13) : arraysF op l wd = (match asNum (nth0 l 0) with | some n => if n < 0 ∨ 256 < n then .exn exnS else .val (.ar wd.st.length) { wd with st := wd.st ++ [List.replicate n.toNat (nth0 l 1)] } | none => stk wd) := if_pos h
theorem arrN {l : List Vl} {wd : Wd} {op : Int} (h : op ≠ 13) : arraysF op l wd = (match asAr (nth0 l 0) with
    | some p =>
      if op = 16 then .val (.num (wd.st.getD p []).length) wd
      else
        match asNum (nth0 l 1) with
        | some i =>
          if i < 0 ∨ ((wd.st.getD p []).length : Int) ≤ i then .exn exnB
          else if op = 14 then .val (nth0 (wd.st.getD p []) i.toNat) wd
          else .val (.num 0) { wd with st := wd.st.set p ((wd.st.getD p []).set i.toNat (nth0 l 2)) }
        | none => stk wd
    | none => stk wd) := if_neg h
theorem put_set {cs : List Value} {j : Nat} {v : Value} (h : j < cs.length) : put cs (j * 1) [v] = cs.set j v := by
  rw [Nat.mul_one, List.set_eq_take_append_cons_drop, if_pos h]
  simp [put]
set_option maxRecDepth 10000 attribute [local irreducible] Code.wp wpList Calls Ex Op1 sat bat blk cb own Go.Fw.mp Go.Fw.mpO Go.Fw.mpI Go.Fw.mpE Go.Fw.itr HS Rd Ret wkD Hp Cl Cls Exit.then Exit.inBlock Exit.noGoto bodyPost Go.Fw.flat wk2 Go.Fw.all Go.Fw.owns wpOp
attribute [local irreducible] sk mpK sko mvO entK opM Go.Fw.mset Go.Fw.mv opK w63 frz obI RV

set_option maxHeartbeats 16000000 in
theorem arrays_spec (w0 w : World) (H : List It) (c : Cx) (op : Int) (l : List Vl) (vs : List Value) (oL : Option Addr) (cL : Nat) (wd : Wd) (sx : Sx) (hH : HS w0 noM (frz w0 c.K :: all (sx.map obI) :: H) w) (hL : ∀ w, c.K w → Rd w oL vs) (hV : RVs c l vs) (hS : StR c sx wd.st)
    (hop : (op = 13 ∧ 2 ≤ l.length) ∨ (op = 14 ∧ 2 ≤ l.length) ∨ (op = 15 ∧ 3 ≤ l.length) ∨ (op = 16 ∧ 1 ≤ l.length)) :
    Ret Tryz.prog 116 #[.int .i64 op, .slice oL vs.length cL] w (fun v w' => Pst w0 c H (arraysF op l wd) wd v w') := by
  have hvl := hV.len
  have hsp : Sp oL vs.length := (hL w (hH.frz (.head _))).sp (sz := 1) (by omega) (by omega)
  obtain ⟨v0, hv0, hx0⟩ := hV.get0 (i := 0) (by omega)
  (refine enter (N := 98) Tryz.func116 rfl Tryz.ntmps116 rfl ?_; intro a hA; dsimp only [sl0, Nat.reduceAdd] at hA)
  by_cases h13 : op = 13
  · obtain ⟨v1, hv1, hx1⟩ := hV.get0 (i := 1) (by omega)
    have e13 := arr13 (l := l) (wd := wd) h13
    repeat' (first | (refine XT ?_; apply XE; (first | (apply ex_indexAddr; rfl; rfl; decide; omega; exact hsp) | (apply ex_load; rfl; exact cl_frz MEMT hL hv0)); clear hA a; intro a hA) | (refine QT ?_; clear hA a; intro a hA) | ((first | refine CT ?_ | (refine DT ?_ ?_ <;> intro hc <;> try (exfalso; omega))) <;> repeat' refine CT ?_) | fail)
    rcases hx0.asNum with ⟨n, hs, rfl, hio⟩ | ⟨hs, hn⟩
    rotate_left
    · repeat' (first | (refine XT ?_; apply XE; (first | (apply ex_assertX; rfl; exact hn)); clear hA a; intro a hA) | (refine QT ?_; clear hA a; intro a hA) | (refine CT ?_ <;> repeat' refine CT ?_) | fail)
      rw [hs] at e13
      exact rt2 (.inl rfl) rfl hA rfl rfl (Pst.same hH (RsV_stk e13 rfl) (by rw [e13]; exact hS))
    rw [hs] at e13
    dsimp only at e13
    repeat' (first | (refine GT ?_ ?_ <;> intro hg <;> clear hA a <;> intro a hA <;> (first | exact FA | replace hg := of_decide_eq_true hg | replace hg := of_decide_eq_false hg | skip)) | (refine XT ?_; apply XE; (first | (apply ex_assertY; rfl) | (apply ex_iface; rfl) | (apply ex_load; rfl; exact cl_frz MEMT hL hv1)); clear hA a; intro a hA) | (refine QT ?_; clear hA a; intro a hA) | ((first | refine CT ?_ | (refine DT ?_ ?_ <;> intro hc <;> try (exfalso; omega))) <;> repeat' refine CT ?_) | fail)
    · rw [if_pos (.inl (by omega))] at e13
      exact rt2 (.inl rfl) rfl hA rfl rfl (Pst.same hH (RsV_exn e13 rfl) (by rw [e13]; exact hS))
    · rw [if_pos (.inr (by omega))] at e13
      exact rt2 (.inl rfl) rfl hA rfl rfl (Pst.same hH (RsV_exn e13 rfl) (by rw [e13]; exact hS))
    rw [if_neg (by omega)] at e13
    obtain ⟨m, rfl⟩ : ∃ m : Nat, n = m := ⟨n.toNat, by omega⟩
    (apply st_op hA rfl rfl (by decide); apply op_sliceLit (xs := [v1]) (vs := [v1]); rfl; rfl; exact .c1 hx1.one .nil; rfl; rfl; rfl; exact hH; clear hA hH; rintro _ w ⟨oN, rfl, hH⟩ a hA)
    repeat' (first | (refine QT ?_; clear hA a; intro a hA) | fail)
    have hrp := repeat_spec w oN m v1 (hH.own_rd (T := 137) (.head _)) hx1.one (by omega)
    (refine st_op hA rfl rfl (by decide) (op_call rfl rfl rfl hrp) ?_; clear hA; rintro _ w ⟨oR, rfl, hj⟩ a hA; replace hH := hH.join hj; clear hj hrp)
    repeat' (first | (refine XT ?_; apply XE; (first | (apply ex_iface; rfl)); clear hA a; intro a hA) | (refine QT ?_; clear hA a; intro a hA) | (refine BT ?_; clear hA hH; rintro _ w ⟨bN, rfl, hH⟩ a hA) | (refine CT ?_ <;> repeat' refine CT ?_) | fail)
    exact rt2 (.inl rfl) rfl hA rfl rfl (Pst.arr (x := nth0 l 1) (hH.perm (H' := cb bN 246 [.slice oR m m] :: own 137 1 oR m m (List.replicate m v1) :: all (sx.map obI) :: frz w0 c.K :: own 137 1 oN 1 1 [v1] :: H) PMT |>.rm 4) hx1 hS e13 rfl)
  · have eN := arrN (l := l) (wd := wd) h13
    repeat' (first | (refine XT ?_; apply XE; (first | (apply ex_indexAddr; rfl; rfl; decide; omega; exact hsp) | (apply ex_load; rfl; exact cl_frz MEMT hL hv0)); clear hA a; intro a hA) | (refine QT ?_; clear hA a; intro a hA) | ((first | refine CT ?_ | (refine DT ?_ ?_ <;> intro hc <;> try (exfalso; omega))) <;> repeat' refine CT ?_) | fail)
    rcases hx0.asAr with ⟨i, p, hs, rfl, hio⟩ | ⟨hs, hn⟩
    rotate_left
    · repeat' (first | (refine XT ?_; apply XE; (first | (apply ex_assertX; rfl; exact hn)); clear hA a; intro a hA) | (refine QT ?_; clear hA a; intro a hA) | (refine CT ?_ <;> repeat' refine CT ?_) | fail)
      rw [hs] at eN
      exact rt2 (.inl rfl) rfl hA rfl rfl (Pst.same hH (RsV_stk eN rfl) (by rw [eN]; exact hS))
    rw [hs] at eN
    dsimp only at eN
    obtain ⟨o, k, us, xs, hsx, hst, hus⟩ := arr_of hS hio
    have hul := hus.len
    rw [getD_some hst] at eN
    have hiL := (List.getElem?_eq_some_iff.1 hsx).1
    have hH2 := sto_arr ((hH.perm (.swap _ _ _))) hsx
    clear hH
    have hH := hH2
    clear hH2
    have hback : ∀ w, HS w0 noM (cb p 246 [.slice o us.length k] :: own 137 1 o us.length k us :: all ((sx.map obI).eraseIdx i) :: frz w0 c.K :: H) w → HS w0 noM (frz w0 c.K :: all (sx.map obI) :: H) w := fun w h => by
      have h2 := sto_arr_set h hiL
      rw [set_self hsx] at h2
      exact h2.perm (.swap _ _ _)
    have hspU := hH.own_sp (T := 137) (o := o) (by exact MEMT)
    repeat' (first | (refine XT ?_; apply XE; (first | (apply ex_assertY; rfl) | (apply ex_iface; rfl)); clear hA a; intro a hA) | (refine QT ?_; clear hA a; intro a hA) | ((first | refine CT ?_ | (refine DT ?_ ?_ <;> intro hc <;> try (exfalso; omega))) <;> repeat' refine CT ?_) | fail)
    · rw [if_pos (by assumption)] at eN
      have hle := (hH.own_le (T := 137) (o := o) (by exact MEMT))
      unfold maxLen at hle
      exact rt2 (.inl rfl) rfl hA rfl rfl (Pst.same (hback _ hH) (RsV_val (x := .num xs.length) eN (by rw [← hul]; exact RV_num ⟨by omega, by omega⟩) rfl) (by rw [eN]; exact hS))
    rw [if_neg (by assumption)] at eN
    obtain ⟨v1, hv1, hx1⟩ := hV.get0 (i := 1) (by omega)
    repeat' (first | (refine XT ?_; apply XE; (first | (apply ex_load; rfl; exact cl_frz MEMT hL hv1)); clear hA a; intro a hA) | (refine QT ?_; clear hA a; intro a hA) | fail)
    rcases hx1.asNum with ⟨j, hj, rfl, hjo⟩ | ⟨hj, hn⟩
    rotate_left
    · repeat' (first | (refine XT ?_; apply XE; (first | (apply ex_assertX; rfl; exact hn)); clear hA a; intro a hA) | (refine QT ?_; clear hA a; intro a hA) | (refine CT ?_ <;> repeat' refine CT ?_) | fail)
      rw [hj] at eN
      exact rt2 (.inl rfl) rfl hA rfl rfl (Pst.same (hback _ hH) (RsV_stk eN rfl) (by rw [eN]; exact hS))
    rw [hj] at eN
    dsimp only at eN
    have hget : ∀ h : ¬ (j < 0 ∨ (xs.length : Int) ≤ j), ∃ u, us[j.toNat * 1]? = some u ∧ RV c (nth0 xs j.toNat) u := fun h => by
      obtain ⟨u, h1, h2⟩ := hus.get0 (i := j.toNat) (by omega)
      exact ⟨u, by rw [Nat.mul_one]; exact h1, h2⟩
    by_cases hb : j < 0 ∨ (xs.length : Int) ≤ j
    · rw [if_pos hb] at eN
      repeat' (first | (refine GT ?_ ?_ <;> intro hg <;> clear hA a <;> intro a hA <;> (first | exact FA | replace hg := of_decide_eq_true hg | replace hg := of_decide_eq_false hg | skip)) | (refine XT ?_; apply XE; (first | (apply ex_assertY; rfl)); clear hA a; intro a hA) | (refine QT ?_; clear hA a; intro a hA) | ((first | refine CT ?_ | (refine DT ?_ ?_ <;> intro hc <;> try (exfalso; omega))) <;> repeat' refine CT ?_) | fail)
      all_goals exact rt2 (.inl rfl) rfl hA rfl rfl (Pst.same (hback _ hH) (RsV_exn eN rfl) (by rw [eN]; exact hS))
    obtain ⟨u, hu, hxu⟩ := hget hb
    rw [if_neg hb] at eN
    by_cases h14 : op = 14
    · rw [if_pos h14] at eN
      repeat' (first | (refine GT ?_ ?_ <;> intro hg <;> clear hA a <;> intro a hA <;> (first | exact FA | replace hg := of_decide_eq_true hg | replace hg := of_decide_eq_false hg | skip)) | (refine XT ?_; apply XE; (first | (apply ex_assertY; rfl) | (apply ex_indexAddr; rfl; rfl; omega; omega; exact hspU) | (apply ex_load; rfl; apply cl_own (T := 137) (o := o); exact MEMT; exact hu)); clear hA a; intro a hA) | (refine QT ?_; clear hA a; intro a hA) | ((first | refine CT ?_ | (refine DT ?_ ?_ <;> intro hc <;> try (exfalso; omega))) <;> repeat' refine CT ?_) | fail)
      exact rt2 (.inl rfl) rfl hA rfl rfl (Pst.same (hback _ hH) (RsV_val eN hxu rfl) (by rw [eN]; exact hS))
    · rw [if_neg h14] at eN
      obtain ⟨v2, hv2, hx2⟩ := hV.get0 (i := 2) (by omega)
      repeat' (first | (refine GT ?_ ?_ <;> intro hg <;> clear hA a <;> intro a hA <;> (first | exact FA | replace hg := of_decide_eq_true hg | replace hg := of_decide_eq_false hg | skip)) | (refine XT ?_; apply XE; (first | (apply ex_assertY; rfl) | (apply ex_iface; rfl)); clear hA a; intro a hA) | (refine QT ?_; clear hA a; intro a hA) | ((first | refine CT ?_ | (refine DT ?_ ?_ <;> intro hc <;> try (exfalso; omega))) <;> repeat' refine CT ?_) | fail)
      have hjl : j.toNat < us.length := by omega
      have hjl1 : j.toNat * 1 < us.length := by omega
      have hps := put_set (v := v2) hjl
      have h1v := hx2.one
      (refine wp_draw2_HS [(0, 1), (1, 1), (2, 1), (3, 1), (4, 1), (5, 1), (6, 1), (7, 1), (8, 1)] [9] mixed (by decide +kernel) hH ?_; replace hH := hH.drew)
      repeat' (first | (refine XT ?_; apply XE; (first | (apply ex_indexAddr; rfl; rfl; decide; omega; exact hsp) | (apply ex_indexAddr; rfl; rfl; omega; omega; exact hspU) | (apply ex_load; rfl; exact cl_frz MEMT hL hv2)); clear hA a; intro a hA) | (refine QT ?_; clear hA a; intro a hA) | (refine CT ?_ <;> repeat' refine CT ?_) | fail)
      (apply dr_op03 hA rfl rfl rfl; apply op_store_own1; rfl; rfl; exact h1v; exact hH; (repeat constructor); exact hjl1; exact hps; clear hH; rintro _ w hH)
      repeat' (first | (refine XT ?_; apply XE; (first | (apply ex_iface; rfl)); clear hA a; intro a hA) | (refine QT ?_; clear hA a; intro a hA) | (refine CT ?_ <;> repeat' refine CT ?_) | fail)
      have hlen : (us.set j.toNat v2).length = us.length := List.length_set
      rw [← hlen] at hH
      have h2 := sto_arr_set hH hiL
      have hS2 := hS.set (ob' := .arr o k (us.set j.toNat v2)) (l := xs.set j.toNat (nth0 l 2)) hsx rfl (RVs.set hus hx2)
      exact rt2 (.inl rfl) rfl hA rfl rfl ⟨c, _, ⟨c.le_refl, Nat.le_succ _⟩, h2.perm (.swap _ _ _), RsV_val eN (RV_num ⟨by omega, by omega⟩) rfl, by rw [eN]; exact hS2⟩
end Go.Proofs.YtenlcdokaadobaaGreatDoor
