/-
  ssa.May: where it holds, each graph is one that may be. Conditions: none.
  How many parts graphs have: an int. Conditions: none.
  What is asked at each place where variables are bound: of registers that are held against it. Conditions: none.
  What is asked at each place where variables are bound: a register for each. Conditions: none.
-/
import Derived.Test.YtjfanjcoppeeaaaRowUnlikeMg6
import Derived.Test.YtjfanjcoppeeaaaRowUnlikeMg4
namespace Go.Proofs.Ytjfanjcoppeeaaa
open Go Go.Fw
set_option linter.unusedVariables false
def gr00 : Gr := ⟨0, nilV⟩
/-- the cells of ssa's check, its maps perhaps nil -/
def encD (g : Grs) (f : Gr) (oA : Option Addr) (nA cA : Nat) (p : Int) (e : Option Nat) (oT : Option Addr) (nT cT : Nat) : List Value := [.slice g.fs.o g.fs.l.length g.fs.c, .slice g.ls.o g.ls.l.length g.ls.c, .slice g.ts.o g.ts.l.length g.ts.c, .slice g.xs.o g.xs.l.length g.xs.c, .slice g.ss.o g.ss.l.length g.ss.c,
  .int .i64 f.caps, .slice f.bs.o f.bs.l.length f.bs.c, .slice oA nA cA, .int .i64 p, .map e, .slice oT nT cT]
theorem encD_C (g : Grs) (f : Gr) (oA : Option Addr) (nA cA : Nat) (p : Int) (e : Nat) (oT : Option Addr) (nT cT : Nat) : encD g f oA nA cA p (some e) oT nT cT = encC ⟨g, f, oA, nA, cA, e, oT, nT, cT⟩ p := rfl
theorem map_caps_next {l : List Gr} {i : Nat} {f : Gr} (h : l[i]? = some f) : (l.take (i + 1)).map Gr.caps = (l.take i).map Gr.caps ++ [f.caps] := by rw [take_snoc h, List.map_append]; rfl
theorem map_caps_len {l : List Gr} {i : Nat} (h : i ≤ l.length) : ((l.take i).map Gr.caps).length = i := by rw [List.length_map, List.length_take]; omega
theorem flatF_snoc (o : Option Addr) (l : List Int) (c : Int) : flat (encF o) l ++ encF o c = flat (encF o) (l ++ [c]) := by rw [flat_snoc]
theorem fill_F (o : Option Addr) (c : Int) (z : Array Value) (hz : z.size = 12) : Instr.fill (([(0, 1), (1, 11)] : List (Nat × Nat))[·]?) z [(0, .int .i64 c), (1, .agg (encB o).toArray)] = some (encF o c).toArray := by
  obtain ⟨l⟩ := z
  match l, hz with
  | [z0, z1, z2, z3, z4, z5, z6, z7, z8, z9, z10, z11], _ =>
    simp [Instr.fill, encF, encB, Value.cells]
theorem rep_skb {w0 w : World} {M : Nat → Prop} {H : List It} (h : HS w0 M H w) (n : Nat) : HS w0 M (all ((List.replicate n (none : Option (Nat × List Int))).map sko) :: H) w := by
  refine HS.shut ?_
  induction n with
  | zero => exact h
  | succ n ih =>
    rw [List.replicate_succ, List.map_cons, List.cons_append]
    exact ih.nil_all
set_option maxRecDepth 10000 attribute [local irreducible] Code.wp wpList Calls Ex Op1 sat bat blk cb own Go.Fw.mp Go.Fw.mpO Go.Fw.mpI Go.Fw.mpE Go.Fw.itr HS Rd Ret wkD Hp Cl Cls Exit.then Exit.inBlock Exit.noGoto bodyPost Go.Fw.flat wk2 Go.Fw.all Go.Fw.owns wpOp
attribute [local irreducible] sk mpK srt sko mvO entK geS

set_option maxHeartbeats 16000000 in
theorem May_spec (w0 : World) (g : Grs) (hR : RdGs w0 g) (hl : g.fs.l.length ≤ 100000) (hbs : ∀ f ∈ g.fs.l, f.bs.l.length ≤ 1048576 ∧ ∀ bl ∈ f.bs.l, bl.e.to.l.length ≤ 1048576) :
    Ret Try.prog 18 #[.agg (encGs g).toArray] w0 (fun v w => ∃ b, v = .bool b ∧ Kp w0 noM w ∧ (b = true → ∀ f ∈ g.fs.l, GOk g f)) := by
  have hH : HS w0 noM [] w0 := HS.init w0 noM
  have hspF : Sp g.fs.o g.fs.l.length := hR.1.1.sp (sz := 2) (flat_length encG_len _) (by omega)
  (refine enter (N := 111) Try.func18 rfl Try.ntmps18 rfl ?_; intro a hA; dsimp only [sl0, Nat.reduceAdd] at hA)
  repeat' (first | (first | (refine GT ?_ ?_ <;> intro hg <;> clear hA a <;> intro a hA <;> (first | exact FA | replace hg := of_decide_eq_true hg | replace hg := of_decide_eq_false hg | skip)) | ((first | apply st_ex hA hH rfl rfl (by decide) | apply dr_ex hA rfl rfl rfl (by decide) | apply dr_exp hA rfl rfl rfl (by decide) | apply dr_ex3 hA hH rfl rfl rfl (by decide)); (first | (apply ex_build_p (cs := (encAt at0).toArray); rfl; (repeat (first | (intro _ h; exact absurd h (List.not_mem_nil)) | (refine List.forall_mem_cons.2 ⟨one_cell_of _ _, ?_⟩))); rfl)); clear hA a; intro a hA) | (refine QT ?_; clear hA a; intro a hA) | (first | (refine BT ?_; clear hA hH; rintro _ w ⟨bN, rfl, hH⟩ a hA) | (refine LT ?_; clear hA hH; rintro _ w ⟨oN, rfl, hH⟩ a hA) | (refine AT ?_; clear hA; rintro _ w ⟨oN, cN, rfl, hH2⟩ a hA; clear hH; have hH := (hH2 _ (by (repeat constructor))).tail; clear hH2) | (refine S0T ?_; clear hH; rintro _ w hH) | (apply st_op hA rfl rfl (by decide); apply op_sliceLit (xs := encAt at0) (vs := [.agg (encAt at0).toArray]); rfl; rfl; exact (Cats.cn (cs := encAt at0) Cats.nil); rfl; rfl; rfl; exact hH; clear hA hH; rintro _ w ⟨oN, rfl, hH⟩ a hA))) | ((first | refine CT ?_ | (refine DT ?_ ?_ <;> intro hc <;> try (exfalso; omega))) <;> repeat' refine CT ?_) | (first | (refine DSK ?_; clear hA a; intro a hA) | (first | (refine DLT ?_; clear hA hH; rintro _ w ⟨oN, rfl, hH⟩; refine ⟨STT, ?_⟩; intro a hA) | (refine DAT ?_; clear hA; rintro _ w ⟨oN, cN, rfl, hH2⟩; clear hH; have hH := (hH2 _ (by (repeat constructor))).tail; clear hH2; refine ⟨STT, ?_⟩; intro a hA))) )
  obtain ⟨oN0, hoN0⟩ : ∃ x, x = oN := ⟨_, rfl⟩
  rw [← hoN0] at hA hH
  clear hoN0 oN
  obtain ⟨b1, hb1⟩ : ∃ x, x = bN := ⟨_, rfl⟩
  rw [← hb1] at hA hH
  clear hb1 bN
  repeat' (first | (first | (refine GT ?_ ?_ <;> intro hg <;> clear hA a <;> intro a hA <;> (first | exact FA | replace hg := of_decide_eq_true hg | replace hg := of_decide_eq_false hg | skip)) | ((first | apply st_ex hA hH rfl rfl (by decide) | apply dr_ex hA rfl rfl rfl (by decide) | apply dr_exp hA rfl rfl rfl (by decide) | apply dr_ex3 hA hH rfl rfl rfl (by decide)); (first | (apply ex_build (szs := [(0, 1), (1, 1), (2, 1), (3, 1), (4, 1), (5, 4), (9, 1), (10, 1)]) (cs := (encB oN0).toArray); exact run_szl (by (repeat (first | exact SzL.nil | refine SzL.cons ⟨_, rfl, by decide⟩ ?_))); rfl; rfl)); clear hA a; intro a hA) | (refine QT ?_; clear hA a; intro a hA) | (first | (refine BT ?_; clear hA hH; rintro _ w ⟨bN, rfl, hH⟩ a hA) | (refine LT ?_; clear hA hH; rintro _ w ⟨oN, rfl, hH⟩ a hA) | (refine AT ?_; clear hA; rintro _ w ⟨oN, cN, rfl, hH2⟩ a hA; clear hH; have hH := (hH2 _ (by (repeat constructor))).tail; clear hH2) | (refine S0T ?_; clear hH; rintro _ w hH) | (apply st_op0 hA rfl rfl; apply op_store_agg (vs := encB oN0); rfl; rfl; exact hH; (repeat constructor); (repeat rfl); clear hH; rintro _ w hH))) | ((first | refine CT ?_ | (refine DT ?_ ?_ <;> intro hc <;> try (exfalso; omega))) <;> repeat' refine CT ?_) | (first | (refine DSK ?_; clear hA a; intro a hA) | (first | (refine DLT ?_; clear hA hH; rintro _ w ⟨oN, rfl, hH⟩; refine ⟨STT, ?_⟩; intro a hA) | (refine DAT ?_; clear hA; rintro _ w ⟨oN, cN, rfl, hH2⟩; clear hH; have hH := (hH2 _ (by (repeat constructor))).tail; clear hH2; refine ⟨STT, ?_⟩; intro a hA))) )
  obtain ⟨b3, hb3⟩ : ∃ x, x = bN := ⟨_, rfl⟩
  rw [← hb3] at hA hH
  clear hb3 bN
  repeat' (first | (first | (refine GT ?_ ?_ <;> intro hg <;> clear hA a <;> intro a hA <;> (first | exact FA | replace hg := of_decide_eq_true hg | replace hg := of_decide_eq_false hg | skip)) | ((first | apply st_ex hA hH rfl rfl (by decide) | apply dr_ex hA rfl rfl rfl (by decide) | apply dr_exp hA rfl rfl rfl (by decide) | apply dr_ex3 hA hH rfl rfl rfl (by decide)); (first | (apply ex_build_p (cs := (encP none 0 0 g).toArray); rfl; (repeat (first | (intro _ h; exact absurd h (List.not_mem_nil)) | (refine List.forall_mem_cons.2 ⟨one_cell_of _ _, ?_⟩))); rfl)); clear hA a; intro a hA) | (refine QT ?_; clear hA a; intro a hA) | (first | (refine BT ?_; clear hA hH; rintro _ w ⟨bN, rfl, hH⟩ a hA) | (refine LT ?_; clear hA hH; rintro _ w ⟨oN, rfl, hH⟩ a hA) | (refine AT ?_; clear hA; rintro _ w ⟨oN, cN, rfl, hH2⟩ a hA; clear hH; have hH := (hH2 _ (by (repeat constructor))).tail; clear hH2) | (refine S0T ?_; clear hH; rintro _ w hH) | (apply st_op0 hA rfl rfl; apply op_store_agg (vs := encP none 0 0 g); rfl; rfl; exact hH; (repeat constructor); (repeat rfl); clear hH; rintro _ w hH))) | ((first | refine CT ?_ | (refine DT ?_ ?_ <;> intro hc <;> try (exfalso; omega))) <;> repeat' refine CT ?_) | (first | (refine DSK ?_; clear hA a; intro a hA) | (first | (refine DLT ?_; clear hA hH; rintro _ w ⟨oN, rfl, hH⟩; refine ⟨STT, ?_⟩; intro a hA) | (refine DAT ?_; clear hA; rintro _ w ⟨oN, cN, rfl, hH2⟩; clear hH; have hH := (hH2 _ (by (repeat constructor))).tail; clear hH2; refine ⟨STT, ?_⟩; intro a hA))) )
  obtain ⟨b4, hb4⟩ : ∃ x, x = bN := ⟨_, rfl⟩
  rw [← hb4] at hA hH
  clear hb4 bN
  refine wp_lpk (S := Nat) (fun i a w => ∃ oF cF, i ≤ g.fs.l.length ∧ HS w0 noM [cb b4 88 (encP oF i cF g), own 90 12 oF i cF (flat (encF oN0) ((g.fs.l.take i).map Gr.caps)), cb b3 85 (encB oN0), own 63 2 oN0 1 1 (encAt at0), cb b1 25 (encGs g)] w ∧
      Sl 111 [(28, .int .i64 i), (27, .int .i64 g.fs.l.length), (26, .slice g.fs.o g.fs.l.length g.fs.c), (4, .pointer (some (bat b4 0))), (3, .pointer (some (bat b3 0))), (2, .bool false), (1, .pointer (some (bat b1 0)))] a) (fun i => g.fs.l.length - i)
    (fun a w => ∃ oF cF, HS w0 noM [cb b4 88 (encP oF g.fs.l.length cF g), own 90 12 oF g.fs.l.length cF (flat (encF oN0) ((g.fs.l.take g.fs.l.length).map Gr.caps)), cb b3 85 (encB oN0), own 63 2 oN0 1 1 (encAt at0), cb b1 25 (encGs g)] w ∧
      Sl 111 [(4, .pointer (some (bat b4 0))), (2, .bool false), (1, .pointer (some (bat b1 0)))] a) 0 ⟨none, 0, Nat.zero_le _, (by rw [List.take_zero]; exact (hH.nil_flat (encF oN0) 90 12).perm (by (repeat (first | exact List.Perm.refl _ | exact List.Perm.nil | refine perm_pick 0 rfl ?_ | refine perm_pick 1 rfl ?_ | refine perm_pick 2 rfl ?_ | refine perm_pick 3 rfl ?_ | refine perm_pick 4 rfl ?_ | refine perm_pick 5 rfl ?_ | refine perm_pick 6 rfl ?_ | refine perm_pick 7 rfl ?_ | refine perm_pick 8 rfl ?_ | refine perm_pick 9 rfl ?_ | refine perm_pick 10 rfl ?_ | refine perm_pick 11 rfl ?_)))), (hA.sub (by (repeat (first | exact trivial | refine ⟨rfl, ?_⟩))))⟩ ?_ ?_
  · clear hA hH
    rintro i a w ⟨oF, cF, hi, hH, hA⟩
    by_cases hlt : i < g.fs.l.length
    rotate_left
    · obtain rfl : i = g.fs.l.length := by omega
      repeat' (first | (first | (refine GT ?_ ?_ <;> intro hg <;> clear hA a <;> intro a hA <;> (first | exact FA | replace hg := of_decide_eq_true hg | replace hg := of_decide_eq_false hg | skip)) | (refine QT ?_; clear hA a; intro a hA) | (first | (refine BT ?_; clear hA hH; rintro _ w ⟨bN, rfl, hH⟩ a hA) | (refine LT ?_; clear hA hH; rintro _ w ⟨oN, rfl, hH⟩ a hA) | (refine AT ?_; clear hA; rintro _ w ⟨oN, cN, rfl, hH2⟩ a hA; clear hH; have hH := (hH2 _ (by (repeat constructor))).tail; clear hH2) | (refine S0T ?_; clear hH; rintro _ w hH) )) | ((first | refine CT ?_ | (refine DT ?_ ?_ <;> intro hc <;> try (exfalso; omega))) <;> repeat' refine CT ?_) | (first | (refine DSK ?_; clear hA a; intro a hA) | (first | (refine DLT ?_; clear hA hH; rintro _ w ⟨oN, rfl, hH⟩; refine ⟨STT, ?_⟩; intro a hA) | (refine DAT ?_; clear hA; rintro _ w ⟨oN, cN, rfl, hH2⟩; clear hH; have hH := (hH2 _ (by (repeat constructor))).tail; clear hH2; refine ⟨STT, ?_⟩; intro a hA))) )
      exact ⟨oF, cF, hH, (hA.sub (by (repeat (first | exact trivial | refine ⟨rfl, ?_⟩))))⟩
    obtain ⟨f, hf⟩ : ∃ x, g.fs.l[i]? = some x := ⟨_, List.getElem?_eq_getElem hlt⟩
    have hvf := flat_all encG_len hf
    have hcl := map_caps_len (l := g.fs.l) hi
    repeat' (first | (first | (refine GT ?_ ?_ <;> intro hg <;> clear hA a <;> intro a hA <;> (first | exact FA | replace hg := of_decide_eq_true hg | replace hg := of_decide_eq_false hg | skip)) | ((first | apply st_ex hA hH rfl rfl (by decide) | apply dr_ex hA rfl rfl rfl (by decide) | apply dr_exp hA rfl rfl rfl (by decide) | apply dr_ex3 hA hH rfl rfl rfl (by decide)); (first | (apply ex_load_st (vs := encG f); rfl; rfl; exact cls_rd hR.1.1 id hvf) | (apply ex_indexAddr_nat; rfl; rfl; omega; exact hspF)); clear hA a; intro a hA) | (refine QT ?_; clear hA a; intro a hA) | (first | (refine BT ?_; clear hA hH; rintro _ w ⟨bN, rfl, hH⟩ a hA) | (refine LT ?_; clear hA hH; rintro _ w ⟨oN, rfl, hH⟩ a hA) | (refine AT ?_; clear hA; rintro _ w ⟨oN, cN, rfl, hH2⟩ a hA; clear hH; have hH := (hH2 _ (by (repeat constructor))).tail; clear hH2) | (refine S0T ?_; clear hH; rintro _ w hH) | (apply st_op0 hA rfl rfl; apply op_store_agg (vs := encG f); rfl; rfl; exact hH; (repeat constructor); (repeat rfl); clear hH; rintro _ w hH))) | ((first | refine CT ?_ | (refine DT ?_ ?_ <;> intro hc <;> try (exfalso; omega))) <;> repeat' refine CT ?_) | (first | (refine DSK ?_; clear hA a; intro a hA) | (first | (refine DLT ?_; clear hA hH; rintro _ w ⟨oN, rfl, hH⟩; refine ⟨STT, ?_⟩; intro a hA) | (refine DAT ?_; clear hA; rintro _ w ⟨oN, cN, rfl, hH2⟩; clear hH; have hH := (hH2 _ (by (repeat constructor))).tail; clear hH2; refine ⟨STT, ?_⟩; intro a hA))) )
    (refine st_ex hA hH rfl rfl (by decide) (ex_build (szs := [(0, 1), (1, 11)]) (cs := (encF oN0 f.caps).toArray) (run_szl (.cons ⟨_, rfl, by decide⟩ (.cons ⟨_, rfl, by decide⟩ .nil))) rfl (fill_F oN0 f.caps _ rfl)) ?_; clear hA a; intro a hA)
    obtain ⟨fc, hfc⟩ : ∃ x, x = encF oN0 f.caps := ⟨_, rfl⟩
    have hfl : fc.length = 12 := by rw [hfc]; rfl
    have hfo : fc.all (·.oneCell') = true := by rw [hfc]; rfl
    rw [← hfc] at hA
    have hcats : Cats 12 [.agg fc.toArray] fc := by
      have h := Cats.cn (cs := fc) Cats.nil
      rw [hfl, List.append_nil] at h
      exact h
    (apply st_op hA rfl rfl (by decide); apply op_sliceLit (xs := fc) (vs := [.agg fc.toArray]); rfl; rfl; exact hcats; rfl; rfl; rfl; exact hH; clear hA hH; rintro _ w ⟨oL, rfl, hH⟩ a hA)
    (apply st_op hA rfl rfl (by decide); apply op_append; rfl; rfl; exact hH; exact MEMT; exact (hH.own_rd (List.Mem.head _)); exact hfl; rfl; decide; exact hfo; (unfold maxLen; omega); omega; clear hA; rintro _ w ⟨oN, cN, rfl, hH2⟩ a hA; clear hH; have hH := hH2 _ (by (repeat constructor)); clear hH2)
    rw [hfc, flatF_snoc, ← map_caps_next hf] at hH
    repeat' (first | (first | (refine GT ?_ ?_ <;> intro hg <;> clear hA a <;> intro a hA <;> (first | exact FA | replace hg := of_decide_eq_true hg | replace hg := of_decide_eq_false hg | skip)) | (refine QT ?_; clear hA a; intro a hA) | (first | (refine BT ?_; clear hA hH; rintro _ w ⟨bN, rfl, hH⟩ a hA) | (refine LT ?_; clear hA hH; rintro _ w ⟨oN, rfl, hH⟩ a hA) | (refine AT ?_; clear hA; rintro _ w ⟨oN, cN, rfl, hH2⟩ a hA; clear hH; have hH := (hH2 _ (by (repeat constructor))).tail; clear hH2) | (refine S0T ?_; clear hH; rintro _ w hH) | (apply st_op0 hA rfl rfl; apply op_store_fld (cs' := encP oN (i + 1) cN g); rfl; rfl; rfl; exact hH; (repeat constructor); clear hH; rintro _ w hH))) | ((first | refine CT ?_ | (refine DT ?_ ?_ <;> intro hc <;> try (exfalso; omega))) <;> repeat' refine CT ?_) | (first | (refine DSK ?_; clear hA a; intro a hA) | (first | (refine DLT ?_; clear hA hH; rintro _ w ⟨oN, rfl, hH⟩; refine ⟨STT, ?_⟩; intro a hA) | (refine DAT ?_; clear hA; rintro _ w ⟨oN, cN, rfl, hH2⟩; clear hH; have hH := (hH2 _ (by (repeat constructor))).tail; clear hH2; refine ⟨STT, ?_⟩; intro a hA))) )
    exact ⟨i + 1, ⟨oN, cN, hlt, (((hH.rm 0).rm 0).perm (by (repeat (first | exact List.Perm.refl _ | exact List.Perm.nil | refine perm_pick 0 rfl ?_ | refine perm_pick 1 rfl ?_ | refine perm_pick 2 rfl ?_ | refine perm_pick 3 rfl ?_ | refine perm_pick 4 rfl ?_ | refine perm_pick 5 rfl ?_ | refine perm_pick 6 rfl ?_ | refine perm_pick 7 rfl ?_ | refine perm_pick 8 rfl ?_ | refine perm_pick 9 rfl ?_ | refine perm_pick 10 rfl ?_ | refine perm_pick 11 rfl ?_)))), (hA.sub (by (repeat (first | exact trivial | refine ⟨rfl, ?_⟩))))⟩, by omega⟩
  clear hA hH
  rintro a w ⟨oF, cF, hH, hA⟩
  rw [List.take_length] at hH
  obtain ⟨cl, hcl⟩ : ∃ x, x = g.fs.l.map Gr.caps := ⟨_, rfl⟩
  have hcll : cl.length = g.fs.l.length := by rw [hcl, List.length_map]
  rw [← hcl, ← hcll] at hH
  repeat' (first | (first | (refine GT ?_ ?_ <;> intro hg <;> clear hA a <;> intro a hA <;> (first | exact FA | replace hg := of_decide_eq_true hg | replace hg := of_decide_eq_false hg | skip)) | (refine QT ?_; clear hA a; intro a hA) | (first | (refine BT ?_; clear hA hH; rintro _ w ⟨bN, rfl, hH⟩ a hA) | (refine LT ?_; clear hA hH; rintro _ w ⟨oN, rfl, hH⟩ a hA) | (refine AT ?_; clear hA; rintro _ w ⟨oN, cN, rfl, hH2⟩ a hA; clear hH; have hH := (hH2 _ (by (repeat constructor))).tail; clear hH2) | (refine S0T ?_; clear hH; rintro _ w hH) )) | ((first | refine CT ?_ | (refine DT ?_ ?_ <;> intro hc <;> try (exfalso; omega))) <;> repeat' refine CT ?_) | (first | (refine DSK ?_; clear hA a; intro a hA) | (first | (refine DLT ?_; clear hA hH; rintro _ w ⟨oN, rfl, hH⟩; refine ⟨STT, ?_⟩; intro a hA) | (refine DAT ?_; clear hA; rintro _ w ⟨oN, cN, rfl, hH2⟩; clear hH; have hH := (hH2 _ (by (repeat constructor))).tail; clear hH2; refine ⟨STT, ?_⟩; intro a hA))) )
  (refine st_op hA rfl rfl (by decide) (op_call rfl rfl rfl (anfMay_spec _ oF cF cl oN0 g (hH.own_rd (.tail _ (.head _))) (hH.own_rd (T := 63) (n := 1) (cap := 1) (sz := 2) (by exact MEMT)) (by omega) (hR.2.2.1.keep hH.kp) (hR.2.2.2.1.keep hH.kp) (hR.2.2.2.2.1.keep hH.kp) (hR.2.2.2.2.2.keep hH.kp))) ?_; clear hA; rintro _ w ⟨b, rfl, hk⟩ a hA; replace hH := hH.keep hk; clear hk)
  repeat' (first | (first | (refine GT ?_ ?_ <;> intro hg <;> clear hA a <;> intro a hA <;> (first | exact FA | replace hg := of_decide_eq_true hg | replace hg := of_decide_eq_false hg | skip)) | ((first | apply st_ex hA hH rfl rfl (by decide) | apply dr_ex hA rfl rfl rfl (by decide) | apply dr_exp hA rfl rfl rfl (by decide) | apply dr_ex3 hA hH rfl rfl rfl (by decide)); (first | (apply ex_build (szs := [(0, 5), (5, 2), (7, 1), (8, 1), (9, 1), (10, 1)]) (cs := (encD g gr00 none 0 0 0 none none 0 0).toArray); exact run_szl (by (repeat (first | exact SzL.nil | refine SzL.cons ⟨_, rfl, by decide⟩ ?_))); rfl; rfl)); clear hA a; intro a hA) | (refine QT ?_; clear hA a; intro a hA) | (first | (refine BT ?_; clear hA hH; rintro _ w ⟨bN, rfl, hH⟩ a hA) | (refine LT ?_; clear hA hH; rintro _ w ⟨oN, rfl, hH⟩ a hA) | (refine AT ?_; clear hA; rintro _ w ⟨oN, cN, rfl, hH2⟩ a hA; clear hH; have hH := (hH2 _ (by (repeat constructor))).tail; clear hH2) | (refine S0T ?_; clear hH; rintro _ w hH) )) | ((first | refine CT ?_ | (refine DT ?_ ?_ <;> intro hc <;> try (exfalso; omega))) <;> repeat' refine CT ?_) | (first | (refine DSK ?_; clear hA a; intro a hA) | (first | (refine DLT ?_; clear hA hH; rintro _ w ⟨oN, rfl, hH⟩; refine ⟨STT, ?_⟩; intro a hA) | (refine DAT ?_; clear hA; rintro _ w ⟨oN, cN, rfl, hH2⟩; clear hH; have hH := (hH2 _ (by (repeat constructor))).tail; clear hH2; refine ⟨STT, ?_⟩; intro a hA))) )
  all_goals first | exact rt1 (.inl rfl) rfl hA rfl ⟨_, rfl, hH.kp, fun h => by cases h⟩ | skip
  obtain ⟨bC, hbC⟩ : ∃ x, x = bN := ⟨_, rfl⟩
  rw [← hbC] at hA hH
  clear hbC bN
  refine wp_lpk (S := Nat) (fun i a w => ∃ oA cA, i ≤ g.fs.l.length ∧ HS w0 noM [cb bC 95 (encD g gr00 oA i cA 0 none none 0 0), own 3 1 oA i cA (flat Fw.encI ((g.fs.l.take i).map Gr.caps)), cb b1 25 (encGs g)] w ∧
      Sl 111 [(51, .int .i64 i), (50, .int .i64 g.fs.l.length), (49, .slice g.fs.o g.fs.l.length g.fs.c), (7, .pointer (some (bat bC 0))), (2, .bool false), (1, .pointer (some (bat b1 0)))] a) (fun i => g.fs.l.length - i)
    (fun a w => ∃ oA cA, HS w0 noM [cb bC 95 (encD g gr00 oA g.fs.l.length cA 0 none none 0 0), own 3 1 oA g.fs.l.length cA (flat Fw.encI ((g.fs.l.take g.fs.l.length).map Gr.caps)), cb b1 25 (encGs g)] w ∧
      Sl 111 [(7, .pointer (some (bat bC 0))), (2, .bool false), (1, .pointer (some (bat b1 0)))] a) 0 ⟨none, 0, Nat.zero_le _, (by rw [List.take_zero]; exact HS.left (H1 := [_, _, _]) ((hH.nil_flat Fw.encI 3 1).perm (by (repeat (first | exact List.Perm.refl _ | exact List.Perm.nil | refine perm_pick 0 rfl ?_ | refine perm_pick 1 rfl ?_ | refine perm_pick 2 rfl ?_ | refine perm_pick 3 rfl ?_ | refine perm_pick 4 rfl ?_ | refine perm_pick 5 rfl ?_ | refine perm_pick 6 rfl ?_ | refine perm_pick 7 rfl ?_ | refine perm_pick 8 rfl ?_ | refine perm_pick 9 rfl ?_ | refine perm_pick 10 rfl ?_ | refine perm_pick 11 rfl ?_))))), (hA.sub (by (repeat (first | exact trivial | refine ⟨rfl, ?_⟩))))⟩ ?_ ?_
  · clear hA hH
    rintro i a w ⟨oA, cA, hi, hH, hA⟩
    by_cases hlt : i < g.fs.l.length
    rotate_left
    · obtain rfl : i = g.fs.l.length := by omega
      repeat' (first | (first | (refine GT ?_ ?_ <;> intro hg <;> clear hA a <;> intro a hA <;> (first | exact FA | replace hg := of_decide_eq_true hg | replace hg := of_decide_eq_false hg | skip)) | (refine QT ?_; clear hA a; intro a hA) | (first | (refine BT ?_; clear hA hH; rintro _ w ⟨bN, rfl, hH⟩ a hA) | (refine LT ?_; clear hA hH; rintro _ w ⟨oN, rfl, hH⟩ a hA) | (refine AT ?_; clear hA; rintro _ w ⟨oN, cN, rfl, hH2⟩ a hA; clear hH; have hH := (hH2 _ (by (repeat constructor))).tail; clear hH2) | (refine S0T ?_; clear hH; rintro _ w hH) )) | ((first | refine CT ?_ | (refine DT ?_ ?_ <;> intro hc <;> try (exfalso; omega))) <;> repeat' refine CT ?_) | (first | (refine DSK ?_; clear hA a; intro a hA) | (first | (refine DLT ?_; clear hA hH; rintro _ w ⟨oN, rfl, hH⟩; refine ⟨STT, ?_⟩; intro a hA) | (refine DAT ?_; clear hA; rintro _ w ⟨oN, cN, rfl, hH2⟩; clear hH; have hH := (hH2 _ (by (repeat constructor))).tail; clear hH2; refine ⟨STT, ?_⟩; intro a hA))) )
      exact ⟨oA, cA, hH, (hA.sub (by (repeat (first | exact trivial | refine ⟨rfl, ?_⟩))))⟩
    obtain ⟨f, hf⟩ : ∃ x, g.fs.l[i]? = some x := ⟨_, List.getElem?_eq_getElem hlt⟩
    have hvf := flat_all encG_len hf
    repeat' (first | (first | (refine GT ?_ ?_ <;> intro hg <;> clear hA a <;> intro a hA <;> (first | exact FA | replace hg := of_decide_eq_true hg | replace hg := of_decide_eq_false hg | skip)) | ((first | apply st_ex hA hH rfl rfl (by decide) | apply dr_ex hA rfl rfl rfl (by decide) | apply dr_exp hA rfl rfl rfl (by decide) | apply dr_ex3 hA hH rfl rfl rfl (by decide)); (first | (apply ex_load_st (vs := encG f); rfl; rfl; exact cls_rd hR.1.1 id hvf) | (apply ex_indexAddr_nat; rfl; rfl; omega; exact hspF)); clear hA a; intro a hA) | (refine QT ?_; clear hA a; intro a hA) | (first | (refine BT ?_; clear hA hH; rintro _ w ⟨bN, rfl, hH⟩ a hA) | (refine LT ?_; clear hA hH; rintro _ w ⟨oN, rfl, hH⟩ a hA) | (refine AT ?_; clear hA; rintro _ w ⟨oN, cN, rfl, hH2⟩ a hA; clear hH; have hH := (hH2 _ (by (repeat constructor))).tail; clear hH2) | (refine S0T ?_; clear hH; rintro _ w hH) | (apply st_op0 hA rfl rfl; apply op_store_agg (vs := encG f); rfl; rfl; exact hH; (repeat constructor); (repeat rfl); clear hH; rintro _ w hH))) | ((first | refine CT ?_ | (refine DT ?_ ?_ <;> intro hc <;> try (exfalso; omega))) <;> repeat' refine CT ?_) | (first | (refine DSK ?_; clear hA a; intro a hA) | (first | (refine DLT ?_; clear hA hH; rintro _ w ⟨oN, rfl, hH⟩; refine ⟨STT, ?_⟩; intro a hA) | (refine DAT ?_; clear hA; rintro _ w ⟨oN, cN, rfl, hH2⟩; clear hH; have hH := (hH2 _ (by (repeat constructor))).tail; clear hH2; refine ⟨STT, ?_⟩; intro a hA))) )
    have hST : HS w0 noM [cb bN 30 (encG f), cb bC 95 (encD g gr00 oA i cA 0 none none 0 0)] w := HS.left (H1 := [_, _]) hH
    (refine wp_draw2_HS (H := [_, _]) [(0, 1), (1, 1), (2, 1), (3, 1), (4, 1), (5, 1), (6, 1), (7, 0), (8, 0), (9, 1), (10, 1)] [11] mixed (by decide +kernel) (hST) ?_; replace hH := hH.drew)
    clear hST
    repeat' (first | (first | (refine GT ?_ ?_ <;> intro hg <;> clear hA a <;> intro a hA <;> (first | exact FA | replace hg := of_decide_eq_true hg | replace hg := of_decide_eq_false hg | skip)) | (refine QT ?_; clear hA a; intro a hA) | (first | (refine BT ?_; clear hA hH; rintro _ w ⟨bN, rfl, hH⟩ a hA) | (refine LT ?_; clear hA hH; rintro _ w ⟨oN, rfl, hH⟩ a hA) | (refine AT ?_; clear hA; rintro _ w ⟨oN, cN, rfl, hH2⟩ a hA; clear hH; have hH := (hH2 _ (by (repeat constructor))).tail; clear hH2) | (refine S0T ?_; clear hH; rintro _ w hH) )) | ((first | refine CT ?_ | (refine DT ?_ ?_ <;> intro hc <;> try (exfalso; omega))) <;> repeat' refine CT ?_) | (first | (refine DSK ?_; clear hA a; intro a hA) | (first | (refine DLT ?_; clear hA hH; rintro _ w ⟨oN, rfl, hH⟩; refine ⟨STT, ?_⟩; intro a hA) | (refine DAT ?_; clear hA; rintro _ w ⟨oN, cN, rfl, hH2⟩; clear hH; have hH := (hH2 _ (by (repeat constructor))).tail; clear hH2; refine ⟨STT, ?_⟩; intro a hA))) )
    (apply dr_op hA rfl rfl rfl (by decide); apply op_sliceLit; rfl; rfl; exact CATST; rfl; rfl; rfl; exact hH; clear hA hH; rintro _ w ⟨oN, rfl, hH⟩; refine ⟨HS.left (H1 := [_, _]) hH.tail, ?_⟩; intro a hA)
    (apply dr_op hA rfl rfl rfl (by decide); apply op_append; rfl; rfl; exact hH; exact MEMT; exact (hH.own_rd (List.Mem.head _)); exact rfl; rfl; decide; exact rfl; (unfold maxLen; omega); omega; clear hA; rintro _ w ⟨oN, cN, rfl, hH2⟩; clear hH; have hH := hH2 _ (by (repeat constructor)); clear hH2; refine ⟨HS.left (H1 := [_, _]) hH.tail, ?_⟩; intro a hA)
    rw [flatI_s, ← map_caps_next hf] at hH
    repeat' (first | (first | (refine GT ?_ ?_ <;> intro hg <;> clear hA a <;> intro a hA <;> (first | exact FA | replace hg := of_decide_eq_true hg | replace hg := of_decide_eq_false hg | skip)) | (refine QT ?_; clear hA a; intro a hA) | (first | (refine BT ?_; clear hA hH; rintro _ w ⟨bN, rfl, hH⟩ a hA) | (refine LT ?_; clear hA hH; rintro _ w ⟨oN, rfl, hH⟩ a hA) | (refine AT ?_; clear hA; rintro _ w ⟨oN, cN, rfl, hH2⟩ a hA; clear hH; have hH := (hH2 _ (by (repeat constructor))).tail; clear hH2) | (refine S0T ?_; clear hH; rintro _ w hH) )) | ((first | refine CT ?_ | (refine DT ?_ ?_ <;> intro hc <;> try (exfalso; omega))) <;> repeat' refine CT ?_) | (first | (refine DSK ?_; clear hA a; intro a hA) | (first | (refine DLT ?_; clear hA hH; rintro _ w ⟨oN, rfl, hH⟩; refine ⟨STT, ?_⟩; intro a hA) | (refine DAT ?_; clear hA; rintro _ w ⟨oN, cN, rfl, hH2⟩; clear hH; have hH := (hH2 _ (by (repeat constructor))).tail; clear hH2; refine ⟨STT, ?_⟩; intro a hA))) )
    (apply dr_op03 hA rfl rfl rfl; apply op_store_fld (cs' := encD g gr00 oN (i + 1) cN 0 none none 0 0); rfl; rfl; rfl; exact hH; (repeat constructor); clear hH; rintro _ w hH)
    repeat' (first | (first | (refine GT ?_ ?_ <;> intro hg <;> clear hA a <;> intro a hA <;> (first | exact FA | replace hg := of_decide_eq_true hg | replace hg := of_decide_eq_false hg | skip)) | (refine QT ?_; clear hA a; intro a hA) | (first | (refine BT ?_; clear hA hH; rintro _ w ⟨bN, rfl, hH⟩ a hA) | (refine LT ?_; clear hA hH; rintro _ w ⟨oN, rfl, hH⟩ a hA) | (refine AT ?_; clear hA; rintro _ w ⟨oN, cN, rfl, hH2⟩ a hA; clear hH; have hH := (hH2 _ (by (repeat constructor))).tail; clear hH2) | (refine S0T ?_; clear hH; rintro _ w hH) )) | ((first | refine CT ?_ | (refine DT ?_ ?_ <;> intro hc <;> try (exfalso; omega))) <;> repeat' refine CT ?_) | (first | (refine DSK ?_; clear hA a; intro a hA) | (first | (refine DLT ?_; clear hA hH; rintro _ w ⟨oN, rfl, hH⟩; refine ⟨STT, ?_⟩; intro a hA) | (refine DAT ?_; clear hA; rintro _ w ⟨oN, cN, rfl, hH2⟩; clear hH; have hH := (hH2 _ (by (repeat constructor))).tail; clear hH2; refine ⟨STT, ?_⟩; intro a hA))) )
    exact ⟨i + 1, ⟨oN, cN, hlt, (((hH.rm 0).rm 0).perm (by (repeat (first | exact List.Perm.refl _ | exact List.Perm.nil | refine perm_pick 0 rfl ?_ | refine perm_pick 1 rfl ?_ | refine perm_pick 2 rfl ?_ | refine perm_pick 3 rfl ?_ | refine perm_pick 4 rfl ?_ | refine perm_pick 5 rfl ?_ | refine perm_pick 6 rfl ?_ | refine perm_pick 7 rfl ?_ | refine perm_pick 8 rfl ?_ | refine perm_pick 9 rfl ?_ | refine perm_pick 10 rfl ?_ | refine perm_pick 11 rfl ?_)))), (hA.sub (by (repeat (first | exact trivial | refine ⟨rfl, ?_⟩))))⟩, by omega⟩
  clear hA hH
  rintro a w ⟨oA, cA, hH, hA⟩
  rw [List.take_length, ← hcl, ← hcll] at hH
  repeat' (first | (first | (refine GT ?_ ?_ <;> intro hg <;> clear hA a <;> intro a hA <;> (first | exact FA | replace hg := of_decide_eq_true hg | replace hg := of_decide_eq_false hg | skip)) | (refine QT ?_; clear hA a; intro a hA) | (first | (refine BT ?_; clear hA hH; rintro _ w ⟨bN, rfl, hH⟩ a hA) | (refine LT ?_; clear hA hH; rintro _ w ⟨oN, rfl, hH⟩ a hA) | (refine AT ?_; clear hA; rintro _ w ⟨oN, cN, rfl, hH2⟩ a hA; clear hH; have hH := (hH2 _ (by (repeat constructor))).tail; clear hH2) | (refine S0T ?_; clear hH; rintro _ w hH) )) | ((first | refine CT ?_ | (refine DT ?_ ?_ <;> intro hc <;> try (exfalso; omega))) <;> repeat' refine CT ?_) | (first | (refine DSK ?_; clear hA a; intro a hA) | (first | (refine DLT ?_; clear hA hH; rintro _ w ⟨oN, rfl, hH⟩; refine ⟨STT, ?_⟩; intro a hA) | (refine DAT ?_; clear hA; rintro _ w ⟨oN, cN, rfl, hH2⟩; clear hH; have hH := (hH2 _ (by (repeat constructor))).tail; clear hH2; refine ⟨STT, ?_⟩; intro a hA))) )
  refine wp_lpk (S := Nat) (fun i a w => ∃ f e oT nT cT p, (i ≤ g.fs.l.length ∧ 0 ≤ p ∧ p ≤ 65536 ∧ ∀ k f, g.fs.l[k]? = some f → k < i → GOk g f) ∧ HS w0 noM [cb bC 95 (encD g f oA cl.length cA p e oT nT cT), own 3 1 oA cl.length cA (flat Fw.encI cl), cb b1 25 (encGs g)] w ∧
      Sl 111 [(70, .int .i64 i), (69, .int .i64 g.fs.l.length), (68, .slice g.fs.o g.fs.l.length g.fs.c), (7, .pointer (some (bat bC 0))), (2, .bool false), (1, .pointer (some (bat b1 0)))] a) (fun i => g.fs.l.length - i)
    (fun a w => (∀ f ∈ g.fs.l, GOk g f) ∧ HS w0 noM [] w ∧ Sl 111 [] a) 0 ⟨gr00, none, none, 0, 0, 0, ⟨Nat.zero_le _, Int.le_refl _, by decide, fun k f hk h => absurd h (Nat.not_lt_zero _)⟩, hH, (hA.sub (by (repeat (first | exact trivial | refine ⟨rfl, ?_⟩))))⟩ ?_ ?_
  · clear hA hH
    rintro i a w ⟨f0, e0, oT0, nT0, cT0, p, ⟨hi, hp0, hp1, hok⟩, hH, hA⟩
    by_cases hlt : i < g.fs.l.length
    rotate_left
    · obtain rfl : i = g.fs.l.length := by omega
      repeat' (first | (first | (refine GT ?_ ?_ <;> intro hg <;> clear hA a <;> intro a hA <;> (first | exact FA | replace hg := of_decide_eq_true hg | replace hg := of_decide_eq_false hg | skip)) | (refine QT ?_; clear hA a; intro a hA) | (first | (refine BT ?_; clear hA hH; rintro _ w ⟨bN, rfl, hH⟩ a hA) | (refine LT ?_; clear hA hH; rintro _ w ⟨oN, rfl, hH⟩ a hA) | (refine AT ?_; clear hA; rintro _ w ⟨oN, cN, rfl, hH2⟩ a hA; clear hH; have hH := (hH2 _ (by (repeat constructor))).tail; clear hH2) | (refine S0T ?_; clear hH; rintro _ w hH) )) | ((first | refine CT ?_ | (refine DT ?_ ?_ <;> intro hc <;> try (exfalso; omega))) <;> repeat' refine CT ?_) | (first | (refine DSK ?_; clear hA a; intro a hA) | (first | (refine DLT ?_; clear hA hH; rintro _ w ⟨oN, rfl, hH⟩; refine ⟨STT, ?_⟩; intro a hA) | (refine DAT ?_; clear hA; rintro _ w ⟨oN, cN, rfl, hH2⟩; clear hH; have hH := (hH2 _ (by (repeat constructor))).tail; clear hH2; refine ⟨STT, ?_⟩; intro a hA))) )
      refine ⟨fun f hf => ?_, hH.tail.tail.tail, (hA.sub (by (repeat (first | exact trivial | refine ⟨rfl, ?_⟩))))⟩
      obtain ⟨k, hk⟩ := List.getElem?_of_mem hf
      exact hok k f hk (List.getElem?_eq_some_iff.1 hk).1
    obtain ⟨f, hf⟩ : ∃ x, g.fs.l[i]? = some x := ⟨_, List.getElem?_eq_getElem hlt⟩
    have hfm := List.mem_of_getElem? hf
    have hRf := hR.2.1 f hfm
    obtain ⟨hfb, hto⟩ := hbs f hfm
    have hvf := flat_all encG_len hf
    repeat' (first | (first | (refine GT ?_ ?_ <;> intro hg <;> clear hA a <;> intro a hA <;> (first | exact FA | replace hg := of_decide_eq_true hg | replace hg := of_decide_eq_false hg | skip)) | ((first | apply st_ex hA hH rfl rfl (by decide) | apply dr_ex hA rfl rfl rfl (by decide) | apply dr_exp hA rfl rfl rfl (by decide) | apply dr_ex3 hA hH rfl rfl rfl (by decide)); (first | (apply ex_load_st (vs := encG f); rfl; rfl; exact cls_rd hR.1.1 id hvf) | (apply ex_indexAddr_nat; rfl; rfl; omega; exact hspF)); clear hA a; intro a hA) | (refine QT ?_; clear hA a; intro a hA) | (first | (refine BT ?_; clear hA hH; rintro _ w ⟨bN, rfl, hH⟩ a hA) | (refine LT ?_; clear hA hH; rintro _ w ⟨oN, rfl, hH⟩ a hA) | (refine AT ?_; clear hA; rintro _ w ⟨oN, cN, rfl, hH2⟩ a hA; clear hH; have hH := (hH2 _ (by (repeat constructor))).tail; clear hH2) | (refine S0T ?_; clear hH; rintro _ w hH) | (apply st_op0 hA rfl rfl; apply op_store_agg (vs := encG f); rfl; rfl; exact hH; (repeat constructor); (repeat rfl); clear hH; rintro _ w hH))) | ((first | refine CT ?_ | (refine DT ?_ ?_ <;> intro hc <;> try (exfalso; omega))) <;> repeat' refine CT ?_) | (first | (refine DSK ?_; clear hA a; intro a hA) | (first | (refine DLT ?_; clear hA hH; rintro _ w ⟨oN, rfl, hH⟩; refine ⟨STT, ?_⟩; intro a hA) | (refine DAT ?_; clear hA; rintro _ w ⟨oN, cN, rfl, hH2⟩; clear hH; have hH := (hH2 _ (by (repeat constructor))).tail; clear hH2; refine ⟨STT, ?_⟩; intro a hA))) )
    have hST : HS w0 noM [cb bN 30 (encG f)] w := HS.left (H1 := [_]) hH
    obtain ⟨b11, hb11⟩ : ∃ x, x = bN := ⟨_, rfl⟩
    rw [← hb11] at hA hH hST
    clear hb11 bN
    refine wp_drawT3 (qs3 [0, 1, 2, 3, 5, 6, 7] (.q 9 (.q 10 (.three 4 8 11 (.two 8 11 (.one 11 (.q 12 (.q 13 (.one 14 (.q 15 (.q 16 (.one 17 .nil))))))) (.q 12 (.q 13 (.two 8 14 (.one 14 (.q 15 (.q 16 (.one 17 .nil)))) (.one 8 (.q 15 (.q 16 (.one 17 .nil)))))))) (.two 4 11 (.one 11 (.q 12 (.q 13 (.one 14 (.q 15 (.q 16 (.one 17 .nil))))))) (.one 4 (.q 12 (.q 13 (.one 14 (.q 15 (.q 16 (.one 17 .nil)))))))) (.two 4 8 (.q 12 (.q 13 (.two 8 14 (.one 14 (.q 15 (.q 16 (.one 17 .nil)))) (.one 8 (.q 15 (.q 16 (.one 17 .nil))))))) (.one 4 (.q 12 (.q 13 (.one 14 (.q 15 (.q 16 (.one 17 .nil)))))))))))) (fun a w => ∃ bE oT, HS w0 noM [cb bC 95 (encD g f oA cl.length cA p (some bE) oT f.bs.l.length f.bs.l.length), sk bE [], own 71 1 oT f.bs.l.length f.bs.l.length (flat encO (List.replicate f.bs.l.length (none : Option (Nat × List Int)))), cb b11 30 (encG f), own 3 1 oA cl.length cA (flat Fw.encI cl), cb b1 25 (encGs g)] w ∧
      Sl 111 [(11, .pointer (some (bat b11 0))), (70, .int .i64 i), (69, .int .i64 g.fs.l.length), (68, .slice g.fs.o g.fs.l.length g.fs.c), (7, .pointer (some (bat bC 0))), (2, .bool false), (1, .pointer (some (bat b1 0)))] a) mixed (by decide +kernel) hST ?_ ?_
    · clear hST
      replace hH := hH.drew
      repeat' (first | apply d3_three | apply d3_two | (apply d3_ex hA rfl rfl rfl (by decide); exact EXT; clear hA a; intro a hA) | (refine d3_op hA rfl rfl rfl (by decide) (op_makeMapK hH) ?_; clear hA hH; rintro _ w ⟨bE, rfl, hH⟩; refine ⟨hH.pick (by exact MEMT), ?_⟩; intro a hA) | (apply d3_op hA rfl rfl rfl (by decide); apply op_make1 encO (none : Option (Nat × List Int)) (n := f.bs.l.length); rfl; rfl; omega; omega; (unfold maxLen; omega); omega; rfl; rfl; exact hH; clear hA hH; rintro _ w ⟨oT, rfl, hH⟩; refine ⟨hH.pick (by exact MEMT), ?_⟩; intro a hA) | (refine d3_op0 hA rfl rfl rfl (op_store_cb (vs := encG f) (cs' := encD g f oA cl.length cA p e0 oT0 nT0 cT0) rfl rfl hH (by (repeat constructor)) rfl rfl rfl (Nat.le_of_ble_eq_true rfl) rfl) ?_; clear hH; rintro _ w hH; refine ⟨hH.pick (by exact MEMT), ?_⟩) | (refine d3_op0 hA rfl rfl rfl (op_store_fld (cs' := encD g f oA cl.length cA p (some bE) oT0 nT0 cT0) rfl rfl rfl hH (by (repeat constructor)) rfl rfl) ?_; clear hH; rintro _ w hH; refine ⟨hH.pick (by exact MEMT), ?_⟩) | (refine d3_op0 hA rfl rfl rfl (op_store_fld (cs' := encD g f oA cl.length cA p (some bE) oT f.bs.l.length f.bs.l.length) rfl rfl rfl hH (by (repeat constructor)) rfl rfl) ?_; clear hH; rintro _ w hH; refine ⟨hH.pick (by exact MEMT), ?_⟩))
      all_goals exact ⟨_, _, hH.perm (by (repeat (first | exact List.Perm.refl _ | exact List.Perm.nil | refine perm_pick 0 rfl ?_ | refine perm_pick 1 rfl ?_ | refine perm_pick 2 rfl ?_ | refine perm_pick 3 rfl ?_ | refine perm_pick 4 rfl ?_ | refine perm_pick 5 rfl ?_ | refine perm_pick 6 rfl ?_ | refine perm_pick 7 rfl ?_ | refine perm_pick 8 rfl ?_ | refine perm_pick 9 rfl ?_ | refine perm_pick 10 rfl ?_ | refine perm_pick 11 rfl ?_))), (hA.sub (by (repeat (first | exact trivial | refine ⟨rfl, ?_⟩))))⟩
    clear hA hH hST
    rintro a w ⟨bE, oT, hH, hA⟩
    repeat' (first | (first | (refine GT ?_ ?_ <;> intro hg <;> clear hA a <;> intro a hA <;> (first | exact FA | replace hg := of_decide_eq_true hg | replace hg := of_decide_eq_false hg | skip)) | (refine QT ?_; clear hA a; intro a hA) | (first | (refine BT ?_; clear hA hH; rintro _ w ⟨bN, rfl, hH⟩ a hA) | (refine LT ?_; clear hA hH; rintro _ w ⟨oN, rfl, hH⟩ a hA) | (refine AT ?_; clear hA; rintro _ w ⟨oN, cN, rfl, hH2⟩ a hA; clear hH; have hH := (hH2 _ (by (repeat constructor))).tail; clear hH2) | (refine S0T ?_; clear hH; rintro _ w hH) )) | ((first | refine CT ?_ | (refine DT ?_ ?_ <;> intro hc <;> try (exfalso; omega))) <;> repeat' refine CT ?_) | (first | (refine DSK ?_; clear hA a; intro a hA) | (first | (refine DLT ?_; clear hA hH; rintro _ w ⟨oN, rfl, hH⟩; refine ⟨STT, ?_⟩; intro a hA) | (refine DAT ?_; clear hA; rintro _ w ⟨oN, cN, rfl, hH2⟩; clear hH; have hH := (hH2 _ (by (repeat constructor))).tail; clear hH2; refine ⟨STT, ?_⟩; intro a hA))) )
    · exact rt1 (.inl rfl) rfl hA rfl ⟨_, rfl, hH.kp, fun h => by cases h⟩
    have hne : 0 < f.bs.l.length := by omega
    have hspT : Sp oT f.bs.l.length := hH.own_sp (T := 71) (.tail _ (.tail _ (.head _)))
    (refine st_op hA rfl rfl (by decide) (op_makeMapK hH) ?_; clear hA hH; rintro _ w ⟨b0, rfl, hH⟩ a hA)
    repeat' (first | (first | (refine GT ?_ ?_ <;> intro hg <;> clear hA a <;> intro a hA <;> (first | exact FA | replace hg := of_decide_eq_true hg | replace hg := of_decide_eq_false hg | skip)) | ((first | apply st_ex hA hH rfl rfl (by decide) | apply dr_ex hA rfl rfl rfl (by decide) | apply dr_exp hA rfl rfl rfl (by decide) | apply dr_ex3 hA hH rfl rfl rfl (by decide)); (first | (apply ex_indexAddr; rfl; rfl; decide; omega; exact hspT)); clear hA a; intro a hA) | (refine QT ?_; clear hA a; intro a hA) | (first | (refine BT ?_; clear hA hH; rintro _ w ⟨bN, rfl, hH⟩ a hA) | (refine LT ?_; clear hA hH; rintro _ w ⟨oN, rfl, hH⟩ a hA) | (refine AT ?_; clear hA; rintro _ w ⟨oN, cN, rfl, hH2⟩ a hA; clear hH; have hH := (hH2 _ (by (repeat constructor))).tail; clear hH2) | (refine S0T ?_; clear hH; rintro _ w hH) | (apply st_op0 hA rfl rfl; apply op_set1 (enc := encO) (y0 := some (b0, [])); rfl; rfl; rfl; rfl; exact encO_len; exact hH; (repeat constructor); (rw [List.length_replicate]; exact hne); clear hH; rintro _ w hH))) | ((first | refine CT ?_ | (refine DT ?_ ?_ <;> intro hc <;> try (exfalso; omega))) <;> repeat' refine CT ?_) | (first | (refine DSK ?_; clear hA a; intro a hA) | (first | (refine DLT ?_; clear hA hH; rintro _ w ⟨oN, rfl, hH⟩; refine ⟨STT, ?_⟩; intro a hA) | (refine DAT ?_; clear hA; rintro _ w ⟨oN, cN, rfl, hH2⟩; clear hH; have hH := (hH2 _ (by (repeat constructor))).tail; clear hH2; refine ⟨STT, ?_⟩; intro a hA))) )
    obtain ⟨tc0, htc0⟩ : ∃ x, x = (List.replicate f.bs.l.length (none : Option (Nat × List Int))).set 0 (some (b0, [])) := ⟨_, rfl⟩
    have htz : Int.toNat 0 * 1 = 0 := rfl
    rw [htz, ← htc0] at hH
    have hl0 : 0 < ((List.replicate f.bs.l.length (none : Option (Nat × List Int))).map sko).length := by rw [List.length_map, List.length_replicate]; exact hne
    have hH1 := (rep_skb hH f.bs.l.length).openAt (List.getElem?_eq_getElem hl0)
    clear hH
    have hH := ((hH1.tail).perm (H' := sk b0 [] :: all (((List.replicate f.bs.l.length (none : Option (Nat × List Int))).map sko).eraseIdx 0) :: cb bC 95 (encD g f oA cl.length cA p (some bE) oT f.bs.l.length f.bs.l.length) :: sk bE [] :: own 71 1 oT f.bs.l.length f.bs.l.length (flat encO tc0) :: cb b11 30 (encG f) :: own 3 1 oA cl.length cA (flat Fw.encI cl) :: cb b1 25 (encGs g) :: []) (by (repeat (first | exact List.Perm.refl _ | exact List.Perm.nil | refine perm_pick 0 rfl ?_ | refine perm_pick 1 rfl ?_ | refine perm_pick 2 rfl ?_ | refine perm_pick 3 rfl ?_ | refine perm_pick 4 rfl ?_ | refine perm_pick 5 rfl ?_ | refine perm_pick 6 rfl ?_ | refine perm_pick 7 rfl ?_ | refine perm_pick 8 rfl ?_ | refine perm_pick 9 rfl ?_ | refine perm_pick 10 rfl ?_ | refine perm_pick 11 rfl ?_)))).shutAt hl0
    clear hH1
    rw [sko_sets, ← htc0, encD_C] at hH
    have hinv := linv_0 g f b0 p hp0 hp1 hne
    rw [← htc0] at hinv
    clear htc0 hp0 hp1
    obtain ⟨c, hcE⟩ : ∃ x : Ck, x = ⟨g, f, oA, cl.length, cA, bE, oT, f.bs.l.length, f.bs.l.length⟩ := ⟨_, rfl⟩
    rw [← hcE] at hH
    have hp0' := hinv.size
    refine wp_lpk (S := Nat) (fun n a w => ∃ tc th p B, (n ≤ f.bs.l.length ∧ LInv g f n th p B ∧ tc.length = th.length ∧ ∀ m, n ≤ m → tc[m]? = th[m]?) ∧ HS w0 noM [cb bC 95 (encC c p), sk bE (evs f n), own 71 1 oT f.bs.l.length f.bs.l.length (flat encO tc), all (th.map sko), cb b11 30 (encG f), own 3 1 oA cl.length cA (flat Fw.encI cl), cb b1 25 (encGs g)] w ∧
        Sl 111 [(102, .int .i64 n), (101, .int .i64 f.bs.l.length), (100, .slice f.bs.o f.bs.l.length f.bs.c), (70, .int .i64 i), (69, .int .i64 g.fs.l.length), (68, .slice g.fs.o g.fs.l.length g.fs.c), (7, .pointer (some (bat bC 0))), (2, .bool false), (1, .pointer (some (bat b1 0)))] a) (fun n => f.bs.l.length - n)
      (fun a w => ∃ p, (GOk g f ∧ 0 ≤ p ∧ p ≤ 65536) ∧ HS w0 noM [cb bC 95 (encC c p), own 3 1 oA cl.length cA (flat Fw.encI cl), cb b1 25 (encGs g)] w ∧
        Sl 111 [(70, .int .i64 i), (69, .int .i64 g.fs.l.length), (68, .slice g.fs.o g.fs.l.length g.fs.c), (7, .pointer (some (bat bC 0))), (2, .bool false), (1, .pointer (some (bat b1 0)))] a) 0
      ⟨tc0, tc0, p, _, ⟨Nat.zero_le _, hinv, rfl, fun m _ => rfl⟩, hH.perm (by (repeat (first | exact List.Perm.refl _ | exact List.Perm.nil | refine perm_pick 0 rfl ?_ | refine perm_pick 1 rfl ?_ | refine perm_pick 2 rfl ?_ | refine perm_pick 3 rfl ?_ | refine perm_pick 4 rfl ?_ | refine perm_pick 5 rfl ?_ | refine perm_pick 6 rfl ?_ | refine perm_pick 7 rfl ?_ | refine perm_pick 8 rfl ?_ | refine perm_pick 9 rfl ?_ | refine perm_pick 10 rfl ?_ | refine perm_pick 11 rfl ?_))), (hA.sub (by (repeat (first | exact trivial | refine ⟨rfl, ?_⟩))))⟩ ?_ ?_
    · clear hA hH hinv hp0' hl0
      rintro n a w ⟨tc, th, p, B, ⟨hn, hinv, htl, hag⟩, hH, hA⟩
      have hsz := hinv.size
      have htp := hinv.top
      by_cases hltn : n < f.bs.l.length
      rotate_left
      · obtain rfl : n = f.bs.l.length := by omega
        repeat' (first | (first | (refine GT ?_ ?_ <;> intro hg <;> clear hA a <;> intro a hA <;> (first | exact FA | replace hg := of_decide_eq_true hg | replace hg := of_decide_eq_false hg | skip)) | (refine QT ?_; clear hA a; intro a hA) | (first | (refine BT ?_; clear hA hH; rintro _ w ⟨bN, rfl, hH⟩ a hA) | (refine LT ?_; clear hA hH; rintro _ w ⟨oN, rfl, hH⟩ a hA) | (refine AT ?_; clear hA; rintro _ w ⟨oN, cN, rfl, hH2⟩ a hA; clear hH; have hH := (hH2 _ (by (repeat constructor))).tail; clear hH2) | (refine S0T ?_; clear hH; rintro _ w hH) )) | ((first | refine CT ?_ | (refine DT ?_ ?_ <;> intro hc <;> try (exfalso; omega))) <;> repeat' refine CT ?_) | (first | (refine DSK ?_; clear hA a; intro a hA) | (first | (refine DLT ?_; clear hA hH; rintro _ w ⟨oN, rfl, hH⟩; refine ⟨STT, ?_⟩; intro a hA) | (refine DAT ?_; clear hA; rintro _ w ⟨oN, cN, rfl, hH2⟩; clear hH; have hH := (hH2 _ (by (repeat constructor))).tail; clear hH2; refine ⟨STT, ?_⟩; intro a hA))) )
        exact ⟨p, ⟨linv_end hinv hne, by omega, htp⟩, ((hH.rm 1).rm 1).rm 1 |>.rm 1, (hA.sub (by (repeat (first | exact trivial | refine ⟨rfl, ?_⟩))))⟩
      obtain ⟨bl, hbl⟩ : ∃ bl, f.bs.l[n]? = some bl := ⟨_, List.getElem?_eq_getElem hltn⟩
      repeat' (first | (first | (refine GT ?_ ?_ <;> intro hg <;> clear hA a <;> intro a hA <;> (first | exact FA | replace hg := of_decide_eq_true hg | replace hg := of_decide_eq_false hg | skip)) | (refine QT ?_; clear hA a; intro a hA) | (first | (refine BT ?_; clear hA hH; rintro _ w ⟨bN, rfl, hH⟩ a hA) | (refine LT ?_; clear hA hH; rintro _ w ⟨oN, rfl, hH⟩ a hA) | (refine AT ?_; clear hA; rintro _ w ⟨oN, cN, rfl, hH2⟩ a hA; clear hH; have hH := (hH2 _ (by (repeat constructor))).tail; clear hH2) | (refine S0T ?_; clear hH; rintro _ w hH) )) | ((first | refine CT ?_ | (refine DT ?_ ?_ <;> intro hc <;> try (exfalso; omega))) <;> repeat' refine CT ?_) | (first | (refine DSK ?_; clear hA a; intro a hA) | (first | (refine DLT ?_; clear hA hH; rintro _ w ⟨oN, rfl, hH⟩; refine ⟨STT, ?_⟩; intro a hA) | (refine DAT ?_; clear hA; rintro _ w ⟨oN, cN, rfl, hH2⟩; clear hH; have hH := (hH2 _ (by (repeat constructor))).tail; clear hH2; refine ⟨STT, ?_⟩; intro a hA))) )
      have hcf : c.f = f := by rw [hcE]
      have hcg : c.g = g := by rw [hcE]
      have hbs2 := block_spec w0 w [cb b11 30 (encG f), own 3 1 oA cl.length cA (flat Fw.encI cl), cb b1 25 (encGs g)] c bC n p (evs f n) cl tc th bl (by subst hcE; exact hH) (by subst hcE; exact .tail _ (.head _)) (by subst hcE; rfl) (by omega) (by rw [hcf]; exact hRf) (by rw [hcf]; exact hbl) (hto bl (List.mem_of_getElem? hbl)) (by subst hcE; exact hinv.len.symm) htl (by rw [hcf]; exact hinv.len) hag (by omega) htp hinv.ev
      (refine st_op hA rfl rfl (by decide) (op_call rfl rfl rfl hbs2) ?_; clear hA hH hbs2)
      rintro _ w (⟨rfl, hH⟩ | ⟨rfl, k0, tc', th', p', hi0, rfl, hblk, hev, hpa, hpb, hthr, htcl, hag', hH⟩) a hA
      · repeat' (first | (first | (refine GT ?_ ?_ <;> intro hg <;> clear hA a <;> intro a hA <;> (first | exact FA | replace hg := of_decide_eq_true hg | replace hg := of_decide_eq_false hg | skip)) | (refine QT ?_; clear hA a; intro a hA) | (first | (refine BT ?_; clear hA hH; rintro _ w ⟨bN, rfl, hH⟩ a hA) | (refine LT ?_; clear hA hH; rintro _ w ⟨oN, rfl, hH⟩ a hA) | (refine AT ?_; clear hA; rintro _ w ⟨oN, cN, rfl, hH2⟩ a hA; clear hH; have hH := (hH2 _ (by (repeat constructor))).tail; clear hH2) | (refine S0T ?_; clear hH; rintro _ w hH) )) | ((first | refine CT ?_ | (refine DT ?_ ?_ <;> intro hc <;> try (exfalso; omega))) <;> repeat' refine CT ?_) | (first | (refine DSK ?_; clear hA a; intro a hA) | (first | (refine DLT ?_; clear hA hH; rintro _ w ⟨oN, rfl, hH⟩; refine ⟨STT, ?_⟩; intro a hA) | (refine DAT ?_; clear hA; rintro _ w ⟨oN, cN, rfl, hH2⟩; clear hH; have hH := (hH2 _ (by (repeat constructor))).tail; clear hH2; refine ⟨STT, ?_⟩; intro a hA))) )
        exact rt1 (.inl rfl) rfl hA rfl ⟨_, rfl, hH.kp, fun h => by cases h⟩
      rw [hcf, hcg] at hblk
      have hinv2 := linv_next (B' := fun m => if m = n then setA th n else B m) (fun m hm => if_neg hm) (if_pos rfl) hinv hbl hi0 hblk hev hpa hpb hthr
      repeat' (first | (first | (refine GT ?_ ?_ <;> intro hg <;> clear hA a <;> intro a hA <;> (first | exact FA | replace hg := of_decide_eq_true hg | replace hg := of_decide_eq_false hg | skip)) | (refine QT ?_; clear hA a; intro a hA) | (first | (refine BT ?_; clear hA hH; rintro _ w ⟨bN, rfl, hH⟩ a hA) | (refine LT ?_; clear hA hH; rintro _ w ⟨oN, rfl, hH⟩ a hA) | (refine AT ?_; clear hA; rintro _ w ⟨oN, cN, rfl, hH2⟩ a hA; clear hH; have hH := (hH2 _ (by (repeat constructor))).tail; clear hH2) | (refine S0T ?_; clear hH; rintro _ w hH) )) | ((first | refine CT ?_ | (refine DT ?_ ?_ <;> intro hc <;> try (exfalso; omega))) <;> repeat' refine CT ?_) | (first | (refine DSK ?_; clear hA a; intro a hA) | (first | (refine DLT ?_; clear hA hH; rintro _ w ⟨oN, rfl, hH⟩; refine ⟨STT, ?_⟩; intro a hA) | (refine DAT ?_; clear hA; rintro _ w ⟨oN, cN, rfl, hH2⟩; clear hH; have hH := (hH2 _ (by (repeat constructor))).tail; clear hH2; refine ⟨STT, ?_⟩; intro a hA))) )
      have e5 : c.bE = bE := by rw [hcE]
      have e6 : c.oT = oT := by rw [hcE]
      have e7 : c.nT = f.bs.l.length := by rw [hcE]
      have e8 : c.cT = f.bs.l.length := by rw [hcE]
      rw [e5, e6, e7, e8, ← evs_next hbl] at hH
      exact ⟨n + 1, ⟨tc', th', p', _, ⟨hltn, hinv2, by rw [htcl, htl, hinv2.len, hinv.len], fun m hm => hag' m (by omega)⟩, hH, (hA.sub (by (repeat (first | exact trivial | refine ⟨rfl, ?_⟩))))⟩, by omega⟩
    clear hA hH hinv hp0'
    rintro a w ⟨p', ⟨hg, hp0, hp1⟩, hH, hA⟩
    subst hcE
    rw [← encD_C] at hH
    repeat' (first | (first | (refine GT ?_ ?_ <;> intro hg <;> clear hA a <;> intro a hA <;> (first | exact FA | replace hg := of_decide_eq_true hg | replace hg := of_decide_eq_false hg | skip)) | (refine QT ?_; clear hA a; intro a hA) | (first | (refine BT ?_; clear hA hH; rintro _ w ⟨bN, rfl, hH⟩ a hA) | (refine LT ?_; clear hA hH; rintro _ w ⟨oN, rfl, hH⟩ a hA) | (refine AT ?_; clear hA; rintro _ w ⟨oN, cN, rfl, hH2⟩ a hA; clear hH; have hH := (hH2 _ (by (repeat constructor))).tail; clear hH2) | (refine S0T ?_; clear hH; rintro _ w hH) )) | ((first | refine CT ?_ | (refine DT ?_ ?_ <;> intro hc <;> try (exfalso; omega))) <;> repeat' refine CT ?_) | (first | (refine DSK ?_; clear hA a; intro a hA) | (first | (refine DLT ?_; clear hA hH; rintro _ w ⟨oN, rfl, hH⟩; refine ⟨STT, ?_⟩; intro a hA) | (refine DAT ?_; clear hA; rintro _ w ⟨oN, cN, rfl, hH2⟩; clear hH; have hH := (hH2 _ (by (repeat constructor))).tail; clear hH2; refine ⟨STT, ?_⟩; intro a hA))) )
    exact ⟨i + 1, ⟨f, some bE, oT, _, _, p', ⟨hlt, hp0, hp1, fun k f' hk hlt2 => (by
      by_cases hki : k = i
      · subst hki
        rw [hf] at hk
        cases hk
        exact hg
      · exact hok k f' hk (by omega))⟩, hH, (hA.sub (by (repeat (first | exact trivial | refine ⟨rfl, ?_⟩))))⟩, by omega⟩
  clear hA hH
  rintro a w ⟨hall, hH, hA⟩
  repeat' (first | (first | (refine GT ?_ ?_ <;> intro hg <;> clear hA a <;> intro a hA <;> (first | exact FA | replace hg := of_decide_eq_true hg | replace hg := of_decide_eq_false hg | skip)) | (refine QT ?_; clear hA a; intro a hA) | (first | (refine BT ?_; clear hA hH; rintro _ w ⟨bN, rfl, hH⟩ a hA) | (refine LT ?_; clear hA hH; rintro _ w ⟨oN, rfl, hH⟩ a hA) | (refine AT ?_; clear hA; rintro _ w ⟨oN, cN, rfl, hH2⟩ a hA; clear hH; have hH := (hH2 _ (by (repeat constructor))).tail; clear hH2) | (refine S0T ?_; clear hH; rintro _ w hH) )) | ((first | refine CT ?_ | (refine DT ?_ ?_ <;> intro hc <;> try (exfalso; omega))) <;> repeat' refine CT ?_) | (first | (refine DSK ?_; clear hA a; intro a hA) | (first | (refine DLT ?_; clear hA hH; rintro _ w ⟨oN, rfl, hH⟩; refine ⟨STT, ?_⟩; intro a hA) | (refine DAT ?_; clear hA; rintro _ w ⟨oN, cN, rfl, hH2⟩; clear hH; have hH := (hH2 _ (by (repeat constructor))).tail; clear hH2; refine ⟨STT, ?_⟩; intro a hA))) )
  exact rt1 (.inl rfl) rfl hA rfl ⟨_, rfl, hH.kp, fun _ => hall⟩
end Go.Proofs.Ytjfanjcoppeeaaa
namespace Go.Proofs.Ytjfanjcoppeeaaa
open Go Go.Fw
set_option linter.unusedVariables false
set_option maxRecDepth 10000 attribute [local irreducible] Code.wp wpList Calls Ex Op1 sat bat blk cb own Go.Fw.mp Go.Fw.mpO Go.Fw.mpI Go.Fw.mpE Go.Fw.itr HS Rd Ret wkD Hp Cl Cls Exit.then Exit.inBlock Exit.noGoto bodyPost Go.Fw.flat wk2 Go.Fw.all Go.Fw.owns wpOp
attribute [local irreducible] sk mpK srt sko mvO entK geS

set_option maxHeartbeats 16000000 in
theorem Parts_spec (w0 : World) (g : Grs) (m : Int) (hR : RdGs w0 g) : Ret Try.prog 17 #[.agg (encGs g).toArray, .int .i64 m] w0 (fun v w => ∃ n, v = .int .i64 n ∧ Kp w0 noM w) := by
  have hH : HS w0 noM [] w0 := HS.init w0 noM
  have hle := hR.1.le
  have hspF : Sp g.fs.o g.fs.l.length := hR.1.1.sp (sz := 2) (flat_length encG_len _) (by omega)
  (refine enter (N := 107) Try.func17 rfl Try.ntmps17 rfl ?_; intro a hA; dsimp only [sl0, Nat.reduceAdd] at hA)
  repeat' (first | (first | (refine GT ?_ ?_ <;> intro hg <;> clear hA a <;> intro a hA <;> (first | exact FA | replace hg := of_decide_eq_true hg | replace hg := of_decide_eq_false hg | skip)) | (refine QT ?_; clear hA a; intro a hA) | (first | (refine BT ?_; clear hA hH; rintro _ w ⟨bN, rfl, hH⟩ a hA) | (refine LT ?_; clear hA hH; rintro _ w ⟨oN, rfl, hH⟩ a hA) | (refine AT ?_; clear hA; rintro _ w ⟨oN, cN, rfl, hH2⟩ a hA; clear hH; have hH := (hH2 _ (by (repeat constructor))).tail; clear hH2) | (refine S0T ?_; clear hH; rintro _ w hH) )) | ((first | refine CT ?_ | (refine DT ?_ ?_ <;> intro hc <;> try (exfalso; omega))) <;> repeat' refine CT ?_) | (first | (refine DSK ?_; clear hA a; intro a hA) | (first | (refine DLT ?_; clear hA hH; rintro _ w ⟨oN, rfl, hH⟩; refine ⟨STT, ?_⟩; intro a hA) | (refine DAT ?_; clear hA; rintro _ w ⟨oN, cN, rfl, hH2⟩; clear hH; have hH := (hH2 _ (by (repeat constructor))).tail; clear hH2; refine ⟨STT, ?_⟩; intro a hA))) )
  obtain ⟨b1, hb1⟩ : ∃ x, x = bN := ⟨_, rfl⟩
  rw [← hb1] at hA hH
  clear hb1 bN
  refine wp_lpk (S := Nat) (fun i a w => ∃ n, i ≤ g.fs.l.length ∧ HS w0 noM [cb b1 25 (encGs g)] w ∧ Sl 107 [(6, .int .i64 i), (5, .int .i64 n), (2, .pointer (some (bat b1 0))), (1, .int .i64 m)] a) (fun i => g.fs.l.length - i)
    (fun a w => ∃ n, HS w0 noM [] w ∧ Sl 107 [(5, .int .i64 n)] a) 0 ⟨0, Nat.zero_le _, hH, (hA.sub (by (repeat (first | exact trivial | refine ⟨rfl, ?_⟩))))⟩ ?_ ?_
  · clear hA hH
    rintro i a w ⟨n, hi, hH, hA⟩
    by_cases hlt : i < g.fs.l.length
    rotate_left
    · repeat' (first | (first | (refine GT ?_ ?_ <;> intro hg <;> clear hA a <;> intro a hA <;> (first | exact FA | replace hg := of_decide_eq_true hg | replace hg := of_decide_eq_false hg | skip)) | (refine QT ?_; clear hA a; intro a hA) | (first | (refine BT ?_; clear hA hH; rintro _ w ⟨bN, rfl, hH⟩ a hA) | (refine LT ?_; clear hA hH; rintro _ w ⟨oN, rfl, hH⟩ a hA) | (refine AT ?_; clear hA; rintro _ w ⟨oN, cN, rfl, hH2⟩ a hA; clear hH; have hH := (hH2 _ (by (repeat constructor))).tail; clear hH2) | (refine S0T ?_; clear hH; rintro _ w hH) )) | ((first | refine CT ?_ | (refine DT ?_ ?_ <;> intro hc <;> try (exfalso; omega))) <;> repeat' refine CT ?_) | (first | (refine DSK ?_; clear hA a; intro a hA) | (first | (refine DLT ?_; clear hA hH; rintro _ w ⟨oN, rfl, hH⟩; refine ⟨STT, ?_⟩; intro a hA) | (refine DAT ?_; clear hA; rintro _ w ⟨oN, cN, rfl, hH2⟩; clear hH; have hH := (hH2 _ (by (repeat constructor))).tail; clear hH2; refine ⟨STT, ?_⟩; intro a hA))) )
      all_goals exact ⟨_, hH.tail, (hA.sub (by (repeat (first | exact trivial | refine ⟨rfl, ?_⟩))))⟩
    obtain ⟨f, hf⟩ : ∃ x, g.fs.l[i]? = some x := ⟨_, List.getElem?_eq_getElem hlt⟩
    have hfm := List.mem_of_getElem? hf
    have hRf := hR.2.1 f hfm
    have hlf := hRf.1.le
    have hspB : Sp f.bs.o f.bs.l.length := hRf.1.1.sp (sz := 6) (flat_length encBl_len _) (by omega)
    have hvf : (flat encG g.fs.l)[i * 2 + 1]? = some (.slice f.bs.o f.bs.l.length f.bs.c) := flat_get (off := 1) encG_len hf rfl
    repeat' (first | (first | (refine GT ?_ ?_ <;> intro hg <;> clear hA a <;> intro a hA <;> (first | exact FA | replace hg := of_decide_eq_true hg | replace hg := of_decide_eq_false hg | skip)) | (refine QT ?_; clear hA a; intro a hA) | (first | (refine BT ?_; clear hA hH; rintro _ w ⟨bN, rfl, hH⟩ a hA) | (refine LT ?_; clear hA hH; rintro _ w ⟨oN, rfl, hH⟩ a hA) | (refine AT ?_; clear hA; rintro _ w ⟨oN, cN, rfl, hH2⟩ a hA; clear hH; have hH := (hH2 _ (by (repeat constructor))).tail; clear hH2) | (refine S0T ?_; clear hH; rintro _ w hH) )) | ((first | refine CT ?_ | (refine DT ?_ ?_ <;> intro hc <;> try (exfalso; omega))) <;> repeat' refine CT ?_) | (first | (refine DSK ?_; clear hA a; intro a hA) | (first | (refine DLT ?_; clear hA hH; rintro _ w ⟨oN, rfl, hH⟩; refine ⟨STT, ?_⟩; intro a hA) | (refine DAT ?_; clear hA; rintro _ w ⟨oN, cN, rfl, hH2⟩; clear hH; have hH := (hH2 _ (by (repeat constructor))).tail; clear hH2; refine ⟨STT, ?_⟩; intro a hA))) )
    rotate_left
    · exact ⟨_, hH.tail, (hA.sub (by (repeat (first | exact trivial | refine ⟨rfl, ?_⟩))))⟩
    refine wp_lpk (S := Nat) (fun k a w => ∃ n, k ≤ f.bs.l.length ∧ HS w0 noM [cb b1 25 (encGs g)] w ∧ Sl 107 [(7, .int .i64 k), (6, .int .i64 i), (5, .int .i64 n), (2, .pointer (some (bat b1 0))), (1, .int .i64 m)] a) (fun k => f.bs.l.length - k)
      (fun a w => ∃ n, HS w0 noM [cb b1 25 (encGs g)] w ∧ Sl 107 [(6, .int .i64 i), (5, .int .i64 n), (2, .pointer (some (bat b1 0))), (1, .int .i64 m)] a) 0 ⟨n, Nat.zero_le _, hH, (hA.sub (by (repeat (first | exact trivial | refine ⟨rfl, ?_⟩))))⟩ ?_ ?_
    · clear hA hH
      rintro k a w ⟨n, hk, hH, hA⟩
      by_cases hltk : k < f.bs.l.length
      rotate_left
      · repeat' (first | (first | (refine GT ?_ ?_ <;> intro hg <;> clear hA a <;> intro a hA <;> (first | exact FA | replace hg := of_decide_eq_true hg | replace hg := of_decide_eq_false hg | skip)) | ((first | apply st_ex hA hH rfl rfl (by decide) | apply dr_ex hA rfl rfl rfl (by decide) | apply dr_exp hA rfl rfl rfl (by decide) | apply dr_ex3 hA hH rfl rfl rfl (by decide)); (first | (apply ex_load; rfl; exact cl_rd hR.1.1 id hvf)); clear hA a; intro a hA) | (refine QT ?_; clear hA a; intro a hA) | (first | (refine BT ?_; clear hA hH; rintro _ w ⟨bN, rfl, hH⟩ a hA) | (refine LT ?_; clear hA hH; rintro _ w ⟨oN, rfl, hH⟩ a hA) | (refine AT ?_; clear hA; rintro _ w ⟨oN, cN, rfl, hH2⟩ a hA; clear hH; have hH := (hH2 _ (by (repeat constructor))).tail; clear hH2) | (refine S0T ?_; clear hH; rintro _ w hH) )) | ((first | refine CT ?_ | (refine DT ?_ ?_ <;> intro hc <;> try (exfalso; omega))) <;> repeat' refine CT ?_) | (first | (refine DSK ?_; clear hA a; intro a hA) | (first | (refine DLT ?_; clear hA hH; rintro _ w ⟨oN, rfl, hH⟩; refine ⟨STT, ?_⟩; intro a hA) | (refine DAT ?_; clear hA; rintro _ w ⟨oN, cN, rfl, hH2⟩; clear hH; have hH := (hH2 _ (by (repeat constructor))).tail; clear hH2; refine ⟨STT, ?_⟩; intro a hA))) )
        all_goals exact ⟨_, hH, (hA.sub (by (repeat (first | exact trivial | refine ⟨rfl, ?_⟩))))⟩
      obtain ⟨bl, hbl⟩ : ∃ x, f.bs.l[k]? = some x := ⟨_, List.getElem?_eq_getElem hltk⟩
      have hbR := hRf.2 bl (List.mem_of_getElem? hbl)
      have hvb := flat_all encBl_len hbl
      have hli := hbR.2.1.le
      have hlt2 := hbR.2.2.2.2.2.1.le
      have hspI : Sp bl.is.o bl.is.l.length := hbR.2.1.1.sp (sz := 5) (flat_length encIn_len _) (by omega)
      have hspE : Sp bl.e.to.o bl.e.to.l.length := hbR.2.2.2.2.2.1.1.sp (sz := 2) (flat_length encEd_len _) (by omega)
      repeat' (first | (first | (refine GT ?_ ?_ <;> intro hg <;> clear hA a <;> intro a hA <;> (first | exact FA | replace hg := of_decide_eq_true hg | replace hg := of_decide_eq_false hg | skip)) | ((first | apply st_ex hA hH rfl rfl (by decide) | apply dr_ex hA rfl rfl rfl (by decide) | apply dr_exp hA rfl rfl rfl (by decide) | apply dr_ex3 hA hH rfl rfl rfl (by decide)); (first | (apply ex_load; rfl; exact cl_rd hR.1.1 id hvf) | (apply ex_load_st (vs := encBl bl); rfl; rfl; exact cls_rd hRf.1.1 id hvb) | (apply ex_addW; rfl; rfl)); clear hA a; intro a hA) | (refine QT ?_; clear hA a; intro a hA) | (first | (refine BT ?_; clear hA hH; rintro _ w ⟨bN, rfl, hH⟩ a hA) | (refine LT ?_; clear hA hH; rintro _ w ⟨oN, rfl, hH⟩ a hA) | (refine AT ?_; clear hA; rintro _ w ⟨oN, cN, rfl, hH2⟩ a hA; clear hH; have hH := (hH2 _ (by (repeat constructor))).tail; clear hH2) | (refine S0T ?_; clear hH; rintro _ w hH) | (apply st_op0 hA rfl rfl; apply op_store_agg (vs := encBl bl); rfl; rfl; exact hH; (repeat constructor); (repeat rfl); clear hH; rintro _ w hH))) | ((first | refine CT ?_ | (refine DT ?_ ?_ <;> intro hc <;> try (exfalso; omega))) <;> repeat' refine CT ?_) | (first | (refine DSK ?_; clear hA a; intro a hA) | (first | (refine DLT ?_; clear hA hH; rintro _ w ⟨oN, rfl, hH⟩; refine ⟨STT, ?_⟩; intro a hA) | (refine DAT ?_; clear hA; rintro _ w ⟨oN, cN, rfl, hH2⟩; clear hH; have hH := (hH2 _ (by (repeat constructor))).tail; clear hH2; refine ⟨STT, ?_⟩; intro a hA))) )
      rotate_left
      · exact ⟨_, hH, (hA.sub (by (repeat (first | exact trivial | refine ⟨rfl, ?_⟩))))⟩
      obtain ⟨b8, hb8⟩ : ∃ x, x = bN := ⟨_, rfl⟩
      rw [← hb8] at hA hH
      clear hb8 bN
      refine wp_lpk (S := Nat) (fun j a w => ∃ n, j ≤ bl.is.l.length ∧ HS w0 noM [cb b8 52 (encBl bl), cb b1 25 (encGs g)] w ∧ Sl 107 [(9, .int .i64 j), (8, .pointer (some (bat b8 0))), (7, .int .i64 k), (6, .int .i64 i), (5, .int .i64 n), (2, .pointer (some (bat b1 0))), (1, .int .i64 m)] a) (fun j => bl.is.l.length - j)
        (fun a w => ∃ n, HS w0 noM [cb b8 52 (encBl bl), cb b1 25 (encGs g)] w ∧ Sl 107 [(8, .pointer (some (bat b8 0))), (7, .int .i64 k), (6, .int .i64 i), (5, .int .i64 n), (2, .pointer (some (bat b1 0))), (1, .int .i64 m)] a) 0 ⟨_, Nat.zero_le _, hH, (hA.sub (by (repeat (first | exact trivial | refine ⟨rfl, ?_⟩))))⟩ ?_ ?_
      · clear hA hH
        rintro j a w ⟨n, hj, hH, hA⟩
        by_cases hltj : j < bl.is.l.length
        rotate_left
        · repeat' (first | (first | (refine GT ?_ ?_ <;> intro hg <;> clear hA a <;> intro a hA <;> (first | exact FA | replace hg := of_decide_eq_true hg | replace hg := of_decide_eq_false hg | skip)) | (refine QT ?_; clear hA a; intro a hA) | (first | (refine BT ?_; clear hA hH; rintro _ w ⟨bN, rfl, hH⟩ a hA) | (refine LT ?_; clear hA hH; rintro _ w ⟨oN, rfl, hH⟩ a hA) | (refine AT ?_; clear hA; rintro _ w ⟨oN, cN, rfl, hH2⟩ a hA; clear hH; have hH := (hH2 _ (by (repeat constructor))).tail; clear hH2) | (refine S0T ?_; clear hH; rintro _ w hH) )) | ((first | refine CT ?_ | (refine DT ?_ ?_ <;> intro hc <;> try (exfalso; omega))) <;> repeat' refine CT ?_) | (first | (refine DSK ?_; clear hA a; intro a hA) | (first | (refine DLT ?_; clear hA hH; rintro _ w ⟨oN, rfl, hH⟩; refine ⟨STT, ?_⟩; intro a hA) | (refine DAT ?_; clear hA; rintro _ w ⟨oN, cN, rfl, hH2⟩; clear hH; have hH := (hH2 _ (by (repeat constructor))).tail; clear hH2; refine ⟨STT, ?_⟩; intro a hA))) )
          all_goals exact ⟨_, hH, (hA.sub (by (repeat (first | exact trivial | refine ⟨rfl, ?_⟩))))⟩
        obtain ⟨ins, hins⟩ : ∃ x, bl.is.l[j]? = some x := ⟨_, List.getElem?_eq_getElem hltj⟩
        have hva : (flat encIn bl.is.l)[j * 5 + 1 + 3]? = some (.slice ins.r.a.o ins.r.a.l.length ins.r.a.c) := flat_get (off := 4) encIn_len hins rfl
        repeat' (first | (first | (refine GT ?_ ?_ <;> intro hg <;> clear hA a <;> intro a hA <;> (first | exact FA | replace hg := of_decide_eq_true hg | replace hg := of_decide_eq_false hg | skip)) | ((first | apply st_ex hA hH rfl rfl (by decide) | apply dr_ex hA rfl rfl rfl (by decide) | apply dr_exp hA rfl rfl rfl (by decide) | apply dr_ex3 hA hH rfl rfl rfl (by decide)); (first | (apply ex_load; rfl; exact cl_rd hbR.2.1.1 id hva) | (apply ex_succ; rfl; rfl; omega) | (apply ex_addW; rfl; rfl)); clear hA a; intro a hA) | (refine QT ?_; clear hA a; intro a hA) | (first | (refine BT ?_; clear hA hH; rintro _ w ⟨bN, rfl, hH⟩ a hA) | (refine LT ?_; clear hA hH; rintro _ w ⟨oN, rfl, hH⟩ a hA) | (refine AT ?_; clear hA; rintro _ w ⟨oN, cN, rfl, hH2⟩ a hA; clear hH; have hH := (hH2 _ (by (repeat constructor))).tail; clear hH2) | (refine S0T ?_; clear hH; rintro _ w hH) )) | ((first | refine CT ?_ | (refine DT ?_ ?_ <;> intro hc <;> try (exfalso; omega))) <;> repeat' refine CT ?_) | (first | (refine DSK ?_; clear hA a; intro a hA) | (first | (refine DLT ?_; clear hA hH; rintro _ w ⟨oN, rfl, hH⟩; refine ⟨STT, ?_⟩; intro a hA) | (refine DAT ?_; clear hA; rintro _ w ⟨oN, cN, rfl, hH2⟩; clear hH; have hH := (hH2 _ (by (repeat constructor))).tail; clear hH2; refine ⟨STT, ?_⟩; intro a hA))) )
        · exact ⟨j + 1, ⟨_, hltj, hH, (hA.sub (by (repeat (first | exact trivial | refine ⟨rfl, ?_⟩))))⟩, by omega⟩
        · exact ⟨_, hH, (hA.sub (by (repeat (first | exact trivial | refine ⟨rfl, ?_⟩))))⟩
      clear hA hH
      rintro a w ⟨n, hH, hA⟩
      repeat' (first | (first | (refine GT ?_ ?_ <;> intro hg <;> clear hA a <;> intro a hA <;> (first | exact FA | replace hg := of_decide_eq_true hg | replace hg := of_decide_eq_false hg | skip)) | (refine QT ?_; clear hA a; intro a hA) | (first | (refine BT ?_; clear hA hH; rintro _ w ⟨bN, rfl, hH⟩ a hA) | (refine LT ?_; clear hA hH; rintro _ w ⟨oN, rfl, hH⟩ a hA) | (refine AT ?_; clear hA; rintro _ w ⟨oN, cN, rfl, hH2⟩ a hA; clear hH; have hH := (hH2 _ (by (repeat constructor))).tail; clear hH2) | (refine S0T ?_; clear hH; rintro _ w hH) )) | ((first | refine CT ?_ | (refine DT ?_ ?_ <;> intro hc <;> try (exfalso; omega))) <;> repeat' refine CT ?_) | (first | (refine DSK ?_; clear hA a; intro a hA) | (first | (refine DLT ?_; clear hA hH; rintro _ w ⟨oN, rfl, hH⟩; refine ⟨STT, ?_⟩; intro a hA) | (refine DAT ?_; clear hA; rintro _ w ⟨oN, cN, rfl, hH2⟩; clear hH; have hH := (hH2 _ (by (repeat constructor))).tail; clear hH2; refine ⟨STT, ?_⟩; intro a hA))) )
      refine wp_lpk (S := Nat) (fun j a w => ∃ n, j ≤ bl.e.to.l.length ∧ HS w0 noM [cb b8 52 (encBl bl), cb b1 25 (encGs g)] w ∧ Sl 107 [(10, .int .i64 j), (8, .pointer (some (bat b8 0))), (7, .int .i64 k), (6, .int .i64 i), (5, .int .i64 n), (2, .pointer (some (bat b1 0))), (1, .int .i64 m)] a) (fun j => bl.e.to.l.length - j)
        (fun a w => ∃ n, HS w0 noM [cb b8 52 (encBl bl), cb b1 25 (encGs g)] w ∧ Sl 107 [(7, .int .i64 k), (6, .int .i64 i), (5, .int .i64 n), (2, .pointer (some (bat b1 0))), (1, .int .i64 m)] a) 0 ⟨_, Nat.zero_le _, hH, (hA.sub (by (repeat (first | exact trivial | refine ⟨rfl, ?_⟩))))⟩ ?_ ?_
      · clear hA hH
        rintro j a w ⟨n, hj, hH, hA⟩
        by_cases hltj : j < bl.e.to.l.length
        rotate_left
        · repeat' (first | (first | (refine GT ?_ ?_ <;> intro hg <;> clear hA a <;> intro a hA <;> (first | exact FA | replace hg := of_decide_eq_true hg | replace hg := of_decide_eq_false hg | skip)) | (refine QT ?_; clear hA a; intro a hA) | (first | (refine BT ?_; clear hA hH; rintro _ w ⟨bN, rfl, hH⟩ a hA) | (refine LT ?_; clear hA hH; rintro _ w ⟨oN, rfl, hH⟩ a hA) | (refine AT ?_; clear hA; rintro _ w ⟨oN, cN, rfl, hH2⟩ a hA; clear hH; have hH := (hH2 _ (by (repeat constructor))).tail; clear hH2) | (refine S0T ?_; clear hH; rintro _ w hH) )) | ((first | refine CT ?_ | (refine DT ?_ ?_ <;> intro hc <;> try (exfalso; omega))) <;> repeat' refine CT ?_) | (first | (refine DSK ?_; clear hA a; intro a hA) | (first | (refine DLT ?_; clear hA hH; rintro _ w ⟨oN, rfl, hH⟩; refine ⟨STT, ?_⟩; intro a hA) | (refine DAT ?_; clear hA; rintro _ w ⟨oN, cN, rfl, hH2⟩; clear hH; have hH := (hH2 _ (by (repeat constructor))).tail; clear hH2; refine ⟨STT, ?_⟩; intro a hA))) )
          all_goals exact ⟨_, hH, (hA.sub (by (repeat (first | exact trivial | refine ⟨rfl, ?_⟩))))⟩
        obtain ⟨t, ht⟩ : ∃ x, bl.e.to.l[j]? = some x := ⟨_, List.getElem?_eq_getElem hltj⟩
        have hva : (flat encEd bl.e.to.l)[j * 2 + 1]? = some (.slice t.a.o t.a.l.length t.a.c) := flat_get (off := 1) encEd_len ht rfl
        repeat' (first | (first | (refine GT ?_ ?_ <;> intro hg <;> clear hA a <;> intro a hA <;> (first | exact FA | replace hg := of_decide_eq_true hg | replace hg := of_decide_eq_false hg | skip)) | ((first | apply st_ex hA hH rfl rfl (by decide) | apply dr_ex hA rfl rfl rfl (by decide) | apply dr_exp hA rfl rfl rfl (by decide) | apply dr_ex3 hA hH rfl rfl rfl (by decide)); (first | (apply ex_load; rfl; exact cl_rd hbR.2.2.2.2.2.1.1 id hva) | (apply ex_succ; rfl; rfl; omega) | (apply ex_addW; rfl; rfl)); clear hA a; intro a hA) | (refine QT ?_; clear hA a; intro a hA) | (first | (refine BT ?_; clear hA hH; rintro _ w ⟨bN, rfl, hH⟩ a hA) | (refine LT ?_; clear hA hH; rintro _ w ⟨oN, rfl, hH⟩ a hA) | (refine AT ?_; clear hA; rintro _ w ⟨oN, cN, rfl, hH2⟩ a hA; clear hH; have hH := (hH2 _ (by (repeat constructor))).tail; clear hH2) | (refine S0T ?_; clear hH; rintro _ w hH) )) | ((first | refine CT ?_ | (refine DT ?_ ?_ <;> intro hc <;> try (exfalso; omega))) <;> repeat' refine CT ?_) | (first | (refine DSK ?_; clear hA a; intro a hA) | (first | (refine DLT ?_; clear hA hH; rintro _ w ⟨oN, rfl, hH⟩; refine ⟨STT, ?_⟩; intro a hA) | (refine DAT ?_; clear hA; rintro _ w ⟨oN, cN, rfl, hH2⟩; clear hH; have hH := (hH2 _ (by (repeat constructor))).tail; clear hH2; refine ⟨STT, ?_⟩; intro a hA))) )
        · exact ⟨j + 1, ⟨_, hltj, hH, (hA.sub (by (repeat (first | exact trivial | refine ⟨rfl, ?_⟩))))⟩, by omega⟩
        · exact ⟨_, hH, (hA.sub (by (repeat (first | exact trivial | refine ⟨rfl, ?_⟩))))⟩
      clear hA hH
      rintro a w ⟨n, hH, hA⟩
      repeat' (first | (first | (refine GT ?_ ?_ <;> intro hg <;> clear hA a <;> intro a hA <;> (first | exact FA | replace hg := of_decide_eq_true hg | replace hg := of_decide_eq_false hg | skip)) | (refine QT ?_; clear hA a; intro a hA) | (first | (refine BT ?_; clear hA hH; rintro _ w ⟨bN, rfl, hH⟩ a hA) | (refine LT ?_; clear hA hH; rintro _ w ⟨oN, rfl, hH⟩ a hA) | (refine AT ?_; clear hA; rintro _ w ⟨oN, cN, rfl, hH2⟩ a hA; clear hH; have hH := (hH2 _ (by (repeat constructor))).tail; clear hH2) | (refine S0T ?_; clear hH; rintro _ w hH) )) | ((first | refine CT ?_ | (refine DT ?_ ?_ <;> intro hc <;> try (exfalso; omega))) <;> repeat' refine CT ?_) | (first | (refine DSK ?_; clear hA a; intro a hA) | (first | (refine DLT ?_; clear hA hH; rintro _ w ⟨oN, rfl, hH⟩; refine ⟨STT, ?_⟩; intro a hA) | (refine DAT ?_; clear hA; rintro _ w ⟨oN, cN, rfl, hH2⟩; clear hH; have hH := (hH2 _ (by (repeat constructor))).tail; clear hH2; refine ⟨STT, ?_⟩; intro a hA))) )
      exact ⟨k + 1, ⟨_, hltk, hH.tail, (hA.sub (by (repeat (first | exact trivial | refine ⟨rfl, ?_⟩))))⟩, by omega⟩
    clear hA hH
    rintro a w ⟨n, hH, hA⟩
    repeat' (first | (first | (refine GT ?_ ?_ <;> intro hg <;> clear hA a <;> intro a hA <;> (first | exact FA | replace hg := of_decide_eq_true hg | replace hg := of_decide_eq_false hg | skip)) | (refine QT ?_; clear hA a; intro a hA) | (first | (refine BT ?_; clear hA hH; rintro _ w ⟨bN, rfl, hH⟩ a hA) | (refine LT ?_; clear hA hH; rintro _ w ⟨oN, rfl, hH⟩ a hA) | (refine AT ?_; clear hA; rintro _ w ⟨oN, cN, rfl, hH2⟩ a hA; clear hH; have hH := (hH2 _ (by (repeat constructor))).tail; clear hH2) | (refine S0T ?_; clear hH; rintro _ w hH) )) | ((first | refine CT ?_ | (refine DT ?_ ?_ <;> intro hc <;> try (exfalso; omega))) <;> repeat' refine CT ?_) | (first | (refine DSK ?_; clear hA a; intro a hA) | (first | (refine DLT ?_; clear hA hH; rintro _ w ⟨oN, rfl, hH⟩; refine ⟨STT, ?_⟩; intro a hA) | (refine DAT ?_; clear hA; rintro _ w ⟨oN, cN, rfl, hH2⟩; clear hH; have hH := (hH2 _ (by (repeat constructor))).tail; clear hH2; refine ⟨STT, ?_⟩; intro a hA))) )
    exact ⟨i + 1, ⟨_, hlt, hH, (hA.sub (by (repeat (first | exact trivial | refine ⟨rfl, ?_⟩))))⟩, by omega⟩
  clear hA hH
  rintro a w ⟨n, hH, hA⟩
  repeat' (first | (first | (refine GT ?_ ?_ <;> intro hg <;> clear hA a <;> intro a hA <;> (first | exact FA | replace hg := of_decide_eq_true hg | replace hg := of_decide_eq_false hg | skip)) | (refine QT ?_; clear hA a; intro a hA) | (first | (refine BT ?_; clear hA hH; rintro _ w ⟨bN, rfl, hH⟩ a hA) | (refine LT ?_; clear hA hH; rintro _ w ⟨oN, rfl, hH⟩ a hA) | (refine AT ?_; clear hA; rintro _ w ⟨oN, cN, rfl, hH2⟩ a hA; clear hH; have hH := (hH2 _ (by (repeat constructor))).tail; clear hH2) | (refine S0T ?_; clear hH; rintro _ w hH) )) | ((first | refine CT ?_ | (refine DT ?_ ?_ <;> intro hc <;> try (exfalso; omega))) <;> repeat' refine CT ?_) | (first | (refine DSK ?_; clear hA a; intro a hA) | (first | (refine DLT ?_; clear hA hH; rintro _ w ⟨oN, rfl, hH⟩; refine ⟨STT, ?_⟩; intro a hA) | (refine DAT ?_; clear hA; rintro _ w ⟨oN, cN, rfl, hH2⟩; clear hH; have hH := (hH2 _ (by (repeat constructor))).tail; clear hH2; refine ⟨STT, ?_⟩; intro a hA))) )
  exact rt1 (.inl rfl) rfl hA rfl ⟨_, rfl, hH.kp⟩
end Go.Proofs.Ytjfanjcoppeeaaa
namespace Go.Proofs.Ytjfanjcoppeeaaa
open Go Go.Fw
set_option linter.unusedVariables false
/-- a place: what is bound, what lives with it, whether a block begins there -/
structure Pl where
  bs : List Int
  ks : List Int
  b : Bool
/-- what a function that is called at each place does to what it keeps -/
def AtOk {S : Type} (w0 : World) (gf : Nat) (cap : Array Value) (inv : S → It) (at_ : S → Pl → Option S) : Prop :=
  ∀ (HH : List It) (s : S) (st : Option (Nat × List Int)) (o : Option Addr) (c : Nat) (bs : List Int) (b : Bool) (w : World), HS w0 noM (inv s :: sko st :: HH) w → (∀ w', HS w0 noM HH w' → Rd w' o (flat Fw.encI bs)) → Sp o bs.length → bs.length ≤ 1000000 → (kso st).length ≤ 1000000 →
    Ret Try.prog gf (#[.slice o bs.length c, mvO st, .bool b] ++ cap) w (fun r w' => (∃ s', at_ s ⟨bs, kso st, b⟩ = some s' ∧ r = .bool true ∧ HS w0 noM (inv s' :: sko st :: HH) w') ∨ (at_ s ⟨bs, kso st, b⟩ = none ∧ r = .bool false ∧ HS w0 noM HH w'))
theorem cl_x {w0 : World} {H HH : List It} {o : Option Addr} {xs : List Value} {j : Nat} {v : Value} (hB : ∀ w', HS w0 noM HH w' → Rd w' o xs) (hs : ∀ w', HS w0 noM H w' → HS w0 noM HH w') (hv : xs[j]? = some v) : Cl (HS w0 noM H) (sat o j) v :=
  fun w hH => (cl_rd (w0 := w) (M := noM) (H := []) (hB w (hs w hH)) id hv) w (HS.init w noM)
/-- the register of a variable -/
def rgM (m : List (Int × Int)) (x : Int) : Int := (lkI m x).getD 0
theorem rgM_eq (m : List (Int × Int)) (x : Int) : (lkI m x).getD 0 = rgM m x := rfl
/-- registers are right at a place -/
def okPl (m : List (Int × Int)) (p : Pl) : Prop := (p.b = true → (p.ks.map (rgM m)).Nodup) ∧ (p.bs.map (rgM m)).Nodup ∧ ∀ x ∈ p.bs, rgM m x ∉ p.ks.map (rgM m)
open Classical in
noncomputable def atR (m : List (Int × Int)) (_ : Unit) (p : Pl) : Option Unit := if okPl m p then some () else none
theorem tk_add {f : Int → Int} {l : List Int} {x : Int} {tk : List Int} (h : ∀ y, y ∈ tk ↔ y ∈ l.map f) (y : Int) : y ∈ sadd tk (f x) ↔ y ∈ (l ++ [x]).map f := by
  rw [mem_sadd, h, List.map_append, List.mem_append]
  exact or_congr Iff.rfl (by simp)
theorem nodup_add {f : Int → Int} {l : List Int} {x : Int} (h : (l.map f).Nodup) (hx : f x ∉ l.map f) : ((l ++ [x]).map f).Nodup := by
  rw [List.map_append]
  refine List.nodup_append.2 ⟨h, List.nodup_cons.2 ⟨List.not_mem_nil, List.nodup_nil⟩, fun a ha b hb => ?_⟩
  rw [List.map_cons, List.map_nil, List.mem_singleton] at hb
  subst hb
  exact fun e => hx (e ▸ ha)
theorem nodup_map_ne {f : Int → Int} : ∀ {m : List Int}, (m.map f).Nodup → ∀ {x y : Int}, y ∈ m → x ∈ m → y ≠ x → f y ≠ f x
  | z :: m, h, x, y, hy, hx, hne, he => by
    rw [List.map_cons, List.nodup_cons] at h
    rcases List.mem_cons.1 hy with h1 | h1 <;> rcases List.mem_cons.1 hx with h2 | h2
    · exact hne (h1.trans h2.symm)
    · exact h.1 (h1 ▸ he ▸ List.mem_map_of_mem h2)
    · exact h.1 (h2 ▸ he ▸ List.mem_map_of_mem h1)
    · exact nodup_map_ne h.2 h1 h2 hne he
theorem nodup_pre {f : Int → Int} {l : List Int} {x : Int} {m : List Int} (h : (m.map f).Nodup) (hl : l.Nodup) (hs : ∀ y ∈ l, y ∈ m) (hm : x ∈ m) (hx : x ∉ l) : f x ∉ l.map f := by
  intro hc
  obtain ⟨y, hy, he⟩ := List.mem_map.1 hc
  have hne : y ≠ x := fun e => hx (e ▸ hy)
  have := nodup_map_ne h (hs y hy) hm hne
  exact this he
theorem dn_at {el dn : List (Int × Nat)} {ks : List Int} (hel : el.map (·.1) = ks) (hk : (el.map (·.1)).Nodup) (hd : ∀ e ∈ dn, e ∈ el) {e : Int × Nat} (he : e ∈ el) (hs : e ∉ dn) : e.1 ∈ ks ∧ e.1 ∉ dn.map (·.1) := by
  refine ⟨hel ▸ List.mem_map.2 ⟨e, he, rfl⟩, fun h => ?_⟩
  obtain ⟨e', he', h2⟩ := List.mem_map.1 h
  exact hs (fst_inj hk e' (hd e' he') e he h2 ▸ he')
theorem dn_perm {el dn : List (Int × Nat)} {ks : List Int} (hel : el.map (·.1) = ks) (hk : (el.map (·.1)).Nodup) (hn : dn.Nodup) (hd : ∀ e ∈ dn, e ∈ el) (hall : ∀ e ∈ el, e ∈ dn) : (dn.map (·.1)).Perm ks := by
  have h1 := dn_nodup hk hn hd
  have h2 := dn_mem hel hd hall
  exact (List.perm_ext_iff_of_nodup h1 (hel ▸ hk)).2 h2
/-- at a place's set: none met twice -/
theorem dn_bad {m : List (Int × Int)} {el dn : List (Int × Nat)} {ks bs tk : List Int} {b : Bool} (hel : el.map (·.1) = ks) (hk : (el.map (·.1)).Nodup) (hn : dn.Nodup) (hd : ∀ e ∈ dn, e ∈ el) {e : Int × Nat} (he : e ∈ el) (hs : e ∉ dn) (hb : b = true)
    (htk : ∀ y, y ∈ tk ↔ y ∈ (dn.map (·.1)).map (rgM m)) (hx : rgM m e.1 ∈ tk) : atR m () ⟨bs, ks, b⟩ = none := by
  unfold atR
  rw [if_neg]
  intro ⟨h1, _, _⟩
  have h3 := dn_at hel hk hd he hs
  exact nodup_pre (h1 hb) (dn_nodup hk hn hd) (fun y hy => by obtain ⟨e', he', rfl⟩ := List.mem_map.1 hy; exact hel ▸ List.mem_map.2 ⟨e', hd e' he', rfl⟩) h3.1 h3.2 ((htk _).1 hx)
theorem at_bad {m : List (Int × Int)} {ks bs tk : List Int} {b : Bool} {i : Nat} {x : Int} (hx : bs[i]? = some x) (htk : ∀ y, y ∈ tk ↔ y ∈ ks.map (rgM m) ∨ y ∈ (bs.take i).map (rgM m)) (hc : rgM m x ∈ tk) : atR m () ⟨bs, ks, b⟩ = none := by
  unfold atR
  rw [if_neg]
  intro ⟨_, h2, h3⟩
  rcases (htk _).1 hc with h | h
  · exact h3 x (List.mem_of_getElem? hx) h
  · have e1 : bs.take (i + 1) = bs.take i ++ [x] := take_snoc hx
    have h4 : ((bs.take (i + 1)).map (rgM m)).Nodup := by
      have := List.Nodup.sublist (l₁ := (bs.take (i + 1)).map (rgM m)) ((List.take_sublist _ _).map _) h2
      exact this
    rw [e1, List.map_append] at h4
    exact (List.nodup_append.1 h4).2.2 _ h _ (by simp) rfl
theorem at_good {m : List (Int × Int)} {ks bs : List Int} {b : Bool} (h1 : b = true → (ks.map (rgM m)).Nodup) (h2 : (bs.map (rgM m)).Nodup) (h3 : ∀ x ∈ bs, rgM m x ∉ ks.map (rgM m)) : atR m () ⟨bs, ks, b⟩ = some () := by
  unfold atR
  rw [if_pos ⟨h1, h2, h3⟩]
theorem b_no {b : Bool} {p : Prop} (h : b = true) (h2 : b = false) : p := by rw [h] at h2; cases h2
theorem tk_dn {f : Int → Int} {dn : List (Int × Nat)} {e : Int × Nat} {tk : List Int} (h : ∀ y, y ∈ tk ↔ y ∈ (dn.map (·.1)).map f) (y : Int) : y ∈ sadd tk (f e.1) ↔ y ∈ ((dn ++ [e]).map (·.1)).map f := by
  rw [List.map_append]
  exact tk_add h y
theorem nd_dn {f : Int → Int} {dn : List (Int × Nat)} {e : Int × Nat} (h : ((dn.map (·.1)).map f).Nodup) (hx : f e.1 ∉ (dn.map (·.1)).map f) : (((dn ++ [e]).map (·.1)).map f).Nodup := by
  rw [List.map_append]
  exact nodup_add h hx
theorem tk_bs {f : Int → Int} {ks bs : List Int} {i : Nat} {x : Int} {tk : List Int} (hx : bs[i]? = some x) (h : ∀ y, y ∈ tk ↔ y ∈ ks.map f ∨ y ∈ (bs.take i).map f) (y : Int) : y ∈ sadd tk (f x) ↔ y ∈ ks.map f ∨ y ∈ (bs.take (i + 1)).map f := by
  rw [mem_sadd, h, take_snoc hx, List.map_append, List.mem_append, or_assoc]
  exact or_congr Iff.rfl (or_congr Iff.rfl (by simp))
set_option maxRecDepth 10000 attribute [local irreducible] Code.wp wpList Calls Ex Op1 sat bat blk cb own Go.Fw.mp Go.Fw.mpO Go.Fw.mpI Go.Fw.mpE Go.Fw.itr HS Rd Ret wkD Hp Cl Cls Exit.then Exit.inBlock Exit.noGoto bodyPost Go.Fw.flat wk2 Go.Fw.all Go.Fw.owns wpOp
attribute [local irreducible] sk mpK srt sko itS mpS mvO rgM atR

set_option maxHeartbeats 4000000 in
theorem atR_spec (w0 : World) (bR mR : Nat) (m : List (Int × Int)) : AtOk w0 23 #[.pointer (some (bat bR 0))] (fun _ : Unit => all [cb bR 67 [.map (some mR)], mpI mR m]) (atR m) := by
  intro HH s st o c bs b w hH hB hsp hbl hkl
  have hH := hH.open_
  show Ret _ _ #[.slice o bs.length c, mvO st, .bool b, .pointer (some (bat bR 0))] _ _
  (refine enter (N := 47) Try.func23 rfl Try.ntmps23 rfl ?_; intro a hA; dsimp only [sl0, Nat.reduceAdd] at hA)
  repeat' (first | (first | (refine GT ?_ ?_ <;> intro hg <;> clear hA a <;> intro a hA <;> (first | exact FA | replace hg := of_decide_eq_true hg | replace hg := of_decide_eq_false hg | skip)) | (refine QT ?_; clear hA a; intro a hA) | (first | (refine BT ?_; clear hA hH; rintro _ w ⟨bN, rfl, hH⟩ a hA) | (refine LT ?_; clear hA hH; rintro _ w ⟨oN, rfl, hH⟩ a hA) | (refine AT ?_; clear hA; rintro _ w ⟨oN, cN, rfl, hH2⟩ a hA; clear hH; have hH := (hH2 _ (by (repeat constructor))).tail; clear hH2) | (refine S0T ?_; clear hH; rintro _ w hH) | (refine st_op hA rfl rfl (by decide) (op_makeMapK hH) ?_; clear hA hH; rintro _ w ⟨bT, rfl, hH⟩ a hA))) | ((first | refine CT ?_ | (refine DT ?_ ?_ <;> intro hc <;> try (exfalso; omega))) <;> repeat' refine CT ?_) | (first | (refine DSK ?_; clear hA a; intro a hA) | (first | (refine DLT ?_; clear hA hH; rintro _ w ⟨oN, rfl, hH⟩; refine ⟨STT, ?_⟩; intro a hA) | (refine DAT ?_; clear hA; rintro _ w ⟨oN, cN, rfl, hH2⟩; clear hH; have hH := (hH2 _ (by (repeat constructor))).tail; clear hH2; refine ⟨STT, ?_⟩; intro a hA))) )
  obtain ⟨el, clock, hel, hok, hop⟩ := HS.openS (st := st) hH (by exact MEMT)
  replace hH := hop _ (by (repeat constructor))
  clear hop
  have hell : el.length = (kso st).length := by rw [← hel, List.length_map]
  (refine st_op hA rfl rfl (by decide) (op_rangeS (st := st) rfl hH (by exact MEMT)) ?_; clear hA hH; rintro _ w ⟨r, rfl, hH⟩ a hA)
  repeat' (first | (first | (refine GT ?_ ?_ <;> intro hg <;> clear hA a <;> intro a hA <;> (first | exact FA | replace hg := of_decide_eq_true hg | replace hg := of_decide_eq_false hg | skip)) | (refine QT ?_; clear hA a; intro a hA) | (first | (refine BT ?_; clear hA hH; rintro _ w ⟨bN, rfl, hH⟩ a hA) | (refine LT ?_; clear hA hH; rintro _ w ⟨oN, rfl, hH⟩ a hA) | (refine AT ?_; clear hA; rintro _ w ⟨oN, cN, rfl, hH2⟩ a hA; clear hH; have hH := (hH2 _ (by (repeat constructor))).tail; clear hH2) | (refine S0T ?_; clear hH; rintro _ w hH) )) | ((first | refine CT ?_ | (refine DT ?_ ?_ <;> intro hc <;> try (exfalso; omega))) <;> repeat' refine CT ?_) | (first | (refine DSK ?_; clear hA a; intro a hA) | (first | (refine DLT ?_; clear hA hH; rintro _ w ⟨oN, rfl, hH⟩; refine ⟨STT, ?_⟩; intro a hA) | (refine DAT ?_; clear hA; rintro _ w ⟨oN, cN, rfl, hH2⟩; clear hH; have hH := (hH2 _ (by (repeat constructor))).tail; clear hH2; refine ⟨STT, ?_⟩; intro a hA))) )
  refine wp_lpk (S := List (Int × Nat)) (fun dn a w => ∃ tk, (dn.Nodup ∧ (∀ e ∈ dn, e ∈ el) ∧ (∀ y, y ∈ tk ↔ y ∈ (dn.map (·.1)).map (rgM m)) ∧ (b = true → ((dn.map (·.1)).map (rgM m)).Nodup)) ∧ HS w0 noM (sk bT tk :: itS r st clock dn :: mpS st el clock :: cb bR 67 [.map (some mR)] :: mpI mR m :: HH) w ∧
      Sl 47 [(14, .pointer (some (bat r 0))), (8, .map (some bT)), (0, .slice o bs.length c), (2, .bool b), (3, .pointer (some (bat bR 0)))] a) (fun dn => el.length - dn.length)
    (fun a w => ∃ tk, ((∀ y, y ∈ tk ↔ y ∈ (kso st).map (rgM m)) ∧ (b = true → ((kso st).map (rgM m)).Nodup)) ∧ HS w0 noM (sk bT tk :: sko st :: cb bR 67 [.map (some mR)] :: mpI mR m :: HH) w ∧
      Sl 47 [(8, .map (some bT)), (0, .slice o bs.length c), (3, .pointer (some (bat bR 0)))] a) [] ⟨[], ⟨List.nodup_nil, fun e he => absurd he List.not_mem_nil, fun y => Iff.rfl, fun _ => List.nodup_nil⟩, hH.perm (by (repeat (first | exact List.Perm.refl _ | exact List.Perm.nil | refine perm_pick 0 rfl ?_ | refine perm_pick 1 rfl ?_ | refine perm_pick 2 rfl ?_ | refine perm_pick 3 rfl ?_ | refine perm_pick 4 rfl ?_ | refine perm_pick 5 rfl ?_ | refine perm_pick 6 rfl ?_ | refine perm_pick 7 rfl ?_ | refine perm_pick 8 rfl ?_ | refine perm_pick 9 rfl ?_ | refine perm_pick 10 rfl ?_ | refine perm_pick 11 rfl ?_))), (hA.sub (by (repeat (first | exact trivial | refine ⟨rfl, ?_⟩))))⟩ ?_ ?_
  · clear hA hH
    rintro dn a w ⟨tk, ⟨hn, hd, htk, hnd⟩, hH, hA⟩
    repeat' (first | (first | (refine GT ?_ ?_ <;> intro hg <;> clear hA a <;> intro a hA <;> (first | exact FA | replace hg := of_decide_eq_true hg | replace hg := of_decide_eq_false hg | skip)) | (refine QT ?_; clear hA a; intro a hA) | (first | (refine BT ?_; clear hA hH; rintro _ w ⟨bN, rfl, hH⟩ a hA) | (refine LT ?_; clear hA hH; rintro _ w ⟨oN, rfl, hH⟩ a hA) | (refine AT ?_; clear hA; rintro _ w ⟨oN, cN, rfl, hH2⟩ a hA; clear hH; have hH := (hH2 _ (by (repeat constructor))).tail; clear hH2) | (refine S0T ?_; clear hH; rintro _ w hH) )) | ((first | refine CT ?_ | (refine DT ?_ ?_ <;> intro hc <;> try (exfalso; omega))) <;> repeat' refine CT ?_) | (first | (refine DSK ?_; clear hA a; intro a hA) | (first | (refine DLT ?_; clear hA hH; rintro _ w ⟨oN, rfl, hH⟩; refine ⟨STT, ?_⟩; intro a hA) | (refine DAT ?_; clear hA; rintro _ w ⟨oN, cN, rfl, hH2⟩; clear hH; have hH := (hH2 _ (by (repeat constructor))).tail; clear hH2; refine ⟨STT, ?_⟩; intro a hA))) )
    refine st_op hA rfl rfl (by decide) (op_nextS (st := st) rfl hH (by exact MEMT) (by exact MEMT) hel hok hd) ?_
    clear hA
    rintro _ w2 (⟨hall, rfl, hH⟩ | ⟨e, he, hs, rfl, hup⟩) a hA
    · repeat' (first | (first | (refine GT ?_ ?_ <;> intro hg <;> clear hA a <;> intro a hA <;> (first | exact FA | replace hg := of_decide_eq_true hg | replace hg := of_decide_eq_false hg | skip)) | (refine QT ?_; clear hA a; intro a hA) | (first | (refine BT ?_; clear hA hH; rintro _ w ⟨bN, rfl, hH⟩ a hA) | (refine LT ?_; clear hA hH; rintro _ w ⟨oN, rfl, hH⟩ a hA) | (refine AT ?_; clear hA; rintro _ w ⟨oN, cN, rfl, hH2⟩ a hA; clear hH; have hH := (hH2 _ (by (repeat constructor))).tail; clear hH2) | (refine S0T ?_; clear hH; rintro _ w hH) )) | ((first | refine CT ?_ | (refine DT ?_ ?_ <;> intro hc <;> try (exfalso; omega))) <;> repeat' refine CT ?_) | (first | (refine DSK ?_; clear hA a; intro a hA) | (first | (refine DLT ?_; clear hA hH; rintro _ w ⟨oN, rfl, hH⟩; refine ⟨STT, ?_⟩; intro a hA) | (refine DAT ?_; clear hA; rintro _ w ⟨oN, cN, rfl, hH2⟩; clear hH; have hH := (hH2 _ (by (repeat constructor))).tail; clear hH2; refine ⟨STT, ?_⟩; intro a hA))) )
      replace hH := HS.shutS (st := st) hH hel hok (by (repeat constructor))
      have hp := (dn_perm hel hok.keys hn hd hall).map (rgM m)
      exact ⟨tk, ⟨fun y => (htk y).trans hp.mem_iff, fun h => hp.nodup_iff.1 (hnd h)⟩, hH.rm 1, (hA.sub (by (repeat (first | exact trivial | refine ⟨rfl, ?_⟩))))⟩
    · have hlt := done_lt hn hd he hs
      clear hH
      have hH := hup _ (by (repeat constructor))
      clear hup
      have ha := dn_add (ks := []) (ks' := dn.map (·.1)) hn hd he hs (fun x => by simp)
      repeat' (first | (first | (refine GT ?_ ?_ <;> intro hg <;> clear hA a <;> intro a hA <;> (first | exact FA | replace hg := of_decide_eq_true hg | replace hg := of_decide_eq_false hg | skip)) | ((first | apply st_ex hA hH rfl rfl (by decide) | apply dr_ex hA rfl rfl rfl (by decide) | apply dr_exp hA rfl rfl rfl (by decide) | apply dr_ex3 hA hH rfl rfl rfl (by decide)); (first | (apply ex_entryS (st := st); rfl; exact MEMT; exact MEMT; exact hel; exact hok; exact he) | (apply ex_hasK; rfl; rfl; exact MEMT)); clear hA a; intro a hA) | (refine QT ?_; clear hA a; intro a hA) | (first | (refine BT ?_; clear hA hH; rintro _ w ⟨bN, rfl, hH⟩ a hA) | (refine LT ?_; clear hA hH; rintro _ w ⟨oN, rfl, hH⟩ a hA) | (refine AT ?_; clear hA; rintro _ w ⟨oN, cN, rfl, hH2⟩ a hA; clear hH; have hH := (hH2 _ (by (repeat constructor))).tail; clear hH2) | (refine S0T ?_; clear hH; rintro _ w hH) | (apply st_op0 hA rfl rfl; apply op_addK; rfl; rfl; rfl; exact hH; (repeat constructor); clear hH; rintro _ w hH))) | ((first | refine CT ?_ | (refine DT ?_ ?_ <;> intro hc <;> try (exfalso; omega))) <;> repeat' refine CT ?_) | (first | (refine DSK ?_; clear hA a; intro a hA) | (first | (refine DLT ?_; clear hA hH; rintro _ w ⟨oN, rfl, hH⟩; refine ⟨STT, ?_⟩; intro a hA) | (refine DAT ?_; clear hA; rintro _ w ⟨oN, cN, rfl, hH2⟩; clear hH; have hH := (hH2 _ (by (repeat constructor))).tail; clear hH2; refine ⟨STT, ?_⟩; intro a hA))) )
      · rw [rgM_eq] at *
        exact rt1 (.inl rfl) rfl hA rfl (.inr ⟨dn_bad hel hok.keys hn hd he hs (by assumption) htk (by assumption), rfl, hH.tail.tail.tail.tail.tail⟩)
      · have hl : (dn ++ [e]).length = dn.length + 1 := by rw [List.length_append]; rfl
        rw [rgM_eq] at *
        exact ⟨dn ++ [e], ⟨_, ⟨ha.1, ha.2.1, tk_dn htk, fun h => nd_dn (hnd h) fun hc => (by assumption : ¬ rgM m e.1 ∈ tk) ((htk _).2 hc)⟩, hH, (hA.sub (by (repeat (first | exact trivial | refine ⟨rfl, ?_⟩))))⟩, by omega⟩
      · have hl : (dn ++ [e]).length = dn.length + 1 := by rw [List.length_append]; rfl
        rw [rgM_eq] at *
        exact ⟨dn ++ [e], ⟨_, ⟨ha.1, ha.2.1, tk_dn htk, fun h => b_no h (by assumption)⟩, hH, (hA.sub (by (repeat (first | exact trivial | refine ⟨rfl, ?_⟩))))⟩, by omega⟩
  clear hA hH
  rintro a w ⟨tk, ⟨htk, hnd⟩, hH, hA⟩
  repeat' (first | (first | (refine GT ?_ ?_ <;> intro hg <;> clear hA a <;> intro a hA <;> (first | exact FA | replace hg := of_decide_eq_true hg | replace hg := of_decide_eq_false hg | skip)) | (refine QT ?_; clear hA a; intro a hA) | (first | (refine BT ?_; clear hA hH; rintro _ w ⟨bN, rfl, hH⟩ a hA) | (refine LT ?_; clear hA hH; rintro _ w ⟨oN, rfl, hH⟩ a hA) | (refine AT ?_; clear hA; rintro _ w ⟨oN, cN, rfl, hH2⟩ a hA; clear hH; have hH := (hH2 _ (by (repeat constructor))).tail; clear hH2) | (refine S0T ?_; clear hH; rintro _ w hH) )) | ((first | refine CT ?_ | (refine DT ?_ ?_ <;> intro hc <;> try (exfalso; omega))) <;> repeat' refine CT ?_) | (first | (refine DSK ?_; clear hA a; intro a hA) | (first | (refine DLT ?_; clear hA hH; rintro _ w ⟨oN, rfl, hH⟩; refine ⟨STT, ?_⟩; intro a hA) | (refine DAT ?_; clear hA; rintro _ w ⟨oN, cN, rfl, hH2⟩; clear hH; have hH := (hH2 _ (by (repeat constructor))).tail; clear hH2; refine ⟨STT, ?_⟩; intro a hA))) )
  refine wp_lpk (S := Nat) (fun i a w => ∃ tk, (i ≤ bs.length ∧ (∀ y, y ∈ tk ↔ y ∈ (kso st).map (rgM m) ∨ y ∈ (bs.take i).map (rgM m)) ∧ ((bs.take i).map (rgM m)).Nodup ∧ ∀ x ∈ bs.take i, rgM m x ∉ (kso st).map (rgM m)) ∧ HS w0 noM (sk bT tk :: sko st :: cb bR 67 [.map (some mR)] :: mpI mR m :: HH) w ∧
      Sl 47 [(33, .int .i64 i), (32, .int .i64 bs.length), (31, .slice o bs.length c), (8, .map (some bT)), (3, .pointer (some (bat bR 0)))] a) (fun i => bs.length - i)
    (fun a w => ((bs.map (rgM m)).Nodup ∧ ∀ x ∈ bs, rgM m x ∉ (kso st).map (rgM m)) ∧ HS w0 noM (sko st :: cb bR 67 [.map (some mR)] :: mpI mR m :: HH) w ∧ Sl 47 [] a) 0 ⟨tk, ⟨Nat.zero_le _, fun y => by simp [htk], List.nodup_nil, fun x hx => absurd hx List.not_mem_nil⟩, hH, (hA.sub (by (repeat (first | exact trivial | refine ⟨rfl, ?_⟩))))⟩ ?_ ?_
  · clear hA hH htk
    rintro i a w ⟨tk, ⟨hi, htk, hn2, hn3⟩, hH, hA⟩
    by_cases hlt : i < bs.length
    rotate_left
    · obtain rfl : i = bs.length := by omega
      rw [List.take_length] at hn2 hn3
      repeat' (first | (first | (refine GT ?_ ?_ <;> intro hg <;> clear hA a <;> intro a hA <;> (first | exact FA | replace hg := of_decide_eq_true hg | replace hg := of_decide_eq_false hg | skip)) | (refine QT ?_; clear hA a; intro a hA) | (first | (refine BT ?_; clear hA hH; rintro _ w ⟨bN, rfl, hH⟩ a hA) | (refine LT ?_; clear hA hH; rintro _ w ⟨oN, rfl, hH⟩ a hA) | (refine AT ?_; clear hA; rintro _ w ⟨oN, cN, rfl, hH2⟩ a hA; clear hH; have hH := (hH2 _ (by (repeat constructor))).tail; clear hH2) | (refine S0T ?_; clear hH; rintro _ w hH) )) | ((first | refine CT ?_ | (refine DT ?_ ?_ <;> intro hc <;> try (exfalso; omega))) <;> repeat' refine CT ?_) | (first | (refine DSK ?_; clear hA a; intro a hA) | (first | (refine DLT ?_; clear hA hH; rintro _ w ⟨oN, rfl, hH⟩; refine ⟨STT, ?_⟩; intro a hA) | (refine DAT ?_; clear hA; rintro _ w ⟨oN, cN, rfl, hH2⟩; clear hH; have hH := (hH2 _ (by (repeat constructor))).tail; clear hH2; refine ⟨STT, ?_⟩; intro a hA))) )
      exact ⟨⟨hn2, hn3⟩, hH.tail, (hA.sub (by (repeat (first | exact trivial | refine ⟨rfl, ?_⟩))))⟩
    obtain ⟨x, hx⟩ : ∃ x, bs[i]? = some x := ⟨_, List.getElem?_eq_getElem hlt⟩
    have hv : (flat Fw.encI bs)[i * 1]? = some (.int .i64 x) := flat_get (off := 0) Fw.encI_len hx rfl
    repeat' (first | (first | (refine GT ?_ ?_ <;> intro hg <;> clear hA a <;> intro a hA <;> (first | exact FA | replace hg := of_decide_eq_true hg | replace hg := of_decide_eq_false hg | skip)) | ((first | apply st_ex hA hH rfl rfl (by decide) | apply dr_ex hA rfl rfl rfl (by decide) | apply dr_exp hA rfl rfl rfl (by decide) | apply dr_ex3 hA hH rfl rfl rfl (by decide)); (first | (apply ex_hasK; rfl; rfl; exact MEMT) | (apply ex_indexAddr_nat; rfl; rfl; omega; exact hsp) | (apply ex_load; rfl; exact cl_x hB (fun w h => h.tail.tail.tail.tail) hv)); clear hA a; intro a hA) | (refine QT ?_; clear hA a; intro a hA) | (first | (refine BT ?_; clear hA hH; rintro _ w ⟨bN, rfl, hH⟩ a hA) | (refine LT ?_; clear hA hH; rintro _ w ⟨oN, rfl, hH⟩ a hA) | (refine AT ?_; clear hA; rintro _ w ⟨oN, cN, rfl, hH2⟩ a hA; clear hH; have hH := (hH2 _ (by (repeat constructor))).tail; clear hH2) | (refine S0T ?_; clear hH; rintro _ w hH) | (apply st_op0 hA rfl rfl; apply op_addK; rfl; rfl; rfl; exact hH; (repeat constructor); clear hH; rintro _ w hH))) | ((first | refine CT ?_ | (refine DT ?_ ?_ <;> intro hc <;> try (exfalso; omega))) <;> repeat' refine CT ?_) | (first | (refine DSK ?_; clear hA a; intro a hA) | (first | (refine DLT ?_; clear hA hH; rintro _ w ⟨oN, rfl, hH⟩; refine ⟨STT, ?_⟩; intro a hA) | (refine DAT ?_; clear hA; rintro _ w ⟨oN, cN, rfl, hH2⟩; clear hH; have hH := (hH2 _ (by (repeat constructor))).tail; clear hH2; refine ⟨STT, ?_⟩; intro a hA))) )
    · rw [rgM_eq] at *
      exact rt1 (.inl rfl) rfl hA rfl (.inr ⟨at_bad hx htk (by assumption), rfl, hH.tail.tail.tail.tail⟩)
    · rw [rgM_eq] at *
      have hnx : ¬ rgM m x ∈ tk := by assumption
      rw [htk, not_or] at hnx
      refine ⟨i + 1, ⟨_, ⟨hlt, tk_bs hx htk, nd_next hx hn2 hnx.2, fun y hy => ?_⟩, hH, (hA.sub (by (repeat (first | exact trivial | refine ⟨rfl, ?_⟩))))⟩, by omega⟩
      rw [take_snoc hx] at hy
      rcases List.mem_append.1 hy with h | h
      · exact hn3 y h
      · rw [List.mem_singleton] at h
        exact h ▸ hnx.1
  clear hA hH htk
  rintro a w ⟨⟨hn2, hn3⟩, hH, hA⟩
  repeat' (first | (first | (refine GT ?_ ?_ <;> intro hg <;> clear hA a <;> intro a hA <;> (first | exact FA | replace hg := of_decide_eq_true hg | replace hg := of_decide_eq_false hg | skip)) | (refine QT ?_; clear hA a; intro a hA) | (first | (refine BT ?_; clear hA hH; rintro _ w ⟨bN, rfl, hH⟩ a hA) | (refine LT ?_; clear hA hH; rintro _ w ⟨oN, rfl, hH⟩ a hA) | (refine AT ?_; clear hA; rintro _ w ⟨oN, cN, rfl, hH2⟩ a hA; clear hH; have hH := (hH2 _ (by (repeat constructor))).tail; clear hH2) | (refine S0T ?_; clear hH; rintro _ w hH) )) | ((first | refine CT ?_ | (refine DT ?_ ?_ <;> intro hc <;> try (exfalso; omega))) <;> repeat' refine CT ?_) | (first | (refine DSK ?_; clear hA a; intro a hA) | (first | (refine DLT ?_; clear hA hH; rintro _ w ⟨oN, rfl, hH⟩; refine ⟨STT, ?_⟩; intro a hA) | (refine DAT ?_; clear hA; rintro _ w ⟨oN, cN, rfl, hH2⟩; clear hH; have hH := (hH2 _ (by (repeat constructor))).tail; clear hH2; refine ⟨STT, ?_⟩; intro a hA))) )
  exact rt1 (.inl rfl) rfl hA rfl (.inl ⟨(), at_good hnd hn2 hn3, rfl, HS.shut (L := [_, _]) ((hH.up 2 rfl).up 2 rfl)⟩)
end Go.Proofs.Ytjfanjcoppeeaaa
namespace Go.Proofs.Ytjfanjcoppeeaaa
open Go Go.Fw
set_option linter.unusedVariables false
theorem nodup_sub : ∀ {l m : List Int}, l.Nodup → (∀ x ∈ l, x ∈ m) → l.length ≤ m.length
  | [], m, _, _ => Nat.zero_le _
  | x :: l, m, hn, hs => by
    have hx := hs x (.head _)
    have := nodup_sub (l := l) (m := m.erase x) (List.nodup_cons.1 hn).2 fun y hy => (List.mem_erase_of_ne fun (e : y = x) => (List.nodup_cons.1 hn).1 (e ▸ hy)).2 (hs y (.tail _ hy))
    rw [List.length_erase_of_mem hx] at this
    have := List.length_pos_of_mem hx
    rw [List.length_cons]
    omega
theorem range_nodup (n : Nat) : ((List.range n).map fun k : Nat => (k : Int)).Nodup := by
  unfold List.Nodup
  rw [List.pairwise_map]
  exact List.nodup_range.imp fun h e => h (by omega)
/-- the least number that isn't taken -/
def IsLst (tk : List Int) (r : Nat) : Prop := (r : Int) ∉ tk ∧ ∀ k : Nat, k < r → (k : Int) ∈ tk
theorem lst_le {tk : List Int} {r : Nat} (h : ∀ k : Nat, k < r → (k : Int) ∈ tk) : r ≤ tk.length := by
  have := nodup_sub (range_nodup r) (m := tk) fun x hx => by
    obtain ⟨k, hk, rfl⟩ := List.mem_map.1 hx
    exact h k (List.mem_range.1 hk)
  simpa using this
theorem lst_ex (tk : List Int) : ∃ r, IsLst tk r := by
  have key : ∀ n r : Nat, n + r = tk.length + 1 → (∀ k : Nat, k < r → (k : Int) ∈ tk) → ∃ r, IsLst tk r := by
    intro n
    induction n with
    | zero =>
      intro r hr h
      have := lst_le h
      omega
    | succ n ih =>
      intro r hr h
      by_cases hm : (r : Int) ∈ tk
      · refine ih (r + 1) (by omega) fun k hk => ?_
        by_cases hkr : k = r
        · subst hkr; exact hm
        · exact h k (by omega)
      · exact ⟨r, hm, h⟩
  exact key (tk.length + 1) 0 (by omega) fun k hk => by omega
noncomputable def lst (tk : List Int) : Nat := (lst_ex tk).choose
theorem lst_is (tk : List Int) : IsLst tk (lst tk) := (lst_ex tk).choose_spec
/-- a variable takes the least register free -/
noncomputable def asg (s : List (Int × Int) × List Int) (x : Int) : List (Int × Int) × List Int := (setI s.1 x (lst s.2 : Nat), s.2 ++ [(lst s.2 : Int)])
noncomputable def asgs (m : List (Int × Int)) (ks bs : List Int) : List (Int × Int) × List Int := bs.foldl asg (m, ks.map (rgM m))
noncomputable def atC (s : Nat × List (Int × Int)) (p : Pl) : Option (Nat × List (Int × Int)) := some (max s.1 (p.bs.length + p.ks.length), (asgs s.2 p.ks p.bs).1)
theorem asgs_snoc (m : List (Int × Int)) (ks : List Int) {bs : List Int} {i : Nat} {x : Int} (hx : bs[i]? = some x) : asgs m ks (bs.take (i + 1)) = asg (asgs m ks (bs.take i)) x := by
  unfold asgs
  rw [take_snoc hx, List.foldl_append]
  rfl
theorem asgs_nil (m : List (Int × Int)) (ks : List Int) : asgs m ks [] = (m, ks.map (rgM m)) := rfl
theorem asg_len (s : List (Int × Int) × List Int) (x : Int) : (asg s x).2.length = s.2.length + 1 := by simp [asg]
theorem asgs_len (m : List (Int × Int)) (ks bs : List Int) : (asgs m ks bs).2.length = ks.length + bs.length := by
  unfold asgs
  have key : ∀ (bs : List Int) (s : List (Int × Int) × List Int), (bs.foldl asg s).2.length = s.2.length + bs.length := by
    intro bs
    induction bs with
    | nil => intro s; rfl
    | cons x bs ih =>
      intro s
      rw [List.foldl_cons, ih, asg_len, List.length_cons]
      omega
  rw [key, List.length_map]
theorem asg_tk {s : List (Int × Int) × List Int} {tk : List Int} {r : Nat} {x : Int} (h : ∀ y, y ∈ tk ↔ y ∈ s.2) (hr : r = lst s.2) (y : Int) : y ∈ sadd tk (r : Int) ↔ y ∈ (asg s x).2 := by
  subst hr
  rw [mem_sadd, h]
  unfold asg
  rw [List.mem_append, List.mem_singleton]
theorem asg_m {s : List (Int × Int) × List Int} {r : Nat} {x : Int} (hr : r = lst s.2) : setI s.1 x (r : Int) = (asg s x).1 := by subst hr; rfl
theorem max_if (a b : Nat) : (if (b : Int) > (a : Int) then (b : Int) else (a : Int)) = ((max a b : Nat) : Int) := by
  split <;> omega
set_option maxRecDepth 10000 attribute [local irreducible] Code.wp wpList Calls Ex Op1 sat bat blk cb own Go.Fw.mp Go.Fw.mpO Go.Fw.mpI Go.Fw.mpE Go.Fw.itr HS Rd Ret wkD Hp Cl Cls Exit.then Exit.inBlock Exit.noGoto bodyPost Go.Fw.flat wk2 Go.Fw.all Go.Fw.owns wpOp
attribute [local irreducible] sk mpK srt sko itS mpS mvO rgM asgs asg

set_option maxHeartbeats 4000000 in
theorem atC_spec (w0 : World) (bP bR mR : Nat) : AtOk w0 30 #[.pointer (some (bat bP 0)), .pointer (some (bat bR 0))]
    (fun s : Nat × List (Int × Int) => facI (s.1 ≤ 2000000) (all [cb bP 3 [.int .i64 s.1], cb bR 67 [.map (some mR)], mpI mR s.2])) atC := by
  intro HH s st o c bs b w hH hB hsp hbl hkl
  obtain ⟨pr, m⟩ := s
  obtain ⟨hpr, hH⟩ := hH.facI_open
  have hH := hH.open_
  dsimp only at hpr hH
  refine Ret.mono (R := fun r w' => r = .bool true ∧ HS w0 noM (cb bP 3 [.int .i64 (max pr (bs.length + (kso st).length) : Nat)] :: cb bR 67 [.map (some mR)] :: mpI mR (asgs m (kso st) bs).1 :: sko st :: HH) w') ?_ ?_
  rotate_left
  · rintro r w' ⟨rfl, h⟩
    exact .inl ⟨_, rfl, rfl, HS.facI_shut (by dsimp only; omega) (HS.shut (L := [_, _, _]) h)⟩
  show Ret _ _ #[.slice o bs.length c, mvO st, .bool b, .pointer (some (bat bP 0)), .pointer (some (bat bR 0))] _ _
  (refine enter (N := 49) Try.func30 rfl Try.ntmps30 rfl ?_; intro a hA; dsimp only [sl0, Nat.reduceAdd] at hA)
  repeat' (first | (first | (refine GT ?_ ?_ <;> intro hg <;> clear hA a <;> intro a hA <;> (first | exact FA | replace hg := of_decide_eq_true hg | replace hg := of_decide_eq_false hg | skip)) | ((first | apply st_ex hA hH rfl rfl (by decide) | apply dr_ex hA rfl rfl rfl (by decide) | apply dr_exp hA rfl rfl rfl (by decide) | apply dr_ex3 hA hH rfl rfl rfl (by decide)); (first | (apply ex_lenS (st := st); rfl; exact MEMT)); clear hA a; intro a hA) | (refine QT ?_; clear hA a; intro a hA) | (first | (refine BT ?_; clear hA hH; rintro _ w ⟨bN, rfl, hH⟩ a hA) | (refine LT ?_; clear hA hH; rintro _ w ⟨oN, rfl, hH⟩ a hA) | (refine AT ?_; clear hA; rintro _ w ⟨oN, cN, rfl, hH2⟩ a hA; clear hH; have hH := (hH2 _ (by (repeat constructor))).tail; clear hH2) | (refine S0T ?_; clear hH; rintro _ w hH) | (refine st_op hA rfl rfl (by decide) (op_makeMapK hH) ?_; clear hA hH; rintro _ w ⟨bT, rfl, hH⟩ a hA))) | ((first | refine CT ?_ | (refine DT ?_ ?_ <;> intro hc <;> try (exfalso; omega))) <;> repeat' refine CT ?_) | (first | (refine DSK ?_; clear hA a; intro a hA) | (first | (refine DLT ?_; clear hA hH; rintro _ w ⟨oN, rfl, hH⟩; refine ⟨STT, ?_⟩; intro a hA) | (refine DAT ?_; clear hA; rintro _ w ⟨oN, cN, rfl, hH2⟩; clear hH; have hH := (hH2 _ (by (repeat constructor))).tail; clear hH2; refine ⟨STT, ?_⟩; intro a hA))) )
  rw [show (bs.length : Int) + ((kso st).length : Int) = ((bs.length + (kso st).length : Nat) : Int) by omega, max_if] at hA hH
  obtain ⟨el, clock, hel, hok, hop⟩ := HS.openS (st := st) hH (by exact MEMT)
  replace hH := hop _ (by (repeat constructor))
  clear hop
  have hell : el.length = (kso st).length := by rw [← hel, List.length_map]
  (refine st_op hA rfl rfl (by decide) (op_rangeS (st := st) rfl hH (by exact MEMT)) ?_; clear hA hH; rintro _ w ⟨r, rfl, hH⟩ a hA)
  obtain ⟨np, hnp⟩ : ∃ x, x = max pr (bs.length + (kso st).length) := ⟨_, rfl⟩
  rw [← hnp] at hH ⊢
  repeat' (first | (first | (refine GT ?_ ?_ <;> intro hg <;> clear hA a <;> intro a hA <;> (first | exact FA | replace hg := of_decide_eq_true hg | replace hg := of_decide_eq_false hg | skip)) | (refine QT ?_; clear hA a; intro a hA) | (first | (refine BT ?_; clear hA hH; rintro _ w ⟨bN, rfl, hH⟩ a hA) | (refine LT ?_; clear hA hH; rintro _ w ⟨oN, rfl, hH⟩ a hA) | (refine AT ?_; clear hA; rintro _ w ⟨oN, cN, rfl, hH2⟩ a hA; clear hH; have hH := (hH2 _ (by (repeat constructor))).tail; clear hH2) | (refine S0T ?_; clear hH; rintro _ w hH) )) | ((first | refine CT ?_ | (refine DT ?_ ?_ <;> intro hc <;> try (exfalso; omega))) <;> repeat' refine CT ?_) | (first | (refine DSK ?_; clear hA a; intro a hA) | (first | (refine DLT ?_; clear hA hH; rintro _ w ⟨oN, rfl, hH⟩; refine ⟨STT, ?_⟩; intro a hA) | (refine DAT ?_; clear hA; rintro _ w ⟨oN, cN, rfl, hH2⟩; clear hH; have hH := (hH2 _ (by (repeat constructor))).tail; clear hH2; refine ⟨STT, ?_⟩; intro a hA))) )
  refine wp_lpk (S := List (Int × Nat)) (fun dn a w => ∃ tk, (dn.Nodup ∧ (∀ e ∈ dn, e ∈ el) ∧ (∀ y, y ∈ tk ↔ y ∈ (dn.map (·.1)).map (rgM m))) ∧ HS w0 noM (sk bT tk :: itS r st clock dn :: mpS st el clock :: cb bP 3 [.int .i64 np] :: cb bR 67 [.map (some mR)] :: mpI mR m :: HH) w ∧
      Sl 49 [(23, .pointer (some (bat r 0))), (9, .map (some bT)), (0, .slice o bs.length c), (3, .pointer (some (bat bP 0))), (4, .pointer (some (bat bR 0)))] a) (fun dn => el.length - dn.length)
    (fun a w => ∃ tk, (∀ y, y ∈ tk ↔ y ∈ (kso st).map (rgM m)) ∧ HS w0 noM (sk bT tk :: sko st :: cb bP 3 [.int .i64 np] :: cb bR 67 [.map (some mR)] :: mpI mR m :: HH) w ∧
      Sl 49 [(9, .map (some bT)), (0, .slice o bs.length c), (4, .pointer (some (bat bR 0)))] a) [] ⟨[], ⟨List.nodup_nil, fun e he => absurd he List.not_mem_nil, fun y => Iff.rfl⟩, hH.perm (by (repeat (first | exact List.Perm.refl _ | exact List.Perm.nil | refine perm_pick 0 rfl ?_ | refine perm_pick 1 rfl ?_ | refine perm_pick 2 rfl ?_ | refine perm_pick 3 rfl ?_ | refine perm_pick 4 rfl ?_ | refine perm_pick 5 rfl ?_ | refine perm_pick 6 rfl ?_ | refine perm_pick 7 rfl ?_ | refine perm_pick 8 rfl ?_ | refine perm_pick 9 rfl ?_ | refine perm_pick 10 rfl ?_ | refine perm_pick 11 rfl ?_))), (hA.sub (by (repeat (first | exact trivial | refine ⟨rfl, ?_⟩))))⟩ ?_ ?_
  · clear hA hH
    rintro dn a w ⟨tk, ⟨hn, hd, htk⟩, hH, hA⟩
    repeat' (first | (first | (refine GT ?_ ?_ <;> intro hg <;> clear hA a <;> intro a hA <;> (first | exact FA | replace hg := of_decide_eq_true hg | replace hg := of_decide_eq_false hg | skip)) | (refine QT ?_; clear hA a; intro a hA) | (first | (refine BT ?_; clear hA hH; rintro _ w ⟨bN, rfl, hH⟩ a hA) | (refine LT ?_; clear hA hH; rintro _ w ⟨oN, rfl, hH⟩ a hA) | (refine AT ?_; clear hA; rintro _ w ⟨oN, cN, rfl, hH2⟩ a hA; clear hH; have hH := (hH2 _ (by (repeat constructor))).tail; clear hH2) | (refine S0T ?_; clear hH; rintro _ w hH) )) | ((first | refine CT ?_ | (refine DT ?_ ?_ <;> intro hc <;> try (exfalso; omega))) <;> repeat' refine CT ?_) | (first | (refine DSK ?_; clear hA a; intro a hA) | (first | (refine DLT ?_; clear hA hH; rintro _ w ⟨oN, rfl, hH⟩; refine ⟨STT, ?_⟩; intro a hA) | (refine DAT ?_; clear hA; rintro _ w ⟨oN, cN, rfl, hH2⟩; clear hH; have hH := (hH2 _ (by (repeat constructor))).tail; clear hH2; refine ⟨STT, ?_⟩; intro a hA))) )
    refine st_op hA rfl rfl (by decide) (op_nextS (st := st) rfl hH (by exact MEMT) (by exact MEMT) hel hok hd) ?_
    clear hA
    rintro _ w2 (⟨hall, rfl, hH⟩ | ⟨e, he, hs, rfl, hup⟩) a hA
    · repeat' (first | (first | (refine GT ?_ ?_ <;> intro hg <;> clear hA a <;> intro a hA <;> (first | exact FA | replace hg := of_decide_eq_true hg | replace hg := of_decide_eq_false hg | skip)) | (refine QT ?_; clear hA a; intro a hA) | (first | (refine BT ?_; clear hA hH; rintro _ w ⟨bN, rfl, hH⟩ a hA) | (refine LT ?_; clear hA hH; rintro _ w ⟨oN, rfl, hH⟩ a hA) | (refine AT ?_; clear hA; rintro _ w ⟨oN, cN, rfl, hH2⟩ a hA; clear hH; have hH := (hH2 _ (by (repeat constructor))).tail; clear hH2) | (refine S0T ?_; clear hH; rintro _ w hH) )) | ((first | refine CT ?_ | (refine DT ?_ ?_ <;> intro hc <;> try (exfalso; omega))) <;> repeat' refine CT ?_) | (first | (refine DSK ?_; clear hA a; intro a hA) | (first | (refine DLT ?_; clear hA hH; rintro _ w ⟨oN, rfl, hH⟩; refine ⟨STT, ?_⟩; intro a hA) | (refine DAT ?_; clear hA; rintro _ w ⟨oN, cN, rfl, hH2⟩; clear hH; have hH := (hH2 _ (by (repeat constructor))).tail; clear hH2; refine ⟨STT, ?_⟩; intro a hA))) )
      replace hH := HS.shutS (st := st) hH hel hok (by (repeat constructor))
      have hp := (dn_perm hel hok.keys hn hd hall).map (rgM m)
      exact ⟨tk, fun y => (htk y).trans hp.mem_iff, hH.rm 1, (hA.sub (by (repeat (first | exact trivial | refine ⟨rfl, ?_⟩))))⟩
    · have hlt := done_lt hn hd he hs
      clear hH
      have hH := hup _ (by (repeat constructor))
      clear hup
      have ha := dn_add (ks := []) (ks' := dn.map (·.1)) hn hd he hs (fun x => by simp)
      repeat' (first | (first | (refine GT ?_ ?_ <;> intro hg <;> clear hA a <;> intro a hA <;> (first | exact FA | replace hg := of_decide_eq_true hg | replace hg := of_decide_eq_false hg | skip)) | ((first | apply st_ex hA hH rfl rfl (by decide) | apply dr_ex hA rfl rfl rfl (by decide) | apply dr_exp hA rfl rfl rfl (by decide) | apply dr_ex3 hA hH rfl rfl rfl (by decide)); (first | (apply ex_entryS (st := st); rfl; exact MEMT; exact MEMT; exact hel; exact hok; exact he) | (apply ex_hasK; rfl; rfl; exact MEMT)); clear hA a; intro a hA) | (refine QT ?_; clear hA a; intro a hA) | (first | (refine BT ?_; clear hA hH; rintro _ w ⟨bN, rfl, hH⟩ a hA) | (refine LT ?_; clear hA hH; rintro _ w ⟨oN, rfl, hH⟩ a hA) | (refine AT ?_; clear hA; rintro _ w ⟨oN, cN, rfl, hH2⟩ a hA; clear hH; have hH := (hH2 _ (by (repeat constructor))).tail; clear hH2) | (refine S0T ?_; clear hH; rintro _ w hH) | (apply st_op0 hA rfl rfl; apply op_addK; rfl; rfl; rfl; exact hH; (repeat constructor); clear hH; rintro _ w hH))) | ((first | refine CT ?_ | (refine DT ?_ ?_ <;> intro hc <;> try (exfalso; omega))) <;> repeat' refine CT ?_) | (first | (refine DSK ?_; clear hA a; intro a hA) | (first | (refine DLT ?_; clear hA hH; rintro _ w ⟨oN, rfl, hH⟩; refine ⟨STT, ?_⟩; intro a hA) | (refine DAT ?_; clear hA; rintro _ w ⟨oN, cN, rfl, hH2⟩; clear hH; have hH := (hH2 _ (by (repeat constructor))).tail; clear hH2; refine ⟨STT, ?_⟩; intro a hA))) )
      have hl : (dn ++ [e]).length = dn.length + 1 := by rw [List.length_append]; rfl
      rw [rgM_eq] at *
      exact ⟨dn ++ [e], ⟨_, ⟨ha.1, ha.2.1, tk_dn htk⟩, hH, (hA.sub (by (repeat (first | exact trivial | refine ⟨rfl, ?_⟩))))⟩, by omega⟩
  clear hA hH
  rintro a w ⟨tk, htk, hH, hA⟩
  repeat' (first | (first | (refine GT ?_ ?_ <;> intro hg <;> clear hA a <;> intro a hA <;> (first | exact FA | replace hg := of_decide_eq_true hg | replace hg := of_decide_eq_false hg | skip)) | (refine QT ?_; clear hA a; intro a hA) | (first | (refine BT ?_; clear hA hH; rintro _ w ⟨bN, rfl, hH⟩ a hA) | (refine LT ?_; clear hA hH; rintro _ w ⟨oN, rfl, hH⟩ a hA) | (refine AT ?_; clear hA; rintro _ w ⟨oN, cN, rfl, hH2⟩ a hA; clear hH; have hH := (hH2 _ (by (repeat constructor))).tail; clear hH2) | (refine S0T ?_; clear hH; rintro _ w hH) )) | ((first | refine CT ?_ | (refine DT ?_ ?_ <;> intro hc <;> try (exfalso; omega))) <;> repeat' refine CT ?_) | (first | (refine DSK ?_; clear hA a; intro a hA) | (first | (refine DLT ?_; clear hA hH; rintro _ w ⟨oN, rfl, hH⟩; refine ⟨STT, ?_⟩; intro a hA) | (refine DAT ?_; clear hA; rintro _ w ⟨oN, cN, rfl, hH2⟩; clear hH; have hH := (hH2 _ (by (repeat constructor))).tail; clear hH2; refine ⟨STT, ?_⟩; intro a hA))) )
  refine wp_lpk (S := Nat) (fun i a w => ∃ tk, (i ≤ bs.length ∧ (∀ y, y ∈ tk ↔ y ∈ (asgs m (kso st) (bs.take i)).2)) ∧ HS w0 noM (sk bT tk :: sko st :: cb bP 3 [.int .i64 np] :: cb bR 67 [.map (some mR)] :: mpI mR (asgs m (kso st) (bs.take i)).1 :: HH) w ∧
      Sl 49 [(34, .int .i64 i), (33, .int .i64 bs.length), (32, .slice o bs.length c), (9, .map (some bT)), (4, .pointer (some (bat bR 0)))] a) (fun i => bs.length - i)
    (fun a w => HS w0 noM (sko st :: cb bP 3 [.int .i64 np] :: cb bR 67 [.map (some mR)] :: mpI mR (asgs m (kso st) bs).1 :: HH) w ∧ Sl 49 [] a) 0 ⟨tk, ⟨Nat.zero_le _, fun y => by rw [List.take_zero, asgs_nil]; exact htk y⟩, (by rw [List.take_zero, asgs_nil]; exact hH), (hA.sub (by (repeat (first | exact trivial | refine ⟨rfl, ?_⟩))))⟩ ?_ ?_
  · clear hA hH htk
    rintro i a w ⟨tk, ⟨hi, htk⟩, hH, hA⟩
    by_cases hlt : i < bs.length
    rotate_left
    · obtain rfl : i = bs.length := by omega
      rw [List.take_length] at hH
      repeat' (first | (first | (refine GT ?_ ?_ <;> intro hg <;> clear hA a <;> intro a hA <;> (first | exact FA | replace hg := of_decide_eq_true hg | replace hg := of_decide_eq_false hg | skip)) | (refine QT ?_; clear hA a; intro a hA) | (first | (refine BT ?_; clear hA hH; rintro _ w ⟨bN, rfl, hH⟩ a hA) | (refine LT ?_; clear hA hH; rintro _ w ⟨oN, rfl, hH⟩ a hA) | (refine AT ?_; clear hA; rintro _ w ⟨oN, cN, rfl, hH2⟩ a hA; clear hH; have hH := (hH2 _ (by (repeat constructor))).tail; clear hH2) | (refine S0T ?_; clear hH; rintro _ w hH) )) | ((first | refine CT ?_ | (refine DT ?_ ?_ <;> intro hc <;> try (exfalso; omega))) <;> repeat' refine CT ?_) | (first | (refine DSK ?_; clear hA a; intro a hA) | (first | (refine DLT ?_; clear hA hH; rintro _ w ⟨oN, rfl, hH⟩; refine ⟨STT, ?_⟩; intro a hA) | (refine DAT ?_; clear hA; rintro _ w ⟨oN, cN, rfl, hH2⟩; clear hH; have hH := (hH2 _ (by (repeat constructor))).tail; clear hH2; refine ⟨STT, ?_⟩; intro a hA))) )
      exact ⟨hH.tail, (hA.sub (by (repeat (first | exact trivial | refine ⟨rfl, ?_⟩))))⟩
    obtain ⟨x, hx⟩ : ∃ x, bs[i]? = some x := ⟨_, List.getElem?_eq_getElem hlt⟩
    have hv : (flat Fw.encI bs)[i * 1]? = some (.int .i64 x) := flat_get (off := 0) Fw.encI_len hx rfl
    repeat' (first | (first | (refine GT ?_ ?_ <;> intro hg <;> clear hA a <;> intro a hA <;> (first | exact FA | replace hg := of_decide_eq_true hg | replace hg := of_decide_eq_false hg | skip)) | ((first | apply st_ex hA hH rfl rfl (by decide) | apply dr_ex hA rfl rfl rfl (by decide) | apply dr_exp hA rfl rfl rfl (by decide) | apply dr_ex3 hA hH rfl rfl rfl (by decide)); (first | (apply ex_indexAddr_nat; rfl; rfl; omega; exact hsp) | (apply ex_load; rfl; exact cl_x hB (fun w h => h.tail.tail.tail.tail.tail) hv)); clear hA a; intro a hA) | (refine QT ?_; clear hA a; intro a hA) | (first | (refine BT ?_; clear hA hH; rintro _ w ⟨bN, rfl, hH⟩ a hA) | (refine LT ?_; clear hA hH; rintro _ w ⟨oN, rfl, hH⟩ a hA) | (refine AT ?_; clear hA; rintro _ w ⟨oN, cN, rfl, hH2⟩ a hA; clear hH; have hH := (hH2 _ (by (repeat constructor))).tail; clear hH2) | (refine S0T ?_; clear hH; rintro _ w hH) )) | ((first | refine CT ?_ | (refine DT ?_ ?_ <;> intro hc <;> try (exfalso; omega))) <;> repeat' refine CT ?_) | (first | (refine DSK ?_; clear hA a; intro a hA) | (first | (refine DLT ?_; clear hA hH; rintro _ w ⟨oN, rfl, hH⟩; refine ⟨STT, ?_⟩; intro a hA) | (refine DAT ?_; clear hA; rintro _ w ⟨oN, cN, rfl, hH2⟩; clear hH; have hH := (hH2 _ (by (repeat constructor))).tail; clear hH2; refine ⟨STT, ?_⟩; intro a hA))) )
    obtain ⟨ma, hma⟩ : ∃ x, x = (asgs m (kso st) (bs.take i)) := ⟨_, rfl⟩
    have hml : ma.2.length ≤ 2000000 := by rw [hma, asgs_len, List.length_take]; omega
    have hlst : lst ma.2 ≤ ma.2.length := lst_le (lst_is _).2
    rw [← hma] at hH htk
    refine wp_lpk (S := Nat) (fun r a w => (r ≤ lst ma.2) ∧ HS w0 noM (sk bT tk :: sko st :: cb bP 3 [.int .i64 np] :: cb bR 67 [.map (some mR)] :: mpI mR ma.1 :: HH) w ∧
        Sl 49 [(13, .int .i64 r), (12, .int .i64 x), (34, .int .i64 i), (33, .int .i64 bs.length), (32, .slice o bs.length c), (9, .map (some bT)), (4, .pointer (some (bat bR 0)))] a) (fun r => lst ma.2 - r)
      (fun a w => HS w0 noM (sk bT tk :: sko st :: cb bP 3 [.int .i64 np] :: cb bR 67 [.map (some mR)] :: mpI mR ma.1 :: HH) w ∧
        Sl 49 [(13, .int .i64 (lst ma.2 : Nat)), (12, .int .i64 x), (34, .int .i64 i), (33, .int .i64 bs.length), (32, .slice o bs.length c), (9, .map (some bT)), (4, .pointer (some (bat bR 0)))] a) 0 ⟨Nat.zero_le _, hH, (hA.sub (by (repeat (first | exact trivial | refine ⟨rfl, ?_⟩))))⟩ ?_ ?_
    · clear hA hH
      rintro r a w ⟨hr, hH, hA⟩
      repeat' (first | (first | (refine GT ?_ ?_ <;> intro hg <;> clear hA a <;> intro a hA <;> (first | exact FA | replace hg := of_decide_eq_true hg | replace hg := of_decide_eq_false hg | skip)) | ((first | apply st_ex hA hH rfl rfl (by decide) | apply dr_ex hA rfl rfl rfl (by decide) | apply dr_exp hA rfl rfl rfl (by decide) | apply dr_ex3 hA hH rfl rfl rfl (by decide)); (first | (apply ex_hasK; rfl; rfl; exact MEMT)); clear hA a; intro a hA) | (refine QT ?_; clear hA a; intro a hA) | (first | (refine BT ?_; clear hA hH; rintro _ w ⟨bN, rfl, hH⟩ a hA) | (refine LT ?_; clear hA hH; rintro _ w ⟨oN, rfl, hH⟩ a hA) | (refine AT ?_; clear hA; rintro _ w ⟨oN, cN, rfl, hH2⟩ a hA; clear hH; have hH := (hH2 _ (by (repeat constructor))).tail; clear hH2) | (refine S0T ?_; clear hH; rintro _ w hH) )) | ((first | refine CT ?_ | (refine DT ?_ ?_ <;> intro hc <;> try (exfalso; omega))) <;> repeat' refine CT ?_) | (first | (refine DSK ?_; clear hA a; intro a hA) | (first | (refine DLT ?_; clear hA hH; rintro _ w ⟨oN, rfl, hH⟩; refine ⟨STT, ?_⟩; intro a hA) | (refine DAT ?_; clear hA; rintro _ w ⟨oN, cN, rfl, hH2⟩; clear hH; have hH := (hH2 _ (by (repeat constructor))).tail; clear hH2; refine ⟨STT, ?_⟩; intro a hA))) )
      · have hrl : r < lst ma.2 := by
          rcases Nat.lt_or_ge r (lst ma.2) with h | h
          · exact h
          · obtain rfl : r = lst ma.2 := by omega
            exact absurd ((htk _).1 (by assumption)) (lst_is _).1
        exact ⟨r + 1, ⟨hrl, hH, (hA.sub (by (repeat (first | exact trivial | refine ⟨rfl, ?_⟩))))⟩, by omega⟩
      · have hrl : r = lst ma.2 := by
          rcases Nat.lt_or_ge r (lst ma.2) with h | h
          · exact absurd ((htk _).2 ((lst_is _).2 r h)) (by assumption)
          · omega
        subst hrl
        exact ⟨hH, (hA.sub (by (repeat (first | exact trivial | refine ⟨rfl, ?_⟩))))⟩
    clear hA hH
    rintro a w ⟨hH, hA⟩
    repeat' (first | (first | (refine GT ?_ ?_ <;> intro hg <;> clear hA a <;> intro a hA <;> (first | exact FA | replace hg := of_decide_eq_true hg | replace hg := of_decide_eq_false hg | skip)) | (refine QT ?_; clear hA a; intro a hA) | (first | (refine BT ?_; clear hA hH; rintro _ w ⟨bN, rfl, hH⟩ a hA) | (refine LT ?_; clear hA hH; rintro _ w ⟨oN, rfl, hH⟩ a hA) | (refine AT ?_; clear hA; rintro _ w ⟨oN, cN, rfl, hH2⟩ a hA; clear hH; have hH := (hH2 _ (by (repeat constructor))).tail; clear hH2) | (refine S0T ?_; clear hH; rintro _ w hH) | (apply st_op0 hA rfl rfl; apply op_mapUpdateI; rfl; rfl; rfl; exact hH; (repeat constructor); clear hH; rintro _ w hH) | (apply st_op0 hA rfl rfl; apply op_addK; rfl; rfl; rfl; exact hH; (repeat constructor); clear hH; rintro _ w hH))) | ((first | refine CT ?_ | (refine DT ?_ ?_ <;> intro hc <;> try (exfalso; omega))) <;> repeat' refine CT ?_) | (first | (refine DSK ?_; clear hA a; intro a hA) | (first | (refine DLT ?_; clear hA hH; rintro _ w ⟨oN, rfl, hH⟩; refine ⟨STT, ?_⟩; intro a hA) | (refine DAT ?_; clear hA; rintro _ w ⟨oN, cN, rfl, hH2⟩; clear hH; have hH := (hH2 _ (by (repeat constructor))).tail; clear hH2; refine ⟨STT, ?_⟩; intro a hA))) )
    rw [asg_m rfl, hma, ← asgs_snoc m (kso st) hx] at hH
    refine ⟨i + 1, ⟨_, ⟨hlt, fun y => ?_⟩, hH, (hA.sub (by (repeat (first | exact trivial | refine ⟨rfl, ?_⟩))))⟩, by omega⟩
    rw [asgs_snoc m (kso st) hx, ← hma]
    exact asg_tk htk (by rw [hma]) y
  clear hA hH htk
  rintro a w ⟨hH, hA⟩
  repeat' (first | (first | (refine GT ?_ ?_ <;> intro hg <;> clear hA a <;> intro a hA <;> (first | exact FA | replace hg := of_decide_eq_true hg | replace hg := of_decide_eq_false hg | skip)) | (refine QT ?_; clear hA a; intro a hA) | (first | (refine BT ?_; clear hA hH; rintro _ w ⟨bN, rfl, hH⟩ a hA) | (refine LT ?_; clear hA hH; rintro _ w ⟨oN, rfl, hH⟩ a hA) | (refine AT ?_; clear hA; rintro _ w ⟨oN, cN, rfl, hH2⟩ a hA; clear hH; have hH := (hH2 _ (by (repeat constructor))).tail; clear hH2) | (refine S0T ?_; clear hH; rintro _ w hH) )) | ((first | refine CT ?_ | (refine DT ?_ ?_ <;> intro hc <;> try (exfalso; omega))) <;> repeat' refine CT ?_) | (first | (refine DSK ?_; clear hA a; intro a hA) | (first | (refine DLT ?_; clear hA hH; rintro _ w ⟨oN, rfl, hH⟩; refine ⟨STT, ?_⟩; intro a hA) | (refine DAT ?_; clear hA; rintro _ w ⟨oN, cN, rfl, hH2⟩; clear hH; have hH := (hH2 _ (by (repeat constructor))).tail; clear hH2; refine ⟨STT, ?_⟩; intro a hA))) )
  exact rt1 (.inl rfl) rfl hA rfl ⟨rfl, hH.perm (by (repeat (first | exact List.Perm.refl _ | exact List.Perm.nil | refine perm_pick 0 rfl ?_ | refine perm_pick 1 rfl ?_ | refine perm_pick 2 rfl ?_ | refine perm_pick 3 rfl ?_ | refine perm_pick 4 rfl ?_ | refine perm_pick 5 rfl ?_ | refine perm_pick 6 rfl ?_ | refine perm_pick 7 rfl ?_ | refine perm_pick 8 rfl ?_ | refine perm_pick 9 rfl ?_ | refine perm_pick 10 rfl ?_ | refine perm_pick 11 rfl ?_)))⟩
end Go.Proofs.Ytjfanjcoppeeaaa
