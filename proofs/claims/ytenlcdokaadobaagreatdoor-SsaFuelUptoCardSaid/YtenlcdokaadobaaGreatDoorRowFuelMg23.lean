/-
  The law's awake: its graphs. Conditions: none.
  The law's large, begins; two runs. Conditions: none.
  More fuel, more input (plain). Conditions: none.
  What the bound of '..UptoSaid' gives. Conditions: none.
  What is handed in, taken apart, with what the bound of '..UptoSaid' gives. Conditions: none.
-/
import Derived.Test.YtenlcdokaadobaaGreatDoorRowFuelMg21
import Derived.Test.YtenlcdokaadobaaGreatDoorRowFuelMg22
import Derived.Test.YtenlcdokaadobaaGreatDoorRowFuelMg19
import Derived.Test.YtenlcdokaadobaaGreatDoorRowFuelMg20
import Derived.Test.YtenlcdokaadobaaGreatDoorRows
import Derived.Test.YtenlcdokaadobaaGreatDoorRowFuelMg3
import Derived.Test.YtenlcdokaadobaaGreatDoorRowFuelMg2
import Derived.Test.YtenlcdokaadobaaGreatDoorRowFuelMg5
namespace Go.Proofs.YtenlcdokaadobaaGreatDoor
open Go Go.Fw
set_option linter.unusedVariables false
theorem xs4_sz : ∀ s ∈ xs4, s.size ≤ 4611686018427387904 := by decide +kernel
theorem gA_bs (oG p8 oX p0 p1 p2 p3 p4 p5 p6 p7 : Option Addr) : ∀ f ∈ (gA oG p8 oX p0 p1 p2 p3 p4 p5 p6 p7).fs.l, f.bs.l.length ≤ 1048576 ∧ ∀ bl ∈ f.bs.l, bl.e.to.l.length ≤ 1048576 := by
  intro f hf
  obtain rfl := List.mem_singleton.1 hf
  refine ⟨(by decide : 4 ≤ 1048576), fun b hb => ?_⟩
  simp only [List.mem_cons, List.not_mem_nil, or_false] at hb
  rcases hb with rfl | rfl | rfl | rfl
  · exact (by decide : 2 ≤ 1048576)
  · exact (by decide : 1 ≤ 1048576)
  · exact (by decide : 1 ≤ 1048576)
  · exact (by decide : 0 ≤ 1048576)
def zF5 : Value := .agg #[.int .i64 0, .int .i64 0, .int .i64 0, .slice none 0 0, .int .i64 0, .slice none 0 0, .int .i64 0, .int .i64 0, .slice none 0 0, .slice none 0 0, .slice none 0 0, .slice none 0 0]
theorem fill_F5 (o : Option Addr) : Instr.fill (fun x => ([(0, 1), (1, 11)] : List (Nat × Nat))[x]?) zF5.cells [(1, .agg (encB o).toArray)] = some (encF o 0).toArray := by
  simp [Instr.fill, zF5, encF, encB, Value.cells]
theorem h5_bs {oB oA oG o1 o2 o3 o4 : Option Addr} {cB cG c1 c2 c3 c4 : Nat} {g : Grs} : ∀ f ∈ (h5 oB oA oG o1 o2 o3 o4 cB cG c1 c2 c3 c4 g).fs.l, f.bs.l.length ≤ 1048576 ∧ ∀ bl ∈ f.bs.l, bl.e.to.l.length ≤ 1048576 := by
  intro f hf
  obtain rfl := List.mem_singleton.1 hf
  refine ⟨(by decide : 1 ≤ 1048576), fun b hb => ?_⟩
  obtain rfl := List.mem_singleton.1 hb
  exact (by decide : 0 ≤ 1048576)
theorem gr0s_rd (w : World) : RdGs w gr0s := ⟨rdv_nil _ _, fun x hx => absurd hx (List.not_mem_nil), rdv_nil _ _, rdv_nil _ _, rdv_nil _ _, rdv_nil _ _⟩
theorem xs4_c : flat encX xs4 = [.string ⟨#[66, 111, 117, 110, 100, 115]⟩, .string ⟨#[68, 105, 118, 105, 100, 101]⟩, .string ⟨#[77, 97, 116, 99, 104]⟩, .string ⟨#[83, 105, 122, 101]⟩] := rfl
theorem cats4 (a b c d : Blc) : Cats 6 [.agg (encBl a).toArray, .agg (encBl b).toArray, .agg (encBl c).toArray, .agg (encBl d).toArray] (flat encBl [a, b, c, d]) := Cats.cn (cs := encBl a) (Cats.cn (cs := encBl b) (Cats.cn (cs := encBl c) (Cats.cn (cs := encBl d) Cats.nil)))
theorem gA_rd {w0 w : World} {H : List It} {oG p8 oX p0 p1 p2 p3 p4 p5 p6 p7 : Option Addr} (hH : HS w0 noM (own 9 1 oX 4 4 (flat encX xs4) :: own 44 2 oG 1 1 (encG ⟨0, ⟨p8, 4, [blA p0 p1 1 2, blJ p2 p3 1 1 7, blJ p4 p5 1 1 8, blR p6 p7 1 1]⟩⟩) :: own 53 6 p8 4 4 (flat encBl [blA p0 p1 1 2, blJ p2 p3 1 1 7, blJ p4 p5 1 1 8, blR p6 p7 1 1]) :: own 65 2 p7 1 1 (encAt ⟨1, 2⟩) :: own 3 1 p6 1 1 [.int .i64 2] :: own 61 2 p5 1 1 [.int .i64 3, .slice p4 1 1] :: own 65 2 p4 1 1 (encAt ⟨2, 8⟩) :: own 61 2 p3 1 1 [.int .i64 3, .slice p2 1 1] :: own 65 2 p2 1 1 (encAt ⟨2, 7⟩) :: own 61 2 p1 2 2 [.int .i64 1, .slice none 0 0, .int .i64 2, .slice none 0 0] :: own 65 2 p0 1 1 (encAt ⟨1, 1⟩) :: H) w) : RdGs w (gA oG p8 oX p0 p1 p2 p3 p4 p5 p6 p7) := by
  have hX := hH.own_rd (T := 9) (o := oX) (n := 4) (cap := 4) (xs := flat encX xs4) (by repeat (first | exact List.Mem.head _ | apply List.Mem.tail))
  have hG := hH.own_rd (T := 44) (o := oG) (n := 1) (cap := 1) (sz := 2) (xs := encG ⟨0, ⟨p8, 4, [blA p0 p1 1 2, blJ p2 p3 1 1 7, blJ p4 p5 1 1 8, blR p6 p7 1 1]⟩⟩) (by repeat (first | exact List.Mem.head _ | apply List.Mem.tail))
  have hB := hH.own_rd (T := 53) (o := p8) (n := 4) (cap := 4) (sz := 6) (xs := flat encBl [blA p0 p1 1 2, blJ p2 p3 1 1 7, blJ p4 p5 1 1 8, blR p6 p7 1 1]) (by repeat (first | exact List.Mem.head _ | apply List.Mem.tail))
  have h0 := hH.own_rd (T := 65) (o := p0) (n := 1) (cap := 1) (sz := 2) (xs := encAt ⟨1, 1⟩) (by repeat (first | exact List.Mem.head _ | apply List.Mem.tail))
  have h1 := hH.own_rd (T := 61) (o := p1) (n := 2) (cap := 2) (sz := 2) (xs := [.int .i64 1, .slice none 0 0, .int .i64 2, .slice none 0 0]) (by repeat (first | exact List.Mem.head _ | apply List.Mem.tail))
  have h2 := hH.own_rd (T := 65) (o := p2) (n := 1) (cap := 1) (sz := 2) (xs := encAt ⟨2, 7⟩) (by repeat (first | exact List.Mem.head _ | apply List.Mem.tail))
  have h3 := hH.own_rd (T := 61) (o := p3) (n := 1) (cap := 1) (sz := 2) (xs := [.int .i64 3, .slice p2 1 1]) (by repeat (first | exact List.Mem.head _ | apply List.Mem.tail))
  have h4 := hH.own_rd (T := 65) (o := p4) (n := 1) (cap := 1) (sz := 2) (xs := encAt ⟨2, 8⟩) (by repeat (first | exact List.Mem.head _ | apply List.Mem.tail))
  have h5 := hH.own_rd (T := 61) (o := p5) (n := 1) (cap := 1) (sz := 2) (xs := [.int .i64 3, .slice p4 1 1]) (by repeat (first | exact List.Mem.head _ | apply List.Mem.tail))
  have h6 := hH.own_rd (T := 3) (o := p6) (n := 1) (cap := 1) (sz := 1) (xs := [.int .i64 2]) (by repeat (first | exact List.Mem.head _ | apply List.Mem.tail))
  have h7 := hH.own_rd (T := 65) (o := p7) (n := 1) (cap := 1) (sz := 2) (xs := encAt ⟨1, 2⟩) (by repeat (first | exact List.Mem.head _ | apply List.Mem.tail))
  have h11 : 1 ≤ 1 ∧ 1 ≤ maxLen := ⟨Nat.le_refl _, by decide⟩
  refine ⟨⟨hG, h11⟩, fun x hx => ?_, rdv_nil _ _, rdv_nil _ _, ⟨hX, Nat.le_refl 4, (by decide : 4 ≤ maxLen)⟩, rdv_nil _ _⟩
  obtain rfl := List.mem_singleton.1 hx
  refine ⟨⟨hB, Nat.le_refl 4, (by decide : 4 ≤ maxLen)⟩, fun b hb => ?_⟩
  have hb : b ∈ [blA p0 p1 1 2, blJ p2 p3 1 1 7, blJ p4 p5 1 1 8, blR p6 p7 1 1] := hb
  rcases List.mem_cons.1 hb with rfl | hb
  · refine ⟨rdv_nil _ _, rdv_nil _ _, fun i hi => absurd hi (List.not_mem_nil), ⟨h0, h11⟩, rdv_nil _ _, ⟨h1, Nat.le_refl 2, by show 2 ≤ maxLen; decide⟩, fun x hx => ?_⟩
    have hx : x ∈ [(⟨1, nilV⟩ : Edg), ⟨2, nilV⟩] := hx
    rcases List.mem_cons.1 hx with rfl | hx
    · exact rdv_nil _ _
    · obtain rfl := List.mem_singleton.1 hx
      exact rdv_nil _ _
  rcases List.mem_cons.1 hb with rfl | hb
  · refine ⟨rdv_nil _ _, rdv_nil _ _, fun i hi => absurd hi (List.not_mem_nil), rdv_nil _ _, rdv_nil _ _, ⟨h3, h11⟩, fun x hx => ?_⟩
    obtain rfl := List.mem_singleton.1 hx
    exact ⟨h2, h11⟩
  rcases List.mem_cons.1 hb with rfl | hb
  · refine ⟨rdv_nil _ _, rdv_nil _ _, fun i hi => absurd hi (List.not_mem_nil), rdv_nil _ _, rdv_nil _ _, ⟨h5, h11⟩, fun x hx => ?_⟩
    obtain rfl := List.mem_singleton.1 hx
    exact ⟨h4, h11⟩
  obtain rfl := List.mem_singleton.1 hb
  exact ⟨⟨h6, h11⟩, rdv_nil _ _, fun i hi => absurd hi (List.not_mem_nil), ⟨h7, h11⟩, rdv_nil _ _, rdv_nil _ _, fun x hx => absurd hx (List.not_mem_nil)⟩
set_option maxRecDepth 10000 attribute [local irreducible] Code.wp wpList Calls Ex Op1 sat bat blk cb own Go.Fw.mp Go.Fw.mpO Go.Fw.mpI Go.Fw.mpE Go.Fw.itr HS Rd Ret wkD Hp Cl Cls Exit.then Exit.inBlock Exit.noGoto bodyPost Go.Fw.flat wk2 Go.Fw.all Go.Fw.owns wpOp
attribute [local irreducible] sk mpK sko mvO entK opM Go.Fw.mset Go.Fw.mv opK

set_option maxHeartbeats 4000000 in
theorem num_spec (w0 : World) (n : Int) : Ret Tryz.prog 24 #[.int .i64 n] w0 (fun r w => ∃ o, r = .slice o 1 1 ∧ HS w0 noM [own 65 2 o 1 1 (encAt ⟨2, n⟩)] w) := by
  have hH : HS w0 noM [] w0 := HS.init w0 noM
  (refine enter (N := 6) Tryz.func24 rfl Tryz.ntmps24 rfl ?_; intro a hA; dsimp only [sl0, Nat.reduceAdd] at hA)
  repeat' (first | ((first | apply st_ex hA hH rfl rfl (by decide) | apply dr_ex hA rfl rfl rfl (by decide) | apply dr_exp hA rfl rfl rfl (by decide) | apply dr_ex3 hA hH rfl rfl rfl (by decide)); (first | (apply ex_build_p (cs := (encAt ⟨2, n⟩).toArray); rfl; (repeat (first | (intro _ h; exact absurd h (List.not_mem_nil)) | (refine List.forall_mem_cons.2 ⟨one_cell_of _ _, ?_⟩))); rfl)); clear hA a; intro a hA) | (refine QT ?_; clear hA a; intro a hA) | (refine LT ?_; clear hA hH; rintro _ w ⟨oN, rfl, hH⟩ a hA) | (apply st_op hA rfl rfl (by decide); apply op_sliceLit (xs := encAt ⟨2, n⟩) (vs := [.agg (encAt ⟨2, n⟩).toArray]); rfl; rfl; exact (Cats.cn (cs := encAt ⟨2, n⟩) Cats.nil); rfl; rfl; rfl; exact hH; clear hA hH; rintro _ w ⟨oN, rfl, hH⟩ a hA) | (refine CT ?_ <;> repeat' refine CT ?_))
  exact rt1 (.inl rfl) rfl hA rfl ⟨_, rfl, hH⟩
set_option maxHeartbeats 4000000 in
theorem names_spec (w0 : World) (o : Option Addr) (c : Nat) (l : List Blc) : Ret Tryz.prog 23 #[.slice o l.length c] w0 (fun r w => ∃ oG oX, r = .agg ((encGs ⟨⟨oG, 1, [⟨0, ⟨o, c, l⟩⟩]⟩, nilV, nilV, ⟨oX, 4, xs4⟩, nilV⟩)).toArray ∧ HS w0 noM [own 9 1 oX 4 4 (flat encX xs4), own 44 2 oG 1 1 (encG ⟨0, ⟨o, c, l⟩⟩)] w) := by
  have hH : HS w0 noM [] w0 := HS.init w0 noM
  (refine enter (N := 8) Tryz.func23 rfl Tryz.ntmps23 rfl ?_; intro a hA; dsimp only [sl0, Nat.reduceAdd] at hA)
  repeat' (first | ((first | apply st_ex hA hH rfl rfl (by decide) | apply dr_ex hA rfl rfl rfl (by decide) | apply dr_exp hA rfl rfl rfl (by decide) | apply dr_ex3 hA hH rfl rfl rfl (by decide)); (first | (apply ex_build_p (cs := (encG ⟨0, ⟨o, c, l⟩⟩).toArray); rfl; (repeat (first | (intro _ h; exact absurd h (List.not_mem_nil)) | (refine List.forall_mem_cons.2 ⟨one_cell_of _ _, ?_⟩))); rfl)); clear hA a; intro a hA) | (refine QT ?_; clear hA a; intro a hA) | (refine BT ?_; clear hA hH; rintro _ w ⟨bN, rfl, hH⟩ a hA) | (refine LT ?_; clear hA hH; rintro _ w ⟨oN, rfl, hH⟩ a hA) | (apply st_op hA rfl rfl (by decide); apply op_sliceLit (xs := encG ⟨0, ⟨o, c, l⟩⟩) (vs := [.agg (encG ⟨0, ⟨o, c, l⟩⟩).toArray]); rfl; rfl; exact (Cats.cn (cs := encG ⟨0, ⟨o, c, l⟩⟩) Cats.nil); rfl; rfl; rfl; exact hH; clear hA hH; rintro _ w ⟨oN, rfl, hH⟩ a hA) | (refine CT ?_ <;> repeat' refine CT ?_))
  have key : ∃ oG oX b2, HS w0 noM (own 9 1 oX 4 4 (flat encX xs4) :: own 44 2 oG 1 1 (encG ⟨0, ⟨o, c, l⟩⟩) :: cb b2 25 (encGs gr0s) :: []) w ∧ Sl 8 [(6, .slice oX 4 4), (5, .slice oG 1 1), (2, .pointer (some (bat b2 0)))] a := ⟨_, _, _, by rw [xs4_c]; exact hH, (hA.sub (by (repeat (first | exact trivial | refine ⟨rfl, ?_⟩)); first | done | fail "sub"))⟩
  clear hA hH
  obtain ⟨oG, oX, b2, hH, hA⟩ := key
  repeat' (first | ((first | apply st_ex hA hH rfl rfl (by decide) | apply dr_ex hA rfl rfl rfl (by decide) | apply dr_exp hA rfl rfl rfl (by decide) | apply dr_ex3 hA hH rfl rfl rfl (by decide)); (first | (apply ex_build_p (cs := ((encGs ⟨⟨oG, 1, [⟨0, ⟨o, c, l⟩⟩]⟩, nilV, nilV, ⟨oX, 4, xs4⟩, nilV⟩)).toArray); rfl; (repeat (first | (intro _ h; exact absurd h (List.not_mem_nil)) | (refine List.forall_mem_cons.2 ⟨one_cell_of _ _, ?_⟩))); rfl)); clear hA a; intro a hA) | (refine QT ?_; clear hA a; intro a hA) | (apply st_op0 hA rfl rfl; apply op_store_agg (vs := (encGs ⟨⟨oG, 1, [⟨0, ⟨o, c, l⟩⟩]⟩, nilV, nilV, ⟨oX, 4, xs4⟩, nilV⟩)); rfl; rfl; exact hH; (repeat constructor); (repeat rfl); clear hH; rintro _ w hH) | (refine CT ?_ <;> repeat' refine CT ?_))
  exact rt1c (vs := (encGs ⟨⟨oG, 1, [⟨0, ⟨o, c, l⟩⟩]⟩, nilV, nilV, ⟨oX, 4, xs4⟩, nilV⟩)) (.inl rfl) rfl hA rfl rfl hH (cls_cb_all (by exact MEMT)) ⟨oG, oX, rfl, hH.rm 2⟩
set_option maxHeartbeats 16000000 in
theorem awake_spec (w0 : World) (hFI : FI w0) : Ret Tryz.prog 10 #[] w0 (fun r w => r = .bool true ∧ Kp w0 noM w) := by
  have hH : HS w0 noM [] w0 := HS.init w0 noM
  (refine enter (N := 79) Tryz.func10 rfl Tryz.ntmps10 rfl ?_; intro a hA; dsimp only [sl0, Nat.reduceAdd] at hA)
  repeat' (first | ((first | apply st_ex hA hH rfl rfl (by decide) | apply dr_ex hA rfl rfl rfl (by decide) | apply dr_exp hA rfl rfl rfl (by decide) | apply dr_ex3 hA hH rfl rfl rfl (by decide)); (first | (apply ex_build_p (cs := (encAt ⟨1, 1⟩).toArray); rfl; (repeat (first | (intro _ h; exact absurd h (List.not_mem_nil)) | (refine List.forall_mem_cons.2 ⟨one_cell_of _ _, ?_⟩))); rfl)); clear hA a; intro a hA) | (refine QT ?_; clear hA a; intro a hA) | (refine LT ?_; clear hA hH; rintro _ w ⟨oN, rfl, hH⟩ a hA) | (apply st_op hA rfl rfl (by decide); apply op_sliceLit (xs := encAt ⟨1, 1⟩) (vs := [.agg (encAt ⟨1, 1⟩).toArray]); rfl; rfl; exact (Cats.cn (cs := encAt ⟨1, 1⟩) Cats.nil); rfl; rfl; rfl; exact hH; clear hA hH; rintro _ w ⟨oN, rfl, hH⟩ a hA) | (refine CT ?_ <;> repeat' refine CT ?_))
  obtain ⟨p0, hb3⟩ : ∃ x, x = oN := ⟨_, rfl⟩; rw [← hb3] at hA hH; clear hb3 oN
  repeat' (first | ((first | apply st_ex hA hH rfl rfl (by decide) | apply dr_ex hA rfl rfl rfl (by decide) | apply dr_exp hA rfl rfl rfl (by decide) | apply dr_ex3 hA hH rfl rfl rfl (by decide)); (first | (apply ex_build_p (cs := ([.int .i64 1, .slice none 0 0]).toArray); rfl; (repeat (first | (intro _ h; exact absurd h (List.not_mem_nil)) | (refine List.forall_mem_cons.2 ⟨one_cell_of _ _, ?_⟩))); rfl) | (apply ex_build_p (cs := ([.int .i64 2, .slice none 0 0]).toArray); rfl; (repeat (first | (intro _ h; exact absurd h (List.not_mem_nil)) | (refine List.forall_mem_cons.2 ⟨one_cell_of _ _, ?_⟩))); rfl)); clear hA a; intro a hA) | (refine QT ?_; clear hA a; intro a hA) | (refine LT ?_; clear hA hH; rintro _ w ⟨oN, rfl, hH⟩ a hA) | (apply st_op hA rfl rfl (by decide); apply op_sliceLit (xs := [.int .i64 1, .slice none 0 0, .int .i64 2, .slice none 0 0]) (vs := [.agg [.int .i64 1, .slice none 0 0].toArray, .agg [.int .i64 2, .slice none 0 0].toArray]); rfl; rfl; exact Cats.cn (cs := [.int .i64 1, .slice none 0 0]) (Cats.cn (cs := [.int .i64 2, .slice none 0 0]) Cats.nil); rfl; rfl; rfl; exact hH; clear hA hH; rintro _ w ⟨oN, rfl, hH⟩ a hA))
  obtain ⟨p1, hb3⟩ : ∃ x, x = oN := ⟨_, rfl⟩; rw [← hb3] at hA hH; clear hb3 oN
  repeat' (first | ((first | apply st_ex hA hH rfl rfl (by decide) | apply dr_ex hA rfl rfl rfl (by decide) | apply dr_exp hA rfl rfl rfl (by decide) | apply dr_ex3 hA hH rfl rfl rfl (by decide)); (first | (apply ex_build_p (cs := ([.int .i64 5, .slice p0 1 1, .slice none 0 0, .slice p1 2 2]).toArray); rfl; (repeat (first | (intro _ h; exact absurd h (List.not_mem_nil)) | (refine List.forall_mem_cons.2 ⟨one_cell_of _ _, ?_⟩))); rfl) | (apply ex_build (szs := [(0, 1), (1, 1), (2, 4)]) (cs := (encBl (blA p0 p1 1 2)).toArray); exact run_szl (by (repeat (first | exact SzL.nil | refine SzL.cons ⟨_, rfl, by decide⟩ ?_))); rfl; rfl)); clear hA a; intro a hA) | (refine QT ?_; clear hA a; intro a hA))
  (refine st_op hA rfl rfl (by decide) (op_call rfl rfl rfl (num_spec _ 7)) ?_; clear hA; rintro _ w ⟨p2, rfl, hj⟩ a hA; replace hH := hH.join hj; clear hj)
  repeat' (first | ((first | apply st_ex hA hH rfl rfl (by decide) | apply dr_ex hA rfl rfl rfl (by decide) | apply dr_exp hA rfl rfl rfl (by decide) | apply dr_ex3 hA hH rfl rfl rfl (by decide)); (first | (apply ex_build_p (cs := ([.int .i64 3, .slice p2 1 1]).toArray); rfl; (repeat (first | (intro _ h; exact absurd h (List.not_mem_nil)) | (refine List.forall_mem_cons.2 ⟨one_cell_of _ _, ?_⟩))); rfl)); clear hA a; intro a hA) | (refine QT ?_; clear hA a; intro a hA) | (refine LT ?_; clear hA hH; rintro _ w ⟨oN, rfl, hH⟩ a hA) | (apply st_op hA rfl rfl (by decide); apply op_sliceLit (xs := [.int .i64 3, .slice p2 1 1]) (vs := [.agg ([.int .i64 3, .slice p2 1 1]).toArray]); rfl; rfl; exact (Cats.cn (cs := [.int .i64 3, .slice p2 1 1]) Cats.nil); rfl; rfl; rfl; exact hH; clear hA hH; rintro _ w ⟨oN, rfl, hH⟩ a hA))
  obtain ⟨p3, hb3⟩ : ∃ x, x = oN := ⟨_, rfl⟩; rw [← hb3] at hA hH; clear hb3 oN
  repeat' (first | ((first | apply st_ex hA hH rfl rfl (by decide) | apply dr_ex hA rfl rfl rfl (by decide) | apply dr_exp hA rfl rfl rfl (by decide) | apply dr_ex3 hA hH rfl rfl rfl (by decide)); (first | (apply ex_build_p (cs := ([.int .i64 4, .slice none 0 0, .slice none 0 0, .slice p3 1 1]).toArray); rfl; (repeat (first | (intro _ h; exact absurd h (List.not_mem_nil)) | (refine List.forall_mem_cons.2 ⟨one_cell_of _ _, ?_⟩))); rfl) | (apply ex_build (szs := [(0, 1), (1, 1), (2, 4)]) (cs := (encBl (blJ p2 p3 1 1 7)).toArray); exact run_szl (by (repeat (first | exact SzL.nil | refine SzL.cons ⟨_, rfl, by decide⟩ ?_))); rfl; rfl)); clear hA a; intro a hA) | (refine QT ?_; clear hA a; intro a hA))
  (refine st_op hA rfl rfl (by decide) (op_call rfl rfl rfl (num_spec _ 8)) ?_; clear hA; rintro _ w ⟨p4, rfl, hj⟩ a hA; replace hH := hH.join hj; clear hj)
  repeat' (first | ((first | apply st_ex hA hH rfl rfl (by decide) | apply dr_ex hA rfl rfl rfl (by decide) | apply dr_exp hA rfl rfl rfl (by decide) | apply dr_ex3 hA hH rfl rfl rfl (by decide)); (first | (apply ex_build_p (cs := ([.int .i64 3, .slice p4 1 1]).toArray); rfl; (repeat (first | (intro _ h; exact absurd h (List.not_mem_nil)) | (refine List.forall_mem_cons.2 ⟨one_cell_of _ _, ?_⟩))); rfl)); clear hA a; intro a hA) | (refine QT ?_; clear hA a; intro a hA) | (refine LT ?_; clear hA hH; rintro _ w ⟨oN, rfl, hH⟩ a hA) | (apply st_op hA rfl rfl (by decide); apply op_sliceLit (xs := [.int .i64 3, .slice p4 1 1]) (vs := [.agg ([.int .i64 3, .slice p4 1 1]).toArray]); rfl; rfl; exact (Cats.cn (cs := [.int .i64 3, .slice p4 1 1]) Cats.nil); rfl; rfl; rfl; exact hH; clear hA hH; rintro _ w ⟨oN, rfl, hH⟩ a hA))
  obtain ⟨p5, hb3⟩ : ∃ x, x = oN := ⟨_, rfl⟩; rw [← hb3] at hA hH; clear hb3 oN
  repeat' (first | ((first | apply st_ex hA hH rfl rfl (by decide) | apply dr_ex hA rfl rfl rfl (by decide) | apply dr_exp hA rfl rfl rfl (by decide) | apply dr_ex3 hA hH rfl rfl rfl (by decide)); (first | (apply ex_build_p (cs := ([.int .i64 4, .slice none 0 0, .slice none 0 0, .slice p5 1 1]).toArray); rfl; (repeat (first | (intro _ h; exact absurd h (List.not_mem_nil)) | (refine List.forall_mem_cons.2 ⟨one_cell_of _ _, ?_⟩))); rfl) | (apply ex_build (szs := [(0, 1), (1, 1), (2, 4)]) (cs := (encBl (blJ p4 p5 1 1 8)).toArray); exact run_szl (by (repeat (first | exact SzL.nil | refine SzL.cons ⟨_, rfl, by decide⟩ ?_))); rfl; rfl)); clear hA a; intro a hA) | (refine QT ?_; clear hA a; intro a hA) | (refine LT ?_; clear hA hH; rintro _ w ⟨oN, rfl, hH⟩ a hA))
  have key : ∃ p6 p7, HS w0 noM (own 65 2 p7 1 1 (encAt ⟨1, 2⟩) :: own 3 1 p6 1 1 [.int .i64 2] :: own 61 2 p5 1 1 [.int .i64 3, .slice p4 1 1] :: own 65 2 p4 1 1 (encAt ⟨2, 8⟩) :: own 61 2 p3 1 1 [.int .i64 3, .slice p2 1 1] :: own 65 2 p2 1 1 (encAt ⟨2, 7⟩) :: own 61 2 p1 2 2 [.int .i64 1, .slice none 0 0, .int .i64 2, .slice none 0 0] :: own 65 2 p0 1 1 (encAt ⟨1, 1⟩) :: []) w ∧ Sl 79 [(29, .slice p7 1 1), (27, .slice p6 1 1), (26, .agg (encBl (blJ p4 p5 1 1 8)).toArray), (21, .agg (encBl (blJ p2 p3 1 1 7)).toArray), (16, .agg (encBl (blA p0 p1 1 2)).toArray), (0, .bool false)] a := ⟨_, _, hH.perm (by (repeat (first | exact List.Perm.refl _ | exact List.Perm.nil | refine perm_pick 0 rfl ?_ | refine perm_pick 1 rfl ?_ | refine perm_pick 2 rfl ?_ | refine perm_pick 3 rfl ?_ | refine perm_pick 4 rfl ?_ | refine perm_pick 5 rfl ?_ | refine perm_pick 6 rfl ?_ | refine perm_pick 7 rfl ?_ | refine perm_pick 8 rfl ?_ | refine perm_pick 9 rfl ?_ | refine perm_pick 10 rfl ?_ | refine perm_pick 11 rfl ?_))), (hA.sub (by (repeat (first | exact trivial | refine ⟨rfl, ?_⟩)); first | done | fail "sub"))⟩
  clear hA hH
  obtain ⟨p6, p7, hH, hA⟩ := key
  repeat' (first | ((first | apply st_ex hA hH rfl rfl (by decide) | apply dr_ex hA rfl rfl rfl (by decide) | apply dr_exp hA rfl rfl rfl (by decide) | apply dr_ex3 hA hH rfl rfl rfl (by decide)); (first | (apply ex_build_p (cs := ([.int .i64 1, .slice p7 1 1, .slice none 0 0, .slice none 0 0]).toArray); rfl; (repeat (first | (intro _ h; exact absurd h (List.not_mem_nil)) | (refine List.forall_mem_cons.2 ⟨one_cell_of _ _, ?_⟩))); rfl) | (apply ex_build (szs := [(0, 1), (1, 1), (2, 4)]) (cs := (encBl (blR p6 p7 1 1)).toArray); exact run_szl (by (repeat (first | exact SzL.nil | refine SzL.cons ⟨_, rfl, by decide⟩ ?_))); rfl; rfl)); clear hA a; intro a hA) | (refine QT ?_; clear hA a; intro a hA) | (apply st_op hA rfl rfl (by decide); apply op_sliceLit (xs := flat encBl [blA p0 p1 1 2, blJ p2 p3 1 1 7, blJ p4 p5 1 1 8, blR p6 p7 1 1]) (vs := [.agg (encBl (blA p0 p1 1 2)).toArray, .agg (encBl (blJ p2 p3 1 1 7)).toArray, .agg (encBl (blJ p4 p5 1 1 8)).toArray, .agg (encBl (blR p6 p7 1 1)).toArray]); rfl; rfl; exact cats4 _ _ _ _; rfl; rfl; rfl; exact hH; clear hA hH; rintro _ w ⟨oN, rfl, hH⟩ a hA))
  obtain ⟨p8, hb3⟩ : ∃ x, x = oN := ⟨_, rfl⟩; rw [← hb3] at hA hH; clear hb3 oN
  (refine st_op hA rfl rfl (by decide) (op_call rfl rfl rfl (names_spec _ p8 4 [blA p0 p1 1 2, blJ p2 p3 1 1 7, blJ p4 p5 1 1 8, blR p6 p7 1 1])) ?_; clear hA; rintro _ w ⟨oG, oX, rfl, hj⟩ a hA; replace hH := hH.join hj; clear hj)
  obtain ⟨g, hg⟩ : ∃ g, g = gA oG p8 oX p0 p1 p2 p3 p4 p5 p6 p7 := ⟨_, rfl⟩
  have hGA : encGs ⟨⟨oG, 1, [⟨0, ⟨p8, 4, [blA p0 p1 1 2, blJ p2 p3 1 1 7, blJ p4 p5 1 1 8, blR p6 p7 1 1]⟩⟩]⟩, nilV, nilV, ⟨oX, 4, xs4⟩, nilV⟩ = encGs g := by rw [hg]; rfl
  rw [hGA] at hA
  replace hH := hH.perm (H' := own 9 1 oX 4 4 (flat encX xs4) :: own 44 2 oG 1 1 (encG ⟨0, ⟨p8, 4, [blA p0 p1 1 2, blJ p2 p3 1 1 7, blJ p4 p5 1 1 8, blR p6 p7 1 1]⟩⟩) :: own 53 6 p8 4 4 (flat encBl [blA p0 p1 1 2, blJ p2 p3 1 1 7, blJ p4 p5 1 1 8, blR p6 p7 1 1]) :: own 65 2 p7 1 1 (encAt ⟨1, 2⟩) :: own 3 1 p6 1 1 [.int .i64 2] :: own 61 2 p5 1 1 [.int .i64 3, .slice p4 1 1] :: own 65 2 p4 1 1 (encAt ⟨2, 8⟩) :: own 61 2 p3 1 1 [.int .i64 3, .slice p2 1 1] :: own 65 2 p2 1 1 (encAt ⟨2, 7⟩) :: own 61 2 p1 2 2 [.int .i64 1, .slice none 0 0, .int .i64 2, .slice none 0 0] :: own 65 2 p0 1 1 (encAt ⟨1, 1⟩) :: []) (by (repeat (first | exact List.Perm.refl _ | exact List.Perm.nil | refine perm_pick 0 rfl ?_ | refine perm_pick 1 rfl ?_ | refine perm_pick 2 rfl ?_ | refine perm_pick 3 rfl ?_ | refine perm_pick 4 rfl ?_ | refine perm_pick 5 rfl ?_ | refine perm_pick 6 rfl ?_ | refine perm_pick 7 rfl ?_ | refine perm_pick 8 rfl ?_ | refine perm_pick 9 rfl ?_ | refine perm_pick 10 rfl ?_ | refine perm_pick 11 rfl ?_)))
  have hRg : RdGs w g := by rw [hg]; exact gA_rd (H := []) hH
  have hMg : MayP g := by rw [hg]; exact gA_may ..
  repeat' (first | (refine QT ?_; clear hA a; intro a hA) | (refine BT ?_; clear hA hH; rintro _ w ⟨bN, rfl, hH⟩ a hA) | (apply st_op0 hA rfl rfl; apply op_store_agg (vs := encGs g); rfl; rfl; exact hH; (repeat constructor); (repeat rfl); clear hH; rintro _ w hH) | (refine CT ?_ <;> repeat' refine CT ?_))
  obtain ⟨b2, hb3⟩ : ∃ x, x = bN := ⟨_, rfl⟩; rw [← hb3] at hA hH; clear hb3 bN
  have hxs : ∀ s ∈ g.xs.l, s.size ≤ 4611686018427387904 := by rw [hg]; exact xs4_sz
  have hfl : g.fs.l.length ≤ 100000 := by rw [hg]; exact (by decide : 1 ≤ 100000)
  have hbs : ∀ f ∈ g.fs.l, f.bs.l.length ≤ 1048576 ∧ ∀ bl ∈ f.bs.l, bl.e.to.l.length ≤ 1048576 := by rw [hg]; exact fun f hf => gA_bs _ _ _ _ _ _ _ _ _ _ _ f hf
  have hrun : encP3 (runP g 2 ⟨#[]⟩ 9) = encO3 1 empS ⟨#[56]⟩ := by rw [hg]; exact congrArg encP3 (gA_runP ..)
  have hR1 : RdGs w g := by rw [hg]; exact gA_rd (H := []) hH.tail
  repeat' (first | ((first | apply st_ex hA hH rfl rfl (by decide) | apply dr_ex hA rfl rfl rfl (by decide) | apply dr_exp hA rfl rfl rfl (by decide) | apply dr_ex3 hA hH rfl rfl rfl (by decide)); (first | (apply ex_load_st (vs := encGs g); rfl; rfl; exact cls_cb_all MEMT)); clear hA a; intro a hA) | (refine QT ?_; clear hA a; intro a hA))
  (refine st_op hA rfl rfl (by decide) (op_call rfl rfl rfl (Run_spec _ g 2 ⟨#[]⟩ 9 hR1 hfl hbs hxs (by decide) (hFI.keep hH.kp))) ?_; clear hA; rintro _ w ⟨rfl, hk⟩ a hA; replace hH := hH.keep hk; clear hk hR1)
  rw [hrun] at hA
  repeat' (first | (refine QT ?_; clear hA a; intro a hA) | (refine BT ?_; clear hA hH; rintro _ w ⟨bN, rfl, hH⟩ a hA) | (apply st_op0 hA rfl rfl; apply op_store_agg (vs := encO3 1 empS ⟨#[56]⟩); rfl; rfl; exact hH; (repeat constructor); (repeat rfl); clear hH; rintro _ w hH) | (refine CT ?_ <;> repeat' refine CT ?_))
  obtain ⟨b3, hb3⟩ : ∃ x, x = bN := ⟨_, rfl⟩; rw [← hb3] at hA hH; clear hb3 bN
  have hST : HS w0 noM [cb b2 25 (encGs g)] w := HS.left (H1 := [_]) hH.tail
  refine wp_drawT (qs [4, 5] (.two 0 7 (qs [1, 2] (.two 3 7 (.q 6 (.one 7 (.one 8 .nil))) (.one 3 (.q 6 (.one 8 .nil))))) (.one 0 (qs [1, 2] (.one 3 (.q 6 (.one 8 .nil))))))) (fun a w => ∃ b4 oA oF, HS w0 noM (cb b4 34 (encP oF 1 1 (⟨nilV, nilV, nilV, g.xs, nilV⟩ : Grs)) :: own 72 12 oF 1 1 (encF oA 0) :: own 65 2 oA 1 1 (encAt ⟨2, 5⟩) :: cb b3 29 (encO3 1 empS ⟨#[56]⟩) :: cb b2 25 (encGs g) :: own 9 1 oX 4 4 (flat encX xs4) :: own 44 2 oG 1 1 (encG ⟨0, ⟨p8, 4, [blA p0 p1 1 2, blJ p2 p3 1 1 7, blJ p4 p5 1 1 8, blR p6 p7 1 1]⟩⟩) :: own 53 6 p8 4 4 (flat encBl [blA p0 p1 1 2, blJ p2 p3 1 1 7, blJ p4 p5 1 1 8, blR p6 p7 1 1]) :: own 65 2 p7 1 1 (encAt ⟨1, 2⟩) :: own 3 1 p6 1 1 [.int .i64 2] :: own 61 2 p5 1 1 [.int .i64 3, .slice p4 1 1] :: own 65 2 p4 1 1 (encAt ⟨2, 8⟩) :: own 61 2 p3 1 1 [.int .i64 3, .slice p2 1 1] :: own 65 2 p2 1 1 (encAt ⟨2, 7⟩) :: own 61 2 p1 2 2 [.int .i64 1, .slice none 0 0, .int .i64 2, .slice none 0 0] :: own 65 2 p0 1 1 (encAt ⟨1, 1⟩) :: []) w ∧
    Sl 79 [(4, .pointer (some (bat b4 0))), (3, .pointer (some (bat b3 0))), (2, .pointer (some (bat b2 0))), (0, .bool false)] a) mixed (by decide +kernel) hST ?_ ?_
  · clear hST
    replace hH := hH.drew
    (repeat (apply dt_ex hA rfl rfl rfl (by decide); (first | exact EXT | exact EXT2 ); clear hA a; intro a hA))
    apply dt_two
    rotate_left
    · (apply dt_op hA rfl rfl rfl (by decide); apply op_alloc; exact hH; clear hA hH; rintro _ w ⟨bN, rfl, hH⟩; refine ⟨hH.pick (by exact MEMT), ?_⟩; intro a hA)
      (refine dt_op hA rfl rfl rfl (by decide) (op_call rfl rfl rfl (num_spec _ 5)) ?_; clear hA; rintro _ w ⟨oA, rfl, hj⟩; replace hH := hH.join hj; clear hj; refine ⟨hH.pick (by exact MEMT), ?_⟩; intro a hA)
      (repeat (apply dt_ex hA rfl rfl rfl (by decide); (first | exact EXT | exact EXT2 | (apply ex_build (szs := [(0, 1), (1, 1), (2, 1), (3, 1), (4, 1), (5, 4), (9, 1), (10, 1)]) (cs := (encB oA).toArray); exact run_szl (by (repeat (first | exact SzL.nil | refine SzL.cons ⟨_, rfl, by decide⟩ ?_))); rfl; rfl) | (apply ex_build (szs := [(0, 1), (1, 11)]) (cs := (encF oA 0).toArray); exact run_szl (by (repeat (first | exact SzL.nil | refine SzL.cons ⟨_, rfl, by decide⟩ ?_))); rfl; exact fill_F5 oA)); clear hA a; intro a hA))
      (apply dt_op hA rfl rfl rfl (by decide); apply op_sliceLit (xs := encF oA 0) (vs := [.agg (encF oA 0).toArray]); rfl; rfl; exact (Cats.cn (cs := encF oA 0) Cats.nil); rfl; rfl; rfl; exact hH; clear hA hH; rintro _ w ⟨oN, rfl, hH⟩; refine ⟨hH.pick (by exact MEMT), ?_⟩; intro a hA)
      (repeat (apply dt_ex hA rfl rfl rfl (by decide); (first | exact EXT | exact EXT2 | (apply ex_build_p (cs := (encP oN 1 1 (⟨nilV, nilV, nilV, g.xs, nilV⟩ : Grs)).toArray); rfl; (repeat (first | (intro _ h; exact absurd h (List.not_mem_nil)) | (refine List.forall_mem_cons.2 ⟨one_cell_of _ _, ?_⟩))); rfl)); clear hA a; intro a hA))
      (apply dt_op0 hA rfl rfl rfl; apply op_store_agg (vs := encP oN 1 1 (⟨nilV, nilV, nilV, g.xs, nilV⟩ : Grs)); rfl; rfl; exact hH; (repeat constructor); (repeat rfl); clear hH; rintro _ w hH; refine ⟨hH.pick (by exact MEMT), ?_⟩; apply dt_nil)
      exact ⟨_, oA, _, hH.perm (by (repeat (first | exact List.Perm.refl _ | exact List.Perm.nil | refine perm_pick 0 rfl ?_ | refine perm_pick 1 rfl ?_ | refine perm_pick 2 rfl ?_ | refine perm_pick 3 rfl ?_ | refine perm_pick 4 rfl ?_ | refine perm_pick 5 rfl ?_ | refine perm_pick 6 rfl ?_ | refine perm_pick 7 rfl ?_ | refine perm_pick 8 rfl ?_ | refine perm_pick 9 rfl ?_ | refine perm_pick 10 rfl ?_ | refine perm_pick 11 rfl ?_))), (hA.sub (by (repeat (first | exact trivial | refine ⟨rfl, ?_⟩)); first | done | fail "sub"))⟩
    (refine dt_op hA rfl rfl rfl (by decide) (op_call rfl rfl rfl (num_spec _ 5)) ?_; clear hA; rintro _ w ⟨oA, rfl, hj⟩; replace hH := hH.join hj; clear hj; refine ⟨hH.pick (by exact MEMT), ?_⟩; intro a hA)
    (repeat (apply dt_ex hA rfl rfl rfl (by decide); (first | exact EXT | exact EXT2 | (apply ex_build (szs := [(0, 1), (1, 1), (2, 1), (3, 1), (4, 1), (5, 4), (9, 1), (10, 1)]) (cs := (encB oA).toArray); exact run_szl (by (repeat (first | exact SzL.nil | refine SzL.cons ⟨_, rfl, by decide⟩ ?_))); rfl; rfl) | (apply ex_build (szs := [(0, 1), (1, 11)]) (cs := (encF oA 0).toArray); exact run_szl (by (repeat (first | exact SzL.nil | refine SzL.cons ⟨_, rfl, by decide⟩ ?_))); rfl; exact fill_F5 oA)); clear hA a; intro a hA))
    apply dt_two
    rotate_left
    · (apply dt_op hA rfl rfl rfl (by decide); apply op_alloc; exact hH; clear hA hH; rintro _ w ⟨bN, rfl, hH⟩; refine ⟨hH.pick (by exact MEMT), ?_⟩; intro a hA)
      (apply dt_op hA rfl rfl rfl (by decide); apply op_sliceLit (xs := encF oA 0) (vs := [.agg (encF oA 0).toArray]); rfl; rfl; exact (Cats.cn (cs := encF oA 0) Cats.nil); rfl; rfl; rfl; exact hH; clear hA hH; rintro _ w ⟨oN, rfl, hH⟩; refine ⟨hH.pick (by exact MEMT), ?_⟩; intro a hA)
      (repeat (apply dt_ex hA rfl rfl rfl (by decide); (first | exact EXT | exact EXT2 | (apply ex_build_p (cs := (encP oN 1 1 (⟨nilV, nilV, nilV, g.xs, nilV⟩ : Grs)).toArray); rfl; (repeat (first | (intro _ h; exact absurd h (List.not_mem_nil)) | (refine List.forall_mem_cons.2 ⟨one_cell_of _ _, ?_⟩))); rfl)); clear hA a; intro a hA))
      (apply dt_op0 hA rfl rfl rfl; apply op_store_agg (vs := encP oN 1 1 (⟨nilV, nilV, nilV, g.xs, nilV⟩ : Grs)); rfl; rfl; exact hH; (repeat constructor); (repeat rfl); clear hH; rintro _ w hH; refine ⟨hH.pick (by exact MEMT), ?_⟩; apply dt_nil)
      exact ⟨_, oA, _, hH.perm (by (repeat (first | exact List.Perm.refl _ | exact List.Perm.nil | refine perm_pick 0 rfl ?_ | refine perm_pick 1 rfl ?_ | refine perm_pick 2 rfl ?_ | refine perm_pick 3 rfl ?_ | refine perm_pick 4 rfl ?_ | refine perm_pick 5 rfl ?_ | refine perm_pick 6 rfl ?_ | refine perm_pick 7 rfl ?_ | refine perm_pick 8 rfl ?_ | refine perm_pick 9 rfl ?_ | refine perm_pick 10 rfl ?_ | refine perm_pick 11 rfl ?_))), (hA.sub (by (repeat (first | exact trivial | refine ⟨rfl, ?_⟩)); first | done | fail "sub"))⟩
    (apply dt_op hA rfl rfl rfl (by decide); apply op_sliceLit (xs := encF oA 0) (vs := [.agg (encF oA 0).toArray]); rfl; rfl; exact (Cats.cn (cs := encF oA 0) Cats.nil); rfl; rfl; rfl; exact hH; clear hA hH; rintro _ w ⟨oN, rfl, hH⟩; refine ⟨hH.pick (by exact MEMT), ?_⟩; intro a hA)
    (repeat (apply dt_ex hA rfl rfl rfl (by decide); (first | exact EXT | exact EXT2 | (apply ex_build_p (cs := (encP oN 1 1 (⟨nilV, nilV, nilV, g.xs, nilV⟩ : Grs)).toArray); rfl; (repeat (first | (intro _ h; exact absurd h (List.not_mem_nil)) | (refine List.forall_mem_cons.2 ⟨one_cell_of _ _, ?_⟩))); rfl)); clear hA a; intro a hA))
    (apply dt_op hA rfl rfl rfl (by decide); apply op_alloc; exact hH; clear hA hH; rintro _ w ⟨bN, rfl, hH⟩; refine ⟨hH.pick (by exact MEMT), ?_⟩; intro a hA)
    (apply dt_op0 hA rfl rfl rfl; apply op_store_agg (vs := encP oN 1 1 (⟨nilV, nilV, nilV, g.xs, nilV⟩ : Grs)); rfl; rfl; exact hH; (repeat constructor); (repeat rfl); clear hH; rintro _ w hH; refine ⟨hH.pick (by exact MEMT), ?_⟩; apply dt_nil)
    exact ⟨_, oA, _, hH.perm (by (repeat (first | exact List.Perm.refl _ | exact List.Perm.nil | refine perm_pick 0 rfl ?_ | refine perm_pick 1 rfl ?_ | refine perm_pick 2 rfl ?_ | refine perm_pick 3 rfl ?_ | refine perm_pick 4 rfl ?_ | refine perm_pick 5 rfl ?_ | refine perm_pick 6 rfl ?_ | refine perm_pick 7 rfl ?_ | refine perm_pick 8 rfl ?_ | refine perm_pick 9 rfl ?_ | refine perm_pick 10 rfl ?_ | refine perm_pick 11 rfl ?_))), (hA.sub (by (repeat (first | exact trivial | refine ⟨rfl, ?_⟩)); first | done | fail "sub"))⟩
  clear hA hH hST
  rintro a w ⟨b4, oA, oF, hH, hA⟩
  have hxl : g.xs.l = xs4 := by rw [hg]; rfl
  have hRx : RdV w encX g.xs := by rw [hg]; exact (gA_rd (H := []) hH.tail.tail.tail.tail.tail).2.2.2.2.1
  have hF1 := hH.own_rd (T := 72) (.tail _ (.head _))
  have hA1 := hH.own_rd (T := 65) (o := oA) (sz := 2) (.tail _ (.tail _ (.head _)))
  repeat' (first | ((first | apply st_ex hA hH rfl rfl (by decide) | apply dr_ex hA rfl rfl rfl (by decide) | apply dr_exp hA rfl rfl rfl (by decide) | apply dr_ex3 hA hH rfl rfl rfl (by decide)); (first | (apply ex_load_st (vs := encP oF 1 1 (⟨nilV, nilV, nilV, g.xs, nilV⟩ : Grs)); rfl; rfl; exact cls_cb_all MEMT)); clear hA a; intro a hA) | (refine QT ?_; clear hA a; intro a hA) | (refine CT ?_ <;> repeat' refine CT ?_))
  (refine st_op hA rfl rfl (by decide) (op_call rfl rfl rfl (of1_spec _ (⟨nilV, nilV, nilV, g.xs, nilV⟩ : Grs) oF oA 1 hF1 hA1 (rdv_nil _ _) (rdv_nil _ _) hRx (rdv_nil _ _) hxl rfl rfl rfl)) ?_; clear hA; rintro _ w ⟨q1, q2, q3, q4, q5, q6, q7, k1, k2, k3, k4, k5, k6, rfl, hj⟩ a hA; replace hH := hH.join hj; clear hj)
  obtain ⟨h, hh⟩ : ∃ h, h = h5 q1 q2 q3 q4 q5 q6 q7 k1 k2 k3 k4 k5 k6 (⟨nilV, nilV, nilV, g.xs, nilV⟩ : Grs) := ⟨_, rfl⟩
  rw [← hh] at hA
  have hmay : MayP h := by rw [hh]; exact may5 (n := 5) (of := none) (oc := 0) (by decide) rfl hxl rfl rfl rfl
  have hrun5 : (runP h 2 ⟨#[]⟩ 9).2.2 = ⟨#[53]⟩ := h5_runP (by rw [hh]; rfl) hmay
  repeat' (first | (refine QT ?_; clear hA a; intro a hA) | (refine BT ?_; clear hA hH; rintro _ w ⟨bN, rfl, hH⟩ a hA) | (apply st_op0 hA rfl rfl; apply op_store_agg (vs := encGs h); rfl; rfl; exact hH; (repeat constructor); (repeat rfl); clear hH; rintro _ w hH) | (refine CT ?_ <;> repeat' refine CT ?_))
  obtain ⟨b5, hb3⟩ : ∃ x, x = bN := ⟨_, rfl⟩; rw [← hb3] at hA hH; clear hb3 bN
  repeat' (first | ((first | apply st_ex hA hH rfl rfl (by decide) | apply dr_ex hA rfl rfl rfl (by decide) | apply dr_exp hA rfl rfl rfl (by decide) | apply dr_ex3 hA hH rfl rfl rfl (by decide)); (first | (apply ex_build_p (cs := (encP none 0 0 gr0s).toArray); rfl; (repeat (first | (intro _ h; exact absurd h (List.not_mem_nil)) | (refine List.forall_mem_cons.2 ⟨one_cell_of _ _, ?_⟩))); rfl)); clear hA a; intro a hA) | (refine QT ?_; clear hA a; intro a hA))
  have hA2 : Rd w oA (encAt at5) := hH.own_rd (T := 65) (o := oA) (sz := 2) (n := 1) (cap := 1) (xs := encAt ⟨2, 5⟩) (by repeat (first | exact List.Mem.head _ | apply List.Mem.tail))
  (refine st_op hA rfl rfl (by decide) (op_call rfl rfl rfl (of0_spec _ gr0s rfl (rdv_nil _ _) (rdv_nil _ _) (rdv_nil _ _) (rdv_nil _ _) oA hA2)) ?_; clear hA; rintro _ w ⟨rfl, hk⟩ a hA; replace hH := hH.keep hk; clear hk hA2)
  repeat' (first | (refine QT ?_; clear hA a; intro a hA) | (refine BT ?_; clear hA hH; rintro _ w ⟨bN, rfl, hH⟩ a hA) | (apply st_op0 hA rfl rfl; apply op_store_agg (vs := encGs gr0s); rfl; rfl; exact hH; (repeat constructor); (repeat rfl); clear hH; rintro _ w hH) | (refine CT ?_ <;> repeat' refine CT ?_))
  obtain ⟨b7, hb3⟩ : ∃ x, x = bN := ⟨_, rfl⟩; rw [← hb3] at hA hH; clear hb3 bN
  have hRg2 : RdGs w g := by rw [hg]; exact gA_rd (H := []) (HS.right (H1 := [_, _, _, _, _, _, _, _, _, _, _, _, _, _]) hH)
  repeat' (first | ((first | apply st_ex hA hH rfl rfl (by decide) | apply dr_ex hA rfl rfl rfl (by decide) | apply dr_exp hA rfl rfl rfl (by decide) | apply dr_ex3 hA hH rfl rfl rfl (by decide)); (first | (apply ex_load_st (vs := encGs g); rfl; rfl; exact cls_cb_all MEMT)); clear hA a; intro a hA) | (refine QT ?_; clear hA a; intro a hA))
  (refine st_op hA rfl rfl (by decide) (op_call rfl rfl rfl (May_spec _ g hRg2 hfl hbs)) ?_; clear hA; rintro _ w ⟨b, rfl, hk, hb⟩ a hA; replace hH := hH.keep hk; clear hk hRg2)
  obtain rfl : b = true := hb.2 hMg
  repeat' (first | (refine GT ?_ ?_ <;> intro hg <;> clear hA a <;> intro a hA <;> (first | exact FA | replace hg := of_decide_eq_true hg | replace hg := of_decide_eq_false hg | skip)) | ((first | apply st_ex hA hH rfl rfl (by decide) | apply dr_ex hA rfl rfl rfl (by decide) | apply dr_exp hA rfl rfl rfl (by decide) | apply dr_ex3 hA hH rfl rfl rfl (by decide)); (first | (apply ex_build_p (cs := (encGs gr0s).toArray); rfl; (repeat (first | (intro _ h; exact absurd h (List.not_mem_nil)) | (refine List.forall_mem_cons.2 ⟨one_cell_of _ _, ?_⟩))); rfl)); clear hA a; intro a hA) | (refine QT ?_; clear hA a; intro a hA))
  (refine st_op hA rfl rfl (by decide) (op_call rfl rfl rfl (May_spec _ gr0s (gr0s_rd _) (by decide) (fun f hf => absurd hf (List.not_mem_nil)))) ?_; clear hA; rintro _ w ⟨b, rfl, hk, hb0⟩ a hA; replace hH := hH.keep hk; clear hk)
  obtain rfl : b = false := by
    cases b with
    | false => rfl
    | true => exact absurd (hb0.1 rfl) (may0 rfl)
  repeat' (first | (refine GT ?_ ?_ <;> intro hg <;> clear hA a <;> intro a hA <;> (first | exact FA | replace hg := of_decide_eq_true hg | replace hg := of_decide_eq_false hg | skip)) | ((first | apply st_ex hA hH rfl rfl (by decide) | apply dr_ex hA rfl rfl rfl (by decide) | apply dr_exp hA rfl rfl rfl (by decide) | apply dr_ex3 hA hH rfl rfl rfl (by decide)); (first | (apply ex_load_st (vs := encO3 1 empS ⟨#[56]⟩); rfl; rfl; exact cls_cb_all MEMT) | (apply ex_build_p (cs := (encO3 1 empS ⟨#[56]⟩).toArray); rfl; (repeat (first | (intro _ h; exact absurd h (List.not_mem_nil)) | (refine List.forall_mem_cons.2 ⟨one_cell_of _ _, ?_⟩))); rfl) | (apply ex_eqlOs (p := (1, empS, ⟨#[56]⟩)); rfl; rfl)); clear hA a; intro a hA) | (refine QT ?_; clear hA a; intro a hA))
  have hRh : RdGs w h := by
    rw [hh]
    exact h5_rd (g := (⟨nilV, nilV, nilV, g.xs, nilV⟩ : Grs)) (hH.tail.tail)
  have hxh : ∀ s ∈ h.xs.l, s.size ≤ 4611686018427387904 := by rw [hh]; show ∀ s ∈ g.xs.l, _; exact hxs
  have hfh : h.fs.l.length ≤ 100000 := by rw [hh]; exact (by decide : 1 ≤ 100000)
  have hbh : ∀ f ∈ h.fs.l, f.bs.l.length ≤ 1048576 ∧ ∀ bl ∈ f.bs.l, bl.e.to.l.length ≤ 1048576 := by rw [hh]; exact h5_bs (g := (⟨nilV, nilV, nilV, g.xs, nilV⟩ : Grs))
  (refine st_op hA rfl rfl (by decide) (op_call rfl rfl rfl (Run_spec _ h 2 ⟨#[]⟩ 9 hRh hfh hbh hxh (by decide) (hFI.keep hH.kp))) ?_; clear hA; rintro _ w ⟨rfl, hk⟩ a hA; replace hH := hH.keep hk; clear hk hRh)
  obtain ⟨⟨r1, r2, r3⟩, hr⟩ : ∃ r, r = runP h 2 ⟨#[]⟩ 9 := ⟨_, rfl⟩
  rw [← hr] at hA hrun5
  dsimp only at hrun5
  subst hrun5
  repeat' (first | (refine GT ?_ ?_ <;> intro hg <;> clear hA a <;> intro a hA <;> (first | exact FA | replace hg := of_decide_eq_true hg | replace hg := of_decide_eq_false hg | skip)) | ((first | apply st_ex hA hH rfl rfl (by decide) | apply dr_ex hA rfl rfl rfl (by decide) | apply dr_exp hA rfl rfl rfl (by decide) | apply dr_ex3 hA hH rfl rfl rfl (by decide)); (first | (apply ex_eqlSs (m := ⟨#[53]⟩); rfl; rfl) | (apply ex_field (v := .string ⟨#[53]⟩); rfl; rfl; exact pk_9; rfl)); clear hA a; intro a hA) | (refine QT ?_; clear hA a; intro a hA) | (refine CT ?_ <;> repeat' refine CT ?_))
  exact rt1 (.inl rfl) rfl hA rfl ⟨rfl, hH.kp⟩
end Go.Proofs.YtenlcdokaadobaaGreatDoor
namespace Go.Fw
open Go Go.RowKit
section
variable {P : Program} {N : Nat} {l : List (Nat × Value)} {C : World → Prop} {d : Option Tmp} {T : TypeId} {pos : String} {af : Array Edge} {g : Option (Nat × Bool)}
def min2 (m n : Int) : Int := if n < m then n else m
theorem ex_min3 {ats : Array TypeId} {x y z : Operand} {k : IntKind} {m n o : Int} (hx : ev l x = some (.int k m)) (hy : ev l y = some (.int k n)) (hz : ev l z = some (.int k o)) : Ex P N l C ⟨d, .call ⟨.builtin .min, #[x, y, z], ats⟩, T, pos, af, g⟩ (.int k (min2 (min2 m n) o)) := by
  intro a w hA _
  simp [execOp, resolve, invoke, builtin, hA.ev hx, hA.ev hy, hA.ev hz, min2, Builtin.min_, Builtin.min2]
  rfl
end
end Go.Fw
namespace Go.Proofs.YtenlcdokaadobaaGreatDoor
open Go Go.Fw
set_option linter.unusedVariables false
set_option maxRecDepth 10000 attribute [local irreducible] Code.wp wpList Calls Ex Op1 sat bat blk cb own Go.Fw.mp Go.Fw.mpO Go.Fw.mpI Go.Fw.mpE Go.Fw.itr HS Rd Ret wkD Hp Cl Cls Exit.then Exit.inBlock Exit.noGoto bodyPost Go.Fw.flat wk2 Go.Fw.all Go.Fw.owns wpOp
attribute [local irreducible] sk mpK sko mvO entK opM Go.Fw.mset Go.Fw.mv opK

set_option maxHeartbeats 4000000 in
theorem large_spec (w0 : World) (g : Grs) (hR : RdGs w0 g) (hs : SzG 1048576 g) : Ret Tryz.prog 11 #[.agg (encGs g).toArray] w0 (fun r w => ∃ b, r = .bool b ∧ (b = true ↔ 50 < g.fs.l.length ∨ 1000 < grsN g) ∧ Kp w0 noM w) := by
  have hH : HS w0 noM [] w0 := HS.init w0 noM
  have hfs := hs.fs
  (refine enter (N := 12) Tryz.func11 rfl Tryz.ntmps11 rfl ?_; intro a hA; dsimp only [sl0, Nat.reduceAdd] at hA)
  by_cases hl : 50 < g.fs.l.length
  · repeat' (first | (refine GT ?_ ?_ <;> intro hg <;> clear hA a <;> intro a hA <;> (first | exact FA | replace hg := of_decide_eq_true hg | replace hg := of_decide_eq_false hg | skip)) | (refine QT ?_; clear hA a; intro a hA) | (refine BT ?_; clear hA hH; rintro _ w ⟨bN, rfl, hH⟩ a hA) | (refine CT ?_ <;> repeat' refine CT ?_))
    exact rt1 (.inl rfl) rfl hA rfl ⟨true, rfl, iff_of_true rfl (.inl hl), hH.kp⟩
  repeat' (first | (refine GT ?_ ?_ <;> intro hg <;> clear hA a <;> intro a hA <;> (first | exact FA | replace hg := of_decide_eq_true hg | replace hg := of_decide_eq_false hg | skip)) | ((first | apply st_ex hA hH rfl rfl (by decide) | apply dr_ex hA rfl rfl rfl (by decide) | apply dr_exp hA rfl rfl rfl (by decide) | apply dr_ex3 hA hH rfl rfl rfl (by decide)); (first | (apply ex_load_st (vs := encGs g); rfl; rfl; exact cls_cb_all MEMT)); clear hA a; intro a hA) | (refine QT ?_; clear hA a; intro a hA) | (refine BT ?_; clear hA hH; rintro _ w ⟨bN, rfl, hH⟩ a hA) | (refine CT ?_ <;> repeat' refine CT ?_))
  (refine st_op hA rfl rfl (by decide) (op_call rfl rfl rfl (Parts_spec _ g 1000 (by decide) (hR.keep hH.kp) hs)) ?_; clear hA; rintro _ w ⟨n, rfl, hn, hk⟩ a hA; replace hH := hH.keep hk; clear hk)
  by_cases h2 : n ≤ 1000
  · repeat' (first | (refine QT ?_; clear hA a; intro a hA) | (refine CT ?_ <;> repeat' refine CT ?_))
    exact rt1 (.inl rfl) rfl hA rfl ⟨_, rfl, iff_of_false (fun h => (by have := of_decide_eq_true h; omega)) (fun h => (by have := hn.1 h2; omega)), hH.kp⟩
  · repeat' (first | (refine QT ?_; clear hA a; intro a hA) | (refine CT ?_ <;> repeat' refine CT ?_))
    exact rt1 (.inl rfl) rfl hA rfl ⟨_, rfl, iff_of_true (decide_eq_true (by omega)) (.inr (by have := fun h => h2 (hn.2 h); omega)), hH.kp⟩
end Go.Proofs.YtenlcdokaadobaaGreatDoor
namespace Go.Proofs.YtenlcdokaadobaaGreatDoor
open Go Go.Fw
set_option linter.unusedVariables false
theorem texts_app {op : Int} {l : List Vl} {wd wd' : Wd} {v : Vl} (h : textsF op l wd = .val v wd') : ∃ t, wd'.out = wd.out ++ t := by
  unfold textsF stk at h
  repeat' split at h
  all_goals first | (cases h; done) | (cases h; exact ⟨[], (List.append_nil _).symm⟩)
theorem arrays_app {op : Int} {l : List Vl} {wd wd' : Wd} {v : Vl} (h : arraysF op l wd = .val v wd') : ∃ t, wd'.out = wd.out ++ t := by
  unfold arraysF stk at h
  repeat' split at h
  all_goals first | (cases h; done) | (cases h; exact ⟨[], (List.append_nil _).symm⟩)
theorem op_app {op : Int} {l : List Vl} {wd wd' : Wd} {v : Vl} (h : opF op l wd = .val v wd') : ∃ t, wd'.out = wd.out ++ t := by
  unfold opF stk at h
  repeat' split at h
  all_goals first | (cases h; done) | exact texts_app h | exact arrays_app h | (cases h; exact ⟨[], (List.append_nil _).symm⟩) | (cases h; exact ⟨_, rfl⟩)
theorem plain_app {r : Stp} {l cs : List Vl} {wd wd' : Wd} {v : Vl} (h : plainF r l cs wd = .val v wd') : ∃ t, wd'.out = wd.out ++ t := by
  by_cases h2 : r.k = 2
  · rw [pl_2 h2] at h; exact op_app h
  unfold plainF stk at h
  rw [if_neg h2] at h
  repeat' split at h
  all_goals first | (cases h; done) | (cases h; exact ⟨[], (List.append_nil _).symm⟩)
def SrO (out : List Nat) : Sr → Prop
  | .go m => ∃ t, m.wd.out = out ++ t
  | .stop k s wd => k ≠ 2 ∧ ∃ t, wd.out = out ++ t
theorem SrO.stuck (wd : Wd) : SrO wd.out (stuckF wd) := ⟨by decide, [], (List.append_nil _).symm⟩
theorem SrO.same {wd : Wd} {sk : List Fm} {fm : Fm} : SrO wd.out (.go ⟨wd, sk, fm⟩) := ⟨[], (List.append_nil _).symm⟩
theorem enter_o (f x : Vl) (wd : Wd) (sk : List Fm) : SrO wd.out (enterF f x wd sk) := by
  unfold enterF
  split
  · exact .same
  · exact .stuck wd
theorem call_o (f x : Vl) (h : Option Clo) (wd : Wd) (sk : List Fm) (fm : Fm) : SrO wd.out (callF f x h wd sk fm) := by
  unfold callF
  split
  · exact .same
  · exact .stuck wd
theorem raise_o (g : Grs) (n : Int) (wd : Wd) (sk : List Fm) : SrO wd.out (raiseF g n wd sk) := by
  unfold raiseF
  split
  · exact .stuck wd
  split
  · exact .same
  · exact ⟨by decide, [], (List.append_nil _).symm⟩
theorem back_o (g : Grs) (kd : Int) (x : Vl) (wd : Wd) (sk : List Fm) : SrO wd.out (backF g kd x wd sk) := by
  unfold backF
  split
  · split
    · exact ⟨by decide, [], (List.append_nil _).symm⟩
    · exact .stuck wd
  · exact .same
theorem ins_o (g : Grs) (fm : Fm) (i : Ins) (wd : Wd) (sk : List Fm) : SrO wd.out (insF g fm i wd sk) := by
  unfold insF
  split
  · exact call_o ..
  split
  · split
    · split
      · exact call_o ..
      · exact .stuck wd
    · exact .stuck wd
  split
  · split
    · exact call_o ..
    · exact .stuck wd
  split
  · exact raise_o ..
  · rename_i v wd' hp
    obtain ⟨t, ht⟩ := plain_app hp
    split
    · exact ⟨by decide, t, ht⟩
    · exact ⟨t, ht⟩
theorem last_o (g : Grs) (kd : Int) (fm : Fm) (e : En) (wd : Wd) (sk : List Fm) : SrO wd.out (lastF g kd fm e wd sk) := by
  unfold lastF
  split
  · exact back_o ..
  split
  · exact enter_o ..
  split
  · exact .same
  split
  · exact .stuck wd
  split
  · exact raise_o ..
  split
  · exact .same
  · exact .same
theorem step_o (g : Grs) (kd : Int) (m : Mc) : SrO m.wd.out (stepF g kd m) := by
  unfold stepF
  split
  · exact ins_o ..
  · exact last_o ..
theorem run_out (g : Grs) (kd : Int) : ∀ (n : Nat) (m : Mc), ∃ t, (runF g kd n m).2.2.out = m.wd.out ++ t
  | 0, m => ⟨[], (List.append_nil _).symm⟩
  | n + 1, m => by
    have h := step_o g kd m
    unfold runF
    cases hs : stepF g kd m with
    | go m' =>
      rw [hs] at h
      obtain ⟨t, ht⟩ := h
      obtain ⟨u, hu⟩ := run_out g kd n m'
      exact ⟨t ++ u, by rw [← List.append_assoc, ← ht]; exact hu⟩
    | stop k s wd =>
      rw [hs] at h
      exact h.2
theorem run_more (g : Grs) (kd : Int) : ∀ (n k : Nat) (m : Mc), (runF g kd n m).1 ≠ 2 → runF g kd (n + k) m = runF g kd n m
  | 0, k, m, h => absurd rfl h
  | n + 1, k, m, h => by
    rw [Nat.add_right_comm, runF, runF]
    rw [runF] at h
    cases hs : stepF g kd m with
    | go m' =>
      rw [hs] at h
      exact run_more g kd n k m' h
    | stop k' s wd => rfl
theorem run_less (g : Grs) (kd : Int) : ∀ (n k : Nat) (m : Mc), (runF g kd n m).1 = 2 → (runF g kd n m).2.1 = empS ∧ ∃ t, (runF g kd (n + k) m).2.2.out = (runF g kd n m).2.2.out ++ t
  | 0, k, m, h => ⟨rfl, by rw [Nat.zero_add]; exact run_out g kd k m⟩
  | n + 1, k, m, h => by
    have ho := step_o g kd m
    rw [Nat.add_right_comm, runF, runF]
    rw [runF] at h
    cases hs : stepF g kd m with
    | go m' =>
      rw [hs] at h
      exact run_less g kd n k m' h
    | stop k' s wd =>
      rw [hs] at h ho
      exact absurd h ho.1
def WdI (w w' : Wd) : Prop := w.inp.size ≤ w'.inp.size + 1
theorem WdI.same (w : Wd) : WdI w w := Nat.le_succ _
theorem runP_more {g : Grs} {kd : Int} {s : ByteArray} {a b : Int} (hab : a ≤ b) (h : (runP g kd s a).1 ≠ 2) : runP g kd s a = runP g kd s b := by
  by_cases hm : MayP g
  · rw [runP_t hm] at h
    rw [runP_t hm, runP_t hm]
    obtain ⟨k, hk⟩ : ∃ k, b.toNat = a.toNat + k := ⟨b.toNat - a.toNat, by omega⟩
    rw [hk, run_more g kd a.toNat k _ h]
  · rw [runP_f hm, runP_f hm]
theorem ofB_app (x y : List Nat) : (ofB (x ++ y)).data.toList = (ofB x).data.toList ++ (ofB y).data.toList := by simp [ofB]
theorem runP_less {g : Grs} {kd : Int} {s : ByteArray} {a b : Int} (hab : a ≤ b) (h : (runP g kd s a).1 = 2) : (runP g kd s a).2.2 = empS ∧ ∃ t, (runP g kd s b).2.1.data.toList = (runP g kd s a).2.1.data.toList ++ t := by
  by_cases hm : MayP g
  · rw [runP_t hm] at h ⊢
    rw [runP_t hm]
    obtain ⟨k, hk⟩ : ∃ k, b.toNat = a.toNat + k := ⟨b.toNat - a.toNat, by omega⟩
    obtain ⟨h1, t, h2⟩ := run_less g kd a.toNat k _ h
    refine ⟨h1, (ofB t).data.toList, ?_⟩
    show (ofB (runF g kd b.toNat (firstM s)).2.2.out).data.toList = _
    rw [hk, h2, ofB_app]
  · rw [runP_f hm] at h
    exact absurd h (by decide)
end Go.Proofs.YtenlcdokaadobaaGreatDoor
namespace Go.Proofs.YtenlcdokaadobaaGreatDoor
open Go Go.Fw
set_option linter.unusedVariables false
theorem bulk_pos {H : Type} (d : DataW H) : 1 ≤ Rows.uptoBulk d := by
  cases d with
  | lit l => cases l <;> simp [Rows.uptoBulk]
  | _ => simp [Rows.uptoBulk]
theorem bulk_mem {H : Type} {d : DataW H} : ∀ {l : List (DataW H)}, d ∈ l → Rows.uptoBulk d ≤ Rows.uptoBulkAll l
  | x :: l, h => by
    rw [Rows.uptoBulkAll]
    rcases List.mem_cons.1 h with rfl | h
    · omega
    · have := bulk_mem h; omega
theorem bulk_len {H : Type} : ∀ (l : List (DataW H)), l.length ≤ Rows.uptoBulkAll l
  | [] => Nat.zero_le _
  | x :: l => by
    rw [Rows.uptoBulkAll, List.length_cons]
    have := bulk_pos x
    have := bulk_len l
    omega
theorem bulk_of {H : Type} {ds : List (DataW H)} {d : DataW H} (hk : ∃ gs, Rows.uptoSmall H (ds ++ gs) = true) (hd : d ∈ ds) : Rows.uptoBulk d ≤ 1048576 := by
  obtain ⟨gs, hk⟩ := hk
  have h : Rows.uptoBulkAll (ds ++ gs) ≤ 1048576 := of_decide_eq_true hk
  have := bulk_mem (List.mem_append_left gs hd)
  omega
theorem bulk_slice {H : Type} {elems rest : List (DataW H)} : elems.length ≤ Rows.uptoBulk (.slice elems rest) := by
  rw [Rows.uptoBulk]
  have := bulk_len elems
  omega
end Go.Proofs.YtenlcdokaadobaaGreatDoor
namespace Go.Proofs.YtenlcdokaadobaaGreatDoor
open Go Go.Fw Go.ChangeShapes Go.WideShapes Go.ChangeAt Go.RowKit Go.Deep
set_option linter.unusedVariables false
section
variable {H : Type} {enc0 : TypeId × Value → H} {w : World} {held : Bool}
def Opn (enc0 : TypeId × Value → H) (w : World) (held : Bool) (t : TypeId) {α : Type} (enc : α → List Value) (K : α → Prop) : Prop :=
  ∀ (fuel : Nat) (cs : List Value) (x : DataW H × List MemPlace), DataW.trod enc0 Tryz.prog w 0 (fun _ => true) held fuel t cs = some x → ∃ a, cs = enc a ∧ (Rows.uptoBulk x.1 ≤ 1048576 → K a)
theorem opn_int {t : TypeId} {k : IntKind} [h : TIn Tryz.prog t k] : Opn enc0 w held t (fun n : Int => [.int k n]) (fun _ => True) := fun fuel cs x hx => by
  obtain ⟨n, rfl, _⟩ := DataW.trod_int h.eq hx
  exact ⟨n, rfl, fun _ => trivial⟩
theorem rd_of0 {a : Addr} {vs : List Value} (h : ∀ j v, vs[j]? = some v → w.cell? (a.add j) = some v) : Rd w (some a) vs := by
  cases vs with
  | nil => exact ⟨fun h => absurd h (by decide), fun j u h => by simp at h⟩
  | cons v vs =>
    have h1 := World.cell?_spot (h 0 v rfl)
    have hs : a.spot = none := by simpa [Addr.add] using h1
    refine ⟨fun _ => ⟨a.block, a.off, by rw [← hs]⟩, fun j u hj => ?_⟩
    rw [← add_sat a hs]
    exact h j u hj
theorem opn_slice {t e : TypeId} [ht : TSl Tryz.prog t e] {α : Type} {enc : α → List Value} {K : α → Prop} {sz : Nat} (he : Opn enc0 w held e enc K) (hc : Tryz.prog.cellsOf e = sz) (hsz : 0 < sz) (hl : ∀ a, (enc a).length = sz) :
    Opn enc0 w held t (fun v : Option Addr × Nat × List α => [.slice v.1 v.2.2.length v.2.1]) (fun v => (Rd w v.1 (flat enc v.2.2) ∧ v.2.2.length ≤ v.2.1 ∧ v.2.1 ≤ maxLen) ∧ v.2.2.length ≤ 1048576 ∧ ∀ a ∈ v.2.2, K a) := fun fuel cs x hx => by
  rcases DataW.trod_slice ht.eq hx with ⟨rfl, rfl⟩ | ⟨a, len, cap, elems, rest, n, rfl, rfl, rfl, hb, hle, hm, hlen, hel, _, _⟩
  · exact ⟨(none, 0, []), rfl, fun _ => ⟨⟨⟨fun h => absurd h (Nat.lt_irrefl 0), fun j u h => by simp [flat] at h⟩, Nat.le_refl _, Nat.zero_le _⟩, Nat.zero_le _, fun a ha => absurd ha List.not_mem_nil⟩⟩
  · obtain ⟨l, hll, hp⟩ := choose_list (fun i (p : α) => (∀ j v, (enc p)[j]? = some v → w.cell? (a.add (i * sz + j)) = some v) ∧ ∀ y, elems[i]? = some y → Rows.uptoBulk y.1 ≤ 1048576 → K p) len (fun i hi => by
      have h1 := hel i hi
      have h2 : elems[i]? = some (elems[i]'(by omega)) := List.getElem?_eq_getElem (by omega)
      rw [h2, hc] at h1
      obtain ⟨cs', hcs, ht'⟩ := Option.bind_eq_some_iff.1 h1
      obtain ⟨_, hcl, hat⟩ := World.cells?_some hcs
      obtain ⟨p, rfl, hK⟩ := he _ _ _ ht'
      refine ⟨p, fun j v hj => ?_, fun y hy hbk => ?_⟩
      · have hjl := (List.getElem?_eq_some_iff.1 hj).1
        rw [hl] at hjl
        rw [← Go.Deep.add_add, hat j hjl, hj]
      · rw [h2] at hy
        cases hy
        exact hK hbk)
    subst hll
    refine ⟨(some a, cap, l), rfl, fun hbk => ⟨⟨rd_of0 fun j v hj => ?_, hle, hm⟩, ?_, fun p hp' => ?_⟩⟩
    · dsimp only at hj
      have hjl := (List.getElem?_eq_some_iff.1 hj).1
      rw [flat_length hl] at hjl
      have hjq : j / sz < l.length := Nat.div_lt_of_lt_mul (by rw [Nat.mul_comm]; exact hjl)
      obtain ⟨p, hpp⟩ : ∃ p, l[j / sz]? = some p := ⟨_, List.getElem?_eq_getElem hjq⟩
      have h6 := (hp _ _ hpp).1 (j % sz)
      have ej : j / sz * sz + j % sz = j := by rw [Nat.mul_comm]; exact Nat.div_add_mod j sz
      obtain ⟨u, hu⟩ : ∃ u, (enc p)[j % sz]? = some u := ⟨_, List.getElem?_eq_getElem (by rw [hl]; exact Nat.mod_lt _ hsz)⟩
      have h7 := flat_get hl hpp hu
      rw [ej, hj] at h7
      have h8 := h6 u hu
      rw [ej] at h8
      rw [h8, ← Option.some.inj h7]
    · have := bulk_slice (elems := elems.map (·.1)) (rest := rest.map (·.1))
      rw [List.length_map] at this
      dsimp only at hbk ⊢
      omega
    · dsimp only at hp' hbk
      obtain ⟨i, hi⟩ := List.getElem?_of_mem hp'
      have hil := (List.getElem?_eq_some_iff.1 hi).1
      obtain ⟨y, hy⟩ : ∃ y, elems[i]? = some y := ⟨_, List.getElem?_eq_getElem (by omega)⟩
      refine (hp i p hi).2 y hy ?_
      have h9 := bulk_mem (List.mem_map_of_mem (f := fun x => x.1) (List.mem_of_getElem? hy))
      rw [Rows.uptoBulk] at hbk
      omega
theorem opn_struct {t : TypeId} {fl : List (Nat × Nat)} [ht : TSt Tryz.prog t fl] {fuel : Nat} {cs : List Value} {x : DataW H × List MemPlace} (hx : DataW.trod enc0 Tryz.prog w 0 (fun _ => true) held fuel t cs = some x) :
    ∃ n, cs.length = Tryz.prog.cellsOf t ∧ ∀ (i ft off : Nat), fl[i]? = some (ft, off) → ∃ y : DataW H × List MemPlace, DataW.trod enc0 Tryz.prog w 0 (fun _ => true) held n ft ((cs.drop off).take (Tryz.prog.cellsOf ft)) = some y ∧ (Rows.uptoBulk x.1 ≤ 1048576 → Rows.uptoBulk y.1 ≤ 1048576) := by
  obtain ⟨fs, hfs, hfl⟩ := ht.eq
  obtain ⟨ys, n, rfl, rfl, hcl, hyl, hf⟩ := DataW.trod_struct hfs hx
  refine ⟨n, hcl, fun i ft off hi => ?_⟩
  rw [← hfl, List.getElem?_map] at hi
  obtain ⟨fd, hfd, e⟩ := Option.map_eq_some_iff.1 hi
  cases e
  have hfd2 : fs[i]? = some fd := by rw [← Array.getElem?_toList]; exact hfd
  have h1 := hf i fd hfd2
  have hil : i < ys.length := by
    rw [hyl]
    exact (Array.getElem?_eq_some_iff.1 hfd2).1
  rw [List.getElem?_eq_getElem hil] at h1
  refine ⟨_, h1, fun hbk => ?_⟩
  have h9 := bulk_mem (List.mem_map_of_mem (f := fun x => x.1) (List.getElem_mem hil))
  rw [Rows.uptoBulk] at hbk
  omega
theorem cut_at (cs : List Value) (off s : Nat) : cs.drop off = (cs.drop off).take s ++ cs.drop (off + s) := by
  rw [← List.drop_drop]
  exact (List.take_append_drop s (cs.drop off)).symm
theorem opn_imp {t : TypeId} {α β : Type} {enc : α → List Value} {K : α → Prop} {enc2 : β → List Value} {K2 : β → Prop} (h : Opn enc0 w held t enc K) (f : α → β) (he : ∀ a, enc a = enc2 (f a)) (hK : ∀ a, K a → K2 (f a)) : Opn enc0 w held t enc2 K2 := fun fuel cs x hx => by
  obtain ⟨a, rfl, hk⟩ := h fuel cs x hx
  exact ⟨f a, he a, fun hb => hK a (hk hb)⟩
theorem opn_arg {t : TypeId} {α : Type} {enc : α → List Value} {K : α → Prop} (h : Opn enc0 w held t enc K) {v : Value} {d : DataW H} {p : List MemPlace} {ds : List (DataW H)} (hT : DataW.Trod enc0 Tryz.prog w 0 (fun _ => true) held t v d p) (hd : d ∈ ds) (hk : ∃ gs, Rows.uptoSmall H (ds ++ gs) = true) :
    ∃ a, v.cells.toList = enc a ∧ K a := by
  obtain ⟨fuel, hf⟩ := hT
  obtain ⟨a, he, hK⟩ := h fuel _ _ hf
  exact ⟨a, he, hK (bulk_of hk hd)⟩
end
end Go.Proofs.YtenlcdokaadobaaGreatDoor
