/-
  The law's awake: its graphs. Conditions: none.
  The law's large, begins; two runs. Conditions: none.
  More fuel, more input (plain). Conditions: none.
  What the bound of '..UptoSaid' gives. Conditions: none.
  What is handed in, taken apart, with what the bound of '..UptoSaid' gives. Conditions: none.
  Graphs handed in. Conditions: none.
  SsaFuel, SsaReads: the walks. Conditions: none.
  The frame of a law's proof, where what is handed in is not great and tables are laid ('..UptoCardSaid'). Conditions: none.
  What the laid table gives: strconv.FormatInt. Conditions: none.
-/
import Derived.Test.YtenlcdokaadobaaGreatDoorRowReadsMg9
import Derived.Test.YtenlcdokaadobaaGreatDoorRowReadsMg8
import Derived.Test.YtenlcdokaadobaaGreatDoorRows
import Derived.Test.YtenlcdokaadobaaGreatDoorRowReadsMg1
import Derived.Test.YtenlcdokaadobaaGreatDoorRowReadsMg2
import Derived.LaidLaws
import Derived.LaidMore
import Derived.Stop.Joined
import Derived.LaidHandle
import Derived.Test.YtenlcdokaadobaaGreatDoorRowReadsMg7
import Derived.Lib.LaidTab
namespace Go.Proofs.YtenlcdokaadobaaGreatDoor
open Go Go.Fw
set_option linter.unusedVariables false
theorem xs4_sz : ∀ s ∈ xs4, s.size ≤ 4611686018427387904 := by decide +kernel
theorem gA_bs (oG p8 oX p0 p1 p2 p3 p4 p5 p6 p7 : Option Addr) : ∀ f ∈ (gA oG p8 oX p0 p1 p2 p3 p4 p5 p6 p7).fs.l, f.bs.l.length ≤ 1048576 ∧ ∀ bl ∈ f.bs.l, bl.e.to.l.length ≤ 1048576 := by
  intro f hf
  obtain rfl := List.mem_singleton.1 hf
  refine ⟨(by decide : 4 ≤ 1048576), fun b hb => ?_⟩
  simp only [List.mem_cons, List.not_mem_nil, or_false] at hb
  rcases hb with rfl | rfl | rfl | rfl
  · exact (by decide : 2 ≤ 1048576)
  · exact (by decide : 1 ≤ 1048576)
  · exact (by decide : 1 ≤ 1048576)
  · exact (by decide : 0 ≤ 1048576)
def zF5 : Value := .agg #[.int .i64 0, .int .i64 0, .int .i64 0, .slice none 0 0, .int .i64 0, .slice none 0 0, .int .i64 0, .int .i64 0, .slice none 0 0, .slice none 0 0, .slice none 0 0, .slice none 0 0]
theorem fill_F5 (o : Option Addr) : Instr.fill (fun x => ([(0, 1), (1, 11)] : List (Nat × Nat))[x]?) zF5.cells [(1, .agg (encB o).toArray)] = some (encF o 0).toArray := by
  simp [Instr.fill, zF5, encF, encB, Value.cells]
theorem h5_bs {oB oA oG o1 o2 o3 o4 : Option Addr} {cB cG c1 c2 c3 c4 : Nat} {g : Grs} : ∀ f ∈ (h5 oB oA oG o1 o2 o3 o4 cB cG c1 c2 c3 c4 g).fs.l, f.bs.l.length ≤ 1048576 ∧ ∀ bl ∈ f.bs.l, bl.e.to.l.length ≤ 1048576 := by
  intro f hf
  obtain rfl := List.mem_singleton.1 hf
  refine ⟨(by decide : 1 ≤ 1048576), fun b hb => ?_⟩
  obtain rfl := List.mem_singleton.1 hb
  exact (by decide : 0 ≤ 1048576)
theorem gr0s_rd (w : World) : RdGs w gr0s := ⟨rdv_nil _ _, fun x hx => absurd hx (List.not_mem_nil), rdv_nil _ _, rdv_nil _ _, rdv_nil _ _, rdv_nil _ _⟩
theorem xs4_c : flat encX xs4 = [.string ⟨#[66, 111, 117, 110, 100, 115]⟩, .string ⟨#[68, 105, 118, 105, 100, 101]⟩, .string ⟨#[77, 97, 116, 99, 104]⟩, .string ⟨#[83, 105, 122, 101]⟩] := rfl
theorem cats4 (a b c d : Blc) : Cats 6 [.agg (encBl a).toArray, .agg (encBl b).toArray, .agg (encBl c).toArray, .agg (encBl d).toArray] (flat encBl [a, b, c, d]) := Cats.cn (cs := encBl a) (Cats.cn (cs := encBl b) (Cats.cn (cs := encBl c) (Cats.cn (cs := encBl d) Cats.nil)))
theorem gA_rd {w0 w : World} {H : List It} {oG p8 oX p0 p1 p2 p3 p4 p5 p6 p7 : Option Addr} (hH : HS w0 noM (own 9 1 oX 4 4 (flat encX xs4) :: own 44 2 oG 1 1 (encG ⟨0, ⟨p8, 4, [blA p0 p1 1 2, blJ p2 p3 1 1 7, blJ p4 p5 1 1 8, blR p6 p7 1 1]⟩⟩) :: own 53 6 p8 4 4 (flat encBl [blA p0 p1 1 2, blJ p2 p3 1 1 7, blJ p4 p5 1 1 8, blR p6 p7 1 1]) :: own 65 2 p7 1 1 (encAt ⟨1, 2⟩) :: own 3 1 p6 1 1 [.int .i64 2] :: own 61 2 p5 1 1 [.int .i64 3, .slice p4 1 1] :: own 65 2 p4 1 1 (encAt ⟨2, 8⟩) :: own 61 2 p3 1 1 [.int .i64 3, .slice p2 1 1] :: own 65 2 p2 1 1 (encAt ⟨2, 7⟩) :: own 61 2 p1 2 2 [.int .i64 1, .slice none 0 0, .int .i64 2, .slice none 0 0] :: own 65 2 p0 1 1 (encAt ⟨1, 1⟩) :: H) w) : RdGs w (gA oG p8 oX p0 p1 p2 p3 p4 p5 p6 p7) := by
  have hX := hH.own_rd (T := 9) (o := oX) (n := 4) (cap := 4) (xs := flat encX xs4) (by repeat (first | exact List.Mem.head _ | apply List.Mem.tail))
  have hG := hH.own_rd (T := 44) (o := oG) (n := 1) (cap := 1) (sz := 2) (xs := encG ⟨0, ⟨p8, 4, [blA p0 p1 1 2, blJ p2 p3 1 1 7, blJ p4 p5 1 1 8, blR p6 p7 1 1]⟩⟩) (by repeat (first | exact List.Mem.head _ | apply List.Mem.tail))
  have hB := hH.own_rd (T := 53) (o := p8) (n := 4) (cap := 4) (sz := 6) (xs := flat encBl [blA p0 p1 1 2, blJ p2 p3 1 1 7, blJ p4 p5 1 1 8, blR p6 p7 1 1]) (by repeat (first | exact List.Mem.head _ | apply List.Mem.tail))
  have h0 := hH.own_rd (T := 65) (o := p0) (n := 1) (cap := 1) (sz := 2) (xs := encAt ⟨1, 1⟩) (by repeat (first | exact List.Mem.head _ | apply List.Mem.tail))
  have h1 := hH.own_rd (T := 61) (o := p1) (n := 2) (cap := 2) (sz := 2) (xs := [.int .i64 1, .slice none 0 0, .int .i64 2, .slice none 0 0]) (by repeat (first | exact List.Mem.head _ | apply List.Mem.tail))
  have h2 := hH.own_rd (T := 65) (o := p2) (n := 1) (cap := 1) (sz := 2) (xs := encAt ⟨2, 7⟩) (by repeat (first | exact List.Mem.head _ | apply List.Mem.tail))
  have h3 := hH.own_rd (T := 61) (o := p3) (n := 1) (cap := 1) (sz := 2) (xs := [.int .i64 3, .slice p2 1 1]) (by repeat (first | exact List.Mem.head _ | apply List.Mem.tail))
  have h4 := hH.own_rd (T := 65) (o := p4) (n := 1) (cap := 1) (sz := 2) (xs := encAt ⟨2, 8⟩) (by repeat (first | exact List.Mem.head _ | apply List.Mem.tail))
  have h5 := hH.own_rd (T := 61) (o := p5) (n := 1) (cap := 1) (sz := 2) (xs := [.int .i64 3, .slice p4 1 1]) (by repeat (first | exact List.Mem.head _ | apply List.Mem.tail))
  have h6 := hH.own_rd (T := 3) (o := p6) (n := 1) (cap := 1) (sz := 1) (xs := [.int .i64 2]) (by repeat (first | exact List.Mem.head _ | apply List.Mem.tail))
  have h7 := hH.own_rd (T := 65) (o := p7) (n := 1) (cap := 1) (sz := 2) (xs := encAt ⟨1, 2⟩) (by repeat (first | exact List.Mem.head _ | apply List.Mem.tail))
  have h11 : 1 ≤ 1 ∧ 1 ≤ maxLen := ⟨Nat.le_refl _, by decide⟩
  refine ⟨⟨hG, h11⟩, fun x hx => ?_, rdv_nil _ _, rdv_nil _ _, ⟨hX, Nat.le_refl 4, (by decide : 4 ≤ maxLen)⟩, rdv_nil _ _⟩
  obtain rfl := List.mem_singleton.1 hx
  refine ⟨⟨hB, Nat.le_refl 4, (by decide : 4 ≤ maxLen)⟩, fun b hb => ?_⟩
  have hb : b ∈ [blA p0 p1 1 2, blJ p2 p3 1 1 7, blJ p4 p5 1 1 8, blR p6 p7 1 1] := hb
  rcases List.mem_cons.1 hb with rfl | hb
  · refine ⟨rdv_nil _ _, rdv_nil _ _, fun i hi => absurd hi (List.not_mem_nil), ⟨h0, h11⟩, rdv_nil _ _, ⟨h1, Nat.le_refl 2, by show 2 ≤ maxLen; decide⟩, fun x hx => ?_⟩
    have hx : x ∈ [(⟨1, nilV⟩ : Edg), ⟨2, nilV⟩] := hx
    rcases List.mem_cons.1 hx with rfl | hx
    · exact rdv_nil _ _
    · obtain rfl := List.mem_singleton.1 hx
      exact rdv_nil _ _
  rcases List.mem_cons.1 hb with rfl | hb
  · refine ⟨rdv_nil _ _, rdv_nil _ _, fun i hi => absurd hi (List.not_mem_nil), rdv_nil _ _, rdv_nil _ _, ⟨h3, h11⟩, fun x hx => ?_⟩
    obtain rfl := List.mem_singleton.1 hx
    exact ⟨h2, h11⟩
  rcases List.mem_cons.1 hb with rfl | hb
  · refine ⟨rdv_nil _ _, rdv_nil _ _, fun i hi => absurd hi (List.not_mem_nil), rdv_nil _ _, rdv_nil _ _, ⟨h5, h11⟩, fun x hx => ?_⟩
    obtain rfl := List.mem_singleton.1 hx
    exact ⟨h4, h11⟩
  obtain rfl := List.mem_singleton.1 hb
  exact ⟨⟨h6, h11⟩, rdv_nil _ _, fun i hi => absurd hi (List.not_mem_nil), ⟨h7, h11⟩, rdv_nil _ _, rdv_nil _ _, fun x hx => absurd hx (List.not_mem_nil)⟩
set_option maxRecDepth 10000 attribute [local irreducible] Code.wp wpList Calls Ex Op1 sat bat blk cb own Go.Fw.mp Go.Fw.mpO Go.Fw.mpI Go.Fw.mpE Go.Fw.itr HS Rd Ret wkD Hp Cl Cls Exit.then Exit.inBlock Exit.noGoto bodyPost Go.Fw.flat wk2 Go.Fw.all Go.Fw.owns wpOp
attribute [local irreducible] sk mpK sko mvO entK opM Go.Fw.mset Go.Fw.mv opK

set_option maxHeartbeats 4000000 in
theorem num_spec (w0 : World) (n : Int) : Ret Tryz.prog 24 #[.int .i64 n] w0 (fun r w => ∃ o, r = .slice o 1 1 ∧ HS w0 noM [own 65 2 o 1 1 (encAt ⟨2, n⟩)] w) := by
  have hH : HS w0 noM [] w0 := HS.init w0 noM
  (refine enter (N := 6) Tryz.func24 rfl Tryz.ntmps24 rfl ?_; intro a hA; dsimp only [sl0, Nat.reduceAdd] at hA)
  repeat' (first | ((first | apply st_ex hA hH rfl rfl (by decide) | apply dr_ex hA rfl rfl rfl (by decide) | apply dr_exp hA rfl rfl rfl (by decide) | apply dr_ex3 hA hH rfl rfl rfl (by decide)); (first | (apply ex_build_p (cs := (encAt ⟨2, n⟩).toArray); rfl; (repeat (first | (intro _ h; exact absurd h (List.not_mem_nil)) | (refine List.forall_mem_cons.2 ⟨one_cell_of _ _, ?_⟩))); rfl)); clear hA a; intro a hA) | (refine QT ?_; clear hA a; intro a hA) | (refine LT ?_; clear hA hH; rintro _ w ⟨oN, rfl, hH⟩ a hA) | (apply st_op hA rfl rfl (by decide); apply op_sliceLit (xs := encAt ⟨2, n⟩) (vs := [.agg (encAt ⟨2, n⟩).toArray]); rfl; rfl; exact (Cats.cn (cs := encAt ⟨2, n⟩) Cats.nil); rfl; rfl; rfl; exact hH; clear hA hH; rintro _ w ⟨oN, rfl, hH⟩ a hA) | (refine CT ?_ <;> repeat' refine CT ?_) | fail)
  exact rt1 (.inl rfl) rfl hA rfl ⟨_, rfl, hH⟩
set_option maxHeartbeats 4000000 in
theorem names_spec (w0 : World) (o : Option Addr) (c : Nat) (l : List Blc) : Ret Tryz.prog 23 #[.slice o l.length c] w0 (fun r w => ∃ oG oX, r = .agg ((encGs ⟨⟨oG, 1, [⟨0, ⟨o, c, l⟩⟩]⟩, nilV, nilV, ⟨oX, 4, xs4⟩, nilV⟩)).toArray ∧ HS w0 noM [own 9 1 oX 4 4 (flat encX xs4), own 44 2 oG 1 1 (encG ⟨0, ⟨o, c, l⟩⟩)] w) := by
  have hH : HS w0 noM [] w0 := HS.init w0 noM
  (refine enter (N := 8) Tryz.func23 rfl Tryz.ntmps23 rfl ?_; intro a hA; dsimp only [sl0, Nat.reduceAdd] at hA)
  repeat' (first | ((first | apply st_ex hA hH rfl rfl (by decide) | apply dr_ex hA rfl rfl rfl (by decide) | apply dr_exp hA rfl rfl rfl (by decide) | apply dr_ex3 hA hH rfl rfl rfl (by decide)); (first | (apply ex_build_p (cs := (encG ⟨0, ⟨o, c, l⟩⟩).toArray); rfl; (repeat (first | (intro _ h; exact absurd h (List.not_mem_nil)) | (refine List.forall_mem_cons.2 ⟨one_cell_of _ _, ?_⟩))); rfl)); clear hA a; intro a hA) | (refine QT ?_; clear hA a; intro a hA) | (refine BT ?_; clear hA hH; rintro _ w ⟨bN, rfl, hH⟩ a hA) | (refine LT ?_; clear hA hH; rintro _ w ⟨oN, rfl, hH⟩ a hA) | (apply st_op hA rfl rfl (by decide); apply op_sliceLit (xs := encG ⟨0, ⟨o, c, l⟩⟩) (vs := [.agg (encG ⟨0, ⟨o, c, l⟩⟩).toArray]); rfl; rfl; exact (Cats.cn (cs := encG ⟨0, ⟨o, c, l⟩⟩) Cats.nil); rfl; rfl; rfl; exact hH; clear hA hH; rintro _ w ⟨oN, rfl, hH⟩ a hA) | (refine CT ?_ <;> repeat' refine CT ?_) | fail)
  have key : ∃ oG oX b2, HS w0 noM (own 9 1 oX 4 4 (flat encX xs4) :: own 44 2 oG 1 1 (encG ⟨0, ⟨o, c, l⟩⟩) :: cb b2 25 (encGs gr0s) :: []) w ∧ Sl 8 [(6, .slice oX 4 4), (5, .slice oG 1 1), (2, .pointer (some (bat b2 0)))] a := ⟨_, _, _, by rw [xs4_c]; exact hH, (hA.sub (by (repeat (first | exact trivial | refine ⟨rfl, ?_⟩)); first | done | fail "sub"))⟩
  clear hA hH
  obtain ⟨oG, oX, b2, hH, hA⟩ := key
  repeat' (first | ((first | apply st_ex hA hH rfl rfl (by decide) | apply dr_ex hA rfl rfl rfl (by decide) | apply dr_exp hA rfl rfl rfl (by decide) | apply dr_ex3 hA hH rfl rfl rfl (by decide)); (first | (apply ex_build_p (cs := ((encGs ⟨⟨oG, 1, [⟨0, ⟨o, c, l⟩⟩]⟩, nilV, nilV, ⟨oX, 4, xs4⟩, nilV⟩)).toArray); rfl; (repeat (first | (intro _ h; exact absurd h (List.not_mem_nil)) | (refine List.forall_mem_cons.2 ⟨one_cell_of _ _, ?_⟩))); rfl)); clear hA a; intro a hA) | (refine QT ?_; clear hA a; intro a hA) | (apply st_op0 hA rfl rfl; apply op_store_agg (vs := (encGs ⟨⟨oG, 1, [⟨0, ⟨o, c, l⟩⟩]⟩, nilV, nilV, ⟨oX, 4, xs4⟩, nilV⟩)); rfl; rfl; exact hH; (repeat constructor); (repeat rfl); clear hH; rintro _ w hH) | (refine CT ?_ <;> repeat' refine CT ?_) | fail)
  exact rt1c (vs := (encGs ⟨⟨oG, 1, [⟨0, ⟨o, c, l⟩⟩]⟩, nilV, nilV, ⟨oX, 4, xs4⟩, nilV⟩)) (.inl rfl) rfl hA rfl rfl hH (cls_cb_all (by exact MEMT)) ⟨oG, oX, rfl, hH.rm 2⟩
set_option maxHeartbeats 16000000 in
theorem awake_spec (w0 : World) (hFI : FI w0) : Ret Tryz.prog 10 #[] w0 (fun r w => r = .bool true ∧ Kp w0 noM w) := by
  have hH : HS w0 noM [] w0 := HS.init w0 noM
  (refine enter (N := 79) Tryz.func10 rfl Tryz.ntmps10 rfl ?_; intro a hA; dsimp only [sl0, Nat.reduceAdd] at hA)
  repeat' (first | ((first | apply st_ex hA hH rfl rfl (by decide) | apply dr_ex hA rfl rfl rfl (by decide) | apply dr_exp hA rfl rfl rfl (by decide) | apply dr_ex3 hA hH rfl rfl rfl (by decide)); (first | (apply ex_build_p (cs := (encAt ⟨1, 1⟩).toArray); rfl; (repeat (first | (intro _ h; exact absurd h (List.not_mem_nil)) | (refine List.forall_mem_cons.2 ⟨one_cell_of _ _, ?_⟩))); rfl)); clear hA a; intro a hA) | (refine QT ?_; clear hA a; intro a hA) | (refine LT ?_; clear hA hH; rintro _ w ⟨oN, rfl, hH⟩ a hA) | (apply st_op hA rfl rfl (by decide); apply op_sliceLit (xs := encAt ⟨1, 1⟩) (vs := [.agg (encAt ⟨1, 1⟩).toArray]); rfl; rfl; exact (Cats.cn (cs := encAt ⟨1, 1⟩) Cats.nil); rfl; rfl; rfl; exact hH; clear hA hH; rintro _ w ⟨oN, rfl, hH⟩ a hA) | (refine CT ?_ <;> repeat' refine CT ?_) | fail)
  obtain ⟨p0, hb3⟩ : ∃ x, x = oN := ⟨_, rfl⟩; rw [← hb3] at hA hH; clear hb3 oN
  repeat' (first | ((first | apply st_ex hA hH rfl rfl (by decide) | apply dr_ex hA rfl rfl rfl (by decide) | apply dr_exp hA rfl rfl rfl (by decide) | apply dr_ex3 hA hH rfl rfl rfl (by decide)); (first | (apply ex_build_p (cs := ([.int .i64 1, .slice none 0 0]).toArray); rfl; (repeat (first | (intro _ h; exact absurd h (List.not_mem_nil)) | (refine List.forall_mem_cons.2 ⟨one_cell_of _ _, ?_⟩))); rfl) | (apply ex_build_p (cs := ([.int .i64 2, .slice none 0 0]).toArray); rfl; (repeat (first | (intro _ h; exact absurd h (List.not_mem_nil)) | (refine List.forall_mem_cons.2 ⟨one_cell_of _ _, ?_⟩))); rfl)); clear hA a; intro a hA) | (refine QT ?_; clear hA a; intro a hA) | (refine LT ?_; clear hA hH; rintro _ w ⟨oN, rfl, hH⟩ a hA) | (apply st_op hA rfl rfl (by decide); apply op_sliceLit (xs := [.int .i64 1, .slice none 0 0, .int .i64 2, .slice none 0 0]) (vs := [.agg [.int .i64 1, .slice none 0 0].toArray, .agg [.int .i64 2, .slice none 0 0].toArray]); rfl; rfl; exact Cats.cn (cs := [.int .i64 1, .slice none 0 0]) (Cats.cn (cs := [.int .i64 2, .slice none 0 0]) Cats.nil); rfl; rfl; rfl; exact hH; clear hA hH; rintro _ w ⟨oN, rfl, hH⟩ a hA) | fail)
  obtain ⟨p1, hb3⟩ : ∃ x, x = oN := ⟨_, rfl⟩; rw [← hb3] at hA hH; clear hb3 oN
  repeat' (first | ((first | apply st_ex hA hH rfl rfl (by decide) | apply dr_ex hA rfl rfl rfl (by decide) | apply dr_exp hA rfl rfl rfl (by decide) | apply dr_ex3 hA hH rfl rfl rfl (by decide)); (first | (apply ex_build_p (cs := ([.int .i64 5, .slice p0 1 1, .slice none 0 0, .slice p1 2 2]).toArray); rfl; (repeat (first | (intro _ h; exact absurd h (List.not_mem_nil)) | (refine List.forall_mem_cons.2 ⟨one_cell_of _ _, ?_⟩))); rfl) | (apply ex_build (szs := [(0, 1), (1, 1), (2, 4)]) (cs := (encBl (blA p0 p1 1 2)).toArray); exact run_szl (by (repeat (first | exact SzL.nil | refine SzL.cons ⟨_, rfl, by decide⟩ ?_))); rfl; rfl)); clear hA a; intro a hA) | (refine QT ?_; clear hA a; intro a hA) | fail)
  (refine st_op hA rfl rfl (by decide) (op_call rfl rfl rfl (num_spec _ 7)) ?_; clear hA; rintro _ w ⟨p2, rfl, hj⟩ a hA; replace hH := hH.join hj; clear hj)
  repeat' (first | ((first | apply st_ex hA hH rfl rfl (by decide) | apply dr_ex hA rfl rfl rfl (by decide) | apply dr_exp hA rfl rfl rfl (by decide) | apply dr_ex3 hA hH rfl rfl rfl (by decide)); (first | (apply ex_build_p (cs := ([.int .i64 3, .slice p2 1 1]).toArray); rfl; (repeat (first | (intro _ h; exact absurd h (List.not_mem_nil)) | (refine List.forall_mem_cons.2 ⟨one_cell_of _ _, ?_⟩))); rfl)); clear hA a; intro a hA) | (refine QT ?_; clear hA a; intro a hA) | (refine LT ?_; clear hA hH; rintro _ w ⟨oN, rfl, hH⟩ a hA) | (apply st_op hA rfl rfl (by decide); apply op_sliceLit (xs := [.int .i64 3, .slice p2 1 1]) (vs := [.agg ([.int .i64 3, .slice p2 1 1]).toArray]); rfl; rfl; exact (Cats.cn (cs := [.int .i64 3, .slice p2 1 1]) Cats.nil); rfl; rfl; rfl; exact hH; clear hA hH; rintro _ w ⟨oN, rfl, hH⟩ a hA) | fail)
  obtain ⟨p3, hb3⟩ : ∃ x, x = oN := ⟨_, rfl⟩; rw [← hb3] at hA hH; clear hb3 oN
  repeat' (first | ((first | apply st_ex hA hH rfl rfl (by decide) | apply dr_ex hA rfl rfl rfl (by decide) | apply dr_exp hA rfl rfl rfl (by decide) | apply dr_ex3 hA hH rfl rfl rfl (by decide)); (first | (apply ex_build_p (cs := ([.int .i64 4, .slice none 0 0, .slice none 0 0, .slice p3 1 1]).toArray); rfl; (repeat (first | (intro _ h; exact absurd h (List.not_mem_nil)) | (refine List.forall_mem_cons.2 ⟨one_cell_of _ _, ?_⟩))); rfl) | (apply ex_build (szs := [(0, 1), (1, 1), (2, 4)]) (cs := (encBl (blJ p2 p3 1 1 7)).toArray); exact run_szl (by (repeat (first | exact SzL.nil | refine SzL.cons ⟨_, rfl, by decide⟩ ?_))); rfl; rfl)); clear hA a; intro a hA) | (refine QT ?_; clear hA a; intro a hA) | fail)
  (refine st_op hA rfl rfl (by decide) (op_call rfl rfl rfl (num_spec _ 8)) ?_; clear hA; rintro _ w ⟨p4, rfl, hj⟩ a hA; replace hH := hH.join hj; clear hj)
  repeat' (first | ((first | apply st_ex hA hH rfl rfl (by decide) | apply dr_ex hA rfl rfl rfl (by decide) | apply dr_exp hA rfl rfl rfl (by decide) | apply dr_ex3 hA hH rfl rfl rfl (by decide)); (first | (apply ex_build_p (cs := ([.int .i64 3, .slice p4 1 1]).toArray); rfl; (repeat (first | (intro _ h; exact absurd h (List.not_mem_nil)) | (refine List.forall_mem_cons.2 ⟨one_cell_of _ _, ?_⟩))); rfl)); clear hA a; intro a hA) | (refine QT ?_; clear hA a; intro a hA) | (refine LT ?_; clear hA hH; rintro _ w ⟨oN, rfl, hH⟩ a hA) | (apply st_op hA rfl rfl (by decide); apply op_sliceLit (xs := [.int .i64 3, .slice p4 1 1]) (vs := [.agg ([.int .i64 3, .slice p4 1 1]).toArray]); rfl; rfl; exact (Cats.cn (cs := [.int .i64 3, .slice p4 1 1]) Cats.nil); rfl; rfl; rfl; exact hH; clear hA hH; rintro _ w ⟨oN, rfl, hH⟩ a hA) | fail)
  obtain ⟨p5, hb3⟩ : ∃ x, x = oN := ⟨_, rfl⟩; rw [← hb3] at hA hH; clear hb3 oN
  repeat' (first | ((first | apply st_ex hA hH rfl rfl (by decide) | apply dr_ex hA rfl rfl rfl (by decide) | apply dr_exp hA rfl rfl rfl (by decide) | apply dr_ex3 hA hH rfl rfl rfl (by decide)); (first | (apply ex_build_p (cs := ([.int .i64 4, .slice none 0 0, .slice none 0 0, .slice p5 1 1]).toArray); rfl; (repeat (first | (intro _ h; exact absurd h (List.not_mem_nil)) | (refine List.forall_mem_cons.2 ⟨one_cell_of _ _, ?_⟩))); rfl) | (apply ex_build (szs := [(0, 1), (1, 1), (2, 4)]) (cs := (encBl (blJ p4 p5 1 1 8)).toArray); exact run_szl (by (repeat (first | exact SzL.nil | refine SzL.cons ⟨_, rfl, by decide⟩ ?_))); rfl; rfl)); clear hA a; intro a hA) | (refine QT ?_; clear hA a; intro a hA) | (refine LT ?_; clear hA hH; rintro _ w ⟨oN, rfl, hH⟩ a hA) | fail)
  have key : ∃ p6 p7, HS w0 noM (own 65 2 p7 1 1 (encAt ⟨1, 2⟩) :: own 3 1 p6 1 1 [.int .i64 2] :: own 61 2 p5 1 1 [.int .i64 3, .slice p4 1 1] :: own 65 2 p4 1 1 (encAt ⟨2, 8⟩) :: own 61 2 p3 1 1 [.int .i64 3, .slice p2 1 1] :: own 65 2 p2 1 1 (encAt ⟨2, 7⟩) :: own 61 2 p1 2 2 [.int .i64 1, .slice none 0 0, .int .i64 2, .slice none 0 0] :: own 65 2 p0 1 1 (encAt ⟨1, 1⟩) :: []) w ∧ Sl 79 [(29, .slice p7 1 1), (27, .slice p6 1 1), (26, .agg (encBl (blJ p4 p5 1 1 8)).toArray), (21, .agg (encBl (blJ p2 p3 1 1 7)).toArray), (16, .agg (encBl (blA p0 p1 1 2)).toArray), (0, .bool false)] a := ⟨_, _, hH.perm (by (repeat (first | exact List.Perm.refl _ | exact List.Perm.nil | refine perm_pick 0 rfl ?_ | refine perm_pick 1 rfl ?_ | refine perm_pick 2 rfl ?_ | refine perm_pick 3 rfl ?_ | refine perm_pick 4 rfl ?_ | refine perm_pick 5 rfl ?_ | refine perm_pick 6 rfl ?_ | refine perm_pick 7 rfl ?_ | refine perm_pick 8 rfl ?_ | refine perm_pick 9 rfl ?_ | refine perm_pick 10 rfl ?_ | refine perm_pick 11 rfl ?_))), (hA.sub (by (repeat (first | exact trivial | refine ⟨rfl, ?_⟩)); first | done | fail "sub"))⟩
  clear hA hH
  obtain ⟨p6, p7, hH, hA⟩ := key
  repeat' (first | ((first | apply st_ex hA hH rfl rfl (by decide) | apply dr_ex hA rfl rfl rfl (by decide) | apply dr_exp hA rfl rfl rfl (by decide) | apply dr_ex3 hA hH rfl rfl rfl (by decide)); (first | (apply ex_build_p (cs := ([.int .i64 1, .slice p7 1 1, .slice none 0 0, .slice none 0 0]).toArray); rfl; (repeat (first | (intro _ h; exact absurd h (List.not_mem_nil)) | (refine List.forall_mem_cons.2 ⟨one_cell_of _ _, ?_⟩))); rfl) | (apply ex_build (szs := [(0, 1), (1, 1), (2, 4)]) (cs := (encBl (blR p6 p7 1 1)).toArray); exact run_szl (by (repeat (first | exact SzL.nil | refine SzL.cons ⟨_, rfl, by decide⟩ ?_))); rfl; rfl)); clear hA a; intro a hA) | (refine QT ?_; clear hA a; intro a hA) | (apply st_op hA rfl rfl (by decide); apply op_sliceLit (xs := flat encBl [blA p0 p1 1 2, blJ p2 p3 1 1 7, blJ p4 p5 1 1 8, blR p6 p7 1 1]) (vs := [.agg (encBl (blA p0 p1 1 2)).toArray, .agg (encBl (blJ p2 p3 1 1 7)).toArray, .agg (encBl (blJ p4 p5 1 1 8)).toArray, .agg (encBl (blR p6 p7 1 1)).toArray]); rfl; rfl; exact cats4 _ _ _ _; rfl; rfl; rfl; exact hH; clear hA hH; rintro _ w ⟨oN, rfl, hH⟩ a hA) | fail)
  obtain ⟨p8, hb3⟩ : ∃ x, x = oN := ⟨_, rfl⟩; rw [← hb3] at hA hH; clear hb3 oN
  (refine st_op hA rfl rfl (by decide) (op_call rfl rfl rfl (names_spec _ p8 4 [blA p0 p1 1 2, blJ p2 p3 1 1 7, blJ p4 p5 1 1 8, blR p6 p7 1 1])) ?_; clear hA; rintro _ w ⟨oG, oX, rfl, hj⟩ a hA; replace hH := hH.join hj; clear hj)
  obtain ⟨g, hg⟩ : ∃ g, g = gA oG p8 oX p0 p1 p2 p3 p4 p5 p6 p7 := ⟨_, rfl⟩
  have hGA : encGs ⟨⟨oG, 1, [⟨0, ⟨p8, 4, [blA p0 p1 1 2, blJ p2 p3 1 1 7, blJ p4 p5 1 1 8, blR p6 p7 1 1]⟩⟩]⟩, nilV, nilV, ⟨oX, 4, xs4⟩, nilV⟩ = encGs g := by rw [hg]; rfl
  rw [hGA] at hA
  replace hH := hH.perm (H' := own 9 1 oX 4 4 (flat encX xs4) :: own 44 2 oG 1 1 (encG ⟨0, ⟨p8, 4, [blA p0 p1 1 2, blJ p2 p3 1 1 7, blJ p4 p5 1 1 8, blR p6 p7 1 1]⟩⟩) :: own 53 6 p8 4 4 (flat encBl [blA p0 p1 1 2, blJ p2 p3 1 1 7, blJ p4 p5 1 1 8, blR p6 p7 1 1]) :: own 65 2 p7 1 1 (encAt ⟨1, 2⟩) :: own 3 1 p6 1 1 [.int .i64 2] :: own 61 2 p5 1 1 [.int .i64 3, .slice p4 1 1] :: own 65 2 p4 1 1 (encAt ⟨2, 8⟩) :: own 61 2 p3 1 1 [.int .i64 3, .slice p2 1 1] :: own 65 2 p2 1 1 (encAt ⟨2, 7⟩) :: own 61 2 p1 2 2 [.int .i64 1, .slice none 0 0, .int .i64 2, .slice none 0 0] :: own 65 2 p0 1 1 (encAt ⟨1, 1⟩) :: []) (by (repeat (first | exact List.Perm.refl _ | exact List.Perm.nil | refine perm_pick 0 rfl ?_ | refine perm_pick 1 rfl ?_ | refine perm_pick 2 rfl ?_ | refine perm_pick 3 rfl ?_ | refine perm_pick 4 rfl ?_ | refine perm_pick 5 rfl ?_ | refine perm_pick 6 rfl ?_ | refine perm_pick 7 rfl ?_ | refine perm_pick 8 rfl ?_ | refine perm_pick 9 rfl ?_ | refine perm_pick 10 rfl ?_ | refine perm_pick 11 rfl ?_)))
  have hRg : RdGs w g := by rw [hg]; exact gA_rd (H := []) hH
  have hMg : MayP g := by rw [hg]; exact gA_may ..
  repeat' (first | (refine QT ?_; clear hA a; intro a hA) | (refine BT ?_; clear hA hH; rintro _ w ⟨bN, rfl, hH⟩ a hA) | (apply st_op0 hA rfl rfl; apply op_store_agg (vs := encGs g); rfl; rfl; exact hH; (repeat constructor); (repeat rfl); clear hH; rintro _ w hH) | (refine CT ?_ <;> repeat' refine CT ?_) | fail)
  obtain ⟨b2, hb3⟩ : ∃ x, x = bN := ⟨_, rfl⟩; rw [← hb3] at hA hH; clear hb3 bN
  have hxs : ∀ s ∈ g.xs.l, s.size ≤ 4611686018427387904 := by rw [hg]; exact xs4_sz
  have hfl : g.fs.l.length ≤ 100000 := by rw [hg]; exact (by decide : 1 ≤ 100000)
  have hbs : ∀ f ∈ g.fs.l, f.bs.l.length ≤ 1048576 ∧ ∀ bl ∈ f.bs.l, bl.e.to.l.length ≤ 1048576 := by rw [hg]; exact fun f hf => gA_bs _ _ _ _ _ _ _ _ _ _ _ f hf
  have hrun : encP3 (runP g 2 ⟨#[]⟩ 9) = encO3 1 empS ⟨#[56]⟩ := by rw [hg]; exact congrArg encP3 (gA_runP ..)
  have hR1 : RdGs w g := by rw [hg]; exact gA_rd (H := []) hH.tail
  repeat' (first | ((first | apply st_ex hA hH rfl rfl (by decide) | apply dr_ex hA rfl rfl rfl (by decide) | apply dr_exp hA rfl rfl rfl (by decide) | apply dr_ex3 hA hH rfl rfl rfl (by decide)); (first | (apply ex_load_st (vs := encGs g); rfl; rfl; exact cls_cb_all MEMT)); clear hA a; intro a hA) | (refine QT ?_; clear hA a; intro a hA) | fail)
  (refine st_op hA rfl rfl (by decide) (op_call rfl rfl rfl (Run_spec _ g 2 ⟨#[]⟩ 9 hR1 hfl hbs hxs (by decide) (hFI.keep hH.kp))) ?_; clear hA; rintro _ w ⟨rfl, hk⟩ a hA; replace hH := hH.keep hk; clear hk hR1)
  rw [hrun] at hA
  repeat' (first | (refine QT ?_; clear hA a; intro a hA) | (refine BT ?_; clear hA hH; rintro _ w ⟨bN, rfl, hH⟩ a hA) | (apply st_op0 hA rfl rfl; apply op_store_agg (vs := encO3 1 empS ⟨#[56]⟩); rfl; rfl; exact hH; (repeat constructor); (repeat rfl); clear hH; rintro _ w hH) | (refine CT ?_ <;> repeat' refine CT ?_) | fail)
  obtain ⟨b3, hb3⟩ : ∃ x, x = bN := ⟨_, rfl⟩; rw [← hb3] at hA hH; clear hb3 bN
  have hST : HS w0 noM [cb b2 25 (encGs g)] w := HS.left (H1 := [_]) hH.tail
  refine wp_drawT (qs [4, 5] (.two 0 7 (qs [1, 2] (.two 3 7 (.q 6 (.one 7 (.one 8 .nil))) (.one 3 (.q 6 (.one 8 .nil))))) (.one 0 (qs [1, 2] (.one 3 (.q 6 (.one 8 .nil))))))) (fun a w => ∃ b4 oA oF, HS w0 noM (cb b4 34 (encP oF 1 1 (⟨nilV, nilV, nilV, g.xs, nilV⟩ : Grs)) :: own 72 12 oF 1 1 (encF oA 0) :: own 65 2 oA 1 1 (encAt ⟨2, 5⟩) :: cb b3 29 (encO3 1 empS ⟨#[56]⟩) :: cb b2 25 (encGs g) :: own 9 1 oX 4 4 (flat encX xs4) :: own 44 2 oG 1 1 (encG ⟨0, ⟨p8, 4, [blA p0 p1 1 2, blJ p2 p3 1 1 7, blJ p4 p5 1 1 8, blR p6 p7 1 1]⟩⟩) :: own 53 6 p8 4 4 (flat encBl [blA p0 p1 1 2, blJ p2 p3 1 1 7, blJ p4 p5 1 1 8, blR p6 p7 1 1]) :: own 65 2 p7 1 1 (encAt ⟨1, 2⟩) :: own 3 1 p6 1 1 [.int .i64 2] :: own 61 2 p5 1 1 [.int .i64 3, .slice p4 1 1] :: own 65 2 p4 1 1 (encAt ⟨2, 8⟩) :: own 61 2 p3 1 1 [.int .i64 3, .slice p2 1 1] :: own 65 2 p2 1 1 (encAt ⟨2, 7⟩) :: own 61 2 p1 2 2 [.int .i64 1, .slice none 0 0, .int .i64 2, .slice none 0 0] :: own 65 2 p0 1 1 (encAt ⟨1, 1⟩) :: []) w ∧
    Sl 79 [(4, .pointer (some (bat b4 0))), (3, .pointer (some (bat b3 0))), (2, .pointer (some (bat b2 0))), (0, .bool false)] a) mixed (by decide +kernel) hST ?_ ?_
  · clear hST
    replace hH := hH.drew
    (repeat (apply dt_ex hA rfl rfl rfl (by decide); (first | exact EXT | exact EXT2 ); clear hA a; intro a hA))
    apply dt_two
    rotate_left
    · (apply dt_op hA rfl rfl rfl (by decide); apply op_alloc; exact hH; clear hA hH; rintro _ w ⟨bN, rfl, hH⟩; refine ⟨hH.pick (by exact MEMT), ?_⟩; intro a hA)
      (refine dt_op hA rfl rfl rfl (by decide) (op_call rfl rfl rfl (num_spec _ 5)) ?_; clear hA; rintro _ w ⟨oA, rfl, hj⟩; replace hH := hH.join hj; clear hj; refine ⟨hH.pick (by exact MEMT), ?_⟩; intro a hA)
      (repeat (apply dt_ex hA rfl rfl rfl (by decide); (first | exact EXT | exact EXT2 | (apply ex_build (szs := [(0, 1), (1, 1), (2, 1), (3, 1), (4, 1), (5, 4), (9, 1), (10, 1)]) (cs := (encB oA).toArray); exact run_szl (by (repeat (first | exact SzL.nil | refine SzL.cons ⟨_, rfl, by decide⟩ ?_))); rfl; rfl) | (apply ex_build (szs := [(0, 1), (1, 11)]) (cs := (encF oA 0).toArray); exact run_szl (by (repeat (first | exact SzL.nil | refine SzL.cons ⟨_, rfl, by decide⟩ ?_))); rfl; exact fill_F5 oA)); clear hA a; intro a hA))
      (apply dt_op hA rfl rfl rfl (by decide); apply op_sliceLit (xs := encF oA 0) (vs := [.agg (encF oA 0).toArray]); rfl; rfl; exact (Cats.cn (cs := encF oA 0) Cats.nil); rfl; rfl; rfl; exact hH; clear hA hH; rintro _ w ⟨oN, rfl, hH⟩; refine ⟨hH.pick (by exact MEMT), ?_⟩; intro a hA)
      (repeat (apply dt_ex hA rfl rfl rfl (by decide); (first | exact EXT | exact EXT2 | (apply ex_build_p (cs := (encP oN 1 1 (⟨nilV, nilV, nilV, g.xs, nilV⟩ : Grs)).toArray); rfl; (repeat (first | (intro _ h; exact absurd h (List.not_mem_nil)) | (refine List.forall_mem_cons.2 ⟨one_cell_of _ _, ?_⟩))); rfl)); clear hA a; intro a hA))
      (apply dt_op0 hA rfl rfl rfl; apply op_store_agg (vs := encP oN 1 1 (⟨nilV, nilV, nilV, g.xs, nilV⟩ : Grs)); rfl; rfl; exact hH; (repeat constructor); (repeat rfl); clear hH; rintro _ w hH; refine ⟨hH.pick (by exact MEMT), ?_⟩; apply dt_nil)
      exact ⟨_, oA, _, hH.perm (by (repeat (first | exact List.Perm.refl _ | exact List.Perm.nil | refine perm_pick 0 rfl ?_ | refine perm_pick 1 rfl ?_ | refine perm_pick 2 rfl ?_ | refine perm_pick 3 rfl ?_ | refine perm_pick 4 rfl ?_ | refine perm_pick 5 rfl ?_ | refine perm_pick 6 rfl ?_ | refine perm_pick 7 rfl ?_ | refine perm_pick 8 rfl ?_ | refine perm_pick 9 rfl ?_ | refine perm_pick 10 rfl ?_ | refine perm_pick 11 rfl ?_))), (hA.sub (by (repeat (first | exact trivial | refine ⟨rfl, ?_⟩)); first | done | fail "sub"))⟩
    (refine dt_op hA rfl rfl rfl (by decide) (op_call rfl rfl rfl (num_spec _ 5)) ?_; clear hA; rintro _ w ⟨oA, rfl, hj⟩; replace hH := hH.join hj; clear hj; refine ⟨hH.pick (by exact MEMT), ?_⟩; intro a hA)
    (repeat (apply dt_ex hA rfl rfl rfl (by decide); (first | exact EXT | exact EXT2 | (apply ex_build (szs := [(0, 1), (1, 1), (2, 1), (3, 1), (4, 1), (5, 4), (9, 1), (10, 1)]) (cs := (encB oA).toArray); exact run_szl (by (repeat (first | exact SzL.nil | refine SzL.cons ⟨_, rfl, by decide⟩ ?_))); rfl; rfl) | (apply ex_build (szs := [(0, 1), (1, 11)]) (cs := (encF oA 0).toArray); exact run_szl (by (repeat (first | exact SzL.nil | refine SzL.cons ⟨_, rfl, by decide⟩ ?_))); rfl; exact fill_F5 oA)); clear hA a; intro a hA))
    apply dt_two
    rotate_left
    · (apply dt_op hA rfl rfl rfl (by decide); apply op_alloc; exact hH; clear hA hH; rintro _ w ⟨bN, rfl, hH⟩; refine ⟨hH.pick (by exact MEMT), ?_⟩; intro a hA)
      (apply dt_op hA rfl rfl rfl (by decide); apply op_sliceLit (xs := encF oA 0) (vs := [.agg (encF oA 0).toArray]); rfl; rfl; exact (Cats.cn (cs := encF oA 0) Cats.nil); rfl; rfl; rfl; exact hH; clear hA hH; rintro _ w ⟨oN, rfl, hH⟩; refine ⟨hH.pick (by exact MEMT), ?_⟩; intro a hA)
      (repeat (apply dt_ex hA rfl rfl rfl (by decide); (first | exact EXT | exact EXT2 | (apply ex_build_p (cs := (encP oN 1 1 (⟨nilV, nilV, nilV, g.xs, nilV⟩ : Grs)).toArray); rfl; (repeat (first | (intro _ h; exact absurd h (List.not_mem_nil)) | (refine List.forall_mem_cons.2 ⟨one_cell_of _ _, ?_⟩))); rfl)); clear hA a; intro a hA))
      (apply dt_op0 hA rfl rfl rfl; apply op_store_agg (vs := encP oN 1 1 (⟨nilV, nilV, nilV, g.xs, nilV⟩ : Grs)); rfl; rfl; exact hH; (repeat constructor); (repeat rfl); clear hH; rintro _ w hH; refine ⟨hH.pick (by exact MEMT), ?_⟩; apply dt_nil)
      exact ⟨_, oA, _, hH.perm (by (repeat (first | exact List.Perm.refl _ | exact List.Perm.nil | refine perm_pick 0 rfl ?_ | refine perm_pick 1 rfl ?_ | refine perm_pick 2 rfl ?_ | refine perm_pick 3 rfl ?_ | refine perm_pick 4 rfl ?_ | refine perm_pick 5 rfl ?_ | refine perm_pick 6 rfl ?_ | refine perm_pick 7 rfl ?_ | refine perm_pick 8 rfl ?_ | refine perm_pick 9 rfl ?_ | refine perm_pick 10 rfl ?_ | refine perm_pick 11 rfl ?_))), (hA.sub (by (repeat (first | exact trivial | refine ⟨rfl, ?_⟩)); first | done | fail "sub"))⟩
    (apply dt_op hA rfl rfl rfl (by decide); apply op_sliceLit (xs := encF oA 0) (vs := [.agg (encF oA 0).toArray]); rfl; rfl; exact (Cats.cn (cs := encF oA 0) Cats.nil); rfl; rfl; rfl; exact hH; clear hA hH; rintro _ w ⟨oN, rfl, hH⟩; refine ⟨hH.pick (by exact MEMT), ?_⟩; intro a hA)
    (repeat (apply dt_ex hA rfl rfl rfl (by decide); (first | exact EXT | exact EXT2 | (apply ex_build_p (cs := (encP oN 1 1 (⟨nilV, nilV, nilV, g.xs, nilV⟩ : Grs)).toArray); rfl; (repeat (first | (intro _ h; exact absurd h (List.not_mem_nil)) | (refine List.forall_mem_cons.2 ⟨one_cell_of _ _, ?_⟩))); rfl)); clear hA a; intro a hA))
    (apply dt_op hA rfl rfl rfl (by decide); apply op_alloc; exact hH; clear hA hH; rintro _ w ⟨bN, rfl, hH⟩; refine ⟨hH.pick (by exact MEMT), ?_⟩; intro a hA)
    (apply dt_op0 hA rfl rfl rfl; apply op_store_agg (vs := encP oN 1 1 (⟨nilV, nilV, nilV, g.xs, nilV⟩ : Grs)); rfl; rfl; exact hH; (repeat constructor); (repeat rfl); clear hH; rintro _ w hH; refine ⟨hH.pick (by exact MEMT), ?_⟩; apply dt_nil)
    exact ⟨_, oA, _, hH.perm (by (repeat (first | exact List.Perm.refl _ | exact List.Perm.nil | refine perm_pick 0 rfl ?_ | refine perm_pick 1 rfl ?_ | refine perm_pick 2 rfl ?_ | refine perm_pick 3 rfl ?_ | refine perm_pick 4 rfl ?_ | refine perm_pick 5 rfl ?_ | refine perm_pick 6 rfl ?_ | refine perm_pick 7 rfl ?_ | refine perm_pick 8 rfl ?_ | refine perm_pick 9 rfl ?_ | refine perm_pick 10 rfl ?_ | refine perm_pick 11 rfl ?_))), (hA.sub (by (repeat (first | exact trivial | refine ⟨rfl, ?_⟩)); first | done | fail "sub"))⟩
  clear hA hH hST
  rintro a w ⟨b4, oA, oF, hH, hA⟩
  have hxl : g.xs.l = xs4 := by rw [hg]; rfl
  have hRx : RdV w encX g.xs := by rw [hg]; exact (gA_rd (H := []) hH.tail.tail.tail.tail.tail).2.2.2.2.1
  have hF1 := hH.own_rd (T := 72) (.tail _ (.head _))
  have hA1 := hH.own_rd (T := 65) (o := oA) (sz := 2) (.tail _ (.tail _ (.head _)))
  repeat' (first | ((first | apply st_ex hA hH rfl rfl (by decide) | apply dr_ex hA rfl rfl rfl (by decide) | apply dr_exp hA rfl rfl rfl (by decide) | apply dr_ex3 hA hH rfl rfl rfl (by decide)); (first | (apply ex_load_st (vs := encP oF 1 1 (⟨nilV, nilV, nilV, g.xs, nilV⟩ : Grs)); rfl; rfl; exact cls_cb_all MEMT)); clear hA a; intro a hA) | (refine QT ?_; clear hA a; intro a hA) | (refine CT ?_ <;> repeat' refine CT ?_) | fail)
  (refine st_op hA rfl rfl (by decide) (op_call rfl rfl rfl (of1_spec _ (⟨nilV, nilV, nilV, g.xs, nilV⟩ : Grs) oF oA 1 hF1 hA1 (rdv_nil _ _) (rdv_nil _ _) hRx (rdv_nil _ _) hxl rfl rfl rfl)) ?_; clear hA; rintro _ w ⟨q1, q2, q3, q4, q5, q6, q7, k1, k2, k3, k4, k5, k6, rfl, hj⟩ a hA; replace hH := hH.join hj; clear hj)
  obtain ⟨h, hh⟩ : ∃ h, h = h5 q1 q2 q3 q4 q5 q6 q7 k1 k2 k3 k4 k5 k6 (⟨nilV, nilV, nilV, g.xs, nilV⟩ : Grs) := ⟨_, rfl⟩
  rw [← hh] at hA
  have hmay : MayP h := by rw [hh]; exact may5 (n := 5) (of := none) (oc := 0) (by decide) rfl hxl rfl rfl rfl
  have hrun5 : (runP h 2 ⟨#[]⟩ 9).2.2 = ⟨#[53]⟩ := h5_runP (by rw [hh]; rfl) hmay
  repeat' (first | (refine QT ?_; clear hA a; intro a hA) | (refine BT ?_; clear hA hH; rintro _ w ⟨bN, rfl, hH⟩ a hA) | (apply st_op0 hA rfl rfl; apply op_store_agg (vs := encGs h); rfl; rfl; exact hH; (repeat constructor); (repeat rfl); clear hH; rintro _ w hH) | (refine CT ?_ <;> repeat' refine CT ?_) | fail)
  obtain ⟨b5, hb3⟩ : ∃ x, x = bN := ⟨_, rfl⟩; rw [← hb3] at hA hH; clear hb3 bN
  repeat' (first | ((first | apply st_ex hA hH rfl rfl (by decide) | apply dr_ex hA rfl rfl rfl (by decide) | apply dr_exp hA rfl rfl rfl (by decide) | apply dr_ex3 hA hH rfl rfl rfl (by decide)); (first | (apply ex_build_p (cs := (encP none 0 0 gr0s).toArray); rfl; (repeat (first | (intro _ h; exact absurd h (List.not_mem_nil)) | (refine List.forall_mem_cons.2 ⟨one_cell_of _ _, ?_⟩))); rfl)); clear hA a; intro a hA) | (refine QT ?_; clear hA a; intro a hA) | fail)
  have hA2 : Rd w oA (encAt at5) := hH.own_rd (T := 65) (o := oA) (sz := 2) (n := 1) (cap := 1) (xs := encAt ⟨2, 5⟩) (by repeat (first | exact List.Mem.head _ | apply List.Mem.tail))
  (refine st_op hA rfl rfl (by decide) (op_call rfl rfl rfl (of0_spec _ gr0s rfl (rdv_nil _ _) (rdv_nil _ _) (rdv_nil _ _) (rdv_nil _ _) oA hA2)) ?_; clear hA; rintro _ w ⟨rfl, hk⟩ a hA; replace hH := hH.keep hk; clear hk hA2)
  repeat' (first | (refine QT ?_; clear hA a; intro a hA) | (refine BT ?_; clear hA hH; rintro _ w ⟨bN, rfl, hH⟩ a hA) | (apply st_op0 hA rfl rfl; apply op_store_agg (vs := encGs gr0s); rfl; rfl; exact hH; (repeat constructor); (repeat rfl); clear hH; rintro _ w hH) | (refine CT ?_ <;> repeat' refine CT ?_) | fail)
  obtain ⟨b7, hb3⟩ : ∃ x, x = bN := ⟨_, rfl⟩; rw [← hb3] at hA hH; clear hb3 bN
  have hRg2 : RdGs w g := by rw [hg]; exact gA_rd (H := []) (HS.right (H1 := [_, _, _, _, _, _, _, _, _, _, _, _, _, _]) hH)
  repeat' (first | ((first | apply st_ex hA hH rfl rfl (by decide) | apply dr_ex hA rfl rfl rfl (by decide) | apply dr_exp hA rfl rfl rfl (by decide) | apply dr_ex3 hA hH rfl rfl rfl (by decide)); (first | (apply ex_load_st (vs := encGs g); rfl; rfl; exact cls_cb_all MEMT)); clear hA a; intro a hA) | (refine QT ?_; clear hA a; intro a hA) | fail)
  (refine st_op hA rfl rfl (by decide) (op_call rfl rfl rfl (May_spec _ g hRg2 hfl hbs)) ?_; clear hA; rintro _ w ⟨b, rfl, hk, hb⟩ a hA; replace hH := hH.keep hk; clear hk hRg2)
  obtain rfl : b = true := hb.2 hMg
  repeat' (first | (refine GT ?_ ?_ <;> intro hg <;> clear hA a <;> intro a hA <;> (first | exact FA | replace hg := of_decide_eq_true hg | replace hg := of_decide_eq_false hg | skip)) | ((first | apply st_ex hA hH rfl rfl (by decide) | apply dr_ex hA rfl rfl rfl (by decide) | apply dr_exp hA rfl rfl rfl (by decide) | apply dr_ex3 hA hH rfl rfl rfl (by decide)); (first | (apply ex_build_p (cs := (encGs gr0s).toArray); rfl; (repeat (first | (intro _ h; exact absurd h (List.not_mem_nil)) | (refine List.forall_mem_cons.2 ⟨one_cell_of _ _, ?_⟩))); rfl)); clear hA a; intro a hA) | (refine QT ?_; clear hA a; intro a hA) | fail)
  (refine st_op hA rfl rfl (by decide) (op_call rfl rfl rfl (May_spec _ gr0s (gr0s_rd _) (by decide) (fun f hf => absurd hf (List.not_mem_nil)))) ?_; clear hA; rintro _ w ⟨b, rfl, hk, hb0⟩ a hA; replace hH := hH.keep hk; clear hk)
  obtain rfl : b = false := by
    cases b with
    | false => rfl
    | true => exact absurd (hb0.1 rfl) (may0 rfl)
  repeat' (first | (refine GT ?_ ?_ <;> intro hg <;> clear hA a <;> intro a hA <;> (first | exact FA | replace hg := of_decide_eq_true hg | replace hg := of_decide_eq_false hg | skip)) | ((first | apply st_ex hA hH rfl rfl (by decide) | apply dr_ex hA rfl rfl rfl (by decide) | apply dr_exp hA rfl rfl rfl (by decide) | apply dr_ex3 hA hH rfl rfl rfl (by decide)); (first | (apply ex_load_st (vs := encO3 1 empS ⟨#[56]⟩); rfl; rfl; exact cls_cb_all MEMT) | (apply ex_build_p (cs := (encO3 1 empS ⟨#[56]⟩).toArray); rfl; (repeat (first | (intro _ h; exact absurd h (List.not_mem_nil)) | (refine List.forall_mem_cons.2 ⟨one_cell_of _ _, ?_⟩))); rfl) | (apply ex_eqlOs (p := (1, empS, ⟨#[56]⟩)); rfl; rfl)); clear hA a; intro a hA) | (refine QT ?_; clear hA a; intro a hA) | fail)
  have hRh : RdGs w h := by
    rw [hh]
    exact h5_rd (g := (⟨nilV, nilV, nilV, g.xs, nilV⟩ : Grs)) (hH.tail.tail)
  have hxh : ∀ s ∈ h.xs.l, s.size ≤ 4611686018427387904 := by rw [hh]; show ∀ s ∈ g.xs.l, _; exact hxs
  have hfh : h.fs.l.length ≤ 100000 := by rw [hh]; exact (by decide : 1 ≤ 100000)
  have hbh : ∀ f ∈ h.fs.l, f.bs.l.length ≤ 1048576 ∧ ∀ bl ∈ f.bs.l, bl.e.to.l.length ≤ 1048576 := by rw [hh]; exact h5_bs (g := (⟨nilV, nilV, nilV, g.xs, nilV⟩ : Grs))
  (refine st_op hA rfl rfl (by decide) (op_call rfl rfl rfl (Run_spec _ h 2 ⟨#[]⟩ 9 hRh hfh hbh hxh (by decide) (hFI.keep hH.kp))) ?_; clear hA; rintro _ w ⟨rfl, hk⟩ a hA; replace hH := hH.keep hk; clear hk hRh)
  obtain ⟨⟨r1, r2, r3⟩, hr⟩ : ∃ r, r = runP h 2 ⟨#[]⟩ 9 := ⟨_, rfl⟩
  rw [← hr] at hA hrun5
  dsimp only at hrun5
  subst hrun5
  repeat' (first | (refine GT ?_ ?_ <;> intro hg <;> clear hA a <;> intro a hA <;> (first | exact FA | replace hg := of_decide_eq_true hg | replace hg := of_decide_eq_false hg | skip)) | ((first | apply st_ex hA hH rfl rfl (by decide) | apply dr_ex hA rfl rfl rfl (by decide) | apply dr_exp hA rfl rfl rfl (by decide) | apply dr_ex3 hA hH rfl rfl rfl (by decide)); (first | (apply ex_eqlSs (m := ⟨#[53]⟩); rfl; rfl) | (apply ex_field (v := .string ⟨#[53]⟩); rfl; rfl; exact pk_9; rfl)); clear hA a; intro a hA) | (refine QT ?_; clear hA a; intro a hA) | (refine CT ?_ <;> repeat' refine CT ?_) | fail)
  exact rt1 (.inl rfl) rfl hA rfl ⟨rfl, hH.kp⟩
end Go.Proofs.YtenlcdokaadobaaGreatDoor
namespace Go.Fw
open Go Go.RowKit
section
variable {P : Program} {N : Nat} {l : List (Nat × Value)} {C : World → Prop} {d : Option Tmp} {T : TypeId} {pos : String} {af : Array Edge} {g : Option (Nat × Bool)}
end
end Go.Fw
namespace Go.Proofs.YtenlcdokaadobaaGreatDoor
open Go Go.Fw
set_option linter.unusedVariables false
set_option maxRecDepth 10000 attribute [local irreducible] Code.wp wpList Calls Ex Op1 sat bat blk cb own Go.Fw.mp Go.Fw.mpO Go.Fw.mpI Go.Fw.mpE Go.Fw.itr HS Rd Ret wkD Hp Cl Cls Exit.then Exit.inBlock Exit.noGoto bodyPost Go.Fw.flat wk2 Go.Fw.all Go.Fw.owns wpOp
attribute [local irreducible] sk mpK sko mvO entK opM Go.Fw.mset Go.Fw.mv opK

set_option maxHeartbeats 4000000 in
theorem large_spec (w0 : World) (g : Grs) (hR : RdGs w0 g) (hs : SzG 1048576 g) : Ret Tryz.prog 11 #[.agg (encGs g).toArray] w0 (fun r w => ∃ b, r = .bool b ∧ (b = true ↔ 50 < g.fs.l.length ∨ 1000 < grsN g) ∧ Kp w0 noM w) := by
  have hH : HS w0 noM [] w0 := HS.init w0 noM
  have hfs := hs.fs
  (refine enter (N := 12) Tryz.func11 rfl Tryz.ntmps11 rfl ?_; intro a hA; dsimp only [sl0, Nat.reduceAdd] at hA)
  by_cases hl : 50 < g.fs.l.length
  · repeat' (first | (refine GT ?_ ?_ <;> intro hg <;> clear hA a <;> intro a hA <;> (first | exact FA | replace hg := of_decide_eq_true hg | replace hg := of_decide_eq_false hg | skip)) | (refine QT ?_; clear hA a; intro a hA) | (refine BT ?_; clear hA hH; rintro _ w ⟨bN, rfl, hH⟩ a hA) | (refine CT ?_ <;> repeat' refine CT ?_) | fail)
    exact rt1 (.inl rfl) rfl hA rfl ⟨true, rfl, iff_of_true rfl (.inl hl), hH.kp⟩
  repeat' (first | (refine GT ?_ ?_ <;> intro hg <;> clear hA a <;> intro a hA <;> (first | exact FA | replace hg := of_decide_eq_true hg | replace hg := of_decide_eq_false hg | skip)) | ((first | apply st_ex hA hH rfl rfl (by decide) | apply dr_ex hA rfl rfl rfl (by decide) | apply dr_exp hA rfl rfl rfl (by decide) | apply dr_ex3 hA hH rfl rfl rfl (by decide)); (first | (apply ex_load_st (vs := encGs g); rfl; rfl; exact cls_cb_all MEMT)); clear hA a; intro a hA) | (refine QT ?_; clear hA a; intro a hA) | (refine BT ?_; clear hA hH; rintro _ w ⟨bN, rfl, hH⟩ a hA) | (refine CT ?_ <;> repeat' refine CT ?_) | fail)
  (refine st_op hA rfl rfl (by decide) (op_call rfl rfl rfl (Parts_spec _ g 1000 (by decide) (hR.keep hH.kp) hs)) ?_; clear hA; rintro _ w ⟨n, rfl, hn, hk⟩ a hA; replace hH := hH.keep hk; clear hk)
  by_cases h2 : n ≤ 1000
  · repeat' (first | (refine QT ?_; clear hA a; intro a hA) | (refine CT ?_ <;> repeat' refine CT ?_) | fail)
    exact rt1 (.inl rfl) rfl hA rfl ⟨_, rfl, iff_of_false (fun h => (by have := of_decide_eq_true h; omega)) (fun h => (by have := hn.1 h2; omega)), hH.kp⟩
  · repeat' (first | (refine QT ?_; clear hA a; intro a hA) | (refine CT ?_ <;> repeat' refine CT ?_) | fail)
    exact rt1 (.inl rfl) rfl hA rfl ⟨_, rfl, iff_of_true (decide_eq_true (by omega)) (.inr (by have := fun h => h2 (hn.2 h); omega)), hH.kp⟩
end Go.Proofs.YtenlcdokaadobaaGreatDoor
namespace Go.Proofs.YtenlcdokaadobaaGreatDoor
open Go Go.Fw
set_option linter.unusedVariables false
def SrO (out : List Nat) : Sr → Prop
  | .go m => ∃ t, m.wd.out = out ++ t
  | .stop k s wd => k ≠ 2 ∧ ∃ t, wd.out = out ++ t
theorem SrO.same {wd : Wd} {sk : List Fm} {fm : Fm} : SrO wd.out (.go ⟨wd, sk, fm⟩) := ⟨[], (List.append_nil _).symm⟩
theorem eqS_ne {s : ByteArray} (h : 1 ≤ s.size) : eqS s empS = false := by
  rw [beq_eq_false_iff_ne]
  intro e
  rw [ByteArray.toList_eq, ByteArray.toList_eq] at e
  have h2 : s.size = s.data.toList.length := rfl
  rw [e] at h2
  have h3 : empS.data.toList.length = 0 := rfl
  omega
theorem bts_app (a t : ByteArray) : bts (a ++ t) = bts a ++ bts t := by
  unfold bts
  rw [← List.map_append]
  congr 1
theorem bts_first {a t : ByteArray} (h : 1 ≤ a.size) : (bts (a ++ t)).getD 0 0 = (bts a).getD 0 0 := by
  rw [bts_app]
  have h2 : 0 < (bts a).length := by unfold bts; rw [List.length_map]; exact h
  rw [List.getD_eq_getElem?_getD, List.getD_eq_getElem?_getD, List.getElem?_append_left h2]
theorem ext_tail {a t : ByteArray} (h : 1 ≤ a.size) : (a ++ t).extract 1 (a ++ t).size = a.extract 1 a.size ++ t := by
  apply ByteArray.ext
  rw [ByteArray.data_append, ByteArray.data_extract, ByteArray.data_extract, ByteArray.data_append]
  apply Array.ext'
  have h1 : 1 ≤ a.data.toList.length := h
  rw [Array.toList_append, Array.toList_extract, Array.toList_extract, Array.toList_append, ByteArray.size_append]
  have e1 : a.size = a.data.toList.length := rfl
  have e2 : t.size = t.data.toList.length := rfl
  rw [e1, e2]
  generalize a.data.toList = x at *
  generalize t.data.toList = y at *
  simp only [List.extract_eq_take_drop]
  rw [List.drop_append_of_le_length h1, List.take_of_length_le, List.take_of_length_le]
  · rw [List.length_drop]; omega
  · rw [List.length_append, List.length_drop]; omega
def extW (t : ByteArray) (w : Wd) : Wd := { w with inp := w.inp ++ t }
def extR (t : ByteArray) : Rs → Rs
  | .val v w => .val v (extW t w)
  | .exn s => .exn s
def extM (t : ByteArray) (m : Mc) : Mc := { m with wd := extW t m.wd }
def extS (t : ByteArray) : Sr → Sr
  | .go m => .go (extM t m)
  | .stop k s wd => .stop k s (extW t wd)
theorem texts_ext (t : ByteArray) (op : Int) (l : List Vl) (wd : Wd) : textsF op l (extW t wd) = extR t (textsF op l wd) := by
  unfold textsF
  cases asTxt (nth0 l 0) with
  | none => rfl
  | some s =>
    by_cases h : op = 17
    · simp only [h, if_true]; rfl
    simp only [h, if_false]
    by_cases h : op = 19
    · simp only [h, if_true]
      cases asTxt (nth0 l 1) with
      | none => rfl
      | some u => dsimp only; split <;> rfl
    simp only [h, if_false]
    cases asNum (nth0 l 1) with
    | none => rfl
    | some u => dsimp only; split <;> rfl
theorem arrays_ext (t : ByteArray) (op : Int) (l : List Vl) (wd : Wd) : arraysF op l (extW t wd) = extR t (arraysF op l wd) := by
  unfold arraysF
  by_cases h : op = 13
  · simp only [h, if_true]
    cases asNum (nth0 l 0) with
    | none => rfl
    | some n => dsimp only; split <;> rfl
  simp only [h, if_false]
  cases asAr (nth0 l 0) with
  | none => rfl
  | some p =>
    by_cases h : op = 16
    · simp only [h, if_true]; rfl
    simp only [h, if_false]
    cases asNum (nth0 l 1) with
    | none => rfl
    | some i =>
      show (if i < 0 ∨ ((wd.st.getD p []).length : Int) ≤ i then _ else _) = extR t (if i < 0 ∨ ((wd.st.getD p []).length : Int) ≤ i then _ else _)
      split
      · rfl
      · by_cases h : op = 14
        · simp only [h, if_true]; rfl
        · simp only [h, if_false]; rfl
theorem op_ext (t : ByteArray) (op : Int) (l : List Vl) (wd : Wd) (hi : 1 ≤ wd.inp.size) : opF op l (extW t wd) = extR t (opF op l wd) := by
  unfold opF
  by_cases h : op = 10
  · simp only [h, if_true]; rfl
  simp only [h, if_false]
  by_cases h : op = 11
  · simp only [h, if_true]
    cases asCl (nth0 l 0) <;> rfl
  simp only [h, if_false]
  by_cases h : op = 12
  · simp only [h, if_true]
    cases asCl (nth0 l 0) <;> rfl
  simp only [h, if_false]
  by_cases h : op = 17 ∨ op = 18 ∨ op = 19
  · rw [if_pos h, if_pos h]; exact texts_ext ..
  rw [if_neg h, if_neg h]
  by_cases h : op = 13 ∨ op = 14 ∨ op = 15 ∨ op = 16
  · rw [if_pos h, if_pos h]; exact arrays_ext ..
  rw [if_neg h, if_neg h]
  cases asNum (nth0 l 0) with
  | none => rfl
  | some a =>
    cases (if 1 < l.length then asNum (nth0 l 1) else some 0) with
    | none => rfl
    | some b =>
      dsimp only
      by_cases h : op = 20
      · rw [if_pos h, if_pos h]
        have e1 : eqS wd.inp empS = false := eqS_ne hi
        have e2 : eqS (extW t wd).inp empS = false := eqS_ne (by show 1 ≤ (wd.inp ++ t).size; rw [ByteArray.size_append]; omega)
        rw [e1, e2]
        simp only [Bool.false_eq_true, if_false]
        have e3 : (bts (extW t wd).inp).getD 0 0 = (bts wd.inp).getD 0 0 := bts_first hi
        have e4 : (extW t wd).inp.extract 1 (extW t wd).inp.size = wd.inp.extract 1 wd.inp.size ++ t := ext_tail hi
        rw [e3, e4]
        rfl
      rw [if_neg h, if_neg h]
      by_cases h : op = 21
      · rw [if_pos h, if_pos h]; rfl
      rw [if_neg h, if_neg h]
      cases doF op a b <;> rfl
theorem plain_ext (t : ByteArray) (r : Stp) (l cs : List Vl) (wd : Wd) (hi : 1 ≤ wd.inp.size) : plainF r l cs (extW t wd) = extR t (plainF r l cs wd) := by
  by_cases h2 : r.k = 2
  · rw [pl_2 h2, pl_2 h2]; exact op_ext t _ _ _ hi
  unfold plainF
  rw [if_neg h2, if_neg h2]
  by_cases h : r.k = 1
  · rw [if_pos h, if_pos h]; rfl
  rw [if_neg h, if_neg h]
  by_cases h : r.k = 4
  · rw [if_pos h, if_pos h]; rfl
  rw [if_neg h, if_neg h]
  by_cases h : r.k = 5
  · rw [if_pos h, if_pos h]; rfl
  rw [if_neg h, if_neg h]
  by_cases h : r.k = 6
  · rw [if_pos h, if_pos h]; rfl
  rw [if_neg h, if_neg h]
  by_cases h : r.k = 7
  · rw [if_pos h, if_pos h]
    cases asRc (nth0 l 0) with
    | none => rfl
    | some x => obtain ⟨ns, xs⟩ := x; dsimp only; split <;> rfl
  rw [if_neg h, if_neg h]
  by_cases h : r.k = 8
  · rw [if_pos h, if_pos h]
    cases asRc (nth0 l 0) with
    | none => rfl
    | some x => obtain ⟨ns, xs⟩ := x; dsimp only; split <;> rfl
  rw [if_neg h, if_neg h]
  by_cases h : r.k = 9
  · rw [if_pos h, if_pos h]; rfl
  rw [if_neg h, if_neg h]
  by_cases h : r.k = 10
  · rw [if_pos h, if_pos h]
    cases asTg (nth0 l 0) <;> rfl
  rw [if_neg h, if_neg h]
  by_cases h : r.k = 11
  · rw [if_pos h, if_pos h]
    cases asTg (nth0 l 0) <;> rfl
  rw [if_neg h, if_neg h]
  by_cases h : r.k = 12
  · rw [if_pos h, if_pos h]
    cases asTxt (nth0 l 0) <;> cases asTxt (nth0 l 1) <;> rfl
  rw [if_neg h, if_neg h]
  rfl
theorem enter_ext (t : ByteArray) (f x : Vl) (wd : Wd) (sk : List Fm) : enterF f x (extW t wd) sk = extS t (enterF f x wd sk) := by
  unfold enterF
  cases asFn f <;> rfl
theorem call_ext (t : ByteArray) (f x : Vl) (h : Option Clo) (wd : Wd) (sk : List Fm) (fm : Fm) : callF f x h (extW t wd) sk fm = extS t (callF f x h wd sk fm) := by
  unfold callF
  cases asFn f <;> rfl
theorem raiseL_ext (t : ByteArray) (n : Int) (wd : Wd) : ∀ (sk : List Fm), raiseL n (extW t wd) sk = raiseL n wd sk
  | [] => rfl
  | f :: r => by
    unfold raiseL
    rw [raiseL_ext t n wd r]
theorem raise_ext (t : ByteArray) (g : Grs) (n : Int) (wd : Wd) (sk : List Fm) : raiseF g n (extW t wd) sk = extS t (raiseF g n wd sk) := by
  unfold raiseF
  rw [raiseL_ext]
  split
  · rfl
  · cases raiseL n wd sk <;> rfl
theorem back_ext (t : ByteArray) (g : Grs) (kd : Int) (x : Vl) (wd : Wd) (sk : List Fm) : backF g kd x (extW t wd) sk = extS t (backF g kd x wd sk) := by
  unfold backF
  cases sk with
  | nil => cases h : textF g kd x <;> simp only [h] <;> rfl
  | cons f r => rfl
theorem ins_ext (t : ByteArray) (g : Grs) (fm : Fm) (i : Ins) (wd : Wd) (sk : List Fm) (hi : 1 ≤ wd.inp.size) : insF g fm i (extW t wd) sk = extS t (insF g fm i wd sk) := by
  by_cases h3 : i.r.k = 3
  · rw [in_3 h3, in_3 h3]; exact call_ext ..
  by_cases h14 : i.r.k = 14
  · rw [in_14 h14, in_14 h14]
    cases asFn (nth0 (allF g fm i.r.a.l) 0) with
    | none => rfl
    | some c =>
      dsimp only
      split
      · exact call_ext ..
      · rfl
  by_cases h13 : i.r.k = 13
  · rw [in_13 h13, in_13 h13]
    cases asFn (nth0 (allF g fm i.r.a.l) 1) with
    | none => rfl
    | some c => exact call_ext ..
  rw [in_p ⟨h3, h14, h13⟩, in_p ⟨h3, h14, h13⟩, plain_ext t _ _ _ _ hi]
  cases plainF i.r (allF g fm i.r.a.l) fm.c.2 wd with
  | exn s => exact raise_ext ..
  | val v w =>
    show (if isNil v then stuckF (extW t w) else _) = extS t (if isNil v then stuckF w else _)
    split <;> rfl
theorem last_ext (t : ByteArray) (g : Grs) (kd : Int) (fm : Fm) (e : En) (wd : Wd) (sk : List Fm) : lastF g kd fm e (extW t wd) sk = extS t (lastF g kd fm e wd sk) := by
  by_cases h1 : e.k = 1
  · rw [la_1 h1, la_1 h1]; exact back_ext ..
  by_cases h2 : e.k = 2
  · rw [la_2 h2, la_2 h2]; exact enter_ext ..
  by_cases h4 : e.k = 4
  · rw [la_4 h4, la_4 h4]; rfl
  rw [la_x ⟨h1, h2, h4⟩, la_x ⟨h1, h2, h4⟩]
  cases asNum (getF g fm (e.a.l.getD 0 atm0)) with
  | none => rfl
  | some n =>
    dsimp only
    by_cases h3 : e.k = 3
    · rw [if_pos h3, if_pos h3]; exact raise_ext ..
    rw [if_neg h3, if_neg h3]
    by_cases h5 : e.k = 5
    · rw [if_pos h5, if_pos h5]; rfl
    · rw [if_neg h5, if_neg h5]; rfl
theorem step_ext (t : ByteArray) (g : Grs) (kd : Int) (m : Mc) (hi : 1 ≤ m.wd.inp.size) : stepF g kd (extM t m) = extS t (stepF g kd m) := by
  show (if m.fm.i < (curB g m.fm).is.l.length then insF g m.fm (insAt g m.fm) (extW t m.wd) m.sk else lastF g kd m.fm (curB g m.fm).e (extW t m.wd) m.sk) = extS t (if m.fm.i < (curB g m.fm).is.l.length then insF g m.fm (insAt g m.fm) m.wd m.sk else lastF g kd m.fm (curB g m.fm).e m.wd m.sk)
  split
  · exact ins_ext t _ _ _ _ _ hi
  · exact last_ext ..
def WdI (w w' : Wd) : Prop := w.inp.size ≤ w'.inp.size + 1
theorem WdI.same (w : Wd) : WdI w w := Nat.le_succ _
theorem texts_inp {op : Int} {l : List Vl} {wd wd' : Wd} {v : Vl} (h : textsF op l wd = .val v wd') : WdI wd wd' := by
  unfold textsF stk at h
  repeat' split at h
  all_goals first | (cases h; done) | (cases h; exact .same _)
theorem arrays_inp {op : Int} {l : List Vl} {wd wd' : Wd} {v : Vl} (h : arraysF op l wd = .val v wd') : WdI wd wd' := by
  unfold arraysF stk at h
  repeat' split at h
  all_goals first | (cases h; done) | (cases h; exact .same _) | (cases h; exact Nat.le_succ _)
theorem op_inp {op : Int} {l : List Vl} {wd wd' : Wd} {v : Vl} (h : opF op l wd = .val v wd') : WdI wd wd' := by
  unfold opF stk at h
  repeat' split at h
  all_goals first | (cases h; done) | exact texts_inp h | exact arrays_inp h | (cases h; exact .same _) | (cases h; exact Nat.le_succ _) | (cases h; show _ ≤ (ByteArray.extract _ _ _).size + 1; rw [ByteArray.size_extract]; omega)
theorem plain_inp {r : Stp} {l cs : List Vl} {wd wd' : Wd} {v : Vl} (h : plainF r l cs wd = .val v wd') : WdI wd wd' := by
  by_cases h2 : r.k = 2
  · rw [pl_2 h2] at h; exact op_inp h
  unfold plainF stk at h
  rw [if_neg h2] at h
  repeat' split at h
  all_goals first | (cases h; done) | (cases h; exact .same _)
theorem step_inp {g : Grs} {kd : Int} {m m' : Mc} (h : stepF g kd m = .go m') : WdI m.wd m'.wd := by
  unfold stepF at h
  split at h
  · unfold insF callF stuckF at h
    repeat' split at h
    all_goals first | (cases h; done) | (cases h; exact .same _) | skip
    all_goals first | (unfold raiseF stuckF at h; repeat' split at h) | skip
    all_goals first | (cases h; done) | (cases h; exact .same _) | (cases h; exact plain_inp (by assumption))
  · unfold lastF backF enterF stuckF at h
    repeat' split at h
    all_goals first | (cases h; done) | (cases h; exact .same _) | skip
    all_goals first | (unfold raiseF stuckF at h; repeat' split at h) | skip
    all_goals first | (cases h; done) | (cases h; exact .same _)
theorem run_ext (t : ByteArray) (g : Grs) (kd : Int) : ∀ (n : Nat) (m : Mc), n ≤ m.wd.inp.size → (runF g kd n (extM t m)).1 = (runF g kd n m).1 ∧ (runF g kd n (extM t m)).2.1 = (runF g kd n m).2.1 ∧ (runF g kd n (extM t m)).2.2.out = (runF g kd n m).2.2.out
  | 0, m, _ => ⟨rfl, rfl, rfl⟩
  | n + 1, m, h => by
    rw [runF, runF, step_ext t g kd m (by omega)]
    cases hs : stepF g kd m with
    | go m' =>
      have h2 := step_inp hs
      unfold WdI at h2
      exact run_ext t g kd n m' (by omega)
    | stop k s wd => exact ⟨rfl, rfl, rfl⟩
theorem runP_ext {g : Grs} {kd : Int} {s t : ByteArray} {n : Int} (h : n ≤ s.size) : runP g kd s n = runP g kd (s ++ t) n := by
  by_cases hm : MayP g
  · rw [runP_t hm, runP_t hm]
    obtain ⟨h1, h2, h3⟩ := run_ext t g kd n.toNat (firstM s) (by show n.toNat ≤ s.size; omega)
    have e : extM t (firstM s) = firstM (s ++ t) := rfl
    rw [e] at h1 h2 h3
    rw [h1, h2, h3]
  · rw [runP_f hm, runP_f hm]
end Go.Proofs.YtenlcdokaadobaaGreatDoor
namespace Go.Proofs.YtenlcdokaadobaaGreatDoor
open Go Go.Fw
set_option linter.unusedVariables false
theorem bulk_pos {H : Type} (d : DataW H) : 1 ≤ Rows.uptoBulk d := by
  cases d with
  | lit l => cases l <;> simp [Rows.uptoBulk]
  | _ => simp [Rows.uptoBulk]
theorem bulk_mem {H : Type} {d : DataW H} : ∀ {l : List (DataW H)}, d ∈ l → Rows.uptoBulk d ≤ Rows.uptoBulkAll l
  | x :: l, h => by
    rw [Rows.uptoBulkAll]
    rcases List.mem_cons.1 h with rfl | h
    · omega
    · have := bulk_mem h; omega
theorem bulk_len {H : Type} : ∀ (l : List (DataW H)), l.length ≤ Rows.uptoBulkAll l
  | [] => Nat.zero_le _
  | x :: l => by
    rw [Rows.uptoBulkAll, List.length_cons]
    have := bulk_pos x
    have := bulk_len l
    omega
theorem bulk_of {H : Type} {ds : List (DataW H)} {d : DataW H} (hk : ∃ gs, Rows.uptoSmall H (ds ++ gs) = true) (hd : d ∈ ds) : Rows.uptoBulk d ≤ 1048576 := by
  obtain ⟨gs, hk⟩ := hk
  have h : Rows.uptoBulkAll (ds ++ gs) ≤ 1048576 := of_decide_eq_true hk
  have := bulk_mem (List.mem_append_left gs hd)
  omega
theorem bulk_slice {H : Type} {elems rest : List (DataW H)} : elems.length ≤ Rows.uptoBulk (.slice elems rest) := by
  rw [Rows.uptoBulk]
  have := bulk_len elems
  omega
end Go.Proofs.YtenlcdokaadobaaGreatDoor
namespace Go.Proofs.YtenlcdokaadobaaGreatDoor
open Go Go.Fw Go.ChangeShapes Go.WideShapes Go.ChangeAt Go.RowKit Go.Deep
set_option linter.unusedVariables false
section
variable {H : Type} {enc0 : TypeId × Value → H} {w : World} {held : Bool}
def Opn (enc0 : TypeId × Value → H) (w : World) (held : Bool) (t : TypeId) {α : Type} (enc : α → List Value) (K : α → Prop) : Prop :=
  ∀ (fuel : Nat) (cs : List Value) (x : DataW H × List MemPlace), DataW.trod enc0 Tryz.prog w 0 (fun _ => true) held fuel t cs = some x → ∃ a, cs = enc a ∧ (Rows.uptoBulk x.1 ≤ 1048576 → K a)
theorem opn_int {t : TypeId} {k : IntKind} [h : TIn Tryz.prog t k] : Opn enc0 w held t (fun n : Int => [.int k n]) (fun _ => True) := fun fuel cs x hx => by
  obtain ⟨n, rfl, _⟩ := DataW.trod_int h.eq hx
  exact ⟨n, rfl, fun _ => trivial⟩
theorem rd_of0 {a : Addr} {vs : List Value} (h : ∀ j v, vs[j]? = some v → w.cell? (a.add j) = some v) : Rd w (some a) vs := by
  cases vs with
  | nil => exact ⟨fun h => absurd h (by decide), fun j u h => by simp at h⟩
  | cons v vs =>
    have h1 := World.cell?_spot (h 0 v rfl)
    have hs : a.spot = none := by simpa [Addr.add] using h1
    refine ⟨fun _ => ⟨a.block, a.off, by rw [← hs]⟩, fun j u hj => ?_⟩
    rw [← add_sat a hs]
    exact h j u hj
theorem opn_slice {t e : TypeId} [ht : TSl Tryz.prog t e] {α : Type} {enc : α → List Value} {K : α → Prop} {sz : Nat} (he : Opn enc0 w held e enc K) (hc : Tryz.prog.cellsOf e = sz) (hsz : 0 < sz) (hl : ∀ a, (enc a).length = sz) :
    Opn enc0 w held t (fun v : Option Addr × Nat × List α => [.slice v.1 v.2.2.length v.2.1]) (fun v => (Rd w v.1 (flat enc v.2.2) ∧ v.2.2.length ≤ v.2.1 ∧ v.2.1 ≤ maxLen) ∧ v.2.2.length ≤ 1048576 ∧ ∀ a ∈ v.2.2, K a) := fun fuel cs x hx => by
  rcases DataW.trod_slice ht.eq hx with ⟨rfl, rfl⟩ | ⟨a, len, cap, elems, rest, n, rfl, rfl, rfl, hb, hle, hm, hlen, hel, _, _⟩
  · exact ⟨(none, 0, []), rfl, fun _ => ⟨⟨⟨fun h => absurd h (Nat.lt_irrefl 0), fun j u h => by simp [flat] at h⟩, Nat.le_refl _, Nat.zero_le _⟩, Nat.zero_le _, fun a ha => absurd ha List.not_mem_nil⟩⟩
  · obtain ⟨l, hll, hp⟩ := choose_list (fun i (p : α) => (∀ j v, (enc p)[j]? = some v → w.cell? (a.add (i * sz + j)) = some v) ∧ ∀ y, elems[i]? = some y → Rows.uptoBulk y.1 ≤ 1048576 → K p) len (fun i hi => by
      have h1 := hel i hi
      have h2 : elems[i]? = some (elems[i]'(by omega)) := List.getElem?_eq_getElem (by omega)
      rw [h2, hc] at h1
      obtain ⟨cs', hcs, ht'⟩ := Option.bind_eq_some_iff.1 h1
      obtain ⟨_, hcl, hat⟩ := World.cells?_some hcs
      obtain ⟨p, rfl, hK⟩ := he _ _ _ ht'
      refine ⟨p, fun j v hj => ?_, fun y hy hbk => ?_⟩
      · have hjl := (List.getElem?_eq_some_iff.1 hj).1
        rw [hl] at hjl
        rw [← Go.Deep.add_add, hat j hjl, hj]
      · rw [h2] at hy
        cases hy
        exact hK hbk)
    subst hll
    refine ⟨(some a, cap, l), rfl, fun hbk => ⟨⟨rd_of0 fun j v hj => ?_, hle, hm⟩, ?_, fun p hp' => ?_⟩⟩
    · dsimp only at hj
      have hjl := (List.getElem?_eq_some_iff.1 hj).1
      rw [flat_length hl] at hjl
      have hjq : j / sz < l.length := Nat.div_lt_of_lt_mul (by rw [Nat.mul_comm]; exact hjl)
      obtain ⟨p, hpp⟩ : ∃ p, l[j / sz]? = some p := ⟨_, List.getElem?_eq_getElem hjq⟩
      have h6 := (hp _ _ hpp).1 (j % sz)
      have ej : j / sz * sz + j % sz = j := by rw [Nat.mul_comm]; exact Nat.div_add_mod j sz
      obtain ⟨u, hu⟩ : ∃ u, (enc p)[j % sz]? = some u := ⟨_, List.getElem?_eq_getElem (by rw [hl]; exact Nat.mod_lt _ hsz)⟩
      have h7 := flat_get hl hpp hu
      rw [ej, hj] at h7
      have h8 := h6 u hu
      rw [ej] at h8
      rw [h8, ← Option.some.inj h7]
    · have := bulk_slice (elems := elems.map (·.1)) (rest := rest.map (·.1))
      rw [List.length_map] at this
      dsimp only at hbk ⊢
      omega
    · dsimp only at hp' hbk
      obtain ⟨i, hi⟩ := List.getElem?_of_mem hp'
      have hil := (List.getElem?_eq_some_iff.1 hi).1
      obtain ⟨y, hy⟩ : ∃ y, elems[i]? = some y := ⟨_, List.getElem?_eq_getElem (by omega)⟩
      refine (hp i p hi).2 y hy ?_
      have h9 := bulk_mem (List.mem_map_of_mem (f := fun x => x.1) (List.mem_of_getElem? hy))
      rw [Rows.uptoBulk] at hbk
      omega
theorem opn_struct {t : TypeId} {fl : List (Nat × Nat)} [ht : TSt Tryz.prog t fl] {fuel : Nat} {cs : List Value} {x : DataW H × List MemPlace} (hx : DataW.trod enc0 Tryz.prog w 0 (fun _ => true) held fuel t cs = some x) :
    ∃ n, cs.length = Tryz.prog.cellsOf t ∧ ∀ (i ft off : Nat), fl[i]? = some (ft, off) → ∃ y : DataW H × List MemPlace, DataW.trod enc0 Tryz.prog w 0 (fun _ => true) held n ft ((cs.drop off).take (Tryz.prog.cellsOf ft)) = some y ∧ (Rows.uptoBulk x.1 ≤ 1048576 → Rows.uptoBulk y.1 ≤ 1048576) := by
  obtain ⟨fs, hfs, hfl⟩ := ht.eq
  obtain ⟨ys, n, rfl, rfl, hcl, hyl, hf⟩ := DataW.trod_struct hfs hx
  refine ⟨n, hcl, fun i ft off hi => ?_⟩
  rw [← hfl, List.getElem?_map] at hi
  obtain ⟨fd, hfd, e⟩ := Option.map_eq_some_iff.1 hi
  cases e
  have hfd2 : fs[i]? = some fd := by rw [← Array.getElem?_toList]; exact hfd
  have h1 := hf i fd hfd2
  have hil : i < ys.length := by
    rw [hyl]
    exact (Array.getElem?_eq_some_iff.1 hfd2).1
  rw [List.getElem?_eq_getElem hil] at h1
  refine ⟨_, h1, fun hbk => ?_⟩
  have h9 := bulk_mem (List.mem_map_of_mem (f := fun x => x.1) (List.getElem_mem hil))
  rw [Rows.uptoBulk] at hbk
  omega
theorem cut_at (cs : List Value) (off s : Nat) : cs.drop off = (cs.drop off).take s ++ cs.drop (off + s) := by
  rw [← List.drop_drop]
  exact (List.take_append_drop s (cs.drop off)).symm
theorem opn_imp {t : TypeId} {α β : Type} {enc : α → List Value} {K : α → Prop} {enc2 : β → List Value} {K2 : β → Prop} (h : Opn enc0 w held t enc K) (f : α → β) (he : ∀ a, enc a = enc2 (f a)) (hK : ∀ a, K a → K2 (f a)) : Opn enc0 w held t enc2 K2 := fun fuel cs x hx => by
  obtain ⟨a, rfl, hk⟩ := h fuel cs x hx
  exact ⟨f a, he a, fun hb => hK a (hk hb)⟩
theorem opn_arg {t : TypeId} {α : Type} {enc : α → List Value} {K : α → Prop} (h : Opn enc0 w held t enc K) {v : Value} {d : DataW H} {p : List MemPlace} {ds : List (DataW H)} (hT : DataW.Trod enc0 Tryz.prog w 0 (fun _ => true) held t v d p) (hd : d ∈ ds) (hk : ∃ gs, Rows.uptoSmall H (ds ++ gs) = true) :
    ∃ a, v.cells.toList = enc a ∧ K a := by
  obtain ⟨fuel, hf⟩ := hT
  obtain ⟨a, he, hK⟩ := h fuel _ _ hf
  exact ⟨a, he, hK (bulk_of hk hd)⟩
end
end Go.Proofs.YtenlcdokaadobaaGreatDoor
namespace Go.Proofs.YtenlcdokaadobaaGreatDoor
open Go Go.Fw Go.ChangeShapes Go.WideShapes Go.ChangeAt Go.RowKit Go.Deep
set_option linter.unusedVariables false
structure AtB (b : Blc) : Prop where
  is : ∀ i ∈ b.is.l, ∀ a ∈ i.r.a.l, iok a.n
  e : ∀ a ∈ b.e.a.l, iok a.n
  to : ∀ t ∈ b.e.to.l, ∀ a ∈ t.a.l, iok a.n
section
variable {H : Type} {enc0 : TypeId × Value → H} {w : World} {held : Bool}
structure BigG (g : Grs) : Prop where
  sz : SzG 1048576 g
  xs : ∀ s ∈ g.xs.l, s.size ≤ 1048576
  at_ : ∀ f ∈ g.fs.l, ∀ b ∈ f.bs.l, AtB b
theorem opn_strB {t : TypeId} [h : TSr Tryz.prog t] : Opn enc0 w held t (fun s : ByteArray => [.string s]) (fun s => s.size ≤ 1048576) := fun fuel cs x hx => by
  obtain ⟨n, rfl, hx2, _⟩ := DataW.trod_string h.eq hx
  refine ⟨n, rfl, fun hb => ?_⟩
  rw [hx2] at hb
  have hb2 : n.data.toList.length + 1 ≤ 1048576 := hb
  have h9 : n.size = n.data.toList.length := rfl
  show n.size ≤ 1048576
  omega
theorem cutc {cs A B : List Value} {o s o2 : Nat} (z : o2 = o + s) (e : (cs.drop o).take s = A) (h : cs.drop o2 = B) : cs.drop o = A ++ B := by
  subst z
  rw [cut_at cs o s, e, h]
theorem cutn {cs : List Value} {o n : Nat} (h : cs.length = n) (z : n = o) : cs.drop o = [] := List.drop_eq_nil_of_le (by omega)
theorem opn_vec {t e : TypeId} [ht : TSl Tryz.prog t e] {α : Type} {enc : α → List Value} {K : α → Prop} {sz : Nat} (he : Opn enc0 w held e enc K) (hc : Tryz.prog.cellsOf e = sz) (hsz : 0 < sz) (hl : ∀ a, (enc a).length = sz) :
    Opn enc0 w held t (fun v : Vec α => [.slice v.o v.l.length v.c]) (fun v => RdV w enc v ∧ v.l.length ≤ 1048576 ∧ ∀ a ∈ v.l, K a) :=
  opn_imp (opn_slice he hc hsz hl) (fun v => ⟨v.1, v.2.1, v.2.2⟩) (fun v => rfl) (fun v h => h)
theorem opn_iok {t : TypeId} [h : TIn Tryz.prog t .i64] : Opn enc0 w held t (fun n : Int => [.int .i64 n]) iok := fun fuel cs x hx => by
  obtain ⟨n, rfl, hw⟩ := DataW.trod_int h.eq hx
  have hw2 : (decide (IntKind.i64.min ≤ n) && decide (n ≤ IntKind.i64.max)) = true := hw.2
  rw [Bool.and_eq_true, decide_eq_true_eq, decide_eq_true_eq] at hw2
  exact ⟨n, rfl, fun _ => hw2⟩
theorem opn_encI {t : TypeId} [h : TIn Tryz.prog t .i64] : Opn enc0 w held t Fw.encI (fun _ => True) := opn_imp opn_int id (fun _ => rfl) (fun _ _ => trivial)
theorem opn_encX {t : TypeId} [h : TSr Tryz.prog t] : Opn enc0 w held t encX (fun s => s.size ≤ 1048576) := opn_imp opn_strB id (fun _ => rfl) (fun _ h => h)
theorem opn_atm : Opn enc0 w held 65 encAt (fun a => iok a.n) := fun fuel cs x hx => by
  obtain ⟨n, hcl, hf⟩ := opn_struct hx
  obtain ⟨y0, h0, b0⟩ := hf 0 _ _ rfl
  obtain ⟨a0, e0, k0⟩ := (opn_int) n _ _ h0
  obtain ⟨y1, h1, b1⟩ := hf 1 _ _ rfl
  obtain ⟨a1, e1, k1⟩ := (opn_iok) n _ _ h1
  refine ⟨⟨a0, a1⟩, cutc (o2 := 1) (by kernel_rfl) e0 (cutc (o2 := 2) (by kernel_rfl) e1 (cutn (o := 2) hcl (by kernel_rfl))), fun hb => ?_⟩
  have g0 := k0 (b0 hb)
  have g1 := k1 (b1 hb)
  exact g1
theorem opn_stp : Opn enc0 w held 57 encSt (fun s => (RdV w Fw.encI s.ns ∧ RdV w encAt s.a) ∧ s.a.l.length ≤ 1048576 ∧ ∀ a ∈ s.a.l, iok a.n) := fun fuel cs x hx => by
  obtain ⟨n, hcl, hf⟩ := opn_struct hx
  obtain ⟨y0, h0, b0⟩ := hf 0 _ _ rfl
  obtain ⟨a0, e0, k0⟩ := (opn_int) n _ _ h0
  obtain ⟨y1, h1, b1⟩ := hf 1 _ _ rfl
  obtain ⟨a1, e1, k1⟩ := (opn_int) n _ _ h1
  obtain ⟨y2, h2, b2⟩ := hf 2 _ _ rfl
  obtain ⟨a2, e2, k2⟩ := (opn_vec (opn_encI) (by kernel_rfl) (by decide) Fw.encI_len) n _ _ h2
  obtain ⟨y3, h3, b3⟩ := hf 3 _ _ rfl
  obtain ⟨a3, e3, k3⟩ := (opn_vec (opn_atm) (by kernel_rfl) (by decide) encAt_len) n _ _ h3
  refine ⟨⟨a0, a1, a2, a3⟩, cutc (o2 := 1) (by kernel_rfl) e0 (cutc (o2 := 2) (by kernel_rfl) e1 (cutc (o2 := 3) (by kernel_rfl) e2 (cutc (o2 := 4) (by kernel_rfl) e3 (cutn (o := 4) hcl (by kernel_rfl))))), fun hb => ?_⟩
  have g0 := k0 (b0 hb)
  have g1 := k1 (b1 hb)
  have g2 := k2 (b2 hb)
  have g3 := k3 (b3 hb)
  exact ⟨⟨g2.1, g3.1⟩, g3.2⟩
theorem opn_ins : Opn enc0 w held 59 encIn (fun i => RdIn w i ∧ i.r.a.l.length ≤ 1048576 ∧ ∀ a ∈ i.r.a.l, iok a.n) := fun fuel cs x hx => by
  obtain ⟨n, hcl, hf⟩ := opn_struct hx
  obtain ⟨y0, h0, b0⟩ := hf 0 _ _ rfl
  obtain ⟨a0, e0, k0⟩ := (opn_int) n _ _ h0
  obtain ⟨y1, h1, b1⟩ := hf 1 _ _ rfl
  obtain ⟨a1, e1, k1⟩ := (opn_stp) n _ _ h1
  refine ⟨⟨a0, a1⟩, cutc (o2 := 1) (by kernel_rfl) e0 (cutc (o2 := 5) (by kernel_rfl) e1 (cutn (o := 5) hcl (by kernel_rfl))), fun hb => ?_⟩
  have g0 := k0 (b0 hb)
  have g1 := k1 (b1 hb)
  exact g1
theorem opn_edg : Opn enc0 w held 61 encEd (fun e => RdV w encAt e.a ∧ e.a.l.length ≤ 1048576 ∧ ∀ a ∈ e.a.l, iok a.n) := fun fuel cs x hx => by
  obtain ⟨n, hcl, hf⟩ := opn_struct hx
  obtain ⟨y0, h0, b0⟩ := hf 0 _ _ rfl
  obtain ⟨a0, e0, k0⟩ := (opn_int) n _ _ h0
  obtain ⟨y1, h1, b1⟩ := hf 1 _ _ rfl
  obtain ⟨a1, e1, k1⟩ := (opn_vec (opn_atm) (by kernel_rfl) (by decide) encAt_len) n _ _ h1
  refine ⟨⟨a0, a1⟩, cutc (o2 := 1) (by kernel_rfl) e0 (cutc (o2 := 2) (by kernel_rfl) e1 (cutn (o := 2) hcl (by kernel_rfl))), fun hb => ?_⟩
  have g0 := k0 (b0 hb)
  have g1 := k1 (b1 hb)
  exact g1
theorem opn_en : Opn enc0 w held 51 encEn (fun e => RdEn w e ∧ e.a.l.length ≤ 1048576 ∧ e.to.l.length ≤ 1048576 ∧ (∀ t ∈ e.to.l, t.a.l.length ≤ 1048576) ∧ (∀ a ∈ e.a.l, iok a.n) ∧ ∀ t ∈ e.to.l, ∀ a ∈ t.a.l, iok a.n) := fun fuel cs x hx => by
  obtain ⟨n, hcl, hf⟩ := opn_struct hx
  obtain ⟨y0, h0, b0⟩ := hf 0 _ _ rfl
  obtain ⟨a0, e0, k0⟩ := (opn_int) n _ _ h0
  obtain ⟨y1, h1, b1⟩ := hf 1 _ _ rfl
  obtain ⟨a1, e1, k1⟩ := (opn_vec (opn_atm) (by kernel_rfl) (by decide) encAt_len) n _ _ h1
  obtain ⟨y2, h2, b2⟩ := hf 2 _ _ rfl
  obtain ⟨a2, e2, k2⟩ := (opn_vec (opn_encI) (by kernel_rfl) (by decide) Fw.encI_len) n _ _ h2
  obtain ⟨y3, h3, b3⟩ := hf 3 _ _ rfl
  obtain ⟨a3, e3, k3⟩ := (opn_vec (opn_edg) (by kernel_rfl) (by decide) encEd_len) n _ _ h3
  refine ⟨⟨a0, a1, a2, a3⟩, cutc (o2 := 1) (by kernel_rfl) e0 (cutc (o2 := 2) (by kernel_rfl) e1 (cutc (o2 := 3) (by kernel_rfl) e2 (cutc (o2 := 4) (by kernel_rfl) e3 (cutn (o := 4) hcl (by kernel_rfl))))), fun hb => ?_⟩
  have g0 := k0 (b0 hb)
  have g1 := k1 (b1 hb)
  have g2 := k2 (b2 hb)
  have g3 := k3 (b3 hb)
  exact ⟨⟨g1.1, g2.1, g3.1, fun t ht => (g3.2.2 t ht).1⟩, g1.2.1, g3.2.1, fun t ht => (g3.2.2 t ht).2.1, g1.2.2, fun t ht => (g3.2.2 t ht).2.2⟩
theorem opn_blc : Opn enc0 w held 53 encBl (fun b => RdBl w b ∧ SzB 1048576 b ∧ AtB b) := fun fuel cs x hx => by
  obtain ⟨n, hcl, hf⟩ := opn_struct hx
  obtain ⟨y0, h0, b0⟩ := hf 0 _ _ rfl
  obtain ⟨a0, e0, k0⟩ := (opn_vec (opn_encI) (by kernel_rfl) (by decide) Fw.encI_len) n _ _ h0
  obtain ⟨y1, h1, b1⟩ := hf 1 _ _ rfl
  obtain ⟨a1, e1, k1⟩ := (opn_vec (opn_ins) (by kernel_rfl) (by decide) encIn_len) n _ _ h1
  obtain ⟨y2, h2, b2⟩ := hf 2 _ _ rfl
  obtain ⟨a2, e2, k2⟩ := (opn_en) n _ _ h2
  refine ⟨⟨a0, a1, a2⟩, cutc (o2 := 1) (by kernel_rfl) e0 (cutc (o2 := 2) (by kernel_rfl) e1 (cutc (o2 := 6) (by kernel_rfl) e2 (cutn (o := 6) hcl (by kernel_rfl)))), fun hb => ?_⟩
  have g0 := k0 (b0 hb)
  have g1 := k1 (b1 hb)
  have g2 := k2 (b2 hb)
  exact ⟨⟨g0.1, g1.1, fun i hi => (g1.2.2 i hi).1, g2.1⟩, ⟨g0.2.1, g1.2.1, fun i hi => (g1.2.2 i hi).2.1, g2.2.1, g2.2.2.1, g2.2.2.2.1⟩, ⟨fun i hi => (g1.2.2 i hi).2.2, g2.2.2.2.2.1, g2.2.2.2.2.2⟩⟩
theorem opn_gr : Opn enc0 w held 44 encG (fun g => RdG w g ∧ g.bs.l.length ≤ 1048576 ∧ ∀ bl ∈ g.bs.l, SzB 1048576 bl ∧ AtB bl) := fun fuel cs x hx => by
  obtain ⟨n, hcl, hf⟩ := opn_struct hx
  obtain ⟨y0, h0, b0⟩ := hf 0 _ _ rfl
  obtain ⟨a0, e0, k0⟩ := (opn_int) n _ _ h0
  obtain ⟨y1, h1, b1⟩ := hf 1 _ _ rfl
  obtain ⟨a1, e1, k1⟩ := (opn_vec (opn_blc) (by kernel_rfl) (by decide) encBl_len) n _ _ h1
  refine ⟨⟨a0, a1⟩, cutc (o2 := 1) (by kernel_rfl) e0 (cutc (o2 := 2) (by kernel_rfl) e1 (cutn (o := 2) hcl (by kernel_rfl))), fun hb => ?_⟩
  have g0 := k0 (b0 hb)
  have g1 := k1 (b1 hb)
  exact ⟨⟨g1.1, fun b hb => (g1.2.2 b hb).1⟩, g1.2.1, fun b hb => (g1.2.2 b hb).2⟩
theorem opn_grs : Opn enc0 w held 25 encGs (fun g => RdGs w g ∧ BigG g) := fun fuel cs x hx => by
  obtain ⟨n, hcl, hf⟩ := opn_struct hx
  obtain ⟨y0, h0, b0⟩ := hf 0 _ _ rfl
  obtain ⟨a0, e0, k0⟩ := (opn_vec (opn_gr) (by kernel_rfl) (by decide) encG_len) n _ _ h0
  obtain ⟨y1, h1, b1⟩ := hf 1 _ _ rfl
  obtain ⟨a1, e1, k1⟩ := (opn_vec (opn_encX) (by kernel_rfl) (by decide) encX_len) n _ _ h1
  obtain ⟨y2, h2, b2⟩ := hf 2 _ _ rfl
  obtain ⟨a2, e2, k2⟩ := (opn_vec (opn_encX) (by kernel_rfl) (by decide) encX_len) n _ _ h2
  obtain ⟨y3, h3, b3⟩ := hf 3 _ _ rfl
  obtain ⟨a3, e3, k3⟩ := (opn_vec (opn_encX) (by kernel_rfl) (by decide) encX_len) n _ _ h3
  obtain ⟨y4, h4, b4⟩ := hf 4 _ _ rfl
  obtain ⟨a4, e4, k4⟩ := (opn_vec (opn_encX) (by kernel_rfl) (by decide) encX_len) n _ _ h4
  refine ⟨⟨a0, a1, a2, a3, a4⟩, cutc (o2 := 1) (by kernel_rfl) e0 (cutc (o2 := 2) (by kernel_rfl) e1 (cutc (o2 := 3) (by kernel_rfl) e2 (cutc (o2 := 4) (by kernel_rfl) e3 (cutc (o2 := 5) (by kernel_rfl) e4 (cutn (o := 5) hcl (by kernel_rfl)))))), fun hb => ?_⟩
  have g0 := k0 (b0 hb)
  have g1 := k1 (b1 hb)
  have g2 := k2 (b2 hb)
  have g3 := k3 (b3 hb)
  have g4 := k4 (b4 hb)
  exact ⟨⟨g0.1, fun f hf => (g0.2.2 f hf).1, g1.1, g2.1, g3.1, g4.1⟩, ⟨⟨g0.2.1, fun f hf => (g0.2.2 f hf).2.1, fun f hf b hb => ((g0.2.2 f hf).2.2 b hb).1⟩, g3.2.2, fun f hf b hb => ((g0.2.2 f hf).2.2 b hb).2⟩⟩
set_option maxRecDepth 100000 in
theorem argG {base : Nat} {v : Value} {d : DataW H} {p : List MemPlace} {ds : List (DataW H)} (hv : Value.okWide Tryz.prog w .any base 25 v) (h : DataW.Trod enc0 Tryz.prog w 0 (fun _ => true) held 25 v d p) (hd : d ∈ ds) (hk : ∃ gs, Rows.uptoSmall H (ds ++ gs) = true) :
    ∃ g : Grs, v = .agg (encGs g).toArray ∧ RdGs w g ∧ BigG g := by
  obtain ⟨cs, rfl, _⟩ := okWide_struct Tryz.underlying25 hv
  obtain ⟨g, he, hK⟩ := opn_arg opn_grs h hd hk
  have he : cs.toList = encGs g := he
  exact ⟨g, by rw [← he], hK⟩
set_option maxRecDepth 100000 in
theorem argS {base : Nat} {v : Value} {d : DataW H} {p : List MemPlace} {ds : List (DataW H)} (hv : Value.okWide Tryz.prog w .any base 9 v) (h : DataW.Trod enc0 Tryz.prog w 0 (fun _ => true) held 9 v d p) (hd : d ∈ ds) (hk : ∃ gs, Rows.uptoSmall H (ds ++ gs) = true) :
    ∃ s : ByteArray, v = .string s ∧ s.size ≤ 1048576 := by
  obtain ⟨s0, rfl⟩ := okWide_string (TSr.eq (t := 9)) hv
  obtain ⟨s, he, hK⟩ := opn_arg opn_strB h hd hk
  simp [Value.cells] at he
  subst he
  exact ⟨s0, rfl, hK⟩
end
theorem own_ : ownKnob Tryz.checked.prog.godebug = none := by kernel_rfl
theorem laidOut : laidOutB Tryz.checked.prog = true := by kernel_rfl
end Go.Proofs.YtenlcdokaadobaaGreatDoor
namespace Go.Fw
open Go Go.RowKit
end Go.Fw
namespace Go.Proofs.YtenlcdokaadobaaGreatDoor
open Go Go.Fw
set_option linter.unusedVariables false
theorem BigG.bs {g : Grs} (h : BigG g) : ∀ f ∈ g.fs.l, f.bs.l.length ≤ 1048576 ∧ ∀ bl ∈ f.bs.l, bl.e.to.l.length ≤ 1048576 := fun f hf => ⟨h.sz.bs f hf, fun bl hb => (h.sz.bl f hf bl hb).et⟩
theorem BigG.ex {g : Grs} (h : BigG g) : ∀ s ∈ g.xs.l, s.size ≤ 4611686018427387904 := fun s hs => Nat.le_trans (h.xs s hs) (by decide)
set_option maxRecDepth 10000 attribute [local irreducible] Code.wp wpList Calls Ex Op1 sat bat blk cb own Go.Fw.mp Go.Fw.mpO Go.Fw.mpI Go.Fw.mpE Go.Fw.itr HS Rd Ret wkD Hp Cl Cls Exit.then Exit.inBlock Exit.noGoto bodyPost Go.Fw.flat wk2 Go.Fw.all Go.Fw.owns wpOp
attribute [local irreducible] sk mpK sko mvO entK opM Go.Fw.mset Go.Fw.mv opK

set_option maxHeartbeats 8000000 in
theorem reads_law (W : World) (g : Grs) (kd : Int) (s m : ByteArray) (hR : RdGs W g) (hb : BigG g) (hs : s.size ≤ 1048576) (hm : m.size ≤ 1048576) (hFI : FI W) : Ret Tryz.prog 7 #[.agg (encGs g).toArray, .int .i64 kd, .string s, .string m] W (LawR W) := by
  have hH : HS W noM [] W := HS.init W noM
  (refine enter (N := 30) Tryz.func7 rfl Tryz.ntmps7 rfl ?_; intro a hA; dsimp only [sl0, Nat.reduceAdd] at hA)
  repeat' (first | (refine QT ?_; clear hA a; intro a hA) | (refine BT ?_; clear hA hH; rintro _ w ⟨bN, rfl, hH⟩ a hA) | (refine CT ?_ <;> repeat' refine CT ?_) | fail)
  obtain ⟨b4, hb3⟩ : ∃ x, x = bN := ⟨_, rfl⟩; rw [← hb3] at hA hH; clear hb3 bN
  (refine st_op hA rfl rfl (by decide) (op_call rfl rfl rfl (awake_spec _ (hFI.keep hH.kp))) ?_; clear hA; rintro _ w ⟨rfl, hk⟩ a hA; replace hH := hH.keep hk; clear hk)
  repeat' (first | ((first | apply st_ex hA hH rfl rfl (by decide) | apply dr_ex hA rfl rfl rfl (by decide) | apply dr_exp hA rfl rfl rfl (by decide) | apply dr_ex3 hA hH rfl rfl rfl (by decide)); (first | (apply ex_load_st (vs := encGs g); rfl; rfl; exact cls_cb_all MEMT)); clear hA a; intro a hA) | (refine QT ?_; clear hA a; intro a hA) | (refine CT ?_ <;> repeat' refine CT ?_) | fail)
  (refine st_op hA rfl rfl (by decide) (op_call rfl rfl rfl (large_spec _ g (hR.keep hH.kp) hb.sz)) ?_; clear hA; rintro _ w ⟨b, rfl, hlg, hk⟩ a hA; replace hH := hH.keep hk; clear hk)
  cases b with
  | true =>
    repeat' (first | (refine QT ?_; clear hA a; intro a hA) | (refine CT ?_ <;> repeat' refine CT ?_) | fail)
    exact rt1 (.inl rfl) rfl hA rfl ⟨rfl, hH.kp⟩
  | false =>
  have hfl : g.fs.l.length ≤ 100000 := by
    have := hb.sz.fs
    have h2 : ¬ (50 < g.fs.l.length ∨ 1000 < grsN g) := fun h => by cases hlg.2 h
    omega
  have hbl := bts_len s
  repeat' (first | ((first | apply st_ex hA hH rfl rfl (by decide) | apply dr_ex hA rfl rfl rfl (by decide) | apply dr_exp hA rfl rfl rfl (by decide) | apply dr_ex3 hA hH rfl rfl rfl (by decide)); (first | (apply ex_len_string; rfl) | (apply ex_min; rfl; rfl)); clear hA a; intro a hA) | (refine QT ?_; clear hA a; intro a hA) | (refine CT ?_ <;> repeat' refine CT ?_) | fail)
  obtain ⟨n, hn⟩ : ∃ x : Int, x = if 3000 < ((bts s).length : Int) then 3000 else ((bts s).length : Int) := ⟨_, rfl⟩
  rw [← hn] at hA
  have hn1 : n ≤ 3000 := by rw [hn]; split <;> omega
  have hn2 : n ≤ s.size := by rw [hn]; split <;> omega
  clear hn
  have he := runP_ext (g := g) (kd := kd) (s := s) (t := m) hn2
  (refine wp_draw_HS [(0, 1), (1, 1), (2, 1), (3, 1), (5, 1), (6, 1), (7, 1), (8, 1), (9, 1), (10, 1), (4, 0), (11, 0), (12, 1), (13, 1)] mixed (by decide +kernel) hH ?_; replace hH := hH.drew)
  repeat' (first | ((first | apply st_ex hA hH rfl rfl (by decide) | apply dr_ex hA rfl rfl rfl (by decide) | apply dr_exp hA rfl rfl rfl (by decide) | apply dr_ex3 hA hH rfl rfl rfl (by decide)); (first | (apply ex_load_st (vs := encGs g); rfl; rfl; exact cls_cb_all MEMT) | (apply ex_addS; rfl; rfl; omega)); clear hA a; intro a hA) | (refine QT ?_; clear hA a; intro a hA) | fail)
  (refine dr_op hA rfl rfl rfl (by decide) (op_call rfl rfl rfl (Run_spec _ g kd s n (hR.keep hH.kp) hfl hb.bs hb.ex hn1 (hFI.keep hH.kp))) ?_; clear hA; rintro _ w ⟨rfl, hk⟩; replace hH := hH.keep hk; clear hk; refine ⟨STT, ?_⟩; intro a hA)
  (refine dr_op hA rfl rfl rfl (by decide) (op_call rfl rfl rfl (Run_spec _ g kd (s ++ m) n (hR.keep hH.kp) hfl hb.bs hb.ex hn1 (hFI.keep hH.kp))) ?_; clear hA; rintro _ w ⟨rfl, hk⟩; replace hH := hH.keep hk; clear hk; refine ⟨STT, ?_⟩; intro a hA)
  rw [← he] at hA
  repeat' (first | ((first | apply st_ex hA hH rfl rfl (by decide) | apply dr_ex hA rfl rfl rfl (by decide) | apply dr_exp hA rfl rfl rfl (by decide) | apply dr_ex3 hA hH rfl rfl rfl (by decide)); (first | (apply ex_eqlOs (p := runP g kd s n); rfl; rfl)); clear hA a; intro a hA) | (refine QT ?_; clear hA a; intro a hA) | (refine CT ?_ <;> repeat' refine CT ?_) | fail)
  exact rt1 (.inl rfl) rfl hA rfl ⟨rfl, hH.kp⟩
end Go.Proofs.YtenlcdokaadobaaGreatDoor
namespace Go.Fw
open Go Go.ChangeShapes Go.WideShapes Go.ChangeAt Go.RowKit
set_option linter.unusedVariables false
section
variable {H : Type} {enc : TypeId × Value → H}
def preL (enc : TypeId × Value → H) (P : Program) (fn : Func) (s : OpenSpec) (conds : List PathCond) (laid : List (String × DataW Unit)) (w : World) (args : Array Value) : Prop :=
  (s.pre enc P fn conds false w args ∧ laidMetH P laid w) ∧ sizedMet enc P fn s false w args
theorem law_lifted_uptoL {C : Checked} {os : Os} {f : FuncId} {fn : Func} {s : ChangeSpec} {k : (H : Type) → List (DataW H) → Bool} {F : Stop.Interp} {conds : List PathCond} {tb : TypeId} {laid : List (String × DataW Unit)}
    (own : ownKnob C.prog.godebug = none) (started : os.Started) (noInit : C.prog.inits.idxOf? f = none) (hfn : C.prog.funcs[f]? = some fn)
    (witness : ∃ (w : World) (tape : Tape) (i : Input), w.os = os ∧ (w.forCall tape i).Shaped C.prog ∧ i.vars = [] ∧ Input.okWide C.prog (w.forCall tape i) .any w.heap.size f i ∧
      preL enc C.prog fn { OpenSpec.ofChange s with cond := some k } conds laid (w.forCall tape i).memory i.args ∧ ({} : Assume).holds C.prog (lone (Frame.enter C.prog f i.args .normal) [] (w.forCall tape i)))
    (hl : laidOutB C.prog = true) (hrd : fn.params.toList.all (fun t => C.prog.readableRec t && decide (t < C.prog.types.size)) = true) (hv : s.vars = [])
    (hs : ∀ ds : List (DataW H), ds.length = fn.params.size → (s.fn H (ds ++ [])).results = [.lit (.bool true)] ∧ (s.fn H (ds ++ [])).args = ds ∧ (s.fn H (ds ++ [])).vars = [])
    (hrt : fn.resultTypes = #[tb]) (hb : C.prog.underlying tb = some .bool)
    (walk : ∀ (W : World) (base : Nat) (args : Array Value) (ds : List (DataW H)) (p : List MemPlace),
      (∀ (j : Nat) t v, fn.params[j]? = some t → args[j]? = some v → Value.okWide C.prog W .any base t v) →
      DataW.TrodAll enc C.prog W 0 (fun _ => true) true fn.params.toList args.toList ds p → (∃ gs, k H (ds ++ gs) = true) → laidMetH C.prog laid W → Ret C.prog f args W (LawR W)) :
    ReturnsInHanded {} C os f .any (preL enc C.prog fn { OpenSpec.ofChange s with cond := some k } conds laid) ((({ OpenSpec.ofChange s with cond := some k } : OpenSpec).at F).post enc C.prog fn false true false false) := by
  refine returnsInHanded_of_calls own started noInit witness ?_
  intro w tape i _ _ _ hok hpre hholds
  obtain ⟨_, _, _, fn', hfn', _, _, _, _, hval⟩ := hok
  have e : fn' = fn := Option.some.inj (hfn'.symm.trans hfn)
  subst e
  obtain ⟨⟨hp0, hL⟩, hz⟩ := hpre
  obtain ⟨ds, gs, before, hw, hc, hkk⟩ := (OpenSpec.pre_some (s := { OpenSpec.ofChange s with cond := some k }) (k := k) rfl conds false _ _).1 hp0
  have hw' := DataW.Whole.of_heap (w' := w.forCall tape i) (by rfl) hw
  have hL' : laidMetH C.prog laid (w.forCall tape i) := laidMetH.of_heap (by rfl) hL
  have hA := hw'
  obtain ⟨p, q, hA, _⟩ := hA
  refine Calls.mono (walk (w.forCall tape i) w.heap.size i.args ds p hval hA ⟨gs, hkk⟩ hL') fun e W' ⟨v, he, hp⟩ => ?_
  subst he
  obtain ⟨rfl, hkp⟩ := hp
  exact ChangeSpec.post_blind (law_post hl hrd hv hs hrt hb hw' hkp)
theorem witnessL {C : Checked} {os : Os} {f : FuncId} {fn : Func} {s : OpenSpec} {k : (H : Type) → List (DataW H) → Bool} (hk : s.cond = some k) {conds : List PathCond} {laid : List (String × DataW Unit)} (w0 : World) (args : Array Value) (fuel : Nat) (hos : w0.os = os)
    (hsh : (w0.forCall (fun _ _ => 0) ⟨#[], args, []⟩).Shaped C.prog)
    (hok : Input.okWideB C.prog (w0.forCall (fun _ _ => 0) ⟨#[], args, []⟩) f ⟨#[], args, []⟩ = true)
    {x : List (DataW H) × List (DataW H) × List MemPlace} (hx : DataW.whole enc C.prog (w0.forCall (fun _ _ => 0) ⟨#[], args, []⟩).memory fn.params.toList s.vars false args.toList fuel = some x)
    (hconds : conds.all (PathCond.test C.prog ⟨fn.params.toList, x.1, s.bare.plain.varTypes C.prog, x.2.1⟩) = true) (hkk : k H (x.1 ++ x.2.1) = true)
    (hsz : s.bare.sizedB enc C.prog fn false (w0.forCall (fun _ _ => 0) ⟨#[], args, []⟩).memory args fuel = true)
    (hX : laidMetH C.prog laid (w0.forCall (fun _ _ => 0) ⟨#[], args, []⟩).memory) :
    ∃ (w : World) (tape : Tape) (i : Input), w.os = os ∧ (w.forCall tape i).Shaped C.prog ∧ i.vars = [] ∧ Input.okWide C.prog (w.forCall tape i) .any w.heap.size f i ∧
      preL enc C.prog fn s conds laid (w.forCall tape i).memory i.args ∧ ({} : Assume).holds C.prog (lone (Frame.enter C.prog f i.args .normal) [] (w.forCall tape i)) :=
  ⟨w0, fun _ _ => 0, ⟨#[], args, []⟩, hos, hsh, (Input.okWide_of_okWideB (base := 0) hok).1, (Input.okWide_of_okWideB hok).2,
    ⟨⟨(OpenSpec.pre_some hk conds false _ _).2 ⟨x.1, x.2.1, x.2.2, DataW.Whole_of_whole hx, hconds, hkk⟩, hX⟩, sizedMet_of_sizedB hsz⟩, by
    simp only [Assume.holds]
    exact ⟨by simp, by simp, fun _ => Modest.zero, by simp, by simp⟩⟩
end
end Go.Fw
namespace Go.Proofs.YtenlcdokaadobaaGreatDoor
open Go Go.Fw Go.Sort
set_option linter.unusedVariables false
theorem gPow : Tryz.prog.globalNamed "internal/strconv.uint64pow10" = some 0 := by kernel_rfl
theorem tPow : (Tryz.prog.globals[0]?).map (·.type) = some 288 := by kernel_rfl
theorem uPow : Tryz.prog.underlying 288 = some (.array 20 276) := by kernel_rfl
theorem uU64 : Tryz.prog.underlying 276 = some (.int .u64) := by kernel_rfl
theorem dPow : (Rows.laid_internal_strconv_uint64pow10 : DataW Unit) = Lib.tabData .u64 Lib.pow10Tab := by kernel_rfl
theorem tab_of_laid {W : World} (h : laidMetH Tryz.prog Rows.ssaFuelUptoRow.laid W) : Lib.TabIs Tryz.prog W "internal/strconv.uint64pow10" .u64 Lib.pow10Tab := by
  rw [MakeChecks.laidMetH_plain _ _ _ (by kernel_rfl)] at h
  obtain ⟨ps, ⟨g0, t0, cs0, f0, p0, q0, hg0, ht0, hv0, hd0, ⟨g1, t1, cs1, f1, p1, q1, hg1, ht1, hv1, hd1, ⟨g2, t2, cs2, f2, p2, q2, hg2, ht2, hv2, hd2, _, _⟩, _⟩, _⟩, _⟩ := h
  obtain rfl := Option.some.inj (gPow.symm.trans hg2)
  obtain rfl := Option.some.inj (tPow.symm.trans ht2)
  unfold Lib.TabIs
  rw [dPow] at hd2
  rw [hv2, ← Lib.cells_of_tab uPow uU64 (by kernel_rfl) (by kernel_rfl) hd2]
theorem tab_keep {w w' : World} {zs : List Int} (h : Lib.TabIs Tryz.prog w "internal/strconv.uint64pow10" .u64 zs) (hk : Kp w noM w') : Lib.TabIs Tryz.prog w' "internal/strconv.uint64pow10" .u64 zs := by
  unfold Lib.TabIs World.var? at h ⊢
  rw [gPow] at h ⊢
  simp only [Option.bind_some] at h ⊢
  have hlt : 0 < w.heap.size := by
    rcases Nat.lt_or_ge 0 w.heap.size with h' | h'
    · exact h'
    · rw [Array.getElem?_eq_none h'] at h; cases h
  rw [hk.block 0 hlt id]
  exact h
theorem Kp.grow (w : World) (k : Nat) (os : Array Obj) : Kp w noM (grow (w.drewN k) os) := by
  refine ⟨rfl, rfl, rfl, ?_, fun b hb _ => ?_⟩
  · show _ ≤ (w.heap ++ os).size
    rw [Array.size_append]
    omega
  · show (w.heap ++ os)[b]? = _
    rw [Array.getElem?_append_left hb]
theorem fi_of_tab {W : World} (h : Lib.TabIs Tryz.prog W "internal/strconv.uint64pow10" .u64 Lib.pow10Tab) : FI W := fun w hk n hn =>
  Calls.mono (Tryz.strconv_FormatInt_10 n hn.1 hn.2 w (tab_keep h hk)) fun e w' ⟨he, k, os, hw⟩ => ⟨_, he, rfl, hw ▸ Kp.grow w k os⟩
theorem fi_of_laid {W : World} (h : laidMetH Tryz.prog Rows.ssaFuelUptoRow.laid W) : FI W := fi_of_tab (tab_of_laid h)
set_option maxRecDepth 100000 in
theorem door_met (os : Os) (args : Array Value) : laidMetH Tryz.prog Rows.ssaFuelUptoRow.laid ((World.doorLaid Tryz.prog 400 os).forCall (fun _ _ => 0) ⟨#[], args, []⟩).memory :=
  laidMetH_of_parts3 (fuel := 8) (laidMet_of_run' 8 (by kernel_rfl) (by kernel_rfl)) (by kernel_rfl) (by kernel_rfl)
theorem door_shaped (os : Os) (args : Array Value) : ((World.doorLaid Tryz.prog 400 os).forCall (fun _ _ => 0) ⟨#[], args, []⟩).Shaped Tryz.prog := World.shaped_of_RefB (by kernel_rfl) (by kernel_rfl)
end Go.Proofs.YtenlcdokaadobaaGreatDoor
