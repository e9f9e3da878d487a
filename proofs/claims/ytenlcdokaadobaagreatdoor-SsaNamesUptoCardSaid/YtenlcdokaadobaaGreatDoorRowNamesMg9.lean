/-
  The law's awake: its graphs. Conditions: none.
  The law's large, begins; two runs. Conditions: none.
  Other names for variables: the law's higher, other. Conditions: none.
  Graphs under other names (plain): the words. Conditions: none.
  More fuel, more input (plain). Conditions: none.
  What the bound of '..UptoSaid' gives. Conditions: none.
  What is handed in, taken apart, with what the bound of '..UptoSaid' gives. Conditions: none.
  Graphs handed in. Conditions: none.
  SsaFuel, SsaReads: the walks. Conditions: none.
  Graphs under other names (plain): which may be. Conditions: none.
  Graphs under other names (plain): they may be, or not, alike. Conditions: none.
  Graphs under other names (plain): what comes of them. Conditions: none.
-/
import Derived.Test.YtenlcdokaadobaaGreatDoorRowNamesMg8
import Derived.Test.YtenlcdokaadobaaGreatDoorRowNamesMg7
import Derived.Test.YtenlcdokaadobaaGreatDoorRows
import Derived.Test.YtenlcdokaadobaaGreatDoorRowNamesMg1
import Derived.Test.YtenlcdokaadobaaGreatDoorRowNamesMg2
namespace Go.Proofs.YtenlcdokaadobaaGreatDoor
open Go Go.Fw
set_option linter.unusedVariables false
theorem xs4_sz : ∀ s ∈ xs4, s.size ≤ 4611686018427387904 := by decide +kernel
theorem gA_bs (oG p8 oX p0 p1 p2 p3 p4 p5 p6 p7 : Option Addr) : ∀ f ∈ (gA oG p8 oX p0 p1 p2 p3 p4 p5 p6 p7).fs.l, f.bs.l.length ≤ 1048576 ∧ ∀ bl ∈ f.bs.l, bl.e.to.l.length ≤ 1048576 := by
  intro f hf
  obtain rfl := List.mem_singleton.1 hf
  refine ⟨(by decide : 4 ≤ 1048576), fun b hb => ?_⟩
  simp only [List.mem_cons, List.not_mem_nil, or_false] at hb
  rcases hb with rfl | rfl | rfl | rfl
  · exact (by decide : 2 ≤ 1048576)
  · exact (by decide : 1 ≤ 1048576)
  · exact (by decide : 1 ≤ 1048576)
  · exact (by decide : 0 ≤ 1048576)
def zF5 : Value := .agg #[.int .i64 0, .int .i64 0, .int .i64 0, .slice none 0 0, .int .i64 0, .slice none 0 0, .int .i64 0, .int .i64 0, .slice none 0 0, .slice none 0 0, .slice none 0 0, .slice none 0 0]
theorem fill_F5 (o : Option Addr) : Instr.fill (fun x => ([(0, 1), (1, 11)] : List (Nat × Nat))[x]?) zF5.cells [(1, .agg (encB o).toArray)] = some (encF o 0).toArray := by
  simp [Instr.fill, zF5, encF, encB, Value.cells]
theorem h5_bs {oB oA oG o1 o2 o3 o4 : Option Addr} {cB cG c1 c2 c3 c4 : Nat} {g : Grs} : ∀ f ∈ (h5 oB oA oG o1 o2 o3 o4 cB cG c1 c2 c3 c4 g).fs.l, f.bs.l.length ≤ 1048576 ∧ ∀ bl ∈ f.bs.l, bl.e.to.l.length ≤ 1048576 := by
  intro f hf
  obtain rfl := List.mem_singleton.1 hf
  refine ⟨(by decide : 1 ≤ 1048576), fun b hb => ?_⟩
  obtain rfl := List.mem_singleton.1 hb
  exact (by decide : 0 ≤ 1048576)
theorem gr0s_rd (w : World) : RdGs w gr0s := ⟨rdv_nil _ _, fun x hx => absurd hx (List.not_mem_nil), rdv_nil _ _, rdv_nil _ _, rdv_nil _ _, rdv_nil _ _⟩
theorem xs4_c : flat encX xs4 = [.string ⟨#[66, 111, 117, 110, 100, 115]⟩, .string ⟨#[68, 105, 118, 105, 100, 101]⟩, .string ⟨#[77, 97, 116, 99, 104]⟩, .string ⟨#[83, 105, 122, 101]⟩] := rfl
theorem cats4 (a b c d : Blc) : Cats 6 [.agg (encBl a).toArray, .agg (encBl b).toArray, .agg (encBl c).toArray, .agg (encBl d).toArray] (flat encBl [a, b, c, d]) := Cats.cn (cs := encBl a) (Cats.cn (cs := encBl b) (Cats.cn (cs := encBl c) (Cats.cn (cs := encBl d) Cats.nil)))
theorem gA_rd {w0 w : World} {H : List It} {oG p8 oX p0 p1 p2 p3 p4 p5 p6 p7 : Option Addr} (hH : HS w0 noM (own 9 1 oX 4 4 (flat encX xs4) :: own 44 2 oG 1 1 (encG ⟨0, ⟨p8, 4, [blA p0 p1 1 2, blJ p2 p3 1 1 7, blJ p4 p5 1 1 8, blR p6 p7 1 1]⟩⟩) :: own 53 6 p8 4 4 (flat encBl [blA p0 p1 1 2, blJ p2 p3 1 1 7, blJ p4 p5 1 1 8, blR p6 p7 1 1]) :: own 65 2 p7 1 1 (encAt ⟨1, 2⟩) :: own 3 1 p6 1 1 [.int .i64 2] :: own 61 2 p5 1 1 [.int .i64 3, .slice p4 1 1] :: own 65 2 p4 1 1 (encAt ⟨2, 8⟩) :: own 61 2 p3 1 1 [.int .i64 3, .slice p2 1 1] :: own 65 2 p2 1 1 (encAt ⟨2, 7⟩) :: own 61 2 p1 2 2 [.int .i64 1, .slice none 0 0, .int .i64 2, .slice none 0 0] :: own 65 2 p0 1 1 (encAt ⟨1, 1⟩) :: H) w) : RdGs w (gA oG p8 oX p0 p1 p2 p3 p4 p5 p6 p7) := by
  have hX := hH.own_rd (T := 9) (o := oX) (n := 4) (cap := 4) (xs := flat encX xs4) (by repeat (first | exact List.Mem.head _ | apply List.Mem.tail))
  have hG := hH.own_rd (T := 44) (o := oG) (n := 1) (cap := 1) (sz := 2) (xs := encG ⟨0, ⟨p8, 4, [blA p0 p1 1 2, blJ p2 p3 1 1 7, blJ p4 p5 1 1 8, blR p6 p7 1 1]⟩⟩) (by repeat (first | exact List.Mem.head _ | apply List.Mem.tail))
  have hB := hH.own_rd (T := 53) (o := p8) (n := 4) (cap := 4) (sz := 6) (xs := flat encBl [blA p0 p1 1 2, blJ p2 p3 1 1 7, blJ p4 p5 1 1 8, blR p6 p7 1 1]) (by repeat (first | exact List.Mem.head _ | apply List.Mem.tail))
  have h0 := hH.own_rd (T := 65) (o := p0) (n := 1) (cap := 1) (sz := 2) (xs := encAt ⟨1, 1⟩) (by repeat (first | exact List.Mem.head _ | apply List.Mem.tail))
  have h1 := hH.own_rd (T := 61) (o := p1) (n := 2) (cap := 2) (sz := 2) (xs := [.int .i64 1, .slice none 0 0, .int .i64 2, .slice none 0 0]) (by repeat (first | exact List.Mem.head _ | apply List.Mem.tail))
  have h2 := hH.own_rd (T := 65) (o := p2) (n := 1) (cap := 1) (sz := 2) (xs := encAt ⟨2, 7⟩) (by repeat (first | exact List.Mem.head _ | apply List.Mem.tail))
  have h3 := hH.own_rd (T := 61) (o := p3) (n := 1) (cap := 1) (sz := 2) (xs := [.int .i64 3, .slice p2 1 1]) (by repeat (first | exact List.Mem.head _ | apply List.Mem.tail))
  have h4 := hH.own_rd (T := 65) (o := p4) (n := 1) (cap := 1) (sz := 2) (xs := encAt ⟨2, 8⟩) (by repeat (first | exact List.Mem.head _ | apply List.Mem.tail))
  have h5 := hH.own_rd (T := 61) (o := p5) (n := 1) (cap := 1) (sz := 2) (xs := [.int .i64 3, .slice p4 1 1]) (by repeat (first | exact List.Mem.head _ | apply List.Mem.tail))
  have h6 := hH.own_rd (T := 3) (o := p6) (n := 1) (cap := 1) (sz := 1) (xs := [.int .i64 2]) (by repeat (first | exact List.Mem.head _ | apply List.Mem.tail))
  have h7 := hH.own_rd (T := 65) (o := p7) (n := 1) (cap := 1) (sz := 2) (xs := encAt ⟨1, 2⟩) (by repeat (first | exact List.Mem.head _ | apply List.Mem.tail))
  have h11 : 1 ≤ 1 ∧ 1 ≤ maxLen := ⟨Nat.le_refl _, by decide⟩
  refine ⟨⟨hG, h11⟩, fun x hx => ?_, rdv_nil _ _, rdv_nil _ _, ⟨hX, Nat.le_refl 4, (by decide : 4 ≤ maxLen)⟩, rdv_nil _ _⟩
  obtain rfl := List.mem_singleton.1 hx
  refine ⟨⟨hB, Nat.le_refl 4, (by decide : 4 ≤ maxLen)⟩, fun b hb => ?_⟩
  have hb : b ∈ [blA p0 p1 1 2, blJ p2 p3 1 1 7, blJ p4 p5 1 1 8, blR p6 p7 1 1] := hb
  rcases List.mem_cons.1 hb with rfl | hb
  · refine ⟨rdv_nil _ _, rdv_nil _ _, fun i hi => absurd hi (List.not_mem_nil), ⟨h0, h11⟩, rdv_nil _ _, ⟨h1, Nat.le_refl 2, by show 2 ≤ maxLen; decide⟩, fun x hx => ?_⟩
    have hx : x ∈ [(⟨1, nilV⟩ : Edg), ⟨2, nilV⟩] := hx
    rcases List.mem_cons.1 hx with rfl | hx
    · exact rdv_nil _ _
    · obtain rfl := List.mem_singleton.1 hx
      exact rdv_nil _ _
  rcases List.mem_cons.1 hb with rfl | hb
  · refine ⟨rdv_nil _ _, rdv_nil _ _, fun i hi => absurd hi (List.not_mem_nil), rdv_nil _ _, rdv_nil _ _, ⟨h3, h11⟩, fun x hx => ?_⟩
    obtain rfl := List.mem_singleton.1 hx
    exact ⟨h2, h11⟩
  rcases List.mem_cons.1 hb with rfl | hb
  · refine ⟨rdv_nil _ _, rdv_nil _ _, fun i hi => absurd hi (List.not_mem_nil), rdv_nil _ _, rdv_nil _ _, ⟨h5, h11⟩, fun x hx => ?_⟩
    obtain rfl := List.mem_singleton.1 hx
    exact ⟨h4, h11⟩
  obtain rfl := List.mem_singleton.1 hb
  exact ⟨⟨h6, h11⟩, rdv_nil _ _, fun i hi => absurd hi (List.not_mem_nil), ⟨h7, h11⟩, rdv_nil _ _, rdv_nil _ _, fun x hx => absurd hx (List.not_mem_nil)⟩
set_option maxRecDepth 10000 attribute [local irreducible] Code.wp wpList Calls Ex Op1 sat bat blk cb own Go.Fw.mp Go.Fw.mpO Go.Fw.mpI Go.Fw.mpE Go.Fw.itr HS Rd Ret wkD Hp Cl Cls Exit.then Exit.inBlock Exit.noGoto bodyPost Go.Fw.flat wk2 Go.Fw.all Go.Fw.owns wpOp
attribute [local irreducible] sk mpK sko mvO entK opM Go.Fw.mset Go.Fw.mv opK

set_option maxHeartbeats 4000000 in
theorem num_spec (w0 : World) (n : Int) : Ret Tryz.prog 24 #[.int .i64 n] w0 (fun r w => ∃ o, r = .slice o 1 1 ∧ HS w0 noM [own 65 2 o 1 1 (encAt ⟨2, n⟩)] w) := by
  have hH : HS w0 noM [] w0 := HS.init w0 noM
  (refine enter (N := 6) Tryz.func24 rfl Tryz.ntmps24 rfl ?_; intro a hA; dsimp only [sl0, Nat.reduceAdd] at hA)
  repeat' (first | (refine XT ?_; apply XE; (first | (apply ex_build_p (cs := (encAt ⟨2, n⟩).toArray); rfl; exact FLT; rfl)); clear hA a; intro a hA) | (refine QT ?_; clear hA a; intro a hA) | (refine LT ?_; clear hA hH; rintro _ w ⟨oN, rfl, hH⟩ a hA) | (apply st_op hA rfl rfl (by decide); apply op_sliceLit (xs := encAt ⟨2, n⟩) (vs := [.agg (encAt ⟨2, n⟩).toArray]); rfl; rfl; exact (Cats.cn (cs := encAt ⟨2, n⟩) Cats.nil); rfl; rfl; rfl; exact hH; clear hA hH; rintro _ w ⟨oN, rfl, hH⟩ a hA) | (refine CT ?_ <;> repeat' refine CT ?_) | fail)
  exact rt1 (.inl rfl) rfl hA rfl ⟨_, rfl, hH⟩
set_option maxHeartbeats 4000000 in
theorem names_spec (w0 : World) (o : Option Addr) (c : Nat) (l : List Blc) : Ret Tryz.prog 23 #[.slice o l.length c] w0 (fun r w => ∃ oG oX, r = .agg ((encGs ⟨⟨oG, 1, [⟨0, ⟨o, c, l⟩⟩]⟩, nilV, nilV, ⟨oX, 4, xs4⟩, nilV⟩)).toArray ∧ HS w0 noM [own 9 1 oX 4 4 (flat encX xs4), own 44 2 oG 1 1 (encG ⟨0, ⟨o, c, l⟩⟩)] w) := by
  have hH : HS w0 noM [] w0 := HS.init w0 noM
  (refine enter (N := 8) Tryz.func23 rfl Tryz.ntmps23 rfl ?_; intro a hA; dsimp only [sl0, Nat.reduceAdd] at hA)
  repeat' (first | (refine XT ?_; apply XE; (first | (apply ex_build_p (cs := (encG ⟨0, ⟨o, c, l⟩⟩).toArray); rfl; exact FLT; rfl)); clear hA a; intro a hA) | (refine QT ?_; clear hA a; intro a hA) | (refine BT ?_; clear hA hH; rintro _ w ⟨bN, rfl, hH⟩ a hA) | (refine LT ?_; clear hA hH; rintro _ w ⟨oN, rfl, hH⟩ a hA) | (apply st_op hA rfl rfl (by decide); apply op_sliceLit (xs := encG ⟨0, ⟨o, c, l⟩⟩) (vs := [.agg (encG ⟨0, ⟨o, c, l⟩⟩).toArray]); rfl; rfl; exact (Cats.cn (cs := encG ⟨0, ⟨o, c, l⟩⟩) Cats.nil); rfl; rfl; rfl; exact hH; clear hA hH; rintro _ w ⟨oN, rfl, hH⟩ a hA) | (refine CT ?_ <;> repeat' refine CT ?_) | fail)
  have key : ∃ oG oX b2, HS w0 noM (own 9 1 oX 4 4 (flat encX xs4) :: own 44 2 oG 1 1 (encG ⟨0, ⟨o, c, l⟩⟩) :: cb b2 25 (encGs gr0s) :: []) w ∧ Sl 8 [(6, .slice oX 4 4), (5, .slice oG 1 1), (2, .pointer (some (bat b2 0)))] a := ⟨_, _, _, by rw [xs4_c]; exact hH, (hA.sub SBT)⟩
  clear hA hH
  obtain ⟨oG, oX, b2, hH, hA⟩ := key
  repeat' (first | (refine XT ?_; apply XE; (first | (apply ex_build_p (cs := ((encGs ⟨⟨oG, 1, [⟨0, ⟨o, c, l⟩⟩]⟩, nilV, nilV, ⟨oX, 4, xs4⟩, nilV⟩)).toArray); rfl; exact FLT; rfl)); clear hA a; intro a hA) | (refine QT ?_; clear hA a; intro a hA) | (apply st_op0 hA rfl rfl; apply op_store_agg (vs := (encGs ⟨⟨oG, 1, [⟨0, ⟨o, c, l⟩⟩]⟩, nilV, nilV, ⟨oX, 4, xs4⟩, nilV⟩)); rfl; rfl; exact hH; (repeat constructor); (repeat rfl); clear hH; rintro _ w hH) | (refine CT ?_ <;> repeat' refine CT ?_) | fail)
  exact rt1c (vs := (encGs ⟨⟨oG, 1, [⟨0, ⟨o, c, l⟩⟩]⟩, nilV, nilV, ⟨oX, 4, xs4⟩, nilV⟩)) (.inl rfl) rfl hA rfl rfl hH (cls_cb_all (by exact MEMT)) ⟨oG, oX, rfl, hH.rm 2⟩
set_option maxHeartbeats 16000000 in
theorem awake_spec (w0 : World) (hFI : FI w0) : Ret Tryz.prog 10 #[] w0 (fun r w => r = .bool true ∧ Kp w0 noM w) := by
  have hH : HS w0 noM [] w0 := HS.init w0 noM
  (refine enter (N := 79) Tryz.func10 rfl Tryz.ntmps10 rfl ?_; intro a hA; dsimp only [sl0, Nat.reduceAdd] at hA)
  repeat' (first | (refine XT ?_; apply XE; (first | (apply ex_build_p (cs := (encAt ⟨1, 1⟩).toArray); rfl; exact FLT; rfl)); clear hA a; intro a hA) | (refine QT ?_; clear hA a; intro a hA) | (refine LT ?_; clear hA hH; rintro _ w ⟨oN, rfl, hH⟩ a hA) | (apply st_op hA rfl rfl (by decide); apply op_sliceLit (xs := encAt ⟨1, 1⟩) (vs := [.agg (encAt ⟨1, 1⟩).toArray]); rfl; rfl; exact (Cats.cn (cs := encAt ⟨1, 1⟩) Cats.nil); rfl; rfl; rfl; exact hH; clear hA hH; rintro _ w ⟨oN, rfl, hH⟩ a hA) | (refine CT ?_ <;> repeat' refine CT ?_) | fail)
  obtain ⟨p0, hb3⟩ : ∃ x, x = oN := ⟨_, rfl⟩; rw [← hb3] at hA hH; clear hb3 oN
  repeat' (first | (refine XT ?_; apply XE; (first | (apply ex_build_p (cs := ([.int .i64 1, .slice none 0 0]).toArray); rfl; exact FLT; rfl) | (apply ex_build_p (cs := ([.int .i64 2, .slice none 0 0]).toArray); rfl; exact FLT; rfl)); clear hA a; intro a hA) | (refine QT ?_; clear hA a; intro a hA) | (refine LT ?_; clear hA hH; rintro _ w ⟨oN, rfl, hH⟩ a hA) | (apply st_op hA rfl rfl (by decide); apply op_sliceLit (xs := [.int .i64 1, .slice none 0 0, .int .i64 2, .slice none 0 0]) (vs := [.agg [.int .i64 1, .slice none 0 0].toArray, .agg [.int .i64 2, .slice none 0 0].toArray]); rfl; rfl; exact Cats.cn (cs := [.int .i64 1, .slice none 0 0]) (Cats.cn (cs := [.int .i64 2, .slice none 0 0]) Cats.nil); rfl; rfl; rfl; exact hH; clear hA hH; rintro _ w ⟨oN, rfl, hH⟩ a hA) | fail)
  obtain ⟨p1, hb3⟩ : ∃ x, x = oN := ⟨_, rfl⟩; rw [← hb3] at hA hH; clear hb3 oN
  repeat' (first | (refine XT ?_; apply XE; (first | (apply ex_build_p (cs := ([.int .i64 5, .slice p0 1 1, .slice none 0 0, .slice p1 2 2]).toArray); rfl; exact FLT; rfl) | (apply ex_build (szs := [(0, 1), (1, 1), (2, 4)]) (cs := (encBl (blA p0 p1 1 2)).toArray); exact run_szl (by (repeat (first | exact SzL.nil | refine SzL.cons ⟨_, rfl, by decide⟩ ?_))); rfl; rfl)); clear hA a; intro a hA) | (refine QT ?_; clear hA a; intro a hA) | fail)
  (refine st_op hA rfl rfl (by decide) (op_call rfl rfl rfl (num_spec _ 7)) ?_; clear hA; rintro _ w ⟨p2, rfl, hj⟩ a hA; replace hH := hH.join hj; clear hj)
  repeat' (first | (refine XT ?_; apply XE; (first | (apply ex_build_p (cs := ([.int .i64 3, .slice p2 1 1]).toArray); rfl; exact FLT; rfl)); clear hA a; intro a hA) | (refine QT ?_; clear hA a; intro a hA) | (refine LT ?_; clear hA hH; rintro _ w ⟨oN, rfl, hH⟩ a hA) | (apply st_op hA rfl rfl (by decide); apply op_sliceLit (xs := [.int .i64 3, .slice p2 1 1]) (vs := [.agg ([.int .i64 3, .slice p2 1 1]).toArray]); rfl; rfl; exact (Cats.cn (cs := [.int .i64 3, .slice p2 1 1]) Cats.nil); rfl; rfl; rfl; exact hH; clear hA hH; rintro _ w ⟨oN, rfl, hH⟩ a hA) | fail)
  obtain ⟨p3, hb3⟩ : ∃ x, x = oN := ⟨_, rfl⟩; rw [← hb3] at hA hH; clear hb3 oN
  repeat' (first | (refine XT ?_; apply XE; (first | (apply ex_build_p (cs := ([.int .i64 4, .slice none 0 0, .slice none 0 0, .slice p3 1 1]).toArray); rfl; exact FLT; rfl) | (apply ex_build (szs := [(0, 1), (1, 1), (2, 4)]) (cs := (encBl (blJ p2 p3 1 1 7)).toArray); exact run_szl (by (repeat (first | exact SzL.nil | refine SzL.cons ⟨_, rfl, by decide⟩ ?_))); rfl; rfl)); clear hA a; intro a hA) | (refine QT ?_; clear hA a; intro a hA) | fail)
  (refine st_op hA rfl rfl (by decide) (op_call rfl rfl rfl (num_spec _ 8)) ?_; clear hA; rintro _ w ⟨p4, rfl, hj⟩ a hA; replace hH := hH.join hj; clear hj)
  repeat' (first | (refine XT ?_; apply XE; (first | (apply ex_build_p (cs := ([.int .i64 3, .slice p4 1 1]).toArray); rfl; exact FLT; rfl)); clear hA a; intro a hA) | (refine QT ?_; clear hA a; intro a hA) | (refine LT ?_; clear hA hH; rintro _ w ⟨oN, rfl, hH⟩ a hA) | (apply st_op hA rfl rfl (by decide); apply op_sliceLit (xs := [.int .i64 3, .slice p4 1 1]) (vs := [.agg ([.int .i64 3, .slice p4 1 1]).toArray]); rfl; rfl; exact (Cats.cn (cs := [.int .i64 3, .slice p4 1 1]) Cats.nil); rfl; rfl; rfl; exact hH; clear hA hH; rintro _ w ⟨oN, rfl, hH⟩ a hA) | fail)
  obtain ⟨p5, hb3⟩ : ∃ x, x = oN := ⟨_, rfl⟩; rw [← hb3] at hA hH; clear hb3 oN
  repeat' (first | (refine XT ?_; apply XE; (first | (apply ex_build_p (cs := ([.int .i64 4, .slice none 0 0, .slice none 0 0, .slice p5 1 1]).toArray); rfl; exact FLT; rfl) | (apply ex_build (szs := [(0, 1), (1, 1), (2, 4)]) (cs := (encBl (blJ p4 p5 1 1 8)).toArray); exact run_szl (by (repeat (first | exact SzL.nil | refine SzL.cons ⟨_, rfl, by decide⟩ ?_))); rfl; rfl)); clear hA a; intro a hA) | (refine QT ?_; clear hA a; intro a hA) | (refine LT ?_; clear hA hH; rintro _ w ⟨oN, rfl, hH⟩ a hA) | fail)
  have key : ∃ p6 p7, HS w0 noM (own 65 2 p7 1 1 (encAt ⟨1, 2⟩) :: own 3 1 p6 1 1 [.int .i64 2] :: own 61 2 p5 1 1 [.int .i64 3, .slice p4 1 1] :: own 65 2 p4 1 1 (encAt ⟨2, 8⟩) :: own 61 2 p3 1 1 [.int .i64 3, .slice p2 1 1] :: own 65 2 p2 1 1 (encAt ⟨2, 7⟩) :: own 61 2 p1 2 2 [.int .i64 1, .slice none 0 0, .int .i64 2, .slice none 0 0] :: own 65 2 p0 1 1 (encAt ⟨1, 1⟩) :: []) w ∧ Sl 79 [(29, .slice p7 1 1), (27, .slice p6 1 1), (26, .agg (encBl (blJ p4 p5 1 1 8)).toArray), (21, .agg (encBl (blJ p2 p3 1 1 7)).toArray), (16, .agg (encBl (blA p0 p1 1 2)).toArray), (0, .bool false)] a := ⟨_, _, hH.perm PMT, (hA.sub SBT)⟩
  clear hA hH
  obtain ⟨p6, p7, hH, hA⟩ := key
  repeat' (first | (refine XT ?_; apply XE; (first | (apply ex_build_p (cs := ([.int .i64 1, .slice p7 1 1, .slice none 0 0, .slice none 0 0]).toArray); rfl; exact FLT; rfl) | (apply ex_build (szs := [(0, 1), (1, 1), (2, 4)]) (cs := (encBl (blR p6 p7 1 1)).toArray); exact run_szl (by (repeat (first | exact SzL.nil | refine SzL.cons ⟨_, rfl, by decide⟩ ?_))); rfl; rfl)); clear hA a; intro a hA) | (refine QT ?_; clear hA a; intro a hA) | (apply st_op hA rfl rfl (by decide); apply op_sliceLit (xs := flat encBl [blA p0 p1 1 2, blJ p2 p3 1 1 7, blJ p4 p5 1 1 8, blR p6 p7 1 1]) (vs := [.agg (encBl (blA p0 p1 1 2)).toArray, .agg (encBl (blJ p2 p3 1 1 7)).toArray, .agg (encBl (blJ p4 p5 1 1 8)).toArray, .agg (encBl (blR p6 p7 1 1)).toArray]); rfl; rfl; exact cats4 _ _ _ _; rfl; rfl; rfl; exact hH; clear hA hH; rintro _ w ⟨oN, rfl, hH⟩ a hA) | fail)
  obtain ⟨p8, hb3⟩ : ∃ x, x = oN := ⟨_, rfl⟩; rw [← hb3] at hA hH; clear hb3 oN
  (refine st_op hA rfl rfl (by decide) (op_call rfl rfl rfl (names_spec _ p8 4 [blA p0 p1 1 2, blJ p2 p3 1 1 7, blJ p4 p5 1 1 8, blR p6 p7 1 1])) ?_; clear hA; rintro _ w ⟨oG, oX, rfl, hj⟩ a hA; replace hH := hH.join hj; clear hj)
  obtain ⟨g, hg⟩ : ∃ g, g = gA oG p8 oX p0 p1 p2 p3 p4 p5 p6 p7 := ⟨_, rfl⟩
  have hGA : encGs ⟨⟨oG, 1, [⟨0, ⟨p8, 4, [blA p0 p1 1 2, blJ p2 p3 1 1 7, blJ p4 p5 1 1 8, blR p6 p7 1 1]⟩⟩]⟩, nilV, nilV, ⟨oX, 4, xs4⟩, nilV⟩ = encGs g := by rw [hg]; rfl
  rw [hGA] at hA
  replace hH := hH.perm (H' := own 9 1 oX 4 4 (flat encX xs4) :: own 44 2 oG 1 1 (encG ⟨0, ⟨p8, 4, [blA p0 p1 1 2, blJ p2 p3 1 1 7, blJ p4 p5 1 1 8, blR p6 p7 1 1]⟩⟩) :: own 53 6 p8 4 4 (flat encBl [blA p0 p1 1 2, blJ p2 p3 1 1 7, blJ p4 p5 1 1 8, blR p6 p7 1 1]) :: own 65 2 p7 1 1 (encAt ⟨1, 2⟩) :: own 3 1 p6 1 1 [.int .i64 2] :: own 61 2 p5 1 1 [.int .i64 3, .slice p4 1 1] :: own 65 2 p4 1 1 (encAt ⟨2, 8⟩) :: own 61 2 p3 1 1 [.int .i64 3, .slice p2 1 1] :: own 65 2 p2 1 1 (encAt ⟨2, 7⟩) :: own 61 2 p1 2 2 [.int .i64 1, .slice none 0 0, .int .i64 2, .slice none 0 0] :: own 65 2 p0 1 1 (encAt ⟨1, 1⟩) :: []) PMT
  have hRg : RdGs w g := by rw [hg]; exact gA_rd (H := []) hH
  have hMg : MayP g := by rw [hg]; exact gA_may ..
  repeat' (first | (refine QT ?_; clear hA a; intro a hA) | (refine BT ?_; clear hA hH; rintro _ w ⟨bN, rfl, hH⟩ a hA) | (apply st_op0 hA rfl rfl; apply op_store_agg (vs := encGs g); rfl; rfl; exact hH; (repeat constructor); (repeat rfl); clear hH; rintro _ w hH) | (refine CT ?_ <;> repeat' refine CT ?_) | fail)
  obtain ⟨b2, hb3⟩ : ∃ x, x = bN := ⟨_, rfl⟩; rw [← hb3] at hA hH; clear hb3 bN
  have hxs : ∀ s ∈ g.xs.l, s.size ≤ 4611686018427387904 := by rw [hg]; exact xs4_sz
  have hfl : g.fs.l.length ≤ 100000 := by rw [hg]; exact (by decide : 1 ≤ 100000)
  have hbs : ∀ f ∈ g.fs.l, f.bs.l.length ≤ 1048576 ∧ ∀ bl ∈ f.bs.l, bl.e.to.l.length ≤ 1048576 := by rw [hg]; exact fun f hf => gA_bs _ _ _ _ _ _ _ _ _ _ _ f hf
  have hrun : encP3 (runP g 2 ⟨#[]⟩ 9) = encO3 1 empS ⟨#[56]⟩ := by rw [hg]; exact congrArg encP3 (gA_runP ..)
  have hR1 : RdGs w g := by rw [hg]; exact gA_rd (H := []) hH.tail
  repeat' (first | (refine XT ?_; apply XE; (first | (apply ex_load_st (vs := encGs g); rfl; rfl; exact cls_cb_all MEMT)); clear hA a; intro a hA) | (refine QT ?_; clear hA a; intro a hA) | fail)
  (refine st_op hA rfl rfl (by decide) (op_call rfl rfl rfl (Run_spec _ g 2 ⟨#[]⟩ 9 hR1 hfl hbs hxs (by decide) (hFI.keep hH.kp))) ?_; clear hA; rintro _ w ⟨rfl, hk⟩ a hA; replace hH := hH.keep hk; clear hk hR1)
  rw [hrun] at hA
  repeat' (first | (refine QT ?_; clear hA a; intro a hA) | (refine BT ?_; clear hA hH; rintro _ w ⟨bN, rfl, hH⟩ a hA) | (apply st_op0 hA rfl rfl; apply op_store_agg (vs := encO3 1 empS ⟨#[56]⟩); rfl; rfl; exact hH; (repeat constructor); (repeat rfl); clear hH; rintro _ w hH) | (refine CT ?_ <;> repeat' refine CT ?_) | fail)
  obtain ⟨b3, hb3⟩ : ∃ x, x = bN := ⟨_, rfl⟩; rw [← hb3] at hA hH; clear hb3 bN
  have hST : HS w0 noM [cb b2 25 (encGs g)] w := HS.left (H1 := [_]) hH.tail
  refine wp_drawT (qs [4, 5] (.two 0 7 (qs [1, 2] (.two 3 7 (.q 6 (.one 7 (.one 8 .nil))) (.one 3 (.q 6 (.one 8 .nil))))) (.one 0 (qs [1, 2] (.one 3 (.q 6 (.one 8 .nil))))))) (fun a w => ∃ b4 oA oF, HS w0 noM (cb b4 34 (encP oF 1 1 (⟨nilV, nilV, nilV, g.xs, nilV⟩ : Grs)) :: own 72 12 oF 1 1 (encF oA 0) :: own 65 2 oA 1 1 (encAt ⟨2, 5⟩) :: cb b3 29 (encO3 1 empS ⟨#[56]⟩) :: cb b2 25 (encGs g) :: own 9 1 oX 4 4 (flat encX xs4) :: own 44 2 oG 1 1 (encG ⟨0, ⟨p8, 4, [blA p0 p1 1 2, blJ p2 p3 1 1 7, blJ p4 p5 1 1 8, blR p6 p7 1 1]⟩⟩) :: own 53 6 p8 4 4 (flat encBl [blA p0 p1 1 2, blJ p2 p3 1 1 7, blJ p4 p5 1 1 8, blR p6 p7 1 1]) :: own 65 2 p7 1 1 (encAt ⟨1, 2⟩) :: own 3 1 p6 1 1 [.int .i64 2] :: own 61 2 p5 1 1 [.int .i64 3, .slice p4 1 1] :: own 65 2 p4 1 1 (encAt ⟨2, 8⟩) :: own 61 2 p3 1 1 [.int .i64 3, .slice p2 1 1] :: own 65 2 p2 1 1 (encAt ⟨2, 7⟩) :: own 61 2 p1 2 2 [.int .i64 1, .slice none 0 0, .int .i64 2, .slice none 0 0] :: own 65 2 p0 1 1 (encAt ⟨1, 1⟩) :: []) w ∧
    Sl 79 [(4, .pointer (some (bat b4 0))), (3, .pointer (some (bat b3 0))), (2, .pointer (some (bat b2 0))), (0, .bool false)] a) mixed (by decide +kernel) hST ?_ ?_
  · clear hST
    replace hH := hH.drew
    (repeat (apply dt_ex hA rfl rfl rfl (by decide); (first | exact EXT | exact EXT2 ); clear hA a; intro a hA))
    apply dt_two
    rotate_left
    · (apply dt_op hA rfl rfl rfl (by decide); apply op_alloc; exact hH; clear hA hH; rintro _ w ⟨bN, rfl, hH⟩; refine ⟨hH.pick (by exact MEMT), ?_⟩; intro a hA)
      (refine dt_op hA rfl rfl rfl (by decide) (op_call rfl rfl rfl (num_spec _ 5)) ?_; clear hA; rintro _ w ⟨oA, rfl, hj⟩; replace hH := hH.join hj; clear hj; refine ⟨hH.pick (by exact MEMT), ?_⟩; intro a hA)
      (repeat (apply dt_ex hA rfl rfl rfl (by decide); (first | exact EXT | exact EXT2 | (apply ex_build (szs := [(0, 1), (1, 1), (2, 1), (3, 1), (4, 1), (5, 4), (9, 1), (10, 1)]) (cs := (encB oA).toArray); exact run_szl (by (repeat (first | exact SzL.nil | refine SzL.cons ⟨_, rfl, by decide⟩ ?_))); rfl; rfl) | (apply ex_build (szs := [(0, 1), (1, 11)]) (cs := (encF oA 0).toArray); exact run_szl (by (repeat (first | exact SzL.nil | refine SzL.cons ⟨_, rfl, by decide⟩ ?_))); rfl; exact fill_F5 oA)); clear hA a; intro a hA))
      (apply dt_op hA rfl rfl rfl (by decide); apply op_sliceLit (xs := encF oA 0) (vs := [.agg (encF oA 0).toArray]); rfl; rfl; exact (Cats.cn (cs := encF oA 0) Cats.nil); rfl; rfl; rfl; exact hH; clear hA hH; rintro _ w ⟨oN, rfl, hH⟩; refine ⟨hH.pick (by exact MEMT), ?_⟩; intro a hA)
      (repeat (apply dt_ex hA rfl rfl rfl (by decide); (first | exact EXT | exact EXT2 | (apply ex_build_p (cs := (encP oN 1 1 (⟨nilV, nilV, nilV, g.xs, nilV⟩ : Grs)).toArray); rfl; exact FLT; rfl)); clear hA a; intro a hA))
      (apply dt_op0 hA rfl rfl rfl; apply op_store_agg (vs := encP oN 1 1 (⟨nilV, nilV, nilV, g.xs, nilV⟩ : Grs)); rfl; rfl; exact hH; (repeat constructor); (repeat rfl); clear hH; rintro _ w hH; refine ⟨hH.pick (by exact MEMT), ?_⟩; apply dt_nil)
      exact ⟨_, oA, _, hH.perm PMT, (hA.sub SBT)⟩
    (refine dt_op hA rfl rfl rfl (by decide) (op_call rfl rfl rfl (num_spec _ 5)) ?_; clear hA; rintro _ w ⟨oA, rfl, hj⟩; replace hH := hH.join hj; clear hj; refine ⟨hH.pick (by exact MEMT), ?_⟩; intro a hA)
    (repeat (apply dt_ex hA rfl rfl rfl (by decide); (first | exact EXT | exact EXT2 | (apply ex_build (szs := [(0, 1), (1, 1), (2, 1), (3, 1), (4, 1), (5, 4), (9, 1), (10, 1)]) (cs := (encB oA).toArray); exact run_szl (by (repeat (first | exact SzL.nil | refine SzL.cons ⟨_, rfl, by decide⟩ ?_))); rfl; rfl) | (apply ex_build (szs := [(0, 1), (1, 11)]) (cs := (encF oA 0).toArray); exact run_szl (by (repeat (first | exact SzL.nil | refine SzL.cons ⟨_, rfl, by decide⟩ ?_))); rfl; exact fill_F5 oA)); clear hA a; intro a hA))
    apply dt_two
    rotate_left
    · (apply dt_op hA rfl rfl rfl (by decide); apply op_alloc; exact hH; clear hA hH; rintro _ w ⟨bN, rfl, hH⟩; refine ⟨hH.pick (by exact MEMT), ?_⟩; intro a hA)
      (apply dt_op hA rfl rfl rfl (by decide); apply op_sliceLit (xs := encF oA 0) (vs := [.agg (encF oA 0).toArray]); rfl; rfl; exact (Cats.cn (cs := encF oA 0) Cats.nil); rfl; rfl; rfl; exact hH; clear hA hH; rintro _ w ⟨oN, rfl, hH⟩; refine ⟨hH.pick (by exact MEMT), ?_⟩; intro a hA)
      (repeat (apply dt_ex hA rfl rfl rfl (by decide); (first | exact EXT | exact EXT2 | (apply ex_build_p (cs := (encP oN 1 1 (⟨nilV, nilV, nilV, g.xs, nilV⟩ : Grs)).toArray); rfl; exact FLT; rfl)); clear hA a; intro a hA))
      (apply dt_op0 hA rfl rfl rfl; apply op_store_agg (vs := encP oN 1 1 (⟨nilV, nilV, nilV, g.xs, nilV⟩ : Grs)); rfl; rfl; exact hH; (repeat constructor); (repeat rfl); clear hH; rintro _ w hH; refine ⟨hH.pick (by exact MEMT), ?_⟩; apply dt_nil)
      exact ⟨_, oA, _, hH.perm PMT, (hA.sub SBT)⟩
    (apply dt_op hA rfl rfl rfl (by decide); apply op_sliceLit (xs := encF oA 0) (vs := [.agg (encF oA 0).toArray]); rfl; rfl; exact (Cats.cn (cs := encF oA 0) Cats.nil); rfl; rfl; rfl; exact hH; clear hA hH; rintro _ w ⟨oN, rfl, hH⟩; refine ⟨hH.pick (by exact MEMT), ?_⟩; intro a hA)
    (repeat (apply dt_ex hA rfl rfl rfl (by decide); (first | exact EXT | exact EXT2 | (apply ex_build_p (cs := (encP oN 1 1 (⟨nilV, nilV, nilV, g.xs, nilV⟩ : Grs)).toArray); rfl; exact FLT; rfl)); clear hA a; intro a hA))
    (apply dt_op hA rfl rfl rfl (by decide); apply op_alloc; exact hH; clear hA hH; rintro _ w ⟨bN, rfl, hH⟩; refine ⟨hH.pick (by exact MEMT), ?_⟩; intro a hA)
    (apply dt_op0 hA rfl rfl rfl; apply op_store_agg (vs := encP oN 1 1 (⟨nilV, nilV, nilV, g.xs, nilV⟩ : Grs)); rfl; rfl; exact hH; (repeat constructor); (repeat rfl); clear hH; rintro _ w hH; refine ⟨hH.pick (by exact MEMT), ?_⟩; apply dt_nil)
    exact ⟨_, oA, _, hH.perm PMT, (hA.sub SBT)⟩
  clear hA hH hST
  rintro a w ⟨b4, oA, oF, hH, hA⟩
  have hxl : g.xs.l = xs4 := by rw [hg]; rfl
  have hRx : RdV w encX g.xs := by rw [hg]; exact (gA_rd (H := []) hH.tail.tail.tail.tail.tail).2.2.2.2.1
  have hF1 := hH.own_rd (T := 72) (.tail _ (.head _))
  have hA1 := hH.own_rd (T := 65) (o := oA) (sz := 2) (.tail _ (.tail _ (.head _)))
  repeat' (first | (refine XT ?_; apply XE; (first | (apply ex_load_st (vs := encP oF 1 1 (⟨nilV, nilV, nilV, g.xs, nilV⟩ : Grs)); rfl; rfl; exact cls_cb_all MEMT)); clear hA a; intro a hA) | (refine QT ?_; clear hA a; intro a hA) | (refine CT ?_ <;> repeat' refine CT ?_) | fail)
  (refine st_op hA rfl rfl (by decide) (op_call rfl rfl rfl (of1_spec _ (⟨nilV, nilV, nilV, g.xs, nilV⟩ : Grs) oF oA 1 hF1 hA1 (rdv_nil _ _) (rdv_nil _ _) hRx (rdv_nil _ _) hxl rfl rfl rfl)) ?_; clear hA; rintro _ w ⟨q1, q2, q3, q4, q5, q6, q7, k1, k2, k3, k4, k5, k6, rfl, hj⟩ a hA; replace hH := hH.join hj; clear hj)
  obtain ⟨h, hh⟩ : ∃ h, h = h5 q1 q2 q3 q4 q5 q6 q7 k1 k2 k3 k4 k5 k6 (⟨nilV, nilV, nilV, g.xs, nilV⟩ : Grs) := ⟨_, rfl⟩
  rw [← hh] at hA
  have hmay : MayP h := by rw [hh]; exact may5 (n := 5) (of := none) (oc := 0) (by decide) rfl hxl rfl rfl rfl
  have hrun5 : (runP h 2 ⟨#[]⟩ 9).2.2 = ⟨#[53]⟩ := h5_runP (by rw [hh]; rfl) hmay
  repeat' (first | (refine QT ?_; clear hA a; intro a hA) | (refine BT ?_; clear hA hH; rintro _ w ⟨bN, rfl, hH⟩ a hA) | (apply st_op0 hA rfl rfl; apply op_store_agg (vs := encGs h); rfl; rfl; exact hH; (repeat constructor); (repeat rfl); clear hH; rintro _ w hH) | (refine CT ?_ <;> repeat' refine CT ?_) | fail)
  obtain ⟨b5, hb3⟩ : ∃ x, x = bN := ⟨_, rfl⟩; rw [← hb3] at hA hH; clear hb3 bN
  repeat' (first | (refine XT ?_; apply XE; (first | (apply ex_build_p (cs := (encP none 0 0 gr0s).toArray); rfl; exact FLT; rfl)); clear hA a; intro a hA) | (refine QT ?_; clear hA a; intro a hA) | fail)
  have hA2 : Rd w oA (encAt at5) := hH.own_rd (T := 65) (o := oA) (sz := 2) (n := 1) (cap := 1) (xs := encAt ⟨2, 5⟩) (by repeat (first | exact List.Mem.head _ | apply List.Mem.tail))
  (refine st_op hA rfl rfl (by decide) (op_call rfl rfl rfl (of0_spec _ gr0s rfl (rdv_nil _ _) (rdv_nil _ _) (rdv_nil _ _) (rdv_nil _ _) oA hA2)) ?_; clear hA; rintro _ w ⟨rfl, hk⟩ a hA; replace hH := hH.keep hk; clear hk hA2)
  repeat' (first | (refine QT ?_; clear hA a; intro a hA) | (refine BT ?_; clear hA hH; rintro _ w ⟨bN, rfl, hH⟩ a hA) | (apply st_op0 hA rfl rfl; apply op_store_agg (vs := encGs gr0s); rfl; rfl; exact hH; (repeat constructor); (repeat rfl); clear hH; rintro _ w hH) | (refine CT ?_ <;> repeat' refine CT ?_) | fail)
  obtain ⟨b7, hb3⟩ : ∃ x, x = bN := ⟨_, rfl⟩; rw [← hb3] at hA hH; clear hb3 bN
  have hRg2 : RdGs w g := by rw [hg]; exact gA_rd (H := []) (HS.right (H1 := [_, _, _, _, _, _, _, _, _, _, _, _, _, _]) hH)
  repeat' (first | (refine XT ?_; apply XE; (first | (apply ex_load_st (vs := encGs g); rfl; rfl; exact cls_cb_all MEMT)); clear hA a; intro a hA) | (refine QT ?_; clear hA a; intro a hA) | fail)
  (refine st_op hA rfl rfl (by decide) (op_call rfl rfl rfl (May_spec _ g hRg2 hfl hbs)) ?_; clear hA; rintro _ w ⟨b, rfl, hk, hb⟩ a hA; replace hH := hH.keep hk; clear hk hRg2)
  obtain rfl : b = true := hb.2 hMg
  repeat' (first | (refine GT ?_ ?_ <;> intro hg <;> clear hA a <;> intro a hA <;> (first | exact FA | replace hg := of_decide_eq_true hg | replace hg := of_decide_eq_false hg | skip)) | (refine XT ?_; apply XE; (first | (apply ex_build_p (cs := (encGs gr0s).toArray); rfl; exact FLT; rfl)); clear hA a; intro a hA) | (refine QT ?_; clear hA a; intro a hA) | fail)
  (refine st_op hA rfl rfl (by decide) (op_call rfl rfl rfl (May_spec _ gr0s (gr0s_rd _) (by decide) (fun f hf => absurd hf (List.not_mem_nil)))) ?_; clear hA; rintro _ w ⟨b, rfl, hk, hb0⟩ a hA; replace hH := hH.keep hk; clear hk)
  obtain rfl : b = false := by
    cases b with
    | false => rfl
    | true => exact absurd (hb0.1 rfl) (may0 rfl)
  repeat' (first | (refine GT ?_ ?_ <;> intro hg <;> clear hA a <;> intro a hA <;> (first | exact FA | replace hg := of_decide_eq_true hg | replace hg := of_decide_eq_false hg | skip)) | (refine XT ?_; apply XE; (first | (apply ex_load_st (vs := encO3 1 empS ⟨#[56]⟩); rfl; rfl; exact cls_cb_all MEMT) | (apply ex_build_p (cs := (encO3 1 empS ⟨#[56]⟩).toArray); rfl; exact FLT; rfl) | (apply ex_eqlOs (p := (1, empS, ⟨#[56]⟩)); rfl; rfl)); clear hA a; intro a hA) | (refine QT ?_; clear hA a; intro a hA) | fail)
  have hRh : RdGs w h := by
    rw [hh]
    exact h5_rd (g := (⟨nilV, nilV, nilV, g.xs, nilV⟩ : Grs)) (hH.tail.tail)
  have hxh : ∀ s ∈ h.xs.l, s.size ≤ 4611686018427387904 := by rw [hh]; show ∀ s ∈ g.xs.l, _; exact hxs
  have hfh : h.fs.l.length ≤ 100000 := by rw [hh]; exact (by decide : 1 ≤ 100000)
  have hbh : ∀ f ∈ h.fs.l, f.bs.l.length ≤ 1048576 ∧ ∀ bl ∈ f.bs.l, bl.e.to.l.length ≤ 1048576 := by rw [hh]; exact h5_bs (g := (⟨nilV, nilV, nilV, g.xs, nilV⟩ : Grs))
  (refine st_op hA rfl rfl (by decide) (op_call rfl rfl rfl (Run_spec _ h 2 ⟨#[]⟩ 9 hRh hfh hbh hxh (by decide) (hFI.keep hH.kp))) ?_; clear hA; rintro _ w ⟨rfl, hk⟩ a hA; replace hH := hH.keep hk; clear hk hRh)
  obtain ⟨⟨r1, r2, r3⟩, hr⟩ : ∃ r, r = runP h 2 ⟨#[]⟩ 9 := ⟨_, rfl⟩
  rw [← hr] at hA hrun5
  dsimp only at hrun5
  subst hrun5
  repeat' (first | (refine GT ?_ ?_ <;> intro hg <;> clear hA a <;> intro a hA <;> (first | exact FA | replace hg := of_decide_eq_true hg | replace hg := of_decide_eq_false hg | skip)) | (refine XT ?_; apply XE; (first | (apply ex_eqlSs (m := ⟨#[53]⟩); rfl; rfl) | (apply ex_field (v := .string ⟨#[53]⟩); rfl; rfl; exact pk_9; rfl)); clear hA a; intro a hA) | (refine QT ?_; clear hA a; intro a hA) | (refine CT ?_ <;> repeat' refine CT ?_) | fail)
  exact rt1 (.inl rfl) rfl hA rfl ⟨rfl, hH.kp⟩
end Go.Proofs.YtenlcdokaadobaaGreatDoor
namespace Go.Fw
open Go Go.RowKit
section
variable {P : Program} {N : Nat} {l : List (Nat × Value)} {C : World → Prop} {d : Option Tmp} {T : TypeId} {pos : String} {af : Array Edge} {g : Option (Nat × Bool)}
end
end Go.Fw
namespace Go.Proofs.YtenlcdokaadobaaGreatDoor
open Go Go.Fw
set_option linter.unusedVariables false
set_option maxRecDepth 10000 attribute [local irreducible] Code.wp wpList Calls Ex Op1 sat bat blk cb own Go.Fw.mp Go.Fw.mpO Go.Fw.mpI Go.Fw.mpE Go.Fw.itr HS Rd Ret wkD Hp Cl Cls Exit.then Exit.inBlock Exit.noGoto bodyPost Go.Fw.flat wk2 Go.Fw.all Go.Fw.owns wpOp
attribute [local irreducible] sk mpK sko mvO entK opM Go.Fw.mset Go.Fw.mv opK

set_option maxHeartbeats 4000000 in
theorem large_spec (w0 : World) (g : Grs) (hR : RdGs w0 g) (hs : SzG 1048576 g) : Ret Tryz.prog 11 #[.agg (encGs g).toArray] w0 (fun r w => ∃ b, r = .bool b ∧ (b = true ↔ 50 < g.fs.l.length ∨ 1000 < grsN g) ∧ Kp w0 noM w) := by
  have hH : HS w0 noM [] w0 := HS.init w0 noM
  have hfs := hs.fs
  (refine enter (N := 12) Tryz.func11 rfl Tryz.ntmps11 rfl ?_; intro a hA; dsimp only [sl0, Nat.reduceAdd] at hA)
  by_cases hl : 50 < g.fs.l.length
  · repeat' (first | (refine GT ?_ ?_ <;> intro hg <;> clear hA a <;> intro a hA <;> (first | exact FA | replace hg := of_decide_eq_true hg | replace hg := of_decide_eq_false hg | skip)) | (refine QT ?_; clear hA a; intro a hA) | (refine BT ?_; clear hA hH; rintro _ w ⟨bN, rfl, hH⟩ a hA) | (refine CT ?_ <;> repeat' refine CT ?_) | fail)
    exact rt1 (.inl rfl) rfl hA rfl ⟨true, rfl, iff_of_true rfl (.inl hl), hH.kp⟩
  repeat' (first | (refine GT ?_ ?_ <;> intro hg <;> clear hA a <;> intro a hA <;> (first | exact FA | replace hg := of_decide_eq_true hg | replace hg := of_decide_eq_false hg | skip)) | (refine XT ?_; apply XE; (first | (apply ex_load_st (vs := encGs g); rfl; rfl; exact cls_cb_all MEMT)); clear hA a; intro a hA) | (refine QT ?_; clear hA a; intro a hA) | (refine BT ?_; clear hA hH; rintro _ w ⟨bN, rfl, hH⟩ a hA) | (refine CT ?_ <;> repeat' refine CT ?_) | fail)
  (refine st_op hA rfl rfl (by decide) (op_call rfl rfl rfl (Parts_spec _ g 1000 (by decide) (hR.keep hH.kp) hs)) ?_; clear hA; rintro _ w ⟨n, rfl, hn, hk⟩ a hA; replace hH := hH.keep hk; clear hk)
  by_cases h2 : n ≤ 1000
  · repeat' (first | (refine QT ?_; clear hA a; intro a hA) | (refine CT ?_ <;> repeat' refine CT ?_) | fail)
    exact rt1 (.inl rfl) rfl hA rfl ⟨_, rfl, iff_of_false (fun h => (by have := of_decide_eq_true h; omega)) (fun h => (by have := hn.1 h2; omega)), hH.kp⟩
  · repeat' (first | (refine QT ?_; clear hA a; intro a hA) | (refine CT ?_ <;> repeat' refine CT ?_) | fail)
    exact rt1 (.inl rfl) rfl hA rfl ⟨_, rfl, iff_of_true (decide_eq_true (by omega)) (.inr (by have := fun h => h2 (hn.2 h); omega)), hH.kp⟩
end Go.Proofs.YtenlcdokaadobaaGreatDoor
namespace Go.Proofs.YtenlcdokaadobaaGreatDoor
open Go Go.Fw
set_option linter.unusedVariables false
def hi (x : Int) : Int := if x < 2 then x else x + 262144
theorem hi_inj {x y : Int} (h : hi x = hi y) : x = y := by
  unfold hi at h
  split at h <;> split at h <;> omega
def hiA (a : Atm) : Atm := if a.k = 1 ∧ 1 < a.n then ⟨a.k, i64w (a.n + 262144)⟩ else a
set_option maxRecDepth 10000 attribute [local irreducible] Code.wp wpList Calls Ex Op1 sat bat blk cb own Go.Fw.mp Go.Fw.mpO Go.Fw.mpI Go.Fw.mpE Go.Fw.itr HS Rd Ret wkD Hp Cl Cls Exit.then Exit.inBlock Exit.noGoto bodyPost Go.Fw.flat wk2 Go.Fw.all Go.Fw.owns wpOp
attribute [local irreducible] sk mpK sko mvO entK opM Go.Fw.mset Go.Fw.mv opK

set_option maxHeartbeats 4000000 in
theorem higher_spec (w0 : World) (x : Int) (h : x < 524288) : Ret Tryz.prog 21 #[.int .i64 x] w0 (fun r w => r = .int .i64 (hi x) ∧ Kp w0 noM w) := by
  have hH : HS w0 noM [] w0 := HS.init w0 noM
  (refine enter (N := 8) Tryz.func21 rfl Tryz.ntmps21 rfl ?_; intro a hA; dsimp only [sl0, Nat.reduceAdd] at hA)
  by_cases h2 : x < 2
  · repeat' (first | (refine QT ?_; clear hA a; intro a hA) | ((first | refine CT ?_ | (refine DT ?_ ?_ <;> intro hc <;> try (exfalso; omega))) <;> repeat' refine CT ?_) | fail)
    exact rt1 (.inl rfl) rfl hA rfl ⟨by unfold hi; rw [if_pos h2], hH.kp⟩
  · repeat' (first | (refine QT ?_; clear hA a; intro a hA) | ((first | refine CT ?_ | (refine DT ?_ ?_ <;> intro hc <;> try (exfalso; omega))) <;> repeat' refine CT ?_) | fail)
    exact rt1 (.inl rfl) rfl hA rfl ⟨by unfold hi; rw [if_neg h2], hH.kp⟩
theorem hiA_t {a : Atm} (h : a.k = 1 ∧ 1 < a.n) : hiA a = ⟨a.k, i64w (a.n + 262144)⟩ := if_pos h
theorem hiA_f {a : Atm} (h : ¬ (a.k = 1 ∧ 1 < a.n)) : hiA a = a := if_neg h
theorem map_next {α β : Type} {f : α → β} {l : List α} {i : Nat} {x : α} (h : l[i]? = some x) : (l.take (i + 1)).map f = (l.take i).map f ++ [f x] := by rw [take_snoc h, List.map_append]; rfl
theorem map_len {α β : Type} {f : α → β} {l : List α} {i : Nat} (h : i ≤ l.length) : ((l.take i).map f).length = i := by rw [List.length_map, List.length_take]; omega
theorem flatAt_s (l : List Atm) (x : Atm) : flat encAt l ++ encAt x = flat encAt (l ++ [x]) := by rw [flat_snoc]
set_option maxHeartbeats 8000000 in
theorem other_spec (w0 : World) (v : Vec Atm) (hR : RdV w0 encAt v) (hl : v.l.length ≤ 1048576) : Ret Tryz.prog 20 #[.slice v.o v.l.length v.c] w0 (fun r w => ∃ o c, r = .slice o v.l.length c ∧ HS w0 noM [own 65 2 o v.l.length c (flat encAt (v.l.map hiA))] w) := by
  have hH : HS w0 noM [] w0 := HS.init w0 noM
  have hsp : Sp v.o v.l.length := hR.1.sp (sz := 2) (flat_length encAt_len _) (by omega)
  (refine enter (N := 34) Tryz.func20 rfl Tryz.ntmps20 rfl ?_; intro a hA; dsimp only [sl0, Nat.reduceAdd] at hA)
  repeat' (first | (refine QT ?_; clear hA a; intro a hA) | (refine LT ?_; clear hA hH; rintro _ w ⟨oN, rfl, hH⟩ a hA) | (refine CT ?_ <;> repeat' refine CT ?_) | fail)
  refine wp_lpk (S := Nat) (fun i a w => ∃ o c, i ≤ v.l.length ∧ HS w0 noM [own 65 2 o i c (flat encAt ((v.l.take i).map hiA))] w ∧ Sl 34 [(9, .int .i64 i), (8, .int .i64 v.l.length), (7, .slice v.o v.l.length v.c), (3, .slice o i c), (0, .slice v.o v.l.length v.c)] a) (fun i => v.l.length - i)
    (fun a w => ∃ o c, HS w0 noM [own 65 2 o v.l.length c (flat encAt (v.l.map hiA))] w ∧ Sl 34 [(3, .slice o v.l.length c)] a) 0 ⟨_, _, Nat.zero_le _, (by rw [List.take_zero, List.map_nil, flatAt_nil]; exact hH), (hA.sub SBT)⟩ ?_ ?_
  · clear hA hH
    rintro i a w ⟨o, c, hi0, hH, hA⟩
    by_cases hlt : i < v.l.length
    rotate_left
    · obtain rfl : i = v.l.length := by omega
      repeat' (first | (refine QT ?_; clear hA a; intro a hA) | ((first | refine CT ?_ | (refine DT ?_ ?_ <;> intro hc <;> try (exfalso; omega))) <;> repeat' refine CT ?_) | fail)
      rw [List.take_length] at hH
      exact ⟨o, c, hH, (hA.sub SBT)⟩
    obtain ⟨x, hx⟩ : ∃ x, v.l[i]? = some x := ⟨_, List.getElem?_eq_getElem hlt⟩
    have hvs := flat_all encAt_len hx
    have hml := map_len (f := hiA) hi0
    by_cases hc : x.k = 1 ∧ 1 < x.n
    · obtain ⟨hk, hn1⟩ := hc
      have he := hiA_t ⟨hk, hn1⟩
      repeat' (first | (refine GT ?_ ?_ <;> intro hg <;> clear hA a <;> intro a hA <;> (first | exact FA | replace hg := of_decide_eq_true hg | replace hg := of_decide_eq_false hg | skip)) | (refine XT ?_; apply XE; (first | (apply ex_load_st (vs := encAt x); rfl; rfl; exact cls_rd hR.1 id hvs) | (apply ex_indexAddr_nat; rfl; rfl; omega; exact hsp) | (apply ex_addW (n := 262144); rfl; rfl) | (apply ex_load_st (vs := encAt (hiA x)); rfl; rfl; exact cls_cb_all MEMT)); clear hA a; intro a hA) | (refine QT ?_; clear hA a; intro a hA) | (refine BT ?_; clear hA hH; rintro _ w ⟨bN, rfl, hH⟩ a hA) | (refine LT ?_; clear hA hH; rintro _ w ⟨oN, rfl, hH⟩ a hA) | (refine AT ?_; clear hA; rintro _ w ⟨oN, cN, rfl, hH2⟩ a hA; clear hH; have hH := (hH2 _ (by (repeat constructor))).tail; clear hH2) | (apply st_op0 hA rfl rfl; apply op_store_agg (vs := encAt x); rfl; rfl; exact hH; (repeat constructor); (repeat rfl); clear hH; rintro _ w hH) | (apply st_op0 hA rfl rfl; apply op_store_fld (cs' := encAt (hiA x)); rfl; rfl; rfl; exact hH; (repeat constructor); (rw [he]; rfl); clear hH; rintro _ w hH) | (apply st_op hA rfl rfl (by decide); apply op_sliceLit (xs := encAt (hiA x)) (vs := [.agg (encAt (hiA x)).toArray]); rfl; rfl; exact (Cats.cn (cs := encAt (hiA x)) Cats.nil); rfl; rfl; rfl; exact hH; clear hA hH; rintro _ w ⟨oN, rfl, hH⟩ a hA) | ((first | refine CT ?_ | (refine DT ?_ ?_ <;> intro hc <;> try (exfalso; omega))) <;> repeat' refine CT ?_) | fail)
      exact ⟨i + 1, ⟨_, _, hlt, (by rw [map_next hx, ← flatAt_s]; exact hH.tail), (hA.sub SBT)⟩, by omega⟩
    have he := hiA_f hc
    by_cases hk : x.k = 1
    · have hn1 : ¬ 1 < x.n := fun h => hc ⟨hk, h⟩
      repeat' (first | (refine GT ?_ ?_ <;> intro hg <;> clear hA a <;> intro a hA <;> (first | exact FA | replace hg := of_decide_eq_true hg | replace hg := of_decide_eq_false hg | skip)) | (refine XT ?_; apply XE; (first | (apply ex_load_st (vs := encAt x); rfl; rfl; first | exact cls_rd hR.1 id hvs | exact cls_cb_all MEMT) | (apply ex_indexAddr_nat; rfl; rfl; omega; exact hsp)); clear hA a; intro a hA) | (refine QT ?_; clear hA a; intro a hA) | (refine BT ?_; clear hA hH; rintro _ w ⟨bN, rfl, hH⟩ a hA) | (refine LT ?_; clear hA hH; rintro _ w ⟨oN, rfl, hH⟩ a hA) | (refine AT ?_; clear hA; rintro _ w ⟨oN, cN, rfl, hH2⟩ a hA; clear hH; have hH := (hH2 _ (by (repeat constructor))).tail; clear hH2) | (apply st_op0 hA rfl rfl; apply op_store_agg (vs := encAt x); rfl; rfl; exact hH; (repeat constructor); (repeat rfl); clear hH; rintro _ w hH) | (apply st_op hA rfl rfl (by decide); apply op_sliceLit (xs := encAt x) (vs := [.agg (encAt x).toArray]); rfl; rfl; exact (Cats.cn (cs := encAt x) Cats.nil); rfl; rfl; rfl; exact hH; clear hA hH; rintro _ w ⟨oN, rfl, hH⟩ a hA) | ((first | refine CT ?_ | (refine DT ?_ ?_ <;> intro hc <;> try (exfalso; omega))) <;> repeat' refine CT ?_) | fail)
      exact ⟨i + 1, ⟨_, _, hlt, (by rw [map_next hx, ← flatAt_s, he]; exact hH.tail), (hA.sub SBT)⟩, by omega⟩
    · repeat' (first | (refine GT ?_ ?_ <;> intro hg <;> clear hA a <;> intro a hA <;> (first | exact FA | replace hg := of_decide_eq_true hg | replace hg := of_decide_eq_false hg | skip)) | (refine XT ?_; apply XE; (first | (apply ex_load_st (vs := encAt x); rfl; rfl; first | exact cls_rd hR.1 id hvs | exact cls_cb_all MEMT) | (apply ex_indexAddr_nat; rfl; rfl; omega; exact hsp)); clear hA a; intro a hA) | (refine QT ?_; clear hA a; intro a hA) | (refine BT ?_; clear hA hH; rintro _ w ⟨bN, rfl, hH⟩ a hA) | (refine LT ?_; clear hA hH; rintro _ w ⟨oN, rfl, hH⟩ a hA) | (refine AT ?_; clear hA; rintro _ w ⟨oN, cN, rfl, hH2⟩ a hA; clear hH; have hH := (hH2 _ (by (repeat constructor))).tail; clear hH2) | (apply st_op0 hA rfl rfl; apply op_store_agg (vs := encAt x); rfl; rfl; exact hH; (repeat constructor); (repeat rfl); clear hH; rintro _ w hH) | (apply st_op hA rfl rfl (by decide); apply op_sliceLit (xs := encAt x) (vs := [.agg (encAt x).toArray]); rfl; rfl; exact (Cats.cn (cs := encAt x) Cats.nil); rfl; rfl; rfl; exact hH; clear hA hH; rintro _ w ⟨oN, rfl, hH⟩ a hA) | ((first | refine CT ?_ | (refine DT ?_ ?_ <;> intro hc <;> try (exfalso; omega))) <;> repeat' refine CT ?_) | fail)
      exact ⟨i + 1, ⟨_, _, hlt, (by rw [map_next hx, ← flatAt_s, he]; exact hH.tail), (hA.sub SBT)⟩, by omega⟩
  clear hA hH
  rintro a w ⟨o, c, hH, hA⟩
  repeat' (first | (refine QT ?_; clear hA a; intro a hA) | (refine CT ?_ <;> repeat' refine CT ?_) | fail)
  exact rt1 (.inl rfl) rfl hA rfl ⟨o, c, rfl, hH⟩
end Go.Proofs.YtenlcdokaadobaaGreatDoor
namespace Go.Proofs.YtenlcdokaadobaaGreatDoor
open Go Go.Fw
set_option linter.unusedVariables false
def Al {α β : Type} (R : α → β → Prop) : List α → List β → Prop
  | [], [] => True
  | x :: l, y :: m => R x y ∧ Al R l m
  | _, _ => False
theorem Al.len {α β : Type} {R : α → β → Prop} : ∀ {l : List α} {m : List β}, Al R l m → m.length = l.length
  | [], [], _ => rfl
  | x :: l, y :: m, h => by rw [List.length_cons, List.length_cons, Al.len h.2]
  | [], _ :: _, h => h.elim
  | _ :: _, [], h => h.elim
theorem Al.snoc {α β : Type} {R : α → β → Prop} : ∀ {l : List α} {m : List β} {x : α} {y : β}, Al R l m → R x y → Al R (l ++ [x]) (m ++ [y])
  | [], [], x, y, _, h => ⟨h, trivial⟩
  | a :: l, b :: m, x, y, h, h2 => ⟨h.1, Al.snoc h.2 h2⟩
  | [], _ :: _, _, _, h, _ => h.elim
  | _ :: _, [], _, _, h, _ => h.elim
theorem Al.next {α β : Type} {R : α → β → Prop} {l : List α} {m : List β} {i : Nat} {x : α} {y : β} (h : Al R (l.take i) m) (hx : l[i]? = some x) (hr : R x y) : Al R (l.take (i + 1)) (m ++ [y]) := by rw [take_snoc hx]; exact h.snoc hr
theorem Al.cnt {α β : Type} {R : α → β → Prop} {l : List α} {m : List β} {i : Nat} (h : Al R (l.take i) m) (hi : i ≤ l.length) : m.length = i := by rw [h.len, List.length_take]; omega
theorem all_nx {α : Type} {Q : α → Prop} {l : List α} {i : Nat} {x : α} (h : ∀ a ∈ l.take i, Q a) (hx : l[i]? = some x) (hq : Q x) : ∀ a ∈ l.take (i + 1), Q a := by
  rw [take_snoc hx]
  intro a ha
  rcases List.mem_append.1 ha with h1 | h1
  · exact h a h1
  · rw [List.mem_singleton.1 h1]; exact hq
theorem all_sn {α : Type} {Q : α → Prop} {l : List α} {x : α} (h : ∀ a ∈ l, Q a) (hq : Q x) : ∀ a ∈ l ++ [x], Q a := by
  intro a ha
  rcases List.mem_append.1 ha with h1 | h1
  · exact h a h1
  · rw [List.mem_singleton.1 h1]; exact hq
theorem al_nil {α β : Type} (R : α → β → Prop) {l : List α} : Al R (l.take 0) [] := by rw [List.take_zero]; trivial
theorem al_cnt {α β : Type} {R : α → β → Prop} {l : List α} {m : List β} {i : Nat} (h : Al R (l.take i) m) (hi : i ≤ l.length) : m.length = i := h.cnt hi
structure RenSt (r r' : Stp) : Prop where
  k : r'.k = r.k
  n : r'.n = r.n
  ns : r'.ns = r.ns
  a : r'.a.l = r.a.l.map hiA
structure RenIn (i i' : Ins) : Prop where
  x : i'.x = hi i.x
  r : RenSt i.r i'.r
structure RenEd (t t' : Edg) : Prop where
  b : t'.b = t.b
  a : t'.a.l = t.a.l.map hiA
structure RenEn (e e' : En) : Prop where
  k : e'.k = e.k
  a : e'.a.l = e.a.l.map hiA
  ns : e'.ns = e.ns
  to : Al RenEd e.to.l e'.to.l
structure RenBl (b b' : Blc) : Prop where
  ps : b'.ps.l = b.ps.l.map hi
  is : Al RenIn b.is.l b'.is.l
  e : RenEn b.e b'.e
structure RenGr (f f' : Gr) : Prop where
  caps : f'.caps = f.caps
  bs : Al RenBl f.bs.l f'.bs.l
structure RenGs (g g' : Grs) : Prop where
  fs : Al RenGr g.fs.l g'.fs.l
  ls : g'.ls = g.ls
  ts : g'.ts = g.ts
  xs : g'.xs = g.xs
  ss : g'.ss = g.ss
structure LowB (b : Blc) : Prop where
  ps : ∀ x ∈ b.ps.l, x < 524288
  is : ∀ i ∈ b.is.l, i.x < 524288
def LowG (g : Grs) : Prop := ∀ f ∈ g.fs.l, ∀ b ∈ f.bs.l, LowB b
def encO9 (g : Grs) (o : Option Addr) (n c : Nat) : List Value := [.slice o n c, .slice g.ls.o g.ls.l.length g.ls.c, .slice g.ts.o g.ts.l.length g.ts.c, .slice g.xs.o g.xs.l.length g.xs.c, .slice g.ss.o g.ss.l.length g.ss.c]
def encXb (oP : Option Addr) (nP cP : Nat) (oI : Option Addr) (nI cI : Nat) (k : Int) (oA : Option Addr) (nA cA : Nat) (ns : Vec Int) (oT : Option Addr) (nT cT : Nat) : List Value :=
  [.slice oP nP cP, .slice oI nI cI, .int .i64 k, .slice oA nA cA, .slice ns.o ns.l.length ns.c, .slice oT nT cT]
theorem flatI_nil2 : flat Fw.encI [] = [] := rfl
theorem flatIn_nil : flat encIn [] = [] := rfl
theorem flatEd_nil : flat encEd [] = [] := rfl
theorem flatBl_nil : flat encBl [] = [] := rfl
theorem flatG_nil : flat encG [] = [] := rfl
theorem al_next {α β : Type} {R : α → β → Prop} {l : List α} {m : List β} {i : Nat} {x : α} {y : β} (h : Al R (l.take i) m) (hx : l[i]? = some x) (hr : R x y) : Al R (l.take (i + 1)) (m ++ [y]) := h.next hx hr
theorem al_len {α β : Type} {R : α → β → Prop} {l : List α} {m : List β} (h : Al R l m) : m.length = l.length := h.len
theorem flatIn_s (l : List Ins) (x : Ins) : flat encIn l ++ encIn x = flat encIn (l ++ [x]) := by rw [flat_snoc]
theorem flatEd_s (l : List Edg) (x : Edg) : flat encEd l ++ encEd x = flat encEd (l ++ [x]) := by rw [flat_snoc]
theorem flatBl_s (l : List Blc) (x : Blc) : flat encBl l ++ encBl x = flat encBl (l ++ [x]) := by rw [flat_snoc]
theorem flatG_s (l : List Gr) (x : Gr) : flat encG l ++ encG x = flat encG (l ++ [x]) := by rw [flat_snoc]
theorem in_st {l : List Ins} {i : Nat} {x : Ins} (h : l[i]? = some x) (j : Nat) (v : Value) (hv : (encSt x.r)[j]? = some v) : (flat encIn l)[i * 5 + 1 + j]? = some v := by
  rw [Nat.add_assoc]
  refine flat_get (off := 1 + j) encIn_len h ?_
  match j, hv with
  | 0, hv => exact hv
  | 1, hv => exact hv
  | 2, hv => exact hv
  | 3, hv => exact hv
theorem in_xx {l : List Ins} {i : Nat} {x : Ins} (h : l[i]? = some x) : (flat encIn l)[i * 5 + 0]? = some (.int .i64 x.x) := flat_get (off := 0) encIn_len h rfl
theorem ed_b {l : List Edg} {i : Nat} {x : Edg} (h : l[i]? = some x) : (flat encEd l)[i * 2 + 0]? = some (.int .i64 x.b) := flat_get (off := 0) encEd_len h rfl
end Go.Proofs.YtenlcdokaadobaaGreatDoor
namespace Go.Proofs.YtenlcdokaadobaaGreatDoor
open Go Go.Fw
set_option linter.unusedVariables false
def SrO (out : List Nat) : Sr → Prop
  | .go m => ∃ t, m.wd.out = out ++ t
  | .stop k s wd => k ≠ 2 ∧ ∃ t, wd.out = out ++ t
theorem SrO.same {wd : Wd} {sk : List Fm} {fm : Fm} : SrO wd.out (.go ⟨wd, sk, fm⟩) := ⟨[], (List.append_nil _).symm⟩
def WdI (w w' : Wd) : Prop := w.inp.size ≤ w'.inp.size + 1
theorem WdI.same (w : Wd) : WdI w w := Nat.le_succ _
end Go.Proofs.YtenlcdokaadobaaGreatDoor
namespace Go.Proofs.YtenlcdokaadobaaGreatDoor
open Go Go.Fw
set_option linter.unusedVariables false
theorem bulk_pos {H : Type} (d : DataW H) : 1 ≤ Rows.uptoBulk d := by
  cases d with
  | lit l => cases l <;> simp [Rows.uptoBulk]
  | _ => simp [Rows.uptoBulk]
theorem bulk_mem {H : Type} {d : DataW H} : ∀ {l : List (DataW H)}, d ∈ l → Rows.uptoBulk d ≤ Rows.uptoBulkAll l
  | x :: l, h => by
    rw [Rows.uptoBulkAll]
    rcases List.mem_cons.1 h with rfl | h
    · omega
    · have := bulk_mem h; omega
theorem bulk_len {H : Type} : ∀ (l : List (DataW H)), l.length ≤ Rows.uptoBulkAll l
  | [] => Nat.zero_le _
  | x :: l => by
    rw [Rows.uptoBulkAll, List.length_cons]
    have := bulk_pos x
    have := bulk_len l
    omega
theorem bulk_of {H : Type} {ds : List (DataW H)} {d : DataW H} (hk : ∃ gs, Rows.uptoSmall H (ds ++ gs) = true) (hd : d ∈ ds) : Rows.uptoBulk d ≤ 1048576 := by
  obtain ⟨gs, hk⟩ := hk
  have h : Rows.uptoBulkAll (ds ++ gs) ≤ 1048576 := of_decide_eq_true hk
  have := bulk_mem (List.mem_append_left gs hd)
  omega
theorem bulk_slice {H : Type} {elems rest : List (DataW H)} : elems.length ≤ Rows.uptoBulk (.slice elems rest) := by
  rw [Rows.uptoBulk]
  have := bulk_len elems
  omega
end Go.Proofs.YtenlcdokaadobaaGreatDoor
namespace Go.Proofs.YtenlcdokaadobaaGreatDoor
open Go Go.Fw Go.ChangeShapes Go.WideShapes Go.ChangeAt Go.RowKit Go.Deep
set_option linter.unusedVariables false
section
variable {H : Type} {enc0 : TypeId × Value → H} {w : World} {held : Bool}
def Opn (enc0 : TypeId × Value → H) (w : World) (held : Bool) (t : TypeId) {α : Type} (enc : α → List Value) (K : α → Prop) : Prop :=
  ∀ (fuel : Nat) (cs : List Value) (x : DataW H × List MemPlace), DataW.trod enc0 Tryz.prog w 0 (fun _ => true) held fuel t cs = some x → ∃ a, cs = enc a ∧ (Rows.uptoBulk x.1 ≤ 1048576 → K a)
theorem opn_int {t : TypeId} {k : IntKind} [h : TIn Tryz.prog t k] : Opn enc0 w held t (fun n : Int => [.int k n]) (fun _ => True) := fun fuel cs x hx => by
  obtain ⟨n, rfl, _⟩ := DataW.trod_int h.eq hx
  exact ⟨n, rfl, fun _ => trivial⟩
theorem rd_of0 {a : Addr} {vs : List Value} (h : ∀ j v, vs[j]? = some v → w.cell? (a.add j) = some v) : Rd w (some a) vs := by
  cases vs with
  | nil => exact ⟨fun h => absurd h (by decide), fun j u h => by simp at h⟩
  | cons v vs =>
    have h1 := World.cell?_spot (h 0 v rfl)
    have hs : a.spot = none := by simpa [Addr.add] using h1
    refine ⟨fun _ => ⟨a.block, a.off, by rw [← hs]⟩, fun j u hj => ?_⟩
    rw [← add_sat a hs]
    exact h j u hj
theorem opn_slice {t e : TypeId} [ht : TSl Tryz.prog t e] {α : Type} {enc : α → List Value} {K : α → Prop} {sz : Nat} (he : Opn enc0 w held e enc K) (hc : Tryz.prog.cellsOf e = sz) (hsz : 0 < sz) (hl : ∀ a, (enc a).length = sz) :
    Opn enc0 w held t (fun v : Option Addr × Nat × List α => [.slice v.1 v.2.2.length v.2.1]) (fun v => (Rd w v.1 (flat enc v.2.2) ∧ v.2.2.length ≤ v.2.1 ∧ v.2.1 ≤ maxLen) ∧ v.2.2.length ≤ 1048576 ∧ ∀ a ∈ v.2.2, K a) := fun fuel cs x hx => by
  rcases DataW.trod_slice ht.eq hx with ⟨rfl, rfl⟩ | ⟨a, len, cap, elems, rest, n, rfl, rfl, rfl, hb, hle, hm, hlen, hel, _, _⟩
  · exact ⟨(none, 0, []), rfl, fun _ => ⟨⟨⟨fun h => absurd h (Nat.lt_irrefl 0), fun j u h => by simp [flat] at h⟩, Nat.le_refl _, Nat.zero_le _⟩, Nat.zero_le _, fun a ha => absurd ha List.not_mem_nil⟩⟩
  · obtain ⟨l, hll, hp⟩ := choose_list (fun i (p : α) => (∀ j v, (enc p)[j]? = some v → w.cell? (a.add (i * sz + j)) = some v) ∧ ∀ y, elems[i]? = some y → Rows.uptoBulk y.1 ≤ 1048576 → K p) len (fun i hi => by
      have h1 := hel i hi
      have h2 : elems[i]? = some (elems[i]'(by omega)) := List.getElem?_eq_getElem (by omega)
      rw [h2, hc] at h1
      obtain ⟨cs', hcs, ht'⟩ := Option.bind_eq_some_iff.1 h1
      obtain ⟨_, hcl, hat⟩ := World.cells?_some hcs
      obtain ⟨p, rfl, hK⟩ := he _ _ _ ht'
      refine ⟨p, fun j v hj => ?_, fun y hy hbk => ?_⟩
      · have hjl := (List.getElem?_eq_some_iff.1 hj).1
        rw [hl] at hjl
        rw [← Go.Deep.add_add, hat j hjl, hj]
      · rw [h2] at hy
        cases hy
        exact hK hbk)
    subst hll
    refine ⟨(some a, cap, l), rfl, fun hbk => ⟨⟨rd_of0 fun j v hj => ?_, hle, hm⟩, ?_, fun p hp' => ?_⟩⟩
    · dsimp only at hj
      have hjl := (List.getElem?_eq_some_iff.1 hj).1
      rw [flat_length hl] at hjl
      have hjq : j / sz < l.length := Nat.div_lt_of_lt_mul (by rw [Nat.mul_comm]; exact hjl)
      obtain ⟨p, hpp⟩ : ∃ p, l[j / sz]? = some p := ⟨_, List.getElem?_eq_getElem hjq⟩
      have h6 := (hp _ _ hpp).1 (j % sz)
      have ej : j / sz * sz + j % sz = j := by rw [Nat.mul_comm]; exact Nat.div_add_mod j sz
      obtain ⟨u, hu⟩ : ∃ u, (enc p)[j % sz]? = some u := ⟨_, List.getElem?_eq_getElem (by rw [hl]; exact Nat.mod_lt _ hsz)⟩
      have h7 := flat_get hl hpp hu
      rw [ej, hj] at h7
      have h8 := h6 u hu
      rw [ej] at h8
      rw [h8, ← Option.some.inj h7]
    · have := bulk_slice (elems := elems.map (·.1)) (rest := rest.map (·.1))
      rw [List.length_map] at this
      dsimp only at hbk ⊢
      omega
    · dsimp only at hp' hbk
      obtain ⟨i, hi⟩ := List.getElem?_of_mem hp'
      have hil := (List.getElem?_eq_some_iff.1 hi).1
      obtain ⟨y, hy⟩ : ∃ y, elems[i]? = some y := ⟨_, List.getElem?_eq_getElem (by omega)⟩
      refine (hp i p hi).2 y hy ?_
      have h9 := bulk_mem (List.mem_map_of_mem (f := fun x => x.1) (List.mem_of_getElem? hy))
      rw [Rows.uptoBulk] at hbk
      omega
theorem opn_struct {t : TypeId} {fl : List (Nat × Nat)} [ht : TSt Tryz.prog t fl] {fuel : Nat} {cs : List Value} {x : DataW H × List MemPlace} (hx : DataW.trod enc0 Tryz.prog w 0 (fun _ => true) held fuel t cs = some x) :
    ∃ n, cs.length = Tryz.prog.cellsOf t ∧ ∀ (i ft off : Nat), fl[i]? = some (ft, off) → ∃ y : DataW H × List MemPlace, DataW.trod enc0 Tryz.prog w 0 (fun _ => true) held n ft ((cs.drop off).take (Tryz.prog.cellsOf ft)) = some y ∧ (Rows.uptoBulk x.1 ≤ 1048576 → Rows.uptoBulk y.1 ≤ 1048576) := by
  obtain ⟨fs, hfs, hfl⟩ := ht.eq
  obtain ⟨ys, n, rfl, rfl, hcl, hyl, hf⟩ := DataW.trod_struct hfs hx
  refine ⟨n, hcl, fun i ft off hi => ?_⟩
  rw [← hfl, List.getElem?_map] at hi
  obtain ⟨fd, hfd, e⟩ := Option.map_eq_some_iff.1 hi
  cases e
  have hfd2 : fs[i]? = some fd := by rw [← Array.getElem?_toList]; exact hfd
  have h1 := hf i fd hfd2
  have hil : i < ys.length := by
    rw [hyl]
    exact (Array.getElem?_eq_some_iff.1 hfd2).1
  rw [List.getElem?_eq_getElem hil] at h1
  refine ⟨_, h1, fun hbk => ?_⟩
  have h9 := bulk_mem (List.mem_map_of_mem (f := fun x => x.1) (List.getElem_mem hil))
  rw [Rows.uptoBulk] at hbk
  omega
theorem cut_at (cs : List Value) (off s : Nat) : cs.drop off = (cs.drop off).take s ++ cs.drop (off + s) := by
  rw [← List.drop_drop]
  exact (List.take_append_drop s (cs.drop off)).symm
theorem opn_imp {t : TypeId} {α β : Type} {enc : α → List Value} {K : α → Prop} {enc2 : β → List Value} {K2 : β → Prop} (h : Opn enc0 w held t enc K) (f : α → β) (he : ∀ a, enc a = enc2 (f a)) (hK : ∀ a, K a → K2 (f a)) : Opn enc0 w held t enc2 K2 := fun fuel cs x hx => by
  obtain ⟨a, rfl, hk⟩ := h fuel cs x hx
  exact ⟨f a, he a, fun hb => hK a (hk hb)⟩
theorem opn_arg {t : TypeId} {α : Type} {enc : α → List Value} {K : α → Prop} (h : Opn enc0 w held t enc K) {v : Value} {d : DataW H} {p : List MemPlace} {ds : List (DataW H)} (hT : DataW.Trod enc0 Tryz.prog w 0 (fun _ => true) held t v d p) (hd : d ∈ ds) (hk : ∃ gs, Rows.uptoSmall H (ds ++ gs) = true) :
    ∃ a, v.cells.toList = enc a ∧ K a := by
  obtain ⟨fuel, hf⟩ := hT
  obtain ⟨a, he, hK⟩ := h fuel _ _ hf
  exact ⟨a, he, hK (bulk_of hk hd)⟩
end
end Go.Proofs.YtenlcdokaadobaaGreatDoor
namespace Go.Proofs.YtenlcdokaadobaaGreatDoor
open Go Go.Fw Go.ChangeShapes Go.WideShapes Go.ChangeAt Go.RowKit Go.Deep
set_option linter.unusedVariables false
structure AtB (b : Blc) : Prop where
  is : ∀ i ∈ b.is.l, ∀ a ∈ i.r.a.l, iok a.n
  e : ∀ a ∈ b.e.a.l, iok a.n
  to : ∀ t ∈ b.e.to.l, ∀ a ∈ t.a.l, iok a.n
section
variable {H : Type} {enc0 : TypeId × Value → H} {w : World} {held : Bool}
structure BigG (g : Grs) : Prop where
  sz : SzG 1048576 g
  xs : ∀ s ∈ g.xs.l, s.size ≤ 1048576
  at_ : ∀ f ∈ g.fs.l, ∀ b ∈ f.bs.l, AtB b
theorem opn_strB {t : TypeId} [h : TSr Tryz.prog t] : Opn enc0 w held t (fun s : ByteArray => [.string s]) (fun s => s.size ≤ 1048576) := fun fuel cs x hx => by
  obtain ⟨n, rfl, hx2, _⟩ := DataW.trod_string h.eq hx
  refine ⟨n, rfl, fun hb => ?_⟩
  rw [hx2] at hb
  have hb2 : n.data.toList.length + 1 ≤ 1048576 := hb
  have h9 : n.size = n.data.toList.length := rfl
  show n.size ≤ 1048576
  omega
theorem cutc {cs A B : List Value} {o s o2 : Nat} (z : o2 = o + s) (e : (cs.drop o).take s = A) (h : cs.drop o2 = B) : cs.drop o = A ++ B := by
  subst z
  rw [cut_at cs o s, e, h]
theorem cutn {cs : List Value} {o n : Nat} (h : cs.length = n) (z : n = o) : cs.drop o = [] := List.drop_eq_nil_of_le (by omega)
theorem opn_vec {t e : TypeId} [ht : TSl Tryz.prog t e] {α : Type} {enc : α → List Value} {K : α → Prop} {sz : Nat} (he : Opn enc0 w held e enc K) (hc : Tryz.prog.cellsOf e = sz) (hsz : 0 < sz) (hl : ∀ a, (enc a).length = sz) :
    Opn enc0 w held t (fun v : Vec α => [.slice v.o v.l.length v.c]) (fun v => RdV w enc v ∧ v.l.length ≤ 1048576 ∧ ∀ a ∈ v.l, K a) :=
  opn_imp (opn_slice he hc hsz hl) (fun v => ⟨v.1, v.2.1, v.2.2⟩) (fun v => rfl) (fun v h => h)
theorem opn_iok {t : TypeId} [h : TIn Tryz.prog t .i64] : Opn enc0 w held t (fun n : Int => [.int .i64 n]) iok := fun fuel cs x hx => by
  obtain ⟨n, rfl, hw⟩ := DataW.trod_int h.eq hx
  have hw2 : (decide (IntKind.i64.min ≤ n) && decide (n ≤ IntKind.i64.max)) = true := hw.2
  rw [Bool.and_eq_true, decide_eq_true_eq, decide_eq_true_eq] at hw2
  exact ⟨n, rfl, fun _ => hw2⟩
theorem opn_encI {t : TypeId} [h : TIn Tryz.prog t .i64] : Opn enc0 w held t Fw.encI (fun _ => True) := opn_imp opn_int id (fun _ => rfl) (fun _ _ => trivial)
theorem opn_encX {t : TypeId} [h : TSr Tryz.prog t] : Opn enc0 w held t encX (fun s => s.size ≤ 1048576) := opn_imp opn_strB id (fun _ => rfl) (fun _ h => h)
theorem opn_atm : Opn enc0 w held 65 encAt (fun a => iok a.n) := fun fuel cs x hx => by
  obtain ⟨n, hcl, hf⟩ := opn_struct hx
  obtain ⟨y0, h0, b0⟩ := hf 0 _ _ rfl
  obtain ⟨a0, e0, k0⟩ := (opn_int) n _ _ h0
  obtain ⟨y1, h1, b1⟩ := hf 1 _ _ rfl
  obtain ⟨a1, e1, k1⟩ := (opn_iok) n _ _ h1
  refine ⟨⟨a0, a1⟩, cutc (o2 := 1) (by kernel_rfl) e0 (cutc (o2 := 2) (by kernel_rfl) e1 (cutn (o := 2) hcl (by kernel_rfl))), fun hb => ?_⟩
  have g0 := k0 (b0 hb)
  have g1 := k1 (b1 hb)
  exact g1
theorem opn_stp : Opn enc0 w held 57 encSt (fun s => (RdV w Fw.encI s.ns ∧ RdV w encAt s.a) ∧ s.a.l.length ≤ 1048576 ∧ ∀ a ∈ s.a.l, iok a.n) := fun fuel cs x hx => by
  obtain ⟨n, hcl, hf⟩ := opn_struct hx
  obtain ⟨y0, h0, b0⟩ := hf 0 _ _ rfl
  obtain ⟨a0, e0, k0⟩ := (opn_int) n _ _ h0
  obtain ⟨y1, h1, b1⟩ := hf 1 _ _ rfl
  obtain ⟨a1, e1, k1⟩ := (opn_int) n _ _ h1
  obtain ⟨y2, h2, b2⟩ := hf 2 _ _ rfl
  obtain ⟨a2, e2, k2⟩ := (opn_vec (opn_encI) (by kernel_rfl) (by decide) Fw.encI_len) n _ _ h2
  obtain ⟨y3, h3, b3⟩ := hf 3 _ _ rfl
  obtain ⟨a3, e3, k3⟩ := (opn_vec (opn_atm) (by kernel_rfl) (by decide) encAt_len) n _ _ h3
  refine ⟨⟨a0, a1, a2, a3⟩, cutc (o2 := 1) (by kernel_rfl) e0 (cutc (o2 := 2) (by kernel_rfl) e1 (cutc (o2 := 3) (by kernel_rfl) e2 (cutc (o2 := 4) (by kernel_rfl) e3 (cutn (o := 4) hcl (by kernel_rfl))))), fun hb => ?_⟩
  have g0 := k0 (b0 hb)
  have g1 := k1 (b1 hb)
  have g2 := k2 (b2 hb)
  have g3 := k3 (b3 hb)
  exact ⟨⟨g2.1, g3.1⟩, g3.2⟩
theorem opn_ins : Opn enc0 w held 59 encIn (fun i => RdIn w i ∧ i.r.a.l.length ≤ 1048576 ∧ ∀ a ∈ i.r.a.l, iok a.n) := fun fuel cs x hx => by
  obtain ⟨n, hcl, hf⟩ := opn_struct hx
  obtain ⟨y0, h0, b0⟩ := hf 0 _ _ rfl
  obtain ⟨a0, e0, k0⟩ := (opn_int) n _ _ h0
  obtain ⟨y1, h1, b1⟩ := hf 1 _ _ rfl
  obtain ⟨a1, e1, k1⟩ := (opn_stp) n _ _ h1
  refine ⟨⟨a0, a1⟩, cutc (o2 := 1) (by kernel_rfl) e0 (cutc (o2 := 5) (by kernel_rfl) e1 (cutn (o := 5) hcl (by kernel_rfl))), fun hb => ?_⟩
  have g0 := k0 (b0 hb)
  have g1 := k1 (b1 hb)
  exact g1
theorem opn_edg : Opn enc0 w held 61 encEd (fun e => RdV w encAt e.a ∧ e.a.l.length ≤ 1048576 ∧ ∀ a ∈ e.a.l, iok a.n) := fun fuel cs x hx => by
  obtain ⟨n, hcl, hf⟩ := opn_struct hx
  obtain ⟨y0, h0, b0⟩ := hf 0 _ _ rfl
  obtain ⟨a0, e0, k0⟩ := (opn_int) n _ _ h0
  obtain ⟨y1, h1, b1⟩ := hf 1 _ _ rfl
  obtain ⟨a1, e1, k1⟩ := (opn_vec (opn_atm) (by kernel_rfl) (by decide) encAt_len) n _ _ h1
  refine ⟨⟨a0, a1⟩, cutc (o2 := 1) (by kernel_rfl) e0 (cutc (o2 := 2) (by kernel_rfl) e1 (cutn (o := 2) hcl (by kernel_rfl))), fun hb => ?_⟩
  have g0 := k0 (b0 hb)
  have g1 := k1 (b1 hb)
  exact g1
theorem opn_en : Opn enc0 w held 51 encEn (fun e => RdEn w e ∧ e.a.l.length ≤ 1048576 ∧ e.to.l.length ≤ 1048576 ∧ (∀ t ∈ e.to.l, t.a.l.length ≤ 1048576) ∧ (∀ a ∈ e.a.l, iok a.n) ∧ ∀ t ∈ e.to.l, ∀ a ∈ t.a.l, iok a.n) := fun fuel cs x hx => by
  obtain ⟨n, hcl, hf⟩ := opn_struct hx
  obtain ⟨y0, h0, b0⟩ := hf 0 _ _ rfl
  obtain ⟨a0, e0, k0⟩ := (opn_int) n _ _ h0
  obtain ⟨y1, h1, b1⟩ := hf 1 _ _ rfl
  obtain ⟨a1, e1, k1⟩ := (opn_vec (opn_atm) (by kernel_rfl) (by decide) encAt_len) n _ _ h1
  obtain ⟨y2, h2, b2⟩ := hf 2 _ _ rfl
  obtain ⟨a2, e2, k2⟩ := (opn_vec (opn_encI) (by kernel_rfl) (by decide) Fw.encI_len) n _ _ h2
  obtain ⟨y3, h3, b3⟩ := hf 3 _ _ rfl
  obtain ⟨a3, e3, k3⟩ := (opn_vec (opn_edg) (by kernel_rfl) (by decide) encEd_len) n _ _ h3
  refine ⟨⟨a0, a1, a2, a3⟩, cutc (o2 := 1) (by kernel_rfl) e0 (cutc (o2 := 2) (by kernel_rfl) e1 (cutc (o2 := 3) (by kernel_rfl) e2 (cutc (o2 := 4) (by kernel_rfl) e3 (cutn (o := 4) hcl (by kernel_rfl))))), fun hb => ?_⟩
  have g0 := k0 (b0 hb)
  have g1 := k1 (b1 hb)
  have g2 := k2 (b2 hb)
  have g3 := k3 (b3 hb)
  exact ⟨⟨g1.1, g2.1, g3.1, fun t ht => (g3.2.2 t ht).1⟩, g1.2.1, g3.2.1, fun t ht => (g3.2.2 t ht).2.1, g1.2.2, fun t ht => (g3.2.2 t ht).2.2⟩
theorem opn_blc : Opn enc0 w held 53 encBl (fun b => RdBl w b ∧ SzB 1048576 b ∧ AtB b) := fun fuel cs x hx => by
  obtain ⟨n, hcl, hf⟩ := opn_struct hx
  obtain ⟨y0, h0, b0⟩ := hf 0 _ _ rfl
  obtain ⟨a0, e0, k0⟩ := (opn_vec (opn_encI) (by kernel_rfl) (by decide) Fw.encI_len) n _ _ h0
  obtain ⟨y1, h1, b1⟩ := hf 1 _ _ rfl
  obtain ⟨a1, e1, k1⟩ := (opn_vec (opn_ins) (by kernel_rfl) (by decide) encIn_len) n _ _ h1
  obtain ⟨y2, h2, b2⟩ := hf 2 _ _ rfl
  obtain ⟨a2, e2, k2⟩ := (opn_en) n _ _ h2
  refine ⟨⟨a0, a1, a2⟩, cutc (o2 := 1) (by kernel_rfl) e0 (cutc (o2 := 2) (by kernel_rfl) e1 (cutc (o2 := 6) (by kernel_rfl) e2 (cutn (o := 6) hcl (by kernel_rfl)))), fun hb => ?_⟩
  have g0 := k0 (b0 hb)
  have g1 := k1 (b1 hb)
  have g2 := k2 (b2 hb)
  exact ⟨⟨g0.1, g1.1, fun i hi => (g1.2.2 i hi).1, g2.1⟩, ⟨g0.2.1, g1.2.1, fun i hi => (g1.2.2 i hi).2.1, g2.2.1, g2.2.2.1, g2.2.2.2.1⟩, ⟨fun i hi => (g1.2.2 i hi).2.2, g2.2.2.2.2.1, g2.2.2.2.2.2⟩⟩
theorem opn_gr : Opn enc0 w held 44 encG (fun g => RdG w g ∧ g.bs.l.length ≤ 1048576 ∧ ∀ bl ∈ g.bs.l, SzB 1048576 bl ∧ AtB bl) := fun fuel cs x hx => by
  obtain ⟨n, hcl, hf⟩ := opn_struct hx
  obtain ⟨y0, h0, b0⟩ := hf 0 _ _ rfl
  obtain ⟨a0, e0, k0⟩ := (opn_int) n _ _ h0
  obtain ⟨y1, h1, b1⟩ := hf 1 _ _ rfl
  obtain ⟨a1, e1, k1⟩ := (opn_vec (opn_blc) (by kernel_rfl) (by decide) encBl_len) n _ _ h1
  refine ⟨⟨a0, a1⟩, cutc (o2 := 1) (by kernel_rfl) e0 (cutc (o2 := 2) (by kernel_rfl) e1 (cutn (o := 2) hcl (by kernel_rfl))), fun hb => ?_⟩
  have g0 := k0 (b0 hb)
  have g1 := k1 (b1 hb)
  exact ⟨⟨g1.1, fun b hb => (g1.2.2 b hb).1⟩, g1.2.1, fun b hb => (g1.2.2 b hb).2⟩
theorem opn_grs : Opn enc0 w held 25 encGs (fun g => RdGs w g ∧ BigG g) := fun fuel cs x hx => by
  obtain ⟨n, hcl, hf⟩ := opn_struct hx
  obtain ⟨y0, h0, b0⟩ := hf 0 _ _ rfl
  obtain ⟨a0, e0, k0⟩ := (opn_vec (opn_gr) (by kernel_rfl) (by decide) encG_len) n _ _ h0
  obtain ⟨y1, h1, b1⟩ := hf 1 _ _ rfl
  obtain ⟨a1, e1, k1⟩ := (opn_vec (opn_encX) (by kernel_rfl) (by decide) encX_len) n _ _ h1
  obtain ⟨y2, h2, b2⟩ := hf 2 _ _ rfl
  obtain ⟨a2, e2, k2⟩ := (opn_vec (opn_encX) (by kernel_rfl) (by decide) encX_len) n _ _ h2
  obtain ⟨y3, h3, b3⟩ := hf 3 _ _ rfl
  obtain ⟨a3, e3, k3⟩ := (opn_vec (opn_encX) (by kernel_rfl) (by decide) encX_len) n _ _ h3
  obtain ⟨y4, h4, b4⟩ := hf 4 _ _ rfl
  obtain ⟨a4, e4, k4⟩ := (opn_vec (opn_encX) (by kernel_rfl) (by decide) encX_len) n _ _ h4
  refine ⟨⟨a0, a1, a2, a3, a4⟩, cutc (o2 := 1) (by kernel_rfl) e0 (cutc (o2 := 2) (by kernel_rfl) e1 (cutc (o2 := 3) (by kernel_rfl) e2 (cutc (o2 := 4) (by kernel_rfl) e3 (cutc (o2 := 5) (by kernel_rfl) e4 (cutn (o := 5) hcl (by kernel_rfl)))))), fun hb => ?_⟩
  have g0 := k0 (b0 hb)
  have g1 := k1 (b1 hb)
  have g2 := k2 (b2 hb)
  have g3 := k3 (b3 hb)
  have g4 := k4 (b4 hb)
  exact ⟨⟨g0.1, fun f hf => (g0.2.2 f hf).1, g1.1, g2.1, g3.1, g4.1⟩, ⟨⟨g0.2.1, fun f hf => (g0.2.2 f hf).2.1, fun f hf b hb => ((g0.2.2 f hf).2.2 b hb).1⟩, g3.2.2, fun f hf b hb => ((g0.2.2 f hf).2.2 b hb).2⟩⟩
set_option maxRecDepth 100000 in
theorem argG {base : Nat} {v : Value} {d : DataW H} {p : List MemPlace} {ds : List (DataW H)} (hv : Value.okWide Tryz.prog w .any base 25 v) (h : DataW.Trod enc0 Tryz.prog w 0 (fun _ => true) held 25 v d p) (hd : d ∈ ds) (hk : ∃ gs, Rows.uptoSmall H (ds ++ gs) = true) :
    ∃ g : Grs, v = .agg (encGs g).toArray ∧ RdGs w g ∧ BigG g := by
  obtain ⟨cs, rfl, _⟩ := okWide_struct Tryz.underlying25 hv
  obtain ⟨g, he, hK⟩ := opn_arg opn_grs h hd hk
  have he : cs.toList = encGs g := he
  exact ⟨g, by rw [← he], hK⟩
set_option maxRecDepth 100000 in
theorem argS {base : Nat} {v : Value} {d : DataW H} {p : List MemPlace} {ds : List (DataW H)} (hv : Value.okWide Tryz.prog w .any base 9 v) (h : DataW.Trod enc0 Tryz.prog w 0 (fun _ => true) held 9 v d p) (hd : d ∈ ds) (hk : ∃ gs, Rows.uptoSmall H (ds ++ gs) = true) :
    ∃ s : ByteArray, v = .string s ∧ s.size ≤ 1048576 := by
  obtain ⟨s0, rfl⟩ := okWide_string (TSr.eq (t := 9)) hv
  obtain ⟨s, he, hK⟩ := opn_arg opn_strB h hd hk
  simp [Value.cells] at he
  subst he
  exact ⟨s0, rfl, hK⟩
end
theorem own_ : ownKnob Tryz.checked.prog.godebug = none := by kernel_rfl
theorem laidOut : laidOutB Tryz.checked.prog = true := by kernel_rfl
end Go.Proofs.YtenlcdokaadobaaGreatDoor
namespace Go.Fw
open Go Go.RowKit
end Go.Fw
namespace Go.Proofs.YtenlcdokaadobaaGreatDoor
open Go Go.Fw
set_option linter.unusedVariables false
theorem BigG.bs {g : Grs} (h : BigG g) : ∀ f ∈ g.fs.l, f.bs.l.length ≤ 1048576 ∧ ∀ bl ∈ f.bs.l, bl.e.to.l.length ≤ 1048576 := fun f hf => ⟨h.sz.bs f hf, fun bl hb => (h.sz.bl f hf bl hb).et⟩
theorem BigG.ex {g : Grs} (h : BigG g) : ∀ s ∈ g.xs.l, s.size ≤ 4611686018427387904 := fun s hs => Nat.le_trans (h.xs s hs) (by decide)
set_option maxRecDepth 10000 attribute [local irreducible] Code.wp wpList Calls Ex Op1 sat bat blk cb own Go.Fw.mp Go.Fw.mpO Go.Fw.mpI Go.Fw.mpE Go.Fw.itr HS Rd Ret wkD Hp Cl Cls Exit.then Exit.inBlock Exit.noGoto bodyPost Go.Fw.flat wk2 Go.Fw.all Go.Fw.owns wpOp
attribute [local irreducible] sk mpK sko mvO entK opM Go.Fw.mset Go.Fw.mv opK

end Go.Proofs.YtenlcdokaadobaaGreatDoor
namespace Go.Proofs.YtenlcdokaadobaaGreatDoor
open Go Go.Fw
set_option linter.unusedVariables false
theorem Al.get {α β : Type} {R : α → β → Prop} : ∀ {l : List α} {m : List β}, Al R l m → ∀ {i : Nat} {x : α}, l[i]? = some x → ∃ y, m[i]? = some y ∧ R x y
  | x :: l, y :: m, h, 0, a, e => ⟨y, rfl, by simp at e; exact e ▸ h.1⟩
  | x :: l, y :: m, h, i + 1, a, e => by
    simp at e
    obtain ⟨b, h1, h2⟩ := Al.get h.2 e
    exact ⟨b, by simpa using h1, h2⟩
  | [], [], _, i, a, e => by simp at e
  | [], _ :: _, h, _, _, _ => h.elim
  | _ :: _, [], h, _, _, _ => h.elim
theorem Al.tog {α β : Type} {R : α → β → Prop} {l : List α} {m : List β} (h : Al R l m) {i : Nat} {y : β} (hy : m[i]? = some y) : ∃ x, l[i]? = some x ∧ R x y := by
  have hi := (List.getElem?_eq_some_iff.1 hy).1
  rw [h.len] at hi
  obtain ⟨z, h1, h2⟩ := h.get (List.getElem?_eq_getElem hi)
  rw [hy] at h1
  cases h1
  exact ⟨_, List.getElem?_eq_getElem hi, h2⟩
theorem Al.fwd {α β : Type} {R : α → β → Prop} {l : List α} {m : List β} (h : Al R l m) {y : β} (hy : y ∈ m) : ∃ x ∈ l, R x y := by
  obtain ⟨i, hi⟩ := List.getElem?_of_mem hy
  obtain ⟨x, h1, h2⟩ := h.tog hi
  exact ⟨x, List.mem_of_getElem? h1, h2⟩
theorem Al.bwd {α β : Type} {R : α → β → Prop} {l : List α} {m : List β} (h : Al R l m) {x : α} (hx : x ∈ l) : ∃ y ∈ m, R x y := by
  obtain ⟨i, hi⟩ := List.getElem?_of_mem hx
  obtain ⟨y, h1, h2⟩ := h.get hi
  exact ⟨y, List.mem_of_getElem? h1, h2⟩
theorem Al.map {α β γ : Type} {R : α → β → Prop} {f : α → γ} {k : β → γ} (hf : ∀ x y, R x y → k y = f x) : ∀ {l : List α} {m : List β}, Al R l m → m.map k = l.map f
  | [], [], _ => rfl
  | x :: l, y :: m, h => by rw [List.map_cons, List.map_cons, hf x y h.1, Al.map hf h.2]
  | [], _ :: _, h => h.elim
  | _ :: _, [], h => h.elim
structure SameW (g g' : Grs) : Prop where
  ls : g'.ls.l = g.ls.l
  ts : g'.ts.l = g.ts.l
  xs : g'.xs.l = g.xs.l
  ss : g'.ss.l = g.ss.l
theorem SameW.symm {g g' : Grs} (h : SameW g g') : SameW g' g := ⟨h.ls.symm, h.ts.symm, h.xs.symm, h.ss.symm⟩
theorem RenGs.same {g g' : Grs} (h : RenGs g g') : SameW g g' := ⟨by rw [h.ls], by rw [h.ts], by rw [h.xs], by rw [h.ss]⟩
theorem RenGs.caps {g g' : Grs} (h : RenGs g g') : g'.fs.l.map Gr.caps = g.fs.l.map Gr.caps := h.fs.map fun _ _ h => h.caps
theorem anf_ren {cs : List Int} {g g' : Grs} (h : SameW g g') (ha : AnfP cs g) : AnfP cs g' :=
  ⟨ha.pos, ha.top, ha.c0, by rw [h.ls]; exact ha.ls, by rw [h.ts]; exact ha.ts, by rw [h.xs]; exact ha.xs, by rw [h.xs]; exact ha.has, by rw [h.ss]; exact ha.ss, ha.caps⟩
structure SameS (r r' : Stp) : Prop where
  k : r'.k = r.k
  n : r'.n = r.n
  ns : r'.ns.l = r.ns.l
  a : r'.a.l.length = r.a.l.length
theorem SameS.symm {r r' : Stp} (h : SameS r r') : SameS r' r := ⟨h.k.symm, h.n.symm, h.ns.symm, h.a.symm⟩
theorem RenSt.same {r r' : Stp} (h : RenSt r r') : SameS r r' := ⟨h.k, h.n, by rw [h.ns], by rw [h.a, List.length_map]⟩
theorem form_ren {g g' : Grs} {cs : List Int} {mine : Int} {r r' : Stp} (hg : SameW g g') (h : SameS r r') (hf : FormP g cs mine r) : FormP g' cs mine r' := by
  refine ⟨by rw [h.k]; exact hf.lo, by rw [h.k]; exact hf.hi, ?_, ?_, by rw [h.ns, h.k]; exact hf.ns, ?_⟩
  · have := hf.num
    unfold numP at this ⊢
    rw [h.k, h.n, hg.ls, hg.ts]
    exact this
  · have := hf.want
    unfold wantF at this ⊢
    rw [h.k, h.n, h.ns, h.a]
    exact this
  · intro h6
    have := hf.lab (by rw [← h.k]; exact h6)
    rw [h.ns]
    unfold labP labAt at this ⊢
    rw [hg.ls]
    exact this
structure SameE (e e' : En) : Prop where
  k : e'.k = e.k
  a : e'.a.l.length = e.a.l.length
  ns : e'.ns.l = e.ns.l
  to : e'.to.l.length = e.to.l.length
theorem SameE.symm {e e' : En} (h : SameE e e') : SameE e' e := ⟨h.k.symm, h.a.symm, h.ns.symm, h.to.symm⟩
theorem RenEn.same {e e' : En} (h : RenEn e e') : SameE e e' := ⟨h.k, by rw [h.a, List.length_map], by rw [h.ns], h.to.len⟩
theorem end_ren {e e' : En} (h : SameE e e') (he : EndP e) : EndP e' :=
  ⟨by rw [h.k]; exact he.lo, by rw [h.k]; exact he.hi, by rw [h.a, h.k]; exact he.a, by rw [h.to, h.ns, h.k]; exact he.to, by rw [h.k, h.ns]; exact he.ns, by rw [h.ns]; exact he.up⟩
theorem hi_low {x : Int} (h : x < 524288) : hi x < 786432 := by unfold hi; split <;> omega
theorem hi_lo {x : Int} : 2 ≤ hi x ↔ 2 ≤ x := by unfold hi; split <;> omega
theorem hiA_n {n : Int} (h : 1 < n) (hk : iok n) : i64w (n + 262144) = n + 262144 ∨ i64w (n + 262144) < 0 := by
  unfold iok at hk
  unfold i64w
  rw [IntKind.wrap_i64]
  omega
theorem at_ren {g g' : Grs} {S S' : Int → Prop} {a : Atm} (hss : g'.ss.l.length = g.ss.l.length) (hi0 : iok a.n) (hS : ∀ x, S x → x < 524288 ∧ S' (hi x)) (hS' : ∀ y, S' y → ∃ x, S x ∧ hi x = y) : atS g' S' (hiA a) ↔ atS g S a := by
  by_cases hc : a.k = 1 ∧ 1 < a.n
  · rw [hiA_t hc]
    obtain ⟨hk, hn⟩ := hc
    have hw := hiA_n hn hi0
    constructor
    · rintro (⟨h1, h2, h3, h4⟩ | ⟨h1, _⟩ | ⟨h1, _⟩)
      · dsimp only at h1 h2 h3 h4
        rcases hw with hw | hw
        · rw [hw] at h4
          rcases h4 with h4 | h4
          · omega
          · obtain ⟨x, hx, hxe⟩ := hS' _ h4
            have he : x = a.n := by unfold hi at hxe; split at hxe <;> omega
            subst he
            have := (hS _ hx).1
            exact .inl ⟨hk, by omega, by omega, .inr hx⟩
        · omega
      · dsimp only at h1; omega
      · dsimp only at h1; omega
    · rintro (⟨h1, h2, h3, h4⟩ | ⟨h1, _⟩ | ⟨h1, _⟩)
      · rcases h4 with h4 | h4
        · omega
        · obtain ⟨h5, h6⟩ := hS _ h4
          have e : i64w (a.n + 262144) = hi a.n := by
            rcases hw with hw | hw
            · rw [hw]; unfold hi; rw [if_neg (by omega)]
            · exfalso; unfold i64w at hw; rw [IntKind.wrap_i64] at hw; omega
          have hl := hi_low h5
          have h2' := hi_lo.2 (show 2 ≤ a.n by omega)
          rw [e]
          exact .inl ⟨h1, by show 0 ≤ hi a.n; omega, by show hi a.n ≤ _; omega, .inr h6⟩
      · omega
      · omega
  · rw [hiA_f hc]
    constructor
    · rintro (⟨h1, h2, h3, h4⟩ | h | ⟨h1, h2, h3⟩)
      · exact .inl ⟨h1, h2, h3, .inl (by have : ¬ 1 < a.n := fun h => hc ⟨h1, h⟩; omega)⟩
      · exact .inr (.inl h)
      · exact .inr (.inr ⟨h1, h2, by rw [← hss]; exact h3⟩)
    · rintro (⟨h1, h2, h3, h4⟩ | h | ⟨h1, h2, h3⟩)
      · exact .inl ⟨h1, h2, h3, .inl (by have : ¬ 1 < a.n := fun h => hc ⟨h1, h⟩; omega)⟩
      · exact .inr (.inl h)
      · exact .inr (.inr ⟨h1, h2, by rw [hss]; exact h3⟩)
theorem bvs_ren {b b' : Blc} (h : RenBl b b') : bvs b' = (bvs b).map hi := by
  unfold bvs
  rw [h.ps, List.map_append, List.map_map]
  congr 1
  exact h.is.map fun x y h => h.x
theorem mem_hi {l : List Int} {x : Int} : hi x ∈ l.map hi ↔ x ∈ l := by
  rw [List.mem_map]
  exact ⟨fun ⟨y, hy, e⟩ => hi_inj e ▸ hy, fun h => ⟨x, h, rfl⟩⟩
theorem goes_ren {b b' : Blc} (h : RenBl b b') (k : Nat) : goes b' k ↔ goes b k := by
  constructor
  · rintro ⟨t, ht, e⟩
    obtain ⟨u, hu, hr⟩ := h.e.to.fwd ht
    exact ⟨u, hu, by rw [← hr.b]; exact e⟩
  · rintro ⟨t, ht, e⟩
    obtain ⟨u, hu, hr⟩ := h.e.to.bwd ht
    exact ⟨u, hu, by rw [hr.b]; exact e⟩
end Go.Proofs.YtenlcdokaadobaaGreatDoor
namespace Go.Proofs.YtenlcdokaadobaaGreatDoor
open Go Go.Fw
set_option linter.unusedVariables false
theorem bs_ren {f f' : Gr} (h : RenGr f f') : ∀ (k : Nat) (x : Int), BS f' k (hi x) ↔ BS f k x := by
  intro k
  induction k using Nat.strongRecOn with
  | ind k ih =>
    intro x
    rw [BS, BS]
    constructor
    · rintro ⟨h0, ha⟩
      refine ⟨h0, fun m hm bl hbl hg => ?_⟩
      obtain ⟨bl', hbl', hr⟩ := h.bs.get hbl
      rcases ha m hm bl' hbl' ((goes_ren hr k).2 hg) with h1 | h1
      · rw [bvs_ren hr, mem_hi] at h1; exact .inl h1
      · exact .inr ((ih m hm x).1 h1)
    · rintro ⟨h0, ha⟩
      refine ⟨h0, fun m hm bl' hbl' hg => ?_⟩
      obtain ⟨bl, hbl, hr⟩ := h.bs.tog hbl'
      rcases ha m hm bl hbl ((goes_ren hr k).1 hg) with h1 | h1
      · left; rw [bvs_ren hr, mem_hi]; exact h1
      · exact .inr ((ih m hm x).2 h1)
theorem low_bvs {b : Blc} (h : LowB b) {x : Int} (hx : x ∈ bvs b) : x < 524288 := by
  unfold bvs at hx
  rcases List.mem_append.1 hx with h1 | h1
  · exact h.ps x h1
  · obtain ⟨i, hi, rfl⟩ := List.mem_map.1 h1
    exact h.is i hi
theorem bs_low {f : Gr} (hc : ∀ n bl, f.bs.l[n]? = some bl → come f n) (hl : ∀ b ∈ f.bs.l, LowB b) : ∀ (k : Nat), (∃ bl, f.bs.l[k]? = some bl) → ∀ x, BS f k x → x < 524288 := by
  intro k
  induction k using Nat.strongRecOn with
  | ind k ih =>
    intro ⟨bk, hbk⟩ x hx
    rw [BS] at hx
    obtain ⟨h0, ha⟩ := hx
    rcases hc k bk hbk with h1 | ⟨m, bl, hm, hbl, hg⟩
    · omega
    · rcases ha m hm bl hbl hg with h2 | h2
      · exact low_bvs (hl bl (List.mem_of_getElem? hbl)) h2
      · exact ih m hm ⟨bl, hbl⟩ x h2
theorem bs_pre {f f' : Gr} (h : RenGr f f') (hc : ∀ n bl, f.bs.l[n]? = some bl → come f n) : ∀ (k : Nat), (∃ bl, f.bs.l[k]? = some bl) → ∀ y, BS f' k y → ∃ x, hi x = y := by
  intro k
  induction k using Nat.strongRecOn with
  | ind k ih =>
    intro ⟨bk, hbk⟩ y hy
    rw [BS] at hy
    obtain ⟨h0, ha⟩ := hy
    rcases hc k bk hbk with h1 | ⟨m, bl, hm, hbl, hg⟩
    · omega
    · obtain ⟨bl', hbl', hr⟩ := h.bs.get hbl
      rcases ha m hm bl' hbl' ((goes_ren hr k).2 hg) with h2 | h2
      · rw [bvs_ren hr] at h2
        obtain ⟨x, _, e⟩ := List.mem_map.1 h2
        exact ⟨x, e⟩
      · exact ih m hm ⟨bl, hbl⟩ y h2
theorem come_ren {f f' : Gr} (h : RenGr f f') (n : Nat) : come f' n ↔ come f n := by
  unfold come
  constructor
  · rintro (h0 | ⟨m, bl', hm, hbl', hg⟩)
    · exact .inl h0
    · obtain ⟨bl, hbl, hr⟩ := h.bs.tog hbl'
      exact .inr ⟨m, bl, hm, hbl, (goes_ren hr n).1 hg⟩
  · rintro (h0 | ⟨m, bl, hm, hbl, hg⟩)
    · exact .inl h0
    · obtain ⟨bl', hbl', hr⟩ := h.bs.get hbl
      exact .inr ⟨m, bl', hm, hbl', (goes_ren hr n).2 hg⟩
theorem Al.tk {α β : Type} {R : α → β → Prop} : ∀ {l : List α} {m : List β} (i : Nat), Al R l m → Al R (l.take i) (m.take i)
  | [], [], i, _ => by simp [Al]
  | x :: l, y :: m, 0, _ => trivial
  | x :: l, y :: m, i + 1, h => ⟨h.1, Al.tk i h.2⟩
  | [], _ :: _, _, h => h.elim
  | _ :: _, [], _, h => h.elim
theorem tk_x {b b' : Blc} (h : RenBl b b') (i : Nat) : (b'.is.l.take i).map Ins.x = ((b.is.l.take i).map Ins.x).map hi := by
  rw [List.map_map]
  exact (h.is.tk i).map fun x y h => h.x
structure SS (S S' : Int → Prop) : Prop where
  a : ∀ x, S x → x < 524288 ∧ S' (hi x)
  b : ∀ y, S' y → ∃ x, S x ∧ hi x = y
theorem now_ss {f f' : Gr} (h : RenGr f f') (hc : ∀ n bl, f.bs.l[n]? = some bl → come f n) (hl : ∀ b ∈ f.bs.l, LowB b) {n : Nat} {bl bl' : Blc} (hb : f.bs.l[n]? = some bl) (hr : RenBl bl bl') (i : Nat) : SS (nowS (BS f n) bl i) (nowS (BS f' n) bl' i) := by
  have hlb := hl bl (List.mem_of_getElem? hb)
  refine ⟨fun x hx => ?_, fun y hy => ?_⟩
  · rcases hx with hx | hx | hx
    · exact ⟨bs_low hc hl n ⟨bl, hb⟩ x hx, .inl ((bs_ren h n x).2 hx)⟩
    · exact ⟨hlb.ps x hx, .inr (.inl (by rw [hr.ps, mem_hi]; exact hx))⟩
    · refine ⟨?_, .inr (.inr (by rw [tk_x hr, mem_hi]; exact hx))⟩
      obtain ⟨j, hj, rfl⟩ := List.mem_map.1 hx
      exact hlb.is j (List.mem_of_mem_take hj)
  · rcases hy with hy | hy | hy
    · obtain ⟨x, rfl⟩ := bs_pre h hc n ⟨bl, hb⟩ y hy
      exact ⟨x, .inl ((bs_ren h n x).1 hy), rfl⟩
    · rw [hr.ps] at hy
      obtain ⟨x, hx, rfl⟩ := List.mem_map.1 hy
      exact ⟨x, .inr (.inl hx), rfl⟩
    · rw [tk_x hr] at hy
      obtain ⟨x, hx, rfl⟩ := List.mem_map.1 hy
      exact ⟨x, .inr (.inr hx), rfl⟩
theorem blk_ren {g g' : Grs} {f f' : Gr} {cs : List Int} {n : Nat} {bl bl' : Blc} (hw : SameW g g') (hf : RenGr f f') (hr : RenBl bl bl') (hat : AtB bl) (hS : ∀ i, SS (nowS (BS f n) bl i) (nowS (BS f' n) bl' i)) : BlkP g' f' cs n bl' (BS f' n) ↔ BlkP g f cs n bl (BS f n) := by
  have hss : g'.ss.l.length = g.ss.l.length := by rw [hw.ss]
  have hat2 : ∀ i a, iok a.n → (atS g' (nowS (BS f' n) bl' i) (hiA a) ↔ atS g (nowS (BS f n) bl i) a) := fun i a ha => at_ren hss ha (hS i).a (hS i).b
  have hlen := hr.is.len
  have hfl := hf.bs.len
  have hpl : bl'.ps.l.length = bl.ps.l.length := by rw [hr.ps, List.length_map]
  have hbps : ∀ t : Int, (f'.bs.l.getD t.toNat blc0).ps.l.length = (f.bs.l.getD t.toNat blc0).ps.l.length := fun t => by
    rw [List.getD_eq_getElem?_getD, List.getD_eq_getElem?_getD]
    cases h1 : f.bs.l[t.toNat]? with
    | none =>
      have : f'.bs.l[t.toNat]? = none := by rw [List.getElem?_eq_none_iff] at h1 ⊢; omega
      rw [this]
    | some b =>
      obtain ⟨b', h2, h3⟩ := hf.bs.get h1
      rw [h2]
      show b'.ps.l.length = b.ps.l.length
      rw [h3.ps, List.length_map]
  constructor
  · intro h
    refine ⟨fun h0 => ?_, fun i x hx => ?_, end_ren hr.e.same.symm h.end_, fun a ha => ?_, fun t ht => ?_⟩
    · have := h.first h0
      rw [hr.ps] at this
      exact List.map_eq_nil_iff.1 this
    · obtain ⟨x', hx', hrx⟩ := hr.is.get hx
      obtain ⟨h1, h2⟩ := h.ins i x' hx'
      refine ⟨by rw [← hf.caps]; exact form_ren hw.symm hrx.r.same.symm h1, fun a ha => ?_⟩
      exact (hat2 i a (hat.is x (List.mem_of_getElem? hx) a ha)).1 (h2 _ (by rw [hrx.r.a]; exact List.mem_map_of_mem ha))
    · have := h.ends (hiA a) (by rw [hr.e.a]; exact List.mem_map_of_mem ha)
      rw [hlen] at this
      exact (hat2 _ a (hat.e a ha)).1 this
    · obtain ⟨t', ht', hrt⟩ := hr.e.to.bwd ht
      obtain ⟨h1, h2, h3, h4⟩ := h.edges t' ht'
      rw [hrt.b] at h1 h2 h3
      refine ⟨h1, by omega, ?_, fun a ha => ?_⟩
      · rw [hrt.a, List.length_map, hbps] at h3; exact h3
      · have := h4 (hiA a) (by rw [hrt.a]; exact List.mem_map_of_mem ha)
        rw [hlen] at this
        exact (hat2 _ a (hat.to t ht a ha)).1 this
  · intro h
    refine ⟨fun h0 => ?_, fun i x' hx' => ?_, end_ren hr.e.same h.end_, fun a' ha' => ?_, fun t' ht' => ?_⟩
    · rw [hr.ps, h.first h0]; rfl
    · obtain ⟨x, hx, hrx⟩ := hr.is.tog hx'
      obtain ⟨h1, h2⟩ := h.ins i x hx
      refine ⟨by rw [hf.caps]; exact form_ren hw hrx.r.same h1, fun a' ha' => ?_⟩
      rw [hrx.r.a] at ha'
      obtain ⟨a, ha, rfl⟩ := List.mem_map.1 ha'
      exact (hat2 i a (hat.is x (List.mem_of_getElem? hx) a ha)).2 (h2 a ha)
    · rw [hr.e.a] at ha'
      obtain ⟨a, ha, rfl⟩ := List.mem_map.1 ha'
      rw [hlen]
      exact (hat2 _ a (hat.e a ha)).2 (h.ends a ha)
    · obtain ⟨t, ht, hrt⟩ := hr.e.to.fwd ht'
      obtain ⟨h1, h2, h3, h4⟩ := h.edges t ht
      rw [hrt.b]
      refine ⟨h1, by omega, by rw [hrt.a, List.length_map, hbps]; exact h3, fun a' ha' => ?_⟩
      rw [hrt.a] at ha'
      obtain ⟨a, ha, rfl⟩ := List.mem_map.1 ha'
      rw [hlen]
      exact (hat2 _ a (hat.to t ht a ha)).2 (h4 a ha)
theorem flatMap_ren : ∀ {l m : List Blc}, Al RenBl l m → m.flatMap bvs = (l.flatMap bvs).map hi
  | [], [], _ => rfl
  | x :: l, y :: m, h => by rw [List.flatMap_cons, List.flatMap_cons, List.map_append, bvs_ren h.1, flatMap_ren h.2]
  | [], _ :: _, h => h.elim
  | _ :: _, [], h => h.elim
theorem nodup_hi {l : List Int} : (l.map hi).Nodup ↔ l.Nodup := by
  induction l with
  | nil => simp
  | cons x l ih => rw [List.map_cons, List.nodup_cons, List.nodup_cons, mem_hi, ih]
theorem ev_ren {l : List Int} (hl : ∀ x ∈ l, x < 524288) : EvOk (l.map hi) ↔ EvOk l := by
  constructor
  · rintro ⟨h1, h2⟩
    refine ⟨nodup_hi.1 h1, fun x hx => ?_⟩
    have := h2 (hi x) (mem_hi.2 hx)
    have h3 := hl x hx
    exact ⟨hi_lo.1 this.1, by omega⟩
  · rintro ⟨h1, h2⟩
    refine ⟨nodup_hi.2 h1, fun y hy => ?_⟩
    obtain ⟨x, hx, rfl⟩ := List.mem_map.1 hy
    have := h2 x hx
    have h3 := hi_low (hl x hx)
    exact ⟨hi_lo.2 this.1, by omega⟩
theorem gr_ren {g g' : Grs} {cs : List Int} {f f' : Gr} (hw : SameW g g') (hf : RenGr f f') (hl : ∀ b ∈ f.bs.l, LowB b) (hat : ∀ b ∈ f.bs.l, AtB b) : GrP g' cs f' ↔ GrP g cs f := by
  have hlow : ∀ x ∈ f.bs.l.flatMap bvs, x < 524288 := fun x hx => by
    obtain ⟨b, hb, hxb⟩ := List.mem_flatMap.1 hx
    exact low_bvs (hl b hb) hxb
  constructor
  · intro h
    have hc : ∀ n bl, f.bs.l[n]? = some bl → come f n := fun n bl hbl => by
      obtain ⟨bl', hbl', _⟩ := hf.bs.get hbl
      exact (come_ren hf n).1 (h.blk n bl' hbl').1
    refine ⟨by have := h.ne; rw [hf.bs.len] at this; exact this, fun n bl hbl => ?_, ?_⟩
    · obtain ⟨bl', hbl', hr⟩ := hf.bs.get hbl
      exact ⟨hc n bl hbl, (blk_ren hw hf hr (hat bl (List.mem_of_getElem? hbl)) (now_ss hf hc hl hbl hr)).1 (h.blk n bl' hbl').2⟩
    · have := h.ev
      rw [flatMap_ren hf.bs] at this
      exact (ev_ren hlow).1 this
  · intro h
    have hc : ∀ n bl, f.bs.l[n]? = some bl → come f n := fun n bl hbl => (h.blk n bl hbl).1
    refine ⟨by rw [hf.bs.len]; exact h.ne, fun n bl' hbl' => ?_, ?_⟩
    · obtain ⟨bl, hbl, hr⟩ := hf.bs.tog hbl'
      exact ⟨(come_ren hf n).2 (hc n bl hbl), (blk_ren hw hf hr (hat bl (List.mem_of_getElem? hbl)) (now_ss hf hc hl hbl hr)).2 (h.blk n bl hbl).2⟩
    · rw [flatMap_ren hf.bs]
      exact (ev_ren hlow).2 h.ev
theorem blkN_ren {b b' : Blc} (h : RenBl b b') : blkN b' = blkN b := by
  show 2 + b'.ps.l.length + (b'.is.l.map fun i => 1 + i.r.a.l.length).sum + b'.e.a.l.length + (b'.e.to.l.map fun t => 1 + t.a.l.length).sum = _
  rw [h.ps, List.length_map, h.e.a, List.length_map, h.is.map (f := fun i => 1 + i.r.a.l.length) (fun x y h => by show 1 + y.r.a.l.length = _; rw [h.r.a, List.length_map]), h.e.to.map (f := fun t => 1 + t.a.l.length) (fun x y h => by show 1 + y.a.l.length = _; rw [h.a, List.length_map])]
  rfl
theorem grsN_ren {g g' : Grs} (h : RenGs g g') : grsN g' = grsN g := by
  show (g'.fs.l.map grN).sum = (g.fs.l.map grN).sum
  rw [h.fs.map (f := grN) (k := grN)]
  intro x y hxy
  show (y.bs.l.map blkN).sum = (x.bs.l.map blkN).sum
  rw [hxy.bs.map (f := blkN) (k := blkN)]
  intro a b hab
  exact blkN_ren hab
theorem may_ren {g g' : Grs} (h : RenGs g g') (hl : LowG g) (hat : ∀ f ∈ g.fs.l, ∀ b ∈ f.bs.l, AtB b) : MayP g' ↔ MayP g := by
  have hw := h.same
  constructor
  · intro hm
    refine ⟨by rw [← h.caps]; exact anf_ren hw.symm hm.anf, fun f hf => ?_, by rw [← grsN_ren h]; exact hm.size⟩
    obtain ⟨f', hf', hr⟩ := h.fs.bwd hf
    have := hm.gr f' hf'
    rw [h.caps] at this
    exact (gr_ren hw hr (hl f hf) (hat f hf)).1 this
  · intro hm
    refine ⟨by rw [h.caps]; exact anf_ren hw hm.anf, fun f' hf' => ?_, by rw [grsN_ren h]; exact hm.size⟩
    obtain ⟨f, hf, hr⟩ := h.fs.fwd hf'
    rw [h.caps]
    exact (gr_ren hw hr (hl f hf) (hat f hf)).2 (hm.gr f hf)
end Go.Proofs.YtenlcdokaadobaaGreatDoor
namespace Go.Proofs.YtenlcdokaadobaaGreatDoor
open Go Go.Fw
set_option linter.unusedVariables false
def hiV (vs : List (Int × Vl)) : List (Int × Vl) := vs.map fun e => (hi e.1, e.2)
theorem hi_beq (a b : Int) : (hi a == hi b) = (a == b) := by
  rw [Bool.eq_iff_iff, beq_iff_eq, beq_iff_eq]
  exact ⟨hi_inj, fun h => by rw [h]⟩
theorem find_hi (k : Int) : ∀ (vs : List (Int × Vl)), (hiV vs).find? (fun e => e.1 == hi k) = (vs.find? (fun e => e.1 == k)).map fun e => (hi e.1, e.2)
  | [] => rfl
  | e :: vs => by
    show List.find? _ ((hi e.1, e.2) :: hiV vs) = _
    rw [List.find?_cons, List.find?_cons]
    dsimp only
    rw [hi_beq]
    cases e.1 == k with
    | true => rfl
    | false => exact find_hi k vs
theorem pget_hi (vs : List (Int × Vl)) (k : Int) : pget (hiV vs) (hi k) = pget vs k := by
  unfold pget
  rw [find_hi, Option.map_map]
  rfl
theorem pset_hi (vs : List (Int × Vl)) (k : Int) (v : Vl) : pset (hiV vs) (hi k) v = hiV (pset vs k v) := by
  unfold pset
  rw [find_hi, Option.isSome_map]
  split
  · unfold hiV
    rw [List.map_map, List.map_map]
    apply List.map_congr_left
    intro e _
    show (if hi e.1 == hi k then (hi k, v) else (hi e.1, e.2)) = _
    rw [hi_beq]
    show _ = (hi (if e.1 == k then (k, v) else e).1, (if e.1 == k then (k, v) else e).2)
    split <;> rfl
  · unfold hiV
    rw [List.map_append]
    rfl
def hiF (f : Fm) : Fm := { f with vs := hiV f.vs }
def hiM (m : Mc) : Mc := ⟨m.wd, m.sk.map hiF, hiF m.fm⟩
def hiSr : Sr → Sr
  | .go m => .go (hiM m)
  | .stop k s wd => .stop k s wd
def AtL (g : Grs) (a : Atm) : Prop := a.k = 1 → a.n ≤ 1048576
theorem get_ren {g g' : Grs} (hw : SameW g g') {f : Fm} {a : Atm} (h : AtL g a) : getF g' (hiF f) (hiA a) = getF g f a := by
  by_cases hc : a.k = 1 ∧ 1 < a.n
  · rw [hiA_t hc]
    have hl := h hc.1
    have e : i64w (a.n + 262144) = hi a.n := by
      unfold i64w
      rw [IntKind.wrap_i64]
      unfold hi
      rw [if_neg (by omega)]
      omega
    rw [get_1 (g := g') (fm := hiF f) (a := ⟨a.k, i64w (a.n + 262144)⟩) hc.1, get_1 hc.1]
    show pget (hiV f.vs) (i64w (a.n + 262144)) = _
    rw [e, pget_hi]
  · rw [hiA_f hc]
    by_cases h1 : a.k = 1
    · rw [get_1 h1, get_1 h1]
      have hn : ¬ 1 < a.n := fun h => hc ⟨h1, h⟩
      have e : a.n = hi a.n := by unfold hi; rw [if_pos (by omega)]
      show pget (hiV f.vs) a.n = _
      conv => lhs; rw [e]
      exact pget_hi _ _
    by_cases h3 : a.k = 3
    · rw [get_3 h3, get_3 h3, hw.ss]
    · rw [get_2 h1 h3, get_2 h1 h3]
theorem all_ren {g g' : Grs} (hw : SameW g g') {f : Fm} {l : List Atm} (h : ∀ a ∈ l, AtL g a) : allF g' (hiF f) (l.map hiA) = allF g f l := by
  unfold allF
  rw [List.map_map]
  apply List.map_congr_left
  intro a ha
  exact get_ren hw (h a ha)
theorem setsF_hi : ∀ (m : List (Int × Vl)) (ps : List Int) (vs : List Vl), setsF (hiV m) (ps.map hi) vs = hiV (setsF m ps vs)
  | m, [], vs => by rw [List.map_nil]; unfold setsF; rfl
  | m, p :: ps, [] => by rw [List.map_cons]; unfold setsF; rfl
  | m, p :: ps, v :: vs => by
    rw [List.map_cons, setsF, setsF, pset_hi]
    exact setsF_hi _ ps vs
theorem Al.getD {α β : Type} {R : α → β → Prop} {l : List α} {m : List β} (h : Al R l m) (a : α) (b : β) (hd : R a b) (i : Nat) : R (l.getD i a) (m.getD i b) := by
  rw [List.getD_eq_getElem?_getD, List.getD_eq_getElem?_getD]
  cases h1 : l[i]? with
  | none =>
    have : m[i]? = none := by rw [List.getElem?_eq_none_iff] at h1 ⊢; rw [h.len]; exact h1
    rw [this]; exact hd
  | some x =>
    obtain ⟨y, h2, h3⟩ := h.get h1
    rw [h2]; exact h3
theorem ren_blc0 : RenBl blc0 blc0 := ⟨rfl, trivial, rfl, rfl, rfl, trivial⟩
theorem ren_gr0 : RenGr gr0 gr0 := ⟨rfl, trivial⟩
theorem ren_ins0 : RenIn ins0 ins0 := ⟨rfl, rfl, rfl, rfl, rfl⟩
theorem ren_edg0 : RenEd edg0 edg0 := ⟨rfl, rfl⟩
theorem blk_r {g g' : Grs} (h : RenGs g g') (f : Int) (b : Nat) : RenBl (blkOf g f b) (blkOf g' f b) := (h.fs.getD gr0 gr0 ren_gr0 f.toNat).bs.getD blc0 blc0 ren_blc0 b
theorem cur_r {g g' : Grs} (h : RenGs g g') (f : Fm) : RenBl (curB g f) (curB g' (hiF f)) := blk_r h f.c.1 f.b
theorem ins_r {g g' : Grs} (h : RenGs g g') (f : Fm) : RenIn (insAt g f) (insAt g' (hiF f)) := (cur_r h f).is.getD ins0 ins0 ren_ins0 f.i
theorem enter_hi (f x : Vl) (wd : Wd) (sk : List Fm) : enterF f x wd (sk.map hiF) = hiSr (enterF f x wd sk) := by
  unfold enterF
  cases asFn f <;> rfl
theorem call_hi (f x : Vl) (h : Option Clo) (wd : Wd) (sk : List Fm) (fm : Fm) : callF f x h wd (sk.map hiF) (hiF fm) = hiSr (callF f x h wd sk fm) := by
  unfold callF
  cases asFn f <;> rfl
theorem raiseL_hi (n : Int) (wd : Wd) : ∀ (sk : List Fm), raiseL n wd (sk.map hiF) = (raiseL n wd sk).map fun p => (p.1.map hiF, p.2)
  | [] => rfl
  | f :: r => by
    rw [List.map_cons, raiseL, raiseL]
    show (match f.h with | some c => _ | none => _) = _
    cases f.h with
    | some c => rfl
    | none => exact raiseL_hi n wd r
theorem raise_hi {g g' : Grs} (hw : SameW g g') (n : Int) (wd : Wd) (sk : List Fm) : raiseF g' n wd (sk.map hiF) = hiSr (raiseF g n wd sk) := by
  unfold raiseF
  rw [hw.xs, raiseL_hi]
  split
  · rfl
  · cases raiseL n wd sk <;> rfl
theorem text_hi {g g' : Grs} (hw : SameW g g') (kd : Int) (x : Vl) : textF g' kd x = textF g kd x := by
  cases x <;> try rfl
  show textN g' kd _ = textN g kd _
  unfold textN
  rw [hw.xs]
theorem back_hi {g g' : Grs} (h : RenGs g g') (kd : Int) (x : Vl) (wd : Wd) (sk : List Fm) : backF g' kd x wd (sk.map hiF) = hiSr (backF g kd x wd sk) := by
  cases sk with
  | nil =>
    show backF g' kd x wd [] = _
    unfold backF
    rw [text_hi h.same]
    cases textF g kd x <;> rfl
  | cons f r =>
    show Sr.go ⟨wd, r.map hiF, { hiF f with vs := pset (hiV f.vs) (insAt g' (hiF f)).x x, i := f.i + 1 }⟩ = _
    rw [(ins_r h f).x, pset_hi]
    rfl
theorem follow_hi {g g' : Grs} (h : RenGs g g') (f : Fm) {e e' : Edg} (he : RenEd e e') (ha : ∀ a ∈ e.a.l, AtL g a) : followF g' (hiF f) e' = hiF (followF g f e) := by
  unfold followF
  have h1 : (blkOf g' (hiF f).c.1 e'.b.toNat).ps.l = (blkOf g f.c.1 e.b.toNat).ps.l.map hi := by rw [he.b]; exact (blk_r h f.c.1 e.b.toNat).ps
  rw [h1, he.a, all_ren h.same ha, he.b]
  show _ = ({ f with vs := hiV _, b := _, i := _ } : Fm)
  rw [← setsF_hi]
  rfl
theorem plain_ren {r r' : Stp} (h : SameS r r') (l cs : List Vl) (wd : Wd) : plainF r' l cs wd = plainF r l cs wd := by
  unfold plainF
  rw [h.k, h.n, h.ns]
theorem insF_hi {g g' : Grs} (h : RenGs g g') (f : Fm) {i i' : Ins} (hi0 : RenIn i i') (ha : ∀ a ∈ i.r.a.l, AtL g a) (wd : Wd) (sk : List Fm) : insF g' (hiF f) i' wd (sk.map hiF) = hiSr (insF g f i wd sk) := by
  have hal := all_ren h.same (f := f) ha
  rw [← hi0.r.a] at hal
  have hk := hi0.r.k
  by_cases h3 : i.r.k = 3
  · rw [in_3 h3, in_3 (hk.trans h3), hal]; exact call_hi ..
  by_cases h14 : i.r.k = 14
  · rw [in_14 h14, in_14 (hk.trans h14), hal, hi0.r.n]
    cases asFn (nth0 (allF g f i.r.a.l) 0) with
    | none => rfl
    | some c =>
      dsimp only
      split
      · exact call_hi ..
      · rfl
  by_cases h13 : i.r.k = 13
  · rw [in_13 h13, in_13 (hk.trans h13), hal]
    cases asFn (nth0 (allF g f i.r.a.l) 1) with
    | none => rfl
    | some c => exact call_hi ..
  rw [in_p ⟨h3, h14, h13⟩, in_p ⟨by rw [hk]; exact h3, by rw [hk]; exact h14, by rw [hk]; exact h13⟩, hal, plain_ren hi0.r.same]
  show (match plainF i.r (allF g f i.r.a.l) f.c.2 wd with | .exn s => raiseF g' (idxF g'.xs.l s) wd (sk.map hiF) | .val v wd' => if isNil v then stuckF wd' else .go ⟨wd', sk.map hiF, { hiF f with vs := pset (hiV f.vs) i'.x v, i := f.i + 1 }⟩) = _
  cases plainF i.r (allF g f i.r.a.l) f.c.2 wd with
  | exn s =>
    show raiseF g' (idxF g'.xs.l s) wd (sk.map hiF) = hiSr (raiseF g (idxF g.xs.l s) wd sk)
    rw [h.same.xs]
    exact raise_hi h.same ..
  | val v wd' =>
    show (if isNil v then stuckF wd' else _) = hiSr (if isNil v then stuckF wd' else _)
    split
    · rfl
    · rw [hi0.x, pset_hi]; rfl
theorem lastF_hi {g g' : Grs} (h : RenGs g g') (kd : Int) (f : Fm) {e e' : En} (he : RenEn e e') (ha : ∀ a ∈ e.a.l, AtL g a) (ht : ∀ t ∈ e.to.l, ∀ a ∈ t.a.l, AtL g a) (wd : Wd) (sk : List Fm) : lastF g' kd (hiF f) e' wd (sk.map hiF) = hiSr (lastF g kd f e wd sk) := by
  have hk := he.k
  have hga : ∀ i, getF g' (hiF f) (e'.a.l.getD i atm0) = getF g f (e.a.l.getD i atm0) := fun i => by
    rw [he.a, List.getD_eq_getElem?_getD, List.getD_eq_getElem?_getD, List.getElem?_map]
    cases h1 : e.a.l[i]? with
    | none => exact get_ren h.same (a := atm0) (fun h => by cases h)
    | some a => exact get_ren h.same (ha a (List.mem_of_getElem? h1))
  have hgt : ∀ i, followF g' (hiF f) (e'.to.l.getD i edg0) = hiF (followF g f (e.to.l.getD i edg0)) := fun i => by
    refine follow_hi h f (he.to.getD edg0 edg0 ren_edg0 i) ?_
    rcases getD_or e.to.l i edg0 with h1 | h1
    · exact ht _ h1
    · rw [h1]; exact fun a ha => absurd ha (List.not_mem_nil)
  by_cases h1 : e.k = 1
  · rw [la_1 h1, la_1 (hk.trans h1), hga]; exact back_hi h ..
  by_cases h2 : e.k = 2
  · rw [la_2 h2, la_2 (hk.trans h2), hga, hga]; exact enter_hi ..
  by_cases h4 : e.k = 4
  · rw [la_4 h4, la_4 (hk.trans h4), hgt]; rfl
  rw [la_x ⟨h1, h2, h4⟩, la_x ⟨by rw [hk]; exact h1, by rw [hk]; exact h2, by rw [hk]; exact h4⟩, hga]
  cases asNum (getF g f (e.a.l.getD 0 atm0)) with
  | none => rfl
  | some n =>
    dsimp only
    rw [hk, he.ns, hgt, hgt]
    by_cases h3 : e.k = 3
    · rw [if_pos h3, if_pos h3]; exact raise_hi h.same ..
    rw [if_neg h3, if_neg h3]
    by_cases h5 : e.k = 5
    · rw [if_pos h5, if_pos h5]; rfl
    · rw [if_neg h5, if_neg h5]; rfl
theorem atL_of {g : Grs} {S : Int → Prop} {a : Atm} (h : atS g S a) : AtL g a := fun hk => by
  rcases h with ⟨_, _, h, _⟩ | ⟨h, _⟩ | ⟨h, _⟩ <;> omega
structure BlAt (g : Grs) (b : Blc) : Prop where
  is : ∀ i ∈ b.is.l, ∀ a ∈ i.r.a.l, AtL g a
  e : ∀ a ∈ b.e.a.l, AtL g a
  to : ∀ t ∈ b.e.to.l, ∀ a ∈ t.a.l, AtL g a
theorem may_bl {g : Grs} (hM : MayP g) (f : Int) (b : Nat) : BlAt g (blkOf g f b) := by
  unfold blkOf
  rcases getD_or g.fs.l f.toNat gr0 with h1 | h1
  · rcases getD_or (g.fs.l.getD f.toNat gr0).bs.l b blc0 with h2 | h2
    · obtain ⟨n, hn⟩ := List.mem_iff_getElem?.1 h2
      have hb := ((hM.gr _ h1).blk n _ hn).2
      refine ⟨fun i hi a ha => ?_, fun a ha => atL_of (hb.ends a ha), fun t ht a ha => atL_of ((hb.edges t ht).2.2.2 a ha)⟩
      obtain ⟨k, hk⟩ := List.mem_iff_getElem?.1 hi
      exact atL_of ((hb.ins k i hk).2 a ha)
    · rw [h2]
      exact ⟨fun i hi => absurd hi List.not_mem_nil, fun i hi => absurd hi List.not_mem_nil, fun i hi => absurd hi List.not_mem_nil⟩
  · rw [h1]
    rw [show gr0.bs.l.getD b blc0 = blc0 from rfl]
    exact ⟨fun i hi => absurd hi List.not_mem_nil, fun i hi => absurd hi List.not_mem_nil, fun i hi => absurd hi List.not_mem_nil⟩
theorem step_hi {g g' : Grs} (h : RenGs g g') (hM : MayP g) (kd : Int) (m : Mc) : stepF g' kd (hiM m) = hiSr (stepF g kd m) := by
  have hcu : BlAt g (curB g m.fm) := may_bl hM _ _
  have hcr := cur_r h m.fm
  have hlen : (curB g' (hiF m.fm)).is.l.length = (curB g m.fm).is.l.length := hcr.is.len
  by_cases hlt : m.fm.i < (curB g m.fm).is.l.length
  · have hx : insAt g m.fm ∈ (curB g m.fm).is.l := getD_mem hlt
    have h2 : stepF g' kd (hiM m) = insF g' (hiF m.fm) (insAt g' (hiF m.fm)) m.wd (m.sk.map hiF) := by
      unfold stepF
      rw [if_pos (show (hiM m).fm.i < (curB g' (hiM m).fm).is.l.length from by show m.fm.i < (curB g' (hiF m.fm)).is.l.length; rw [hlen]; exact hlt)]; rfl
    have h3 : stepF g kd m = insF g m.fm (insAt g m.fm) m.wd m.sk := by unfold stepF; rw [if_pos hlt]
    rw [h2, h3]
    exact insF_hi h _ (ins_r h m.fm) (fun a ha => hcu.is _ hx a ha) _ _
  · have h2 : stepF g' kd (hiM m) = lastF g' kd (hiF m.fm) (curB g' (hiF m.fm)).e m.wd (m.sk.map hiF) := by
      unfold stepF
      rw [if_neg (show ¬ (hiM m).fm.i < (curB g' (hiM m).fm).is.l.length from by show ¬ m.fm.i < (curB g' (hiF m.fm)).is.l.length; rw [hlen]; exact hlt)]; rfl
    have h3 : stepF g kd m = lastF g kd m.fm (curB g m.fm).e m.wd m.sk := by unfold stepF; rw [if_neg hlt]
    rw [h2, h3]
    exact lastF_hi h kd _ hcr.e hcu.e hcu.to _ _
theorem run_hi {g g' : Grs} (h : RenGs g g') (hM : MayP g) (kd : Int) : ∀ (n : Nat) (m : Mc), runF g' kd n (hiM m) = runF g kd n m
  | 0, m => rfl
  | n + 1, m => by
    show (match stepF g' kd (hiM m) with | .go m' => _ | .stop k s wd => _) = (match stepF g kd m with | .go m' => _ | .stop k s wd => _)
    rw [step_hi h hM]
    cases stepF g kd m with
    | go m' => exact run_hi h hM kd n m'
    | stop k s wd => rfl
theorem runP_ren {g g' : Grs} (h : RenGs g g') (hl : LowG g) (ha : ∀ f ∈ g.fs.l, ∀ b ∈ f.bs.l, AtB b) (kd : Int) (s : ByteArray) (n : Int) : runP g' kd s n = runP g kd s n := by
  have hm := may_ren h hl ha
  by_cases hM : MayP g
  · rw [runP_t hM, runP_t (hm.2 hM)]
    rw [show firstM s = hiM (firstM s) from rfl, run_hi h hM, show hiM (firstM s) = firstM s from rfl]
  · rw [runP_f hM, runP_f (fun h => hM (hm.1 h))]
end Go.Proofs.YtenlcdokaadobaaGreatDoor
