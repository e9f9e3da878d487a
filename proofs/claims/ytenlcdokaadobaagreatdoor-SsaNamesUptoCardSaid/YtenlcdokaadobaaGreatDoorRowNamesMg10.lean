/-
  SsaNames: the graphs under other names. Conditions: none.
  The frame of a law's proof, where what is handed in is not great and tables are laid ('..UptoCardSaid'). Conditions: none.
  What the laid table gives: strconv.FormatInt. Conditions: none.
-/
import Derived.Test.YtenlcdokaadobaaGreatDoorRowNamesMg9
import Derived.Test.YtenlcdokaadobaaGreatDoorRowNamesMg1
import Derived.LaidLaws
import Derived.LaidMore
import Derived.Stop.Joined
import Derived.LaidHandle
import Derived.Test.YtenlcdokaadobaaGreatDoorRowNamesMg6
import Derived.Test.YtenlcdokaadobaaGreatDoorRows
import Derived.Lib.LaidTab
namespace Go.Proofs.YtenlcdokaadobaaGreatDoor
open Go Go.Fw
set_option linter.unusedVariables false
set_option maxRecDepth 10000 attribute [local irreducible] Code.wp wpList Calls Ex Op1 sat bat blk cb own Go.Fw.mp Go.Fw.mpO Go.Fw.mpI Go.Fw.mpE Go.Fw.itr HS Rd Ret wkD Hp Cl Cls Exit.then Exit.inBlock Exit.noGoto bodyPost Go.Fw.flat wk2 Go.Fw.all Go.Fw.owns wpOp
theorem al_mem {α β : Type} {R : α → β → Prop} : ∀ {l : List α} {m : List β}, Al R l m → ∀ b ∈ m, ∃ a ∈ l, R a b
  | [], [], _, b, hb => absurd hb List.not_mem_nil
  | x :: l, y :: m, h, b, hb => by
    rcases List.mem_cons.1 hb with rfl | hb
    · exact ⟨x, List.mem_cons_self, h.1⟩
    · obtain ⟨a, ha, hr⟩ := al_mem h.2 b hb
      exact ⟨a, List.mem_cons_of_mem _ ha, hr⟩
  | [], _ :: _, h, _, _ => h.elim
  | _ :: _, [], h, _, _ => h.elim
theorem ex_eqlBs {P : Program} {N : Nat} {l : List (Nat × Value)} {C : World → Prop} {d : Option Tmp} {T : TypeId} {pos : String} {af : Array Edge} {gd : Option (Nat × Bool)} {t ty : TypeId} {x y : Operand} {m : Bool} [h : TBo P t] (hx : ev l x = some (.bool m)) (hy : ev l y = some (.bool m)) : Ex P N l C ⟨d, .binOp .eql t x y ty, T, pos, af, gd⟩ (.bool true) := by
  have h := ex_eqlB (P := P) (N := N) (C := C) (d := d) (T := T) (pos := pos) (af := af) (g := gd) (t := t) (ty := ty) hx hy
  rwa [show (m == m) = true by cases m <;> rfl] at h
attribute [local irreducible] sk mpK sko mvO entK opM Go.Fw.mset Go.Fw.mv opK frz Al

set_option maxHeartbeats 32000000 in
theorem names_law (W : World) (g : Grs) (kd fuel : Int) (s : ByteArray) (hR : RdGs W g) (hb : BigG g) (hFI : FI W) : Ret Tryz.prog 8 #[.agg (encGs g).toArray, .int .i64 kd, .string s, .int .i64 fuel] W (LawR W) := by
  have hH : HS W noM [] W := HS.init W noM
  have hfm := hb.sz.fs
  have hspF : Sp g.fs.o g.fs.l.length := hR.1.1.sp (sz := 2) (flat_length encG_len _) (by omega)
  (refine enter (N := 188) Tryz.func8 rfl Tryz.ntmps8 rfl ?_; intro a hA; dsimp only [sl0, Nat.reduceAdd] at hA)
  repeat' (first | (refine QT ?_; clear hA a; intro a hA) | (refine BT ?_; clear hA hH; rintro _ w ⟨bN, rfl, hH⟩ a hA) | (refine CT ?_ <;> repeat' refine CT ?_) | fail)
  obtain ⟨b4, hb3⟩ : ∃ x, x = bN := ⟨_, rfl⟩; rw [← hb3] at hA hH; clear hb3 bN
  (refine st_op hA rfl rfl (by decide) (op_call rfl rfl rfl (awake_spec _ (hFI.keep hH.kp))) ?_; clear hA; rintro _ w ⟨rfl, hk⟩ a hA; replace hH := hH.keep hk; clear hk)
  repeat' (first | (refine XT ?_; apply XE; (first | (apply ex_load_st (vs := encGs g); rfl; rfl; exact cls_cb_all MEMT)); clear hA a; intro a hA) | (refine QT ?_; clear hA a; intro a hA) | (refine CT ?_ <;> repeat' refine CT ?_) | fail)
  (refine st_op hA rfl rfl (by decide) (op_call rfl rfl rfl (large_spec _ g (hR.keep hH.kp) hb.sz)) ?_; clear hA; rintro _ w ⟨b, rfl, hlg, hk⟩ a hA; replace hH := hH.keep hk; clear hk)
  cases b with
  | true =>
    repeat' (first | (refine QT ?_; clear hA a; intro a hA) | (refine CT ?_ <;> repeat' refine CT ?_) | fail)
    exact rt1 (.inl rfl) rfl hA rfl ⟨rfl, hH.kp⟩
  | false =>
  have hfl : g.fs.l.length ≤ 100000 := by
    have h2 : ¬ (50 < g.fs.l.length ∨ 1000 < grsN g) := fun h => by cases hlg.2 h
    omega
  repeat' (first | (refine XT ?_; apply XE; (first | (apply ex_load_st (vs := encGs g); rfl; rfl; exact cls_cb_all MEMT)); clear hA a; intro a hA) | (refine QT ?_; clear hA a; intro a hA) | (refine BT ?_; clear hA hH; rintro _ w ⟨bN, rfl, hH⟩ a hA) | (apply st_op0 hA rfl rfl; apply op_store_agg (vs := encGs g); rfl; rfl; exact hH; (repeat constructor); (repeat rfl); clear hH; rintro _ w hH) | (apply st_op0 hA rfl rfl; apply op_store_fld (cs' := encO9 g none 0 0); rfl; rfl; rfl; exact hH; (repeat constructor); clear hH; rintro _ w hH) | (refine CT ?_ <;> repeat' refine CT ?_) | fail)
  obtain ⟨b9, hb3⟩ : ∃ x, x = bN := ⟨_, rfl⟩; rw [← hb3] at hA hH; clear hb3 bN
  replace hH := ((hH.nil_own 44 2).frz_nil (K := fun w => Kp W noM w) (fun w h => h)).perm (H' := frz W (fun w => Kp W noM w) :: cb b9 25 (encO9 g none 0 0) :: own 44 2 none 0 0 [] :: cb b4 25 (encGs g) :: []) PMT
  refine wp_lpk (S := Nat) (fun i a w => ∃ oF cF nfs, ∃ K : World → Prop, (i ≤ g.fs.l.length ∧ Al RenGr (g.fs.l.take i) nfs ∧ (∀ f ∈ g.fs.l.take i, ∀ b ∈ f.bs.l, LowB b) ∧ (∀ w, K w → Kp W noM w) ∧ ∀ w, K w → ∀ f ∈ nfs, RdG w f) ∧ HS W noM (frz W K :: cb b9 25 (encO9 g oF i cF) :: own 44 2 oF i cF (flat encG nfs) :: cb b4 25 (encGs g) :: []) w ∧ Sl 188 [(29, .int .i64 i), (28, .int .i64 g.fs.l.length), (9, .pointer (some (bat b9 0))), (4, .pointer (some (bat b4 0))), (1, .int .i64 kd), (2, .string s), (3, .int .i64 fuel)] a) (fun i => g.fs.l.length - i)
    (fun a w => ∃ oF cF nfs, ∃ K : World → Prop, (Al RenGr g.fs.l nfs ∧ LowG g ∧ (∀ w, K w → Kp W noM w) ∧ ∀ w, K w → ∀ f ∈ nfs, RdG w f) ∧ HS W noM (frz W K :: cb b9 25 (encO9 g oF g.fs.l.length cF) :: own 44 2 oF g.fs.l.length cF (flat encG nfs) :: cb b4 25 (encGs g) :: []) w ∧ Sl 188 [(9, .pointer (some (bat b9 0))), (4, .pointer (some (bat b4 0))), (1, .int .i64 kd), (2, .string s), (3, .int .i64 fuel)] a) 0
    ⟨none, 0, [], fun w => Kp W noM w, ⟨Nat.zero_le _, al_nil _, fun f hf => absurd hf (by rw [List.take_zero]; exact List.not_mem_nil), fun w h => h, fun w _ f hf => absurd hf (List.not_mem_nil)⟩, (by rw [flatG_nil]; exact hH), (hA.sub SBT)⟩ ?_ ?_
  --((((
  · clear hA hH
    rintro i a w ⟨oF, cF, nfs, K0, ⟨hi0, hal, hlow, hK, hrd⟩, hH, hA⟩
    have hnl := al_cnt hal hi0
    by_cases hlt : i < g.fs.l.length
    rotate_left
    · obtain rfl : i = g.fs.l.length := by omega
      repeat' (first | (refine QT ?_; clear hA a; intro a hA) | ((first | refine CT ?_ | (refine DT ?_ ?_ <;> intro hc <;> try (exfalso; omega))) <;> repeat' refine CT ?_) | fail)
      rw [List.take_length] at hal hlow
      exact ⟨oF, cF, nfs, K0, ⟨hal, hlow, hK, hrd⟩, hH, (hA.sub SBT)⟩
    obtain ⟨f, hf⟩ : ∃ x, g.fs.l[i]? = some x := ⟨_, List.getElem?_eq_getElem hlt⟩
    have hfmem := List.mem_of_getElem? hf
    have hRf := hR.2.1 f hfmem
    have hbm := hb.sz.bs f hfmem
    have hspB : Sp f.bs.o f.bs.l.length := hRf.1.1.sp (sz := 6) (flat_length encBl_len _) (by omega)
    repeat' (first | (refine XT ?_; apply XE; (first | (apply ex_indexAddr_nat; rfl; rfl; omega; exact hspF) | (apply ex_load_st (vs := encG f); rfl; rfl; exact cls_rd hR.1.1 id (flat_all encG_len hf))); clear hA a; intro a hA) | (refine QT ?_; clear hA a; intro a hA) | (refine BT ?_; clear hA hH; rintro _ w ⟨bN, rfl, hH⟩ a hA) | (refine LT ?_; clear hA hH; rintro _ w ⟨oN, rfl, hH⟩ a hA) | (apply st_op0 hA rfl rfl; apply op_store_agg (vs := encG f); rfl; rfl; exact hH; (repeat constructor); (repeat rfl); clear hH; rintro _ w hH) | ((first | refine CT ?_ | (refine DT ?_ ?_ <;> intro hc <;> try (exfalso; omega))) <;> repeat' refine CT ?_) | fail)
    obtain ⟨b11, hb3⟩ : ∃ x, x = bN := ⟨_, rfl⟩; rw [← hb3] at hA hH; clear hb3 bN
    refine wp_lpk (S := Nat) (fun k a w => ∃ oB cB nbs, ∃ K : World → Prop, (k ≤ f.bs.l.length ∧ Al RenBl (f.bs.l.take k) nbs ∧ (∀ b ∈ f.bs.l.take k, LowB b) ∧ (∀ w, K w → K0 w) ∧ ∀ w, K w → ∀ b ∈ nbs, RdBl w b) ∧ HS W noM (frz W K :: own 53 6 oB k cB (flat encBl nbs) :: cb b11 44 (encG f) :: cb b9 25 (encO9 g oF i cF) :: own 44 2 oF i cF (flat encG nfs) :: cb b4 25 (encGs g) :: []) w ∧ Sl 188 [(41, .int .i64 k), (40, .int .i64 f.bs.l.length), (12, .slice oB k cB), (11, .pointer (some (bat b11 0))), (10, .int .i64 i), (29, .int .i64 i), (28, .int .i64 g.fs.l.length), (9, .pointer (some (bat b9 0))), (4, .pointer (some (bat b4 0))), (1, .int .i64 kd), (2, .string s), (3, .int .i64 fuel)] a) (fun k => f.bs.l.length - k)
      (fun a w => ∃ oB cB nbs, ∃ K : World → Prop, (Al RenBl f.bs.l nbs ∧ (∀ b ∈ f.bs.l, LowB b) ∧ (∀ w, K w → K0 w) ∧ ∀ w, K w → ∀ b ∈ nbs, RdBl w b) ∧ HS W noM (frz W K :: own 53 6 oB f.bs.l.length cB (flat encBl nbs) :: cb b11 44 (encG f) :: cb b9 25 (encO9 g oF i cF) :: own 44 2 oF i cF (flat encG nfs) :: cb b4 25 (encGs g) :: []) w ∧ Sl 188 [(12, .slice oB f.bs.l.length cB), (11, .pointer (some (bat b11 0))), (10, .int .i64 i), (29, .int .i64 i), (28, .int .i64 g.fs.l.length), (9, .pointer (some (bat b9 0))), (4, .pointer (some (bat b4 0))), (1, .int .i64 kd), (2, .string s), (3, .int .i64 fuel)] a) 0
      ⟨_, _, [], K0, ⟨Nat.zero_le _, al_nil _, fun b hb => absurd hb (by rw [List.take_zero]; exact List.not_mem_nil), fun w h => h, fun w _ b hb => absurd hb (List.not_mem_nil)⟩, (by rw [flatBl_nil]; exact hH.perm PMT), (hA.sub SBT)⟩ ?_ ?_
    · clear hA hH
      rintro k a w ⟨oB, cB, nbs, K1, ⟨hk0, hal1, hlow1, hK1, hrd1⟩, hH, hA⟩
      have hnl1 := al_cnt hal1 hk0
      by_cases hlk : k < f.bs.l.length
      rotate_left
      · obtain rfl : k = f.bs.l.length := by omega
        repeat' (first | (refine QT ?_; clear hA a; intro a hA) | ((first | refine CT ?_ | (refine DT ?_ ?_ <;> intro hc <;> try (exfalso; omega))) <;> repeat' refine CT ?_) | fail)
        rw [List.take_length] at hal1 hlow1
        exact ⟨oB, cB, nbs, K1, ⟨hal1, hlow1, hK1, hrd1⟩, hH, (hA.sub SBT)⟩
      obtain ⟨bl, hbl⟩ : ∃ x, f.bs.l[k]? = some x := ⟨_, List.getElem?_eq_getElem hlk⟩
      have hblm := List.mem_of_getElem? hbl
      have hRb := hRf.2 bl hblm
      have hsb := hb.sz.bl f hfmem bl hblm
      have hs1 := hsb.ps
      have hs2 := hsb.is
      have hs3 := hsb.ea
      have hs4 := hsb.et
      have hspP : Sp bl.ps.o bl.ps.l.length := hRb.1.1.sp (sz := 1) (flat_length Fw.encI_len _) (by omega)
      have hspI : Sp bl.is.o bl.is.l.length := hRb.2.1.1.sp (sz := 5) (flat_length encIn_len _) (by omega)
      have hspT : Sp bl.e.to.o bl.e.to.l.length := hRb.2.2.2.2.2.1.1.sp (sz := 2) (flat_length encEd_len _) (by omega)
      repeat' (first | (refine XT ?_; apply XE; (first | (apply ex_indexAddr_nat; rfl; rfl; omega; exact hspB) | (apply ex_load_st (vs := encBl bl); rfl; rfl; exact cls_rd hRf.1.1 id (flat_all encBl_len hbl))); clear hA a; intro a hA) | (refine QT ?_; clear hA a; intro a hA) | (refine BT ?_; clear hA hH; rintro _ w ⟨bN, rfl, hH⟩ a hA) | (apply st_op0 hA rfl rfl; apply op_store_agg (vs := encBl bl); rfl; rfl; exact hH; (repeat constructor); (repeat rfl); clear hH; rintro _ w hH) | ((first | refine CT ?_ | (refine DT ?_ ?_ <;> intro hc <;> try (exfalso; omega))) <;> repeat' refine CT ?_) | fail)
      obtain ⟨b14, hb3⟩ : ∃ x, x = bN := ⟨_, rfl⟩; rw [← hb3] at hA hH; clear hb3 bN
      have hST : HS W noM [cb b14 53 (encBl bl)] w := HS.left (H1 := [_]) hH
      refine wp_drawT (qs [0, 1, 2, 3, 4, 5, 7, 8, 9] (.two 6 12 (qs [10, 11] (.one 12 (.one 13 .nil))) (.one 6 (qs [10, 11] (.one 13 .nil))))) (fun a w => ∃ b15 oA cA, HS W noM (cb b15 53 (encXb none 0 0 none 0 0 bl.e.k oA bl.e.a.l.length cA bl.e.ns none 0 0) :: own 65 2 oA bl.e.a.l.length cA (flat encAt (bl.e.a.l.map hiA)) :: frz W K1 :: cb b14 53 (encBl bl) :: own 53 6 oB k cB (flat encBl nbs) :: cb b11 44 (encG f) :: cb b9 25 (encO9 g oF i cF) :: own 44 2 oF i cF (flat encG nfs) :: cb b4 25 (encGs g) :: []) w ∧ Sl 188 [(15, .pointer (some (bat b15 0))), (14, .pointer (some (bat b14 0))), (13, .int .i64 k), (41, .int .i64 k), (40, .int .i64 f.bs.l.length), (12, .slice oB k cB), (11, .pointer (some (bat b11 0))), (10, .int .i64 i), (29, .int .i64 i), (28, .int .i64 g.fs.l.length), (9, .pointer (some (bat b9 0))), (4, .pointer (some (bat b4 0))), (1, .int .i64 kd), (2, .string s), (3, .int .i64 fuel)] a) mixed (by decide +kernel) hST ?_ ?_
      · clear hST
        replace hH := hH.drew
        (repeat (apply dt_ex hA rfl rfl rfl (by decide); (first | exact EXT | exact EXT2 ); clear hA a; intro a hA))
        apply dt_two
        rotate_left
        · (apply dt_op hA rfl rfl rfl (by decide); apply op_alloc; exact hH; clear hA hH; rintro _ w ⟨bN, rfl, hH⟩; refine ⟨hH.pick (by exact MEMT), ?_⟩; intro a hA)
          (refine dt_op hA rfl rfl rfl (by decide) (op_call rfl rfl rfl (other_spec _ bl.e.a (hRb.2.2.2.1.keep hH.kp) hs3)) ?_; clear hA; rintro _ w ⟨oA, cA, rfl, hj⟩; replace hH := hH.join hj; clear hj; refine ⟨hH.pick (by exact MEMT), ?_⟩; intro a hA)
          (repeat (apply dt_ex hA rfl rfl rfl (by decide); (first | exact EXT | exact EXT2 | (apply ex_build_p (cs := #[.int .i64 bl.e.k, .slice oA bl.e.a.l.length cA, .slice bl.e.ns.o bl.e.ns.l.length bl.e.ns.c, .slice none 0 0]); rfl; exact FLT; rfl) | (apply ex_build (szs := [(0, 1), (1, 1), (2, 4)]) (cs := (encXb none 0 0 none 0 0 bl.e.k oA bl.e.a.l.length cA bl.e.ns none 0 0).toArray); exact run_szl (by (repeat (first | exact SzL.nil | refine SzL.cons ⟨_, rfl, by decide⟩ ?_))); rfl; rfl)); clear hA a; intro a hA))
          (apply dt_op0 hA rfl rfl rfl; apply op_store_agg (vs := (encXb none 0 0 none 0 0 bl.e.k oA bl.e.a.l.length cA bl.e.ns none 0 0)); rfl; rfl; exact hH; (repeat constructor); (repeat rfl); clear hH; rintro _ w hH; refine ⟨hH.pick (by exact MEMT), ?_⟩; apply dt_nil)
          exact ⟨_, oA, cA, hH.perm PMT, (hA.sub SBT)⟩
        (refine dt_op hA rfl rfl rfl (by decide) (op_call rfl rfl rfl (other_spec _ bl.e.a (hRb.2.2.2.1.keep hH.kp) hs3)) ?_; clear hA; rintro _ w ⟨oA, cA, rfl, hj⟩; replace hH := hH.join hj; clear hj; refine ⟨hH.pick (by exact MEMT), ?_⟩; intro a hA)
        (repeat (apply dt_ex hA rfl rfl rfl (by decide); (first | exact EXT | exact EXT2 | (apply ex_build_p (cs := #[.int .i64 bl.e.k, .slice oA bl.e.a.l.length cA, .slice bl.e.ns.o bl.e.ns.l.length bl.e.ns.c, .slice none 0 0]); rfl; exact FLT; rfl) | (apply ex_build (szs := [(0, 1), (1, 1), (2, 4)]) (cs := (encXb none 0 0 none 0 0 bl.e.k oA bl.e.a.l.length cA bl.e.ns none 0 0).toArray); exact run_szl (by (repeat (first | exact SzL.nil | refine SzL.cons ⟨_, rfl, by decide⟩ ?_))); rfl; rfl)); clear hA a; intro a hA))
        (apply dt_op hA rfl rfl rfl (by decide); apply op_alloc; exact hH; clear hA hH; rintro _ w ⟨bN, rfl, hH⟩; refine ⟨hH.pick (by exact MEMT), ?_⟩; intro a hA)
        (apply dt_op0 hA rfl rfl rfl; apply op_store_agg (vs := (encXb none 0 0 none 0 0 bl.e.k oA bl.e.a.l.length cA bl.e.ns none 0 0)); rfl; rfl; exact hH; (repeat constructor); (repeat rfl); clear hH; rintro _ w hH; refine ⟨hH.pick (by exact MEMT), ?_⟩; apply dt_nil)
        exact ⟨_, oA, cA, hH.perm PMT, (hA.sub SBT)⟩
      clear hA hH hST
      rintro a w ⟨b15, oA, cA, hH, hA⟩
      have hcA := hH.own_le (T := 65) (o := oA) (.tail _ (.head _))
      replace hH := (hH.perm (H' := own 65 2 oA bl.e.a.l.length cA (flat encAt (bl.e.a.l.map hiA)) :: frz W K1 :: cb b15 53 (encXb none 0 0 none 0 0 bl.e.k oA bl.e.a.l.length cA bl.e.ns none 0 0) :: cb b14 53 (encBl bl) :: own 53 6 oB k cB (flat encBl nbs) :: cb b11 44 (encG f) :: cb b9 25 (encO9 g oF i cF) :: own 44 2 oF i cF (flat encG nfs) :: cb b4 25 (encGs g) :: []) PMT).frz_own
      obtain ⟨K2, hK2⟩ : ∃ K : World → Prop, K = fun w => Rd w oA (flat encAt (bl.e.a.l.map hiA)) ∧ K1 w := ⟨_, rfl⟩
      rw [← hK2] at hH
      have hK21 : ∀ w, K2 w → K1 w := fun w h => by rw [hK2] at h; exact h.2
      have hK2A : ∀ w, K2 w → Rd w oA (flat encAt (bl.e.a.l.map hiA)) := fun w h => by rw [hK2] at h; exact h.1
      clear hK2
      replace hH := (hH.nil_own 3 1).perm (H' := frz W K2 :: cb b15 53 (encXb none 0 0 none 0 0 bl.e.k oA bl.e.a.l.length cA bl.e.ns none 0 0) :: own 3 1 none 0 0 [] :: cb b14 53 (encBl bl) :: own 53 6 oB k cB (flat encBl nbs) :: cb b11 44 (encG f) :: cb b9 25 (encO9 g oF i cF) :: own 44 2 oF i cF (flat encG nfs) :: cb b4 25 (encGs g) :: []) PMT
      repeat' (first | (refine QT ?_; clear hA a; intro a hA) | (refine CT ?_ <;> repeat' refine CT ?_) | fail)
      refine wp_lpk (S := Nat) (fun n a w => ∃ oP cP, (n ≤ bl.ps.l.length ∧ ∀ x ∈ bl.ps.l.take n, x < 524288) ∧ HS W noM (frz W K2 :: cb b15 53 (encXb oP n cP none 0 0 bl.e.k oA bl.e.a.l.length cA bl.e.ns none 0 0) :: own 3 1 oP n cP (flat Fw.encI ((bl.ps.l.take n).map hi)) :: cb b14 53 (encBl bl) :: own 53 6 oB k cB (flat encBl nbs) :: cb b11 44 (encG f) :: cb b9 25 (encO9 g oF i cF) :: own 44 2 oF i cF (flat encG nfs) :: cb b4 25 (encGs g) :: []) w ∧ Sl 188 [(64, .int .i64 n), (63, .int .i64 bl.ps.l.length), (15, .pointer (some (bat b15 0))), (14, .pointer (some (bat b14 0))), (13, .int .i64 k), (41, .int .i64 k), (40, .int .i64 f.bs.l.length), (12, .slice oB k cB), (11, .pointer (some (bat b11 0))), (10, .int .i64 i), (29, .int .i64 i), (28, .int .i64 g.fs.l.length), (9, .pointer (some (bat b9 0))), (4, .pointer (some (bat b4 0))), (1, .int .i64 kd), (2, .string s), (3, .int .i64 fuel)] a) (fun n => bl.ps.l.length - n)
        (fun a w => ∃ oP cP, (∀ x ∈ bl.ps.l, x < 524288) ∧ HS W noM (frz W K2 :: cb b15 53 (encXb oP bl.ps.l.length cP none 0 0 bl.e.k oA bl.e.a.l.length cA bl.e.ns none 0 0) :: own 3 1 oP bl.ps.l.length cP (flat Fw.encI (bl.ps.l.map hi)) :: cb b14 53 (encBl bl) :: own 53 6 oB k cB (flat encBl nbs) :: cb b11 44 (encG f) :: cb b9 25 (encO9 g oF i cF) :: own 44 2 oF i cF (flat encG nfs) :: cb b4 25 (encGs g) :: []) w ∧ Sl 188 [(15, .pointer (some (bat b15 0))), (14, .pointer (some (bat b14 0))), (13, .int .i64 k), (41, .int .i64 k), (40, .int .i64 f.bs.l.length), (12, .slice oB k cB), (11, .pointer (some (bat b11 0))), (10, .int .i64 i), (29, .int .i64 i), (28, .int .i64 g.fs.l.length), (9, .pointer (some (bat b9 0))), (4, .pointer (some (bat b4 0))), (1, .int .i64 kd), (2, .string s), (3, .int .i64 fuel)] a) 0
        ⟨none, 0, ⟨Nat.zero_le _, fun x hx => absurd hx (by rw [List.take_zero]; exact List.not_mem_nil)⟩, (by rw [List.take_zero, List.map_nil, flatI_nil2]; exact hH), (hA.sub SBT)⟩ ?_ ?_
      --((
      · clear hA hH
        rintro n a w ⟨oP, cP, ⟨hn0, hlo⟩, hH, hA⟩
        by_cases hln : n < bl.ps.l.length
        rotate_left
        · obtain rfl : n = bl.ps.l.length := by omega
          repeat' (first | (refine QT ?_; clear hA a; intro a hA) | ((first | refine CT ?_ | (refine DT ?_ ?_ <;> intro hc <;> try (exfalso; omega))) <;> repeat' refine CT ?_) | fail)
          rw [List.take_length] at hlo hH
          exact ⟨oP, cP, hlo, hH, (hA.sub SBT)⟩
        obtain ⟨x, hx⟩ : ∃ x, bl.ps.l[n]? = some x := ⟨_, List.getElem?_eq_getElem hln⟩
        have hvx : (flat Fw.encI bl.ps.l)[n * 1]? = some (.int .i64 x) := flat_get0 encI_len hx rfl
        have hml := map_len (f := hi) hn0
        by_cases hbig : 524288 ≤ x
        · repeat' (first | (refine XT ?_; apply XE; (first | (apply ex_indexAddr_nat; rfl; rfl; omega; exact hspP) | (apply ex_load; rfl; exact cl_rd hRb.1.1 id hvx)); clear hA a; intro a hA) | (refine QT ?_; clear hA a; intro a hA) | ((first | refine CT ?_ | (refine DT ?_ ?_ <;> intro hc <;> try (exfalso; omega))) <;> repeat' refine CT ?_) | fail)
          exact rt1 (.inl rfl) rfl hA rfl ⟨rfl, hH.kp⟩
        repeat' (first | (refine XT ?_; apply XE; (first | (apply ex_indexAddr_nat; rfl; rfl; omega; exact hspP) | (apply ex_load; rfl; exact cl_rd hRb.1.1 id hvx)); clear hA a; intro a hA) | (refine QT ?_; clear hA a; intro a hA) | ((first | refine CT ?_ | (refine DT ?_ ?_ <;> intro hc <;> try (exfalso; omega))) <;> repeat' refine CT ?_) | fail)
        have hST : HS W noM [cb b15 53 (encXb oP n cP none 0 0 bl.e.k oA bl.e.a.l.length cA bl.e.ns none 0 0), cb b14 53 (encBl bl)] w := HS.left (H1 := [_, _]) (H2 := own 3 1 oP n cP (flat Fw.encI ((bl.ps.l.take n).map hi)) :: frz W K2 :: own 53 6 oB k cB (flat encBl nbs) :: cb b11 44 (encG f) :: cb b9 25 (encO9 g oF i cF) :: own 44 2 oF i cF (flat encG nfs) :: cb b4 25 (encGs g) :: []) (hH.perm PMT)
        replace hH := hH.perm (H' := cb b15 53 (encXb oP n cP none 0 0 bl.e.k oA bl.e.a.l.length cA bl.e.ns none 0 0) :: cb b14 53 (encBl bl) :: own 3 1 oP n cP (flat Fw.encI ((bl.ps.l.take n).map hi)) :: frz W K2 :: own 53 6 oB k cB (flat encBl nbs) :: cb b11 44 (encG f) :: cb b9 25 (encO9 g oF i cF) :: own 44 2 oF i cF (flat encG nfs) :: cb b4 25 (encGs g) :: []) PMT
        (refine wp_draw2_HS (H := [_, _]) [(0, 1), (1, 1), (2, 1), (3, 1), (4, 1), (5, 1), (6, 1), (7, 0), (8, 0), (9, 0), (10, 1)] [11] mixed (by decide +kernel) (hST) ?_; replace hH := hH.drew)
        clear hST
        repeat' (first | (refine XT ?_; apply XE; (first | (apply ex_indexAddr_nat; rfl; rfl; omega; exact hspP) | (apply ex_load; rfl; exact cl_rd hRb.1.1 id hvx)); clear hA a; intro a hA) | (refine QT ?_; clear hA a; intro a hA) | fail)
        (refine dr_op hA rfl rfl rfl (by decide) (op_call rfl rfl rfl (higher_spec _ x (by omega))) ?_; clear hA; rintro _ w ⟨rfl, hk⟩; replace hH := hH.keep hk; clear hk; refine ⟨HS.left (H1 := [_, _]) hH, ?_⟩; intro a hA)
        (apply dr_op hA rfl rfl rfl (by decide); apply op_sliceLit (xs := [.int .i64 (hi x)]) (vs := [.int .i64 (hi x)]); rfl; rfl; exact CATST; rfl; rfl; rfl; exact hH; clear hA hH; rintro _ w ⟨oN, rfl, hH⟩; refine ⟨HS.left (H1 := [_, _]) hH.tail, ?_⟩; intro a hA)
        (apply dr_op hA rfl rfl rfl (by decide); apply op_append; rfl; rfl; exact hH; exact MEMT; exact (hH.own_rd (List.Mem.head _)); exact rfl; rfl; decide; exact rfl; (unfold maxLen; omega); omega; clear hA; rintro _ w ⟨oN, cN, rfl, hH2⟩; clear hH; have hH := hH2 _ (by (repeat constructor)); clear hH2; refine ⟨HS.left (H1 := [_, _]) hH.tail, ?_⟩; intro a hA)
        repeat' (first | (refine QT ?_; clear hA a; intro a hA) | (apply dr_op03 hA rfl rfl rfl; apply op_store_fld (cs' := encXb oN (n + 1) cN none 0 0 bl.e.k oA bl.e.a.l.length cA bl.e.ns none 0 0); rfl; rfl; rfl; exact hH; (repeat constructor); clear hH; rintro _ w hH) | (refine CT ?_ <;> repeat' refine CT ?_) | fail)
        exact ⟨n + 1, ⟨_, _, ⟨hln, all_nx hlo hx (by omega)⟩, (by rw [map_next hx, ← flatI_s]; exact (hH.tail).perm PMT), (hA.sub SBT)⟩, by omega⟩
      --))
      clear hA hH
      rintro a w ⟨oP, cP, hloP, hH, hA⟩
      replace hH := (hH.nil_own 59 5).perm (H' := frz W K2 :: cb b15 53 (encXb oP bl.ps.l.length cP none 0 0 bl.e.k oA bl.e.a.l.length cA bl.e.ns none 0 0) :: own 59 5 none 0 0 [] :: own 3 1 oP bl.ps.l.length cP (flat Fw.encI (bl.ps.l.map hi)) :: cb b14 53 (encBl bl) :: own 53 6 oB k cB (flat encBl nbs) :: cb b11 44 (encG f) :: cb b9 25 (encO9 g oF i cF) :: own 44 2 oF i cF (flat encG nfs) :: cb b4 25 (encGs g) :: []) PMT
      repeat' (first | (refine QT ?_; clear hA a; intro a hA) | (refine CT ?_ <;> repeat' refine CT ?_) | fail)
      refine wp_lpk (S := Nat) (fun n a w => ∃ oI cI nis, ∃ K : World → Prop, (n ≤ bl.is.l.length ∧ Al RenIn (bl.is.l.take n) nis ∧ (∀ x ∈ bl.is.l.take n, x.x < 524288) ∧ (∀ w, K w → K2 w) ∧ ∀ w, K w → ∀ i ∈ nis, RdIn w i) ∧ HS W noM (frz W K :: cb b15 53 (encXb oP bl.ps.l.length cP oI n cI bl.e.k oA bl.e.a.l.length cA bl.e.ns none 0 0) :: own 59 5 oI n cI (flat encIn nis) :: own 3 1 oP bl.ps.l.length cP (flat Fw.encI (bl.ps.l.map hi)) :: cb b14 53 (encBl bl) :: own 53 6 oB k cB (flat encBl nbs) :: cb b11 44 (encG f) :: cb b9 25 (encO9 g oF i cF) :: own 44 2 oF i cF (flat encG nfs) :: cb b4 25 (encGs g) :: []) w ∧ Sl 188 [(88, .int .i64 n), (87, .int .i64 bl.is.l.length), (15, .pointer (some (bat b15 0))), (14, .pointer (some (bat b14 0))), (13, .int .i64 k), (41, .int .i64 k), (40, .int .i64 f.bs.l.length), (12, .slice oB k cB), (11, .pointer (some (bat b11 0))), (10, .int .i64 i), (29, .int .i64 i), (28, .int .i64 g.fs.l.length), (9, .pointer (some (bat b9 0))), (4, .pointer (some (bat b4 0))), (1, .int .i64 kd), (2, .string s), (3, .int .i64 fuel)] a) (fun n => bl.is.l.length - n)
        (fun a w => ∃ oI cI nis, ∃ K : World → Prop, (Al RenIn bl.is.l nis ∧ (∀ x ∈ bl.is.l, x.x < 524288) ∧ (∀ w, K w → K2 w) ∧ ∀ w, K w → ∀ i ∈ nis, RdIn w i) ∧ HS W noM (frz W K :: cb b15 53 (encXb oP bl.ps.l.length cP oI bl.is.l.length cI bl.e.k oA bl.e.a.l.length cA bl.e.ns none 0 0) :: own 59 5 oI bl.is.l.length cI (flat encIn nis) :: own 3 1 oP bl.ps.l.length cP (flat Fw.encI (bl.ps.l.map hi)) :: cb b14 53 (encBl bl) :: own 53 6 oB k cB (flat encBl nbs) :: cb b11 44 (encG f) :: cb b9 25 (encO9 g oF i cF) :: own 44 2 oF i cF (flat encG nfs) :: cb b4 25 (encGs g) :: []) w ∧ Sl 188 [(15, .pointer (some (bat b15 0))), (14, .pointer (some (bat b14 0))), (13, .int .i64 k), (41, .int .i64 k), (40, .int .i64 f.bs.l.length), (12, .slice oB k cB), (11, .pointer (some (bat b11 0))), (10, .int .i64 i), (29, .int .i64 i), (28, .int .i64 g.fs.l.length), (9, .pointer (some (bat b9 0))), (4, .pointer (some (bat b4 0))), (1, .int .i64 kd), (2, .string s), (3, .int .i64 fuel)] a) 0
        ⟨none, 0, [], K2, ⟨Nat.zero_le _, al_nil _, (fun x hx => absurd hx (by rw [List.take_zero]; exact List.not_mem_nil)), fun w h => h, fun w _ i hi => absurd hi (List.not_mem_nil)⟩, (by rw [flatIn_nil]; exact hH), (hA.sub SBT)⟩ ?_ ?_
      --((
      · clear hA hH
        rintro n a w ⟨oI, cI, nis, K3, ⟨hn0, hal3, hlo, hK3, hrd3⟩, hH, hA⟩
        have hnl3 := al_cnt hal3 hn0
        by_cases hln : n < bl.is.l.length
        rotate_left
        · obtain rfl : n = bl.is.l.length := by omega
          repeat' (first | (refine QT ?_; clear hA a; intro a hA) | ((first | refine CT ?_ | (refine DT ?_ ?_ <;> intro hc <;> try (exfalso; omega))) <;> repeat' refine CT ?_) | fail)
          rw [List.take_length] at hlo hal3
          exact ⟨oI, cI, nis, K3, ⟨hal3, hlo, hK3, hrd3⟩, hH, (hA.sub SBT)⟩
        obtain ⟨x, hx⟩ : ∃ x, bl.is.l[n]? = some x := ⟨_, List.getElem?_eq_getElem hln⟩
        have hxm := List.mem_of_getElem? hx
        have hvx := in_xx hx
        have hvs := in_st hx
        have hRi := hRb.2.2.1 x hxm
        have hxa := hsb.ia x hxm
        by_cases hbig : 524288 ≤ x.x
        · repeat' (first | (refine XT ?_; apply XE; (first | (apply ex_indexAddr_nat; rfl; rfl; omega; exact hspI) | (apply ex_load; rfl; exact cl_rd hRb.2.1.1 id hvx)); clear hA a; intro a hA) | (refine QT ?_; clear hA a; intro a hA) | ((first | refine CT ?_ | (refine DT ?_ ?_ <;> intro hc <;> try (exfalso; omega))) <;> repeat' refine CT ?_) | fail)
          exact rt1 (.inl rfl) rfl hA rfl ⟨rfl, hH.kp⟩
        repeat' (first | (refine XT ?_; apply XE; (first | (apply ex_indexAddr_nat; rfl; rfl; omega; exact hspI) | (apply ex_load; rfl; exact cl_rd hRb.2.1.1 id hvx) | (apply ex_load_st (vs := encSt x.r); rfl; rfl; exact cls_rd hRb.2.1.1 id hvs)); clear hA a; intro a hA) | (refine QT ?_; clear hA a; intro a hA) | (refine BT ?_; clear hA hH; rintro _ w ⟨bN, rfl, hH⟩ a hA) | (apply st_op0 hA rfl rfl; apply op_store_agg (vs := encSt x.r); rfl; rfl; exact hH; (repeat constructor); (repeat rfl); clear hH; rintro _ w hH) | ((first | refine CT ?_ | (refine DT ?_ ?_ <;> intro hc <;> try (exfalso; omega))) <;> repeat' refine CT ?_) | fail)
        obtain ⟨b18, hb3⟩ : ∃ x, x = bN := ⟨_, rfl⟩; rw [← hb3] at hA hH; clear hb3 bN
        (refine st_op hA rfl rfl (by decide) (op_call rfl rfl rfl (other_spec _ x.r.a (hRi.2.keep hH.kp) hxa)) ?_; clear hA; rintro _ w ⟨oR, cR, rfl, hj⟩ a hA; replace hH := hH.join hj; clear hj)
        have hcR := hH.own_le (T := 65) (o := oR) (.head _)
        obtain ⟨r2, hr2⟩ : ∃ r2 : Stp, r2 = ⟨x.r.k, x.r.n, x.r.ns, ⟨oR, cR, x.r.a.l.map hiA⟩⟩ := ⟨_, rfl⟩
        have hren : RenIn x ⟨hi x.x, r2⟩ := ⟨rfl, by rw [hr2]; exact ⟨rfl, rfl, rfl, rfl⟩⟩
        have hel : encSt r2 = [.int .i64 x.r.k, .int .i64 x.r.n, .slice x.r.ns.o x.r.ns.l.length x.r.ns.c, .slice oR x.r.a.l.length cR] := by rw [hr2]; show [_, _, _, _] = [_, _, _, _]; rw [List.length_map]
        repeat' (first | (refine QT ?_; clear hA a; intro a hA) | (apply st_op0 hA rfl rfl; apply op_store_fld (cs' := encSt r2); rfl; rfl; rfl; exact hH; (repeat constructor); (rw [hel]; rfl); clear hH; rintro _ w hH) | (refine CT ?_ <;> repeat' refine CT ?_) | fail)
        have hKp : ∀ w, K3 w → Kp W noM w := fun w h => hK w (hK1 w (hK21 w (hK3 w h)))
        replace hH := (hH.perm (H' := own 65 2 oR x.r.a.l.length cR (flat encAt (x.r.a.l.map hiA)) :: frz W K3 :: cb b15 53 (encXb oP bl.ps.l.length cP oI n cI bl.e.k oA bl.e.a.l.length cA bl.e.ns none 0 0) :: cb b14 53 (encBl bl) :: cb b18 57 (encSt r2) :: own 59 5 oI n cI (flat encIn nis) :: own 3 1 oP bl.ps.l.length cP (flat Fw.encI (bl.ps.l.map hi)) :: own 53 6 oB k cB (flat encBl nbs) :: cb b11 44 (encG f) :: cb b9 25 (encO9 g oF i cF) :: own 44 2 oF i cF (flat encG nfs) :: cb b4 25 (encGs g) :: []) PMT).frz_own
        obtain ⟨K4, hK4⟩ : ∃ K : World → Prop, K = fun w => Rd w oR (flat encAt (x.r.a.l.map hiA)) ∧ K3 w := ⟨_, rfl⟩
        rw [← hK4] at hH
        have hK43 : ∀ w, K4 w → K3 w := fun w h => by rw [hK4] at h; exact h.2
        have hK4A : ∀ w, K4 w → Rd w oR (flat encAt (x.r.a.l.map hiA)) := fun w h => by rw [hK4] at h; exact h.1
        clear hK4
        have hrdi : ∀ w, K4 w → RdIn w ⟨hi x.x, r2⟩ := fun w h => by
          refine ⟨?_, ?_⟩
          · rw [hr2]; exact hRi.1.keep (hKp w (hK43 w h))
          · rw [hr2]; exact ⟨hK4A w h, by show (x.r.a.l.map hiA).length ≤ cR; rw [List.length_map]; exact hcR.1, hcR.2⟩
        replace hH := hH.perm (H' := cb b15 53 (encXb oP bl.ps.l.length cP oI n cI bl.e.k oA bl.e.a.l.length cA bl.e.ns none 0 0) :: cb b14 53 (encBl bl) :: cb b18 57 (encSt r2) :: own 59 5 oI n cI (flat encIn nis) :: frz W K4 :: own 3 1 oP bl.ps.l.length cP (flat Fw.encI (bl.ps.l.map hi)) :: own 53 6 oB k cB (flat encBl nbs) :: cb b11 44 (encG f) :: cb b9 25 (encO9 g oF i cF) :: own 44 2 oF i cF (flat encG nfs) :: cb b4 25 (encGs g) :: []) PMT
        have hST : HS W noM [cb b15 53 (encXb oP bl.ps.l.length cP oI n cI bl.e.k oA bl.e.a.l.length cA bl.e.ns none 0 0), cb b14 53 (encBl bl), cb b18 57 (encSt r2)] w := HS.left (H1 := [_, _, _]) hH
        (refine wp_draw2_HS (H := [_, _, _]) [(0, 1), (1, 1), (2, 1), (3, 1), (4, 1), (5, 1), (6, 1), (7, 1), (9, 1), (8, 0), (10, 1), (11, 0), (12, 0), (13, 1)] [14] mixed (by decide +kernel) (hST) ?_; replace hH := hH.drew)
        clear hST
        repeat' (first | (refine XT ?_; apply XE; (first | (apply ex_indexAddr_nat; rfl; rfl; omega; exact hspI) | (apply ex_load; rfl; exact cl_rd hRb.2.1.1 id hvx) | (apply ex_load_st (vs := encSt r2); rfl; rfl; exact cls_cb_all MEMT) | (apply ex_build (szs := [(0, 1), (1, 4)]) (cs := (encIn ⟨hi x.x, r2⟩).toArray); exact run_szl (by (repeat (first | exact SzL.nil | refine SzL.cons ⟨_, rfl, by decide⟩ ?_))); rfl; rfl)); clear hA a; intro a hA) | (refine QT ?_; clear hA a; intro a hA) | fail)
        (refine dr_op hA rfl rfl rfl (by decide) (op_call rfl rfl rfl (higher_spec _ x.x (by omega))) ?_; clear hA; rintro _ w ⟨rfl, hk⟩; replace hH := hH.keep hk; clear hk; refine ⟨HS.left (H1 := [_, _, _]) hH, ?_⟩; intro a hA)
        repeat' (first | (refine XT ?_; apply XE; (first | (apply ex_indexAddr_nat; rfl; rfl; omega; exact hspI) | (apply ex_load; rfl; exact cl_rd hRb.2.1.1 id hvx) | (apply ex_load_st (vs := encSt r2); rfl; rfl; exact cls_cb_all MEMT) | (apply ex_build (szs := [(0, 1), (1, 4)]) (cs := (encIn ⟨hi x.x, r2⟩).toArray); exact run_szl (by (repeat (first | exact SzL.nil | refine SzL.cons ⟨_, rfl, by decide⟩ ?_))); rfl; rfl)); clear hA a; intro a hA) | (refine QT ?_; clear hA a; intro a hA) | fail)
        (apply dr_op hA rfl rfl rfl (by decide); apply op_sliceLit (xs := encIn ⟨hi x.x, r2⟩) (vs := [.agg (encIn ⟨hi x.x, r2⟩).toArray]); rfl; rfl; exact (Cats.cn (cs := encIn ⟨hi x.x, r2⟩) Cats.nil); rfl; rfl; rfl; exact hH; clear hA hH; rintro _ w ⟨oN, rfl, hH⟩; refine ⟨HS.left (H1 := [_, _, _]) hH.tail, ?_⟩; intro a hA)
        (apply dr_op hA rfl rfl rfl (by decide); apply op_append; rfl; rfl; exact hH; exact MEMT; exact (hH.own_rd (List.Mem.head _)); exact rfl; rfl; decide; exact rfl; (unfold maxLen; omega); omega; clear hA; rintro _ w ⟨oN, cN, rfl, hH2⟩; clear hH; have hH := hH2 _ (by (repeat constructor)); clear hH2; refine ⟨HS.left (H1 := [_, _, _]) hH.tail, ?_⟩; intro a hA)
        repeat' (first | (refine QT ?_; clear hA a; intro a hA) | (apply dr_op03 hA rfl rfl rfl; apply op_store_fld (cs' := encXb oP bl.ps.l.length cP oN (n + 1) cN bl.e.k oA bl.e.a.l.length cA bl.e.ns none 0 0); rfl; rfl; rfl; exact hH; (repeat constructor); clear hH; rintro _ w hH) | (refine CT ?_ <;> repeat' refine CT ?_) | fail)
        refine ⟨n + 1, ⟨oN, cN, nis ++ [⟨hi x.x, r2⟩], K4, ⟨hln, al_next hal3 hx hren, all_nx hlo hx (by omega), fun w h => hK3 w (hK43 w h), fun w h => all_sn (hrd3 w (hK43 w h)) (hrdi w h)⟩, ?_, (hA.sub SBT)⟩, by omega⟩
        rw [← flatIn_s]
        exact ((hH.rm 0).rm 2).perm PMT
      --))
      clear hA hH
      rintro a w ⟨oI, cI, nis, K3, ⟨hal3, hloI, hK3, hrd3⟩, hH, hA⟩
      have hKp3 : ∀ w, K3 w → Kp W noM w := fun w h => hK w (hK1 w (hK21 w (hK3 w h)))
      replace hH := (hH.nil_own 61 2).perm (H' := frz W K3 :: cb b15 53 (encXb oP bl.ps.l.length cP oI bl.is.l.length cI bl.e.k oA bl.e.a.l.length cA bl.e.ns none 0 0) :: own 61 2 none 0 0 [] :: own 59 5 oI bl.is.l.length cI (flat encIn nis) :: own 3 1 oP bl.ps.l.length cP (flat Fw.encI (bl.ps.l.map hi)) :: cb b14 53 (encBl bl) :: own 53 6 oB k cB (flat encBl nbs) :: cb b11 44 (encG f) :: cb b9 25 (encO9 g oF i cF) :: own 44 2 oF i cF (flat encG nfs) :: cb b4 25 (encGs g) :: []) PMT
      repeat' (first | (refine QT ?_; clear hA a; intro a hA) | (refine CT ?_ <;> repeat' refine CT ?_) | fail)
      refine wp_lpk (S := Nat) (fun n a w => ∃ oT cT nto, ∃ K : World → Prop, (n ≤ bl.e.to.l.length ∧ Al RenEd (bl.e.to.l.take n) nto ∧ (∀ w, K w → K3 w) ∧ ∀ w, K w → ∀ t ∈ nto, RdV w encAt t.a) ∧ HS W noM (frz W K :: cb b15 53 (encXb oP bl.ps.l.length cP oI bl.is.l.length cI bl.e.k oA bl.e.a.l.length cA bl.e.ns oT n cT) :: own 61 2 oT n cT (flat encEd nto) :: own 59 5 oI bl.is.l.length cI (flat encIn nis) :: own 3 1 oP bl.ps.l.length cP (flat Fw.encI (bl.ps.l.map hi)) :: cb b14 53 (encBl bl) :: own 53 6 oB k cB (flat encBl nbs) :: cb b11 44 (encG f) :: cb b9 25 (encO9 g oF i cF) :: own 44 2 oF i cF (flat encG nfs) :: cb b4 25 (encGs g) :: []) w ∧ Sl 188 [(127, .int .i64 n), (126, .int .i64 bl.e.to.l.length), (15, .pointer (some (bat b15 0))), (14, .pointer (some (bat b14 0))), (13, .int .i64 k), (41, .int .i64 k), (40, .int .i64 f.bs.l.length), (12, .slice oB k cB), (11, .pointer (some (bat b11 0))), (10, .int .i64 i), (29, .int .i64 i), (28, .int .i64 g.fs.l.length), (9, .pointer (some (bat b9 0))), (4, .pointer (some (bat b4 0))), (1, .int .i64 kd), (2, .string s), (3, .int .i64 fuel)] a) (fun n => bl.e.to.l.length - n)
        (fun a w => ∃ oT cT nto, ∃ K : World → Prop, (Al RenEd bl.e.to.l nto ∧ (∀ w, K w → K3 w) ∧ ∀ w, K w → ∀ t ∈ nto, RdV w encAt t.a) ∧ HS W noM (frz W K :: cb b15 53 (encXb oP bl.ps.l.length cP oI bl.is.l.length cI bl.e.k oA bl.e.a.l.length cA bl.e.ns oT bl.e.to.l.length cT) :: own 61 2 oT bl.e.to.l.length cT (flat encEd nto) :: own 59 5 oI bl.is.l.length cI (flat encIn nis) :: own 3 1 oP bl.ps.l.length cP (flat Fw.encI (bl.ps.l.map hi)) :: cb b14 53 (encBl bl) :: own 53 6 oB k cB (flat encBl nbs) :: cb b11 44 (encG f) :: cb b9 25 (encO9 g oF i cF) :: own 44 2 oF i cF (flat encG nfs) :: cb b4 25 (encGs g) :: []) w ∧ Sl 188 [(15, .pointer (some (bat b15 0))), (14, .pointer (some (bat b14 0))), (13, .int .i64 k), (41, .int .i64 k), (40, .int .i64 f.bs.l.length), (12, .slice oB k cB), (11, .pointer (some (bat b11 0))), (10, .int .i64 i), (29, .int .i64 i), (28, .int .i64 g.fs.l.length), (9, .pointer (some (bat b9 0))), (4, .pointer (some (bat b4 0))), (1, .int .i64 kd), (2, .string s), (3, .int .i64 fuel)] a) 0
        ⟨none, 0, [], K3, ⟨Nat.zero_le _, al_nil _, fun w h => h, fun w _ t ht => absurd ht (List.not_mem_nil)⟩, (by rw [flatEd_nil]; exact hH), (hA.sub SBT)⟩ ?_ ?_
      --((
      · clear hA hH
        rintro n a w ⟨oT, cT, nto, K5, ⟨hn0, hal5, hK5, hrd5⟩, hH, hA⟩
        have hnl5 := al_cnt hal5 hn0
        by_cases hln : n < bl.e.to.l.length
        rotate_left
        · obtain rfl : n = bl.e.to.l.length := by omega
          repeat' (first | (refine QT ?_; clear hA a; intro a hA) | ((first | refine CT ?_ | (refine DT ?_ ?_ <;> intro hc <;> try (exfalso; omega))) <;> repeat' refine CT ?_) | fail)
          rw [List.take_length] at hal5
          exact ⟨oT, cT, nto, K5, ⟨hal5, hK5, hrd5⟩, hH, (hA.sub SBT)⟩
        obtain ⟨x, hx⟩ : ∃ x, bl.e.to.l[n]? = some x := ⟨_, List.getElem?_eq_getElem hln⟩
        have hxm := List.mem_of_getElem? hx
        have hvb := ed_b hx
        have hva := ed_a hx
        have hRt := hRb.2.2.2.2.2.2 x hxm
        have hxa := hsb.ta x hxm
        repeat' (first | (refine QT ?_; clear hA a; intro a hA) | ((first | refine CT ?_ | (refine DT ?_ ?_ <;> intro hc <;> try (exfalso; omega))) <;> repeat' refine CT ?_) | fail)
        have hST : HS W noM [cb b15 53 (encXb oP bl.ps.l.length cP oI bl.is.l.length cI bl.e.k oA bl.e.a.l.length cA bl.e.ns oT n cT), cb b14 53 (encBl bl)] w := HS.left (H1 := [_, _]) (H2 := own 61 2 oT n cT (flat encEd nto) :: own 59 5 oI bl.is.l.length cI (flat encIn nis) :: own 3 1 oP bl.ps.l.length cP (flat Fw.encI (bl.ps.l.map hi)) :: frz W K5 :: own 53 6 oB k cB (flat encBl nbs) :: cb b11 44 (encG f) :: cb b9 25 (encO9 g oF i cF) :: own 44 2 oF i cF (flat encG nfs) :: cb b4 25 (encGs g) :: []) (hH.perm PMT)
        replace hH := hH.perm (H' := cb b15 53 (encXb oP bl.ps.l.length cP oI bl.is.l.length cI bl.e.k oA bl.e.a.l.length cA bl.e.ns oT n cT) :: cb b14 53 (encBl bl) :: own 61 2 oT n cT (flat encEd nto) :: own 59 5 oI bl.is.l.length cI (flat encIn nis) :: own 3 1 oP bl.ps.l.length cP (flat Fw.encI (bl.ps.l.map hi)) :: frz W K5 :: own 53 6 oB k cB (flat encBl nbs) :: cb b11 44 (encG f) :: cb b9 25 (encO9 g oF i cF) :: own 44 2 oF i cF (flat encG nfs) :: cb b4 25 (encGs g) :: []) PMT
        (refine wp_draw2_HS (H := [_, _]) [(0, 1), (1, 1), (2, 1), (3, 1), (4, 1), (5, 1), (6, 1), (7, 1), (8, 1), (9, 1), (10, 1), (11, 1), (12, 1), (13, 1), (14, 1), (15, 1), (16, 1), (17, 0), (18, 1), (19, 0), (20, 0), (21, 1), (22, 1)] [23] mixed (by decide +kernel) (hST) ?_; replace hH := hH.drew)
        clear hST
        repeat' (first | (refine XT ?_; apply XE; (first | (apply ex_indexAddr_nat; rfl; rfl; omega; exact hspT) | (apply ex_load; rfl; first | exact cl_rd hRb.2.2.2.2.2.1.1 id hvb | exact cl_rd hRb.2.2.2.2.2.1.1 id hva)); clear hA a; intro a hA) | (refine QT ?_; clear hA a; intro a hA) | fail)
        (refine dr_op hA rfl rfl rfl (by decide) (op_call rfl rfl rfl (other_spec _ x.a (hRt.keep hH.kp) hxa)) ?_; clear hA; rintro _ w ⟨oE, cE, rfl, hj⟩; replace hH := hH.join hj; clear hj; refine ⟨HS.left (H1 := [_, _]) hH.tail, ?_⟩; intro a hA)
        have hcE := hH.own_le (T := 65) (o := oE) (.head _)
        obtain ⟨t2, ht2⟩ : ∃ t2 : Edg, t2 = ⟨x.b, ⟨oE, cE, x.a.l.map hiA⟩⟩ := ⟨_, rfl⟩
        have hren : RenEd x t2 := by rw [ht2]; exact ⟨rfl, rfl⟩
        have hel : encEd t2 = [.int .i64 x.b, .slice oE x.a.l.length cE] := by rw [ht2]; show [_, _] = [_, _]; rw [List.length_map]
        repeat' (first | (refine XT ?_; apply XE; (first | (apply ex_build_p (cs := (encEd t2).toArray); rfl; exact FLT; (rw [hel]; rfl))); clear hA a; intro a hA) | (refine QT ?_; clear hA a; intro a hA) | (refine DLT ?_; clear hA hH; rintro _ w ⟨oN, rfl, hH⟩; refine ⟨STT, ?_⟩; intro a hA) | fail)
        (apply dr_op hA rfl rfl rfl (by decide); apply op_sliceLit (xs := encEd t2) (vs := [.agg (encEd t2).toArray]); rfl; rfl; exact (Cats.cn (cs := encEd t2) Cats.nil); rfl; rfl; rfl; exact hH; clear hA hH; rintro _ w ⟨oN, rfl, hH⟩; refine ⟨HS.left (H1 := [_, _]) hH.tail.tail, ?_⟩; intro a hA)
        (apply dr_op hA rfl rfl rfl (by decide); apply op_append; rfl; rfl; exact hH; exact MEMT; exact (hH.own_rd (List.Mem.head _)); exact rfl; rfl; decide; exact rfl; (unfold maxLen; omega); omega; clear hA; rintro _ w ⟨oN, cN, rfl, hH2⟩; clear hH; have hH := hH2 _ (by (repeat constructor)); clear hH2; refine ⟨HS.left (H1 := [_, _]) hH.tail.tail, ?_⟩; intro a hA)
        repeat' (first | (refine QT ?_; clear hA a; intro a hA) | (apply dr_op03 hA rfl rfl rfl; apply op_store_fld (cs' := encXb oP bl.ps.l.length cP oI bl.is.l.length cI bl.e.k oA bl.e.a.l.length cA bl.e.ns oN (n + 1) cN); rfl; rfl; rfl; exact hH; (repeat constructor); clear hH; rintro _ w hH) | (refine CT ?_ <;> repeat' refine CT ?_) | fail)
        replace hH := (hH.perm (H' := own 65 2 oE x.a.l.length cE (flat encAt (x.a.l.map hiA)) :: frz W K5 :: own 61 2 _ 1 1 (encEd t2) :: cb b15 53 (encXb oP bl.ps.l.length cP oI bl.is.l.length cI bl.e.k oA bl.e.a.l.length cA bl.e.ns oN (n + 1) cN) :: own 61 2 oN (n + 1) cN (flat encEd nto ++ encEd t2) :: own 59 5 oI bl.is.l.length cI (flat encIn nis) :: own 3 1 oP bl.ps.l.length cP (flat Fw.encI (bl.ps.l.map hi)) :: cb b14 53 (encBl bl) :: own 53 6 oB k cB (flat encBl nbs) :: cb b11 44 (encG f) :: cb b9 25 (encO9 g oF i cF) :: own 44 2 oF i cF (flat encG nfs) :: cb b4 25 (encGs g) :: []) PMT).frz_own
        refine ⟨n + 1, ⟨oN, cN, nto ++ [t2], fun w => Rd w oE (flat encAt (x.a.l.map hiA)) ∧ K5 w, ⟨hln, al_next hal5 hx hren, fun w h => hK5 w h.2, fun w h => all_sn (hrd5 w h.2) (by rw [ht2]; exact ⟨h.1, by show (x.a.l.map hiA).length ≤ cE; rw [List.length_map]; exact hcE.1, hcE.2⟩)⟩, ?_, (hA.sub SBT)⟩, by omega⟩
        rw [← flatEd_s]
        exact (hH.rm 1).perm PMT
      --))
      clear hA hH
      rintro a w ⟨oT, cT, nto, K5, ⟨hal5, hK5, hrd5⟩, hH, hA⟩
      have hcP := hH.own_le (T := 3) (o := oP) (xs := flat Fw.encI (bl.ps.l.map hi)) (n := bl.ps.l.length) (cap := cP) (sz := 1) (by repeat (first | exact List.Mem.head _ | apply List.Mem.tail))
      have hcI := hH.own_le (T := 59) (o := oI) (xs := flat encIn nis) (n := bl.is.l.length) (cap := cI) (sz := 5) (by repeat (first | exact List.Mem.head _ | apply List.Mem.tail))
      have hcT := hH.own_le (T := 61) (o := oT) (xs := flat encEd nto) (n := bl.e.to.l.length) (cap := cT) (sz := 2) (by repeat (first | exact List.Mem.head _ | apply List.Mem.tail))
      have hnis := al_len hal3
      have hnto := al_len hal5
      obtain ⟨b2, hb2⟩ : ∃ b2 : Blc, b2 = ⟨⟨oP, cP, bl.ps.l.map hi⟩, ⟨oI, cI, nis⟩, ⟨bl.e.k, ⟨oA, cA, bl.e.a.l.map hiA⟩, bl.e.ns, ⟨oT, cT, nto⟩⟩⟩ := ⟨_, rfl⟩
      have hel : encBl b2 = encXb oP bl.ps.l.length cP oI bl.is.l.length cI bl.e.k oA bl.e.a.l.length cA bl.e.ns oT bl.e.to.l.length cT := by
        rw [hb2]
        show [_, _, _, _, _, _] = [_, _, _, _, _, _]
        rw [List.length_map, List.length_map, hnis, hnto]
      have hren : RenBl bl b2 := by rw [hb2]; exact ⟨rfl, hal3, rfl, rfl, rfl, hal5⟩
      have hlowb : LowB bl := ⟨hloP, hloI⟩
      rw [← hel] at hH
      replace hH := (hH.perm (H' := own 61 2 oT bl.e.to.l.length cT (flat encEd nto) :: frz W K5 :: own 59 5 oI bl.is.l.length cI (flat encIn nis) :: own 3 1 oP bl.ps.l.length cP (flat Fw.encI (bl.ps.l.map hi)) :: cb b15 53 (encBl b2) :: cb b14 53 (encBl bl) :: own 53 6 oB k cB (flat encBl nbs) :: cb b11 44 (encG f) :: cb b9 25 (encO9 g oF i cF) :: own 44 2 oF i cF (flat encG nfs) :: cb b4 25 (encGs g) :: []) PMT).frz_own
      replace hH := (hH.perm (H' := own 59 5 oI bl.is.l.length cI (flat encIn nis) :: frz W (fun w => Rd w oT (flat encEd nto) ∧ K5 w) :: own 3 1 oP bl.ps.l.length cP (flat Fw.encI (bl.ps.l.map hi)) :: cb b15 53 (encBl b2) :: cb b14 53 (encBl bl) :: own 53 6 oB k cB (flat encBl nbs) :: cb b11 44 (encG f) :: cb b9 25 (encO9 g oF i cF) :: own 44 2 oF i cF (flat encG nfs) :: cb b4 25 (encGs g) :: []) PMT).frz_own
      replace hH := (hH.perm (H' := own 3 1 oP bl.ps.l.length cP (flat Fw.encI (bl.ps.l.map hi)) :: frz W (fun w => Rd w oI (flat encIn nis) ∧ Rd w oT (flat encEd nto) ∧ K5 w) :: cb b15 53 (encBl b2) :: cb b14 53 (encBl bl) :: own 53 6 oB k cB (flat encBl nbs) :: cb b11 44 (encG f) :: cb b9 25 (encO9 g oF i cF) :: own 44 2 oF i cF (flat encG nfs) :: cb b4 25 (encGs g) :: []) PMT).frz_own
      obtain ⟨K6, hK6⟩ : ∃ K : World → Prop, K = fun w => Rd w oP (flat Fw.encI (bl.ps.l.map hi)) ∧ Rd w oI (flat encIn nis) ∧ Rd w oT (flat encEd nto) ∧ K5 w := ⟨_, rfl⟩
      rw [← hK6] at hH
      have hK61 : ∀ w, K6 w → K1 w := fun w h => by rw [hK6] at h; exact hK21 w (hK3 w (hK5 w h.2.2.2))
      have hrdb : ∀ w, K6 w → RdBl w b2 := fun w h => by
        rw [hK6] at h
        have h3 := hK5 w h.2.2.2
        have hk := hKp3 w h3
        rw [hb2]
        exact ⟨⟨h.1, by show (bl.ps.l.map hi).length ≤ cP; rw [List.length_map]; exact hcP.1, hcP.2⟩, ⟨h.2.1, by show nis.length ≤ cI; rw [hnis]; exact hcI.1, hcI.2⟩, hrd3 w h3,
          ⟨hK2A w (hK3 w h3), by show (bl.e.a.l.map hiA).length ≤ cA; rw [List.length_map]; exact hcA.1, hcA.2⟩, hRb.2.2.2.2.1.keep hk, ⟨h.2.2.1, by show nto.length ≤ cT; rw [hnto]; exact hcT.1, hcT.2⟩, hrd5 w h.2.2.2⟩
      clear hK6
      repeat' (first | (refine XT ?_; apply XE; (first | (apply ex_load_st (vs := encBl b2); rfl; rfl; exact cls_cb_all MEMT)); clear hA a; intro a hA) | (refine QT ?_; clear hA a; intro a hA) | (refine AT ?_; clear hA; rintro _ w ⟨oN, cN, rfl, hH2⟩ a hA; clear hH; have hH := (hH2 _ (by (repeat constructor))).tail; clear hH2) | (apply st_op hA rfl rfl (by decide); apply op_sliceLit (xs := encBl b2) (vs := [.agg (encBl b2).toArray]); rfl; rfl; exact (Cats.cn (cs := encBl b2) Cats.nil); rfl; rfl; rfl; exact hH; clear hA hH; rintro _ w ⟨oN, rfl, hH⟩ a hA) | (refine CT ?_ <;> repeat' refine CT ?_) | fail)
      refine ⟨k + 1, ⟨oN, cN, nbs ++ [b2], K6, ⟨hlk, al_next hal1 hbl hren, all_nx hlow1 hbl hlowb, fun w h => hK1 w (hK61 w h), fun w h => all_sn (hrd1 w (hK61 w h)) (hrdb w h)⟩, ?_, (hA.sub SBT)⟩, by omega⟩
      rw [← flatBl_s]
      exact ((hH.rm 1).rm 1).perm PMT
    clear hA hH
    rintro a w ⟨oB, cB, nbs, K1, ⟨hal1, hlow1, hK1, hrd1⟩, hH, hA⟩
    have hcB := hH.own_le (T := 53) (o := oB) (xs := flat encBl nbs) (n := f.bs.l.length) (cap := cB) (sz := 6) (by repeat (first | exact List.Mem.head _ | apply List.Mem.tail))
    have hnbs := al_len hal1
    obtain ⟨f2, hf2⟩ : ∃ f2 : Gr, f2 = ⟨f.caps, ⟨oB, cB, nbs⟩⟩ := ⟨_, rfl⟩
    have hel : encG f2 = [.int .i64 f.caps, .slice oB f.bs.l.length cB] := by rw [hf2]; show [_, _] = [_, _]; rw [hnbs]
    have hrenf : RenGr f f2 := by rw [hf2]; exact ⟨rfl, hal1⟩
    replace hH := (hH.perm (H' := own 53 6 oB f.bs.l.length cB (flat encBl nbs) :: frz W K1 :: cb b11 44 (encG f) :: cb b9 25 (encO9 g oF i cF) :: own 44 2 oF i cF (flat encG nfs) :: cb b4 25 (encGs g) :: []) PMT).frz_own
    obtain ⟨K6, hK6⟩ : ∃ K : World → Prop, K = fun w => Rd w oB (flat encBl nbs) ∧ K1 w := ⟨_, rfl⟩
    rw [← hK6] at hH
    have hK61 : ∀ w, K6 w → K0 w := fun w h => by rw [hK6] at h; exact hK1 w h.2
    have hrdf : ∀ w, K6 w → RdG w f2 := fun w h => by
      rw [hK6] at h
      rw [hf2]
      exact ⟨⟨h.1, by show nbs.length ≤ cB; rw [hnbs]; exact hcB.1, hcB.2⟩, hrd1 w h.2⟩
    clear hK6
    repeat' (first | (refine XT ?_; apply XE; (first | (apply ex_load_st (vs := encG f2); rfl; rfl; exact cls_cb_all MEMT)); clear hA a; intro a hA) | (refine QT ?_; clear hA a; intro a hA) | (refine LT ?_; clear hA hH; rintro _ w ⟨oN, rfl, hH⟩ a hA) | (refine AT ?_; clear hA; rintro _ w ⟨oN, cN, rfl, hH2⟩ a hA; clear hH; have hH := (hH2 _ (by (repeat constructor))).tail; clear hH2) | (apply st_op0 hA rfl rfl; apply op_store_fld (cs' := encG f2); rfl; rfl; rfl; exact hH; (repeat constructor); (rw [hel]; rfl); clear hH; rintro _ w hH) | (apply st_op hA rfl rfl (by decide); apply op_sliceLit (xs := encG f2) (vs := [.agg (encG f2).toArray]); rfl; rfl; exact (Cats.cn (cs := encG f2) Cats.nil); rfl; rfl; rfl; exact hH; clear hA hH; rintro _ w ⟨oN, rfl, hH⟩ a hA) | (apply st_op0 hA rfl rfl; apply op_store_fld (cs' := encO9 g oN (i + 1) cN); rfl; rfl; rfl; exact hH; (repeat constructor); clear hH; rintro _ w hH) | (refine CT ?_ <;> repeat' refine CT ?_) | fail)
    exact ⟨i + 1, ⟨oN, cN, nfs ++ [f2], K6, ⟨hlt, al_next hal hf hrenf, all_nx hlow hf hlow1, fun w h => hK w (hK61 w h), fun w h => all_sn (hrd w (hK61 w h)) (hrdf w h)⟩, (by rw [← flatG_s]; exact (hH.rm 1).perm PMT), (hA.sub SBT)⟩, by omega⟩
  --))))
  clear hA hH
  rintro a w ⟨oF, cF, nfs, K0, ⟨hal, hlow, hK, hrd⟩, hH, hA⟩
  have hcF := hH.own_le (T := 44) (o := oF) (xs := flat encG nfs) (n := g.fs.l.length) (cap := cF) (sz := 2) (by repeat (first | exact List.Mem.head _ | apply List.Mem.tail))
  have hnfs := al_len hal
  obtain ⟨g2, hg2⟩ : ∃ g2 : Grs, g2 = ⟨⟨oF, cF, nfs⟩, g.ls, g.ts, g.xs, g.ss⟩ := ⟨_, rfl⟩
  have hel : encGs g2 = encO9 g oF g.fs.l.length cF := by rw [hg2]; show [_, _, _, _, _] = [_, _, _, _, _]; rw [hnfs]
  have hren : RenGs g g2 := by rw [hg2]; exact ⟨hal, rfl, rfl, rfl, rfl⟩
  rw [← hel] at hH
  replace hH := (hH.perm (H' := own 44 2 oF g.fs.l.length cF (flat encG nfs) :: frz W K0 :: cb b9 25 (encGs g2) :: cb b4 25 (encGs g) :: []) PMT).frz_own
  obtain ⟨K6, hK6⟩ : ∃ K : World → Prop, K = fun w => Rd w oF (flat encG nfs) ∧ K0 w := ⟨_, rfl⟩
  rw [← hK6] at hH
  have hRG2 : ∀ w, K6 w → RdGs w g2 := fun w h => by
    rw [hK6] at h
    have hk := hK w h.2
    rw [hg2]
    exact ⟨⟨h.1, by show nfs.length ≤ cF; rw [hnfs]; exact hcF.1, hcF.2⟩, hrd w h.2, hR.2.2.1.keep hk, hR.2.2.2.1.keep hk, hR.2.2.2.2.1.keep hk, hR.2.2.2.2.2.keep hk⟩
  clear hK6
  have hbs := hb.bs
  have hfl2 : g2.fs.l.length ≤ 100000 := by rw [hg2]; show nfs.length ≤ _; rw [hnfs]; exact hfl
  have hbs2 : ∀ f ∈ g2.fs.l, f.bs.l.length ≤ 1048576 ∧ ∀ bl ∈ f.bs.l, bl.e.to.l.length ≤ 1048576 := fun f2 hf2 => by
    obtain ⟨f, hf, hr⟩ := al_mem hren.fs f2 hf2
    have h1 := hbs f hf
    refine ⟨by rw [al_len hr.bs]; exact h1.1, fun b2 hb2 => ?_⟩
    obtain ⟨b, hbb, hrb⟩ := al_mem hr.bs b2 hb2
    rw [al_len hrb.e.to]
    exact h1.2 b hbb
  have hex2 : ∀ s ∈ g2.xs.l, s.size ≤ 4611686018427387904 := by rw [hg2]; exact hb.ex
  have hmr := may_ren hren hlow hb.at_
  repeat' (first | (refine QT ?_; clear hA a; intro a hA) | (refine CT ?_ <;> repeat' refine CT ?_) | fail)
  (refine wp_draw_HS [(0, 1), (2, 1), (1, 0), (3, 0), (4, 1), (5, 1), (6, 1), (7, 1), (8, 1), (9, 1), (10, 1), (12, 1), (13, 1), (14, 1), (15, 1), (16, 1), (11, 0), (17, 0), (18, 1), (19, 1), (20, 1)] mixed (by decide +kernel) hH ?_; replace hH := hH.drew)
  repeat' (first | (refine XT ?_; apply XE; (first | (apply ex_load_st (vs := encGs g2); rfl; rfl; exact cls_cb_all MEMT) | (apply ex_load_st (vs := encGs g); rfl; rfl; exact cls_cb_all MEMT)); clear hA a; intro a hA) | (refine QT ?_; clear hA a; intro a hA) | fail)
  (refine dr_op hA rfl rfl rfl (by decide) (op_call rfl rfl rfl (May_spec _ g2 (hRG2 _ hH.frz1) hfl2 hbs2)) ?_; clear hA; rintro _ w ⟨m2, rfl, hk, hm2⟩; replace hH := hH.keep hk; clear hk; refine ⟨STT, ?_⟩; intro a hA)
  (refine dr_op hA rfl rfl rfl (by decide) (op_call rfl rfl rfl (May_spec _ g (hR.keep hH.kp) hfl hbs)) ?_; clear hA; rintro _ w ⟨m1, rfl, hk, hm1⟩; replace hH := hH.keep hk; clear hk; refine ⟨STT, ?_⟩; intro a hA)
  obtain rfl : m2 = m1 := by rw [Bool.eq_iff_iff, hm2, hm1]; exact hmr
  repeat' (first | (refine GT ?_ ?_ <;> intro hg <;> clear hA a <;> intro a hA <;> (first | exact FA | replace hg := of_decide_eq_true hg | replace hg := of_decide_eq_false hg | skip)) | (refine XT ?_; apply XE; (first | (apply ex_eqlBs; rfl; rfl) | (apply ex_min; rfl; rfl) | (apply ex_load_st (vs := encGs g2); rfl; rfl; exact cls_cb_all MEMT) | (apply ex_load_st (vs := encGs g); rfl; rfl; exact cls_cb_all MEMT)); clear hA a; intro a hA) | (refine QT ?_; clear hA a; intro a hA) | fail)
  obtain ⟨n, hn⟩ : ∃ x : Int, x = if 3000 < fuel then 3000 else fuel := ⟨_, rfl⟩
  rw [← hn] at hA
  have hn1 : n ≤ 3000 := by rw [hn]; split <;> omega
  clear hn
  (refine dr_op hA rfl rfl rfl (by decide) (op_call rfl rfl rfl (Run_spec _ g2 kd s n (hRG2 _ hH.frz1) hfl2 hbs2 hex2 hn1 (hFI.keep hH.kp))) ?_; clear hA; rintro _ w ⟨rfl, hk⟩; replace hH := hH.keep hk; clear hk; refine ⟨STT, ?_⟩; intro a hA)
  (refine dr_op hA rfl rfl rfl (by decide) (op_call rfl rfl rfl (Run_spec _ g kd s n (hR.keep hH.kp) hfl hbs hb.ex hn1 (hFI.keep hH.kp))) ?_; clear hA; rintro _ w ⟨rfl, hk⟩; replace hH := hH.keep hk; clear hk; refine ⟨STT, ?_⟩; intro a hA)
  rw [runP_ren hren hlow hb.at_ kd s n] at hA
  repeat' (first | (refine XT ?_; apply XE; (first | (apply ex_eqlOs (p := runP g kd s n); rfl; rfl)); clear hA a; intro a hA) | (refine QT ?_; clear hA a; intro a hA) | (refine CT ?_ <;> repeat' refine CT ?_) | fail)
  exact rt1 (.inl rfl) rfl hA rfl ⟨rfl, hH.kp⟩
end Go.Proofs.YtenlcdokaadobaaGreatDoor
namespace Go.Fw
open Go Go.ChangeShapes Go.WideShapes Go.ChangeAt Go.RowKit
set_option linter.unusedVariables false
section
variable {H : Type} {enc : TypeId × Value → H}
def preL (enc : TypeId × Value → H) (P : Program) (fn : Func) (s : OpenSpec) (conds : List PathCond) (laid : List (String × DataW Unit)) (w : World) (args : Array Value) : Prop :=
  (s.pre enc P fn conds false w args ∧ laidMetH P laid w) ∧ sizedMet enc P fn s false w args
theorem law_lifted_uptoL {C : Checked} {os : Os} {f : FuncId} {fn : Func} {s : ChangeSpec} {k : (H : Type) → List (DataW H) → Bool} {F : Stop.Interp} {conds : List PathCond} {tb : TypeId} {laid : List (String × DataW Unit)}
    (own : ownKnob C.prog.godebug = none) (started : os.Started) (noInit : C.prog.inits.idxOf? f = none) (hfn : C.prog.funcs[f]? = some fn)
    (witness : ∃ (w : World) (tape : Tape) (i : Input), w.os = os ∧ (w.forCall tape i).Shaped C.prog ∧ i.vars = [] ∧ Input.okWide C.prog (w.forCall tape i) .any w.heap.size f i ∧
      preL enc C.prog fn { OpenSpec.ofChange s with cond := some k } conds laid (w.forCall tape i).memory i.args ∧ ({} : Assume).holds C.prog (lone (Frame.enter C.prog f i.args .normal) [] (w.forCall tape i)))
    (hl : laidOutB C.prog = true) (hrd : fn.params.toList.all (fun t => C.prog.readableRec t && decide (t < C.prog.types.size)) = true) (hv : s.vars = [])
    (hs : ∀ ds : List (DataW H), ds.length = fn.params.size → (s.fn H (ds ++ [])).results = [.lit (.bool true)] ∧ (s.fn H (ds ++ [])).args = ds ∧ (s.fn H (ds ++ [])).vars = [])
    (hrt : fn.resultTypes = #[tb]) (hb : C.prog.underlying tb = some .bool)
    (walk : ∀ (W : World) (base : Nat) (args : Array Value) (ds : List (DataW H)) (p : List MemPlace),
      (∀ (j : Nat) t v, fn.params[j]? = some t → args[j]? = some v → Value.okWide C.prog W .any base t v) →
      DataW.TrodAll enc C.prog W 0 (fun _ => true) true fn.params.toList args.toList ds p → (∃ gs, k H (ds ++ gs) = true) → laidMetH C.prog laid W → Ret C.prog f args W (LawR W)) :
    ReturnsInHanded {} C os f .any (preL enc C.prog fn { OpenSpec.ofChange s with cond := some k } conds laid) ((({ OpenSpec.ofChange s with cond := some k } : OpenSpec).at F).post enc C.prog fn false true false false) := by
  refine returnsInHanded_of_calls own started noInit witness ?_
  intro w tape i _ _ _ hok hpre hholds
  obtain ⟨_, _, _, fn', hfn', _, _, _, _, hval⟩ := hok
  have e : fn' = fn := Option.some.inj (hfn'.symm.trans hfn)
  subst e
  obtain ⟨⟨hp0, hL⟩, hz⟩ := hpre
  obtain ⟨ds, gs, before, hw, hc, hkk⟩ := (OpenSpec.pre_some (s := { OpenSpec.ofChange s with cond := some k }) (k := k) rfl conds false _ _).1 hp0
  have hw' := DataW.Whole.of_heap (w' := w.forCall tape i) (by rfl) hw
  have hL' : laidMetH C.prog laid (w.forCall tape i) := laidMetH.of_heap (by rfl) hL
  have hA := hw'
  obtain ⟨p, q, hA, _⟩ := hA
  refine Calls.mono (walk (w.forCall tape i) w.heap.size i.args ds p hval hA ⟨gs, hkk⟩ hL') fun e W' ⟨v, he, hp⟩ => ?_
  subst he
  obtain ⟨rfl, hkp⟩ := hp
  exact ChangeSpec.post_blind (law_post hl hrd hv hs hrt hb hw' hkp)
theorem witnessL {C : Checked} {os : Os} {f : FuncId} {fn : Func} {s : OpenSpec} {k : (H : Type) → List (DataW H) → Bool} (hk : s.cond = some k) {conds : List PathCond} {laid : List (String × DataW Unit)} (w0 : World) (args : Array Value) (fuel : Nat) (hos : w0.os = os)
    (hsh : (w0.forCall (fun _ _ => 0) ⟨#[], args, []⟩).Shaped C.prog)
    (hok : Input.okWideB C.prog (w0.forCall (fun _ _ => 0) ⟨#[], args, []⟩) f ⟨#[], args, []⟩ = true)
    {x : List (DataW H) × List (DataW H) × List MemPlace} (hx : DataW.whole enc C.prog (w0.forCall (fun _ _ => 0) ⟨#[], args, []⟩).memory fn.params.toList s.vars false args.toList fuel = some x)
    (hconds : conds.all (PathCond.test C.prog ⟨fn.params.toList, x.1, s.bare.plain.varTypes C.prog, x.2.1⟩) = true) (hkk : k H (x.1 ++ x.2.1) = true)
    (hsz : s.bare.sizedB enc C.prog fn false (w0.forCall (fun _ _ => 0) ⟨#[], args, []⟩).memory args fuel = true)
    (hX : laidMetH C.prog laid (w0.forCall (fun _ _ => 0) ⟨#[], args, []⟩).memory) :
    ∃ (w : World) (tape : Tape) (i : Input), w.os = os ∧ (w.forCall tape i).Shaped C.prog ∧ i.vars = [] ∧ Input.okWide C.prog (w.forCall tape i) .any w.heap.size f i ∧
      preL enc C.prog fn s conds laid (w.forCall tape i).memory i.args ∧ ({} : Assume).holds C.prog (lone (Frame.enter C.prog f i.args .normal) [] (w.forCall tape i)) :=
  ⟨w0, fun _ _ => 0, ⟨#[], args, []⟩, hos, hsh, (Input.okWide_of_okWideB (base := 0) hok).1, (Input.okWide_of_okWideB hok).2,
    ⟨⟨(OpenSpec.pre_some hk conds false _ _).2 ⟨x.1, x.2.1, x.2.2, DataW.Whole_of_whole hx, hconds, hkk⟩, hX⟩, sizedMet_of_sizedB hsz⟩, by
    simp only [Assume.holds]
    exact ⟨by simp, by simp, fun _ => Modest.zero, by simp, by simp⟩⟩
end
end Go.Fw
namespace Go.Proofs.YtenlcdokaadobaaGreatDoor
open Go Go.Fw Go.Sort
set_option linter.unusedVariables false
theorem gPow : Tryz.prog.globalNamed "internal/strconv.uint64pow10" = some 0 := by kernel_rfl
theorem tPow : (Tryz.prog.globals[0]?).map (·.type) = some 288 := by kernel_rfl
theorem uPow : Tryz.prog.underlying 288 = some (.array 20 276) := by kernel_rfl
theorem uU64 : Tryz.prog.underlying 276 = some (.int .u64) := by kernel_rfl
theorem dPow : (Rows.laid_internal_strconv_uint64pow10 : DataW Unit) = Lib.tabData .u64 Lib.pow10Tab := by kernel_rfl
theorem tab_of_laid {W : World} (h : laidMetH Tryz.prog Rows.ssaFuelUptoRow.laid W) : Lib.TabIs Tryz.prog W "internal/strconv.uint64pow10" .u64 Lib.pow10Tab := by
  rw [MakeChecks.laidMetH_plain _ _ _ (by kernel_rfl)] at h
  obtain ⟨ps, ⟨g0, t0, cs0, f0, p0, q0, hg0, ht0, hv0, hd0, ⟨g1, t1, cs1, f1, p1, q1, hg1, ht1, hv1, hd1, ⟨g2, t2, cs2, f2, p2, q2, hg2, ht2, hv2, hd2, _, _⟩, _⟩, _⟩, _⟩ := h
  obtain rfl := Option.some.inj (gPow.symm.trans hg2)
  obtain rfl := Option.some.inj (tPow.symm.trans ht2)
  unfold Lib.TabIs
  rw [dPow] at hd2
  rw [hv2, ← Lib.cells_of_tab uPow uU64 (by kernel_rfl) (by kernel_rfl) hd2]
theorem tab_keep {w w' : World} {zs : List Int} (h : Lib.TabIs Tryz.prog w "internal/strconv.uint64pow10" .u64 zs) (hk : Kp w noM w') : Lib.TabIs Tryz.prog w' "internal/strconv.uint64pow10" .u64 zs := by
  unfold Lib.TabIs World.var? at h ⊢
  rw [gPow] at h ⊢
  simp only [Option.bind_some] at h ⊢
  have hlt : 0 < w.heap.size := by
    rcases Nat.lt_or_ge 0 w.heap.size with h' | h'
    · exact h'
    · rw [Array.getElem?_eq_none h'] at h; cases h
  rw [hk.block 0 hlt id]
  exact h
theorem Kp.grow (w : World) (k : Nat) (os : Array Obj) : Kp w noM (grow (w.drewN k) os) := by
  refine ⟨rfl, rfl, rfl, ?_, fun b hb _ => ?_⟩
  · show _ ≤ (w.heap ++ os).size
    rw [Array.size_append]
    omega
  · show (w.heap ++ os)[b]? = _
    rw [Array.getElem?_append_left hb]
theorem fi_of_tab {W : World} (h : Lib.TabIs Tryz.prog W "internal/strconv.uint64pow10" .u64 Lib.pow10Tab) : FI W := fun w hk n hn =>
  Calls.mono (Tryz.strconv_FormatInt_10 n hn.1 hn.2 w (tab_keep h hk)) fun e w' ⟨he, k, os, hw⟩ => ⟨_, he, rfl, hw ▸ Kp.grow w k os⟩
theorem fi_of_laid {W : World} (h : laidMetH Tryz.prog Rows.ssaFuelUptoRow.laid W) : FI W := fi_of_tab (tab_of_laid h)
set_option maxRecDepth 100000 in
theorem door_met (os : Os) (args : Array Value) : laidMetH Tryz.prog Rows.ssaFuelUptoRow.laid ((World.doorLaid Tryz.prog 400 os).forCall (fun _ _ => 0) ⟨#[], args, []⟩).memory :=
  laidMetH_of_parts3 (fuel := 8) (laidMet_of_run' 8 (by kernel_rfl) (by kernel_rfl)) (by kernel_rfl) (by kernel_rfl)
theorem door_shaped (os : Os) (args : Array Value) : ((World.doorLaid Tryz.prog 400 os).forCall (fun _ _ => 0) ⟨#[], args, []⟩).Shaped Tryz.prog := World.shaped_of_RefB (by kernel_rfl) (by kernel_rfl)
end Go.Proofs.YtenlcdokaadobaaGreatDoor
