/-
  ssa.Of at no function, and at one that returns five. Conditions: none.
  ssa.Run. Conditions: none.
  What comes of awake's graphs (plain). Conditions: none.
  Two outcomes are alike. Conditions: none.
  The law's awake: its graphs. Conditions: none.
  The law's large, begins; two runs. Conditions: none.
  Other names for variables: the law's higher, other. Conditions: none.
  Graphs under other names (plain): the words. Conditions: none.
  The document's check of graphs: atoms. Conditions: none.
-/
import Derived.Test.YtenlcdokaadobaaGreatDoorRowMayMg8
import Derived.ChangeKeysEq
import Derived.Laws.StructEq
import Derived.Test.YtenlcdokaadobaaGreatDoorRowMayMg4
namespace Go.Proofs.YtenlcdokaadobaaGreatDoor
open Go Go.Fw
set_option linter.unusedVariables false
def gr0s : Grs := ⟨nilV, nilV, nilV, nilV, nilV⟩
theorem flatF0 (o : Option Addr) : flat (encF o) [] = [] := rfl
theorem flatF1 (o : Option Addr) : flat (encF o) [0] = encF o 0 := by show encF o 0 ++ [] = _; rw [List.append_nil]
theorem rdv_one {α : Type} {w : World} {enc : α → List Value} {o : Option Addr} {c : Nat} {x : α} (h : Rd w o (enc x)) (hc : 1 ≤ c ∧ c ≤ maxLen) : RdV w enc ⟨o, c, [x]⟩ := ⟨by show Rd w o (enc x ++ []); rw [List.append_nil]; exact h, hc.1, hc.2⟩
theorem rdv_nil {α : Type} (w : World) (enc : α → List Value) : RdV w enc nilV := ⟨rd_empty _ _, Nat.le_refl _, Nat.zero_le _⟩
def h5 (oB oA oG o1 o2 o3 o4 : Option Addr) (cB cG c1 c2 c3 c4 : Nat) (g : Grs) : Grs := ⟨⟨oG, cG, [⟨0, ⟨oB, cB, [bl5 oA 1 5]⟩⟩]⟩, ⟨o1, c1, g.ls.l⟩, ⟨o2, c2, g.ts.l⟩, ⟨o3, c3, g.xs.l⟩, ⟨o4, c4, g.ss.l⟩⟩
theorem h5_rd {w0 w : World} {H : List It} {oB oA oG o1 o2 o3 o4 : Option Addr} {cB cG c1 c2 c3 c4 : Nat} {g : Grs} (hH : HS w0 noM (own 44 2 oG 1 cG (encG ⟨0, ⟨oB, cB, [bl5 oA 1 5]⟩⟩) :: own 53 6 oB 1 cB (encBl (bl5 oA 1 5)) :: own 65 2 oA 1 1 (encAt ⟨2, 5⟩) :: own 9 1 o1 g.ls.l.length c1 (flat encX g.ls.l) :: own 9 1 o2 g.ts.l.length c2 (flat encX g.ts.l) :: own 9 1 o3 g.xs.l.length c3 (flat encX g.xs.l) :: own 9 1 o4 g.ss.l.length c4 (flat encX g.ss.l) :: H) w) : RdGs w (h5 oB oA oG o1 o2 o3 o4 cB cG c1 c2 c3 c4 g) := by
  have hG := hH.own_rd (T := 44) (.head _)
  have hGl := hH.own_le (T := 44) (.head _)
  have hB := hH.own_rd (T := 53) (.tail _ (.head _))
  have hBl := hH.own_le (T := 53) (.tail _ (.head _))
  have hA := hH.own_rd (T := 65) (.tail _ (.tail _ (.head _)))
  have h1 := hH.own_rd (T := 9) (.tail _ (.tail _ (.tail _ (.head _))))
  have h1l := hH.own_le (T := 9) (.tail _ (.tail _ (.tail _ (.head _))))
  have h2 := hH.own_rd (T := 9) (.tail _ (.tail _ (.tail _ (.tail _ (.head _)))))
  have h2l := hH.own_le (T := 9) (.tail _ (.tail _ (.tail _ (.tail _ (.head _)))))
  have h3 := hH.own_rd (T := 9) (.tail _ (.tail _ (.tail _ (.tail _ (.tail _ (.head _))))))
  have h3l := hH.own_le (T := 9) (.tail _ (.tail _ (.tail _ (.tail _ (.tail _ (.head _))))))
  have h4 := hH.own_rd (T := 9) (.tail _ (.tail _ (.tail _ (.tail _ (.tail _ (.tail _ (.head _)))))))
  have h4l := hH.own_le (T := 9) (.tail _ (.tail _ (.tail _ (.tail _ (.tail _ (.tail _ (.head _)))))))
  refine ⟨rdv_one hG hGl, fun x hx => ?_, ⟨h1, h1l⟩, ⟨h2, h2l⟩, ⟨h3, h3l⟩, ⟨h4, h4l⟩⟩
  obtain rfl := List.mem_singleton.1 hx
  refine ⟨rdv_one hB hBl, fun b hb => ?_⟩
  obtain rfl := List.mem_singleton.1 hb
  exact ⟨rdv_nil _ _, rdv_nil _ _, fun i hi => absurd hi (List.not_mem_nil), rdv_one hA ⟨Nat.le_refl _, by decide⟩, rdv_nil _ _, rdv_nil _ _, fun x hx => absurd hx (List.not_mem_nil)⟩
set_option maxRecDepth 10000 attribute [local irreducible] Code.wp wpList Calls Ex Op1 sat bat blk cb own Go.Fw.mp Go.Fw.mpO Go.Fw.mpI Go.Fw.mpE Go.Fw.itr HS Rd Ret wkD Hp Cl Cls Exit.then Exit.inBlock Exit.noGoto bodyPost Go.Fw.flat wk2 Go.Fw.all Go.Fw.owns wpOp
attribute [local irreducible] sk mpK sko mvO entK opM Go.Fw.mset Go.Fw.mv opK

set_option maxHeartbeats 8000000 in
theorem of0_spec (w0 : World) (g : Grs) (hg : g.fs.l = []) (hls : RdV w0 encX g.ls) (hts : RdV w0 encX g.ts) (hxs : RdV w0 encX g.xs) (hss : RdV w0 encX g.ss) (o : Option Addr) (hr : Rd w0 o (encAt at5)) :
    Ret Tryz.prog 17 #[.agg (encP none 0 0 g).toArray] w0 (fun r w => r = .tuple #[.agg (encGs gr0s).toArray, .int .i64 5] ∧ Kp w0 noM w) := by
  have hH : HS w0 noM [] w0 := HS.init w0 noM
  have hno : ¬ AnfP [] g := fun h => absurd h.pos (by decide)
  (refine enter (N := 44) Tryz.func17 rfl Tryz.ntmps17 rfl ?_; intro a hA; dsimp only [sl0, Nat.reduceAdd] at hA)
  repeat' (first | (refine XT ?_; apply XE; (first | (apply ex_load_st (vs := encP none 0 0 g); rfl; rfl; exact cls_cb_all MEMT)); clear hA a; intro a hA) | (refine QT ?_; clear hA a; intro a hA) | (refine BT ?_; clear hA hH; rintro _ w ⟨bN, rfl, hH⟩ a hA) | (refine CT ?_ <;> repeat' refine CT ?_) | fail)
  (refine st_op hA rfl rfl (by decide) (op_call rfl rfl rfl (anfMay5_spec _ none 0 [] o g (by rw [flatF0]; exact rd_empty _ _) (hH.rd hr id) (by decide) (hls.keep hH.kp) (hts.keep hH.kp) (hxs.keep hH.kp) (hss.keep hH.kp))) ?_; clear hA; rintro _ w ⟨b, rfl, hb, hk⟩ a hA; replace hH := hH.keep hk; clear hk)
  obtain rfl : b = false := by
    cases b with
    | false => rfl
    | true => exact absurd (hb.1 rfl) hno
  repeat' (first | (refine XT ?_; apply XE; (first | (apply ex_build_p (cs := (encGs gr0s).toArray); rfl; exact FLT; rfl)); clear hA a; intro a hA) | (refine QT ?_; clear hA a; intro a hA) | (apply st_op0 hA rfl rfl; apply op_store_agg (vs := encGs gr0s); rfl; rfl; exact hH; (repeat constructor); (repeat rfl); clear hH; rintro _ w hH) | (refine CT ?_ <;> repeat' refine CT ?_) | fail)
  exact rt2c (vs := encGs gr0s) (.inl rfl) rfl hA rfl rfl rfl hH (cls_cb_all (by exact MEMT)) ⟨rfl, hH.kp⟩
set_option maxHeartbeats 16000000 in
theorem of1_spec (w0 : World) (g : Grs) (oF o : Option Addr) (cF : Nat) (hF : Rd w0 oF (encF o 0)) (hr : Rd w0 o (encAt at5)) (hls : RdV w0 encX g.ls) (hts : RdV w0 encX g.ts) (hxs : RdV w0 encX g.xs) (hss : RdV w0 encX g.ss)
    (hx : g.xs.l = xs4) (hl : g.ls.l = []) (ht : g.ts.l = []) (hs : g.ss.l = []) :
    Ret Tryz.prog 17 #[.agg (encP oF 1 cF g).toArray] w0 (fun r w => ∃ oB oA oG o1 o2 o3 o4 cB cG c1 c2 c3 c4, r = .tuple #[.agg (encGs (h5 oB oA oG o1 o2 o3 o4 cB cG c1 c2 c3 c4 g)).toArray, .int .i64 0] ∧ HS w0 noM (own 44 2 oG 1 cG (encG ⟨0, ⟨oB, cB, [bl5 oA 1 5]⟩⟩) :: own 53 6 oB 1 cB (encBl (bl5 oA 1 5)) :: own 65 2 oA 1 1 (encAt ⟨2, 5⟩) :: own 9 1 o1 g.ls.l.length c1 (flat encX g.ls.l) :: own 9 1 o2 g.ts.l.length c2 (flat encX g.ts.l) :: own 9 1 o3 g.xs.l.length c3 (flat encX g.xs.l) :: own 9 1 o4 g.ss.l.length c4 (flat encX g.ss.l) :: []) w) := by
  have hH : HS w0 noM [] w0 := HS.init w0 noM
  have hyes : AnfP [0] g := anf4 hx hl ht hs
  have e1 := flatF1 o
  (refine enter (N := 44) Tryz.func17 rfl Tryz.ntmps17 rfl ?_; intro a hA; dsimp only [sl0, Nat.reduceAdd] at hA)
  repeat' (first | (refine XT ?_; apply XE; (first | (apply ex_load_st (vs := encP oF 1 cF g); rfl; rfl; exact cls_cb_all MEMT)); clear hA a; intro a hA) | (refine QT ?_; clear hA a; intro a hA) | (refine BT ?_; clear hA hH; rintro _ w ⟨bN, rfl, hH⟩ a hA) | (refine CT ?_ <;> repeat' refine CT ?_) | fail)
  (refine st_op hA rfl rfl (by decide) (op_call rfl rfl rfl (anfMay5_spec _ oF cF [0] o g (by rw [e1]; exact hH.rd hF id) (hH.rd hr id) (by decide) (hls.keep hH.kp) (hts.keep hH.kp) (hxs.keep hH.kp) (hss.keep hH.kp))) ?_; clear hA; rintro _ w ⟨b, rfl, hb, hk⟩ a hA; replace hH := hH.keep hk; clear hk)
  obtain rfl : b = true := hb.2 hyes
  have key : ∃ b1 b2, HS w0 noM (cb b1 34 (encP oF 1 cF g) :: cb b2 25 (encGs gr0s) :: []) w ∧ Sl 44 [(8, .bool true), (2, .pointer (some (bat b2 0))), (1, .pointer (some (bat b1 0))), (3, .int .i64 0)] a := ⟨_, _, hH.perm PMT, (hA.sub SBT)⟩
  clear hA hH
  obtain ⟨b1, b2, hH, hA⟩ := key
  repeat' (first | (refine QT ?_; clear hA a; intro a hA) | (refine CT ?_ <;> repeat' refine CT ?_) | fail)
  have hST : HS w0 noM [cb b1 34 (encP oF 1 cF g)] w := HS.left (H1 := [_]) hH
  refine wp_drawT (qs [0, 1, 3, 4, 6, 7, 9, 10] (.two 2 13 (.two 5 13 (.two 8 13 (.two 11 13 (.q 12 (.one 13 (.one 14 .nil))) (.one 11 (.q 12 (.one 14 .nil)))) (.one 8 (.one 11 (.q 12 (.one 14 .nil))))) (.one 5 (.one 8 (.one 11 (.q 12 (.one 14 .nil)))))) (.one 2 (.one 5 (.one 8 (.one 11 (.q 12 (.one 14 .nil)))))))) (fun a w => ∃ b4 o1 o2 o3 o4 c1 c2 c3 c4, HS w0 noM (cb b4 25 [.slice none 0 0, .slice o1 g.ls.l.length c1, .slice o2 g.ts.l.length c2, .slice o3 g.xs.l.length c3, .slice o4 g.ss.l.length c4] :: own 9 1 o1 g.ls.l.length c1 (flat encX g.ls.l) :: own 9 1 o2 g.ts.l.length c2 (flat encX g.ts.l) :: own 9 1 o3 g.xs.l.length c3 (flat encX g.xs.l) :: own 9 1 o4 g.ss.l.length c4 (flat encX g.ss.l) :: cb b1 34 (encP oF 1 cF g) :: cb b2 25 (encGs gr0s) :: []) w ∧ Sl 44 [(4, .pointer (some (bat b4 0))), (2, .pointer (some (bat b2 0))), (1, .pointer (some (bat b1 0))), (3, .int .i64 0)] a) mixed (by decide +kernel) hST ?_ ?_
  · clear hST
    replace hH := hH.drew
    (repeat (apply dt_ex hA rfl rfl rfl (by decide); (first | exact EXT | exact EXT2 ); clear hA a; intro a hA))
    apply dt_two
    rotate_left
    · (apply dt_op hA rfl rfl rfl (by decide); apply op_alloc; exact hH; clear hA hH; rintro _ w ⟨bN, rfl, hH⟩; refine ⟨hH.pick (by exact MEMT), ?_⟩; intro a hA)
      (refine dt_op hA rfl rfl rfl (by decide) (op_call rfl rfl rfl (cloneX_spec _ g.ls (hls.keep hH.kp) (by rw [hl]; decide))) ?_; clear hA; rintro _ w ⟨o1, c1, rfl, hj⟩; replace hH := hH.join hj; clear hj; refine ⟨hH.pick (by exact MEMT), ?_⟩; intro a hA)
      (refine dt_op hA rfl rfl rfl (by decide) (op_call rfl rfl rfl (cloneX_spec _ g.ts (hts.keep hH.kp) (by rw [ht]; decide))) ?_; clear hA; rintro _ w ⟨o2, c2, rfl, hj⟩; replace hH := hH.join hj; clear hj; refine ⟨hH.pick (by exact MEMT), ?_⟩; intro a hA)
      (refine dt_op hA rfl rfl rfl (by decide) (op_call rfl rfl rfl (cloneX_spec _ g.xs (hxs.keep hH.kp) (by rw [hx]; decide))) ?_; clear hA; rintro _ w ⟨o3, c3, rfl, hj⟩; replace hH := hH.join hj; clear hj; refine ⟨hH.pick (by exact MEMT), ?_⟩; intro a hA)
      (refine dt_op hA rfl rfl rfl (by decide) (op_call rfl rfl rfl (cloneX_spec _ g.ss (hss.keep hH.kp) (by rw [hs]; decide))) ?_; clear hA; rintro _ w ⟨o4, c4, rfl, hj⟩; replace hH := hH.join hj; clear hj; refine ⟨hH.pick (by exact MEMT), ?_⟩; intro a hA)
      (repeat (apply dt_ex hA rfl rfl rfl (by decide); (first | exact EXT | exact EXT2 | (apply ex_build_p (cs := ([.slice none 0 0, .slice o1 g.ls.l.length c1, .slice o2 g.ts.l.length c2, .slice o3 g.xs.l.length c3, .slice o4 g.ss.l.length c4]).toArray); rfl; exact FLT; rfl)); clear hA a; intro a hA))
      (apply dt_op0 hA rfl rfl rfl; apply op_store_agg (vs := [.slice none 0 0, .slice o1 g.ls.l.length c1, .slice o2 g.ts.l.length c2, .slice o3 g.xs.l.length c3, .slice o4 g.ss.l.length c4]); rfl; rfl; exact hH; (repeat constructor); (repeat rfl); clear hH; rintro _ w hH; refine ⟨hH.pick (by exact MEMT), ?_⟩; apply dt_nil)
      exact ⟨_, o1, o2, o3, o4, c1, c2, c3, c4, hH.perm PMT, (hA.sub SBT)⟩
    (refine dt_op hA rfl rfl rfl (by decide) (op_call rfl rfl rfl (cloneX_spec _ g.ls (hls.keep hH.kp) (by rw [hl]; decide))) ?_; clear hA; rintro _ w ⟨o1, c1, rfl, hj⟩; replace hH := hH.join hj; clear hj; refine ⟨hH.pick (by exact MEMT), ?_⟩; intro a hA)
    apply dt_two
    rotate_left
    · (apply dt_op hA rfl rfl rfl (by decide); apply op_alloc; exact hH; clear hA hH; rintro _ w ⟨bN, rfl, hH⟩; refine ⟨hH.pick (by exact MEMT), ?_⟩; intro a hA)
      (refine dt_op hA rfl rfl rfl (by decide) (op_call rfl rfl rfl (cloneX_spec _ g.ts (hts.keep hH.kp) (by rw [ht]; decide))) ?_; clear hA; rintro _ w ⟨o2, c2, rfl, hj⟩; replace hH := hH.join hj; clear hj; refine ⟨hH.pick (by exact MEMT), ?_⟩; intro a hA)
      (refine dt_op hA rfl rfl rfl (by decide) (op_call rfl rfl rfl (cloneX_spec _ g.xs (hxs.keep hH.kp) (by rw [hx]; decide))) ?_; clear hA; rintro _ w ⟨o3, c3, rfl, hj⟩; replace hH := hH.join hj; clear hj; refine ⟨hH.pick (by exact MEMT), ?_⟩; intro a hA)
      (refine dt_op hA rfl rfl rfl (by decide) (op_call rfl rfl rfl (cloneX_spec _ g.ss (hss.keep hH.kp) (by rw [hs]; decide))) ?_; clear hA; rintro _ w ⟨o4, c4, rfl, hj⟩; replace hH := hH.join hj; clear hj; refine ⟨hH.pick (by exact MEMT), ?_⟩; intro a hA)
      (repeat (apply dt_ex hA rfl rfl rfl (by decide); (first | exact EXT | exact EXT2 | (apply ex_build_p (cs := ([.slice none 0 0, .slice o1 g.ls.l.length c1, .slice o2 g.ts.l.length c2, .slice o3 g.xs.l.length c3, .slice o4 g.ss.l.length c4]).toArray); rfl; exact FLT; rfl)); clear hA a; intro a hA))
      (apply dt_op0 hA rfl rfl rfl; apply op_store_agg (vs := [.slice none 0 0, .slice o1 g.ls.l.length c1, .slice o2 g.ts.l.length c2, .slice o3 g.xs.l.length c3, .slice o4 g.ss.l.length c4]); rfl; rfl; exact hH; (repeat constructor); (repeat rfl); clear hH; rintro _ w hH; refine ⟨hH.pick (by exact MEMT), ?_⟩; apply dt_nil)
      exact ⟨_, o1, o2, o3, o4, c1, c2, c3, c4, hH.perm PMT, (hA.sub SBT)⟩
    (refine dt_op hA rfl rfl rfl (by decide) (op_call rfl rfl rfl (cloneX_spec _ g.ts (hts.keep hH.kp) (by rw [ht]; decide))) ?_; clear hA; rintro _ w ⟨o2, c2, rfl, hj⟩; replace hH := hH.join hj; clear hj; refine ⟨hH.pick (by exact MEMT), ?_⟩; intro a hA)
    apply dt_two
    rotate_left
    · (apply dt_op hA rfl rfl rfl (by decide); apply op_alloc; exact hH; clear hA hH; rintro _ w ⟨bN, rfl, hH⟩; refine ⟨hH.pick (by exact MEMT), ?_⟩; intro a hA)
      (refine dt_op hA rfl rfl rfl (by decide) (op_call rfl rfl rfl (cloneX_spec _ g.xs (hxs.keep hH.kp) (by rw [hx]; decide))) ?_; clear hA; rintro _ w ⟨o3, c3, rfl, hj⟩; replace hH := hH.join hj; clear hj; refine ⟨hH.pick (by exact MEMT), ?_⟩; intro a hA)
      (refine dt_op hA rfl rfl rfl (by decide) (op_call rfl rfl rfl (cloneX_spec _ g.ss (hss.keep hH.kp) (by rw [hs]; decide))) ?_; clear hA; rintro _ w ⟨o4, c4, rfl, hj⟩; replace hH := hH.join hj; clear hj; refine ⟨hH.pick (by exact MEMT), ?_⟩; intro a hA)
      (repeat (apply dt_ex hA rfl rfl rfl (by decide); (first | exact EXT | exact EXT2 | (apply ex_build_p (cs := ([.slice none 0 0, .slice o1 g.ls.l.length c1, .slice o2 g.ts.l.length c2, .slice o3 g.xs.l.length c3, .slice o4 g.ss.l.length c4]).toArray); rfl; exact FLT; rfl)); clear hA a; intro a hA))
      (apply dt_op0 hA rfl rfl rfl; apply op_store_agg (vs := [.slice none 0 0, .slice o1 g.ls.l.length c1, .slice o2 g.ts.l.length c2, .slice o3 g.xs.l.length c3, .slice o4 g.ss.l.length c4]); rfl; rfl; exact hH; (repeat constructor); (repeat rfl); clear hH; rintro _ w hH; refine ⟨hH.pick (by exact MEMT), ?_⟩; apply dt_nil)
      exact ⟨_, o1, o2, o3, o4, c1, c2, c3, c4, hH.perm PMT, (hA.sub SBT)⟩
    (refine dt_op hA rfl rfl rfl (by decide) (op_call rfl rfl rfl (cloneX_spec _ g.xs (hxs.keep hH.kp) (by rw [hx]; decide))) ?_; clear hA; rintro _ w ⟨o3, c3, rfl, hj⟩; replace hH := hH.join hj; clear hj; refine ⟨hH.pick (by exact MEMT), ?_⟩; intro a hA)
    apply dt_two
    rotate_left
    · (apply dt_op hA rfl rfl rfl (by decide); apply op_alloc; exact hH; clear hA hH; rintro _ w ⟨bN, rfl, hH⟩; refine ⟨hH.pick (by exact MEMT), ?_⟩; intro a hA)
      (refine dt_op hA rfl rfl rfl (by decide) (op_call rfl rfl rfl (cloneX_spec _ g.ss (hss.keep hH.kp) (by rw [hs]; decide))) ?_; clear hA; rintro _ w ⟨o4, c4, rfl, hj⟩; replace hH := hH.join hj; clear hj; refine ⟨hH.pick (by exact MEMT), ?_⟩; intro a hA)
      (repeat (apply dt_ex hA rfl rfl rfl (by decide); (first | exact EXT | exact EXT2 | (apply ex_build_p (cs := ([.slice none 0 0, .slice o1 g.ls.l.length c1, .slice o2 g.ts.l.length c2, .slice o3 g.xs.l.length c3, .slice o4 g.ss.l.length c4]).toArray); rfl; exact FLT; rfl)); clear hA a; intro a hA))
      (apply dt_op0 hA rfl rfl rfl; apply op_store_agg (vs := [.slice none 0 0, .slice o1 g.ls.l.length c1, .slice o2 g.ts.l.length c2, .slice o3 g.xs.l.length c3, .slice o4 g.ss.l.length c4]); rfl; rfl; exact hH; (repeat constructor); (repeat rfl); clear hH; rintro _ w hH; refine ⟨hH.pick (by exact MEMT), ?_⟩; apply dt_nil)
      exact ⟨_, o1, o2, o3, o4, c1, c2, c3, c4, hH.perm PMT, (hA.sub SBT)⟩
    (refine dt_op hA rfl rfl rfl (by decide) (op_call rfl rfl rfl (cloneX_spec _ g.ss (hss.keep hH.kp) (by rw [hs]; decide))) ?_; clear hA; rintro _ w ⟨o4, c4, rfl, hj⟩; replace hH := hH.join hj; clear hj; refine ⟨hH.pick (by exact MEMT), ?_⟩; intro a hA)
    (repeat (apply dt_ex hA rfl rfl rfl (by decide); (first | exact EXT | exact EXT2 | (apply ex_build_p (cs := ([.slice none 0 0, .slice o1 g.ls.l.length c1, .slice o2 g.ts.l.length c2, .slice o3 g.xs.l.length c3, .slice o4 g.ss.l.length c4]).toArray); rfl; exact FLT; rfl)); clear hA a; intro a hA))
    (apply dt_op hA rfl rfl rfl (by decide); apply op_alloc; exact hH; clear hA hH; rintro _ w ⟨bN, rfl, hH⟩; refine ⟨hH.pick (by exact MEMT), ?_⟩; intro a hA)
    (apply dt_op0 hA rfl rfl rfl; apply op_store_agg (vs := [.slice none 0 0, .slice o1 g.ls.l.length c1, .slice o2 g.ts.l.length c2, .slice o3 g.xs.l.length c3, .slice o4 g.ss.l.length c4]); rfl; rfl; exact hH; (repeat constructor); (repeat rfl); clear hH; rintro _ w hH; refine ⟨hH.pick (by exact MEMT), ?_⟩; apply dt_nil)
    exact ⟨_, o1, o2, o3, o4, c1, c2, c3, c4, hH.perm PMT, (hA.sub SBT)⟩
  clear hA hH hST
  rintro a w ⟨b4, o1, o2, o3, o4, c1, c2, c3, c4, hH, hA⟩
  repeat' (first | (refine QT ?_; clear hA a; intro a hA) | (refine CT ?_ <;> repeat' refine CT ?_) | fail)
  have hspF : Sp oF 1 := hF.sp (sz := 12) rfl (by omega)
  refine wp_lpk (S := Nat) (fun i a w => ((i = 0 ∧ HS w0 noM (cb b4 25 [.slice none 0 0, .slice o1 g.ls.l.length c1, .slice o2 g.ts.l.length c2, .slice o3 g.xs.l.length c3, .slice o4 g.ss.l.length c4] :: own 9 1 o1 g.ls.l.length c1 (flat encX g.ls.l) :: own 9 1 o2 g.ts.l.length c2 (flat encX g.ts.l) :: own 9 1 o3 g.xs.l.length c3 (flat encX g.xs.l) :: own 9 1 o4 g.ss.l.length c4 (flat encX g.ss.l) :: cb b1 34 (encP oF 1 cF g) :: cb b2 25 (encGs gr0s) :: []) w) ∨ (i = 1 ∧ ∃ oB cB oA oG cG, HS w0 noM (cb b4 25 [.slice oG 1 cG, .slice o1 g.ls.l.length c1, .slice o2 g.ts.l.length c2, .slice o3 g.xs.l.length c3, .slice o4 g.ss.l.length c4] :: own 44 2 oG 1 cG (encG ⟨0, ⟨oB, cB, [bl5 oA 1 5]⟩⟩) :: own 53 6 oB 1 cB (encBl (bl5 oA 1 5)) :: own 65 2 oA 1 1 (encAt ⟨2, 5⟩) :: own 9 1 o1 g.ls.l.length c1 (flat encX g.ls.l) :: own 9 1 o2 g.ts.l.length c2 (flat encX g.ts.l) :: own 9 1 o3 g.xs.l.length c3 (flat encX g.xs.l) :: own 9 1 o4 g.ss.l.length c4 (flat encX g.ss.l) :: cb b1 34 (encP oF 1 cF g) :: cb b2 25 (encGs gr0s) :: []) w)) ∧ Sl 44 [(27, .int .i64 i), (26, .int .i64 (1 : Nat)), (25, .slice oF 1 cF), (4, .pointer (some (bat b4 0))), (2, .pointer (some (bat b2 0))), (3, .int .i64 0)] a) (fun i => 1 - i)
    (fun a w => ∃ oB cB oA oG cG, HS w0 noM (cb b4 25 [.slice oG 1 cG, .slice o1 g.ls.l.length c1, .slice o2 g.ts.l.length c2, .slice o3 g.xs.l.length c3, .slice o4 g.ss.l.length c4] :: own 44 2 oG 1 cG (encG ⟨0, ⟨oB, cB, [bl5 oA 1 5]⟩⟩) :: own 53 6 oB 1 cB (encBl (bl5 oA 1 5)) :: own 65 2 oA 1 1 (encAt ⟨2, 5⟩) :: own 9 1 o1 g.ls.l.length c1 (flat encX g.ls.l) :: own 9 1 o2 g.ts.l.length c2 (flat encX g.ts.l) :: own 9 1 o3 g.xs.l.length c3 (flat encX g.xs.l) :: own 9 1 o4 g.ss.l.length c4 (flat encX g.ss.l) :: cb b1 34 (encP oF 1 cF g) :: cb b2 25 (encGs gr0s) :: []) w ∧ Sl 44 [(4, .pointer (some (bat b4 0))), (2, .pointer (some (bat b2 0))), (3, .int .i64 0)] a) 0 ⟨.inl ⟨rfl, hH⟩, (hA.sub SBT)⟩ ?_ ?_
  · clear hA hH
    rintro i a w ⟨⟨rfl, hH⟩ | ⟨rfl, oB, cB, oA, oG, cG, hH⟩, hA⟩
    rotate_left
    · repeat' (first | (refine QT ?_; clear hA a; intro a hA) | (refine CT ?_ <;> repeat' refine CT ?_) | fail)
      exact ⟨oB, cB, oA, oG, cG, hH, (hA.sub SBT)⟩
    repeat' (first | (refine XT ?_; apply XE; (first | (apply ex_indexAddr_nat; rfl; rfl; omega; exact hspF) | (apply ex_load_st (vs := encF o 0); rfl; rfl; exact cls_rd hF id (fun i v h => (by rw [Nat.zero_mul, Nat.zero_add]; exact h)))); clear hA a; intro a hA) | (refine QT ?_; clear hA a; intro a hA) | (refine BT ?_; clear hA hH; rintro _ w ⟨bN, rfl, hH⟩ a hA) | (apply st_op0 hA rfl rfl; apply op_store_agg (vs := encF o 0); rfl; rfl; exact hH; (repeat constructor); (repeat rfl); clear hH; rintro _ w hH) | (refine CT ?_ <;> repeat' refine CT ?_) | fail)
    obtain ⟨b6, hb6⟩ : ∃ x, x = bN := ⟨_, rfl⟩
    rw [← hb6] at hA hH
    clear hb6 bN
    have hST : HS w0 noM [cb b6 72 (encF o 0), cb b4 25 [.slice none 0 0, .slice o1 g.ls.l.length c1, .slice o2 g.ts.l.length c2, .slice o3 g.xs.l.length c3, .slice o4 g.ss.l.length c4]] w := HS.left (H1 := [_, _]) hH
    replace hH := hH.nil_own 44 2
    (refine wp_draw2_HS (H := [_, _]) [(0, 1), (1, 1), (2, 1), (3, 0), (4, 0), (5, 0), (6, 1)] [7] mixed (by decide +kernel) (hST) ?_; replace hH := hH.drew)
    clear hST
    repeat' (first | (refine XT ?_; apply XE; (first | (apply ex_load_st (vs := encF o 0); rfl; rfl; exact cls_cb_all MEMT)); clear hA a; intro a hA) | (refine QT ?_; clear hA a; intro a hA) | fail)
    (refine dr_op hA rfl rfl rfl (by decide) (op_call rfl rfl rfl (graph1_spec _ o 5 (hH.rd hr id))) ?_; clear hA; rintro _ w ⟨oB, cB, oA, rfl, hj⟩; replace hH := hH.join hj; clear hj; refine ⟨HS.left (H1 := [_, _]) hH.tail.tail.tail, ?_⟩; intro a hA)
    (apply dr_op hA rfl rfl rfl (by decide); apply op_sliceLit (xs := encG ⟨0, ⟨oB, cB, [bl5 oA 1 5]⟩⟩) (vs := [.agg (encG ⟨0, ⟨oB, cB, [bl5 oA 1 5]⟩⟩).toArray]); rfl; rfl; exact (Cats.cn (cs := encG ⟨0, ⟨oB, cB, [bl5 oA 1 5]⟩⟩) Cats.nil); rfl; rfl; rfl; exact hH; clear hA hH; rintro _ w ⟨oN, rfl, hH⟩; refine ⟨HS.left (H1 := [_, _]) hH.tail.tail.tail.tail, ?_⟩; intro a hA)
    (apply dr_op hA rfl rfl rfl (by decide); apply op_append; rfl; rfl; exact hH; exact MEMT; exact (hH.own_rd (List.Mem.head _)); exact rfl; rfl; decide; exact rfl; (unfold maxLen; omega); omega; clear hA; rintro _ w ⟨oN, cN, rfl, hH2⟩; clear hH; have hH := hH2 _ (by (repeat constructor)); clear hH2; refine ⟨HS.left (H1 := [_, _]) hH.tail.tail.tail.tail, ?_⟩; intro a hA)
    repeat' (first | (refine QT ?_; clear hA a; intro a hA) | (apply dr_op03 hA rfl rfl rfl; apply op_store_fld (cs' := [.slice oN (0 + 1) cN, .slice o1 g.ls.l.length c1, .slice o2 g.ts.l.length c2, .slice o3 g.xs.l.length c3, .slice o4 g.ss.l.length c4]); rfl; rfl; rfl; exact hH; (repeat constructor); clear hH; rintro _ w hH) | (refine CT ?_ <;> repeat' refine CT ?_) | fail)
    exact ⟨1, ⟨.inr ⟨rfl, oB, cB, oA, oN, cN, ((hH.rm 0).rm 3).perm PMT⟩, (hA.sub SBT)⟩, by omega⟩
  clear hA hH
  rintro a w ⟨oB, cB, oA, oG, cG, hH, hA⟩
  obtain ⟨h, hh⟩ : ∃ h, h = h5 oB oA oG o1 o2 o3 o4 cB cG c1 c2 c3 c4 g := ⟨_, rfl⟩
  have hRh : RdGs w h := by rw [hh]; exact h5_rd (hH.perm (H' := own 44 2 oG 1 cG (encG ⟨0, ⟨oB, cB, [bl5 oA 1 5]⟩⟩) :: own 53 6 oB 1 cB (encBl (bl5 oA 1 5)) :: own 65 2 oA 1 1 (encAt ⟨2, 5⟩) :: own 9 1 o1 g.ls.l.length c1 (flat encX g.ls.l) :: own 9 1 o2 g.ts.l.length c2 (flat encX g.ts.l) :: own 9 1 o3 g.xs.l.length c3 (flat encX g.xs.l) :: own 9 1 o4 g.ss.l.length c4 (flat encX g.ss.l) :: cb b4 25 [.slice oG 1 cG, .slice o1 g.ls.l.length c1, .slice o2 g.ts.l.length c2, .slice o3 g.xs.l.length c3, .slice o4 g.ss.l.length c4] :: cb b1 34 (encP oF 1 cF g) :: cb b2 25 (encGs gr0s) :: []) PMT)
  have hfacts : h.fs = ⟨oG, cG, [⟨0, ⟨oB, cB, [bl5 oA 1 5]⟩⟩]⟩ ∧ h.xs.l = xs4 ∧ h.ls.l = [] ∧ h.ts.l = [] ∧ h.ss.l = [] := by rw [hh]; exact ⟨rfl, hx, hl, ht, hs⟩
  have hmay : MayP h := may5 (n := 5) (of := none) (oc := 0) (by decide) (by rw [hfacts.1]) hfacts.2.1 hfacts.2.2.1 hfacts.2.2.2.1 hfacts.2.2.2.2
  have hGh : encGs h = [.slice oG 1 cG, .slice o1 g.ls.l.length c1, .slice o2 g.ts.l.length c2, .slice o3 g.xs.l.length c3, .slice o4 g.ss.l.length c4] := by rw [hh]; rfl
  rw [← hGh] at hH
  repeat' (first | (refine XT ?_; apply XE; (first | (apply ex_load_st (vs := encGs h); rfl; rfl; exact cls_cb_all MEMT)); clear hA a; intro a hA) | (refine QT ?_; clear hA a; intro a hA) | (refine CT ?_ <;> repeat' refine CT ?_) | fail)
  (refine st_op hA rfl rfl (by decide) (op_call rfl rfl rfl (May_spec _ h hRh (by rw [hfacts.1]; exact (by decide : 1 ≤ 100000)) (by
    rw [hfacts.1]
    intro f hf
    obtain rfl := List.mem_singleton.1 hf
    refine ⟨by show 1 ≤ _; decide, fun bl hb => ?_⟩
    obtain rfl := List.mem_singleton.1 hb
    show 0 ≤ _; decide))) ?_; clear hA; rintro _ w ⟨b, rfl, hk, hb⟩ a hA; replace hH := hH.keep hk; replace hRh := hRh.keep hk; clear hk)
  obtain rfl : b = true := hb.2 hmay
  repeat' (first | (refine XT ?_; apply XE; (first | (apply ex_load_st (vs := encGs h); rfl; rfl; exact cls_cb_all MEMT)); clear hA a; intro a hA) | (refine QT ?_; clear hA a; intro a hA) | (apply st_op0 hA rfl rfl; apply op_store_agg (vs := encGs h); rfl; rfl; exact hH; (repeat constructor); (repeat rfl); clear hH; rintro _ w hH) | (refine CT ?_ <;> repeat' refine CT ?_) | fail)
  refine rt2c (vs := encGs h) (.inl rfl) rfl hA rfl rfl rfl hH (cls_cb_all (by exact MEMT)) ⟨oB, oA, oG, o1, o2, o3, o4, cB, cG, c1, c2, c3, c4, by rw [hh], ?_⟩
  exact ((((hH.perm (H' := own 44 2 oG 1 cG (encG ⟨0, ⟨oB, cB, [bl5 oA 1 5]⟩⟩) :: own 53 6 oB 1 cB (encBl (bl5 oA 1 5)) :: own 65 2 oA 1 1 (encAt ⟨2, 5⟩) :: own 9 1 o1 g.ls.l.length c1 (flat encX g.ls.l) :: own 9 1 o2 g.ts.l.length c2 (flat encX g.ts.l) :: own 9 1 o3 g.xs.l.length c3 (flat encX g.xs.l) :: own 9 1 o4 g.ss.l.length c4 (flat encX g.ss.l) :: cb b4 25 (encGs h) :: cb b1 34 (encP oF 1 cF g) :: cb b2 25 (encGs h) :: []) PMT).rm 7).rm 7).rm 7)
end Go.Proofs.YtenlcdokaadobaaGreatDoor
namespace Go.Proofs.YtenlcdokaadobaaGreatDoor
open Go Go.Fw
set_option linter.unusedVariables false
theorem bl_en {l : List Blc} {b : Nat} {bl : Blc} (h : l[b]? = some bl) (i : Nat) (v : Value) (hv : (encEn bl.e)[i]? = some v) : (flat encBl l)[b * 6 + 2 + i]? = some v := by
  rw [Nat.add_assoc]
  refine flat_get (off := 2 + i) encBl_len h ?_
  match i, hv with
  | 0, hv => exact hv
  | 1, hv => exact hv
  | 2, hv => exact hv
  | 3, hv => exact hv
theorem form_ns {g : Grs} {cs : List Int} {mine : Int} {r : Stp} (h : FormP g cs mine r) : r.ns.l.length ≤ r.a.l.length := by
  rcases h.ns with h1 | h1
  · rw [h1]; exact Nat.zero_le _
  · have := h.want
    unfold wantF at this
    rw [h1] at this
    simp at this
    omega
theorem step_ins {g : Grs} {kd : Int} {m : Mc} (h : m.fm.i < (curB g m.fm).is.l.length) : stepF g kd m = insF g m.fm (insAt g m.fm) m.wd m.sk := by unfold stepF; rw [if_pos h]
theorem step_last {g : Grs} {kd : Int} {m : Mc} (h : ¬ m.fm.i < (curB g m.fm).is.l.length) : stepF g kd m = lastF g kd m.fm (curB g m.fm).e m.wd m.sk := by unfold stepF; rw [if_neg h]
def cx0 (w0 : World) (n p : Nat) : Cx := ⟨fun w => RdB w p [.int .i64 0, .slice none 0 0] ∧ Kp w0 noM w, [], 65536, n⟩
theorem cx0_fn (w0 : World) (n p : Nat) (h : 0 < n) : FnR (cx0 w0 n p) 0 [] p := by
  refine ⟨none, 0, [], ⟨by decide, by show (0 : Int) < _; exact Int.natCast_pos.2 h⟩, fun w hw => hw.1, fun w hw => ⟨fun h => absurd h (Nat.lt_irrefl _), fun i v hv => by cases hv⟩, ?_⟩
  rw [RVs]
def zM : Value := Value.agg #[Value.slice none 0 0, Value.slice none 0 0, Value.int IntKind.i64 0, Value.string ByteArray.empty,
            Value.slice none 0 0, Value.slice none 0 0, Value.slice none 0 0, Value.slice none 0 0,
            Value.slice none 0 0, Value.slice none 0 0, Value.int IntKind.i64 0, Value.slice none 0 0,
            Value.pointer none, Value.map none, Value.pointer none, Value.int IntKind.i64 0, Value.pointer none,
            Value.pointer none]
theorem fill_M (g : Grs) (kd : Int) (s : ByteArray) (fuel : Int) :
    Instr.fill (fun x => ([(0, 5), (5, 5), (10, 1), (11, 1), (12, 5), (17, 1)] : List (Nat × Nat))[x]?) zM.cells [(0, .agg (encW g kd s none 0 0).toArray), (1, .agg (encGs g).toArray), (2, .int .i64 fuel)] = some (encW g kd s none 0 0 ++ enc0 g fuel).toArray := by
  simp [Instr.fill, zM, encW, encGs, enc0, Value.cells]
set_option maxRecDepth 10000 attribute [local irreducible] Code.wp wpList Calls Ex Op1 sat bat blk cb own Go.Fw.mp Go.Fw.mpO Go.Fw.mpI Go.Fw.mpE Go.Fw.itr HS Rd Ret wkD Hp Cl Cls Exit.then Exit.inBlock Exit.noGoto bodyPost Go.Fw.flat wk2 Go.Fw.all Go.Fw.owns wpOp
attribute [local irreducible] sk mpK sko mvO entK opM Go.Fw.mset Go.Fw.mv opK w63 frz obI RV idxF quoteF itoaB textF

set_option maxHeartbeats 32000000 in
theorem Run_spec (w0 : World) (g : Grs) (kd : Int) (s : ByteArray) (fuel : Int) (hR : RdGs w0 g) (hl : g.fs.l.length ≤ 100000) (hbs : ∀ f ∈ g.fs.l, f.bs.l.length ≤ 1048576 ∧ ∀ bl ∈ f.bs.l, bl.e.to.l.length ≤ 1048576) (hxs : ∀ s ∈ g.xs.l, s.size ≤ 4611686018427387904) (hfu : fuel ≤ 3000) (hFI : FI w0) :
    Ret Tryz.prog 12 #[.agg (encGs g).toArray, .int .i64 kd, .string s, .int .i64 fuel] w0 (fun v w => v = .agg (encP3 (runP g kd s fuel)).toArray ∧ Kp w0 noM w) := by
  have hH : HS w0 noM [] w0 := HS.init w0 noM
  (refine enter (N := 119) Tryz.func12 rfl Tryz.ntmps12 rfl ?_; intro a hA; dsimp only [sl0, Nat.reduceAdd] at hA)
  repeat' (first | (first | (refine GT ?_ ?_ <;> intro hg <;> clear hA a <;> intro a hA <;> (first | exact FA | replace hg := of_decide_eq_true hg | replace hg := of_decide_eq_false hg | skip)) | (refine XT ?_; apply XE; (first | (apply ex_load_st (vs := encGs g); rfl; rfl; exact cls_cb_all MEMT)); clear hA a; intro a hA) | (refine QT ?_; clear hA a; intro a hA) | (first | (refine BT ?_; clear hA hH; rintro _ w ⟨bN, rfl, hH⟩ a hA) | (refine LT ?_; clear hA hH; rintro _ w ⟨oN, rfl, hH⟩ a hA) | (refine AT ?_; clear hA; rintro _ w ⟨oN, cN, rfl, hH2⟩ a hA; clear hH; have hH := (hH2 _ (by (repeat constructor))).tail; clear hH2) | (refine S0T ?_; clear hH; rintro _ w hH) )) | ((first | refine CT ?_ | (refine DT ?_ ?_ <;> intro hc <;> try (exfalso; omega))) <;> repeat' refine CT ?_) | (first | (refine DSK ?_; clear hA a; intro a hA) | (first | (refine DLT ?_; clear hA hH; rintro _ w ⟨oN, rfl, hH⟩; refine ⟨STT, ?_⟩; intro a hA) | (refine DAT ?_; clear hA; rintro _ w ⟨oN, cN, rfl, hH2⟩; clear hH; have hH := (hH2 _ (by (repeat constructor))).tail; clear hH2; refine ⟨STT, ?_⟩; intro a hA))) )
  have key : ∃ b4 b8, HS w0 noM [cb b8 29 (encO3 0 empS empS), cb b4 25 (encGs g)] w ∧ Sl 119 [(10, .agg (encGs g).toArray), (8, .pointer (some (bat b8 0))), (4, .pointer (some (bat b4 0))), (1, .int .i64 kd), (2, .string s), (3, .int .i64 fuel)] a := ⟨_, _, hH, (hA.sub SBT)⟩
  clear hA hH
  obtain ⟨b4, b8, hH, hA⟩ := key
  (refine st_op hA rfl rfl (by decide) (op_call rfl rfl rfl (May_spec _ g (hR.keep hH.kp) hl hbs)) ?_; clear hA; rintro _ w ⟨may, rfl, hk, hmay⟩ a hA; replace hH := hH.keep hk; clear hk)
  cases may with
  | false =>
    have hno : ¬ MayP g := fun h => by cases hmay.2 h
    repeat' (first | (first | (refine GT ?_ ?_ <;> intro hg <;> clear hA a <;> intro a hA <;> (first | exact FA | replace hg := of_decide_eq_true hg | replace hg := of_decide_eq_false hg | skip)) | (refine XT ?_; apply XE; (first | (apply ex_build_p (cs := (encO3 4 empS empS).toArray); rfl; exact FLT; rfl)); clear hA a; intro a hA) | (refine QT ?_; clear hA a; intro a hA) | (first | (refine BT ?_; clear hA hH; rintro _ w ⟨bN, rfl, hH⟩ a hA) | (refine LT ?_; clear hA hH; rintro _ w ⟨oN, rfl, hH⟩ a hA) | (refine AT ?_; clear hA; rintro _ w ⟨oN, cN, rfl, hH2⟩ a hA; clear hH; have hH := (hH2 _ (by (repeat constructor))).tail; clear hH2) | (refine S0T ?_; clear hH; rintro _ w hH) | (apply st_op0 hA rfl rfl; apply op_store_agg (vs := encO3 4 empS empS); rfl; rfl; exact hH; (repeat constructor); (repeat rfl); clear hH; rintro _ w hH))) | ((first | refine CT ?_ | (refine DT ?_ ?_ <;> intro hc <;> try (exfalso; omega))) <;> repeat' refine CT ?_) | (first | (refine DSK ?_; clear hA a; intro a hA) | (first | (refine DLT ?_; clear hA hH; rintro _ w ⟨oN, rfl, hH⟩; refine ⟨STT, ?_⟩; intro a hA) | (refine DAT ?_; clear hA; rintro _ w ⟨oN, cN, rfl, hH2⟩; clear hH; have hH := (hH2 _ (by (repeat constructor))).tail; clear hH2; refine ⟨STT, ?_⟩; intro a hA))) )
    exact rt1c (vs := encO3 4 empS empS) (.inl rfl) rfl hA rfl rfl hH (cls_cb_all (by exact MEMT)) ⟨by rw [runP_f hno]; rfl, hH.kp⟩
  | true =>
  have hM := hmay.1 rfl
  repeat' (first | (first | (refine GT ?_ ?_ <;> intro hg <;> clear hA a <;> intro a hA <;> (first | exact FA | replace hg := of_decide_eq_true hg | replace hg := of_decide_eq_false hg | skip)) | (refine XT ?_; apply XE; (first | (apply ex_load_st (vs := encGs g); rfl; rfl; exact cls_cb_all MEMT) | (apply ex_build_p (cs := (encW g kd s none 0 0).toArray); rfl; exact FLT; rfl)); clear hA a; intro a hA) | (refine QT ?_; clear hA a; intro a hA) | (first | (refine BT ?_; clear hA hH; rintro _ w ⟨bN, rfl, hH⟩ a hA) | (refine LT ?_; clear hA hH; rintro _ w ⟨oN, rfl, hH⟩ a hA) | (refine AT ?_; clear hA; rintro _ w ⟨oN, cN, rfl, hH2⟩ a hA; clear hH; have hH := (hH2 _ (by (repeat constructor))).tail; clear hH2) | (refine S0T ?_; clear hH; rintro _ w hH) )) | ((first | refine CT ?_ | (refine DT ?_ ?_ <;> intro hc <;> try (exfalso; omega))) <;> repeat' refine CT ?_) | (first | (refine DSK ?_; clear hA a; intro a hA) | (first | (refine DLT ?_; clear hA hH; rintro _ w ⟨oN, rfl, hH⟩; refine ⟨STT, ?_⟩; intro a hA) | (refine DAT ?_; clear hA; rintro _ w ⟨oN, cN, rfl, hH2⟩; clear hH; have hH := (hH2 _ (by (repeat constructor))).tail; clear hH2; refine ⟨STT, ?_⟩; intro a hA))) )
  refine st_ex hA hH rfl rfl (by decide) (ex_build (szs := [(0, 5), (5, 5), (10, 1), (11, 1), (12, 5), (17, 1)]) (cs := (encW g kd s none 0 0 ++ enc0 g fuel).toArray) (run_szl (by (repeat (first | exact SzL.nil | refine SzL.cons ⟨_, rfl, by decide⟩ ?_)))) rfl ?_) ?_
  · exact fill_M g kd s fuel
  clear hA a
  intro a hA
  repeat' (first | (first | (refine GT ?_ ?_ <;> intro hg <;> clear hA a <;> intro a hA <;> (first | exact FA | replace hg := of_decide_eq_true hg | replace hg := of_decide_eq_false hg | skip)) | (refine QT ?_; clear hA a; intro a hA) | (first | (refine BT ?_; clear hA hH; rintro _ w ⟨bN, rfl, hH⟩ a hA) | (refine LT ?_; clear hA hH; rintro _ w ⟨oN, rfl, hH⟩ a hA) | (refine AT ?_; clear hA; rintro _ w ⟨oN, cN, rfl, hH2⟩ a hA; clear hH; have hH := (hH2 _ (by (repeat constructor))).tail; clear hH2) | (refine S0T ?_; clear hH; rintro _ w hH) )) | ((first | refine CT ?_ | (refine DT ?_ ?_ <;> intro hc <;> try (exfalso; omega))) <;> repeat' refine CT ?_) | (first | (refine DSK ?_; clear hA a; intro a hA) | (first | (refine DLT ?_; clear hA hH; rintro _ w ⟨oN, rfl, hH⟩; refine ⟨STT, ?_⟩; intro a hA) | (refine DAT ?_; clear hA; rintro _ w ⟨oN, cN, rfl, hH2⟩; clear hH; have hH := (hH2 _ (by (repeat constructor))).tail; clear hH2; refine ⟨STT, ?_⟩; intro a hA))) )
  obtain ⟨bM, hb3⟩ : ∃ x, x = bN := ⟨_, rfl⟩; rw [← hb3] at hA hH; clear hb3 bN
  repeat' (first | (first | (refine GT ?_ ?_ <;> intro hg <;> clear hA a <;> intro a hA <;> (first | exact FA | replace hg := of_decide_eq_true hg | replace hg := of_decide_eq_false hg | skip)) | (refine XT ?_; apply XE; (first | (apply ex_build_p (cs := #[.int .i64 0, .slice none 0 0]); rfl; exact FLT; rfl) | (apply ex_iface; rfl)); clear hA a; intro a hA) | (refine QT ?_; clear hA a; intro a hA) | (first | (refine BT ?_; clear hA hH; rintro _ w ⟨bN, rfl, hH⟩ a hA) | (refine LT ?_; clear hA hH; rintro _ w ⟨oN, rfl, hH⟩ a hA) | (refine AT ?_; clear hA; rintro _ w ⟨oN, cN, rfl, hH2⟩ a hA; clear hH; have hH := (hH2 _ (by (repeat constructor))).tail; clear hH2) | (refine S0T ?_; clear hH; rintro _ w hH) )) | ((first | refine CT ?_ | (refine DT ?_ ?_ <;> intro hc <;> try (exfalso; omega))) <;> repeat' refine CT ?_) | (first | (refine DSK ?_; clear hA a; intro a hA) | (first | (refine DLT ?_; clear hA hH; rintro _ w ⟨oN, rfl, hH⟩; refine ⟨STT, ?_⟩; intro a hA) | (refine DAT ?_; clear hA; rintro _ w ⟨oN, cN, rfl, hH2⟩; clear hH; have hH := (hH2 _ (by (repeat constructor))).tail; clear hH2; refine ⟨STT, ?_⟩; intro a hA))) )
  obtain ⟨p, hb3⟩ : ∃ x, x = bN := ⟨_, rfl⟩; rw [← hb3] at hA hH; clear hb3 bN
  obtain ⟨c, hc⟩ : ∃ c, c = cx0 w0 g.fs.l.length p := ⟨_, rfl⟩
  have hfl : 0 < g.fs.l.length := by have := hM.anf.pos; rw [List.length_map] at this; exact this
  have hne := may_ne hM
  have hfn : FnR c 0 [] p := by rw [hc]; exact cx0_fn w0 _ p hfl
  have hnf : c.nf = g.fs.l.length := by rw [hc]; rfl
  have hH1 := ((hH.frz_nil (K := fun w => Kp w0 noM w) (fun w h => h)).perm (H' := cb p 90 [.int .i64 0, .slice none 0 0] :: frz w0 (fun w => Kp w0 noM w) :: cb bM 86 (encW g kd s none 0 0 ++ enc0 g fuel) :: cb b8 29 (encO3 0 empS empS) :: cb b4 25 (encGs g) :: []) PMT).frz_cb
  have hKe : c.K = fun w => RdB w p [.int .i64 0, .slice none 0 0] ∧ Kp w0 noM w := by rw [hc]; rfl
  rw [← hKe] at hH1
  clear hH
  have hH := hH1
  clear hH1
  (refine st_op hA rfl rfl (by decide) (op_call rfl rfl rfl (enter0_spec w0 w [cb b4 25 (encGs g), cb b8 29 (encO3 0 empS empS)] c bM p g kd s fuel (hH.perm PMT) hfn hR hnf hne)) ?_; clear hA hH; rintro _ w ⟨bv, mm, hmm, hH⟩ a hA)
  have hst : StR c [] (firstM s).wd.st := ⟨by rw [hc]; rfl, rfl, fun i e l h => by cases h⟩
  have hMS : MSt w0 c bM g kd fuel (cb b8 29 (encO3 0 empS empS) :: cb b4 25 (encGs g) :: []) (firstM s) w := by
    refine ⟨none, 0, none, 0, p, bv, mm, [], [], none, ?_, hfn, hmm, rfl, hst⟩
    exact ((((hH.nil_flat encY 5 1).nil_all).nil_flat encFm 83 5).nil_all).perm PMT
  have hok0 : RunOk w0 g kd fuel.toNat s c (firstM s) fuel := ⟨rfl, first_ok hne hfl, hnf, (fun w hw => by rw [hKe] at hw; exact hw.2), hfu, (by rw [hc]; exact Nat.le_refl _), (by rw [hc]; show 65536 + _ ≤ _; omega), (by show 0 + _ ≤ _; omega), (by show 0 + _ ≤ _; omega)⟩
  clear hst hmm hH hfn hc hKe hnf
  have hA2 : Sl 119 [(9, .pointer (some (bat bM 0))), (8, .pointer (some (bat b8 0)))] a := (hA.sub SBT)
  clear hA
  have hss := hR.2.2.2.2.2.le
  have hsz := hM.anf.ss
  obtain ⟨HX, hHX⟩ : ∃ HX : List It, HX = cb b8 29 (encO3 0 empS empS) :: cb b4 25 (encGs g) :: [] := ⟨_, rfl⟩
  rw [← hHX] at hMS
  replace hA := hA2
  clear hA2
  repeat' (first | (first | (refine GT ?_ ?_ <;> intro hg <;> clear hA a <;> intro a hA <;> (first | exact FA | replace hg := of_decide_eq_true hg | replace hg := of_decide_eq_false hg | skip)) | (refine QT ?_; clear hA a; intro a hA) | (first | (refine BT ?_; clear hA hH; rintro _ w ⟨bN, rfl, hH⟩ a hA) | (refine LT ?_; clear hA hH; rintro _ w ⟨oN, rfl, hH⟩ a hA) | (refine AT ?_; clear hA; rintro _ w ⟨oN, cN, rfl, hH2⟩ a hA; clear hH; have hH := (hH2 _ (by (repeat constructor))).tail; clear hH2) | (refine S0T ?_; clear hH; rintro _ w hH) )) | ((first | refine CT ?_ | (refine DT ?_ ?_ <;> intro hc <;> try (exfalso; omega))) <;> repeat' refine CT ?_) | (first | (refine DSK ?_; clear hA a; intro a hA) | (first | (refine DLT ?_; clear hA hH; rintro _ w ⟨oN, rfl, hH⟩; refine ⟨STT, ?_⟩; intro a hA) | (refine DAT ?_; clear hA; rintro _ w ⟨oN, cN, rfl, hH2⟩; clear hH; have hH := (hH2 _ (by (repeat constructor))).tail; clear hH2; refine ⟨STT, ?_⟩; intro a hA))) )
  refine wp_lpk (S := Nat) (fun i a w => (RunG w0 g kd fuel.toNat s bM HX i w ∨ (i = 0 ∧ RunE w0 g kd fuel.toNat s bM HX w)) ∧ Sl 119 [(9, .pointer (some (bat bM 0))), (8, .pointer (some (bat b8 0)))] a) (fun i => i)
    (fun a w => RunE w0 g kd fuel.toNat s bM HX w ∧ Sl 119 [(9, .pointer (some (bat bM 0))), (8, .pointer (some (bat b8 0)))] a) (fuel.toNat + 1) ⟨.inl ⟨c, firstM s, fuel, ⟨rfl, hok0⟩, hMS⟩, (hA.sub SBT)⟩ ?_ ?_
  · clear hA hMS hok0
    rintro i a w ⟨hS, hA⟩
    rcases hS with ⟨c, m, fu, ⟨hi, hok⟩, oO, cO, oS, cS, pc, bv, mm, fms, sx, ph, hH, hpc, hmm, hfs, hst⟩ | ⟨hi, hE⟩
    rotate_left
    · obtain ⟨k, r, wd, fu, hr, oO, cO, oS, nS, cS, pc, bv, pb, pi, ph, b, hH⟩ := hE
      repeat' (first | (first | (refine GT ?_ ?_ <;> intro hg <;> clear hA a <;> intro a hA <;> (first | exact FA | replace hg := of_decide_eq_true hg | replace hg := of_decide_eq_false hg | skip)) | (refine QT ?_; clear hA a; intro a hA) | (first | (refine BT ?_; clear hA hH; rintro _ w ⟨bN, rfl, hH⟩ a hA) | (refine LT ?_; clear hA hH; rintro _ w ⟨oN, rfl, hH⟩ a hA) | (refine AT ?_; clear hA; rintro _ w ⟨oN, cN, rfl, hH2⟩ a hA; clear hH; have hH := (hH2 _ (by (repeat constructor))).tail; clear hH2) | (refine S0T ?_; clear hH; rintro _ w hH) )) | ((first | refine CT ?_ | (refine DT ?_ ?_ <;> intro hc <;> try (exfalso; omega))) <;> repeat' refine CT ?_) | (first | (refine DSK ?_; clear hA a; intro a hA) | (first | (refine DLT ?_; clear hA hH; rintro _ w ⟨oN, rfl, hH⟩; refine ⟨STT, ?_⟩; intro a hA) | (refine DAT ?_; clear hA; rintro _ w ⟨oN, cN, rfl, hH2⟩; clear hH; have hH := (hH2 _ (by (repeat constructor))).tail; clear hH2; refine ⟨STT, ?_⟩; intro a hA))) )
      exact ⟨⟨k, r, wd, fu, hr, oO, cO, oS, nS, cS, pc, bv, pb, pi, ph, b, hH⟩, (hA.sub SBT)⟩
    by_cases h0 : fu ≤ 0
    · repeat' (first | (first | (refine GT ?_ ?_ <;> intro hg <;> clear hA a <;> intro a hA <;> (first | exact FA | replace hg := of_decide_eq_true hg | replace hg := of_decide_eq_false hg | skip)) | (refine QT ?_; clear hA a; intro a hA) | (first | (refine BT ?_; clear hA hH; rintro _ w ⟨bN, rfl, hH⟩ a hA) | (refine LT ?_; clear hA hH; rintro _ w ⟨oN, rfl, hH⟩ a hA) | (refine AT ?_; clear hA; rintro _ w ⟨oN, cN, rfl, hH2⟩ a hA; clear hH; have hH := (hH2 _ (by (repeat constructor))).tail; clear hH2) | (refine S0T ?_; clear hH; rintro _ w hH) )) | ((first | refine CT ?_ | (refine DT ?_ ?_ <;> intro hc <;> try (exfalso; omega))) <;> repeat' refine CT ?_) | (first | (refine DSK ?_; clear hA a; intro a hA) | (first | (refine DLT ?_; clear hA hH; rintro _ w ⟨oN, rfl, hH⟩; refine ⟨STT, ?_⟩; intro a hA) | (refine DAT ?_; clear hA; rintro _ w ⟨oN, cN, rfl, hH2⟩; clear hH; have hH := (hH2 _ (by (repeat constructor))).tail; clear hH2; refine ⟨STT, ?_⟩; intro a hA))) )
      (refine st_op hA rfl rfl (by decide) (op_call rfl rfl rfl (stopS hH hpc hmm hfs hst 2 empS)) ?_; clear hA hH; rintro _ w hS a hA)
      repeat' (first | (first | (refine GT ?_ ?_ <;> intro hg <;> clear hA a <;> intro a hA <;> (first | exact FA | replace hg := of_decide_eq_true hg | replace hg := of_decide_eq_false hg | skip)) | (refine QT ?_; clear hA a; intro a hA) | (first | (refine BT ?_; clear hA hH; rintro _ w ⟨bN, rfl, hH⟩ a hA) | (refine LT ?_; clear hA hH; rintro _ w ⟨oN, rfl, hH⟩ a hA) | (refine AT ?_; clear hA; rintro _ w ⟨oN, cN, rfl, hH2⟩ a hA; clear hH; have hH := (hH2 _ (by (repeat constructor))).tail; clear hH2) | (refine S0T ?_; clear hH; rintro _ w hH) )) | ((first | refine CT ?_ | (refine DT ?_ ?_ <;> intro hc <;> try (exfalso; omega))) <;> repeat' refine CT ?_) | (first | (refine DSK ?_; clear hA a; intro a hA) | (first | (refine DLT ?_; clear hA hH; rintro _ w ⟨oN, rfl, hH⟩; refine ⟨STT, ?_⟩; intro a hA) | (refine DAT ?_; clear hA; rintro _ w ⟨oN, cN, rfl, hH2⟩; clear hH; have hH := (hH2 _ (by (repeat constructor))).tail; clear hH2; refine ⟨STT, ?_⟩; intro a hA))) )
      refine ⟨0, ⟨.inr ⟨rfl, 2, empS, m.wd, fu, ?_, hS⟩, (hA.sub SBT)⟩, by omega⟩
      rw [hok.run, show fu.toNat = 0 by omega]; rfl
    have hle := hR.1.le
    have hcu := cur_ok hM hok.mc.fm
    have hgR := hR.2.1 _ hcu.gr
    have hbl := hcu.bl
    have hbm := List.mem_of_getElem? hbl
    have hbR := hgR.2 _ hbm
    have hvI := bl_is hbl
    have hsizes := blk_sizes (hcu.size hM.size)
    have hspI : Sp (curB g m.fm).is.o (curB g m.fm).is.l.length := hbR.2.1.1.sp (sz := 5) (flat_length encIn_len _) (by omega)
    have htop := hok.top
    have hb1 := hok.b1
    have hb0 := hok.b0
    have hsk := hok.sk
    have hout := hok.out
    have hwr : IntKind.i64.wrap (fu - 1) = fu - 1 := wrap_i64 (by unfold i64ok; omega)
    have hnext := fun w h => run_next (bM := bM) (H := HX) (w := w) hss hM hok (by omega) h
    have hblk : blkA g m.fm.c.1 m.fm.b = some (sat (g.fs.l.getD m.fm.c.1.toNat gr0).bs.o (m.fm.b * 6)) := rfl
    rw [hblk] at hH
    by_cases hlt : m.fm.i < (curB g m.fm).is.l.length
    · have hx : (curB g m.fm).is.l[m.fm.i]? = some (insAt g m.fm) := by unfold insAt; rw [List.getD_eq_getElem?_getD, List.getElem?_eq_getElem hlt]; rfl
      have hxm := List.mem_of_getElem? hx
      obtain ⟨hF, hat⟩ := hcu.blk.ins _ _ hx
      repeat' (first | (first | (refine GT ?_ ?_ <;> intro hg <;> clear hA a <;> intro a hA <;> (first | exact FA | replace hg := of_decide_eq_true hg | replace hg := of_decide_eq_false hg | skip)) | (refine QT ?_; clear hA a; intro a hA) | (first | (refine BT ?_; clear hA hH; rintro _ w ⟨bN, rfl, hH⟩ a hA) | (refine LT ?_; clear hA hH; rintro _ w ⟨oN, rfl, hH⟩ a hA) | (refine AT ?_; clear hA; rintro _ w ⟨oN, cN, rfl, hH2⟩ a hA; clear hH; have hH := (hH2 _ (by (repeat constructor))).tail; clear hH2) | (refine S0T ?_; clear hH; rintro _ w hH) )) | ((first | refine CT ?_ | (refine DT ?_ ?_ <;> intro hc <;> try (exfalso; omega))) <;> repeat' refine CT ?_) | (first | (refine DSK ?_; clear hA a; intro a hA) | (first | (refine DLT ?_; clear hA hH; rintro _ w ⟨oN, rfl, hH⟩; refine ⟨STT, ?_⟩; intro a hA) | (refine DAT ?_; clear hA; rintro _ w ⟨oN, cN, rfl, hH2⟩; clear hH; have hH := (hH2 _ (by (repeat constructor))).tail; clear hH2; refine ⟨STT, ?_⟩; intro a hA))) )
      (refine wp_draw_HS [(0, 1), (1, 1), (2, 1), (3, 1), (4, 1), (5, 1), (6, 1), (7, 1), (8, 1), (9, 1), (10, 1), (11, 1), (12, 1), (13, 1), (14, 1), (15, 1)] mixed (by decide +kernel) hH ?_; replace hH := hH.drew)
      repeat' (first | (first | (refine GT ?_ ?_ <;> intro hg <;> clear hA a <;> intro a hA <;> (first | exact FA | replace hg := of_decide_eq_true hg | replace hg := of_decide_eq_false hg | skip)) | (refine XT ?_; apply XE; (first | (apply ex_load; rfl; exact cl_rd hgR.1.1 id hvI)); clear hA a; intro a hA) | (refine QT ?_; clear hA a; intro a hA) | (first | (refine BT ?_; clear hA hH; rintro _ w ⟨bN, rfl, hH⟩ a hA) | (refine LT ?_; clear hA hH; rintro _ w ⟨oN, rfl, hH⟩ a hA) | (refine AT ?_; clear hA; rintro _ w ⟨oN, cN, rfl, hH2⟩ a hA; clear hH; have hH := (hH2 _ (by (repeat constructor))).tail; clear hH2) | (refine S0T ?_; clear hH; rintro _ w hH) | (apply st_op0 hA rfl rfl; apply op_store_fld (cs' := encW g kd m.wd.inp oO m.wd.out.length cO ++ encR g (fu - 1) oS fms.length cS pc bv (some (sat (g.fs.l.getD m.fm.c.1.toNat gr0).bs.o (m.fm.b * 6))) m.fm.i ph none); rfl; rfl; rfl; exact hH; (repeat constructor); clear hH; rintro _ w hH))) | ((first | refine CT ?_ | (refine DT ?_ ?_ <;> intro hc <;> try (exfalso; omega))) <;> repeat' refine CT ?_) | (first | (refine DSK ?_; clear hA a; intro a hA) | (first | (refine DLT ?_; clear hA hH; rintro _ w ⟨oN, rfl, hH⟩; refine ⟨STT, ?_⟩; intro a hA) | (refine DAT ?_; clear hA; rintro _ w ⟨oN, cN, rfl, hH2⟩; clear hH; have hH := (hH2 _ (by (repeat constructor))).tail; clear hH2; refine ⟨STT, ?_⟩; intro a hA))) )
      rw [← hblk] at hH
      (refine wp_draw3_HS 10 [(0, 1), (1, 1), (2, 1), (3, 1), (4, 1), (5, 1), (6, 1), (7, 1), (8, 1), (9, 1), (10, 1), (11, 1), (12, 1), (13, 1), (14, 1), (15, 1)] [16] mixed (by decide +kernel) hH ?_; replace hH := hH.drew)
      rw [hblk] at hH
      repeat' (first | (first | (refine GT ?_ ?_ <;> intro hg <;> clear hA a <;> intro a hA <;> (first | exact FA | replace hg := of_decide_eq_true hg | replace hg := of_decide_eq_false hg | skip)) | (refine XT ?_; apply XE; (first | (apply ex_load; rfl; exact cl_rd hgR.1.1 id hvI) | (apply ex_indexAddr_nat; rfl; rfl; omega; exact hspI) | (apply ex_load_st (vs := encIn (insAt g m.fm)); rfl; rfl; exact cls_rd hbR.2.1.1 id (flat_all encIn_len hx))); clear hA a; intro a hA) | (refine QT ?_; clear hA a; intro a hA) | (first | (refine BT ?_; clear hA hH; rintro _ w ⟨bN, rfl, hH⟩ a hA) | (refine LT ?_; clear hA hH; rintro _ w ⟨oN, rfl, hH⟩ a hA) | (refine AT ?_; clear hA; rintro _ w ⟨oN, cN, rfl, hH2⟩ a hA; clear hH; have hH := (hH2 _ (by (repeat constructor))).tail; clear hH2) | (refine S0T ?_; clear hH; rintro _ w hH) )) | ((first | refine CT ?_ | (refine DT ?_ ?_ <;> intro hc <;> try (exfalso; omega))) <;> repeat' refine CT ?_) | (first | (refine DSK ?_; clear hA a; intro a hA) | (first | (refine DLT ?_; clear hA hH; rintro _ w ⟨oN, rfl, hH⟩; refine ⟨STT, ?_⟩; intro a hA) | (refine DAT ?_; clear hA; rintro _ w ⟨oN, cN, rfl, hH2⟩; clear hH; have hH := (hH2 _ (by (repeat constructor))).tail; clear hH2; refine ⟨STT, ?_⟩; intro a hA))) )
      rw [← hblk] at hH
      (refine dr_op3 hA rfl rfl rfl (by decide) (op_call rfl rfl rfl (ins_spec hH hpc hmm hfs hst (insAt g m.fm) hR hok.nf hne hsz hxs (by omega) hok.K (g.fs.l.getD m.fm.c.1.toNat gr0).caps hF (fun a ha => atS_W hss (hat a ha)) (hbR.2.2.1 _ hxm) (by have := hsizes.2.2.1 _ hxm; omega) (by have := form_ns hF; have := hsizes.2.2.1 _ hxm; omega) (by omega) (by omega) (by omega))) ?_; clear hA hH; rintro _ w hS a hA)
      rw [← step_ins hlt] at hS
      repeat' (first | (first | (refine GT ?_ ?_ <;> intro hg <;> clear hA a <;> intro a hA <;> (first | exact FA | replace hg := of_decide_eq_true hg | replace hg := of_decide_eq_false hg | skip)) | (refine QT ?_; clear hA a; intro a hA) | (first | (refine BT ?_; clear hA hH; rintro _ w ⟨bN, rfl, hH⟩ a hA) | (refine LT ?_; clear hA hH; rintro _ w ⟨oN, rfl, hH⟩ a hA) | (refine AT ?_; clear hA; rintro _ w ⟨oN, cN, rfl, hH2⟩ a hA; clear hH; have hH := (hH2 _ (by (repeat constructor))).tail; clear hH2) | (refine S0T ?_; clear hH; rintro _ w hH) )) | ((first | refine CT ?_ | (refine DT ?_ ?_ <;> intro hc <;> try (exfalso; omega))) <;> repeat' refine CT ?_) | (first | (refine DSK ?_; clear hA a; intro a hA) | (first | (refine DLT ?_; clear hA hH; rintro _ w ⟨oN, rfl, hH⟩; refine ⟨STT, ?_⟩; intro a hA) | (refine DAT ?_; clear hA; rintro _ w ⟨oN, cN, rfl, hH2⟩; clear hH; have hH := (hH2 _ (by (repeat constructor))).tail; clear hH2; refine ⟨STT, ?_⟩; intro a hA))) )
      rcases hnext _ hS with h | h
      · exact ⟨fu.toNat, ⟨.inl h, (hA.sub SBT)⟩, by omega⟩
      · exact ⟨0, ⟨.inr ⟨rfl, h⟩, (hA.sub SBT)⟩, by omega⟩
    · repeat' (first | (first | (refine GT ?_ ?_ <;> intro hg <;> clear hA a <;> intro a hA <;> (first | exact FA | replace hg := of_decide_eq_true hg | replace hg := of_decide_eq_false hg | skip)) | (refine QT ?_; clear hA a; intro a hA) | (first | (refine BT ?_; clear hA hH; rintro _ w ⟨bN, rfl, hH⟩ a hA) | (refine LT ?_; clear hA hH; rintro _ w ⟨oN, rfl, hH⟩ a hA) | (refine AT ?_; clear hA; rintro _ w ⟨oN, cN, rfl, hH2⟩ a hA; clear hH; have hH := (hH2 _ (by (repeat constructor))).tail; clear hH2) | (refine S0T ?_; clear hH; rintro _ w hH) )) | ((first | refine CT ?_ | (refine DT ?_ ?_ <;> intro hc <;> try (exfalso; omega))) <;> repeat' refine CT ?_) | (first | (refine DSK ?_; clear hA a; intro a hA) | (first | (refine DLT ?_; clear hA hH; rintro _ w ⟨oN, rfl, hH⟩; refine ⟨STT, ?_⟩; intro a hA) | (refine DAT ?_; clear hA; rintro _ w ⟨oN, cN, rfl, hH2⟩; clear hH; have hH := (hH2 _ (by (repeat constructor))).tail; clear hH2; refine ⟨STT, ?_⟩; intro a hA))) )
      (refine wp_draw_HS [(0, 1), (1, 1), (2, 1), (3, 1), (4, 1), (5, 1), (6, 1), (7, 1), (8, 1), (9, 1), (10, 1), (11, 1), (12, 1), (13, 1), (14, 1), (15, 1)] mixed (by decide +kernel) hH ?_; replace hH := hH.drew)
      repeat' (first | (first | (refine GT ?_ ?_ <;> intro hg <;> clear hA a <;> intro a hA <;> (first | exact FA | replace hg := of_decide_eq_true hg | replace hg := of_decide_eq_false hg | skip)) | (refine XT ?_; apply XE; (first | (apply ex_load; rfl; exact cl_rd hgR.1.1 id hvI) | (apply ex_load_st (vs := encEn (curB g m.fm).e); rfl; rfl; exact cls_rd hgR.1.1 id (bl_en hbl))); clear hA a; intro a hA) | (refine QT ?_; clear hA a; intro a hA) | (first | (refine BT ?_; clear hA hH; rintro _ w ⟨bN, rfl, hH⟩ a hA) | (refine LT ?_; clear hA hH; rintro _ w ⟨oN, rfl, hH⟩ a hA) | (refine AT ?_; clear hA; rintro _ w ⟨oN, cN, rfl, hH2⟩ a hA; clear hH; have hH := (hH2 _ (by (repeat constructor))).tail; clear hH2) | (refine S0T ?_; clear hH; rintro _ w hH) | (apply st_op0 hA rfl rfl; apply op_store_fld (cs' := encW g kd m.wd.inp oO m.wd.out.length cO ++ encR g (fu - 1) oS fms.length cS pc bv (some (sat (g.fs.l.getD m.fm.c.1.toNat gr0).bs.o (m.fm.b * 6))) m.fm.i ph none); rfl; rfl; rfl; exact hH; (repeat constructor); clear hH; rintro _ w hH))) | ((first | refine CT ?_ | (refine DT ?_ ?_ <;> intro hc <;> try (exfalso; omega))) <;> repeat' refine CT ?_) | (first | (refine DSK ?_; clear hA a; intro a hA) | (first | (refine DLT ?_; clear hA hH; rintro _ w ⟨oN, rfl, hH⟩; refine ⟨STT, ?_⟩; intro a hA) | (refine DAT ?_; clear hA; rintro _ w ⟨oN, cN, rfl, hH2⟩; clear hH; have hH := (hH2 _ (by (repeat constructor))).tail; clear hH2; refine ⟨STT, ?_⟩; intro a hA))) )
      rw [← hblk] at hH
      have hto : ∀ t ∈ (curB g m.fm).e.to.l, EdgOk g w0 m.fm t := fun t ht => by
        obtain ⟨e1, e2, e3, e4⟩ := hcu.edge hss ht
        have e5 := hsizes.2.2.2.2.2 t ht
        exact ⟨e1, e2, e3, e4, by omega⟩
      (refine st_op hA rfl rfl (by decide) (op_call rfl rfl rfl (last_spec hH hpc hmm hfs hst (curB g m.fm).e hR hok.nf hne hsz hxs (by omega) hcu.blk.end_ hbR.2.2.2 (fun a ha => atS_W hss (hcu.blk.ends a ha)) hto hFI (by have := hsizes.2.2.2.2.1; omega) hok.mc.sk)) ?_; clear hA hH; rintro _ w hS a hA)
      rw [← step_last hlt] at hS
      repeat' (first | (first | (refine GT ?_ ?_ <;> intro hg <;> clear hA a <;> intro a hA <;> (first | exact FA | replace hg := of_decide_eq_true hg | replace hg := of_decide_eq_false hg | skip)) | (refine QT ?_; clear hA a; intro a hA) | (first | (refine BT ?_; clear hA hH; rintro _ w ⟨bN, rfl, hH⟩ a hA) | (refine LT ?_; clear hA hH; rintro _ w ⟨oN, rfl, hH⟩ a hA) | (refine AT ?_; clear hA; rintro _ w ⟨oN, cN, rfl, hH2⟩ a hA; clear hH; have hH := (hH2 _ (by (repeat constructor))).tail; clear hH2) | (refine S0T ?_; clear hH; rintro _ w hH) )) | ((first | refine CT ?_ | (refine DT ?_ ?_ <;> intro hc <;> try (exfalso; omega))) <;> repeat' refine CT ?_) | (first | (refine DSK ?_; clear hA a; intro a hA) | (first | (refine DLT ?_; clear hA hH; rintro _ w ⟨oN, rfl, hH⟩; refine ⟨STT, ?_⟩; intro a hA) | (refine DAT ?_; clear hA; rintro _ w ⟨oN, cN, rfl, hH2⟩; clear hH; have hH := (hH2 _ (by (repeat constructor))).tail; clear hH2; refine ⟨STT, ?_⟩; intro a hA))) )
      rcases hnext _ hS with h | h
      · exact ⟨fu.toNat, ⟨.inl h, (hA.sub SBT)⟩, by omega⟩
      · exact ⟨0, ⟨.inr ⟨rfl, h⟩, (hA.sub SBT)⟩, by omega⟩
  clear hA hMS hok0
  rintro a w ⟨⟨k, r, wd, fu, hr, oO, cO, oS, nS, cS, pc, bv, pb, pi, ph, b, hH⟩, hA⟩
  subst hHX
  repeat' (first | (first | (refine GT ?_ ?_ <;> intro hg <;> clear hA a <;> intro a hA <;> (first | exact FA | replace hg := of_decide_eq_true hg | replace hg := of_decide_eq_false hg | skip)) | (refine QT ?_; clear hA a; intro a hA) | (first | (refine BT ?_; clear hA hH; rintro _ w ⟨bN, rfl, hH⟩ a hA) | (refine LT ?_; clear hA hH; rintro _ w ⟨oN, rfl, hH⟩ a hA) | (refine AT ?_; clear hA; rintro _ w ⟨oN, cN, rfl, hH2⟩ a hA; clear hH; have hH := (hH2 _ (by (repeat constructor))).tail; clear hH2) | (refine S0T ?_; clear hH; rintro _ w hH) )) | ((first | refine CT ?_ | (refine DT ?_ ?_ <;> intro hc <;> try (exfalso; omega))) <;> repeat' refine CT ?_) | (first | (refine DSK ?_; clear hA a; intro a hA) | (first | (refine DLT ?_; clear hA hH; rintro _ w ⟨oN, rfl, hH⟩; refine ⟨STT, ?_⟩; intro a hA) | (refine DAT ?_; clear hA; rintro _ w ⟨oN, cN, rfl, hH2⟩; clear hH; have hH := (hH2 _ (by (repeat constructor))).tail; clear hH2; refine ⟨STT, ?_⟩; intro a hA))) )
  (refine wp_draw2_HS [(0, 1), (1, 1), (2, 1), (3, 1), (4, 1), (5, 1), (6, 1), (7, 1), (8, 1), (9, 1), (10, 1), (11, 1)] [12] mixed (by decide +kernel) hH ?_; replace hH := hH.drew)
  repeat' (first | (first | (refine GT ?_ ?_ <;> intro hg <;> clear hA a <;> intro a hA <;> (first | exact FA | replace hg := of_decide_eq_true hg | replace hg := of_decide_eq_false hg | skip)) | (refine XT ?_; apply XE; (first | (apply ex_ofBytes (l' := wd.out); rfl; rfl; exact fun w h => h.own_rd (by exact MEMT))); clear hA a; intro a hA) | (refine QT ?_; clear hA a; intro a hA) | (first | (refine BT ?_; clear hA hH; rintro _ w ⟨bN, rfl, hH⟩ a hA) | (refine LT ?_; clear hA hH; rintro _ w ⟨oN, rfl, hH⟩ a hA) | (refine AT ?_; clear hA; rintro _ w ⟨oN, cN, rfl, hH2⟩ a hA; clear hH; have hH := (hH2 _ (by (repeat constructor))).tail; clear hH2) | (refine S0T ?_; clear hH; rintro _ w hH) | (apply dr_op03 hA rfl rfl rfl; apply op_store_fld (cs' := encO3 k (ofB wd.out) r); rfl; rfl; rfl; exact hH; (repeat constructor); clear hH; rintro _ w hH))) | ((first | refine CT ?_ | (refine DT ?_ ?_ <;> intro hc <;> try (exfalso; omega))) <;> repeat' refine CT ?_) | (first | (refine DSK ?_; clear hA a; intro a hA) | (first | (refine DLT ?_; clear hA hH; rintro _ w ⟨oN, rfl, hH⟩; refine ⟨STT, ?_⟩; intro a hA) | (refine DAT ?_; clear hA; rintro _ w ⟨oN, cN, rfl, hH2⟩; clear hH; have hH := (hH2 _ (by (repeat constructor))).tail; clear hH2; refine ⟨STT, ?_⟩; intro a hA))) )
  repeat' (first | (first | (refine GT ?_ ?_ <;> intro hg <;> clear hA a <;> intro a hA <;> (first | exact FA | replace hg := of_decide_eq_true hg | replace hg := of_decide_eq_false hg | skip)) | (refine XT ?_; apply XE; (first | (apply ex_load_st (vs := encO3 k (ofB wd.out) r); rfl; rfl; exact cls_cb_all MEMT)); clear hA a; intro a hA) | (refine QT ?_; clear hA a; intro a hA) | (first | (refine BT ?_; clear hA hH; rintro _ w ⟨bN, rfl, hH⟩ a hA) | (refine LT ?_; clear hA hH; rintro _ w ⟨oN, rfl, hH⟩ a hA) | (refine AT ?_; clear hA; rintro _ w ⟨oN, cN, rfl, hH2⟩ a hA; clear hH; have hH := (hH2 _ (by (repeat constructor))).tail; clear hH2) | (refine S0T ?_; clear hH; rintro _ w hH) | (apply st_op0 hA rfl rfl; apply op_store_agg (vs := encO3 k (ofB wd.out) r); rfl; rfl; exact hH; (repeat constructor); (repeat rfl); clear hH; rintro _ w hH))) | ((first | refine CT ?_ | (refine DT ?_ ?_ <;> intro hc <;> try (exfalso; omega))) <;> repeat' refine CT ?_) | (first | (refine DSK ?_; clear hA a; intro a hA) | (first | (refine DLT ?_; clear hA hH; rintro _ w ⟨oN, rfl, hH⟩; refine ⟨STT, ?_⟩; intro a hA) | (refine DAT ?_; clear hA; rintro _ w ⟨oN, cN, rfl, hH2⟩; clear hH; have hH := (hH2 _ (by (repeat constructor))).tail; clear hH2; refine ⟨STT, ?_⟩; intro a hA))) )
  refine rt1c (vs := encO3 k (ofB wd.out) r) (.inl rfl) rfl hA rfl rfl hH (cls_cb_all (by exact MEMT)) ⟨?_, hH.kp⟩
  rw [runP_t hM, hr]
  rfl
end Go.Proofs.YtenlcdokaadobaaGreatDoor
namespace Go.Proofs.YtenlcdokaadobaaGreatDoor
open Go Go.Fw
set_option linter.unusedVariables false
def gA (oG oB oX p0 p1 p2 p3 p4 p5 p6 p7 : Option Addr) : Grs := ⟨⟨oG, 1, [⟨0, ⟨oB, 4, [blA p0 p1 1 2, blJ p2 p3 1 1 7, blJ p4 p5 1 1 8, blR p6 p7 1 1]⟩⟩]⟩, nilV, nilV, ⟨oX, 4, xs4⟩, nilV⟩
theorem itoa_8 : itoaB 8 = ⟨#[56]⟩ := by decide +kernel
theorem itoa_5 : itoaB 5 = ⟨#[53]⟩ := by decide +kernel
theorem gA_may (oG oB oX p0 p1 p2 p3 p4 p5 p6 p7 : Option Addr) : MayP (gA oG oB oX p0 p1 p2 p3 p4 p5 p6 p7) := mayA (a0 := p0) (a1 := p1) (b0 := p2) (b1 := p3) (d0 := p4) (d1 := p5) (e0 := p6) (e1 := p7) (oB := oB) (cB := 4) rfl rfl rfl rfl rfl
theorem gA_run (oG oB oX p0 p1 p2 p3 p4 p5 p6 p7 : Option Addr) : runF (gA oG oB oX p0 p1 p2 p3 p4 p5 p6 p7) 2 9 (firstM empS) = (1, itoaB 8, ⟨empS, [], []⟩) := rfl
theorem gA_runP (oG oB oX p0 p1 p2 p3 p4 p5 p6 p7 : Option Addr) : runP (gA oG oB oX p0 p1 p2 p3 p4 p5 p6 p7) 2 empS 9 = (1, empS, ⟨#[56]⟩) := by
  rw [runP_t (gA_may ..)]
  show ((runF _ 2 9 _).1, ofB (runF _ 2 9 _).2.2.out, (runF _ 2 9 _).2.1) = _
  rw [gA_run, itoa_8]
  rfl
theorem h5_runP {h : Grs} {oG oB o1 : Option Addr} {cG cB : Nat} (hf : h.fs = ⟨oG, cG, [⟨0, ⟨oB, cB, [bl5 o1 1 5]⟩⟩]⟩) (hm : MayP h) : (runP h 2 empS 9).2.2 = ⟨#[53]⟩ := by
  obtain ⟨fs, ls, ts, xs, ss⟩ := h
  dsimp only at hf
  subst hf
  rw [runP_t hm]
  have e : runF ⟨⟨oG, cG, [⟨0, ⟨oB, cB, [bl5 o1 1 5]⟩⟩]⟩, ls, ts, xs, ss⟩ 2 9 (firstM empS) = (1, itoaB 5, ⟨empS, [], []⟩) := rfl
  show (runF _ 2 9 _).2.1 = _
  rw [e, itoa_5]
end Go.Proofs.YtenlcdokaadobaaGreatDoor
namespace Go.Fw
open Go Go.RowKit
set_option linter.unusedVariables false
theorem run_eqF3 {P : Program} {w : World} {d : Nat} {fs : List Field} {t1 t2 t3 : TypeId} {k1 k2 : Int} {a1 b1 a2 b2 : ByteArray} (h : fs.map (fun f => (f.name != "_", f.type, f.offset)) = [(true, t1, 0), (true, t2, 1), (true, t3, 2)])
    (h1 : P.underlying t1 = some (.int .i64)) (h2 : P.underlying t2 = some .string) (h3 : P.underlying t3 = some .string) (p1 : P.plainKey t1 = true) (p2 : P.plainKey t2 = true) (p3 : P.plainKey t3 = true) :
    (Op.eqFields (d + 1) #[.int .i64 k1, .string a1, .string b1] #[.int .i64 k2, .string a2, .string b2] fs).run P w = .ok (k1 == k2 && (a1.toList == a2.toList && b1.toList == b2.toList)) w := by
  rcases fs with _ | ⟨f1, _ | ⟨f2, _ | ⟨f3, _ | ⟨f4, fs⟩⟩⟩⟩
  · cases h
  · exact absurd (congrArg List.length h) (by simp)
  · exact absurd (congrArg List.length h) (by simp)
  rotate_left
  · exact absurd (congrArg List.length h) (by simp)
  · simp only [List.map_cons, List.map_nil, List.cons.injEq, Prod.mk.injEq, and_true, bne_iff_ne, ne_eq] at h
    obtain ⟨⟨n1, rfl, o1⟩, ⟨n2, rfl, o2⟩, ⟨n3, rfl, o3⟩⟩ := h
    simp only [Op.eqFields, n1, n2, n3, ne_eq, not_false_eq_true, if_true, o1, o2, o3, Sem.run_bind]
    rw [run_part_plain w p1 (v := .int .i64 k1) rfl]
    simp only [Result.andThen_ok]
    rw [run_part_plain w p1 (v := .int .i64 k2) rfl]
    simp only [Result.andThen_ok, run_equalIn_int w d _ _ .i64 k1 k2 h1]
    cases hk : k1 == k2
    · simp
    simp only [Bool.not_true, Bool.false_eq_true, if_false, Bool.true_and, Sem.run_bind]
    rw [run_part_plain w p2 (v := .string a1) rfl]
    simp only [Result.andThen_ok]
    rw [run_part_plain w p2 (v := .string a2) rfl]
    simp only [Result.andThen_ok, run_equalIn_string w d _ a1 a2 h2]
    cases ha : a1.toList == a2.toList
    · simp
    simp only [Bool.not_true, Bool.false_eq_true, if_false, Bool.true_and, Sem.run_bind]
    rw [run_part_plain w p3 (v := .string b1) rfl]
    simp only [Result.andThen_ok]
    rw [run_part_plain w p3 (v := .string b2) rfl]
    simp only [Result.andThen_ok, run_equalIn_string w d _ b1 b2 h3]
    cases hb : b1.toList == b2.toList <;> simp
theorem ex_field {P : Program} {N : Nat} {l : List (Nat × Value)} {C : World → Prop} {d : Option Tmp} {T : TypeId} {pos : String} {af : Array Edge} {g : Option (Nat × Bool)} {s : TypeId} {x : Operand} {i ft off : Nat} {fl : List (Nat × Nat)} {cs : Array Value} {v : Value} [h : TSt P s fl] (hx : ev l x = some (.agg cs)) (hf0 : nth fl i = some (ft, off)) (hp : P.plainKey ft = true) (hv : cs[off]? = some v) :
    Ex P N l C ⟨d, .field s x i, T, pos, af, g⟩ v := by
  intro a w hA _
  have hf := hf0
  rw [nth_eq] at hf
  obtain ⟨fs, h1, h2⟩ := h.eq
  have hl : fs.toList[i]?.map (fun f => (f.type, f.offset)) = some (ft, off) := by rw [← List.getElem?_map, h2, hf]
  obtain ⟨f, hfi, hfe⟩ := Option.map_eq_some_iff.1 hl
  have hfi' : fs[i]? = some f := by simpa using hfi
  simp only [Prod.mk.injEq] at hfe
  obtain ⟨rfl, rfl⟩ := hfe
  simp [execOp, hA.ev hx, Instr.field, run_underlying h1, hfi', asAgg, run_part_plain w hp hv]
theorem ex_eqlSs {P : Program} {N : Nat} {l : List (Nat × Value)} {C : World → Prop} {d : Option Tmp} {T : TypeId} {pos : String} {af : Array Edge} {gd : Option (Nat × Bool)} {t ty : TypeId} {x y : Operand} {m : ByteArray} [h : TSr P t] (hx : ev l x = some (.string m)) (hy : ev l y = some (.string m)) : Ex P N l C ⟨d, .binOp .eql t x y ty, T, pos, af, gd⟩ (.bool true) := by
  have := ex_eqlS (N := N) (C := C) (d := d) (T := T) (pos := pos) (af := af) (g := gd) (ty := ty) (h := h) hx hy
  rwa [beq_self_eq_true] at this
end Go.Fw
namespace Go.Proofs.YtenlcdokaadobaaGreatDoor
open Go Go.Fw
set_option linter.unusedVariables false
theorem fo_29 : (Tryz.prog.fieldsOf 29).toList.map (fun f => (f.name != "_", f.type, f.offset)) = [(true, 3, 0), (true, 9, 1), (true, 9, 2)] := by decide +kernel
theorem ge_29 : Tryz.prog.eqGuardType Tryz.prog.depth 29 = false := by decide +kernel
theorem st_29 : Tryz.prog.stoodInHeld 29 = false := by decide +kernel
theorem isSt_29 : (match Tryz.prog.underlying 29 with | some (.struct _) => true | _ => false) = true := by decide +kernel
theorem un_29 : Tryz.prog.underlying 29 = some (.struct (Tryz.prog.fieldsOf 29)) := by
  have h := isSt_29
  unfold Program.fieldsOf
  cases hu : Tryz.prog.underlying 29 with
  | none => rw [hu] at h; cases h
  | some d => cases d <;> rw [hu] at h <;> first | rfl | cases h
theorem pk_3 : Tryz.prog.plainKey 3 = true := by decide +kernel
theorem pk_9 : Tryz.prog.plainKey 9 = true := by decide +kernel
def eqO (a b : Int × ByteArray × ByteArray) : Bool := a.1 == b.1 && (a.2.1.toList == b.2.1.toList && a.2.2.toList == b.2.2.toList)
theorem ex_eqlO {N : Nat} {l : List (Nat × Value)} {C : World → Prop} {d : Option Tmp} {T : TypeId} {pos : String} {af : Array Edge} {gd : Option (Nat × Bool)} {ty : TypeId} {x y : Operand} {p q : Int × ByteArray × ByteArray} (hx : ev l x = some (.agg (encP3 p).toArray)) (hy : ev l y = some (.agg (encP3 q).toArray)) :
    Ex Tryz.prog N l C ⟨d, .binOp .eql 29 x y ty, T, pos, af, gd⟩ (.bool (eqO p q)) := by
  intro a w hA _
  simp only [execOp, hA.ev hx, hA.ev hy, Sem.run_bind, run_eqGuard_agg w .eql _ _ _ _ _ ge_29, Result.andThen_ok, run_eql_struct]
  rw [show (10000 : Nat) = 9999 + 1 from rfl, run_equalIn_agg w 9999 _ _ _ un_29 st_29]
  have h := run_eqF3 (P := Tryz.prog) (w := w) (d := 9998) (k1 := p.1) (k2 := q.1) (a1 := p.2.1) (b1 := p.2.2) (a2 := q.2.1) (b2 := q.2.2) fo_29 (TIn.eq (t := 3)) (TSr.eq (t := 9)) (TSr.eq (t := 9)) pk_3 pk_9 pk_9
  have e1 : (encP3 p).toArray = #[.int .i64 p.1, .string p.2.1, .string p.2.2] := rfl
  have e2 : (encP3 q).toArray = #[.int .i64 q.1, .string q.2.1, .string q.2.2] := rfl
  rw [e1, e2, h]
  rfl
theorem eqO_refl (p : Int × ByteArray × ByteArray) : eqO p p = true := by simp [eqO]
theorem ex_eqlOs {N : Nat} {l : List (Nat × Value)} {C : World → Prop} {d : Option Tmp} {T : TypeId} {pos : String} {af : Array Edge} {gd : Option (Nat × Bool)} {ty : TypeId} {x y : Operand} {p : Int × ByteArray × ByteArray} (hx : ev l x = some (.agg (encP3 p).toArray)) (hy : ev l y = some (.agg (encP3 p).toArray)) :
    Ex Tryz.prog N l C ⟨d, .binOp .eql 29 x y ty, T, pos, af, gd⟩ (.bool true) := by
  have h := ex_eqlO (N := N) (C := C) (d := d) (T := T) (pos := pos) (af := af) (gd := gd) (ty := ty) hx hy
  rwa [eqO_refl] at h
end Go.Proofs.YtenlcdokaadobaaGreatDoor
namespace Go.Proofs.YtenlcdokaadobaaGreatDoor
open Go Go.Fw
set_option linter.unusedVariables false
theorem xs4_sz : ∀ s ∈ xs4, s.size ≤ 4611686018427387904 := by decide +kernel
theorem gA_bs (oG p8 oX p0 p1 p2 p3 p4 p5 p6 p7 : Option Addr) : ∀ f ∈ (gA oG p8 oX p0 p1 p2 p3 p4 p5 p6 p7).fs.l, f.bs.l.length ≤ 1048576 ∧ ∀ bl ∈ f.bs.l, bl.e.to.l.length ≤ 1048576 := by
  intro f hf
  obtain rfl := List.mem_singleton.1 hf
  refine ⟨(by decide : 4 ≤ 1048576), fun b hb => ?_⟩
  simp only [List.mem_cons, List.not_mem_nil, or_false] at hb
  rcases hb with rfl | rfl | rfl | rfl
  · exact (by decide : 2 ≤ 1048576)
  · exact (by decide : 1 ≤ 1048576)
  · exact (by decide : 1 ≤ 1048576)
  · exact (by decide : 0 ≤ 1048576)
def zF5 : Value := .agg #[.int .i64 0, .int .i64 0, .int .i64 0, .slice none 0 0, .int .i64 0, .slice none 0 0, .int .i64 0, .int .i64 0, .slice none 0 0, .slice none 0 0, .slice none 0 0, .slice none 0 0]
theorem fill_F5 (o : Option Addr) : Instr.fill (fun x => ([(0, 1), (1, 11)] : List (Nat × Nat))[x]?) zF5.cells [(1, .agg (encB o).toArray)] = some (encF o 0).toArray := by
  simp [Instr.fill, zF5, encF, encB, Value.cells]
theorem h5_bs {oB oA oG o1 o2 o3 o4 : Option Addr} {cB cG c1 c2 c3 c4 : Nat} {g : Grs} : ∀ f ∈ (h5 oB oA oG o1 o2 o3 o4 cB cG c1 c2 c3 c4 g).fs.l, f.bs.l.length ≤ 1048576 ∧ ∀ bl ∈ f.bs.l, bl.e.to.l.length ≤ 1048576 := by
  intro f hf
  obtain rfl := List.mem_singleton.1 hf
  refine ⟨(by decide : 1 ≤ 1048576), fun b hb => ?_⟩
  obtain rfl := List.mem_singleton.1 hb
  exact (by decide : 0 ≤ 1048576)
theorem gr0s_rd (w : World) : RdGs w gr0s := ⟨rdv_nil _ _, fun x hx => absurd hx (List.not_mem_nil), rdv_nil _ _, rdv_nil _ _, rdv_nil _ _, rdv_nil _ _⟩
theorem xs4_c : flat encX xs4 = [.string ⟨#[66, 111, 117, 110, 100, 115]⟩, .string ⟨#[68, 105, 118, 105, 100, 101]⟩, .string ⟨#[77, 97, 116, 99, 104]⟩, .string ⟨#[83, 105, 122, 101]⟩] := rfl
theorem cats4 (a b c d : Blc) : Cats 6 [.agg (encBl a).toArray, .agg (encBl b).toArray, .agg (encBl c).toArray, .agg (encBl d).toArray] (flat encBl [a, b, c, d]) := Cats.cn (cs := encBl a) (Cats.cn (cs := encBl b) (Cats.cn (cs := encBl c) (Cats.cn (cs := encBl d) Cats.nil)))
theorem gA_rd {w0 w : World} {H : List It} {oG p8 oX p0 p1 p2 p3 p4 p5 p6 p7 : Option Addr} (hH : HS w0 noM (own 9 1 oX 4 4 (flat encX xs4) :: own 44 2 oG 1 1 (encG ⟨0, ⟨p8, 4, [blA p0 p1 1 2, blJ p2 p3 1 1 7, blJ p4 p5 1 1 8, blR p6 p7 1 1]⟩⟩) :: own 53 6 p8 4 4 (flat encBl [blA p0 p1 1 2, blJ p2 p3 1 1 7, blJ p4 p5 1 1 8, blR p6 p7 1 1]) :: own 65 2 p7 1 1 (encAt ⟨1, 2⟩) :: own 3 1 p6 1 1 [.int .i64 2] :: own 61 2 p5 1 1 [.int .i64 3, .slice p4 1 1] :: own 65 2 p4 1 1 (encAt ⟨2, 8⟩) :: own 61 2 p3 1 1 [.int .i64 3, .slice p2 1 1] :: own 65 2 p2 1 1 (encAt ⟨2, 7⟩) :: own 61 2 p1 2 2 [.int .i64 1, .slice none 0 0, .int .i64 2, .slice none 0 0] :: own 65 2 p0 1 1 (encAt ⟨1, 1⟩) :: H) w) : RdGs w (gA oG p8 oX p0 p1 p2 p3 p4 p5 p6 p7) := by
  have hX := hH.own_rd (T := 9) (o := oX) (n := 4) (cap := 4) (xs := flat encX xs4) (by repeat (first | exact List.Mem.head _ | apply List.Mem.tail))
  have hG := hH.own_rd (T := 44) (o := oG) (n := 1) (cap := 1) (sz := 2) (xs := encG ⟨0, ⟨p8, 4, [blA p0 p1 1 2, blJ p2 p3 1 1 7, blJ p4 p5 1 1 8, blR p6 p7 1 1]⟩⟩) (by repeat (first | exact List.Mem.head _ | apply List.Mem.tail))
  have hB := hH.own_rd (T := 53) (o := p8) (n := 4) (cap := 4) (sz := 6) (xs := flat encBl [blA p0 p1 1 2, blJ p2 p3 1 1 7, blJ p4 p5 1 1 8, blR p6 p7 1 1]) (by repeat (first | exact List.Mem.head _ | apply List.Mem.tail))
  have h0 := hH.own_rd (T := 65) (o := p0) (n := 1) (cap := 1) (sz := 2) (xs := encAt ⟨1, 1⟩) (by repeat (first | exact List.Mem.head _ | apply List.Mem.tail))
  have h1 := hH.own_rd (T := 61) (o := p1) (n := 2) (cap := 2) (sz := 2) (xs := [.int .i64 1, .slice none 0 0, .int .i64 2, .slice none 0 0]) (by repeat (first | exact List.Mem.head _ | apply List.Mem.tail))
  have h2 := hH.own_rd (T := 65) (o := p2) (n := 1) (cap := 1) (sz := 2) (xs := encAt ⟨2, 7⟩) (by repeat (first | exact List.Mem.head _ | apply List.Mem.tail))
  have h3 := hH.own_rd (T := 61) (o := p3) (n := 1) (cap := 1) (sz := 2) (xs := [.int .i64 3, .slice p2 1 1]) (by repeat (first | exact List.Mem.head _ | apply List.Mem.tail))
  have h4 := hH.own_rd (T := 65) (o := p4) (n := 1) (cap := 1) (sz := 2) (xs := encAt ⟨2, 8⟩) (by repeat (first | exact List.Mem.head _ | apply List.Mem.tail))
  have h5 := hH.own_rd (T := 61) (o := p5) (n := 1) (cap := 1) (sz := 2) (xs := [.int .i64 3, .slice p4 1 1]) (by repeat (first | exact List.Mem.head _ | apply List.Mem.tail))
  have h6 := hH.own_rd (T := 3) (o := p6) (n := 1) (cap := 1) (sz := 1) (xs := [.int .i64 2]) (by repeat (first | exact List.Mem.head _ | apply List.Mem.tail))
  have h7 := hH.own_rd (T := 65) (o := p7) (n := 1) (cap := 1) (sz := 2) (xs := encAt ⟨1, 2⟩) (by repeat (first | exact List.Mem.head _ | apply List.Mem.tail))
  have h11 : 1 ≤ 1 ∧ 1 ≤ maxLen := ⟨Nat.le_refl _, by decide⟩
  refine ⟨⟨hG, h11⟩, fun x hx => ?_, rdv_nil _ _, rdv_nil _ _, ⟨hX, Nat.le_refl 4, (by decide : 4 ≤ maxLen)⟩, rdv_nil _ _⟩
  obtain rfl := List.mem_singleton.1 hx
  refine ⟨⟨hB, Nat.le_refl 4, (by decide : 4 ≤ maxLen)⟩, fun b hb => ?_⟩
  have hb : b ∈ [blA p0 p1 1 2, blJ p2 p3 1 1 7, blJ p4 p5 1 1 8, blR p6 p7 1 1] := hb
  rcases List.mem_cons.1 hb with rfl | hb
  · refine ⟨rdv_nil _ _, rdv_nil _ _, fun i hi => absurd hi (List.not_mem_nil), ⟨h0, h11⟩, rdv_nil _ _, ⟨h1, Nat.le_refl 2, by show 2 ≤ maxLen; decide⟩, fun x hx => ?_⟩
    have hx : x ∈ [(⟨1, nilV⟩ : Edg), ⟨2, nilV⟩] := hx
    rcases List.mem_cons.1 hx with rfl | hx
    · exact rdv_nil _ _
    · obtain rfl := List.mem_singleton.1 hx
      exact rdv_nil _ _
  rcases List.mem_cons.1 hb with rfl | hb
  · refine ⟨rdv_nil _ _, rdv_nil _ _, fun i hi => absurd hi (List.not_mem_nil), rdv_nil _ _, rdv_nil _ _, ⟨h3, h11⟩, fun x hx => ?_⟩
    obtain rfl := List.mem_singleton.1 hx
    exact ⟨h2, h11⟩
  rcases List.mem_cons.1 hb with rfl | hb
  · refine ⟨rdv_nil _ _, rdv_nil _ _, fun i hi => absurd hi (List.not_mem_nil), rdv_nil _ _, rdv_nil _ _, ⟨h5, h11⟩, fun x hx => ?_⟩
    obtain rfl := List.mem_singleton.1 hx
    exact ⟨h4, h11⟩
  obtain rfl := List.mem_singleton.1 hb
  exact ⟨⟨h6, h11⟩, rdv_nil _ _, fun i hi => absurd hi (List.not_mem_nil), ⟨h7, h11⟩, rdv_nil _ _, rdv_nil _ _, fun x hx => absurd hx (List.not_mem_nil)⟩
set_option maxRecDepth 10000 attribute [local irreducible] Code.wp wpList Calls Ex Op1 sat bat blk cb own Go.Fw.mp Go.Fw.mpO Go.Fw.mpI Go.Fw.mpE Go.Fw.itr HS Rd Ret wkD Hp Cl Cls Exit.then Exit.inBlock Exit.noGoto bodyPost Go.Fw.flat wk2 Go.Fw.all Go.Fw.owns wpOp
attribute [local irreducible] sk mpK sko mvO entK opM Go.Fw.mset Go.Fw.mv opK

set_option maxHeartbeats 4000000 in
theorem num_spec (w0 : World) (n : Int) : Ret Tryz.prog 24 #[.int .i64 n] w0 (fun r w => ∃ o, r = .slice o 1 1 ∧ HS w0 noM [own 65 2 o 1 1 (encAt ⟨2, n⟩)] w) := by
  have hH : HS w0 noM [] w0 := HS.init w0 noM
  (refine enter (N := 6) Tryz.func24 rfl Tryz.ntmps24 rfl ?_; intro a hA; dsimp only [sl0, Nat.reduceAdd] at hA)
  repeat' (first | (refine XT ?_; apply XE; (first | (apply ex_build_p (cs := (encAt ⟨2, n⟩).toArray); rfl; exact FLT; rfl)); clear hA a; intro a hA) | (refine QT ?_; clear hA a; intro a hA) | (refine LT ?_; clear hA hH; rintro _ w ⟨oN, rfl, hH⟩ a hA) | (apply st_op hA rfl rfl (by decide); apply op_sliceLit (xs := encAt ⟨2, n⟩) (vs := [.agg (encAt ⟨2, n⟩).toArray]); rfl; rfl; exact (Cats.cn (cs := encAt ⟨2, n⟩) Cats.nil); rfl; rfl; rfl; exact hH; clear hA hH; rintro _ w ⟨oN, rfl, hH⟩ a hA) | (refine CT ?_ <;> repeat' refine CT ?_) | fail)
  exact rt1 (.inl rfl) rfl hA rfl ⟨_, rfl, hH⟩
set_option maxHeartbeats 4000000 in
theorem names_spec (w0 : World) (o : Option Addr) (c : Nat) (l : List Blc) : Ret Tryz.prog 23 #[.slice o l.length c] w0 (fun r w => ∃ oG oX, r = .agg ((encGs ⟨⟨oG, 1, [⟨0, ⟨o, c, l⟩⟩]⟩, nilV, nilV, ⟨oX, 4, xs4⟩, nilV⟩)).toArray ∧ HS w0 noM [own 9 1 oX 4 4 (flat encX xs4), own 44 2 oG 1 1 (encG ⟨0, ⟨o, c, l⟩⟩)] w) := by
  have hH : HS w0 noM [] w0 := HS.init w0 noM
  (refine enter (N := 8) Tryz.func23 rfl Tryz.ntmps23 rfl ?_; intro a hA; dsimp only [sl0, Nat.reduceAdd] at hA)
  repeat' (first | (refine XT ?_; apply XE; (first | (apply ex_build_p (cs := (encG ⟨0, ⟨o, c, l⟩⟩).toArray); rfl; exact FLT; rfl)); clear hA a; intro a hA) | (refine QT ?_; clear hA a; intro a hA) | (refine BT ?_; clear hA hH; rintro _ w ⟨bN, rfl, hH⟩ a hA) | (refine LT ?_; clear hA hH; rintro _ w ⟨oN, rfl, hH⟩ a hA) | (apply st_op hA rfl rfl (by decide); apply op_sliceLit (xs := encG ⟨0, ⟨o, c, l⟩⟩) (vs := [.agg (encG ⟨0, ⟨o, c, l⟩⟩).toArray]); rfl; rfl; exact (Cats.cn (cs := encG ⟨0, ⟨o, c, l⟩⟩) Cats.nil); rfl; rfl; rfl; exact hH; clear hA hH; rintro _ w ⟨oN, rfl, hH⟩ a hA) | (refine CT ?_ <;> repeat' refine CT ?_) | fail)
  have key : ∃ oG oX b2, HS w0 noM (own 9 1 oX 4 4 (flat encX xs4) :: own 44 2 oG 1 1 (encG ⟨0, ⟨o, c, l⟩⟩) :: cb b2 25 (encGs gr0s) :: []) w ∧ Sl 8 [(6, .slice oX 4 4), (5, .slice oG 1 1), (2, .pointer (some (bat b2 0)))] a := ⟨_, _, _, by rw [xs4_c]; exact hH, (hA.sub SBT)⟩
  clear hA hH
  obtain ⟨oG, oX, b2, hH, hA⟩ := key
  repeat' (first | (refine XT ?_; apply XE; (first | (apply ex_build_p (cs := ((encGs ⟨⟨oG, 1, [⟨0, ⟨o, c, l⟩⟩]⟩, nilV, nilV, ⟨oX, 4, xs4⟩, nilV⟩)).toArray); rfl; exact FLT; rfl)); clear hA a; intro a hA) | (refine QT ?_; clear hA a; intro a hA) | (apply st_op0 hA rfl rfl; apply op_store_agg (vs := (encGs ⟨⟨oG, 1, [⟨0, ⟨o, c, l⟩⟩]⟩, nilV, nilV, ⟨oX, 4, xs4⟩, nilV⟩)); rfl; rfl; exact hH; (repeat constructor); (repeat rfl); clear hH; rintro _ w hH) | (refine CT ?_ <;> repeat' refine CT ?_) | fail)
  exact rt1c (vs := (encGs ⟨⟨oG, 1, [⟨0, ⟨o, c, l⟩⟩]⟩, nilV, nilV, ⟨oX, 4, xs4⟩, nilV⟩)) (.inl rfl) rfl hA rfl rfl hH (cls_cb_all (by exact MEMT)) ⟨oG, oX, rfl, hH.rm 2⟩
set_option maxHeartbeats 16000000 in
theorem awake_spec (w0 : World) (hFI : FI w0) : Ret Tryz.prog 10 #[] w0 (fun r w => r = .bool true ∧ Kp w0 noM w) := by
  have hH : HS w0 noM [] w0 := HS.init w0 noM
  (refine enter (N := 79) Tryz.func10 rfl Tryz.ntmps10 rfl ?_; intro a hA; dsimp only [sl0, Nat.reduceAdd] at hA)
  repeat' (first | (refine XT ?_; apply XE; (first | (apply ex_build_p (cs := (encAt ⟨1, 1⟩).toArray); rfl; exact FLT; rfl)); clear hA a; intro a hA) | (refine QT ?_; clear hA a; intro a hA) | (refine LT ?_; clear hA hH; rintro _ w ⟨oN, rfl, hH⟩ a hA) | (apply st_op hA rfl rfl (by decide); apply op_sliceLit (xs := encAt ⟨1, 1⟩) (vs := [.agg (encAt ⟨1, 1⟩).toArray]); rfl; rfl; exact (Cats.cn (cs := encAt ⟨1, 1⟩) Cats.nil); rfl; rfl; rfl; exact hH; clear hA hH; rintro _ w ⟨oN, rfl, hH⟩ a hA) | (refine CT ?_ <;> repeat' refine CT ?_) | fail)
  obtain ⟨p0, hb3⟩ : ∃ x, x = oN := ⟨_, rfl⟩; rw [← hb3] at hA hH; clear hb3 oN
  repeat' (first | (refine XT ?_; apply XE; (first | (apply ex_build_p (cs := ([.int .i64 1, .slice none 0 0]).toArray); rfl; exact FLT; rfl) | (apply ex_build_p (cs := ([.int .i64 2, .slice none 0 0]).toArray); rfl; exact FLT; rfl)); clear hA a; intro a hA) | (refine QT ?_; clear hA a; intro a hA) | (refine LT ?_; clear hA hH; rintro _ w ⟨oN, rfl, hH⟩ a hA) | (apply st_op hA rfl rfl (by decide); apply op_sliceLit (xs := [.int .i64 1, .slice none 0 0, .int .i64 2, .slice none 0 0]) (vs := [.agg [.int .i64 1, .slice none 0 0].toArray, .agg [.int .i64 2, .slice none 0 0].toArray]); rfl; rfl; exact Cats.cn (cs := [.int .i64 1, .slice none 0 0]) (Cats.cn (cs := [.int .i64 2, .slice none 0 0]) Cats.nil); rfl; rfl; rfl; exact hH; clear hA hH; rintro _ w ⟨oN, rfl, hH⟩ a hA) | fail)
  obtain ⟨p1, hb3⟩ : ∃ x, x = oN := ⟨_, rfl⟩; rw [← hb3] at hA hH; clear hb3 oN
  repeat' (first | (refine XT ?_; apply XE; (first | (apply ex_build_p (cs := ([.int .i64 5, .slice p0 1 1, .slice none 0 0, .slice p1 2 2]).toArray); rfl; exact FLT; rfl) | (apply ex_build (szs := [(0, 1), (1, 1), (2, 4)]) (cs := (encBl (blA p0 p1 1 2)).toArray); exact run_szl (by (repeat (first | exact SzL.nil | refine SzL.cons ⟨_, rfl, by decide⟩ ?_))); rfl; rfl)); clear hA a; intro a hA) | (refine QT ?_; clear hA a; intro a hA) | fail)
  (refine st_op hA rfl rfl (by decide) (op_call rfl rfl rfl (num_spec _ 7)) ?_; clear hA; rintro _ w ⟨p2, rfl, hj⟩ a hA; replace hH := hH.join hj; clear hj)
  repeat' (first | (refine XT ?_; apply XE; (first | (apply ex_build_p (cs := ([.int .i64 3, .slice p2 1 1]).toArray); rfl; exact FLT; rfl)); clear hA a; intro a hA) | (refine QT ?_; clear hA a; intro a hA) | (refine LT ?_; clear hA hH; rintro _ w ⟨oN, rfl, hH⟩ a hA) | (apply st_op hA rfl rfl (by decide); apply op_sliceLit (xs := [.int .i64 3, .slice p2 1 1]) (vs := [.agg ([.int .i64 3, .slice p2 1 1]).toArray]); rfl; rfl; exact (Cats.cn (cs := [.int .i64 3, .slice p2 1 1]) Cats.nil); rfl; rfl; rfl; exact hH; clear hA hH; rintro _ w ⟨oN, rfl, hH⟩ a hA) | fail)
  obtain ⟨p3, hb3⟩ : ∃ x, x = oN := ⟨_, rfl⟩; rw [← hb3] at hA hH; clear hb3 oN
  repeat' (first | (refine XT ?_; apply XE; (first | (apply ex_build_p (cs := ([.int .i64 4, .slice none 0 0, .slice none 0 0, .slice p3 1 1]).toArray); rfl; exact FLT; rfl) | (apply ex_build (szs := [(0, 1), (1, 1), (2, 4)]) (cs := (encBl (blJ p2 p3 1 1 7)).toArray); exact run_szl (by (repeat (first | exact SzL.nil | refine SzL.cons ⟨_, rfl, by decide⟩ ?_))); rfl; rfl)); clear hA a; intro a hA) | (refine QT ?_; clear hA a; intro a hA) | fail)
  (refine st_op hA rfl rfl (by decide) (op_call rfl rfl rfl (num_spec _ 8)) ?_; clear hA; rintro _ w ⟨p4, rfl, hj⟩ a hA; replace hH := hH.join hj; clear hj)
  repeat' (first | (refine XT ?_; apply XE; (first | (apply ex_build_p (cs := ([.int .i64 3, .slice p4 1 1]).toArray); rfl; exact FLT; rfl)); clear hA a; intro a hA) | (refine QT ?_; clear hA a; intro a hA) | (refine LT ?_; clear hA hH; rintro _ w ⟨oN, rfl, hH⟩ a hA) | (apply st_op hA rfl rfl (by decide); apply op_sliceLit (xs := [.int .i64 3, .slice p4 1 1]) (vs := [.agg ([.int .i64 3, .slice p4 1 1]).toArray]); rfl; rfl; exact (Cats.cn (cs := [.int .i64 3, .slice p4 1 1]) Cats.nil); rfl; rfl; rfl; exact hH; clear hA hH; rintro _ w ⟨oN, rfl, hH⟩ a hA) | fail)
  obtain ⟨p5, hb3⟩ : ∃ x, x = oN := ⟨_, rfl⟩; rw [← hb3] at hA hH; clear hb3 oN
  repeat' (first | (refine XT ?_; apply XE; (first | (apply ex_build_p (cs := ([.int .i64 4, .slice none 0 0, .slice none 0 0, .slice p5 1 1]).toArray); rfl; exact FLT; rfl) | (apply ex_build (szs := [(0, 1), (1, 1), (2, 4)]) (cs := (encBl (blJ p4 p5 1 1 8)).toArray); exact run_szl (by (repeat (first | exact SzL.nil | refine SzL.cons ⟨_, rfl, by decide⟩ ?_))); rfl; rfl)); clear hA a; intro a hA) | (refine QT ?_; clear hA a; intro a hA) | (refine LT ?_; clear hA hH; rintro _ w ⟨oN, rfl, hH⟩ a hA) | fail)
  have key : ∃ p6 p7, HS w0 noM (own 65 2 p7 1 1 (encAt ⟨1, 2⟩) :: own 3 1 p6 1 1 [.int .i64 2] :: own 61 2 p5 1 1 [.int .i64 3, .slice p4 1 1] :: own 65 2 p4 1 1 (encAt ⟨2, 8⟩) :: own 61 2 p3 1 1 [.int .i64 3, .slice p2 1 1] :: own 65 2 p2 1 1 (encAt ⟨2, 7⟩) :: own 61 2 p1 2 2 [.int .i64 1, .slice none 0 0, .int .i64 2, .slice none 0 0] :: own 65 2 p0 1 1 (encAt ⟨1, 1⟩) :: []) w ∧ Sl 79 [(29, .slice p7 1 1), (27, .slice p6 1 1), (26, .agg (encBl (blJ p4 p5 1 1 8)).toArray), (21, .agg (encBl (blJ p2 p3 1 1 7)).toArray), (16, .agg (encBl (blA p0 p1 1 2)).toArray), (0, .bool false)] a := ⟨_, _, hH.perm PMT, (hA.sub SBT)⟩
  clear hA hH
  obtain ⟨p6, p7, hH, hA⟩ := key
  repeat' (first | (refine XT ?_; apply XE; (first | (apply ex_build_p (cs := ([.int .i64 1, .slice p7 1 1, .slice none 0 0, .slice none 0 0]).toArray); rfl; exact FLT; rfl) | (apply ex_build (szs := [(0, 1), (1, 1), (2, 4)]) (cs := (encBl (blR p6 p7 1 1)).toArray); exact run_szl (by (repeat (first | exact SzL.nil | refine SzL.cons ⟨_, rfl, by decide⟩ ?_))); rfl; rfl)); clear hA a; intro a hA) | (refine QT ?_; clear hA a; intro a hA) | (apply st_op hA rfl rfl (by decide); apply op_sliceLit (xs := flat encBl [blA p0 p1 1 2, blJ p2 p3 1 1 7, blJ p4 p5 1 1 8, blR p6 p7 1 1]) (vs := [.agg (encBl (blA p0 p1 1 2)).toArray, .agg (encBl (blJ p2 p3 1 1 7)).toArray, .agg (encBl (blJ p4 p5 1 1 8)).toArray, .agg (encBl (blR p6 p7 1 1)).toArray]); rfl; rfl; exact cats4 _ _ _ _; rfl; rfl; rfl; exact hH; clear hA hH; rintro _ w ⟨oN, rfl, hH⟩ a hA) | fail)
  obtain ⟨p8, hb3⟩ : ∃ x, x = oN := ⟨_, rfl⟩; rw [← hb3] at hA hH; clear hb3 oN
  (refine st_op hA rfl rfl (by decide) (op_call rfl rfl rfl (names_spec _ p8 4 [blA p0 p1 1 2, blJ p2 p3 1 1 7, blJ p4 p5 1 1 8, blR p6 p7 1 1])) ?_; clear hA; rintro _ w ⟨oG, oX, rfl, hj⟩ a hA; replace hH := hH.join hj; clear hj)
  obtain ⟨g, hg⟩ : ∃ g, g = gA oG p8 oX p0 p1 p2 p3 p4 p5 p6 p7 := ⟨_, rfl⟩
  have hGA : encGs ⟨⟨oG, 1, [⟨0, ⟨p8, 4, [blA p0 p1 1 2, blJ p2 p3 1 1 7, blJ p4 p5 1 1 8, blR p6 p7 1 1]⟩⟩]⟩, nilV, nilV, ⟨oX, 4, xs4⟩, nilV⟩ = encGs g := by rw [hg]; rfl
  rw [hGA] at hA
  replace hH := hH.perm (H' := own 9 1 oX 4 4 (flat encX xs4) :: own 44 2 oG 1 1 (encG ⟨0, ⟨p8, 4, [blA p0 p1 1 2, blJ p2 p3 1 1 7, blJ p4 p5 1 1 8, blR p6 p7 1 1]⟩⟩) :: own 53 6 p8 4 4 (flat encBl [blA p0 p1 1 2, blJ p2 p3 1 1 7, blJ p4 p5 1 1 8, blR p6 p7 1 1]) :: own 65 2 p7 1 1 (encAt ⟨1, 2⟩) :: own 3 1 p6 1 1 [.int .i64 2] :: own 61 2 p5 1 1 [.int .i64 3, .slice p4 1 1] :: own 65 2 p4 1 1 (encAt ⟨2, 8⟩) :: own 61 2 p3 1 1 [.int .i64 3, .slice p2 1 1] :: own 65 2 p2 1 1 (encAt ⟨2, 7⟩) :: own 61 2 p1 2 2 [.int .i64 1, .slice none 0 0, .int .i64 2, .slice none 0 0] :: own 65 2 p0 1 1 (encAt ⟨1, 1⟩) :: []) PMT
  have hRg : RdGs w g := by rw [hg]; exact gA_rd (H := []) hH
  have hMg : MayP g := by rw [hg]; exact gA_may ..
  repeat' (first | (refine QT ?_; clear hA a; intro a hA) | (refine BT ?_; clear hA hH; rintro _ w ⟨bN, rfl, hH⟩ a hA) | (apply st_op0 hA rfl rfl; apply op_store_agg (vs := encGs g); rfl; rfl; exact hH; (repeat constructor); (repeat rfl); clear hH; rintro _ w hH) | (refine CT ?_ <;> repeat' refine CT ?_) | fail)
  obtain ⟨b2, hb3⟩ : ∃ x, x = bN := ⟨_, rfl⟩; rw [← hb3] at hA hH; clear hb3 bN
  have hxs : ∀ s ∈ g.xs.l, s.size ≤ 4611686018427387904 := by rw [hg]; exact xs4_sz
  have hfl : g.fs.l.length ≤ 100000 := by rw [hg]; exact (by decide : 1 ≤ 100000)
  have hbs : ∀ f ∈ g.fs.l, f.bs.l.length ≤ 1048576 ∧ ∀ bl ∈ f.bs.l, bl.e.to.l.length ≤ 1048576 := by rw [hg]; exact fun f hf => gA_bs _ _ _ _ _ _ _ _ _ _ _ f hf
  have hrun : encP3 (runP g 2 ⟨#[]⟩ 9) = encO3 1 empS ⟨#[56]⟩ := by rw [hg]; exact congrArg encP3 (gA_runP ..)
  have hR1 : RdGs w g := by rw [hg]; exact gA_rd (H := []) hH.tail
  repeat' (first | (refine XT ?_; apply XE; (first | (apply ex_load_st (vs := encGs g); rfl; rfl; exact cls_cb_all MEMT)); clear hA a; intro a hA) | (refine QT ?_; clear hA a; intro a hA) | fail)
  (refine st_op hA rfl rfl (by decide) (op_call rfl rfl rfl (Run_spec _ g 2 ⟨#[]⟩ 9 hR1 hfl hbs hxs (by decide) (hFI.keep hH.kp))) ?_; clear hA; rintro _ w ⟨rfl, hk⟩ a hA; replace hH := hH.keep hk; clear hk hR1)
  rw [hrun] at hA
  repeat' (first | (refine QT ?_; clear hA a; intro a hA) | (refine BT ?_; clear hA hH; rintro _ w ⟨bN, rfl, hH⟩ a hA) | (apply st_op0 hA rfl rfl; apply op_store_agg (vs := encO3 1 empS ⟨#[56]⟩); rfl; rfl; exact hH; (repeat constructor); (repeat rfl); clear hH; rintro _ w hH) | (refine CT ?_ <;> repeat' refine CT ?_) | fail)
  obtain ⟨b3, hb3⟩ : ∃ x, x = bN := ⟨_, rfl⟩; rw [← hb3] at hA hH; clear hb3 bN
  have hST : HS w0 noM [cb b2 25 (encGs g)] w := HS.left (H1 := [_]) hH.tail
  refine wp_drawT (qs [4, 5] (.two 0 7 (qs [1, 2] (.two 3 7 (.q 6 (.one 7 (.one 8 .nil))) (.one 3 (.q 6 (.one 8 .nil))))) (.one 0 (qs [1, 2] (.one 3 (.q 6 (.one 8 .nil))))))) (fun a w => ∃ b4 oA oF, HS w0 noM (cb b4 34 (encP oF 1 1 (⟨nilV, nilV, nilV, g.xs, nilV⟩ : Grs)) :: own 72 12 oF 1 1 (encF oA 0) :: own 65 2 oA 1 1 (encAt ⟨2, 5⟩) :: cb b3 29 (encO3 1 empS ⟨#[56]⟩) :: cb b2 25 (encGs g) :: own 9 1 oX 4 4 (flat encX xs4) :: own 44 2 oG 1 1 (encG ⟨0, ⟨p8, 4, [blA p0 p1 1 2, blJ p2 p3 1 1 7, blJ p4 p5 1 1 8, blR p6 p7 1 1]⟩⟩) :: own 53 6 p8 4 4 (flat encBl [blA p0 p1 1 2, blJ p2 p3 1 1 7, blJ p4 p5 1 1 8, blR p6 p7 1 1]) :: own 65 2 p7 1 1 (encAt ⟨1, 2⟩) :: own 3 1 p6 1 1 [.int .i64 2] :: own 61 2 p5 1 1 [.int .i64 3, .slice p4 1 1] :: own 65 2 p4 1 1 (encAt ⟨2, 8⟩) :: own 61 2 p3 1 1 [.int .i64 3, .slice p2 1 1] :: own 65 2 p2 1 1 (encAt ⟨2, 7⟩) :: own 61 2 p1 2 2 [.int .i64 1, .slice none 0 0, .int .i64 2, .slice none 0 0] :: own 65 2 p0 1 1 (encAt ⟨1, 1⟩) :: []) w ∧
    Sl 79 [(4, .pointer (some (bat b4 0))), (3, .pointer (some (bat b3 0))), (2, .pointer (some (bat b2 0))), (0, .bool false)] a) mixed (by decide +kernel) hST ?_ ?_
  · clear hST
    replace hH := hH.drew
    (repeat (apply dt_ex hA rfl rfl rfl (by decide); (first | exact EXT | exact EXT2 ); clear hA a; intro a hA))
    apply dt_two
    rotate_left
    · (apply dt_op hA rfl rfl rfl (by decide); apply op_alloc; exact hH; clear hA hH; rintro _ w ⟨bN, rfl, hH⟩; refine ⟨hH.pick (by exact MEMT), ?_⟩; intro a hA)
      (refine dt_op hA rfl rfl rfl (by decide) (op_call rfl rfl rfl (num_spec _ 5)) ?_; clear hA; rintro _ w ⟨oA, rfl, hj⟩; replace hH := hH.join hj; clear hj; refine ⟨hH.pick (by exact MEMT), ?_⟩; intro a hA)
      (repeat (apply dt_ex hA rfl rfl rfl (by decide); (first | exact EXT | exact EXT2 | (apply ex_build (szs := [(0, 1), (1, 1), (2, 1), (3, 1), (4, 1), (5, 4), (9, 1), (10, 1)]) (cs := (encB oA).toArray); exact run_szl (by (repeat (first | exact SzL.nil | refine SzL.cons ⟨_, rfl, by decide⟩ ?_))); rfl; rfl) | (apply ex_build (szs := [(0, 1), (1, 11)]) (cs := (encF oA 0).toArray); exact run_szl (by (repeat (first | exact SzL.nil | refine SzL.cons ⟨_, rfl, by decide⟩ ?_))); rfl; exact fill_F5 oA)); clear hA a; intro a hA))
      (apply dt_op hA rfl rfl rfl (by decide); apply op_sliceLit (xs := encF oA 0) (vs := [.agg (encF oA 0).toArray]); rfl; rfl; exact (Cats.cn (cs := encF oA 0) Cats.nil); rfl; rfl; rfl; exact hH; clear hA hH; rintro _ w ⟨oN, rfl, hH⟩; refine ⟨hH.pick (by exact MEMT), ?_⟩; intro a hA)
      (repeat (apply dt_ex hA rfl rfl rfl (by decide); (first | exact EXT | exact EXT2 | (apply ex_build_p (cs := (encP oN 1 1 (⟨nilV, nilV, nilV, g.xs, nilV⟩ : Grs)).toArray); rfl; exact FLT; rfl)); clear hA a; intro a hA))
      (apply dt_op0 hA rfl rfl rfl; apply op_store_agg (vs := encP oN 1 1 (⟨nilV, nilV, nilV, g.xs, nilV⟩ : Grs)); rfl; rfl; exact hH; (repeat constructor); (repeat rfl); clear hH; rintro _ w hH; refine ⟨hH.pick (by exact MEMT), ?_⟩; apply dt_nil)
      exact ⟨_, oA, _, hH.perm PMT, (hA.sub SBT)⟩
    (refine dt_op hA rfl rfl rfl (by decide) (op_call rfl rfl rfl (num_spec _ 5)) ?_; clear hA; rintro _ w ⟨oA, rfl, hj⟩; replace hH := hH.join hj; clear hj; refine ⟨hH.pick (by exact MEMT), ?_⟩; intro a hA)
    (repeat (apply dt_ex hA rfl rfl rfl (by decide); (first | exact EXT | exact EXT2 | (apply ex_build (szs := [(0, 1), (1, 1), (2, 1), (3, 1), (4, 1), (5, 4), (9, 1), (10, 1)]) (cs := (encB oA).toArray); exact run_szl (by (repeat (first | exact SzL.nil | refine SzL.cons ⟨_, rfl, by decide⟩ ?_))); rfl; rfl) | (apply ex_build (szs := [(0, 1), (1, 11)]) (cs := (encF oA 0).toArray); exact run_szl (by (repeat (first | exact SzL.nil | refine SzL.cons ⟨_, rfl, by decide⟩ ?_))); rfl; exact fill_F5 oA)); clear hA a; intro a hA))
    apply dt_two
    rotate_left
    · (apply dt_op hA rfl rfl rfl (by decide); apply op_alloc; exact hH; clear hA hH; rintro _ w ⟨bN, rfl, hH⟩; refine ⟨hH.pick (by exact MEMT), ?_⟩; intro a hA)
      (apply dt_op hA rfl rfl rfl (by decide); apply op_sliceLit (xs := encF oA 0) (vs := [.agg (encF oA 0).toArray]); rfl; rfl; exact (Cats.cn (cs := encF oA 0) Cats.nil); rfl; rfl; rfl; exact hH; clear hA hH; rintro _ w ⟨oN, rfl, hH⟩; refine ⟨hH.pick (by exact MEMT), ?_⟩; intro a hA)
      (repeat (apply dt_ex hA rfl rfl rfl (by decide); (first | exact EXT | exact EXT2 | (apply ex_build_p (cs := (encP oN 1 1 (⟨nilV, nilV, nilV, g.xs, nilV⟩ : Grs)).toArray); rfl; exact FLT; rfl)); clear hA a; intro a hA))
      (apply dt_op0 hA rfl rfl rfl; apply op_store_agg (vs := encP oN 1 1 (⟨nilV, nilV, nilV, g.xs, nilV⟩ : Grs)); rfl; rfl; exact hH; (repeat constructor); (repeat rfl); clear hH; rintro _ w hH; refine ⟨hH.pick (by exact MEMT), ?_⟩; apply dt_nil)
      exact ⟨_, oA, _, hH.perm PMT, (hA.sub SBT)⟩
    (apply dt_op hA rfl rfl rfl (by decide); apply op_sliceLit (xs := encF oA 0) (vs := [.agg (encF oA 0).toArray]); rfl; rfl; exact (Cats.cn (cs := encF oA 0) Cats.nil); rfl; rfl; rfl; exact hH; clear hA hH; rintro _ w ⟨oN, rfl, hH⟩; refine ⟨hH.pick (by exact MEMT), ?_⟩; intro a hA)
    (repeat (apply dt_ex hA rfl rfl rfl (by decide); (first | exact EXT | exact EXT2 | (apply ex_build_p (cs := (encP oN 1 1 (⟨nilV, nilV, nilV, g.xs, nilV⟩ : Grs)).toArray); rfl; exact FLT; rfl)); clear hA a; intro a hA))
    (apply dt_op hA rfl rfl rfl (by decide); apply op_alloc; exact hH; clear hA hH; rintro _ w ⟨bN, rfl, hH⟩; refine ⟨hH.pick (by exact MEMT), ?_⟩; intro a hA)
    (apply dt_op0 hA rfl rfl rfl; apply op_store_agg (vs := encP oN 1 1 (⟨nilV, nilV, nilV, g.xs, nilV⟩ : Grs)); rfl; rfl; exact hH; (repeat constructor); (repeat rfl); clear hH; rintro _ w hH; refine ⟨hH.pick (by exact MEMT), ?_⟩; apply dt_nil)
    exact ⟨_, oA, _, hH.perm PMT, (hA.sub SBT)⟩
  clear hA hH hST
  rintro a w ⟨b4, oA, oF, hH, hA⟩
  have hxl : g.xs.l = xs4 := by rw [hg]; rfl
  have hRx : RdV w encX g.xs := by rw [hg]; exact (gA_rd (H := []) hH.tail.tail.tail.tail.tail).2.2.2.2.1
  have hF1 := hH.own_rd (T := 72) (.tail _ (.head _))
  have hA1 := hH.own_rd (T := 65) (o := oA) (sz := 2) (.tail _ (.tail _ (.head _)))
  repeat' (first | (refine XT ?_; apply XE; (first | (apply ex_load_st (vs := encP oF 1 1 (⟨nilV, nilV, nilV, g.xs, nilV⟩ : Grs)); rfl; rfl; exact cls_cb_all MEMT)); clear hA a; intro a hA) | (refine QT ?_; clear hA a; intro a hA) | (refine CT ?_ <;> repeat' refine CT ?_) | fail)
  (refine st_op hA rfl rfl (by decide) (op_call rfl rfl rfl (of1_spec _ (⟨nilV, nilV, nilV, g.xs, nilV⟩ : Grs) oF oA 1 hF1 hA1 (rdv_nil _ _) (rdv_nil _ _) hRx (rdv_nil _ _) hxl rfl rfl rfl)) ?_; clear hA; rintro _ w ⟨q1, q2, q3, q4, q5, q6, q7, k1, k2, k3, k4, k5, k6, rfl, hj⟩ a hA; replace hH := hH.join hj; clear hj)
  obtain ⟨h, hh⟩ : ∃ h, h = h5 q1 q2 q3 q4 q5 q6 q7 k1 k2 k3 k4 k5 k6 (⟨nilV, nilV, nilV, g.xs, nilV⟩ : Grs) := ⟨_, rfl⟩
  rw [← hh] at hA
  have hmay : MayP h := by rw [hh]; exact may5 (n := 5) (of := none) (oc := 0) (by decide) rfl hxl rfl rfl rfl
  have hrun5 : (runP h 2 ⟨#[]⟩ 9).2.2 = ⟨#[53]⟩ := h5_runP (by rw [hh]; rfl) hmay
  repeat' (first | (refine QT ?_; clear hA a; intro a hA) | (refine BT ?_; clear hA hH; rintro _ w ⟨bN, rfl, hH⟩ a hA) | (apply st_op0 hA rfl rfl; apply op_store_agg (vs := encGs h); rfl; rfl; exact hH; (repeat constructor); (repeat rfl); clear hH; rintro _ w hH) | (refine CT ?_ <;> repeat' refine CT ?_) | fail)
  obtain ⟨b5, hb3⟩ : ∃ x, x = bN := ⟨_, rfl⟩; rw [← hb3] at hA hH; clear hb3 bN
  repeat' (first | (refine XT ?_; apply XE; (first | (apply ex_build_p (cs := (encP none 0 0 gr0s).toArray); rfl; exact FLT; rfl)); clear hA a; intro a hA) | (refine QT ?_; clear hA a; intro a hA) | fail)
  have hA2 : Rd w oA (encAt at5) := hH.own_rd (T := 65) (o := oA) (sz := 2) (n := 1) (cap := 1) (xs := encAt ⟨2, 5⟩) (by repeat (first | exact List.Mem.head _ | apply List.Mem.tail))
  (refine st_op hA rfl rfl (by decide) (op_call rfl rfl rfl (of0_spec _ gr0s rfl (rdv_nil _ _) (rdv_nil _ _) (rdv_nil _ _) (rdv_nil _ _) oA hA2)) ?_; clear hA; rintro _ w ⟨rfl, hk⟩ a hA; replace hH := hH.keep hk; clear hk hA2)
  repeat' (first | (refine QT ?_; clear hA a; intro a hA) | (refine BT ?_; clear hA hH; rintro _ w ⟨bN, rfl, hH⟩ a hA) | (apply st_op0 hA rfl rfl; apply op_store_agg (vs := encGs gr0s); rfl; rfl; exact hH; (repeat constructor); (repeat rfl); clear hH; rintro _ w hH) | (refine CT ?_ <;> repeat' refine CT ?_) | fail)
  obtain ⟨b7, hb3⟩ : ∃ x, x = bN := ⟨_, rfl⟩; rw [← hb3] at hA hH; clear hb3 bN
  have hRg2 : RdGs w g := by rw [hg]; exact gA_rd (H := []) (HS.right (H1 := [_, _, _, _, _, _, _, _, _, _, _, _, _, _]) hH)
  repeat' (first | (refine XT ?_; apply XE; (first | (apply ex_load_st (vs := encGs g); rfl; rfl; exact cls_cb_all MEMT)); clear hA a; intro a hA) | (refine QT ?_; clear hA a; intro a hA) | fail)
  (refine st_op hA rfl rfl (by decide) (op_call rfl rfl rfl (May_spec _ g hRg2 hfl hbs)) ?_; clear hA; rintro _ w ⟨b, rfl, hk, hb⟩ a hA; replace hH := hH.keep hk; clear hk hRg2)
  obtain rfl : b = true := hb.2 hMg
  repeat' (first | (refine GT ?_ ?_ <;> intro hg <;> clear hA a <;> intro a hA <;> (first | exact FA | replace hg := of_decide_eq_true hg | replace hg := of_decide_eq_false hg | skip)) | (refine XT ?_; apply XE; (first | (apply ex_build_p (cs := (encGs gr0s).toArray); rfl; exact FLT; rfl)); clear hA a; intro a hA) | (refine QT ?_; clear hA a; intro a hA) | fail)
  (refine st_op hA rfl rfl (by decide) (op_call rfl rfl rfl (May_spec _ gr0s (gr0s_rd _) (by decide) (fun f hf => absurd hf (List.not_mem_nil)))) ?_; clear hA; rintro _ w ⟨b, rfl, hk, hb0⟩ a hA; replace hH := hH.keep hk; clear hk)
  obtain rfl : b = false := by
    cases b with
    | false => rfl
    | true => exact absurd (hb0.1 rfl) (may0 rfl)
  repeat' (first | (refine GT ?_ ?_ <;> intro hg <;> clear hA a <;> intro a hA <;> (first | exact FA | replace hg := of_decide_eq_true hg | replace hg := of_decide_eq_false hg | skip)) | (refine XT ?_; apply XE; (first | (apply ex_load_st (vs := encO3 1 empS ⟨#[56]⟩); rfl; rfl; exact cls_cb_all MEMT) | (apply ex_build_p (cs := (encO3 1 empS ⟨#[56]⟩).toArray); rfl; exact FLT; rfl) | (apply ex_eqlOs (p := (1, empS, ⟨#[56]⟩)); rfl; rfl)); clear hA a; intro a hA) | (refine QT ?_; clear hA a; intro a hA) | fail)
  have hRh : RdGs w h := by
    rw [hh]
    exact h5_rd (g := (⟨nilV, nilV, nilV, g.xs, nilV⟩ : Grs)) (hH.tail.tail)
  have hxh : ∀ s ∈ h.xs.l, s.size ≤ 4611686018427387904 := by rw [hh]; show ∀ s ∈ g.xs.l, _; exact hxs
  have hfh : h.fs.l.length ≤ 100000 := by rw [hh]; exact (by decide : 1 ≤ 100000)
  have hbh : ∀ f ∈ h.fs.l, f.bs.l.length ≤ 1048576 ∧ ∀ bl ∈ f.bs.l, bl.e.to.l.length ≤ 1048576 := by rw [hh]; exact h5_bs (g := (⟨nilV, nilV, nilV, g.xs, nilV⟩ : Grs))
  (refine st_op hA rfl rfl (by decide) (op_call rfl rfl rfl (Run_spec _ h 2 ⟨#[]⟩ 9 hRh hfh hbh hxh (by decide) (hFI.keep hH.kp))) ?_; clear hA; rintro _ w ⟨rfl, hk⟩ a hA; replace hH := hH.keep hk; clear hk hRh)
  obtain ⟨⟨r1, r2, r3⟩, hr⟩ : ∃ r, r = runP h 2 ⟨#[]⟩ 9 := ⟨_, rfl⟩
  rw [← hr] at hA hrun5
  dsimp only at hrun5
  subst hrun5
  repeat' (first | (refine GT ?_ ?_ <;> intro hg <;> clear hA a <;> intro a hA <;> (first | exact FA | replace hg := of_decide_eq_true hg | replace hg := of_decide_eq_false hg | skip)) | (refine XT ?_; apply XE; (first | (apply ex_eqlSs (m := ⟨#[53]⟩); rfl; rfl) | (apply ex_field (v := .string ⟨#[53]⟩); rfl; rfl; exact pk_9; rfl)); clear hA a; intro a hA) | (refine QT ?_; clear hA a; intro a hA) | (refine CT ?_ <;> repeat' refine CT ?_) | fail)
  exact rt1 (.inl rfl) rfl hA rfl ⟨rfl, hH.kp⟩
end Go.Proofs.YtenlcdokaadobaaGreatDoor
namespace Go.Fw
open Go Go.RowKit
section
variable {P : Program} {N : Nat} {l : List (Nat × Value)} {C : World → Prop} {d : Option Tmp} {T : TypeId} {pos : String} {af : Array Edge} {g : Option (Nat × Bool)}
end
end Go.Fw
namespace Go.Proofs.YtenlcdokaadobaaGreatDoor
open Go Go.Fw
set_option linter.unusedVariables false
set_option maxRecDepth 10000 attribute [local irreducible] Code.wp wpList Calls Ex Op1 sat bat blk cb own Go.Fw.mp Go.Fw.mpO Go.Fw.mpI Go.Fw.mpE Go.Fw.itr HS Rd Ret wkD Hp Cl Cls Exit.then Exit.inBlock Exit.noGoto bodyPost Go.Fw.flat wk2 Go.Fw.all Go.Fw.owns wpOp
attribute [local irreducible] sk mpK sko mvO entK opM Go.Fw.mset Go.Fw.mv opK

set_option maxHeartbeats 4000000 in
theorem large_spec (w0 : World) (g : Grs) (hR : RdGs w0 g) (hs : SzG 1048576 g) : Ret Tryz.prog 11 #[.agg (encGs g).toArray] w0 (fun r w => ∃ b, r = .bool b ∧ (b = true ↔ 50 < g.fs.l.length ∨ 1000 < grsN g) ∧ Kp w0 noM w) := by
  have hH : HS w0 noM [] w0 := HS.init w0 noM
  have hfs := hs.fs
  (refine enter (N := 12) Tryz.func11 rfl Tryz.ntmps11 rfl ?_; intro a hA; dsimp only [sl0, Nat.reduceAdd] at hA)
  by_cases hl : 50 < g.fs.l.length
  · repeat' (first | (refine GT ?_ ?_ <;> intro hg <;> clear hA a <;> intro a hA <;> (first | exact FA | replace hg := of_decide_eq_true hg | replace hg := of_decide_eq_false hg | skip)) | (refine QT ?_; clear hA a; intro a hA) | (refine BT ?_; clear hA hH; rintro _ w ⟨bN, rfl, hH⟩ a hA) | (refine CT ?_ <;> repeat' refine CT ?_) | fail)
    exact rt1 (.inl rfl) rfl hA rfl ⟨true, rfl, iff_of_true rfl (.inl hl), hH.kp⟩
  repeat' (first | (refine GT ?_ ?_ <;> intro hg <;> clear hA a <;> intro a hA <;> (first | exact FA | replace hg := of_decide_eq_true hg | replace hg := of_decide_eq_false hg | skip)) | (refine XT ?_; apply XE; (first | (apply ex_load_st (vs := encGs g); rfl; rfl; exact cls_cb_all MEMT)); clear hA a; intro a hA) | (refine QT ?_; clear hA a; intro a hA) | (refine BT ?_; clear hA hH; rintro _ w ⟨bN, rfl, hH⟩ a hA) | (refine CT ?_ <;> repeat' refine CT ?_) | fail)
  (refine st_op hA rfl rfl (by decide) (op_call rfl rfl rfl (Parts_spec _ g 1000 (by decide) (hR.keep hH.kp) hs)) ?_; clear hA; rintro _ w ⟨n, rfl, hn, hk⟩ a hA; replace hH := hH.keep hk; clear hk)
  by_cases h2 : n ≤ 1000
  · repeat' (first | (refine QT ?_; clear hA a; intro a hA) | (refine CT ?_ <;> repeat' refine CT ?_) | fail)
    exact rt1 (.inl rfl) rfl hA rfl ⟨_, rfl, iff_of_false (fun h => (by have := of_decide_eq_true h; omega)) (fun h => (by have := hn.1 h2; omega)), hH.kp⟩
  · repeat' (first | (refine QT ?_; clear hA a; intro a hA) | (refine CT ?_ <;> repeat' refine CT ?_) | fail)
    exact rt1 (.inl rfl) rfl hA rfl ⟨_, rfl, iff_of_true (decide_eq_true (by omega)) (.inr (by have := fun h => h2 (hn.2 h); omega)), hH.kp⟩
end Go.Proofs.YtenlcdokaadobaaGreatDoor
namespace Go.Proofs.YtenlcdokaadobaaGreatDoor
open Go Go.Fw
set_option linter.unusedVariables false
def hi (x : Int) : Int := if x < 2 then x else x + 262144
def hiA (a : Atm) : Atm := if a.k = 1 ∧ 1 < a.n then ⟨a.k, i64w (a.n + 262144)⟩ else a
set_option maxRecDepth 10000 attribute [local irreducible] Code.wp wpList Calls Ex Op1 sat bat blk cb own Go.Fw.mp Go.Fw.mpO Go.Fw.mpI Go.Fw.mpE Go.Fw.itr HS Rd Ret wkD Hp Cl Cls Exit.then Exit.inBlock Exit.noGoto bodyPost Go.Fw.flat wk2 Go.Fw.all Go.Fw.owns wpOp
attribute [local irreducible] sk mpK sko mvO entK opM Go.Fw.mset Go.Fw.mv opK

end Go.Proofs.YtenlcdokaadobaaGreatDoor
namespace Go.Proofs.YtenlcdokaadobaaGreatDoor
open Go Go.Fw
set_option linter.unusedVariables false
def Al {α β : Type} (R : α → β → Prop) : List α → List β → Prop
  | [], [] => True
  | x :: l, y :: m => R x y ∧ Al R l m
  | _, _ => False
theorem Al.len {α β : Type} {R : α → β → Prop} : ∀ {l : List α} {m : List β}, Al R l m → m.length = l.length
  | [], [], _ => rfl
  | x :: l, y :: m, h => by rw [List.length_cons, List.length_cons, Al.len h.2]
  | [], _ :: _, h => h.elim
  | _ :: _, [], h => h.elim
theorem Al.snoc {α β : Type} {R : α → β → Prop} : ∀ {l : List α} {m : List β} {x : α} {y : β}, Al R l m → R x y → Al R (l ++ [x]) (m ++ [y])
  | [], [], x, y, _, h => ⟨h, trivial⟩
  | a :: l, b :: m, x, y, h, h2 => ⟨h.1, Al.snoc h.2 h2⟩
  | [], _ :: _, _, _, h, _ => h.elim
  | _ :: _, [], _, _, h, _ => h.elim
theorem Al.next {α β : Type} {R : α → β → Prop} {l : List α} {m : List β} {i : Nat} {x : α} {y : β} (h : Al R (l.take i) m) (hx : l[i]? = some x) (hr : R x y) : Al R (l.take (i + 1)) (m ++ [y]) := by rw [take_snoc hx]; exact h.snoc hr
theorem all_nx {α : Type} {Q : α → Prop} {l : List α} {i : Nat} {x : α} (h : ∀ a ∈ l.take i, Q a) (hx : l[i]? = some x) (hq : Q x) : ∀ a ∈ l.take (i + 1), Q a := by
  rw [take_snoc hx]
  intro a ha
  rcases List.mem_append.1 ha with h1 | h1
  · exact h a h1
  · rw [List.mem_singleton.1 h1]; exact hq
theorem flatI_nil2 : flat Fw.encI [] = [] := rfl
theorem in_xx {l : List Ins} {i : Nat} {x : Ins} (h : l[i]? = some x) : (flat encIn l)[i * 5 + 0]? = some (.int .i64 x.x) := flat_get (off := 0) encIn_len h rfl
end Go.Proofs.YtenlcdokaadobaaGreatDoor
namespace Go.Proofs.YtenlcdokaadobaaGreatDoor
open Go Go.Fw
set_option linter.unusedVariables false
section
variable {g : Grs} {S : Int → Prop} {a : Atm}
theorem at_1 (h : a.k = 1) : atS g S a ↔ 0 ≤ a.n ∧ a.n ≤ 1048576 ∧ (a.n < 2 ∨ S a.n) := by
  constructor
  · rintro (⟨_, h1, h2, h3⟩ | ⟨h1, _⟩ | ⟨h1, _⟩)
    · exact ⟨h1, h2, h3⟩
    · omega
    · omega
  · exact fun ⟨h1, h2, h3⟩ => .inl ⟨h, h1, h2, h3⟩
theorem at_2 (h : a.k = 2) : atS g S a ↔ -4611686018427387904 ≤ a.n ∧ a.n < 4611686018427387904 := by
  constructor
  · rintro (⟨h1, _⟩ | ⟨_, h1, h2⟩ | ⟨h1, _⟩)
    · omega
    · exact ⟨h1, h2⟩
    · omega
  · exact fun ⟨h1, h2⟩ => .inr (.inl ⟨h, h1, h2⟩)
theorem at_3 (h : a.k = 3) : atS g S a ↔ 0 ≤ a.n ∧ a.n < g.ss.l.length := by
  constructor
  · rintro (⟨h1, _⟩ | ⟨h1, _⟩ | ⟨_, h1, h2⟩)
    · omega
    · omega
    · exact ⟨h1, h2⟩
  · exact fun ⟨h1, h2⟩ => .inr (.inr ⟨h, h1, h2⟩)
theorem at_x (h : ¬ a.k = 1) (h2 : ¬ a.k = 2) (h3 : ¬ a.k = 3) : ¬ atS g S a := by
  rintro (⟨h1, _⟩ | ⟨h1, _⟩ | ⟨h1, _⟩) <;> omega
theorem all_no {l : List Atm} (ha : a ∈ l) (h : ¬ atS g S a) : false = true ↔ ∀ a ∈ l, atS g S a := ⟨fun e => (by cases e), fun e => absurd (e a ha) h⟩
end
set_option maxRecDepth 10000 attribute [local irreducible] Code.wp wpList Calls Ex Op1 sat bat blk cb own Go.Fw.mp Go.Fw.mpO Go.Fw.mpI Go.Fw.mpE Go.Fw.itr HS Rd Ret wkD Hp Cl Cls Exit.then Exit.inBlock Exit.noGoto bodyPost Go.Fw.flat wk2 Go.Fw.all Go.Fw.owns wpOp
attribute [local irreducible] sk mpK sko mvO entK geS idxF

set_option maxHeartbeats 8000000 in
theorem atomsR_spec (w0 : World) (g : Grs) (f : Gr) (n : Nat) (ins : Nat) (bl : Blc) (l : Vec Atm) (hR : RdG w0 f) (hE : EdgS f) (hbl : f.bs.l[n]? = some bl) (hl : f.bs.l.length ≤ 1048576) (hlt : ∀ bl ∈ f.bs.l, bl.e.to.l.length ≤ 1048576) (hL : RdV w0 encAt l) :
    Ret Tryz.prog 37 #[.agg (encGs g).toArray, .agg (encG f).toArray, .int .i64 n, .int .i64 ins, .slice l.o l.l.length l.c] w0 (fun v w => ∃ b, v = .bool b ∧ (b = true ↔ ∀ a ∈ l.l, atS g (nowS (BS f n) bl ins) a) ∧ Kp w0 noM w) := by
  have hH : HS w0 noM [] w0 := HS.init w0 noM
  have hn : n < f.bs.l.length := (List.getElem?_eq_some_iff.1 hbl).1
  have hspB : Sp f.bs.o f.bs.l.length := hR.1.1.sp (sz := 6) (flat_length encBl_len _) (by omega)
  have hle := hL.le
  have hspL : Sp l.o l.l.length := hL.1.sp (sz := 2) (flat_length encAt_len _) (by omega)
  have hRb := hR.2 bl (List.mem_of_getElem? hbl)
  have hvb := flat_all encBl_len hbl
  (refine enter (N := 80) Tryz.func37 rfl Tryz.ntmps37 rfl ?_; intro a hA; dsimp only [sl0, Nat.reduceAdd] at hA)
  repeat' (first | (refine QT ?_; clear hA a; intro a hA) | (refine BT ?_; clear hA hH; rintro _ w ⟨bN, rfl, hH⟩ a hA) | (refine CT ?_ <;> repeat' refine CT ?_) | fail)
  obtain ⟨b5, b6, hH, hA⟩ : ∃ b5 b6, HS w0 noM [cb b6 44 (encG f), cb b5 25 (encGs g)] w ∧ Sl 80 [(11, .int .i64 (0 : Nat)), (5, .pointer (some (bat b5 0))), (6, .pointer (some (bat b6 0))), (2, .int .i64 n), (3, .int .i64 ins), (4, .slice l.o l.l.length l.c), (10, .bool false)] a := ⟨_, _, hH, (hA.sub SBT)⟩
  refine wp_lpk (S := Nat) (fun i a w => (i ≤ l.l.length ∧ ∀ a ∈ l.l.take i, atS g (nowS (BS f n) bl ins) a) ∧ HS w0 noM [cb b6 44 (encG f), cb b5 25 (encGs g)] w ∧ (Sl 80 [(11, .int .i64 i), (5, .pointer (some (bat b5 0))), (6, .pointer (some (bat b6 0))), (2, .int .i64 n), (3, .int .i64 ins), (4, .slice l.o l.l.length l.c), (10, .bool false)] a)) (fun i => l.l.length - i)
    (fun a w => (∀ a ∈ l.l, atS g (nowS (BS f n) bl ins) a) ∧ HS w0 noM [] w ∧ Sl 80 [] a) 0 ⟨⟨Nat.zero_le _, fun a ha => absurd ha (by rw [List.take_zero]; exact List.not_mem_nil)⟩, hH, hA⟩ ?_ ?_
  · clear hA hH
    rintro i a w ⟨⟨hi, hall⟩, hH, hA⟩
    by_cases hlt2 : i < l.l.length
    rotate_left
    · obtain rfl : i = l.l.length := by omega
      repeat' (first | (refine QT ?_; clear hA a; intro a hA) | ((first | refine CT ?_ | (refine DT ?_ ?_ <;> intro hc <;> try (exfalso; omega))) <;> repeat' refine CT ?_) | fail)
      rw [List.take_length] at hall
      exact ⟨hall, hH.tail.tail, (hA.sub SBT)⟩
    obtain ⟨x, hx⟩ : ∃ x, l.l[i]? = some x := ⟨_, List.getElem?_eq_getElem hlt2⟩
    have hxm := List.mem_of_getElem? hx
    have hvx := flat_all encAt_len hx
    repeat' (first | (refine GT ?_ ?_ <;> intro hg <;> clear hA a <;> intro a hA <;> (first | exact FA | replace hg := of_decide_eq_true hg | replace hg := of_decide_eq_false hg | skip)) | (refine XT ?_; apply XE; (first | (apply ex_indexAddr_nat; rfl; rfl; omega; exact hspL) | (apply ex_load_st (vs := encAt x); rfl; rfl; exact cls_rd hL.1 id hvx)); clear hA a; intro a hA) | (refine QT ?_; clear hA a; intro a hA) | (refine BT ?_; clear hA hH; rintro _ w ⟨bN, rfl, hH⟩ a hA) | (apply st_op0 hA rfl rfl; apply op_store_agg (vs := encAt x); rfl; rfl; exact hH; (repeat constructor); (repeat rfl); clear hH; rintro _ w hH) | ((first | refine CT ?_ | (refine DT ?_ ?_ <;> intro hc <;> try (exfalso; omega))) <;> repeat' refine CT ?_) | fail)
    all_goals first
      | exact rt1 (.inl rfl) rfl hA rfl ⟨_, rfl, all_no hxm (fun h => by have := (at_1 (by assumption)).1 h; omega), hH.kp⟩
      | exact rt1 (.inl rfl) rfl hA rfl ⟨_, rfl, all_no hxm (fun h => by have := (at_2 (by assumption)).1 h; omega), hH.kp⟩
      | exact rt1 (.inl rfl) rfl hA rfl ⟨_, rfl, all_no hxm (fun h => by have := (at_3 (by assumption)).1 h; omega), hH.kp⟩
      | exact rt1 (.inl rfl) rfl hA rfl ⟨_, rfl, all_no hxm (at_x (by assumption) (by assumption) (by assumption)), hH.kp⟩
      | exact ⟨i + 1, ⟨⟨hlt2, all_nx hall hx ((at_2 (by assumption)).2 ⟨by omega, by omega⟩)⟩, hH.tail, (hA.sub SBT)⟩, by omega⟩
      | exact ⟨i + 1, ⟨⟨hlt2, all_nx hall hx ((at_3 (by assumption)).2 ⟨by omega, by omega⟩)⟩, hH.tail, (hA.sub SBT)⟩, by omega⟩
      | skip
    have hk1 : x.k = 1 := by assumption
    (refine wp_draw_HS [(0, 1), (1, 1), (2, 1), (3, 1), (4, 1), (5, 1), (6, 1), (7, 1), (8, 1), (9, 1), (10, 1), (11, 1), (12, 0), (13, 1), (14, 1), (15, 1), (16, 1), (17, 1), (18, 1), (19, 1), (20, 0), (21, 1)] mixed (by decide +kernel) hH ?_; replace hH := hH.drew)
    by_cases hx1 : 1 < x.n
    rotate_left
    · repeat' (first | (refine GT ?_ ?_ <;> intro hg <;> clear hA a <;> intro a hA <;> (first | exact FA | replace hg := of_decide_eq_true hg | replace hg := of_decide_eq_false hg | skip)) | (refine QT ?_; clear hA a; intro a hA) | (refine CT ?_ <;> repeat' refine CT ?_) | (refine DSK ?_; clear hA a; intro a hA) | fail)
      exact ⟨i + 1, ⟨⟨hlt2, all_nx hall hx ((at_1 hk1).2 ⟨by omega, by omega, .inl (by omega)⟩)⟩, hH.tail, (hA.sub SBT)⟩, by omega⟩
    repeat' (first | (refine GT ?_ ?_ <;> intro hg <;> clear hA a <;> intro a hA <;> (first | exact FA | replace hg := of_decide_eq_true hg | replace hg := of_decide_eq_false hg | skip)) | (refine XT ?_; apply XE; (first | (apply ex_indexAddr_nat; rfl; rfl; omega; exact hspB) | (apply ex_load_st (vs := encBl bl); rfl; rfl; exact cls_rd hR.1.1 id hvb)); clear hA a; intro a hA) | (refine QT ?_; clear hA a; intro a hA) | fail)
    (refine dr_op hA rfl rfl rfl (by decide) (op_call rfl rfl rfl (binds_spec _ bl x.n ins (hRb.1.keep hH.kp) (hRb.2.1.keep hH.kp))) ?_; clear hA; rintro _ w ⟨bb, rfl, hbb, hk⟩; replace hH := hH.keep hk; clear hk; refine ⟨STT, ?_⟩; intro a hA)
    cases bb with
    | true =>
      repeat' (first | (refine GT ?_ ?_ <;> intro hg <;> clear hA a <;> intro a hA <;> (first | exact FA | replace hg := of_decide_eq_true hg | replace hg := of_decide_eq_false hg | skip)) | (refine QT ?_; clear hA a; intro a hA) | (refine CT ?_ <;> repeat' refine CT ?_) | (refine DSK ?_; clear hA a; intro a hA) | fail)
      exact ⟨i + 1, ⟨⟨hlt2, all_nx hall hx ((at_1 hk1).2 ⟨by omega, by omega, .inr (.inr (hbb.1 rfl))⟩)⟩, hH.tail, (hA.sub SBT)⟩, by omega⟩
    | false =>
    have hnb : ¬ (x.n ∈ bl.ps.l ∨ x.n ∈ (bl.is.l.take ins).map Ins.x) := fun h => (by cases hbb.2 h)
    repeat' (first | (refine GT ?_ ?_ <;> intro hg <;> clear hA a <;> intro a hA <;> (first | exact FA | replace hg := of_decide_eq_true hg | replace hg := of_decide_eq_false hg | skip)) | (refine XT ?_; apply XE; (first | (apply ex_load_st (vs := encG f); rfl; rfl; exact cls_cb_all MEMT)); clear hA a; intro a hA) | (refine QT ?_; clear hA a; intro a hA) | fail)
    (refine dr_op hA rfl rfl rfl (by decide) (op_call rfl rfl rfl (avoids_spec _ f n x.n (hR.keep hH.kp) hE hn hl hlt)) ?_; clear hA; rintro _ w ⟨bb, rfl, hba, hk⟩; replace hH := hH.keep hk; clear hk; refine ⟨STT, ?_⟩; intro a hA)
    cases bb with
    | true =>
      repeat' (first | (refine QT ?_; clear hA a; intro a hA) | (refine CT ?_ <;> repeat' refine CT ?_) | fail)
      exact rt1 (.inl rfl) rfl hA rfl ⟨_, rfl, all_no hxm (fun h => ((at_1 hk1).1 h).2.2.elim (fun h => by omega) (fun h => h.elim (hba.1 rfl) hnb)), hH.kp⟩
    | false =>
    repeat' (first | (refine QT ?_; clear hA a; intro a hA) | (refine CT ?_ <;> repeat' refine CT ?_) | fail)
    exact ⟨i + 1, ⟨⟨hlt2, all_nx hall hx ((at_1 hk1).2 ⟨by omega, by omega, .inr (.inl (Classical.not_not.1 fun h => (by cases hba.2 h)))⟩)⟩, hH.tail, (hA.sub SBT)⟩, by omega⟩
  clear hA hH
  rintro a w ⟨hall, hH, hA⟩
  repeat' (first | (refine QT ?_; clear hA a; intro a hA) | (refine CT ?_ <;> repeat' refine CT ?_) | fail)
  exact rt1 (.inl rfl) rfl hA rfl ⟨_, rfl, iff_of_true rfl hall, hH.kp⟩
end Go.Proofs.YtenlcdokaadobaaGreatDoor
