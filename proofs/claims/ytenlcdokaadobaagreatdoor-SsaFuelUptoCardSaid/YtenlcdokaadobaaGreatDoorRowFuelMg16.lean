/-
  The machine: stop, enter, call. Conditions: none.
  The machine: call. Conditions: none.
  The machine: back to who waits. Conditions: none.
  The machine: those that wait, as they lie in memory; raise. Conditions: none.
  DERIVED: THE SHELF's CONTRACTS AT THIS DUMP, IN PLAIN WORDS (tools/lay-plain.mjs out of 'TryzShelf2.lean', which tools/lay-shelf.mjs wrote): THE SAME DECLARATIONS UNDER THE SAME NAMES: 'import', 'namespace', 'open', 'def', 'theorem' AND NOTHING ELSE: no command of the shelf's: FOR A HAND-IN. Each laying: the table of numbers ('.._ren') and one theorem, a field a fact of the dump's own or the kernel's comparison; each contract: ONE APPLICATION.
-/
import Derived.Test.YtenlcdokaadobaaGreatDoorRowFuelMg15
import Derived.Test.YtenlcdokaadobaaGreatDoorRowFuelMg14
import Derived.Shelf.Strings.Builder1
import Derived.Shelf.LaysM
import Derived.Shelf.Strconv.Itoa4
import Derived.Test.YtenlcdokaadobaaGreatDoorProg
namespace Go.Proofs.YtenlcdokaadobaaGreatDoor
open Go Go.Fw
set_option linter.unusedVariables false
def encO3 (k : Int) (o r : ByteArray) : List Value := [.int .i64 k, .string o, .string r]
def blkA (g : Grs) (f : Int) (b : Nat) : Option Addr := some (sat (g.fs.l.getD f.toNat gr0).bs.o (b * 6))
theorem new_vs (c : Clo) (x : Vl) : (newF c x).vs = pset (pset [] 0 (.fn c.1 c.2)) 1 x := rfl
theorem MapR_new {c : Cx} {cl : Clo} {p : Nat} {x : Vl} {v : Value} (hc : FnR c cl.1 cl.2 p) (hx : RV c x v) : MapR c (newF cl x).vs (mset (mset [] 0 (ptrV 79 p)) 1 v) := by
  rw [new_vs]
  exact ((MapR.nil c).set 0 hc.rv).set 1 hx
theorem MapR_new2 {c : Cx} {cl : Clo} {p : Nat} {x : Vl} {v : Value} (hc : FnR c cl.1 cl.2 p) (hx : RV c x v) : MapR c (newF cl x).vs (mset (mset [] 1 v) 0 (ptrV 79 p)) := by
  rw [new_vs]
  exact (MapR.nil c).swap (by decide) hc.rv hx
theorem fs_at {l : List Gr} {f : Nat} (h : f < l.length) : (flat encG l)[f * 2 + 1]? = some (.slice (l.getD f gr0).bs.o (l.getD f gr0).bs.l.length (l.getD f gr0).bs.c) := by
  refine flat_get (off := 1) encG_len (List.getElem?_eq_getElem h) ?_
  rw [List.getD_eq_getElem?_getD, List.getElem?_eq_getElem h]
  rfl
set_option maxRecDepth 10000 attribute [local irreducible] Code.wp wpList Calls Ex Op1 sat bat blk cb own Go.Fw.mp Go.Fw.mpO Go.Fw.mpI Go.Fw.mpE Go.Fw.itr HS Rd Ret wkD Hp Cl Cls Exit.then Exit.inBlock Exit.noGoto bodyPost Go.Fw.flat wk2 Go.Fw.all Go.Fw.owns wpOp
attribute [local irreducible] sk mpK sko mvO entK opM Go.Fw.mset Go.Fw.mv opK w63 frz obI RV idxF

set_option maxHeartbeats 8000000 in
theorem stop_spec (w0 w : World) (H : List It) (bM : Nat) (g : Grs) (kd : Int) (s : ByteArray) (oO oS : Option Addr) (nO cO nS cS pc bv : Nat) (fuel pi : Int) (pb ph pe : Option Addr) (k : Int) (r : ByteArray) (hH : HS w0 noM (cb bM 86 (encW g kd s oO nO cO ++ encR g fuel oS nS cS pc bv pb pi ph pe) :: H) w) :
    Ret Tryz.prog 27 #[.pointer (some (bat bM 0)), .int .i64 k, .string r] w (fun v w' => ∃ b, HS w0 noM (cb bM 86 (encW g kd s oO nO cO ++ encR g fuel oS nS cS pc bv pb pi ph (some (bat b 0))) :: cb b 29 (encO3 k empS r) :: H) w') := by
  (refine enter (N := 13) Tryz.func27 rfl Tryz.ntmps27 rfl ?_; intro a hA; dsimp only [sl0, Nat.reduceAdd] at hA)
  repeat' (first | ((first | apply st_ex hA hH rfl rfl (by decide) | apply dr_ex hA rfl rfl rfl (by decide) | apply dr_exp hA rfl rfl rfl (by decide) | apply dr_ex3 hA hH rfl rfl rfl (by decide)); (first | (apply ex_build_p (cs := (encO3 k empS r).toArray); rfl; (repeat (first | (intro _ h; exact absurd h (List.not_mem_nil)) | (refine List.forall_mem_cons.2 ⟨one_cell_of _ _, ?_⟩))); rfl)); clear hA a; intro a hA) | (refine QT ?_; clear hA a; intro a hA) | (refine BT ?_; clear hA hH; rintro _ w ⟨bN, rfl, hH⟩ a hA) | (apply st_op0 hA rfl rfl; apply op_store_fld (cs' := encW g kd s oO nO cO ++ encR g fuel oS nS cS pc bv pb pi ph (some (bat bN 0))); rfl; rfl; rfl; exact hH; (repeat constructor); clear hH; rintro _ w hH) | (refine CT ?_ <;> repeat' refine CT ?_))
  exact rt0 (.inr rfl) rfl hA ⟨_, hH.perm (by (repeat (first | exact List.Perm.refl _ | exact List.Perm.nil | refine perm_pick 0 rfl ?_ | refine perm_pick 1 rfl ?_ | refine perm_pick 2 rfl ?_ | refine perm_pick 3 rfl ?_ | refine perm_pick 4 rfl ?_ | refine perm_pick 5 rfl ?_ | refine perm_pick 6 rfl ?_ | refine perm_pick 7 rfl ?_ | refine perm_pick 8 rfl ?_ | refine perm_pick 9 rfl ?_ | refine perm_pick 10 rfl ?_ | refine perm_pick 11 rfl ?_)))⟩
set_option maxHeartbeats 16000000 in
theorem enter_spec (w0 w : World) (H : List It) (c : Cx) (bM : Nat) (g : Grs) (kd : Int) (s : ByteArray) (oO oS : Option Addr) (nO cO nS cS pc bv : Nat) (fuel pi : Int) (pb ph pe : Option Addr) (f x : Vl) (u v : Value) (hH : HS w0 noM (cb bM 86 (encW g kd s oO nO cO ++ encR g fuel oS nS cS pc bv pb pi ph pe) :: frz w0 c.K :: H) w) (hu : RV c f u) (hv : RV c x v)
    (hR : RdGs w0 g) (hnf : c.nf = g.fs.l.length) (hne : ∀ f ∈ g.fs.l, 0 < f.bs.l.length) :
    Ret Tryz.prog 26 #[.pointer (some (bat bM 0)), u, v] w (fun r w' =>
      (∃ cl p b m, asFn f = some cl ∧ r = .bool true ∧ FnR c cl.1 cl.2 p ∧ MapR c (newF cl x).vs m ∧ HS w0 noM (cb bM 86 (encW g kd s oO nO cO ++ encR g fuel oS nS cS p b (blkA g cl.1 0) 0 none pe) :: mp b m :: frz w0 c.K :: H) w') ∨
      (asFn f = none ∧ r = .bool false ∧ ∃ b, HS w0 noM (cb bM 86 (encW g kd s oO nO cO ++ encR g fuel oS nS cS pc bv pb pi ph (some (bat b 0))) :: cb b 29 (encO3 4 empS empS) :: frz w0 c.K :: H) w')) := by
  have hspF : Sp g.fs.o g.fs.l.length := hR.1.1.sp (sz := 2) (flat_length encG_len _) (by omega)
  (refine enter (N := 41) Tryz.func26 rfl Tryz.ntmps26 rfl ?_; intro a hA; dsimp only [sl0, Nat.reduceAdd] at hA)
  rcases hu.asFn with ⟨fi, l, p, hs, rfl, hf⟩ | ⟨hs, hn⟩
  rotate_left
  · repeat' (first | ((first | apply st_ex hA hH rfl rfl (by decide) | apply dr_ex hA rfl rfl rfl (by decide) | apply dr_exp hA rfl rfl rfl (by decide) | apply dr_ex3 hA hH rfl rfl rfl (by decide)); (first | (apply ex_assertX; rfl; exact hn)); clear hA a; intro a hA) | (refine QT ?_; clear hA a; intro a hA) | (refine st_op hA rfl rfl (by decide) (op_call rfl rfl rfl (stop_spec w0 _ _ bM g kd s oO oS nO cO nS cS pc bv fuel pi pb ph pe 4 empS hH)) ?_; clear hA hH; rintro _ w ⟨b, hH⟩ a hA) | (refine CT ?_ <;> repeat' refine CT ?_))
    exact rt1 (.inl rfl) rfl hA rfl (.inr ⟨hs, rfl, b, hH⟩)
  obtain ⟨o, k, vs, hfr, hp, hr2, hvs⟩ := id hf
  have hfl : fi.toNat < g.fs.l.length := by omega
  have hgm : g.fs.l.getD fi.toNat gr0 ∈ g.fs.l := getD_mem hfl
  have hbl := hne _ hgm
  have hspB : Sp (g.fs.l.getD fi.toNat gr0).bs.o (g.fs.l.getD fi.toNat gr0).bs.l.length := (hR.2.1 _ hgm).1.1.sp (sz := 6) (flat_length encBl_len _) (by omega)
  repeat' (first | ((first | apply st_ex hA hH rfl rfl (by decide) | apply dr_ex hA rfl rfl rfl (by decide) | apply dr_exp hA rfl rfl rfl (by decide) | apply dr_ex3 hA hH rfl rfl rfl (by decide)); (first | (apply ex_assertY; rfl)); clear hA a; intro a hA) | (refine QT ?_; clear hA a; intro a hA) | (refine CT ?_ <;> repeat' refine CT ?_))
  have hb0 : (0 : Int) < (g.fs.l.getD fi.toNat gr0).bs.l.length := by omega
  refine wp_drawTL (qs [0, 1, 3, 4, 6, 9, 10, 11, 12, 13, 14, 15, 16, 17, 18, 19, 20, 21] (.one 2 (.two 5 7 (.one 7 (qs [8, 22, 23, 24] .nil)) (.one 5 (qs [8, 22, 23, 24] .nil))))) [25] [] (fun _ _ => False) mixed (by decide +kernel) hH ?_ (fun a w h => h.elim)
  intro hQ
  replace hH := hH.drew
  (repeat ((first | (apply dl_exp hA rfl rfl rfl (by decide) rfl; exact ex_move rfl) | (apply dl_ex hA rfl rfl rfl (by decide) rfl; first | (apply ex_load; rfl; exact cl_frzB MEMT hp rfl) | (apply ex_indexAddr; rfl; rfl; omega; omega; first | exact hspF | exact hspB) | (apply ex_load; rfl; refine cl_rd hR.1.1 id (fs_at ?_); omega) | (apply ex_iface; rfl) | (apply ex_build_p (cs := #[.pointer (some (bat p 0)), .map (some bV), .pointer (blkA g fi 0), .int .i64 0, .pointer none]); rfl; (repeat (first | (intro _ h; exact absurd h (List.not_mem_nil)) | (refine List.forall_mem_cons.2 ⟨one_cell_of _ _, ?_⟩))); rfl) | exact EXT)); clear hA a; intro a hA))
  (refine dl_op hA rfl rfl rfl (by decide) (op_makeMap hH) ?_; clear hA hH; rintro _ w ⟨bV, rfl, hH⟩; refine ⟨hH.tail, ?_⟩; intro a hA)
  refine dl_two ?_ ?_
  · (apply dl_op0 hA rfl rfl rfl; apply op_insertV; rfl; rfl; rfl; exact hH; (repeat constructor); clear hH; rintro _ w hH; refine ⟨hH.tail, ?_⟩)
    (apply dl_op0 hA rfl rfl rfl; apply op_insertV; rfl; rfl; rfl; exact hH; (repeat constructor); clear hH; rintro _ w hH; refine ⟨hH.tail, ?_⟩)
    (repeat ((first | (apply dl_exp hA rfl rfl rfl (by decide) rfl; exact ex_move rfl) | (apply dl_ex hA rfl rfl rfl (by decide) rfl; first | (apply ex_load; rfl; exact cl_frzB MEMT hp rfl) | (apply ex_indexAddr; rfl; rfl; omega; omega; first | exact hspF | exact hspB) | (apply ex_load; rfl; refine cl_rd hR.1.1 id (fs_at ?_); omega) | (apply ex_iface; rfl) | (apply ex_build_p (cs := #[.pointer (some (bat p 0)), .map (some bV), .pointer (blkA g fi 0), .int .i64 0, .pointer none]); rfl; (repeat (first | (intro _ h; exact absurd h (List.not_mem_nil)) | (refine List.forall_mem_cons.2 ⟨one_cell_of _ _, ?_⟩))); rfl) | exact EXT)); clear hA a; intro a hA))
    (apply dl_nil; (apply dr_op03 hA rfl rfl rfl; apply op_store_cb (vs := [.pointer (some (bat p 0)), .map (some bV), .pointer (blkA g fi 0), .int .i64 0, .pointer none]) (cs' := encW g kd s oO nO cO ++ encR g fuel oS nS cS p bV (blkA g fi 0) 0 none pe); rfl; rfl; exact hH; (repeat constructor); clear hH; rintro _ w hH); (repeat' (first | (refine QT ?_; clear hA a; intro a hA) | (refine CT ?_ <;> repeat' refine CT ?_))))
    exact rt1 (.inl rfl) rfl hA rfl (.inl ⟨(fi, l), p, bV, _, hs, rfl, hf, MapR_new (cl := (fi, l)) hf hv, hH.perm (by (repeat (first | exact List.Perm.refl _ | exact List.Perm.nil | refine perm_pick 0 rfl ?_ | refine perm_pick 1 rfl ?_ | refine perm_pick 2 rfl ?_ | refine perm_pick 3 rfl ?_ | refine perm_pick 4 rfl ?_ | refine perm_pick 5 rfl ?_ | refine perm_pick 6 rfl ?_ | refine perm_pick 7 rfl ?_ | refine perm_pick 8 rfl ?_ | refine perm_pick 9 rfl ?_ | refine perm_pick 10 rfl ?_ | refine perm_pick 11 rfl ?_)))⟩)
  · (apply dl_op0 hA rfl rfl rfl; apply op_insertV; rfl; rfl; rfl; exact hH; (repeat constructor); clear hH; rintro _ w hH; refine ⟨hH.tail, ?_⟩)
    (apply dl_op0 hA rfl rfl rfl; apply op_insertV; rfl; rfl; rfl; exact hH; (repeat constructor); clear hH; rintro _ w hH; refine ⟨hH.tail, ?_⟩)
    (repeat ((first | (apply dl_exp hA rfl rfl rfl (by decide) rfl; exact ex_move rfl) | (apply dl_ex hA rfl rfl rfl (by decide) rfl; first | (apply ex_load; rfl; exact cl_frzB MEMT hp rfl) | (apply ex_indexAddr; rfl; rfl; omega; omega; first | exact hspF | exact hspB) | (apply ex_load; rfl; refine cl_rd hR.1.1 id (fs_at ?_); omega) | (apply ex_iface; rfl) | (apply ex_build_p (cs := #[.pointer (some (bat p 0)), .map (some bV), .pointer (blkA g fi 0), .int .i64 0, .pointer none]); rfl; (repeat (first | (intro _ h; exact absurd h (List.not_mem_nil)) | (refine List.forall_mem_cons.2 ⟨one_cell_of _ _, ?_⟩))); rfl) | exact EXT)); clear hA a; intro a hA))
    (apply dl_nil; (apply dr_op03 hA rfl rfl rfl; apply op_store_cb (vs := [.pointer (some (bat p 0)), .map (some bV), .pointer (blkA g fi 0), .int .i64 0, .pointer none]) (cs' := encW g kd s oO nO cO ++ encR g fuel oS nS cS p bV (blkA g fi 0) 0 none pe); rfl; rfl; exact hH; (repeat constructor); clear hH; rintro _ w hH); (repeat' (first | (refine QT ?_; clear hA a; intro a hA) | (refine CT ?_ <;> repeat' refine CT ?_))))
    exact rt1 (.inl rfl) rfl hA rfl (.inl ⟨(fi, l), p, bV, _, hs, rfl, hf, MapR_new2 (cl := (fi, l)) hf hv, hH.perm (by (repeat (first | exact List.Perm.refl _ | exact List.Perm.nil | refine perm_pick 0 rfl ?_ | refine perm_pick 1 rfl ?_ | refine perm_pick 2 rfl ?_ | refine perm_pick 3 rfl ?_ | refine perm_pick 4 rfl ?_ | refine perm_pick 5 rfl ?_ | refine perm_pick 6 rfl ?_ | refine perm_pick 7 rfl ?_ | refine perm_pick 8 rfl ?_ | refine perm_pick 9 rfl ?_ | refine perm_pick 10 rfl ?_ | refine perm_pick 11 rfl ?_)))⟩)
end Go.Proofs.YtenlcdokaadobaaGreatDoor
namespace Go.Proofs.YtenlcdokaadobaaGreatDoor
open Go Go.Fw
set_option linter.unusedVariables false
structure FmM where
  pc : Nat
  bv : Nat
  pb : Option Addr
  i : Int
  ph : Option Addr
  m : List (Int × Value)
def encFm (f : FmM) : List Value := [.pointer (some (bat f.pc 0)), .map (some f.bv), .pointer f.pb, .int .i64 f.i, .pointer f.ph]
theorem encFm_len (f : FmM) : (encFm f).length = 5 := rfl
theorem flatFm_s (l : List FmM) (f : FmM) : flat encFm l ++ encFm f = flat encFm (l ++ [f]) := by rw [flat_snoc]
theorem lenFm (l : List FmM) (f : FmM) : (l ++ [f]).length = l.length + 1 := by rw [List.length_append]; rfl
theorem sub_fm (g : Grs) (fuel : Int) (oS : Option Addr) (nS cS pc bv : Nat) (pb : Option Addr) (pi : Int) (ph pe : Option Addr) (kd : Int) (s : ByteArray) (oO : Option Addr) (nO cO : Nat) (i : Nat) (v : Value) (h : (encFm ⟨pc, bv, pb, pi, ph, []⟩)[i]? = some v) : (encW g kd s oO nO cO ++ encR g fuel oS nS cS pc bv pb pi ph pe)[12 + i]? = some v := by
  match i, h with
  | 0, h => exact h
  | 1, h => exact h
  | 2, h => exact h
  | 3, h => exact h
  | 4, h => exact h
set_option maxRecDepth 10000 attribute [local irreducible] Code.wp wpList Calls Ex Op1 sat bat blk cb own Go.Fw.mp Go.Fw.mpO Go.Fw.mpI Go.Fw.mpE Go.Fw.itr HS Rd Ret wkD Hp Cl Cls Exit.then Exit.inBlock Exit.noGoto bodyPost Go.Fw.flat wk2 Go.Fw.all Go.Fw.owns wpOp
attribute [local irreducible] sk mpK sko mvO entK opM Go.Fw.mset Go.Fw.mv opK w63 frz obI RV idxF

set_option maxHeartbeats 16000000 in
theorem call_spec (w0 w : World) (H : List It) (c : Cx) (bM : Nat) (g : Grs) (kd : Int) (s : ByteArray) (oO oS : Option Addr) (nO cO cS pc bv : Nat) (fuel pi : Int) (pb ph pe hd : Option Addr) (mm : List (Int × Value)) (fms : List FmM) (f x : Vl) (u v : Value) (hH : HS w0 noM (cb bM 86 (encW g kd s oO nO cO ++ encR g fuel oS fms.length cS pc bv pb pi ph pe) :: frz w0 c.K :: own 83 5 oS fms.length cS (flat encFm fms) :: H) w) (hu : RV c f u) (hv : RV c x v)
    (hR : RdGs w0 g) (hnf : c.nf = g.fs.l.length) (hne : ∀ f ∈ g.fs.l, 0 < f.bs.l.length) (hfl : fms.length ≤ 1000000) :
    Ret Tryz.prog 49 #[.pointer (some (bat bM 0)), u, v, .pointer hd] w (fun r w' =>
      (∃ cl p b m oS2 cS2, asFn f = some cl ∧ FnR c cl.1 cl.2 p ∧ MapR c (newF cl x).vs m ∧ HS w0 noM (cb bM 86 (encW g kd s oO nO cO ++ encR g fuel oS2 (fms ++ [(⟨pc, bv, pb, pi, hd, mm⟩ : FmM)]).length cS2 p b (blkA g cl.1 0) 0 none pe) :: own 83 5 oS2 (fms ++ [(⟨pc, bv, pb, pi, hd, mm⟩ : FmM)]).length cS2 (flat encFm (fms ++ [⟨pc, bv, pb, pi, hd, mm⟩])) :: mp b m :: frz w0 c.K :: H) w') ∨
      (asFn f = none ∧ ∃ b, HS w0 noM (cb bM 86 (encW g kd s oO nO cO ++ encR g fuel oS fms.length cS pc bv pb pi ph (some (bat b 0))) :: cb b 29 (encO3 4 empS empS) :: frz w0 c.K :: own 83 5 oS fms.length cS (flat encFm fms) :: H) w')) := by
  (refine enter (N := 29) Tryz.func49 rfl Tryz.ntmps49 rfl ?_; intro a hA; dsimp only [sl0, Nat.reduceAdd] at hA)
  repeat' (first | ((first | apply st_ex hA hH rfl rfl (by decide) | apply dr_ex hA rfl rfl rfl (by decide) | apply dr_exp hA rfl rfl rfl (by decide) | apply dr_ex3 hA hH rfl rfl rfl (by decide)); (first | (apply ex_load_st (vs := encFm ⟨pc, bv, pb, pi, ph, mm⟩); rfl; rfl; exact cls_cb MEMT (fun i v h => (by rw [Nat.zero_add]; exact sub_fm g fuel oS fms.length cS pc bv pb pi ph pe kd s oO nO cO i v h)))); clear hA a; intro a hA) | (refine QT ?_; clear hA a; intro a hA) | (refine BT ?_; clear hA hH; rintro _ w ⟨bN, rfl, hH⟩ a hA) | (apply st_op0 hA rfl rfl; apply op_store_agg (vs := encFm ⟨pc, bv, pb, pi, ph, mm⟩); rfl; rfl; exact hH; (repeat constructor); (repeat rfl); clear hH; rintro _ w hH) | (apply st_op0 hA rfl rfl; apply op_store_fld (cs' := encFm ⟨pc, bv, pb, pi, hd, mm⟩); rfl; rfl; rfl; exact hH; (repeat constructor); clear hH; rintro _ w hH) | (refine CT ?_ <;> repeat' refine CT ?_))
  obtain ⟨b8, hb8⟩ : ∃ x, x = bN := ⟨_, rfl⟩
  rw [← hb8] at hA hH
  clear hb8 bN
  (refine st_op hA rfl rfl (by decide) (op_call rfl rfl rfl (enter_spec w0 w (own 83 5 oS fms.length cS (flat encFm fms) :: cb b8 83 (encFm ⟨pc, bv, pb, pi, hd, mm⟩) :: H) c bM g kd s oO oS nO cO fms.length cS pc bv fuel pi pb ph pe f x u v (hH.perm (by (repeat (first | exact List.Perm.refl _ | exact List.Perm.nil | refine perm_pick 0 rfl ?_ | refine perm_pick 1 rfl ?_ | refine perm_pick 2 rfl ?_ | refine perm_pick 3 rfl ?_ | refine perm_pick 4 rfl ?_ | refine perm_pick 5 rfl ?_ | refine perm_pick 6 rfl ?_ | refine perm_pick 7 rfl ?_ | refine perm_pick 8 rfl ?_ | refine perm_pick 9 rfl ?_ | refine perm_pick 10 rfl ?_ | refine perm_pick 11 rfl ?_)))) hu hv hR hnf hne)) ?_; clear hA hH)
  rintro _ w (⟨cl, p, b, m, hs, rfl, hcf, hm, hH⟩ | ⟨hs, rfl, b, hH⟩) a hA
  rotate_left
  · repeat' (first | (refine QT ?_; clear hA a; intro a hA) | (refine CT ?_ <;> repeat' refine CT ?_))
    exact rt0 (.inr rfl) rfl hA (.inr ⟨hs, b, (hH.rm 4).perm (by (repeat (first | exact List.Perm.refl _ | exact List.Perm.nil | refine perm_pick 0 rfl ?_ | refine perm_pick 1 rfl ?_ | refine perm_pick 2 rfl ?_ | refine perm_pick 3 rfl ?_ | refine perm_pick 4 rfl ?_ | refine perm_pick 5 rfl ?_ | refine perm_pick 6 rfl ?_ | refine perm_pick 7 rfl ?_ | refine perm_pick 8 rfl ?_ | refine perm_pick 9 rfl ?_ | refine perm_pick 10 rfl ?_ | refine perm_pick 11 rfl ?_)))⟩)
  repeat' (first | (refine QT ?_; clear hA a; intro a hA) | (refine CT ?_ <;> repeat' refine CT ?_))
  have hST : HS w0 noM [cb bM 86 (encW g kd s oO nO cO ++ encR g fuel oS fms.length cS p b (blkA g cl.1 0) 0 none pe), cb b8 83 (encFm ⟨pc, bv, pb, pi, hd, mm⟩)] w := HS.left (H1 := [_, _]) (H2 := own 83 5 oS fms.length cS (flat encFm fms) :: mp b m :: frz w0 c.K :: H) (hH.perm (by (repeat (first | exact List.Perm.refl _ | exact List.Perm.nil | refine perm_pick 0 rfl ?_ | refine perm_pick 1 rfl ?_ | refine perm_pick 2 rfl ?_ | refine perm_pick 3 rfl ?_ | refine perm_pick 4 rfl ?_ | refine perm_pick 5 rfl ?_ | refine perm_pick 6 rfl ?_ | refine perm_pick 7 rfl ?_ | refine perm_pick 8 rfl ?_ | refine perm_pick 9 rfl ?_ | refine perm_pick 10 rfl ?_ | refine perm_pick 11 rfl ?_))))
  replace hH := hH.perm (H' := cb bM 86 (encW g kd s oO nO cO ++ encR g fuel oS fms.length cS p b (blkA g cl.1 0) 0 none pe) :: cb b8 83 (encFm ⟨pc, bv, pb, pi, hd, mm⟩) :: own 83 5 oS fms.length cS (flat encFm fms) :: mp b m :: frz w0 c.K :: H) (by (repeat (first | exact List.Perm.refl _ | exact List.Perm.nil | refine perm_pick 0 rfl ?_ | refine perm_pick 1 rfl ?_ | refine perm_pick 2 rfl ?_ | refine perm_pick 3 rfl ?_ | refine perm_pick 4 rfl ?_ | refine perm_pick 5 rfl ?_ | refine perm_pick 6 rfl ?_ | refine perm_pick 7 rfl ?_ | refine perm_pick 8 rfl ?_ | refine perm_pick 9 rfl ?_ | refine perm_pick 10 rfl ?_ | refine perm_pick 11 rfl ?_)))
  (refine wp_draw2_HS (H := [_, _]) [(0, 1), (1, 1), (2, 1), (3, 1), (4, 1), (5, 1), (6, 0), (7, 0), (8, 1), (9, 1)] [10] mixed (by decide +kernel) (hST) ?_; replace hH := hH.drew)
  clear hST
  repeat' (first | ((first | apply st_ex hA hH rfl rfl (by decide) | apply dr_ex hA rfl rfl rfl (by decide) | apply dr_exp hA rfl rfl rfl (by decide) | apply dr_ex3 hA hH rfl rfl rfl (by decide)); (first | (apply ex_load_st (vs := encFm ⟨pc, bv, pb, pi, hd, mm⟩); rfl; rfl; exact cls_cb_all MEMT)); clear hA a; intro a hA) | (refine QT ?_; clear hA a; intro a hA))
  (apply dr_op hA rfl rfl rfl (by decide); apply op_sliceLit (xs := encFm ⟨pc, bv, pb, pi, hd, mm⟩) (vs := [.agg (encFm ⟨pc, bv, pb, pi, hd, mm⟩).toArray]); rfl; rfl; exact (Cats.cn (cs := encFm ⟨pc, bv, pb, pi, hd, mm⟩) Cats.nil); rfl; rfl; rfl; exact hH; clear hA hH; rintro _ w ⟨oN, rfl, hH⟩; refine ⟨HS.left (H1 := [_, _]) hH.tail, ?_⟩; intro a hA)
  (apply dr_op hA rfl rfl rfl (by decide); apply op_append; rfl; rfl; exact hH; exact MEMT; exact (hH.own_rd (List.Mem.head _)); exact rfl; rfl; decide; exact rfl; (unfold maxLen; omega); omega; clear hA; rintro _ w ⟨oN, cN, rfl, hH2⟩; clear hH; have hH := hH2 _ (by (repeat constructor)); clear hH2; refine ⟨HS.left (H1 := [_, _]) hH.tail, ?_⟩; intro a hA)
  rw [flatFm_s] at hH
  repeat' (first | (refine QT ?_; clear hA a; intro a hA) | (apply dr_op03 hA rfl rfl rfl; apply op_store_fld (cs' := encW g kd s oO nO cO ++ encR g fuel oN (fms.length + 1) cN p b (blkA g cl.1 0) 0 none pe); rfl; rfl; rfl; exact hH; (repeat constructor); clear hH; rintro _ w hH) | (refine CT ?_ <;> repeat' refine CT ?_))
  rw [← lenFm fms ⟨pc, bv, pb, pi, hd, mm⟩] at hH
  refine rt0 (.inr rfl) rfl hA (.inl ⟨cl, p, b, m, oN, cN, hs, hcf, hm, ?_⟩)
  exact ((hH.rm 0).rm 1).perm (by (repeat (first | exact List.Perm.refl _ | exact List.Perm.nil | refine perm_pick 0 rfl ?_ | refine perm_pick 1 rfl ?_ | refine perm_pick 2 rfl ?_ | refine perm_pick 3 rfl ?_ | refine perm_pick 4 rfl ?_ | refine perm_pick 5 rfl ?_ | refine perm_pick 6 rfl ?_ | refine perm_pick 7 rfl ?_ | refine perm_pick 8 rfl ?_ | refine perm_pick 9 rfl ?_ | refine perm_pick 10 rfl ?_ | refine perm_pick 11 rfl ?_)))
end Go.Proofs.YtenlcdokaadobaaGreatDoor
namespace Go.Proofs.YtenlcdokaadobaaGreatDoor
open Go Go.Fw
set_option linter.unusedVariables false
theorem HS_cut {w0 w : World} {M : Nat → Prop} {H H' : List It} {T sz n cap k : Nat} {o : Option Addr} {xs : List Value} (h : HS w0 M H w) (hk : k ≤ n) (hr : Rp H (own T sz o n cap xs) (own T sz o k cap (xs.take (k * sz))) H') : HS w0 M H' w :=
  h.conv hr fun F hF => own_cut hF hk
theorem get_last {α : Type} (s : List α) (x : α) : (s ++ [x])[s.length]? = some x := by simp
theorem flatFm_cut (pre : List FmM) (f : FmM) : (flat encFm (pre ++ [f])).take (pre.length * 5) = flat encFm pre := by
  rw [← flatFm_s, List.take_append_of_le_length (Nat.le_of_eq (flat_length encFm_len _).symm), List.take_of_length_le (Nat.le_of_eq (flat_length encFm_len _))]
theorem bl_is {l : List Blc} {b : Nat} {bl : Blc} (h : l[b]? = some bl) : (flat encBl l)[b * 6 + 1]? = some (.slice bl.is.o bl.is.l.length bl.is.c) := flat_get (off := 1) encBl_len h rfl
theorem in_x {l : List Ins} {i : Nat} {x : Ins} (h : l[i]? = some x) : (flat encIn l)[i * 5 + 0]? = some (.int .i64 x.x) := flat_get (off := 0) encIn_len h rfl
set_option maxRecDepth 10000 attribute [local irreducible] Code.wp wpList Calls Ex Op1 sat bat blk cb own Go.Fw.mp Go.Fw.mpO Go.Fw.mpI Go.Fw.mpE Go.Fw.itr HS Rd Ret wkD Hp Cl Cls Exit.then Exit.inBlock Exit.noGoto bodyPost Go.Fw.flat wk2 Go.Fw.all Go.Fw.owns wpOp
attribute [local irreducible] sk mpK sko mvO entK opM Go.Fw.mset Go.Fw.mv opK w63 frz obI RV idxF

set_option maxHeartbeats 16000000 in
theorem back_spec (w0 w : World) (H : List It) (bM : Nat) (g : Grs) (kd : Int) (s : ByteArray) (oO oS oB : Option Addr) (nO cO cS pc bv b i : Nat) (fuel pi : Int) (pb ph pe : Option Addr) (pre : List FmM) (f0 : FmM) (u : Value) (gr : Gr) (bl : Blc) (x : Ins) (hH : HS w0 noM (cb bM 86 (encW g kd s oO nO cO ++ encR g fuel oS (pre.length + 1) cS pc bv pb pi ph pe) :: own 83 5 oS (pre.length + 1) cS (flat encFm (pre ++ [f0])) :: mp f0.bv f0.m :: H) w)
    (hR : RdG w0 gr) (hbl : gr.bs.l[b]? = some bl) (hx : bl.is.l[i]? = some x) (hpb : f0.pb = some (sat gr.bs.o (b * 6))) (hi : f0.i = i) (hpl : pre.length ≤ 1000000) :
    Ret Tryz.prog 53 #[.pointer (some (bat bM 0)), u] w (fun r w' =>
      HS w0 noM (cb bM 86 (encW g kd s oO nO cO ++ encR g fuel oS pre.length cS f0.pc f0.bv f0.pb ((i + 1 : Nat) : Int) f0.ph pe) :: own 83 5 oS pre.length cS (flat encFm pre) :: mp f0.bv (mset f0.m x.x u) :: H) w') := by
  have hbm := List.mem_of_getElem? hbl
  have hbR := hR.2 bl hbm
  have hle := hbR.2.1.le
  have hil := (List.getElem?_eq_some_iff.1 hx).1
  have hspI : Sp bl.is.o bl.is.l.length := hbR.2.1.1.sp (sz := 5) (flat_length encIn_len _) (by omega)
  have hspS := hH.own_sp (T := 83) (o := oS) (by exact MEMT)
  have hlast := flat_all encFm_len (get_last pre f0)
  have hvI := bl_is hbl
  have hvX := in_x hx
  have hown := hH.own_le (T := 83) (o := oS) (by exact MEMT)
  obtain ⟨pcf, bvf, pbf, pif, phf, mf⟩ := f0
  dsimp only at hpb hi hH ⊢
  subst hpb hi
  (refine enter (N := 87) Tryz.func53 rfl Tryz.ntmps53 rfl ?_; intro a hA; dsimp only [sl0, Nat.reduceAdd] at hA)
  repeat' (first | (refine QT ?_; clear hA a; intro a hA) | (refine CT ?_ <;> repeat' refine CT ?_))
  (refine wp_draw2_HS [(0, 1), (1, 1), (2, 1), (3, 1), (4, 1), (5, 1), (6, 1), (7, 1), (8, 1), (9, 1), (10, 1), (11, 1), (12, 1), (13, 1), (14, 1)] [15] mixed (by decide +kernel) hH ?_; replace hH := hH.drew)
  repeat' (first | ((first | apply st_ex hA hH rfl rfl (by decide) | apply dr_ex hA rfl rfl rfl (by decide) | apply dr_exp hA rfl rfl rfl (by decide) | apply dr_ex3 hA hH rfl rfl rfl (by decide)); (first | (apply ex_pred; rfl; rfl; omega) | (apply ex_indexAddr_nat; rfl; rfl; omega; exact hspS) | (apply ex_load_st (vs := encFm ⟨pcf, bvf, some (sat gr.bs.o (b * 6)), i, phf, mf⟩); rfl; rfl; exact cls_own (T := 83) (o := oS) MEMT hlast)); clear hA a; intro a hA) | (refine QT ?_; clear hA a; intro a hA) | (apply dr_op03 hA rfl rfl rfl; apply op_store_cb (vs := encFm ⟨pcf, bvf, some (sat gr.bs.o (b * 6)), i, phf, mf⟩) (cs' := encW g kd s oO nO cO ++ encR g fuel oS (pre.length + 1) cS pcf bvf (some (sat gr.bs.o (b * 6))) i phf pe); rfl; rfl; exact hH; (repeat constructor); clear hH; rintro _ w hH) | (refine CT ?_ <;> repeat' refine CT ?_))
  (refine wp_draw2_HS [(0, 1), (1, 1), (2, 1), (3, 1), (4, 1), (5, 1), (6, 1), (7, 1), (8, 1), (9, 1), (10, 1), (11, 1), (12, 1), (13, 1)] [14] mixed (by decide +kernel) hH ?_; replace hH := hH.drew)
  repeat' (first | ((first | apply st_ex hA hH rfl rfl (by decide) | apply dr_ex hA rfl rfl rfl (by decide) | apply dr_exp hA rfl rfl rfl (by decide) | apply dr_ex3 hA hH rfl rfl rfl (by decide)); (first | (apply ex_pred; rfl; rfl; omega) | (apply ex_slice_hi (k := pre.length); rfl; rfl; rfl; omega)); clear hA a; intro a hA) | (refine QT ?_; clear hA a; intro a hA) | (apply dr_op03 hA rfl rfl rfl; apply op_store_fld (cs' := encW g kd s oO nO cO ++ encR g fuel oS pre.length cS pcf bvf (some (sat gr.bs.o (b * 6))) i phf pe); rfl; rfl; rfl; exact hH; (repeat constructor); clear hH; rintro _ w hH) | (refine CT ?_ <;> repeat' refine CT ?_))
  replace hH := HS_cut (T := 83) (sz := 5) (o := oS) (cap := cS) (k := pre.length) (n := pre.length + 1) hH (Nat.le_succ _) (by (repeat constructor))
  rw [flatFm_cut] at hH
  (refine wp_draw2_HS [(0, 1), (1, 1), (2, 1), (3, 1), (4, 1), (5, 1), (6, 1), (7, 1), (8, 1), (9, 1), (10, 1), (11, 1), (12, 1), (13, 1), (14, 1), (15, 1), (16, 1), (17, 1), (18, 1), (19, 1), (20, 1), (21, 1)] [22] mixed (by decide +kernel) hH ?_; replace hH := hH.drew)
  repeat' (first | ((first | apply st_ex hA hH rfl rfl (by decide) | apply dr_ex hA rfl rfl rfl (by decide) | apply dr_exp hA rfl rfl rfl (by decide) | apply dr_ex3 hA hH rfl rfl rfl (by decide)); (first | (apply ex_load; rfl; exact cl_rd hR.1.1 id hvI) | (apply ex_load; rfl; exact cl_rd hbR.2.1.1 id hvX) | (apply ex_indexAddr_nat; rfl; rfl; omega; exact hspI)); clear hA a; intro a hA) | (refine QT ?_; clear hA a; intro a hA) | (apply dr_op03 hA rfl rfl rfl; apply op_mapUpdate; rfl; rfl; rfl; exact hH; (repeat constructor); clear hH; rintro _ w hH) | (refine CT ?_ <;> repeat' refine CT ?_))
  repeat' (first | (refine QT ?_; clear hA a; intro a hA) | (apply st_op0 hA rfl rfl; apply op_store_fld (cs' := encW g kd s oO nO cO ++ encR g fuel oS pre.length cS pcf bvf (some (sat gr.bs.o (b * 6))) ((i + 1 : Nat) : Int) phf pe); rfl; rfl; rfl; exact hH; (repeat constructor); clear hH; rintro _ w hH) | (refine CT ?_ <;> repeat' refine CT ?_))
  exact rt0 (.inr rfl) rfl hA hH
end Go.Proofs.YtenlcdokaadobaaGreatDoor
namespace Go.Proofs.YtenlcdokaadobaaGreatDoor
open Go Go.Fw
set_option linter.unusedVariables false
def hdR (c : Cx) : Option Clo → Option Addr → Prop
  | none, ph => ph = none
  | some cl, ph => ∃ p, ph = some (bat p 0) ∧ FnR c cl.1 cl.2 p
theorem hdR.mono {c d : Cx} (h : c.le d) : ∀ {x : Option Clo} {p : Option Addr}, hdR c x p → hdR d x p
  | none, p, hx => hx
  | some cl, p, ⟨q, h1, h2⟩ => ⟨q, h1, h2.mono h⟩
structure FmR (g : Grs) (c : Cx) (f : Fm) (x : FmM) : Prop where
  fn : FnR c f.c.1 f.c.2 x.pc
  vs : MapR c f.vs x.m
  pb : x.pb = blkA g f.c.1 f.b
  i : x.i = (f.i : Int)
  h : hdR c f.h x.ph
theorem FmR.mono {g : Grs} {c d : Cx} (h : c.le d) {f : Fm} {x : FmM} (hf : FmR g c f x) : FmR g d f x := ⟨hf.fn.mono h, hf.vs.mono h, hf.pb, hf.i, hf.h.mono h⟩
def FsR (g : Grs) (c : Cx) : List Fm → List FmM → Prop
  | [], l => l = []
  | f :: r, l => ∃ pre x, l = pre ++ [x] ∧ FmR g c f x ∧ FsR g c r pre
theorem FsR.mono {g : Grs} {c d : Cx} (h : c.le d) : ∀ {sk : List Fm} {l : List FmM}, FsR g c sk l → FsR g d sk l
  | [], l, hs => hs
  | f :: r, l, ⟨pre, x, h1, h2, h3⟩ => ⟨pre, x, h1, h2.mono h, FsR.mono h h3⟩
theorem FsR.len {g : Grs} {c : Cx} : ∀ {sk : List Fm} {l : List FmM}, FsR g c sk l → l.length = sk.length
  | [], l, hs => by rw [show l = [] from hs]; rfl
  | f :: r, l, ⟨pre, x, h1, h2, h3⟩ => by rw [h1, List.length_append, h3.len]; rfl
def mpF (x : FmM) : It := mp x.bv x.m
theorem mpF_pop {w0 w : World} {H : List It} {pre : List FmM} {x : FmM} (h : HS w0 noM (all ((pre ++ [x]).map mpF) :: H) w) : HS w0 noM (mp x.bv x.m :: all (pre.map mpF) :: H) w := by
  rw [List.map_append] at h
  have := HS.all_out (A := pre.map mpF) (B := []) (x := mp x.bv x.m) h
  rwa [List.append_nil] at this
theorem mpF_push {w0 w : World} {H : List It} {pre : List FmM} {x : FmM} (h : HS w0 noM (mp x.bv x.m :: all (pre.map mpF) :: H) w) : HS w0 noM (all ((pre ++ [x]).map mpF) :: H) w := by
  rw [List.map_append]
  exact HS.all_in (A := pre.map mpF) (B := []) (x := mp x.bv x.m) (by rwa [List.append_nil])
set_option maxRecDepth 10000 attribute [local irreducible] Code.wp wpList Calls Ex Op1 sat bat blk cb own Go.Fw.mp Go.Fw.mpO Go.Fw.mpI Go.Fw.mpE Go.Fw.itr HS Rd Ret wkD Hp Cl Cls Exit.then Exit.inBlock Exit.noGoto bodyPost Go.Fw.flat wk2 Go.Fw.all Go.Fw.owns wpOp
attribute [local irreducible] sk mpK sko mvO entK opM Go.Fw.mset Go.Fw.mv opK w63 frz obI RV idxF

set_option maxHeartbeats 16000000 in
theorem raise_spec (w0 w : World) (H : List It) (c : Cx) (bM : Nat) (g : Grs) (kd : Int) (s : ByteArray) (oO oS : Option Addr) (nO cO cS pc bv : Nat) (fuel pi : Int) (pb ph pe : Option Addr) (fms : List FmM) (sk : List Fm) (wd : Wd) (n : Int) (hH : HS w0 noM (cb bM 86 (encW g kd s oO nO cO ++ encR g fuel oS fms.length cS pc bv pb pi ph pe) :: frz w0 c.K :: own 83 5 oS fms.length cS (flat encFm fms) :: all (fms.map mpF) :: H) w) (hF : FsR g c sk fms) (hn : iok n)
    (hR : RdGs w0 g) (hnf : c.nf = g.fs.l.length) (hne : ∀ f ∈ g.fs.l, 0 < f.bs.l.length) (hfl : fms.length ≤ 1000000) (hxs : ∀ s ∈ g.xs.l, s.size ≤ 4611686018427387904) :
    Ret Tryz.prog 51 #[.pointer (some (bat bM 0)), .int .i64 n] w (fun r w' =>
      (∃ sk' cl p b m oS cS fms', raiseF g n wd sk = .go ⟨wd, sk', newF cl (.num n)⟩ ∧ FnR c cl.1 cl.2 p ∧ MapR c (newF cl (.num n)).vs m ∧ FsR g c sk' fms' ∧ HS w0 noM (cb bM 86 (encW g kd s oO nO cO ++ encR g fuel oS fms'.length cS p b (blkA g cl.1 0) 0 none pe) :: own 83 5 oS fms'.length cS (flat encFm fms') :: all (fms'.map mpF) :: mp b m :: frz w0 c.K :: H) w') ∨
      (∃ k res oS nS cS b, raiseF g n wd sk = .stop k res wd ∧ HS w0 noM (cb bM 86 (encW g kd s oO nO cO ++ encR g fuel oS nS cS pc bv pb pi ph (some (bat b 0))) :: cb b 29 (encO3 k empS res) :: frz w0 c.K :: H) w')) := by
  have hxR := hR.2.2.2.2.1
  have hxl := hxR.le
  have hspX : Sp g.xs.o g.xs.l.length := hxR.1.sp (sz := 1) (flat_length encX_len _) (by omega)
  (refine enter (N := 84) Tryz.func51 rfl Tryz.ntmps51 rfl ?_; intro a hA; dsimp only [sl0, Nat.reduceAdd] at hA)
  repeat' (first | (refine GT ?_ ?_ <;> intro hg <;> clear hA a <;> intro a hA <;> (first | exact FA | replace hg := of_decide_eq_true hg | replace hg := of_decide_eq_false hg | skip)) | (refine QT ?_; clear hA a; intro a hA) | (refine st_op hA rfl rfl (by decide) (op_call rfl rfl rfl (stop_spec w0 _ _ bM g kd s oO oS nO cO fms.length cS pc bv fuel pi pb ph pe 4 empS hH)) ?_; clear hA hH; rintro _ w ⟨b, hH⟩ a hA) | ((first | refine CT ?_ | (refine DT ?_ ?_ <;> intro hc <;> try (exfalso; omega))) <;> repeat' refine CT ?_))
  · exact rt0 (.inl rfl) rfl hA (.inr ⟨4, empS, _, _, _, b, by unfold raiseF; rw [if_pos (.inl (by assumption))]; rfl, ((hH.rm 3).rm 3).perm (by (repeat (first | exact List.Perm.refl _ | exact List.Perm.nil | refine perm_pick 0 rfl ?_ | refine perm_pick 1 rfl ?_ | refine perm_pick 2 rfl ?_ | refine perm_pick 3 rfl ?_ | refine perm_pick 4 rfl ?_ | refine perm_pick 5 rfl ?_ | refine perm_pick 6 rfl ?_ | refine perm_pick 7 rfl ?_ | refine perm_pick 8 rfl ?_ | refine perm_pick 9 rfl ?_ | refine perm_pick 10 rfl ?_ | refine perm_pick 11 rfl ?_)))⟩)
  · exact rt0 (.inl rfl) rfl hA (.inr ⟨4, empS, _, _, _, b, by unfold raiseF; rw [if_pos (.inr (by assumption))]; rfl, ((hH.rm 3).rm 3).perm (by (repeat (first | exact List.Perm.refl _ | exact List.Perm.nil | refine perm_pick 0 rfl ?_ | refine perm_pick 1 rfl ?_ | refine perm_pick 2 rfl ?_ | refine perm_pick 3 rfl ?_ | refine perm_pick 4 rfl ?_ | refine perm_pick 5 rfl ?_ | refine perm_pick 6 rfl ?_ | refine perm_pick 7 rfl ?_ | refine perm_pick 8 rfl ?_ | refine perm_pick 9 rfl ?_ | refine perm_pick 10 rfl ?_ | refine perm_pick 11 rfl ?_)))⟩)
  have hn0 : ¬ (n < 0 ∨ (g.xs.l.length : Int) ≤ n) := by omega
  refine wp_lpk (S := List Fm) (fun sk' a w => ∃ fms oS cS, (FsR g c sk' fms ∧ raiseL n wd sk = raiseL n wd sk' ∧ fms.length ≤ 1000000) ∧ HS w0 noM (cb bM 86 (encW g kd s oO nO cO ++ encR g fuel oS fms.length cS pc bv pb pi ph pe) :: frz w0 c.K :: own 83 5 oS fms.length cS (flat encFm fms) :: all (fms.map mpF) :: H) w ∧ Sl 84 [(0, .pointer (some (bat bM 0))), (1, .int .i64 n)] a) (fun sk' => sk'.length)
    (fun a w => ∃ oS nS cS, raiseL n wd sk = none ∧ HS w0 noM (cb bM 86 (encW g kd s oO nO cO ++ encR g fuel oS nS cS pc bv pb pi ph pe) :: frz w0 c.K :: H) w ∧ Sl 84 [(0, .pointer (some (bat bM 0))), (1, .int .i64 n)] a) sk ⟨fms, oS, cS, ⟨hF, rfl, hfl⟩, hH, (hA.sub (by (repeat (first | exact trivial | refine ⟨rfl, ?_⟩)); first | done | fail "sub"))⟩ ?_ ?_
  · clear hA hH hF hfl
    rintro sk' a w ⟨fms, oS, cS, ⟨hF, hr, hfl⟩, hH, hA⟩
    cases sk' with
    | nil =>
      obtain rfl : fms = [] := hF
      repeat' (first | (refine QT ?_; clear hA a; intro a hA) | (refine CT ?_ <;> repeat' refine CT ?_))
      exact ⟨_, _, _, hr, ((hH.rm 2).rm 2), (hA.sub (by (repeat (first | exact trivial | refine ⟨rfl, ?_⟩)); first | done | fail "sub"))⟩
    | cons f r =>
      obtain ⟨pre, x, rfl, hx, hF⟩ := hF
      obtain ⟨pcf, bvf, pbf, pif, phf, mf⟩ := x
      rw [lenFm] at hH hfl
      have hspS := hH.own_sp (T := 83) (o := oS) (by exact MEMT)
      have hlast := flat_all encFm_len (get_last pre ⟨pcf, bvf, pbf, pif, phf, mf⟩)
      have hown := hH.own_le (T := 83) (o := oS) (by exact MEMT)
      repeat' (first | (refine QT ?_; clear hA a; intro a hA) | ((first | refine CT ?_ | (refine DT ?_ ?_ <;> intro hc <;> try (exfalso; omega))) <;> repeat' refine CT ?_))
      (refine wp_draw2_HS [(0, 1), (1, 1), (2, 1), (3, 1), (4, 1), (5, 1), (6, 1), (7, 1), (8, 1), (9, 1), (10, 1), (11, 1), (12, 0)] [13] mixed (by decide +kernel) hH ?_; replace hH := hH.drew)
      repeat' (first | ((first | apply st_ex hA hH rfl rfl (by decide) | apply dr_ex hA rfl rfl rfl (by decide) | apply dr_exp hA rfl rfl rfl (by decide) | apply dr_ex3 hA hH rfl rfl rfl (by decide)); (first | (apply ex_pred; rfl; rfl; omega) | (apply ex_indexAddr_nat; rfl; rfl; omega; exact hspS) | (apply ex_load_st (vs := encFm ⟨pcf, bvf, pbf, pif, phf, mf⟩); rfl; rfl; exact cls_own (T := 83) (o := oS) MEMT hlast)); clear hA a; intro a hA) | (refine QT ?_; clear hA a; intro a hA))
      (apply dr_op hA rfl rfl rfl (by decide); apply op_alloc; exact hH; clear hA hH; rintro _ w ⟨bN, rfl, hH⟩; refine ⟨hH.tail, ?_⟩; intro a hA)
      repeat' (first | (refine QT ?_; clear hA a; intro a hA) | (apply dr_op03 hA rfl rfl rfl; apply op_store_agg (vs := encFm ⟨pcf, bvf, pbf, pif, phf, mf⟩); rfl; rfl; exact hH; (repeat constructor); (repeat rfl); clear hH; rintro _ w hH) | (refine CT ?_ <;> repeat' refine CT ?_))
      replace hA : Sl 84 [(0, .pointer (some (bat bM 0))), (1, .int .i64 n), (4, .pointer (some (bat bN 0)))] a := (hA.sub (by (repeat (first | exact trivial | refine ⟨rfl, ?_⟩)); first | done | fail "sub"))
      (refine wp_draw2_HS [(0, 1), (1, 1), (2, 1), (3, 1), (4, 1), (5, 1), (6, 1), (7, 1), (8, 1), (9, 1), (10, 1), (11, 1), (12, 1), (13, 1)] [14] mixed (by decide +kernel) hH ?_; replace hH := hH.drew)
      repeat' (first | ((first | apply st_ex hA hH rfl rfl (by decide) | apply dr_ex hA rfl rfl rfl (by decide) | apply dr_exp hA rfl rfl rfl (by decide) | apply dr_ex3 hA hH rfl rfl rfl (by decide)); (first | (apply ex_pred; rfl; rfl; omega) | (apply ex_slice_hi (k := pre.length); rfl; rfl; rfl; omega)); clear hA a; intro a hA) | (refine QT ?_; clear hA a; intro a hA) | (apply dr_op03 hA rfl rfl rfl; apply op_store_fld (cs' := encW g kd s oO nO cO ++ encR g fuel oS pre.length cS pc bv pb pi ph pe); rfl; rfl; rfl; exact hH; (repeat constructor); clear hH; rintro _ w hH) | (refine CT ?_ <;> repeat' refine CT ?_))
      replace hH := HS_cut (T := 83) (sz := 5) (o := oS) (cap := cS) (k := pre.length) (n := pre.length + 1) hH (Nat.le_succ _) (by (repeat constructor))
      rw [flatFm_cut] at hH
      replace hA : Sl 84 [(0, .pointer (some (bat bM 0))), (1, .int .i64 n), (4, .pointer (some (bat bN 0))), (5, .pointer phf), (54, .pointer phf)] a := (hA.sub (by (repeat (first | exact trivial | refine ⟨rfl, ?_⟩)); first | done | fail "sub"))
      cases hfh : f.h with
      | none =>
        obtain rfl : phf = none := by have h1 := hx.h; rw [hfh] at h1; exact h1
        repeat' (first | ((first | apply st_ex hA hH rfl rfl (by decide) | apply dr_ex hA rfl rfl rfl (by decide) | apply dr_exp hA rfl rfl rfl (by decide) | apply dr_ex3 hA hH rfl rfl rfl (by decide)); (first | (apply ex_eqlPf; rfl; rfl) | (apply ex_eqlPt; rfl; rfl) | (apply ex_neqPt; rfl; rfl) | (apply ex_neqPf; rfl; rfl)); clear hA a; intro a hA) | (refine QT ?_; clear hA a; intro a hA) | (refine CT ?_ <;> repeat' refine CT ?_))
        exact ⟨r, ⟨pre, _, _, ⟨hF, by rw [hr, raiseL, hfh], by omega⟩, ((mpF_pop ((hH.rm 0).perm (H' := all ((pre ++ [(⟨pcf, bvf, pbf, pif, none, mf⟩ : FmM)]).map mpF) :: cb bM 86 (encW g kd s oO nO cO ++ encR g fuel oS pre.length cS pc bv pb pi ph pe) :: frz w0 c.K :: own 83 5 oS pre.length cS (flat encFm pre) :: H) (by (repeat (first | exact List.Perm.refl _ | exact List.Perm.nil | refine perm_pick 0 rfl ?_ | refine perm_pick 1 rfl ?_ | refine perm_pick 2 rfl ?_ | refine perm_pick 3 rfl ?_ | refine perm_pick 4 rfl ?_ | refine perm_pick 5 rfl ?_ | refine perm_pick 6 rfl ?_ | refine perm_pick 7 rfl ?_ | refine perm_pick 8 rfl ?_ | refine perm_pick 9 rfl ?_ | refine perm_pick 10 rfl ?_ | refine perm_pick 11 rfl ?_))))).tail).perm (by (repeat (first | exact List.Perm.refl _ | exact List.Perm.nil | refine perm_pick 0 rfl ?_ | refine perm_pick 1 rfl ?_ | refine perm_pick 2 rfl ?_ | refine perm_pick 3 rfl ?_ | refine perm_pick 4 rfl ?_ | refine perm_pick 5 rfl ?_ | refine perm_pick 6 rfl ?_ | refine perm_pick 7 rfl ?_ | refine perm_pick 8 rfl ?_ | refine perm_pick 9 rfl ?_ | refine perm_pick 10 rfl ?_ | refine perm_pick 11 rfl ?_))), (hA.sub (by (repeat (first | exact trivial | refine ⟨rfl, ?_⟩)); first | done | fail "sub"))⟩, by rw [List.length_cons]; omega⟩
      | some cl =>
        obtain ⟨p, rfl, hcl⟩ : ∃ p, phf = some (bat p 0) ∧ FnR c cl.1 cl.2 p := by have h1 := hx.h; rw [hfh] at h1; exact h1
        have e9 : (pre ++ [(⟨pcf, bvf, pbf, pif, some (bat p 0), mf⟩ : FmM)]).map mpF = (pre ++ [(⟨pcf, bvf, pbf, pif, none, mf⟩ : FmM)]).map mpF := by rw [List.map_append, List.map_append]; rfl
        rw [e9] at hH
        repeat' (first | ((first | apply st_ex hA hH rfl rfl (by decide) | apply dr_ex hA rfl rfl rfl (by decide) | apply dr_exp hA rfl rfl rfl (by decide) | apply dr_ex3 hA hH rfl rfl rfl (by decide)); (first | (apply ex_eqlPf; rfl; rfl) | (apply ex_eqlPt; rfl; rfl) | (apply ex_neqPt; rfl; rfl) | (apply ex_neqPf; rfl; rfl)); clear hA a; intro a hA) | (refine QT ?_; clear hA a; intro a hA) | (apply st_op0 hA rfl rfl; apply op_store_fld (cs' := encFm ⟨pcf, bvf, pbf, pif, none, mf⟩); rfl; rfl; rfl; exact hH; (repeat constructor); clear hH; rintro _ w hH) | (refine CT ?_ <;> repeat' refine CT ?_))
        have hST : HS w0 noM [cb bM 86 (encW g kd s oO nO cO ++ encR g fuel oS pre.length cS pc bv pb pi ph pe), cb bN 83 (encFm ⟨pcf, bvf, pbf, pif, none, mf⟩)] w := HS.left (H1 := [_, _]) (H2 := frz w0 c.K :: own 83 5 oS pre.length cS (flat encFm pre) :: all ((pre ++ [(⟨pcf, bvf, pbf, pif, none, mf⟩ : FmM)]).map mpF) :: H) (hH.perm (by (repeat (first | exact List.Perm.refl _ | exact List.Perm.nil | refine perm_pick 0 rfl ?_ | refine perm_pick 1 rfl ?_ | refine perm_pick 2 rfl ?_ | refine perm_pick 3 rfl ?_ | refine perm_pick 4 rfl ?_ | refine perm_pick 5 rfl ?_ | refine perm_pick 6 rfl ?_ | refine perm_pick 7 rfl ?_ | refine perm_pick 8 rfl ?_ | refine perm_pick 9 rfl ?_ | refine perm_pick 10 rfl ?_ | refine perm_pick 11 rfl ?_))))
        replace hH := hH.perm (H' := cb bM 86 (encW g kd s oO nO cO ++ encR g fuel oS pre.length cS pc bv pb pi ph pe) :: cb bN 83 (encFm ⟨pcf, bvf, pbf, pif, none, mf⟩) :: own 83 5 oS pre.length cS (flat encFm pre) :: frz w0 c.K :: all ((pre ++ [(⟨pcf, bvf, pbf, pif, none, mf⟩ : FmM)]).map mpF) :: H) (by (repeat (first | exact List.Perm.refl _ | exact List.Perm.nil | refine perm_pick 0 rfl ?_ | refine perm_pick 1 rfl ?_ | refine perm_pick 2 rfl ?_ | refine perm_pick 3 rfl ?_ | refine perm_pick 4 rfl ?_ | refine perm_pick 5 rfl ?_ | refine perm_pick 6 rfl ?_ | refine perm_pick 7 rfl ?_ | refine perm_pick 8 rfl ?_ | refine perm_pick 9 rfl ?_ | refine perm_pick 10 rfl ?_ | refine perm_pick 11 rfl ?_)))
        obtain ⟨b8, hb8⟩ : ∃ x, x = bN := ⟨_, rfl⟩
        rw [← hb8] at hA hH hST
        clear hb8 bN
        (refine wp_draw2_HS (H := [_, _]) [(0, 1), (1, 1), (2, 1), (3, 1), (4, 1), (5, 1), (6, 0), (7, 0), (8, 1), (9, 1)] [10] mixed (by decide +kernel) (hST) ?_; replace hH := hH.drew)
        clear hST
        repeat' (first | ((first | apply st_ex hA hH rfl rfl (by decide) | apply dr_ex hA rfl rfl rfl (by decide) | apply dr_exp hA rfl rfl rfl (by decide) | apply dr_ex3 hA hH rfl rfl rfl (by decide)); (first | (apply ex_load_st (vs := encFm ⟨pcf, bvf, pbf, pif, none, mf⟩); rfl; rfl; exact cls_cb_all MEMT)); clear hA a; intro a hA) | (refine QT ?_; clear hA a; intro a hA))
        (apply dr_op hA rfl rfl rfl (by decide); apply op_sliceLit (xs := encFm ⟨pcf, bvf, pbf, pif, none, mf⟩) (vs := [.agg (encFm ⟨pcf, bvf, pbf, pif, none, mf⟩).toArray]); rfl; rfl; exact (Cats.cn (cs := encFm ⟨pcf, bvf, pbf, pif, none, mf⟩) Cats.nil); rfl; rfl; rfl; exact hH; clear hA hH; rintro _ w ⟨oN, rfl, hH⟩; refine ⟨HS.left (H1 := [_, _]) hH.tail, ?_⟩; intro a hA)
        (apply dr_op hA rfl rfl rfl (by decide); apply op_append; rfl; rfl; exact hH; exact MEMT; exact (hH.own_rd (List.Mem.head _)); exact rfl; rfl; decide; exact rfl; (unfold maxLen; omega); omega; clear hA; rintro _ w ⟨oN, cN, rfl, hH2⟩; clear hH; have hH := hH2 _ (by (repeat constructor)); clear hH2; refine ⟨HS.left (H1 := [_, _]) hH.tail, ?_⟩; intro a hA)
        rw [flatFm_s] at hH
        repeat' (first | ((first | apply st_ex hA hH rfl rfl (by decide) | apply dr_ex hA rfl rfl rfl (by decide) | apply dr_exp hA rfl rfl rfl (by decide) | apply dr_ex3 hA hH rfl rfl rfl (by decide)); (first | (apply ex_iface; rfl)); clear hA a; intro a hA) | (refine QT ?_; clear hA a; intro a hA) | (apply dr_op03 hA rfl rfl rfl; apply op_store_fld (cs' := encW g kd s oO nO cO ++ encR g fuel oN (pre.length + 1) cN pc bv pb pi ph pe); rfl; rfl; rfl; exact hH; (repeat constructor); clear hH; rintro _ w hH) | (refine CT ?_ <;> repeat' refine CT ?_))
        replace hH := (((hH.rm 0).rm 1).perm (H' := cb bM 86 (encW g kd s oO nO cO ++ encR g fuel oN (pre.length + 1) cN pc bv pb pi ph pe) :: frz w0 c.K :: own 83 5 oN (pre.length + 1) cN (flat encFm (pre ++ [⟨pcf, bvf, pbf, pif, none, mf⟩])) :: all ((pre ++ [(⟨pcf, bvf, pbf, pif, none, mf⟩ : FmM)]).map mpF) :: H) (by (repeat (first | exact List.Perm.refl _ | exact List.Perm.nil | refine perm_pick 0 rfl ?_ | refine perm_pick 1 rfl ?_ | refine perm_pick 2 rfl ?_ | refine perm_pick 3 rfl ?_ | refine perm_pick 4 rfl ?_ | refine perm_pick 5 rfl ?_ | refine perm_pick 6 rfl ?_ | refine perm_pick 7 rfl ?_ | refine perm_pick 8 rfl ?_ | refine perm_pick 9 rfl ?_ | refine perm_pick 10 rfl ?_ | refine perm_pick 11 rfl ?_))))
        (refine st_op hA rfl rfl (by decide) (op_call rfl rfl rfl (enter_spec w0 w _ c bM g kd s oO oN nO cO (pre.length + 1) cN pc bv fuel pi pb ph pe (.fn cl.1 cl.2) (.num n) _ _ hH hcl.rv (RV_num hn) hR hnf hne)) ?_; clear hA hH)
        rintro _ w (⟨cl', p', b', m', hs, rfl, hcf, hm, hH⟩ | ⟨hs, rfl, b, hH⟩) a hA
        rotate_left
        · cases hs
        cases hs
        repeat' (first | (refine QT ?_; clear hA a; intro a hA) | (refine CT ?_ <;> repeat' refine CT ?_))
        refine rt0 (.inl rfl) rfl hA (.inl ⟨{ f with h := none } :: r, cl, p', b', m', oN, cN, pre ++ [⟨pcf, bvf, pbf, pif, none, mf⟩], ?_, hcf, hm, ⟨pre, ⟨pcf, bvf, pbf, pif, none, mf⟩, rfl, ⟨hx.fn, hx.vs, hx.pb, hx.i, rfl⟩, hF⟩, ?_⟩)
        · unfold raiseF
          rw [if_neg hn0, hr, raiseL, hfh]
        · rw [lenFm]
          exact hH.perm (by (repeat (first | exact List.Perm.refl _ | exact List.Perm.nil | refine perm_pick 0 rfl ?_ | refine perm_pick 1 rfl ?_ | refine perm_pick 2 rfl ?_ | refine perm_pick 3 rfl ?_ | refine perm_pick 4 rfl ?_ | refine perm_pick 5 rfl ?_ | refine perm_pick 6 rfl ?_ | refine perm_pick 7 rfl ?_ | refine perm_pick 8 rfl ?_ | refine perm_pick 9 rfl ?_ | refine perm_pick 10 rfl ?_ | refine perm_pick 11 rfl ?_)))
  clear hA hH
  rintro a w ⟨oS, nS, cS, hr, hH, hA⟩
  have hsz := hxs (g.xs.l.getD n.toNat default) (getD_mem (show n.toNat < g.xs.l.length by omega))
  repeat' (first | ((first | apply st_ex hA hH rfl rfl (by decide) | apply dr_ex hA rfl rfl rfl (by decide) | apply dr_exp hA rfl rfl rfl (by decide) | apply dr_ex3 hA hH rfl rfl rfl (by decide)); (first | (apply ex_indexAddr; rfl; rfl; omega; omega; exact hspX) | (apply ex_load; rfl; refine cl_rd hxR.1 id (strs_at ?_); omega) | (apply ex_addS; rfl; rfl; have h6 : raiseB.size = 6 := rfl; show raiseB.size + _ ≤ _; omega)); clear hA a; intro a hA) | (refine QT ?_; clear hA a; intro a hA) | (refine st_op hA rfl rfl (by decide) (op_call rfl rfl rfl (stop_spec w0 _ _ bM g kd s oO oS nO cO nS cS pc bv fuel pi pb ph pe 1 (raiseB ++ g.xs.l.getD n.toNat default) hH)) ?_; clear hA hH; rintro _ w ⟨b, hH⟩ a hA) | (refine CT ?_ <;> repeat' refine CT ?_))
  exact rt0 (.inr rfl) rfl hA (.inr ⟨1, _, oS, nS, cS, b, by unfold raiseF; rw [if_neg hn0, hr], hH⟩)
end Go.Proofs.YtenlcdokaadobaaGreatDoor
namespace Go.Proofs
open Go.Shelf
def Tryz.lays169_ren : Go.Shelf.Ren := ⟨fun | 169 => 137 | n => n, fun | 70 => 254 | 9 => 9 | 0 => 0 | 72 => 256 | 37 => 75 | 127 => 269 | 3 => 3 | 5 => 5 | n => n, fun | n => n⟩
theorem Tryz.lays169 : Go.Proofs.Lays.n169 Tryz.prog Tryz.lays169_ren := {
  mixed := by kernel_rfl
  f169 := Tryz.func137.trans (congrArg some (by kernel_rfl))
  t0 := Tryz.underlying0
  a0 := Tryz.isAgg0
  z0 := Tryz.sizeOf0
  v0 := Tryz.zeroValue0
  t3 := Tryz.underlying3
  a3 := Tryz.isAgg3
  z3 := Tryz.sizeOf3
  v3 := Tryz.zeroValue3
  t9 := Tryz.underlying9
  a9 := Tryz.isAgg9
  z9 := Tryz.sizeOf9
  v9 := Tryz.zeroValue9
  t37 := Tryz.underlying75
  a37 := Tryz.isAgg75
  z37 := Tryz.sizeOf75
  v37 := Tryz.zeroValue75
  t70 := Tryz.underlying254
  a70 := Tryz.isAgg254
  z70 := Tryz.sizeOf254
  v70 := Tryz.zeroValue254
  t72 := Tryz.underlying256
  a72 := Tryz.isAgg256
  z72 := Tryz.sizeOf256
  v72 := Tryz.zeroValue256
  t127 := Tryz.underlying269
  a127 := Tryz.isAgg269
  z127 := Tryz.sizeOf269
  v127 := Tryz.zeroValue269 }
theorem Tryz.Builder_Extra_169 : Builder.Extra Tryz.prog Tryz.lays169_ren := {
  sizeBuilder := by kernel_rfl
  liesBuilder := by kernel_rfl
  t5 := Tryz.underlying5
  a5 := Tryz.isAgg5
  z5 := Tryz.sizeOf5
  v5 := Tryz.zeroValue5
  infoByte := by kernel_rfl
  cellsByte := by kernel_rfl
  sizeByte := by kernel_rfl
  neB5 := by decide }
open Go.RowKit in
theorem Tryz.Builder_String (B b : Nat) (l : List UInt8) (w : World) (h : Lib.IsBuilder 256 5 B b (Lib.byteCells l) w) (h0 : l ≠ []) :
    Calls Tryz.prog 137 #[.pointer (some ⟨b, 0, none⟩)] w fun e w' => e = .returned (.string ⟨l.toArray⟩) ∧ Below B w w' := Any.Builder_String Tryz.lays169 Tryz.Builder_Extra_169 B b l w h h0
def Tryz.laysM173_ren : Go.Shelf.Ren := ⟨fun | 173 => 134 | 246 => 154 | 283 => 162 | 284 => 163 | 285 => 164 | 286 => 165 | 129 => 171 | 317 => 170 | 318 => 172 | 319 => 173 | 320 => 174 | 337 => 175 | 338 => 176 | n => n, fun | 2 => 2 | 3 => 3 | 9 => 9 | 4 => 4 | 171 => 280 | 0 => 0 | 53 => 276 | 37 => 75 | 5 => 5 | 173 => 283 | 212 => 288 | 51 => 273 | 20 => 20 | 213 => 289 | 46 => 207 | 232 => 292 | 233 => 293 | n => n, fun | 17 => 0 | 18 => 1 | 19 => 2 | n => n⟩
theorem Tryz.laysM173 : Go.Proofs.LaysM.n173 Tryz.prog Tryz.laysM173_ren := {
  mixed := by kernel_rfl
  f129 := Tryz.func171.trans (congrArg some (by kernel_rfl))
  f173 := Tryz.func134.trans (congrArg some (by kernel_rfl))
  f246 := Tryz.func154.trans (congrArg some (by kernel_rfl))
  f283 := Tryz.func162.trans (congrArg some (by kernel_rfl))
  f284 := Tryz.func163.trans (congrArg some (by kernel_rfl))
  f285 := Tryz.func164.trans (congrArg some (by kernel_rfl))
  f286 := Tryz.func165.trans (congrArg some (by kernel_rfl))
  f317 := Tryz.func170.trans (congrArg some (by kernel_rfl))
  f318 := Tryz.func172.trans (congrArg some (by kernel_rfl))
  f319 := Tryz.func173.trans (congrArg some (by kernel_rfl))
  f320 := Tryz.func174.trans (congrArg some (by kernel_rfl))
  f337 := Tryz.func175.trans (congrArg some (by kernel_rfl))
  f338 := Tryz.func176.trans (congrArg some (by kernel_rfl))
  t0 := Tryz.underlying0
  a0 := Tryz.isAgg0
  z0 := Tryz.sizeOf0
  v0 := Tryz.zeroValue0
  t2 := Tryz.underlying2
  a2 := Tryz.isAgg2
  z2 := Tryz.sizeOf2
  v2 := Tryz.zeroValue2
  t3 := Tryz.underlying3
  a3 := Tryz.isAgg3
  z3 := Tryz.sizeOf3
  v3 := Tryz.zeroValue3
  t4 := Tryz.underlying4
  a4 := Tryz.isAgg4
  z4 := Tryz.sizeOf4
  v4 := Tryz.zeroValue4
  t5 := Tryz.underlying5
  a5 := Tryz.isAgg5
  z5 := Tryz.sizeOf5
  v5 := Tryz.zeroValue5
  t9 := Tryz.underlying9
  a9 := Tryz.isAgg9
  z9 := Tryz.sizeOf9
  v9 := Tryz.zeroValue9
  t20 := Tryz.underlying20
  a20 := Tryz.isAgg20
  z20 := Tryz.sizeOf20
  v20 := Tryz.zeroValue20
  t37 := Tryz.underlying75
  a37 := Tryz.isAgg75
  z37 := Tryz.sizeOf75
  v37 := Tryz.zeroValue75
  t46 := Tryz.underlying207
  a46 := Tryz.isAgg207
  z46 := Tryz.sizeOf207
  v46 := Tryz.zeroValue207
  t51 := Tryz.underlying273
  a51 := Tryz.isAgg273
  z51 := Tryz.sizeOf273
  v51 := Tryz.zeroValue273
  t53 := Tryz.underlying276
  a53 := Tryz.isAgg276
  z53 := Tryz.sizeOf276
  v53 := Tryz.zeroValue276
  t171 := Tryz.underlying280
  a171 := Tryz.isAgg280
  z171 := Tryz.sizeOf280
  v171 := Tryz.zeroValue280
  t173 := Tryz.underlying283
  a173 := Tryz.isAgg283
  z173 := Tryz.sizeOf283
  v173 := Tryz.zeroValue283
  t212 := Tryz.underlying288
  a212 := Tryz.isAgg288
  z212 := Tryz.sizeOf288
  v212 := Tryz.zeroValue288
  t213 := Tryz.underlying289
  a213 := Tryz.isAgg289
  z213 := Tryz.sizeOf289
  t232 := Tryz.underlying292
  a232 := Tryz.isAgg292
  z232 := Tryz.sizeOf292
  v232 := Tryz.zeroValue292
  t233 := Tryz.underlying293
  a233 := Tryz.isAgg293
  z233 := Tryz.sizeOf293
  v233 := Tryz.zeroValue293
  g17 := by kernel_rfl
  g18 := by kernel_rfl
  g19 := by kernel_rfl
  i0 := by kernel_rfl
  i2 := by kernel_rfl
  i3 := by kernel_rfl
  i4 := by kernel_rfl
  i5 := by kernel_rfl
  i9 := by kernel_rfl
  i20 := by kernel_rfl
  i37 := by kernel_rfl
  i46 := by kernel_rfl
  i51 := by kernel_rfl
  i53 := by kernel_rfl
  i171 := by kernel_rfl
  i173 := by kernel_rfl
  i212 := by kernel_rfl
  i232 := by kernel_rfl
  i233 := by kernel_rfl
  m17 := by kernel_rfl
  m18 := by kernel_rfl
  m19 := by kernel_rfl }
open Go.RowKit Go.Sort Go.Lib in
theorem Tryz.strconv_FormatInt_10 (n : Int) (h0 : -9223372036854775808 ≤ n) (h1 : n ≤ 9223372036854775807) (w : World) (htab : Lib.TabIs Tryz.prog w "internal/strconv.uint64pow10" .u64 Lib.pow10Tab) :
    Calls Tryz.prog 134 #[.int .i64 n, .int .i64 10] w fun e w' => e = .returned (.string ⟨(Lib.itoa n).toArray⟩) ∧ ∃ k os, w' = grow (w.drewN k) os := Any.strconv_FormatInt_10 Tryz.laysM173 n h0 h1 w htab
end Go.Proofs
