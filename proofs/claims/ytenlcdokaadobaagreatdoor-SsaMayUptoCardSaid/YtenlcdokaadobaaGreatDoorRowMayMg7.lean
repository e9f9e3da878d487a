/-
  The machine: call. Conditions: none.
  The machine: back to who waits. Conditions: none.
  The machine: those that wait, as they lie in memory; raise. Conditions: none.
  DERIVED: THE SHELF's CONTRACTS AT THIS DUMP, IN PLAIN WORDS (tools/lay-plain.mjs out of 'TryzShelf2.lean', which tools/lay-shelf.mjs wrote): THE SAME DECLARATIONS UNDER THE SAME NAMES: 'import', 'namespace', 'open', 'def', 'theorem' AND NOTHING ELSE: no command of the shelf's: FOR A HAND-IN. Each laying: the table of numbers ('.._ren') and one theorem, a field a fact of the dump's own or the kernel's comparison; each contract: ONE APPLICATION.
  A strings.Builder, as it lies in memory: copyCheck, WriteByte, WriteString, String. Conditions: none.
  word.Quote. Conditions: none.
  rt's Text; word.Text under what strconv.FormatInt tells. Conditions: none.
  What graphs come to (plain): the machine whole; its state as it lies in memory. Conditions: none.
  The machine: follow. Conditions: none.
  The machine: stop, raise, call, enter, back, follow, told by the state as it lies in memory. Conditions: none.
  The machine: a step. Conditions: none.
-/
import Derived.Test.YtenlcdokaadobaaGreatDoorRowMayMg6
import Derived.Shelf.Strings.Builder1
import Derived.Shelf.LaysM
import Derived.Shelf.Strconv.Itoa4
import Derived.Test.YtenlcdokaadobaaGreatDoorProg
import Derived.Lib.AppendStr
import Derived.Lib.Builder
import Derived.Laws.Externs
namespace Go.Proofs.YtenlcdokaadobaaGreatDoor
open Go Go.Fw
set_option linter.unusedVariables false
structure FmM where
  pc : Nat
  bv : Nat
  pb : Option Addr
  i : Int
  ph : Option Addr
  m : List (Int × Value)
def encFm (f : FmM) : List Value := [.pointer (some (bat f.pc 0)), .map (some f.bv), .pointer f.pb, .int .i64 f.i, .pointer f.ph]
theorem encFm_len (f : FmM) : (encFm f).length = 5 := rfl
theorem flatFm_s (l : List FmM) (f : FmM) : flat encFm l ++ encFm f = flat encFm (l ++ [f]) := by rw [flat_snoc]
theorem lenFm (l : List FmM) (f : FmM) : (l ++ [f]).length = l.length + 1 := by rw [List.length_append]; rfl
theorem sub_fm (g : Grs) (fuel : Int) (oS : Option Addr) (nS cS pc bv : Nat) (pb : Option Addr) (pi : Int) (ph pe : Option Addr) (kd : Int) (s : ByteArray) (oO : Option Addr) (nO cO : Nat) (i : Nat) (v : Value) (h : (encFm ⟨pc, bv, pb, pi, ph, []⟩)[i]? = some v) : (encW g kd s oO nO cO ++ encR g fuel oS nS cS pc bv pb pi ph pe)[12 + i]? = some v := by
  match i, h with
  | 0, h => exact h
  | 1, h => exact h
  | 2, h => exact h
  | 3, h => exact h
  | 4, h => exact h
set_option maxRecDepth 10000 attribute [local irreducible] Code.wp wpList Calls Ex Op1 sat bat blk cb own Go.Fw.mp Go.Fw.mpO Go.Fw.mpI Go.Fw.mpE Go.Fw.itr HS Rd Ret wkD Hp Cl Cls Exit.then Exit.inBlock Exit.noGoto bodyPost Go.Fw.flat wk2 Go.Fw.all Go.Fw.owns wpOp
attribute [local irreducible] sk mpK sko mvO entK opM Go.Fw.mset Go.Fw.mv opK w63 frz obI RV idxF

set_option maxHeartbeats 16000000 in
theorem call_spec (w0 w : World) (H : List It) (c : Cx) (bM : Nat) (g : Grs) (kd : Int) (s : ByteArray) (oO oS : Option Addr) (nO cO cS pc bv : Nat) (fuel pi : Int) (pb ph pe hd : Option Addr) (mm : List (Int × Value)) (fms : List FmM) (f x : Vl) (u v : Value) (hH : HS w0 noM (cb bM 86 (encW g kd s oO nO cO ++ encR g fuel oS fms.length cS pc bv pb pi ph pe) :: frz w0 c.K :: own 83 5 oS fms.length cS (flat encFm fms) :: H) w) (hu : RV c f u) (hv : RV c x v)
    (hR : RdGs w0 g) (hnf : c.nf = g.fs.l.length) (hne : ∀ f ∈ g.fs.l, 0 < f.bs.l.length) (hfl : fms.length ≤ 1000000) :
    Ret Tryz.prog 49 #[.pointer (some (bat bM 0)), u, v, .pointer hd] w (fun r w' =>
      (∃ cl p b m oS2 cS2, asFn f = some cl ∧ FnR c cl.1 cl.2 p ∧ MapR c (newF cl x).vs m ∧ HS w0 noM (cb bM 86 (encW g kd s oO nO cO ++ encR g fuel oS2 (fms ++ [(⟨pc, bv, pb, pi, hd, mm⟩ : FmM)]).length cS2 p b (blkA g cl.1 0) 0 none pe) :: own 83 5 oS2 (fms ++ [(⟨pc, bv, pb, pi, hd, mm⟩ : FmM)]).length cS2 (flat encFm (fms ++ [⟨pc, bv, pb, pi, hd, mm⟩])) :: mp b m :: frz w0 c.K :: H) w') ∨
      (asFn f = none ∧ ∃ b, HS w0 noM (cb bM 86 (encW g kd s oO nO cO ++ encR g fuel oS fms.length cS pc bv pb pi ph (some (bat b 0))) :: cb b 29 (encO3 4 empS empS) :: frz w0 c.K :: own 83 5 oS fms.length cS (flat encFm fms) :: H) w')) := by
  (refine enter (N := 29) Tryz.func49 rfl Tryz.ntmps49 rfl ?_; intro a hA; dsimp only [sl0, Nat.reduceAdd] at hA)
  repeat' (first | (refine XT ?_; apply XE; (first | (apply ex_load_st (vs := encFm ⟨pc, bv, pb, pi, ph, mm⟩); rfl; rfl; exact cls_cb MEMT (fun i v h => (by rw [Nat.zero_add]; exact sub_fm g fuel oS fms.length cS pc bv pb pi ph pe kd s oO nO cO i v h)))); clear hA a; intro a hA) | (refine QT ?_; clear hA a; intro a hA) | (refine BT ?_; clear hA hH; rintro _ w ⟨bN, rfl, hH⟩ a hA) | (apply st_op0 hA rfl rfl; apply op_store_agg (vs := encFm ⟨pc, bv, pb, pi, ph, mm⟩); rfl; rfl; exact hH; (repeat constructor); (repeat rfl); clear hH; rintro _ w hH) | (apply st_op0 hA rfl rfl; apply op_store_fld (cs' := encFm ⟨pc, bv, pb, pi, hd, mm⟩); rfl; rfl; rfl; exact hH; (repeat constructor); clear hH; rintro _ w hH) | (refine CT ?_ <;> repeat' refine CT ?_) | fail)
  obtain ⟨b8, hb8⟩ : ∃ x, x = bN := ⟨_, rfl⟩
  rw [← hb8] at hA hH
  clear hb8 bN
  (refine st_op hA rfl rfl (by decide) (op_call rfl rfl rfl (enter_spec w0 w (own 83 5 oS fms.length cS (flat encFm fms) :: cb b8 83 (encFm ⟨pc, bv, pb, pi, hd, mm⟩) :: H) c bM g kd s oO oS nO cO fms.length cS pc bv fuel pi pb ph pe f x u v (hH.perm PMT) hu hv hR hnf hne)) ?_; clear hA hH)
  rintro _ w (⟨cl, p, b, m, hs, rfl, hcf, hm, hH⟩ | ⟨hs, rfl, b, hH⟩) a hA
  rotate_left
  · repeat' (first | (refine QT ?_; clear hA a; intro a hA) | (refine CT ?_ <;> repeat' refine CT ?_) | fail)
    exact rt0 (.inr rfl) rfl hA (.inr ⟨hs, b, (hH.rm 4).perm PMT⟩)
  repeat' (first | (refine QT ?_; clear hA a; intro a hA) | (refine CT ?_ <;> repeat' refine CT ?_) | fail)
  have hST : HS w0 noM [cb bM 86 (encW g kd s oO nO cO ++ encR g fuel oS fms.length cS p b (blkA g cl.1 0) 0 none pe), cb b8 83 (encFm ⟨pc, bv, pb, pi, hd, mm⟩)] w := HS.left (H1 := [_, _]) (H2 := own 83 5 oS fms.length cS (flat encFm fms) :: mp b m :: frz w0 c.K :: H) (hH.perm PMT)
  replace hH := hH.perm (H' := cb bM 86 (encW g kd s oO nO cO ++ encR g fuel oS fms.length cS p b (blkA g cl.1 0) 0 none pe) :: cb b8 83 (encFm ⟨pc, bv, pb, pi, hd, mm⟩) :: own 83 5 oS fms.length cS (flat encFm fms) :: mp b m :: frz w0 c.K :: H) PMT
  (refine wp_draw2_HS (H := [_, _]) [(0, 1), (1, 1), (2, 1), (3, 1), (4, 1), (5, 1), (6, 0), (7, 0), (8, 1), (9, 1)] [10] mixed (by decide +kernel) (hST) ?_; replace hH := hH.drew)
  clear hST
  repeat' (first | (refine XT ?_; apply XE; (first | (apply ex_load_st (vs := encFm ⟨pc, bv, pb, pi, hd, mm⟩); rfl; rfl; exact cls_cb_all MEMT)); clear hA a; intro a hA) | (refine QT ?_; clear hA a; intro a hA) | fail)
  (apply dr_op hA rfl rfl rfl (by decide); apply op_sliceLit (xs := encFm ⟨pc, bv, pb, pi, hd, mm⟩) (vs := [.agg (encFm ⟨pc, bv, pb, pi, hd, mm⟩).toArray]); rfl; rfl; exact (Cats.cn (cs := encFm ⟨pc, bv, pb, pi, hd, mm⟩) Cats.nil); rfl; rfl; rfl; exact hH; clear hA hH; rintro _ w ⟨oN, rfl, hH⟩; refine ⟨HS.left (H1 := [_, _]) hH.tail, ?_⟩; intro a hA)
  (apply dr_op hA rfl rfl rfl (by decide); apply op_append; rfl; rfl; exact hH; exact MEMT; exact (hH.own_rd (List.Mem.head _)); exact rfl; rfl; decide; exact rfl; (unfold maxLen; omega); omega; clear hA; rintro _ w ⟨oN, cN, rfl, hH2⟩; clear hH; have hH := hH2 _ (by (repeat constructor)); clear hH2; refine ⟨HS.left (H1 := [_, _]) hH.tail, ?_⟩; intro a hA)
  rw [flatFm_s] at hH
  repeat' (first | (refine QT ?_; clear hA a; intro a hA) | (apply dr_op03 hA rfl rfl rfl; apply op_store_fld (cs' := encW g kd s oO nO cO ++ encR g fuel oN (fms.length + 1) cN p b (blkA g cl.1 0) 0 none pe); rfl; rfl; rfl; exact hH; (repeat constructor); clear hH; rintro _ w hH) | (refine CT ?_ <;> repeat' refine CT ?_) | fail)
  rw [← lenFm fms ⟨pc, bv, pb, pi, hd, mm⟩] at hH
  refine rt0 (.inr rfl) rfl hA (.inl ⟨cl, p, b, m, oN, cN, hs, hcf, hm, ?_⟩)
  exact ((hH.rm 0).rm 1).perm PMT
end Go.Proofs.YtenlcdokaadobaaGreatDoor
namespace Go.Proofs.YtenlcdokaadobaaGreatDoor
open Go Go.Fw
set_option linter.unusedVariables false
theorem HS_cut {w0 w : World} {M : Nat → Prop} {H H' : List It} {T sz n cap k : Nat} {o : Option Addr} {xs : List Value} (h : HS w0 M H w) (hk : k ≤ n) (hr : Rp H (own T sz o n cap xs) (own T sz o k cap (xs.take (k * sz))) H') : HS w0 M H' w :=
  h.conv hr fun F hF => own_cut hF hk
theorem get_last {α : Type} (s : List α) (x : α) : (s ++ [x])[s.length]? = some x := by simp
theorem flatFm_cut (pre : List FmM) (f : FmM) : (flat encFm (pre ++ [f])).take (pre.length * 5) = flat encFm pre := by
  rw [← flatFm_s, List.take_append_of_le_length (Nat.le_of_eq (flat_length encFm_len _).symm), List.take_of_length_le (Nat.le_of_eq (flat_length encFm_len _))]
theorem bl_is {l : List Blc} {b : Nat} {bl : Blc} (h : l[b]? = some bl) : (flat encBl l)[b * 6 + 1]? = some (.slice bl.is.o bl.is.l.length bl.is.c) := flat_get (off := 1) encBl_len h rfl
theorem in_x {l : List Ins} {i : Nat} {x : Ins} (h : l[i]? = some x) : (flat encIn l)[i * 5 + 0]? = some (.int .i64 x.x) := flat_get (off := 0) encIn_len h rfl
set_option maxRecDepth 10000 attribute [local irreducible] Code.wp wpList Calls Ex Op1 sat bat blk cb own Go.Fw.mp Go.Fw.mpO Go.Fw.mpI Go.Fw.mpE Go.Fw.itr HS Rd Ret wkD Hp Cl Cls Exit.then Exit.inBlock Exit.noGoto bodyPost Go.Fw.flat wk2 Go.Fw.all Go.Fw.owns wpOp
attribute [local irreducible] sk mpK sko mvO entK opM Go.Fw.mset Go.Fw.mv opK w63 frz obI RV idxF

set_option maxHeartbeats 16000000 in
theorem back_spec (w0 w : World) (H : List It) (bM : Nat) (g : Grs) (kd : Int) (s : ByteArray) (oO oS oB : Option Addr) (nO cO cS pc bv b i : Nat) (fuel pi : Int) (pb ph pe : Option Addr) (pre : List FmM) (f0 : FmM) (u : Value) (gr : Gr) (bl : Blc) (x : Ins) (hH : HS w0 noM (cb bM 86 (encW g kd s oO nO cO ++ encR g fuel oS (pre.length + 1) cS pc bv pb pi ph pe) :: own 83 5 oS (pre.length + 1) cS (flat encFm (pre ++ [f0])) :: mp f0.bv f0.m :: H) w)
    (hR : RdG w0 gr) (hbl : gr.bs.l[b]? = some bl) (hx : bl.is.l[i]? = some x) (hpb : f0.pb = some (sat gr.bs.o (b * 6))) (hi : f0.i = i) (hpl : pre.length ≤ 1000000) :
    Ret Tryz.prog 53 #[.pointer (some (bat bM 0)), u] w (fun r w' =>
      HS w0 noM (cb bM 86 (encW g kd s oO nO cO ++ encR g fuel oS pre.length cS f0.pc f0.bv f0.pb ((i + 1 : Nat) : Int) f0.ph pe) :: own 83 5 oS pre.length cS (flat encFm pre) :: mp f0.bv (mset f0.m x.x u) :: H) w') := by
  have hbm := List.mem_of_getElem? hbl
  have hbR := hR.2 bl hbm
  have hle := hbR.2.1.le
  have hil := (List.getElem?_eq_some_iff.1 hx).1
  have hspI : Sp bl.is.o bl.is.l.length := hbR.2.1.1.sp (sz := 5) (flat_length encIn_len _) (by omega)
  have hspS := hH.own_sp (T := 83) (o := oS) (by exact MEMT)
  have hlast := flat_all encFm_len (get_last pre f0)
  have hvI := bl_is hbl
  have hvX := in_x hx
  have hown := hH.own_le (T := 83) (o := oS) (by exact MEMT)
  obtain ⟨pcf, bvf, pbf, pif, phf, mf⟩ := f0
  dsimp only at hpb hi hH ⊢
  subst hpb hi
  (refine enter (N := 87) Tryz.func53 rfl Tryz.ntmps53 rfl ?_; intro a hA; dsimp only [sl0, Nat.reduceAdd] at hA)
  repeat' (first | (refine QT ?_; clear hA a; intro a hA) | (refine CT ?_ <;> repeat' refine CT ?_) | fail)
  (refine wp_draw2_HS [(0, 1), (1, 1), (2, 1), (3, 1), (4, 1), (5, 1), (6, 1), (7, 1), (8, 1), (9, 1), (10, 1), (11, 1), (12, 1), (13, 1), (14, 1)] [15] mixed (by decide +kernel) hH ?_; replace hH := hH.drew)
  repeat' (first | (refine XT ?_; apply XE; (first | (apply ex_pred; rfl; rfl; omega) | (apply ex_indexAddr_nat; rfl; rfl; omega; exact hspS) | (apply ex_load_st (vs := encFm ⟨pcf, bvf, some (sat gr.bs.o (b * 6)), i, phf, mf⟩); rfl; rfl; exact cls_own (T := 83) (o := oS) MEMT hlast)); clear hA a; intro a hA) | (refine QT ?_; clear hA a; intro a hA) | (apply dr_op03 hA rfl rfl rfl; apply op_store_cb (vs := encFm ⟨pcf, bvf, some (sat gr.bs.o (b * 6)), i, phf, mf⟩) (cs' := encW g kd s oO nO cO ++ encR g fuel oS (pre.length + 1) cS pcf bvf (some (sat gr.bs.o (b * 6))) i phf pe); rfl; rfl; exact hH; (repeat constructor); clear hH; rintro _ w hH) | (refine CT ?_ <;> repeat' refine CT ?_) | fail)
  (refine wp_draw2_HS [(0, 1), (1, 1), (2, 1), (3, 1), (4, 1), (5, 1), (6, 1), (7, 1), (8, 1), (9, 1), (10, 1), (11, 1), (12, 1), (13, 1)] [14] mixed (by decide +kernel) hH ?_; replace hH := hH.drew)
  repeat' (first | (refine XT ?_; apply XE; (first | (apply ex_pred; rfl; rfl; omega) | (apply ex_slice_hi (k := pre.length); rfl; rfl; rfl; omega)); clear hA a; intro a hA) | (refine QT ?_; clear hA a; intro a hA) | (apply dr_op03 hA rfl rfl rfl; apply op_store_fld (cs' := encW g kd s oO nO cO ++ encR g fuel oS pre.length cS pcf bvf (some (sat gr.bs.o (b * 6))) i phf pe); rfl; rfl; rfl; exact hH; (repeat constructor); clear hH; rintro _ w hH) | (refine CT ?_ <;> repeat' refine CT ?_) | fail)
  replace hH := HS_cut (T := 83) (sz := 5) (o := oS) (cap := cS) (k := pre.length) (n := pre.length + 1) hH (Nat.le_succ _) (by (repeat constructor))
  rw [flatFm_cut] at hH
  (refine wp_draw2_HS [(0, 1), (1, 1), (2, 1), (3, 1), (4, 1), (5, 1), (6, 1), (7, 1), (8, 1), (9, 1), (10, 1), (11, 1), (12, 1), (13, 1), (14, 1), (15, 1), (16, 1), (17, 1), (18, 1), (19, 1), (20, 1), (21, 1)] [22] mixed (by decide +kernel) hH ?_; replace hH := hH.drew)
  repeat' (first | (refine XT ?_; apply XE; (first | (apply ex_load; rfl; exact cl_rd hR.1.1 id hvI) | (apply ex_load; rfl; exact cl_rd hbR.2.1.1 id hvX) | (apply ex_indexAddr_nat; rfl; rfl; omega; exact hspI)); clear hA a; intro a hA) | (refine QT ?_; clear hA a; intro a hA) | (apply dr_op03 hA rfl rfl rfl; apply op_mapUpdate; rfl; rfl; rfl; exact hH; (repeat constructor); clear hH; rintro _ w hH) | (refine CT ?_ <;> repeat' refine CT ?_) | fail)
  repeat' (first | (refine QT ?_; clear hA a; intro a hA) | (apply st_op0 hA rfl rfl; apply op_store_fld (cs' := encW g kd s oO nO cO ++ encR g fuel oS pre.length cS pcf bvf (some (sat gr.bs.o (b * 6))) ((i + 1 : Nat) : Int) phf pe); rfl; rfl; rfl; exact hH; (repeat constructor); clear hH; rintro _ w hH) | (refine CT ?_ <;> repeat' refine CT ?_) | fail)
  exact rt0 (.inr rfl) rfl hA hH
end Go.Proofs.YtenlcdokaadobaaGreatDoor
namespace Go.Proofs.YtenlcdokaadobaaGreatDoor
open Go Go.Fw
set_option linter.unusedVariables false
def hdR (c : Cx) : Option Clo → Option Addr → Prop
  | none, ph => ph = none
  | some cl, ph => ∃ p, ph = some (bat p 0) ∧ FnR c cl.1 cl.2 p
theorem hdR.mono {c d : Cx} (h : c.le d) : ∀ {x : Option Clo} {p : Option Addr}, hdR c x p → hdR d x p
  | none, p, hx => hx
  | some cl, p, ⟨q, h1, h2⟩ => ⟨q, h1, h2.mono h⟩
structure FmR (g : Grs) (c : Cx) (f : Fm) (x : FmM) : Prop where
  fn : FnR c f.c.1 f.c.2 x.pc
  vs : MapR c f.vs x.m
  pb : x.pb = blkA g f.c.1 f.b
  i : x.i = (f.i : Int)
  h : hdR c f.h x.ph
theorem FmR.mono {g : Grs} {c d : Cx} (h : c.le d) {f : Fm} {x : FmM} (hf : FmR g c f x) : FmR g d f x := ⟨hf.fn.mono h, hf.vs.mono h, hf.pb, hf.i, hf.h.mono h⟩
def FsR (g : Grs) (c : Cx) : List Fm → List FmM → Prop
  | [], l => l = []
  | f :: r, l => ∃ pre x, l = pre ++ [x] ∧ FmR g c f x ∧ FsR g c r pre
theorem FsR.mono {g : Grs} {c d : Cx} (h : c.le d) : ∀ {sk : List Fm} {l : List FmM}, FsR g c sk l → FsR g d sk l
  | [], l, hs => hs
  | f :: r, l, ⟨pre, x, h1, h2, h3⟩ => ⟨pre, x, h1, h2.mono h, FsR.mono h h3⟩
theorem FsR.len {g : Grs} {c : Cx} : ∀ {sk : List Fm} {l : List FmM}, FsR g c sk l → l.length = sk.length
  | [], l, hs => by rw [show l = [] from hs]; rfl
  | f :: r, l, ⟨pre, x, h1, h2, h3⟩ => by rw [h1, List.length_append, h3.len]; rfl
def mpF (x : FmM) : It := mp x.bv x.m
theorem mpF_pop {w0 w : World} {H : List It} {pre : List FmM} {x : FmM} (h : HS w0 noM (all ((pre ++ [x]).map mpF) :: H) w) : HS w0 noM (mp x.bv x.m :: all (pre.map mpF) :: H) w := by
  rw [List.map_append] at h
  have := HS.all_out (A := pre.map mpF) (B := []) (x := mp x.bv x.m) h
  rwa [List.append_nil] at this
theorem mpF_push {w0 w : World} {H : List It} {pre : List FmM} {x : FmM} (h : HS w0 noM (mp x.bv x.m :: all (pre.map mpF) :: H) w) : HS w0 noM (all ((pre ++ [x]).map mpF) :: H) w := by
  rw [List.map_append]
  exact HS.all_in (A := pre.map mpF) (B := []) (x := mp x.bv x.m) (by rwa [List.append_nil])
set_option maxRecDepth 10000 attribute [local irreducible] Code.wp wpList Calls Ex Op1 sat bat blk cb own Go.Fw.mp Go.Fw.mpO Go.Fw.mpI Go.Fw.mpE Go.Fw.itr HS Rd Ret wkD Hp Cl Cls Exit.then Exit.inBlock Exit.noGoto bodyPost Go.Fw.flat wk2 Go.Fw.all Go.Fw.owns wpOp
attribute [local irreducible] sk mpK sko mvO entK opM Go.Fw.mset Go.Fw.mv opK w63 frz obI RV idxF

set_option maxHeartbeats 16000000 in
theorem raise_spec (w0 w : World) (H : List It) (c : Cx) (bM : Nat) (g : Grs) (kd : Int) (s : ByteArray) (oO oS : Option Addr) (nO cO cS pc bv : Nat) (fuel pi : Int) (pb ph pe : Option Addr) (fms : List FmM) (sk : List Fm) (wd : Wd) (n : Int) (hH : HS w0 noM (cb bM 86 (encW g kd s oO nO cO ++ encR g fuel oS fms.length cS pc bv pb pi ph pe) :: frz w0 c.K :: own 83 5 oS fms.length cS (flat encFm fms) :: all (fms.map mpF) :: H) w) (hF : FsR g c sk fms) (hn : iok n)
    (hR : RdGs w0 g) (hnf : c.nf = g.fs.l.length) (hne : ∀ f ∈ g.fs.l, 0 < f.bs.l.length) (hfl : fms.length ≤ 1000000) (hxs : ∀ s ∈ g.xs.l, s.size ≤ 4611686018427387904) :
    Ret Tryz.prog 51 #[.pointer (some (bat bM 0)), .int .i64 n] w (fun r w' =>
      (∃ sk' cl p b m oS cS fms', raiseF g n wd sk = .go ⟨wd, sk', newF cl (.num n)⟩ ∧ FnR c cl.1 cl.2 p ∧ MapR c (newF cl (.num n)).vs m ∧ FsR g c sk' fms' ∧ HS w0 noM (cb bM 86 (encW g kd s oO nO cO ++ encR g fuel oS fms'.length cS p b (blkA g cl.1 0) 0 none pe) :: own 83 5 oS fms'.length cS (flat encFm fms') :: all (fms'.map mpF) :: mp b m :: frz w0 c.K :: H) w') ∨
      (∃ k res oS nS cS b, raiseF g n wd sk = .stop k res wd ∧ HS w0 noM (cb bM 86 (encW g kd s oO nO cO ++ encR g fuel oS nS cS pc bv pb pi ph (some (bat b 0))) :: cb b 29 (encO3 k empS res) :: frz w0 c.K :: H) w')) := by
  have hxR := hR.2.2.2.2.1
  have hxl := hxR.le
  have hspX : Sp g.xs.o g.xs.l.length := hxR.1.sp (sz := 1) (flat_length encX_len _) (by omega)
  (refine enter (N := 84) Tryz.func51 rfl Tryz.ntmps51 rfl ?_; intro a hA; dsimp only [sl0, Nat.reduceAdd] at hA)
  repeat' (first | (refine GT ?_ ?_ <;> intro hg <;> clear hA a <;> intro a hA <;> (first | exact FA | replace hg := of_decide_eq_true hg | replace hg := of_decide_eq_false hg | skip)) | (refine QT ?_; clear hA a; intro a hA) | (refine st_op hA rfl rfl (by decide) (op_call rfl rfl rfl (stop_spec w0 _ _ bM g kd s oO oS nO cO fms.length cS pc bv fuel pi pb ph pe 4 empS hH)) ?_; clear hA hH; rintro _ w ⟨b, hH⟩ a hA) | ((first | refine CT ?_ | (refine DT ?_ ?_ <;> intro hc <;> try (exfalso; omega))) <;> repeat' refine CT ?_) | fail)
  · exact rt0 (.inl rfl) rfl hA (.inr ⟨4, empS, _, _, _, b, by unfold raiseF; rw [if_pos (.inl (by assumption))]; rfl, ((hH.rm 3).rm 3).perm PMT⟩)
  · exact rt0 (.inl rfl) rfl hA (.inr ⟨4, empS, _, _, _, b, by unfold raiseF; rw [if_pos (.inr (by assumption))]; rfl, ((hH.rm 3).rm 3).perm PMT⟩)
  have hn0 : ¬ (n < 0 ∨ (g.xs.l.length : Int) ≤ n) := by omega
  refine wp_lpk (S := List Fm) (fun sk' a w => ∃ fms oS cS, (FsR g c sk' fms ∧ raiseL n wd sk = raiseL n wd sk' ∧ fms.length ≤ 1000000) ∧ HS w0 noM (cb bM 86 (encW g kd s oO nO cO ++ encR g fuel oS fms.length cS pc bv pb pi ph pe) :: frz w0 c.K :: own 83 5 oS fms.length cS (flat encFm fms) :: all (fms.map mpF) :: H) w ∧ Sl 84 [(0, .pointer (some (bat bM 0))), (1, .int .i64 n)] a) (fun sk' => sk'.length)
    (fun a w => ∃ oS nS cS, raiseL n wd sk = none ∧ HS w0 noM (cb bM 86 (encW g kd s oO nO cO ++ encR g fuel oS nS cS pc bv pb pi ph pe) :: frz w0 c.K :: H) w ∧ Sl 84 [(0, .pointer (some (bat bM 0))), (1, .int .i64 n)] a) sk ⟨fms, oS, cS, ⟨hF, rfl, hfl⟩, hH, (hA.sub SBT)⟩ ?_ ?_
  · clear hA hH hF hfl
    rintro sk' a w ⟨fms, oS, cS, ⟨hF, hr, hfl⟩, hH, hA⟩
    cases sk' with
    | nil =>
      obtain rfl : fms = [] := hF
      repeat' (first | (refine QT ?_; clear hA a; intro a hA) | (refine CT ?_ <;> repeat' refine CT ?_) | fail)
      exact ⟨_, _, _, hr, ((hH.rm 2).rm 2), (hA.sub SBT)⟩
    | cons f r =>
      obtain ⟨pre, x, rfl, hx, hF⟩ := hF
      obtain ⟨pcf, bvf, pbf, pif, phf, mf⟩ := x
      rw [lenFm] at hH hfl
      have hspS := hH.own_sp (T := 83) (o := oS) (by exact MEMT)
      have hlast := flat_all encFm_len (get_last pre ⟨pcf, bvf, pbf, pif, phf, mf⟩)
      have hown := hH.own_le (T := 83) (o := oS) (by exact MEMT)
      repeat' (first | (refine QT ?_; clear hA a; intro a hA) | ((first | refine CT ?_ | (refine DT ?_ ?_ <;> intro hc <;> try (exfalso; omega))) <;> repeat' refine CT ?_) | fail)
      (refine wp_draw2_HS [(0, 1), (1, 1), (2, 1), (3, 1), (4, 1), (5, 1), (6, 1), (7, 1), (8, 1), (9, 1), (10, 1), (11, 1), (12, 0)] [13] mixed (by decide +kernel) hH ?_; replace hH := hH.drew)
      repeat' (first | (refine XT ?_; apply XE; (first | (apply ex_pred; rfl; rfl; omega) | (apply ex_indexAddr_nat; rfl; rfl; omega; exact hspS) | (apply ex_load_st (vs := encFm ⟨pcf, bvf, pbf, pif, phf, mf⟩); rfl; rfl; exact cls_own (T := 83) (o := oS) MEMT hlast)); clear hA a; intro a hA) | (refine QT ?_; clear hA a; intro a hA) | fail)
      (apply dr_op hA rfl rfl rfl (by decide); apply op_alloc; exact hH; clear hA hH; rintro _ w ⟨bN, rfl, hH⟩; refine ⟨hH.tail, ?_⟩; intro a hA)
      repeat' (first | (refine QT ?_; clear hA a; intro a hA) | (apply dr_op03 hA rfl rfl rfl; apply op_store_agg (vs := encFm ⟨pcf, bvf, pbf, pif, phf, mf⟩); rfl; rfl; exact hH; (repeat constructor); (repeat rfl); clear hH; rintro _ w hH) | (refine CT ?_ <;> repeat' refine CT ?_) | fail)
      replace hA : Sl 84 [(0, .pointer (some (bat bM 0))), (1, .int .i64 n), (4, .pointer (some (bat bN 0)))] a := (hA.sub SBT)
      (refine wp_draw2_HS [(0, 1), (1, 1), (2, 1), (3, 1), (4, 1), (5, 1), (6, 1), (7, 1), (8, 1), (9, 1), (10, 1), (11, 1), (12, 1), (13, 1)] [14] mixed (by decide +kernel) hH ?_; replace hH := hH.drew)
      repeat' (first | (refine XT ?_; apply XE; (first | (apply ex_pred; rfl; rfl; omega) | (apply ex_slice_hi (k := pre.length); rfl; rfl; rfl; omega)); clear hA a; intro a hA) | (refine QT ?_; clear hA a; intro a hA) | (apply dr_op03 hA rfl rfl rfl; apply op_store_fld (cs' := encW g kd s oO nO cO ++ encR g fuel oS pre.length cS pc bv pb pi ph pe); rfl; rfl; rfl; exact hH; (repeat constructor); clear hH; rintro _ w hH) | (refine CT ?_ <;> repeat' refine CT ?_) | fail)
      replace hH := HS_cut (T := 83) (sz := 5) (o := oS) (cap := cS) (k := pre.length) (n := pre.length + 1) hH (Nat.le_succ _) (by (repeat constructor))
      rw [flatFm_cut] at hH
      replace hA : Sl 84 [(0, .pointer (some (bat bM 0))), (1, .int .i64 n), (4, .pointer (some (bat bN 0))), (5, .pointer phf), (54, .pointer phf)] a := (hA.sub SBT)
      cases hfh : f.h with
      | none =>
        obtain rfl : phf = none := by have h1 := hx.h; rw [hfh] at h1; exact h1
        repeat' (first | (refine XT ?_; apply XE; (first | (apply ex_eqlPf; rfl; rfl) | (apply ex_eqlPt; rfl; rfl) | (apply ex_neqPt; rfl; rfl) | (apply ex_neqPf; rfl; rfl)); clear hA a; intro a hA) | (refine QT ?_; clear hA a; intro a hA) | (refine CT ?_ <;> repeat' refine CT ?_) | fail)
        exact ⟨r, ⟨pre, _, _, ⟨hF, by rw [hr, raiseL, hfh], by omega⟩, ((mpF_pop ((hH.rm 0).perm (H' := all ((pre ++ [(⟨pcf, bvf, pbf, pif, none, mf⟩ : FmM)]).map mpF) :: cb bM 86 (encW g kd s oO nO cO ++ encR g fuel oS pre.length cS pc bv pb pi ph pe) :: frz w0 c.K :: own 83 5 oS pre.length cS (flat encFm pre) :: H) PMT)).tail).perm PMT, (hA.sub SBT)⟩, by rw [List.length_cons]; omega⟩
      | some cl =>
        obtain ⟨p, rfl, hcl⟩ : ∃ p, phf = some (bat p 0) ∧ FnR c cl.1 cl.2 p := by have h1 := hx.h; rw [hfh] at h1; exact h1
        have e9 : (pre ++ [(⟨pcf, bvf, pbf, pif, some (bat p 0), mf⟩ : FmM)]).map mpF = (pre ++ [(⟨pcf, bvf, pbf, pif, none, mf⟩ : FmM)]).map mpF := by rw [List.map_append, List.map_append]; rfl
        rw [e9] at hH
        repeat' (first | (refine XT ?_; apply XE; (first | (apply ex_eqlPf; rfl; rfl) | (apply ex_eqlPt; rfl; rfl) | (apply ex_neqPt; rfl; rfl) | (apply ex_neqPf; rfl; rfl)); clear hA a; intro a hA) | (refine QT ?_; clear hA a; intro a hA) | (apply st_op0 hA rfl rfl; apply op_store_fld (cs' := encFm ⟨pcf, bvf, pbf, pif, none, mf⟩); rfl; rfl; rfl; exact hH; (repeat constructor); clear hH; rintro _ w hH) | (refine CT ?_ <;> repeat' refine CT ?_) | fail)
        have hST : HS w0 noM [cb bM 86 (encW g kd s oO nO cO ++ encR g fuel oS pre.length cS pc bv pb pi ph pe), cb bN 83 (encFm ⟨pcf, bvf, pbf, pif, none, mf⟩)] w := HS.left (H1 := [_, _]) (H2 := frz w0 c.K :: own 83 5 oS pre.length cS (flat encFm pre) :: all ((pre ++ [(⟨pcf, bvf, pbf, pif, none, mf⟩ : FmM)]).map mpF) :: H) (hH.perm PMT)
        replace hH := hH.perm (H' := cb bM 86 (encW g kd s oO nO cO ++ encR g fuel oS pre.length cS pc bv pb pi ph pe) :: cb bN 83 (encFm ⟨pcf, bvf, pbf, pif, none, mf⟩) :: own 83 5 oS pre.length cS (flat encFm pre) :: frz w0 c.K :: all ((pre ++ [(⟨pcf, bvf, pbf, pif, none, mf⟩ : FmM)]).map mpF) :: H) PMT
        obtain ⟨b8, hb8⟩ : ∃ x, x = bN := ⟨_, rfl⟩
        rw [← hb8] at hA hH hST
        clear hb8 bN
        (refine wp_draw2_HS (H := [_, _]) [(0, 1), (1, 1), (2, 1), (3, 1), (4, 1), (5, 1), (6, 0), (7, 0), (8, 1), (9, 1)] [10] mixed (by decide +kernel) (hST) ?_; replace hH := hH.drew)
        clear hST
        repeat' (first | (refine XT ?_; apply XE; (first | (apply ex_load_st (vs := encFm ⟨pcf, bvf, pbf, pif, none, mf⟩); rfl; rfl; exact cls_cb_all MEMT)); clear hA a; intro a hA) | (refine QT ?_; clear hA a; intro a hA) | fail)
        (apply dr_op hA rfl rfl rfl (by decide); apply op_sliceLit (xs := encFm ⟨pcf, bvf, pbf, pif, none, mf⟩) (vs := [.agg (encFm ⟨pcf, bvf, pbf, pif, none, mf⟩).toArray]); rfl; rfl; exact (Cats.cn (cs := encFm ⟨pcf, bvf, pbf, pif, none, mf⟩) Cats.nil); rfl; rfl; rfl; exact hH; clear hA hH; rintro _ w ⟨oN, rfl, hH⟩; refine ⟨HS.left (H1 := [_, _]) hH.tail, ?_⟩; intro a hA)
        (apply dr_op hA rfl rfl rfl (by decide); apply op_append; rfl; rfl; exact hH; exact MEMT; exact (hH.own_rd (List.Mem.head _)); exact rfl; rfl; decide; exact rfl; (unfold maxLen; omega); omega; clear hA; rintro _ w ⟨oN, cN, rfl, hH2⟩; clear hH; have hH := hH2 _ (by (repeat constructor)); clear hH2; refine ⟨HS.left (H1 := [_, _]) hH.tail, ?_⟩; intro a hA)
        rw [flatFm_s] at hH
        repeat' (first | (refine XT ?_; apply XE; (first | (apply ex_iface; rfl)); clear hA a; intro a hA) | (refine QT ?_; clear hA a; intro a hA) | (apply dr_op03 hA rfl rfl rfl; apply op_store_fld (cs' := encW g kd s oO nO cO ++ encR g fuel oN (pre.length + 1) cN pc bv pb pi ph pe); rfl; rfl; rfl; exact hH; (repeat constructor); clear hH; rintro _ w hH) | (refine CT ?_ <;> repeat' refine CT ?_) | fail)
        replace hH := (((hH.rm 0).rm 1).perm (H' := cb bM 86 (encW g kd s oO nO cO ++ encR g fuel oN (pre.length + 1) cN pc bv pb pi ph pe) :: frz w0 c.K :: own 83 5 oN (pre.length + 1) cN (flat encFm (pre ++ [⟨pcf, bvf, pbf, pif, none, mf⟩])) :: all ((pre ++ [(⟨pcf, bvf, pbf, pif, none, mf⟩ : FmM)]).map mpF) :: H) PMT)
        (refine st_op hA rfl rfl (by decide) (op_call rfl rfl rfl (enter_spec w0 w _ c bM g kd s oO oN nO cO (pre.length + 1) cN pc bv fuel pi pb ph pe (.fn cl.1 cl.2) (.num n) _ _ hH hcl.rv (RV_num hn) hR hnf hne)) ?_; clear hA hH)
        rintro _ w (⟨cl', p', b', m', hs, rfl, hcf, hm, hH⟩ | ⟨hs, rfl, b, hH⟩) a hA
        rotate_left
        · cases hs
        cases hs
        repeat' (first | (refine QT ?_; clear hA a; intro a hA) | (refine CT ?_ <;> repeat' refine CT ?_) | fail)
        refine rt0 (.inl rfl) rfl hA (.inl ⟨{ f with h := none } :: r, cl, p', b', m', oN, cN, pre ++ [⟨pcf, bvf, pbf, pif, none, mf⟩], ?_, hcf, hm, ⟨pre, ⟨pcf, bvf, pbf, pif, none, mf⟩, rfl, ⟨hx.fn, hx.vs, hx.pb, hx.i, rfl⟩, hF⟩, ?_⟩)
        · unfold raiseF
          rw [if_neg hn0, hr, raiseL, hfh]
        · rw [lenFm]
          exact hH.perm PMT
  clear hA hH
  rintro a w ⟨oS, nS, cS, hr, hH, hA⟩
  have hsz := hxs (g.xs.l.getD n.toNat default) (getD_mem (show n.toNat < g.xs.l.length by omega))
  repeat' (first | (refine XT ?_; apply XE; (first | (apply ex_indexAddr; rfl; rfl; omega; omega; exact hspX) | (apply ex_load; rfl; refine cl_rd hxR.1 id (strs_at ?_); omega) | (apply ex_addS; rfl; rfl; have h6 : raiseB.size = 6 := rfl; show raiseB.size + _ ≤ _; omega)); clear hA a; intro a hA) | (refine QT ?_; clear hA a; intro a hA) | (refine st_op hA rfl rfl (by decide) (op_call rfl rfl rfl (stop_spec w0 _ _ bM g kd s oO oS nO cO nS cS pc bv fuel pi pb ph pe 1 (raiseB ++ g.xs.l.getD n.toNat default) hH)) ?_; clear hA hH; rintro _ w ⟨b, hH⟩ a hA) | (refine CT ?_ <;> repeat' refine CT ?_) | fail)
  exact rt0 (.inr rfl) rfl hA (.inr ⟨1, _, oS, nS, cS, b, by unfold raiseF; rw [if_neg hn0, hr], hH⟩)
end Go.Proofs.YtenlcdokaadobaaGreatDoor
namespace Go.Proofs
open Go.Shelf
def Tryz.lays169_ren : Go.Shelf.Ren := ⟨fun | 169 => 137 | n => n, fun | 70 => 254 | 9 => 9 | 0 => 0 | 72 => 256 | 37 => 75 | 127 => 269 | 3 => 3 | 5 => 5 | n => n, fun | n => n⟩
theorem Tryz.lays169 : Go.Proofs.Lays.n169 Tryz.prog Tryz.lays169_ren := {
  mixed := by kernel_rfl
  f169 := Tryz.func137.trans (congrArg some (by kernel_rfl))
  t0 := Tryz.underlying0
  a0 := Tryz.isAgg0
  z0 := Tryz.sizeOf0
  v0 := Tryz.zeroValue0
  t3 := Tryz.underlying3
  a3 := Tryz.isAgg3
  z3 := Tryz.sizeOf3
  v3 := Tryz.zeroValue3
  t9 := Tryz.underlying9
  a9 := Tryz.isAgg9
  z9 := Tryz.sizeOf9
  v9 := Tryz.zeroValue9
  t37 := Tryz.underlying75
  a37 := Tryz.isAgg75
  z37 := Tryz.sizeOf75
  v37 := Tryz.zeroValue75
  t70 := Tryz.underlying254
  a70 := Tryz.isAgg254
  z70 := Tryz.sizeOf254
  v70 := Tryz.zeroValue254
  t72 := Tryz.underlying256
  a72 := Tryz.isAgg256
  z72 := Tryz.sizeOf256
  v72 := Tryz.zeroValue256
  t127 := Tryz.underlying269
  a127 := Tryz.isAgg269
  z127 := Tryz.sizeOf269
  v127 := Tryz.zeroValue269 }
theorem Tryz.Builder_Extra_169 : Builder.Extra Tryz.prog Tryz.lays169_ren := {
  sizeBuilder := by kernel_rfl
  liesBuilder := by kernel_rfl
  t5 := Tryz.underlying5
  a5 := Tryz.isAgg5
  z5 := Tryz.sizeOf5
  v5 := Tryz.zeroValue5
  infoByte := by kernel_rfl
  cellsByte := by kernel_rfl
  sizeByte := by kernel_rfl
  neB5 := by decide }
open Go.RowKit in
theorem Tryz.Builder_String (B b : Nat) (l : List UInt8) (w : World) (h : Lib.IsBuilder 256 5 B b (Lib.byteCells l) w) (h0 : l ≠ []) :
    Calls Tryz.prog 137 #[.pointer (some ⟨b, 0, none⟩)] w fun e w' => e = .returned (.string ⟨l.toArray⟩) ∧ Below B w w' := Any.Builder_String Tryz.lays169 Tryz.Builder_Extra_169 B b l w h h0
def Tryz.laysM173_ren : Go.Shelf.Ren := ⟨fun | 173 => 134 | 246 => 154 | 283 => 162 | 284 => 163 | 285 => 164 | 286 => 165 | 129 => 171 | 317 => 170 | 318 => 172 | 319 => 173 | 320 => 174 | 337 => 175 | 338 => 176 | n => n, fun | 2 => 2 | 3 => 3 | 9 => 9 | 4 => 4 | 171 => 280 | 0 => 0 | 53 => 276 | 37 => 75 | 5 => 5 | 173 => 283 | 212 => 288 | 51 => 273 | 20 => 20 | 213 => 289 | 46 => 207 | 232 => 292 | 233 => 293 | n => n, fun | 17 => 0 | 18 => 1 | 19 => 2 | n => n⟩
theorem Tryz.laysM173 : Go.Proofs.LaysM.n173 Tryz.prog Tryz.laysM173_ren := {
  mixed := by kernel_rfl
  f129 := Tryz.func171.trans (congrArg some (by kernel_rfl))
  f173 := Tryz.func134.trans (congrArg some (by kernel_rfl))
  f246 := Tryz.func154.trans (congrArg some (by kernel_rfl))
  f283 := Tryz.func162.trans (congrArg some (by kernel_rfl))
  f284 := Tryz.func163.trans (congrArg some (by kernel_rfl))
  f285 := Tryz.func164.trans (congrArg some (by kernel_rfl))
  f286 := Tryz.func165.trans (congrArg some (by kernel_rfl))
  f317 := Tryz.func170.trans (congrArg some (by kernel_rfl))
  f318 := Tryz.func172.trans (congrArg some (by kernel_rfl))
  f319 := Tryz.func173.trans (congrArg some (by kernel_rfl))
  f320 := Tryz.func174.trans (congrArg some (by kernel_rfl))
  f337 := Tryz.func175.trans (congrArg some (by kernel_rfl))
  f338 := Tryz.func176.trans (congrArg some (by kernel_rfl))
  t0 := Tryz.underlying0
  a0 := Tryz.isAgg0
  z0 := Tryz.sizeOf0
  v0 := Tryz.zeroValue0
  t2 := Tryz.underlying2
  a2 := Tryz.isAgg2
  z2 := Tryz.sizeOf2
  v2 := Tryz.zeroValue2
  t3 := Tryz.underlying3
  a3 := Tryz.isAgg3
  z3 := Tryz.sizeOf3
  v3 := Tryz.zeroValue3
  t4 := Tryz.underlying4
  a4 := Tryz.isAgg4
  z4 := Tryz.sizeOf4
  v4 := Tryz.zeroValue4
  t5 := Tryz.underlying5
  a5 := Tryz.isAgg5
  z5 := Tryz.sizeOf5
  v5 := Tryz.zeroValue5
  t9 := Tryz.underlying9
  a9 := Tryz.isAgg9
  z9 := Tryz.sizeOf9
  v9 := Tryz.zeroValue9
  t20 := Tryz.underlying20
  a20 := Tryz.isAgg20
  z20 := Tryz.sizeOf20
  v20 := Tryz.zeroValue20
  t37 := Tryz.underlying75
  a37 := Tryz.isAgg75
  z37 := Tryz.sizeOf75
  v37 := Tryz.zeroValue75
  t46 := Tryz.underlying207
  a46 := Tryz.isAgg207
  z46 := Tryz.sizeOf207
  v46 := Tryz.zeroValue207
  t51 := Tryz.underlying273
  a51 := Tryz.isAgg273
  z51 := Tryz.sizeOf273
  v51 := Tryz.zeroValue273
  t53 := Tryz.underlying276
  a53 := Tryz.isAgg276
  z53 := Tryz.sizeOf276
  v53 := Tryz.zeroValue276
  t171 := Tryz.underlying280
  a171 := Tryz.isAgg280
  z171 := Tryz.sizeOf280
  v171 := Tryz.zeroValue280
  t173 := Tryz.underlying283
  a173 := Tryz.isAgg283
  z173 := Tryz.sizeOf283
  v173 := Tryz.zeroValue283
  t212 := Tryz.underlying288
  a212 := Tryz.isAgg288
  z212 := Tryz.sizeOf288
  v212 := Tryz.zeroValue288
  t213 := Tryz.underlying289
  a213 := Tryz.isAgg289
  z213 := Tryz.sizeOf289
  t232 := Tryz.underlying292
  a232 := Tryz.isAgg292
  z232 := Tryz.sizeOf292
  v232 := Tryz.zeroValue292
  t233 := Tryz.underlying293
  a233 := Tryz.isAgg293
  z233 := Tryz.sizeOf293
  v233 := Tryz.zeroValue293
  g17 := by kernel_rfl
  g18 := by kernel_rfl
  g19 := by kernel_rfl
  i0 := by kernel_rfl
  i2 := by kernel_rfl
  i3 := by kernel_rfl
  i4 := by kernel_rfl
  i5 := by kernel_rfl
  i9 := by kernel_rfl
  i20 := by kernel_rfl
  i37 := by kernel_rfl
  i46 := by kernel_rfl
  i51 := by kernel_rfl
  i53 := by kernel_rfl
  i171 := by kernel_rfl
  i173 := by kernel_rfl
  i212 := by kernel_rfl
  i232 := by kernel_rfl
  i233 := by kernel_rfl
  m17 := by kernel_rfl
  m18 := by kernel_rfl
  m19 := by kernel_rfl }
open Go.RowKit Go.Sort Go.Lib in
theorem Tryz.strconv_FormatInt_10 (n : Int) (h0 : -9223372036854775808 ≤ n) (h1 : n ≤ 9223372036854775807) (w : World) (htab : Lib.TabIs Tryz.prog w "internal/strconv.uint64pow10" .u64 Lib.pow10Tab) :
    Calls Tryz.prog 134 #[.int .i64 n, .int .i64 10] w fun e w' => e = .returned (.string ⟨(Lib.itoa n).toArray⟩) ∧ ∃ k os, w' = grow (w.drewN k) os := Any.strconv_FormatInt_10 Tryz.laysM173 n h0 h1 w htab
end Go.Proofs
namespace Go.Fw
open Go Go.RowKit
set_option linter.unusedVariables false
section
variable {P : Program} {N : Nat} {l : List (Nat × Value)} {a : Act} {C : World → Prop} {d : Option Tmp} {T : TypeId} {pos : String} {af : Array Edge} {g : Option (Nat × Bool)}
theorem strCells_flat (s : ByteArray) : Lib.strCells s = flat encY (bts s) := by
  rw [flatY, Lib.strCells, bts]
  simp
theorem op_appendS {t u e n cap : Nat} {o : Option Addr} {x y : Operand} {xs : List Value} {s : ByteArray} {w0 w : World} {M : Nat → Prop} {H : List It} [ht : TSl P t e] [hu : TSr P u] [hi : TIf P e (.int .u8 0) [.int .u8 0] 1 1]
    (hx : ev l x = some (.slice o n cap)) (hy : ev l y = some (.string s)) (hH : HS w0 M H w) (hm : own e 1 o n cap xs ∈ H) (hs0 : 0 < s.size)
    (h63 : n + s.size ≤ maxLen) (hby : n + s.size ≤ 140737488355328) :
    Op1 P N l ⟨d, .call ⟨.builtin .append, #[x, y], #[t, u]⟩, T, pos, af, g⟩ w (fun v w' => ∃ o' cap', v = .slice o' (n + s.size) cap' ∧ ∀ H', Rp H (own e 1 o n cap xs) (own e 1 o' (n + s.size) cap' (xs ++ flat encY (bts s))) H' → HS w0 M H' w') := by
  intro a hA K Q hK
  obtain ⟨i, h3, h4, h5, h6⟩ := hi.eq
  obtain ⟨F, hF⟩ := hH.sat hm
  have hown := own_to hF
  have key : ∃ v' w', (Builtin.append_ #[t, u] T #[.slice o n cap, .string s]).run P w = .ok v' w' ∧ w'.ownsRow 0 e 1 v' (n + s.size) (xs ++ Lib.strCells s) ∧ w.grownBy w' (Value.slice o n cap).ownBlock ∧
      (v'.ownBlock = (Value.slice o n cap).ownBlock ∨ v'.ownBlock = some w.heap.size) := by
    have hsmall : n + s.size ≤ 9223372036854775807 := by simp only [maxLen] at h63; omega
    have hxl : xs.length = n := by simpa using hown.1
    have hlen : (xs ++ Lib.strCells s).length = (n + s.size) * 1 := by rw [List.length_append, hxl, Lib.strCells_length, Nat.mul_one]
    have grown : ∀ (old : Nat), old < n + s.size → ∀ (row : Option Nat),
        (w.drew.alloc (.cells (xs.toArray ++ (Lib.strCells s).toArray ++ Builtin.zeroCells (Value.int .u8 0).cells (grownCap w (n + s.size) old e - (n + s.size))) e)).ownsRow 0 e 1
          (.slice (some ⟨w.heap.size, 0, none⟩) (n + s.size) (grownCap w (n + s.size) old e)) (n + s.size) (xs ++ Lib.strCells s) ∧
        w.grownBy (w.drew.alloc (.cells (xs.toArray ++ (Lib.strCells s).toArray ++ Builtin.zeroCells (Value.int .u8 0).cells (grownCap w (n + s.size) old e - (n + s.size))) e)) row := by
      intro old ho row
      have hge := grownCap_ge w (n + s.size) old e
      have hcm : grownCap w (n + s.size) old e ≤ maxLen := grownCap_le_maxLen w (n + s.size) old e h63
      refine ⟨⟨hlen, .inr ⟨w.heap.size, _, _, rfl, Nat.zero_le _, heap_alloc_new w.drew _, hge, hcm, ?_, ?_⟩⟩, ⟨rfl, rfl, rfl, by simp, fun k hk _ => Lib.alloc_old w.drew _ k hk⟩⟩
      · have hz1 : (Value.int IntKind.u8 0).cells.size = 1 := rfl
        simp only [Array.size_append, List.size_toArray, size_zeroCells, hz1, hxl, Lib.strCells_length]
        omega
      · simp only [Array.toList_append, List.append_assoc]
        rw [← List.append_assoc, ← hlen]
        exact List.take_left
    rcases hown.2 with ⟨hv, rfl⟩ | ⟨g', cap', cur, hv, hbg, hg, hnc, hcm, hcs, htake⟩
    · have hx : xs = [] := List.eq_nil_of_length_eq_zero hxl
      subst hx
      have hr := run_append_nil_string (P := P) w t u T e i (.int .u8 0) ht.eq hu.eq h3 h4 s (by omega) (by omega) (by rw [h6]; omega)
      have hgr := grown 0 (by omega) (Value.ownBlock (.slice none 0 0))
      simp only [Nat.zero_add, List.nil_append, Array.empty_append] at hgr ⊢
      have e1 : (s.data.map fun b => Value.int .u8 b.toNat) = (Lib.strCells s).toArray := by
        apply Array.ext'
        simp [Lib.strCells]
      rw [e1] at hr
      rw [hv]
      exact ⟨_, _, hr, hgr.1, hgr.2, .inr rfl⟩
    · rw [hv]
      by_cases hroom : n + s.size ≤ cap'
      · have hcs' : cur.size = cap' := by simpa using hcs
        have hr := Lib.run_append_room_string (P := P) w t u T e i ht.eq hu.eq h3 h5 g' n cap' cur hg s hroom (by omega)
        refine ⟨_, _, hr, ⟨hlen, .inr ⟨g', cap', _, rfl, Nat.zero_le _, setRow_heap w g' cur _ e _ hg, hroom, hcm, ?_, ?_⟩⟩, ⟨rfl, rfl, rfl, by simp, fun k _ hk => setRow_other w g' k _ (fun e => hk (by simp [Value.ownBlock, e]))⟩, .inl rfl⟩
        · simp only [List.size_toArray, List.length_append, List.length_take, List.length_drop, Array.length_toList, Lib.strCells_length]
          omega
        · have ht' : cur.toList.take n = xs := by simpa using htake
          rw [ht', ← hlen]
          exact List.take_left
      · rw [hv] at hown
        have holds : ∀ j u, xs[j]? = some u → w.cell? ((⟨g', 0, none⟩ : Addr).add j) = some u := hown.cells (g := g') rfl
        have hr := Lib.run_append_grow_string (P := P) w t u T e i (.int .u8 0) ht.eq hu.eq h3 h4 ⟨g', 0, none⟩ n cap' xs (by rw [h5]; simpa using hxl) holds s (by omega) (by omega) (by rw [h6]; exact growslice_fits (by omega) (by omega))
        have hgr := grown cap' (by omega) (Value.ownBlock (.slice (some ⟨g', 0, none⟩) n cap'))
        exact ⟨_, _, hr, hgr.1, hgr.2, .inr rfl⟩
  obtain ⟨v', w', hrun, q2, q3, q5⟩ := key
  obtain ⟨o', cap', rfl, hs'⟩ := own_of q2
  rw [strCells_flat] at hs'
  unfold Oper.wp
  simp only [execOp, resolve, invoke, builtin, Sem.run_bind, Sem.run_pure, Result.andThen_ok, List.map_toArray, List.map_cons, List.map_nil, hA.ev hx, hA.ev hy, hrun, Oper.upon]
  refine hK _ _ ⟨o', cap', rfl, fun H' hrp => hH.turn hrp fun F' hF' => ?_⟩
  have hFo : ∀ b, (Value.slice o n cap).ownBlock = some b → F' b := by
    intro b hb
    rcases hF' with ⟨rfl, _⟩ | ⟨b', spare', rfl, g2, _⟩
    · simp [Value.ownBlock] at hb
    · have : b' = b := by simpa [Value.ownBlock] using hb
      subst this
      exact (g2 _).2 rfl
  refine ⟨grown_kp q3 hFo, _, hs', fun b hb => ?_⟩
  rcases q5 with h | h
  · exact .inr (hFo b (h ▸ hb))
  · rw [h] at hb; simp at hb; exact .inl (by omega)
theorem ex_neqPs {t te ty : TypeId} {x y : Operand} {p : Addr} {j : TypeInfo} (h : P.underlying t = some (.pointer te)) (hj : P.info? te = some j) (hx : ev l x = some (.pointer (some p))) (hy : ev l y = some (.pointer (some p))) : Ex P N l C ⟨d, .binOp .neq t x y ty, T, pos, af, g⟩ (.bool false) := by
  intro a w hA _
  simp [execOp, hA.ev hx, hA.ev hy, eqGuard_at_pointer, Lib.run_neq_ptr_same w p h hj]
theorem ex_toU {src dst t Tb b : Nat} {x : Operand} {j : TypeInfo} {cs : List Value} {w0 : World} {M : Nat → Prop} {H : List It} (hs : P.underlying src = some (.pointer t)) (hd : P.underlying dst = some .unsafePointer) (ht : P.info? t = some j) (hj : j.size ≠ 0)
    (hx : ev l x = some (.pointer (some (bat b 0)))) (hm : cb b Tb cs ∈ H) (h0 : 0 < cs.length) : Ex P N l (HS w0 M H) ⟨d, .convert src dst x, T, pos, af, g⟩ (.pointer (some (bat b 0))) := by
  intro a w hA hH
  obtain ⟨F, h1, h2⟩ := hH.sat hm
  simp only [execOp, hA.ev hx, Sem.run_bind]
  rw [Lib.run_to_unsafe w (bat b 0) hs hd ht hj (e := Tb) (cells := cs.length) (by simp [World.shape?, bat, h2]) (by simpa [bat] using h0)]
  simp
theorem ex_fromU {src dst t Tb b : Nat} {x : Operand} {j : TypeInfo} {cs : List Value} {w0 : World} {M : Nat → Prop} {H : List It} (hs : P.underlying src = some .unsafePointer) (hd : P.underlying dst = some (.pointer t)) (ht : P.info? t = some j)
    (hx : ev l x = some (.pointer (some (bat b 0)))) (hm : cb b Tb cs ∈ H) (hl : liesAt P P.depth Tb (cs.length / P.cellsOf Tb) 0 t 1 = true) : Ex P N l (HS w0 M H) ⟨d, .convert src dst x, T, pos, af, g⟩ (.pointer (some (bat b 0))) := by
  intro a w hA hH
  obtain ⟨F, h1, h2⟩ := hH.sat hm
  simp only [execOp, hA.ev hx, Sem.run_bind]
  rw [Lib.run_from_unsafe w (bat b 0) hs hd ht (e := Tb) (cells := cs.length) (by simp [World.shape?, bat, h2]) (by simpa [bat] using hl)]
  simp
theorem ex_same {k : FuncId} {f x : Operand} {ats : Array TypeId} {v : Value} (hf : ev l f = some (.func (.func k) #[] #[])) (hx : ev l x = some v) (hr : ∀ w, (callFunc k #[v]).run P w = .ok (.value v) w) : Ex P N l C ⟨d, .call ⟨.value f, #[x], ats⟩, T, pos, af, g⟩ v := by
  intro a w hA _
  simp [execOp, resolve, Deferred.ofValue, hA.ev hf, hA.ev hx, invoke, hr]
end
end Go.Fw
namespace Go.Proofs.YtenlcdokaadobaaGreatDoor
open Go Go.Fw
set_option linter.unusedVariables false
theorem noEsc (v : Value) (w : World) : (callFunc 166 #[v]).run Tryz.prog w = .ok (.value v) w := by
  rw [run_callFunc_extern Tryz.func166 (by kernel_rfl) (by kernel_rfl) (by kernel_rfl) (e := Extern.AbiNoEscape.same) (by kernel_rfl)]
  rfl
set_option maxRecDepth 10000 attribute [local irreducible] Code.wp wpList Calls Ex Op1 sat bat blk cb own Go.Fw.mp Go.Fw.mpO Go.Fw.mpI Go.Fw.mpE Go.Fw.itr HS Rd Ret wkD Hp Cl Cls Exit.then Exit.inBlock Exit.noGoto bodyPost Go.Fw.flat wk2 Go.Fw.all Go.Fw.owns wpOp
attribute [local irreducible] sk mpK sko mvO entK opM Go.Fw.mset Go.Fw.mv opK w63 frz obI RV idxF

set_option maxHeartbeats 4000000 in
theorem copyCheck_spec (w0 w : World) (H : List It) (b n c : Nat) (p o : Option Addr) (hp : p = none ∨ p = some (bat b 0)) (hH : HS w0 noM (cb b 256 [.pointer p, .slice o n c] :: H) w) :
    Ret Tryz.prog 155 #[.pointer (some (bat b 0))] w (fun r w' => HS w0 noM (cb b 256 [.pointer (some (bat b 0)), .slice o n c] :: H) w') := by
  obtain ⟨j, hj, hjs⟩ := Option.map_eq_some_iff.1 Tryz.Builder_Extra_169.sizeBuilder
  (refine enter (N := 20) Tryz.func155 rfl Tryz.ntmps155 rfl ?_; intro a hA; dsimp only [sl0, Nat.reduceAdd] at hA)
  rcases hp with rfl | rfl
  · repeat' (first | (refine XT ?_; apply XE; (first | (apply ex_eqlPf; rfl; rfl) | (apply ex_eqlPt; rfl; rfl) | (apply ex_neqPt; rfl; rfl) | (apply ex_neqPf; rfl; rfl) | (apply ex_toU; exact Tryz.underlying254; exact Tryz.underlying285; exact hj; (rw [hjs]; decide); rfl; exact MEMT; exact Nat.zero_lt_succ _) | (apply ex_fromU; exact Tryz.underlying285; exact Tryz.underlying254; exact hj; rfl; exact MEMT; exact Tryz.Builder_Extra_169.liesBuilder) | (apply ex_same; rfl; rfl; exact noEsc _)); clear hA a; intro a hA) | (refine QT ?_; clear hA a; intro a hA) | (apply st_op0 hA rfl rfl; apply op_store_fld (cs' := [.pointer (some (bat b 0)), .slice o n c]); rfl; rfl; rfl; exact hH; (repeat constructor); clear hH; rintro _ w hH) | (refine CT ?_ <;> repeat' refine CT ?_) | fail)
    exact rt0 (.inr rfl) rfl hA hH
  · repeat' (first | (refine XT ?_; apply XE; (first | (apply ex_eqlPf; rfl; rfl) | (apply ex_eqlPt; rfl; rfl) | (apply ex_neqPt; rfl; rfl) | (apply ex_neqPf; rfl; rfl) | (apply ex_neqPs; exact Tryz.underlying254; exact hj; rfl; rfl)); clear hA a; intro a hA) | (refine QT ?_; clear hA a; intro a hA) | (refine CT ?_ <;> repeat' refine CT ?_) | fail)
    exact rt0 (.inr rfl) rfl hA hH
set_option maxHeartbeats 4000000 in
theorem WriteByte_spec (w0 w : World) (H : List It) (b c : Nat) (p o : Option Addr) (bs : List Nat) (x : Nat) (hp : p = none ∨ p = some (bat b 0)) (hl : bs.length ≤ 1000000000) (hH : HS w0 noM (cb b 256 [.pointer p, .slice o bs.length c] :: own 5 1 o bs.length c (flat encY bs) :: H) w) :
    Ret Tryz.prog 135 #[.pointer (some (bat b 0)), .int .u8 (x : Int)] w (fun r w' => ∃ o' c', HS w0 noM (cb b 256 [.pointer (some (bat b 0)), .slice o' (bs ++ [x]).length c'] :: own 5 1 o' (bs ++ [x]).length c' (flat encY (bs ++ [x])) :: H) w') := by
  (refine enter (N := 17) Tryz.func135 rfl Tryz.ntmps135 rfl ?_; intro a hA; dsimp only [sl0, Nat.reduceAdd] at hA)
  repeat' (first | (refine QT ?_; clear hA a; intro a hA) | (refine LT ?_; clear hA hH; rintro _ w ⟨oN, rfl, hH⟩ a hA) | (refine AT ?_; clear hA; rintro _ w ⟨oN, cN, rfl, hH2⟩ a hA; clear hH; have hH := (hH2 _ (by (repeat constructor))).tail; clear hH2) | (refine st_op hA rfl rfl (by decide) (op_call rfl rfl rfl (copyCheck_spec w0 w _ b bs.length c p o hp hH)) ?_; clear hA hH; rintro _ w hH a hA) | (refine CT ?_ <;> repeat' refine CT ?_) | fail)
  rw [show flat encY bs ++ [Value.int .u8 (x : Int)] = flat encY (bs ++ [x]) by rw [flat_snoc]; rfl] at hH
  repeat' (first | (refine QT ?_; clear hA a; intro a hA) | (apply st_op0 hA rfl rfl; apply op_store_fld (cs' := [.pointer (some (bat b 0)), .slice oN (bs.length + 1) cN]); rfl; rfl; rfl; exact hH; (repeat constructor); clear hH; rintro _ w hH) | (refine CT ?_ <;> repeat' refine CT ?_) | fail)
  have e1 : (bs ++ [x]).length = bs.length + 1 := by rw [List.length_append]; rfl
  exact rt1 (.inl rfl) rfl hA rfl ⟨oN, cN, by rw [e1]; exact hH⟩
set_option maxHeartbeats 4000000 in
theorem WriteString_spec (w0 w : World) (H : List It) (b c : Nat) (p o : Option Addr) (bs : List Nat) (s : ByteArray) (hp : p = none ∨ p = some (bat b 0)) (hl : bs.length ≤ 1000000000) (hs0 : 0 < s.size) (hs : s.size ≤ 1000000000) (hH : HS w0 noM (cb b 256 [.pointer p, .slice o bs.length c] :: own 5 1 o bs.length c (flat encY bs) :: H) w) :
    Ret Tryz.prog 136 #[.pointer (some (bat b 0)), .string s] w (fun r w' => ∃ o' c', HS w0 noM (cb b 256 [.pointer (some (bat b 0)), .slice o' (bs ++ bts s).length c'] :: own 5 1 o' (bs ++ bts s).length c' (flat encY (bs ++ bts s)) :: H) w') := by
  (refine enter (N := 19) Tryz.func136 rfl Tryz.ntmps136 rfl ?_; intro a hA; dsimp only [sl0, Nat.reduceAdd] at hA)
  repeat' (first | (refine QT ?_; clear hA a; intro a hA) | (refine st_op hA rfl rfl (by decide) (op_call rfl rfl rfl (copyCheck_spec w0 w _ b bs.length c p o hp hH)) ?_; clear hA hH; rintro _ w hH a hA) | (refine CT ?_ <;> repeat' refine CT ?_) | fail)
  (apply st_op hA rfl rfl (by decide); apply op_appendS; rfl; rfl; exact hH; exact MEMT; exact hs0; (unfold maxLen; omega); omega; clear hA; rintro _ w ⟨oN, cN, rfl, hH2⟩ a hA; clear hH; have hH := hH2 _ (by (repeat constructor)); clear hH2)
  rw [show flat encY bs ++ flat encY (bts s) = flat encY (bs ++ bts s) by rw [flat_append]] at hH
  repeat' (first | (refine XT ?_; apply XE; (first | (apply ex_len_string; rfl)); clear hA a; intro a hA) | (refine QT ?_; clear hA a; intro a hA) | (apply st_op0 hA rfl rfl; apply op_store_fld (cs' := [.pointer (some (bat b 0)), .slice oN (bs.length + s.size) cN]); rfl; rfl; rfl; exact hH; (repeat constructor); clear hH; rintro _ w hH) | (refine CT ?_ <;> repeat' refine CT ?_) | fail)
  have e1 : (bs ++ bts s).length = bs.length + s.size := by rw [List.length_append, bts_len]
  exact rt2 (.inl rfl) rfl hA rfl rfl ⟨oN, cN, by rw [e1]; exact hH⟩
end Go.Proofs.YtenlcdokaadobaaGreatDoor
namespace Go.Proofs.YtenlcdokaadobaaGreatDoor
open Go Go.Fw
set_option linter.unusedVariables false
def hexS : ByteArray := ⟨#[48, 49, 50, 51, 52, 53, 54, 55, 56, 57, 97, 98, 99, 100, 101, 102]⟩
def hexd (k : Nat) : Nat := (bts hexS).getD k 0
def quoteB (c : Nat) : List Nat := if c = 34 ∨ c = 92 then [92, c] else if c = 10 then [92, 110] else if 32 ≤ c ∧ c ≤ 126 then [c] else [92, 120, hexd (c / 16), hexd (c % 16)]
def quoteL (l : List Nat) : List Nat := l.flatMap quoteB
def quoteF (s : ByteArray) : ByteArray := ofB ([34] ++ quoteL (bts s) ++ [34])
theorem shr4 (c : Nat) (h : c < 256) : shrK .u8 (c : Int) 4 = ((c / 16 : Nat) : Int) := by
  have : ∀ c : Fin 256, shrK .u8 ((c.1 : Nat) : Int) 4 = ((c.1 / 16 : Nat) : Int) := by decide +kernel
  exact this ⟨c, h⟩
theorem and15 (c : Nat) (h : c < 256) : andK .u8 (c : Int) 15 = ((c % 16 : Nat) : Int) := by
  have : ∀ c : Fin 256, andK .u8 ((c.1 : Nat) : Int) 15 = ((c.1 % 16 : Nat) : Int) := by decide +kernel
  exact this ⟨c, h⟩
theorem hex_get {k : Nat} (h : k < 16) : (bts hexS)[k]? = some (hexd k) := by
  unfold hexd
  rw [List.getD_eq_getElem?_getD, List.getElem?_eq_getElem (show k < (bts hexS).length from h)]; rfl
theorem hexd_lt (k : Nat) : hexd k < 256 := by
  unfold hexd
  rw [List.getD_eq_getElem?_getD]
  cases h : (bts hexS)[k]? with
  | none => show 0 < 256; omega
  | some b => exact bts_lt hexS b (List.mem_of_getElem? h)
theorem quoteB_lt {c : Nat} (h : c < 256) : ∀ x ∈ quoteB c, x < 256 := by
  intro x hx
  have h1 := hexd_lt (c / 16)
  have h2 := hexd_lt (c % 16)
  unfold quoteB at hx
  split at hx
  · simp only [List.mem_cons, List.not_mem_nil, or_false] at hx; omega
  · split at hx
    · simp only [List.mem_cons, List.not_mem_nil, or_false] at hx; omega
    · split at hx
      · simp only [List.mem_cons, List.not_mem_nil, or_false] at hx; omega
      · simp only [List.mem_cons, List.not_mem_nil, or_false] at hx; omega
theorem quoteB_len (c : Nat) : (quoteB c).length ≤ 4 := by
  unfold quoteB
  split
  · show 2 ≤ 4; omega
  · split
    · show 2 ≤ 4; omega
    · split
      · show 1 ≤ 4; omega
      · show 4 ≤ 4; omega
theorem quoteL_snoc (l : List Nat) (c : Nat) : quoteL (l ++ [c]) = quoteL l ++ quoteB c := by
  unfold quoteL
  rw [List.flatMap_append]
  simp
theorem q1 {x : Nat} (h : x = 34 ∨ x = 92) : quoteB x = [92] ++ [x] := by unfold quoteB; rw [if_pos h]; rfl
theorem q2 {x : Nat} (h : x = 10) : quoteB x = bts ⟨#[92, 110]⟩ := by subst h; rfl
theorem q3 {x : Nat} (h : ¬ (x = 34 ∨ x = 92) ∧ x ≠ 10 ∧ 32 ≤ x ∧ x ≤ 126) : quoteB x = [x] := by unfold quoteB; rw [if_neg h.1, if_neg h.2.1, if_pos h.2.2]
theorem q4 {x : Nat} (h : ¬ (x = 34 ∨ x = 92) ∧ x ≠ 10 ∧ ¬ (32 ≤ x ∧ x ≤ 126)) : quoteB x = bts ⟨#[92, 120]⟩ ++ ([hexd (x / 16)] ++ [hexd (x % 16)]) := by unfold quoteB; rw [if_neg h.1, if_neg h.2.1, if_neg h.2.2]; rfl
theorem bytes_flat {l : List Nat} (h : ∀ x ∈ l, x < 256) : Lib.byteCells (l.map UInt8.ofNat) = flat encY l := by
  rw [flatY, Lib.byteCells, List.map_map, List.map_map]
  refine List.map_congr_left fun x hx => ?_
  have := h x hx
  show Value.int .u8 ((UInt8.ofNat x).toNat : Int) = _
  rw [UInt8.toNat_ofNat_of_lt' this]
  rfl
theorem bld_is {w0 w : World} {b c : Nat} {o : Option Addr} {bs : List Nat} (h : HS w0 noM [cb b 256 [.pointer (some (bat b 0)), .slice o bs.length c], own 5 1 o bs.length c (flat encY bs)] w) (hb : ∀ x ∈ bs, x < 256) : Lib.IsBuilder 256 5 w0.heap.size b (Lib.byteCells (bs.map UInt8.ofNat)) w := by
  obtain ⟨hk, F, ⟨F1, F2, hF, hd, ⟨h1, h2⟩, F3, F4, hG, hd', h3, h4⟩, ho⟩ := h
  have hlow : ∀ x, F x → w0.heap.size ≤ x := fun x hx => (ho x hx).resolve_right id
  have hbl : w0.heap.size ≤ b := hlow b ((hF b).2 (.inl ((h1 b).2 rfl)))
  refine .inr ⟨hbl, .slice o bs.length c, h2, ?_, ?_⟩
  · rw [bytes_flat hb, flat_length encY_len, Nat.mul_one]
    refine ⟨by rw [flat_length encY_len], ?_⟩
    rcases h3 with ⟨rfl, h5, rfl, h6, _⟩ | ⟨g, spare, rfl, h5, h6, h7, h8, h9, h10⟩
    · exact .inl ⟨by rw [h5], h5⟩
    · refine .inr ⟨g, c, _, rfl, hlow g ((hF g).2 (.inr ((hG g).2 (.inl ((h5 g).2 rfl))))), h10, h7, h8, by simpa using h9, ?_⟩
      have e : (flat encY bs).length = bs.length * 1 := by rw [flat_length encY_len]
      simp only
      rw [← e]
      exact List.take_left
  · rcases h3 with ⟨rfl, h5, rfl, h6, _⟩ | ⟨g, spare, rfl, h5, h6, h7, h8, h9, h10⟩
    · simp [Value.ownBlock]
    · intro he
      have : g = b := by simpa [Value.ownBlock] using he
      subst this
      exact hd g ((h1 g).2 rfl) ((hG g).2 (.inl ((h5 g).2 rfl)))
theorem bld0 {w0 w : World} {H : List It} {b : Nat} (h : HS w0 noM (cb b 256 [.pointer none, .slice none 0 0] :: H) w) : HS w0 noM (cb b 256 [.pointer none, .slice none ([] : List Nat).length 0] :: own 5 1 none ([] : List Nat).length 0 (flat encY []) :: H) w := (h.nil_own 5 1).perm (.swap _ _ _)
theorem rdB_at {w : World} {o : Option Addr} {xs : List Value} {j : Nat} {v : Value} (h : Rd w o xs) (hv : xs[j]? = some v) : w.cell? (sat o j) = some v := h.2 j v hv
theorem len92 (a b : UInt8) : (bts ⟨#[a, b]⟩).length = 2 := rfl
theorem kp_below {w0 w w' : World} (hk : Kp w0 noM w) (h : RowKit.Below w0.heap.size w w') : Kp w0 noM w' :=
  ⟨h.os.trans hk.os, h.tape.trans hk.tape, h.output.trans hk.output, Nat.le_trans hk.size h.size, fun b hb hn => (h.block b hb).trans (hk.block b hb hn)⟩
theorem String_spec {w0 w : World} {b c : Nat} {o : Option Addr} {bs : List Nat} (h : HS w0 noM [cb b 256 [.pointer (some (bat b 0)), .slice o bs.length c], own 5 1 o bs.length c (flat encY bs)] w) (hb : ∀ x ∈ bs, x < 256) (h0 : bs ≠ []) : Ret Tryz.prog 137 #[.pointer (some (bat b 0))] w (fun r w' => r = .string (ofB bs) ∧ Kp w0 noM w') :=
  Calls.mono (Tryz.Builder_String w0.heap.size b (bs.map UInt8.ofNat) w (bld_is h hb) (by simpa using h0)) fun e w' ⟨he, hw⟩ => ⟨_, he, rfl, kp_below h.kp hw⟩
set_option maxRecDepth 10000 attribute [local irreducible] Code.wp wpList Calls Ex Op1 sat bat blk cb own Go.Fw.mp Go.Fw.mpO Go.Fw.mpI Go.Fw.mpE Go.Fw.itr HS Rd Ret wkD Hp Cl Cls Exit.then Exit.inBlock Exit.noGoto bodyPost Go.Fw.flat wk2 Go.Fw.all Go.Fw.owns wpOp
attribute [local irreducible] sk mpK sko mvO entK opM Go.Fw.mset Go.Fw.mv opK w63 frz obI RV idxF

set_option maxHeartbeats 8000000 in
theorem Quote_spec (w0 : World) (s : ByteArray) (hs : s.size ≤ 100000000) :
    Ret Tryz.prog 123 #[.string s] w0 (fun r w => r = .string (quoteF s) ∧ Kp w0 noM w) := by
  have hH : HS w0 noM [] w0 := HS.init w0 noM
  (refine enter (N := 49) Tryz.func123 rfl Tryz.ntmps123 rfl ?_; intro a hA; dsimp only [sl0, Nat.reduceAdd] at hA)
  repeat' (first | (refine QT ?_; clear hA a; intro a hA) | (refine BT ?_; clear hA hH; rintro _ w ⟨bN, rfl, hH⟩ a hA) | (refine CT ?_ <;> repeat' refine CT ?_) | fail)
  obtain ⟨b, hb⟩ : ∃ x, x = bN := ⟨_, rfl⟩
  rw [← hb] at hA hH
  clear hb bN
  replace hH := bld0 hH
  (refine st_op hA rfl rfl (by decide) (op_call rfl rfl rfl (WriteByte_spec w0 w _ _ _ _ _ _ (34) (by first | exact .inr rfl | exact .inl rfl) (by (try simp only [List.length_append, List.length_cons, List.length_nil, len92]); omega) hH)) ?_; clear hA hH; rintro _ w ⟨oB, cB, hH⟩ a hA)
  rw [List.nil_append] at hH
  repeat' (first | (refine QT ?_; clear hA a; intro a hA) | (apply st_op hA rfl rfl (by decide); apply op_toBytes; rfl; exact hH; clear hA hH; rintro _ w ⟨bb, cc, rfl, hH⟩ a hA) | (refine CT ?_ <;> repeat' refine CT ?_) | fail)
  have hsl : (bts s).length = s.size := bts_len s
  have hq : ∀ i, i ≤ (bts s).length → (quoteL ((bts s).take i)).length ≤ 4 * i := by
    intro i
    induction i with
    | zero => intro _; show 0 ≤ _; omega
    | succ i ih =>
      intro hi
      have hx : (bts s)[i]? = some ((bts s).getD i 0) := bts_get (by omega)
      rw [take_snoc hx, quoteL_snoc, List.length_append]
      have := ih (by omega)
      have := quoteB_len ((bts s).getD i 0)
      omega
  refine wp_lpk (S := Nat) (fun i a w => ∃ o c bs, (i ≤ (bts s).length ∧ bs = [34] ++ quoteL ((bts s).take i)) ∧ HS w0 noM [cb b 256 [.pointer (some (bat b 0)), .slice o bs.length c], own 5 1 o bs.length c (flat encY bs), byI bb s] w ∧ Sl 49 [(10, .int .i64 i), (9, .int .i64 (bts s).length), (8, .slice (some (bat bb 0)) (bts s).length cc), (3, .pointer (some (bat b 0)))] a) (fun i => (bts s).length - i)
    (fun a w => ∃ o c bs, (bs = [34] ++ quoteL (bts s)) ∧ HS w0 noM [cb b 256 [.pointer (some (bat b 0)), .slice o bs.length c], own 5 1 o bs.length c (flat encY bs)] w ∧ Sl 49 [(3, .pointer (some (bat b 0)))] a) 0 ⟨oB, cB, [34], ⟨Nat.zero_le _, rfl⟩, hH.perm PMT, (hA.sub SBT)⟩ ?_ ?_
  · clear hA hH
    rintro i a w ⟨o, c, bs, ⟨hi, hbs⟩, hH, hA⟩
    have hbl : bs.length ≤ 1 + 4 * i := by
      rw [hbs, List.length_append]
      have := hq i hi
      show 1 + _ ≤ _
      omega
    by_cases hlt : i < (bts s).length
    rotate_left
    · repeat' (first | (refine QT ?_; clear hA a; intro a hA) | ((first | refine CT ?_ | (refine DT ?_ ?_ <;> intro hc <;> try (exfalso; omega))) <;> repeat' refine CT ?_) | fail)
      obtain rfl : i = (bts s).length := by omega
      rw [List.take_length] at hbs
      exact ⟨o, c, bs, hbs, hH.rm 2, (hA.sub SBT)⟩
    have hx : (bts s)[i]? = some ((bts s).getD i 0) := bts_get hlt
    have hx1 := bts_byte s i
    generalize (bts s).getD i 0 = x at hx hx1
    have hspB : Sp (some (bat bb 0)) (bts s).length := (by_rd hH (by exact MEMT)).sp (sz := 1) (flat_length encY_len _) (by omega)
    have hclb : Cl (HS w0 noM [cb b 256 [.pointer (some (bat b 0)), .slice o bs.length c], own 5 1 o bs.length c (flat encY bs), byI bb s]) (sat (some (bat bb 0)) (i * 1)) (.int .u8 (x : Int)) := cl_of fun w h => rdB_at (by_rd h (by exact MEMT)) (flat_get0 encY_len hx rfl)
    repeat' (first | (refine GT ?_ ?_ <;> intro hg <;> clear hA a <;> intro a hA <;> (first | exact FA | replace hg := of_decide_eq_true hg | replace hg := of_decide_eq_false hg | skip)) | (refine XT ?_; apply XE; (first | (apply ex_indexAddr_nat; rfl; rfl; omega; exact hspB) | (apply ex_load; rfl; exact hclb) | (apply ex_shr; rfl; rfl; decide; exact shr4 x hx1) | (apply ex_and; rfl; rfl; exact and15 x hx1) | (apply ex_index_string (j := x / 16); rfl; rfl; rfl; exact hex_get (by omega)) | (apply ex_index_string (j := x % 16); rfl; rfl; rfl; exact hex_get (by omega))); clear hA a; intro a hA) | (refine QT ?_; clear hA a; intro a hA) | (refine st_op hA rfl rfl (by decide) (op_call rfl rfl rfl (WriteByte_spec w0 w _ _ _ _ _ _ (_) (by first | exact .inr rfl | exact .inl rfl) (by (try simp only [List.length_append, List.length_cons, List.length_nil, len92]); omega) hH)) ?_; clear hA hH; rintro _ w ⟨oB, cB, hH⟩ a hA) | (refine st_op hA rfl rfl (by decide) (op_call rfl rfl rfl (WriteString_spec w0 w _ _ _ _ _ _ _ (by first | exact .inr rfl | exact .inl rfl) (by (try simp only [List.length_append, List.length_cons, List.length_nil, len92]); omega) (by decide) (by decide) hH)) ?_; clear hA hH; rintro _ w ⟨oB, cB, hH⟩ a hA) | ((first | refine CT ?_ | (refine DT ?_ ?_ <;> intro hc <;> try (exfalso; omega))) <;> repeat' refine CT ?_) | fail)
    all_goals refine ⟨i + 1, ⟨_, _, _, ⟨hlt, ?_⟩, hH, (hA.sub SBT)⟩, by omega⟩
    all_goals rw [hbs, take_snoc hx, quoteL_snoc]
    all_goals first
      | (rw [q1 (by omega)]; simp only [List.append_assoc]; done)
      | (rw [q2 (by omega)]; simp only [List.append_assoc]; done)
      | (rw [q3 (by omega)]; simp only [List.append_assoc]; done)
      | (rw [q4 (by omega)]; simp only [List.append_assoc]; done)
  clear hA hH
  rintro a w ⟨o, c, bs, hbs, hH, hA⟩
  have hbl : bs.length ≤ 1 + 4 * (bts s).length := by
    rw [hbs, List.length_append]
    have := hq (bts s).length (Nat.le_refl _)
    rw [List.take_length] at this
    show 1 + _ ≤ _
    omega
  repeat' (first | (refine QT ?_; clear hA a; intro a hA) | (refine st_op hA rfl rfl (by decide) (op_call rfl rfl rfl (WriteByte_spec w0 w _ _ _ _ _ _ (34) (by first | exact .inr rfl | exact .inl rfl) (by (try simp only [List.length_append, List.length_cons, List.length_nil, len92]); omega) hH)) ?_; clear hA hH; rintro _ w ⟨oB, cB, hH⟩ a hA) | (refine CT ?_ <;> repeat' refine CT ?_) | fail)
  have hlt : ∀ x ∈ bs ++ [34], x < 256 := by
    rw [hbs]
    intro x hx
    simp only [List.mem_append, List.mem_singleton, quoteL, List.mem_flatMap] at hx
    rcases hx with (hx | ⟨y, hy, hx⟩) | hx
    · omega
    · exact quoteB_lt (bts_lt s y hy) x hx
    · omega
  (refine st_op hA rfl rfl (by decide) (op_call rfl rfl rfl (String_spec hH hlt (by simp))) ?_; clear hA hH; rintro _ w ⟨rfl, hk⟩ a hA)
  have hH : HS w0 noM [] w := (HS.init w0 noM).keep hk
  repeat' (first | (refine QT ?_; clear hA a; intro a hA) | (refine CT ?_ <;> repeat' refine CT ?_) | fail)
  exact rt1 (.inl rfl) rfl hA rfl ⟨by rw [hbs]; rfl, hk⟩
end Go.Proofs.YtenlcdokaadobaaGreatDoor
namespace Go.Proofs.YtenlcdokaadobaaGreatDoor
open Go Go.Fw
set_option linter.unusedVariables false
def itoaB (n : Int) : ByteArray := ⟨(Lib.itoa n).toArray⟩
def FI (w0 : World) : Prop := ∀ w, Kp w0 noM w → ∀ n, iok n → Ret Tryz.prog 134 #[.int .i64 n, .int .i64 10] w (fun r w' => r = .string (itoaB n) ∧ Kp w noM w')
theorem FI.keep {w w' : World} (h : FI w) (hk : Kp w noM w') : FI w' := fun w2 h2 => h w2 (((HS.init w noM).keep hk).keep h2).kp
def textN (g : Grs) (kd n : Int) : Option ByteArray :=
  if kd = 3 then some (if n = 0 then ⟨#[102, 97, 108, 115, 101]⟩ else ⟨#[116, 114, 117, 101]⟩)
  else if kd = 5 then some ⟨#[40, 41]⟩
  else if kd = 6 then (if n < 0 ∨ (g.xs.l.length : Int) ≤ n then none else some (g.xs.l.getD n.toNat default))
  else some (itoaB n)
def textF (g : Grs) (kd : Int) : Vl → Option ByteArray
  | .num n => textN g kd n
  | .txt s => some (quoteF s)
  | .fn _ _ => some ⟨#[60, 102, 117, 110, 62]⟩
  | .rc _ _ => some ⟨#[60, 114, 101, 99, 111, 114, 100, 62]⟩
  | .tg _ _ => some ⟨#[60, 116, 97, 103, 62]⟩
  | .cl _ => some ⟨#[60, 114, 101, 102, 62]⟩
  | .ar _ => some ⟨#[60, 97, 114, 114, 97, 121, 62]⟩
  | .nil => some ⟨#[60, 97, 114, 114, 97, 121, 62]⟩
def txV : Option ByteArray → Value
  | some s => .tuple #[.string s, .bool true]
  | none => .tuple #[.string empS, .bool false]
theorem tx_b1 {g : Grs} {kd n : Int} (h : kd = 3) (hn : n ≠ 0) : textF g kd (.num n) = some ⟨#[116, 114, 117, 101]⟩ := by show textN g kd n = _; unfold textN; rw [if_pos h, if_neg hn]
theorem tx_b0 {g : Grs} {kd n : Int} (h : kd = 3) (hn : n = 0) : textF g kd (.num n) = some ⟨#[102, 97, 108, 115, 101]⟩ := by show textN g kd n = _; unfold textN; rw [if_pos h, if_pos hn]
theorem tx_u {g : Grs} {kd n : Int} (h : kd = 5) : textF g kd (.num n) = some ⟨#[40, 41]⟩ := by show textN g kd n = _; unfold textN; rw [if_neg (by omega), if_pos h]
theorem tx_x0 {g : Grs} {kd n : Int} (h : kd = 6) (hn : n < 0 ∨ (g.xs.l.length : Int) ≤ n) : textF g kd (.num n) = none := by show textN g kd n = _; unfold textN; rw [if_neg (by omega), if_neg (by omega), if_pos h, if_pos hn]
theorem tx_x1 {g : Grs} {kd n : Int} (h : kd = 6) (hn : ¬ (n < 0 ∨ (g.xs.l.length : Int) ≤ n)) : textF g kd (.num n) = some (g.xs.l.getD n.toNat default) := by show textN g kd n = _; unfold textN; rw [if_neg (by omega), if_neg (by omega), if_pos h, if_neg hn]
theorem tx_n {g : Grs} {kd n : Int} (h : kd ≠ 3 ∧ kd ≠ 5 ∧ kd ≠ 6) : textF g kd (.num n) = some (itoaB n) := by show textN g kd n = _; unfold textN; rw [if_neg h.1, if_neg h.2.1, if_neg h.2.2]
set_option maxRecDepth 10000 attribute [local irreducible] Code.wp wpList Calls Ex Op1 sat bat blk cb own Go.Fw.mp Go.Fw.mpO Go.Fw.mpI Go.Fw.mpE Go.Fw.itr HS Rd Ret wkD Hp Cl Cls Exit.then Exit.inBlock Exit.noGoto bodyPost Go.Fw.flat wk2 Go.Fw.all Go.Fw.owns wpOp
attribute [local irreducible] sk mpK sko mvO entK opM Go.Fw.mset Go.Fw.mv opK w63 frz obI RV idxF quoteF itoaB

set_option maxHeartbeats 4000000 in
theorem word_Text_spec (w0 : World) (n : Int) (hn : iok n) (hFI : FI w0) : Ret Tryz.prog 122 #[.int .i64 n] w0 (fun r w => r = .string (itoaB n) ∧ Kp w0 noM w) := by
  have hH : HS w0 noM [] w0 := HS.init w0 noM
  (refine enter (N := 5) Tryz.func122 rfl Tryz.ntmps122 rfl ?_; intro a hA; dsimp only [sl0, Nat.reduceAdd] at hA)
  repeat' (first | (refine QT ?_; clear hA a; intro a hA) | (refine CT ?_ <;> repeat' refine CT ?_) | fail)
  (refine st_op hA rfl rfl (by decide) (op_call rfl rfl rfl (hFI _ hH.kp n hn)) ?_; clear hA; rintro _ w ⟨rfl, hk⟩ a hA; replace hH := hH.keep hk; clear hk)
  repeat' (first | (refine QT ?_; clear hA a; intro a hA) | (refine CT ?_ <;> repeat' refine CT ?_) | fail)
  exact rt1 (.inl rfl) rfl hA rfl ⟨rfl, hH.kp⟩
set_option maxHeartbeats 8000000 in
theorem Text_spec (w0 w : World) (H : List It) (c : Cx) (TM bM : Nat) (g : Grs) (kd : Int) (s : ByteArray) (rest : List Value) (oO : Option Addr) (nO cO : Nat) (x : Vl) (v : Value) (hH : HS w0 noM (cb bM TM (encW g kd s oO nO cO ++ rest) :: H) w) (hx : RV c x v) (hxs : RdV w0 encX g.xs) (hFI : FI w0) :
    Ret Tryz.prog 97 #[.pointer (some (bat bM 0)), v] w (fun r w' => r = txV (textF g kd x) ∧ HS w0 noM (cb bM TM (encW g kd s oO nO cO ++ rest) :: H) w') := by
  have hle := hxs.le
  have hsp : Sp g.xs.o g.xs.l.length := hxs.1.sp (sz := 1) (flat_length encX_len _) (by omega)
  (refine enter (N := 65) Tryz.func97 rfl Tryz.ntmps97 rfl ?_; intro a hA; dsimp only [sl0, Nat.reduceAdd] at hA)
  cases x <;> rw [RV] at hx
  · subst hx
    repeat' (first | (refine XT ?_; apply XE; (first | (apply ex_assertY; rfl) | (apply ex_assertN; rfl; rfl) | (apply ex_assert0; rfl)); clear hA a; intro a hA) | (refine QT ?_; clear hA a; intro a hA) | (refine CT ?_ <;> repeat' refine CT ?_) | fail)
    exact rt2 (.inl rfl) rfl hA rfl rfl ⟨rfl, hH⟩
  · obtain ⟨rfl, hn⟩ := hx
    repeat' (first | (refine GT ?_ ?_ <;> intro hg <;> clear hA a <;> intro a hA <;> (first | exact FA | replace hg := of_decide_eq_true hg | replace hg := of_decide_eq_false hg | skip)) | (refine XT ?_; apply XE; (first | (apply ex_assertY; rfl) | (apply ex_assertN; rfl; rfl) | (apply ex_assert0; rfl) | (apply ex_indexAddr; rfl; rfl; omega; omega; exact hsp) | (apply ex_load; rfl; refine cl_rd hxs.1 id (strs_at ?_); omega)); clear hA a; intro a hA) | (refine QT ?_; clear hA a; intro a hA) | ((first | refine CT ?_ | (refine DT ?_ ?_ <;> intro hc <;> try (exfalso; omega))) <;> repeat' refine CT ?_) | fail)
    all_goals first
      | exact rt2 (.inl rfl) rfl hA rfl rfl ⟨by rw [tx_b1 (by omega) (by omega)]; rfl, hH⟩
      | exact rt2 (.inl rfl) rfl hA rfl rfl ⟨by rw [tx_b0 (by omega) (by omega)]; rfl, hH⟩
      | exact rt2 (.inl rfl) rfl hA rfl rfl ⟨by rw [tx_u (by omega)]; rfl, hH⟩
      | exact rt2 (.inl rfl) rfl hA rfl rfl ⟨by rw [tx_x0 (by omega) (by omega)]; rfl, hH⟩
      | exact rt2 (.inl rfl) rfl hA rfl rfl ⟨by rw [tx_x1 (by omega) (by omega)]; rfl, hH⟩
      | skip
    (refine st_op hA rfl rfl (by decide) (op_call rfl rfl rfl (word_Text_spec w _ hn (hFI.keep hH.kp))) ?_; clear hA; rintro _ w ⟨rfl, hk⟩ a hA; replace hH := hH.keep hk; clear hk)
    repeat' (first | (refine QT ?_; clear hA a; intro a hA) | (refine CT ?_ <;> repeat' refine CT ?_) | fail)
    exact rt2 (.inl rfl) rfl hA rfl rfl ⟨by rw [tx_n ⟨by omega, by omega, by omega⟩]; rfl, hH⟩
  · obtain ⟨rfl, hs⟩ := hx
    repeat' (first | (refine XT ?_; apply XE; (first | (apply ex_assertY; rfl) | (apply ex_assertN; rfl; rfl) | (apply ex_assert0; rfl)); clear hA a; intro a hA) | (refine QT ?_; clear hA a; intro a hA) | (refine CT ?_ <;> repeat' refine CT ?_) | fail)
    (refine st_op hA rfl rfl (by decide) (op_call rfl rfl rfl (Quote_spec w _ (by omega))) ?_; clear hA; rintro _ w ⟨rfl, hk⟩ a hA; replace hH := hH.keep hk; clear hk)
    repeat' (first | (refine QT ?_; clear hA a; intro a hA) | (refine CT ?_ <;> repeat' refine CT ?_) | fail)
    exact rt2 (.inl rfl) rfl hA rfl rfl ⟨rfl, hH⟩
  · obtain ⟨p, o, k, vs, rfl, _⟩ := hx
    unfold ptrV at hA
    repeat' (first | (refine XT ?_; apply XE; (first | (apply ex_assertY; rfl) | (apply ex_assertN; rfl; rfl) | (apply ex_assert0; rfl)); clear hA a; intro a hA) | (refine QT ?_; clear hA a; intro a hA) | (refine CT ?_ <;> repeat' refine CT ?_) | fail)
    exact rt2 (.inl rfl) rfl hA rfl rfl ⟨rfl, hH⟩
  · obtain ⟨p, on, cn, ol, cl, vs, rfl, _⟩ := hx
    unfold ptrV at hA
    repeat' (first | (refine XT ?_; apply XE; (first | (apply ex_assertY; rfl) | (apply ex_assertN; rfl; rfl) | (apply ex_assert0; rfl)); clear hA a; intro a hA) | (refine QT ?_; clear hA a; intro a hA) | (refine CT ?_ <;> repeat' refine CT ?_) | fail)
    exact rt2 (.inl rfl) rfl hA rfl rfl ⟨rfl, hH⟩
  · obtain ⟨p, u, rfl, _⟩ := hx
    unfold ptrV at hA
    repeat' (first | (refine XT ?_; apply XE; (first | (apply ex_assertY; rfl) | (apply ex_assertN; rfl; rfl) | (apply ex_assert0; rfl)); clear hA a; intro a hA) | (refine QT ?_; clear hA a; intro a hA) | (refine CT ?_ <;> repeat' refine CT ?_) | fail)
    exact rt2 (.inl rfl) rfl hA rfl rfl ⟨rfl, hH⟩
  · obtain ⟨p, rfl, _⟩ := hx
    unfold ptrV at hA
    repeat' (first | (refine XT ?_; apply XE; (first | (apply ex_assertY; rfl) | (apply ex_assertN; rfl; rfl) | (apply ex_assert0; rfl)); clear hA a; intro a hA) | (refine QT ?_; clear hA a; intro a hA) | (refine CT ?_ <;> repeat' refine CT ?_) | fail)
    exact rt2 (.inl rfl) rfl hA rfl rfl ⟨rfl, hH⟩
  · obtain ⟨p, rfl, _⟩ := hx
    unfold ptrV at hA
    repeat' (first | (refine XT ?_; apply XE; (first | (apply ex_assertY; rfl) | (apply ex_assertN; rfl; rfl) | (apply ex_assert0; rfl)); clear hA a; intro a hA) | (refine QT ?_; clear hA a; intro a hA) | (refine CT ?_ <;> repeat' refine CT ?_) | fail)
    exact rt2 (.inl rfl) rfl hA rfl rfl ⟨rfl, hH⟩
end Go.Proofs.YtenlcdokaadobaaGreatDoor
namespace Go.Proofs.YtenlcdokaadobaaGreatDoor
open Go Go.Fw
set_option linter.unusedVariables false
def atm0 : Atm := ⟨0, 0⟩
def edg0 : Edg := ⟨0, nilV⟩
def isNil : Vl → Bool
  | .nil => true
  | _ => false
def insAt (g : Grs) (f : Fm) : Ins := (curB g f).is.l.getD f.i ins0
def backF (g : Grs) (kd : Int) (x : Vl) (wd : Wd) : List Fm → Sr
  | [] => match textF g kd x with
    | some s => .stop 1 s wd
    | none => stuckF wd
  | f :: r => .go ⟨wd, r, { f with vs := pset f.vs (insAt g f).x x, i := f.i + 1 }⟩
def setsF : List (Int × Vl) → List Int → List Vl → List (Int × Vl)
  | m, p :: ps, v :: vs => setsF (pset m p v) ps vs
  | m, _, _ => m
def followF (g : Grs) (fm : Fm) (e : Edg) : Fm := { fm with vs := setsF fm.vs (blkOf g fm.c.1 e.b.toNat).ps.l (allF g fm e.a.l), b := e.b.toNat, i := 0 }
def callF (f x : Vl) (h : Option Clo) (wd : Wd) (sk : List Fm) (fm : Fm) : Sr :=
  match asFn f with
  | some c => .go ⟨wd, { fm with h := h } :: sk, newF c x⟩
  | none => stuckF wd
def insF (g : Grs) (fm : Fm) (i : Ins) (wd : Wd) (sk : List Fm) : Sr :=
  if i.r.k = 3 then callF (nth0 (allF g fm i.r.a.l) 0) (nth0 (allF g fm i.r.a.l) 1) none wd sk fm
  else if i.r.k = 14 then
    match asFn (nth0 (allF g fm i.r.a.l) 0) with
    | some c => if c.1 = i.r.n then callF (nth0 (allF g fm i.r.a.l) 0) (nth0 (allF g fm i.r.a.l) 1) none wd sk fm else stuckF wd
    | none => stuckF wd
  else if i.r.k = 13 then
    match asFn (nth0 (allF g fm i.r.a.l) 1) with
    | some h => callF (nth0 (allF g fm i.r.a.l) 0) (.num 0) (some h) wd sk fm
    | none => stuckF wd
  else match plainF i.r (allF g fm i.r.a.l) fm.c.2 wd with
    | .exn s => raiseF g (idxF g.xs.l s) wd sk
    | .val v wd' => if isNil v then stuckF wd' else .go ⟨wd', sk, { fm with vs := pset fm.vs i.x v, i := fm.i + 1 }⟩
def lastF (g : Grs) (kd : Int) (fm : Fm) (e : En) (wd : Wd) (sk : List Fm) : Sr :=
  if e.k = 1 then backF g kd (getF g fm (e.a.l.getD 0 atm0)) wd sk
  else if e.k = 2 then enterF (getF g fm (e.a.l.getD 0 atm0)) (getF g fm (e.a.l.getD 1 atm0)) wd sk
  else if e.k = 4 then .go ⟨wd, sk, followF g fm (e.to.l.getD 0 edg0)⟩
  else match asNum (getF g fm (e.a.l.getD 0 atm0)) with
    | none => stuckF wd
    | some n =>
      if e.k = 3 then raiseF g n wd sk
      else if e.k = 5 then .go ⟨wd, sk, followF g fm (e.to.l.getD (if n = 0 then 1 else 0) edg0)⟩
      else .go ⟨wd, sk, followF g fm (e.to.l.getD (if bsB e.ns.l n then bsI e.ns.l n else e.ns.l.length) edg0)⟩
def stepF (g : Grs) (kd : Int) (m : Mc) : Sr :=
  if m.fm.i < (curB g m.fm).is.l.length then insF g m.fm (insAt g m.fm) m.wd m.sk else lastF g kd m.fm (curB g m.fm).e m.wd m.sk
def runF (g : Grs) (kd : Int) : Nat → Mc → Int × ByteArray × Wd
  | 0, m => (2, empS, m.wd)
  | n + 1, m => match stepF g kd m with
    | .go m' => runF g kd n m'
    | .stop k r wd => (k, r, wd)
def firstM (s : ByteArray) : Mc := ⟨⟨s, [], []⟩, [], newF (0, []) (.num 0)⟩
def MSt (w0 : World) (c : Cx) (bM : Nat) (g : Grs) (kd fuel : Int) (H : List It) (m : Mc) (w : World) : Prop :=
  ∃ oO cO oS cS pc bv mm fms sx ph,
    HS w0 noM (cb bM 86 (encW g kd m.wd.inp oO m.wd.out.length cO ++ encR g fuel oS fms.length cS pc bv (blkA g m.fm.c.1 m.fm.b) m.fm.i ph none) :: own 5 1 oO m.wd.out.length cO (flat encY m.wd.out) :: frz w0 c.K :: all (sx.map obI) :: own 83 5 oS fms.length cS (flat encFm fms) :: all (fms.map mpF) :: mp bv mm :: H) w ∧
    FnR c m.fm.c.1 m.fm.c.2 pc ∧ MapR c m.fm.vs mm ∧ FsR g c m.sk fms ∧ StR c sx m.wd.st
def MEnd (w0 : World) (bM : Nat) (g : Grs) (kd fuel : Int) (H : List It) (k : Int) (r : ByteArray) (wd : Wd) (w : World) : Prop :=
  ∃ oO cO oS nS cS pc bv pb pi ph b,
    HS w0 noM (cb bM 86 (encW g kd wd.inp oO wd.out.length cO ++ encR g fuel oS nS cS pc bv pb pi ph (some (bat b 0))) :: own 5 1 oO wd.out.length cO (flat encY wd.out) :: cb b 29 (encO3 k empS r) :: H) w
def SrW (w0 : World) (c : Cx) (bM : Nat) (g : Grs) (kd fuel : Int) (H : List It) (r : Sr) (w : World) : Prop :=
  match r with
  | .go m => ∃ d, (c.le d ∧ d.bd ≤ c.bd + 1) ∧ MSt w0 d bM g kd fuel H m w
  | .stop k s wd => MEnd w0 bM g kd fuel H k s wd w
theorem SrW.go {w0 w : World} {c d : Cx} {bM : Nat} {g : Grs} {kd fuel : Int} {H : List It} {r : Sr} {m : Mc} (hr : r = .go m) (hle : c.le d) (hb : d.bd ≤ c.bd + 1) (h : MSt w0 d bM g kd fuel H m w) : SrW w0 c bM g kd fuel H r w := by rw [hr]; exact ⟨d, ⟨hle, hb⟩, h⟩
theorem SrW.stop {w0 w : World} {c : Cx} {bM : Nat} {g : Grs} {kd fuel : Int} {H : List It} {r : Sr} {k : Int} {s : ByteArray} {wd : Wd} (hr : r = .stop k s wd) (h : MEnd w0 bM g kd fuel H k s wd w) : SrW w0 c bM g kd fuel H r w := by rw [hr]; exact h
structure FmOk (g : Grs) (f : Fm) : Prop where
  f0 : 0 ≤ f.c.1
  f1 : f.c.1 < g.fs.l.length
  b : f.b < (g.fs.l.getD f.c.1.toNat gr0).bs.l.length
structure McOk (g : Grs) (m : Mc) : Prop where
  fm : FmOk g m.fm
  i : m.fm.i ≤ (curB g m.fm).is.l.length
  sk : ∀ f ∈ m.sk, FmOk g f ∧ f.i < (curB g f).is.l.length
set_option maxRecDepth 10000 attribute [local irreducible] Code.wp wpList Calls Ex Op1 sat bat blk cb own Go.Fw.mp Go.Fw.mpO Go.Fw.mpI Go.Fw.mpE Go.Fw.itr HS Rd Ret wkD Hp Cl Cls Exit.then Exit.inBlock Exit.noGoto bodyPost Go.Fw.flat wk2 Go.Fw.all Go.Fw.owns wpOp
attribute [local irreducible] sk mpK sko mvO entK opM Go.Fw.mset Go.Fw.mv opK w63 frz obI RV idxF quoteF itoaB textF

set_option maxHeartbeats 8000000 in
theorem back0_spec (w0 w : World) (H : List It) (c : Cx) (bM : Nat) (g : Grs) (kd : Int) (s : ByteArray) (oO oS : Option Addr) (nO cO cS pc bv : Nat) (fuel pi : Int) (pb ph pe : Option Addr) (x : Vl) (u : Value) (hH : HS w0 noM (cb bM 86 (encW g kd s oO nO cO ++ encR g fuel oS 0 cS pc bv pb pi ph pe) :: H) w)
    (hu : RV c x u) (hxs : RdV w0 encX g.xs) (hFI : FI w0) :
    Ret Tryz.prog 53 #[.pointer (some (bat bM 0)), u] w (fun r w' => ∃ k res b, (∀ wd, backF g kd x wd [] = .stop k res wd) ∧
      HS w0 noM (cb bM 86 (encW g kd s oO nO cO ++ encR g fuel oS 0 cS pc bv pb pi ph (some (bat b 0))) :: cb b 29 (encO3 k empS res) :: H) w') := by
  (refine enter (N := 87) Tryz.func53 rfl Tryz.ntmps53 rfl ?_; intro a hA; dsimp only [sl0, Nat.reduceAdd] at hA)
  repeat' (first | (refine QT ?_; clear hA a; intro a hA) | (refine CT ?_ <;> repeat' refine CT ?_) | fail)
  (refine st_op hA rfl rfl (by decide) (op_call rfl rfl rfl (Text_spec w0 w _ c 86 bM g kd s _ oO nO cO x u hH hu hxs hFI)) ?_; clear hA hH; rintro _ w ⟨rfl, hH⟩ a hA)
  cases ht : textF g kd x with
  | none =>
    rw [ht] at hA
    unfold txV at hA
    repeat' (first | (refine QT ?_; clear hA a; intro a hA) | (refine st_op hA rfl rfl (by decide) (op_call rfl rfl rfl (stop_spec w0 _ _ bM g kd s oO oS nO cO 0 cS pc bv fuel pi pb ph pe 4 empS hH)) ?_; clear hA hH; rintro _ w ⟨b, hH⟩ a hA) | (refine CT ?_ <;> repeat' refine CT ?_) | fail)
    exact rt0 (.inl rfl) rfl hA ⟨4, empS, b, fun wd => by unfold backF; rw [ht]; rfl, hH⟩
  | some t =>
    rw [ht] at hA
    unfold txV at hA
    repeat' (first | (refine QT ?_; clear hA a; intro a hA) | (refine st_op hA rfl rfl (by decide) (op_call rfl rfl rfl (stop_spec w0 _ _ bM g kd s oO oS nO cO 0 cS pc bv fuel pi pb ph pe 1 t hH)) ?_; clear hA hH; rintro _ w ⟨b, hH⟩ a hA) | (refine CT ?_ <;> repeat' refine CT ?_) | fail)
    exact rt0 (.inl rfl) rfl hA ⟨1, t, b, fun wd => by unfold backF; rw [ht], hH⟩
end Go.Proofs.YtenlcdokaadobaaGreatDoor
namespace Go.Proofs.YtenlcdokaadobaaGreatDoor
open Go Go.Fw
set_option linter.unusedVariables false
theorem setsF_next : ∀ {m : List (Int × Vl)} {ps : List Int} {vs : List Vl} {i : Nat} {p : Int} {v : Vl}, ps[i]? = some p → vs[i]? = some v → setsF m (ps.take (i + 1)) (vs.take (i + 1)) = pset (setsF m (ps.take i) (vs.take i)) p v
  | m, [], vs, i, p, v, h, h' => by simp at h
  | m, q :: ps, [], i, p, v, h, h' => by simp at h'
  | m, q :: ps, u :: vs, 0, p, v, h, h' => by
    obtain rfl : q = p := by simpa using h
    obtain rfl : u = v := by simpa using h'
    simp [setsF]
  | m, q :: ps, u :: vs, i + 1, p, v, h, h' => by
    rw [List.take_succ_cons, List.take_succ_cons, List.take_succ_cons, List.take_succ_cons, setsF, setsF]
    exact setsF_next (by simpa using h) (by simpa using h')
theorem bs_ps {l : List Blc} {b : Nat} (h : b < l.length) : (flat encBl l)[b * 6 + 0]? = some (.slice (l.getD b blc0).ps.o (l.getD b blc0).ps.l.length (l.getD b blc0).ps.c) := by
  refine flat_get (off := 0) encBl_len (List.getElem?_eq_getElem h) ?_
  rw [List.getD_eq_getElem?_getD, List.getElem?_eq_getElem h]
  rfl
set_option maxRecDepth 10000 attribute [local irreducible] Code.wp wpList Calls Ex Op1 sat bat blk cb own Go.Fw.mp Go.Fw.mpO Go.Fw.mpI Go.Fw.mpE Go.Fw.itr HS Rd Ret wkD Hp Cl Cls Exit.then Exit.inBlock Exit.noGoto bodyPost Go.Fw.flat wk2 Go.Fw.all Go.Fw.owns wpOp
attribute [local irreducible] sk mpK sko mvO entK opM Go.Fw.mset Go.Fw.mv opK w63 frz obI RV idxF quoteF itoaB textF

set_option maxHeartbeats 16000000 in
theorem follow_spec (w0 w : World) (H : List It) (c : Cx) (bM : Nat) (g : Grs) (kd : Int) (s : ByteArray) (oO oS : Option Addr) (nO cO nS cS pc bv : Nat) (fuel pi : Int) (pb ph pe : Option Addr) (fm : Fm) (m : List (Int × Value)) (e : Edg)
    (hH : HS w0 noM (cb bM 86 (encW g kd s oO nO cO ++ encR g fuel oS nS cS pc bv pb pi ph pe) :: mp bv m :: frz w0 c.K :: H) w) (hM : MapR c fm.vs m) (hcf : FnR c fm.c.1 fm.c.2 pc) (ha : ∀ a ∈ e.a.l, atW g a) (hR : RdGs w0 g) (hsz : ∀ s ∈ g.ss.l, s.size ≤ 4096) (hRe : RdV w0 encAt e.a) (hl : e.a.l.length ≤ 1048576)
    (hnf : c.nf = g.fs.l.length) (hb0 : 0 ≤ e.b) (hb1 : e.b < (g.fs.l.getD fm.c.1.toNat gr0).bs.l.length) (hpl : e.a.l.length = (blkOf g fm.c.1 e.b.toNat).ps.l.length) :
    Ret Tryz.prog 55 #[.pointer (some (bat bM 0)), .agg (encEd e).toArray] w (fun r w' => ∃ m', MapR c (followF g fm e).vs m' ∧
      HS w0 noM (cb bM 86 (encW g kd s oO nO cO ++ encR g fuel oS nS cS pc bv (blkA g fm.c.1 e.b.toNat) 0 ph pe) :: mp bv m' :: frz w0 c.K :: H) w') := by
  obtain ⟨oc, kc, vsc, hfr, hp, hr2, hvs⟩ := id hcf
  have hfl : fm.c.1.toNat < g.fs.l.length := by omega
  have hgm : g.fs.l.getD fm.c.1.toNat gr0 ∈ g.fs.l := getD_mem hfl
  have hspF : Sp g.fs.o g.fs.l.length := hR.1.1.sp (sz := 2) (flat_length encG_len _) (by omega)
  have hspB : Sp (g.fs.l.getD fm.c.1.toNat gr0).bs.o (g.fs.l.getD fm.c.1.toNat gr0).bs.l.length := (hR.2.1 _ hgm).1.1.sp (sz := 6) (flat_length encBl_len _) (by omega)
  have hbl : e.b.toNat < (g.fs.l.getD fm.c.1.toNat gr0).bs.l.length := by omega
  have hbR := (hR.2.1 _ hgm).2 _ (getD_mem (d := blc0) hbl)
  have hbm : (g.fs.l.getD fm.c.1.toNat gr0).bs.l.getD e.b.toNat blc0 = blkOf g fm.c.1 e.b.toNat := rfl
  rw [hbm] at hbR
  have hpR := hbR.1
  have hple := hpR.le
  have hspP : Sp (blkOf g fm.c.1 e.b.toNat).ps.o (blkOf g fm.c.1 e.b.toNat).ps.l.length := hpR.1.sp (sz := 1) (flat_length encI_len _) (by omega)
  have hvP := bs_ps hbl
  rw [hbm] at hvP
  (refine enter (N := 61) Tryz.func55 rfl Tryz.ntmps55 rfl ?_; intro a hA; dsimp only [sl0, Nat.reduceAdd] at hA)
  repeat' (first | (refine QT ?_; clear hA a; intro a hA) | (refine BT ?_; clear hA hH; rintro _ w ⟨bN, rfl, hH⟩ a hA) | (refine CT ?_ <;> repeat' refine CT ?_) | fail)
  obtain ⟨b3, hb3⟩ : ∃ x, x = bN := ⟨_, rfl⟩
  rw [← hb3] at hA hH
  clear hb3 bN
  (refine st_op hA rfl rfl (by decide) (op_call rfl rfl rfl (all_spec w0 w (frz w0 c.K :: cb b3 61 (encEd e) :: H) c bM g kd s oO oS nO cO nS cS pc bv fuel pi pb ph pe fm m e.a (hH.perm PMT) hM ha hR.2.2.2.2.2 hsz hRe hl)) ?_; clear hA hH; rintro _ w ⟨oL, cL, vs, rfl, hV, hH⟩ a hA)
  have hvl := hV.len
  rw [show (allF g fm e.a.l).length = e.a.l.length by unfold allF; rw [List.length_map]] at hvl
  have hspL := hH.own_sp (T := 137) (o := oL) (by exact MEMT)
  repeat' (first | (refine QT ?_; clear hA a; intro a hA) | (refine CT ?_ <;> repeat' refine CT ?_) | fail)
  (refine wp_draw_HS [(0, 1), (1, 1), (2, 1), (3, 1), (4, 1), (5, 1), (6, 1), (7, 1), (8, 1), (9, 1), (10, 1), (11, 1), (12, 1), (13, 1), (14, 1), (15, 1), (16, 1), (17, 1), (18, 1), (19, 1)] mixed (by decide +kernel) hH ?_; replace hH := hH.drew)
  repeat' (first | (refine XT ?_; apply XE; (first | (apply ex_load; rfl; exact cl_frzB MEMT hp rfl) | (apply ex_indexAddr; rfl; rfl; omega; omega; first | exact hspF | exact hspB) | (apply ex_load; rfl; refine cl_rd hR.1.1 id (fs_at ?_); omega) | (apply ex_load; rfl; exact cl_rd (hR.2.1 _ hgm).1.1 id hvP)); clear hA a; intro a hA) | (refine QT ?_; clear hA a; intro a hA) | (refine CT ?_ <;> repeat' refine CT ?_) | fail)
  obtain ⟨ps, hps⟩ : ∃ ps, ps = (blkOf g fm.c.1 e.b.toNat).ps := ⟨_, rfl⟩
  rw [← hps] at hA hpR hple hspP hpl
  have hal : (allF g fm e.a.l).length = ps.l.length := by unfold allF; rw [List.length_map]; exact hpl
  refine wp_lpk (S := Nat) (fun i a w => ∃ m', (i ≤ ps.l.length ∧ MapR c (setsF fm.vs (ps.l.take i) ((allF g fm e.a.l).take i)) m') ∧ HS w0 noM (cb bM 86 (encW g kd s oO nO cO ++ encR g fuel oS nS cS pc bv pb pi ph pe) :: mp bv m' :: own 137 1 oL vs.length cL vs :: frz w0 c.K :: H) w ∧ Sl 61 [(36, .int .i64 i), (35, .int .i64 ps.l.length), (34, .slice ps.o ps.l.length ps.c), (4, .slice oL vs.length cL), (5, .pointer (blkA g fm.c.1 e.b.toNat)), (0, .pointer (some (bat bM 0)))] a) (fun i => ps.l.length - i)
    (fun a w => ∃ m', MapR c (followF g fm e).vs m' ∧ HS w0 noM (cb bM 86 (encW g kd s oO nO cO ++ encR g fuel oS nS cS pc bv pb pi ph pe) :: mp bv m' :: frz w0 c.K :: H) w ∧ Sl 61 [(5, .pointer (blkA g fm.c.1 e.b.toNat)), (0, .pointer (some (bat bM 0)))] a) 0 ⟨m, ⟨Nat.zero_le _, by rw [List.take_zero, List.take_zero]; exact hM⟩, (hH.rm 4).perm PMT, (hA.sub SBT)⟩ ?_ ?_
  · clear hA hH
    rintro i a w ⟨m', ⟨hi, hm'⟩, hH, hA⟩
    by_cases hlt : i < ps.l.length
    rotate_left
    · repeat' (first | (refine QT ?_; clear hA a; intro a hA) | ((first | refine CT ?_ | (refine DT ?_ ?_ <;> intro hc <;> try (exfalso; omega))) <;> repeat' refine CT ?_) | fail)
      obtain rfl : i = ps.l.length := by omega
      refine ⟨m', ?_, hH.rm 2, (hA.sub SBT)⟩
      rw [List.take_length, ← hal, List.take_length] at hm'
      unfold followF
      rw [← hps]
      exact hm'
    obtain ⟨p, hp1⟩ : ∃ p, ps.l[i]? = some p := ⟨_, List.getElem?_eq_getElem hlt⟩
    obtain ⟨v, hv1, hx1⟩ := hV.get0 (i := i) (by omega)
    have hv2 : (allF g fm e.a.l)[i]? = some (nth0 (allF g fm e.a.l) i) := by
      unfold nth0
      rw [List.getD_eq_getElem?_getD, List.getElem?_eq_getElem (by omega)]; rfl
    have hpv : (flat Fw.encI ps.l)[i * 1]? = some (.int .i64 p) := flat_get0 encI_len hp1 rfl
    have hvv : vs[i * 1]? = some v := by rw [Nat.mul_one]; exact hv1
    repeat' (first | (refine XT ?_; apply XE; (first | (apply ex_indexAddr_nat; rfl; rfl; omega; first | exact hspP | exact hspL) | (apply ex_load; rfl; exact cl_rd hpR.1 id hpv)); clear hA a; intro a hA) | (refine QT ?_; clear hA a; intro a hA) | ((first | refine CT ?_ | (refine DT ?_ ?_ <;> intro hc <;> try (exfalso; omega))) <;> repeat' refine CT ?_) | fail)
    (refine wp_draw2_HS [(0, 1), (1, 1), (2, 1), (3, 1), (4, 1), (5, 1), (6, 1), (7, 1), (8, 1), (9, 1)] [10] mixed (by decide +kernel) hH ?_; replace hH := hH.drew)
    repeat' (first | (refine XT ?_; apply XE; (first | (apply ex_indexAddr_nat; rfl; rfl; omega; exact hspL) | (apply ex_load; rfl; exact cl_own (T := 137) (o := oL) MEMT hvv)); clear hA a; intro a hA) | (refine QT ?_; clear hA a; intro a hA) | (apply dr_op03 hA rfl rfl rfl; apply op_mapUpdate; rfl; rfl; rfl; exact hH; (repeat constructor); clear hH; rintro _ w hH) | (refine CT ?_ <;> repeat' refine CT ?_) | fail)
    exact ⟨i + 1, ⟨_, ⟨hlt, by rw [setsF_next hp1 hv2]; exact hm'.set _ hx1⟩, hH, (hA.sub SBT)⟩, by omega⟩
  clear hA hH
  rintro a w ⟨m', hm', hH, hA⟩
  repeat' (first | (refine QT ?_; clear hA a; intro a hA) | (apply st_op0 hA rfl rfl; apply op_store_fld (cs' := encW g kd s oO nO cO ++ encR g fuel oS nS cS pc bv (blkA g fm.c.1 e.b.toNat) pi ph pe); rfl; rfl; rfl; exact hH; (repeat constructor); clear hH; rintro _ w hH) | (apply st_op0 hA rfl rfl; apply op_store_fld (cs' := encW g kd s oO nO cO ++ encR g fuel oS nS cS pc bv (blkA g fm.c.1 e.b.toNat) 0 ph pe); rfl; rfl; rfl; exact hH; (repeat constructor); clear hH; rintro _ w hH) | (refine CT ?_ <;> repeat' refine CT ?_) | fail)
  exact rt0 (.inr rfl) rfl hA ⟨m', hm', hH⟩
end Go.Proofs.YtenlcdokaadobaaGreatDoor
namespace Go.Proofs.YtenlcdokaadobaaGreatDoor
open Go Go.Fw
set_option linter.unusedVariables false
set_option maxRecDepth 10000 attribute [local irreducible] Code.wp wpList Calls Ex Op1 sat bat blk cb own Go.Fw.mp Go.Fw.mpO Go.Fw.mpI Go.Fw.mpE Go.Fw.itr HS Rd Ret wkD Hp Cl Cls Exit.then Exit.inBlock Exit.noGoto bodyPost Go.Fw.flat wk2 Go.Fw.all Go.Fw.owns wpOp
attribute [local irreducible] sk mpK sko mvO entK opM Go.Fw.mset Go.Fw.mv opK w63 frz obI RV idxF quoteF itoaB textF

theorem stopS {w0 w : World} {H : List It} {c : Cx} {bM : Nat} {g : Grs} {kd fuel : Int} {m : Mc} {oO oS ph : Option Addr} {cO cS pc bv : Nat} {mm : List (Int × Value)} {fms : List FmM} {sx : Sx} (hH : HS w0 noM (cb bM 86 (encW g kd m.wd.inp oO m.wd.out.length cO ++ encR g fuel oS fms.length cS pc bv (blkA g m.fm.c.1 m.fm.b) m.fm.i ph none) :: own 5 1 oO m.wd.out.length cO (flat encY m.wd.out) :: frz w0 c.K :: all (sx.map obI) :: own 83 5 oS fms.length cS (flat encFm fms) :: all (fms.map mpF) :: mp bv mm :: H) w) (hpc : FnR c m.fm.c.1 m.fm.c.2 pc) (hmm : MapR c m.fm.vs mm) (hfs : FsR g c m.sk fms) (hst : StR c sx m.wd.st) (k : Int) (r : ByteArray) : Ret Tryz.prog 27 #[.pointer (some (bat bM 0)), .int .i64 k, .string r] w (fun v w' => MEnd w0 bM g kd fuel H k r m.wd w') := by
  refine Ret.mono (stop_spec w0 w _ bM g kd m.wd.inp oO oS m.wd.out.length cO fms.length cS pc bv fuel m.fm.i _ ph none k r hH) ?_
  rintro v w' ⟨b, h⟩
  exact ⟨oO, cO, oS, fms.length, cS, pc, bv, blkA g m.fm.c.1 m.fm.b, (m.fm.i : Int), ph, b, ((((((h.rm 3).rm 3).rm 3).rm 3).rm 3)).perm PMT⟩
theorem raiseS {w0 w : World} {H : List It} {c : Cx} {bM : Nat} {g : Grs} {kd fuel : Int} {m : Mc} {oO oS ph : Option Addr} {cO cS pc bv : Nat} {mm : List (Int × Value)} {fms : List FmM} {sx : Sx} (hH : HS w0 noM (cb bM 86 (encW g kd m.wd.inp oO m.wd.out.length cO ++ encR g fuel oS fms.length cS pc bv (blkA g m.fm.c.1 m.fm.b) m.fm.i ph none) :: own 5 1 oO m.wd.out.length cO (flat encY m.wd.out) :: frz w0 c.K :: all (sx.map obI) :: own 83 5 oS fms.length cS (flat encFm fms) :: all (fms.map mpF) :: mp bv mm :: H) w) (hpc : FnR c m.fm.c.1 m.fm.c.2 pc) (hmm : MapR c m.fm.vs mm) (hfs : FsR g c m.sk fms) (hst : StR c sx m.wd.st) {c0 : Cx} {n : Int} (h0 : c0.le c) (hb0 : c.bd ≤ c0.bd + 1) (hn : iok n) (hR : RdGs w0 g) (hnf : c.nf = g.fs.l.length) (hne : ∀ f ∈ g.fs.l, 0 < f.bs.l.length) (hfl : m.sk.length ≤ 1000000) (hxs : ∀ s ∈ g.xs.l, s.size ≤ 4611686018427387904) :
    Ret Tryz.prog 51 #[.pointer (some (bat bM 0)), .int .i64 n] w (fun r w' => SrW w0 c0 bM g kd fuel H (raiseF g n m.wd m.sk) w') := by
  have hl := hfs.len
  refine Ret.mono (raise_spec w0 w (own 5 1 oO m.wd.out.length cO (flat encY m.wd.out) :: all (sx.map obI) :: mp bv mm :: H) c bM g kd m.wd.inp oO oS m.wd.out.length cO cS pc bv fuel m.fm.i _ ph none fms m.sk m.wd n (hH.perm PMT) hfs hn hR hnf hne (by omega) hxs) ?_
  rintro v w' (⟨sk', cl, p, b, m2, oS2, cS2, fms2, hr, hcf, hm, hf, h⟩ | ⟨k, res, oS2, nS2, cS2, b, hr, h⟩)
  · refine SrW.go hr h0 hb0 ⟨oO, cO, oS2, cS2, p, b, m2, fms2, sx, none, ?_, hcf, hm, hf, hst⟩
    exact ((h.rm 7).perm PMT)
  · refine SrW.stop hr ⟨oO, cO, oS2, nS2, cS2, pc, bv, blkA g m.fm.c.1 m.fm.b, (m.fm.i : Int), ph, b, ?_⟩
    exact (((h.rm 2).rm 3).rm 3).perm PMT
theorem callS {w0 w : World} {H : List It} {c : Cx} {bM : Nat} {g : Grs} {kd fuel : Int} {m : Mc} {oO oS ph : Option Addr} {cO cS pc bv : Nat} {mm : List (Int × Value)} {fms : List FmM} {sx : Sx} (hH : HS w0 noM (cb bM 86 (encW g kd m.wd.inp oO m.wd.out.length cO ++ encR g fuel oS fms.length cS pc bv (blkA g m.fm.c.1 m.fm.b) m.fm.i ph none) :: own 5 1 oO m.wd.out.length cO (flat encY m.wd.out) :: frz w0 c.K :: all (sx.map obI) :: own 83 5 oS fms.length cS (flat encFm fms) :: all (fms.map mpF) :: mp bv mm :: H) w) (hpc : FnR c m.fm.c.1 m.fm.c.2 pc) (hmm : MapR c m.fm.vs mm) (hfs : FsR g c m.sk fms) (hst : StR c sx m.wd.st) {f x : Vl} {u v : Value} {h : Option Clo} {hd : Option Addr} (hu : RV c f u) (hv : RV c x v) (hhd : hdR c h hd) (hR : RdGs w0 g) (hnf : c.nf = g.fs.l.length) (hne : ∀ f ∈ g.fs.l, 0 < f.bs.l.length) (hfl : m.sk.length ≤ 1000000) :
    Ret Tryz.prog 49 #[.pointer (some (bat bM 0)), u, v, .pointer hd] w (fun r w' => SrW w0 c bM g kd fuel H (callF f x h m.wd m.sk m.fm) w') := by
  have hl := hfs.len
  refine Ret.mono (call_spec w0 w (own 5 1 oO m.wd.out.length cO (flat encY m.wd.out) :: all (sx.map obI) :: all (fms.map mpF) :: mp bv mm :: H) c bM g kd m.wd.inp oO oS m.wd.out.length cO cS pc bv fuel m.fm.i _ ph none hd mm fms f x u v (hH.perm PMT) hu hv hR hnf hne (by omega)) ?_
  rintro r w' (⟨cl, p, b, m2, oS2, cS2, hs, hcf, hm, h2⟩ | ⟨hs, b, h2⟩)
  · refine SrW.go (m := ⟨m.wd, { m.fm with h := h } :: m.sk, newF cl x⟩) (by unfold callF; rw [hs]) c.le_refl (Nat.le_succ _) ⟨oO, cO, oS2, cS2, p, b, m2, fms ++ [⟨pc, bv, blkA g m.fm.c.1 m.fm.b, m.fm.i, hd, mm⟩], sx, none, ?_, hcf, hm, ⟨fms, _, rfl, ⟨hpc, hmm, rfl, rfl, hhd⟩, hfs⟩, hst⟩
    have h3 := mpF_push (x := ⟨pc, bv, blkA g m.fm.c.1 m.fm.b, m.fm.i, hd, mm⟩) ((h2.up 6 rfl).up 7 rfl)
    exact h3.perm PMT
  · refine SrW.stop (by unfold callF; rw [hs]; rfl) ⟨oO, cO, oS, fms.length, cS, pc, bv, blkA g m.fm.c.1 m.fm.b, (m.fm.i : Int), ph, b, ?_⟩
    exact (((((h2.rm 2).rm 2).rm 3).rm 3).rm 3).perm PMT
theorem enterS {w0 w : World} {H : List It} {c : Cx} {bM : Nat} {g : Grs} {kd fuel : Int} {m : Mc} {oO oS ph : Option Addr} {cO cS pc bv : Nat} {mm : List (Int × Value)} {fms : List FmM} {sx : Sx} (hH : HS w0 noM (cb bM 86 (encW g kd m.wd.inp oO m.wd.out.length cO ++ encR g fuel oS fms.length cS pc bv (blkA g m.fm.c.1 m.fm.b) m.fm.i ph none) :: own 5 1 oO m.wd.out.length cO (flat encY m.wd.out) :: frz w0 c.K :: all (sx.map obI) :: own 83 5 oS fms.length cS (flat encFm fms) :: all (fms.map mpF) :: mp bv mm :: H) w) (hpc : FnR c m.fm.c.1 m.fm.c.2 pc) (hmm : MapR c m.fm.vs mm) (hfs : FsR g c m.sk fms) (hst : StR c sx m.wd.st) {f x : Vl} {u v : Value} (hu : RV c f u) (hv : RV c x v) (hR : RdGs w0 g) (hnf : c.nf = g.fs.l.length) (hne : ∀ f ∈ g.fs.l, 0 < f.bs.l.length) :
    Ret Tryz.prog 26 #[.pointer (some (bat bM 0)), u, v] w (fun r w' => SrW w0 c bM g kd fuel H (enterF f x m.wd m.sk) w') := by
  refine Ret.mono (enter_spec w0 w (own 5 1 oO m.wd.out.length cO (flat encY m.wd.out) :: all (sx.map obI) :: own 83 5 oS fms.length cS (flat encFm fms) :: all (fms.map mpF) :: mp bv mm :: H) c bM g kd m.wd.inp oO oS m.wd.out.length cO fms.length cS pc bv fuel m.fm.i _ ph none f x u v (hH.perm PMT) hu hv hR hnf hne) ?_
  rintro r w' (⟨cl, p, b, m2, hs, _, hcf, hm, h2⟩ | ⟨hs, _, b, h2⟩)
  · refine SrW.go (m := ⟨m.wd, m.sk, newF cl x⟩) (by unfold enterF; rw [hs]) c.le_refl (Nat.le_succ _) ⟨oO, cO, oS, cS, p, b, m2, fms, sx, none, ?_, hcf, hm, hfs, hst⟩
    exact (h2.rm 7).perm PMT
  · refine SrW.stop (by unfold enterF; rw [hs]; rfl) ⟨oO, cO, oS, fms.length, cS, pc, bv, blkA g m.fm.c.1 m.fm.b, (m.fm.i : Int), ph, b, ?_⟩
    exact (((((h2.rm 2).rm 3).rm 3).rm 3).rm 3).perm PMT
theorem backS {w0 w : World} {H : List It} {c : Cx} {bM : Nat} {g : Grs} {kd fuel : Int} {m : Mc} {oO oS ph : Option Addr} {cO cS pc bv : Nat} {mm : List (Int × Value)} {fms : List FmM} {sx : Sx} (hH : HS w0 noM (cb bM 86 (encW g kd m.wd.inp oO m.wd.out.length cO ++ encR g fuel oS fms.length cS pc bv (blkA g m.fm.c.1 m.fm.b) m.fm.i ph none) :: own 5 1 oO m.wd.out.length cO (flat encY m.wd.out) :: frz w0 c.K :: all (sx.map obI) :: own 83 5 oS fms.length cS (flat encFm fms) :: all (fms.map mpF) :: mp bv mm :: H) w) (hpc : FnR c m.fm.c.1 m.fm.c.2 pc) (hmm : MapR c m.fm.vs mm) (hfs : FsR g c m.sk fms) (hst : StR c sx m.wd.st) {x : Vl} {u : Value} (hu : RV c x u) (hR : RdGs w0 g) (hFI : FI w0) (hfl : m.sk.length ≤ 1000000) (hok : ∀ f ∈ m.sk, FmOk g f ∧ f.i < (curB g f).is.l.length) :
    Ret Tryz.prog 53 #[.pointer (some (bat bM 0)), u] w (fun r w' => SrW w0 c bM g kd fuel H (backF g kd x m.wd m.sk) w') := by
  have hl := hfs.len
  obtain ⟨wd, sk, fm⟩ := m
  dsimp only at *
  cases sk with
  | nil =>
    obtain rfl : fms = [] := hfs
    refine Ret.mono (back0_spec w0 w _ c bM g kd wd.inp oO oS wd.out.length cO cS pc bv fuel fm.i _ ph none x u hH hu hR.2.2.2.2.1 hFI) ?_
    rintro r w' ⟨k, res, b, hr, h2⟩
    refine SrW.stop (hr wd) ⟨oO, cO, oS, 0, cS, pc, bv, blkA g fm.c.1 fm.b, (fm.i : Int), ph, b, ?_⟩
    exact (((((h2.rm 3).rm 3).rm 3).rm 3).rm 3).perm PMT
  | cons f r =>
    obtain ⟨pre, y, rfl, hy, hF⟩ := hfs
    obtain ⟨hfo, hfi⟩ := hok f (List.mem_cons_self ..)
    rw [lenFm] at hH
    have hgm : g.fs.l.getD f.c.1.toNat gr0 ∈ g.fs.l := getD_mem (show f.c.1.toNat < g.fs.l.length by have := hfo.f0; have := hfo.f1; omega)
    have hb1 : (g.fs.l.getD f.c.1.toNat gr0).bs.l[f.b]? = some (curB g f) := by
      unfold curB blkOf
      rw [List.getD_eq_getElem?_getD (l := (g.fs.l.getD f.c.1.toNat gr0).bs.l), List.getElem?_eq_getElem hfo.b]; rfl
    have hi1 : (curB g f).is.l[f.i]? = some (insAt g f) := by
      unfold insAt
      rw [List.getD_eq_getElem?_getD, List.getElem?_eq_getElem hfi]; rfl
    have h2 := mpF_pop (hH.up 5 rfl)
    refine Ret.mono (back_spec w0 w (own 5 1 oO wd.out.length cO (flat encY wd.out) :: frz w0 c.K :: all (sx.map obI) :: all (pre.map mpF) :: mp bv mm :: H) bM g kd wd.inp oO oS none _ cO cS pc bv f.b f.i fuel fm.i _ ph none pre y u _ _ _ (h2.perm PMT) (hR.2.1 _ hgm) hb1 hi1 hy.pb hy.i (by simp only [List.length_cons] at hfl; have := hF.len; omega)) ?_
    rintro v w' h3
    rw [hy.pb] at h3
    refine SrW.go (m := ⟨wd, r, { f with vs := pset f.vs (insAt g f).x x, i := f.i + 1 }⟩) rfl c.le_refl (Nat.le_succ _) ⟨oO, cO, oS, cS, y.pc, y.bv, mset y.m (insAt g f).x u, pre, sx, y.ph, ?_, hy.fn, hy.vs.set _ hu, hF, hst⟩
    exact (h3.rm 7).perm PMT
theorem followS {w0 w : World} {H : List It} {c : Cx} {bM : Nat} {g : Grs} {kd fuel : Int} {m : Mc} {oO oS ph : Option Addr} {cO cS pc bv : Nat} {mm : List (Int × Value)} {fms : List FmM} {sx : Sx} (hH : HS w0 noM (cb bM 86 (encW g kd m.wd.inp oO m.wd.out.length cO ++ encR g fuel oS fms.length cS pc bv (blkA g m.fm.c.1 m.fm.b) m.fm.i ph none) :: own 5 1 oO m.wd.out.length cO (flat encY m.wd.out) :: frz w0 c.K :: all (sx.map obI) :: own 83 5 oS fms.length cS (flat encFm fms) :: all (fms.map mpF) :: mp bv mm :: H) w) (hpc : FnR c m.fm.c.1 m.fm.c.2 pc) (hmm : MapR c m.fm.vs mm) (hfs : FsR g c m.sk fms) (hst : StR c sx m.wd.st) {e : Edg} (ha : ∀ a ∈ e.a.l, atW g a) (hR : RdGs w0 g) (hsz : ∀ s ∈ g.ss.l, s.size ≤ 4096) (hRe : RdV w0 encAt e.a) (hl : e.a.l.length ≤ 1048576)
    (hnf : c.nf = g.fs.l.length) (hb0 : 0 ≤ e.b) (hb1 : e.b < (g.fs.l.getD m.fm.c.1.toNat gr0).bs.l.length) (hpl : e.a.l.length = (blkOf g m.fm.c.1 e.b.toNat).ps.l.length) :
    Ret Tryz.prog 55 #[.pointer (some (bat bM 0)), .agg (encEd e).toArray] w (fun r w' => SrW w0 c bM g kd fuel H (.go ⟨m.wd, m.sk, followF g m.fm e⟩) w') := by
  refine Ret.mono (follow_spec w0 w (own 5 1 oO m.wd.out.length cO (flat encY m.wd.out) :: all (sx.map obI) :: own 83 5 oS fms.length cS (flat encFm fms) :: all (fms.map mpF) :: H) c bM g kd m.wd.inp oO oS m.wd.out.length cO fms.length cS pc bv fuel m.fm.i _ ph none m.fm mm e (hH.perm PMT) hmm hpc ha hR hsz hRe hl hnf hb0 hb1 hpl) ?_
  rintro r w' ⟨m2, hm2, h2⟩
  exact SrW.go rfl c.le_refl (Nat.le_succ _) ⟨oO, cO, oS, cS, pc, bv, m2, fms, sx, ph, h2.perm PMT, hpc, hm2, hfs, hst⟩
end Go.Proofs.YtenlcdokaadobaaGreatDoor
namespace Go.Proofs.YtenlcdokaadobaaGreatDoor
open Go Go.Fw
set_option linter.unusedVariables false
theorem SrW.le {w0 w : World} {c d : Cx} {bM : Nat} {g : Grs} {kd fuel : Int} {H : List It} {r : Sr} (hle : c.le d) (hb : d.bd = c.bd) (h : SrW w0 d bM g kd fuel H r w) : SrW w0 c bM g kd fuel H r w := by
  cases r with
  | go m =>
    obtain ⟨e, ⟨h1, h2⟩, h3⟩ := h
    exact ⟨e, ⟨hle.trans h1, by omega⟩, h3⟩
  | stop k s wd => exact h
theorem in_3 {g : Grs} {fm : Fm} {i : Ins} {wd : Wd} {sk : List Fm} (h : i.r.k = 3) : insF g fm i wd sk = callF (nth0 (allF g fm i.r.a.l) 0) (nth0 (allF g fm i.r.a.l) 1) none wd sk fm := by unfold insF; rw [if_pos h]
theorem in_14 {g : Grs} {fm : Fm} {i : Ins} {wd : Wd} {sk : List Fm} (h : i.r.k = 14) : insF g fm i wd sk = (match asFn (nth0 (allF g fm i.r.a.l) 0) with
    | some c => if c.1 = i.r.n then callF (nth0 (allF g fm i.r.a.l) 0) (nth0 (allF g fm i.r.a.l) 1) none wd sk fm else stuckF wd
    | none => stuckF wd) := by unfold insF; rw [if_neg (by omega), if_pos h] <;> rfl
theorem in_13 {g : Grs} {fm : Fm} {i : Ins} {wd : Wd} {sk : List Fm} (h : i.r.k = 13) : insF g fm i wd sk = (match asFn (nth0 (allF g fm i.r.a.l) 1) with
    | some h => callF (nth0 (allF g fm i.r.a.l) 0) (.num 0) (some h) wd sk fm
    | none => stuckF wd) := by unfold insF; rw [if_neg (by omega), if_neg (by omega), if_pos h] <;> rfl
theorem in_p {g : Grs} {fm : Fm} {i : Ins} {wd : Wd} {sk : List Fm} (h : i.r.k ≠ 3 ∧ i.r.k ≠ 14 ∧ i.r.k ≠ 13) : insF g fm i wd sk = (match plainF i.r (allF g fm i.r.a.l) fm.c.2 wd with
    | .exn s => raiseF g (idxF g.xs.l s) wd sk
    | .val v wd' => if isNil v then stuckF wd' else .go ⟨wd', sk, { fm with vs := pset fm.vs i.x v, i := fm.i + 1 }⟩) := by unfold insF; rw [if_neg h.1, if_neg h.2.1, if_neg h.2.2] <;> rfl
theorem want2 {g : Grs} {caps : List Int} {mine : Int} {r : Stp} (h : FormP g caps mine r) (hk : r.k = 3 ∨ r.k = 13 ∨ r.k = 14) : r.a.l.length = 2 := by
  have hw := h.want
  unfold wantF at hw
  rcases hk with e | e | e <;> rw [e] at hw <;> simp at hw <;> omega
theorem all_len {g : Grs} {fm : Fm} {l : List Atm} : (allF g fm l).length = l.length := by unfold allF; rw [List.length_map]
theorem RV.isNil {c : Cx} {x : Vl} {v : Value} (h : RV c x v) : (isNil x = true ∧ v = .nilIface) ∨ (isNil x = false ∧ ∃ s u, v = .iface s u) := by
  cases x <;> rw [RV] at h
  · exact .inl ⟨rfl, h⟩
  · exact .inr ⟨rfl, _, _, h.1⟩
  · exact .inr ⟨rfl, _, _, h.1⟩
  · obtain ⟨p, o, k, vs, h1, _⟩ := h; exact .inr ⟨rfl, _, _, h1⟩
  · obtain ⟨p, on, cn, ol, cl, vs, h1, _⟩ := h; exact .inr ⟨rfl, _, _, h1⟩
  · obtain ⟨p, u, h1, _⟩ := h; exact .inr ⟨rfl, _, _, h1⟩
  · obtain ⟨p, h1, _⟩ := h; exact .inr ⟨rfl, _, _, h1⟩
  · obtain ⟨p, h1, _⟩ := h; exact .inr ⟨rfl, _, _, h1⟩
def isExn (s : ByteArray) : Prop := s = exnB ∨ s = exnS ∨ s = exnD
theorem texts_exn {op : Int} {l : List Vl} {wd : Wd} {s : ByteArray} (h : textsF op l wd = .exn s) : isExn s := by
  unfold textsF stk at h
  repeat' split at h
  all_goals first | (cases h; done) | (cases h; exact .inl rfl) | (cases h; exact .inr (.inl rfl)) | (cases h; exact .inr (.inr rfl))
theorem arrays_exn {op : Int} {l : List Vl} {wd : Wd} {s : ByteArray} (h : arraysF op l wd = .exn s) : isExn s := by
  unfold arraysF stk at h
  repeat' split at h
  all_goals first | (cases h; done) | (cases h; exact .inl rfl) | (cases h; exact .inr (.inl rfl)) | (cases h; exact .inr (.inr rfl))
theorem op_exn {op : Int} {l : List Vl} {wd : Wd} {s : ByteArray} (h : opF op l wd = .exn s) : isExn s := by
  unfold opF stk at h
  repeat' split at h
  all_goals first | (cases h; done) | exact texts_exn h | exact arrays_exn h | (cases h; exact .inl rfl) | (cases h; exact .inr (.inl rfl)) | (cases h; exact .inr (.inr rfl))
theorem plain_exn {r : Stp} {l cs : List Vl} {wd : Wd} {s : ByteArray} (h : plainF r l cs wd = .exn s) : isExn s := by
  by_cases h1 : r.k = 1
  · rw [pl_1 h1] at h; cases h
  by_cases h2 : r.k = 2
  · rw [pl_2 h2] at h; exact op_exn h
  by_cases h4 : r.k = 4
  · rw [pl_4 h4] at h; cases h
  by_cases h5 : r.k = 5
  · rw [pl_5 h5] at h; cases h
  by_cases h6 : r.k = 6
  · rw [pl_6 h6] at h; cases h
  by_cases h7 : r.k = 7
  · rw [pl_7 h7] at h; unfold stk at h; repeat' split at h
    all_goals cases h
  by_cases h8 : r.k = 8
  · rw [pl_8 h8] at h; unfold stk at h; repeat' split at h
    all_goals cases h
  by_cases h9 : r.k = 9
  · unfold plainF at h; rw [h9] at h; cases h
  by_cases h10 : r.k = 10
  · rw [pl_10 h10] at h; unfold stk at h; repeat' split at h
    all_goals cases h
  by_cases h11 : r.k = 11
  · rw [pl_11 h11] at h; unfold stk at h; repeat' split at h
    all_goals cases h
  by_cases h12 : r.k = 12
  · rw [pl_12 h12] at h; unfold stk at h; repeat' split at h
    all_goals cases h
  unfold plainF at h
  rw [if_neg h1, if_neg h2, if_neg h4, if_neg h5, if_neg h6, if_neg h7, if_neg h8, if_neg h9, if_neg h10, if_neg h11, if_neg h12] at h
  cases h
theorem isExn.ne {s : ByteArray} (h : isExn s) : (!(s.toList == empS.toList)) = true := by
  rcases h with rfl | rfl | rfl <;> decide +kernel
theorem in_sub (x : Ins) (i : Nat) (v : Value) (h : (encSt x.r)[i]? = some v) : (encIn x)[1 + i]? = some v := by
  match i, h with
  | 0, h => exact h
  | 1, h => exact h
  | 2, h => exact h
  | 3, h => exact h
theorem Cls.ex4 {A B C D : Type} {F : A → B → C → D → World → Prop} {p : Addr} {vs : List Value} (h : ∀ a b c d, Cls (F a b c d) p vs) : Cls (fun w => ∃ a b c d, F a b c d w) p vs := fun w ⟨a, b, c, d, hw⟩ => h a b c d w hw
theorem Cl.ex4 {A B C D : Type} {F : A → B → C → D → World → Prop} {p : Addr} {v : Value} (h : ∀ a b c d, Cl (F a b c d) p v) : Cl (fun w => ∃ a b c d, F a b c d w) p v := fun w ⟨a, b, c, d, hw⟩ => h a b c d w hw
theorem idx_iok {l : List ByteArray} {s : ByteArray} (h : l.length ≤ 9223372036854775807) : iok (idxF l s) := by
  unfold idxF
  cases hf : l.findIdx? (fun x => eqS s x) with
  | none => exact ⟨by decide, by decide⟩
  | some i =>
    obtain ⟨hi, _⟩ := List.findIdx?_eq_some_iff_getElem.1 hf
    exact ⟨by show (_ : Int) ≤ (i : Int); omega, by show (i : Int) ≤ _; omega⟩
set_option maxRecDepth 10000 attribute [local irreducible] Code.wp wpList Calls Ex Op1 sat bat blk cb own Go.Fw.mp Go.Fw.mpO Go.Fw.mpI Go.Fw.mpE Go.Fw.itr HS Rd Ret wkD Hp Cl Cls Exit.then Exit.inBlock Exit.noGoto bodyPost Go.Fw.flat wk2 Go.Fw.all Go.Fw.owns wpOp
attribute [local irreducible] sk mpK sko mvO entK opM Go.Fw.mset Go.Fw.mv opK w63 frz obI RV idxF quoteF itoaB textF

theorem SrW.drop1 {w0 w : World} {c : Cx} {bM : Nat} {g : Grs} {kd fuel : Int} {H : List It} {x : It} {r : Sr} (h : SrW w0 c bM g kd fuel (x :: H) r w) : SrW w0 c bM g kd fuel H r w := by
  cases r with
  | go m =>
    obtain ⟨e, h1, oO, cO, oS, cS, pc, bv, mm, fms, sx, ph, h2, h3⟩ := h
    exact ⟨e, h1, oO, cO, oS, cS, pc, bv, mm, fms, sx, ph, h2.rm 7, h3⟩
  | stop k s wd =>
    obtain ⟨oO, cO, oS, nS, cS, pc, bv, pb, pi, ph, b, h2⟩ := h
    exact ⟨oO, cO, oS, nS, cS, pc, bv, pb, pi, ph, b, h2.rm 3⟩
theorem MEnd.drop1 {w0 w : World} {bM : Nat} {g : Grs} {kd fuel : Int} {H : List It} {x : It} {k : Int} {s : ByteArray} {wd : Wd} (h : MEnd w0 bM g kd fuel (x :: H) k s wd w) : MEnd w0 bM g kd fuel H k s wd w := by
  obtain ⟨oO, cO, oS, nS, cS, pc, bv, pb, pi, ph, b, h2⟩ := h
  exact ⟨oO, cO, oS, nS, cS, pc, bv, pb, pi, ph, b, h2.rm 3⟩
set_option maxHeartbeats 32000000 in
theorem ins_spec {w0 w : World} {H : List It} {c : Cx} {bM : Nat} {g : Grs} {kd fuel : Int} {m : Mc} {oO oS ph : Option Addr} {cO cS pc bv : Nat} {mm : List (Int × Value)} {fms : List FmM} {sx : Sx} (hH : HS w0 noM (cb bM 86 (encW g kd m.wd.inp oO m.wd.out.length cO ++ encR g fuel oS fms.length cS pc bv (blkA g m.fm.c.1 m.fm.b) m.fm.i ph none) :: own 5 1 oO m.wd.out.length cO (flat encY m.wd.out) :: frz w0 c.K :: all (sx.map obI) :: own 83 5 oS fms.length cS (flat encFm fms) :: all (fms.map mpF) :: mp bv mm :: H) w) (hpc : FnR c m.fm.c.1 m.fm.c.2 pc) (hmm : MapR c m.fm.vs mm) (hfs : FsR g c m.sk fms) (hst : StR c sx m.wd.st) (x : Ins) (hR : RdGs w0 g) (hnf : c.nf = g.fs.l.length) (hne : ∀ f ∈ g.fs.l, 0 < f.bs.l.length) (hsz : ∀ s ∈ g.ss.l, s.size ≤ 4096) (hxs : ∀ s ∈ g.xs.l, s.size ≤ 4611686018427387904) (hfl : m.sk.length ≤ 1000000)
    (hK0 : ∀ w, c.K w → Kp w0 noM w) (mine : Int) (hF : FormP g (g.fs.l.map Gr.caps) mine x.r) (ha : ∀ a ∈ x.r.a.l, atW g a) (hRi : RdIn w0 x) (hla : x.r.a.l.length ≤ 1048576) (hbn : x.r.ns.l.length ≤ c.bd) (hbd : c.bd ≤ 1000000) (hout : m.wd.out.length ≤ 1000000) (hil : m.fm.i ≤ 1000000000000) :
    Ret Tryz.prog 28 #[.pointer (some (bat bM 0)), .agg (encIn x).toArray] w (fun r w' => SrW w0 c bM g kd fuel H (insF g m.fm x m.wd m.sk) w') := by
  (refine enter (N := 127) Tryz.func28 rfl Tryz.ntmps28 rfl ?_; intro a hA; dsimp only [sl0, Nat.reduceAdd] at hA)
  repeat' (first | (refine QT ?_; clear hA a; intro a hA) | (refine BT ?_; clear hA hH; rintro _ w ⟨bN, rfl, hH⟩ a hA) | (refine CT ?_ <;> repeat' refine CT ?_) | fail)
  obtain ⟨b3, hb3⟩ : ∃ x, x = bN := ⟨_, rfl⟩
  rw [← hb3] at hA hH
  clear hb3 bN
  (refine st_op hA rfl rfl (by decide) (op_call rfl rfl rfl (all_spec w0 w (own 5 1 oO m.wd.out.length cO (flat encY m.wd.out) :: frz w0 c.K :: all (sx.map obI) :: own 83 5 oS fms.length cS (flat encFm fms) :: all (fms.map mpF) :: cb b3 59 (encIn x) :: H) c bM g kd m.wd.inp oO oS m.wd.out.length cO fms.length cS pc bv fuel m.fm.i _ ph none m.fm mm x.r.a (hH.perm PMT) hmm ha hR.2.2.2.2.2 hsz hRi.2 hla)) ?_; clear hA hH; rintro _ w ⟨oL, cL, vs, rfl, hV0, hH⟩ a hA)
  have hvl := hV0.len
  rw [all_len] at hvl
  have hlc : vs.length ≤ cL ∧ cL ≤ maxLen := hH.own_le (T := 137) (o := oL) (by exact MEMT)
  have hle := c.more (fun w => Rd w oL vs)
  replace hH := (hH.perm (H' := own 137 1 oL vs.length cL vs :: frz w0 c.K :: cb bM 86 (encW g kd m.wd.inp oO m.wd.out.length cO ++ encR g fuel oS fms.length cS pc bv (blkA g m.fm.c.1 m.fm.b) m.fm.i ph none) :: own 5 1 oO m.wd.out.length cO (flat encY m.wd.out) :: all (sx.map obI) :: own 83 5 oS fms.length cS (flat encFm fms) :: all (fms.map mpF) :: mp bv mm :: cb b3 59 (encIn x) :: H) PMT).frz_own
  obtain ⟨c1, hc1⟩ : ∃ c1 : Cx, c1 = { c with K := fun w => Rd w oL vs ∧ c.K w } := ⟨_, rfl⟩
  have hL : ∀ w, c1.K w → Rd w oL vs := fun w h => by rw [hc1] at h; exact h.1
  have hK1 : ∀ w, c1.K w → Kp w0 noM w := fun w h => by rw [hc1] at h; exact hK0 w h.2
  have hKe : c1.K = fun w => Rd w oL vs ∧ c.K w := by rw [hc1]
  have hbe : c1.bd = c.bd := by rw [hc1]
  have hne1 : c1.nf = c.nf := by rw [hc1]
  rw [← hKe] at hH
  replace hH := hH.perm (H' := cb bM 86 (encW g kd m.wd.inp oO m.wd.out.length cO ++ encR g fuel oS fms.length cS pc bv (blkA g m.fm.c.1 m.fm.b) m.fm.i ph none) :: own 5 1 oO m.wd.out.length cO (flat encY m.wd.out) :: frz w0 c1.K :: all (sx.map obI) :: own 83 5 oS fms.length cS (flat encFm fms) :: all (fms.map mpF) :: mp bv mm :: cb b3 59 (encIn x) :: H) PMT
  rw [← hc1] at hle
  have hst1 := hst.more (fun w => Rd w oL vs)
  rw [← hc1] at hst1
  clear hc1 hKe
  have hV := RVs.mono hle _ _ hV0
  replace hpc := hpc.mono hle
  replace hmm := hmm.mono hle
  replace hfs := hfs.mono hle
  have hnf1 : c1.nf = g.fs.l.length := by omega
  have hsp : Sp oL vs.length := (hL w (hH.frz (by exact MEMT))).sp (sz := 1) (by omega) (by omega)
  have hkl := hF.lo
  have hkh := hF.hi
  obtain ⟨kk, hkk⟩ : ∃ kk, kk = x.r.k := ⟨_, rfl⟩
  by_cases h3 : x.r.k = 3
  · have h2 := want2 hF (.inl h3)
    obtain ⟨v0, hv0, hx0⟩ := hV.get0 (i := 0) (by rw [all_len]; omega)
    obtain ⟨v1, hv1, hx1⟩ := hV.get0 (i := 1) (by rw [all_len]; omega)
    repeat' (first | (refine XT ?_; apply XE; (first | (apply ex_indexAddr; rfl; rfl; decide; omega; exact hsp) | (apply ex_load; rfl; exact cl_frz MEMT hL hv0) | (apply ex_load; rfl; exact cl_frz MEMT hL hv1) | (apply ex_iface; rfl)); clear hA a; intro a hA) | (refine QT ?_; clear hA a; intro a hA) | ((first | refine CT ?_ | (refine DT ?_ ?_ <;> intro hc <;> try (exfalso; omega))) <;> repeat' refine CT ?_) | fail)
    (refine wp_draw2_HS [(0, 1), (1, 1), (2, 1), (3, 1), (4, 1), (5, 1), (6, 1)] [7] mixed (by decide +kernel) hH ?_; replace hH := hH.drew)
    repeat' (first | (refine XT ?_; apply XE; (first | (apply ex_indexAddr; rfl; rfl; decide; omega; exact hsp) | (apply ex_load; rfl; exact cl_frz MEMT hL hv0) | (apply ex_load; rfl; exact cl_frz MEMT hL hv1) | (apply ex_iface; rfl)); clear hA a; intro a hA) | (refine QT ?_; clear hA a; intro a hA) | (refine CT ?_ <;> repeat' refine CT ?_) | fail)
    (refine dr_op3 hA rfl rfl rfl (by decide) (op_call rfl rfl rfl (callS (h := none) (hd := none) hH hpc hmm hfs hst1 hx0 hx1 rfl hR hnf1 hne hfl)) ?_; clear hA hH; rintro _ w hS a hA)
    repeat' (first | (refine QT ?_; clear hA a; intro a hA) | (refine CT ?_ <;> repeat' refine CT ?_) | fail)
    exact rt0 (.inl rfl) rfl hA (by rw [in_3 h3]; exact (SrW.le hle hbe hS).drop1)
  by_cases h14 : x.r.k = 14
  · have h2 := want2 hF (.inr (.inr h14))
    obtain ⟨v0, hv0, hx0⟩ := hV.get0 (i := 0) (by rw [all_len]; omega)
    obtain ⟨v1, hv1, hx1⟩ := hV.get0 (i := 1) (by rw [all_len]; omega)
    have e14 := in_14 (g := g) (fm := m.fm) (wd := m.wd) (sk := m.sk) h14
    rcases hx0.asFn with ⟨fi, fl, fp, hs, hv0e, hf⟩ | ⟨hs, hn⟩
    · rw [hs] at e14
      dsimp only at e14
      unfold ptrV at hv0e
      subst hv0e
      obtain ⟨o9, k9, vs9, hfr9, hp9, _⟩ := id hf
      repeat' (first | (refine XT ?_; apply XE; (first | (apply ex_indexAddr; rfl; rfl; decide; omega; exact hsp) | (apply ex_load; rfl; exact cl_frz MEMT hL hv0) | (apply ex_load; rfl; exact cl_frz MEMT hL hv1) | (apply ex_iface; rfl) | (apply ex_assertY; rfl)); clear hA a; intro a hA) | (refine QT ?_; clear hA a; intro a hA) | ((first | refine CT ?_ | (refine DT ?_ ?_ <;> intro hc <;> try (exfalso; omega))) <;> repeat' refine CT ?_) | fail)
      (refine wp_draw_HS [(0, 1), (1, 1), (2, 1), (3, 1), (4, 1), (5, 1), (6, 1), (7, 1), (8, 1), (9, 1), (10, 1), (11, 1)] mixed (by decide +kernel) hH ?_; replace hH := hH.drew)
      repeat' (first | (refine GT ?_ ?_ <;> intro hg <;> clear hA a <;> intro a hA <;> (first | exact FA | replace hg := of_decide_eq_true hg | replace hg := of_decide_eq_false hg | skip)) | (refine XT ?_; apply XE; (first | (apply ex_indexAddr; rfl; rfl; decide; omega; exact hsp) | (apply ex_load; rfl; exact cl_frz MEMT hL hv0) | (apply ex_load; rfl; exact cl_frz MEMT hL hv1) | (apply ex_iface; rfl) | (apply ex_load; rfl; exact cl_frzB MEMT hp9 rfl)); clear hA a; intro a hA) | (refine QT ?_; clear hA a; intro a hA) | ((first | refine CT ?_ | (refine DT ?_ ?_ <;> intro hc <;> try (exfalso; omega))) <;> repeat' refine CT ?_) | fail)
      · repeat' (first | (refine QT ?_; clear hA a; intro a hA) | (refine st_op hA rfl rfl (by decide) (op_call rfl rfl rfl (stopS hH hpc hmm hfs hst1 4 empS)) ?_; clear hA hH; rintro _ w hS a hA) | (refine CT ?_ <;> repeat' refine CT ?_) | fail)
        exact rt0 (.inl rfl) rfl hA (SrW.stop (by rw [e14, if_neg (by assumption)]; rfl) hS.drop1)
      (refine wp_draw2_HS [(0, 1), (1, 1), (2, 1), (3, 1), (4, 1), (5, 1), (6, 1)] [7] mixed (by decide +kernel) hH ?_; replace hH := hH.drew)
      repeat' (first | (refine XT ?_; apply XE; (first | (apply ex_indexAddr; rfl; rfl; decide; omega; exact hsp) | (apply ex_load; rfl; exact cl_frz MEMT hL hv0) | (apply ex_load; rfl; exact cl_frz MEMT hL hv1) | (apply ex_iface; rfl)); clear hA a; intro a hA) | (refine QT ?_; clear hA a; intro a hA) | (refine CT ?_ <;> repeat' refine CT ?_) | fail)
      (refine dr_op3 hA rfl rfl rfl (by decide) (op_call rfl rfl rfl (callS (h := none) (hd := none) hH hpc hmm hfs hst1 hx0 hx1 rfl hR hnf1 hne hfl)) ?_; clear hA hH; rintro _ w hS a hA)
      repeat' (first | (refine QT ?_; clear hA a; intro a hA) | (refine CT ?_ <;> repeat' refine CT ?_) | fail)
      exact rt0 (.inl rfl) rfl hA (by rw [e14, if_pos (by omega)]; exact (SrW.le hle hbe hS).drop1)
    · rw [hs] at e14
      dsimp only at e14
      repeat' (first | (refine XT ?_; apply XE; (first | (apply ex_indexAddr; rfl; rfl; decide; omega; exact hsp) | (apply ex_load; rfl; exact cl_frz MEMT hL hv0) | (apply ex_load; rfl; exact cl_frz MEMT hL hv1) | (apply ex_iface; rfl) | (apply ex_assertX; rfl; exact hn)); clear hA a; intro a hA) | (refine QT ?_; clear hA a; intro a hA) | ((first | refine CT ?_ | (refine DT ?_ ?_ <;> intro hc <;> try (exfalso; omega))) <;> repeat' refine CT ?_) | fail)
      (refine wp_draw_HS [(0, 1), (1, 1), (2, 1), (3, 1), (4, 1), (5, 1), (6, 1), (7, 1), (8, 1), (9, 1), (10, 1), (11, 1)] mixed (by decide +kernel) hH ?_; replace hH := hH.drew)
      repeat' (first | (refine GT ?_ ?_ <;> intro hg <;> clear hA a <;> intro a hA <;> (first | exact FA | replace hg := of_decide_eq_true hg | replace hg := of_decide_eq_false hg | skip)) | (refine XT ?_; apply XE; (first | (apply ex_indexAddr; rfl; rfl; decide; omega; exact hsp) | (apply ex_load; rfl; exact cl_frz MEMT hL hv0) | (apply ex_load; rfl; exact cl_frz MEMT hL hv1) | (apply ex_iface; rfl)); clear hA a; intro a hA) | (refine QT ?_; clear hA a; intro a hA) | (refine st_op hA rfl rfl (by decide) (op_call rfl rfl rfl (stopS hH hpc hmm hfs hst1 4 empS)) ?_; clear hA hH; rintro _ w hS a hA) | (refine CT ?_ <;> repeat' refine CT ?_) | fail)
      exact rt0 (.inl rfl) rfl hA (SrW.stop (by rw [e14]; rfl) hS.drop1)
  by_cases h13 : x.r.k = 13
  · have h2 := want2 hF (.inr (.inl h13))
    obtain ⟨v0, hv0, hx0⟩ := hV.get0 (i := 0) (by rw [all_len]; omega)
    obtain ⟨v1, hv1, hx1⟩ := hV.get0 (i := 1) (by rw [all_len]; omega)
    have e13 := in_13 (g := g) (fm := m.fm) (wd := m.wd) (sk := m.sk) h13
    rcases hx1.asFn with ⟨fi, fl, fp, hs, hv1e, hf⟩ | ⟨hs, hn⟩
    · rw [hs] at e13
      dsimp only at e13
      unfold ptrV at hv1e
      subst hv1e
      repeat' (first | (refine XT ?_; apply XE; (first | (apply ex_indexAddr; rfl; rfl; decide; omega; exact hsp) | (apply ex_load; rfl; exact cl_frz MEMT hL hv0) | (apply ex_load; rfl; exact cl_frz MEMT hL hv1) | (apply ex_iface; rfl) | (apply ex_assertY; rfl)); clear hA a; intro a hA) | (refine QT ?_; clear hA a; intro a hA) | ((first | refine CT ?_ | (refine DT ?_ ?_ <;> intro hc <;> try (exfalso; omega))) <;> repeat' refine CT ?_) | fail)
      (refine st_op hA rfl rfl (by decide) (op_call rfl rfl rfl (callS (h := some (fi, fl)) (hd := some (bat fp 0)) hH hpc hmm hfs hst1 hx0 (RV_num (c := c1) (n := 0) ⟨by decide, by decide⟩) ⟨fp, rfl, hf⟩ hR hnf1 hne hfl)) ?_; clear hA hH; rintro _ w hS a hA)
      repeat' (first | (refine QT ?_; clear hA a; intro a hA) | (refine CT ?_ <;> repeat' refine CT ?_) | fail)
      exact rt0 (.inl rfl) rfl hA (by rw [e13]; exact (SrW.le hle hbe hS).drop1)
    · rw [hs] at e13
      dsimp only at e13
      repeat' (first | (refine XT ?_; apply XE; (first | (apply ex_indexAddr; rfl; rfl; decide; omega; exact hsp) | (apply ex_load; rfl; exact cl_frz MEMT hL hv0) | (apply ex_load; rfl; exact cl_frz MEMT hL hv1) | (apply ex_iface; rfl) | (apply ex_assertX; rfl; exact hn)); clear hA a; intro a hA) | (refine QT ?_; clear hA a; intro a hA) | (refine st_op hA rfl rfl (by decide) (op_call rfl rfl rfl (stopS hH hpc hmm hfs hst1 4 empS)) ?_; clear hA hH; rintro _ w hS a hA) | ((first | refine CT ?_ | (refine DT ?_ ?_ <;> intro hc <;> try (exfalso; omega))) <;> repeat' refine CT ?_) | fail)
      exact rt0 (.inl rfl) rfl hA (SrW.stop (by rw [e13]; rfl) hS.drop1)
  have ep := in_p (g := g) (fm := m.fm) (i := x) (wd := m.wd) (sk := m.sk) ⟨h3, h14, h13⟩
  repeat' (first | (refine QT ?_; clear hA a; intro a hA) | ((first | refine CT ?_ | (refine DT ?_ ?_ <;> intro hc <;> try (exfalso; omega))) <;> repeat' refine CT ?_) | fail)
  have hS0 : (fun w => ∃ s oO nO cO, HS w0 noM [cb bM 86 (encW g kd s oO nO cO ++ encR g fuel oS fms.length cS pc bv (blkA g m.fm.c.1 m.fm.b) m.fm.i ph none), cb b3 59 (encIn x)] w) w := ⟨_, _, _, _, ((((((HS.left (H1 := [_, _, _, _, _, _, _, _]) hH).rm 1).rm 1).rm 1).rm 1).rm 1).rm 1⟩
  have hS1 : Cls (fun w => ∃ s oO nO cO, HS w0 noM [cb bM 86 (encW g kd s oO nO cO ++ encR g fuel oS fms.length cS pc bv (blkA g m.fm.c.1 m.fm.b) m.fm.i ph none), cb b3 59 (encIn x)] w) (bat b3 1) (encSt x.r) := Cls.ex4 (F := fun s oO nO cO w => HS w0 noM [cb bM 86 (encW g kd s oO nO cO ++ encR g fuel oS fms.length cS pc bv (blkA g m.fm.c.1 m.fm.b) m.fm.i ph none), cb b3 59 (encIn x)] w) fun s oO nO cO => cls_cb (by exact MEMT) (in_sub x)
  have hS2 : Cl (fun w => ∃ s oO nO cO, HS w0 noM [cb bM 86 (encW g kd s oO nO cO ++ encR g fuel oS fms.length cS pc bv (blkA g m.fm.c.1 m.fm.b) m.fm.i ph none), cb b3 59 (encIn x)] w) (bat bM 12) (.pointer (some (bat pc 0))) := Cl.ex4 (F := fun s oO nO cO w => HS w0 noM [cb bM 86 (encW g kd s oO nO cO ++ encR g fuel oS fms.length cS pc bv (blkA g m.fm.c.1 m.fm.b) m.fm.i ph none), cb b3 59 (encIn x)] w) fun s oO nO cO => cl_cb (by exact MEMT) rfl
  refine wp_draw [(0, 1), (1, 1), (2, 1), (3, 1), (4, 1), (5, 1), (6, 1), (7, 1), (8, 1), (9, 1), (10, 1), (11, 0), (12, 1), (13, 1), (14, 1), (15, 1), (16, 1)] [] (fun w => ∃ s oO nO cO, HS w0 noM [cb bM 86 (encW g kd s oO nO cO ++ encR g fuel oS fms.length cS pc bv (blkA g m.fm.c.1 m.fm.b) m.fm.i ph none), cb b3 59 (encIn x)] w) mixed (by decide +kernel) (by obtain ⟨s1, o1, n1, c2, h9⟩ := hS0; exact ⟨s1, o1, n1, c2, h9.drew⟩) ?_
  clear hS0
  replace hH := hH.drew
  repeat' (first | (refine XT ?_; apply XE; (first | (apply ex_load_st (vs := encSt x.r); rfl; rfl; exact hS1) | (apply ex_load; rfl; exact hS2)); clear hA a; intro a hA) | (refine QT ?_; clear hA a; intro a hA) | fail)
  have hpl := Plain_spec w0 _ (own 83 5 oS fms.length cS (flat encFm fms) :: all (fms.map mpF) :: mp bv mm :: cb b3 59 (encIn x) :: H) c1 86 bM g kd (encR g fuel oS fms.length cS pc bv (blkA g m.fm.c.1 m.fm.b) m.fm.i ph none) (g.fs.l.map Gr.caps) mine x.r (allF g m.fm x.r.a.l) vs oL oO cL cO m.wd sx m.fm.c.1 m.fm.c.2 pc hH hL hlc hV hst1 hF all_len (by rw [List.length_map]; exact hnf1) hpc hK1 hRi.1 (by omega) (by omega) hout hR.2.2.2.1.le ⟨h3, h13, h14⟩
  (refine dr_op hA rfl rfl rfl (by decide) (op_call rfl rfl rfl hpl) ?_; clear hA hH hpl)
  rintro u w ⟨d, sx2, oO2, cO2, ⟨hle2, hb2⟩, hH, hr, hS2'⟩
  refine ⟨⟨_, _, _, _, ((((((HS.left (H1 := [_, _, _, _, _, _, _, _]) hH).rm 1).rm 1).rm 1).rm 1).rm 1).rm 1⟩, ?_⟩
  clear hS1 hS2
  intro a hA
  have hS2 := hS2'
  clear hS2'
  have hle3 := hle.trans hle2
  have hb3 : d.bd ≤ c.bd + 1 := by omega
  have hpc2 := hpc.mono hle2
  have hmm2 := hmm.mono hle2
  have hfs2 := hfs.mono hle2
  have hnf2 : d.nf = g.fs.l.length := by rw [← hle2.nf]; exact hnf1
  cases hp : plainF x.r (allF g m.fm x.r.a.l) m.fm.c.2 m.wd with
  | exn s =>
    rw [hp] at hH hr hS2 ep
    obtain rfl : u = .tuple #[.nilIface, .string s] := hr
    have hsn := (plain_exn hp).ne
    have hxR := hR.2.2.2.2.1
    have hio := idx_iok (l := g.xs.l) (s := s) hxR.le
    change HS w0 noM (cb bM 86 (encW g kd (m.wd).inp oO2 (m.wd).out.length cO2 ++ encR g fuel oS fms.length cS pc bv (blkA g m.fm.c.1 m.fm.b) m.fm.i ph none) :: own 5 1 oO2 (m.wd).out.length cO2 (flat encY (m.wd).out) :: frz w0 d.K :: all (sx2.map obI) :: own 83 5 oS fms.length cS (flat encFm fms) :: all (fms.map mpF) :: mp bv mm :: cb b3 59 (encIn x) :: H) w at hH
    repeat' (first | (refine XT ?_; apply XE; (first | (apply ex_neqS; rfl; rfl)); clear hA a; intro a hA) | (refine QT ?_; clear hA a; intro a hA) | ((first | refine CT ?_ | (refine DT ?_ ?_ <;> intro hc <;> try (exfalso; omega))) <;> repeat' refine CT ?_) | fail)
    rotate_left
    · exact absurd (hsn.symm.trans (by assumption) : true = false) (by decide)
    (refine st_op hA rfl rfl (by decide) (op_call rfl rfl rfl (Exn_spec w0 w (own 5 1 oO2 (m.wd).out.length cO2 (flat encY (m.wd).out) :: frz w0 d.K :: all (sx2.map obI) :: own 83 5 oS fms.length cS (flat encFm fms) :: all (fms.map mpF) :: mp bv mm :: cb b3 59 (encIn x) :: H) 86 bM [] _ g.xs s hH hxR)) ?_; clear hA hH; rintro _ w ⟨rfl, hH⟩ a hA)
    change HS w0 noM (cb bM 86 (encW g kd (m.wd).inp oO2 (m.wd).out.length cO2 ++ encR g fuel oS fms.length cS pc bv (blkA g m.fm.c.1 m.fm.b) m.fm.i ph none) :: own 5 1 oO2 (m.wd).out.length cO2 (flat encY (m.wd).out) :: frz w0 d.K :: all (sx2.map obI) :: own 83 5 oS fms.length cS (flat encFm fms) :: all (fms.map mpF) :: mp bv mm :: cb b3 59 (encIn x) :: H) w at hH
    (refine st_op hA rfl rfl (by decide) (op_call rfl rfl rfl (raiseS hH hpc2 hmm2 hfs2 hS2 hle3 hb3 hio hR hnf2 hne hfl hxs)) ?_; clear hA hH; rintro _ w hS a hA)
    repeat' (first | (refine QT ?_; clear hA a; intro a hA) | (refine CT ?_ <;> repeat' refine CT ?_) | fail)
    exact rt0 (.inr rfl) rfl hA (by rw [ep]; exact hS.drop1)
  | val v wd' =>
    rw [hp] at hH hr hS2 ep
    obtain ⟨u', hu', rfl⟩ := hr
    change HS w0 noM (cb bM 86 (encW g kd (wd').inp oO2 (wd').out.length cO2 ++ encR g fuel oS fms.length cS pc bv (blkA g m.fm.c.1 m.fm.b) m.fm.i ph none) :: own 5 1 oO2 (wd').out.length cO2 (flat encY (wd').out) :: frz w0 d.K :: all (sx2.map obI) :: own 83 5 oS fms.length cS (flat encFm fms) :: all (fms.map mpF) :: mp bv mm :: cb b3 59 (encIn x) :: H) w at hH
    dsimp only at ep
    rcases hu'.isNil with ⟨hn0, rfl⟩ | ⟨hn0, s9, u9, rfl⟩
    · rw [hn0, if_pos rfl] at ep
      repeat' (first | (refine XT ?_; apply XE; (first | (apply ex_neqS; rfl; rfl) | (apply ex_eqlI0; rfl)); clear hA a; intro a hA) | (refine QT ?_; clear hA a; intro a hA) | ((first | refine CT ?_ | (refine DT ?_ ?_ <;> intro hc <;> try (exfalso; omega))) <;> repeat' refine CT ?_) | fail)
      · exact absurd (by assumption : (!(empS.toList == (⟨#[]⟩ : ByteArray).toList)) = true) (by decide +kernel)
      (refine st_op hA rfl rfl (by decide) (op_call rfl rfl rfl (stopS (m := ⟨wd', m.sk, m.fm⟩) hH hpc2 hmm2 hfs2 hS2 4 empS)) ?_; clear hA hH; rintro _ w hS a hA)
      repeat' (first | (refine QT ?_; clear hA a; intro a hA) | (refine CT ?_ <;> repeat' refine CT ?_) | fail)
      exact rt0 (.inr rfl) rfl hA (SrW.stop ep hS.drop1)
    · rw [hn0, if_neg (by decide)] at ep
      repeat' (first | (refine XT ?_; apply XE; (first | (apply ex_neqS; rfl; rfl) | (apply ex_eqlI1; rfl)); clear hA a; intro a hA) | (refine QT ?_; clear hA a; intro a hA) | ((first | refine CT ?_ | (refine DT ?_ ?_ <;> intro hc <;> try (exfalso; omega))) <;> repeat' refine CT ?_) | fail)
      · exact absurd (by assumption : (!(empS.toList == (⟨#[]⟩ : ByteArray).toList)) = true) (by decide +kernel)
      (refine wp_draw2_HS [(0, 1), (1, 1), (2, 1), (3, 1), (4, 1), (5, 1), (6, 1), (7, 1)] [8] mixed (by decide +kernel) hH ?_; replace hH := hH.drew)
      repeat' (first | (refine QT ?_; clear hA a; intro a hA) | (apply dr_op03 hA rfl rfl rfl; apply op_mapUpdate; rfl; rfl; rfl; exact hH; (repeat constructor); clear hH; rintro _ w hH) | (apply st_op0 hA rfl rfl; apply op_store_fld (cs' := encW g kd wd'.inp oO2 wd'.out.length cO2 ++ encR g fuel oS fms.length cS pc bv (blkA g m.fm.c.1 m.fm.b) ((m.fm.i + 1 : Nat) : Int) ph none); rfl; rfl; rfl; exact hH; (repeat constructor); clear hH; rintro _ w hH) | (refine CT ?_ <;> repeat' refine CT ?_) | fail)
      refine rt0 (.inr rfl) rfl hA (SrW.go (m := ⟨wd', m.sk, { m.fm with vs := pset m.fm.vs x.x v, i := m.fm.i + 1 }⟩) ep hle3 hb3 ⟨oO2, cO2, oS, cS, pc, bv, mset mm x.x (.iface s9 u9), fms, sx2, ph, ?_, hpc2, hmm2.set _ hu', hfs2, hS2⟩)
      exact hH.rm 7
end Go.Proofs.YtenlcdokaadobaaGreatDoor
