/-
  The machine: stop, raise, call, enter, back, follow, told by the state as it lies in memory. Conditions: none.
  The machine: a step. Conditions: none.
  The machine (plain): where a step comes to. Conditions: none.
-/
import Derived.Test.YtenlcdokaadobaaGreatDoorRowFuelMg17
namespace Go.Proofs.YtenlcdokaadobaaGreatDoor
open Go Go.Fw
set_option linter.unusedVariables false
set_option maxRecDepth 10000 attribute [local irreducible] Code.wp wpList Calls Ex Op1 sat bat blk cb own Go.Fw.mp Go.Fw.mpO Go.Fw.mpI Go.Fw.mpE Go.Fw.itr HS Rd Ret wkD Hp Cl Cls Exit.then Exit.inBlock Exit.noGoto bodyPost Go.Fw.flat wk2 Go.Fw.all Go.Fw.owns wpOp
attribute [local irreducible] sk mpK sko mvO entK opM Go.Fw.mset Go.Fw.mv opK w63 frz obI RV idxF quoteF itoaB textF

theorem stopS {w0 w : World} {H : List It} {c : Cx} {bM : Nat} {g : Grs} {kd fuel : Int} {m : Mc} {oO oS ph : Option Addr} {cO cS pc bv : Nat} {mm : List (Int × Value)} {fms : List FmM} {sx : Sx} (hH : HS w0 noM (cb bM 86 (encW g kd m.wd.inp oO m.wd.out.length cO ++ encR g fuel oS fms.length cS pc bv (blkA g m.fm.c.1 m.fm.b) m.fm.i ph none) :: own 5 1 oO m.wd.out.length cO (flat encY m.wd.out) :: frz w0 c.K :: all (sx.map obI) :: own 83 5 oS fms.length cS (flat encFm fms) :: all (fms.map mpF) :: mp bv mm :: H) w) (hpc : FnR c m.fm.c.1 m.fm.c.2 pc) (hmm : MapR c m.fm.vs mm) (hfs : FsR g c m.sk fms) (hst : StR c sx m.wd.st) (k : Int) (r : ByteArray) : Ret Tryz.prog 27 #[.pointer (some (bat bM 0)), .int .i64 k, .string r] w (fun v w' => MEnd w0 bM g kd fuel H k r m.wd w') := by
  refine Ret.mono (stop_spec w0 w _ bM g kd m.wd.inp oO oS m.wd.out.length cO fms.length cS pc bv fuel m.fm.i _ ph none k r hH) ?_
  rintro v w' ⟨b, h⟩
  exact ⟨oO, cO, oS, fms.length, cS, pc, bv, blkA g m.fm.c.1 m.fm.b, (m.fm.i : Int), ph, b, ((((((h.rm 3).rm 3).rm 3).rm 3).rm 3)).perm (by (repeat (first | exact List.Perm.refl _ | exact List.Perm.nil | refine perm_pick 0 rfl ?_ | refine perm_pick 1 rfl ?_ | refine perm_pick 2 rfl ?_ | refine perm_pick 3 rfl ?_ | refine perm_pick 4 rfl ?_ | refine perm_pick 5 rfl ?_ | refine perm_pick 6 rfl ?_ | refine perm_pick 7 rfl ?_ | refine perm_pick 8 rfl ?_ | refine perm_pick 9 rfl ?_ | refine perm_pick 10 rfl ?_ | refine perm_pick 11 rfl ?_)))⟩
theorem raiseS {w0 w : World} {H : List It} {c : Cx} {bM : Nat} {g : Grs} {kd fuel : Int} {m : Mc} {oO oS ph : Option Addr} {cO cS pc bv : Nat} {mm : List (Int × Value)} {fms : List FmM} {sx : Sx} (hH : HS w0 noM (cb bM 86 (encW g kd m.wd.inp oO m.wd.out.length cO ++ encR g fuel oS fms.length cS pc bv (blkA g m.fm.c.1 m.fm.b) m.fm.i ph none) :: own 5 1 oO m.wd.out.length cO (flat encY m.wd.out) :: frz w0 c.K :: all (sx.map obI) :: own 83 5 oS fms.length cS (flat encFm fms) :: all (fms.map mpF) :: mp bv mm :: H) w) (hpc : FnR c m.fm.c.1 m.fm.c.2 pc) (hmm : MapR c m.fm.vs mm) (hfs : FsR g c m.sk fms) (hst : StR c sx m.wd.st) {c0 : Cx} {n : Int} (h0 : c0.le c) (hb0 : c.bd ≤ c0.bd + 1) (hn : iok n) (hR : RdGs w0 g) (hnf : c.nf = g.fs.l.length) (hne : ∀ f ∈ g.fs.l, 0 < f.bs.l.length) (hfl : m.sk.length ≤ 1000000) (hxs : ∀ s ∈ g.xs.l, s.size ≤ 4611686018427387904) :
    Ret Tryz.prog 51 #[.pointer (some (bat bM 0)), .int .i64 n] w (fun r w' => SrW w0 c0 bM g kd fuel H (raiseF g n m.wd m.sk) w') := by
  have hl := hfs.len
  refine Ret.mono (raise_spec w0 w (own 5 1 oO m.wd.out.length cO (flat encY m.wd.out) :: all (sx.map obI) :: mp bv mm :: H) c bM g kd m.wd.inp oO oS m.wd.out.length cO cS pc bv fuel m.fm.i _ ph none fms m.sk m.wd n (hH.perm (by (repeat (first | exact List.Perm.refl _ | exact List.Perm.nil | refine perm_pick 0 rfl ?_ | refine perm_pick 1 rfl ?_ | refine perm_pick 2 rfl ?_ | refine perm_pick 3 rfl ?_ | refine perm_pick 4 rfl ?_ | refine perm_pick 5 rfl ?_ | refine perm_pick 6 rfl ?_ | refine perm_pick 7 rfl ?_ | refine perm_pick 8 rfl ?_ | refine perm_pick 9 rfl ?_ | refine perm_pick 10 rfl ?_ | refine perm_pick 11 rfl ?_)))) hfs hn hR hnf hne (by omega) hxs) ?_
  rintro v w' (⟨sk', cl, p, b, m2, oS2, cS2, fms2, hr, hcf, hm, hf, h⟩ | ⟨k, res, oS2, nS2, cS2, b, hr, h⟩)
  · refine SrW.go hr h0 hb0 ⟨oO, cO, oS2, cS2, p, b, m2, fms2, sx, none, ?_, hcf, hm, hf, hst⟩
    exact ((h.rm 7).perm (by (repeat (first | exact List.Perm.refl _ | exact List.Perm.nil | refine perm_pick 0 rfl ?_ | refine perm_pick 1 rfl ?_ | refine perm_pick 2 rfl ?_ | refine perm_pick 3 rfl ?_ | refine perm_pick 4 rfl ?_ | refine perm_pick 5 rfl ?_ | refine perm_pick 6 rfl ?_ | refine perm_pick 7 rfl ?_ | refine perm_pick 8 rfl ?_ | refine perm_pick 9 rfl ?_ | refine perm_pick 10 rfl ?_ | refine perm_pick 11 rfl ?_))))
  · refine SrW.stop hr ⟨oO, cO, oS2, nS2, cS2, pc, bv, blkA g m.fm.c.1 m.fm.b, (m.fm.i : Int), ph, b, ?_⟩
    exact (((h.rm 2).rm 3).rm 3).perm (by (repeat (first | exact List.Perm.refl _ | exact List.Perm.nil | refine perm_pick 0 rfl ?_ | refine perm_pick 1 rfl ?_ | refine perm_pick 2 rfl ?_ | refine perm_pick 3 rfl ?_ | refine perm_pick 4 rfl ?_ | refine perm_pick 5 rfl ?_ | refine perm_pick 6 rfl ?_ | refine perm_pick 7 rfl ?_ | refine perm_pick 8 rfl ?_ | refine perm_pick 9 rfl ?_ | refine perm_pick 10 rfl ?_ | refine perm_pick 11 rfl ?_)))
theorem callS {w0 w : World} {H : List It} {c : Cx} {bM : Nat} {g : Grs} {kd fuel : Int} {m : Mc} {oO oS ph : Option Addr} {cO cS pc bv : Nat} {mm : List (Int × Value)} {fms : List FmM} {sx : Sx} (hH : HS w0 noM (cb bM 86 (encW g kd m.wd.inp oO m.wd.out.length cO ++ encR g fuel oS fms.length cS pc bv (blkA g m.fm.c.1 m.fm.b) m.fm.i ph none) :: own 5 1 oO m.wd.out.length cO (flat encY m.wd.out) :: frz w0 c.K :: all (sx.map obI) :: own 83 5 oS fms.length cS (flat encFm fms) :: all (fms.map mpF) :: mp bv mm :: H) w) (hpc : FnR c m.fm.c.1 m.fm.c.2 pc) (hmm : MapR c m.fm.vs mm) (hfs : FsR g c m.sk fms) (hst : StR c sx m.wd.st) {f x : Vl} {u v : Value} {h : Option Clo} {hd : Option Addr} (hu : RV c f u) (hv : RV c x v) (hhd : hdR c h hd) (hR : RdGs w0 g) (hnf : c.nf = g.fs.l.length) (hne : ∀ f ∈ g.fs.l, 0 < f.bs.l.length) (hfl : m.sk.length ≤ 1000000) :
    Ret Tryz.prog 49 #[.pointer (some (bat bM 0)), u, v, .pointer hd] w (fun r w' => SrW w0 c bM g kd fuel H (callF f x h m.wd m.sk m.fm) w') := by
  have hl := hfs.len
  refine Ret.mono (call_spec w0 w (own 5 1 oO m.wd.out.length cO (flat encY m.wd.out) :: all (sx.map obI) :: all (fms.map mpF) :: mp bv mm :: H) c bM g kd m.wd.inp oO oS m.wd.out.length cO cS pc bv fuel m.fm.i _ ph none hd mm fms f x u v (hH.perm (by (repeat (first | exact List.Perm.refl _ | exact List.Perm.nil | refine perm_pick 0 rfl ?_ | refine perm_pick 1 rfl ?_ | refine perm_pick 2 rfl ?_ | refine perm_pick 3 rfl ?_ | refine perm_pick 4 rfl ?_ | refine perm_pick 5 rfl ?_ | refine perm_pick 6 rfl ?_ | refine perm_pick 7 rfl ?_ | refine perm_pick 8 rfl ?_ | refine perm_pick 9 rfl ?_ | refine perm_pick 10 rfl ?_ | refine perm_pick 11 rfl ?_)))) hu hv hR hnf hne (by omega)) ?_
  rintro r w' (⟨cl, p, b, m2, oS2, cS2, hs, hcf, hm, h2⟩ | ⟨hs, b, h2⟩)
  · refine SrW.go (m := ⟨m.wd, { m.fm with h := h } :: m.sk, newF cl x⟩) (by unfold callF; rw [hs]) c.le_refl (Nat.le_succ _) ⟨oO, cO, oS2, cS2, p, b, m2, fms ++ [⟨pc, bv, blkA g m.fm.c.1 m.fm.b, m.fm.i, hd, mm⟩], sx, none, ?_, hcf, hm, ⟨fms, _, rfl, ⟨hpc, hmm, rfl, rfl, hhd⟩, hfs⟩, hst⟩
    have h3 := mpF_push (x := ⟨pc, bv, blkA g m.fm.c.1 m.fm.b, m.fm.i, hd, mm⟩) ((h2.up 6 rfl).up 7 rfl)
    exact h3.perm (by (repeat (first | exact List.Perm.refl _ | exact List.Perm.nil | refine perm_pick 0 rfl ?_ | refine perm_pick 1 rfl ?_ | refine perm_pick 2 rfl ?_ | refine perm_pick 3 rfl ?_ | refine perm_pick 4 rfl ?_ | refine perm_pick 5 rfl ?_ | refine perm_pick 6 rfl ?_ | refine perm_pick 7 rfl ?_ | refine perm_pick 8 rfl ?_ | refine perm_pick 9 rfl ?_ | refine perm_pick 10 rfl ?_ | refine perm_pick 11 rfl ?_)))
  · refine SrW.stop (by unfold callF; rw [hs]; rfl) ⟨oO, cO, oS, fms.length, cS, pc, bv, blkA g m.fm.c.1 m.fm.b, (m.fm.i : Int), ph, b, ?_⟩
    exact (((((h2.rm 2).rm 2).rm 3).rm 3).rm 3).perm (by (repeat (first | exact List.Perm.refl _ | exact List.Perm.nil | refine perm_pick 0 rfl ?_ | refine perm_pick 1 rfl ?_ | refine perm_pick 2 rfl ?_ | refine perm_pick 3 rfl ?_ | refine perm_pick 4 rfl ?_ | refine perm_pick 5 rfl ?_ | refine perm_pick 6 rfl ?_ | refine perm_pick 7 rfl ?_ | refine perm_pick 8 rfl ?_ | refine perm_pick 9 rfl ?_ | refine perm_pick 10 rfl ?_ | refine perm_pick 11 rfl ?_)))
theorem enterS {w0 w : World} {H : List It} {c : Cx} {bM : Nat} {g : Grs} {kd fuel : Int} {m : Mc} {oO oS ph : Option Addr} {cO cS pc bv : Nat} {mm : List (Int × Value)} {fms : List FmM} {sx : Sx} (hH : HS w0 noM (cb bM 86 (encW g kd m.wd.inp oO m.wd.out.length cO ++ encR g fuel oS fms.length cS pc bv (blkA g m.fm.c.1 m.fm.b) m.fm.i ph none) :: own 5 1 oO m.wd.out.length cO (flat encY m.wd.out) :: frz w0 c.K :: all (sx.map obI) :: own 83 5 oS fms.length cS (flat encFm fms) :: all (fms.map mpF) :: mp bv mm :: H) w) (hpc : FnR c m.fm.c.1 m.fm.c.2 pc) (hmm : MapR c m.fm.vs mm) (hfs : FsR g c m.sk fms) (hst : StR c sx m.wd.st) {f x : Vl} {u v : Value} (hu : RV c f u) (hv : RV c x v) (hR : RdGs w0 g) (hnf : c.nf = g.fs.l.length) (hne : ∀ f ∈ g.fs.l, 0 < f.bs.l.length) :
    Ret Tryz.prog 26 #[.pointer (some (bat bM 0)), u, v] w (fun r w' => SrW w0 c bM g kd fuel H (enterF f x m.wd m.sk) w') := by
  refine Ret.mono (enter_spec w0 w (own 5 1 oO m.wd.out.length cO (flat encY m.wd.out) :: all (sx.map obI) :: own 83 5 oS fms.length cS (flat encFm fms) :: all (fms.map mpF) :: mp bv mm :: H) c bM g kd m.wd.inp oO oS m.wd.out.length cO fms.length cS pc bv fuel m.fm.i _ ph none f x u v (hH.perm (by (repeat (first | exact List.Perm.refl _ | exact List.Perm.nil | refine perm_pick 0 rfl ?_ | refine perm_pick 1 rfl ?_ | refine perm_pick 2 rfl ?_ | refine perm_pick 3 rfl ?_ | refine perm_pick 4 rfl ?_ | refine perm_pick 5 rfl ?_ | refine perm_pick 6 rfl ?_ | refine perm_pick 7 rfl ?_ | refine perm_pick 8 rfl ?_ | refine perm_pick 9 rfl ?_ | refine perm_pick 10 rfl ?_ | refine perm_pick 11 rfl ?_)))) hu hv hR hnf hne) ?_
  rintro r w' (⟨cl, p, b, m2, hs, _, hcf, hm, h2⟩ | ⟨hs, _, b, h2⟩)
  · refine SrW.go (m := ⟨m.wd, m.sk, newF cl x⟩) (by unfold enterF; rw [hs]) c.le_refl (Nat.le_succ _) ⟨oO, cO, oS, cS, p, b, m2, fms, sx, none, ?_, hcf, hm, hfs, hst⟩
    exact (h2.rm 7).perm (by (repeat (first | exact List.Perm.refl _ | exact List.Perm.nil | refine perm_pick 0 rfl ?_ | refine perm_pick 1 rfl ?_ | refine perm_pick 2 rfl ?_ | refine perm_pick 3 rfl ?_ | refine perm_pick 4 rfl ?_ | refine perm_pick 5 rfl ?_ | refine perm_pick 6 rfl ?_ | refine perm_pick 7 rfl ?_ | refine perm_pick 8 rfl ?_ | refine perm_pick 9 rfl ?_ | refine perm_pick 10 rfl ?_ | refine perm_pick 11 rfl ?_)))
  · refine SrW.stop (by unfold enterF; rw [hs]; rfl) ⟨oO, cO, oS, fms.length, cS, pc, bv, blkA g m.fm.c.1 m.fm.b, (m.fm.i : Int), ph, b, ?_⟩
    exact (((((h2.rm 2).rm 3).rm 3).rm 3).rm 3).perm (by (repeat (first | exact List.Perm.refl _ | exact List.Perm.nil | refine perm_pick 0 rfl ?_ | refine perm_pick 1 rfl ?_ | refine perm_pick 2 rfl ?_ | refine perm_pick 3 rfl ?_ | refine perm_pick 4 rfl ?_ | refine perm_pick 5 rfl ?_ | refine perm_pick 6 rfl ?_ | refine perm_pick 7 rfl ?_ | refine perm_pick 8 rfl ?_ | refine perm_pick 9 rfl ?_ | refine perm_pick 10 rfl ?_ | refine perm_pick 11 rfl ?_)))
theorem backS {w0 w : World} {H : List It} {c : Cx} {bM : Nat} {g : Grs} {kd fuel : Int} {m : Mc} {oO oS ph : Option Addr} {cO cS pc bv : Nat} {mm : List (Int × Value)} {fms : List FmM} {sx : Sx} (hH : HS w0 noM (cb bM 86 (encW g kd m.wd.inp oO m.wd.out.length cO ++ encR g fuel oS fms.length cS pc bv (blkA g m.fm.c.1 m.fm.b) m.fm.i ph none) :: own 5 1 oO m.wd.out.length cO (flat encY m.wd.out) :: frz w0 c.K :: all (sx.map obI) :: own 83 5 oS fms.length cS (flat encFm fms) :: all (fms.map mpF) :: mp bv mm :: H) w) (hpc : FnR c m.fm.c.1 m.fm.c.2 pc) (hmm : MapR c m.fm.vs mm) (hfs : FsR g c m.sk fms) (hst : StR c sx m.wd.st) {x : Vl} {u : Value} (hu : RV c x u) (hR : RdGs w0 g) (hFI : FI w0) (hfl : m.sk.length ≤ 1000000) (hok : ∀ f ∈ m.sk, FmOk g f ∧ f.i < (curB g f).is.l.length) :
    Ret Tryz.prog 53 #[.pointer (some (bat bM 0)), u] w (fun r w' => SrW w0 c bM g kd fuel H (backF g kd x m.wd m.sk) w') := by
  have hl := hfs.len
  obtain ⟨wd, sk, fm⟩ := m
  dsimp only at *
  cases sk with
  | nil =>
    obtain rfl : fms = [] := hfs
    refine Ret.mono (back0_spec w0 w _ c bM g kd wd.inp oO oS wd.out.length cO cS pc bv fuel fm.i _ ph none x u hH hu hR.2.2.2.2.1 hFI) ?_
    rintro r w' ⟨k, res, b, hr, h2⟩
    refine SrW.stop (hr wd) ⟨oO, cO, oS, 0, cS, pc, bv, blkA g fm.c.1 fm.b, (fm.i : Int), ph, b, ?_⟩
    exact (((((h2.rm 3).rm 3).rm 3).rm 3).rm 3).perm (by (repeat (first | exact List.Perm.refl _ | exact List.Perm.nil | refine perm_pick 0 rfl ?_ | refine perm_pick 1 rfl ?_ | refine perm_pick 2 rfl ?_ | refine perm_pick 3 rfl ?_ | refine perm_pick 4 rfl ?_ | refine perm_pick 5 rfl ?_ | refine perm_pick 6 rfl ?_ | refine perm_pick 7 rfl ?_ | refine perm_pick 8 rfl ?_ | refine perm_pick 9 rfl ?_ | refine perm_pick 10 rfl ?_ | refine perm_pick 11 rfl ?_)))
  | cons f r =>
    obtain ⟨pre, y, rfl, hy, hF⟩ := hfs
    obtain ⟨hfo, hfi⟩ := hok f (List.mem_cons_self ..)
    rw [lenFm] at hH
    have hgm : g.fs.l.getD f.c.1.toNat gr0 ∈ g.fs.l := getD_mem (show f.c.1.toNat < g.fs.l.length by have := hfo.f0; have := hfo.f1; omega)
    have hb1 : (g.fs.l.getD f.c.1.toNat gr0).bs.l[f.b]? = some (curB g f) := by
      unfold curB blkOf
      rw [List.getD_eq_getElem?_getD (l := (g.fs.l.getD f.c.1.toNat gr0).bs.l), List.getElem?_eq_getElem hfo.b]; rfl
    have hi1 : (curB g f).is.l[f.i]? = some (insAt g f) := by
      unfold insAt
      rw [List.getD_eq_getElem?_getD, List.getElem?_eq_getElem hfi]; rfl
    have h2 := mpF_pop (hH.up 5 rfl)
    refine Ret.mono (back_spec w0 w (own 5 1 oO wd.out.length cO (flat encY wd.out) :: frz w0 c.K :: all (sx.map obI) :: all (pre.map mpF) :: mp bv mm :: H) bM g kd wd.inp oO oS none _ cO cS pc bv f.b f.i fuel fm.i _ ph none pre y u _ _ _ (h2.perm (by (repeat (first | exact List.Perm.refl _ | exact List.Perm.nil | refine perm_pick 0 rfl ?_ | refine perm_pick 1 rfl ?_ | refine perm_pick 2 rfl ?_ | refine perm_pick 3 rfl ?_ | refine perm_pick 4 rfl ?_ | refine perm_pick 5 rfl ?_ | refine perm_pick 6 rfl ?_ | refine perm_pick 7 rfl ?_ | refine perm_pick 8 rfl ?_ | refine perm_pick 9 rfl ?_ | refine perm_pick 10 rfl ?_ | refine perm_pick 11 rfl ?_)))) (hR.2.1 _ hgm) hb1 hi1 hy.pb hy.i (by simp only [List.length_cons] at hfl; have := hF.len; omega)) ?_
    rintro v w' h3
    rw [hy.pb] at h3
    refine SrW.go (m := ⟨wd, r, { f with vs := pset f.vs (insAt g f).x x, i := f.i + 1 }⟩) rfl c.le_refl (Nat.le_succ _) ⟨oO, cO, oS, cS, y.pc, y.bv, mset y.m (insAt g f).x u, pre, sx, y.ph, ?_, hy.fn, hy.vs.set _ hu, hF, hst⟩
    exact (h3.rm 7).perm (by (repeat (first | exact List.Perm.refl _ | exact List.Perm.nil | refine perm_pick 0 rfl ?_ | refine perm_pick 1 rfl ?_ | refine perm_pick 2 rfl ?_ | refine perm_pick 3 rfl ?_ | refine perm_pick 4 rfl ?_ | refine perm_pick 5 rfl ?_ | refine perm_pick 6 rfl ?_ | refine perm_pick 7 rfl ?_ | refine perm_pick 8 rfl ?_ | refine perm_pick 9 rfl ?_ | refine perm_pick 10 rfl ?_ | refine perm_pick 11 rfl ?_)))
theorem followS {w0 w : World} {H : List It} {c : Cx} {bM : Nat} {g : Grs} {kd fuel : Int} {m : Mc} {oO oS ph : Option Addr} {cO cS pc bv : Nat} {mm : List (Int × Value)} {fms : List FmM} {sx : Sx} (hH : HS w0 noM (cb bM 86 (encW g kd m.wd.inp oO m.wd.out.length cO ++ encR g fuel oS fms.length cS pc bv (blkA g m.fm.c.1 m.fm.b) m.fm.i ph none) :: own 5 1 oO m.wd.out.length cO (flat encY m.wd.out) :: frz w0 c.K :: all (sx.map obI) :: own 83 5 oS fms.length cS (flat encFm fms) :: all (fms.map mpF) :: mp bv mm :: H) w) (hpc : FnR c m.fm.c.1 m.fm.c.2 pc) (hmm : MapR c m.fm.vs mm) (hfs : FsR g c m.sk fms) (hst : StR c sx m.wd.st) {e : Edg} (ha : ∀ a ∈ e.a.l, atW g a) (hR : RdGs w0 g) (hsz : ∀ s ∈ g.ss.l, s.size ≤ 4096) (hRe : RdV w0 encAt e.a) (hl : e.a.l.length ≤ 1048576)
    (hnf : c.nf = g.fs.l.length) (hb0 : 0 ≤ e.b) (hb1 : e.b < (g.fs.l.getD m.fm.c.1.toNat gr0).bs.l.length) (hpl : e.a.l.length = (blkOf g m.fm.c.1 e.b.toNat).ps.l.length) :
    Ret Tryz.prog 55 #[.pointer (some (bat bM 0)), .agg (encEd e).toArray] w (fun r w' => SrW w0 c bM g kd fuel H (.go ⟨m.wd, m.sk, followF g m.fm e⟩) w') := by
  refine Ret.mono (follow_spec w0 w (own 5 1 oO m.wd.out.length cO (flat encY m.wd.out) :: all (sx.map obI) :: own 83 5 oS fms.length cS (flat encFm fms) :: all (fms.map mpF) :: H) c bM g kd m.wd.inp oO oS m.wd.out.length cO fms.length cS pc bv fuel m.fm.i _ ph none m.fm mm e (hH.perm (by (repeat (first | exact List.Perm.refl _ | exact List.Perm.nil | refine perm_pick 0 rfl ?_ | refine perm_pick 1 rfl ?_ | refine perm_pick 2 rfl ?_ | refine perm_pick 3 rfl ?_ | refine perm_pick 4 rfl ?_ | refine perm_pick 5 rfl ?_ | refine perm_pick 6 rfl ?_ | refine perm_pick 7 rfl ?_ | refine perm_pick 8 rfl ?_ | refine perm_pick 9 rfl ?_ | refine perm_pick 10 rfl ?_ | refine perm_pick 11 rfl ?_)))) hmm hpc ha hR hsz hRe hl hnf hb0 hb1 hpl) ?_
  rintro r w' ⟨m2, hm2, h2⟩
  exact SrW.go rfl c.le_refl (Nat.le_succ _) ⟨oO, cO, oS, cS, pc, bv, m2, fms, sx, ph, h2.perm (by (repeat (first | exact List.Perm.refl _ | exact List.Perm.nil | refine perm_pick 0 rfl ?_ | refine perm_pick 1 rfl ?_ | refine perm_pick 2 rfl ?_ | refine perm_pick 3 rfl ?_ | refine perm_pick 4 rfl ?_ | refine perm_pick 5 rfl ?_ | refine perm_pick 6 rfl ?_ | refine perm_pick 7 rfl ?_ | refine perm_pick 8 rfl ?_ | refine perm_pick 9 rfl ?_ | refine perm_pick 10 rfl ?_ | refine perm_pick 11 rfl ?_))), hpc, hm2, hfs, hst⟩
end Go.Proofs.YtenlcdokaadobaaGreatDoor
namespace Go.Proofs.YtenlcdokaadobaaGreatDoor
open Go Go.Fw
set_option linter.unusedVariables false
theorem SrW.le {w0 w : World} {c d : Cx} {bM : Nat} {g : Grs} {kd fuel : Int} {H : List It} {r : Sr} (hle : c.le d) (hb : d.bd = c.bd) (h : SrW w0 d bM g kd fuel H r w) : SrW w0 c bM g kd fuel H r w := by
  cases r with
  | go m =>
    obtain ⟨e, ⟨h1, h2⟩, h3⟩ := h
    exact ⟨e, ⟨hle.trans h1, by omega⟩, h3⟩
  | stop k s wd => exact h
theorem in_3 {g : Grs} {fm : Fm} {i : Ins} {wd : Wd} {sk : List Fm} (h : i.r.k = 3) : insF g fm i wd sk = callF (nth0 (allF g fm i.r.a.l) 0) (nth0 (allF g fm i.r.a.l) 1) none wd sk fm := by unfold insF; rw [if_pos h]
theorem in_14 {g : Grs} {fm : Fm} {i : Ins} {wd : Wd} {sk : List Fm} (h : i.r.k = 14) : insF g fm i wd sk = (match asFn (nth0 (allF g fm i.r.a.l) 0) with
    | some c => if c.1 = i.r.n then callF (nth0 (allF g fm i.r.a.l) 0) (nth0 (allF g fm i.r.a.l) 1) none wd sk fm else stuckF wd
    | none => stuckF wd) := by unfold insF; rw [if_neg (by omega), if_pos h]; rfl
theorem in_13 {g : Grs} {fm : Fm} {i : Ins} {wd : Wd} {sk : List Fm} (h : i.r.k = 13) : insF g fm i wd sk = (match asFn (nth0 (allF g fm i.r.a.l) 1) with
    | some h => callF (nth0 (allF g fm i.r.a.l) 0) (.num 0) (some h) wd sk fm
    | none => stuckF wd) := by unfold insF; rw [if_neg (by omega), if_neg (by omega), if_pos h]; rfl
theorem in_p {g : Grs} {fm : Fm} {i : Ins} {wd : Wd} {sk : List Fm} (h : i.r.k ≠ 3 ∧ i.r.k ≠ 14 ∧ i.r.k ≠ 13) : insF g fm i wd sk = (match plainF i.r (allF g fm i.r.a.l) fm.c.2 wd with
    | .exn s => raiseF g (idxF g.xs.l s) wd sk
    | .val v wd' => if isNil v then stuckF wd' else .go ⟨wd', sk, { fm with vs := pset fm.vs i.x v, i := fm.i + 1 }⟩) := by unfold insF; rw [if_neg h.1, if_neg h.2.1, if_neg h.2.2]; rfl
theorem want2 {g : Grs} {caps : List Int} {mine : Int} {r : Stp} (h : FormP g caps mine r) (hk : r.k = 3 ∨ r.k = 13 ∨ r.k = 14) : r.a.l.length = 2 := by
  have hw := h.want
  unfold wantF at hw
  rcases hk with e | e | e <;> rw [e] at hw <;> simp at hw <;> omega
theorem all_len {g : Grs} {fm : Fm} {l : List Atm} : (allF g fm l).length = l.length := by unfold allF; rw [List.length_map]
theorem RV.isNil {c : Cx} {x : Vl} {v : Value} (h : RV c x v) : (isNil x = true ∧ v = .nilIface) ∨ (isNil x = false ∧ ∃ s u, v = .iface s u) := by
  cases x <;> rw [RV] at h
  · exact .inl ⟨rfl, h⟩
  · exact .inr ⟨rfl, _, _, h.1⟩
  · exact .inr ⟨rfl, _, _, h.1⟩
  · obtain ⟨p, o, k, vs, h1, _⟩ := h; exact .inr ⟨rfl, _, _, h1⟩
  · obtain ⟨p, on, cn, ol, cl, vs, h1, _⟩ := h; exact .inr ⟨rfl, _, _, h1⟩
  · obtain ⟨p, u, h1, _⟩ := h; exact .inr ⟨rfl, _, _, h1⟩
  · obtain ⟨p, h1, _⟩ := h; exact .inr ⟨rfl, _, _, h1⟩
  · obtain ⟨p, h1, _⟩ := h; exact .inr ⟨rfl, _, _, h1⟩
def isExn (s : ByteArray) : Prop := s = exnB ∨ s = exnS ∨ s = exnD
theorem texts_exn {op : Int} {l : List Vl} {wd : Wd} {s : ByteArray} (h : textsF op l wd = .exn s) : isExn s := by
  unfold textsF stk at h
  repeat' split at h
  all_goals first | (cases h; done) | (cases h; exact .inl rfl) | (cases h; exact .inr (.inl rfl)) | (cases h; exact .inr (.inr rfl))
theorem arrays_exn {op : Int} {l : List Vl} {wd : Wd} {s : ByteArray} (h : arraysF op l wd = .exn s) : isExn s := by
  unfold arraysF stk at h
  repeat' split at h
  all_goals first | (cases h; done) | (cases h; exact .inl rfl) | (cases h; exact .inr (.inl rfl)) | (cases h; exact .inr (.inr rfl))
theorem op_exn {op : Int} {l : List Vl} {wd : Wd} {s : ByteArray} (h : opF op l wd = .exn s) : isExn s := by
  unfold opF stk at h
  repeat' split at h
  all_goals first | (cases h; done) | exact texts_exn h | exact arrays_exn h | (cases h; exact .inl rfl) | (cases h; exact .inr (.inl rfl)) | (cases h; exact .inr (.inr rfl))
theorem plain_exn {r : Stp} {l cs : List Vl} {wd : Wd} {s : ByteArray} (h : plainF r l cs wd = .exn s) : isExn s := by
  by_cases h1 : r.k = 1
  · rw [pl_1 h1] at h; cases h
  by_cases h2 : r.k = 2
  · rw [pl_2 h2] at h; exact op_exn h
  by_cases h4 : r.k = 4
  · rw [pl_4 h4] at h; cases h
  by_cases h5 : r.k = 5
  · rw [pl_5 h5] at h; cases h
  by_cases h6 : r.k = 6
  · rw [pl_6 h6] at h; cases h
  by_cases h7 : r.k = 7
  · rw [pl_7 h7] at h; unfold stk at h; repeat' split at h
    all_goals cases h
  by_cases h8 : r.k = 8
  · rw [pl_8 h8] at h; unfold stk at h; repeat' split at h
    all_goals cases h
  by_cases h9 : r.k = 9
  · unfold plainF at h; rw [h9] at h; cases h
  by_cases h10 : r.k = 10
  · rw [pl_10 h10] at h; unfold stk at h; repeat' split at h
    all_goals cases h
  by_cases h11 : r.k = 11
  · rw [pl_11 h11] at h; unfold stk at h; repeat' split at h
    all_goals cases h
  by_cases h12 : r.k = 12
  · rw [pl_12 h12] at h; unfold stk at h; repeat' split at h
    all_goals cases h
  unfold plainF at h
  rw [if_neg h1, if_neg h2, if_neg h4, if_neg h5, if_neg h6, if_neg h7, if_neg h8, if_neg h9, if_neg h10, if_neg h11, if_neg h12] at h
  cases h
theorem isExn.ne {s : ByteArray} (h : isExn s) : (!(s.toList == empS.toList)) = true := by
  rcases h with rfl | rfl | rfl <;> decide +kernel
theorem in_sub (x : Ins) (i : Nat) (v : Value) (h : (encSt x.r)[i]? = some v) : (encIn x)[1 + i]? = some v := by
  match i, h with
  | 0, h => exact h
  | 1, h => exact h
  | 2, h => exact h
  | 3, h => exact h
theorem Cls.ex4 {A B C D : Type} {F : A → B → C → D → World → Prop} {p : Addr} {vs : List Value} (h : ∀ a b c d, Cls (F a b c d) p vs) : Cls (fun w => ∃ a b c d, F a b c d w) p vs := fun w ⟨a, b, c, d, hw⟩ => h a b c d w hw
theorem Cl.ex4 {A B C D : Type} {F : A → B → C → D → World → Prop} {p : Addr} {v : Value} (h : ∀ a b c d, Cl (F a b c d) p v) : Cl (fun w => ∃ a b c d, F a b c d w) p v := fun w ⟨a, b, c, d, hw⟩ => h a b c d w hw
theorem idx_iok {l : List ByteArray} {s : ByteArray} (h : l.length ≤ 9223372036854775807) : iok (idxF l s) := by
  unfold idxF
  cases hf : l.findIdx? (fun x => eqS s x) with
  | none => exact ⟨by decide, by decide⟩
  | some i =>
    obtain ⟨hi, _⟩ := List.findIdx?_eq_some_iff_getElem.1 hf
    exact ⟨by show (_ : Int) ≤ (i : Int); omega, by show (i : Int) ≤ _; omega⟩
set_option maxRecDepth 10000 attribute [local irreducible] Code.wp wpList Calls Ex Op1 sat bat blk cb own Go.Fw.mp Go.Fw.mpO Go.Fw.mpI Go.Fw.mpE Go.Fw.itr HS Rd Ret wkD Hp Cl Cls Exit.then Exit.inBlock Exit.noGoto bodyPost Go.Fw.flat wk2 Go.Fw.all Go.Fw.owns wpOp
attribute [local irreducible] sk mpK sko mvO entK opM Go.Fw.mset Go.Fw.mv opK w63 frz obI RV idxF quoteF itoaB textF

theorem SrW.drop1 {w0 w : World} {c : Cx} {bM : Nat} {g : Grs} {kd fuel : Int} {H : List It} {x : It} {r : Sr} (h : SrW w0 c bM g kd fuel (x :: H) r w) : SrW w0 c bM g kd fuel H r w := by
  cases r with
  | go m =>
    obtain ⟨e, h1, oO, cO, oS, cS, pc, bv, mm, fms, sx, ph, h2, h3⟩ := h
    exact ⟨e, h1, oO, cO, oS, cS, pc, bv, mm, fms, sx, ph, h2.rm 7, h3⟩
  | stop k s wd =>
    obtain ⟨oO, cO, oS, nS, cS, pc, bv, pb, pi, ph, b, h2⟩ := h
    exact ⟨oO, cO, oS, nS, cS, pc, bv, pb, pi, ph, b, h2.rm 3⟩
theorem MEnd.drop1 {w0 w : World} {bM : Nat} {g : Grs} {kd fuel : Int} {H : List It} {x : It} {k : Int} {s : ByteArray} {wd : Wd} (h : MEnd w0 bM g kd fuel (x :: H) k s wd w) : MEnd w0 bM g kd fuel H k s wd w := by
  obtain ⟨oO, cO, oS, nS, cS, pc, bv, pb, pi, ph, b, h2⟩ := h
  exact ⟨oO, cO, oS, nS, cS, pc, bv, pb, pi, ph, b, h2.rm 3⟩
set_option maxHeartbeats 32000000 in
theorem ins_spec {w0 w : World} {H : List It} {c : Cx} {bM : Nat} {g : Grs} {kd fuel : Int} {m : Mc} {oO oS ph : Option Addr} {cO cS pc bv : Nat} {mm : List (Int × Value)} {fms : List FmM} {sx : Sx} (hH : HS w0 noM (cb bM 86 (encW g kd m.wd.inp oO m.wd.out.length cO ++ encR g fuel oS fms.length cS pc bv (blkA g m.fm.c.1 m.fm.b) m.fm.i ph none) :: own 5 1 oO m.wd.out.length cO (flat encY m.wd.out) :: frz w0 c.K :: all (sx.map obI) :: own 83 5 oS fms.length cS (flat encFm fms) :: all (fms.map mpF) :: mp bv mm :: H) w) (hpc : FnR c m.fm.c.1 m.fm.c.2 pc) (hmm : MapR c m.fm.vs mm) (hfs : FsR g c m.sk fms) (hst : StR c sx m.wd.st) (x : Ins) (hR : RdGs w0 g) (hnf : c.nf = g.fs.l.length) (hne : ∀ f ∈ g.fs.l, 0 < f.bs.l.length) (hsz : ∀ s ∈ g.ss.l, s.size ≤ 4096) (hxs : ∀ s ∈ g.xs.l, s.size ≤ 4611686018427387904) (hfl : m.sk.length ≤ 1000000)
    (hK0 : ∀ w, c.K w → Kp w0 noM w) (mine : Int) (hF : FormP g (g.fs.l.map Gr.caps) mine x.r) (ha : ∀ a ∈ x.r.a.l, atW g a) (hRi : RdIn w0 x) (hla : x.r.a.l.length ≤ 1048576) (hbn : x.r.ns.l.length ≤ c.bd) (hbd : c.bd ≤ 1000000) (hout : m.wd.out.length ≤ 1000000) (hil : m.fm.i ≤ 1000000000000) :
    Ret Tryz.prog 28 #[.pointer (some (bat bM 0)), .agg (encIn x).toArray] w (fun r w' => SrW w0 c bM g kd fuel H (insF g m.fm x m.wd m.sk) w') := by
  (refine enter (N := 127) Tryz.func28 rfl Tryz.ntmps28 rfl ?_; intro a hA; dsimp only [sl0, Nat.reduceAdd] at hA)
  repeat' (first | (refine QT ?_; clear hA a; intro a hA) | (refine BT ?_; clear hA hH; rintro _ w ⟨bN, rfl, hH⟩ a hA) | (refine CT ?_ <;> repeat' refine CT ?_))
  obtain ⟨b3, hb3⟩ : ∃ x, x = bN := ⟨_, rfl⟩
  rw [← hb3] at hA hH
  clear hb3 bN
  (refine st_op hA rfl rfl (by decide) (op_call rfl rfl rfl (all_spec w0 w (own 5 1 oO m.wd.out.length cO (flat encY m.wd.out) :: frz w0 c.K :: all (sx.map obI) :: own 83 5 oS fms.length cS (flat encFm fms) :: all (fms.map mpF) :: cb b3 59 (encIn x) :: H) c bM g kd m.wd.inp oO oS m.wd.out.length cO fms.length cS pc bv fuel m.fm.i _ ph none m.fm mm x.r.a (hH.perm (by (repeat (first | exact List.Perm.refl _ | exact List.Perm.nil | refine perm_pick 0 rfl ?_ | refine perm_pick 1 rfl ?_ | refine perm_pick 2 rfl ?_ | refine perm_pick 3 rfl ?_ | refine perm_pick 4 rfl ?_ | refine perm_pick 5 rfl ?_ | refine perm_pick 6 rfl ?_ | refine perm_pick 7 rfl ?_ | refine perm_pick 8 rfl ?_ | refine perm_pick 9 rfl ?_ | refine perm_pick 10 rfl ?_ | refine perm_pick 11 rfl ?_)))) hmm ha hR.2.2.2.2.2 hsz hRi.2 hla)) ?_; clear hA hH; rintro _ w ⟨oL, cL, vs, rfl, hV0, hH⟩ a hA)
  have hvl := hV0.len
  rw [all_len] at hvl
  have hlc : vs.length ≤ cL ∧ cL ≤ maxLen := hH.own_le (T := 137) (o := oL) (by exact MEMT)
  have hle := c.more (fun w => Rd w oL vs)
  replace hH := (hH.perm (H' := own 137 1 oL vs.length cL vs :: frz w0 c.K :: cb bM 86 (encW g kd m.wd.inp oO m.wd.out.length cO ++ encR g fuel oS fms.length cS pc bv (blkA g m.fm.c.1 m.fm.b) m.fm.i ph none) :: own 5 1 oO m.wd.out.length cO (flat encY m.wd.out) :: all (sx.map obI) :: own 83 5 oS fms.length cS (flat encFm fms) :: all (fms.map mpF) :: mp bv mm :: cb b3 59 (encIn x) :: H) (by (repeat (first | exact List.Perm.refl _ | exact List.Perm.nil | refine perm_pick 0 rfl ?_ | refine perm_pick 1 rfl ?_ | refine perm_pick 2 rfl ?_ | refine perm_pick 3 rfl ?_ | refine perm_pick 4 rfl ?_ | refine perm_pick 5 rfl ?_ | refine perm_pick 6 rfl ?_ | refine perm_pick 7 rfl ?_ | refine perm_pick 8 rfl ?_ | refine perm_pick 9 rfl ?_ | refine perm_pick 10 rfl ?_ | refine perm_pick 11 rfl ?_)))).frz_own
  obtain ⟨c1, hc1⟩ : ∃ c1 : Cx, c1 = { c with K := fun w => Rd w oL vs ∧ c.K w } := ⟨_, rfl⟩
  have hL : ∀ w, c1.K w → Rd w oL vs := fun w h => by rw [hc1] at h; exact h.1
  have hK1 : ∀ w, c1.K w → Kp w0 noM w := fun w h => by rw [hc1] at h; exact hK0 w h.2
  have hKe : c1.K = fun w => Rd w oL vs ∧ c.K w := by rw [hc1]
  have hbe : c1.bd = c.bd := by rw [hc1]
  have hne1 : c1.nf = c.nf := by rw [hc1]
  rw [← hKe] at hH
  replace hH := hH.perm (H' := cb bM 86 (encW g kd m.wd.inp oO m.wd.out.length cO ++ encR g fuel oS fms.length cS pc bv (blkA g m.fm.c.1 m.fm.b) m.fm.i ph none) :: own 5 1 oO m.wd.out.length cO (flat encY m.wd.out) :: frz w0 c1.K :: all (sx.map obI) :: own 83 5 oS fms.length cS (flat encFm fms) :: all (fms.map mpF) :: mp bv mm :: cb b3 59 (encIn x) :: H) (by (repeat (first | exact List.Perm.refl _ | exact List.Perm.nil | refine perm_pick 0 rfl ?_ | refine perm_pick 1 rfl ?_ | refine perm_pick 2 rfl ?_ | refine perm_pick 3 rfl ?_ | refine perm_pick 4 rfl ?_ | refine perm_pick 5 rfl ?_ | refine perm_pick 6 rfl ?_ | refine perm_pick 7 rfl ?_ | refine perm_pick 8 rfl ?_ | refine perm_pick 9 rfl ?_ | refine perm_pick 10 rfl ?_ | refine perm_pick 11 rfl ?_)))
  rw [← hc1] at hle
  have hst1 := hst.more (fun w => Rd w oL vs)
  rw [← hc1] at hst1
  clear hc1 hKe
  have hV := RVs.mono hle _ _ hV0
  replace hpc := hpc.mono hle
  replace hmm := hmm.mono hle
  replace hfs := hfs.mono hle
  have hnf1 : c1.nf = g.fs.l.length := by omega
  have hsp : Sp oL vs.length := (hL w (hH.frz (by exact MEMT))).sp (sz := 1) (by omega) (by omega)
  have hkl := hF.lo
  have hkh := hF.hi
  obtain ⟨kk, hkk⟩ : ∃ kk, kk = x.r.k := ⟨_, rfl⟩
  by_cases h3 : x.r.k = 3
  · have h2 := want2 hF (.inl h3)
    obtain ⟨v0, hv0, hx0⟩ := hV.get0 (i := 0) (by rw [all_len]; omega)
    obtain ⟨v1, hv1, hx1⟩ := hV.get0 (i := 1) (by rw [all_len]; omega)
    repeat' (first | ((first | apply st_ex hA hH rfl rfl (by decide) | apply dr_ex hA rfl rfl rfl (by decide) | apply dr_exp hA rfl rfl rfl (by decide) | apply dr_ex3 hA hH rfl rfl rfl (by decide)); (first | (apply ex_indexAddr; rfl; rfl; decide; omega; exact hsp) | (apply ex_load; rfl; exact cl_frz MEMT hL hv0) | (apply ex_load; rfl; exact cl_frz MEMT hL hv1) | (apply ex_iface; rfl)); clear hA a; intro a hA) | (refine QT ?_; clear hA a; intro a hA) | ((first | refine CT ?_ | (refine DT ?_ ?_ <;> intro hc <;> try (exfalso; omega))) <;> repeat' refine CT ?_))
    (refine wp_draw2_HS [(0, 1), (1, 1), (2, 1), (3, 1), (4, 1), (5, 1), (6, 1)] [7] mixed (by decide +kernel) hH ?_; replace hH := hH.drew)
    repeat' (first | ((first | apply st_ex hA hH rfl rfl (by decide) | apply dr_ex hA rfl rfl rfl (by decide) | apply dr_exp hA rfl rfl rfl (by decide) | apply dr_ex3 hA hH rfl rfl rfl (by decide)); (first | (apply ex_indexAddr; rfl; rfl; decide; omega; exact hsp) | (apply ex_load; rfl; exact cl_frz MEMT hL hv0) | (apply ex_load; rfl; exact cl_frz MEMT hL hv1) | (apply ex_iface; rfl)); clear hA a; intro a hA) | (refine QT ?_; clear hA a; intro a hA) | (refine CT ?_ <;> repeat' refine CT ?_))
    (refine dr_op3 hA rfl rfl rfl (by decide) (op_call rfl rfl rfl (callS (h := none) (hd := none) hH hpc hmm hfs hst1 hx0 hx1 rfl hR hnf1 hne hfl)) ?_; clear hA hH; rintro _ w hS a hA)
    repeat' (first | (refine QT ?_; clear hA a; intro a hA) | (refine CT ?_ <;> repeat' refine CT ?_))
    exact rt0 (.inl rfl) rfl hA (by rw [in_3 h3]; exact (SrW.le hle hbe hS).drop1)
  by_cases h14 : x.r.k = 14
  · have h2 := want2 hF (.inr (.inr h14))
    obtain ⟨v0, hv0, hx0⟩ := hV.get0 (i := 0) (by rw [all_len]; omega)
    obtain ⟨v1, hv1, hx1⟩ := hV.get0 (i := 1) (by rw [all_len]; omega)
    have e14 := in_14 (g := g) (fm := m.fm) (wd := m.wd) (sk := m.sk) h14
    rcases hx0.asFn with ⟨fi, fl, fp, hs, hv0e, hf⟩ | ⟨hs, hn⟩
    · rw [hs] at e14
      dsimp only at e14
      unfold ptrV at hv0e
      subst hv0e
      obtain ⟨o9, k9, vs9, hfr9, hp9, _⟩ := id hf
      repeat' (first | ((first | apply st_ex hA hH rfl rfl (by decide) | apply dr_ex hA rfl rfl rfl (by decide) | apply dr_exp hA rfl rfl rfl (by decide) | apply dr_ex3 hA hH rfl rfl rfl (by decide)); (first | (apply ex_indexAddr; rfl; rfl; decide; omega; exact hsp) | (apply ex_load; rfl; exact cl_frz MEMT hL hv0) | (apply ex_load; rfl; exact cl_frz MEMT hL hv1) | (apply ex_iface; rfl) | (apply ex_assertY; rfl)); clear hA a; intro a hA) | (refine QT ?_; clear hA a; intro a hA) | ((first | refine CT ?_ | (refine DT ?_ ?_ <;> intro hc <;> try (exfalso; omega))) <;> repeat' refine CT ?_))
      (refine wp_draw_HS [(0, 1), (1, 1), (2, 1), (3, 1), (4, 1), (5, 1), (6, 1), (7, 1), (8, 1), (9, 1), (10, 1), (11, 1)] mixed (by decide +kernel) hH ?_; replace hH := hH.drew)
      repeat' (first | (refine GT ?_ ?_ <;> intro hg <;> clear hA a <;> intro a hA <;> (first | exact FA | replace hg := of_decide_eq_true hg | replace hg := of_decide_eq_false hg | skip)) | ((first | apply st_ex hA hH rfl rfl (by decide) | apply dr_ex hA rfl rfl rfl (by decide) | apply dr_exp hA rfl rfl rfl (by decide) | apply dr_ex3 hA hH rfl rfl rfl (by decide)); (first | (apply ex_indexAddr; rfl; rfl; decide; omega; exact hsp) | (apply ex_load; rfl; exact cl_frz MEMT hL hv0) | (apply ex_load; rfl; exact cl_frz MEMT hL hv1) | (apply ex_iface; rfl) | (apply ex_load; rfl; exact cl_frzB MEMT hp9 rfl)); clear hA a; intro a hA) | (refine QT ?_; clear hA a; intro a hA) | ((first | refine CT ?_ | (refine DT ?_ ?_ <;> intro hc <;> try (exfalso; omega))) <;> repeat' refine CT ?_))
      · repeat' (first | (refine QT ?_; clear hA a; intro a hA) | (refine st_op hA rfl rfl (by decide) (op_call rfl rfl rfl (stopS hH hpc hmm hfs hst1 4 empS)) ?_; clear hA hH; rintro _ w hS a hA) | (refine CT ?_ <;> repeat' refine CT ?_))
        exact rt0 (.inl rfl) rfl hA (SrW.stop (by rw [e14, if_neg (by assumption)]; rfl) hS.drop1)
      (refine wp_draw2_HS [(0, 1), (1, 1), (2, 1), (3, 1), (4, 1), (5, 1), (6, 1)] [7] mixed (by decide +kernel) hH ?_; replace hH := hH.drew)
      repeat' (first | ((first | apply st_ex hA hH rfl rfl (by decide) | apply dr_ex hA rfl rfl rfl (by decide) | apply dr_exp hA rfl rfl rfl (by decide) | apply dr_ex3 hA hH rfl rfl rfl (by decide)); (first | (apply ex_indexAddr; rfl; rfl; decide; omega; exact hsp) | (apply ex_load; rfl; exact cl_frz MEMT hL hv0) | (apply ex_load; rfl; exact cl_frz MEMT hL hv1) | (apply ex_iface; rfl)); clear hA a; intro a hA) | (refine QT ?_; clear hA a; intro a hA) | (refine CT ?_ <;> repeat' refine CT ?_))
      (refine dr_op3 hA rfl rfl rfl (by decide) (op_call rfl rfl rfl (callS (h := none) (hd := none) hH hpc hmm hfs hst1 hx0 hx1 rfl hR hnf1 hne hfl)) ?_; clear hA hH; rintro _ w hS a hA)
      repeat' (first | (refine QT ?_; clear hA a; intro a hA) | (refine CT ?_ <;> repeat' refine CT ?_))
      exact rt0 (.inl rfl) rfl hA (by rw [e14, if_pos (by omega)]; exact (SrW.le hle hbe hS).drop1)
    · rw [hs] at e14
      dsimp only at e14
      repeat' (first | ((first | apply st_ex hA hH rfl rfl (by decide) | apply dr_ex hA rfl rfl rfl (by decide) | apply dr_exp hA rfl rfl rfl (by decide) | apply dr_ex3 hA hH rfl rfl rfl (by decide)); (first | (apply ex_indexAddr; rfl; rfl; decide; omega; exact hsp) | (apply ex_load; rfl; exact cl_frz MEMT hL hv0) | (apply ex_load; rfl; exact cl_frz MEMT hL hv1) | (apply ex_iface; rfl) | (apply ex_assertX; rfl; exact hn)); clear hA a; intro a hA) | (refine QT ?_; clear hA a; intro a hA) | ((first | refine CT ?_ | (refine DT ?_ ?_ <;> intro hc <;> try (exfalso; omega))) <;> repeat' refine CT ?_))
      (refine wp_draw_HS [(0, 1), (1, 1), (2, 1), (3, 1), (4, 1), (5, 1), (6, 1), (7, 1), (8, 1), (9, 1), (10, 1), (11, 1)] mixed (by decide +kernel) hH ?_; replace hH := hH.drew)
      repeat' (first | (refine GT ?_ ?_ <;> intro hg <;> clear hA a <;> intro a hA <;> (first | exact FA | replace hg := of_decide_eq_true hg | replace hg := of_decide_eq_false hg | skip)) | ((first | apply st_ex hA hH rfl rfl (by decide) | apply dr_ex hA rfl rfl rfl (by decide) | apply dr_exp hA rfl rfl rfl (by decide) | apply dr_ex3 hA hH rfl rfl rfl (by decide)); (first | (apply ex_indexAddr; rfl; rfl; decide; omega; exact hsp) | (apply ex_load; rfl; exact cl_frz MEMT hL hv0) | (apply ex_load; rfl; exact cl_frz MEMT hL hv1) | (apply ex_iface; rfl)); clear hA a; intro a hA) | (refine QT ?_; clear hA a; intro a hA) | (refine st_op hA rfl rfl (by decide) (op_call rfl rfl rfl (stopS hH hpc hmm hfs hst1 4 empS)) ?_; clear hA hH; rintro _ w hS a hA) | (refine CT ?_ <;> repeat' refine CT ?_))
      exact rt0 (.inl rfl) rfl hA (SrW.stop (by rw [e14]; rfl) hS.drop1)
  by_cases h13 : x.r.k = 13
  · have h2 := want2 hF (.inr (.inl h13))
    obtain ⟨v0, hv0, hx0⟩ := hV.get0 (i := 0) (by rw [all_len]; omega)
    obtain ⟨v1, hv1, hx1⟩ := hV.get0 (i := 1) (by rw [all_len]; omega)
    have e13 := in_13 (g := g) (fm := m.fm) (wd := m.wd) (sk := m.sk) h13
    rcases hx1.asFn with ⟨fi, fl, fp, hs, hv1e, hf⟩ | ⟨hs, hn⟩
    · rw [hs] at e13
      dsimp only at e13
      unfold ptrV at hv1e
      subst hv1e
      repeat' (first | ((first | apply st_ex hA hH rfl rfl (by decide) | apply dr_ex hA rfl rfl rfl (by decide) | apply dr_exp hA rfl rfl rfl (by decide) | apply dr_ex3 hA hH rfl rfl rfl (by decide)); (first | (apply ex_indexAddr; rfl; rfl; decide; omega; exact hsp) | (apply ex_load; rfl; exact cl_frz MEMT hL hv0) | (apply ex_load; rfl; exact cl_frz MEMT hL hv1) | (apply ex_iface; rfl) | (apply ex_assertY; rfl)); clear hA a; intro a hA) | (refine QT ?_; clear hA a; intro a hA) | ((first | refine CT ?_ | (refine DT ?_ ?_ <;> intro hc <;> try (exfalso; omega))) <;> repeat' refine CT ?_))
      (refine st_op hA rfl rfl (by decide) (op_call rfl rfl rfl (callS (h := some (fi, fl)) (hd := some (bat fp 0)) hH hpc hmm hfs hst1 hx0 (RV_num (c := c1) (n := 0) ⟨by decide, by decide⟩) ⟨fp, rfl, hf⟩ hR hnf1 hne hfl)) ?_; clear hA hH; rintro _ w hS a hA)
      repeat' (first | (refine QT ?_; clear hA a; intro a hA) | (refine CT ?_ <;> repeat' refine CT ?_))
      exact rt0 (.inl rfl) rfl hA (by rw [e13]; exact (SrW.le hle hbe hS).drop1)
    · rw [hs] at e13
      dsimp only at e13
      repeat' (first | ((first | apply st_ex hA hH rfl rfl (by decide) | apply dr_ex hA rfl rfl rfl (by decide) | apply dr_exp hA rfl rfl rfl (by decide) | apply dr_ex3 hA hH rfl rfl rfl (by decide)); (first | (apply ex_indexAddr; rfl; rfl; decide; omega; exact hsp) | (apply ex_load; rfl; exact cl_frz MEMT hL hv0) | (apply ex_load; rfl; exact cl_frz MEMT hL hv1) | (apply ex_iface; rfl) | (apply ex_assertX; rfl; exact hn)); clear hA a; intro a hA) | (refine QT ?_; clear hA a; intro a hA) | (refine st_op hA rfl rfl (by decide) (op_call rfl rfl rfl (stopS hH hpc hmm hfs hst1 4 empS)) ?_; clear hA hH; rintro _ w hS a hA) | ((first | refine CT ?_ | (refine DT ?_ ?_ <;> intro hc <;> try (exfalso; omega))) <;> repeat' refine CT ?_))
      exact rt0 (.inl rfl) rfl hA (SrW.stop (by rw [e13]; rfl) hS.drop1)
  have ep := in_p (g := g) (fm := m.fm) (i := x) (wd := m.wd) (sk := m.sk) ⟨h3, h14, h13⟩
  repeat' (first | (refine QT ?_; clear hA a; intro a hA) | ((first | refine CT ?_ | (refine DT ?_ ?_ <;> intro hc <;> try (exfalso; omega))) <;> repeat' refine CT ?_))
  have hS0 : (fun w => ∃ s oO nO cO, HS w0 noM [cb bM 86 (encW g kd s oO nO cO ++ encR g fuel oS fms.length cS pc bv (blkA g m.fm.c.1 m.fm.b) m.fm.i ph none), cb b3 59 (encIn x)] w) w := ⟨_, _, _, _, ((((((HS.left (H1 := [_, _, _, _, _, _, _, _]) hH).rm 1).rm 1).rm 1).rm 1).rm 1).rm 1⟩
  have hS1 : Cls (fun w => ∃ s oO nO cO, HS w0 noM [cb bM 86 (encW g kd s oO nO cO ++ encR g fuel oS fms.length cS pc bv (blkA g m.fm.c.1 m.fm.b) m.fm.i ph none), cb b3 59 (encIn x)] w) (bat b3 1) (encSt x.r) := Cls.ex4 (F := fun s oO nO cO w => HS w0 noM [cb bM 86 (encW g kd s oO nO cO ++ encR g fuel oS fms.length cS pc bv (blkA g m.fm.c.1 m.fm.b) m.fm.i ph none), cb b3 59 (encIn x)] w) fun s oO nO cO => cls_cb (by exact MEMT) (in_sub x)
  have hS2 : Cl (fun w => ∃ s oO nO cO, HS w0 noM [cb bM 86 (encW g kd s oO nO cO ++ encR g fuel oS fms.length cS pc bv (blkA g m.fm.c.1 m.fm.b) m.fm.i ph none), cb b3 59 (encIn x)] w) (bat bM 12) (.pointer (some (bat pc 0))) := Cl.ex4 (F := fun s oO nO cO w => HS w0 noM [cb bM 86 (encW g kd s oO nO cO ++ encR g fuel oS fms.length cS pc bv (blkA g m.fm.c.1 m.fm.b) m.fm.i ph none), cb b3 59 (encIn x)] w) fun s oO nO cO => cl_cb (by exact MEMT) rfl
  refine wp_draw [(0, 1), (1, 1), (2, 1), (3, 1), (4, 1), (5, 1), (6, 1), (7, 1), (8, 1), (9, 1), (10, 1), (11, 0), (12, 1), (13, 1), (14, 1), (15, 1), (16, 1)] [] (fun w => ∃ s oO nO cO, HS w0 noM [cb bM 86 (encW g kd s oO nO cO ++ encR g fuel oS fms.length cS pc bv (blkA g m.fm.c.1 m.fm.b) m.fm.i ph none), cb b3 59 (encIn x)] w) mixed (by decide +kernel) (by obtain ⟨s1, o1, n1, c2, h9⟩ := hS0; exact ⟨s1, o1, n1, c2, h9.drew⟩) ?_
  clear hS0
  replace hH := hH.drew
  repeat' (first | ((first | apply st_ex hA hH rfl rfl (by decide) | apply dr_ex hA rfl rfl rfl (by decide) | apply dr_exp hA rfl rfl rfl (by decide) | apply dr_ex3 hA hH rfl rfl rfl (by decide)); (first | (apply ex_load_st (vs := encSt x.r); rfl; rfl; exact hS1) | (apply ex_load; rfl; exact hS2)); clear hA a; intro a hA) | (refine QT ?_; clear hA a; intro a hA))
  have hpl := Plain_spec w0 _ (own 83 5 oS fms.length cS (flat encFm fms) :: all (fms.map mpF) :: mp bv mm :: cb b3 59 (encIn x) :: H) c1 86 bM g kd (encR g fuel oS fms.length cS pc bv (blkA g m.fm.c.1 m.fm.b) m.fm.i ph none) (g.fs.l.map Gr.caps) mine x.r (allF g m.fm x.r.a.l) vs oL oO cL cO m.wd sx m.fm.c.1 m.fm.c.2 pc hH hL hlc hV hst1 hF all_len (by rw [List.length_map]; exact hnf1) hpc hK1 hRi.1 (by omega) (by omega) hout hR.2.2.2.1.le ⟨h3, h13, h14⟩
  (refine dr_op hA rfl rfl rfl (by decide) (op_call rfl rfl rfl hpl) ?_; clear hA hH hpl)
  rintro u w ⟨d, sx2, oO2, cO2, ⟨hle2, hb2⟩, hH, hr, hS2'⟩
  refine ⟨⟨_, _, _, _, ((((((HS.left (H1 := [_, _, _, _, _, _, _, _]) hH).rm 1).rm 1).rm 1).rm 1).rm 1).rm 1⟩, ?_⟩
  clear hS1 hS2
  intro a hA
  have hS2 := hS2'
  clear hS2'
  have hle3 := hle.trans hle2
  have hb3 : d.bd ≤ c.bd + 1 := by omega
  have hpc2 := hpc.mono hle2
  have hmm2 := hmm.mono hle2
  have hfs2 := hfs.mono hle2
  have hnf2 : d.nf = g.fs.l.length := by rw [← hle2.nf]; exact hnf1
  cases hp : plainF x.r (allF g m.fm x.r.a.l) m.fm.c.2 m.wd with
  | exn s =>
    rw [hp] at hH hr hS2 ep
    obtain rfl : u = .tuple #[.nilIface, .string s] := hr
    have hsn := (plain_exn hp).ne
    have hxR := hR.2.2.2.2.1
    have hio := idx_iok (l := g.xs.l) (s := s) hxR.le
    change HS w0 noM (cb bM 86 (encW g kd (m.wd).inp oO2 (m.wd).out.length cO2 ++ encR g fuel oS fms.length cS pc bv (blkA g m.fm.c.1 m.fm.b) m.fm.i ph none) :: own 5 1 oO2 (m.wd).out.length cO2 (flat encY (m.wd).out) :: frz w0 d.K :: all (sx2.map obI) :: own 83 5 oS fms.length cS (flat encFm fms) :: all (fms.map mpF) :: mp bv mm :: cb b3 59 (encIn x) :: H) w at hH
    repeat' (first | ((first | apply st_ex hA hH rfl rfl (by decide) | apply dr_ex hA rfl rfl rfl (by decide) | apply dr_exp hA rfl rfl rfl (by decide) | apply dr_ex3 hA hH rfl rfl rfl (by decide)); (first | (apply ex_neqS; rfl; rfl)); clear hA a; intro a hA) | (refine QT ?_; clear hA a; intro a hA) | ((first | refine CT ?_ | (refine DT ?_ ?_ <;> intro hc <;> try (exfalso; omega))) <;> repeat' refine CT ?_))
    rotate_left
    · exact absurd (hsn.symm.trans (by assumption) : true = false) (by decide)
    (refine st_op hA rfl rfl (by decide) (op_call rfl rfl rfl (Exn_spec w0 w (own 5 1 oO2 (m.wd).out.length cO2 (flat encY (m.wd).out) :: frz w0 d.K :: all (sx2.map obI) :: own 83 5 oS fms.length cS (flat encFm fms) :: all (fms.map mpF) :: mp bv mm :: cb b3 59 (encIn x) :: H) 86 bM [] _ g.xs s hH hxR)) ?_; clear hA hH; rintro _ w ⟨rfl, hH⟩ a hA)
    change HS w0 noM (cb bM 86 (encW g kd (m.wd).inp oO2 (m.wd).out.length cO2 ++ encR g fuel oS fms.length cS pc bv (blkA g m.fm.c.1 m.fm.b) m.fm.i ph none) :: own 5 1 oO2 (m.wd).out.length cO2 (flat encY (m.wd).out) :: frz w0 d.K :: all (sx2.map obI) :: own 83 5 oS fms.length cS (flat encFm fms) :: all (fms.map mpF) :: mp bv mm :: cb b3 59 (encIn x) :: H) w at hH
    (refine st_op hA rfl rfl (by decide) (op_call rfl rfl rfl (raiseS hH hpc2 hmm2 hfs2 hS2 hle3 hb3 hio hR hnf2 hne hfl hxs)) ?_; clear hA hH; rintro _ w hS a hA)
    repeat' (first | (refine QT ?_; clear hA a; intro a hA) | (refine CT ?_ <;> repeat' refine CT ?_))
    exact rt0 (.inr rfl) rfl hA (by rw [ep]; exact hS.drop1)
  | val v wd' =>
    rw [hp] at hH hr hS2 ep
    obtain ⟨u', hu', rfl⟩ := hr
    change HS w0 noM (cb bM 86 (encW g kd (wd').inp oO2 (wd').out.length cO2 ++ encR g fuel oS fms.length cS pc bv (blkA g m.fm.c.1 m.fm.b) m.fm.i ph none) :: own 5 1 oO2 (wd').out.length cO2 (flat encY (wd').out) :: frz w0 d.K :: all (sx2.map obI) :: own 83 5 oS fms.length cS (flat encFm fms) :: all (fms.map mpF) :: mp bv mm :: cb b3 59 (encIn x) :: H) w at hH
    dsimp only at ep
    rcases hu'.isNil with ⟨hn0, rfl⟩ | ⟨hn0, s9, u9, rfl⟩
    · rw [hn0, if_pos rfl] at ep
      repeat' (first | ((first | apply st_ex hA hH rfl rfl (by decide) | apply dr_ex hA rfl rfl rfl (by decide) | apply dr_exp hA rfl rfl rfl (by decide) | apply dr_ex3 hA hH rfl rfl rfl (by decide)); (first | (apply ex_neqS; rfl; rfl) | (apply ex_eqlI0; rfl)); clear hA a; intro a hA) | (refine QT ?_; clear hA a; intro a hA) | ((first | refine CT ?_ | (refine DT ?_ ?_ <;> intro hc <;> try (exfalso; omega))) <;> repeat' refine CT ?_))
      · exact absurd (by assumption : (!(empS.toList == (⟨#[]⟩ : ByteArray).toList)) = true) (by decide +kernel)
      (refine st_op hA rfl rfl (by decide) (op_call rfl rfl rfl (stopS (m := ⟨wd', m.sk, m.fm⟩) hH hpc2 hmm2 hfs2 hS2 4 empS)) ?_; clear hA hH; rintro _ w hS a hA)
      repeat' (first | (refine QT ?_; clear hA a; intro a hA) | (refine CT ?_ <;> repeat' refine CT ?_))
      exact rt0 (.inr rfl) rfl hA (SrW.stop ep hS.drop1)
    · rw [hn0, if_neg (by decide)] at ep
      repeat' (first | ((first | apply st_ex hA hH rfl rfl (by decide) | apply dr_ex hA rfl rfl rfl (by decide) | apply dr_exp hA rfl rfl rfl (by decide) | apply dr_ex3 hA hH rfl rfl rfl (by decide)); (first | (apply ex_neqS; rfl; rfl) | (apply ex_eqlI1; rfl)); clear hA a; intro a hA) | (refine QT ?_; clear hA a; intro a hA) | ((first | refine CT ?_ | (refine DT ?_ ?_ <;> intro hc <;> try (exfalso; omega))) <;> repeat' refine CT ?_))
      · exact absurd (by assumption : (!(empS.toList == (⟨#[]⟩ : ByteArray).toList)) = true) (by decide +kernel)
      (refine wp_draw2_HS [(0, 1), (1, 1), (2, 1), (3, 1), (4, 1), (5, 1), (6, 1), (7, 1)] [8] mixed (by decide +kernel) hH ?_; replace hH := hH.drew)
      repeat' (first | (refine QT ?_; clear hA a; intro a hA) | (apply dr_op03 hA rfl rfl rfl; apply op_mapUpdate; rfl; rfl; rfl; exact hH; (repeat constructor); clear hH; rintro _ w hH) | (apply st_op0 hA rfl rfl; apply op_store_fld (cs' := encW g kd wd'.inp oO2 wd'.out.length cO2 ++ encR g fuel oS fms.length cS pc bv (blkA g m.fm.c.1 m.fm.b) ((m.fm.i + 1 : Nat) : Int) ph none); rfl; rfl; rfl; exact hH; (repeat constructor); clear hH; rintro _ w hH) | (refine CT ?_ <;> repeat' refine CT ?_))
      refine rt0 (.inr rfl) rfl hA (SrW.go (m := ⟨wd', m.sk, { m.fm with vs := pset m.fm.vs x.x v, i := m.fm.i + 1 }⟩) ep hle3 hb3 ⟨oO2, cO2, oS, cS, pc, bv, mset mm x.x (.iface s9 u9), fms, sx2, ph, ?_, hpc2, hmm2.set _ hu', hfs2, hS2⟩)
      exact hH.rm 7
end Go.Proofs.YtenlcdokaadobaaGreatDoor
namespace Go.Proofs.YtenlcdokaadobaaGreatDoor
open Go Go.Fw
set_option linter.unusedVariables false
theorem texts_out {op : Int} {l : List Vl} {wd wd' : Wd} {v : Vl} (h : textsF op l wd = .val v wd') : wd'.out.length ≤ wd.out.length + 1 := by
  unfold textsF stk at h
  repeat' split at h
  all_goals first | (cases h; done) | (cases h; exact Nat.le_succ _)
theorem arrays_out {op : Int} {l : List Vl} {wd wd' : Wd} {v : Vl} (h : arraysF op l wd = .val v wd') : wd'.out.length ≤ wd.out.length + 1 := by
  unfold arraysF stk at h
  repeat' split at h
  all_goals first | (cases h; done) | (cases h; exact Nat.le_succ _)
theorem op_out {op : Int} {l : List Vl} {wd wd' : Wd} {v : Vl} (h : opF op l wd = .val v wd') : wd'.out.length ≤ wd.out.length + 1 := by
  unfold opF stk at h
  repeat' split at h
  all_goals first | (cases h; done) | exact texts_out h | exact arrays_out h | (cases h; exact Nat.le_succ _) | (cases h; simp)
theorem plain_out {r : Stp} {l cs : List Vl} {wd wd' : Wd} {v : Vl} (h : plainF r l cs wd = .val v wd') : wd'.out.length ≤ wd.out.length + 1 := by
  by_cases h2 : r.k = 2
  · rw [pl_2 h2] at h; exact op_out h
  unfold plainF stk at h
  rw [if_neg h2] at h
  repeat' split at h
  all_goals first | (cases h; done) | (cases h; exact Nat.le_succ _)
theorem getD_or {α : Type} (l : List α) (i : Nat) (d : α) : l.getD i d ∈ l ∨ l.getD i d = d := by
  by_cases h : i < l.length
  · exact .inl (getD_mem h)
  · exact .inr (by rw [List.getD_eq_getElem?_getD, List.getElem?_eq_none (by omega)]; rfl)
theorem raiseL_ok {g : Grs} {n : Int} {wd : Wd} : ∀ {sk sk' : List Fm} {c : Clo}, raiseL n wd sk = some (sk', c) → (∀ f ∈ sk, FmOk g f ∧ f.i < (curB g f).is.l.length) → (∀ f ∈ sk', FmOk g f ∧ f.i < (curB g f).is.l.length) ∧ sk'.length ≤ sk.length
  | [], sk', c, h, _ => by cases h
  | f :: r, sk', c, h, hk => by
    unfold raiseL at h
    split at h
    · cases h
      refine ⟨fun f' hf' => ?_, Nat.le_refl _⟩
      rcases List.mem_cons.1 hf' with rfl | hf'
      · have := hk f (List.mem_cons_self ..)
        exact ⟨⟨this.1.f0, this.1.f1, this.1.b⟩, this.2⟩
      · exact hk f' (List.mem_cons_of_mem _ hf')
    · have := raiseL_ok h (fun f' hf' => hk f' (List.mem_cons_of_mem _ hf'))
      exact ⟨this.1, Nat.le_succ_of_le this.2⟩
theorem new_ok {g : Grs} {c : Clo} {x : Vl} (hne : ∀ f ∈ g.fs.l, 0 < f.bs.l.length) (h0 : 0 ≤ c.1) (h1 : c.1 < g.fs.l.length) : FmOk g (newF c x) := ⟨h0, h1, hne _ (getD_mem (show c.1.toNat < g.fs.l.length by omega))⟩
structure StOk (g : Grs) (m m' : Mc) : Prop where
  ok : McOk g m'
  sk : m'.sk.length ≤ m.sk.length + 1
  out : m'.wd.out.length ≤ m.wd.out.length + 1
theorem raise_ok {g : Grs} {n : Int} {m m' : Mc} (hs : raiseF g n m.wd m.sk = .go m') (h : McOk g m) (hne : ∀ f ∈ g.fs.l, 0 < f.bs.l.length) (h0 : 0 ≤ m'.fm.c.1) (h1 : m'.fm.c.1 < g.fs.l.length) : StOk g m m' := by
  unfold raiseF stuckF at hs
  split at hs
  · cases hs
  split at hs
  · rename_i sk' c hr
    cases hs
    obtain ⟨hk, hl⟩ := raiseL_ok (g := g) hr h.sk
    exact ⟨⟨new_ok hne h0 h1, Nat.zero_le _, hk⟩, Nat.le_succ_of_le hl, Nat.le_succ _⟩
  · cases hs
theorem enter_ok {g : Grs} {f x : Vl} {m m' : Mc} (hs : enterF f x m.wd m.sk = .go m') (h : McOk g m) (hne : ∀ f ∈ g.fs.l, 0 < f.bs.l.length) (h0 : 0 ≤ m'.fm.c.1) (h1 : m'.fm.c.1 < g.fs.l.length) : StOk g m m' := by
  unfold enterF stuckF at hs
  split at hs
  · cases hs
    exact ⟨⟨new_ok hne h0 h1, Nat.zero_le _, h.sk⟩, Nat.le_succ _, Nat.le_succ _⟩
  · cases hs
theorem call_ok {g : Grs} {f x : Vl} {hd : Option Clo} {m m' : Mc} (hs : callF f x hd m.wd m.sk m.fm = .go m') (h : McOk g m) (hi : m.fm.i < (curB g m.fm).is.l.length) (hne : ∀ f ∈ g.fs.l, 0 < f.bs.l.length) (h0 : 0 ≤ m'.fm.c.1) (h1 : m'.fm.c.1 < g.fs.l.length) : StOk g m m' := by
  unfold callF stuckF at hs
  split at hs
  · cases hs
    refine ⟨⟨new_ok hne h0 h1, Nat.zero_le _, fun f hf => ?_⟩, Nat.le_refl _, Nat.le_succ _⟩
    rcases List.mem_cons.1 hf with rfl | hf
    · exact ⟨⟨h.fm.f0, h.fm.f1, h.fm.b⟩, hi⟩
    · exact h.sk f hf
  · cases hs
theorem ins_ok {g : Grs} {x : Ins} {m m' : Mc} (hs : insF g m.fm x m.wd m.sk = .go m') (h : McOk g m) (hi : m.fm.i < (curB g m.fm).is.l.length) (hne : ∀ f ∈ g.fs.l, 0 < f.bs.l.length) (h0 : 0 ≤ m'.fm.c.1) (h1 : m'.fm.c.1 < g.fs.l.length) : StOk g m m' := by
  unfold insF at hs
  split at hs
  · exact call_ok hs h hi hne h0 h1
  split at hs
  · split at hs
    · split at hs
      · exact call_ok hs h hi hne h0 h1
      · cases hs
    · cases hs
  split at hs
  · split at hs
    · exact call_ok hs h hi hne h0 h1
    · cases hs
  split at hs
  · exact raise_ok hs h hne h0 h1
  · rename_i v wd' hp
    split at hs
    · cases hs
    · cases hs
      exact ⟨⟨⟨h.fm.f0, h.fm.f1, h.fm.b⟩, hi, h.sk⟩, Nat.le_succ _, plain_out hp⟩
theorem follow_ok {g : Grs} {e : Edg} {m : Mc} (h : McOk g m) (h0 : 0 ≤ e.b) (h1 : e.b < (g.fs.l.getD m.fm.c.1.toNat gr0).bs.l.length) : StOk g m ⟨m.wd, m.sk, followF g m.fm e⟩ :=
  ⟨⟨⟨h.fm.f0, h.fm.f1, by show e.b.toNat < (g.fs.l.getD m.fm.c.1.toNat gr0).bs.l.length; omega⟩, Nat.zero_le _, h.sk⟩, Nat.le_succ _, Nat.le_succ _⟩
theorem back_ok {g : Grs} {kd : Int} {x : Vl} {m m' : Mc} (hs : backF g kd x m.wd m.sk = .go m') (h : McOk g m) : StOk g m m' := by
  obtain ⟨wd, sk, fm⟩ := m
  dsimp only at hs
  unfold backF stuckF at hs
  split at hs
  · split at hs <;> cases hs
  · rename_i f r
    cases hs
    have hf := h.sk f (List.mem_cons_self ..)
    refine ⟨⟨⟨hf.1.f0, hf.1.f1, hf.1.b⟩, hf.2, fun f' hf' => h.sk f' (List.mem_cons_of_mem _ hf')⟩, ?_, Nat.le_succ _⟩
    show r.length ≤ (f :: r).length + 1
    rw [List.length_cons]; omega
theorem last_ok {g : Grs} {kd : Int} {e : En} {m m' : Mc} (hs : lastF g kd m.fm e m.wd m.sk = .go m') (h : McOk g m) (hne : ∀ f ∈ g.fs.l, 0 < f.bs.l.length) (hE : ∀ t ∈ e.to.l, 0 ≤ t.b ∧ t.b < (g.fs.l.getD m.fm.c.1.toNat gr0).bs.l.length) (h0 : 0 ≤ m'.fm.c.1) (h1 : m'.fm.c.1 < g.fs.l.length) : StOk g m m' := by
  have hb := h.fm.b
  have hE2 : ∀ i, 0 ≤ (e.to.l.getD i edg0).b ∧ (e.to.l.getD i edg0).b < (g.fs.l.getD m.fm.c.1.toNat gr0).bs.l.length := fun i => by
    rcases getD_or e.to.l i edg0 with h | h
    · exact hE _ h
    · rw [h]; exact ⟨Int.le_refl _, by show (0 : Int) < _; omega⟩
  unfold lastF stuckF at hs
  split at hs
  · exact back_ok hs h
  split at hs
  · exact enter_ok hs h hne h0 h1
  split at hs
  · cases hs; exact follow_ok h (hE2 _).1 (hE2 _).2
  split at hs
  · cases hs
  split at hs
  · exact raise_ok hs h hne h0 h1
  split at hs
  · cases hs; exact follow_ok h (hE2 _).1 (hE2 _).2
  · cases hs; exact follow_ok h (hE2 _).1 (hE2 _).2
theorem step_ok {g : Grs} {kd : Int} {m m' : Mc} (hs : stepF g kd m = .go m') (h : McOk g m) (hne : ∀ f ∈ g.fs.l, 0 < f.bs.l.length) (hE : ∀ t ∈ (curB g m.fm).e.to.l, 0 ≤ t.b ∧ t.b < (g.fs.l.getD m.fm.c.1.toNat gr0).bs.l.length) (h0 : 0 ≤ m'.fm.c.1) (h1 : m'.fm.c.1 < g.fs.l.length) : StOk g m m' := by
  unfold stepF at hs
  split at hs
  · exact ins_ok hs h (by assumption) hne h0 h1
  · exact last_ok hs h hne hE h0 h1
theorem first_ok {g : Grs} {s : ByteArray} (hne : ∀ f ∈ g.fs.l, 0 < f.bs.l.length) (h : 0 < g.fs.l.length) : McOk g (firstM s) := ⟨new_ok hne (by decide) (by show (0 : Int) < _; omega), Nat.zero_le _, fun f hf => absurd hf (List.not_mem_nil)⟩
theorem may_ne {g : Grs} (h : MayP g) : ∀ f ∈ g.fs.l, 0 < f.bs.l.length := fun f hf => (h.gr f hf).ne
theorem atS_W {g : Grs} {S : Int → Prop} {a : Atm} (hs : g.ss.l.length ≤ 9223372036854775807) (h : atS g S a) : atW g a := by
  rcases h with ⟨h1, h2, h3, _⟩ | ⟨h1, h2, h3⟩ | ⟨h1, h2, h3⟩
  · exact ⟨⟨by omega, by omega⟩, fun e => by omega⟩
  · exact ⟨⟨by omega, by omega⟩, fun e => by omega⟩
  · exact ⟨⟨by omega, by omega⟩, fun e => ⟨h2, h3⟩⟩
structure CurOk (g : Grs) (fm : Fm) : Prop where
  gr : (g.fs.l.getD fm.c.1.toNat gr0) ∈ g.fs.l
  bl : (g.fs.l.getD fm.c.1.toNat gr0).bs.l[fm.b]? = some (curB g fm)
  blk : BlkP g (g.fs.l.getD fm.c.1.toNat gr0) (g.fs.l.map Gr.caps) fm.b (curB g fm) (BS (g.fs.l.getD fm.c.1.toNat gr0) fm.b)
theorem cur_ok {g : Grs} {fm : Fm} (h : MayP g) (hf : FmOk g fm) : CurOk g fm := by
  have hm : (g.fs.l.getD fm.c.1.toNat gr0) ∈ g.fs.l := getD_mem (show fm.c.1.toNat < g.fs.l.length by have := hf.f0; have := hf.f1; omega)
  have hb : (g.fs.l.getD fm.c.1.toNat gr0).bs.l[fm.b]? = some (curB g fm) := by
    unfold curB blkOf
    rw [List.getD_eq_getElem?_getD (l := (g.fs.l.getD fm.c.1.toNat gr0).bs.l), List.getElem?_eq_getElem hf.b]; rfl
  exact ⟨hm, hb, ((h.gr _ hm).blk _ _ hb).2⟩
theorem CurOk.edge {g : Grs} {fm : Fm} (hs : g.ss.l.length ≤ 9223372036854775807) (h : CurOk g fm) {t : Edg} (ht : t ∈ (curB g fm).e.to.l) : 0 ≤ t.b ∧ t.b < (g.fs.l.getD fm.c.1.toNat gr0).bs.l.length ∧ t.a.l.length = (blkOf g fm.c.1 t.b.toNat).ps.l.length ∧ ∀ a ∈ t.a.l, atW g a := by
  obtain ⟨h1, h2, h3, h4⟩ := h.blk.edges t ht
  exact ⟨by omega, h2, h3, fun a ha => atS_W hs (h4 a ha)⟩
theorem sum_mem {α : Type} (f : α → Nat) : ∀ {l : List α} {x : α}, x ∈ l → f x ≤ (l.map f).sum
  | y :: l, x, h => by
    rw [List.map_cons, List.sum_cons]
    rcases List.mem_cons.1 h with rfl | h
    · omega
    · have := sum_mem f h; omega
theorem CurOk.size {g : Grs} {fm : Fm} (h : CurOk g fm) (hs : grsN g ≤ 65536) : blkN (curB g fm) ≤ 65536 := by
  have h1 := sum_mem grN h.gr
  have h2 := sum_mem blkN (List.mem_of_getElem? h.bl)
  have h3 : grN (g.fs.l.getD fm.c.1.toNat gr0) = ((g.fs.l.getD fm.c.1.toNat gr0).bs.l.map blkN).sum := rfl
  have h4 : grsN g = (g.fs.l.map grN).sum := rfl
  omega
theorem len_sum {α : Type} (f : α → Nat) : ∀ (l : List α), l.length ≤ (l.map fun x => 1 + f x).sum
  | [] => Nat.le_refl _
  | x :: l => by
    have := len_sum f l
    rw [List.map_cons, List.sum_cons, List.length_cons]
    omega
theorem blk_sizes {bl : Blc} (h : blkN bl ≤ 65536) : bl.ps.l.length ≤ 65536 ∧ bl.is.l.length ≤ 65536 ∧ (∀ i ∈ bl.is.l, i.r.a.l.length ≤ 65536) ∧ bl.e.a.l.length ≤ 65536 ∧ bl.e.to.l.length ≤ 65536 ∧ ∀ t ∈ bl.e.to.l, t.a.l.length ≤ 65536 := by
  unfold blkN at h
  have h1 : bl.is.l.length ≤ (bl.is.l.map fun i => 1 + i.r.a.l.length).sum := len_sum (fun i : Ins => i.r.a.l.length) bl.is.l
  have h2 : bl.e.to.l.length ≤ (bl.e.to.l.map fun t => 1 + t.a.l.length).sum := len_sum (fun t : Edg => t.a.l.length) bl.e.to.l
  refine ⟨by omega, by omega, fun i hi => ?_, by omega, by omega, fun t ht => ?_⟩
  · have := sum_mem (fun i : Ins => 1 + i.r.a.l.length) hi
    omega
  · have := sum_mem (fun t : Edg => 1 + t.a.l.length) ht
    omega
end Go.Proofs.YtenlcdokaadobaaGreatDoor
