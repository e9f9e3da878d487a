/-
  What graphs come to (plain): the machine whole; its state as it lies in memory. Conditions: none.
  The machine: follow. Conditions: none.
  The machine: stop, raise, call, enter, back, follow, told by the state as it lies in memory. Conditions: none.
  The machine: a step. Conditions: none.
  The machine (plain): where a step comes to. Conditions: none.
  How many parts graphs have. Conditions: none.
  awake's graphs (plain). Conditions: none.
  anf.May at functions that return five: exactly (printed by mkat5.py). Conditions: none.
  ssa.Of's parts: copies, blocks. Conditions: none.
  ssa.Of's parts at a function that returns a number: fill, order, graph. Conditions: none.
  ssa.Of's parts at a function that returns a number: order. Conditions: none.
-/
import Derived.Test.YtenlcdokaadobaaGreatDoorRowNamesMg6
import Derived.Test.YtenlcdokaadobaaGreatDoorRowNamesMg4
import Derived.Test.YtenlcdokaadobaaGreatDoorRowNamesMg5
namespace Go.Proofs.YtenlcdokaadobaaGreatDoor
open Go Go.Fw
set_option linter.unusedVariables false
def atm0 : Atm := ⟨0, 0⟩
def edg0 : Edg := ⟨0, nilV⟩
def isNil : Vl → Bool
  | .nil => true
  | _ => false
def insAt (g : Grs) (f : Fm) : Ins := (curB g f).is.l.getD f.i ins0
def backF (g : Grs) (kd : Int) (x : Vl) (wd : Wd) : List Fm → Sr
  | [] => match textF g kd x with
    | some s => .stop 1 s wd
    | none => stuckF wd
  | f :: r => .go ⟨wd, r, { f with vs := pset f.vs (insAt g f).x x, i := f.i + 1 }⟩
def setsF : List (Int × Vl) → List Int → List Vl → List (Int × Vl)
  | m, p :: ps, v :: vs => setsF (pset m p v) ps vs
  | m, _, _ => m
def followF (g : Grs) (fm : Fm) (e : Edg) : Fm := { fm with vs := setsF fm.vs (blkOf g fm.c.1 e.b.toNat).ps.l (allF g fm e.a.l), b := e.b.toNat, i := 0 }
def callF (f x : Vl) (h : Option Clo) (wd : Wd) (sk : List Fm) (fm : Fm) : Sr :=
  match asFn f with
  | some c => .go ⟨wd, { fm with h := h } :: sk, newF c x⟩
  | none => stuckF wd
def insF (g : Grs) (fm : Fm) (i : Ins) (wd : Wd) (sk : List Fm) : Sr :=
  if i.r.k = 3 then callF (nth0 (allF g fm i.r.a.l) 0) (nth0 (allF g fm i.r.a.l) 1) none wd sk fm
  else if i.r.k = 14 then
    match asFn (nth0 (allF g fm i.r.a.l) 0) with
    | some c => if c.1 = i.r.n then callF (nth0 (allF g fm i.r.a.l) 0) (nth0 (allF g fm i.r.a.l) 1) none wd sk fm else stuckF wd
    | none => stuckF wd
  else if i.r.k = 13 then
    match asFn (nth0 (allF g fm i.r.a.l) 1) with
    | some h => callF (nth0 (allF g fm i.r.a.l) 0) (.num 0) (some h) wd sk fm
    | none => stuckF wd
  else match plainF i.r (allF g fm i.r.a.l) fm.c.2 wd with
    | .exn s => raiseF g (idxF g.xs.l s) wd sk
    | .val v wd' => if isNil v then stuckF wd' else .go ⟨wd', sk, { fm with vs := pset fm.vs i.x v, i := fm.i + 1 }⟩
def lastF (g : Grs) (kd : Int) (fm : Fm) (e : En) (wd : Wd) (sk : List Fm) : Sr :=
  if e.k = 1 then backF g kd (getF g fm (e.a.l.getD 0 atm0)) wd sk
  else if e.k = 2 then enterF (getF g fm (e.a.l.getD 0 atm0)) (getF g fm (e.a.l.getD 1 atm0)) wd sk
  else if e.k = 4 then .go ⟨wd, sk, followF g fm (e.to.l.getD 0 edg0)⟩
  else match asNum (getF g fm (e.a.l.getD 0 atm0)) with
    | none => stuckF wd
    | some n =>
      if e.k = 3 then raiseF g n wd sk
      else if e.k = 5 then .go ⟨wd, sk, followF g fm (e.to.l.getD (if n = 0 then 1 else 0) edg0)⟩
      else .go ⟨wd, sk, followF g fm (e.to.l.getD (if bsB e.ns.l n then bsI e.ns.l n else e.ns.l.length) edg0)⟩
def stepF (g : Grs) (kd : Int) (m : Mc) : Sr :=
  if m.fm.i < (curB g m.fm).is.l.length then insF g m.fm (insAt g m.fm) m.wd m.sk else lastF g kd m.fm (curB g m.fm).e m.wd m.sk
def runF (g : Grs) (kd : Int) : Nat → Mc → Int × ByteArray × Wd
  | 0, m => (2, empS, m.wd)
  | n + 1, m => match stepF g kd m with
    | .go m' => runF g kd n m'
    | .stop k r wd => (k, r, wd)
def firstM (s : ByteArray) : Mc := ⟨⟨s, [], []⟩, [], newF (0, []) (.num 0)⟩
def MSt (w0 : World) (c : Cx) (bM : Nat) (g : Grs) (kd fuel : Int) (H : List It) (m : Mc) (w : World) : Prop :=
  ∃ oO cO oS cS pc bv mm fms sx ph,
    HS w0 noM (cb bM 86 (encW g kd m.wd.inp oO m.wd.out.length cO ++ encR g fuel oS fms.length cS pc bv (blkA g m.fm.c.1 m.fm.b) m.fm.i ph none) :: own 5 1 oO m.wd.out.length cO (flat encY m.wd.out) :: frz w0 c.K :: all (sx.map obI) :: own 83 5 oS fms.length cS (flat encFm fms) :: all (fms.map mpF) :: mp bv mm :: H) w ∧
    FnR c m.fm.c.1 m.fm.c.2 pc ∧ MapR c m.fm.vs mm ∧ FsR g c m.sk fms ∧ StR c sx m.wd.st
def MEnd (w0 : World) (bM : Nat) (g : Grs) (kd fuel : Int) (H : List It) (k : Int) (r : ByteArray) (wd : Wd) (w : World) : Prop :=
  ∃ oO cO oS nS cS pc bv pb pi ph b,
    HS w0 noM (cb bM 86 (encW g kd wd.inp oO wd.out.length cO ++ encR g fuel oS nS cS pc bv pb pi ph (some (bat b 0))) :: own 5 1 oO wd.out.length cO (flat encY wd.out) :: cb b 29 (encO3 k empS r) :: H) w
def SrW (w0 : World) (c : Cx) (bM : Nat) (g : Grs) (kd fuel : Int) (H : List It) (r : Sr) (w : World) : Prop :=
  match r with
  | .go m => ∃ d, (c.le d ∧ d.bd ≤ c.bd + 1) ∧ MSt w0 d bM g kd fuel H m w
  | .stop k s wd => MEnd w0 bM g kd fuel H k s wd w
theorem SrW.go {w0 w : World} {c d : Cx} {bM : Nat} {g : Grs} {kd fuel : Int} {H : List It} {r : Sr} {m : Mc} (hr : r = .go m) (hle : c.le d) (hb : d.bd ≤ c.bd + 1) (h : MSt w0 d bM g kd fuel H m w) : SrW w0 c bM g kd fuel H r w := by rw [hr]; exact ⟨d, ⟨hle, hb⟩, h⟩
theorem SrW.stop {w0 w : World} {c : Cx} {bM : Nat} {g : Grs} {kd fuel : Int} {H : List It} {r : Sr} {k : Int} {s : ByteArray} {wd : Wd} (hr : r = .stop k s wd) (h : MEnd w0 bM g kd fuel H k s wd w) : SrW w0 c bM g kd fuel H r w := by rw [hr]; exact h
structure FmOk (g : Grs) (f : Fm) : Prop where
  f0 : 0 ≤ f.c.1
  f1 : f.c.1 < g.fs.l.length
  b : f.b < (g.fs.l.getD f.c.1.toNat gr0).bs.l.length
structure McOk (g : Grs) (m : Mc) : Prop where
  fm : FmOk g m.fm
  i : m.fm.i ≤ (curB g m.fm).is.l.length
  sk : ∀ f ∈ m.sk, FmOk g f ∧ f.i < (curB g f).is.l.length
set_option maxRecDepth 10000 attribute [local irreducible] Code.wp wpList Calls Ex Op1 sat bat blk cb own Go.Fw.mp Go.Fw.mpO Go.Fw.mpI Go.Fw.mpE Go.Fw.itr HS Rd Ret wkD Hp Cl Cls Exit.then Exit.inBlock Exit.noGoto bodyPost Go.Fw.flat wk2 Go.Fw.all Go.Fw.owns wpOp
attribute [local irreducible] sk mpK sko mvO entK opM Go.Fw.mset Go.Fw.mv opK w63 frz obI RV idxF quoteF itoaB textF

set_option maxHeartbeats 8000000 in
theorem back0_spec (w0 w : World) (H : List It) (c : Cx) (bM : Nat) (g : Grs) (kd : Int) (s : ByteArray) (oO oS : Option Addr) (nO cO cS pc bv : Nat) (fuel pi : Int) (pb ph pe : Option Addr) (x : Vl) (u : Value) (hH : HS w0 noM (cb bM 86 (encW g kd s oO nO cO ++ encR g fuel oS 0 cS pc bv pb pi ph pe) :: H) w)
    (hu : RV c x u) (hxs : RdV w0 encX g.xs) (hFI : FI w0) :
    Ret Tryz.prog 53 #[.pointer (some (bat bM 0)), u] w (fun r w' => ∃ k res b, (∀ wd, backF g kd x wd [] = .stop k res wd) ∧
      HS w0 noM (cb bM 86 (encW g kd s oO nO cO ++ encR g fuel oS 0 cS pc bv pb pi ph (some (bat b 0))) :: cb b 29 (encO3 k empS res) :: H) w') := by
  (refine enter (N := 87) Tryz.func53 rfl Tryz.ntmps53 rfl ?_; intro a hA; dsimp only [sl0, Nat.reduceAdd] at hA)
  repeat' (first | (refine QT ?_; clear hA a; intro a hA) | (refine CT ?_ <;> repeat' refine CT ?_) | fail)
  (refine st_op hA rfl rfl (by decide) (op_call rfl rfl rfl (Text_spec w0 w _ c 86 bM g kd s _ oO nO cO x u hH hu hxs hFI)) ?_; clear hA hH; rintro _ w ⟨rfl, hH⟩ a hA)
  cases ht : textF g kd x with
  | none =>
    rw [ht] at hA
    unfold txV at hA
    repeat' (first | (refine QT ?_; clear hA a; intro a hA) | (refine st_op hA rfl rfl (by decide) (op_call rfl rfl rfl (stop_spec w0 _ _ bM g kd s oO oS nO cO 0 cS pc bv fuel pi pb ph pe 4 empS hH)) ?_; clear hA hH; rintro _ w ⟨b, hH⟩ a hA) | (refine CT ?_ <;> repeat' refine CT ?_) | fail)
    exact rt0 (.inl rfl) rfl hA ⟨4, empS, b, fun wd => by unfold backF; rw [ht]; rfl, hH⟩
  | some t =>
    rw [ht] at hA
    unfold txV at hA
    repeat' (first | (refine QT ?_; clear hA a; intro a hA) | (refine st_op hA rfl rfl (by decide) (op_call rfl rfl rfl (stop_spec w0 _ _ bM g kd s oO oS nO cO 0 cS pc bv fuel pi pb ph pe 1 t hH)) ?_; clear hA hH; rintro _ w ⟨b, hH⟩ a hA) | (refine CT ?_ <;> repeat' refine CT ?_) | fail)
    exact rt0 (.inl rfl) rfl hA ⟨1, t, b, fun wd => by unfold backF; rw [ht], hH⟩
end Go.Proofs.YtenlcdokaadobaaGreatDoor
namespace Go.Proofs.YtenlcdokaadobaaGreatDoor
open Go Go.Fw
set_option linter.unusedVariables false
theorem setsF_next : ∀ {m : List (Int × Vl)} {ps : List Int} {vs : List Vl} {i : Nat} {p : Int} {v : Vl}, ps[i]? = some p → vs[i]? = some v → setsF m (ps.take (i + 1)) (vs.take (i + 1)) = pset (setsF m (ps.take i) (vs.take i)) p v
  | m, [], vs, i, p, v, h, h' => by simp at h
  | m, q :: ps, [], i, p, v, h, h' => by simp at h'
  | m, q :: ps, u :: vs, 0, p, v, h, h' => by
    obtain rfl : q = p := by simpa using h
    obtain rfl : u = v := by simpa using h'
    simp [setsF]
  | m, q :: ps, u :: vs, i + 1, p, v, h, h' => by
    rw [List.take_succ_cons, List.take_succ_cons, List.take_succ_cons, List.take_succ_cons, setsF, setsF]
    exact setsF_next (by simpa using h) (by simpa using h')
theorem bs_ps {l : List Blc} {b : Nat} (h : b < l.length) : (flat encBl l)[b * 6 + 0]? = some (.slice (l.getD b blc0).ps.o (l.getD b blc0).ps.l.length (l.getD b blc0).ps.c) := by
  refine flat_get (off := 0) encBl_len (List.getElem?_eq_getElem h) ?_
  rw [List.getD_eq_getElem?_getD, List.getElem?_eq_getElem h]
  rfl
set_option maxRecDepth 10000 attribute [local irreducible] Code.wp wpList Calls Ex Op1 sat bat blk cb own Go.Fw.mp Go.Fw.mpO Go.Fw.mpI Go.Fw.mpE Go.Fw.itr HS Rd Ret wkD Hp Cl Cls Exit.then Exit.inBlock Exit.noGoto bodyPost Go.Fw.flat wk2 Go.Fw.all Go.Fw.owns wpOp
attribute [local irreducible] sk mpK sko mvO entK opM Go.Fw.mset Go.Fw.mv opK w63 frz obI RV idxF quoteF itoaB textF

set_option maxHeartbeats 16000000 in
theorem follow_spec (w0 w : World) (H : List It) (c : Cx) (bM : Nat) (g : Grs) (kd : Int) (s : ByteArray) (oO oS : Option Addr) (nO cO nS cS pc bv : Nat) (fuel pi : Int) (pb ph pe : Option Addr) (fm : Fm) (m : List (Int × Value)) (e : Edg)
    (hH : HS w0 noM (cb bM 86 (encW g kd s oO nO cO ++ encR g fuel oS nS cS pc bv pb pi ph pe) :: mp bv m :: frz w0 c.K :: H) w) (hM : MapR c fm.vs m) (hcf : FnR c fm.c.1 fm.c.2 pc) (ha : ∀ a ∈ e.a.l, atW g a) (hR : RdGs w0 g) (hsz : ∀ s ∈ g.ss.l, s.size ≤ 4096) (hRe : RdV w0 encAt e.a) (hl : e.a.l.length ≤ 1048576)
    (hnf : c.nf = g.fs.l.length) (hb0 : 0 ≤ e.b) (hb1 : e.b < (g.fs.l.getD fm.c.1.toNat gr0).bs.l.length) (hpl : e.a.l.length = (blkOf g fm.c.1 e.b.toNat).ps.l.length) :
    Ret Tryz.prog 55 #[.pointer (some (bat bM 0)), .agg (encEd e).toArray] w (fun r w' => ∃ m', MapR c (followF g fm e).vs m' ∧
      HS w0 noM (cb bM 86 (encW g kd s oO nO cO ++ encR g fuel oS nS cS pc bv (blkA g fm.c.1 e.b.toNat) 0 ph pe) :: mp bv m' :: frz w0 c.K :: H) w') := by
  obtain ⟨oc, kc, vsc, hfr, hp, hr2, hvs⟩ := id hcf
  have hfl : fm.c.1.toNat < g.fs.l.length := by omega
  have hgm : g.fs.l.getD fm.c.1.toNat gr0 ∈ g.fs.l := getD_mem hfl
  have hspF : Sp g.fs.o g.fs.l.length := hR.1.1.sp (sz := 2) (flat_length encG_len _) (by omega)
  have hspB : Sp (g.fs.l.getD fm.c.1.toNat gr0).bs.o (g.fs.l.getD fm.c.1.toNat gr0).bs.l.length := (hR.2.1 _ hgm).1.1.sp (sz := 6) (flat_length encBl_len _) (by omega)
  have hbl : e.b.toNat < (g.fs.l.getD fm.c.1.toNat gr0).bs.l.length := by omega
  have hbR := (hR.2.1 _ hgm).2 _ (getD_mem (d := blc0) hbl)
  have hbm : (g.fs.l.getD fm.c.1.toNat gr0).bs.l.getD e.b.toNat blc0 = blkOf g fm.c.1 e.b.toNat := rfl
  rw [hbm] at hbR
  have hpR := hbR.1
  have hple := hpR.le
  have hspP : Sp (blkOf g fm.c.1 e.b.toNat).ps.o (blkOf g fm.c.1 e.b.toNat).ps.l.length := hpR.1.sp (sz := 1) (flat_length encI_len _) (by omega)
  have hvP := bs_ps hbl
  rw [hbm] at hvP
  (refine enter (N := 61) Tryz.func55 rfl Tryz.ntmps55 rfl ?_; intro a hA; dsimp only [sl0, Nat.reduceAdd] at hA)
  repeat' (first | (refine QT ?_; clear hA a; intro a hA) | (refine BT ?_; clear hA hH; rintro _ w ⟨bN, rfl, hH⟩ a hA) | (refine CT ?_ <;> repeat' refine CT ?_) | fail)
  obtain ⟨b3, hb3⟩ : ∃ x, x = bN := ⟨_, rfl⟩
  rw [← hb3] at hA hH
  clear hb3 bN
  (refine st_op hA rfl rfl (by decide) (op_call rfl rfl rfl (all_spec w0 w (frz w0 c.K :: cb b3 61 (encEd e) :: H) c bM g kd s oO oS nO cO nS cS pc bv fuel pi pb ph pe fm m e.a (hH.perm PMT) hM ha hR.2.2.2.2.2 hsz hRe hl)) ?_; clear hA hH; rintro _ w ⟨oL, cL, vs, rfl, hV, hH⟩ a hA)
  have hvl := hV.len
  rw [show (allF g fm e.a.l).length = e.a.l.length by unfold allF; rw [List.length_map]] at hvl
  have hspL := hH.own_sp (T := 137) (o := oL) (by exact MEMT)
  repeat' (first | (refine QT ?_; clear hA a; intro a hA) | (refine CT ?_ <;> repeat' refine CT ?_) | fail)
  (refine wp_draw_HS [(0, 1), (1, 1), (2, 1), (3, 1), (4, 1), (5, 1), (6, 1), (7, 1), (8, 1), (9, 1), (10, 1), (11, 1), (12, 1), (13, 1), (14, 1), (15, 1), (16, 1), (17, 1), (18, 1), (19, 1)] mixed (by decide +kernel) hH ?_; replace hH := hH.drew)
  repeat' (first | (refine XT ?_; apply XE; (first | (apply ex_load; rfl; exact cl_frzB MEMT hp rfl) | (apply ex_indexAddr; rfl; rfl; omega; omega; first | exact hspF | exact hspB) | (apply ex_load; rfl; refine cl_rd hR.1.1 id (fs_at ?_); omega) | (apply ex_load; rfl; exact cl_rd (hR.2.1 _ hgm).1.1 id hvP)); clear hA a; intro a hA) | (refine QT ?_; clear hA a; intro a hA) | (refine CT ?_ <;> repeat' refine CT ?_) | fail)
  obtain ⟨ps, hps⟩ : ∃ ps, ps = (blkOf g fm.c.1 e.b.toNat).ps := ⟨_, rfl⟩
  rw [← hps] at hA hpR hple hspP hpl
  have hal : (allF g fm e.a.l).length = ps.l.length := by unfold allF; rw [List.length_map]; exact hpl
  refine wp_lpk (S := Nat) (fun i a w => ∃ m', (i ≤ ps.l.length ∧ MapR c (setsF fm.vs (ps.l.take i) ((allF g fm e.a.l).take i)) m') ∧ HS w0 noM (cb bM 86 (encW g kd s oO nO cO ++ encR g fuel oS nS cS pc bv pb pi ph pe) :: mp bv m' :: own 137 1 oL vs.length cL vs :: frz w0 c.K :: H) w ∧ Sl 61 [(36, .int .i64 i), (35, .int .i64 ps.l.length), (34, .slice ps.o ps.l.length ps.c), (4, .slice oL vs.length cL), (5, .pointer (blkA g fm.c.1 e.b.toNat)), (0, .pointer (some (bat bM 0)))] a) (fun i => ps.l.length - i)
    (fun a w => ∃ m', MapR c (followF g fm e).vs m' ∧ HS w0 noM (cb bM 86 (encW g kd s oO nO cO ++ encR g fuel oS nS cS pc bv pb pi ph pe) :: mp bv m' :: frz w0 c.K :: H) w ∧ Sl 61 [(5, .pointer (blkA g fm.c.1 e.b.toNat)), (0, .pointer (some (bat bM 0)))] a) 0 ⟨m, ⟨Nat.zero_le _, by rw [List.take_zero, List.take_zero]; exact hM⟩, (hH.rm 4).perm PMT, (hA.sub SBT)⟩ ?_ ?_
  · clear hA hH
    rintro i a w ⟨m', ⟨hi, hm'⟩, hH, hA⟩
    by_cases hlt : i < ps.l.length
    rotate_left
    · repeat' (first | (refine QT ?_; clear hA a; intro a hA) | ((first | refine CT ?_ | (refine DT ?_ ?_ <;> intro hc <;> try (exfalso; omega))) <;> repeat' refine CT ?_) | fail)
      obtain rfl : i = ps.l.length := by omega
      refine ⟨m', ?_, hH.rm 2, (hA.sub SBT)⟩
      rw [List.take_length, ← hal, List.take_length] at hm'
      unfold followF
      rw [← hps]
      exact hm'
    obtain ⟨p, hp1⟩ : ∃ p, ps.l[i]? = some p := ⟨_, List.getElem?_eq_getElem hlt⟩
    obtain ⟨v, hv1, hx1⟩ := hV.get0 (i := i) (by omega)
    have hv2 : (allF g fm e.a.l)[i]? = some (nth0 (allF g fm e.a.l) i) := by
      unfold nth0
      rw [List.getD_eq_getElem?_getD, List.getElem?_eq_getElem (by omega)]; rfl
    have hpv : (flat Fw.encI ps.l)[i * 1]? = some (.int .i64 p) := flat_get0 encI_len hp1 rfl
    have hvv : vs[i * 1]? = some v := by rw [Nat.mul_one]; exact hv1
    repeat' (first | (refine XT ?_; apply XE; (first | (apply ex_indexAddr_nat; rfl; rfl; omega; first | exact hspP | exact hspL) | (apply ex_load; rfl; exact cl_rd hpR.1 id hpv)); clear hA a; intro a hA) | (refine QT ?_; clear hA a; intro a hA) | ((first | refine CT ?_ | (refine DT ?_ ?_ <;> intro hc <;> try (exfalso; omega))) <;> repeat' refine CT ?_) | fail)
    (refine wp_draw2_HS [(0, 1), (1, 1), (2, 1), (3, 1), (4, 1), (5, 1), (6, 1), (7, 1), (8, 1), (9, 1)] [10] mixed (by decide +kernel) hH ?_; replace hH := hH.drew)
    repeat' (first | (refine XT ?_; apply XE; (first | (apply ex_indexAddr_nat; rfl; rfl; omega; exact hspL) | (apply ex_load; rfl; exact cl_own (T := 137) (o := oL) MEMT hvv)); clear hA a; intro a hA) | (refine QT ?_; clear hA a; intro a hA) | (apply dr_op03 hA rfl rfl rfl; apply op_mapUpdate; rfl; rfl; rfl; exact hH; (repeat constructor); clear hH; rintro _ w hH) | (refine CT ?_ <;> repeat' refine CT ?_) | fail)
    exact ⟨i + 1, ⟨_, ⟨hlt, by rw [setsF_next hp1 hv2]; exact hm'.set _ hx1⟩, hH, (hA.sub SBT)⟩, by omega⟩
  clear hA hH
  rintro a w ⟨m', hm', hH, hA⟩
  repeat' (first | (refine QT ?_; clear hA a; intro a hA) | (apply st_op0 hA rfl rfl; apply op_store_fld (cs' := encW g kd s oO nO cO ++ encR g fuel oS nS cS pc bv (blkA g fm.c.1 e.b.toNat) pi ph pe); rfl; rfl; rfl; exact hH; (repeat constructor); clear hH; rintro _ w hH) | (apply st_op0 hA rfl rfl; apply op_store_fld (cs' := encW g kd s oO nO cO ++ encR g fuel oS nS cS pc bv (blkA g fm.c.1 e.b.toNat) 0 ph pe); rfl; rfl; rfl; exact hH; (repeat constructor); clear hH; rintro _ w hH) | (refine CT ?_ <;> repeat' refine CT ?_) | fail)
  exact rt0 (.inr rfl) rfl hA ⟨m', hm', hH⟩
end Go.Proofs.YtenlcdokaadobaaGreatDoor
namespace Go.Proofs.YtenlcdokaadobaaGreatDoor
open Go Go.Fw
set_option linter.unusedVariables false
set_option maxRecDepth 10000 attribute [local irreducible] Code.wp wpList Calls Ex Op1 sat bat blk cb own Go.Fw.mp Go.Fw.mpO Go.Fw.mpI Go.Fw.mpE Go.Fw.itr HS Rd Ret wkD Hp Cl Cls Exit.then Exit.inBlock Exit.noGoto bodyPost Go.Fw.flat wk2 Go.Fw.all Go.Fw.owns wpOp
attribute [local irreducible] sk mpK sko mvO entK opM Go.Fw.mset Go.Fw.mv opK w63 frz obI RV idxF quoteF itoaB textF

theorem stopS {w0 w : World} {H : List It} {c : Cx} {bM : Nat} {g : Grs} {kd fuel : Int} {m : Mc} {oO oS ph : Option Addr} {cO cS pc bv : Nat} {mm : List (Int × Value)} {fms : List FmM} {sx : Sx} (hH : HS w0 noM (cb bM 86 (encW g kd m.wd.inp oO m.wd.out.length cO ++ encR g fuel oS fms.length cS pc bv (blkA g m.fm.c.1 m.fm.b) m.fm.i ph none) :: own 5 1 oO m.wd.out.length cO (flat encY m.wd.out) :: frz w0 c.K :: all (sx.map obI) :: own 83 5 oS fms.length cS (flat encFm fms) :: all (fms.map mpF) :: mp bv mm :: H) w) (hpc : FnR c m.fm.c.1 m.fm.c.2 pc) (hmm : MapR c m.fm.vs mm) (hfs : FsR g c m.sk fms) (hst : StR c sx m.wd.st) (k : Int) (r : ByteArray) : Ret Tryz.prog 27 #[.pointer (some (bat bM 0)), .int .i64 k, .string r] w (fun v w' => MEnd w0 bM g kd fuel H k r m.wd w') := by
  refine Ret.mono (stop_spec w0 w _ bM g kd m.wd.inp oO oS m.wd.out.length cO fms.length cS pc bv fuel m.fm.i _ ph none k r hH) ?_
  rintro v w' ⟨b, h⟩
  exact ⟨oO, cO, oS, fms.length, cS, pc, bv, blkA g m.fm.c.1 m.fm.b, (m.fm.i : Int), ph, b, ((((((h.rm 3).rm 3).rm 3).rm 3).rm 3)).perm PMT⟩
theorem raiseS {w0 w : World} {H : List It} {c : Cx} {bM : Nat} {g : Grs} {kd fuel : Int} {m : Mc} {oO oS ph : Option Addr} {cO cS pc bv : Nat} {mm : List (Int × Value)} {fms : List FmM} {sx : Sx} (hH : HS w0 noM (cb bM 86 (encW g kd m.wd.inp oO m.wd.out.length cO ++ encR g fuel oS fms.length cS pc bv (blkA g m.fm.c.1 m.fm.b) m.fm.i ph none) :: own 5 1 oO m.wd.out.length cO (flat encY m.wd.out) :: frz w0 c.K :: all (sx.map obI) :: own 83 5 oS fms.length cS (flat encFm fms) :: all (fms.map mpF) :: mp bv mm :: H) w) (hpc : FnR c m.fm.c.1 m.fm.c.2 pc) (hmm : MapR c m.fm.vs mm) (hfs : FsR g c m.sk fms) (hst : StR c sx m.wd.st) {c0 : Cx} {n : Int} (h0 : c0.le c) (hb0 : c.bd ≤ c0.bd + 1) (hn : iok n) (hR : RdGs w0 g) (hnf : c.nf = g.fs.l.length) (hne : ∀ f ∈ g.fs.l, 0 < f.bs.l.length) (hfl : m.sk.length ≤ 1000000) (hxs : ∀ s ∈ g.xs.l, s.size ≤ 4611686018427387904) :
    Ret Tryz.prog 51 #[.pointer (some (bat bM 0)), .int .i64 n] w (fun r w' => SrW w0 c0 bM g kd fuel H (raiseF g n m.wd m.sk) w') := by
  have hl := hfs.len
  refine Ret.mono (raise_spec w0 w (own 5 1 oO m.wd.out.length cO (flat encY m.wd.out) :: all (sx.map obI) :: mp bv mm :: H) c bM g kd m.wd.inp oO oS m.wd.out.length cO cS pc bv fuel m.fm.i _ ph none fms m.sk m.wd n (hH.perm PMT) hfs hn hR hnf hne (by omega) hxs) ?_
  rintro v w' (⟨sk', cl, p, b, m2, oS2, cS2, fms2, hr, hcf, hm, hf, h⟩ | ⟨k, res, oS2, nS2, cS2, b, hr, h⟩)
  · refine SrW.go hr h0 hb0 ⟨oO, cO, oS2, cS2, p, b, m2, fms2, sx, none, ?_, hcf, hm, hf, hst⟩
    exact ((h.rm 7).perm PMT)
  · refine SrW.stop hr ⟨oO, cO, oS2, nS2, cS2, pc, bv, blkA g m.fm.c.1 m.fm.b, (m.fm.i : Int), ph, b, ?_⟩
    exact (((h.rm 2).rm 3).rm 3).perm PMT
theorem callS {w0 w : World} {H : List It} {c : Cx} {bM : Nat} {g : Grs} {kd fuel : Int} {m : Mc} {oO oS ph : Option Addr} {cO cS pc bv : Nat} {mm : List (Int × Value)} {fms : List FmM} {sx : Sx} (hH : HS w0 noM (cb bM 86 (encW g kd m.wd.inp oO m.wd.out.length cO ++ encR g fuel oS fms.length cS pc bv (blkA g m.fm.c.1 m.fm.b) m.fm.i ph none) :: own 5 1 oO m.wd.out.length cO (flat encY m.wd.out) :: frz w0 c.K :: all (sx.map obI) :: own 83 5 oS fms.length cS (flat encFm fms) :: all (fms.map mpF) :: mp bv mm :: H) w) (hpc : FnR c m.fm.c.1 m.fm.c.2 pc) (hmm : MapR c m.fm.vs mm) (hfs : FsR g c m.sk fms) (hst : StR c sx m.wd.st) {f x : Vl} {u v : Value} {h : Option Clo} {hd : Option Addr} (hu : RV c f u) (hv : RV c x v) (hhd : hdR c h hd) (hR : RdGs w0 g) (hnf : c.nf = g.fs.l.length) (hne : ∀ f ∈ g.fs.l, 0 < f.bs.l.length) (hfl : m.sk.length ≤ 1000000) :
    Ret Tryz.prog 49 #[.pointer (some (bat bM 0)), u, v, .pointer hd] w (fun r w' => SrW w0 c bM g kd fuel H (callF f x h m.wd m.sk m.fm) w') := by
  have hl := hfs.len
  refine Ret.mono (call_spec w0 w (own 5 1 oO m.wd.out.length cO (flat encY m.wd.out) :: all (sx.map obI) :: all (fms.map mpF) :: mp bv mm :: H) c bM g kd m.wd.inp oO oS m.wd.out.length cO cS pc bv fuel m.fm.i _ ph none hd mm fms f x u v (hH.perm PMT) hu hv hR hnf hne (by omega)) ?_
  rintro r w' (⟨cl, p, b, m2, oS2, cS2, hs, hcf, hm, h2⟩ | ⟨hs, b, h2⟩)
  · refine SrW.go (m := ⟨m.wd, { m.fm with h := h } :: m.sk, newF cl x⟩) (by unfold callF; rw [hs]) c.le_refl (Nat.le_succ _) ⟨oO, cO, oS2, cS2, p, b, m2, fms ++ [⟨pc, bv, blkA g m.fm.c.1 m.fm.b, m.fm.i, hd, mm⟩], sx, none, ?_, hcf, hm, ⟨fms, _, rfl, ⟨hpc, hmm, rfl, rfl, hhd⟩, hfs⟩, hst⟩
    have h3 := mpF_push (x := ⟨pc, bv, blkA g m.fm.c.1 m.fm.b, m.fm.i, hd, mm⟩) ((h2.up 6 rfl).up 7 rfl)
    exact h3.perm PMT
  · refine SrW.stop (by unfold callF; rw [hs]; rfl) ⟨oO, cO, oS, fms.length, cS, pc, bv, blkA g m.fm.c.1 m.fm.b, (m.fm.i : Int), ph, b, ?_⟩
    exact (((((h2.rm 2).rm 2).rm 3).rm 3).rm 3).perm PMT
theorem enterS {w0 w : World} {H : List It} {c : Cx} {bM : Nat} {g : Grs} {kd fuel : Int} {m : Mc} {oO oS ph : Option Addr} {cO cS pc bv : Nat} {mm : List (Int × Value)} {fms : List FmM} {sx : Sx} (hH : HS w0 noM (cb bM 86 (encW g kd m.wd.inp oO m.wd.out.length cO ++ encR g fuel oS fms.length cS pc bv (blkA g m.fm.c.1 m.fm.b) m.fm.i ph none) :: own 5 1 oO m.wd.out.length cO (flat encY m.wd.out) :: frz w0 c.K :: all (sx.map obI) :: own 83 5 oS fms.length cS (flat encFm fms) :: all (fms.map mpF) :: mp bv mm :: H) w) (hpc : FnR c m.fm.c.1 m.fm.c.2 pc) (hmm : MapR c m.fm.vs mm) (hfs : FsR g c m.sk fms) (hst : StR c sx m.wd.st) {f x : Vl} {u v : Value} (hu : RV c f u) (hv : RV c x v) (hR : RdGs w0 g) (hnf : c.nf = g.fs.l.length) (hne : ∀ f ∈ g.fs.l, 0 < f.bs.l.length) :
    Ret Tryz.prog 26 #[.pointer (some (bat bM 0)), u, v] w (fun r w' => SrW w0 c bM g kd fuel H (enterF f x m.wd m.sk) w') := by
  refine Ret.mono (enter_spec w0 w (own 5 1 oO m.wd.out.length cO (flat encY m.wd.out) :: all (sx.map obI) :: own 83 5 oS fms.length cS (flat encFm fms) :: all (fms.map mpF) :: mp bv mm :: H) c bM g kd m.wd.inp oO oS m.wd.out.length cO fms.length cS pc bv fuel m.fm.i _ ph none f x u v (hH.perm PMT) hu hv hR hnf hne) ?_
  rintro r w' (⟨cl, p, b, m2, hs, _, hcf, hm, h2⟩ | ⟨hs, _, b, h2⟩)
  · refine SrW.go (m := ⟨m.wd, m.sk, newF cl x⟩) (by unfold enterF; rw [hs]) c.le_refl (Nat.le_succ _) ⟨oO, cO, oS, cS, p, b, m2, fms, sx, none, ?_, hcf, hm, hfs, hst⟩
    exact (h2.rm 7).perm PMT
  · refine SrW.stop (by unfold enterF; rw [hs]; rfl) ⟨oO, cO, oS, fms.length, cS, pc, bv, blkA g m.fm.c.1 m.fm.b, (m.fm.i : Int), ph, b, ?_⟩
    exact (((((h2.rm 2).rm 3).rm 3).rm 3).rm 3).perm PMT
theorem backS {w0 w : World} {H : List It} {c : Cx} {bM : Nat} {g : Grs} {kd fuel : Int} {m : Mc} {oO oS ph : Option Addr} {cO cS pc bv : Nat} {mm : List (Int × Value)} {fms : List FmM} {sx : Sx} (hH : HS w0 noM (cb bM 86 (encW g kd m.wd.inp oO m.wd.out.length cO ++ encR g fuel oS fms.length cS pc bv (blkA g m.fm.c.1 m.fm.b) m.fm.i ph none) :: own 5 1 oO m.wd.out.length cO (flat encY m.wd.out) :: frz w0 c.K :: all (sx.map obI) :: own 83 5 oS fms.length cS (flat encFm fms) :: all (fms.map mpF) :: mp bv mm :: H) w) (hpc : FnR c m.fm.c.1 m.fm.c.2 pc) (hmm : MapR c m.fm.vs mm) (hfs : FsR g c m.sk fms) (hst : StR c sx m.wd.st) {x : Vl} {u : Value} (hu : RV c x u) (hR : RdGs w0 g) (hFI : FI w0) (hfl : m.sk.length ≤ 1000000) (hok : ∀ f ∈ m.sk, FmOk g f ∧ f.i < (curB g f).is.l.length) :
    Ret Tryz.prog 53 #[.pointer (some (bat bM 0)), u] w (fun r w' => SrW w0 c bM g kd fuel H (backF g kd x m.wd m.sk) w') := by
  have hl := hfs.len
  obtain ⟨wd, sk, fm⟩ := m
  dsimp only at *
  cases sk with
  | nil =>
    obtain rfl : fms = [] := hfs
    refine Ret.mono (back0_spec w0 w _ c bM g kd wd.inp oO oS wd.out.length cO cS pc bv fuel fm.i _ ph none x u hH hu hR.2.2.2.2.1 hFI) ?_
    rintro r w' ⟨k, res, b, hr, h2⟩
    refine SrW.stop (hr wd) ⟨oO, cO, oS, 0, cS, pc, bv, blkA g fm.c.1 fm.b, (fm.i : Int), ph, b, ?_⟩
    exact (((((h2.rm 3).rm 3).rm 3).rm 3).rm 3).perm PMT
  | cons f r =>
    obtain ⟨pre, y, rfl, hy, hF⟩ := hfs
    obtain ⟨hfo, hfi⟩ := hok f (List.mem_cons_self ..)
    rw [lenFm] at hH
    have hgm : g.fs.l.getD f.c.1.toNat gr0 ∈ g.fs.l := getD_mem (show f.c.1.toNat < g.fs.l.length by have := hfo.f0; have := hfo.f1; omega)
    have hb1 : (g.fs.l.getD f.c.1.toNat gr0).bs.l[f.b]? = some (curB g f) := by
      unfold curB blkOf
      rw [List.getD_eq_getElem?_getD (l := (g.fs.l.getD f.c.1.toNat gr0).bs.l), List.getElem?_eq_getElem hfo.b]; rfl
    have hi1 : (curB g f).is.l[f.i]? = some (insAt g f) := by
      unfold insAt
      rw [List.getD_eq_getElem?_getD, List.getElem?_eq_getElem hfi]; rfl
    have h2 := mpF_pop (hH.up 5 rfl)
    refine Ret.mono (back_spec w0 w (own 5 1 oO wd.out.length cO (flat encY wd.out) :: frz w0 c.K :: all (sx.map obI) :: all (pre.map mpF) :: mp bv mm :: H) bM g kd wd.inp oO oS none _ cO cS pc bv f.b f.i fuel fm.i _ ph none pre y u _ _ _ (h2.perm PMT) (hR.2.1 _ hgm) hb1 hi1 hy.pb hy.i (by simp only [List.length_cons] at hfl; have := hF.len; omega)) ?_
    rintro v w' h3
    rw [hy.pb] at h3
    refine SrW.go (m := ⟨wd, r, { f with vs := pset f.vs (insAt g f).x x, i := f.i + 1 }⟩) rfl c.le_refl (Nat.le_succ _) ⟨oO, cO, oS, cS, y.pc, y.bv, mset y.m (insAt g f).x u, pre, sx, y.ph, ?_, hy.fn, hy.vs.set _ hu, hF, hst⟩
    exact (h3.rm 7).perm PMT
theorem followS {w0 w : World} {H : List It} {c : Cx} {bM : Nat} {g : Grs} {kd fuel : Int} {m : Mc} {oO oS ph : Option Addr} {cO cS pc bv : Nat} {mm : List (Int × Value)} {fms : List FmM} {sx : Sx} (hH : HS w0 noM (cb bM 86 (encW g kd m.wd.inp oO m.wd.out.length cO ++ encR g fuel oS fms.length cS pc bv (blkA g m.fm.c.1 m.fm.b) m.fm.i ph none) :: own 5 1 oO m.wd.out.length cO (flat encY m.wd.out) :: frz w0 c.K :: all (sx.map obI) :: own 83 5 oS fms.length cS (flat encFm fms) :: all (fms.map mpF) :: mp bv mm :: H) w) (hpc : FnR c m.fm.c.1 m.fm.c.2 pc) (hmm : MapR c m.fm.vs mm) (hfs : FsR g c m.sk fms) (hst : StR c sx m.wd.st) {e : Edg} (ha : ∀ a ∈ e.a.l, atW g a) (hR : RdGs w0 g) (hsz : ∀ s ∈ g.ss.l, s.size ≤ 4096) (hRe : RdV w0 encAt e.a) (hl : e.a.l.length ≤ 1048576)
    (hnf : c.nf = g.fs.l.length) (hb0 : 0 ≤ e.b) (hb1 : e.b < (g.fs.l.getD m.fm.c.1.toNat gr0).bs.l.length) (hpl : e.a.l.length = (blkOf g m.fm.c.1 e.b.toNat).ps.l.length) :
    Ret Tryz.prog 55 #[.pointer (some (bat bM 0)), .agg (encEd e).toArray] w (fun r w' => SrW w0 c bM g kd fuel H (.go ⟨m.wd, m.sk, followF g m.fm e⟩) w') := by
  refine Ret.mono (follow_spec w0 w (own 5 1 oO m.wd.out.length cO (flat encY m.wd.out) :: all (sx.map obI) :: own 83 5 oS fms.length cS (flat encFm fms) :: all (fms.map mpF) :: H) c bM g kd m.wd.inp oO oS m.wd.out.length cO fms.length cS pc bv fuel m.fm.i _ ph none m.fm mm e (hH.perm PMT) hmm hpc ha hR hsz hRe hl hnf hb0 hb1 hpl) ?_
  rintro r w' ⟨m2, hm2, h2⟩
  exact SrW.go rfl c.le_refl (Nat.le_succ _) ⟨oO, cO, oS, cS, pc, bv, m2, fms, sx, ph, h2.perm PMT, hpc, hm2, hfs, hst⟩
end Go.Proofs.YtenlcdokaadobaaGreatDoor
namespace Go.Proofs.YtenlcdokaadobaaGreatDoor
open Go Go.Fw
set_option linter.unusedVariables false
theorem SrW.le {w0 w : World} {c d : Cx} {bM : Nat} {g : Grs} {kd fuel : Int} {H : List It} {r : Sr} (hle : c.le d) (hb : d.bd = c.bd) (h : SrW w0 d bM g kd fuel H r w) : SrW w0 c bM g kd fuel H r w := by
  cases r with
  | go m =>
    obtain ⟨e, ⟨h1, h2⟩, h3⟩ := h
    exact ⟨e, ⟨hle.trans h1, by omega⟩, h3⟩
  | stop k s wd => exact h
theorem in_3 {g : Grs} {fm : Fm} {i : Ins} {wd : Wd} {sk : List Fm} (h : i.r.k = 3) : insF g fm i wd sk = callF (nth0 (allF g fm i.r.a.l) 0) (nth0 (allF g fm i.r.a.l) 1) none wd sk fm := by unfold insF; rw [if_pos h]
theorem in_14 {g : Grs} {fm : Fm} {i : Ins} {wd : Wd} {sk : List Fm} (h : i.r.k = 14) : insF g fm i wd sk = (match asFn (nth0 (allF g fm i.r.a.l) 0) with
    | some c => if c.1 = i.r.n then callF (nth0 (allF g fm i.r.a.l) 0) (nth0 (allF g fm i.r.a.l) 1) none wd sk fm else stuckF wd
    | none => stuckF wd) := by unfold insF; rw [if_neg (by omega), if_pos h] <;> rfl
theorem in_13 {g : Grs} {fm : Fm} {i : Ins} {wd : Wd} {sk : List Fm} (h : i.r.k = 13) : insF g fm i wd sk = (match asFn (nth0 (allF g fm i.r.a.l) 1) with
    | some h => callF (nth0 (allF g fm i.r.a.l) 0) (.num 0) (some h) wd sk fm
    | none => stuckF wd) := by unfold insF; rw [if_neg (by omega), if_neg (by omega), if_pos h] <;> rfl
theorem in_p {g : Grs} {fm : Fm} {i : Ins} {wd : Wd} {sk : List Fm} (h : i.r.k ≠ 3 ∧ i.r.k ≠ 14 ∧ i.r.k ≠ 13) : insF g fm i wd sk = (match plainF i.r (allF g fm i.r.a.l) fm.c.2 wd with
    | .exn s => raiseF g (idxF g.xs.l s) wd sk
    | .val v wd' => if isNil v then stuckF wd' else .go ⟨wd', sk, { fm with vs := pset fm.vs i.x v, i := fm.i + 1 }⟩) := by unfold insF; rw [if_neg h.1, if_neg h.2.1, if_neg h.2.2] <;> rfl
theorem want2 {g : Grs} {caps : List Int} {mine : Int} {r : Stp} (h : FormP g caps mine r) (hk : r.k = 3 ∨ r.k = 13 ∨ r.k = 14) : r.a.l.length = 2 := by
  have hw := h.want
  unfold wantF at hw
  rcases hk with e | e | e <;> rw [e] at hw <;> simp at hw <;> omega
theorem all_len {g : Grs} {fm : Fm} {l : List Atm} : (allF g fm l).length = l.length := by unfold allF; rw [List.length_map]
theorem RV.isNil {c : Cx} {x : Vl} {v : Value} (h : RV c x v) : (isNil x = true ∧ v = .nilIface) ∨ (isNil x = false ∧ ∃ s u, v = .iface s u) := by
  cases x <;> rw [RV] at h
  · exact .inl ⟨rfl, h⟩
  · exact .inr ⟨rfl, _, _, h.1⟩
  · exact .inr ⟨rfl, _, _, h.1⟩
  · obtain ⟨p, o, k, vs, h1, _⟩ := h; exact .inr ⟨rfl, _, _, h1⟩
  · obtain ⟨p, on, cn, ol, cl, vs, h1, _⟩ := h; exact .inr ⟨rfl, _, _, h1⟩
  · obtain ⟨p, u, h1, _⟩ := h; exact .inr ⟨rfl, _, _, h1⟩
  · obtain ⟨p, h1, _⟩ := h; exact .inr ⟨rfl, _, _, h1⟩
  · obtain ⟨p, h1, _⟩ := h; exact .inr ⟨rfl, _, _, h1⟩
def isExn (s : ByteArray) : Prop := s = exnB ∨ s = exnS ∨ s = exnD
theorem texts_exn {op : Int} {l : List Vl} {wd : Wd} {s : ByteArray} (h : textsF op l wd = .exn s) : isExn s := by
  unfold textsF stk at h
  repeat' split at h
  all_goals first | (cases h; done) | (cases h; exact .inl rfl) | (cases h; exact .inr (.inl rfl)) | (cases h; exact .inr (.inr rfl))
theorem arrays_exn {op : Int} {l : List Vl} {wd : Wd} {s : ByteArray} (h : arraysF op l wd = .exn s) : isExn s := by
  unfold arraysF stk at h
  repeat' split at h
  all_goals first | (cases h; done) | (cases h; exact .inl rfl) | (cases h; exact .inr (.inl rfl)) | (cases h; exact .inr (.inr rfl))
theorem op_exn {op : Int} {l : List Vl} {wd : Wd} {s : ByteArray} (h : opF op l wd = .exn s) : isExn s := by
  unfold opF stk at h
  repeat' split at h
  all_goals first | (cases h; done) | exact texts_exn h | exact arrays_exn h | (cases h; exact .inl rfl) | (cases h; exact .inr (.inl rfl)) | (cases h; exact .inr (.inr rfl))
theorem plain_exn {r : Stp} {l cs : List Vl} {wd : Wd} {s : ByteArray} (h : plainF r l cs wd = .exn s) : isExn s := by
  by_cases h1 : r.k = 1
  · rw [pl_1 h1] at h; cases h
  by_cases h2 : r.k = 2
  · rw [pl_2 h2] at h; exact op_exn h
  by_cases h4 : r.k = 4
  · rw [pl_4 h4] at h; cases h
  by_cases h5 : r.k = 5
  · rw [pl_5 h5] at h; cases h
  by_cases h6 : r.k = 6
  · rw [pl_6 h6] at h; cases h
  by_cases h7 : r.k = 7
  · rw [pl_7 h7] at h; unfold stk at h; repeat' split at h
    all_goals cases h
  by_cases h8 : r.k = 8
  · rw [pl_8 h8] at h; unfold stk at h; repeat' split at h
    all_goals cases h
  by_cases h9 : r.k = 9
  · unfold plainF at h; rw [h9] at h; cases h
  by_cases h10 : r.k = 10
  · rw [pl_10 h10] at h; unfold stk at h; repeat' split at h
    all_goals cases h
  by_cases h11 : r.k = 11
  · rw [pl_11 h11] at h; unfold stk at h; repeat' split at h
    all_goals cases h
  by_cases h12 : r.k = 12
  · rw [pl_12 h12] at h; unfold stk at h; repeat' split at h
    all_goals cases h
  unfold plainF at h
  rw [if_neg h1, if_neg h2, if_neg h4, if_neg h5, if_neg h6, if_neg h7, if_neg h8, if_neg h9, if_neg h10, if_neg h11, if_neg h12] at h
  cases h
theorem isExn.ne {s : ByteArray} (h : isExn s) : (!(s.toList == empS.toList)) = true := by
  rcases h with rfl | rfl | rfl <;> decide +kernel
theorem in_sub (x : Ins) (i : Nat) (v : Value) (h : (encSt x.r)[i]? = some v) : (encIn x)[1 + i]? = some v := by
  match i, h with
  | 0, h => exact h
  | 1, h => exact h
  | 2, h => exact h
  | 3, h => exact h
theorem Cls.ex4 {A B C D : Type} {F : A → B → C → D → World → Prop} {p : Addr} {vs : List Value} (h : ∀ a b c d, Cls (F a b c d) p vs) : Cls (fun w => ∃ a b c d, F a b c d w) p vs := fun w ⟨a, b, c, d, hw⟩ => h a b c d w hw
theorem Cl.ex4 {A B C D : Type} {F : A → B → C → D → World → Prop} {p : Addr} {v : Value} (h : ∀ a b c d, Cl (F a b c d) p v) : Cl (fun w => ∃ a b c d, F a b c d w) p v := fun w ⟨a, b, c, d, hw⟩ => h a b c d w hw
theorem idx_iok {l : List ByteArray} {s : ByteArray} (h : l.length ≤ 9223372036854775807) : iok (idxF l s) := by
  unfold idxF
  cases hf : l.findIdx? (fun x => eqS s x) with
  | none => exact ⟨by decide, by decide⟩
  | some i =>
    obtain ⟨hi, _⟩ := List.findIdx?_eq_some_iff_getElem.1 hf
    exact ⟨by show (_ : Int) ≤ (i : Int); omega, by show (i : Int) ≤ _; omega⟩
set_option maxRecDepth 10000 attribute [local irreducible] Code.wp wpList Calls Ex Op1 sat bat blk cb own Go.Fw.mp Go.Fw.mpO Go.Fw.mpI Go.Fw.mpE Go.Fw.itr HS Rd Ret wkD Hp Cl Cls Exit.then Exit.inBlock Exit.noGoto bodyPost Go.Fw.flat wk2 Go.Fw.all Go.Fw.owns wpOp
attribute [local irreducible] sk mpK sko mvO entK opM Go.Fw.mset Go.Fw.mv opK w63 frz obI RV idxF quoteF itoaB textF

theorem SrW.drop1 {w0 w : World} {c : Cx} {bM : Nat} {g : Grs} {kd fuel : Int} {H : List It} {x : It} {r : Sr} (h : SrW w0 c bM g kd fuel (x :: H) r w) : SrW w0 c bM g kd fuel H r w := by
  cases r with
  | go m =>
    obtain ⟨e, h1, oO, cO, oS, cS, pc, bv, mm, fms, sx, ph, h2, h3⟩ := h
    exact ⟨e, h1, oO, cO, oS, cS, pc, bv, mm, fms, sx, ph, h2.rm 7, h3⟩
  | stop k s wd =>
    obtain ⟨oO, cO, oS, nS, cS, pc, bv, pb, pi, ph, b, h2⟩ := h
    exact ⟨oO, cO, oS, nS, cS, pc, bv, pb, pi, ph, b, h2.rm 3⟩
theorem MEnd.drop1 {w0 w : World} {bM : Nat} {g : Grs} {kd fuel : Int} {H : List It} {x : It} {k : Int} {s : ByteArray} {wd : Wd} (h : MEnd w0 bM g kd fuel (x :: H) k s wd w) : MEnd w0 bM g kd fuel H k s wd w := by
  obtain ⟨oO, cO, oS, nS, cS, pc, bv, pb, pi, ph, b, h2⟩ := h
  exact ⟨oO, cO, oS, nS, cS, pc, bv, pb, pi, ph, b, h2.rm 3⟩
set_option maxHeartbeats 32000000 in
theorem ins_spec {w0 w : World} {H : List It} {c : Cx} {bM : Nat} {g : Grs} {kd fuel : Int} {m : Mc} {oO oS ph : Option Addr} {cO cS pc bv : Nat} {mm : List (Int × Value)} {fms : List FmM} {sx : Sx} (hH : HS w0 noM (cb bM 86 (encW g kd m.wd.inp oO m.wd.out.length cO ++ encR g fuel oS fms.length cS pc bv (blkA g m.fm.c.1 m.fm.b) m.fm.i ph none) :: own 5 1 oO m.wd.out.length cO (flat encY m.wd.out) :: frz w0 c.K :: all (sx.map obI) :: own 83 5 oS fms.length cS (flat encFm fms) :: all (fms.map mpF) :: mp bv mm :: H) w) (hpc : FnR c m.fm.c.1 m.fm.c.2 pc) (hmm : MapR c m.fm.vs mm) (hfs : FsR g c m.sk fms) (hst : StR c sx m.wd.st) (x : Ins) (hR : RdGs w0 g) (hnf : c.nf = g.fs.l.length) (hne : ∀ f ∈ g.fs.l, 0 < f.bs.l.length) (hsz : ∀ s ∈ g.ss.l, s.size ≤ 4096) (hxs : ∀ s ∈ g.xs.l, s.size ≤ 4611686018427387904) (hfl : m.sk.length ≤ 1000000)
    (hK0 : ∀ w, c.K w → Kp w0 noM w) (mine : Int) (hF : FormP g (g.fs.l.map Gr.caps) mine x.r) (ha : ∀ a ∈ x.r.a.l, atW g a) (hRi : RdIn w0 x) (hla : x.r.a.l.length ≤ 1048576) (hbn : x.r.ns.l.length ≤ c.bd) (hbd : c.bd ≤ 1000000) (hout : m.wd.out.length ≤ 1000000) (hil : m.fm.i ≤ 1000000000000) :
    Ret Tryz.prog 28 #[.pointer (some (bat bM 0)), .agg (encIn x).toArray] w (fun r w' => SrW w0 c bM g kd fuel H (insF g m.fm x m.wd m.sk) w') := by
  (refine enter (N := 127) Tryz.func28 rfl Tryz.ntmps28 rfl ?_; intro a hA; dsimp only [sl0, Nat.reduceAdd] at hA)
  repeat' (first | (refine QT ?_; clear hA a; intro a hA) | (refine BT ?_; clear hA hH; rintro _ w ⟨bN, rfl, hH⟩ a hA) | (refine CT ?_ <;> repeat' refine CT ?_) | fail)
  obtain ⟨b3, hb3⟩ : ∃ x, x = bN := ⟨_, rfl⟩
  rw [← hb3] at hA hH
  clear hb3 bN
  (refine st_op hA rfl rfl (by decide) (op_call rfl rfl rfl (all_spec w0 w (own 5 1 oO m.wd.out.length cO (flat encY m.wd.out) :: frz w0 c.K :: all (sx.map obI) :: own 83 5 oS fms.length cS (flat encFm fms) :: all (fms.map mpF) :: cb b3 59 (encIn x) :: H) c bM g kd m.wd.inp oO oS m.wd.out.length cO fms.length cS pc bv fuel m.fm.i _ ph none m.fm mm x.r.a (hH.perm PMT) hmm ha hR.2.2.2.2.2 hsz hRi.2 hla)) ?_; clear hA hH; rintro _ w ⟨oL, cL, vs, rfl, hV0, hH⟩ a hA)
  have hvl := hV0.len
  rw [all_len] at hvl
  have hlc : vs.length ≤ cL ∧ cL ≤ maxLen := hH.own_le (T := 137) (o := oL) (by exact MEMT)
  have hle := c.more (fun w => Rd w oL vs)
  replace hH := (hH.perm (H' := own 137 1 oL vs.length cL vs :: frz w0 c.K :: cb bM 86 (encW g kd m.wd.inp oO m.wd.out.length cO ++ encR g fuel oS fms.length cS pc bv (blkA g m.fm.c.1 m.fm.b) m.fm.i ph none) :: own 5 1 oO m.wd.out.length cO (flat encY m.wd.out) :: all (sx.map obI) :: own 83 5 oS fms.length cS (flat encFm fms) :: all (fms.map mpF) :: mp bv mm :: cb b3 59 (encIn x) :: H) PMT).frz_own
  obtain ⟨c1, hc1⟩ : ∃ c1 : Cx, c1 = { c with K := fun w => Rd w oL vs ∧ c.K w } := ⟨_, rfl⟩
  have hL : ∀ w, c1.K w → Rd w oL vs := fun w h => by rw [hc1] at h; exact h.1
  have hK1 : ∀ w, c1.K w → Kp w0 noM w := fun w h => by rw [hc1] at h; exact hK0 w h.2
  have hKe : c1.K = fun w => Rd w oL vs ∧ c.K w := by rw [hc1]
  have hbe : c1.bd = c.bd := by rw [hc1]
  have hne1 : c1.nf = c.nf := by rw [hc1]
  rw [← hKe] at hH
  replace hH := hH.perm (H' := cb bM 86 (encW g kd m.wd.inp oO m.wd.out.length cO ++ encR g fuel oS fms.length cS pc bv (blkA g m.fm.c.1 m.fm.b) m.fm.i ph none) :: own 5 1 oO m.wd.out.length cO (flat encY m.wd.out) :: frz w0 c1.K :: all (sx.map obI) :: own 83 5 oS fms.length cS (flat encFm fms) :: all (fms.map mpF) :: mp bv mm :: cb b3 59 (encIn x) :: H) PMT
  rw [← hc1] at hle
  have hst1 := hst.more (fun w => Rd w oL vs)
  rw [← hc1] at hst1
  clear hc1 hKe
  have hV := RVs.mono hle _ _ hV0
  replace hpc := hpc.mono hle
  replace hmm := hmm.mono hle
  replace hfs := hfs.mono hle
  have hnf1 : c1.nf = g.fs.l.length := by omega
  have hsp : Sp oL vs.length := (hL w (hH.frz (by exact MEMT))).sp (sz := 1) (by omega) (by omega)
  have hkl := hF.lo
  have hkh := hF.hi
  obtain ⟨kk, hkk⟩ : ∃ kk, kk = x.r.k := ⟨_, rfl⟩
  by_cases h3 : x.r.k = 3
  · have h2 := want2 hF (.inl h3)
    obtain ⟨v0, hv0, hx0⟩ := hV.get0 (i := 0) (by rw [all_len]; omega)
    obtain ⟨v1, hv1, hx1⟩ := hV.get0 (i := 1) (by rw [all_len]; omega)
    repeat' (first | (refine XT ?_; apply XE; (first | (apply ex_indexAddr; rfl; rfl; decide; omega; exact hsp) | (apply ex_load; rfl; exact cl_frz MEMT hL hv0) | (apply ex_load; rfl; exact cl_frz MEMT hL hv1) | (apply ex_iface; rfl)); clear hA a; intro a hA) | (refine QT ?_; clear hA a; intro a hA) | ((first | refine CT ?_ | (refine DT ?_ ?_ <;> intro hc <;> try (exfalso; omega))) <;> repeat' refine CT ?_) | fail)
    (refine wp_draw2_HS [(0, 1), (1, 1), (2, 1), (3, 1), (4, 1), (5, 1), (6, 1)] [7] mixed (by decide +kernel) hH ?_; replace hH := hH.drew)
    repeat' (first | (refine XT ?_; apply XE; (first | (apply ex_indexAddr; rfl; rfl; decide; omega; exact hsp) | (apply ex_load; rfl; exact cl_frz MEMT hL hv0) | (apply ex_load; rfl; exact cl_frz MEMT hL hv1) | (apply ex_iface; rfl)); clear hA a; intro a hA) | (refine QT ?_; clear hA a; intro a hA) | (refine CT ?_ <;> repeat' refine CT ?_) | fail)
    (refine dr_op3 hA rfl rfl rfl (by decide) (op_call rfl rfl rfl (callS (h := none) (hd := none) hH hpc hmm hfs hst1 hx0 hx1 rfl hR hnf1 hne hfl)) ?_; clear hA hH; rintro _ w hS a hA)
    repeat' (first | (refine QT ?_; clear hA a; intro a hA) | (refine CT ?_ <;> repeat' refine CT ?_) | fail)
    exact rt0 (.inl rfl) rfl hA (by rw [in_3 h3]; exact (SrW.le hle hbe hS).drop1)
  by_cases h14 : x.r.k = 14
  · have h2 := want2 hF (.inr (.inr h14))
    obtain ⟨v0, hv0, hx0⟩ := hV.get0 (i := 0) (by rw [all_len]; omega)
    obtain ⟨v1, hv1, hx1⟩ := hV.get0 (i := 1) (by rw [all_len]; omega)
    have e14 := in_14 (g := g) (fm := m.fm) (wd := m.wd) (sk := m.sk) h14
    rcases hx0.asFn with ⟨fi, fl, fp, hs, hv0e, hf⟩ | ⟨hs, hn⟩
    · rw [hs] at e14
      dsimp only at e14
      unfold ptrV at hv0e
      subst hv0e
      obtain ⟨o9, k9, vs9, hfr9, hp9, _⟩ := id hf
      repeat' (first | (refine XT ?_; apply XE; (first | (apply ex_indexAddr; rfl; rfl; decide; omega; exact hsp) | (apply ex_load; rfl; exact cl_frz MEMT hL hv0) | (apply ex_load; rfl; exact cl_frz MEMT hL hv1) | (apply ex_iface; rfl) | (apply ex_assertY; rfl)); clear hA a; intro a hA) | (refine QT ?_; clear hA a; intro a hA) | ((first | refine CT ?_ | (refine DT ?_ ?_ <;> intro hc <;> try (exfalso; omega))) <;> repeat' refine CT ?_) | fail)
      (refine wp_draw_HS [(0, 1), (1, 1), (2, 1), (3, 1), (4, 1), (5, 1), (6, 1), (7, 1), (8, 1), (9, 1), (10, 1), (11, 1)] mixed (by decide +kernel) hH ?_; replace hH := hH.drew)
      repeat' (first | (refine GT ?_ ?_ <;> intro hg <;> clear hA a <;> intro a hA <;> (first | exact FA | replace hg := of_decide_eq_true hg | replace hg := of_decide_eq_false hg | skip)) | (refine XT ?_; apply XE; (first | (apply ex_indexAddr; rfl; rfl; decide; omega; exact hsp) | (apply ex_load; rfl; exact cl_frz MEMT hL hv0) | (apply ex_load; rfl; exact cl_frz MEMT hL hv1) | (apply ex_iface; rfl) | (apply ex_load; rfl; exact cl_frzB MEMT hp9 rfl)); clear hA a; intro a hA) | (refine QT ?_; clear hA a; intro a hA) | ((first | refine CT ?_ | (refine DT ?_ ?_ <;> intro hc <;> try (exfalso; omega))) <;> repeat' refine CT ?_) | fail)
      · repeat' (first | (refine QT ?_; clear hA a; intro a hA) | (refine st_op hA rfl rfl (by decide) (op_call rfl rfl rfl (stopS hH hpc hmm hfs hst1 4 empS)) ?_; clear hA hH; rintro _ w hS a hA) | (refine CT ?_ <;> repeat' refine CT ?_) | fail)
        exact rt0 (.inl rfl) rfl hA (SrW.stop (by rw [e14, if_neg (by assumption)]; rfl) hS.drop1)
      (refine wp_draw2_HS [(0, 1), (1, 1), (2, 1), (3, 1), (4, 1), (5, 1), (6, 1)] [7] mixed (by decide +kernel) hH ?_; replace hH := hH.drew)
      repeat' (first | (refine XT ?_; apply XE; (first | (apply ex_indexAddr; rfl; rfl; decide; omega; exact hsp) | (apply ex_load; rfl; exact cl_frz MEMT hL hv0) | (apply ex_load; rfl; exact cl_frz MEMT hL hv1) | (apply ex_iface; rfl)); clear hA a; intro a hA) | (refine QT ?_; clear hA a; intro a hA) | (refine CT ?_ <;> repeat' refine CT ?_) | fail)
      (refine dr_op3 hA rfl rfl rfl (by decide) (op_call rfl rfl rfl (callS (h := none) (hd := none) hH hpc hmm hfs hst1 hx0 hx1 rfl hR hnf1 hne hfl)) ?_; clear hA hH; rintro _ w hS a hA)
      repeat' (first | (refine QT ?_; clear hA a; intro a hA) | (refine CT ?_ <;> repeat' refine CT ?_) | fail)
      exact rt0 (.inl rfl) rfl hA (by rw [e14, if_pos (by omega)]; exact (SrW.le hle hbe hS).drop1)
    · rw [hs] at e14
      dsimp only at e14
      repeat' (first | (refine XT ?_; apply XE; (first | (apply ex_indexAddr; rfl; rfl; decide; omega; exact hsp) | (apply ex_load; rfl; exact cl_frz MEMT hL hv0) | (apply ex_load; rfl; exact cl_frz MEMT hL hv1) | (apply ex_iface; rfl) | (apply ex_assertX; rfl; exact hn)); clear hA a; intro a hA) | (refine QT ?_; clear hA a; intro a hA) | ((first | refine CT ?_ | (refine DT ?_ ?_ <;> intro hc <;> try (exfalso; omega))) <;> repeat' refine CT ?_) | fail)
      (refine wp_draw_HS [(0, 1), (1, 1), (2, 1), (3, 1), (4, 1), (5, 1), (6, 1), (7, 1), (8, 1), (9, 1), (10, 1), (11, 1)] mixed (by decide +kernel) hH ?_; replace hH := hH.drew)
      repeat' (first | (refine GT ?_ ?_ <;> intro hg <;> clear hA a <;> intro a hA <;> (first | exact FA | replace hg := of_decide_eq_true hg | replace hg := of_decide_eq_false hg | skip)) | (refine XT ?_; apply XE; (first | (apply ex_indexAddr; rfl; rfl; decide; omega; exact hsp) | (apply ex_load; rfl; exact cl_frz MEMT hL hv0) | (apply ex_load; rfl; exact cl_frz MEMT hL hv1) | (apply ex_iface; rfl)); clear hA a; intro a hA) | (refine QT ?_; clear hA a; intro a hA) | (refine st_op hA rfl rfl (by decide) (op_call rfl rfl rfl (stopS hH hpc hmm hfs hst1 4 empS)) ?_; clear hA hH; rintro _ w hS a hA) | (refine CT ?_ <;> repeat' refine CT ?_) | fail)
      exact rt0 (.inl rfl) rfl hA (SrW.stop (by rw [e14]; rfl) hS.drop1)
  by_cases h13 : x.r.k = 13
  · have h2 := want2 hF (.inr (.inl h13))
    obtain ⟨v0, hv0, hx0⟩ := hV.get0 (i := 0) (by rw [all_len]; omega)
    obtain ⟨v1, hv1, hx1⟩ := hV.get0 (i := 1) (by rw [all_len]; omega)
    have e13 := in_13 (g := g) (fm := m.fm) (wd := m.wd) (sk := m.sk) h13
    rcases hx1.asFn with ⟨fi, fl, fp, hs, hv1e, hf⟩ | ⟨hs, hn⟩
    · rw [hs] at e13
      dsimp only at e13
      unfold ptrV at hv1e
      subst hv1e
      repeat' (first | (refine XT ?_; apply XE; (first | (apply ex_indexAddr; rfl; rfl; decide; omega; exact hsp) | (apply ex_load; rfl; exact cl_frz MEMT hL hv0) | (apply ex_load; rfl; exact cl_frz MEMT hL hv1) | (apply ex_iface; rfl) | (apply ex_assertY; rfl)); clear hA a; intro a hA) | (refine QT ?_; clear hA a; intro a hA) | ((first | refine CT ?_ | (refine DT ?_ ?_ <;> intro hc <;> try (exfalso; omega))) <;> repeat' refine CT ?_) | fail)
      (refine st_op hA rfl rfl (by decide) (op_call rfl rfl rfl (callS (h := some (fi, fl)) (hd := some (bat fp 0)) hH hpc hmm hfs hst1 hx0 (RV_num (c := c1) (n := 0) ⟨by decide, by decide⟩) ⟨fp, rfl, hf⟩ hR hnf1 hne hfl)) ?_; clear hA hH; rintro _ w hS a hA)
      repeat' (first | (refine QT ?_; clear hA a; intro a hA) | (refine CT ?_ <;> repeat' refine CT ?_) | fail)
      exact rt0 (.inl rfl) rfl hA (by rw [e13]; exact (SrW.le hle hbe hS).drop1)
    · rw [hs] at e13
      dsimp only at e13
      repeat' (first | (refine XT ?_; apply XE; (first | (apply ex_indexAddr; rfl; rfl; decide; omega; exact hsp) | (apply ex_load; rfl; exact cl_frz MEMT hL hv0) | (apply ex_load; rfl; exact cl_frz MEMT hL hv1) | (apply ex_iface; rfl) | (apply ex_assertX; rfl; exact hn)); clear hA a; intro a hA) | (refine QT ?_; clear hA a; intro a hA) | (refine st_op hA rfl rfl (by decide) (op_call rfl rfl rfl (stopS hH hpc hmm hfs hst1 4 empS)) ?_; clear hA hH; rintro _ w hS a hA) | ((first | refine CT ?_ | (refine DT ?_ ?_ <;> intro hc <;> try (exfalso; omega))) <;> repeat' refine CT ?_) | fail)
      exact rt0 (.inl rfl) rfl hA (SrW.stop (by rw [e13]; rfl) hS.drop1)
  have ep := in_p (g := g) (fm := m.fm) (i := x) (wd := m.wd) (sk := m.sk) ⟨h3, h14, h13⟩
  repeat' (first | (refine QT ?_; clear hA a; intro a hA) | ((first | refine CT ?_ | (refine DT ?_ ?_ <;> intro hc <;> try (exfalso; omega))) <;> repeat' refine CT ?_) | fail)
  have hS0 : (fun w => ∃ s oO nO cO, HS w0 noM [cb bM 86 (encW g kd s oO nO cO ++ encR g fuel oS fms.length cS pc bv (blkA g m.fm.c.1 m.fm.b) m.fm.i ph none), cb b3 59 (encIn x)] w) w := ⟨_, _, _, _, ((((((HS.left (H1 := [_, _, _, _, _, _, _, _]) hH).rm 1).rm 1).rm 1).rm 1).rm 1).rm 1⟩
  have hS1 : Cls (fun w => ∃ s oO nO cO, HS w0 noM [cb bM 86 (encW g kd s oO nO cO ++ encR g fuel oS fms.length cS pc bv (blkA g m.fm.c.1 m.fm.b) m.fm.i ph none), cb b3 59 (encIn x)] w) (bat b3 1) (encSt x.r) := Cls.ex4 (F := fun s oO nO cO w => HS w0 noM [cb bM 86 (encW g kd s oO nO cO ++ encR g fuel oS fms.length cS pc bv (blkA g m.fm.c.1 m.fm.b) m.fm.i ph none), cb b3 59 (encIn x)] w) fun s oO nO cO => cls_cb (by exact MEMT) (in_sub x)
  have hS2 : Cl (fun w => ∃ s oO nO cO, HS w0 noM [cb bM 86 (encW g kd s oO nO cO ++ encR g fuel oS fms.length cS pc bv (blkA g m.fm.c.1 m.fm.b) m.fm.i ph none), cb b3 59 (encIn x)] w) (bat bM 12) (.pointer (some (bat pc 0))) := Cl.ex4 (F := fun s oO nO cO w => HS w0 noM [cb bM 86 (encW g kd s oO nO cO ++ encR g fuel oS fms.length cS pc bv (blkA g m.fm.c.1 m.fm.b) m.fm.i ph none), cb b3 59 (encIn x)] w) fun s oO nO cO => cl_cb (by exact MEMT) rfl
  refine wp_draw [(0, 1), (1, 1), (2, 1), (3, 1), (4, 1), (5, 1), (6, 1), (7, 1), (8, 1), (9, 1), (10, 1), (11, 0), (12, 1), (13, 1), (14, 1), (15, 1), (16, 1)] [] (fun w => ∃ s oO nO cO, HS w0 noM [cb bM 86 (encW g kd s oO nO cO ++ encR g fuel oS fms.length cS pc bv (blkA g m.fm.c.1 m.fm.b) m.fm.i ph none), cb b3 59 (encIn x)] w) mixed (by decide +kernel) (by obtain ⟨s1, o1, n1, c2, h9⟩ := hS0; exact ⟨s1, o1, n1, c2, h9.drew⟩) ?_
  clear hS0
  replace hH := hH.drew
  repeat' (first | (refine XT ?_; apply XE; (first | (apply ex_load_st (vs := encSt x.r); rfl; rfl; exact hS1) | (apply ex_load; rfl; exact hS2)); clear hA a; intro a hA) | (refine QT ?_; clear hA a; intro a hA) | fail)
  have hpl := Plain_spec w0 _ (own 83 5 oS fms.length cS (flat encFm fms) :: all (fms.map mpF) :: mp bv mm :: cb b3 59 (encIn x) :: H) c1 86 bM g kd (encR g fuel oS fms.length cS pc bv (blkA g m.fm.c.1 m.fm.b) m.fm.i ph none) (g.fs.l.map Gr.caps) mine x.r (allF g m.fm x.r.a.l) vs oL oO cL cO m.wd sx m.fm.c.1 m.fm.c.2 pc hH hL hlc hV hst1 hF all_len (by rw [List.length_map]; exact hnf1) hpc hK1 hRi.1 (by omega) (by omega) hout hR.2.2.2.1.le ⟨h3, h13, h14⟩
  (refine dr_op hA rfl rfl rfl (by decide) (op_call rfl rfl rfl hpl) ?_; clear hA hH hpl)
  rintro u w ⟨d, sx2, oO2, cO2, ⟨hle2, hb2⟩, hH, hr, hS2'⟩
  refine ⟨⟨_, _, _, _, ((((((HS.left (H1 := [_, _, _, _, _, _, _, _]) hH).rm 1).rm 1).rm 1).rm 1).rm 1).rm 1⟩, ?_⟩
  clear hS1 hS2
  intro a hA
  have hS2 := hS2'
  clear hS2'
  have hle3 := hle.trans hle2
  have hb3 : d.bd ≤ c.bd + 1 := by omega
  have hpc2 := hpc.mono hle2
  have hmm2 := hmm.mono hle2
  have hfs2 := hfs.mono hle2
  have hnf2 : d.nf = g.fs.l.length := by rw [← hle2.nf]; exact hnf1
  cases hp : plainF x.r (allF g m.fm x.r.a.l) m.fm.c.2 m.wd with
  | exn s =>
    rw [hp] at hH hr hS2 ep
    obtain rfl : u = .tuple #[.nilIface, .string s] := hr
    have hsn := (plain_exn hp).ne
    have hxR := hR.2.2.2.2.1
    have hio := idx_iok (l := g.xs.l) (s := s) hxR.le
    change HS w0 noM (cb bM 86 (encW g kd (m.wd).inp oO2 (m.wd).out.length cO2 ++ encR g fuel oS fms.length cS pc bv (blkA g m.fm.c.1 m.fm.b) m.fm.i ph none) :: own 5 1 oO2 (m.wd).out.length cO2 (flat encY (m.wd).out) :: frz w0 d.K :: all (sx2.map obI) :: own 83 5 oS fms.length cS (flat encFm fms) :: all (fms.map mpF) :: mp bv mm :: cb b3 59 (encIn x) :: H) w at hH
    repeat' (first | (refine XT ?_; apply XE; (first | (apply ex_neqS; rfl; rfl)); clear hA a; intro a hA) | (refine QT ?_; clear hA a; intro a hA) | ((first | refine CT ?_ | (refine DT ?_ ?_ <;> intro hc <;> try (exfalso; omega))) <;> repeat' refine CT ?_) | fail)
    rotate_left
    · exact absurd (hsn.symm.trans (by assumption) : true = false) (by decide)
    (refine st_op hA rfl rfl (by decide) (op_call rfl rfl rfl (Exn_spec w0 w (own 5 1 oO2 (m.wd).out.length cO2 (flat encY (m.wd).out) :: frz w0 d.K :: all (sx2.map obI) :: own 83 5 oS fms.length cS (flat encFm fms) :: all (fms.map mpF) :: mp bv mm :: cb b3 59 (encIn x) :: H) 86 bM [] _ g.xs s hH hxR)) ?_; clear hA hH; rintro _ w ⟨rfl, hH⟩ a hA)
    change HS w0 noM (cb bM 86 (encW g kd (m.wd).inp oO2 (m.wd).out.length cO2 ++ encR g fuel oS fms.length cS pc bv (blkA g m.fm.c.1 m.fm.b) m.fm.i ph none) :: own 5 1 oO2 (m.wd).out.length cO2 (flat encY (m.wd).out) :: frz w0 d.K :: all (sx2.map obI) :: own 83 5 oS fms.length cS (flat encFm fms) :: all (fms.map mpF) :: mp bv mm :: cb b3 59 (encIn x) :: H) w at hH
    (refine st_op hA rfl rfl (by decide) (op_call rfl rfl rfl (raiseS hH hpc2 hmm2 hfs2 hS2 hle3 hb3 hio hR hnf2 hne hfl hxs)) ?_; clear hA hH; rintro _ w hS a hA)
    repeat' (first | (refine QT ?_; clear hA a; intro a hA) | (refine CT ?_ <;> repeat' refine CT ?_) | fail)
    exact rt0 (.inr rfl) rfl hA (by rw [ep]; exact hS.drop1)
  | val v wd' =>
    rw [hp] at hH hr hS2 ep
    obtain ⟨u', hu', rfl⟩ := hr
    change HS w0 noM (cb bM 86 (encW g kd (wd').inp oO2 (wd').out.length cO2 ++ encR g fuel oS fms.length cS pc bv (blkA g m.fm.c.1 m.fm.b) m.fm.i ph none) :: own 5 1 oO2 (wd').out.length cO2 (flat encY (wd').out) :: frz w0 d.K :: all (sx2.map obI) :: own 83 5 oS fms.length cS (flat encFm fms) :: all (fms.map mpF) :: mp bv mm :: cb b3 59 (encIn x) :: H) w at hH
    dsimp only at ep
    rcases hu'.isNil with ⟨hn0, rfl⟩ | ⟨hn0, s9, u9, rfl⟩
    · rw [hn0, if_pos rfl] at ep
      repeat' (first | (refine XT ?_; apply XE; (first | (apply ex_neqS; rfl; rfl) | (apply ex_eqlI0; rfl)); clear hA a; intro a hA) | (refine QT ?_; clear hA a; intro a hA) | ((first | refine CT ?_ | (refine DT ?_ ?_ <;> intro hc <;> try (exfalso; omega))) <;> repeat' refine CT ?_) | fail)
      · exact absurd (by assumption : (!(empS.toList == (⟨#[]⟩ : ByteArray).toList)) = true) (by decide +kernel)
      (refine st_op hA rfl rfl (by decide) (op_call rfl rfl rfl (stopS (m := ⟨wd', m.sk, m.fm⟩) hH hpc2 hmm2 hfs2 hS2 4 empS)) ?_; clear hA hH; rintro _ w hS a hA)
      repeat' (first | (refine QT ?_; clear hA a; intro a hA) | (refine CT ?_ <;> repeat' refine CT ?_) | fail)
      exact rt0 (.inr rfl) rfl hA (SrW.stop ep hS.drop1)
    · rw [hn0, if_neg (by decide)] at ep
      repeat' (first | (refine XT ?_; apply XE; (first | (apply ex_neqS; rfl; rfl) | (apply ex_eqlI1; rfl)); clear hA a; intro a hA) | (refine QT ?_; clear hA a; intro a hA) | ((first | refine CT ?_ | (refine DT ?_ ?_ <;> intro hc <;> try (exfalso; omega))) <;> repeat' refine CT ?_) | fail)
      · exact absurd (by assumption : (!(empS.toList == (⟨#[]⟩ : ByteArray).toList)) = true) (by decide +kernel)
      (refine wp_draw2_HS [(0, 1), (1, 1), (2, 1), (3, 1), (4, 1), (5, 1), (6, 1), (7, 1)] [8] mixed (by decide +kernel) hH ?_; replace hH := hH.drew)
      repeat' (first | (refine QT ?_; clear hA a; intro a hA) | (apply dr_op03 hA rfl rfl rfl; apply op_mapUpdate; rfl; rfl; rfl; exact hH; (repeat constructor); clear hH; rintro _ w hH) | (apply st_op0 hA rfl rfl; apply op_store_fld (cs' := encW g kd wd'.inp oO2 wd'.out.length cO2 ++ encR g fuel oS fms.length cS pc bv (blkA g m.fm.c.1 m.fm.b) ((m.fm.i + 1 : Nat) : Int) ph none); rfl; rfl; rfl; exact hH; (repeat constructor); clear hH; rintro _ w hH) | (refine CT ?_ <;> repeat' refine CT ?_) | fail)
      refine rt0 (.inr rfl) rfl hA (SrW.go (m := ⟨wd', m.sk, { m.fm with vs := pset m.fm.vs x.x v, i := m.fm.i + 1 }⟩) ep hle3 hb3 ⟨oO2, cO2, oS, cS, pc, bv, mset mm x.x (.iface s9 u9), fms, sx2, ph, ?_, hpc2, hmm2.set _ hu', hfs2, hS2⟩)
      exact hH.rm 7
end Go.Proofs.YtenlcdokaadobaaGreatDoor
namespace Go.Proofs.YtenlcdokaadobaaGreatDoor
open Go Go.Fw
set_option linter.unusedVariables false
theorem texts_out {op : Int} {l : List Vl} {wd wd' : Wd} {v : Vl} (h : textsF op l wd = .val v wd') : wd'.out.length ≤ wd.out.length + 1 := by
  unfold textsF stk at h
  repeat' split at h
  all_goals first | (cases h; done) | (cases h; exact Nat.le_succ _)
theorem arrays_out {op : Int} {l : List Vl} {wd wd' : Wd} {v : Vl} (h : arraysF op l wd = .val v wd') : wd'.out.length ≤ wd.out.length + 1 := by
  unfold arraysF stk at h
  repeat' split at h
  all_goals first | (cases h; done) | (cases h; exact Nat.le_succ _)
theorem op_out {op : Int} {l : List Vl} {wd wd' : Wd} {v : Vl} (h : opF op l wd = .val v wd') : wd'.out.length ≤ wd.out.length + 1 := by
  unfold opF stk at h
  repeat' split at h
  all_goals first | (cases h; done) | exact texts_out h | exact arrays_out h | (cases h; exact Nat.le_succ _) | (cases h; simp)
theorem plain_out {r : Stp} {l cs : List Vl} {wd wd' : Wd} {v : Vl} (h : plainF r l cs wd = .val v wd') : wd'.out.length ≤ wd.out.length + 1 := by
  by_cases h2 : r.k = 2
  · rw [pl_2 h2] at h; exact op_out h
  unfold plainF stk at h
  rw [if_neg h2] at h
  repeat' split at h
  all_goals first | (cases h; done) | (cases h; exact Nat.le_succ _)
theorem getD_or {α : Type} (l : List α) (i : Nat) (d : α) : l.getD i d ∈ l ∨ l.getD i d = d := by
  by_cases h : i < l.length
  · exact .inl (getD_mem h)
  · exact .inr (by rw [List.getD_eq_getElem?_getD, List.getElem?_eq_none (by omega)]; rfl)
theorem raiseL_ok {g : Grs} {n : Int} {wd : Wd} : ∀ {sk sk' : List Fm} {c : Clo}, raiseL n wd sk = some (sk', c) → (∀ f ∈ sk, FmOk g f ∧ f.i < (curB g f).is.l.length) → (∀ f ∈ sk', FmOk g f ∧ f.i < (curB g f).is.l.length) ∧ sk'.length ≤ sk.length
  | [], sk', c, h, _ => by cases h
  | f :: r, sk', c, h, hk => by
    unfold raiseL at h
    split at h
    · cases h
      refine ⟨fun f' hf' => ?_, Nat.le_refl _⟩
      rcases List.mem_cons.1 hf' with rfl | hf'
      · have := hk f (List.mem_cons_self ..)
        exact ⟨⟨this.1.f0, this.1.f1, this.1.b⟩, this.2⟩
      · exact hk f' (List.mem_cons_of_mem _ hf')
    · have := raiseL_ok h (fun f' hf' => hk f' (List.mem_cons_of_mem _ hf'))
      exact ⟨this.1, Nat.le_succ_of_le this.2⟩
theorem new_ok {g : Grs} {c : Clo} {x : Vl} (hne : ∀ f ∈ g.fs.l, 0 < f.bs.l.length) (h0 : 0 ≤ c.1) (h1 : c.1 < g.fs.l.length) : FmOk g (newF c x) := ⟨h0, h1, hne _ (getD_mem (show c.1.toNat < g.fs.l.length by omega))⟩
structure StOk (g : Grs) (m m' : Mc) : Prop where
  ok : McOk g m'
  sk : m'.sk.length ≤ m.sk.length + 1
  out : m'.wd.out.length ≤ m.wd.out.length + 1
theorem raise_ok {g : Grs} {n : Int} {m m' : Mc} (hs : raiseF g n m.wd m.sk = .go m') (h : McOk g m) (hne : ∀ f ∈ g.fs.l, 0 < f.bs.l.length) (h0 : 0 ≤ m'.fm.c.1) (h1 : m'.fm.c.1 < g.fs.l.length) : StOk g m m' := by
  unfold raiseF stuckF at hs
  split at hs
  · cases hs
  split at hs
  · rename_i sk' c hr
    cases hs
    obtain ⟨hk, hl⟩ := raiseL_ok (g := g) hr h.sk
    exact ⟨⟨new_ok hne h0 h1, Nat.zero_le _, hk⟩, Nat.le_succ_of_le hl, Nat.le_succ _⟩
  · cases hs
theorem enter_ok {g : Grs} {f x : Vl} {m m' : Mc} (hs : enterF f x m.wd m.sk = .go m') (h : McOk g m) (hne : ∀ f ∈ g.fs.l, 0 < f.bs.l.length) (h0 : 0 ≤ m'.fm.c.1) (h1 : m'.fm.c.1 < g.fs.l.length) : StOk g m m' := by
  unfold enterF stuckF at hs
  split at hs
  · cases hs
    exact ⟨⟨new_ok hne h0 h1, Nat.zero_le _, h.sk⟩, Nat.le_succ _, Nat.le_succ _⟩
  · cases hs
theorem call_ok {g : Grs} {f x : Vl} {hd : Option Clo} {m m' : Mc} (hs : callF f x hd m.wd m.sk m.fm = .go m') (h : McOk g m) (hi : m.fm.i < (curB g m.fm).is.l.length) (hne : ∀ f ∈ g.fs.l, 0 < f.bs.l.length) (h0 : 0 ≤ m'.fm.c.1) (h1 : m'.fm.c.1 < g.fs.l.length) : StOk g m m' := by
  unfold callF stuckF at hs
  split at hs
  · cases hs
    refine ⟨⟨new_ok hne h0 h1, Nat.zero_le _, fun f hf => ?_⟩, Nat.le_refl _, Nat.le_succ _⟩
    rcases List.mem_cons.1 hf with rfl | hf
    · exact ⟨⟨h.fm.f0, h.fm.f1, h.fm.b⟩, hi⟩
    · exact h.sk f hf
  · cases hs
theorem ins_ok {g : Grs} {x : Ins} {m m' : Mc} (hs : insF g m.fm x m.wd m.sk = .go m') (h : McOk g m) (hi : m.fm.i < (curB g m.fm).is.l.length) (hne : ∀ f ∈ g.fs.l, 0 < f.bs.l.length) (h0 : 0 ≤ m'.fm.c.1) (h1 : m'.fm.c.1 < g.fs.l.length) : StOk g m m' := by
  unfold insF at hs
  split at hs
  · exact call_ok hs h hi hne h0 h1
  split at hs
  · split at hs
    · split at hs
      · exact call_ok hs h hi hne h0 h1
      · cases hs
    · cases hs
  split at hs
  · split at hs
    · exact call_ok hs h hi hne h0 h1
    · cases hs
  split at hs
  · exact raise_ok hs h hne h0 h1
  · rename_i v wd' hp
    split at hs
    · cases hs
    · cases hs
      exact ⟨⟨⟨h.fm.f0, h.fm.f1, h.fm.b⟩, hi, h.sk⟩, Nat.le_succ _, plain_out hp⟩
theorem follow_ok {g : Grs} {e : Edg} {m : Mc} (h : McOk g m) (h0 : 0 ≤ e.b) (h1 : e.b < (g.fs.l.getD m.fm.c.1.toNat gr0).bs.l.length) : StOk g m ⟨m.wd, m.sk, followF g m.fm e⟩ :=
  ⟨⟨⟨h.fm.f0, h.fm.f1, by show e.b.toNat < (g.fs.l.getD m.fm.c.1.toNat gr0).bs.l.length; omega⟩, Nat.zero_le _, h.sk⟩, Nat.le_succ _, Nat.le_succ _⟩
theorem back_ok {g : Grs} {kd : Int} {x : Vl} {m m' : Mc} (hs : backF g kd x m.wd m.sk = .go m') (h : McOk g m) : StOk g m m' := by
  obtain ⟨wd, sk, fm⟩ := m
  dsimp only at hs
  unfold backF stuckF at hs
  split at hs
  · split at hs <;> cases hs
  · rename_i f r
    cases hs
    have hf := h.sk f (List.mem_cons_self ..)
    refine ⟨⟨⟨hf.1.f0, hf.1.f1, hf.1.b⟩, hf.2, fun f' hf' => h.sk f' (List.mem_cons_of_mem _ hf')⟩, ?_, Nat.le_succ _⟩
    show r.length ≤ (f :: r).length + 1
    rw [List.length_cons]; omega
theorem last_ok {g : Grs} {kd : Int} {e : En} {m m' : Mc} (hs : lastF g kd m.fm e m.wd m.sk = .go m') (h : McOk g m) (hne : ∀ f ∈ g.fs.l, 0 < f.bs.l.length) (hE : ∀ t ∈ e.to.l, 0 ≤ t.b ∧ t.b < (g.fs.l.getD m.fm.c.1.toNat gr0).bs.l.length) (h0 : 0 ≤ m'.fm.c.1) (h1 : m'.fm.c.1 < g.fs.l.length) : StOk g m m' := by
  have hb := h.fm.b
  have hE2 : ∀ i, 0 ≤ (e.to.l.getD i edg0).b ∧ (e.to.l.getD i edg0).b < (g.fs.l.getD m.fm.c.1.toNat gr0).bs.l.length := fun i => by
    rcases getD_or e.to.l i edg0 with h | h
    · exact hE _ h
    · rw [h]; exact ⟨Int.le_refl _, by show (0 : Int) < _; omega⟩
  unfold lastF stuckF at hs
  split at hs
  · exact back_ok hs h
  split at hs
  · exact enter_ok hs h hne h0 h1
  split at hs
  · cases hs; exact follow_ok h (hE2 _).1 (hE2 _).2
  split at hs
  · cases hs
  split at hs
  · exact raise_ok hs h hne h0 h1
  split at hs
  · cases hs; exact follow_ok h (hE2 _).1 (hE2 _).2
  · cases hs; exact follow_ok h (hE2 _).1 (hE2 _).2
theorem step_ok {g : Grs} {kd : Int} {m m' : Mc} (hs : stepF g kd m = .go m') (h : McOk g m) (hne : ∀ f ∈ g.fs.l, 0 < f.bs.l.length) (hE : ∀ t ∈ (curB g m.fm).e.to.l, 0 ≤ t.b ∧ t.b < (g.fs.l.getD m.fm.c.1.toNat gr0).bs.l.length) (h0 : 0 ≤ m'.fm.c.1) (h1 : m'.fm.c.1 < g.fs.l.length) : StOk g m m' := by
  unfold stepF at hs
  split at hs
  · exact ins_ok hs h (by assumption) hne h0 h1
  · exact last_ok hs h hne hE h0 h1
theorem first_ok {g : Grs} {s : ByteArray} (hne : ∀ f ∈ g.fs.l, 0 < f.bs.l.length) (h : 0 < g.fs.l.length) : McOk g (firstM s) := ⟨new_ok hne (by decide) (by show (0 : Int) < _; omega), Nat.zero_le _, fun f hf => absurd hf (List.not_mem_nil)⟩
theorem may_ne {g : Grs} (h : MayP g) : ∀ f ∈ g.fs.l, 0 < f.bs.l.length := fun f hf => (h.gr f hf).ne
theorem atS_W {g : Grs} {S : Int → Prop} {a : Atm} (hs : g.ss.l.length ≤ 9223372036854775807) (h : atS g S a) : atW g a := by
  rcases h with ⟨h1, h2, h3, _⟩ | ⟨h1, h2, h3⟩ | ⟨h1, h2, h3⟩
  · exact ⟨⟨by omega, by omega⟩, fun e => by omega⟩
  · exact ⟨⟨by omega, by omega⟩, fun e => by omega⟩
  · exact ⟨⟨by omega, by omega⟩, fun e => ⟨h2, h3⟩⟩
structure CurOk (g : Grs) (fm : Fm) : Prop where
  gr : (g.fs.l.getD fm.c.1.toNat gr0) ∈ g.fs.l
  bl : (g.fs.l.getD fm.c.1.toNat gr0).bs.l[fm.b]? = some (curB g fm)
  blk : BlkP g (g.fs.l.getD fm.c.1.toNat gr0) (g.fs.l.map Gr.caps) fm.b (curB g fm) (BS (g.fs.l.getD fm.c.1.toNat gr0) fm.b)
theorem cur_ok {g : Grs} {fm : Fm} (h : MayP g) (hf : FmOk g fm) : CurOk g fm := by
  have hm : (g.fs.l.getD fm.c.1.toNat gr0) ∈ g.fs.l := getD_mem (show fm.c.1.toNat < g.fs.l.length by have := hf.f0; have := hf.f1; omega)
  have hb : (g.fs.l.getD fm.c.1.toNat gr0).bs.l[fm.b]? = some (curB g fm) := by
    unfold curB blkOf
    rw [List.getD_eq_getElem?_getD (l := (g.fs.l.getD fm.c.1.toNat gr0).bs.l), List.getElem?_eq_getElem hf.b]; rfl
  exact ⟨hm, hb, ((h.gr _ hm).blk _ _ hb).2⟩
theorem CurOk.edge {g : Grs} {fm : Fm} (hs : g.ss.l.length ≤ 9223372036854775807) (h : CurOk g fm) {t : Edg} (ht : t ∈ (curB g fm).e.to.l) : 0 ≤ t.b ∧ t.b < (g.fs.l.getD fm.c.1.toNat gr0).bs.l.length ∧ t.a.l.length = (blkOf g fm.c.1 t.b.toNat).ps.l.length ∧ ∀ a ∈ t.a.l, atW g a := by
  obtain ⟨h1, h2, h3, h4⟩ := h.blk.edges t ht
  exact ⟨by omega, h2, h3, fun a ha => atS_W hs (h4 a ha)⟩
theorem sum_mem {α : Type} (f : α → Nat) : ∀ {l : List α} {x : α}, x ∈ l → f x ≤ (l.map f).sum
  | y :: l, x, h => by
    rw [List.map_cons, List.sum_cons]
    rcases List.mem_cons.1 h with rfl | h
    · omega
    · have := sum_mem f h; omega
theorem CurOk.size {g : Grs} {fm : Fm} (h : CurOk g fm) (hs : grsN g ≤ 65536) : blkN (curB g fm) ≤ 65536 := by
  have h1 := sum_mem grN h.gr
  have h2 := sum_mem blkN (List.mem_of_getElem? h.bl)
  have h3 : grN (g.fs.l.getD fm.c.1.toNat gr0) = ((g.fs.l.getD fm.c.1.toNat gr0).bs.l.map blkN).sum := rfl
  have h4 : grsN g = (g.fs.l.map grN).sum := rfl
  omega
theorem len_sum {α : Type} (f : α → Nat) : ∀ (l : List α), l.length ≤ (l.map fun x => 1 + f x).sum
  | [] => Nat.le_refl _
  | x :: l => by
    have := len_sum f l
    rw [List.map_cons, List.sum_cons, List.length_cons]
    omega
theorem blk_sizes {bl : Blc} (h : blkN bl ≤ 65536) : bl.ps.l.length ≤ 65536 ∧ bl.is.l.length ≤ 65536 ∧ (∀ i ∈ bl.is.l, i.r.a.l.length ≤ 65536) ∧ bl.e.a.l.length ≤ 65536 ∧ bl.e.to.l.length ≤ 65536 ∧ ∀ t ∈ bl.e.to.l, t.a.l.length ≤ 65536 := by
  unfold blkN at h
  have h1 : bl.is.l.length ≤ (bl.is.l.map fun i => 1 + i.r.a.l.length).sum := len_sum (fun i : Ins => i.r.a.l.length) bl.is.l
  have h2 : bl.e.to.l.length ≤ (bl.e.to.l.map fun t => 1 + t.a.l.length).sum := len_sum (fun t : Edg => t.a.l.length) bl.e.to.l
  refine ⟨by omega, by omega, fun i hi => ?_, by omega, by omega, fun t ht => ?_⟩
  · have := sum_mem (fun i : Ins => 1 + i.r.a.l.length) hi
    omega
  · have := sum_mem (fun t : Edg => 1 + t.a.l.length) ht
    omega
end Go.Proofs.YtenlcdokaadobaaGreatDoor
namespace Go.Proofs.YtenlcdokaadobaaGreatDoor
open Go Go.Fw
set_option linter.unusedVariables false
def psum {α : Type} (f : α → Nat) (l : List α) (i : Nat) : Nat := ((l.take i).map f).sum
theorem psum_0 {α : Type} (f : α → Nat) (l : List α) : psum f l 0 = 0 := by unfold psum; rw [List.take_zero]; rfl
theorem psum_next {α : Type} {f : α → Nat} {l : List α} {i : Nat} {x : α} (h : l[i]? = some x) : psum f l (i + 1) = psum f l i + f x := by
  unfold psum
  rw [take_snoc h, List.map_append, List.sum_append]
  simp
theorem psum_all {α : Type} (f : α → Nat) (l : List α) : psum f l l.length = (l.map f).sum := by unfold psum; rw [List.take_length]
theorem psum_le {α : Type} (f : α → Nat) (l : List α) (i : Nat) : psum f l i ≤ (l.map f).sum := by
  unfold psum
  conv => rhs; rw [← List.take_append_drop i l, List.map_append, List.sum_append]
  exact Nat.le_add_right _ _
def PR (most n S : Nat) : Prop := n = S ∨ (most < n ∧ n ≤ S)
theorem PR_0 (most : Nat) : PR most 0 0 := .inl rfl
theorem PR_r (most n : Nat) : PR most n (n + 0) := .inl rfl
theorem PR_self (most n m : Nat) (h : n = m) : PR most n m := .inl h
theorem PR_val {m n : Int} (h : m = n) : (some (Value.int .i64 m) : Option Value) = some (.int .i64 n) := by rw [h]
theorem PR.up {most n S T : Nat} (h : PR most n S) (hn : most < n) (hT : S ≤ T) : PR most n T := by
  rcases h with h | h
  · exact .inr ⟨hn, by omega⟩
  · exact .inr ⟨h.1, by omega⟩
theorem PR.eq {most n S : Nat} (h : PR most n S) (hn : n ≤ most) : n = S := by
  rcases h with h | h
  · exact h
  · omega
theorem PR.iff {most n S : Nat} (h : PR most n S) : n ≤ most ↔ S ≤ most := by
  rcases h with h | h <;> omega
abbrev insM (i : Ins) : Nat := 1 + i.r.a.l.length
abbrev edgM (t : Edg) : Nat := 1 + t.a.l.length
theorem blkM_eq (bl : Blc) : blkN bl = 2 + bl.ps.l.length + bl.e.a.l.length + (bl.is.l.map insM).sum + (bl.e.to.l.map edgM).sum := by
  show 2 + bl.ps.l.length + (bl.is.l.map insM).sum + bl.e.a.l.length + (bl.e.to.l.map edgM).sum = _
  omega
structure SzB (m : Nat) (bl : Blc) : Prop where
  ps : bl.ps.l.length ≤ m
  is : bl.is.l.length ≤ m
  ia : ∀ i ∈ bl.is.l, i.r.a.l.length ≤ m
  ea : bl.e.a.l.length ≤ m
  et : bl.e.to.l.length ≤ m
  ta : ∀ t ∈ bl.e.to.l, t.a.l.length ≤ m
structure SzG (m : Nat) (g : Grs) : Prop where
  fs : g.fs.l.length ≤ m
  bs : ∀ f ∈ g.fs.l, f.bs.l.length ≤ m
  bl : ∀ f ∈ g.fs.l, ∀ b ∈ f.bs.l, SzB m b
theorem gr_bs {l : List Gr} {i : Nat} {f : Gr} (h : l[i]? = some f) : (flat encG l)[i * 2 + 1]? = some (.slice f.bs.o f.bs.l.length f.bs.c) := flat_get (off := 1) encG_len h rfl
theorem in_a {l : List Ins} {i : Nat} {x : Ins} (h : l[i]? = some x) : (flat encIn l)[i * 5 + 1 + 3]? = some (.slice x.r.a.o x.r.a.l.length x.r.a.c) := by rw [Nat.add_assoc]; exact flat_get (off := 4) encIn_len h rfl
theorem ed_a {l : List Edg} {i : Nat} {x : Edg} (h : l[i]? = some x) : (flat encEd l)[i * 2 + 1]? = some (.slice x.a.o x.a.l.length x.a.c) := flat_get (off := 1) encEd_len h rfl
set_option maxRecDepth 10000 attribute [local irreducible] Code.wp wpList Calls Ex Op1 sat bat blk cb own Go.Fw.mp Go.Fw.mpO Go.Fw.mpI Go.Fw.mpE Go.Fw.itr HS Rd Ret wkD Hp Cl Cls Exit.then Exit.inBlock Exit.noGoto bodyPost Go.Fw.flat wk2 Go.Fw.all Go.Fw.owns wpOp
attribute [local irreducible] sk mpK sko mvO entK opM Go.Fw.mset Go.Fw.mv opK psum PR

set_option maxHeartbeats 16000000 in
theorem Parts_spec (w0 : World) (g : Grs) (most : Nat) (hm : most ≤ 100000) (hR : RdGs w0 g) (hs : SzG 1048576 g) :
    Ret Tryz.prog 25 #[.agg (encGs g).toArray, .int .i64 most] w0 (fun r w => ∃ n : Nat, r = .int .i64 n ∧ (n ≤ most ↔ grsN g ≤ most) ∧ Kp w0 noM w) := by
  have hH : HS w0 noM [] w0 := HS.init w0 noM
  have hfs := hs.fs
  have hspF : Sp g.fs.o g.fs.l.length := hR.1.1.sp (sz := 2) (flat_length encG_len _) (by omega)
  (refine enter (N := 107) Tryz.func25 rfl Tryz.ntmps25 rfl ?_; intro a hA; dsimp only [sl0, Nat.reduceAdd] at hA)
  repeat' (first | (refine QT ?_; clear hA a; intro a hA) | (refine BT ?_; clear hA hH; rintro _ w ⟨bN, rfl, hH⟩ a hA) | (refine CT ?_ <;> repeat' refine CT ?_) | fail)
  obtain ⟨b2, hb2⟩ : ∃ x, x = bN := ⟨_, rfl⟩
  rw [← hb2] at hA hH
  clear hb2 bN
  refine wp_lpk (S := Nat) (fun i a w => ∃ n : Nat, (i ≤ g.fs.l.length ∧ PR most n (psum grN g.fs.l i) ∧ n ≤ 5000000) ∧ HS w0 noM [cb b2 25 (encGs g)] w ∧ Sl 107 [(6, .int .i64 i), (5, .int .i64 n), (2, .pointer (some (bat b2 0))), (1, .int .i64 most)] a) (fun i => g.fs.l.length - i)
    (fun a w => ∃ n : Nat, PR most n (grsN g) ∧ HS w0 noM [] w ∧ Sl 107 [(5, .int .i64 n)] a) 0 ⟨0, ⟨Nat.zero_le _, by rw [psum_0]; exact PR_0 most, Nat.zero_le _⟩, hH, (hA.sub SBT)⟩ ?_ ?_
  · clear hA hH
    rintro i a w ⟨n, ⟨hi, hp, hn5⟩, hH, hA⟩
    by_cases hlt : i < g.fs.l.length
    rotate_left
    · obtain rfl : i = g.fs.l.length := by omega
      repeat' (first | (refine GT ?_ ?_ <;> intro hg <;> clear hA a <;> intro a hA <;> (first | exact FA | replace hg := of_decide_eq_true hg | replace hg := of_decide_eq_false hg | skip)) | (refine QT ?_; clear hA a; intro a hA) | (refine CT ?_ <;> repeat' refine CT ?_) | fail)
      exact ⟨n, by rw [psum_all] at hp; exact hp, hH.tail, (hA.sub SBT)⟩
    by_cases hle : n ≤ most
    rotate_left
    · repeat' (first | (refine GT ?_ ?_ <;> intro hg <;> clear hA a <;> intro a hA <;> (first | exact FA | replace hg := of_decide_eq_true hg | replace hg := of_decide_eq_false hg | skip)) | (refine QT ?_; clear hA a; intro a hA) | ((first | refine CT ?_ | (refine DT ?_ ?_ <;> intro hc <;> try (exfalso; omega))) <;> repeat' refine CT ?_) | fail)
      exact ⟨n, hp.up (by omega) (psum_le grN _ _), hH.tail, (hA.sub SBT)⟩
    obtain rfl := hp.eq hle
    obtain ⟨f, hf⟩ : ∃ x, g.fs.l[i]? = some x := ⟨_, List.getElem?_eq_getElem hlt⟩
    have hfm := List.mem_of_getElem? hf
    have hRf := hR.2.1 f hfm
    have hbs := hs.bs f hfm
    have hvG := gr_bs hf
    have hspB : Sp f.bs.o f.bs.l.length := hRf.1.1.sp (sz := 6) (flat_length encBl_len _) (by omega)
    repeat' (first | (refine GT ?_ ?_ <;> intro hg <;> clear hA a <;> intro a hA <;> (first | exact FA | replace hg := of_decide_eq_true hg | replace hg := of_decide_eq_false hg | skip)) | (refine QT ?_; clear hA a; intro a hA) | ((first | refine CT ?_ | (refine DT ?_ ?_ <;> intro hc <;> try (exfalso; omega))) <;> repeat' refine CT ?_) | fail)
    refine wp_lpk (S := Nat) (fun k a w => ∃ n : Nat, (k ≤ f.bs.l.length ∧ PR most n (psum grN g.fs.l i + psum blkN f.bs.l k) ∧ n ≤ 5000000) ∧ HS w0 noM [cb b2 25 (encGs g)] w ∧ Sl 107 [(7, .int .i64 k), (6, .int .i64 i), (5, .int .i64 n), (2, .pointer (some (bat b2 0))), (1, .int .i64 most)] a) (fun k => f.bs.l.length - k)
      (fun a w => ∃ n : Nat, (PR most n (psum grN g.fs.l (i + 1)) ∧ n ≤ 5000000) ∧ HS w0 noM [cb b2 25 (encGs g)] w ∧ Sl 107 [(6, .int .i64 i), (5, .int .i64 n), (2, .pointer (some (bat b2 0))), (1, .int .i64 most)] a) 0 ⟨_, ⟨Nat.zero_le _, by rw [psum_0]; exact PR_r most _, hn5⟩, hH, (hA.sub SBT)⟩ ?_ ?_
    · clear hA hH
      rintro k a w ⟨n, ⟨hk, hp2, hn6⟩, hH, hA⟩
      by_cases hlk : k < f.bs.l.length
      rotate_left
      · obtain rfl : k = f.bs.l.length := by omega
        repeat' (first | (refine GT ?_ ?_ <;> intro hg <;> clear hA a <;> intro a hA <;> (first | exact FA | replace hg := of_decide_eq_true hg | replace hg := of_decide_eq_false hg | skip)) | (refine XT ?_; apply XE; (first | (apply ex_indexAddr_nat; rfl; rfl; omega; exact hspF) | (apply ex_load; rfl; exact cl_rd hR.1.1 id hvG)); clear hA a; intro a hA) | (refine QT ?_; clear hA a; intro a hA) | (refine CT ?_ <;> repeat' refine CT ?_) | fail)
        refine ⟨n, ⟨?_, hn6⟩, hH, (hA.sub SBT)⟩
        rw [psum_next hf]
        rw [psum_all] at hp2
        exact hp2
      by_cases hl2 : n ≤ most
      rotate_left
      · repeat' (first | (refine GT ?_ ?_ <;> intro hg <;> clear hA a <;> intro a hA <;> (first | exact FA | replace hg := of_decide_eq_true hg | replace hg := of_decide_eq_false hg | skip)) | (refine XT ?_; apply XE; (first | (apply ex_indexAddr_nat; rfl; rfl; omega; exact hspF) | (apply ex_load; rfl; exact cl_rd hR.1.1 id hvG)); clear hA a; intro a hA) | (refine QT ?_; clear hA a; intro a hA) | ((first | refine CT ?_ | (refine DT ?_ ?_ <;> intro hc <;> try (exfalso; omega))) <;> repeat' refine CT ?_) | fail)
        refine ⟨n, ⟨?_, hn6⟩, hH, (hA.sub SBT)⟩
        rw [psum_next hf]
        exact hp2.up (by omega) (Nat.add_le_add_left (psum_le blkN _ _) _)
      obtain rfl := hp2.eq hl2
      obtain ⟨bl, hbl⟩ : ∃ x, f.bs.l[k]? = some x := ⟨_, List.getElem?_eq_getElem hlk⟩
      have hbm := List.mem_of_getElem? hbl
      have hRb := hRf.2 bl hbm
      have hsb := hs.bl f hfm bl hbm
      have hs1 := hsb.ps
      have hs2 := hsb.is
      have hs3 := hsb.ea
      have hs4 := hsb.et
      have hspI : Sp bl.is.o bl.is.l.length := hRb.2.1.1.sp (sz := 5) (flat_length encIn_len _) (by omega)
      have hspT : Sp bl.e.to.o bl.e.to.l.length := hRb.2.2.2.2.2.1.1.sp (sz := 2) (flat_length encEd_len _) (by omega)
      repeat' (first | (refine GT ?_ ?_ <;> intro hg <;> clear hA a <;> intro a hA <;> (first | exact FA | replace hg := of_decide_eq_true hg | replace hg := of_decide_eq_false hg | skip)) | (refine XT ?_; apply XE; (first | (apply ex_indexAddr_nat; rfl; rfl; omega; first | exact hspF | exact hspB) | (apply ex_load; rfl; exact cl_rd hR.1.1 id hvG) | (apply ex_load_st (vs := encBl bl); rfl; rfl; exact cls_rd hRf.1.1 id (flat_all encBl_len hbl))); clear hA a; intro a hA) | (refine QT ?_; clear hA a; intro a hA) | (refine BT ?_; clear hA hH; rintro _ w ⟨bN, rfl, hH⟩ a hA) | (apply st_op0 hA rfl rfl; apply op_store_agg (vs := encBl bl); rfl; rfl; exact hH; (repeat constructor); (repeat rfl); clear hH; rintro _ w hH) | ((first | refine CT ?_ | (refine DT ?_ ?_ <;> intro hc <;> try (exfalso; omega))) <;> repeat' refine CT ?_) | fail)
      obtain ⟨b8, hb8⟩ : ∃ x, x = bN := ⟨_, rfl⟩
      rw [← hb8] at hA hH
      clear hb8 bN
      obtain ⟨S0, hS0⟩ : ∃ S0, S0 = psum grN g.fs.l i + psum blkN f.bs.l k := ⟨_, rfl⟩
      rw [← hS0] at hA hl2 hn6 hp2
      rw [show ((S0 : Nat) : Int) + (2 + (bl.ps.l.length : Int) + (bl.e.a.l.length : Int)) = ((S0 + (2 + bl.ps.l.length + bl.e.a.l.length) : Nat) : Int) by omega] at hA
      obtain ⟨S1, hS1⟩ : ∃ S1, S1 = S0 + (2 + bl.ps.l.length + bl.e.a.l.length) := ⟨_, rfl⟩
      rw [← hS1] at hA
      refine wp_lpk (S := Nat) (fun j a w => ∃ n : Nat, (j ≤ bl.is.l.length ∧ PR most n (S1 + psum insM bl.is.l j) ∧ n ≤ 4000000) ∧ HS w0 noM [cb b8 53 (encBl bl), cb b2 25 (encGs g)] w ∧ Sl 107 [(9, .int .i64 j), (8, .pointer (some (bat b8 0))), (7, .int .i64 k), (6, .int .i64 i), (5, .int .i64 n), (2, .pointer (some (bat b2 0))), (1, .int .i64 most)] a) (fun j => bl.is.l.length - j)
        (fun a w => ∃ n : Nat, (PR most n (S1 + (bl.is.l.map insM).sum) ∧ n ≤ 4000000) ∧ HS w0 noM [cb b8 53 (encBl bl), cb b2 25 (encGs g)] w ∧ Sl 107 [(8, .pointer (some (bat b8 0))), (7, .int .i64 k), (6, .int .i64 i), (5, .int .i64 n), (2, .pointer (some (bat b2 0))), (1, .int .i64 most)] a) 0 ⟨S1, ⟨Nat.zero_le _, by rw [psum_0]; exact PR_r most _, by omega⟩, hH, (hA.sub SBT)⟩ ?_ ?_
      · clear hA hH
        rintro j a w ⟨n, ⟨hj, hp3, hn7⟩, hH, hA⟩
        by_cases hlj : j < bl.is.l.length
        rotate_left
        · obtain rfl : j = bl.is.l.length := by omega
          repeat' (first | (refine GT ?_ ?_ <;> intro hg <;> clear hA a <;> intro a hA <;> (first | exact FA | replace hg := of_decide_eq_true hg | replace hg := of_decide_eq_false hg | skip)) | (refine QT ?_; clear hA a; intro a hA) | (refine CT ?_ <;> repeat' refine CT ?_) | fail)
          rw [psum_all] at hp3
          exact ⟨n, ⟨hp3, hn7⟩, hH, (hA.sub SBT)⟩
        by_cases hl3 : n ≤ most
        rotate_left
        · repeat' (first | (refine GT ?_ ?_ <;> intro hg <;> clear hA a <;> intro a hA <;> (first | exact FA | replace hg := of_decide_eq_true hg | replace hg := of_decide_eq_false hg | skip)) | (refine QT ?_; clear hA a; intro a hA) | ((first | refine CT ?_ | (refine DT ?_ ?_ <;> intro hc <;> try (exfalso; omega))) <;> repeat' refine CT ?_) | fail)
          exact ⟨n, ⟨hp3.up (by omega) (Nat.add_le_add_left (psum_le insM _ _) _), hn7⟩, hH, (hA.sub SBT)⟩
        obtain ⟨x, hx⟩ : ∃ x, bl.is.l[j]? = some x := ⟨_, List.getElem?_eq_getElem hlj⟩
        have hxa := hsb.ia x (List.mem_of_getElem? hx)
        have hvI := in_a hx
        repeat' (first | (refine GT ?_ ?_ <;> intro hg <;> clear hA a <;> intro a hA <;> (first | exact FA | replace hg := of_decide_eq_true hg | replace hg := of_decide_eq_false hg | skip)) | (refine XT ?_; apply XE; (first | (apply ex_indexAddr_nat; rfl; rfl; omega; exact hspI) | (apply ex_load; rfl; exact cl_rd hRb.2.1.1 id hvI)); clear hA a; intro a hA) | (refine QT ?_; clear hA a; intro a hA) | ((first | refine CT ?_ | (refine DT ?_ ?_ <;> intro hc <;> try (exfalso; omega))) <;> repeat' refine CT ?_) | fail)
        have hne := hp3.eq hl3
        refine ⟨j + 1, ⟨n + insM x, ⟨hlj, ?_, by show n + (1 + _) ≤ _; omega⟩, hH, (hA.sub (by refine ⟨rfl, rfl, rfl, rfl, ?_, rfl, rfl, trivial⟩; exact PR_val (by show (n : Int) + (1 + _) = ((n + (1 + _) : Nat) : Int); omega)))⟩, by omega⟩
        rw [psum_next hx, hne]
        exact PR_self most _ _ (Nat.add_assoc ..)
      clear hA hH
      rintro a w ⟨n, ⟨hp3, hn7⟩, hH, hA⟩
      obtain ⟨S2, hS2⟩ : ∃ S2, S2 = S1 + (bl.is.l.map insM).sum := ⟨_, rfl⟩
      rw [← hS2] at hp3
      repeat' (first | (refine QT ?_; clear hA a; intro a hA) | (refine CT ?_ <;> repeat' refine CT ?_) | fail)
      refine wp_lpk (S := Nat) (fun j a w => ∃ n : Nat, (j ≤ bl.e.to.l.length ∧ PR most n (S2 + psum edgM bl.e.to.l j) ∧ n ≤ 5000000) ∧ HS w0 noM [cb b8 53 (encBl bl), cb b2 25 (encGs g)] w ∧ Sl 107 [(10, .int .i64 j), (8, .pointer (some (bat b8 0))), (7, .int .i64 k), (6, .int .i64 i), (5, .int .i64 n), (2, .pointer (some (bat b2 0))), (1, .int .i64 most)] a) (fun j => bl.e.to.l.length - j)
        (fun a w => ∃ n : Nat, (PR most n (S2 + (bl.e.to.l.map edgM).sum) ∧ n ≤ 5000000) ∧ HS w0 noM [cb b8 53 (encBl bl), cb b2 25 (encGs g)] w ∧ Sl 107 [(7, .int .i64 k), (6, .int .i64 i), (5, .int .i64 n), (2, .pointer (some (bat b2 0))), (1, .int .i64 most)] a) 0 ⟨n, ⟨Nat.zero_le _, by rw [psum_0]; exact hp3, by omega⟩, hH, (hA.sub SBT)⟩ ?_ ?_
      · clear hA hH hp3 hn7 n
        rintro j a w ⟨n, ⟨hj, hp3, hn7⟩, hH, hA⟩
        by_cases hlj : j < bl.e.to.l.length
        rotate_left
        · obtain rfl : j = bl.e.to.l.length := by omega
          repeat' (first | (refine GT ?_ ?_ <;> intro hg <;> clear hA a <;> intro a hA <;> (first | exact FA | replace hg := of_decide_eq_true hg | replace hg := of_decide_eq_false hg | skip)) | (refine QT ?_; clear hA a; intro a hA) | (refine CT ?_ <;> repeat' refine CT ?_) | fail)
          rw [psum_all] at hp3
          exact ⟨n, ⟨hp3, hn7⟩, hH, (hA.sub SBT)⟩
        by_cases hl3 : n ≤ most
        rotate_left
        · repeat' (first | (refine GT ?_ ?_ <;> intro hg <;> clear hA a <;> intro a hA <;> (first | exact FA | replace hg := of_decide_eq_true hg | replace hg := of_decide_eq_false hg | skip)) | (refine QT ?_; clear hA a; intro a hA) | ((first | refine CT ?_ | (refine DT ?_ ?_ <;> intro hc <;> try (exfalso; omega))) <;> repeat' refine CT ?_) | fail)
          exact ⟨n, ⟨hp3.up (by omega) (Nat.add_le_add_left (psum_le edgM _ _) _), hn7⟩, hH, (hA.sub SBT)⟩
        obtain ⟨x, hx⟩ : ∃ x, bl.e.to.l[j]? = some x := ⟨_, List.getElem?_eq_getElem hlj⟩
        have hxa := hsb.ta x (List.mem_of_getElem? hx)
        have hvI := ed_a hx
        repeat' (first | (refine GT ?_ ?_ <;> intro hg <;> clear hA a <;> intro a hA <;> (first | exact FA | replace hg := of_decide_eq_true hg | replace hg := of_decide_eq_false hg | skip)) | (refine XT ?_; apply XE; (first | (apply ex_indexAddr_nat; rfl; rfl; omega; exact hspT) | (apply ex_load; rfl; exact cl_rd hRb.2.2.2.2.2.1.1 id hvI)); clear hA a; intro a hA) | (refine QT ?_; clear hA a; intro a hA) | ((first | refine CT ?_ | (refine DT ?_ ?_ <;> intro hc <;> try (exfalso; omega))) <;> repeat' refine CT ?_) | fail)
        have hne := hp3.eq hl3
        refine ⟨j + 1, ⟨n + edgM x, ⟨hlj, ?_, by show n + (1 + _) ≤ _; omega⟩, hH, (hA.sub (by refine ⟨rfl, rfl, rfl, rfl, ?_, rfl, rfl, trivial⟩; exact PR_val (by show (n : Int) + (1 + _) = ((n + (1 + _) : Nat) : Int); omega)))⟩, by omega⟩
        rw [psum_next hx, hne]
        exact PR_self most _ _ (Nat.add_assoc ..)
      clear hA hH hp3 hn7 n
      rintro a w ⟨n, ⟨hp3, hn7⟩, hH, hA⟩
      repeat' (first | (refine QT ?_; clear hA a; intro a hA) | (refine CT ?_ <;> repeat' refine CT ?_) | fail)
      refine ⟨k + 1, ⟨n, ⟨hlk, ?_, hn7⟩, hH.tail, (hA.sub SBT)⟩, by omega⟩
      rw [psum_next hbl, ← Nat.add_assoc, ← hS0]
      have e1 : S0 + blkN bl = S2 + (bl.e.to.l.map edgM).sum := by rw [blkM_eq, hS2, hS1]; omega
      rw [e1]
      exact hp3
    clear hA hH
    rintro a w ⟨n, ⟨hp2, hn6⟩, hH, hA⟩
    repeat' (first | (refine QT ?_; clear hA a; intro a hA) | (refine CT ?_ <;> repeat' refine CT ?_) | fail)
    exact ⟨i + 1, ⟨n, ⟨hlt, hp2, hn6⟩, hH, (hA.sub SBT)⟩, by omega⟩
  clear hA hH
  rintro a w ⟨n, hp, hH, hA⟩
  repeat' (first | (refine QT ?_; clear hA a; intro a hA) | (refine CT ?_ <;> repeat' refine CT ?_) | fail)
  exact rt1 (.inl rfl) rfl hA rfl ⟨n, rfl, hp.iff, hH.kp⟩
end Go.Proofs.YtenlcdokaadobaaGreatDoor
namespace Go.Proofs.YtenlcdokaadobaaGreatDoor
open Go Go.Fw
set_option linter.unusedVariables false
def xs4 : List ByteArray := [exnB, exnD, exnM, exnS]
theorem ris_nil : risP [] := fun i h => absurd h (Nat.not_lt_zero _)
theorem ris4 : risP xs4 := fun i hi => by
  match i, hi with
  | 0, _ => exact ⟨by decide +kernel, fun h => absurd h (Nat.lt_irrefl _)⟩
  | 1, _ => exact ⟨by decide +kernel, fun _ => by decide +kernel⟩
  | 2, _ => exact ⟨by decide +kernel, fun _ => by decide +kernel⟩
  | 3, _ => exact ⟨by decide +kernel, fun _ => by decide +kernel⟩
theorem anf4 {g : Grs} (hx : g.xs.l = xs4) (hl : g.ls.l = []) (ht : g.ts.l = []) (hs : g.ss.l = []) : AnfP [0] g where
  pos := by decide
  top := by decide
  c0 := rfl
  ls := by rw [hl]; exact ris_nil
  ts := by rw [ht]; exact ris_nil
  xs := by rw [hx]; exact ris4
  has := by rw [hx]; unfold hasS; decide +kernel
  ss := by rw [hs]; exact fun s h => absurd h (List.not_mem_nil)
  caps := by decide
def bl5 (o : Option Addr) (c : Nat) (n : Int) : Blc := ⟨nilV, nilV, ⟨1, ⟨o, c, [⟨2, n⟩]⟩, nilV, nilV⟩⟩
theorem up_nil : upP [] := fun i h => absurd h (Nat.not_lt_zero _)
theorem end5 (o : Option Addr) (c : Nat) (n : Int) : EndP (bl5 o c n).e where
  lo := show (1 : Int) ≤ 1 by decide
  hi := show (1 : Int) ≤ 6 by decide
  a := rfl
  to := rfl
  ns := show ((1 : Int) = 6 ↔ 0 < 0) by decide
  up := up_nil
theorem may5 {g : Grs} {o oB : Option Addr} {c cB oc : Nat} {n : Int} {of : Option Addr} (hn : -4611686018427387904 ≤ n ∧ n < 4611686018427387904) (hf : g.fs.l = [⟨0, ⟨oB, cB, [bl5 o c n]⟩⟩]) (hx : g.xs.l = xs4) (hl : g.ls.l = []) (ht : g.ts.l = []) (hs : g.ss.l = []) : MayP g where
  anf := by rw [hf]; exact anf4 hx hl ht hs
  gr := fun f hm => by
    rw [hf] at hm ⊢
    obtain rfl := List.mem_singleton.1 hm
    refine ⟨Nat.zero_lt_succ _, fun k bl hk => ?_, ⟨List.nodup_nil, fun x h => absurd h (List.not_mem_nil)⟩⟩
    match k, hk with
    | 0, hk =>
      obtain rfl : bl5 o c n = bl := by simpa using hk
      refine ⟨.inl rfl, ⟨fun _ => rfl, fun i x hx => (by cases hx), end5 o c n, fun a ha => ?_, fun t ht => absurd ht (List.not_mem_nil)⟩⟩
      obtain rfl := List.mem_singleton.1 ha
      exact .inr (.inl ⟨rfl, hn⟩)
  size := by unfold grsN; rw [hf]; simp [grN, blkN, bl5, nilV]
def blA (o0 o1 : Option Addr) (c0 c1 : Nat) : Blc := ⟨nilV, nilV, ⟨5, ⟨o0, c0, [⟨1, 1⟩]⟩, nilV, ⟨o1, c1, [⟨1, nilV⟩, ⟨2, nilV⟩]⟩⟩⟩
def blJ (o0 o1 : Option Addr) (c0 c1 : Nat) (n : Int) : Blc := ⟨nilV, nilV, ⟨4, nilV, nilV, ⟨o1, c1, [⟨3, ⟨o0, c0, [⟨2, n⟩]⟩⟩]⟩⟩⟩
def blR (o0 o1 : Option Addr) (c0 c1 : Nat) : Blc := ⟨⟨o0, c0, [2]⟩, nilV, ⟨1, ⟨o1, c1, [⟨1, 2⟩]⟩, nilV, nilV⟩⟩
theorem mayA {g : Grs} {a0 a1 b0 b1 d0 d1 e0 e1 oB : Option Addr} {x0 x1 y0 y1 z0 z1 v0 v1 cB : Nat} (hf : g.fs.l = [⟨0, ⟨oB, cB, [blA a0 a1 x0 x1, blJ b0 b1 y0 y1 7, blJ d0 d1 z0 z1 8, blR e0 e1 v0 v1]⟩⟩]) (hx : g.xs.l = xs4) (hl : g.ls.l = []) (ht : g.ts.l = []) (hs : g.ss.l = []) : MayP g where
  anf := by rw [hf]; exact anf4 hx hl ht hs
  gr := fun f hm => by
    rw [hf] at hm ⊢
    obtain rfl := List.mem_singleton.1 hm
    refine ⟨Nat.zero_lt_succ _, fun k bl hk => ?_, ⟨by show List.Nodup [2]; decide, fun x h => by
      have h : x ∈ [2] := h
      rw [List.mem_singleton] at h
      subst h; decide⟩⟩
    match k, hk with
    | 0, hk =>
      obtain rfl : blA a0 a1 x0 x1 = bl := by simpa using hk
      refine ⟨.inl rfl, ⟨fun _ => rfl, fun i x hx => (by cases hx), ⟨show (1 : Int) ≤ 5 by decide, show (5 : Int) ≤ 6 by decide, rfl, rfl, show ((5 : Int) = 6 ↔ 0 < 0) by decide, up_nil⟩, fun a ha => ?_, fun t ht => ?_⟩⟩
      · obtain rfl := List.mem_singleton.1 ha
        exact .inl ⟨rfl, by decide, by decide, .inl (by decide)⟩
      · have ht : t ∈ [(⟨1, nilV⟩ : Edg), ⟨2, nilV⟩] := ht
        rcases List.mem_cons.1 ht with rfl | ht
        · exact ⟨by decide, by show (1 : Int) < 4; decide, rfl, fun a ha => absurd ha (List.not_mem_nil)⟩
        obtain rfl := List.mem_singleton.1 ht
        exact ⟨by decide, by show (2 : Int) < 4; decide, rfl, fun a ha => absurd ha (List.not_mem_nil)⟩
    | 1, hk =>
      obtain rfl : blJ b0 b1 y0 y1 7 = bl := by simpa using hk
      refine ⟨.inr ⟨0, _, by decide, rfl, ⟨⟨1, nilV⟩, List.mem_cons_self .., rfl⟩⟩, ⟨fun h => (by cases h), fun i x hx => (by cases hx), ⟨show (1 : Int) ≤ 4 by decide, show (4 : Int) ≤ 6 by decide, rfl, rfl, show ((4 : Int) = 6 ↔ 0 < 0) by decide, up_nil⟩, fun a ha => absurd ha (List.not_mem_nil), fun t ht => ?_⟩⟩
      obtain rfl := List.mem_singleton.1 ht
      refine ⟨show (1 : Int) < 3 by decide, by show (3 : Int) < 4; decide, rfl, fun a ha => ?_⟩
      obtain rfl := List.mem_singleton.1 ha
      exact .inr (.inl ⟨rfl, by decide, by decide⟩)
    | 2, hk =>
      obtain rfl : blJ d0 d1 z0 z1 8 = bl := by simpa using hk
      refine ⟨.inr ⟨0, _, by decide, rfl, ⟨⟨2, nilV⟩, List.mem_cons_of_mem _ (List.mem_cons_self ..), rfl⟩⟩, ⟨fun h => (by cases h), fun i x hx => (by cases hx), ⟨show (1 : Int) ≤ 4 by decide, show (4 : Int) ≤ 6 by decide, rfl, rfl, show ((4 : Int) = 6 ↔ 0 < 0) by decide, up_nil⟩, fun a ha => absurd ha (List.not_mem_nil), fun t ht => ?_⟩⟩
      obtain rfl := List.mem_singleton.1 ht
      refine ⟨show (2 : Int) < 3 by decide, by show (3 : Int) < 4; decide, rfl, fun a ha => ?_⟩
      obtain rfl := List.mem_singleton.1 ha
      exact .inr (.inl ⟨rfl, by decide, by decide⟩)
    | 3, hk =>
      obtain rfl : blR e0 e1 v0 v1 = bl := by simpa using hk
      refine ⟨.inr ⟨1, _, by decide, rfl, ⟨_, List.mem_cons_self .., rfl⟩⟩, ⟨fun h => (by cases h), fun i x hx => (by cases hx), ⟨show (1 : Int) ≤ 1 by decide, show (1 : Int) ≤ 6 by decide, rfl, rfl, show ((1 : Int) = 6 ↔ 0 < 0) by decide, up_nil⟩, fun a ha => ?_, fun t ht => absurd ht (List.not_mem_nil)⟩⟩
      obtain rfl := List.mem_singleton.1 ha
      exact .inl ⟨rfl, by decide, by decide, .inr (.inr (.inl (List.mem_cons_self ..)))⟩
  size := by unfold grsN; rw [hf]; simp [grN, blkN, bl5, blA, blJ, blR, nilV]
theorem may0 {g : Grs} (hf : g.fs.l = []) : ¬ MayP g := fun h => by
  have := h.anf.pos
  rw [hf] at this
  exact absurd this (by decide)
end Go.Proofs.YtenlcdokaadobaaGreatDoor
namespace Go.Proofs.YtenlcdokaadobaaGreatDoor
open Go Go.Fw
set_option linter.unusedVariables false
def at5 : Atm := ⟨2, 5⟩
set_option maxRecDepth 10000 attribute [local irreducible] Code.wp wpList Calls Ex Op1 sat bat blk cb own Go.Fw.mp Go.Fw.mpO Go.Fw.mpI Go.Fw.mpE Go.Fw.itr HS Rd Ret wkD Hp Cl Cls Exit.then Exit.inBlock Exit.noGoto bodyPost Go.Fw.flat wk2 Go.Fw.all Go.Fw.owns wpOp
attribute [local irreducible] sk mpK sko mvO entK geS

set_option maxHeartbeats 4000000 in
theorem atomsA5_spec (w0 w : World) (H : List It) (c : Kk) (bK : Nat) (p : Int) (o : Option Addr) (hH : HS w0 noM (cb bK 127 (encKk c (p)) :: H) w) (hr : Rd w0 o (encAt at5)) (hp0 : 0 ≤ p) (hp1 : p ≤ 60001) :
    Ret Tryz.prog 79 #[.pointer (some (bat bK 0)), .slice o 1 1] w (fun r w' => r = .bool true ∧ HS w0 noM (cb bK 127 (encKk c (p + 1)) :: H) w') := by
  have hsp : Sp o 1 := hr.sp (sz := 2) rfl (by omega)
  (refine enter (N := 78) Tryz.func79 rfl Tryz.ntmps79 rfl ?_; intro a hA; dsimp only [sl0, Nat.reduceAdd] at hA)
  repeat' (first | (refine QT ?_; clear hA a; intro a hA) | (refine CT ?_ <;> repeat' refine CT ?_) | fail)
  refine wp_lpk (S := Nat) (fun i a w => i ≤ 1 ∧ HS w0 noM (cb bK 127 (encKk c (p + (i : Int))) :: H) w ∧ Sl 78 [(10, .int .i64 i), (9, .int .i64 (1 : Nat)), (8, .slice o 1 1), (0, .pointer (some (bat bK 0)))] a) (fun i => 1 - i)
    (fun a w => HS w0 noM (cb bK 127 (encKk c (p + 1)) :: H) w ∧ Sl 78 [] a) 0 ⟨by omega, (by rw [show p + ((0 : Nat) : Int) = p by omega]; exact hH), (hA.sub SBT)⟩ ?_ ?_
  · clear hA hH
    rintro i a w ⟨hi, hH, hA⟩
    by_cases hlt : i < 1
    rotate_left
    · obtain rfl : i = 1 := by omega
      repeat' (first | (refine QT ?_; clear hA a; intro a hA) | (refine CT ?_ <;> repeat' refine CT ?_) | fail)
      exact ⟨hH, (hA.sub SBT)⟩
    obtain rfl : i = 0 := by omega
    rw [show p + ((0 : Nat) : Int) = p by omega] at hH
    repeat' (first | (refine GT ?_ ?_ <;> intro hg <;> clear hA a <;> intro a hA <;> (first | exact FA | replace hg := of_decide_eq_true hg | replace hg := of_decide_eq_false hg | skip)) | (refine XT ?_; apply XE; (first | (apply ex_load_st (vs := encAt at5); rfl; rfl; exact cls_rd hr id (fun i v h => (by rw [Nat.zero_mul, Nat.zero_add]; exact h))) | (apply ex_indexAddr_nat; rfl; rfl; omega; exact hsp)); clear hA a; intro a hA) | (refine QT ?_; clear hA a; intro a hA) | (refine BT ?_; clear hA hH; rintro _ w ⟨bN, rfl, hH⟩ a hA) | (apply st_op0 hA rfl rfl; apply op_store_agg (vs := encAt at5); rfl; rfl; exact hH; (repeat constructor); (repeat rfl); clear hH; rintro _ w hH) | (apply st_op0 hA rfl rfl; apply op_store_fld (cs' := encKk c (p + 1)); rfl; rfl; rfl; exact hH; (repeat constructor); clear hH; rintro _ w hH) | ((first | refine CT ?_ | (refine DT ?_ ?_ <;> intro hc <;> try (exfalso; omega))) <;> repeat' refine CT ?_) | fail)
    all_goals first | exact ⟨1, ⟨by omega, hH.tail, (hA.sub SBT)⟩, by omega⟩ | (exfalso; have h1 := nd_t (by assumption); omega) | skip
  clear hA hH
  rintro a w ⟨hH, hA⟩
  repeat' (first | (refine QT ?_; clear hA a; intro a hA) | (refine CT ?_ <;> repeat' refine CT ?_) | fail)
  exact rt1 (.inl rfl) rfl hA rfl ⟨rfl, hH⟩
set_option maxHeartbeats 16000000 in
theorem body5_spec (w0 w : World) (H : List It) (c : Kk) (bK : Nat) (p : Int) (o : Option Addr) (hH : HS w0 noM (cb bK 127 (encKk c (p)) :: H) w) (hr : Rd w0 o (encAt at5)) (hp0 : 0 ≤ p) (hp1 : p ≤ 60000) :
    Ret Tryz.prog 45 #[.pointer (some (bat bK 0)), .agg (encB o).toArray, .int .i64 1] w (fun r w' => r = .bool true ∧ HS w0 noM (cb bK 127 (encKk c (p + 2)) :: H) w') := by
  (refine enter (N := 241) Tryz.func45 rfl Tryz.ntmps45 rfl ?_; intro a hA; dsimp only [sl0, Nat.reduceAdd] at hA)
  repeat' (first | (refine QT ?_; clear hA a; intro a hA) | (refine BT ?_; clear hA hH; rintro _ w ⟨bN, rfl, hH⟩ a hA) | (refine CT ?_ <;> repeat' refine CT ?_) | fail)
  (refine st_op hA rfl rfl (by decide) (op_call rfl rfl rfl (shapes_spec _)) ?_; clear hA; rintro _ w ⟨rfl, hk⟩ a hA; replace hH := hH.keep hk; clear hk)
  repeat' (first | (refine GT ?_ ?_ <;> intro hg <;> clear hA a <;> intro a hA <;> (first | exact FA | replace hg := of_decide_eq_true hg | replace hg := of_decide_eq_false hg | skip)) | (refine QT ?_; clear hA a; intro a hA) | (refine BT ?_; clear hA hH; rintro _ w ⟨bN, rfl, hH⟩ a hA) | (apply st_op0 hA rfl rfl; apply op_store_agg (vs := shp2); rfl; rfl; exact hH; (repeat constructor); (repeat rfl); clear hH; rintro _ w hH) | (apply st_op0 hA rfl rfl; apply op_store_fld (cs' := encKk c (p + 1)); rfl; rfl; rfl; exact hH; (repeat constructor); clear hH; rintro _ w hH) | (refine CT ?_ <;> repeat' refine CT ?_) | fail)
  replace hH := hH.up 4 rfl
  dsimp only [List.eraseIdx_cons_succ, List.eraseIdx_cons_zero] at hH
  (refine st_op hA rfl rfl (by decide) (op_call rfl rfl rfl (atomsA5_spec w0 _ _ c bK (p + 1) o hH hr (by omega) (by omega))) ?_; clear hA hH)
  rintro _ w ⟨rfl, hH⟩ a hA
  repeat' (first | (refine QT ?_; clear hA a; intro a hA) | (refine CT ?_ <;> repeat' refine CT ?_) | fail)
  (refine st_op hA rfl rfl (by decide) (op_call rfl rfl rfl (containsFA_spec _ _)) ?_; clear hA; rintro _ w ⟨rfl, hk⟩ a hA; replace hH := hH.keep hk; clear hk)
  repeat' (first | (refine QT ?_; clear hA a; intro a hA) | (refine CT ?_ <;> repeat' refine CT ?_) | fail)
  rw [show p + 1 + 1 = p + 2 by omega] at hH
  exact rt1 (.inl rfl) rfl hA rfl ⟨rfl, hH.rm 1 |>.rm 1 |>.rm 1 |>.rm 1⟩
set_option maxHeartbeats 16000000 in
theorem anfMay5_spec (w0 : World) (oF : Option Addr) (cF : Nat) (cs : List Int) (o : Option Addr) (g : Grs) (hF : Rd w0 oF (flat (encF o) cs)) (hr : Rd w0 o (encAt at5)) (hcl : cs.length ≤ 100000) (hls : RdV w0 encX g.ls) (hts : RdV w0 encX g.ts) (hxs : RdV w0 encX g.xs) (hss : RdV w0 encX g.ss) :
    Ret Tryz.prog 18 #[.agg (encP oF cs.length cF g).toArray] w0 (fun v w => ∃ b, v = .bool b ∧ (b = true ↔ AnfP cs g) ∧ Kp w0 noM w) := by
  have hH : HS w0 noM [] w0 := HS.init w0 noM
  have hspF : Sp oF cs.length := hF.sp (sz := 12) (flat_length (encF_len o) _) (by omega)
  (refine enter (N := 126) Tryz.func18 rfl Tryz.ntmps18 rfl ?_; intro a hA; dsimp only [sl0, Nat.reduceAdd] at hA)
  repeat' (first | (refine GT ?_ ?_ <;> intro hg <;> clear hA a <;> intro a hA <;> (first | exact FA | replace hg := of_decide_eq_true hg | replace hg := of_decide_eq_false hg | skip)) | (refine XT ?_; apply XE; (first | (apply ex_load; rfl; refine cl_rd hF id (cap_at ?_); (show 0 < _); omega)); clear hA a; intro a hA) | (refine QT ?_; clear hA a; intro a hA) | (refine BT ?_; clear hA hH; rintro _ w ⟨bN, rfl, hH⟩ a hA) | (refine LT ?_; clear hA hH; rintro _ w ⟨oN, rfl, hH⟩ a hA) | (refine st_op hA rfl rfl (by decide) (op_call rfl rfl rfl (rising_spec _ g.ls (hls.keep hH.kp))) ?_; clear hA; rintro _ w ⟨b, rfl, hb1, hk⟩ a hA; replace hH := hH.keep hk; clear hk) | (refine st_op hA rfl rfl (by decide) (op_call rfl rfl rfl (rising_spec _ g.ts (hts.keep hH.kp))) ?_; clear hA; rintro _ w ⟨b, rfl, hb2, hk⟩ a hA; replace hH := hH.keep hk; clear hk) | (refine st_op hA rfl rfl (by decide) (op_call rfl rfl rfl (rising_spec _ g.xs (hxs.keep hH.kp))) ?_; clear hA; rintro _ w ⟨b, rfl, hb3, hk⟩ a hA; replace hH := hH.keep hk; clear hk) | ((first | refine CT ?_ | (refine DT ?_ ?_ <;> intro hc <;> try (exfalso; omega))) <;> repeat' refine CT ?_) | fail)
  · exact rt1 (.inl rfl) rfl hA rfl ⟨_, rfl, anf_no (fun h => (by have := h.pos; omega)), hH.kp⟩
  · exact rt1 (.inl rfl) rfl hA rfl ⟨_, rfl, anf_no (fun h => (by have := h.top; omega)), hH.kp⟩
  · exact rt1 (.inl rfl) rfl hA rfl ⟨_, rfl, anf_no (fun h => (by assumption : cs.getD (Int.toNat 0) 0 ≠ 0) h.c0), hH.kp⟩
  · exact rt1 (.inl rfl) rfl hA rfl ⟨_, rfl, anf_no (fun h => nb_no hb1 (by assumption) h.ls), hH.kp⟩
  · exact rt1 (.inl rfl) rfl hA rfl ⟨_, rfl, anf_no (fun h => nb_no hb2 (by assumption) h.ts), hH.kp⟩
  · exact rt1 (.inl rfl) rfl hA rfl ⟨_, rfl, anf_no (fun h => nb_no hb3 (by assumption) h.xs), hH.kp⟩
  have hp1 := nb_yes hb1 (by assumption)
  have hp2 := nb_yes hb2 (by assumption)
  have hp3 := nb_yes hb3 (by assumption)
  have hc0 : cs.getD 0 0 = 0 := Decidable.not_not.1 (by assumption : ¬ cs.getD (Int.toNat 0) 0 ≠ 0)
  clear hb1 hb2 hb3
  obtain ⟨b1, hb1⟩ : ∃ x, x = bN := ⟨_, rfl⟩
  rw [← hb1] at hA hH
  clear hb1 bN
  have hcl2 : 1 ≤ cs.length := by omega
  have hcl4 : cs.length ≤ 4096 := by omega
  obtain ⟨sl, hsl0, hsl, hH1⟩ := own4 hH
  have hsl4 : sl = four := hsl0.trans rfl
  clear hsl0
  clear hH
  have hH := hH1
  clear hH1
  have hA2 : Sl 126 [(48, .int .i64 (0 : Nat)), (47, .int .i64 sl.length), (46, .slice oN sl.length sl.length), (1, .pointer (some (bat b1 0)))] a := by rw [hsl]; exact (hA.sub SBT)
  clear hA
  have hspS := hH.own_sp (T := 9) (o := oN) (.head _)
  refine wp_lpk (S := Nat) (fun i a w => (i ≤ sl.length ∧ ∀ k, k < i → hasS g.xs.l (sl.getD k default)) ∧ HS w0 noM [own 9 1 oN sl.length sl.length (flat encX sl), cb b1 34 (encP oF cs.length cF g)] w ∧ Sl 126 [(48, .int .i64 i), (47, .int .i64 sl.length), (46, .slice oN sl.length sl.length), (1, .pointer (some (bat b1 0)))] a) (fun i => sl.length - i)
    (fun a w => (∀ k, k < sl.length → hasS g.xs.l (sl.getD k default)) ∧ HS w0 noM [cb b1 34 (encP oF cs.length cF g)] w ∧ Sl 126 [(1, .pointer (some (bat b1 0)))] a) 0 ⟨⟨Nat.zero_le _, fun k h => absurd h (Nat.not_lt_zero _)⟩, hH, hA2⟩ ?_ ?_
  · clear hA2 hH
    rintro i a w ⟨⟨hi, hhas⟩, hH, hA⟩
    by_cases hlt : i < sl.length
    rotate_left
    · obtain rfl : i = sl.length := by omega
      repeat' (first | (refine QT ?_; clear hA a; intro a hA) | ((first | refine CT ?_ | (refine DT ?_ ?_ <;> intro hc <;> try (exfalso; omega))) <;> repeat' refine CT ?_) | fail)
      exact ⟨hhas, hH.tail, (hA.sub SBT)⟩
    have hv := strs_at hlt
    repeat' (first | (refine XT ?_; apply XE; (first | (apply ex_indexAddr_nat; rfl; rfl; omega; exact hspS) | (apply ex_load; rfl; apply cl_own (T := 9); exact MEMT; exact hv)); clear hA a; intro a hA) | (refine QT ?_; clear hA a; intro a hA) | ((first | refine CT ?_ | (refine DT ?_ ?_ <;> intro hc <;> try (exfalso; omega))) <;> repeat' refine CT ?_) | fail)
    (refine st_op hA rfl rfl (by decide) (op_call rfl rfl rfl (containsX_spec _ g.xs _ (hxs.keep hH.kp))) ?_; clear hA; rintro _ w ⟨rfl, hk⟩ a hA; replace hH := hH.keep hk; clear hk)
    repeat' (first | (refine QT ?_; clear hA a; intro a hA) | ((first | refine CT ?_ | (refine DT ?_ ?_ <;> intro hc <;> try (exfalso; omega))) <;> repeat' refine CT ?_) | fail)
    all_goals first | exact ⟨i + 1, ⟨⟨hlt, lt_next (p := fun k => hasS g.xs.l (sl.getD k default)) hhas (by assumption)⟩, hH, (hA.sub SBT)⟩, by omega⟩ | exact rt1 (.inl rfl) rfl hA rfl ⟨_, rfl, anf_no (fun h => (by assumption : ¬ 0 ≤ idxF g.xs.l (sl.getD i default)) (has4 h _ (hsl4 ▸ getD_mem hlt))), hH.kp⟩
  clear hA2 hH
  rintro a w ⟨hhas, hH, hA⟩
  rw [hsl4] at hhas
  have hx4 := has4_of hhas
  clear hhas hsl hsl4 hspS
  repeat' (first | (refine QT ?_; clear hA a; intro a hA) | (refine CT ?_ <;> repeat' refine CT ?_) | fail)
  (refine st_op hA rfl rfl (by decide) (op_call rfl rfl rfl (containsFX_spec _ g.ss (hss.keep hH.kp))) ?_; clear hA; rintro _ w ⟨b, rfl, hbs, hk⟩ a hA; replace hH := hH.keep hk; clear hk)
  repeat' (first | (refine XT ?_; apply XE; (first | (apply ex_build (szs := [(0, 5), (5, 1), (6, 1), (7, 1), (8, 1), (9, 1), (10, 1), (11, 1)]) (cs := (encKk (kk0 oF cs.length cF g) 0).toArray); exact run_szl (by (repeat (first | exact SzL.nil | refine SzL.cons ⟨_, rfl, by decide⟩ ?_))); rfl; rfl)); clear hA a; intro a hA) | (refine QT ?_; clear hA a; intro a hA) | (refine BT ?_; clear hA hH; rintro _ w ⟨bN, rfl, hH⟩ a hA) | ((first | refine CT ?_ | (refine DT ?_ ?_ <;> intro hc <;> try (exfalso; omega))) <;> repeat' refine CT ?_) | fail)
  · exact rt1 (.inl rfl) rfl hA rfl ⟨_, rfl, anf_no (fun h => hbs.1 (by assumption) h.ss), hH.kp⟩
  have hss4 : ∀ s ∈ g.ss.l, s.size ≤ 4096 := Classical.not_not.1 fun h => absurd ((by assumption : b = false).symm.trans (hbs.2 h)) (by decide)
  clear hbs
  obtain ⟨bK, hbK⟩ : ∃ x, x = bN := ⟨_, rfl⟩
  rw [← hbK] at hA hH
  clear hbK bN
  refine wp_lpk (S := Nat) (fun i a w => ∃ oA cA, i ≤ cs.length ∧ HS w0 noM [cb bK 127 (encKk ⟨oF, cs.length, cF, g, oA, i, cA, 0, none, none, none, none⟩ 0), own 3 1 oA i cA (flat Fw.encI (cs.take i)), cb b1 34 (encP oF cs.length cF g)] w ∧ Sl 126 [(67, .int .i64 i), (66, .int .i64 cs.length), (65, .slice oF cs.length cF), (5, .pointer (some (bat bK 0))), (1, .pointer (some (bat b1 0)))] a) (fun i => cs.length - i)
    (fun a w => ∃ oA nA cA, HS w0 noM [cb bK 127 (encKk ⟨oF, cs.length, cF, g, oA, nA, cA, 0, none, none, none, none⟩ 0), cb b1 34 (encP oF cs.length cF g)] w ∧ Sl 126 [(5, .pointer (some (bat bK 0))), (1, .pointer (some (bat b1 0)))] a) 0 ⟨none, 0, Nat.zero_le _, (by rw [List.take_zero]; exact (hH.nil_flat Fw.encI 3 1).perm PMT), (hA.sub SBT)⟩ ?_ ?_
  · clear hA hH
    rintro i a w ⟨oA, cA, hi, hH, hA⟩
    by_cases hlt : i < cs.length
    rotate_left
    · repeat' (first | (refine QT ?_; clear hA a; intro a hA) | ((first | refine CT ?_ | (refine DT ?_ ?_ <;> intro hc <;> try (exfalso; omega))) <;> repeat' refine CT ?_) | fail)
      exact ⟨oA, i, cA, hH.rm 1, (hA.sub SBT)⟩
    obtain ⟨x, hx⟩ : ∃ x, cs[i]? = some x := ⟨_, List.getElem?_eq_getElem hlt⟩
    have hvx := flat_all (encF_len o) hx
    repeat' (first | (refine XT ?_; apply XE; (first | (apply ex_load_st (vs := encF o x); rfl; rfl; exact cls_rd hF id hvx) | (apply ex_indexAddr_nat; rfl; rfl; omega; exact hspF)); clear hA a; intro a hA) | (refine QT ?_; clear hA a; intro a hA) | (refine BT ?_; clear hA hH; rintro _ w ⟨bN, rfl, hH⟩ a hA) | (apply st_op0 hA rfl rfl; apply op_store_agg (vs := encF o x); rfl; rfl; exact hH; (repeat constructor); (repeat rfl); clear hH; rintro _ w hH) | ((first | refine CT ?_ | (refine DT ?_ ?_ <;> intro hc <;> try (exfalso; omega))) <;> repeat' refine CT ?_) | fail)
    have hST : HS w0 noM [cb bN 72 (encF o x), cb bK 127 (encKk ⟨oF, cs.length, cF, g, oA, i, cA, 0, none, none, none, none⟩ 0)] w := HS.left (H1 := [_, _]) hH
    (refine wp_draw2_HS (H := [_, _]) [(0, 1), (1, 1), (2, 1), (3, 1), (4, 1), (5, 1), (6, 1), (7, 0), (8, 0), (9, 1), (10, 1)] [11] mixed (by decide +kernel) (hST) ?_; replace hH := hH.drew)
    clear hST
    repeat' (first | (refine QT ?_; clear hA a; intro a hA) | (refine DLT ?_; clear hA hH; rintro _ w ⟨oN, rfl, hH⟩; refine ⟨STT, ?_⟩; intro a hA) | fail)
    (apply dr_op hA rfl rfl rfl (by decide); apply op_sliceLit; rfl; rfl; exact CATST; rfl; rfl; rfl; exact hH; clear hA hH; rintro _ w ⟨oN, rfl, hH⟩; refine ⟨HS.left (H1 := [_, _]) hH.tail, ?_⟩; intro a hA)
    dsimp only at hA
    (apply dr_op hA rfl rfl rfl (by decide); apply op_append; rfl; rfl; exact hH; exact MEMT; exact (hH.own_rd (List.Mem.head _)); exact rfl; rfl; decide; exact rfl; (unfold maxLen; omega); omega; clear hA; rintro _ w ⟨oN, cN, rfl, hH2⟩; clear hH; have hH := hH2 _ (by (repeat constructor)); clear hH2; refine ⟨HS.left (H1 := [_, _]) hH.tail, ?_⟩; intro a hA)
    rw [flatI_s, ← take_snoc hx] at hH
    repeat' (first | (refine QT ?_; clear hA a; intro a hA) | (refine CT ?_ <;> repeat' refine CT ?_) | fail)
    (apply dr_op03 hA rfl rfl rfl; apply op_store_fld (cs' := encKk ⟨oF, cs.length, cF, g, oN, i + 1, cN, 0, none, none, none, none⟩ 0); rfl; rfl; rfl; exact hH; (repeat constructor); clear hH; rintro _ w hH)
    repeat' (first | (refine QT ?_; clear hA a; intro a hA) | (refine CT ?_ <;> repeat' refine CT ?_) | fail)
    exact ⟨i + 1, ⟨oN, cN, hlt, (((hH.rm 0).rm 0).perm PMT), (hA.sub SBT)⟩, by omega⟩
  clear hA hH
  rintro a w ⟨oA, nA, cA, hH, hA⟩
  repeat' (first | (refine QT ?_; clear hA a; intro a hA) | (refine CT ?_ <;> repeat' refine CT ?_) | fail)
  refine wp_lpk (S := Nat) (fun i a w => ∃ c p, (i ≤ cs.length ∧ 0 ≤ p ∧ p ≤ 2 * (i : Int) ∧ ∀ c ∈ cs.take i, 0 ≤ c ∧ c ≤ 4096) ∧ HS w0 noM [cb bK 127 (encKk c p), cb b1 34 (encP oF cs.length cF g)] w ∧ Sl 126 [(86, .int .i64 i), (85, .int .i64 cs.length), (84, .slice oF cs.length cF), (5, .pointer (some (bat bK 0)))] a) (fun i => cs.length - i)
    (fun a w => (∀ c ∈ cs, 0 ≤ c ∧ c ≤ 4096) ∧ HS w0 noM [] w ∧ Sl 126 [] a) 0 ⟨_, 0, ⟨Nat.zero_le _, Int.le_refl _, by omega, (by rw [List.take_zero]; exact fun c h => absurd h List.not_mem_nil)⟩, hH, (hA.sub SBT)⟩ ?_ ?_
  · clear hA hH
    rintro i a w ⟨c, p, ⟨hi, hp0, hp1, hcap⟩, hH, hA⟩
    by_cases hlt : i < cs.length
    rotate_left
    · obtain rfl : i = cs.length := by omega
      rw [List.take_length] at hcap
      repeat' (first | (refine QT ?_; clear hA a; intro a hA) | ((first | refine CT ?_ | (refine DT ?_ ?_ <;> intro hc <;> try (exfalso; omega))) <;> repeat' refine CT ?_) | fail)
      exact ⟨hcap, hH.tail.tail, (hA.sub SBT)⟩
    obtain ⟨x, hx⟩ : ∃ x, cs[i]? = some x := ⟨_, List.getElem?_eq_getElem hlt⟩
    have hvx := flat_all (encF_len o) hx
    repeat' (first | (refine GT ?_ ?_ <;> intro hg <;> clear hA a <;> intro a hA <;> (first | exact FA | replace hg := of_decide_eq_true hg | replace hg := of_decide_eq_false hg | skip)) | (refine XT ?_; apply XE; (first | (apply ex_load_st (vs := encF o x); rfl; rfl; exact cls_rd hF id hvx) | (apply ex_indexAddr_nat; rfl; rfl; omega; exact hspF)); clear hA a; intro a hA) | (refine QT ?_; clear hA a; intro a hA) | (refine BT ?_; clear hA hH; rintro _ w ⟨bN, rfl, hH⟩ a hA) | (apply st_op0 hA rfl rfl; apply op_store_agg (vs := encF o x); rfl; rfl; exact hH; (repeat constructor); (repeat rfl); clear hH; rintro _ w hH) | (apply st_op0 hA rfl rfl; apply op_store_fld (cs' := encKk { c with caps := x } p); rfl; rfl; rfl; exact hH; (repeat constructor); clear hH; rintro _ w hH) | ((first | refine CT ?_ | (refine DT ?_ ?_ <;> intro hc <;> try (exfalso; omega))) <;> repeat' refine CT ?_) | fail)
    · exact rt1 (.inl rfl) rfl hA rfl ⟨_, rfl, anf_no (fun h => (by have := h.caps x (List.mem_of_getElem? hx); omega)), hH.kp⟩
    · exact rt1 (.inl rfl) rfl hA rfl ⟨_, rfl, anf_no (fun h => (by have := h.caps x (List.mem_of_getElem? hx); omega)), hH.kp⟩
    have hxx : 0 ≤ x ∧ x ≤ 4096 := by omega
    (refine st_op hA rfl rfl (by decide) (op_makeMapK hH) ?_; clear hA hH; rintro _ w ⟨m1, rfl, hH⟩ a hA)
    (refine st_op hA rfl rfl (by decide) (op_makeMapK hH) ?_; clear hA hH; rintro _ w ⟨m2, rfl, hH⟩ a hA)
    repeat' (first | (refine QT ?_; clear hA a; intro a hA) | (apply st_op0 hA rfl rfl; apply op_insertK; rfl; rfl; rfl; exact hH; (repeat constructor); clear hH; rintro _ w hH) | fail)
    (refine st_op hA rfl rfl (by decide) (op_makeMapI hH) ?_; clear hA hH; rintro _ w ⟨m3, rfl, hH⟩ a hA)
    (refine st_op hA rfl rfl (by decide) (op_makeMapK hH) ?_; clear hA hH; rintro _ w ⟨m4, rfl, hH⟩ a hA)
    obtain ⟨ca, hca⟩ : ∃ y : Kk, y = { c with caps := x } := ⟨_, rfl⟩
    have hH5 := hH.rm 0 |>.rm 0 |>.rm 0 |>.rm 0
    clear hH
    dsimp only [List.eraseIdx_cons_succ, List.eraseIdx_cons_zero] at hH5
    have hH := hH5
    clear hH5
    rw [← hca] at hH
    obtain ⟨oP, nP, cP, g', oA', nA', cA', caps', e', n', j', o'⟩ := ca
    repeat' (first | (refine QT ?_; clear hA a; intro a hA) | (apply st_op0 hA rfl rfl; apply op_store_fld (cs' := encKk ⟨oP, nP, cP, g', oA', nA', cA', caps', some m1, n', j', o'⟩ p); rfl; rfl; rfl; exact hH; (repeat constructor); clear hH; rintro _ w hH) | (apply st_op0 hA rfl rfl; apply op_store_fld (cs' := encKk ⟨oP, nP, cP, g', oA', nA', cA', caps', some m1, some m2, j', o'⟩ p); rfl; rfl; rfl; exact hH; (repeat constructor); clear hH; rintro _ w hH) | (apply st_op0 hA rfl rfl; apply op_store_fld (cs' := encKk ⟨oP, nP, cP, g', oA', nA', cA', caps', some m1, some m2, some m3, o'⟩ p); rfl; rfl; rfl; exact hH; (repeat constructor); clear hH; rintro _ w hH) | (apply st_op0 hA rfl rfl; apply op_store_fld (cs' := encKk ⟨oP, nP, cP, g', oA', nA', cA', caps', some m1, some m2, some m3, some m4⟩ p); rfl; rfl; rfl; exact hH; (repeat constructor); clear hH; rintro _ w hH) | (refine CT ?_ <;> repeat' refine CT ?_) | fail)
    repeat' (first | (refine XT ?_; apply XE; (first | (apply ex_load_st (vs := encB o); rfl; rfl; exact cls_cb MEMT (sub_bd o x))); clear hA a; intro a hA) | (refine QT ?_; clear hA a; intro a hA) | fail)
    (refine st_op hA rfl rfl (by decide) (op_call rfl rfl rfl (body5_spec w0 _ _ _ bK p o (hH.up 1 rfl) hr hp0 (by omega))) ?_; clear hA hH)
    rintro _ w ⟨rfl, hH⟩ a hA
    repeat' (first | (refine QT ?_; clear hA a; intro a hA) | (refine CT ?_ <;> repeat' refine CT ?_) | fail)
    exact ⟨i + 1, ⟨_, p + 2, ⟨hlt, by omega, by omega, caps_next hx hcap hxx⟩, hH.rm 1, (hA.sub SBT)⟩, by omega⟩
  clear hA hH
  rintro a w ⟨hcap, hH, hA⟩
  repeat' (first | (refine QT ?_; clear hA a; intro a hA) | (refine CT ?_ <;> repeat' refine CT ?_) | fail)
  exact rt1 (.inl rfl) rfl hA rfl ⟨_, rfl, iff_of_true rfl ⟨hcl2, hcl4, hc0, hp1, hp2, hp3, hx4, hss4, hcap⟩, hH.kp⟩
end Go.Proofs.YtenlcdokaadobaaGreatDoor
namespace Go.Proofs.YtenlcdokaadobaaGreatDoor
open Go Go.Fw
set_option linter.unusedVariables false
theorem flatX_nil : flat encX [] = [] := rfl
theorem flatAt_nil : flat encAt [] = [] := rfl
def encMk (o : Option Addr) (n c bJ : Nat) : List Value := [.slice o n c, .map (some bJ)]
def dr0 : List Value := [.slice none 0 0, .slice none 0 0, .int .i64 0, .slice none 0 0, .slice none 0 0, .slice none 0 0, .int .i64 0]
theorem rd_cells {w : World} {b k : Nat} {xs : List Value} (h : Rd w (some ⟨b, k, none⟩) xs) : ∀ j u, xs[j]? = some u → w.cell? ((⟨b, k, none⟩ : Addr).add j) = some u := fun j u hj => by
  have h1 := h.2 j u hj
  have e : (⟨b, k, none⟩ : Addr).add j = sat (some ⟨b, k, none⟩) j := by
    by_cases h0 : j = 0 <;> simp [sat, blkO, offO, Addr.add, h0]
  rw [e]; exact h1
theorem one_at : flat encAt (List.replicate 1 (⟨0, 0⟩ : Atm)) ++ [] = [.int .i64 0, .int .i64 0] := rfl
theorem rd_some {w : World} {o : Option Addr} {xs : List Value} (h : Rd w o xs) (hl : 0 < xs.length) : ∃ b k, o = some ⟨b, k, none⟩ := h.1 hl
set_option maxRecDepth 10000 attribute [local irreducible] Code.wp wpList Calls Ex Op1 sat bat blk cb own Go.Fw.mp Go.Fw.mpO Go.Fw.mpI Go.Fw.mpE Go.Fw.itr HS Rd Ret wkD Hp Cl Cls Exit.then Exit.inBlock Exit.noGoto bodyPost Go.Fw.flat wk2 Go.Fw.all Go.Fw.owns wpOp
attribute [local irreducible] sk mpK sko mvO entK opM Go.Fw.mset Go.Fw.mv opK

set_option maxHeartbeats 4000000 in
theorem cloneX_spec (w0 : World) (v : Vec ByteArray) (hR : RdV w0 encX v) (hl : v.l.length ≤ 1048576) :
    Ret Tryz.prog 39 #[.slice v.o v.l.length v.c] w0 (fun r w => ∃ o' c', r = .slice o' v.l.length c' ∧ HS w0 noM [own 9 1 o' v.l.length c' (flat encX v.l)] w) := by
  have hH : HS w0 noM [] w0 := HS.init w0 noM
  have hfl : (flat encX v.l).length = v.l.length * 1 := flat_length encX_len _
  have hon : (flat encX v.l).all (·.oneCell') = true := flat_one_cell (fun _ => rfl) _
  (refine enter (N := 8) Tryz.func39 rfl Tryz.ntmps39 rfl ?_; intro a hA; dsimp only [sl0, Nat.reduceAdd] at hA)
  repeat' (first | (refine XT ?_; apply XE; (first | (apply ex_eqlNil; rfl; rfl)); clear hA a; intro a hA) | (refine QT ?_; clear hA a; intro a hA) | (refine LT ?_; clear hA hH; rintro _ w ⟨oN, rfl, hH⟩ a hA) | ((first | refine CT ?_ | (refine DT ?_ ?_ <;> intro hc <;> try (exfalso; omega))) <;> repeat' refine CT ?_) | fail)
  · have hnil := rd_nil hR.1 (by assumption)
    have hl0 : v.l.length = 0 := by rw [← Nat.mul_one v.l.length, ← hfl, hnil]; rfl
    obtain ⟨o, c, l⟩ := v
    obtain rfl : l = [] := List.length_eq_zero_iff.1 hl0
    exact rt1 (.inl rfl) rfl hA rfl ⟨none, 0, rfl, by show HS w0 noM [own _ 1 none 0 0 (flat encX [])] _; rw [flatX_nil]; exact hH.nil_own 9 1⟩
  · have hRw := hH.rd hR.1 id
    (apply st_op hA rfl rfl (by decide); apply op_append; rfl; rfl; exact hH; exact MEMT; exact hRw; exact hfl; rfl; decide; exact hon; (unfold maxLen; omega); omega; clear hA; rintro _ w ⟨oN, cN, rfl, hH2⟩ a hA; clear hH; have hH := hH2 _ (by (repeat constructor)); clear hH2)
    repeat' (first | (refine QT ?_; clear hA a; intro a hA) | (refine CT ?_ <;> repeat' refine CT ?_) | fail)
    rw [Nat.zero_add] at hA hH
    exact rt1 (.inl rfl) rfl hA rfl ⟨_, _, rfl, hH⟩
set_option maxHeartbeats 4000000 in
theorem cloneN0_spec (w0 : World) : Ret Tryz.prog 110 #[.slice none 0 0] w0 (fun r w => r = .slice none 0 0 ∧ Kp w0 noM w) := by
  have hH : HS w0 noM [] w0 := HS.init w0 noM
  (refine enter (N := 8) Tryz.func110 rfl Tryz.ntmps110 rfl ?_; intro a hA; dsimp only [sl0, Nat.reduceAdd] at hA)
  repeat' (first | (refine XT ?_; apply XE; (first | (apply ex_eqlNil; rfl; rfl)); clear hA a; intro a hA) | (refine QT ?_; clear hA a; intro a hA) | (refine CT ?_ <;> repeat' refine CT ?_) | fail)
  exact rt1 (.inl rfl) rfl hA rfl ⟨rfl, hH.kp⟩
set_option maxHeartbeats 4000000 in
theorem atoms1_spec (w0 : World) (o : Option Addr) (c : Nat) (x : Atm) (hR : Rd w0 o (encAt x)) :
    Ret Tryz.prog 109 #[.slice o 1 c] w0 (fun r w => ∃ o', r = .slice o' 1 1 ∧ HS w0 noM [own 65 2 o' 1 1 (encAt x)] w) := by
  have hH : HS w0 noM [] w0 := HS.init w0 noM
  obtain ⟨bO, kO, rfl⟩ := rd_some hR (Nat.zero_lt_succ _)
  (refine enter (N := 11) Tryz.func109 rfl Tryz.ntmps109 rfl ?_; intro a hA; dsimp only [sl0, Nat.reduceAdd] at hA)
  repeat' (first | (refine QT ?_; clear hA a; intro a hA) | (apply st_op hA rfl rfl (by decide); apply op_make encAt (⟨0, 0⟩ : Atm) (n := 1); rfl; rfl; rfl; rfl; decide; decide; exact encAt_len; rfl; decide; exact hH; clear hA hH; rintro _ w ⟨oN, rfl, hH⟩ a hA) | (refine CT ?_ <;> repeat' refine CT ?_) | fail)
  obtain ⟨b, spare, rfl, q1, q2, q3, q4, hH2⟩ := hH.own_block (by decide)
  have hsp : spare = [] := List.length_eq_zero_iff.1 (by rw [q3] at q4; omega)
  subst hsp
  clear hH
  have hH := hH2
  clear hH2
  rw [one_at] at hH
  have hRw := rd_cells (hH.rd hR id)
  repeat' (first | (refine QT ?_; clear hA a; intro a hA) | fail)
  (apply st_op hA rfl rfl (by decide); apply op_copy_cb (cells := [.int .i64 0, .int .i64 0]) (news := encAt x); rfl; rfl; exact hH; exact hRw; rfl; rfl; exact Nat.le_refl 2; (repeat constructor); clear hA hH; rintro _ w ⟨rfl, hH⟩ a hA)
  repeat' (first | (refine QT ?_; clear hA a; intro a hA) | (refine CT ?_ <;> repeat' refine CT ?_) | fail)
  exact rt1 (.inl rfl) rfl hA rfl ⟨_, rfl, HS.block_own (sz := 2) (xs := encAt x) (spare := []) (by rw [List.append_nil]; exact hH) rfl (Nat.le_refl _) (by decide) rfl⟩
set_option maxHeartbeats 8000000 in
theorem fresh0_spec (w0 w : World) (H : List It) (bM bJ : Nat) (hH : HS w0 noM (cb bM 174 (encMk none 0 0 bJ) :: H) w) :
    Ret Tryz.prog 74 #[.pointer (some (bat bM 0)), .slice none 0 0] w (fun r w' => ∃ oD cD, r = .int .i64 0 ∧ HS w0 noM (cb bM 174 (encMk oD 1 cD bJ) :: own 179 7 oD 1 cD dr0 :: H) w') := by
  (refine enter (N := 24) Tryz.func74 rfl Tryz.ntmps74 rfl ?_; intro a hA; dsimp only [sl0, Nat.reduceAdd] at hA)
  repeat' (first | (refine QT ?_; clear hA a; intro a hA) | (refine CT ?_ <;> repeat' refine CT ?_) | fail)
  have hST : HS w0 noM [cb bM 174 (encMk none 0 0 bJ)] w := HS.left (H1 := [_]) hH
  (refine wp_draw2_HS (H := [_]) [(0, 1), (1, 1), (2, 1), (3, 1), (4, 1), (5, 1), (6, 0), (7, 1), (8, 1), (9, 0), (10, 0), (11, 1), (12, 1)] [13] mixed (by decide +kernel) (hST) ?_; replace hH := hH.drew)
  clear hST
  repeat' (first | (refine QT ?_; clear hA a; intro a hA) | (refine dr_op hA rfl rfl rfl (by decide) (op_call rfl rfl rfl (cloneN0_spec _)) ?_; clear hA; rintro _ w ⟨rfl, hk⟩; replace hH := hH.keep hk; refine ⟨HS.left (H1 := [_]) hH, ?_⟩; intro a hA) | fail)
  repeat' (first | (refine XT ?_; apply XE; (first | (apply ex_build (szs := [(0, 6), (6, 1)]) (cs := dr0.toArray); exact run_szl (by (repeat (first | exact SzL.nil | refine SzL.cons ⟨_, rfl, by decide⟩ ?_))); rfl; rfl) | (apply ex_build (szs := [(0, 1), (1, 1), (2, 4)]) (cs := #[.slice none 0 0, .slice none 0 0, .int .i64 0, .slice none 0 0, .slice none 0 0, .slice none 0 0]); exact run_szl (by (repeat (first | exact SzL.nil | refine SzL.cons ⟨_, rfl, by decide⟩ ?_))); rfl; rfl)); clear hA a; intro a hA) | (refine QT ?_; clear hA a; intro a hA) | fail)
  (apply dr_op hA rfl rfl rfl (by decide); apply op_sliceLit (xs := dr0) (vs := [.agg dr0.toArray]); rfl; rfl; exact (Cats.cn (cs := dr0) Cats.nil); rfl; rfl; rfl; exact hH; clear hA hH; rintro _ w ⟨oN, rfl, hH⟩; replace hH := hH.nil_own 179 7; refine ⟨HS.left (H1 := [_]) hH.tail.tail, ?_⟩; intro a hA)
  (apply dr_op hA rfl rfl rfl (by decide); apply op_append; rfl; rfl; exact hH; exact MEMT; exact (hH.own_rd (List.Mem.tail _ (List.Mem.head _))); exact rfl; rfl; decide; exact rfl; (unfold maxLen; omega); omega; clear hA; rintro _ w ⟨oN, cN, rfl, hH2⟩; clear hH; have hH := hH2 _ (by (repeat constructor)); clear hH2; refine ⟨HS.left (H1 := [_]) hH.tail.tail, ?_⟩; intro a hA)
  rw [List.nil_append] at hH
  repeat' (first | (refine QT ?_; clear hA a; intro a hA) | (apply dr_op03 hA rfl rfl rfl; apply op_store_fld (cs' := encMk oN 1 cN bJ); rfl; rfl; rfl; exact hH; (repeat constructor); clear hH; rintro _ w hH) | (refine CT ?_ <;> repeat' refine CT ?_) | fail)
  exact rt1 (.inl rfl) rfl hA rfl ⟨oN, cN, rfl, (hH.rm 1).perm PMT⟩
end Go.Proofs.YtenlcdokaadobaaGreatDoor
namespace Go.Proofs.YtenlcdokaadobaaGreatDoor
open Go Go.Fw
set_option linter.unusedVariables false
def dr1 (o : Option Addr) (k : Int) : List Value := [.slice none 0 0, .slice none 0 0, .int .i64 1, .slice o 1 1, .slice none 0 0, .slice none 0 0, .int .i64 k]
theorem put_dr (o : Option Addr) (spare : List Value) : put (dr0 ++ spare) 2 [.int .i64 1, .slice o 1 1, .slice none 0 0, .slice none 0 0] = dr1 o 0 ++ spare := rfl
theorem sp_bat (b : Nat) : Sp (some (bat b 0)) 1 := fun _ => ⟨b, 0, rfl⟩
theorem sat_b2 (b : Nat) : sat (some (bat b 0)) (Int.toNat 0 * 7 + 0 + 2) = bat b 2 := rfl
set_option maxRecDepth 10000 attribute [local irreducible] Code.wp wpList Calls Ex Op1 sat bat blk cb own Go.Fw.mp Go.Fw.mpO Go.Fw.mpI Go.Fw.mpE Go.Fw.itr HS Rd Ret wkD Hp Cl Cls Exit.then Exit.inBlock Exit.noGoto bodyPost Go.Fw.flat wk2 Go.Fw.all Go.Fw.owns wpOp
attribute [local irreducible] sk mpK sko mvO entK opM Go.Fw.mset Go.Fw.mv opK

set_option maxHeartbeats 8000000 in
theorem fill1_spec (w0 w : World) (H : List It) (bM bJ bF cD : Nat) (oD o : Option Addr) (x : Atm) (hH : HS w0 noM (cb bM 174 (encMk oD 1 cD bJ) :: own 179 7 oD 1 cD dr0 :: cb bF 72 (encF o 0) :: H) w) (hR : Rd w0 o (encAt x)) :
    Ret Tryz.prog 73 #[.pointer (some (bat bM 0)), .int .i64 0, .pointer (some (bat bF 1))] w (fun r w' => ∃ o1, HS w0 noM (cb bM 174 (encMk oD 1 cD bJ) :: own 179 7 oD 1 cD (dr1 o1 0) :: own 65 2 o1 1 1 (encAt x) :: cb bF 72 (encF o 0) :: H) w') := by
  have hcD := hH.own_le (T := 179) (o := oD) (by exact MEMT)
  obtain ⟨b, spare, rfl, q1, q2, q3, q4, hH2⟩ := (hH.perm (H' := own 179 7 oD 1 cD dr0 :: cb bM 174 (encMk oD 1 cD bJ) :: cb bF 72 (encF o 0) :: H) PMT).own_block (by omega)
  clear hH
  have hH := hH2
  clear hH2
  have hspD : Sp (some (bat b 0)) 1 := sp_bat b
  (refine enter (N := 202) Tryz.func73 rfl Tryz.ntmps73 rfl ?_; intro a hA; dsimp only [sl0, Nat.reduceAdd] at hA)
  repeat' (first | (refine QT ?_; clear hA a; intro a hA) | (refine CT ?_ <;> repeat' refine CT ?_) | fail)
  refine wp_lpk (S := Nat) (fun i a w => i = 0 ∧ HS w0 noM (cb b 179 (dr0 ++ spare) :: cb bM 174 (encMk (some (bat b 0)) 1 cD bJ) :: cb bF 72 (encF o 0) :: H) w ∧ Sl 202 [(0, .pointer (some (bat bM 0))), (1, .int .i64 0), (2, .pointer (some (bat bF 1)))] a) (fun i => i) (fun a w => False) 0 ⟨rfl, hH, (hA.sub SBT)⟩ ?_ (fun a w h => h.elim)
  clear hA hH
  rintro i a w ⟨hi, hH, hA⟩
  repeat' (first | (refine XT ?_; apply XE; (first | (apply ex_indexAddr; rfl; rfl; decide; omega; exact hspD)); clear hA a; intro a hA) | (refine QT ?_; clear hA a; intro a hA) | (refine CT ?_ <;> repeat' refine CT ?_) | fail)
  rw [sat_b2] at hA
  (refine st_op hA rfl rfl (by decide) (op_call rfl rfl rfl (atoms1_spec _ o 1 x (hH.rd hR id))) ?_; clear hA; rintro _ w ⟨o1, rfl, hj⟩ a hA; replace hH := hH.join hj; clear hj)
  replace hH := hH.perm (H' := cb b 179 (dr0 ++ spare) :: own 65 2 o1 1 1 (encAt x) :: cb bM 174 (encMk (some (bat b 0)) 1 cD bJ) :: cb bF 72 (encF o 0) :: H) PMT
  repeat' (first | (refine XT ?_; apply XE; (first | (apply ex_build_p (cs := #[.int .i64 1, .slice o1 1 1, .slice none 0 0, .slice none 0 0]); rfl; exact FLT; rfl)); clear hA a; intro a hA) | (refine QT ?_; clear hA a; intro a hA) | fail)
  have hdl : 2 + 4 ≤ (dr0 ++ spare).length := by rw [List.length_append, q3]; omega
  refine st_op0 hA rfl rfl (op_store_cb (vs := [.int .i64 1, .slice o1 1 1, .slice none 0 0, .slice none 0 0]) (cs' := dr1 o1 0 ++ spare) rfl rfl hH (by repeat constructor) rfl rfl rfl hdl (put_dr o1 spare)) ?_
  clear hH
  rintro _ w hH
  repeat' (first | (refine QT ?_; clear hA a; intro a hA) | (refine CT ?_ <;> repeat' refine CT ?_) | fail)
  refine rt0 (.inl rfl) rfl hA ⟨o1, ?_⟩
  have hH3 := HS.block_own (sz := 7) (n := 1) (cap := cD) (xs := dr1 o1 0) (spare := spare) (hH.perm (H' := cb b 179 (dr1 o1 0 ++ spare) :: own 65 2 o1 1 1 (encAt x) :: cb bM 174 (encMk (some (bat b 0)) 1 cD bJ) :: cb bF 72 (encF o 0) :: H) PMT) rfl (by omega) hcD.2 (by rw [← q4, q3]; rfl)
  exact hH3.perm PMT
end Go.Proofs.YtenlcdokaadobaaGreatDoor
namespace Go.Proofs.YtenlcdokaadobaaGreatDoor
open Go Go.Fw
set_option linter.unusedVariables false
set_option maxRecDepth 10000 attribute [local irreducible] Code.wp wpList Calls Ex Op1 sat bat blk cb own Go.Fw.mp Go.Fw.mpO Go.Fw.mpI Go.Fw.mpE Go.Fw.itr HS Rd Ret wkD Hp Cl Cls Exit.then Exit.inBlock Exit.noGoto bodyPost Go.Fw.flat wk2 Go.Fw.all Go.Fw.owns wpOp
attribute [local irreducible] sk mpK sko mvO entK opM Go.Fw.mset Go.Fw.mv opK

set_option maxHeartbeats 8000000 in
theorem visit0_spec (w0 w : World) (H : List It) (bS bm bMc bM bO bJ cD : Nat) (oD o1 : Option Addr) (bV : Nat) (hD : Sp oD 1) (hH : HS w0 noM (cb bS 109 [.map (some bm)] :: sk bm [] :: cb bMc 171 [.pointer (some (bat bM 0))] :: cb bM 174 (encMk oD 1 cD bJ) :: own 179 7 oD 1 cD (dr1 o1 0) :: cb bO 45 [.slice none 0 0] :: H) w) :
    Ret Tryz.prog 111 #[.int .i64 0, .pointer (some (bat bS 0)), .pointer (some (bat bMc 0)), .pointer (some (bat bV 0)), .pointer (some (bat bO 0))] w (fun r w' =>
      ∃ oL cL, HS w0 noM (cb bS 109 [.map (some bm)] :: sk bm [0] :: cb bMc 171 [.pointer (some (bat bM 0))] :: cb bM 174 (encMk oD 1 cD bJ) :: own 179 7 oD 1 cD (dr1 o1 0) :: cb bO 45 [.slice oL 1 cL] :: own 3 1 oL 1 cL [.int .i64 0] :: H) w') := by
  (refine enter (N := 37) Tryz.func111 rfl Tryz.ntmps111 rfl ?_; intro a hA; dsimp only [sl0, Nat.reduceAdd] at hA)
  repeat' (first | (refine XT ?_; apply XE; (first | (apply ex_hasK; rfl; rfl; exact MEMT) | (apply ex_indexAddr; rfl; rfl; decide; omega; exact hD)); clear hA a; intro a hA) | (refine QT ?_; clear hA a; intro a hA) | (apply st_op0 hA rfl rfl; apply op_addK; rfl; rfl; rfl; exact hH; (repeat constructor); clear hH; rintro _ w hH) | (refine CT ?_ <;> repeat' refine CT ?_) | fail)
  have hv5 : (dr1 o1 0)[Int.toNat 0 * 7 + 0 + 2 + 3]? = some (.slice none 0 0) := rfl
  repeat' (first | (refine XT ?_; apply XE; (first | (apply ex_load; rfl; exact cl_own (T := 179) (o := oD) MEMT hv5)); clear hA a; intro a hA) | (refine QT ?_; clear hA a; intro a hA) | (refine CT ?_ <;> repeat' refine CT ?_) | fail)
  refine wp_lpk (S := Nat) (fun i a w => i = 0 ∧ HS w0 noM (cb bS 109 [.map (some bm)] :: sk bm (sadd [] 0) :: cb bMc 171 [.pointer (some (bat bM 0))] :: cb bM 174 (encMk oD 1 cD bJ) :: own 179 7 oD 1 cD (dr1 o1 0) :: cb bO 45 [.slice none 0 0] :: H) w ∧ Sl 37 [(24, .int .i64 0), (23, .int .i64 (0 : Nat)), (0, .int .i64 0), (4, .pointer (some (bat bO 0)))] a) (fun i => i) (fun a w => HS w0 noM (cb bS 109 [.map (some bm)] :: sk bm (sadd [] 0) :: cb bMc 171 [.pointer (some (bat bM 0))] :: cb bM 174 (encMk oD 1 cD bJ) :: own 179 7 oD 1 cD (dr1 o1 0) :: cb bO 45 [.slice none 0 0] :: H) w ∧ Sl 37 [(0, .int .i64 0), (4, .pointer (some (bat bO 0)))] a) 0 ⟨rfl, hH, (hA.sub SBT)⟩ ?_ ?_
  · clear hA hH
    rintro i a w ⟨hi, hH, hA⟩
    repeat' (first | (refine QT ?_; clear hA a; intro a hA) | (refine CT ?_ <;> repeat' refine CT ?_) | fail)
    exact ⟨hH, (hA.sub SBT)⟩
  clear hA hH
  rintro a w ⟨hH, hA⟩
  repeat' (first | (refine QT ?_; clear hA a; intro a hA) | (refine LT ?_; clear hA hH; rintro _ w ⟨oN, rfl, hH⟩ a hA) | (refine CT ?_ <;> repeat' refine CT ?_) | fail)
  have hRw := hH.own_rd (T := 3) (List.Mem.head _)
  replace hH := hH.nil_own 3 1
  (apply st_op hA rfl rfl (by decide); apply op_append; rfl; rfl; exact hH; exact MEMT; exact hRw; exact rfl; rfl; decide; exact rfl; (unfold maxLen; omega); omega; clear hA; rintro _ w ⟨oN, cN, rfl, hH2⟩ a hA; clear hH; have hH := hH2 _ (by (repeat constructor)); clear hH2)
  repeat' (first | (refine QT ?_; clear hA a; intro a hA) | (refine S0T ?_; clear hH; rintro _ w hH) | (refine CT ?_ <;> repeat' refine CT ?_) | fail)
  exact rt0 (.inr rfl) rfl hA ⟨oN, cN, (hH.rm 1).perm PMT⟩
end Go.Proofs.YtenlcdokaadobaaGreatDoor
