/-
  ssa.Of's parts at a function that returns a number: order, graph. Conditions: none.
  The machine: an end. Conditions: none.
  The machine: how it begins; what comes of graphs. Conditions: none.
  ssa.Of's parts at a function that returns a number: graph. Conditions: none.
  ssa.Of at no function, and at one that returns five. Conditions: none.
  ssa.Run. Conditions: none.
  What comes of awake's graphs (plain). Conditions: none.
  Two outcomes are alike. Conditions: none.
-/
import Derived.Test.YtenlcdokaadobaaGreatDoorRowNamesMg7
import Derived.ChangeKeysEq
import Derived.Laws.StructEq
namespace Go.Proofs.YtenlcdokaadobaaGreatDoor
open Go Go.Fw
set_option linter.unusedVariables false
set_option maxRecDepth 10000 attribute [local irreducible] Code.wp wpList Calls Ex Op1 sat bat blk cb own Go.Fw.mp Go.Fw.mpO Go.Fw.mpI Go.Fw.mpE Go.Fw.itr HS Rd Ret wkD Hp Cl Cls Exit.then Exit.inBlock Exit.noGoto bodyPost Go.Fw.flat wk2 Go.Fw.all Go.Fw.owns wpOp
attribute [local irreducible] sk mpK sko mvO entK opM Go.Fw.mset Go.Fw.mv opK

set_option maxHeartbeats 4000000 in
theorem rev1_spec (w0 : World) (o : Option Addr) (c : Nat) : Ret Tryz.prog 112 #[.slice o 1 c] w0 (fun r w => Kp w0 noM w) := by
  have hH : HS w0 noM [] w0 := HS.init w0 noM
  (refine enter (N := 28) Tryz.func112 rfl Tryz.ntmps112 rfl ?_; intro a hA; dsimp only [sl0, Nat.reduceAdd] at hA)
  repeat' (first | (refine QT ?_; clear hA a; intro a hA) | (refine CT ?_ <;> repeat' refine CT ?_) | fail)
  refine wp_lpk (S := Nat) (fun i a w => i = 0 ∧ HS w0 noM [] w ∧ Sl 28 [(2, .int .i64 0), (3, .int .i64 0)] a) (fun i => i) (fun a w => HS w0 noM [] w ∧ Sl 28 [] a) 0 ⟨rfl, hH, (hA.sub SBT)⟩ ?_ ?_
  · clear hA hH
    rintro i a w ⟨hi, hH, hA⟩
    repeat' (first | (refine QT ?_; clear hA a; intro a hA) | (refine CT ?_ <;> repeat' refine CT ?_) | fail)
    exact ⟨hH, (hA.sub SBT)⟩
  clear hA hH
  rintro a w ⟨hH, hA⟩
  repeat' (first | (refine QT ?_; clear hA a; intro a hA) | fail)
  exact rt0 (.inr rfl) rfl hA hH.kp
set_option maxHeartbeats 8000000 in
theorem order1_spec (w0 w : World) (H : List It) (bM bJ cD : Nat) (oD o1 : Option Addr) (hD : Sp oD 1) (hH : HS w0 noM (cb bM 174 (encMk oD 1 cD bJ) :: own 179 7 oD 1 cD (dr1 o1 0) :: H) w) :
    Ret Tryz.prog 75 #[.pointer (some (bat bM 0))] w (fun r w' =>
      ∃ oL cL, r = .slice oL 1 cL ∧ HS w0 noM (cb bM 174 (encMk oD 1 cD bJ) :: own 179 7 oD 1 cD (dr1 o1 0) :: own 3 1 oL 1 cL [.int .i64 0] :: H) w') := by
  (refine enter (N := 13) Tryz.func75 rfl Tryz.ntmps75 rfl ?_; intro a hA; dsimp only [sl0, Nat.reduceAdd] at hA)
  repeat' (first | (refine XT ?_; apply XE; (first | (apply ex_makeFunc; rfl; rfl)); clear hA a; intro a hA) | (refine QT ?_; clear hA a; intro a hA) | (refine BT ?_; clear hA hH; rintro _ w ⟨bN, rfl, hH⟩ a hA) | (refine S0T ?_; clear hH; rintro _ w hH) | (refine st_op hA rfl rfl (by decide) (op_makeMapK hH) ?_; clear hA hH; rintro _ w ⟨bm, rfl, hH⟩ a hA) | (refine CT ?_ <;> repeat' refine CT ?_) | fail)
  have key : ∃ bS bMc bV bO bm, HS w0 noM (cb bS 109 [.map (some bm)] :: sk bm [] :: cb bMc 171 [.pointer (some (bat bM 0))] :: cb bM 174 (encMk oD 1 cD bJ) :: own 179 7 oD 1 cD (dr1 o1 0) :: cb bO 45 [.slice none 0 0] :: cb bV 228 [.func (.func 111) #[] #[.pointer (some (bat bS 0)), .pointer (some (bat bMc 0)), .pointer (some (bat bV 0)), .pointer (some (bat bO 0))]] :: H) w ∧
      Sl 13 [(8, .func (.func 111) #[] #[.pointer (some (bat bS 0)), .pointer (some (bat bMc 0)), .pointer (some (bat bV 0)), .pointer (some (bat bO 0))]), (4, .pointer (some (bat bO 0))), (2, .slice none 0 0)] a := ⟨_, _, _, _, _, hH.perm PMT, (hA.sub SBT)⟩
  clear hA hH
  obtain ⟨bS, bMc, bV, bO, bm, hH, hA⟩ := key
  (refine st_op hA rfl rfl (by decide) (op_call rfl rfl rfl (visit0_spec w0 w _ bS bm bMc bM bO bJ cD oD o1 bV hD hH)) ?_; clear hA hH; rintro _ w ⟨oL, cL, hH⟩ a hA)
  repeat' (first | (refine QT ?_; clear hA a; intro a hA) | (refine CT ?_ <;> repeat' refine CT ?_) | fail)
  (refine st_op hA rfl rfl (by decide) (op_call rfl rfl rfl (rev1_spec _ oL cL)) ?_; clear hA; rintro _ w hk a hA; replace hH := hH.keep hk; clear hk)
  repeat' (first | (refine QT ?_; clear hA a; intro a hA) | (refine CT ?_ <;> repeat' refine CT ?_) | fail)
  exact rt1 (.inl rfl) rfl hA rfl ⟨oL, cL, rfl, (((((hH.rm 0).rm 0).rm 0).rm 2).rm 3).perm PMT⟩
end Go.Proofs.YtenlcdokaadobaaGreatDoor
namespace Go.Proofs.YtenlcdokaadobaaGreatDoor
open Go Go.Fw
set_option linter.unusedVariables false
theorem la_1 {g : Grs} {kd : Int} {fm : Fm} {e : En} {wd : Wd} {sk : List Fm} (h : e.k = 1) : lastF g kd fm e wd sk = backF g kd (getF g fm (e.a.l.getD 0 atm0)) wd sk := by unfold lastF; rw [if_pos h]
theorem la_2 {g : Grs} {kd : Int} {fm : Fm} {e : En} {wd : Wd} {sk : List Fm} (h : e.k = 2) : lastF g kd fm e wd sk = enterF (getF g fm (e.a.l.getD 0 atm0)) (getF g fm (e.a.l.getD 1 atm0)) wd sk := by unfold lastF; rw [if_neg (by omega), if_pos h]
theorem la_4 {g : Grs} {kd : Int} {fm : Fm} {e : En} {wd : Wd} {sk : List Fm} (h : e.k = 4) : lastF g kd fm e wd sk = .go ⟨wd, sk, followF g fm (e.to.l.getD 0 edg0)⟩ := by unfold lastF; rw [if_neg (by omega), if_neg (by omega), if_pos h]
theorem la_x {g : Grs} {kd : Int} {fm : Fm} {e : En} {wd : Wd} {sk : List Fm} (h : e.k ≠ 1 ∧ e.k ≠ 2 ∧ e.k ≠ 4) : lastF g kd fm e wd sk = (match asNum (getF g fm (e.a.l.getD 0 atm0)) with
    | none => stuckF wd
    | some n =>
      if e.k = 3 then raiseF g n wd sk
      else if e.k = 5 then .go ⟨wd, sk, followF g fm (e.to.l.getD (if n = 0 then 1 else 0) edg0)⟩
      else .go ⟨wd, sk, followF g fm (e.to.l.getD (if bsB e.ns.l n then bsI e.ns.l n else e.ns.l.length) edg0)⟩) := by unfold lastF; rw [if_neg h.1, if_neg h.2.1, if_neg h.2.2]; rfl
theorem atm_at {l : List Atm} {i : Nat} (h : i < l.length) : l[i]? = some (l.getD i atm0) := by rw [List.getD_eq_getElem?_getD, List.getElem?_eq_getElem h]; rfl
theorem edg_at {l : List Edg} {i : Nat} (h : i < l.length) : l[i]? = some (l.getD i edg0) := by rw [List.getD_eq_getElem?_getD, List.getElem?_eq_getElem h]; rfl
theorem end_ns {e : En} (h : EndP e) (hn : e.ns.l.length ≤ 9223372036854775807) (ht : e.to.l.length ≤ 1000000000) : e.ns.l.length ≤ 2000000000 := by
  have h1 := h.to
  have h2 := h.ns
  unfold endT at h1
  by_cases h6 : e.k = 6
  · rw [if_neg (by omega), if_neg (by omega), if_pos h6] at h1
    by_cases hb : (e.ns.l.length : Int) + 1 ≤ 9223372036854775807
    · rw [wrap_i64 (by unfold i64ok; omega)] at h1
      omega
    · have h3 : e.ns.l.length = 9223372036854775807 := by omega
      rw [h3, show IntKind.i64.wrap ((9223372036854775807 : Nat) + 1 : Int) = -9223372036854775808 by decide] at h1
      omega
  · have : ¬ 0 < e.ns.l.length := fun h => h6 (h2.2 h)
    omega
structure EdgOk (g : Grs) (w0 : World) (fm : Fm) (t : Edg) : Prop where
  b0 : 0 ≤ t.b
  b1 : t.b < (g.fs.l.getD fm.c.1.toNat gr0).bs.l.length
  len : t.a.l.length = (blkOf g fm.c.1 t.b.toNat).ps.l.length
  at_ : ∀ a ∈ t.a.l, atW g a
  top : t.a.l.length ≤ 1048576
set_option maxRecDepth 10000 attribute [local irreducible] Code.wp wpList Calls Ex Op1 sat bat blk cb own Go.Fw.mp Go.Fw.mpO Go.Fw.mpI Go.Fw.mpE Go.Fw.itr HS Rd Ret wkD Hp Cl Cls Exit.then Exit.inBlock Exit.noGoto bodyPost Go.Fw.flat wk2 Go.Fw.all Go.Fw.owns wpOp
attribute [local irreducible] sk mpK sko mvO entK opM Go.Fw.mset Go.Fw.mv opK w63 frz obI RV idxF quoteF itoaB textF

set_option maxHeartbeats 32000000 in
theorem last_spec {w0 w : World} {H : List It} {c : Cx} {bM : Nat} {g : Grs} {kd fuel : Int} {m : Mc} {oO oS ph : Option Addr} {cO cS pc bv : Nat} {mm : List (Int × Value)} {fms : List FmM} {sx : Sx} (hH : HS w0 noM (cb bM 86 (encW g kd m.wd.inp oO m.wd.out.length cO ++ encR g fuel oS fms.length cS pc bv (blkA g m.fm.c.1 m.fm.b) m.fm.i ph none) :: own 5 1 oO m.wd.out.length cO (flat encY m.wd.out) :: frz w0 c.K :: all (sx.map obI) :: own 83 5 oS fms.length cS (flat encFm fms) :: all (fms.map mpF) :: mp bv mm :: H) w) (hpc : FnR c m.fm.c.1 m.fm.c.2 pc) (hmm : MapR c m.fm.vs mm) (hfs : FsR g c m.sk fms) (hst : StR c sx m.wd.st) (e : En) (hR : RdGs w0 g) (hnf : c.nf = g.fs.l.length) (hne : ∀ f ∈ g.fs.l, 0 < f.bs.l.length) (hsz : ∀ s ∈ g.ss.l, s.size ≤ 4096) (hxs : ∀ s ∈ g.xs.l, s.size ≤ 4611686018427387904) (hfl : m.sk.length ≤ 1000000)
    (hE : EndP e) (hRe : RdEn w0 e) (ha : ∀ a ∈ e.a.l, atW g a) (hto : ∀ t ∈ e.to.l, EdgOk g w0 m.fm t) (hFI : FI w0) (htl : e.to.l.length ≤ 1000000000) (hok : ∀ f ∈ m.sk, FmOk g f ∧ f.i < (curB g f).is.l.length) :
    Ret Tryz.prog 29 #[.pointer (some (bat bM 0)), .agg (encEn e).toArray] w (fun r w' => SrW w0 c bM g kd fuel H (lastF g kd m.fm e m.wd m.sk) w') := by
  have hel := hE.lo
  have heh := hE.hi
  have hea := hE.a
  have het := hE.to
  have hal := hRe.1.le
  have hspA : Sp e.a.o e.a.l.length := hRe.1.1.sp (sz := 2) (flat_length encAt_len _) (by omega)
  have hspT : Sp e.to.o e.to.l.length := hRe.2.2.1.1.sp (sz := 2) (flat_length encEd_len _) (by omega)
  have hnl := hRe.2.1.le
  have hns : e.ns.l.length ≤ 2000000000 := end_ns hE hnl htl
  (refine enter (N := 99) Tryz.func29 rfl Tryz.ntmps29 rfl ?_; intro a hA; dsimp only [sl0, Nat.reduceAdd] at hA)
  by_cases h1 : e.k = 1
  · unfold endA at hea
    rw [if_neg (by omega), if_neg (by omega)] at hea
    repeat' (first | (refine XT ?_; apply XE; (first | (apply ex_indexAddr; rfl; rfl; decide; omega; exact hspA) | (apply ex_load_st (vs := encAt (e.a.l.getD 0 atm0)); rfl; rfl; exact cls_rd hRe.1.1 id (flat_all encAt_len (atm_at (by omega)))) | (apply ex_load_st (vs := encAt (e.a.l.getD 1 atm0)); rfl; rfl; exact cls_rd hRe.1.1 id (flat_all encAt_len (atm_at (by omega))))); clear hA a; intro a hA) | (refine QT ?_; clear hA a; intro a hA) | (refine BT ?_; clear hA hH; rintro _ w ⟨bN, rfl, hH⟩ a hA) | ((first | refine CT ?_ | (refine DT ?_ ?_ <;> intro hc <;> try (exfalso; omega))) <;> repeat' refine CT ?_) | fail)
    obtain ⟨b3, hb3⟩ : ∃ x, x = bN := ⟨_, rfl⟩; rw [← hb3] at hA hH; clear hb3 bN; replace hH := hH.perm (H' := cb bM 86 (encW g kd m.wd.inp oO m.wd.out.length cO ++ encR g fuel oS fms.length cS pc bv (blkA g m.fm.c.1 m.fm.b) m.fm.i ph none) :: mp bv mm :: own 5 1 oO m.wd.out.length cO (flat encY m.wd.out) :: frz w0 c.K :: all (sx.map obI) :: own 83 5 oS fms.length cS (flat encFm fms) :: all (fms.map mpF) :: cb b3 51 (encEn e) :: H) PMT
    (refine st_op hA rfl rfl (by decide) (op_call rfl rfl rfl (get_spec w0 _ (own 5 1 oO m.wd.out.length cO (flat encY m.wd.out) :: frz w0 c.K :: all (sx.map obI) :: own 83 5 oS fms.length cS (flat encFm fms) :: all (fms.map mpF) :: cb b3 51 (encEn e) :: H) c bM g kd m.wd.inp oO oS m.wd.out.length cO fms.length cS pc bv fuel m.fm.i _ ph none m.fm mm (e.a.l.getD 0 atm0) hH hmm (ha _ (List.mem_of_getElem? (atm_at (by omega)))) hR.2.2.2.2.2 hsz)) ?_; clear hA hH; rintro u w ⟨hu, hH⟩ a hA)
    repeat' (first | (refine QT ?_; clear hA a; intro a hA) | fail)
    replace hH := hH.perm (H' := cb bM 86 (encW g kd m.wd.inp oO m.wd.out.length cO ++ encR g fuel oS fms.length cS pc bv (blkA g m.fm.c.1 m.fm.b) m.fm.i ph none) :: own 5 1 oO m.wd.out.length cO (flat encY m.wd.out) :: frz w0 c.K :: all (sx.map obI) :: own 83 5 oS fms.length cS (flat encFm fms) :: all (fms.map mpF) :: mp bv mm :: cb b3 51 (encEn e) :: H) PMT
    (refine st_op hA rfl rfl (by decide) (op_call rfl rfl rfl (backS hH hpc hmm hfs hst hu hR hFI hfl hok)) ?_; clear hA hH; rintro _ w hS a hA)
    repeat' (first | (refine QT ?_; clear hA a; intro a hA) | (refine CT ?_ <;> repeat' refine CT ?_) | fail)
    exact rt0 (by first | exact .inl rfl | exact .inr rfl) rfl hA (by rw [la_1 h1]; exact hS.drop1)
  by_cases h2 : e.k = 2
  · unfold endA at hea
    rw [if_pos h2] at hea
    repeat' (first | (refine XT ?_; apply XE; (first | (apply ex_indexAddr; rfl; rfl; decide; omega; exact hspA) | (apply ex_load_st (vs := encAt (e.a.l.getD 0 atm0)); rfl; rfl; exact cls_rd hRe.1.1 id (flat_all encAt_len (atm_at (by omega)))) | (apply ex_load_st (vs := encAt (e.a.l.getD 1 atm0)); rfl; rfl; exact cls_rd hRe.1.1 id (flat_all encAt_len (atm_at (by omega))))); clear hA a; intro a hA) | (refine QT ?_; clear hA a; intro a hA) | (refine BT ?_; clear hA hH; rintro _ w ⟨bN, rfl, hH⟩ a hA) | ((first | refine CT ?_ | (refine DT ?_ ?_ <;> intro hc <;> try (exfalso; omega))) <;> repeat' refine CT ?_) | fail)
    obtain ⟨b3, hb3⟩ : ∃ x, x = bN := ⟨_, rfl⟩; rw [← hb3] at hA hH; clear hb3 bN; replace hH := hH.perm (H' := cb bM 86 (encW g kd m.wd.inp oO m.wd.out.length cO ++ encR g fuel oS fms.length cS pc bv (blkA g m.fm.c.1 m.fm.b) m.fm.i ph none) :: mp bv mm :: own 5 1 oO m.wd.out.length cO (flat encY m.wd.out) :: frz w0 c.K :: all (sx.map obI) :: own 83 5 oS fms.length cS (flat encFm fms) :: all (fms.map mpF) :: cb b3 51 (encEn e) :: H) PMT
    (refine wp_draw2_HS [(0, 1), (1, 1), (2, 2), (3, 1), (4, 1), (5, 1), (7, 1), (8, 2), (9, 1), (10, 1), (11, 1), (6, 0), (12, 0)] [13] mixed (by decide +kernel) hH ?_; replace hH := hH.drew)
    repeat' (first | (refine XT ?_; apply XE; (first | (apply ex_indexAddr; rfl; rfl; decide; omega; exact hspA) | (apply ex_load_st (vs := encAt (e.a.l.getD 0 atm0)); rfl; rfl; exact cls_rd hRe.1.1 id (flat_all encAt_len (atm_at (by omega)))) | (apply ex_load_st (vs := encAt (e.a.l.getD 1 atm0)); rfl; rfl; exact cls_rd hRe.1.1 id (flat_all encAt_len (atm_at (by omega))))); clear hA a; intro a hA) | (refine QT ?_; clear hA a; intro a hA) | fail)
    (refine dr_op hA rfl rfl rfl (by decide) (op_call rfl rfl rfl (get_spec w0 _ (own 5 1 oO m.wd.out.length cO (flat encY m.wd.out) :: frz w0 c.K :: all (sx.map obI) :: own 83 5 oS fms.length cS (flat encFm fms) :: all (fms.map mpF) :: cb b3 51 (encEn e) :: H) c bM g kd m.wd.inp oO oS m.wd.out.length cO fms.length cS pc bv fuel m.fm.i _ ph none m.fm mm (e.a.l.getD 0 atm0) hH hmm (ha _ (List.mem_of_getElem? (atm_at (by omega)))) hR.2.2.2.2.2 hsz)) ?_; clear hA hH; rintro u w ⟨hu, hH⟩; refine ⟨STT, ?_⟩; intro a hA)
    (refine dr_op hA rfl rfl rfl (by decide) (op_call rfl rfl rfl (get_spec w0 _ (own 5 1 oO m.wd.out.length cO (flat encY m.wd.out) :: frz w0 c.K :: all (sx.map obI) :: own 83 5 oS fms.length cS (flat encFm fms) :: all (fms.map mpF) :: cb b3 51 (encEn e) :: H) c bM g kd m.wd.inp oO oS m.wd.out.length cO fms.length cS pc bv fuel m.fm.i _ ph none m.fm mm (e.a.l.getD 1 atm0) hH hmm (ha _ (List.mem_of_getElem? (atm_at (by omega)))) hR.2.2.2.2.2 hsz)) ?_; clear hA hH; rintro v w ⟨hv, hH⟩; refine ⟨STT, ?_⟩; intro a hA)
    trace_state
    repeat' (first | (refine QT ?_; clear hA a; intro a hA) | (refine CT ?_ <;> repeat' refine CT ?_) | fail)
    replace hH := hH.perm (H' := cb bM 86 (encW g kd m.wd.inp oO m.wd.out.length cO ++ encR g fuel oS fms.length cS pc bv (blkA g m.fm.c.1 m.fm.b) m.fm.i ph none) :: own 5 1 oO m.wd.out.length cO (flat encY m.wd.out) :: frz w0 c.K :: all (sx.map obI) :: own 83 5 oS fms.length cS (flat encFm fms) :: all (fms.map mpF) :: mp bv mm :: cb b3 51 (encEn e) :: H) PMT
    (refine dr_op3 hA rfl rfl rfl (by decide) (op_call rfl rfl rfl (enterS hH hpc hmm hfs hst hu hv hR hnf hne)) ?_; clear hA hH; rintro _ w hS a hA)
    repeat' (first | (refine QT ?_; clear hA a; intro a hA) | (refine CT ?_ <;> repeat' refine CT ?_) | fail)
    exact rt0 (by first | exact .inl rfl | exact .inr rfl) rfl hA (by rw [la_2 h2]; exact hS.drop1)
  by_cases h4 : e.k = 4
  · unfold endT at het
    rw [if_pos h4] at het
    repeat' (first | (refine XT ?_; apply XE; (first | (apply ex_indexAddr; rfl; rfl; decide; omega; exact hspT) | (apply ex_load_st (vs := encEd (e.to.l.getD 0 edg0)); rfl; rfl; exact cls_rd hRe.2.2.1.1 id (flat_all encEd_len (edg_at (by omega))))); clear hA a; intro a hA) | (refine QT ?_; clear hA a; intro a hA) | (refine BT ?_; clear hA hH; rintro _ w ⟨bN, rfl, hH⟩ a hA) | ((first | refine CT ?_ | (refine DT ?_ ?_ <;> intro hc <;> try (exfalso; omega))) <;> repeat' refine CT ?_) | fail)
    obtain ⟨b3, hb3⟩ : ∃ x, x = bN := ⟨_, rfl⟩; rw [← hb3] at hA hH; clear hb3 bN; replace hH := hH.perm (H' := cb bM 86 (encW g kd m.wd.inp oO m.wd.out.length cO ++ encR g fuel oS fms.length cS pc bv (blkA g m.fm.c.1 m.fm.b) m.fm.i ph none) :: mp bv mm :: own 5 1 oO m.wd.out.length cO (flat encY m.wd.out) :: frz w0 c.K :: all (sx.map obI) :: own 83 5 oS fms.length cS (flat encFm fms) :: all (fms.map mpF) :: cb b3 51 (encEn e) :: H) PMT
    replace hH := hH.perm (H' := cb bM 86 (encW g kd m.wd.inp oO m.wd.out.length cO ++ encR g fuel oS fms.length cS pc bv (blkA g m.fm.c.1 m.fm.b) m.fm.i ph none) :: own 5 1 oO m.wd.out.length cO (flat encY m.wd.out) :: frz w0 c.K :: all (sx.map obI) :: own 83 5 oS fms.length cS (flat encFm fms) :: all (fms.map mpF) :: mp bv mm :: cb b3 51 (encEn e) :: H) PMT
    have hm0 : e.to.l.getD 0 edg0 ∈ e.to.l := getD_mem (by omega)
    have hEd := hto _ hm0
    (refine st_op hA rfl rfl (by decide) (op_call rfl rfl rfl (followS hH hpc hmm hfs hst hEd.at_ hR hsz (hRe.2.2.2 _ hm0) hEd.top hnf hEd.b0 hEd.b1 hEd.len)) ?_; clear hA hH; rintro _ w hS a hA)
    repeat' (first | (refine QT ?_; clear hA a; intro a hA) | (refine CT ?_ <;> repeat' refine CT ?_) | fail)
    exact rt0 (by first | exact .inl rfl | exact .inr rfl) rfl hA (by rw [la_4 h4]; exact hS.drop1)
  have hk : e.k = 3 ∨ e.k = 5 ∨ e.k = 6 := by omega
  have ex := la_x (g := g) (kd := kd) (fm := m.fm) (wd := m.wd) (sk := m.sk) ⟨h1, h2, h4⟩
  unfold endA at hea
  rw [if_neg h2, if_neg h4] at hea
  repeat' (first | (refine XT ?_; apply XE; (first | (apply ex_indexAddr; rfl; rfl; decide; omega; exact hspA) | (apply ex_load_st (vs := encAt (e.a.l.getD 0 atm0)); rfl; rfl; exact cls_rd hRe.1.1 id (flat_all encAt_len (atm_at (by omega)))) | (apply ex_load_st (vs := encAt (e.a.l.getD 1 atm0)); rfl; rfl; exact cls_rd hRe.1.1 id (flat_all encAt_len (atm_at (by omega))))); clear hA a; intro a hA) | (refine QT ?_; clear hA a; intro a hA) | (refine BT ?_; clear hA hH; rintro _ w ⟨bN, rfl, hH⟩ a hA) | ((first | refine CT ?_ | (refine DT ?_ ?_ <;> intro hc <;> try (exfalso; omega))) <;> repeat' refine CT ?_) | fail)
  obtain ⟨b3, hb3⟩ : ∃ x, x = bN := ⟨_, rfl⟩; rw [← hb3] at hA hH; clear hb3 bN; replace hH := hH.perm (H' := cb bM 86 (encW g kd m.wd.inp oO m.wd.out.length cO ++ encR g fuel oS fms.length cS pc bv (blkA g m.fm.c.1 m.fm.b) m.fm.i ph none) :: mp bv mm :: own 5 1 oO m.wd.out.length cO (flat encY m.wd.out) :: frz w0 c.K :: all (sx.map obI) :: own 83 5 oS fms.length cS (flat encFm fms) :: all (fms.map mpF) :: cb b3 51 (encEn e) :: H) PMT
  (refine st_op hA rfl rfl (by decide) (op_call rfl rfl rfl (get_spec w0 _ (own 5 1 oO m.wd.out.length cO (flat encY m.wd.out) :: frz w0 c.K :: all (sx.map obI) :: own 83 5 oS fms.length cS (flat encFm fms) :: all (fms.map mpF) :: cb b3 51 (encEn e) :: H) c bM g kd m.wd.inp oO oS m.wd.out.length cO fms.length cS pc bv fuel m.fm.i _ ph none m.fm mm (e.a.l.getD 0 atm0) hH hmm (ha _ (List.mem_of_getElem? (atm_at (by omega)))) hR.2.2.2.2.2 hsz)) ?_; clear hA hH; rintro u w ⟨hu, hH⟩ a hA)
  rcases hu.asNum with ⟨n, hs, rfl, hn⟩ | ⟨hs, hn⟩
  rotate_left
  · rw [hs] at ex
    dsimp only at ex
    replace hH := hH.perm (H' := cb bM 86 (encW g kd m.wd.inp oO m.wd.out.length cO ++ encR g fuel oS fms.length cS pc bv (blkA g m.fm.c.1 m.fm.b) m.fm.i ph none) :: own 5 1 oO m.wd.out.length cO (flat encY m.wd.out) :: frz w0 c.K :: all (sx.map obI) :: own 83 5 oS fms.length cS (flat encFm fms) :: all (fms.map mpF) :: mp bv mm :: cb b3 51 (encEn e) :: H) PMT
    repeat' (first | (refine XT ?_; apply XE; (first | (apply ex_assertX; rfl; exact hn)); clear hA a; intro a hA) | (refine QT ?_; clear hA a; intro a hA) | (refine CT ?_ <;> repeat' refine CT ?_) | fail)
    (refine st_op hA rfl rfl (by decide) (op_call rfl rfl rfl (stopS hH hpc hmm hfs hst 4 empS)) ?_; clear hA hH; rintro _ w hS a hA)
    repeat' (first | (refine QT ?_; clear hA a; intro a hA) | (refine CT ?_ <;> repeat' refine CT ?_) | fail)
    exact rt0 (by first | exact .inl rfl | exact .inr rfl) rfl hA (SrW.stop (by rw [ex]; rfl) hS.drop1)
  rw [hs] at ex
  dsimp only at ex
  replace hH := hH.perm (H' := cb bM 86 (encW g kd m.wd.inp oO m.wd.out.length cO ++ encR g fuel oS fms.length cS pc bv (blkA g m.fm.c.1 m.fm.b) m.fm.i ph none) :: own 5 1 oO m.wd.out.length cO (flat encY m.wd.out) :: frz w0 c.K :: all (sx.map obI) :: own 83 5 oS fms.length cS (flat encFm fms) :: all (fms.map mpF) :: mp bv mm :: cb b3 51 (encEn e) :: H) PMT
  by_cases h3 : e.k = 3
  · rw [if_pos h3] at ex
    repeat' (first | (refine XT ?_; apply XE; (first | (apply ex_assertY; rfl)); clear hA a; intro a hA) | (refine QT ?_; clear hA a; intro a hA) | ((first | refine CT ?_ | (refine DT ?_ ?_ <;> intro hc <;> try (exfalso; omega))) <;> repeat' refine CT ?_) | fail)
    (refine st_op hA rfl rfl (by decide) (op_call rfl rfl rfl (raiseS hH hpc hmm hfs hst c.le_refl (Nat.le_succ _) hn hR hnf hne hfl hxs)) ?_; clear hA hH; rintro _ w hS a hA)
    repeat' (first | (refine QT ?_; clear hA a; intro a hA) | (refine CT ?_ <;> repeat' refine CT ?_) | fail)
    exact rt0 (by first | exact .inl rfl | exact .inr rfl) rfl hA (by rw [ex]; exact hS.drop1)
  rw [if_neg h3] at ex
  unfold endT at het
  rw [if_neg h4] at het
  by_cases h5 : e.k = 5
  · rw [if_pos h5] at ex
    rw [if_pos h5] at het
    repeat' (first | (refine XT ?_; apply XE; (first | (apply ex_assertY; rfl)); clear hA a; intro a hA) | (refine QT ?_; clear hA a; intro a hA) | ((first | refine CT ?_ | (refine DT ?_ ?_ <;> intro hc <;> try (exfalso; omega))) <;> repeat' refine CT ?_) | fail)
    have hm1 : e.to.l.getD 1 edg0 ∈ e.to.l := getD_mem (by omega)
    have hm0 : e.to.l.getD 0 edg0 ∈ e.to.l := getD_mem (by omega)
    (refine wp_draw2_HS [(0, 1), (1, 1), (2, 1), (3, 1), (4, 1), (5, 0), (6, 1), (7, 1), (8, 1)] [9] mixed (by decide +kernel) hH ?_; replace hH := hH.drew)
    by_cases h0 : n = 0
    · have htr : tru (decide (n ≠ 0)) = 0 := by rw [decide_eq_false (by simpa using h0)]; rfl
      rw [if_pos h0] at ex
      have hEd := hto _ hm1
      repeat' (first | (refine XT ?_; apply XE; (first | (apply ex_indexAddr; rfl; rfl; decide; omega; exact hspT) | (apply ex_load_st (vs := encEd (e.to.l.getD 1 edg0)); rfl; rfl; exact cls_rd hRe.2.2.1.1 id (flat_all encEd_len (edg_at (by omega))))); clear hA a; intro a hA) | (refine QT ?_; clear hA a; intro a hA) | (refine dr_op hA rfl rfl rfl (by decide) (op_call rfl rfl rfl (Truth_spec _ _)) ?_; clear hA; rintro _ w ⟨rfl, hk2⟩; replace hH := hH.keep hk2; refine ⟨STT, ?_⟩; intro a hA; rw [htr] at hA) | (refine CT ?_ <;> repeat' refine CT ?_) | fail)
      (refine dr_op3 hA rfl rfl rfl (by decide) (op_call rfl rfl rfl (followS hH hpc hmm hfs hst hEd.at_ hR hsz (hRe.2.2.2 _ hm1) hEd.top hnf hEd.b0 hEd.b1 hEd.len)) ?_; clear hA hH; rintro _ w hS a hA)
      repeat' (first | (refine QT ?_; clear hA a; intro a hA) | (refine CT ?_ <;> repeat' refine CT ?_) | fail)
      exact rt0 (by first | exact .inl rfl | exact .inr rfl) rfl hA (by rw [ex]; exact hS.drop1)
    · have htr : tru (decide (n ≠ 0)) = 1 := by rw [decide_eq_true h0]; rfl
      rw [if_neg h0] at ex
      have hEd := hto _ hm0
      repeat' (first | (refine XT ?_; apply XE; (first | (apply ex_indexAddr; rfl; rfl; decide; omega; exact hspT) | (apply ex_load_st (vs := encEd (e.to.l.getD 0 edg0)); rfl; rfl; exact cls_rd hRe.2.2.1.1 id (flat_all encEd_len (edg_at (by omega))))); clear hA a; intro a hA) | (refine QT ?_; clear hA a; intro a hA) | (refine dr_op hA rfl rfl rfl (by decide) (op_call rfl rfl rfl (Truth_spec _ _)) ?_; clear hA; rintro _ w ⟨rfl, hk2⟩; replace hH := hH.keep hk2; refine ⟨STT, ?_⟩; intro a hA; rw [htr] at hA) | (refine CT ?_ <;> repeat' refine CT ?_) | fail)
      (refine dr_op3 hA rfl rfl rfl (by decide) (op_call rfl rfl rfl (followS hH hpc hmm hfs hst hEd.at_ hR hsz (hRe.2.2.2 _ hm0) hEd.top hnf hEd.b0 hEd.b1 hEd.len)) ?_; clear hA hH; rintro _ w hS a hA)
      repeat' (first | (refine QT ?_; clear hA a; intro a hA) | (refine CT ?_ <;> repeat' refine CT ?_) | fail)
      exact rt0 (by first | exact .inl rfl | exact .inr rfl) rfl hA (by rw [ex]; exact hS.drop1)
  have h6 : e.k = 6 := by omega
  rw [if_neg h5] at ex
  rw [if_neg h5, if_pos h6] at het
  have hnl2 := hRe.2.1.le
  rw [wrap_i64 (by unfold i64ok; omega)] at het
  have hbi := bsI_le e.ns.l n
  obtain ⟨i0, hi1⟩ : ∃ i : Nat, i = if bsB e.ns.l n = true then bsI e.ns.l n else e.ns.l.length := ⟨_, rfl⟩
  rw [← hi1] at ex
  have hm0 : e.to.l.getD i0 edg0 ∈ e.to.l := getD_mem (by rw [hi1]; split <;> omega)
  have hEd := hto _ hm0
  repeat' (first | (refine XT ?_; apply XE; (first | (apply ex_assertY; rfl)); clear hA a; intro a hA) | (refine QT ?_; clear hA a; intro a hA) | ((first | refine CT ?_ | (refine DT ?_ ?_ <;> intro hc <;> try (exfalso; omega))) <;> repeat' refine CT ?_) | fail)
  (refine st_op hA rfl rfl (by decide) (op_call rfl rfl rfl (bs_spec _ _ _ _ _ (hH.rd hRe.2.1.1 id) hns)) ?_; clear hA; rintro _ w ⟨rfl, hk2⟩ a hA; replace hH := hH.keep hk2)
  cases hb : bsB e.ns.l n
  · rw [hb, if_neg (by decide)] at hi1
    subst hi1
    rw [hb] at hA
    repeat' (first | (refine XT ?_; apply XE; (first | (apply ex_indexAddr_nat; rfl; rfl; omega; exact hspT) | (apply ex_load_st (vs := encEd (e.to.l.getD e.ns.l.length edg0)); rfl; rfl; exact cls_rd hRe.2.2.1.1 id (flat_all encEd_len (edg_at (by omega))))); clear hA a; intro a hA) | (refine QT ?_; clear hA a; intro a hA) | (refine CT ?_ <;> repeat' refine CT ?_) | fail)
    (refine st_op hA rfl rfl (by decide) (op_call rfl rfl rfl (followS hH hpc hmm hfs hst hEd.at_ hR hsz (hRe.2.2.2 _ hm0) hEd.top hnf hEd.b0 hEd.b1 hEd.len)) ?_; clear hA hH; rintro _ w hS a hA)
    repeat' (first | (refine QT ?_; clear hA a; intro a hA) | (refine CT ?_ <;> repeat' refine CT ?_) | fail)
    exact rt0 (by first | exact .inl rfl | exact .inr rfl) rfl hA (by rw [ex]; exact hS.drop1)
  · rw [hb, if_pos rfl] at hi1
    subst hi1
    rw [hb] at hA
    repeat' (first | (refine XT ?_; apply XE; (first | (apply ex_indexAddr_nat; rfl; rfl; omega; exact hspT) | (apply ex_load_st (vs := encEd (e.to.l.getD (bsI e.ns.l n) edg0)); rfl; rfl; exact cls_rd hRe.2.2.1.1 id (flat_all encEd_len (edg_at (by omega))))); clear hA a; intro a hA) | (refine QT ?_; clear hA a; intro a hA) | (refine CT ?_ <;> repeat' refine CT ?_) | fail)
    (refine st_op hA rfl rfl (by decide) (op_call rfl rfl rfl (followS hH hpc hmm hfs hst hEd.at_ hR hsz (hRe.2.2.2 _ hm0) hEd.top hnf hEd.b0 hEd.b1 hEd.len)) ?_; clear hA hH; rintro _ w hS a hA)
    repeat' (first | (refine QT ?_; clear hA a; intro a hA) | (refine CT ?_ <;> repeat' refine CT ?_) | fail)
    exact rt0 (by first | exact .inl rfl | exact .inr rfl) rfl hA (by rw [ex]; exact hS.drop1)
end Go.Proofs.YtenlcdokaadobaaGreatDoor
namespace Go.Fw
open Go Go.RowKit
theorem rt1c {P : Program} {N : Nat} {l : List (Nat × Value)} {a : Act} {w : World} {C : World → Prop} {fn : Func} {R : Value → World → Prop} {p : Tmp} {ty sz by_ : Nat} {z : Value} {zs : List Value} {fl : List (Nat × Nat)} {q : Addr} {vs : List Value} {e : Exit} [h0 : TSt P ty fl] [hi : TIf P ty z zs sz by_] (he : e = .ret ∨ e = .normal) (hr : fn.results = #[.cell p ty]) (hA : Sl N l a)
    (hp : lk l p = some (.pointer (some q))) (hl : vs.length = sz) (hC : C w) (hc : Cls C q vs) (h : R (.agg vs.toArray) w) : bodyPost P fn (fun e w' => ∃ v, e = .returned v ∧ R v w') e a w := by
  have hg : a.tmps.getD p undef = .pointer (some q) := by simp [Array.getD_eq_getD_getElem?, hA.get p _ hp]
  obtain ⟨ti, h3, h4, h5, h6⟩ := hi.eq
  have hrun : (results fn a.tmps).run P w = .ok (.agg vs.toArray) w := by
    have e1 : (results fn a.tmps).run P w = ((asAddr (a.tmps.getD p undef)).run P w).andThen fun b w₁ => (loadVar ty b).run P w₁ := by
      simp only [results, hr]
      simp [Sem.run_bind, Result.andThen]
    rw [e1, hg]
    simp [asAddr, loadVar, run_isAgg_st, sizeOf, typeInfo, h3, h5, ← hl, run_loadCells_list w q vs (hc w hC), Result.andThen]
  rcases he with rfl | rfl
  · exact bodyPost_ret hrun hA.defers ⟨_, rfl, h⟩
  · exact bodyPost_end hrun hA.defers ⟨_, rfl, h⟩
end Go.Fw
namespace Go.Proofs.YtenlcdokaadobaaGreatDoor
open Go Go.Fw
set_option linter.unusedVariables false
noncomputable def runP (g : Grs) (kd : Int) (s : ByteArray) (fuel : Int) : Int × ByteArray × ByteArray :=
  open Classical in if MayP g then ((runF g kd fuel.toNat (firstM s)).1, ofB (runF g kd fuel.toNat (firstM s)).2.2.out, (runF g kd fuel.toNat (firstM s)).2.1) else (4, empS, empS)
theorem runP_t {g : Grs} {kd : Int} {s : ByteArray} {fuel : Int} (h : MayP g) : runP g kd s fuel = ((runF g kd fuel.toNat (firstM s)).1, ofB (runF g kd fuel.toNat (firstM s)).2.2.out, (runF g kd fuel.toNat (firstM s)).2.1) := by unfold runP; rw [if_pos h]
theorem runP_f {g : Grs} {kd : Int} {s : ByteArray} {fuel : Int} (h : ¬ MayP g) : runP g kd s fuel = (4, empS, empS) := by unfold runP; rw [if_neg h]
def encP3 (r : Int × ByteArray × ByteArray) : List Value := encO3 r.1 r.2.1 r.2.2
def enc0 (g : Grs) (fuel : Int) : List Value :=
  [.slice g.fs.o g.fs.l.length g.fs.c, .slice g.ls.o g.ls.l.length g.ls.c, .slice g.ts.o g.ts.l.length g.ts.c, .slice g.xs.o g.xs.l.length g.xs.c, .slice g.ss.o g.ss.l.length g.ss.c,
   .int .i64 fuel, .slice none 0 0, .pointer none, .map none, .pointer none, .int .i64 0, .pointer none, .pointer none]
structure RunOk (w0 : World) (g : Grs) (kd : Int) (n0 : Nat) (inp : ByteArray) (c : Cx) (m : Mc) (fu : Int) : Prop where
  run : runF g kd n0 (firstM inp) = runF g kd fu.toNat m
  mc : McOk g m
  nf : c.nf = g.fs.l.length
  K : ∀ w, c.K w → Kp w0 noM w
  top : fu ≤ 3000
  b0 : 65536 ≤ c.bd
  b1 : c.bd + fu.toNat ≤ 70000
  sk : m.sk.length + fu.toNat ≤ 3000
  out : m.wd.out.length + fu.toNat ≤ 3000
def RunG (w0 : World) (g : Grs) (kd : Int) (n0 : Nat) (inp : ByteArray) (bM : Nat) (H : List It) (i : Nat) (w : World) : Prop :=
  ∃ c m fu, (i = fu.toNat + 1 ∧ RunOk w0 g kd n0 inp c m fu) ∧ MSt w0 c bM g kd fu H m w
def RunE (w0 : World) (g : Grs) (kd : Int) (n0 : Nat) (inp : ByteArray) (bM : Nat) (H : List It) (w : World) : Prop :=
  ∃ k r wd fu, runF g kd n0 (firstM inp) = (k, r, wd) ∧ MEnd w0 bM g kd fu H k r wd w
theorem run_next {w0 w : World} {g : Grs} (hss : g.ss.l.length ≤ 9223372036854775807) {kd : Int} {n0 : Nat} {inp : ByteArray} {c : Cx} {m : Mc} {fu : Int} {bM : Nat} {H : List It} (hM : MayP g) (h : RunOk w0 g kd n0 inp c m fu) (h0 : 0 < fu) (hS : SrW w0 c bM g kd (fu - 1) H (stepF g kd m) w) :
    RunG w0 g kd n0 inp bM H fu.toNat w ∨ RunE w0 g kd n0 inp bM H w := by
  obtain ⟨n, hn⟩ : ∃ n, fu.toNat = n + 1 := ⟨fu.toNat - 1, by omega⟩
  have hn1 : (fu - 1).toNat = n := by omega
  have hrun := h.run
  have htop := h.top
  have hb0 := h.b0
  have hb1 := h.b1
  have hsk := h.sk
  have hout := h.out
  rw [hn, runF] at hrun
  cases hs : stepF g kd m with
  | go m' =>
    rw [hs] at hS hrun
    obtain ⟨d, ⟨hle, hbd⟩, hm⟩ := hS
    have hm2 := hm
    obtain ⟨oO, cO, oS, cS, pc, bv, mm, fms, sx, ph, hH, hf, hrest⟩ := hm2
    obtain ⟨o, k, vs, hr, _⟩ := hf
    have hnf : d.nf = g.fs.l.length := by rw [← hle.nf]; exact h.nf
    have hcu := cur_ok hM h.mc.fm
    have ho := step_ok hs h.mc (may_ne hM) (fun t ht => ⟨(hcu.edge hss ht).1, (hcu.edge hss ht).2.1⟩) hr.1 (by omega)
    have h1 := ho.sk
    have h2 := ho.out
    have h3 := hle.bd
    refine .inl ⟨d, m', fu - 1, ⟨by omega, ⟨by rw [hn1]; exact hrun, ho.ok, hnf, fun w hw => h.K w (hle.K w hw), by omega, by omega, by omega, by omega, by omega⟩⟩, hm⟩
  | stop k r wd =>
    rw [hs] at hS hrun
    exact .inr ⟨k, r, wd, fu - 1, hrun, hS⟩
set_option maxRecDepth 10000 attribute [local irreducible] Code.wp wpList Calls Ex Op1 sat bat blk cb own Go.Fw.mp Go.Fw.mpO Go.Fw.mpI Go.Fw.mpE Go.Fw.itr HS Rd Ret wkD Hp Cl Cls Exit.then Exit.inBlock Exit.noGoto bodyPost Go.Fw.flat wk2 Go.Fw.all Go.Fw.owns wpOp
attribute [local irreducible] sk mpK sko mvO entK opM Go.Fw.mset Go.Fw.mv opK w63 frz obI RV idxF quoteF itoaB textF

set_option maxHeartbeats 16000000 in
theorem enter0_spec (w0 w : World) (H : List It) (c : Cx) (bM p : Nat) (g : Grs) (kd : Int) (s : ByteArray) (fuel : Int) (hH : HS w0 noM (cb bM 86 (encW g kd s none 0 0 ++ enc0 g fuel) :: frz w0 c.K :: H) w) (hf : FnR c 0 [] p)
    (hR : RdGs w0 g) (hnf : c.nf = g.fs.l.length) (hne : ∀ f ∈ g.fs.l, 0 < f.bs.l.length) :
    Ret Tryz.prog 26 #[.pointer (some (bat bM 0)), ptrV 79 p, .iface 2 (.int .i64 0)] w (fun r w' =>
      ∃ b m, MapR c (firstM s).fm.vs m ∧ HS w0 noM (cb bM 86 (encW g kd s none 0 0 ++ encR g fuel none 0 0 p b (blkA g 0 0) 0 none none) :: mp b m :: frz w0 c.K :: H) w') := by
  have hspF : Sp g.fs.o g.fs.l.length := hR.1.1.sp (sz := 2) (flat_length encG_len _) (by omega)
  have hv : RV c (.num 0) (.iface 2 (.int .i64 0)) := RV_num (c := c) (n := 0) ⟨by decide, by decide⟩
  obtain ⟨o, k, vs, hfr, hp, hr2, hvs⟩ := id hf
  have hfl : 0 < g.fs.l.length := by omega
  have hgm : g.fs.l.getD (Int.toNat 0) gr0 ∈ g.fs.l := getD_mem hfl
  have hbl := hne _ hgm
  have hspB : Sp (g.fs.l.getD (Int.toNat 0) gr0).bs.o (g.fs.l.getD (Int.toNat 0) gr0).bs.l.length := (hR.2.1 _ hgm).1.1.sp (sz := 6) (flat_length encBl_len _) (by omega)
  unfold ptrV
  (refine enter (N := 41) Tryz.func26 rfl Tryz.ntmps26 rfl ?_; intro a hA; dsimp only [sl0, Nat.reduceAdd] at hA)
  repeat' (first | (refine XT ?_; apply XE; (first | (apply ex_assertY; rfl)); clear hA a; intro a hA) | (refine QT ?_; clear hA a; intro a hA) | (refine CT ?_ <;> repeat' refine CT ?_) | fail)
  have hb0 : (0 : Int) < (g.fs.l.getD (Int.toNat 0) gr0).bs.l.length := by omega
  refine wp_drawTL (qs [0, 1, 3, 4, 6, 9, 10, 11, 12, 13, 14, 15, 16, 17, 18, 19, 20, 21] (.one 2 (.two 5 7 (.one 7 (qs [8, 22, 23, 24] .nil)) (.one 5 (qs [8, 22, 23, 24] .nil))))) [25] [] (fun _ _ => False) mixed (by decide +kernel) hH ?_ (fun a w h => h.elim)
  intro hQ
  replace hH := hH.drew
  (repeat ((first | (apply dl_exp hA rfl rfl rfl (by decide) rfl; exact ex_move rfl) | (apply dl_ex hA rfl rfl rfl (by decide) rfl; first | (apply ex_load; rfl; exact cl_frzB MEMT hp rfl) | (apply ex_indexAddr; rfl; rfl; omega; omega; first | exact hspF | exact hspB) | (apply ex_load; rfl; refine cl_rd hR.1.1 id (fs_at ?_); omega) | (apply ex_iface; rfl) | (apply ex_build_p (cs := #[.pointer (some (bat p 0)), .map (some bV), .pointer (blkA g 0 0), .int .i64 0, .pointer none]); rfl; exact FLT; rfl) | exact EXT)); clear hA a; intro a hA))
  (refine dl_op hA rfl rfl rfl (by decide) (op_makeMap hH) ?_; clear hA hH; rintro _ w ⟨bV, rfl, hH⟩; refine ⟨hH.tail, ?_⟩; intro a hA)
  refine dl_two ?_ ?_
  · (apply dl_op0 hA rfl rfl rfl; apply op_insertV; rfl; rfl; rfl; exact hH; (repeat constructor); clear hH; rintro _ w hH; refine ⟨hH.tail, ?_⟩)
    (apply dl_op0 hA rfl rfl rfl; apply op_insertV; rfl; rfl; rfl; exact hH; (repeat constructor); clear hH; rintro _ w hH; refine ⟨hH.tail, ?_⟩)
    (repeat ((first | (apply dl_exp hA rfl rfl rfl (by decide) rfl; exact ex_move rfl) | (apply dl_ex hA rfl rfl rfl (by decide) rfl; first | (apply ex_load; rfl; exact cl_frzB MEMT hp rfl) | (apply ex_indexAddr; rfl; rfl; omega; omega; first | exact hspF | exact hspB) | (apply ex_load; rfl; refine cl_rd hR.1.1 id (fs_at ?_); omega) | (apply ex_iface; rfl) | (apply ex_build_p (cs := #[.pointer (some (bat p 0)), .map (some bV), .pointer (blkA g 0 0), .int .i64 0, .pointer none]); rfl; exact FLT; rfl) | exact EXT)); clear hA a; intro a hA))
    (apply dl_nil; (apply dr_op03 hA rfl rfl rfl; apply op_store_cb (vs := [.pointer (some (bat p 0)), .map (some bV), .pointer (blkA g 0 0), .int .i64 0, .pointer none]) (cs' := encW g kd s none 0 0 ++ encR g fuel none 0 0 p bV (blkA g 0 0) 0 none none); rfl; rfl; exact hH; (repeat constructor); clear hH; rintro _ w hH); (repeat' (first | (refine QT ?_; clear hA a; intro a hA) | (refine CT ?_ <;> repeat' refine CT ?_) | fail)))
    exact rt1 (.inl rfl) rfl hA rfl ⟨bV, _, MapR_new (cl := (0, [])) hf hv, hH.perm PMT⟩
  · (apply dl_op0 hA rfl rfl rfl; apply op_insertV; rfl; rfl; rfl; exact hH; (repeat constructor); clear hH; rintro _ w hH; refine ⟨hH.tail, ?_⟩)
    (apply dl_op0 hA rfl rfl rfl; apply op_insertV; rfl; rfl; rfl; exact hH; (repeat constructor); clear hH; rintro _ w hH; refine ⟨hH.tail, ?_⟩)
    (repeat ((first | (apply dl_exp hA rfl rfl rfl (by decide) rfl; exact ex_move rfl) | (apply dl_ex hA rfl rfl rfl (by decide) rfl; first | (apply ex_load; rfl; exact cl_frzB MEMT hp rfl) | (apply ex_indexAddr; rfl; rfl; omega; omega; first | exact hspF | exact hspB) | (apply ex_load; rfl; refine cl_rd hR.1.1 id (fs_at ?_); omega) | (apply ex_iface; rfl) | (apply ex_build_p (cs := #[.pointer (some (bat p 0)), .map (some bV), .pointer (blkA g 0 0), .int .i64 0, .pointer none]); rfl; exact FLT; rfl) | exact EXT)); clear hA a; intro a hA))
    (apply dl_nil; (apply dr_op03 hA rfl rfl rfl; apply op_store_cb (vs := [.pointer (some (bat p 0)), .map (some bV), .pointer (blkA g 0 0), .int .i64 0, .pointer none]) (cs' := encW g kd s none 0 0 ++ encR g fuel none 0 0 p bV (blkA g 0 0) 0 none none); rfl; rfl; exact hH; (repeat constructor); clear hH; rintro _ w hH); (repeat' (first | (refine QT ?_; clear hA a; intro a hA) | (refine CT ?_ <;> repeat' refine CT ?_) | fail)))
    exact rt1 (.inl rfl) rfl hA rfl ⟨bV, _, MapR_new2 (cl := (0, [])) hf hv, hH.perm PMT⟩
end Go.Proofs.YtenlcdokaadobaaGreatDoor
namespace Go.Proofs.YtenlcdokaadobaaGreatDoor
open Go Go.Fw
set_option linter.unusedVariables false
theorem dr_bl (o1 : Option Addr) (n : Int) (i : Nat) (v : Value) (h : (encBl (bl5 o1 1 n))[i]? = some v) : (dr1 o1 0)[Int.toNat 0 * 7 + 0 + i]? = some v := by
  match i, h with
  | 0, h => exact h
  | 1, h => exact h
  | 2, h => exact h
  | 3, h => exact h
  | 4, h => exact h
  | 5, h => exact h
theorem flat_one {α : Type} (X : List α) : (List.replicate 1 X).flatten = X := by simp
set_option maxRecDepth 10000 attribute [local irreducible] Code.wp wpList Calls Ex Op1 sat bat blk cb own Go.Fw.mp Go.Fw.mpO Go.Fw.mpI Go.Fw.mpE Go.Fw.itr HS Rd Ret wkD Hp Cl Cls Exit.then Exit.inBlock Exit.noGoto bodyPost Go.Fw.flat wk2 Go.Fw.all Go.Fw.owns wpOp
attribute [local irreducible] sk mpK sko mvO entK opM Go.Fw.mset Go.Fw.mv opK

set_option maxHeartbeats 16000000 in
theorem graph1_spec (w0 : World) (o : Option Addr) (n : Int) (hR : Rd w0 o (encAt ⟨2, n⟩)) :
    Ret Tryz.prog 40 #[.agg (encF o 0).toArray] w0 (fun r w =>
      ∃ oB cB o1, r = .agg (encG ⟨0, ⟨oB, cB, [bl5 o1 1 n]⟩⟩).toArray ∧ HS w0 noM [own 53 6 oB 1 cB (encBl (bl5 o1 1 n)), own 65 2 o1 1 1 (encAt ⟨2, n⟩)] w) := by
  have hH : HS w0 noM [] w0 := HS.init w0 noM
  (refine enter (N := 83) Tryz.func40 rfl Tryz.ntmps40 rfl ?_; intro a hA; dsimp only [sl0, Nat.reduceAdd] at hA)
  repeat' (first | (refine XT ?_; apply XE; (first | (apply ex_build_p (cs := (encMk none 0 0 bJ).toArray); rfl; exact FLT; rfl)); clear hA a; intro a hA) | (refine QT ?_; clear hA a; intro a hA) | (refine BT ?_; clear hA hH; rintro _ w ⟨bN, rfl, hH⟩ a hA) | (refine st_op hA rfl rfl (by decide) (op_makeMap hH) ?_; clear hA hH; rintro _ w ⟨bJ, rfl, hH⟩ a hA) | (refine CT ?_ <;> repeat' refine CT ?_) | fail)
  have key : ∃ bM b2 bF, HS w0 noM (cb bM 174 (encMk none 0 0 bJ) :: cb bF 72 (encF o 0) :: cb b2 44 [.int .i64 0, .slice none 0 0] :: mp bJ [] :: []) w ∧ Sl 83 [(17, .pointer (some (bat bM 0))), (16, .pointer (some (bat bM 0))), (3, .pointer (some (bat bM 0))), (2, .pointer (some (bat b2 0))), (1, .pointer (some (bat bF 0)))] a := ⟨_, _, _, hH.perm PMT, (hA.sub SBT)⟩
  clear hA hH
  obtain ⟨bM, b2, bF, hH, hA⟩ := key
  (refine st_op hA rfl rfl (by decide) (op_call rfl rfl rfl (fresh0_spec w0 w _ bM bJ hH)) ?_; clear hA hH; rintro _ w ⟨oD, cD, rfl, hH⟩ a hA)
  repeat' (first | (refine QT ?_; clear hA a; intro a hA) | fail)
  (refine st_op hA rfl rfl (by decide) (op_call rfl rfl rfl (fill1_spec w0 w _ bM bJ bF cD oD o ⟨2, n⟩ hH hR)) ?_; clear hA hH; rintro _ w ⟨o1, hH⟩ a hA)
  have hspD : Sp oD 1 := hH.own_sp (T := 179) (.tail _ (.head _))
  repeat' (first | (refine QT ?_; clear hA a; intro a hA) | (refine CT ?_ <;> repeat' refine CT ?_) | fail)
  (refine st_op hA rfl rfl (by decide) (op_call rfl rfl rfl (order1_spec w0 w _ bM bJ cD oD o1 hspD hH)) ?_; clear hA hH; rintro _ w ⟨oL, cL, rfl, hH⟩ a hA)
  have hspL : Sp oL 1 := hH.own_sp (T := 3) (.tail _ (.tail _ (.head _)))
  replace hH := (((hH.rm 6)).perm (H' := cb bM 174 (encMk oD 1 cD bJ) :: own 179 7 oD 1 cD (dr1 o1 0) :: own 3 1 oL 1 cL [.int .i64 0] :: own 65 2 o1 1 1 (encAt ⟨2, n⟩) :: cb bF 72 (encF o 0) :: cb b2 44 [.int .i64 0, .slice none 0 0] :: []) PMT)
  repeat' (first | (refine QT ?_; clear hA a; intro a hA) | (refine st_op hA rfl rfl (by decide) (op_makeMap hH) ?_; clear hA hH; rintro _ w ⟨bP, rfl, hH⟩ a hA) | (refine CT ?_ <;> repeat' refine CT ?_) | fail)
  refine wp_lpk (S := Nat) (fun i a w => ∃ m, i ≤ 1 ∧ HS w0 noM (mp bP m :: cb bM 174 (encMk oD 1 cD bJ) :: own 179 7 oD 1 cD (dr1 o1 0) :: own 3 1 oL 1 cL [.int .i64 0] :: own 65 2 o1 1 1 (encAt ⟨2, n⟩) :: cb bF 72 (encF o 0) :: cb b2 44 [.int .i64 0, .slice none 0 0] :: []) w ∧ Sl 83 [(26, .int .i64 i), (25, .int .i64 (1 : Nat)), (24, .slice oL 1 cL), (5, .map (some bP)), (4, .slice oL 1 cL), (3, .pointer (some (bat bM 0))), (2, .pointer (some (bat b2 0))), (1, .pointer (some (bat bF 0)))] a) (fun i => 1 - i)
    (fun a w => HS w0 noM (cb bM 174 (encMk oD 1 cD bJ) :: own 179 7 oD 1 cD (dr1 o1 0) :: own 3 1 oL 1 cL [.int .i64 0] :: own 65 2 o1 1 1 (encAt ⟨2, n⟩) :: cb bF 72 (encF o 0) :: cb b2 44 [.int .i64 0, .slice none 0 0] :: []) w ∧ Sl 83 [(4, .slice oL 1 cL), (3, .pointer (some (bat bM 0))), (2, .pointer (some (bat b2 0))), (1, .pointer (some (bat bF 0)))] a) 0 ⟨[], Nat.zero_le _, hH, (hA.sub SBT)⟩ ?_ ?_
  · clear hA hH
    rintro i a w ⟨m, hi, hH, hA⟩
    by_cases hlt : i < 1
    rotate_left
    · repeat' (first | (refine QT ?_; clear hA a; intro a hA) | ((first | refine CT ?_ | (refine DT ?_ ?_ <;> intro hc <;> try (exfalso; omega))) <;> repeat' refine CT ?_) | fail)
      exact ⟨hH.tail, (hA.sub SBT)⟩
    obtain rfl : i = 0 := by omega
    have hv0 : [Value.int .i64 0][0 * 1]? = some (.int .i64 0) := rfl
    repeat' (first | (refine XT ?_; apply XE; (first | (apply ex_indexAddr_nat; rfl; rfl; omega; exact hspL) | (apply ex_load; rfl; exact cl_own (T := 3) (o := oL) MEMT hv0)); clear hA a; intro a hA) | (refine QT ?_; clear hA a; intro a hA) | (apply st_op0 hA rfl rfl; apply op_mapUpdate; rfl; rfl; rfl; exact hH; (repeat constructor); clear hH; rintro _ w hH) | (refine CT ?_ <;> repeat' refine CT ?_) | fail)
    exact ⟨1, ⟨_, Nat.le_refl _, hH, (hA.sub SBT)⟩, by omega⟩
  clear hA hH
  rintro a w ⟨hH, hA⟩
  repeat' (first | (refine XT ?_; apply XE; (first | (apply ex_build_p (cs := #[.int .i64 0, .slice none 0 0]); rfl; exact FLT; rfl)); clear hA a; intro a hA) | (refine QT ?_; clear hA a; intro a hA) | (refine BT ?_; clear hA hH; rintro _ w ⟨bN, rfl, hH⟩ a hA) | (apply st_op0 hA rfl rfl; apply op_store_agg (vs := [.int .i64 0, .slice none 0 0]); rfl; rfl; exact hH; (repeat constructor); (repeat rfl); clear hH; rintro _ w hH) | (refine CT ?_ <;> repeat' refine CT ?_) | fail)
  obtain ⟨b8, hb3⟩ : ∃ x, x = bN := ⟨_, rfl⟩; rw [← hb3] at hA hH; clear hb3 bN
  have hb8 := hH
  refine wp_lpk (S := Nat) (fun i a w => ∃ oB cB, i ≤ 1 ∧ (i = 0 → oB = none ∧ cB = 0) ∧ HS w0 noM (own 53 6 oB i cB ((List.replicate i (encBl (bl5 o1 1 n))).flatten) :: cb b8 44 [.int .i64 0, .slice oB i cB] :: cb bM 174 (encMk oD 1 cD bJ) :: own 179 7 oD 1 cD (dr1 o1 0) :: own 3 1 oL 1 cL [.int .i64 0] :: own 65 2 o1 1 1 (encAt ⟨2, n⟩) :: cb bF 72 (encF o 0) :: cb b2 44 [.int .i64 0, .slice none 0 0] :: []) w ∧ Sl 83 [(40, .int .i64 i), (39, .int .i64 (1 : Nat)), (38, .slice oL 1 cL), (8, .pointer (some (bat b8 0))), (3, .pointer (some (bat bM 0))), (2, .pointer (some (bat b2 0)))] a) (fun i => 1 - i)
    (fun a w => ∃ oB cB, HS w0 noM (own 53 6 oB 1 cB (encBl (bl5 o1 1 n)) :: cb b8 44 [.int .i64 0, .slice oB 1 cB] :: cb bM 174 (encMk oD 1 cD bJ) :: own 179 7 oD 1 cD (dr1 o1 0) :: own 3 1 oL 1 cL [.int .i64 0] :: own 65 2 o1 1 1 (encAt ⟨2, n⟩) :: cb bF 72 (encF o 0) :: cb b2 44 [.int .i64 0, .slice none 0 0] :: []) w ∧ Sl 83 [(8, .pointer (some (bat b8 0))), (2, .pointer (some (bat b2 0)))] a) 0 ⟨none, 0, Nat.zero_le _, fun _ => ⟨rfl, rfl⟩, hH.nil_own 53 6, (hA.sub SBT)⟩ ?_ ?_
  · clear hA hH hb8
    rintro i a w ⟨oB, cB, hi, hi0, hH, hA⟩
    by_cases hlt : i < 1
    rotate_left
    · obtain rfl : i = 1 := by omega
      repeat' (first | (refine QT ?_; clear hA a; intro a hA) | (refine CT ?_ <;> repeat' refine CT ?_) | fail)
      exact ⟨oB, cB, hH, (hA.sub SBT)⟩
    obtain rfl : i = 0 := by omega
    obtain ⟨rfl, rfl⟩ := hi0 rfl
    have hv0 : [Value.int .i64 0][0 * 1]? = some (.int .i64 0) := rfl
    repeat' (first | (refine XT ?_; apply XE; (first | (apply ex_indexAddr_nat; rfl; rfl; omega; exact hspL) | (apply ex_load; rfl; exact cl_own (T := 3) (o := oL) MEMT hv0) | (apply ex_indexAddr; rfl; rfl; decide; omega; exact hspD) | (apply ex_load_st (vs := encBl (bl5 o1 1 n)); rfl; rfl; exact cls_own (T := 179) (o := oD) MEMT (dr_bl o1 n))); clear hA a; intro a hA) | (refine QT ?_; clear hA a; intro a hA) | (refine BT ?_; clear hA hH; rintro _ w ⟨bN, rfl, hH⟩ a hA) | (apply st_op0 hA rfl rfl; apply op_store_agg (vs := encBl (bl5 o1 1 n)); rfl; rfl; exact hH; (repeat constructor); (repeat rfl); clear hH; rintro _ w hH) | (refine CT ?_ <;> repeat' refine CT ?_) | fail)
    obtain ⟨b11, hb3⟩ : ∃ x, x = bN := ⟨_, rfl⟩; rw [← hb3] at hA hH; clear hb3 bN
    have hl0 : (0 : Nat) = (bl5 o1 1 n).e.to.l.length := rfl
    refine wp_lpk (S := Nat) (fun i a w => i = 0 ∧ HS w0 noM (cb b11 53 (encBl (bl5 o1 1 n)) :: own 53 6 none 0 0 [] :: cb b8 44 [.int .i64 0, .slice none 0 0] :: cb bM 174 (encMk oD 1 cD bJ) :: own 179 7 oD 1 cD (dr1 o1 0) :: own 3 1 oL 1 cL [.int .i64 0] :: own 65 2 o1 1 1 (encAt ⟨2, n⟩) :: cb bF 72 (encF o 0) :: cb b2 44 [.int .i64 0, .slice none 0 0] :: []) w ∧ Sl 83 [(56, .int .i64 0), (55, .int .i64 (0 : Nat)), (11, .pointer (some (bat b11 0))), (40, .int .i64 (0 : Nat)), (39, .int .i64 (1 : Nat)), (38, .slice oL 1 cL), (8, .pointer (some (bat b8 0))), (3, .pointer (some (bat bM 0))), (2, .pointer (some (bat b2 0)))] a) (fun i => i)
      (fun a w => HS w0 noM (cb b11 53 (encBl (bl5 o1 1 n)) :: own 53 6 none 0 0 [] :: cb b8 44 [.int .i64 0, .slice none 0 0] :: cb bM 174 (encMk oD 1 cD bJ) :: own 179 7 oD 1 cD (dr1 o1 0) :: own 3 1 oL 1 cL [.int .i64 0] :: own 65 2 o1 1 1 (encAt ⟨2, n⟩) :: cb bF 72 (encF o 0) :: cb b2 44 [.int .i64 0, .slice none 0 0] :: []) w ∧ Sl 83 [(11, .pointer (some (bat b11 0))), (40, .int .i64 (0 : Nat)), (39, .int .i64 (1 : Nat)), (38, .slice oL 1 cL), (8, .pointer (some (bat b8 0))), (3, .pointer (some (bat bM 0))), (2, .pointer (some (bat b2 0)))] a) 0 ⟨rfl, hH, (hA.sub SBT)⟩ ?_ ?_
    · clear hA hH
      rintro i a w ⟨hi, hH, hA⟩
      repeat' (first | (refine QT ?_; clear hA a; intro a hA) | (refine CT ?_ <;> repeat' refine CT ?_) | fail)
      exact ⟨hH, (hA.sub SBT)⟩
    clear hA hH
    rintro a w ⟨hH, hA⟩
    repeat' (first | (refine XT ?_; apply XE; (first | (apply ex_load_st (vs := encBl (bl5 o1 1 n)); rfl; rfl; exact cls_cb_all MEMT)); clear hA a; intro a hA) | (refine QT ?_; clear hA a; intro a hA) | (refine AT ?_; clear hA; rintro _ w ⟨oN, cN, rfl, hH2⟩ a hA; clear hH; have hH := (hH2 _ (by (repeat constructor))).tail; clear hH2) | (apply st_op hA rfl rfl (by decide); apply op_sliceLit (xs := encBl (bl5 o1 1 n)) (vs := [.agg (encBl (bl5 o1 1 n)).toArray]); rfl; rfl; exact (Cats.cn (cs := encBl (bl5 o1 1 n)) Cats.nil); rfl; rfl; rfl; exact hH; clear hA hH; rintro _ w ⟨oN, rfl, hH⟩ a hA) | (refine CT ?_ <;> repeat' refine CT ?_) | fail)
    repeat' (first | (refine QT ?_; clear hA a; intro a hA) | (apply st_op0 hA rfl rfl; apply op_store_fld (cs' := [.int .i64 0, .slice oN (0 + 1) cN]); rfl; rfl; rfl; exact hH; (repeat constructor); clear hH; rintro _ w hH) | (refine CT ?_ <;> repeat' refine CT ?_) | fail)
    refine ⟨1, ⟨oN, cN, Nat.le_refl _, fun h => absurd h (by decide), ?_, (hA.sub SBT)⟩, by omega⟩
    rw [flat_one]
    exact (hH.rm 0).perm PMT
  clear hA hH hb8
  rintro a w ⟨oB, cB, hH, hA⟩
  repeat' (first | (refine XT ?_; apply XE; (first | (apply ex_load_st (vs := [.int .i64 0, .slice oB 1 cB]); rfl; rfl; exact cls_cb_all MEMT)); clear hA a; intro a hA) | (refine QT ?_; clear hA a; intro a hA) | (apply st_op0 hA rfl rfl; apply op_store_agg (vs := [.int .i64 0, .slice oB 1 cB]); rfl; rfl; exact hH; (repeat constructor); (repeat rfl); clear hH; rintro _ w hH) | (refine CT ?_ <;> repeat' refine CT ?_) | fail)
  refine rt1c (vs := [.int .i64 0, .slice oB 1 cB]) (.inl rfl) rfl hA rfl rfl hH (cls_cb_all (by exact MEMT)) ⟨oB, cB, o1, rfl, ?_⟩
  exact (((((hH.rm 1).rm 1).rm 1).rm 1).rm 2).rm 2
end Go.Proofs.YtenlcdokaadobaaGreatDoor
namespace Go.Proofs.YtenlcdokaadobaaGreatDoor
open Go Go.Fw
set_option linter.unusedVariables false
def gr0s : Grs := ⟨nilV, nilV, nilV, nilV, nilV⟩
theorem flatF0 (o : Option Addr) : flat (encF o) [] = [] := rfl
theorem flatF1 (o : Option Addr) : flat (encF o) [0] = encF o 0 := by show encF o 0 ++ [] = _; rw [List.append_nil]
theorem rdv_one {α : Type} {w : World} {enc : α → List Value} {o : Option Addr} {c : Nat} {x : α} (h : Rd w o (enc x)) (hc : 1 ≤ c ∧ c ≤ maxLen) : RdV w enc ⟨o, c, [x]⟩ := ⟨by show Rd w o (enc x ++ []); rw [List.append_nil]; exact h, hc.1, hc.2⟩
theorem rdv_nil {α : Type} (w : World) (enc : α → List Value) : RdV w enc nilV := ⟨rd_empty _ _, Nat.le_refl _, Nat.zero_le _⟩
def h5 (oB oA oG o1 o2 o3 o4 : Option Addr) (cB cG c1 c2 c3 c4 : Nat) (g : Grs) : Grs := ⟨⟨oG, cG, [⟨0, ⟨oB, cB, [bl5 oA 1 5]⟩⟩]⟩, ⟨o1, c1, g.ls.l⟩, ⟨o2, c2, g.ts.l⟩, ⟨o3, c3, g.xs.l⟩, ⟨o4, c4, g.ss.l⟩⟩
theorem h5_rd {w0 w : World} {H : List It} {oB oA oG o1 o2 o3 o4 : Option Addr} {cB cG c1 c2 c3 c4 : Nat} {g : Grs} (hH : HS w0 noM (own 44 2 oG 1 cG (encG ⟨0, ⟨oB, cB, [bl5 oA 1 5]⟩⟩) :: own 53 6 oB 1 cB (encBl (bl5 oA 1 5)) :: own 65 2 oA 1 1 (encAt ⟨2, 5⟩) :: own 9 1 o1 g.ls.l.length c1 (flat encX g.ls.l) :: own 9 1 o2 g.ts.l.length c2 (flat encX g.ts.l) :: own 9 1 o3 g.xs.l.length c3 (flat encX g.xs.l) :: own 9 1 o4 g.ss.l.length c4 (flat encX g.ss.l) :: H) w) : RdGs w (h5 oB oA oG o1 o2 o3 o4 cB cG c1 c2 c3 c4 g) := by
  have hG := hH.own_rd (T := 44) (.head _)
  have hGl := hH.own_le (T := 44) (.head _)
  have hB := hH.own_rd (T := 53) (.tail _ (.head _))
  have hBl := hH.own_le (T := 53) (.tail _ (.head _))
  have hA := hH.own_rd (T := 65) (.tail _ (.tail _ (.head _)))
  have h1 := hH.own_rd (T := 9) (.tail _ (.tail _ (.tail _ (.head _))))
  have h1l := hH.own_le (T := 9) (.tail _ (.tail _ (.tail _ (.head _))))
  have h2 := hH.own_rd (T := 9) (.tail _ (.tail _ (.tail _ (.tail _ (.head _)))))
  have h2l := hH.own_le (T := 9) (.tail _ (.tail _ (.tail _ (.tail _ (.head _)))))
  have h3 := hH.own_rd (T := 9) (.tail _ (.tail _ (.tail _ (.tail _ (.tail _ (.head _))))))
  have h3l := hH.own_le (T := 9) (.tail _ (.tail _ (.tail _ (.tail _ (.tail _ (.head _))))))
  have h4 := hH.own_rd (T := 9) (.tail _ (.tail _ (.tail _ (.tail _ (.tail _ (.tail _ (.head _)))))))
  have h4l := hH.own_le (T := 9) (.tail _ (.tail _ (.tail _ (.tail _ (.tail _ (.tail _ (.head _)))))))
  refine ⟨rdv_one hG hGl, fun x hx => ?_, ⟨h1, h1l⟩, ⟨h2, h2l⟩, ⟨h3, h3l⟩, ⟨h4, h4l⟩⟩
  obtain rfl := List.mem_singleton.1 hx
  refine ⟨rdv_one hB hBl, fun b hb => ?_⟩
  obtain rfl := List.mem_singleton.1 hb
  exact ⟨rdv_nil _ _, rdv_nil _ _, fun i hi => absurd hi (List.not_mem_nil), rdv_one hA ⟨Nat.le_refl _, by decide⟩, rdv_nil _ _, rdv_nil _ _, fun x hx => absurd hx (List.not_mem_nil)⟩
set_option maxRecDepth 10000 attribute [local irreducible] Code.wp wpList Calls Ex Op1 sat bat blk cb own Go.Fw.mp Go.Fw.mpO Go.Fw.mpI Go.Fw.mpE Go.Fw.itr HS Rd Ret wkD Hp Cl Cls Exit.then Exit.inBlock Exit.noGoto bodyPost Go.Fw.flat wk2 Go.Fw.all Go.Fw.owns wpOp
attribute [local irreducible] sk mpK sko mvO entK opM Go.Fw.mset Go.Fw.mv opK

set_option maxHeartbeats 8000000 in
theorem of0_spec (w0 : World) (g : Grs) (hg : g.fs.l = []) (hls : RdV w0 encX g.ls) (hts : RdV w0 encX g.ts) (hxs : RdV w0 encX g.xs) (hss : RdV w0 encX g.ss) (o : Option Addr) (hr : Rd w0 o (encAt at5)) :
    Ret Tryz.prog 17 #[.agg (encP none 0 0 g).toArray] w0 (fun r w => r = .tuple #[.agg (encGs gr0s).toArray, .int .i64 5] ∧ Kp w0 noM w) := by
  have hH : HS w0 noM [] w0 := HS.init w0 noM
  have hno : ¬ AnfP [] g := fun h => absurd h.pos (by decide)
  (refine enter (N := 44) Tryz.func17 rfl Tryz.ntmps17 rfl ?_; intro a hA; dsimp only [sl0, Nat.reduceAdd] at hA)
  repeat' (first | (refine XT ?_; apply XE; (first | (apply ex_load_st (vs := encP none 0 0 g); rfl; rfl; exact cls_cb_all MEMT)); clear hA a; intro a hA) | (refine QT ?_; clear hA a; intro a hA) | (refine BT ?_; clear hA hH; rintro _ w ⟨bN, rfl, hH⟩ a hA) | (refine CT ?_ <;> repeat' refine CT ?_) | fail)
  (refine st_op hA rfl rfl (by decide) (op_call rfl rfl rfl (anfMay5_spec _ none 0 [] o g (by rw [flatF0]; exact rd_empty _ _) (hH.rd hr id) (by decide) (hls.keep hH.kp) (hts.keep hH.kp) (hxs.keep hH.kp) (hss.keep hH.kp))) ?_; clear hA; rintro _ w ⟨b, rfl, hb, hk⟩ a hA; replace hH := hH.keep hk; clear hk)
  obtain rfl : b = false := by
    cases b with
    | false => rfl
    | true => exact absurd (hb.1 rfl) hno
  repeat' (first | (refine XT ?_; apply XE; (first | (apply ex_build_p (cs := (encGs gr0s).toArray); rfl; exact FLT; rfl)); clear hA a; intro a hA) | (refine QT ?_; clear hA a; intro a hA) | (apply st_op0 hA rfl rfl; apply op_store_agg (vs := encGs gr0s); rfl; rfl; exact hH; (repeat constructor); (repeat rfl); clear hH; rintro _ w hH) | (refine CT ?_ <;> repeat' refine CT ?_) | fail)
  exact rt2c (vs := encGs gr0s) (.inl rfl) rfl hA rfl rfl rfl hH (cls_cb_all (by exact MEMT)) ⟨rfl, hH.kp⟩
set_option maxHeartbeats 16000000 in
theorem of1_spec (w0 : World) (g : Grs) (oF o : Option Addr) (cF : Nat) (hF : Rd w0 oF (encF o 0)) (hr : Rd w0 o (encAt at5)) (hls : RdV w0 encX g.ls) (hts : RdV w0 encX g.ts) (hxs : RdV w0 encX g.xs) (hss : RdV w0 encX g.ss)
    (hx : g.xs.l = xs4) (hl : g.ls.l = []) (ht : g.ts.l = []) (hs : g.ss.l = []) :
    Ret Tryz.prog 17 #[.agg (encP oF 1 cF g).toArray] w0 (fun r w => ∃ oB oA oG o1 o2 o3 o4 cB cG c1 c2 c3 c4, r = .tuple #[.agg (encGs (h5 oB oA oG o1 o2 o3 o4 cB cG c1 c2 c3 c4 g)).toArray, .int .i64 0] ∧ HS w0 noM (own 44 2 oG 1 cG (encG ⟨0, ⟨oB, cB, [bl5 oA 1 5]⟩⟩) :: own 53 6 oB 1 cB (encBl (bl5 oA 1 5)) :: own 65 2 oA 1 1 (encAt ⟨2, 5⟩) :: own 9 1 o1 g.ls.l.length c1 (flat encX g.ls.l) :: own 9 1 o2 g.ts.l.length c2 (flat encX g.ts.l) :: own 9 1 o3 g.xs.l.length c3 (flat encX g.xs.l) :: own 9 1 o4 g.ss.l.length c4 (flat encX g.ss.l) :: []) w) := by
  have hH : HS w0 noM [] w0 := HS.init w0 noM
  have hyes : AnfP [0] g := anf4 hx hl ht hs
  have e1 := flatF1 o
  (refine enter (N := 44) Tryz.func17 rfl Tryz.ntmps17 rfl ?_; intro a hA; dsimp only [sl0, Nat.reduceAdd] at hA)
  repeat' (first | (refine XT ?_; apply XE; (first | (apply ex_load_st (vs := encP oF 1 cF g); rfl; rfl; exact cls_cb_all MEMT)); clear hA a; intro a hA) | (refine QT ?_; clear hA a; intro a hA) | (refine BT ?_; clear hA hH; rintro _ w ⟨bN, rfl, hH⟩ a hA) | (refine CT ?_ <;> repeat' refine CT ?_) | fail)
  (refine st_op hA rfl rfl (by decide) (op_call rfl rfl rfl (anfMay5_spec _ oF cF [0] o g (by rw [e1]; exact hH.rd hF id) (hH.rd hr id) (by decide) (hls.keep hH.kp) (hts.keep hH.kp) (hxs.keep hH.kp) (hss.keep hH.kp))) ?_; clear hA; rintro _ w ⟨b, rfl, hb, hk⟩ a hA; replace hH := hH.keep hk; clear hk)
  obtain rfl : b = true := hb.2 hyes
  have key : ∃ b1 b2, HS w0 noM (cb b1 34 (encP oF 1 cF g) :: cb b2 25 (encGs gr0s) :: []) w ∧ Sl 44 [(8, .bool true), (2, .pointer (some (bat b2 0))), (1, .pointer (some (bat b1 0))), (3, .int .i64 0)] a := ⟨_, _, hH.perm PMT, (hA.sub SBT)⟩
  clear hA hH
  obtain ⟨b1, b2, hH, hA⟩ := key
  repeat' (first | (refine QT ?_; clear hA a; intro a hA) | (refine CT ?_ <;> repeat' refine CT ?_) | fail)
  have hST : HS w0 noM [cb b1 34 (encP oF 1 cF g)] w := HS.left (H1 := [_]) hH
  refine wp_drawT (qs [0, 1, 3, 4, 6, 7, 9, 10] (.two 2 13 (.two 5 13 (.two 8 13 (.two 11 13 (.q 12 (.one 13 (.one 14 .nil))) (.one 11 (.q 12 (.one 14 .nil)))) (.one 8 (.one 11 (.q 12 (.one 14 .nil))))) (.one 5 (.one 8 (.one 11 (.q 12 (.one 14 .nil)))))) (.one 2 (.one 5 (.one 8 (.one 11 (.q 12 (.one 14 .nil)))))))) (fun a w => ∃ b4 o1 o2 o3 o4 c1 c2 c3 c4, HS w0 noM (cb b4 25 [.slice none 0 0, .slice o1 g.ls.l.length c1, .slice o2 g.ts.l.length c2, .slice o3 g.xs.l.length c3, .slice o4 g.ss.l.length c4] :: own 9 1 o1 g.ls.l.length c1 (flat encX g.ls.l) :: own 9 1 o2 g.ts.l.length c2 (flat encX g.ts.l) :: own 9 1 o3 g.xs.l.length c3 (flat encX g.xs.l) :: own 9 1 o4 g.ss.l.length c4 (flat encX g.ss.l) :: cb b1 34 (encP oF 1 cF g) :: cb b2 25 (encGs gr0s) :: []) w ∧ Sl 44 [(4, .pointer (some (bat b4 0))), (2, .pointer (some (bat b2 0))), (1, .pointer (some (bat b1 0))), (3, .int .i64 0)] a) mixed (by decide +kernel) hST ?_ ?_
  · clear hST
    replace hH := hH.drew
    (repeat (apply dt_ex hA rfl rfl rfl (by decide); (first | exact EXT | exact EXT2 ); clear hA a; intro a hA))
    apply dt_two
    rotate_left
    · (apply dt_op hA rfl rfl rfl (by decide); apply op_alloc; exact hH; clear hA hH; rintro _ w ⟨bN, rfl, hH⟩; refine ⟨hH.pick (by exact MEMT), ?_⟩; intro a hA)
      (refine dt_op hA rfl rfl rfl (by decide) (op_call rfl rfl rfl (cloneX_spec _ g.ls (hls.keep hH.kp) (by rw [hl]; decide))) ?_; clear hA; rintro _ w ⟨o1, c1, rfl, hj⟩; replace hH := hH.join hj; clear hj; refine ⟨hH.pick (by exact MEMT), ?_⟩; intro a hA)
      (refine dt_op hA rfl rfl rfl (by decide) (op_call rfl rfl rfl (cloneX_spec _ g.ts (hts.keep hH.kp) (by rw [ht]; decide))) ?_; clear hA; rintro _ w ⟨o2, c2, rfl, hj⟩; replace hH := hH.join hj; clear hj; refine ⟨hH.pick (by exact MEMT), ?_⟩; intro a hA)
      (refine dt_op hA rfl rfl rfl (by decide) (op_call rfl rfl rfl (cloneX_spec _ g.xs (hxs.keep hH.kp) (by rw [hx]; decide))) ?_; clear hA; rintro _ w ⟨o3, c3, rfl, hj⟩; replace hH := hH.join hj; clear hj; refine ⟨hH.pick (by exact MEMT), ?_⟩; intro a hA)
      (refine dt_op hA rfl rfl rfl (by decide) (op_call rfl rfl rfl (cloneX_spec _ g.ss (hss.keep hH.kp) (by rw [hs]; decide))) ?_; clear hA; rintro _ w ⟨o4, c4, rfl, hj⟩; replace hH := hH.join hj; clear hj; refine ⟨hH.pick (by exact MEMT), ?_⟩; intro a hA)
      (repeat (apply dt_ex hA rfl rfl rfl (by decide); (first | exact EXT | exact EXT2 | (apply ex_build_p (cs := ([.slice none 0 0, .slice o1 g.ls.l.length c1, .slice o2 g.ts.l.length c2, .slice o3 g.xs.l.length c3, .slice o4 g.ss.l.length c4]).toArray); rfl; exact FLT; rfl)); clear hA a; intro a hA))
      (apply dt_op0 hA rfl rfl rfl; apply op_store_agg (vs := [.slice none 0 0, .slice o1 g.ls.l.length c1, .slice o2 g.ts.l.length c2, .slice o3 g.xs.l.length c3, .slice o4 g.ss.l.length c4]); rfl; rfl; exact hH; (repeat constructor); (repeat rfl); clear hH; rintro _ w hH; refine ⟨hH.pick (by exact MEMT), ?_⟩; apply dt_nil)
      exact ⟨_, o1, o2, o3, o4, c1, c2, c3, c4, hH.perm PMT, (hA.sub SBT)⟩
    (refine dt_op hA rfl rfl rfl (by decide) (op_call rfl rfl rfl (cloneX_spec _ g.ls (hls.keep hH.kp) (by rw [hl]; decide))) ?_; clear hA; rintro _ w ⟨o1, c1, rfl, hj⟩; replace hH := hH.join hj; clear hj; refine ⟨hH.pick (by exact MEMT), ?_⟩; intro a hA)
    apply dt_two
    rotate_left
    · (apply dt_op hA rfl rfl rfl (by decide); apply op_alloc; exact hH; clear hA hH; rintro _ w ⟨bN, rfl, hH⟩; refine ⟨hH.pick (by exact MEMT), ?_⟩; intro a hA)
      (refine dt_op hA rfl rfl rfl (by decide) (op_call rfl rfl rfl (cloneX_spec _ g.ts (hts.keep hH.kp) (by rw [ht]; decide))) ?_; clear hA; rintro _ w ⟨o2, c2, rfl, hj⟩; replace hH := hH.join hj; clear hj; refine ⟨hH.pick (by exact MEMT), ?_⟩; intro a hA)
      (refine dt_op hA rfl rfl rfl (by decide) (op_call rfl rfl rfl (cloneX_spec _ g.xs (hxs.keep hH.kp) (by rw [hx]; decide))) ?_; clear hA; rintro _ w ⟨o3, c3, rfl, hj⟩; replace hH := hH.join hj; clear hj; refine ⟨hH.pick (by exact MEMT), ?_⟩; intro a hA)
      (refine dt_op hA rfl rfl rfl (by decide) (op_call rfl rfl rfl (cloneX_spec _ g.ss (hss.keep hH.kp) (by rw [hs]; decide))) ?_; clear hA; rintro _ w ⟨o4, c4, rfl, hj⟩; replace hH := hH.join hj; clear hj; refine ⟨hH.pick (by exact MEMT), ?_⟩; intro a hA)
      (repeat (apply dt_ex hA rfl rfl rfl (by decide); (first | exact EXT | exact EXT2 | (apply ex_build_p (cs := ([.slice none 0 0, .slice o1 g.ls.l.length c1, .slice o2 g.ts.l.length c2, .slice o3 g.xs.l.length c3, .slice o4 g.ss.l.length c4]).toArray); rfl; exact FLT; rfl)); clear hA a; intro a hA))
      (apply dt_op0 hA rfl rfl rfl; apply op_store_agg (vs := [.slice none 0 0, .slice o1 g.ls.l.length c1, .slice o2 g.ts.l.length c2, .slice o3 g.xs.l.length c3, .slice o4 g.ss.l.length c4]); rfl; rfl; exact hH; (repeat constructor); (repeat rfl); clear hH; rintro _ w hH; refine ⟨hH.pick (by exact MEMT), ?_⟩; apply dt_nil)
      exact ⟨_, o1, o2, o3, o4, c1, c2, c3, c4, hH.perm PMT, (hA.sub SBT)⟩
    (refine dt_op hA rfl rfl rfl (by decide) (op_call rfl rfl rfl (cloneX_spec _ g.ts (hts.keep hH.kp) (by rw [ht]; decide))) ?_; clear hA; rintro _ w ⟨o2, c2, rfl, hj⟩; replace hH := hH.join hj; clear hj; refine ⟨hH.pick (by exact MEMT), ?_⟩; intro a hA)
    apply dt_two
    rotate_left
    · (apply dt_op hA rfl rfl rfl (by decide); apply op_alloc; exact hH; clear hA hH; rintro _ w ⟨bN, rfl, hH⟩; refine ⟨hH.pick (by exact MEMT), ?_⟩; intro a hA)
      (refine dt_op hA rfl rfl rfl (by decide) (op_call rfl rfl rfl (cloneX_spec _ g.xs (hxs.keep hH.kp) (by rw [hx]; decide))) ?_; clear hA; rintro _ w ⟨o3, c3, rfl, hj⟩; replace hH := hH.join hj; clear hj; refine ⟨hH.pick (by exact MEMT), ?_⟩; intro a hA)
      (refine dt_op hA rfl rfl rfl (by decide) (op_call rfl rfl rfl (cloneX_spec _ g.ss (hss.keep hH.kp) (by rw [hs]; decide))) ?_; clear hA; rintro _ w ⟨o4, c4, rfl, hj⟩; replace hH := hH.join hj; clear hj; refine ⟨hH.pick (by exact MEMT), ?_⟩; intro a hA)
      (repeat (apply dt_ex hA rfl rfl rfl (by decide); (first | exact EXT | exact EXT2 | (apply ex_build_p (cs := ([.slice none 0 0, .slice o1 g.ls.l.length c1, .slice o2 g.ts.l.length c2, .slice o3 g.xs.l.length c3, .slice o4 g.ss.l.length c4]).toArray); rfl; exact FLT; rfl)); clear hA a; intro a hA))
      (apply dt_op0 hA rfl rfl rfl; apply op_store_agg (vs := [.slice none 0 0, .slice o1 g.ls.l.length c1, .slice o2 g.ts.l.length c2, .slice o3 g.xs.l.length c3, .slice o4 g.ss.l.length c4]); rfl; rfl; exact hH; (repeat constructor); (repeat rfl); clear hH; rintro _ w hH; refine ⟨hH.pick (by exact MEMT), ?_⟩; apply dt_nil)
      exact ⟨_, o1, o2, o3, o4, c1, c2, c3, c4, hH.perm PMT, (hA.sub SBT)⟩
    (refine dt_op hA rfl rfl rfl (by decide) (op_call rfl rfl rfl (cloneX_spec _ g.xs (hxs.keep hH.kp) (by rw [hx]; decide))) ?_; clear hA; rintro _ w ⟨o3, c3, rfl, hj⟩; replace hH := hH.join hj; clear hj; refine ⟨hH.pick (by exact MEMT), ?_⟩; intro a hA)
    apply dt_two
    rotate_left
    · (apply dt_op hA rfl rfl rfl (by decide); apply op_alloc; exact hH; clear hA hH; rintro _ w ⟨bN, rfl, hH⟩; refine ⟨hH.pick (by exact MEMT), ?_⟩; intro a hA)
      (refine dt_op hA rfl rfl rfl (by decide) (op_call rfl rfl rfl (cloneX_spec _ g.ss (hss.keep hH.kp) (by rw [hs]; decide))) ?_; clear hA; rintro _ w ⟨o4, c4, rfl, hj⟩; replace hH := hH.join hj; clear hj; refine ⟨hH.pick (by exact MEMT), ?_⟩; intro a hA)
      (repeat (apply dt_ex hA rfl rfl rfl (by decide); (first | exact EXT | exact EXT2 | (apply ex_build_p (cs := ([.slice none 0 0, .slice o1 g.ls.l.length c1, .slice o2 g.ts.l.length c2, .slice o3 g.xs.l.length c3, .slice o4 g.ss.l.length c4]).toArray); rfl; exact FLT; rfl)); clear hA a; intro a hA))
      (apply dt_op0 hA rfl rfl rfl; apply op_store_agg (vs := [.slice none 0 0, .slice o1 g.ls.l.length c1, .slice o2 g.ts.l.length c2, .slice o3 g.xs.l.length c3, .slice o4 g.ss.l.length c4]); rfl; rfl; exact hH; (repeat constructor); (repeat rfl); clear hH; rintro _ w hH; refine ⟨hH.pick (by exact MEMT), ?_⟩; apply dt_nil)
      exact ⟨_, o1, o2, o3, o4, c1, c2, c3, c4, hH.perm PMT, (hA.sub SBT)⟩
    (refine dt_op hA rfl rfl rfl (by decide) (op_call rfl rfl rfl (cloneX_spec _ g.ss (hss.keep hH.kp) (by rw [hs]; decide))) ?_; clear hA; rintro _ w ⟨o4, c4, rfl, hj⟩; replace hH := hH.join hj; clear hj; refine ⟨hH.pick (by exact MEMT), ?_⟩; intro a hA)
    (repeat (apply dt_ex hA rfl rfl rfl (by decide); (first | exact EXT | exact EXT2 | (apply ex_build_p (cs := ([.slice none 0 0, .slice o1 g.ls.l.length c1, .slice o2 g.ts.l.length c2, .slice o3 g.xs.l.length c3, .slice o4 g.ss.l.length c4]).toArray); rfl; exact FLT; rfl)); clear hA a; intro a hA))
    (apply dt_op hA rfl rfl rfl (by decide); apply op_alloc; exact hH; clear hA hH; rintro _ w ⟨bN, rfl, hH⟩; refine ⟨hH.pick (by exact MEMT), ?_⟩; intro a hA)
    (apply dt_op0 hA rfl rfl rfl; apply op_store_agg (vs := [.slice none 0 0, .slice o1 g.ls.l.length c1, .slice o2 g.ts.l.length c2, .slice o3 g.xs.l.length c3, .slice o4 g.ss.l.length c4]); rfl; rfl; exact hH; (repeat constructor); (repeat rfl); clear hH; rintro _ w hH; refine ⟨hH.pick (by exact MEMT), ?_⟩; apply dt_nil)
    exact ⟨_, o1, o2, o3, o4, c1, c2, c3, c4, hH.perm PMT, (hA.sub SBT)⟩
  clear hA hH hST
  rintro a w ⟨b4, o1, o2, o3, o4, c1, c2, c3, c4, hH, hA⟩
  repeat' (first | (refine QT ?_; clear hA a; intro a hA) | (refine CT ?_ <;> repeat' refine CT ?_) | fail)
  have hspF : Sp oF 1 := hF.sp (sz := 12) rfl (by omega)
  refine wp_lpk (S := Nat) (fun i a w => ((i = 0 ∧ HS w0 noM (cb b4 25 [.slice none 0 0, .slice o1 g.ls.l.length c1, .slice o2 g.ts.l.length c2, .slice o3 g.xs.l.length c3, .slice o4 g.ss.l.length c4] :: own 9 1 o1 g.ls.l.length c1 (flat encX g.ls.l) :: own 9 1 o2 g.ts.l.length c2 (flat encX g.ts.l) :: own 9 1 o3 g.xs.l.length c3 (flat encX g.xs.l) :: own 9 1 o4 g.ss.l.length c4 (flat encX g.ss.l) :: cb b1 34 (encP oF 1 cF g) :: cb b2 25 (encGs gr0s) :: []) w) ∨ (i = 1 ∧ ∃ oB cB oA oG cG, HS w0 noM (cb b4 25 [.slice oG 1 cG, .slice o1 g.ls.l.length c1, .slice o2 g.ts.l.length c2, .slice o3 g.xs.l.length c3, .slice o4 g.ss.l.length c4] :: own 44 2 oG 1 cG (encG ⟨0, ⟨oB, cB, [bl5 oA 1 5]⟩⟩) :: own 53 6 oB 1 cB (encBl (bl5 oA 1 5)) :: own 65 2 oA 1 1 (encAt ⟨2, 5⟩) :: own 9 1 o1 g.ls.l.length c1 (flat encX g.ls.l) :: own 9 1 o2 g.ts.l.length c2 (flat encX g.ts.l) :: own 9 1 o3 g.xs.l.length c3 (flat encX g.xs.l) :: own 9 1 o4 g.ss.l.length c4 (flat encX g.ss.l) :: cb b1 34 (encP oF 1 cF g) :: cb b2 25 (encGs gr0s) :: []) w)) ∧ Sl 44 [(27, .int .i64 i), (26, .int .i64 (1 : Nat)), (25, .slice oF 1 cF), (4, .pointer (some (bat b4 0))), (2, .pointer (some (bat b2 0))), (3, .int .i64 0)] a) (fun i => 1 - i)
    (fun a w => ∃ oB cB oA oG cG, HS w0 noM (cb b4 25 [.slice oG 1 cG, .slice o1 g.ls.l.length c1, .slice o2 g.ts.l.length c2, .slice o3 g.xs.l.length c3, .slice o4 g.ss.l.length c4] :: own 44 2 oG 1 cG (encG ⟨0, ⟨oB, cB, [bl5 oA 1 5]⟩⟩) :: own 53 6 oB 1 cB (encBl (bl5 oA 1 5)) :: own 65 2 oA 1 1 (encAt ⟨2, 5⟩) :: own 9 1 o1 g.ls.l.length c1 (flat encX g.ls.l) :: own 9 1 o2 g.ts.l.length c2 (flat encX g.ts.l) :: own 9 1 o3 g.xs.l.length c3 (flat encX g.xs.l) :: own 9 1 o4 g.ss.l.length c4 (flat encX g.ss.l) :: cb b1 34 (encP oF 1 cF g) :: cb b2 25 (encGs gr0s) :: []) w ∧ Sl 44 [(4, .pointer (some (bat b4 0))), (2, .pointer (some (bat b2 0))), (3, .int .i64 0)] a) 0 ⟨.inl ⟨rfl, hH⟩, (hA.sub SBT)⟩ ?_ ?_
  · clear hA hH
    rintro i a w ⟨⟨rfl, hH⟩ | ⟨rfl, oB, cB, oA, oG, cG, hH⟩, hA⟩
    rotate_left
    · repeat' (first | (refine QT ?_; clear hA a; intro a hA) | (refine CT ?_ <;> repeat' refine CT ?_) | fail)
      exact ⟨oB, cB, oA, oG, cG, hH, (hA.sub SBT)⟩
    repeat' (first | (refine XT ?_; apply XE; (first | (apply ex_indexAddr_nat; rfl; rfl; omega; exact hspF) | (apply ex_load_st (vs := encF o 0); rfl; rfl; exact cls_rd hF id (fun i v h => (by rw [Nat.zero_mul, Nat.zero_add]; exact h)))); clear hA a; intro a hA) | (refine QT ?_; clear hA a; intro a hA) | (refine BT ?_; clear hA hH; rintro _ w ⟨bN, rfl, hH⟩ a hA) | (apply st_op0 hA rfl rfl; apply op_store_agg (vs := encF o 0); rfl; rfl; exact hH; (repeat constructor); (repeat rfl); clear hH; rintro _ w hH) | (refine CT ?_ <;> repeat' refine CT ?_) | fail)
    obtain ⟨b6, hb6⟩ : ∃ x, x = bN := ⟨_, rfl⟩
    rw [← hb6] at hA hH
    clear hb6 bN
    have hST : HS w0 noM [cb b6 72 (encF o 0), cb b4 25 [.slice none 0 0, .slice o1 g.ls.l.length c1, .slice o2 g.ts.l.length c2, .slice o3 g.xs.l.length c3, .slice o4 g.ss.l.length c4]] w := HS.left (H1 := [_, _]) hH
    replace hH := hH.nil_own 44 2
    (refine wp_draw2_HS (H := [_, _]) [(0, 1), (1, 1), (2, 1), (3, 0), (4, 0), (5, 0), (6, 1)] [7] mixed (by decide +kernel) (hST) ?_; replace hH := hH.drew)
    clear hST
    repeat' (first | (refine XT ?_; apply XE; (first | (apply ex_load_st (vs := encF o 0); rfl; rfl; exact cls_cb_all MEMT)); clear hA a; intro a hA) | (refine QT ?_; clear hA a; intro a hA) | fail)
    (refine dr_op hA rfl rfl rfl (by decide) (op_call rfl rfl rfl (graph1_spec _ o 5 (hH.rd hr id))) ?_; clear hA; rintro _ w ⟨oB, cB, oA, rfl, hj⟩; replace hH := hH.join hj; clear hj; refine ⟨HS.left (H1 := [_, _]) hH.tail.tail.tail, ?_⟩; intro a hA)
    (apply dr_op hA rfl rfl rfl (by decide); apply op_sliceLit (xs := encG ⟨0, ⟨oB, cB, [bl5 oA 1 5]⟩⟩) (vs := [.agg (encG ⟨0, ⟨oB, cB, [bl5 oA 1 5]⟩⟩).toArray]); rfl; rfl; exact (Cats.cn (cs := encG ⟨0, ⟨oB, cB, [bl5 oA 1 5]⟩⟩) Cats.nil); rfl; rfl; rfl; exact hH; clear hA hH; rintro _ w ⟨oN, rfl, hH⟩; refine ⟨HS.left (H1 := [_, _]) hH.tail.tail.tail.tail, ?_⟩; intro a hA)
    (apply dr_op hA rfl rfl rfl (by decide); apply op_append; rfl; rfl; exact hH; exact MEMT; exact (hH.own_rd (List.Mem.head _)); exact rfl; rfl; decide; exact rfl; (unfold maxLen; omega); omega; clear hA; rintro _ w ⟨oN, cN, rfl, hH2⟩; clear hH; have hH := hH2 _ (by (repeat constructor)); clear hH2; refine ⟨HS.left (H1 := [_, _]) hH.tail.tail.tail.tail, ?_⟩; intro a hA)
    repeat' (first | (refine QT ?_; clear hA a; intro a hA) | (apply dr_op03 hA rfl rfl rfl; apply op_store_fld (cs' := [.slice oN (0 + 1) cN, .slice o1 g.ls.l.length c1, .slice o2 g.ts.l.length c2, .slice o3 g.xs.l.length c3, .slice o4 g.ss.l.length c4]); rfl; rfl; rfl; exact hH; (repeat constructor); clear hH; rintro _ w hH) | (refine CT ?_ <;> repeat' refine CT ?_) | fail)
    exact ⟨1, ⟨.inr ⟨rfl, oB, cB, oA, oN, cN, ((hH.rm 0).rm 3).perm PMT⟩, (hA.sub SBT)⟩, by omega⟩
  clear hA hH
  rintro a w ⟨oB, cB, oA, oG, cG, hH, hA⟩
  obtain ⟨h, hh⟩ : ∃ h, h = h5 oB oA oG o1 o2 o3 o4 cB cG c1 c2 c3 c4 g := ⟨_, rfl⟩
  have hRh : RdGs w h := by rw [hh]; exact h5_rd (hH.perm (H' := own 44 2 oG 1 cG (encG ⟨0, ⟨oB, cB, [bl5 oA 1 5]⟩⟩) :: own 53 6 oB 1 cB (encBl (bl5 oA 1 5)) :: own 65 2 oA 1 1 (encAt ⟨2, 5⟩) :: own 9 1 o1 g.ls.l.length c1 (flat encX g.ls.l) :: own 9 1 o2 g.ts.l.length c2 (flat encX g.ts.l) :: own 9 1 o3 g.xs.l.length c3 (flat encX g.xs.l) :: own 9 1 o4 g.ss.l.length c4 (flat encX g.ss.l) :: cb b4 25 [.slice oG 1 cG, .slice o1 g.ls.l.length c1, .slice o2 g.ts.l.length c2, .slice o3 g.xs.l.length c3, .slice o4 g.ss.l.length c4] :: cb b1 34 (encP oF 1 cF g) :: cb b2 25 (encGs gr0s) :: []) PMT)
  have hfacts : h.fs = ⟨oG, cG, [⟨0, ⟨oB, cB, [bl5 oA 1 5]⟩⟩]⟩ ∧ h.xs.l = xs4 ∧ h.ls.l = [] ∧ h.ts.l = [] ∧ h.ss.l = [] := by rw [hh]; exact ⟨rfl, hx, hl, ht, hs⟩
  have hmay : MayP h := may5 (n := 5) (of := none) (oc := 0) (by decide) (by rw [hfacts.1]) hfacts.2.1 hfacts.2.2.1 hfacts.2.2.2.1 hfacts.2.2.2.2
  have hGh : encGs h = [.slice oG 1 cG, .slice o1 g.ls.l.length c1, .slice o2 g.ts.l.length c2, .slice o3 g.xs.l.length c3, .slice o4 g.ss.l.length c4] := by rw [hh]; rfl
  rw [← hGh] at hH
  repeat' (first | (refine XT ?_; apply XE; (first | (apply ex_load_st (vs := encGs h); rfl; rfl; exact cls_cb_all MEMT)); clear hA a; intro a hA) | (refine QT ?_; clear hA a; intro a hA) | (refine CT ?_ <;> repeat' refine CT ?_) | fail)
  (refine st_op hA rfl rfl (by decide) (op_call rfl rfl rfl (May_spec _ h hRh (by rw [hfacts.1]; exact (by decide : 1 ≤ 100000)) (by
    rw [hfacts.1]
    intro f hf
    obtain rfl := List.mem_singleton.1 hf
    refine ⟨by show 1 ≤ _; decide, fun bl hb => ?_⟩
    obtain rfl := List.mem_singleton.1 hb
    show 0 ≤ _; decide))) ?_; clear hA; rintro _ w ⟨b, rfl, hk, hb⟩ a hA; replace hH := hH.keep hk; replace hRh := hRh.keep hk; clear hk)
  obtain rfl : b = true := hb.2 hmay
  repeat' (first | (refine XT ?_; apply XE; (first | (apply ex_load_st (vs := encGs h); rfl; rfl; exact cls_cb_all MEMT)); clear hA a; intro a hA) | (refine QT ?_; clear hA a; intro a hA) | (apply st_op0 hA rfl rfl; apply op_store_agg (vs := encGs h); rfl; rfl; exact hH; (repeat constructor); (repeat rfl); clear hH; rintro _ w hH) | (refine CT ?_ <;> repeat' refine CT ?_) | fail)
  refine rt2c (vs := encGs h) (.inl rfl) rfl hA rfl rfl rfl hH (cls_cb_all (by exact MEMT)) ⟨oB, oA, oG, o1, o2, o3, o4, cB, cG, c1, c2, c3, c4, by rw [hh], ?_⟩
  exact ((((hH.perm (H' := own 44 2 oG 1 cG (encG ⟨0, ⟨oB, cB, [bl5 oA 1 5]⟩⟩) :: own 53 6 oB 1 cB (encBl (bl5 oA 1 5)) :: own 65 2 oA 1 1 (encAt ⟨2, 5⟩) :: own 9 1 o1 g.ls.l.length c1 (flat encX g.ls.l) :: own 9 1 o2 g.ts.l.length c2 (flat encX g.ts.l) :: own 9 1 o3 g.xs.l.length c3 (flat encX g.xs.l) :: own 9 1 o4 g.ss.l.length c4 (flat encX g.ss.l) :: cb b4 25 (encGs h) :: cb b1 34 (encP oF 1 cF g) :: cb b2 25 (encGs h) :: []) PMT).rm 7).rm 7).rm 7)
end Go.Proofs.YtenlcdokaadobaaGreatDoor
namespace Go.Proofs.YtenlcdokaadobaaGreatDoor
open Go Go.Fw
set_option linter.unusedVariables false
theorem bl_en {l : List Blc} {b : Nat} {bl : Blc} (h : l[b]? = some bl) (i : Nat) (v : Value) (hv : (encEn bl.e)[i]? = some v) : (flat encBl l)[b * 6 + 2 + i]? = some v := by
  rw [Nat.add_assoc]
  refine flat_get (off := 2 + i) encBl_len h ?_
  match i, hv with
  | 0, hv => exact hv
  | 1, hv => exact hv
  | 2, hv => exact hv
  | 3, hv => exact hv
theorem form_ns {g : Grs} {cs : List Int} {mine : Int} {r : Stp} (h : FormP g cs mine r) : r.ns.l.length ≤ r.a.l.length := by
  rcases h.ns with h1 | h1
  · rw [h1]; exact Nat.zero_le _
  · have := h.want
    unfold wantF at this
    rw [h1] at this
    simp at this
    omega
theorem step_ins {g : Grs} {kd : Int} {m : Mc} (h : m.fm.i < (curB g m.fm).is.l.length) : stepF g kd m = insF g m.fm (insAt g m.fm) m.wd m.sk := by unfold stepF; rw [if_pos h]
theorem step_last {g : Grs} {kd : Int} {m : Mc} (h : ¬ m.fm.i < (curB g m.fm).is.l.length) : stepF g kd m = lastF g kd m.fm (curB g m.fm).e m.wd m.sk := by unfold stepF; rw [if_neg h]
def cx0 (w0 : World) (n p : Nat) : Cx := ⟨fun w => RdB w p [.int .i64 0, .slice none 0 0] ∧ Kp w0 noM w, [], 65536, n⟩
theorem cx0_fn (w0 : World) (n p : Nat) (h : 0 < n) : FnR (cx0 w0 n p) 0 [] p := by
  refine ⟨none, 0, [], ⟨by decide, by show (0 : Int) < _; exact Int.natCast_pos.2 h⟩, fun w hw => hw.1, fun w hw => ⟨fun h => absurd h (Nat.lt_irrefl _), fun i v hv => by cases hv⟩, ?_⟩
  rw [RVs]
def zM : Value := Value.agg #[Value.slice none 0 0, Value.slice none 0 0, Value.int IntKind.i64 0, Value.string ByteArray.empty,
            Value.slice none 0 0, Value.slice none 0 0, Value.slice none 0 0, Value.slice none 0 0,
            Value.slice none 0 0, Value.slice none 0 0, Value.int IntKind.i64 0, Value.slice none 0 0,
            Value.pointer none, Value.map none, Value.pointer none, Value.int IntKind.i64 0, Value.pointer none,
            Value.pointer none]
theorem fill_M (g : Grs) (kd : Int) (s : ByteArray) (fuel : Int) :
    Instr.fill (fun x => ([(0, 5), (5, 5), (10, 1), (11, 1), (12, 5), (17, 1)] : List (Nat × Nat))[x]?) zM.cells [(0, .agg (encW g kd s none 0 0).toArray), (1, .agg (encGs g).toArray), (2, .int .i64 fuel)] = some (encW g kd s none 0 0 ++ enc0 g fuel).toArray := by
  simp [Instr.fill, zM, encW, encGs, enc0, Value.cells]
set_option maxRecDepth 10000 attribute [local irreducible] Code.wp wpList Calls Ex Op1 sat bat blk cb own Go.Fw.mp Go.Fw.mpO Go.Fw.mpI Go.Fw.mpE Go.Fw.itr HS Rd Ret wkD Hp Cl Cls Exit.then Exit.inBlock Exit.noGoto bodyPost Go.Fw.flat wk2 Go.Fw.all Go.Fw.owns wpOp
attribute [local irreducible] sk mpK sko mvO entK opM Go.Fw.mset Go.Fw.mv opK w63 frz obI RV idxF quoteF itoaB textF

set_option maxHeartbeats 32000000 in
theorem Run_spec (w0 : World) (g : Grs) (kd : Int) (s : ByteArray) (fuel : Int) (hR : RdGs w0 g) (hl : g.fs.l.length ≤ 100000) (hbs : ∀ f ∈ g.fs.l, f.bs.l.length ≤ 1048576 ∧ ∀ bl ∈ f.bs.l, bl.e.to.l.length ≤ 1048576) (hxs : ∀ s ∈ g.xs.l, s.size ≤ 4611686018427387904) (hfu : fuel ≤ 3000) (hFI : FI w0) :
    Ret Tryz.prog 12 #[.agg (encGs g).toArray, .int .i64 kd, .string s, .int .i64 fuel] w0 (fun v w => v = .agg (encP3 (runP g kd s fuel)).toArray ∧ Kp w0 noM w) := by
  have hH : HS w0 noM [] w0 := HS.init w0 noM
  (refine enter (N := 119) Tryz.func12 rfl Tryz.ntmps12 rfl ?_; intro a hA; dsimp only [sl0, Nat.reduceAdd] at hA)
  repeat' (first | (first | (refine GT ?_ ?_ <;> intro hg <;> clear hA a <;> intro a hA <;> (first | exact FA | replace hg := of_decide_eq_true hg | replace hg := of_decide_eq_false hg | skip)) | (refine XT ?_; apply XE; (first | (apply ex_load_st (vs := encGs g); rfl; rfl; exact cls_cb_all MEMT)); clear hA a; intro a hA) | (refine QT ?_; clear hA a; intro a hA) | (first | (refine BT ?_; clear hA hH; rintro _ w ⟨bN, rfl, hH⟩ a hA) | (refine LT ?_; clear hA hH; rintro _ w ⟨oN, rfl, hH⟩ a hA) | (refine AT ?_; clear hA; rintro _ w ⟨oN, cN, rfl, hH2⟩ a hA; clear hH; have hH := (hH2 _ (by (repeat constructor))).tail; clear hH2) | (refine S0T ?_; clear hH; rintro _ w hH) )) | ((first | refine CT ?_ | (refine DT ?_ ?_ <;> intro hc <;> try (exfalso; omega))) <;> repeat' refine CT ?_) | (first | (refine DSK ?_; clear hA a; intro a hA) | (first | (refine DLT ?_; clear hA hH; rintro _ w ⟨oN, rfl, hH⟩; refine ⟨STT, ?_⟩; intro a hA) | (refine DAT ?_; clear hA; rintro _ w ⟨oN, cN, rfl, hH2⟩; clear hH; have hH := (hH2 _ (by (repeat constructor))).tail; clear hH2; refine ⟨STT, ?_⟩; intro a hA))) )
  have key : ∃ b4 b8, HS w0 noM [cb b8 29 (encO3 0 empS empS), cb b4 25 (encGs g)] w ∧ Sl 119 [(10, .agg (encGs g).toArray), (8, .pointer (some (bat b8 0))), (4, .pointer (some (bat b4 0))), (1, .int .i64 kd), (2, .string s), (3, .int .i64 fuel)] a := ⟨_, _, hH, (hA.sub SBT)⟩
  clear hA hH
  obtain ⟨b4, b8, hH, hA⟩ := key
  (refine st_op hA rfl rfl (by decide) (op_call rfl rfl rfl (May_spec _ g (hR.keep hH.kp) hl hbs)) ?_; clear hA; rintro _ w ⟨may, rfl, hk, hmay⟩ a hA; replace hH := hH.keep hk; clear hk)
  cases may with
  | false =>
    have hno : ¬ MayP g := fun h => by cases hmay.2 h
    repeat' (first | (first | (refine GT ?_ ?_ <;> intro hg <;> clear hA a <;> intro a hA <;> (first | exact FA | replace hg := of_decide_eq_true hg | replace hg := of_decide_eq_false hg | skip)) | (refine XT ?_; apply XE; (first | (apply ex_build_p (cs := (encO3 4 empS empS).toArray); rfl; exact FLT; rfl)); clear hA a; intro a hA) | (refine QT ?_; clear hA a; intro a hA) | (first | (refine BT ?_; clear hA hH; rintro _ w ⟨bN, rfl, hH⟩ a hA) | (refine LT ?_; clear hA hH; rintro _ w ⟨oN, rfl, hH⟩ a hA) | (refine AT ?_; clear hA; rintro _ w ⟨oN, cN, rfl, hH2⟩ a hA; clear hH; have hH := (hH2 _ (by (repeat constructor))).tail; clear hH2) | (refine S0T ?_; clear hH; rintro _ w hH) | (apply st_op0 hA rfl rfl; apply op_store_agg (vs := encO3 4 empS empS); rfl; rfl; exact hH; (repeat constructor); (repeat rfl); clear hH; rintro _ w hH))) | ((first | refine CT ?_ | (refine DT ?_ ?_ <;> intro hc <;> try (exfalso; omega))) <;> repeat' refine CT ?_) | (first | (refine DSK ?_; clear hA a; intro a hA) | (first | (refine DLT ?_; clear hA hH; rintro _ w ⟨oN, rfl, hH⟩; refine ⟨STT, ?_⟩; intro a hA) | (refine DAT ?_; clear hA; rintro _ w ⟨oN, cN, rfl, hH2⟩; clear hH; have hH := (hH2 _ (by (repeat constructor))).tail; clear hH2; refine ⟨STT, ?_⟩; intro a hA))) )
    exact rt1c (vs := encO3 4 empS empS) (.inl rfl) rfl hA rfl rfl hH (cls_cb_all (by exact MEMT)) ⟨by rw [runP_f hno]; rfl, hH.kp⟩
  | true =>
  have hM := hmay.1 rfl
  repeat' (first | (first | (refine GT ?_ ?_ <;> intro hg <;> clear hA a <;> intro a hA <;> (first | exact FA | replace hg := of_decide_eq_true hg | replace hg := of_decide_eq_false hg | skip)) | (refine XT ?_; apply XE; (first | (apply ex_load_st (vs := encGs g); rfl; rfl; exact cls_cb_all MEMT) | (apply ex_build_p (cs := (encW g kd s none 0 0).toArray); rfl; exact FLT; rfl)); clear hA a; intro a hA) | (refine QT ?_; clear hA a; intro a hA) | (first | (refine BT ?_; clear hA hH; rintro _ w ⟨bN, rfl, hH⟩ a hA) | (refine LT ?_; clear hA hH; rintro _ w ⟨oN, rfl, hH⟩ a hA) | (refine AT ?_; clear hA; rintro _ w ⟨oN, cN, rfl, hH2⟩ a hA; clear hH; have hH := (hH2 _ (by (repeat constructor))).tail; clear hH2) | (refine S0T ?_; clear hH; rintro _ w hH) )) | ((first | refine CT ?_ | (refine DT ?_ ?_ <;> intro hc <;> try (exfalso; omega))) <;> repeat' refine CT ?_) | (first | (refine DSK ?_; clear hA a; intro a hA) | (first | (refine DLT ?_; clear hA hH; rintro _ w ⟨oN, rfl, hH⟩; refine ⟨STT, ?_⟩; intro a hA) | (refine DAT ?_; clear hA; rintro _ w ⟨oN, cN, rfl, hH2⟩; clear hH; have hH := (hH2 _ (by (repeat constructor))).tail; clear hH2; refine ⟨STT, ?_⟩; intro a hA))) )
  refine st_ex hA hH rfl rfl (by decide) (ex_build (szs := [(0, 5), (5, 5), (10, 1), (11, 1), (12, 5), (17, 1)]) (cs := (encW g kd s none 0 0 ++ enc0 g fuel).toArray) (run_szl (by (repeat (first | exact SzL.nil | refine SzL.cons ⟨_, rfl, by decide⟩ ?_)))) rfl ?_) ?_
  · exact fill_M g kd s fuel
  clear hA a
  intro a hA
  repeat' (first | (first | (refine GT ?_ ?_ <;> intro hg <;> clear hA a <;> intro a hA <;> (first | exact FA | replace hg := of_decide_eq_true hg | replace hg := of_decide_eq_false hg | skip)) | (refine QT ?_; clear hA a; intro a hA) | (first | (refine BT ?_; clear hA hH; rintro _ w ⟨bN, rfl, hH⟩ a hA) | (refine LT ?_; clear hA hH; rintro _ w ⟨oN, rfl, hH⟩ a hA) | (refine AT ?_; clear hA; rintro _ w ⟨oN, cN, rfl, hH2⟩ a hA; clear hH; have hH := (hH2 _ (by (repeat constructor))).tail; clear hH2) | (refine S0T ?_; clear hH; rintro _ w hH) )) | ((first | refine CT ?_ | (refine DT ?_ ?_ <;> intro hc <;> try (exfalso; omega))) <;> repeat' refine CT ?_) | (first | (refine DSK ?_; clear hA a; intro a hA) | (first | (refine DLT ?_; clear hA hH; rintro _ w ⟨oN, rfl, hH⟩; refine ⟨STT, ?_⟩; intro a hA) | (refine DAT ?_; clear hA; rintro _ w ⟨oN, cN, rfl, hH2⟩; clear hH; have hH := (hH2 _ (by (repeat constructor))).tail; clear hH2; refine ⟨STT, ?_⟩; intro a hA))) )
  obtain ⟨bM, hb3⟩ : ∃ x, x = bN := ⟨_, rfl⟩; rw [← hb3] at hA hH; clear hb3 bN
  repeat' (first | (first | (refine GT ?_ ?_ <;> intro hg <;> clear hA a <;> intro a hA <;> (first | exact FA | replace hg := of_decide_eq_true hg | replace hg := of_decide_eq_false hg | skip)) | (refine XT ?_; apply XE; (first | (apply ex_build_p (cs := #[.int .i64 0, .slice none 0 0]); rfl; exact FLT; rfl) | (apply ex_iface; rfl)); clear hA a; intro a hA) | (refine QT ?_; clear hA a; intro a hA) | (first | (refine BT ?_; clear hA hH; rintro _ w ⟨bN, rfl, hH⟩ a hA) | (refine LT ?_; clear hA hH; rintro _ w ⟨oN, rfl, hH⟩ a hA) | (refine AT ?_; clear hA; rintro _ w ⟨oN, cN, rfl, hH2⟩ a hA; clear hH; have hH := (hH2 _ (by (repeat constructor))).tail; clear hH2) | (refine S0T ?_; clear hH; rintro _ w hH) )) | ((first | refine CT ?_ | (refine DT ?_ ?_ <;> intro hc <;> try (exfalso; omega))) <;> repeat' refine CT ?_) | (first | (refine DSK ?_; clear hA a; intro a hA) | (first | (refine DLT ?_; clear hA hH; rintro _ w ⟨oN, rfl, hH⟩; refine ⟨STT, ?_⟩; intro a hA) | (refine DAT ?_; clear hA; rintro _ w ⟨oN, cN, rfl, hH2⟩; clear hH; have hH := (hH2 _ (by (repeat constructor))).tail; clear hH2; refine ⟨STT, ?_⟩; intro a hA))) )
  obtain ⟨p, hb3⟩ : ∃ x, x = bN := ⟨_, rfl⟩; rw [← hb3] at hA hH; clear hb3 bN
  obtain ⟨c, hc⟩ : ∃ c, c = cx0 w0 g.fs.l.length p := ⟨_, rfl⟩
  have hfl : 0 < g.fs.l.length := by have := hM.anf.pos; rw [List.length_map] at this; exact this
  have hne := may_ne hM
  have hfn : FnR c 0 [] p := by rw [hc]; exact cx0_fn w0 _ p hfl
  have hnf : c.nf = g.fs.l.length := by rw [hc]; rfl
  have hH1 := ((hH.frz_nil (K := fun w => Kp w0 noM w) (fun w h => h)).perm (H' := cb p 90 [.int .i64 0, .slice none 0 0] :: frz w0 (fun w => Kp w0 noM w) :: cb bM 86 (encW g kd s none 0 0 ++ enc0 g fuel) :: cb b8 29 (encO3 0 empS empS) :: cb b4 25 (encGs g) :: []) PMT).frz_cb
  have hKe : c.K = fun w => RdB w p [.int .i64 0, .slice none 0 0] ∧ Kp w0 noM w := by rw [hc]; rfl
  rw [← hKe] at hH1
  clear hH
  have hH := hH1
  clear hH1
  (refine st_op hA rfl rfl (by decide) (op_call rfl rfl rfl (enter0_spec w0 w [cb b4 25 (encGs g), cb b8 29 (encO3 0 empS empS)] c bM p g kd s fuel (hH.perm PMT) hfn hR hnf hne)) ?_; clear hA hH; rintro _ w ⟨bv, mm, hmm, hH⟩ a hA)
  have hst : StR c [] (firstM s).wd.st := ⟨by rw [hc]; rfl, rfl, fun i e l h => by cases h⟩
  have hMS : MSt w0 c bM g kd fuel (cb b8 29 (encO3 0 empS empS) :: cb b4 25 (encGs g) :: []) (firstM s) w := by
    refine ⟨none, 0, none, 0, p, bv, mm, [], [], none, ?_, hfn, hmm, rfl, hst⟩
    exact ((((hH.nil_flat encY 5 1).nil_all).nil_flat encFm 83 5).nil_all).perm PMT
  have hok0 : RunOk w0 g kd fuel.toNat s c (firstM s) fuel := ⟨rfl, first_ok hne hfl, hnf, (fun w hw => by rw [hKe] at hw; exact hw.2), hfu, (by rw [hc]; exact Nat.le_refl _), (by rw [hc]; show 65536 + _ ≤ _; omega), (by show 0 + _ ≤ _; omega), (by show 0 + _ ≤ _; omega)⟩
  clear hst hmm hH hfn hc hKe hnf
  have hA2 : Sl 119 [(9, .pointer (some (bat bM 0))), (8, .pointer (some (bat b8 0)))] a := (hA.sub SBT)
  clear hA
  have hss := hR.2.2.2.2.2.le
  have hsz := hM.anf.ss
  obtain ⟨HX, hHX⟩ : ∃ HX : List It, HX = cb b8 29 (encO3 0 empS empS) :: cb b4 25 (encGs g) :: [] := ⟨_, rfl⟩
  rw [← hHX] at hMS
  replace hA := hA2
  clear hA2
  repeat' (first | (first | (refine GT ?_ ?_ <;> intro hg <;> clear hA a <;> intro a hA <;> (first | exact FA | replace hg := of_decide_eq_true hg | replace hg := of_decide_eq_false hg | skip)) | (refine QT ?_; clear hA a; intro a hA) | (first | (refine BT ?_; clear hA hH; rintro _ w ⟨bN, rfl, hH⟩ a hA) | (refine LT ?_; clear hA hH; rintro _ w ⟨oN, rfl, hH⟩ a hA) | (refine AT ?_; clear hA; rintro _ w ⟨oN, cN, rfl, hH2⟩ a hA; clear hH; have hH := (hH2 _ (by (repeat constructor))).tail; clear hH2) | (refine S0T ?_; clear hH; rintro _ w hH) )) | ((first | refine CT ?_ | (refine DT ?_ ?_ <;> intro hc <;> try (exfalso; omega))) <;> repeat' refine CT ?_) | (first | (refine DSK ?_; clear hA a; intro a hA) | (first | (refine DLT ?_; clear hA hH; rintro _ w ⟨oN, rfl, hH⟩; refine ⟨STT, ?_⟩; intro a hA) | (refine DAT ?_; clear hA; rintro _ w ⟨oN, cN, rfl, hH2⟩; clear hH; have hH := (hH2 _ (by (repeat constructor))).tail; clear hH2; refine ⟨STT, ?_⟩; intro a hA))) )
  refine wp_lpk (S := Nat) (fun i a w => (RunG w0 g kd fuel.toNat s bM HX i w ∨ (i = 0 ∧ RunE w0 g kd fuel.toNat s bM HX w)) ∧ Sl 119 [(9, .pointer (some (bat bM 0))), (8, .pointer (some (bat b8 0)))] a) (fun i => i)
    (fun a w => RunE w0 g kd fuel.toNat s bM HX w ∧ Sl 119 [(9, .pointer (some (bat bM 0))), (8, .pointer (some (bat b8 0)))] a) (fuel.toNat + 1) ⟨.inl ⟨c, firstM s, fuel, ⟨rfl, hok0⟩, hMS⟩, (hA.sub SBT)⟩ ?_ ?_
  · clear hA hMS hok0
    rintro i a w ⟨hS, hA⟩
    rcases hS with ⟨c, m, fu, ⟨hi, hok⟩, oO, cO, oS, cS, pc, bv, mm, fms, sx, ph, hH, hpc, hmm, hfs, hst⟩ | ⟨hi, hE⟩
    rotate_left
    · obtain ⟨k, r, wd, fu, hr, oO, cO, oS, nS, cS, pc, bv, pb, pi, ph, b, hH⟩ := hE
      repeat' (first | (first | (refine GT ?_ ?_ <;> intro hg <;> clear hA a <;> intro a hA <;> (first | exact FA | replace hg := of_decide_eq_true hg | replace hg := of_decide_eq_false hg | skip)) | (refine QT ?_; clear hA a; intro a hA) | (first | (refine BT ?_; clear hA hH; rintro _ w ⟨bN, rfl, hH⟩ a hA) | (refine LT ?_; clear hA hH; rintro _ w ⟨oN, rfl, hH⟩ a hA) | (refine AT ?_; clear hA; rintro _ w ⟨oN, cN, rfl, hH2⟩ a hA; clear hH; have hH := (hH2 _ (by (repeat constructor))).tail; clear hH2) | (refine S0T ?_; clear hH; rintro _ w hH) )) | ((first | refine CT ?_ | (refine DT ?_ ?_ <;> intro hc <;> try (exfalso; omega))) <;> repeat' refine CT ?_) | (first | (refine DSK ?_; clear hA a; intro a hA) | (first | (refine DLT ?_; clear hA hH; rintro _ w ⟨oN, rfl, hH⟩; refine ⟨STT, ?_⟩; intro a hA) | (refine DAT ?_; clear hA; rintro _ w ⟨oN, cN, rfl, hH2⟩; clear hH; have hH := (hH2 _ (by (repeat constructor))).tail; clear hH2; refine ⟨STT, ?_⟩; intro a hA))) )
      exact ⟨⟨k, r, wd, fu, hr, oO, cO, oS, nS, cS, pc, bv, pb, pi, ph, b, hH⟩, (hA.sub SBT)⟩
    by_cases h0 : fu ≤ 0
    · repeat' (first | (first | (refine GT ?_ ?_ <;> intro hg <;> clear hA a <;> intro a hA <;> (first | exact FA | replace hg := of_decide_eq_true hg | replace hg := of_decide_eq_false hg | skip)) | (refine QT ?_; clear hA a; intro a hA) | (first | (refine BT ?_; clear hA hH; rintro _ w ⟨bN, rfl, hH⟩ a hA) | (refine LT ?_; clear hA hH; rintro _ w ⟨oN, rfl, hH⟩ a hA) | (refine AT ?_; clear hA; rintro _ w ⟨oN, cN, rfl, hH2⟩ a hA; clear hH; have hH := (hH2 _ (by (repeat constructor))).tail; clear hH2) | (refine S0T ?_; clear hH; rintro _ w hH) )) | ((first | refine CT ?_ | (refine DT ?_ ?_ <;> intro hc <;> try (exfalso; omega))) <;> repeat' refine CT ?_) | (first | (refine DSK ?_; clear hA a; intro a hA) | (first | (refine DLT ?_; clear hA hH; rintro _ w ⟨oN, rfl, hH⟩; refine ⟨STT, ?_⟩; intro a hA) | (refine DAT ?_; clear hA; rintro _ w ⟨oN, cN, rfl, hH2⟩; clear hH; have hH := (hH2 _ (by (repeat constructor))).tail; clear hH2; refine ⟨STT, ?_⟩; intro a hA))) )
      (refine st_op hA rfl rfl (by decide) (op_call rfl rfl rfl (stopS hH hpc hmm hfs hst 2 empS)) ?_; clear hA hH; rintro _ w hS a hA)
      repeat' (first | (first | (refine GT ?_ ?_ <;> intro hg <;> clear hA a <;> intro a hA <;> (first | exact FA | replace hg := of_decide_eq_true hg | replace hg := of_decide_eq_false hg | skip)) | (refine QT ?_; clear hA a; intro a hA) | (first | (refine BT ?_; clear hA hH; rintro _ w ⟨bN, rfl, hH⟩ a hA) | (refine LT ?_; clear hA hH; rintro _ w ⟨oN, rfl, hH⟩ a hA) | (refine AT ?_; clear hA; rintro _ w ⟨oN, cN, rfl, hH2⟩ a hA; clear hH; have hH := (hH2 _ (by (repeat constructor))).tail; clear hH2) | (refine S0T ?_; clear hH; rintro _ w hH) )) | ((first | refine CT ?_ | (refine DT ?_ ?_ <;> intro hc <;> try (exfalso; omega))) <;> repeat' refine CT ?_) | (first | (refine DSK ?_; clear hA a; intro a hA) | (first | (refine DLT ?_; clear hA hH; rintro _ w ⟨oN, rfl, hH⟩; refine ⟨STT, ?_⟩; intro a hA) | (refine DAT ?_; clear hA; rintro _ w ⟨oN, cN, rfl, hH2⟩; clear hH; have hH := (hH2 _ (by (repeat constructor))).tail; clear hH2; refine ⟨STT, ?_⟩; intro a hA))) )
      refine ⟨0, ⟨.inr ⟨rfl, 2, empS, m.wd, fu, ?_, hS⟩, (hA.sub SBT)⟩, by omega⟩
      rw [hok.run, show fu.toNat = 0 by omega]; rfl
    have hle := hR.1.le
    have hcu := cur_ok hM hok.mc.fm
    have hgR := hR.2.1 _ hcu.gr
    have hbl := hcu.bl
    have hbm := List.mem_of_getElem? hbl
    have hbR := hgR.2 _ hbm
    have hvI := bl_is hbl
    have hsizes := blk_sizes (hcu.size hM.size)
    have hspI : Sp (curB g m.fm).is.o (curB g m.fm).is.l.length := hbR.2.1.1.sp (sz := 5) (flat_length encIn_len _) (by omega)
    have htop := hok.top
    have hb1 := hok.b1
    have hb0 := hok.b0
    have hsk := hok.sk
    have hout := hok.out
    have hwr : IntKind.i64.wrap (fu - 1) = fu - 1 := wrap_i64 (by unfold i64ok; omega)
    have hnext := fun w h => run_next (bM := bM) (H := HX) (w := w) hss hM hok (by omega) h
    have hblk : blkA g m.fm.c.1 m.fm.b = some (sat (g.fs.l.getD m.fm.c.1.toNat gr0).bs.o (m.fm.b * 6)) := rfl
    rw [hblk] at hH
    by_cases hlt : m.fm.i < (curB g m.fm).is.l.length
    · have hx : (curB g m.fm).is.l[m.fm.i]? = some (insAt g m.fm) := by unfold insAt; rw [List.getD_eq_getElem?_getD, List.getElem?_eq_getElem hlt]; rfl
      have hxm := List.mem_of_getElem? hx
      obtain ⟨hF, hat⟩ := hcu.blk.ins _ _ hx
      repeat' (first | (first | (refine GT ?_ ?_ <;> intro hg <;> clear hA a <;> intro a hA <;> (first | exact FA | replace hg := of_decide_eq_true hg | replace hg := of_decide_eq_false hg | skip)) | (refine QT ?_; clear hA a; intro a hA) | (first | (refine BT ?_; clear hA hH; rintro _ w ⟨bN, rfl, hH⟩ a hA) | (refine LT ?_; clear hA hH; rintro _ w ⟨oN, rfl, hH⟩ a hA) | (refine AT ?_; clear hA; rintro _ w ⟨oN, cN, rfl, hH2⟩ a hA; clear hH; have hH := (hH2 _ (by (repeat constructor))).tail; clear hH2) | (refine S0T ?_; clear hH; rintro _ w hH) )) | ((first | refine CT ?_ | (refine DT ?_ ?_ <;> intro hc <;> try (exfalso; omega))) <;> repeat' refine CT ?_) | (first | (refine DSK ?_; clear hA a; intro a hA) | (first | (refine DLT ?_; clear hA hH; rintro _ w ⟨oN, rfl, hH⟩; refine ⟨STT, ?_⟩; intro a hA) | (refine DAT ?_; clear hA; rintro _ w ⟨oN, cN, rfl, hH2⟩; clear hH; have hH := (hH2 _ (by (repeat constructor))).tail; clear hH2; refine ⟨STT, ?_⟩; intro a hA))) )
      (refine wp_draw_HS [(0, 1), (1, 1), (2, 1), (3, 1), (4, 1), (5, 1), (6, 1), (7, 1), (8, 1), (9, 1), (10, 1), (11, 1), (12, 1), (13, 1), (14, 1), (15, 1)] mixed (by decide +kernel) hH ?_; replace hH := hH.drew)
      repeat' (first | (first | (refine GT ?_ ?_ <;> intro hg <;> clear hA a <;> intro a hA <;> (first | exact FA | replace hg := of_decide_eq_true hg | replace hg := of_decide_eq_false hg | skip)) | (refine XT ?_; apply XE; (first | (apply ex_load; rfl; exact cl_rd hgR.1.1 id hvI)); clear hA a; intro a hA) | (refine QT ?_; clear hA a; intro a hA) | (first | (refine BT ?_; clear hA hH; rintro _ w ⟨bN, rfl, hH⟩ a hA) | (refine LT ?_; clear hA hH; rintro _ w ⟨oN, rfl, hH⟩ a hA) | (refine AT ?_; clear hA; rintro _ w ⟨oN, cN, rfl, hH2⟩ a hA; clear hH; have hH := (hH2 _ (by (repeat constructor))).tail; clear hH2) | (refine S0T ?_; clear hH; rintro _ w hH) | (apply st_op0 hA rfl rfl; apply op_store_fld (cs' := encW g kd m.wd.inp oO m.wd.out.length cO ++ encR g (fu - 1) oS fms.length cS pc bv (some (sat (g.fs.l.getD m.fm.c.1.toNat gr0).bs.o (m.fm.b * 6))) m.fm.i ph none); rfl; rfl; rfl; exact hH; (repeat constructor); clear hH; rintro _ w hH))) | ((first | refine CT ?_ | (refine DT ?_ ?_ <;> intro hc <;> try (exfalso; omega))) <;> repeat' refine CT ?_) | (first | (refine DSK ?_; clear hA a; intro a hA) | (first | (refine DLT ?_; clear hA hH; rintro _ w ⟨oN, rfl, hH⟩; refine ⟨STT, ?_⟩; intro a hA) | (refine DAT ?_; clear hA; rintro _ w ⟨oN, cN, rfl, hH2⟩; clear hH; have hH := (hH2 _ (by (repeat constructor))).tail; clear hH2; refine ⟨STT, ?_⟩; intro a hA))) )
      rw [← hblk] at hH
      (refine wp_draw3_HS 10 [(0, 1), (1, 1), (2, 1), (3, 1), (4, 1), (5, 1), (6, 1), (7, 1), (8, 1), (9, 1), (10, 1), (11, 1), (12, 1), (13, 1), (14, 1), (15, 1)] [16] mixed (by decide +kernel) hH ?_; replace hH := hH.drew)
      rw [hblk] at hH
      repeat' (first | (first | (refine GT ?_ ?_ <;> intro hg <;> clear hA a <;> intro a hA <;> (first | exact FA | replace hg := of_decide_eq_true hg | replace hg := of_decide_eq_false hg | skip)) | (refine XT ?_; apply XE; (first | (apply ex_load; rfl; exact cl_rd hgR.1.1 id hvI) | (apply ex_indexAddr_nat; rfl; rfl; omega; exact hspI) | (apply ex_load_st (vs := encIn (insAt g m.fm)); rfl; rfl; exact cls_rd hbR.2.1.1 id (flat_all encIn_len hx))); clear hA a; intro a hA) | (refine QT ?_; clear hA a; intro a hA) | (first | (refine BT ?_; clear hA hH; rintro _ w ⟨bN, rfl, hH⟩ a hA) | (refine LT ?_; clear hA hH; rintro _ w ⟨oN, rfl, hH⟩ a hA) | (refine AT ?_; clear hA; rintro _ w ⟨oN, cN, rfl, hH2⟩ a hA; clear hH; have hH := (hH2 _ (by (repeat constructor))).tail; clear hH2) | (refine S0T ?_; clear hH; rintro _ w hH) )) | ((first | refine CT ?_ | (refine DT ?_ ?_ <;> intro hc <;> try (exfalso; omega))) <;> repeat' refine CT ?_) | (first | (refine DSK ?_; clear hA a; intro a hA) | (first | (refine DLT ?_; clear hA hH; rintro _ w ⟨oN, rfl, hH⟩; refine ⟨STT, ?_⟩; intro a hA) | (refine DAT ?_; clear hA; rintro _ w ⟨oN, cN, rfl, hH2⟩; clear hH; have hH := (hH2 _ (by (repeat constructor))).tail; clear hH2; refine ⟨STT, ?_⟩; intro a hA))) )
      rw [← hblk] at hH
      (refine dr_op3 hA rfl rfl rfl (by decide) (op_call rfl rfl rfl (ins_spec hH hpc hmm hfs hst (insAt g m.fm) hR hok.nf hne hsz hxs (by omega) hok.K (g.fs.l.getD m.fm.c.1.toNat gr0).caps hF (fun a ha => atS_W hss (hat a ha)) (hbR.2.2.1 _ hxm) (by have := hsizes.2.2.1 _ hxm; omega) (by have := form_ns hF; have := hsizes.2.2.1 _ hxm; omega) (by omega) (by omega) (by omega))) ?_; clear hA hH; rintro _ w hS a hA)
      rw [← step_ins hlt] at hS
      repeat' (first | (first | (refine GT ?_ ?_ <;> intro hg <;> clear hA a <;> intro a hA <;> (first | exact FA | replace hg := of_decide_eq_true hg | replace hg := of_decide_eq_false hg | skip)) | (refine QT ?_; clear hA a; intro a hA) | (first | (refine BT ?_; clear hA hH; rintro _ w ⟨bN, rfl, hH⟩ a hA) | (refine LT ?_; clear hA hH; rintro _ w ⟨oN, rfl, hH⟩ a hA) | (refine AT ?_; clear hA; rintro _ w ⟨oN, cN, rfl, hH2⟩ a hA; clear hH; have hH := (hH2 _ (by (repeat constructor))).tail; clear hH2) | (refine S0T ?_; clear hH; rintro _ w hH) )) | ((first | refine CT ?_ | (refine DT ?_ ?_ <;> intro hc <;> try (exfalso; omega))) <;> repeat' refine CT ?_) | (first | (refine DSK ?_; clear hA a; intro a hA) | (first | (refine DLT ?_; clear hA hH; rintro _ w ⟨oN, rfl, hH⟩; refine ⟨STT, ?_⟩; intro a hA) | (refine DAT ?_; clear hA; rintro _ w ⟨oN, cN, rfl, hH2⟩; clear hH; have hH := (hH2 _ (by (repeat constructor))).tail; clear hH2; refine ⟨STT, ?_⟩; intro a hA))) )
      rcases hnext _ hS with h | h
      · exact ⟨fu.toNat, ⟨.inl h, (hA.sub SBT)⟩, by omega⟩
      · exact ⟨0, ⟨.inr ⟨rfl, h⟩, (hA.sub SBT)⟩, by omega⟩
    · repeat' (first | (first | (refine GT ?_ ?_ <;> intro hg <;> clear hA a <;> intro a hA <;> (first | exact FA | replace hg := of_decide_eq_true hg | replace hg := of_decide_eq_false hg | skip)) | (refine QT ?_; clear hA a; intro a hA) | (first | (refine BT ?_; clear hA hH; rintro _ w ⟨bN, rfl, hH⟩ a hA) | (refine LT ?_; clear hA hH; rintro _ w ⟨oN, rfl, hH⟩ a hA) | (refine AT ?_; clear hA; rintro _ w ⟨oN, cN, rfl, hH2⟩ a hA; clear hH; have hH := (hH2 _ (by (repeat constructor))).tail; clear hH2) | (refine S0T ?_; clear hH; rintro _ w hH) )) | ((first | refine CT ?_ | (refine DT ?_ ?_ <;> intro hc <;> try (exfalso; omega))) <;> repeat' refine CT ?_) | (first | (refine DSK ?_; clear hA a; intro a hA) | (first | (refine DLT ?_; clear hA hH; rintro _ w ⟨oN, rfl, hH⟩; refine ⟨STT, ?_⟩; intro a hA) | (refine DAT ?_; clear hA; rintro _ w ⟨oN, cN, rfl, hH2⟩; clear hH; have hH := (hH2 _ (by (repeat constructor))).tail; clear hH2; refine ⟨STT, ?_⟩; intro a hA))) )
      (refine wp_draw_HS [(0, 1), (1, 1), (2, 1), (3, 1), (4, 1), (5, 1), (6, 1), (7, 1), (8, 1), (9, 1), (10, 1), (11, 1), (12, 1), (13, 1), (14, 1), (15, 1)] mixed (by decide +kernel) hH ?_; replace hH := hH.drew)
      repeat' (first | (first | (refine GT ?_ ?_ <;> intro hg <;> clear hA a <;> intro a hA <;> (first | exact FA | replace hg := of_decide_eq_true hg | replace hg := of_decide_eq_false hg | skip)) | (refine XT ?_; apply XE; (first | (apply ex_load; rfl; exact cl_rd hgR.1.1 id hvI) | (apply ex_load_st (vs := encEn (curB g m.fm).e); rfl; rfl; exact cls_rd hgR.1.1 id (bl_en hbl))); clear hA a; intro a hA) | (refine QT ?_; clear hA a; intro a hA) | (first | (refine BT ?_; clear hA hH; rintro _ w ⟨bN, rfl, hH⟩ a hA) | (refine LT ?_; clear hA hH; rintro _ w ⟨oN, rfl, hH⟩ a hA) | (refine AT ?_; clear hA; rintro _ w ⟨oN, cN, rfl, hH2⟩ a hA; clear hH; have hH := (hH2 _ (by (repeat constructor))).tail; clear hH2) | (refine S0T ?_; clear hH; rintro _ w hH) | (apply st_op0 hA rfl rfl; apply op_store_fld (cs' := encW g kd m.wd.inp oO m.wd.out.length cO ++ encR g (fu - 1) oS fms.length cS pc bv (some (sat (g.fs.l.getD m.fm.c.1.toNat gr0).bs.o (m.fm.b * 6))) m.fm.i ph none); rfl; rfl; rfl; exact hH; (repeat constructor); clear hH; rintro _ w hH))) | ((first | refine CT ?_ | (refine DT ?_ ?_ <;> intro hc <;> try (exfalso; omega))) <;> repeat' refine CT ?_) | (first | (refine DSK ?_; clear hA a; intro a hA) | (first | (refine DLT ?_; clear hA hH; rintro _ w ⟨oN, rfl, hH⟩; refine ⟨STT, ?_⟩; intro a hA) | (refine DAT ?_; clear hA; rintro _ w ⟨oN, cN, rfl, hH2⟩; clear hH; have hH := (hH2 _ (by (repeat constructor))).tail; clear hH2; refine ⟨STT, ?_⟩; intro a hA))) )
      rw [← hblk] at hH
      have hto : ∀ t ∈ (curB g m.fm).e.to.l, EdgOk g w0 m.fm t := fun t ht => by
        obtain ⟨e1, e2, e3, e4⟩ := hcu.edge hss ht
        have e5 := hsizes.2.2.2.2.2 t ht
        exact ⟨e1, e2, e3, e4, by omega⟩
      (refine st_op hA rfl rfl (by decide) (op_call rfl rfl rfl (last_spec hH hpc hmm hfs hst (curB g m.fm).e hR hok.nf hne hsz hxs (by omega) hcu.blk.end_ hbR.2.2.2 (fun a ha => atS_W hss (hcu.blk.ends a ha)) hto hFI (by have := hsizes.2.2.2.2.1; omega) hok.mc.sk)) ?_; clear hA hH; rintro _ w hS a hA)
      rw [← step_last hlt] at hS
      repeat' (first | (first | (refine GT ?_ ?_ <;> intro hg <;> clear hA a <;> intro a hA <;> (first | exact FA | replace hg := of_decide_eq_true hg | replace hg := of_decide_eq_false hg | skip)) | (refine QT ?_; clear hA a; intro a hA) | (first | (refine BT ?_; clear hA hH; rintro _ w ⟨bN, rfl, hH⟩ a hA) | (refine LT ?_; clear hA hH; rintro _ w ⟨oN, rfl, hH⟩ a hA) | (refine AT ?_; clear hA; rintro _ w ⟨oN, cN, rfl, hH2⟩ a hA; clear hH; have hH := (hH2 _ (by (repeat constructor))).tail; clear hH2) | (refine S0T ?_; clear hH; rintro _ w hH) )) | ((first | refine CT ?_ | (refine DT ?_ ?_ <;> intro hc <;> try (exfalso; omega))) <;> repeat' refine CT ?_) | (first | (refine DSK ?_; clear hA a; intro a hA) | (first | (refine DLT ?_; clear hA hH; rintro _ w ⟨oN, rfl, hH⟩; refine ⟨STT, ?_⟩; intro a hA) | (refine DAT ?_; clear hA; rintro _ w ⟨oN, cN, rfl, hH2⟩; clear hH; have hH := (hH2 _ (by (repeat constructor))).tail; clear hH2; refine ⟨STT, ?_⟩; intro a hA))) )
      rcases hnext _ hS with h | h
      · exact ⟨fu.toNat, ⟨.inl h, (hA.sub SBT)⟩, by omega⟩
      · exact ⟨0, ⟨.inr ⟨rfl, h⟩, (hA.sub SBT)⟩, by omega⟩
  clear hA hMS hok0
  rintro a w ⟨⟨k, r, wd, fu, hr, oO, cO, oS, nS, cS, pc, bv, pb, pi, ph, b, hH⟩, hA⟩
  subst hHX
  repeat' (first | (first | (refine GT ?_ ?_ <;> intro hg <;> clear hA a <;> intro a hA <;> (first | exact FA | replace hg := of_decide_eq_true hg | replace hg := of_decide_eq_false hg | skip)) | (refine QT ?_; clear hA a; intro a hA) | (first | (refine BT ?_; clear hA hH; rintro _ w ⟨bN, rfl, hH⟩ a hA) | (refine LT ?_; clear hA hH; rintro _ w ⟨oN, rfl, hH⟩ a hA) | (refine AT ?_; clear hA; rintro _ w ⟨oN, cN, rfl, hH2⟩ a hA; clear hH; have hH := (hH2 _ (by (repeat constructor))).tail; clear hH2) | (refine S0T ?_; clear hH; rintro _ w hH) )) | ((first | refine CT ?_ | (refine DT ?_ ?_ <;> intro hc <;> try (exfalso; omega))) <;> repeat' refine CT ?_) | (first | (refine DSK ?_; clear hA a; intro a hA) | (first | (refine DLT ?_; clear hA hH; rintro _ w ⟨oN, rfl, hH⟩; refine ⟨STT, ?_⟩; intro a hA) | (refine DAT ?_; clear hA; rintro _ w ⟨oN, cN, rfl, hH2⟩; clear hH; have hH := (hH2 _ (by (repeat constructor))).tail; clear hH2; refine ⟨STT, ?_⟩; intro a hA))) )
  (refine wp_draw2_HS [(0, 1), (1, 1), (2, 1), (3, 1), (4, 1), (5, 1), (6, 1), (7, 1), (8, 1), (9, 1), (10, 1), (11, 1)] [12] mixed (by decide +kernel) hH ?_; replace hH := hH.drew)
  repeat' (first | (first | (refine GT ?_ ?_ <;> intro hg <;> clear hA a <;> intro a hA <;> (first | exact FA | replace hg := of_decide_eq_true hg | replace hg := of_decide_eq_false hg | skip)) | (refine XT ?_; apply XE; (first | (apply ex_ofBytes (l' := wd.out); rfl; rfl; exact fun w h => h.own_rd (by exact MEMT))); clear hA a; intro a hA) | (refine QT ?_; clear hA a; intro a hA) | (first | (refine BT ?_; clear hA hH; rintro _ w ⟨bN, rfl, hH⟩ a hA) | (refine LT ?_; clear hA hH; rintro _ w ⟨oN, rfl, hH⟩ a hA) | (refine AT ?_; clear hA; rintro _ w ⟨oN, cN, rfl, hH2⟩ a hA; clear hH; have hH := (hH2 _ (by (repeat constructor))).tail; clear hH2) | (refine S0T ?_; clear hH; rintro _ w hH) | (apply dr_op03 hA rfl rfl rfl; apply op_store_fld (cs' := encO3 k (ofB wd.out) r); rfl; rfl; rfl; exact hH; (repeat constructor); clear hH; rintro _ w hH))) | ((first | refine CT ?_ | (refine DT ?_ ?_ <;> intro hc <;> try (exfalso; omega))) <;> repeat' refine CT ?_) | (first | (refine DSK ?_; clear hA a; intro a hA) | (first | (refine DLT ?_; clear hA hH; rintro _ w ⟨oN, rfl, hH⟩; refine ⟨STT, ?_⟩; intro a hA) | (refine DAT ?_; clear hA; rintro _ w ⟨oN, cN, rfl, hH2⟩; clear hH; have hH := (hH2 _ (by (repeat constructor))).tail; clear hH2; refine ⟨STT, ?_⟩; intro a hA))) )
  repeat' (first | (first | (refine GT ?_ ?_ <;> intro hg <;> clear hA a <;> intro a hA <;> (first | exact FA | replace hg := of_decide_eq_true hg | replace hg := of_decide_eq_false hg | skip)) | (refine XT ?_; apply XE; (first | (apply ex_load_st (vs := encO3 k (ofB wd.out) r); rfl; rfl; exact cls_cb_all MEMT)); clear hA a; intro a hA) | (refine QT ?_; clear hA a; intro a hA) | (first | (refine BT ?_; clear hA hH; rintro _ w ⟨bN, rfl, hH⟩ a hA) | (refine LT ?_; clear hA hH; rintro _ w ⟨oN, rfl, hH⟩ a hA) | (refine AT ?_; clear hA; rintro _ w ⟨oN, cN, rfl, hH2⟩ a hA; clear hH; have hH := (hH2 _ (by (repeat constructor))).tail; clear hH2) | (refine S0T ?_; clear hH; rintro _ w hH) | (apply st_op0 hA rfl rfl; apply op_store_agg (vs := encO3 k (ofB wd.out) r); rfl; rfl; exact hH; (repeat constructor); (repeat rfl); clear hH; rintro _ w hH))) | ((first | refine CT ?_ | (refine DT ?_ ?_ <;> intro hc <;> try (exfalso; omega))) <;> repeat' refine CT ?_) | (first | (refine DSK ?_; clear hA a; intro a hA) | (first | (refine DLT ?_; clear hA hH; rintro _ w ⟨oN, rfl, hH⟩; refine ⟨STT, ?_⟩; intro a hA) | (refine DAT ?_; clear hA; rintro _ w ⟨oN, cN, rfl, hH2⟩; clear hH; have hH := (hH2 _ (by (repeat constructor))).tail; clear hH2; refine ⟨STT, ?_⟩; intro a hA))) )
  refine rt1c (vs := encO3 k (ofB wd.out) r) (.inl rfl) rfl hA rfl rfl hH (cls_cb_all (by exact MEMT)) ⟨?_, hH.kp⟩
  rw [runP_t hM, hr]
  rfl
end Go.Proofs.YtenlcdokaadobaaGreatDoor
namespace Go.Proofs.YtenlcdokaadobaaGreatDoor
open Go Go.Fw
set_option linter.unusedVariables false
def gA (oG oB oX p0 p1 p2 p3 p4 p5 p6 p7 : Option Addr) : Grs := ⟨⟨oG, 1, [⟨0, ⟨oB, 4, [blA p0 p1 1 2, blJ p2 p3 1 1 7, blJ p4 p5 1 1 8, blR p6 p7 1 1]⟩⟩]⟩, nilV, nilV, ⟨oX, 4, xs4⟩, nilV⟩
theorem itoa_8 : itoaB 8 = ⟨#[56]⟩ := by decide +kernel
theorem itoa_5 : itoaB 5 = ⟨#[53]⟩ := by decide +kernel
theorem gA_may (oG oB oX p0 p1 p2 p3 p4 p5 p6 p7 : Option Addr) : MayP (gA oG oB oX p0 p1 p2 p3 p4 p5 p6 p7) := mayA (a0 := p0) (a1 := p1) (b0 := p2) (b1 := p3) (d0 := p4) (d1 := p5) (e0 := p6) (e1 := p7) (oB := oB) (cB := 4) rfl rfl rfl rfl rfl
theorem gA_run (oG oB oX p0 p1 p2 p3 p4 p5 p6 p7 : Option Addr) : runF (gA oG oB oX p0 p1 p2 p3 p4 p5 p6 p7) 2 9 (firstM empS) = (1, itoaB 8, ⟨empS, [], []⟩) := rfl
theorem gA_runP (oG oB oX p0 p1 p2 p3 p4 p5 p6 p7 : Option Addr) : runP (gA oG oB oX p0 p1 p2 p3 p4 p5 p6 p7) 2 empS 9 = (1, empS, ⟨#[56]⟩) := by
  rw [runP_t (gA_may ..)]
  show ((runF _ 2 9 _).1, ofB (runF _ 2 9 _).2.2.out, (runF _ 2 9 _).2.1) = _
  rw [gA_run, itoa_8]
  rfl
theorem h5_runP {h : Grs} {oG oB o1 : Option Addr} {cG cB : Nat} (hf : h.fs = ⟨oG, cG, [⟨0, ⟨oB, cB, [bl5 o1 1 5]⟩⟩]⟩) (hm : MayP h) : (runP h 2 empS 9).2.2 = ⟨#[53]⟩ := by
  obtain ⟨fs, ls, ts, xs, ss⟩ := h
  dsimp only at hf
  subst hf
  rw [runP_t hm]
  have e : runF ⟨⟨oG, cG, [⟨0, ⟨oB, cB, [bl5 o1 1 5]⟩⟩]⟩, ls, ts, xs, ss⟩ 2 9 (firstM empS) = (1, itoaB 5, ⟨empS, [], []⟩) := rfl
  show (runF _ 2 9 _).2.1 = _
  rw [e, itoa_5]
end Go.Proofs.YtenlcdokaadobaaGreatDoor
namespace Go.Fw
open Go Go.RowKit
set_option linter.unusedVariables false
theorem run_eqF3 {P : Program} {w : World} {d : Nat} {fs : List Field} {t1 t2 t3 : TypeId} {k1 k2 : Int} {a1 b1 a2 b2 : ByteArray} (h : fs.map (fun f => (f.name != "_", f.type, f.offset)) = [(true, t1, 0), (true, t2, 1), (true, t3, 2)])
    (h1 : P.underlying t1 = some (.int .i64)) (h2 : P.underlying t2 = some .string) (h3 : P.underlying t3 = some .string) (p1 : P.plainKey t1 = true) (p2 : P.plainKey t2 = true) (p3 : P.plainKey t3 = true) :
    (Op.eqFields (d + 1) #[.int .i64 k1, .string a1, .string b1] #[.int .i64 k2, .string a2, .string b2] fs).run P w = .ok (k1 == k2 && (a1.toList == a2.toList && b1.toList == b2.toList)) w := by
  rcases fs with _ | ⟨f1, _ | ⟨f2, _ | ⟨f3, _ | ⟨f4, fs⟩⟩⟩⟩
  · cases h
  · exact absurd (congrArg List.length h) (by simp)
  · exact absurd (congrArg List.length h) (by simp)
  rotate_left
  · exact absurd (congrArg List.length h) (by simp)
  · simp only [List.map_cons, List.map_nil, List.cons.injEq, Prod.mk.injEq, and_true, bne_iff_ne, ne_eq] at h
    obtain ⟨⟨n1, rfl, o1⟩, ⟨n2, rfl, o2⟩, ⟨n3, rfl, o3⟩⟩ := h
    simp only [Op.eqFields, n1, n2, n3, ne_eq, not_false_eq_true, if_true, o1, o2, o3, Sem.run_bind]
    rw [run_part_plain w p1 (v := .int .i64 k1) rfl]
    simp only [Result.andThen_ok]
    rw [run_part_plain w p1 (v := .int .i64 k2) rfl]
    simp only [Result.andThen_ok, run_equalIn_int w d _ _ .i64 k1 k2 h1]
    cases hk : k1 == k2
    · simp
    simp only [Bool.not_true, Bool.false_eq_true, if_false, Bool.true_and, Sem.run_bind]
    rw [run_part_plain w p2 (v := .string a1) rfl]
    simp only [Result.andThen_ok]
    rw [run_part_plain w p2 (v := .string a2) rfl]
    simp only [Result.andThen_ok, run_equalIn_string w d _ a1 a2 h2]
    cases ha : a1.toList == a2.toList
    · simp
    simp only [Bool.not_true, Bool.false_eq_true, if_false, Bool.true_and, Sem.run_bind]
    rw [run_part_plain w p3 (v := .string b1) rfl]
    simp only [Result.andThen_ok]
    rw [run_part_plain w p3 (v := .string b2) rfl]
    simp only [Result.andThen_ok, run_equalIn_string w d _ b1 b2 h3]
    cases hb : b1.toList == b2.toList <;> simp
theorem ex_field {P : Program} {N : Nat} {l : List (Nat × Value)} {C : World → Prop} {d : Option Tmp} {T : TypeId} {pos : String} {af : Array Edge} {g : Option (Nat × Bool)} {s : TypeId} {x : Operand} {i ft off : Nat} {fl : List (Nat × Nat)} {cs : Array Value} {v : Value} [h : TSt P s fl] (hx : ev l x = some (.agg cs)) (hf0 : nth fl i = some (ft, off)) (hp : P.plainKey ft = true) (hv : cs[off]? = some v) :
    Ex P N l C ⟨d, .field s x i, T, pos, af, g⟩ v := by
  intro a w hA _
  have hf := hf0
  rw [nth_eq] at hf
  obtain ⟨fs, h1, h2⟩ := h.eq
  have hl : fs.toList[i]?.map (fun f => (f.type, f.offset)) = some (ft, off) := by rw [← List.getElem?_map, h2, hf]
  obtain ⟨f, hfi, hfe⟩ := Option.map_eq_some_iff.1 hl
  have hfi' : fs[i]? = some f := by simpa using hfi
  simp only [Prod.mk.injEq] at hfe
  obtain ⟨rfl, rfl⟩ := hfe
  simp [execOp, hA.ev hx, Instr.field, run_underlying h1, hfi', asAgg, run_part_plain w hp hv]
theorem ex_eqlSs {P : Program} {N : Nat} {l : List (Nat × Value)} {C : World → Prop} {d : Option Tmp} {T : TypeId} {pos : String} {af : Array Edge} {gd : Option (Nat × Bool)} {t ty : TypeId} {x y : Operand} {m : ByteArray} [h : TSr P t] (hx : ev l x = some (.string m)) (hy : ev l y = some (.string m)) : Ex P N l C ⟨d, .binOp .eql t x y ty, T, pos, af, gd⟩ (.bool true) := by
  have := ex_eqlS (N := N) (C := C) (d := d) (T := T) (pos := pos) (af := af) (g := gd) (ty := ty) (h := h) hx hy
  rwa [beq_self_eq_true] at this
end Go.Fw
namespace Go.Proofs.YtenlcdokaadobaaGreatDoor
open Go Go.Fw
set_option linter.unusedVariables false
theorem fo_29 : (Tryz.prog.fieldsOf 29).toList.map (fun f => (f.name != "_", f.type, f.offset)) = [(true, 3, 0), (true, 9, 1), (true, 9, 2)] := by decide +kernel
theorem ge_29 : Tryz.prog.eqGuardType Tryz.prog.depth 29 = false := by decide +kernel
theorem st_29 : Tryz.prog.stoodInHeld 29 = false := by decide +kernel
theorem isSt_29 : (match Tryz.prog.underlying 29 with | some (.struct _) => true | _ => false) = true := by decide +kernel
theorem un_29 : Tryz.prog.underlying 29 = some (.struct (Tryz.prog.fieldsOf 29)) := by
  have h := isSt_29
  unfold Program.fieldsOf
  cases hu : Tryz.prog.underlying 29 with
  | none => rw [hu] at h; cases h
  | some d => cases d <;> rw [hu] at h <;> first | rfl | cases h
theorem pk_3 : Tryz.prog.plainKey 3 = true := by decide +kernel
theorem pk_9 : Tryz.prog.plainKey 9 = true := by decide +kernel
def eqO (a b : Int × ByteArray × ByteArray) : Bool := a.1 == b.1 && (a.2.1.toList == b.2.1.toList && a.2.2.toList == b.2.2.toList)
theorem ex_eqlO {N : Nat} {l : List (Nat × Value)} {C : World → Prop} {d : Option Tmp} {T : TypeId} {pos : String} {af : Array Edge} {gd : Option (Nat × Bool)} {ty : TypeId} {x y : Operand} {p q : Int × ByteArray × ByteArray} (hx : ev l x = some (.agg (encP3 p).toArray)) (hy : ev l y = some (.agg (encP3 q).toArray)) :
    Ex Tryz.prog N l C ⟨d, .binOp .eql 29 x y ty, T, pos, af, gd⟩ (.bool (eqO p q)) := by
  intro a w hA _
  simp only [execOp, hA.ev hx, hA.ev hy, Sem.run_bind, run_eqGuard_agg w .eql _ _ _ _ _ ge_29, Result.andThen_ok, run_eql_struct]
  rw [show (10000 : Nat) = 9999 + 1 from rfl, run_equalIn_agg w 9999 _ _ _ un_29 st_29]
  have h := run_eqF3 (P := Tryz.prog) (w := w) (d := 9998) (k1 := p.1) (k2 := q.1) (a1 := p.2.1) (b1 := p.2.2) (a2 := q.2.1) (b2 := q.2.2) fo_29 (TIn.eq (t := 3)) (TSr.eq (t := 9)) (TSr.eq (t := 9)) pk_3 pk_9 pk_9
  have e1 : (encP3 p).toArray = #[.int .i64 p.1, .string p.2.1, .string p.2.2] := rfl
  have e2 : (encP3 q).toArray = #[.int .i64 q.1, .string q.2.1, .string q.2.2] := rfl
  rw [e1, e2, h]
  rfl
theorem eqO_refl (p : Int × ByteArray × ByteArray) : eqO p p = true := by simp [eqO]
theorem ex_eqlOs {N : Nat} {l : List (Nat × Value)} {C : World → Prop} {d : Option Tmp} {T : TypeId} {pos : String} {af : Array Edge} {gd : Option (Nat × Bool)} {ty : TypeId} {x y : Operand} {p : Int × ByteArray × ByteArray} (hx : ev l x = some (.agg (encP3 p).toArray)) (hy : ev l y = some (.agg (encP3 p).toArray)) :
    Ex Tryz.prog N l C ⟨d, .binOp .eql 29 x y ty, T, pos, af, gd⟩ (.bool true) := by
  have h := ex_eqlO (N := N) (C := C) (d := d) (T := T) (pos := pos) (af := af) (gd := gd) (ty := ty) hx hy
  rwa [eqO_refl] at h
end Go.Proofs.YtenlcdokaadobaaGreatDoor
