/-
  rt's Plain: a record with a field. Conditions: none.
  rt's Plain, whatever the step; an exception's number. Conditions: none.
  The machine in memory; what an atom is, what atoms are. Conditions: none.
-/
import Derived.Test.YtenlcdokaadobaaGreatDoorRowFuelMg14
namespace Go.Proofs.YtenlcdokaadobaaGreatDoor
open Go Go.Fw
set_option linter.unusedVariables false
theorem Wst.rec_ {w0 w : World} {H : List It} {c : Cx} {TM bM p : Nat} {g : Grs} {kd : Int} {rest : List Value} {r : Rs} {wd : Wd} {v : Value} {sx : Sx} {oO oI oV : Option Addr} {cO cI cV n : Nat} {ns : List Int} {xs : List Vl} {us : List Value}
    (hH : HS w0 noM (cb p 196 [.slice oI n cI, .slice oV n cV] :: own 2 1 oI n cI (flat Fw.encI ns) :: own 137 1 oV n cV us :: cb bM TM (encW g kd wd.inp oO wd.out.length cO ++ rest) :: own 5 1 oO wd.out.length cO (flat encY wd.out) :: frz w0 c.K :: all (sx.map obI) :: H) w) (hn : ns.length = n) (hx : xs.length = n) (hb : n ≤ c.bd + 1) (hV : RVs c xs us) (hS : StR c sx wd.st)
    (hr : r = .val (.rc ns xs) wd) (hv : v = .tuple #[ptrV 194 p, .string empS]) : Wst w0 c TM bM g kd rest H r wd v w := by
  subst hn
  have hi := hH.own_le (T := 2) (o := oI) (.tail _ (.head _))
  have hj := hH.own_le (T := 137) (o := oV) (.tail _ (.tail _ (.head _)))
  have h1 := (hH.perm (H' := own 137 1 oV ns.length cV us :: frz w0 c.K :: own 2 1 oI ns.length cI (flat Fw.encI ns) :: cb p 196 [.slice oI ns.length cI, .slice oV ns.length cV] :: cb bM TM (encW g kd wd.inp oO wd.out.length cO ++ rest) :: own 5 1 oO wd.out.length cO (flat encY wd.out) :: all (sx.map obI) :: H) (by (repeat (first | exact List.Perm.refl _ | exact List.Perm.nil | refine perm_pick 0 rfl ?_ | refine perm_pick 1 rfl ?_ | refine perm_pick 2 rfl ?_ | refine perm_pick 3 rfl ?_ | refine perm_pick 4 rfl ?_ | refine perm_pick 5 rfl ?_ | refine perm_pick 6 rfl ?_ | refine perm_pick 7 rfl ?_ | refine perm_pick 8 rfl ?_ | refine perm_pick 9 rfl ?_ | refine perm_pick 10 rfl ?_ | refine perm_pick 11 rfl ?_)))).frz_own
  have h2 := (h1.perm (.swap _ _ _)).frz_own
  have h3 := (h2.perm (.swap _ _ _)).frz_cb
  have hle : c.le { c with K := fun w => RdB w p [.slice oI ns.length cI, .slice oV ns.length cV] ∧ Rd w oI (flat Fw.encI ns) ∧ Rd w oV us ∧ c.K w, bd := c.bd + 1 } := ⟨fun w h => h.2.2.2, ⟨[], (List.append_nil _).symm⟩, Nat.le_succ _, rfl⟩
  refine ⟨_, sx, oO, cO, ⟨hle, Nat.le_refl _⟩, by rw [hr]; exact h3.perm (by (repeat (first | exact List.Perm.refl _ | exact List.Perm.nil | refine perm_pick 0 rfl ?_ | refine perm_pick 1 rfl ?_ | refine perm_pick 2 rfl ?_ | refine perm_pick 3 rfl ?_ | refine perm_pick 4 rfl ?_ | refine perm_pick 5 rfl ?_ | refine perm_pick 6 rfl ?_ | refine perm_pick 7 rfl ?_ | refine perm_pick 8 rfl ?_ | refine perm_pick 9 rfl ?_ | refine perm_pick 10 rfl ?_ | refine perm_pick 11 rfl ?_))), RsV_val hr (RV_rc (on := oI) (cn := cI) (ol := oV) (cl := cV) (vs := us) ⟨hx.symm, hb, hi.1, hi.2, by omega, hj.2⟩ (fun w h => by rw [hx]; exact h.1) (fun w h => h.2.1) (fun w h => h.2.2.1) (RVs.mono hle _ _ hV)) hv, by rw [hr]; exact hS.le hle rfl⟩
theorem ins_len' {α : Type} {l : List α} {i : Nat} {x : α} (hi : i ≤ l.length) : (l.insertIdx i x).length = l.length + 1 := by rw [insV_eq hi, insV_len hi]
theorem all_drop {l : List Value} (h : l.all (·.oneCell') = true) (i : Nat) : (l.drop i).all (·.oneCell') = true := by
  rw [List.all_eq_true] at h ⊢
  exact fun x hx => h x (List.mem_of_mem_drop hx)
theorem insI_call {w0 w : World} {H : List It} {o ov : Option Addr} {cn i : Nat} {fr : List Int} {r : Int} (hH : HS w0 noM (own 2 1 o fr.length cn (flat Fw.encI fr) :: own 2 1 ov 1 1 (Fw.encI r) :: H) w) (hi : i ≤ fr.length) (hl : fr.length ≤ 1048576) :
    Ret Tryz.prog 95 #[.slice o fr.length cn, .int .i64 i, .slice ov 1 1] w (fun v w' => ∃ o' c', v = .slice o' (fr.insertIdx i r).length c' ∧ HS w0 noM (own 2 1 o' (fr.insertIdx i r).length c' (flat Fw.encI (fr.insertIdx i r)) :: H) w') := by
  obtain ⟨Mc, h1, -, h2⟩ := HS.frame (Hc := [_, _]) hH
  refine (insertI_spec w Mc o ov cn i fr r h1 hi hl rfl fun l _ => flat_one_cell (fun _ => rfl) l).mono fun v w' h => ?_
  obtain ⟨o', c', h3, h4⟩ := h
  have e1 : (fr.insertIdx i r).length = fr.length + 1 := by rw [insV_eq hi, insV_len hi]
  rw [e1, insV_eq hi]
  exact ⟨o', c', h3, h2 _ [_] h4⟩
theorem insV_call {w0 w : World} {H : List It} {o ov : Option Addr} {cn i : Nat} {fr : List Value} {r : Value} (hH : HS w0 noM (own 137 1 o fr.length cn fr :: own 137 1 ov 1 1 [r] :: H) w) (hi : i ≤ fr.length) (hl : fr.length ≤ 1048576) (h1r : r.oneCell' = true) (hall : fr.all (·.oneCell') = true) :
    Ret Tryz.prog 96 #[.slice o fr.length cn, .int .i64 i, .slice ov 1 1] w (fun v w' => ∃ o' c', v = .slice o' (fr.length + 1) c' ∧ HS w0 noM (own 137 1 o' (fr.length + 1) c' (fr.take i ++ [r] ++ fr.drop i) :: H) w') := by
  have hH' : HS w0 noM (own 137 1 o fr.length cn (flat encV fr) :: own 137 1 ov 1 1 (encV r) :: H) w := by rw [flatV]; exact hH
  obtain ⟨Mc, h1, -, h2⟩ := HS.frame (Hc := [_, _]) hH'
  refine (insertV_spec w Mc o ov cn i fr r h1 hi hl (by show [r].all _ = true; simp [h1r]) fun l hl' => by rw [flatV, hl']; exact all_drop hall i).mono fun v w' h => ?_
  obtain ⟨o', c', h3, h4⟩ := h
  rw [flatV] at h4
  refine ⟨o', c', h3, ?_⟩
  have e2 : fr.take i ++ [r] ++ fr.drop i = insV fr i r := by unfold insV; simp
  rw [e2]
  exact h2 _ [_] h4
set_option maxRecDepth 10000 attribute [local irreducible] Code.wp wpList Calls Ex Op1 sat bat blk cb own Go.Fw.mp Go.Fw.mpO Go.Fw.mpI Go.Fw.mpE Go.Fw.itr HS Rd Ret wkD Hp Cl Cls Exit.then Exit.inBlock Exit.noGoto bodyPost Go.Fw.flat wk2 Go.Fw.all Go.Fw.owns wpOp
attribute [local irreducible] sk mpK sko mvO entK opM Go.Fw.mset Go.Fw.mv opK w63 frz obI RV

set_option maxHeartbeats 16000000 in
theorem Plain7_spec (w0 w : World) (H : List It) (c : Cx) (TM bM : Nat) (g : Grs) (kd : Int) (rest : List Value) (caps : List Int) (mine : Int) (r : Stp) (l : List Vl) (vs : List Value) (oL oO : Option Addr) (cL cO : Nat) (wd : Wd) (sx : Sx) (f : Int) (cs : List Vl) (pc : Nat) (hH : HS w0 noM (cb bM TM (encW g kd wd.inp oO wd.out.length cO ++ rest) :: own 5 1 oO wd.out.length cO (flat encY wd.out) :: frz w0 c.K :: all (sx.map obI) :: H) w) (hL : ∀ w, c.K w → Rd w oL vs) (hlc : vs.length ≤ cL ∧ cL ≤ maxLen) (hV : RVs c l vs) (hS : StR c sx wd.st) (hF : FormP g caps mine r) (hrl : l.length = r.a.l.length) (hnf : c.nf = caps.length) (hcf : FnR c f cs pc) (hK0 : ∀ w, c.K w → Kp w0 noM w) (hN : RdV w0 Fw.encI r.ns) (hbn : r.ns.l.length ≤ c.bd) (hbd : c.bd ≤ 1000000) (hout : wd.out.length ≤ 1000000) (hlab : g.ts.l.length ≤ 9223372036854775807) (hk : r.k = 7) : Ret Tryz.prog 50 #[.pointer (some (bat bM 0)), .agg (encSt r).toArray, .slice oL vs.length cL, .pointer (some (bat pc 0))] w (fun v w' => Wst w0 c TM bM g kd rest H (plainF r l cs wd) wd v w') := by
  have hvl := hV.len
  have hw := hF.want
  have hnum := hF.num
  have hsp : Sp oL vs.length := (hL w (hH.frz (by exact MEMT))).sp (sz := 1) (by omega) (by omega)
  have e := pl_7 (r := r) (l := l) (cs := cs) (wd := wd) hk
  rw [(w_7 (g := g) (mine := mine) hk).1] at hw
  rw [(w_7 (g := g) (mine := mine) hk).2] at hnum
  obtain ⟨v0, hv0, hx0⟩ := hV.get0 (i := 0) (by omega)
  obtain ⟨v1, hv1, hx1⟩ := hV.get0 (i := 1) (by omega)
  (refine enter (N := 238) Tryz.func50 rfl Tryz.ntmps50 rfl ?_; intro a hA; dsimp only [sl0, Nat.reduceAdd] at hA)
  repeat' (first | ((first | apply st_ex hA hH rfl rfl (by decide) | apply dr_ex hA rfl rfl rfl (by decide) | apply dr_exp hA rfl rfl rfl (by decide) | apply dr_ex3 hA hH rfl rfl rfl (by decide)); (first | (apply ex_indexAddr; rfl; rfl; decide; omega; exact hsp) | (apply ex_load; rfl; exact cl_frz MEMT hL hv0) | (apply ex_iface; rfl)); clear hA a; intro a hA) | (refine QT ?_; clear hA a; intro a hA) | (refine BT ?_; clear hA hH; rintro _ w ⟨bN, rfl, hH⟩ a hA) | ((first | refine CT ?_ | (refine DT ?_ ?_ <;> intro hc <;> try (exfalso; omega))) <;> repeat' refine CT ?_))
  rcases hx0.asRc with ⟨ns, xs, p, on, cn, ol, cl, us, hs, rfl, ⟨hq1, hq2, hq3, hq4, hq5, hq6⟩, hp, hrn, hrl2, hus⟩ | ⟨hs, hn⟩
  rotate_left
  · rw [hs] at e
    repeat' (first | ((first | apply st_ex hA hH rfl rfl (by decide) | apply dr_ex hA rfl rfl rfl (by decide) | apply dr_exp hA rfl rfl rfl (by decide) | apply dr_ex3 hA hH rfl rfl rfl (by decide)); (first | (apply ex_indexAddr; rfl; rfl; decide; omega; exact hsp) | (apply ex_load; rfl; exact cl_frz MEMT hL hv0) | (apply ex_iface; rfl) | (apply ex_assertX; rfl; exact hn)); clear hA a; intro a hA) | (refine QT ?_; clear hA a; intro a hA) | (refine CT ?_ <;> repeat' refine CT ?_))
    exact rt2 (.inl rfl) rfl hA rfl rfl (Wst.same c.le_refl (hH.tail) (RsV_stk e rfl) (by rw [e]; exact hS) (by rw [e]; rfl) (by rw [e]; rfl))
  rw [hs] at e
  dsimp only at e
  have hul := hus.len
  obtain ⟨b5, hb5⟩ : ∃ x, x = bN := ⟨_, rfl⟩
  rw [← hb5] at hA hH
  clear hb5 bN
  repeat' (first | ((first | apply st_ex hA hH rfl rfl (by decide) | apply dr_ex hA rfl rfl rfl (by decide) | apply dr_exp hA rfl rfl rfl (by decide) | apply dr_ex3 hA hH rfl rfl rfl (by decide)); (first | (apply ex_assertY; rfl)); clear hA a; intro a hA) | (refine QT ?_; clear hA a; intro a hA) | (refine CT ?_ <;> repeat' refine CT ?_))
  (refine wp_draw_HS [(0, 1), (1, 1), (2, 1), (3, 1), (4, 1), (5, 1), (6, 0), (7, 1), (8, 1), (9, 1), (10, 1), (11, 1)] mixed (by decide +kernel) hH ?_; replace hH := hH.drew)
  repeat' (first | ((first | apply st_ex hA hH rfl rfl (by decide) | apply dr_ex hA rfl rfl rfl (by decide) | apply dr_exp hA rfl rfl rfl (by decide) | apply dr_ex3 hA hH rfl rfl rfl (by decide)); (first | (apply ex_load; rfl; exact cl_frzB MEMT hp rfl)); clear hA a; intro a hA) | (refine QT ?_; clear hA a; intro a hA))
  have hb := bs_spec w.drew on cn ns r.n (hrn _ (hH.frz (by exact MEMT))) (by omega)
  (refine dr_op hA rfl rfl rfl (by decide) (op_call rfl rfl rfl (hb)) ?_; clear hA; rintro _ w ⟨rfl, hk2⟩; refine ⟨hH.keep hk2, ?_⟩; intro a hA)
  replace hH := hH.keep hk2
  clear hk2 hb
  repeat' (first | (refine QT ?_; clear hA a; intro a hA) | (refine CT ?_ <;> repeat' refine CT ?_))
  (refine wp_draw_HS (H := [frz w0 c.K]) [(0, 1), (1, 1), (2, 1), (3, 1), (5, 1), (6, 1), (7, 1), (8, 1), (4, 0), (9, 0), (10, 1), (11, 0), (12, 1)] mixed (by decide +kernel) (hH.pick (by exact MEMT)) ?_; replace hH := hH.drew)
  repeat' (first | ((first | apply st_ex hA hH rfl rfl (by decide) | apply dr_ex hA rfl rfl rfl (by decide) | apply dr_exp hA rfl rfl rfl (by decide) | apply dr_ex3 hA hH rfl rfl rfl (by decide)); (first | (apply ex_load; rfl; exact cl_frzB MEMT hp rfl)); clear hA a; intro a hA) | (refine QT ?_; clear hA a; intro a hA))
  (refine dr_op hA rfl rfl rfl (by decide) (op_call rfl rfl rfl (cloneI_spec _ on cn ns (hrn _ (hH.frz (by exact MEMT))) (by omega))) ?_; clear hA; rintro _ w ⟨oI, cI, rfl, hj⟩; replace hH := hH.join hj; clear hj; refine ⟨hH.pick (by exact MEMT), ?_⟩; intro a hA)
  repeat' (first | ((first | apply st_ex hA hH rfl rfl (by decide) | apply dr_ex hA rfl rfl rfl (by decide) | apply dr_exp hA rfl rfl rfl (by decide) | apply dr_ex3 hA hH rfl rfl rfl (by decide)); (first | (apply ex_load; rfl; exact cl_frzB MEMT hp rfl)); clear hA a; intro a hA) | (refine QT ?_; clear hA a; intro a hA))
  have hcv := fun w (h : Rd w ol us) => cloneV_spec w ol cl us h hus.all (by omega)
  rw [hul] at hcv
  (refine dr_op hA rfl rfl rfl (by decide) (op_call rfl rfl rfl (hcv _ (hrl2 _ (hH.frz (by exact MEMT))))) ?_; clear hA; rintro _ w ⟨oV, cV, rfl, hj⟩; replace hH := hH.join hj; clear hj; refine ⟨hH.pick (by exact MEMT), ?_⟩; intro a hA)
  repeat' (first | (refine QT ?_; clear hA a; intro a hA) | ((first | refine CT ?_ | (refine DT ?_ ?_ <;> intro hc <;> try (exfalso; omega))) <;> repeat' refine CT ?_) | (apply dr_op hA rfl rfl rfl (by decide); apply op_box_agg; rfl; exact hH; clear hA hH; rintro _ w ⟨bN, rfl, hH⟩; refine ⟨hH.pick (by exact MEMT), ?_⟩; intro a hA))
  all_goals
    obtain ⟨bR, hbR⟩ : ∃ x, x = bN := ⟨_, rfl⟩
    rw [← hbR] at hA hH
    clear hbR bN
    replace hH := hH.perm (H' := cb bR 196 [.slice oI ns.length cI, .slice oV xs.length cV] :: own 2 1 oI ns.length cI (flat Fw.encI ns) :: own 137 1 oV xs.length cV us :: cb bM TM (encW g kd wd.inp oO wd.out.length cO ++ rest) :: own 5 1 oO wd.out.length cO (flat encY wd.out) :: frz w0 c.K :: all (sx.map obI) :: cb b5 57 (encSt r) :: H) (by (repeat (first | exact List.Perm.refl _ | exact List.Perm.nil | refine perm_pick 0 rfl ?_ | refine perm_pick 1 rfl ?_ | refine perm_pick 2 rfl ?_ | refine perm_pick 3 rfl ?_ | refine perm_pick 4 rfl ?_ | refine perm_pick 5 rfl ?_ | refine perm_pick 6 rfl ?_ | refine perm_pick 7 rfl ?_ | refine perm_pick 8 rfl ?_ | refine perm_pick 9 rfl ?_ | refine perm_pick 10 rfl ?_ | refine perm_pick 11 rfl ?_)))
    replace hA : Sl 238 [(14, .pointer (some (bat bR 0))), (12, .int .i64 (bsI ns r.n)), (5, .pointer (some (bat b5 0))), (2, .slice oL vs.length cL), (0, .pointer (some (bat bM 0)))] a := (hA.sub (by (repeat (first | exact trivial | refine ⟨rfl, ?_⟩)); first | done | fail "sub"))
    have hspV := hH.own_sp (T := 137) (o := oV) (by exact MEMT)
    have h1v := hx1.one
  · have hfd : bsB ns r.n = true := by first | assumption | exact decide_eq_true (by assumption)
    rw [if_pos hfd] at e
    have hbi : bsI ns r.n < ns.length := (of_decide_eq_true hfd).1
    have hjl : bsI ns r.n < us.length := by omega
    have hjl1 : bsI ns r.n * 1 < us.length := by omega
    have hps := put_set (v := v1) hjl
    (refine wp_draw2_HS [(0, 1), (1, 1), (2, 1), (3, 1), (4, 1), (5, 1), (6, 1), (7, 1), (8, 1)] [9] mixed (by decide +kernel) hH ?_; replace hH := hH.drew)
    repeat' (first | ((first | apply st_ex hA hH rfl rfl (by decide) | apply dr_ex hA rfl rfl rfl (by decide) | apply dr_exp hA rfl rfl rfl (by decide) | apply dr_ex3 hA hH rfl rfl rfl (by decide)); (first | (apply ex_indexAddr; rfl; rfl; decide; omega; exact hsp) | (apply ex_indexAddr_nat; rfl; rfl; omega; exact hspV) | (apply ex_load; rfl; exact cl_frz MEMT hL hv1)); clear hA a; intro a hA) | (refine QT ?_; clear hA a; intro a hA) | (refine CT ?_ <;> repeat' refine CT ?_))
    (apply dr_op03 hA rfl rfl rfl; apply op_store_own1; rfl; rfl; exact h1v; exact hH; (repeat constructor); exact hjl1; exact hps; clear hH; rintro _ w hH)
    repeat' (first | ((first | apply st_ex hA hH rfl rfl (by decide) | apply dr_ex hA rfl rfl rfl (by decide) | apply dr_exp hA rfl rfl rfl (by decide) | apply dr_ex3 hA hH rfl rfl rfl (by decide)); (first | (apply ex_iface; rfl)); clear hA a; intro a hA) | (refine QT ?_; clear hA a; intro a hA) | (refine CT ?_ <;> repeat' refine CT ?_))
    rw [← hq1] at hH
    exact rt2 (.inl rfl) rfl hA rfl rfl (Wst.rec_ (hH.rm 7) rfl (by rw [List.length_set]; exact hq1.symm) (by omega) (RVs.set hus hx1) hS e rfl)
  · have hfd : ¬ bsB ns r.n = true := by rw [(by first | assumption | exact decide_eq_false (by assumption) : bsB ns r.n = false)]; decide
    rw [if_neg hfd] at e
    have hbi : bsI ns r.n ≤ ns.length := bsI_le _ _
    have hlI : ns.length ≤ 1048576 := by omega
    have hiU : bsI ns r.n ≤ us.length := by omega
    have hn1 := ins_len' (x := r.n) hbi
    have hul1 := hus.len
    have hKP : ∀ {w : World} {H2 : List It}, HS w0 noM (cb bR 196 [.slice oI ns.length cI, .slice oV xs.length cV] :: frz w0 c.K :: cb b5 57 (encSt r) :: H2) w → HS w0 noM [cb bR 196 [.slice oI ns.length cI, .slice oV xs.length cV], frz w0 c.K, cb b5 57 (encSt r)] w := fun h => HS.left (H1 := [_, _, _]) h
    have hST := hKP (hH.perm (H' := cb bR 196 [.slice oI ns.length cI, .slice oV xs.length cV] :: frz w0 c.K :: cb b5 57 (encSt r) :: own 2 1 oI ns.length cI (flat Fw.encI ns) :: own 137 1 oV xs.length cV us :: cb bM TM (encW g kd wd.inp oO wd.out.length cO ++ rest) :: own 5 1 oO wd.out.length cO (flat encY wd.out) :: all (sx.map obI) :: H) (by (repeat (first | exact List.Perm.refl _ | exact List.Perm.nil | refine perm_pick 0 rfl ?_ | refine perm_pick 1 rfl ?_ | refine perm_pick 2 rfl ?_ | refine perm_pick 3 rfl ?_ | refine perm_pick 4 rfl ?_ | refine perm_pick 5 rfl ?_ | refine perm_pick 6 rfl ?_ | refine perm_pick 7 rfl ?_ | refine perm_pick 8 rfl ?_ | refine perm_pick 9 rfl ?_ | refine perm_pick 10 rfl ?_ | refine perm_pick 11 rfl ?_))))
    replace hH := hH.perm (H' := cb bR 196 [.slice oI ns.length cI, .slice oV xs.length cV] :: frz w0 c.K :: cb b5 57 (encSt r) :: own 2 1 oI ns.length cI (flat Fw.encI ns) :: own 137 1 oV xs.length cV us :: cb bM TM (encW g kd wd.inp oO wd.out.length cO ++ rest) :: own 5 1 oO wd.out.length cO (flat encY wd.out) :: all (sx.map obI) :: H) (by (repeat (first | exact List.Perm.refl _ | exact List.Perm.nil | refine perm_pick 0 rfl ?_ | refine perm_pick 1 rfl ?_ | refine perm_pick 2 rfl ?_ | refine perm_pick 3 rfl ?_ | refine perm_pick 4 rfl ?_ | refine perm_pick 5 rfl ?_ | refine perm_pick 6 rfl ?_ | refine perm_pick 7 rfl ?_ | refine perm_pick 8 rfl ?_ | refine perm_pick 9 rfl ?_ | refine perm_pick 10 rfl ?_ | refine perm_pick 11 rfl ?_)))
    refine wp_drawTL (qs [0, 1, 2, 3, 4, 5, 6, 7, 8, 11, 12, 13, 14, 15, 16, 17, 18] (.two 9 19 (.two 10 19 (.one 19 (.one 20 .nil)) (.one 10 (.one 20 .nil))) (.one 9 (.one 10 (.one 20 .nil))))) [21, 22, 23, 24, 25, 26] [1]
      (fun _ _ => False)
      mixed (by decide +kernel) hST ?_ ?_
    · intro hQ
      clear hST
      replace hH := hH.drew
      (repeat ((first | (apply dl_exp hA rfl rfl rfl (by decide) rfl; exact ex_move rfl) | (apply dl_ex hA rfl rfl rfl (by decide) rfl; first | (apply ex_load; rfl; exact cl_frz MEMT hL hv1) | (apply ex_indexAddr; rfl; rfl; decide; omega; exact hsp) | exact EXT)); clear hA a; intro a hA))
      have hIV : ∀ (w : World) (oB : Option Addr) (H2 : List It), HS w0 noM (own 137 1 oV xs.length cV us :: own 137 1 oB 1 1 [v1] :: H2) w → Ret Tryz.prog 96 #[.slice oV xs.length cV, .int .i64 (bsI ns r.n), .slice oB 1 1] w (fun v w' => ∃ o' c', v = .slice o' (xs.length + 1) c' ∧ HS w0 noM (own 137 1 o' (xs.length + 1) c' (us.take (bsI ns r.n) ++ [v1] ++ us.drop (bsI ns r.n)) :: H2) w') := fun w oB H2 h => by
        have h5 := insV_call (fr := us) (r := v1) (o := oV) (cn := cV) (ov := oB) (i := bsI ns r.n) (H := H2) (w := w) (w0 := w0) (by rw [hul]; exact h) hiU (by omega) h1v hus.all
        rw [hul] at h5
        exact h5
      have hII : ∀ (w : World) (oA : Option Addr) (H2 : List It), HS w0 noM (own 2 1 oI ns.length cI (flat Fw.encI ns) :: own 2 1 oA 1 1 [.int .i64 r.n] :: H2) w → Ret Tryz.prog 95 #[.slice oI ns.length cI, .int .i64 (bsI ns r.n), .slice oA 1 1] w (fun v w' => ∃ o' c', v = .slice o' (ns.length + 1) c' ∧ HS w0 noM (own 2 1 o' (ns.length + 1) c' (flat Fw.encI (ns.insertIdx (bsI ns r.n) r.n)) :: H2) w') := fun w oA H2 h => by
        have h5 := insI_call (fr := ns) (r := r.n) (o := oI) (cn := cI) (ov := oA) (i := bsI ns r.n) (H := H2) (w := w) (w0 := w0) h hbi hlI
        rw [hn1] at h5
        exact h5
      refine dl_two ?_ ?_
      · (apply dl_op hA rfl rfl rfl (by decide); apply op_sliceLit (xs := [.int .i64 r.n]) (vs := [.int .i64 r.n]); rfl; rfl; exact CATST; rfl; rfl; rfl; exact hH; clear hA hH; rintro _ w ⟨oA, rfl, hH⟩; refine ⟨hKP hH.tail, ?_⟩; intro a hA)
        refine dl_two ?_ ?_
        · (refine dl_op hA rfl rfl rfl (by decide) (op_call rfl rfl rfl (hII _ _ _ (hH.perm (H' := own 2 1 oI ns.length cI (flat Fw.encI ns) :: own 2 1 oA 1 1 [.int .i64 r.n] :: cb bR 196 [.slice oI ns.length cI, .slice oV xs.length cV] :: frz w0 c.K :: cb b5 57 (encSt r) :: own 137 1 oV xs.length cV us :: cb bM TM (encW g kd wd.inp oO wd.out.length cO ++ rest) :: own 5 1 oO wd.out.length cO (flat encY wd.out) :: all (sx.map obI) :: H) (by (repeat (first | exact List.Perm.refl _ | exact List.Perm.nil | refine perm_pick 0 rfl ?_ | refine perm_pick 1 rfl ?_ | refine perm_pick 2 rfl ?_ | refine perm_pick 3 rfl ?_ | refine perm_pick 4 rfl ?_ | refine perm_pick 5 rfl ?_ | refine perm_pick 6 rfl ?_ | refine perm_pick 7 rfl ?_ | refine perm_pick 8 rfl ?_ | refine perm_pick 9 rfl ?_ | refine perm_pick 10 rfl ?_ | refine perm_pick 11 rfl ?_)))))) ?_; clear hA hH; rintro _ w ⟨oI2, cI2, rfl, hH⟩; refine ⟨hKP hH.tail, ?_⟩; intro a hA)
          (apply dl_op hA rfl rfl rfl (by decide); apply op_sliceLit (xs := [v1]) (vs := [v1]); rfl; rfl; exact .c1 h1v .nil; rfl; rfl; rfl; exact hH; clear hA hH; rintro _ w ⟨oB, rfl, hH⟩; refine ⟨hKP hH.tail.tail, ?_⟩; intro a hA)
          (refine dl_op hA rfl rfl rfl (by decide) (op_call rfl rfl rfl (hIV _ _ _ (hH.perm (H' := own 137 1 oV xs.length cV us :: own 137 1 oB 1 1 [v1] :: cb bR 196 [.slice oI ns.length cI, .slice oV xs.length cV] :: frz w0 c.K :: cb b5 57 (encSt r) :: own 2 1 oI2 (ns.length + 1) cI2 (flat Fw.encI (ns.insertIdx (bsI ns r.n) r.n)) :: cb bM TM (encW g kd wd.inp oO wd.out.length cO ++ rest) :: own 5 1 oO wd.out.length cO (flat encY wd.out) :: all (sx.map obI) :: H) (by (repeat (first | exact List.Perm.refl _ | exact List.Perm.nil | refine perm_pick 0 rfl ?_ | refine perm_pick 1 rfl ?_ | refine perm_pick 2 rfl ?_ | refine perm_pick 3 rfl ?_ | refine perm_pick 4 rfl ?_ | refine perm_pick 5 rfl ?_ | refine perm_pick 6 rfl ?_ | refine perm_pick 7 rfl ?_ | refine perm_pick 8 rfl ?_ | refine perm_pick 9 rfl ?_ | refine perm_pick 10 rfl ?_ | refine perm_pick 11 rfl ?_)))))) ?_; clear hA hH; rintro _ w ⟨oV2, cV2, rfl, hH⟩; refine ⟨hKP hH.tail, ?_⟩; intro a hA)
          (apply dl_nil; (repeat' (first | (refine QT ?_; clear hA a; intro a hA) | (apply dr_op03 hA rfl rfl rfl; apply op_store_fld (cs' := [.slice oI2 (ns.length + 1) cI2, .slice oV xs.length cV]); rfl; rfl; rfl; exact hH; (repeat constructor); clear hH; rintro _ w hH) | (apply dr_op03 hA rfl rfl rfl; apply op_store_fld (cs' := [.slice oI2 (ns.length + 1) cI2, .slice oV2 (xs.length + 1) cV2]); rfl; rfl; rfl; exact hH; (repeat constructor); clear hH; rintro _ w hH) | (refine CT ?_ <;> repeat' refine CT ?_))); (repeat' (first | ((first | apply st_ex hA hH rfl rfl (by decide) | apply dr_ex hA rfl rfl rfl (by decide) | apply dr_exp hA rfl rfl rfl (by decide) | apply dr_ex3 hA hH rfl rfl rfl (by decide)); (first | (apply ex_iface; rfl)); clear hA a; intro a hA) | (refine QT ?_; clear hA a; intro a hA) | (refine CT ?_ <;> repeat' refine CT ?_))); rw [← hq1] at hH; exact rt2 (.inl rfl) rfl hA rfl rfl (Wst.rec_ (p := bR) ((hH.perm (H' := cb bR 196 [.slice oI2 (ns.length + 1) cI2, .slice oV2 (ns.length + 1) cV2] :: own 2 1 oI2 (ns.length + 1) cI2 (flat Fw.encI (ns.insertIdx (bsI ns r.n) r.n)) :: own 137 1 oV2 (ns.length + 1) cV2 (us.take (bsI ns r.n) ++ [v1] ++ us.drop (bsI ns r.n)) :: cb bM TM (encW g kd wd.inp oO wd.out.length cO ++ rest) :: own 5 1 oO wd.out.length cO (flat encY wd.out) :: frz w0 c.K :: all (sx.map obI) :: cb b5 57 (encSt r) :: H) (by (repeat (first | exact List.Perm.refl _ | exact List.Perm.nil | refine perm_pick 0 rfl ?_ | refine perm_pick 1 rfl ?_ | refine perm_pick 2 rfl ?_ | refine perm_pick 3 rfl ?_ | refine perm_pick 4 rfl ?_ | refine perm_pick 5 rfl ?_ | refine perm_pick 6 rfl ?_ | refine perm_pick 7 rfl ?_ | refine perm_pick 8 rfl ?_ | refine perm_pick 9 rfl ?_ | refine perm_pick 10 rfl ?_ | refine perm_pick 11 rfl ?_)))).rm 7) hn1 (by rw [ins_len' (by omega)]; omega) (by omega) (RVs.ins hus hx1 (by omega)) hS e rfl))
        · (apply dl_op hA rfl rfl rfl (by decide); apply op_sliceLit (xs := [v1]) (vs := [v1]); rfl; rfl; exact .c1 h1v .nil; rfl; rfl; rfl; exact hH; clear hA hH; rintro _ w ⟨oB, rfl, hH⟩; refine ⟨hKP hH.tail.tail, ?_⟩; intro a hA)
          (refine dl_op hA rfl rfl rfl (by decide) (op_call rfl rfl rfl (hII _ _ _ (hH.perm (H' := own 2 1 oI ns.length cI (flat Fw.encI ns) :: own 2 1 oA 1 1 [.int .i64 r.n] :: cb bR 196 [.slice oI ns.length cI, .slice oV xs.length cV] :: frz w0 c.K :: cb b5 57 (encSt r) :: own 137 1 oB 1 1 [v1] :: own 137 1 oV xs.length cV us :: cb bM TM (encW g kd wd.inp oO wd.out.length cO ++ rest) :: own 5 1 oO wd.out.length cO (flat encY wd.out) :: all (sx.map obI) :: H) (by (repeat (first | exact List.Perm.refl _ | exact List.Perm.nil | refine perm_pick 0 rfl ?_ | refine perm_pick 1 rfl ?_ | refine perm_pick 2 rfl ?_ | refine perm_pick 3 rfl ?_ | refine perm_pick 4 rfl ?_ | refine perm_pick 5 rfl ?_ | refine perm_pick 6 rfl ?_ | refine perm_pick 7 rfl ?_ | refine perm_pick 8 rfl ?_ | refine perm_pick 9 rfl ?_ | refine perm_pick 10 rfl ?_ | refine perm_pick 11 rfl ?_)))))) ?_; clear hA hH; rintro _ w ⟨oI2, cI2, rfl, hH⟩; refine ⟨hKP hH.tail, ?_⟩; intro a hA)
          (refine dl_op hA rfl rfl rfl (by decide) (op_call rfl rfl rfl (hIV _ _ _ (hH.perm (H' := own 137 1 oV xs.length cV us :: own 137 1 oB 1 1 [v1] :: cb bR 196 [.slice oI ns.length cI, .slice oV xs.length cV] :: frz w0 c.K :: cb b5 57 (encSt r) :: own 2 1 oI2 (ns.length + 1) cI2 (flat Fw.encI (ns.insertIdx (bsI ns r.n) r.n)) :: cb bM TM (encW g kd wd.inp oO wd.out.length cO ++ rest) :: own 5 1 oO wd.out.length cO (flat encY wd.out) :: all (sx.map obI) :: H) (by (repeat (first | exact List.Perm.refl _ | exact List.Perm.nil | refine perm_pick 0 rfl ?_ | refine perm_pick 1 rfl ?_ | refine perm_pick 2 rfl ?_ | refine perm_pick 3 rfl ?_ | refine perm_pick 4 rfl ?_ | refine perm_pick 5 rfl ?_ | refine perm_pick 6 rfl ?_ | refine perm_pick 7 rfl ?_ | refine perm_pick 8 rfl ?_ | refine perm_pick 9 rfl ?_ | refine perm_pick 10 rfl ?_ | refine perm_pick 11 rfl ?_)))))) ?_; clear hA hH; rintro _ w ⟨oV2, cV2, rfl, hH⟩; refine ⟨hKP hH.tail, ?_⟩; intro a hA)
          (apply dl_nil; (repeat' (first | (refine QT ?_; clear hA a; intro a hA) | (apply dr_op03 hA rfl rfl rfl; apply op_store_fld (cs' := [.slice oI2 (ns.length + 1) cI2, .slice oV xs.length cV]); rfl; rfl; rfl; exact hH; (repeat constructor); clear hH; rintro _ w hH) | (apply dr_op03 hA rfl rfl rfl; apply op_store_fld (cs' := [.slice oI2 (ns.length + 1) cI2, .slice oV2 (xs.length + 1) cV2]); rfl; rfl; rfl; exact hH; (repeat constructor); clear hH; rintro _ w hH) | (refine CT ?_ <;> repeat' refine CT ?_))); (repeat' (first | ((first | apply st_ex hA hH rfl rfl (by decide) | apply dr_ex hA rfl rfl rfl (by decide) | apply dr_exp hA rfl rfl rfl (by decide) | apply dr_ex3 hA hH rfl rfl rfl (by decide)); (first | (apply ex_iface; rfl)); clear hA a; intro a hA) | (refine QT ?_; clear hA a; intro a hA) | (refine CT ?_ <;> repeat' refine CT ?_))); rw [← hq1] at hH; exact rt2 (.inl rfl) rfl hA rfl rfl (Wst.rec_ (p := bR) ((hH.perm (H' := cb bR 196 [.slice oI2 (ns.length + 1) cI2, .slice oV2 (ns.length + 1) cV2] :: own 2 1 oI2 (ns.length + 1) cI2 (flat Fw.encI (ns.insertIdx (bsI ns r.n) r.n)) :: own 137 1 oV2 (ns.length + 1) cV2 (us.take (bsI ns r.n) ++ [v1] ++ us.drop (bsI ns r.n)) :: cb bM TM (encW g kd wd.inp oO wd.out.length cO ++ rest) :: own 5 1 oO wd.out.length cO (flat encY wd.out) :: frz w0 c.K :: all (sx.map obI) :: cb b5 57 (encSt r) :: H) (by (repeat (first | exact List.Perm.refl _ | exact List.Perm.nil | refine perm_pick 0 rfl ?_ | refine perm_pick 1 rfl ?_ | refine perm_pick 2 rfl ?_ | refine perm_pick 3 rfl ?_ | refine perm_pick 4 rfl ?_ | refine perm_pick 5 rfl ?_ | refine perm_pick 6 rfl ?_ | refine perm_pick 7 rfl ?_ | refine perm_pick 8 rfl ?_ | refine perm_pick 9 rfl ?_ | refine perm_pick 10 rfl ?_ | refine perm_pick 11 rfl ?_)))).rm 7) hn1 (by rw [ins_len' (by omega)]; omega) (by omega) (RVs.ins hus hx1 (by omega)) hS e rfl))
      · (apply dl_op hA rfl rfl rfl (by decide); apply op_sliceLit (xs := [v1]) (vs := [v1]); rfl; rfl; exact .c1 h1v .nil; rfl; rfl; rfl; exact hH; clear hA hH; rintro _ w ⟨oB, rfl, hH⟩; refine ⟨hKP hH.tail, ?_⟩; intro a hA)
        (apply dl_op hA rfl rfl rfl (by decide); apply op_sliceLit (xs := [.int .i64 r.n]) (vs := [.int .i64 r.n]); rfl; rfl; exact CATST; rfl; rfl; rfl; exact hH; clear hA hH; rintro _ w ⟨oA, rfl, hH⟩; refine ⟨hKP hH.tail.tail, ?_⟩; intro a hA)
        (refine dl_op hA rfl rfl rfl (by decide) (op_call rfl rfl rfl (hII _ _ _ (hH.perm (H' := own 2 1 oI ns.length cI (flat Fw.encI ns) :: own 2 1 oA 1 1 [.int .i64 r.n] :: cb bR 196 [.slice oI ns.length cI, .slice oV xs.length cV] :: frz w0 c.K :: cb b5 57 (encSt r) :: own 137 1 oB 1 1 [v1] :: own 137 1 oV xs.length cV us :: cb bM TM (encW g kd wd.inp oO wd.out.length cO ++ rest) :: own 5 1 oO wd.out.length cO (flat encY wd.out) :: all (sx.map obI) :: H) (by (repeat (first | exact List.Perm.refl _ | exact List.Perm.nil | refine perm_pick 0 rfl ?_ | refine perm_pick 1 rfl ?_ | refine perm_pick 2 rfl ?_ | refine perm_pick 3 rfl ?_ | refine perm_pick 4 rfl ?_ | refine perm_pick 5 rfl ?_ | refine perm_pick 6 rfl ?_ | refine perm_pick 7 rfl ?_ | refine perm_pick 8 rfl ?_ | refine perm_pick 9 rfl ?_ | refine perm_pick 10 rfl ?_ | refine perm_pick 11 rfl ?_)))))) ?_; clear hA hH; rintro _ w ⟨oI2, cI2, rfl, hH⟩; refine ⟨hKP hH.tail, ?_⟩; intro a hA)
        (refine dl_op hA rfl rfl rfl (by decide) (op_call rfl rfl rfl (hIV _ _ _ (hH.perm (H' := own 137 1 oV xs.length cV us :: own 137 1 oB 1 1 [v1] :: cb bR 196 [.slice oI ns.length cI, .slice oV xs.length cV] :: frz w0 c.K :: cb b5 57 (encSt r) :: own 2 1 oI2 (ns.length + 1) cI2 (flat Fw.encI (ns.insertIdx (bsI ns r.n) r.n)) :: cb bM TM (encW g kd wd.inp oO wd.out.length cO ++ rest) :: own 5 1 oO wd.out.length cO (flat encY wd.out) :: all (sx.map obI) :: H) (by (repeat (first | exact List.Perm.refl _ | exact List.Perm.nil | refine perm_pick 0 rfl ?_ | refine perm_pick 1 rfl ?_ | refine perm_pick 2 rfl ?_ | refine perm_pick 3 rfl ?_ | refine perm_pick 4 rfl ?_ | refine perm_pick 5 rfl ?_ | refine perm_pick 6 rfl ?_ | refine perm_pick 7 rfl ?_ | refine perm_pick 8 rfl ?_ | refine perm_pick 9 rfl ?_ | refine perm_pick 10 rfl ?_ | refine perm_pick 11 rfl ?_)))))) ?_; clear hA hH; rintro _ w ⟨oV2, cV2, rfl, hH⟩; refine ⟨hKP hH.tail, ?_⟩; intro a hA)
        (apply dl_nil; (repeat' (first | (refine QT ?_; clear hA a; intro a hA) | (apply dr_op03 hA rfl rfl rfl; apply op_store_fld (cs' := [.slice oI2 (ns.length + 1) cI2, .slice oV xs.length cV]); rfl; rfl; rfl; exact hH; (repeat constructor); clear hH; rintro _ w hH) | (apply dr_op03 hA rfl rfl rfl; apply op_store_fld (cs' := [.slice oI2 (ns.length + 1) cI2, .slice oV2 (xs.length + 1) cV2]); rfl; rfl; rfl; exact hH; (repeat constructor); clear hH; rintro _ w hH) | (refine CT ?_ <;> repeat' refine CT ?_))); (repeat' (first | ((first | apply st_ex hA hH rfl rfl (by decide) | apply dr_ex hA rfl rfl rfl (by decide) | apply dr_exp hA rfl rfl rfl (by decide) | apply dr_ex3 hA hH rfl rfl rfl (by decide)); (first | (apply ex_iface; rfl)); clear hA a; intro a hA) | (refine QT ?_; clear hA a; intro a hA) | (refine CT ?_ <;> repeat' refine CT ?_))); rw [← hq1] at hH; exact rt2 (.inl rfl) rfl hA rfl rfl (Wst.rec_ (p := bR) ((hH.perm (H' := cb bR 196 [.slice oI2 (ns.length + 1) cI2, .slice oV2 (ns.length + 1) cV2] :: own 2 1 oI2 (ns.length + 1) cI2 (flat Fw.encI (ns.insertIdx (bsI ns r.n) r.n)) :: own 137 1 oV2 (ns.length + 1) cV2 (us.take (bsI ns r.n) ++ [v1] ++ us.drop (bsI ns r.n)) :: cb bM TM (encW g kd wd.inp oO wd.out.length cO ++ rest) :: own 5 1 oO wd.out.length cO (flat encY wd.out) :: frz w0 c.K :: all (sx.map obI) :: cb b5 57 (encSt r) :: H) (by (repeat (first | exact List.Perm.refl _ | exact List.Perm.nil | refine perm_pick 0 rfl ?_ | refine perm_pick 1 rfl ?_ | refine perm_pick 2 rfl ?_ | refine perm_pick 3 rfl ?_ | refine perm_pick 4 rfl ?_ | refine perm_pick 5 rfl ?_ | refine perm_pick 6 rfl ?_ | refine perm_pick 7 rfl ?_ | refine perm_pick 8 rfl ?_ | refine perm_pick 9 rfl ?_ | refine perm_pick 10 rfl ?_ | refine perm_pick 11 rfl ?_)))).rm 7) hn1 (by rw [ins_len' (by omega)]; omega) (by omega) (RVs.ins hus hx1 (by omega)) hS e rfl))
    exact fun a w h => h.elim
end Go.Proofs.YtenlcdokaadobaaGreatDoor
namespace Go.Proofs.YtenlcdokaadobaaGreatDoor
open Go Go.Fw
set_option linter.unusedVariables false
theorem Plain_spec (w0 w : World) (H : List It) (c : Cx) (TM bM : Nat) (g : Grs) (kd : Int) (rest : List Value) (caps : List Int) (mine : Int) (r : Stp) (l : List Vl) (vs : List Value) (oL oO : Option Addr) (cL cO : Nat) (wd : Wd) (sx : Sx) (f : Int) (cs : List Vl) (pc : Nat)
    (hH : HS w0 noM (cb bM TM (encW g kd wd.inp oO wd.out.length cO ++ rest) :: own 5 1 oO wd.out.length cO (flat encY wd.out) :: frz w0 c.K :: all (sx.map obI) :: H) w) (hL : ∀ w, c.K w → Rd w oL vs) (hlc : vs.length ≤ cL ∧ cL ≤ maxLen) (hV : RVs c l vs) (hS : StR c sx wd.st) (hF : FormP g caps mine r) (hrl : l.length = r.a.l.length) (hnf : c.nf = caps.length) (hcf : FnR c f cs pc)
    (hK0 : ∀ w, c.K w → Kp w0 noM w) (hN : RdV w0 Fw.encI r.ns) (hbn : r.ns.l.length ≤ c.bd) (hbd : c.bd ≤ 1000000) (hout : wd.out.length ≤ 1000000) (hlab : g.ts.l.length ≤ 9223372036854775807) (hk : r.k ≠ 3 ∧ r.k ≠ 13 ∧ r.k ≠ 14) :
    Ret Tryz.prog 50 #[.pointer (some (bat bM 0)), .agg (encSt r).toArray, .slice oL vs.length cL, .pointer (some (bat pc 0))] w (fun v w' => Wst w0 c TM bM g kd rest H (plainF r l cs wd) wd v w') := by
  have h1 := hF.lo
  have h2 := hF.hi
  have hc : r.k = 1 ∨ r.k = 2 ∨ r.k = 4 ∨ r.k = 5 ∨ r.k = 6 ∨ r.k = 7 ∨ r.k = 8 ∨ r.k = 9 ∨ r.k = 10 ∨ r.k = 11 ∨ r.k = 12 := by omega
  rcases hc with h | h | h | h | h | h | h | h | h | h | h
  · exact Plain1_spec w0 w H c TM bM g kd rest caps mine r l vs oL oO cL cO wd sx f cs pc hH hL hlc hV hS hF hrl hnf hcf hK0 hN hbn hbd hout hlab h
  · exact Plain2_spec w0 w H c TM bM g kd rest caps mine r l vs oL oO cL cO wd sx f cs pc hH hL hlc hV hS hF hrl hnf hcf hK0 hN hbn hbd hout hlab h
  · exact Plain4_spec w0 w H c TM bM g kd rest caps mine r l vs oL oO cL cO wd sx f cs pc hH hL hlc hV hS hF hrl hnf hcf hK0 hN hbn hbd hout hlab h
  · exact Plain5_spec w0 w H c TM bM g kd rest caps mine r l vs oL oO cL cO wd sx f cs pc hH hL hlc hV hS hF hrl hnf hcf hK0 hN hbn hbd hout hlab h
  · exact Plain6_spec w0 w H c TM bM g kd rest caps mine r l vs oL oO cL cO wd sx f cs pc hH hL hlc hV hS hF hrl hnf hcf hK0 hN hbn hbd hout hlab h
  · exact Plain7_spec w0 w H c TM bM g kd rest caps mine r l vs oL oO cL cO wd sx f cs pc hH hL hlc hV hS hF hrl hnf hcf hK0 hN hbn hbd hout hlab h
  · exact Plain8_spec w0 w H c TM bM g kd rest caps mine r l vs oL oO cL cO wd sx f cs pc hH hL hlc hV hS hF hrl hnf hcf hK0 hN hbn hbd hout hlab h
  · exact Plain9_spec w0 w H c TM bM g kd rest caps mine r l vs oL oO cL cO wd sx f cs pc hH hL hlc hV hS hF hrl hnf hcf hK0 hN hbn hbd hout hlab h
  · exact Plain10_spec w0 w H c TM bM g kd rest caps mine r l vs oL oO cL cO wd sx f cs pc hH hL hlc hV hS hF hrl hnf hcf hK0 hN hbn hbd hout hlab h
  · exact Plain11_spec w0 w H c TM bM g kd rest caps mine r l vs oL oO cL cO wd sx f cs pc hH hL hlc hV hS hF hrl hnf hcf hK0 hN hbn hbd hout hlab h
  · exact Plain12_spec w0 w H c TM bM g kd rest caps mine r l vs oL oO cL cO wd sx f cs pc hH hL hlc hV hS hF hrl hnf hcf hK0 hN hbn hbd hout hlab h
set_option maxRecDepth 10000 attribute [local irreducible] Code.wp wpList Calls Ex Op1 sat bat blk cb own Go.Fw.mp Go.Fw.mpO Go.Fw.mpI Go.Fw.mpE Go.Fw.itr HS Rd Ret wkD Hp Cl Cls Exit.then Exit.inBlock Exit.noGoto bodyPost Go.Fw.flat wk2 Go.Fw.all Go.Fw.owns wpOp
attribute [local irreducible] sk mpK sko mvO entK opM Go.Fw.mset Go.Fw.mv opK w63 frz obI RV idxF

set_option maxHeartbeats 4000000 in
theorem Exn_spec (w0 w : World) (H : List It) (TM bM : Nat) (cs rest : List Value) (xs : Vec ByteArray) (s : ByteArray) (hH : HS w0 noM (cb bM TM (.slice xs.o xs.l.length xs.c :: rest) :: H) w) (hR : RdV w0 encX xs) :
    Ret Tryz.prog 52 #[.pointer (some (bat bM 0)), .string s] w (fun v w' => v = .int .i64 (idxF xs.l s) ∧ HS w0 noM (cb bM TM (.slice xs.o xs.l.length xs.c :: rest) :: H) w') := by
  (refine enter (N := 11) Tryz.func52 rfl Tryz.ntmps52 rfl ?_; intro a hA; dsimp only [sl0, Nat.reduceAdd] at hA)
  repeat' (first | (refine QT ?_; clear hA a; intro a hA) | (refine CT ?_ <;> repeat' refine CT ?_))
  (refine st_op hA rfl rfl (by decide) (op_call rfl rfl rfl (indexX_spec _ xs s (hR.keep hH.kp))) ?_; clear hA; rintro _ w ⟨rfl, hk⟩ a hA; replace hH := hH.keep hk; clear hk)
  repeat' (first | (refine QT ?_; clear hA a; intro a hA) | (refine CT ?_ <;> repeat' refine CT ?_))
  exact rt1 (.inl rfl) rfl hA rfl ⟨rfl, hH⟩
end Go.Proofs.YtenlcdokaadobaaGreatDoor
namespace Go.Proofs.YtenlcdokaadobaaGreatDoor
open Go Go.Fw
set_option linter.unusedVariables false
def plk (m : List (Int × Vl)) (k : Int) : Option Vl := (m.find? (fun e => e.1 == k)).map (·.2)
def OptR (c : Cx) : Option Vl → Option Value → Prop
  | none, none => True
  | some x, some v => RV c x v
  | _, _ => False
def MapR (c : Cx) (vs : List (Int × Vl)) (m : List (Int × Value)) : Prop := ∀ k, OptR c (plk vs k) (mv m k)
theorem OptR.mono {c d : Cx} (h : c.le d) : ∀ {x : Option Vl} {v : Option Value}, OptR c x v → OptR d x v
  | none, none, _ => trivial
  | some x, some v, hx => RV.mono h x v hx
  | none, some _, hx => hx.elim
  | some _, none, hx => hx.elim
theorem MapR.mono {c d : Cx} (h : c.le d) {vs : List (Int × Vl)} {m : List (Int × Value)} (hm : MapR c vs m) : MapR d vs m := fun k => (hm k).mono h
theorem MapR.get {c : Cx} {vs : List (Int × Vl)} {m : List (Int × Value)} (h : MapR c vs m) (k : Int) : RV c (pget vs k) ((mv m k).getD .nilIface) := by
  have h1 := h k
  unfold pget
  unfold plk at h1
  cases h2 : (vs.find? (fun e => e.1 == k)).map (·.2) with
  | none =>
    rw [h2] at h1
    cases h3 : mv m k with
    | none => show RV c .nil .nilIface; rw [RV]
    | some v => rw [h3] at h1; exact h1.elim
  | some x =>
    rw [h2] at h1
    cases h3 : mv m k with
    | none => rw [h3] at h1; exact h1.elim
    | some v => rw [h3] at h1; exact h1
theorem find_map_set {α : Type} (k j : Int) (v : α) : ∀ (m : List (Int × α)), (((m.map fun e => if e.1 == k then (k, v) else e).find? (fun e => e.1 == j)).map (·.2)) = if j = k then ((m.find? (fun e => e.1 == k)).map fun _ => v) else (m.find? (fun e => e.1 == j)).map (·.2)
  | [] => by simp
  | e :: m => by
    have ih := find_map_set k j v m
    rw [List.map_cons, List.find?_cons, List.find?_cons, List.find?_cons]
    by_cases h1 : e.1 = k
    · have hb : (e.1 == k) = true := by simpa using h1
      by_cases h2 : j = k
      · subst h2
        simp [hb]
      · have h3 : (k == j) = false := by simpa using fun h => h2 h.symm
        have h4 : (e.1 == j) = false := by rw [h1]; exact h3
        rw [if_neg h2] at ih ⊢
        simp only [hb, if_true, h3, h4]
        exact ih
    · have hb : (e.1 == k) = false := by simpa using h1
      simp only [hb]
      cases h2 : e.1 == j with
      | true =>
        have : j ≠ k := fun h => by
          have h3 : e.1 = j := by simpa using h2
          exact h1 (h3.trans h)
        rw [if_neg this]
        simp [h2]
      | false =>
        simp only [Bool.false_eq_true, if_false, h2]
        exact ih
theorem lk_set {α : Type} (m : List (Int × α)) (k j : Int) (v : α) : (((if ((m.find? (fun e => e.1 == k)).map (·.2)).isSome then m.map (fun e => if e.1 == k then (k, v) else e) else m ++ [(k, v)]).find? (fun e => e.1 == j)).map (·.2)) = if j = k then some v else (m.find? (fun e => e.1 == j)).map (·.2) := by
  cases hf : m.find? (fun e => e.1 == k) with
  | some e =>
    rw [if_pos (by rfl), find_map_set, hf]
    rfl
  | none =>
    rw [if_neg (by simp), List.find?_append]
    by_cases h : j = k
    · subst h
      rw [hf, if_pos rfl]
      simp
    · rw [if_neg h]
      have h3 : (k == j) = false := by simpa using fun h' => h h'.symm
      cases hg : m.find? (fun e => e.1 == j) with
      | some e => rfl
      | none => simp [h3]
theorem mv_mset (m : List (Int × Value)) (k j : Int) (v : Value) : mv (mset m k v) j = if j = k then some v else mv m j := lk_set m k j v
theorem plk_pset (m : List (Int × Vl)) (k j : Int) (v : Vl) : plk (pset m k v) j = if j = k then some v else plk m j := by
  have h := lk_set m k j v
  unfold plk pset
  rw [← h]
  congr 3
  cases m.find? (fun e => e.1 == k) <;> rfl
theorem MapR.set {c : Cx} {vs : List (Int × Vl)} {m : List (Int × Value)} {x : Vl} {v : Value} (h : MapR c vs m) (k : Int) (hx : RV c x v) : MapR c (pset vs k x) (mset m k v) := fun j => by
  rw [plk_pset, mv_mset]
  by_cases hj : j = k
  · rw [if_pos hj, if_pos hj]; exact hx
  · rw [if_neg hj, if_neg hj]; exact h j
theorem MapR.nil (c : Cx) : MapR c [] [] := fun k => trivial
theorem MapR.swap {c : Cx} {vs : List (Int × Vl)} {m : List (Int × Value)} {k1 k2 : Int} {x1 x2 : Vl} {v1 v2 : Value} (h : MapR c vs m) (hk : k1 ≠ k2) (h1 : RV c x1 v1) (h2 : RV c x2 v2) : MapR c (pset (pset vs k1 x1) k2 x2) (mset (mset m k2 v2) k1 v1) := fun j => by
  rw [plk_pset, plk_pset, mv_mset, mv_mset]
  by_cases hj1 : j = k1
  · rw [if_neg (by omega), if_pos hj1, if_pos hj1]; exact h1
  · rw [if_neg hj1, if_neg hj1]
    by_cases hj2 : j = k2
    · rw [if_pos hj2, if_pos hj2]; exact h2
    · rw [if_neg hj2, if_neg hj2]; exact h j
def encR (g : Grs) (fuel : Int) (oS : Option Addr) (nS cS pc bv : Nat) (pb : Option Addr) (i : Int) (ph e : Option Addr) : List Value :=
  [.slice g.fs.o g.fs.l.length g.fs.c, .slice g.ls.o g.ls.l.length g.ls.c, .slice g.ts.o g.ts.l.length g.ts.c, .slice g.xs.o g.xs.l.length g.xs.c, .slice g.ss.o g.ss.l.length g.ss.c,
   .int .i64 fuel, .slice oS nS cS, .pointer (some (bat pc 0)), .map (some bv), .pointer pb, .int .i64 i, .pointer ph, .pointer e]
def atW (g : Grs) (a : Atm) : Prop := iok a.n ∧ (a.k = 3 → 0 ≤ a.n ∧ a.n < g.ss.l.length)
theorem get_1 {g : Grs} {fm : Fm} {a : Atm} (h : a.k = 1) : getF g fm a = pget fm.vs a.n := if_pos h
theorem get_3 {g : Grs} {fm : Fm} {a : Atm} (h : a.k = 3) : getF g fm a = .txt (g.ss.l.getD a.n.toNat default) := by unfold getF; rw [if_neg (by omega), if_pos h]
theorem get_2 {g : Grs} {fm : Fm} {a : Atm} (h : a.k ≠ 1) (h3 : a.k ≠ 3) : getF g fm a = .num a.n := by unfold getF; rw [if_neg h, if_neg h3]
theorem all_next {g : Grs} {fm : Fm} {l : List Atm} {i : Nat} {a : Atm} (h : l[i]? = some a) : allF g fm (l.take (i + 1)) = allF g fm (l.take i) ++ [getF g fm a] := by
  unfold allF
  rw [take_snoc h, List.map_append]
  rfl
set_option maxRecDepth 10000 attribute [local irreducible] Code.wp wpList Calls Ex Op1 sat bat blk cb own Go.Fw.mp Go.Fw.mpO Go.Fw.mpI Go.Fw.mpE Go.Fw.itr HS Rd Ret wkD Hp Cl Cls Exit.then Exit.inBlock Exit.noGoto bodyPost Go.Fw.flat wk2 Go.Fw.all Go.Fw.owns wpOp
attribute [local irreducible] sk mpK sko mvO entK opM Go.Fw.mset Go.Fw.mv opK w63 frz obI RV idxF

set_option maxHeartbeats 8000000 in
theorem get_spec (w0 w : World) (H : List It) (c : Cx) (bM : Nat) (g : Grs) (kd : Int) (s : ByteArray) (oO oS : Option Addr) (nO cO nS cS pc bv : Nat) (fuel pi : Int) (pb ph pe : Option Addr) (fm : Fm) (m : List (Int × Value)) (a : Atm)
    (hH : HS w0 noM (cb bM 86 (encW g kd s oO nO cO ++ encR g fuel oS nS cS pc bv pb pi ph pe) :: mp bv m :: H) w) (hM : MapR c fm.vs m) (ha : atW g a) (hss : RdV w0 encX g.ss) (hsz : ∀ s ∈ g.ss.l, s.size ≤ 4096) :
    Ret Tryz.prog 54 #[.pointer (some (bat bM 0)), .agg (encAt a).toArray] w (fun v w' => RV c (getF g fm a) v ∧ HS w0 noM (cb bM 86 (encW g kd s oO nO cO ++ encR g fuel oS nS cS pc bv pb pi ph pe) :: mp bv m :: H) w') := by
  have hsp : Sp g.ss.o g.ss.l.length := hss.1.sp (sz := 1) (flat_length encX_len _) (by omega)
  have hle := hss.le
  obtain ⟨x, hx⟩ : ∃ x, x = a := ⟨_, rfl⟩
  rw [← hx] at ha ⊢
  clear hx a
  (refine enter (N := 32) Tryz.func54 rfl Tryz.ntmps54 rfl ?_; intro a hA; dsimp only [sl0, Nat.reduceAdd] at hA)
  repeat' (first | (refine QT ?_; clear hA a; intro a hA) | (refine BT ?_; clear hA hH; rintro _ w ⟨bN, rfl, hH⟩ a hA) | ((first | refine CT ?_ | (refine DT ?_ ?_ <;> intro hc <;> try (exfalso; omega))) <;> repeat' refine CT ?_))
  · have hk : x.k = 1 := by assumption
    have hv := hM.get x.n
    (refine wp_draw_HS [(0, 1), (1, 1), (2, 1), (3, 1), (4, 1), (5, 1), (6, 1), (7, 1), (8, 1)] mixed (by decide +kernel) hH ?_; replace hH := hH.drew)
    repeat' (first | ((first | apply st_ex hA hH rfl rfl (by decide) | apply dr_ex hA rfl rfl rfl (by decide) | apply dr_exp hA rfl rfl rfl (by decide) | apply dr_ex3 hA hH rfl rfl rfl (by decide)); (first | (apply ex_lookup; rfl; rfl; exact MEMT)); clear hA a; intro a hA) | (refine QT ?_; clear hA a; intro a hA) | (refine CT ?_ <;> repeat' refine CT ?_))
    exact rt1 (.inl rfl) rfl hA rfl ⟨by rw [get_1 hk]; exact hv, hH.tail⟩
  · have hk : x.k = 3 := by assumption
    have hb := ha.2 hk
    (refine wp_draw_HS [(0, 1), (1, 1), (2, 1), (3, 1), (4, 1), (5, 1), (6, 1), (7, 1), (8, 1), (9, 1), (10, 1)] mixed (by decide +kernel) hH ?_; replace hH := hH.drew)
    repeat' (first | ((first | apply st_ex hA hH rfl rfl (by decide) | apply dr_ex hA rfl rfl rfl (by decide) | apply dr_exp hA rfl rfl rfl (by decide) | apply dr_ex3 hA hH rfl rfl rfl (by decide)); (first | (apply ex_indexAddr; rfl; rfl; omega; omega; exact hsp) | (apply ex_load; rfl; refine cl_rd hss.1 id (strs_at ?_); omega) | (apply ex_iface; rfl)); clear hA a; intro a hA) | (refine QT ?_; clear hA a; intro a hA) | (refine CT ?_ <;> repeat' refine CT ?_))
    exact rt1 (.inl rfl) rfl hA rfl ⟨by rw [get_3 hk]; exact RV_txt (hsz _ (getD_mem (by omega))), hH.tail⟩
  repeat' (first | ((first | apply st_ex hA hH rfl rfl (by decide) | apply dr_ex hA rfl rfl rfl (by decide) | apply dr_exp hA rfl rfl rfl (by decide) | apply dr_ex3 hA hH rfl rfl rfl (by decide)); (first | (apply ex_iface; rfl)); clear hA a; intro a hA) | (refine QT ?_; clear hA a; intro a hA) | (refine CT ?_ <;> repeat' refine CT ?_))
  exact rt1 (.inl rfl) rfl hA rfl ⟨by rw [get_2 (by assumption) (by assumption)]; exact RV_num ha.1, hH.tail⟩
set_option maxHeartbeats 8000000 in
theorem all_spec (w0 w : World) (H : List It) (c : Cx) (bM : Nat) (g : Grs) (kd : Int) (s : ByteArray) (oO oS : Option Addr) (nO cO nS cS pc bv : Nat) (fuel pi : Int) (pb ph pe : Option Addr) (fm : Fm) (m : List (Int × Value)) (v : Vec Atm)
    (hH : HS w0 noM (cb bM 86 (encW g kd s oO nO cO ++ encR g fuel oS nS cS pc bv pb pi ph pe) :: mp bv m :: H) w) (hM : MapR c fm.vs m) (ha : ∀ a ∈ v.l, atW g a) (hss : RdV w0 encX g.ss) (hsz : ∀ s ∈ g.ss.l, s.size ≤ 4096) (hR : RdV w0 encAt v) (hl : v.l.length ≤ 1048576) :
    Ret Tryz.prog 48 #[.pointer (some (bat bM 0)), .slice v.o v.l.length v.c] w (fun r w' => ∃ o k vs, r = .slice o vs.length k ∧ RVs c (allF g fm v.l) vs ∧ HS w0 noM (own 137 1 o vs.length k vs :: cb bM 86 (encW g kd s oO nO cO ++ encR g fuel oS nS cS pc bv pb pi ph pe) :: mp bv m :: H) w') := by
  have hsp : Sp v.o v.l.length := hR.1.sp (sz := 2) (flat_length encAt_len _) (by omega)
  (refine enter (N := 22) Tryz.func48 rfl Tryz.ntmps48 rfl ?_; intro a hA; dsimp only [sl0, Nat.reduceAdd] at hA)
  repeat' (first | (refine QT ?_; clear hA a; intro a hA) | (refine CT ?_ <;> repeat' refine CT ?_))
  refine wp_lpk (S := Nat) (fun i a w => ∃ o k vs, (i ≤ v.l.length ∧ RVs c (allF g fm (v.l.take i)) vs) ∧ HS w0 noM (own 137 1 o vs.length k vs :: cb bM 86 (encW g kd s oO nO cO ++ encR g fuel oS nS cS pc bv pb pi ph pe) :: mp bv m :: H) w ∧ Sl 22 [(10, .int .i64 i), (9, .int .i64 v.l.length), (8, .slice v.o v.l.length v.c), (5, .slice o vs.length k), (0, .pointer (some (bat bM 0)))] a) (fun i => v.l.length - i)
    (fun a w => ∃ o k vs, RVs c (allF g fm v.l) vs ∧ HS w0 noM (own 137 1 o vs.length k vs :: cb bM 86 (encW g kd s oO nO cO ++ encR g fuel oS nS cS pc bv pb pi ph pe) :: mp bv m :: H) w ∧ Sl 22 [(5, .slice o vs.length k)] a) 0 ⟨none, 0, [], ⟨Nat.zero_le _, RVs.nil⟩, hH.nil_own 137 1, (hA.sub (by (repeat (first | exact trivial | refine ⟨rfl, ?_⟩)); first | done | fail "sub"))⟩ ?_ ?_
  · clear hA hH
    rintro i a w ⟨o, k, vs, ⟨hi, hvs⟩, hH, hA⟩
    by_cases hlt : i < v.l.length
    rotate_left
    · obtain rfl : i = v.l.length := by omega
      rw [List.take_length] at hvs
      repeat' (first | (refine QT ?_; clear hA a; intro a hA) | ((first | refine CT ?_ | (refine DT ?_ ?_ <;> intro hc <;> try (exfalso; omega))) <;> repeat' refine CT ?_))
      exact ⟨o, k, vs, hvs, hH, (hA.sub (by (repeat (first | exact trivial | refine ⟨rfl, ?_⟩)); first | done | fail "sub"))⟩
    obtain ⟨x, hx⟩ : ∃ x, v.l[i]? = some x := ⟨_, List.getElem?_eq_getElem hlt⟩
    have hvx := flat_all encAt_len hx
    have hvl := hvs.len
    unfold allF at hvl
    rw [List.length_map, List.length_take] at hvl
    repeat' (first | ((first | apply st_ex hA hH rfl rfl (by decide) | apply dr_ex hA rfl rfl rfl (by decide) | apply dr_exp hA rfl rfl rfl (by decide) | apply dr_ex3 hA hH rfl rfl rfl (by decide)); (first | (apply ex_load_st (vs := encAt x); rfl; rfl; exact cls_rd hR.1 id hvx)); clear hA a; intro a hA) | (refine QT ?_; clear hA a; intro a hA) | (refine BT ?_; clear hA hH; rintro _ w ⟨bN, rfl, hH⟩ a hA) | (apply st_op0 hA rfl rfl; apply op_store_agg (vs := encAt x); rfl; rfl; exact hH; (repeat constructor); (repeat rfl); clear hH; rintro _ w hH) | ((first | refine CT ?_ | (refine DT ?_ ?_ <;> intro hc <;> try (exfalso; omega))) <;> repeat' refine CT ?_))
    (refine st_op hA rfl rfl (by decide) (op_call rfl rfl rfl (get_spec w0 w _ c bM g kd s oO oS nO cO nS cS pc bv fuel pi pb ph pe fm m x (hH.perm (H' := cb bM 86 (encW g kd s oO nO cO ++ encR g fuel oS nS cS pc bv pb pi ph pe) :: mp bv m :: cb bN 65 (encAt x) :: own 137 1 o vs.length k vs :: H) (by (repeat (first | exact List.Perm.refl _ | exact List.Perm.nil | refine perm_pick 0 rfl ?_ | refine perm_pick 1 rfl ?_ | refine perm_pick 2 rfl ?_ | refine perm_pick 3 rfl ?_ | refine perm_pick 4 rfl ?_ | refine perm_pick 5 rfl ?_ | refine perm_pick 6 rfl ?_ | refine perm_pick 7 rfl ?_ | refine perm_pick 8 rfl ?_ | refine perm_pick 9 rfl ?_ | refine perm_pick 10 rfl ?_ | refine perm_pick 11 rfl ?_)))) hM (ha x (List.mem_of_getElem? hx)) hss hsz)) ?_; clear hA hH; rintro u w ⟨hu, hH⟩ a hA)
    have h1u := hu.one
    (apply st_op hA rfl rfl (by decide); apply op_sliceLit (xs := [u]) (vs := [u]); rfl; rfl; exact .c1 h1u .nil; rfl; rfl; rfl; exact hH; clear hA hH; rintro _ w ⟨oN, rfl, hH⟩ a hA)
    have h1l : ([u] : List Value).all (·.oneCell') = true := by simp [h1u]
    (apply st_op hA rfl rfl (by decide); apply op_append; rfl; rfl; exact hH; exact MEMT; exact (hH.own_rd (T := 137) (List.Mem.head _)); exact rfl; rfl; decide; exact h1l; (unfold maxLen; omega); omega; clear hA; rintro _ w ⟨oN, cN, rfl, hH2⟩ a hA; clear hH; have hH := hH2 _ (by (repeat constructor)); clear hH2)
    repeat' (first | (refine QT ?_; clear hA a; intro a hA) | (refine CT ?_ <;> repeat' refine CT ?_))
    have hl1 : (vs ++ [u]).length = vs.length + 1 := by rw [List.length_append]; rfl
    rw [← hl1] at hA hH
    exact ⟨i + 1, ⟨_, _, vs ++ [u], ⟨hlt, by rw [all_next hx]; exact RVs.append hvs (RVs.one_ hu)⟩, ((hH.rm 0).rm 2).perm (by (repeat (first | exact List.Perm.refl _ | exact List.Perm.nil | refine perm_pick 0 rfl ?_ | refine perm_pick 1 rfl ?_ | refine perm_pick 2 rfl ?_ | refine perm_pick 3 rfl ?_ | refine perm_pick 4 rfl ?_ | refine perm_pick 5 rfl ?_ | refine perm_pick 6 rfl ?_ | refine perm_pick 7 rfl ?_ | refine perm_pick 8 rfl ?_ | refine perm_pick 9 rfl ?_ | refine perm_pick 10 rfl ?_ | refine perm_pick 11 rfl ?_))), (hA.sub (by (repeat (first | exact trivial | refine ⟨rfl, ?_⟩)); first | done | fail "sub"))⟩, by omega⟩
  clear hA hH
  rintro a w ⟨o, k, vs, hvs, hH, hA⟩
  repeat' (first | (refine QT ?_; clear hA a; intro a hA) | (refine CT ?_ <;> repeat' refine CT ?_))
  exact rt1 (.inl rfl) rfl hA rfl ⟨o, k, vs, rfl, hvs, hH⟩
end Go.Proofs.YtenlcdokaadobaaGreatDoor
