/-
  rt's Plain: moves, operations, closures, records, tags, texts alike. Conditions: none.
  rt's Plain: a record's field, a record with a field. Conditions: none.
  A region whose operations come up in one of several orders, and some of which come last. Conditions: none.
-/
import Derived.Test.YtenlcdokaadobaaGreatDoorRowFuelMg13
import Derived.Test.YtenlcdokaadobaaGreatDoorRowFuelMg6
namespace Go.Proofs.YtenlcdokaadobaaGreatDoor
open Go Go.Fw
set_option linter.unusedVariables false
theorem pl_1 {r : Stp} {l cs : List Vl} {wd : Wd} (h : r.k = 1) : plainF r l cs wd = .val (nth0 l 0) wd := by unfold plainF; rw [h]; rfl
theorem pl_2 {r : Stp} {l cs : List Vl} {wd : Wd} (h : r.k = 2) : plainF r l cs wd = opF r.n l wd := by unfold plainF; rw [h]; rfl
theorem pl_4 {r : Stp} {l cs : List Vl} {wd : Wd} (h : r.k = 4) : plainF r l cs wd = .val (.fn r.n l) wd := by unfold plainF; rw [h]; rfl
theorem pl_5 {r : Stp} {l cs : List Vl} {wd : Wd} (h : r.k = 5) : plainF r l cs wd = .val (nth0 cs r.n.toNat) wd := by unfold plainF; rw [h]; rfl
theorem pl_6 {r : Stp} {l cs : List Vl} {wd : Wd} (h : r.k = 6) : plainF r l cs wd = .val (.rc r.ns.l l) wd := by unfold plainF; rw [h]; rfl
theorem pl_7 {r : Stp} {l cs : List Vl} {wd : Wd} (h : r.k = 7) : plainF r l cs wd = (match asRc (nth0 l 0) with
    | some (ns, xs) => if bsB ns r.n then .val (.rc ns (xs.set (bsI ns r.n) (nth0 l 1))) wd else .val (.rc (ns.insertIdx (bsI ns r.n) r.n) (xs.insertIdx (bsI ns r.n) (nth0 l 1))) wd
    | none => stk wd) := by unfold plainF; rw [h]; rfl
theorem pl_8 {r : Stp} {l cs : List Vl} {wd : Wd} (h : r.k = 8) : plainF r l cs wd = (match asRc (nth0 l 0) with
    | some (ns, xs) => if bsB ns r.n then .val (nth0 xs (bsI ns r.n)) wd else stk wd
    | none => stk wd) := by unfold plainF; rw [h]; rfl
theorem pl_9 {r : Stp} {l cs : List Vl} {wd : Wd} (h : r.k = 9) : plainF r l cs wd = .val (.tg r.n (nth0 l 0)) wd := by unfold plainF; rw [h]; rfl
theorem pl_10 {r : Stp} {l cs : List Vl} {wd : Wd} (h : r.k = 10) : plainF r l cs wd = (match asTg (nth0 l 0) with
    | some (n, x) => .val (.num n) wd
    | none => stk wd) := by unfold plainF; rw [h]; rfl
theorem pl_11 {r : Stp} {l cs : List Vl} {wd : Wd} (h : r.k = 11) : plainF r l cs wd = (match asTg (nth0 l 0) with
    | some (n, x) => .val x wd
    | none => stk wd) := by unfold plainF; rw [h]; rfl
theorem pl_12 {r : Stp} {l cs : List Vl} {wd : Wd} (h : r.k = 12) : plainF r l cs wd = (match asTxt (nth0 l 0), asTxt (nth0 l 1) with
    | some s, some t => .val (.num (tru (eqS s t))) wd
    | _, _ => stk wd) := by unfold plainF; rw [h]; rfl
theorem RV_rc {c : Cx} {ns : List Int} {l : List Vl} {p cn cl : Nat} {on ol : Option Addr} {vs : List Value} (h1 : ns.length = l.length ∧ ns.length ≤ c.bd ∧ ns.length ≤ cn ∧ cn ≤ maxLen ∧ l.length ≤ cl ∧ cl ≤ maxLen) (h2 : ∀ w, c.K w → RdB w p [.slice on ns.length cn, .slice ol l.length cl]) (h3 : ∀ w, c.K w → Rd w on (flat Fw.encI ns)) (h4 : ∀ w, c.K w → Rd w ol vs) (h5 : RVs c l vs) : RV c (.rc ns l) (ptrV 194 p) := by
  rw [RV]
  exact ⟨p, on, cn, ol, cl, vs, rfl, h1, h2, h3, h4, h5⟩
theorem RV_tg {c : Cx} {n : Int} {x : Vl} {u : Value} {p : Nat} (h1 : iok n) (h2 : ∀ w, c.K w → RdB w p [.int .i64 n, u]) (h3 : RV c x u) : RV c (.tg n x) (ptrV 202 p) := by
  rw [RV]
  exact ⟨p, u, rfl, h1, h2, h3⟩
theorem Cx.more (c : Cx) (K1 : World → Prop) : c.le { c with K := fun w => K1 w ∧ c.K w } := ⟨fun w h => h.2, ⟨[], (List.append_nil _).symm⟩, Nat.le_refl _, rfl⟩
theorem StR.more {c : Cx} {sx : Sx} {st : List (List Vl)} (h : StR c sx st) (K1 : World → Prop) : StR { c with K := fun w => K1 w ∧ c.K w } sx st := h.le (c.more K1) rfl
set_option maxRecDepth 10000 attribute [local irreducible] Code.wp wpList Calls Ex Op1 sat bat blk cb own Go.Fw.mp Go.Fw.mpO Go.Fw.mpI Go.Fw.mpE Go.Fw.itr HS Rd Ret wkD Hp Cl Cls Exit.then Exit.inBlock Exit.noGoto bodyPost Go.Fw.flat wk2 Go.Fw.all Go.Fw.owns wpOp
attribute [local irreducible] sk mpK sko mvO entK opM Go.Fw.mset Go.Fw.mv opK w63 frz obI RV

set_option maxHeartbeats 16000000 in
theorem Plain1_spec (w0 w : World) (H : List It) (c : Cx) (TM bM : Nat) (g : Grs) (kd : Int) (rest : List Value) (caps : List Int) (mine : Int) (r : Stp) (l : List Vl) (vs : List Value) (oL oO : Option Addr) (cL cO : Nat) (wd : Wd) (sx : Sx) (f : Int) (cs : List Vl) (pc : Nat) (hH : HS w0 noM (cb bM TM (encW g kd wd.inp oO wd.out.length cO ++ rest) :: own 5 1 oO wd.out.length cO (flat encY wd.out) :: frz w0 c.K :: all (sx.map obI) :: H) w) (hL : ∀ w, c.K w → Rd w oL vs) (hlc : vs.length ≤ cL ∧ cL ≤ maxLen) (hV : RVs c l vs) (hS : StR c sx wd.st) (hF : FormP g caps mine r) (hrl : l.length = r.a.l.length) (hnf : c.nf = caps.length) (hcf : FnR c f cs pc) (hK0 : ∀ w, c.K w → Kp w0 noM w) (hN : RdV w0 Fw.encI r.ns) (hbn : r.ns.l.length ≤ c.bd) (hbd : c.bd ≤ 1000000) (hout : wd.out.length ≤ 1000000) (hlab : g.ts.l.length ≤ 9223372036854775807) (hk : r.k = 1) : Ret Tryz.prog 50 #[.pointer (some (bat bM 0)), .agg (encSt r).toArray, .slice oL vs.length cL, .pointer (some (bat pc 0))] w (fun v w' => Wst w0 c TM bM g kd rest H (plainF r l cs wd) wd v w') := by
  have hvl := hV.len
  have hw := hF.want
  have hnum := hF.num
  have hsp : Sp oL vs.length := (hL w (hH.frz (by exact MEMT))).sp (sz := 1) (by omega) (by omega)
  have e := pl_1 (r := r) (l := l) (cs := cs) (wd := wd) hk
  rw [(w_1 (g := g) (mine := mine) (.inl hk)).1] at hw
  rw [(w_1 (g := g) (mine := mine) (.inl hk)).2] at hnum
  obtain ⟨v0, hv0, hx0⟩ := hV.get0 (i := 0) (by omega)
  (refine enter (N := 238) Tryz.func50 rfl Tryz.ntmps50 rfl ?_; intro a hA; dsimp only [sl0, Nat.reduceAdd] at hA)
  repeat' (first | ((first | apply st_ex hA hH rfl rfl (by decide) | apply dr_ex hA rfl rfl rfl (by decide) | apply dr_exp hA rfl rfl rfl (by decide) | apply dr_ex3 hA hH rfl rfl rfl (by decide)); (first | (apply ex_indexAddr; rfl; rfl; decide; omega; exact hsp) | (apply ex_load; rfl; exact cl_frz MEMT hL hv0) | (apply ex_iface; rfl)); clear hA a; intro a hA) | (refine QT ?_; clear hA a; intro a hA) | (refine BT ?_; clear hA hH; rintro _ w ⟨bN, rfl, hH⟩ a hA) | ((first | refine CT ?_ | (refine DT ?_ ?_ <;> intro hc <;> try (exfalso; omega))) <;> repeat' refine CT ?_))
  exact rt2 (.inl rfl) rfl hA rfl rfl (Wst.same c.le_refl (hH.tail) (RsV_val e hx0 rfl) (by rw [e]; exact hS) (by rw [e]; rfl) (by rw [e]; rfl))
set_option maxHeartbeats 16000000 in
theorem Plain4_spec (w0 w : World) (H : List It) (c : Cx) (TM bM : Nat) (g : Grs) (kd : Int) (rest : List Value) (caps : List Int) (mine : Int) (r : Stp) (l : List Vl) (vs : List Value) (oL oO : Option Addr) (cL cO : Nat) (wd : Wd) (sx : Sx) (f : Int) (cs : List Vl) (pc : Nat) (hH : HS w0 noM (cb bM TM (encW g kd wd.inp oO wd.out.length cO ++ rest) :: own 5 1 oO wd.out.length cO (flat encY wd.out) :: frz w0 c.K :: all (sx.map obI) :: H) w) (hL : ∀ w, c.K w → Rd w oL vs) (hlc : vs.length ≤ cL ∧ cL ≤ maxLen) (hV : RVs c l vs) (hS : StR c sx wd.st) (hF : FormP g caps mine r) (hrl : l.length = r.a.l.length) (hnf : c.nf = caps.length) (hcf : FnR c f cs pc) (hK0 : ∀ w, c.K w → Kp w0 noM w) (hN : RdV w0 Fw.encI r.ns) (hbn : r.ns.l.length ≤ c.bd) (hbd : c.bd ≤ 1000000) (hout : wd.out.length ≤ 1000000) (hlab : g.ts.l.length ≤ 9223372036854775807) (hk : r.k = 4) : Ret Tryz.prog 50 #[.pointer (some (bat bM 0)), .agg (encSt r).toArray, .slice oL vs.length cL, .pointer (some (bat pc 0))] w (fun v w' => Wst w0 c TM bM g kd rest H (plainF r l cs wd) wd v w') := by
  have hvl := hV.len
  have hw := hF.want
  have hnum := hF.num
  have hsp : Sp oL vs.length := (hL w (hH.frz (by exact MEMT))).sp (sz := 1) (by omega) (by omega)
  have e := pl_4 (r := r) (l := l) (cs := cs) (wd := wd) hk
  rw [(w_4 (g := g) (mine := mine) hk).1] at hw
  rw [(w_4 (g := g) (mine := mine) hk).2] at hnum
  (refine enter (N := 238) Tryz.func50 rfl Tryz.ntmps50 rfl ?_; intro a hA; dsimp only [sl0, Nat.reduceAdd] at hA)
  repeat' (first | ((first | apply st_ex hA hH rfl rfl (by decide) | apply dr_ex hA rfl rfl rfl (by decide) | apply dr_exp hA rfl rfl rfl (by decide) | apply dr_ex3 hA hH rfl rfl rfl (by decide)); (first | (apply ex_iface; rfl)); clear hA a; intro a hA) | (refine QT ?_; clear hA a; intro a hA) | (refine BT ?_; clear hA hH; rintro _ w ⟨bN, rfl, hH⟩ a hA) | ((first | refine CT ?_ | (refine DT ?_ ?_ <;> intro hc <;> try (exfalso; omega))) <;> repeat' refine CT ?_))
  have h1 := ((hH.rm 1).perm (H' := cb bN 90 [.int .i64 r.n, .slice oL vs.length cL] :: frz w0 c.K :: cb bM TM (encW g kd wd.inp oO wd.out.length cO ++ rest) :: own 5 1 oO wd.out.length cO (flat encY wd.out) :: all (sx.map obI) :: H) (by (repeat (first | exact List.Perm.refl _ | exact List.Perm.nil | refine perm_pick 0 rfl ?_ | refine perm_pick 1 rfl ?_ | refine perm_pick 2 rfl ?_ | refine perm_pick 3 rfl ?_ | refine perm_pick 4 rfl ?_ | refine perm_pick 5 rfl ?_ | refine perm_pick 6 rfl ?_ | refine perm_pick 7 rfl ?_ | refine perm_pick 8 rfl ?_ | refine perm_pick 9 rfl ?_ | refine perm_pick 10 rfl ?_ | refine perm_pick 11 rfl ?_)))).frz_cb
  have hle := c.more (fun w => RdB w bN [.int .i64 r.n, .slice oL vs.length cL])
  exact rt2 (.inl rfl) rfl hA rfl rfl (Wst.same hle (h1.perm (by (repeat (first | exact List.Perm.refl _ | exact List.Perm.nil | refine perm_pick 0 rfl ?_ | refine perm_pick 1 rfl ?_ | refine perm_pick 2 rfl ?_ | refine perm_pick 3 rfl ?_ | refine perm_pick 4 rfl ?_ | refine perm_pick 5 rfl ?_ | refine perm_pick 6 rfl ?_ | refine perm_pick 7 rfl ?_ | refine perm_pick 8 rfl ?_ | refine perm_pick 9 rfl ?_ | refine perm_pick 10 rfl ?_ | refine perm_pick 11 rfl ?_)))) (RsV_val e (FnR.rv ⟨oL, cL, vs, ⟨hnum.1, by rw [hnf]; exact hnum.2⟩, fun w h => by rw [← hvl]; exact h.1, fun w h => hL w h.2, RVs.mono hle _ _ hV⟩) rfl) (by rw [e]; exact hS.more _) (by rw [e]; rfl) (by rw [e]; rfl))
set_option maxHeartbeats 16000000 in
theorem Plain6_spec (w0 w : World) (H : List It) (c : Cx) (TM bM : Nat) (g : Grs) (kd : Int) (rest : List Value) (caps : List Int) (mine : Int) (r : Stp) (l : List Vl) (vs : List Value) (oL oO : Option Addr) (cL cO : Nat) (wd : Wd) (sx : Sx) (f : Int) (cs : List Vl) (pc : Nat) (hH : HS w0 noM (cb bM TM (encW g kd wd.inp oO wd.out.length cO ++ rest) :: own 5 1 oO wd.out.length cO (flat encY wd.out) :: frz w0 c.K :: all (sx.map obI) :: H) w) (hL : ∀ w, c.K w → Rd w oL vs) (hlc : vs.length ≤ cL ∧ cL ≤ maxLen) (hV : RVs c l vs) (hS : StR c sx wd.st) (hF : FormP g caps mine r) (hrl : l.length = r.a.l.length) (hnf : c.nf = caps.length) (hcf : FnR c f cs pc) (hK0 : ∀ w, c.K w → Kp w0 noM w) (hN : RdV w0 Fw.encI r.ns) (hbn : r.ns.l.length ≤ c.bd) (hbd : c.bd ≤ 1000000) (hout : wd.out.length ≤ 1000000) (hlab : g.ts.l.length ≤ 9223372036854775807) (hk : r.k = 6) : Ret Tryz.prog 50 #[.pointer (some (bat bM 0)), .agg (encSt r).toArray, .slice oL vs.length cL, .pointer (some (bat pc 0))] w (fun v w' => Wst w0 c TM bM g kd rest H (plainF r l cs wd) wd v w') := by
  have hvl := hV.len
  have hw := hF.want
  have hnum := hF.num
  have hsp : Sp oL vs.length := (hL w (hH.frz (by exact MEMT))).sp (sz := 1) (by omega) (by omega)
  have e := pl_6 (r := r) (l := l) (cs := cs) (wd := wd) hk
  rw [(w_6 (g := g) (mine := mine) hk).1] at hw
  rw [(w_6 (g := g) (mine := mine) hk).2] at hnum
  (refine enter (N := 238) Tryz.func50 rfl Tryz.ntmps50 rfl ?_; intro a hA; dsimp only [sl0, Nat.reduceAdd] at hA)
  repeat' (first | ((first | apply st_ex hA hH rfl rfl (by decide) | apply dr_ex hA rfl rfl rfl (by decide) | apply dr_exp hA rfl rfl rfl (by decide) | apply dr_ex3 hA hH rfl rfl rfl (by decide)); (first | (apply ex_iface; rfl)); clear hA a; intro a hA) | (refine QT ?_; clear hA a; intro a hA) | (refine BT ?_; clear hA hH; rintro _ w ⟨bN, rfl, hH⟩ a hA) | ((first | refine CT ?_ | (refine DT ?_ ?_ <;> intro hc <;> try (exfalso; omega))) <;> repeat' refine CT ?_))
  have h1 := ((hH.rm 1).perm (H' := cb bN 196 [.slice r.ns.o r.ns.l.length r.ns.c, .slice oL vs.length cL] :: frz w0 c.K :: cb bM TM (encW g kd wd.inp oO wd.out.length cO ++ rest) :: own 5 1 oO wd.out.length cO (flat encY wd.out) :: all (sx.map obI) :: H) (by (repeat (first | exact List.Perm.refl _ | exact List.Perm.nil | refine perm_pick 0 rfl ?_ | refine perm_pick 1 rfl ?_ | refine perm_pick 2 rfl ?_ | refine perm_pick 3 rfl ?_ | refine perm_pick 4 rfl ?_ | refine perm_pick 5 rfl ?_ | refine perm_pick 6 rfl ?_ | refine perm_pick 7 rfl ?_ | refine perm_pick 8 rfl ?_ | refine perm_pick 9 rfl ?_ | refine perm_pick 10 rfl ?_ | refine perm_pick 11 rfl ?_)))).frz_cb
  have hle := c.more (fun w => RdB w bN [.slice r.ns.o r.ns.l.length r.ns.c, .slice oL vs.length cL])
  exact rt2 (.inl rfl) rfl hA rfl rfl (Wst.same hle (h1.perm (by (repeat (first | exact List.Perm.refl _ | exact List.Perm.nil | refine perm_pick 0 rfl ?_ | refine perm_pick 1 rfl ?_ | refine perm_pick 2 rfl ?_ | refine perm_pick 3 rfl ?_ | refine perm_pick 4 rfl ?_ | refine perm_pick 5 rfl ?_ | refine perm_pick 6 rfl ?_ | refine perm_pick 7 rfl ?_ | refine perm_pick 8 rfl ?_ | refine perm_pick 9 rfl ?_ | refine perm_pick 10 rfl ?_ | refine perm_pick 11 rfl ?_)))) (RsV_val e (RV_rc (p := bN) (on := r.ns.o) (cn := r.ns.c) (ol := oL) (cl := cL) (vs := vs) ⟨by omega, hbn, hN.2.1, hN.2.2, by omega, hlc.2⟩ (fun w h => by rw [← hvl]; exact h.1) (fun w h => (hN.keep (hK0 w h.2)).1) (fun w h => hL w h.2) (RVs.mono hle _ _ hV)) rfl) (by rw [e]; exact hS.more _) (by rw [e]; rfl) (by rw [e]; rfl))
set_option maxHeartbeats 16000000 in
theorem Plain9_spec (w0 w : World) (H : List It) (c : Cx) (TM bM : Nat) (g : Grs) (kd : Int) (rest : List Value) (caps : List Int) (mine : Int) (r : Stp) (l : List Vl) (vs : List Value) (oL oO : Option Addr) (cL cO : Nat) (wd : Wd) (sx : Sx) (f : Int) (cs : List Vl) (pc : Nat) (hH : HS w0 noM (cb bM TM (encW g kd wd.inp oO wd.out.length cO ++ rest) :: own 5 1 oO wd.out.length cO (flat encY wd.out) :: frz w0 c.K :: all (sx.map obI) :: H) w) (hL : ∀ w, c.K w → Rd w oL vs) (hlc : vs.length ≤ cL ∧ cL ≤ maxLen) (hV : RVs c l vs) (hS : StR c sx wd.st) (hF : FormP g caps mine r) (hrl : l.length = r.a.l.length) (hnf : c.nf = caps.length) (hcf : FnR c f cs pc) (hK0 : ∀ w, c.K w → Kp w0 noM w) (hN : RdV w0 Fw.encI r.ns) (hbn : r.ns.l.length ≤ c.bd) (hbd : c.bd ≤ 1000000) (hout : wd.out.length ≤ 1000000) (hlab : g.ts.l.length ≤ 9223372036854775807) (hk : r.k = 9) : Ret Tryz.prog 50 #[.pointer (some (bat bM 0)), .agg (encSt r).toArray, .slice oL vs.length cL, .pointer (some (bat pc 0))] w (fun v w' => Wst w0 c TM bM g kd rest H (plainF r l cs wd) wd v w') := by
  have hvl := hV.len
  have hw := hF.want
  have hnum := hF.num
  have hsp : Sp oL vs.length := (hL w (hH.frz (by exact MEMT))).sp (sz := 1) (by omega) (by omega)
  have e := pl_9 (r := r) (l := l) (cs := cs) (wd := wd) hk
  rw [(w_9 (g := g) (mine := mine) hk).1] at hw
  rw [(w_9 (g := g) (mine := mine) hk).2] at hnum
  obtain ⟨v0, hv0, hx0⟩ := hV.get0 (i := 0) (by omega)
  (refine enter (N := 238) Tryz.func50 rfl Tryz.ntmps50 rfl ?_; intro a hA; dsimp only [sl0, Nat.reduceAdd] at hA)
  have hone : ([.int .i64 r.n, v0] : List Value).all (·.oneCell') = true := by simp [hx0.one]; rfl
  repeat' (first | (refine QT ?_; clear hA a; intro a hA) | (refine BT ?_; clear hA hH; rintro _ w ⟨bN, rfl, hH⟩ a hA) | ((first | refine CT ?_ | (refine DT ?_ ?_ <;> intro hc <;> try (exfalso; omega))) <;> repeat' refine CT ?_))
  obtain ⟨b5, hb5⟩ : ∃ x, x = bN := ⟨_, rfl⟩
  rw [← hb5] at hA hH
  clear hb5 bN
  (refine wp_draw_HS [(0, 1), (1, 1), (2, 1), (3, 1), (4, 1), (5, 1), (6, 0), (7, 1), (8, 1), (9, 1)] mixed (by decide +kernel) hH ?_; replace hH := hH.drew)
  repeat' (first | ((first | apply st_ex hA hH rfl rfl (by decide) | apply dr_ex hA rfl rfl rfl (by decide) | apply dr_exp hA rfl rfl rfl (by decide) | apply dr_ex3 hA hH rfl rfl rfl (by decide)); (first | (apply ex_indexAddr; rfl; rfl; decide; omega; exact hsp) | (apply ex_load; rfl; exact cl_frz MEMT hL hv0) | (apply ex_iface; rfl) | (apply ex_build_full (vs := [.int .i64 r.n, v0]); rfl; rfl; rfl; exact hone; rfl; (repeat (first | (intro _ h; exact absurd h (List.not_mem_nil)) | (refine List.forall_mem_cons.2 ⟨one_cell_of _ _, ?_⟩))))); clear hA a; intro a hA) | (refine QT ?_; clear hA a; intro a hA) | (refine CT ?_ <;> repeat' refine CT ?_) | (apply dr_op hA rfl rfl rfl (by decide); apply op_box_agg; rfl; exact hH; clear hA hH; rintro _ w ⟨bN, rfl, hH⟩; refine ⟨hH.tail, ?_⟩; intro a hA))
  have h1 := ((hH.rm 1).perm (H' := cb bN 204 [.int .i64 r.n, v0] :: frz w0 c.K :: cb bM TM (encW g kd wd.inp oO wd.out.length cO ++ rest) :: own 5 1 oO wd.out.length cO (flat encY wd.out) :: all (sx.map obI) :: H) (by (repeat (first | exact List.Perm.refl _ | exact List.Perm.nil | refine perm_pick 0 rfl ?_ | refine perm_pick 1 rfl ?_ | refine perm_pick 2 rfl ?_ | refine perm_pick 3 rfl ?_ | refine perm_pick 4 rfl ?_ | refine perm_pick 5 rfl ?_ | refine perm_pick 6 rfl ?_ | refine perm_pick 7 rfl ?_ | refine perm_pick 8 rfl ?_ | refine perm_pick 9 rfl ?_ | refine perm_pick 10 rfl ?_ | refine perm_pick 11 rfl ?_)))).frz_cb
  have hle := c.more (fun w => RdB w bN [.int .i64 r.n, v0])
  exact rt2 (.inl rfl) rfl hA rfl rfl (Wst.same hle (h1.perm (by (repeat (first | exact List.Perm.refl _ | exact List.Perm.nil | refine perm_pick 0 rfl ?_ | refine perm_pick 1 rfl ?_ | refine perm_pick 2 rfl ?_ | refine perm_pick 3 rfl ?_ | refine perm_pick 4 rfl ?_ | refine perm_pick 5 rfl ?_ | refine perm_pick 6 rfl ?_ | refine perm_pick 7 rfl ?_ | refine perm_pick 8 rfl ?_ | refine perm_pick 9 rfl ?_ | refine perm_pick 10 rfl ?_ | refine perm_pick 11 rfl ?_)))) (RsV_val e (RV_tg ⟨by omega, by omega⟩ (fun w h => h.1) (RV.mono hle _ _ hx0)) rfl) (by rw [e]; exact hS.more _) (by rw [e]; rfl) (by rw [e]; rfl))
set_option maxHeartbeats 16000000 in
theorem Plain2_spec (w0 w : World) (H : List It) (c : Cx) (TM bM : Nat) (g : Grs) (kd : Int) (rest : List Value) (caps : List Int) (mine : Int) (r : Stp) (l : List Vl) (vs : List Value) (oL oO : Option Addr) (cL cO : Nat) (wd : Wd) (sx : Sx) (f : Int) (cs : List Vl) (pc : Nat) (hH : HS w0 noM (cb bM TM (encW g kd wd.inp oO wd.out.length cO ++ rest) :: own 5 1 oO wd.out.length cO (flat encY wd.out) :: frz w0 c.K :: all (sx.map obI) :: H) w) (hL : ∀ w, c.K w → Rd w oL vs) (hlc : vs.length ≤ cL ∧ cL ≤ maxLen) (hV : RVs c l vs) (hS : StR c sx wd.st) (hF : FormP g caps mine r) (hrl : l.length = r.a.l.length) (hnf : c.nf = caps.length) (hcf : FnR c f cs pc) (hK0 : ∀ w, c.K w → Kp w0 noM w) (hN : RdV w0 Fw.encI r.ns) (hbn : r.ns.l.length ≤ c.bd) (hbd : c.bd ≤ 1000000) (hout : wd.out.length ≤ 1000000) (hlab : g.ts.l.length ≤ 9223372036854775807) (hk : r.k = 2) : Ret Tryz.prog 50 #[.pointer (some (bat bM 0)), .agg (encSt r).toArray, .slice oL vs.length cL, .pointer (some (bat pc 0))] w (fun v w' => Wst w0 c TM bM g kd rest H (plainF r l cs wd) wd v w') := by
  have hvl := hV.len
  have hw := hF.want
  have hnum := hF.num
  have hsp : Sp oL vs.length := (hL w (hH.frz (by exact MEMT))).sp (sz := 1) (by omega) (by omega)
  have e := pl_2 (r := r) (l := l) (cs := cs) (wd := wd) hk
  rw [(w_2 (g := g) (mine := mine) hk).1] at hw
  rw [(w_2 (g := g) (mine := mine) hk).2] at hnum
  have hn1 : 1 ≤ r.n ∧ r.n ≤ 21 := by
    unfold arityF at hw
    (repeat' split at hw) <;> omega
  obtain ⟨hn1, hn2⟩ := hn1
  (refine enter (N := 238) Tryz.func50 rfl Tryz.ntmps50 rfl ?_; intro a hA; dsimp only [sl0, Nat.reduceAdd] at hA)
  have hop := op_spec
  repeat' (first | (refine QT ?_; clear hA a; intro a hA) | (refine BT ?_; clear hA hH; rintro _ w ⟨bN, rfl, hH⟩ a hA) | ((first | refine CT ?_ | (refine DT ?_ ?_ <;> intro hc <;> try (exfalso; omega))) <;> repeat' refine CT ?_))
  (refine st_op hA rfl rfl (by decide) (op_call rfl rfl rfl (op_spec w0 _ (cb bN 57 (encSt r) :: H) c TM bM g kd rest r.n l vs oL oO cL cO wd sx (hH.perm (by (repeat (first | exact List.Perm.refl _ | exact List.Perm.nil | refine perm_pick 0 rfl ?_ | refine perm_pick 1 rfl ?_ | refine perm_pick 2 rfl ?_ | refine perm_pick 3 rfl ?_ | refine perm_pick 4 rfl ?_ | refine perm_pick 5 rfl ?_ | refine perm_pick 6 rfl ?_ | refine perm_pick 7 rfl ?_ | refine perm_pick 8 rfl ?_ | refine perm_pick 9 rfl ?_ | refine perm_pick 10 rfl ?_ | refine perm_pick 11 rfl ?_)))) hL hV hS hn1 hn2 (by omega) hout)) ?_; clear hA hH; rintro _ w ⟨d, sx2, oO2, cO2, hle, hH, hr, hS2⟩ a hA)
  rw [← e] at hr hS2 hH
  cases hrs : plainF r l cs wd with
  | val x w' =>
    rw [hrs] at hr hS2 hH
    obtain ⟨u, hu, rfl⟩ := hr
    repeat' (first | (refine QT ?_; clear hA a; intro a hA) | (refine CT ?_ <;> repeat' refine CT ?_))
    exact rt2 (.inl rfl) rfl hA rfl rfl ⟨d, sx2, oO2, cO2, hle, hH.rm 4, ⟨u, hu, rfl⟩, hS2⟩
  | exn s =>
    rw [hrs] at hr hS2 hH
    obtain rfl := hr
    repeat' (first | (refine QT ?_; clear hA a; intro a hA) | (refine CT ?_ <;> repeat' refine CT ?_))
    exact rt2 (.inl rfl) rfl hA rfl rfl ⟨d, sx2, oO2, cO2, hle, hH.rm 4, rfl, hS2⟩
set_option maxHeartbeats 16000000 in
theorem Plain12_spec (w0 w : World) (H : List It) (c : Cx) (TM bM : Nat) (g : Grs) (kd : Int) (rest : List Value) (caps : List Int) (mine : Int) (r : Stp) (l : List Vl) (vs : List Value) (oL oO : Option Addr) (cL cO : Nat) (wd : Wd) (sx : Sx) (f : Int) (cs : List Vl) (pc : Nat) (hH : HS w0 noM (cb bM TM (encW g kd wd.inp oO wd.out.length cO ++ rest) :: own 5 1 oO wd.out.length cO (flat encY wd.out) :: frz w0 c.K :: all (sx.map obI) :: H) w) (hL : ∀ w, c.K w → Rd w oL vs) (hlc : vs.length ≤ cL ∧ cL ≤ maxLen) (hV : RVs c l vs) (hS : StR c sx wd.st) (hF : FormP g caps mine r) (hrl : l.length = r.a.l.length) (hnf : c.nf = caps.length) (hcf : FnR c f cs pc) (hK0 : ∀ w, c.K w → Kp w0 noM w) (hN : RdV w0 Fw.encI r.ns) (hbn : r.ns.l.length ≤ c.bd) (hbd : c.bd ≤ 1000000) (hout : wd.out.length ≤ 1000000) (hlab : g.ts.l.length ≤ 9223372036854775807) (hk : r.k = 12) : Ret Tryz.prog 50 #[.pointer (some (bat bM 0)), .agg (encSt r).toArray, .slice oL vs.length cL, .pointer (some (bat pc 0))] w (fun v w' => Wst w0 c TM bM g kd rest H (plainF r l cs wd) wd v w') := by
  have hvl := hV.len
  have hw := hF.want
  have hnum := hF.num
  have hsp : Sp oL vs.length := (hL w (hH.frz (by exact MEMT))).sp (sz := 1) (by omega) (by omega)
  have e := pl_12 (r := r) (l := l) (cs := cs) (wd := wd) hk
  rw [(w_3 (g := g) (mine := mine) (.inr (.inl hk))).1] at hw
  rw [(w_3 (g := g) (mine := mine) (.inr (.inl hk))).2] at hnum
  obtain ⟨v0, hv0, hx0⟩ := hV.get0 (i := 0) (by omega)
  obtain ⟨v1, hv1, hx1⟩ := hV.get0 (i := 1) (by omega)
  (refine enter (N := 238) Tryz.func50 rfl Tryz.ntmps50 rfl ?_; intro a hA; dsimp only [sl0, Nat.reduceAdd] at hA)
  repeat' (first | ((first | apply st_ex hA hH rfl rfl (by decide) | apply dr_ex hA rfl rfl rfl (by decide) | apply dr_exp hA rfl rfl rfl (by decide) | apply dr_ex3 hA hH rfl rfl rfl (by decide)); (first | (apply ex_indexAddr; rfl; rfl; decide; omega; exact hsp) | (apply ex_load; rfl; exact cl_frz MEMT hL hv0) | (apply ex_iface; rfl) | (apply ex_load; rfl; exact cl_frz MEMT hL hv1)); clear hA a; intro a hA) | (refine QT ?_; clear hA a; intro a hA) | (refine BT ?_; clear hA hH; rintro _ w ⟨bN, rfl, hH⟩ a hA) | ((first | refine CT ?_ | (refine DT ?_ ?_ <;> intro hc <;> try (exfalso; omega))) <;> repeat' refine CT ?_))
  rcases hx0.asTxt with ⟨s, hs, rfl, hss⟩ | ⟨hs, hn⟩
  · repeat' (first | ((first | apply st_ex hA hH rfl rfl (by decide) | apply dr_ex hA rfl rfl rfl (by decide) | apply dr_exp hA rfl rfl rfl (by decide) | apply dr_ex3 hA hH rfl rfl rfl (by decide)); (first | (apply ex_indexAddr; rfl; rfl; decide; omega; exact hsp) | (apply ex_load; rfl; exact cl_frz MEMT hL hv0) | (apply ex_iface; rfl) | (apply ex_assertY; rfl) | (apply ex_load; rfl; exact cl_frz MEMT hL hv1)); clear hA a; intro a hA) | (refine QT ?_; clear hA a; intro a hA) | (refine CT ?_ <;> repeat' refine CT ?_))
    rcases hx1.asTxt with ⟨t, ht, rfl, hts⟩ | ⟨ht, hn⟩
    · rw [hs, ht] at e
      dsimp only at e
      have htr : iok (tru (eqS s t)) := by unfold tru iok; split <;> omega
      repeat' (first | (refine GT ?_ ?_ <;> intro hg <;> clear hA a <;> intro a hA <;> (first | exact FA | replace hg := of_decide_eq_true hg | replace hg := of_decide_eq_false hg | skip)) | ((first | apply st_ex hA hH rfl rfl (by decide) | apply dr_ex hA rfl rfl rfl (by decide) | apply dr_exp hA rfl rfl rfl (by decide) | apply dr_ex3 hA hH rfl rfl rfl (by decide)); (first | (apply ex_indexAddr; rfl; rfl; decide; omega; exact hsp) | (apply ex_load; rfl; exact cl_frz MEMT hL hv0) | (apply ex_iface; rfl) | (apply ex_assertY; rfl) | (apply ex_eqlS; rfl; rfl)); clear hA a; intro a hA) | (refine QT ?_; clear hA a; intro a hA) | (refine st_op hA rfl rfl (by decide) (op_call rfl rfl rfl (Truth_spec _ _)) ?_; clear hA; rintro _ w ⟨rfl, hk⟩ a hA; replace hH := hH.keep hk; clear hk) | (refine CT ?_ <;> repeat' refine CT ?_))
      exact rt2 (.inl rfl) rfl hA rfl rfl (Wst.same c.le_refl (hH.tail) (RsV_val e (RV_num htr) rfl) (by rw [e]; exact hS) (by rw [e]; rfl) (by rw [e]; rfl))
    · rw [hs, ht] at e
      repeat' (first | (refine GT ?_ ?_ <;> intro hg <;> clear hA a <;> intro a hA <;> (first | exact FA | replace hg := of_decide_eq_true hg | replace hg := of_decide_eq_false hg | skip)) | ((first | apply st_ex hA hH rfl rfl (by decide) | apply dr_ex hA rfl rfl rfl (by decide) | apply dr_exp hA rfl rfl rfl (by decide) | apply dr_ex3 hA hH rfl rfl rfl (by decide)); (first | (apply ex_indexAddr; rfl; rfl; decide; omega; exact hsp) | (apply ex_load; rfl; exact cl_frz MEMT hL hv0) | (apply ex_iface; rfl) | (apply ex_assertX; rfl; exact hn)); clear hA a; intro a hA) | (refine QT ?_; clear hA a; intro a hA) | (refine CT ?_ <;> repeat' refine CT ?_))
      exact rt2 (.inl rfl) rfl hA rfl rfl (Wst.same c.le_refl (hH.tail) (RsV_stk e rfl) (by rw [e]; exact hS) (by rw [e]; rfl) (by rw [e]; rfl))
  · rcases hx1.asTxt with ⟨t, ht, rfl, hts⟩ | ⟨ht, hn2⟩
    · rw [hs, ht] at e
      repeat' (first | (refine GT ?_ ?_ <;> intro hg <;> clear hA a <;> intro a hA <;> (first | exact FA | replace hg := of_decide_eq_true hg | replace hg := of_decide_eq_false hg | skip)) | ((first | apply st_ex hA hH rfl rfl (by decide) | apply dr_ex hA rfl rfl rfl (by decide) | apply dr_exp hA rfl rfl rfl (by decide) | apply dr_ex3 hA hH rfl rfl rfl (by decide)); (first | (apply ex_indexAddr; rfl; rfl; decide; omega; exact hsp) | (apply ex_load; rfl; exact cl_frz MEMT hL hv0) | (apply ex_iface; rfl) | (apply ex_assertX; rfl; exact hn) | (apply ex_load; rfl; exact cl_frz MEMT hL hv1) | (apply ex_assertY; rfl)); clear hA a; intro a hA) | (refine QT ?_; clear hA a; intro a hA) | (refine CT ?_ <;> repeat' refine CT ?_))
      exact rt2 (.inl rfl) rfl hA rfl rfl (Wst.same c.le_refl (hH.tail) (RsV_stk e rfl) (by rw [e]; exact hS) (by rw [e]; rfl) (by rw [e]; rfl))
    · rw [hs, ht] at e
      repeat' (first | (refine GT ?_ ?_ <;> intro hg <;> clear hA a <;> intro a hA <;> (first | exact FA | replace hg := of_decide_eq_true hg | replace hg := of_decide_eq_false hg | skip)) | ((first | apply st_ex hA hH rfl rfl (by decide) | apply dr_ex hA rfl rfl rfl (by decide) | apply dr_exp hA rfl rfl rfl (by decide) | apply dr_ex3 hA hH rfl rfl rfl (by decide)); (first | (apply ex_indexAddr; rfl; rfl; decide; omega; exact hsp) | (apply ex_load; rfl; exact cl_frz MEMT hL hv0) | (apply ex_iface; rfl) | (apply ex_assertX; rfl; exact hn) | (apply ex_load; rfl; exact cl_frz MEMT hL hv1) | (apply ex_assertX; rfl; exact hn2)); clear hA a; intro a hA) | (refine QT ?_; clear hA a; intro a hA) | (refine CT ?_ <;> repeat' refine CT ?_))
      exact rt2 (.inl rfl) rfl hA rfl rfl (Wst.same c.le_refl (hH.tail) (RsV_stk e rfl) (by rw [e]; exact hS) (by rw [e]; rfl) (by rw [e]; rfl))
set_option maxHeartbeats 16000000 in
theorem Plain5_spec (w0 w : World) (H : List It) (c : Cx) (TM bM : Nat) (g : Grs) (kd : Int) (rest : List Value) (caps : List Int) (mine : Int) (r : Stp) (l : List Vl) (vs : List Value) (oL oO : Option Addr) (cL cO : Nat) (wd : Wd) (sx : Sx) (f : Int) (cs : List Vl) (pc : Nat) (hH : HS w0 noM (cb bM TM (encW g kd wd.inp oO wd.out.length cO ++ rest) :: own 5 1 oO wd.out.length cO (flat encY wd.out) :: frz w0 c.K :: all (sx.map obI) :: H) w) (hL : ∀ w, c.K w → Rd w oL vs) (hlc : vs.length ≤ cL ∧ cL ≤ maxLen) (hV : RVs c l vs) (hS : StR c sx wd.st) (hF : FormP g caps mine r) (hrl : l.length = r.a.l.length) (hnf : c.nf = caps.length) (hcf : FnR c f cs pc) (hK0 : ∀ w, c.K w → Kp w0 noM w) (hN : RdV w0 Fw.encI r.ns) (hbn : r.ns.l.length ≤ c.bd) (hbd : c.bd ≤ 1000000) (hout : wd.out.length ≤ 1000000) (hlab : g.ts.l.length ≤ 9223372036854775807) (hk : r.k = 5) : Ret Tryz.prog 50 #[.pointer (some (bat bM 0)), .agg (encSt r).toArray, .slice oL vs.length cL, .pointer (some (bat pc 0))] w (fun v w' => Wst w0 c TM bM g kd rest H (plainF r l cs wd) wd v w') := by
  have hvl := hV.len
  have hw := hF.want
  have hnum := hF.num
  have hsp : Sp oL vs.length := (hL w (hH.frz (by exact MEMT))).sp (sz := 1) (by omega) (by omega)
  have e := pl_5 (r := r) (l := l) (cs := cs) (wd := wd) hk
  rw [(w_5 (g := g) (mine := mine) hk).1] at hw
  rw [(w_5 (g := g) (mine := mine) hk).2] at hnum
  (refine enter (N := 238) Tryz.func50 rfl Tryz.ntmps50 rfl ?_; intro a hA; dsimp only [sl0, Nat.reduceAdd] at hA)
  obtain ⟨o5, k5, vs5, hf5, hp5, hr5, hv5⟩ := hcf
  have hl5 := hv5.len
  repeat' (first | (refine QT ?_; clear hA a; intro a hA) | (refine BT ?_; clear hA hH; rintro _ w ⟨bN, rfl, hH⟩ a hA) | ((first | refine CT ?_ | (refine DT ?_ ?_ <;> intro hc <;> try (exfalso; omega))) <;> repeat' refine CT ?_))
  (refine wp_draw_HS [(0, 1), (1, 1), (2, 1), (3, 1), (4, 1), (5, 1), (6, 1), (7, 1)] mixed (by decide +kernel) hH ?_; replace hH := hH.drew)
  have hsp5 : Sp o5 cs.length := (hr5 _ (hH.frz (by exact MEMT))).sp (sz := 1) (by omega) (by omega)
  repeat' (first | ((first | apply st_ex hA hH rfl rfl (by decide) | apply dr_ex hA rfl rfl rfl (by decide) | apply dr_exp hA rfl rfl rfl (by decide) | apply dr_ex3 hA hH rfl rfl rfl (by decide)); (first | (apply ex_load; rfl; exact cl_frzB MEMT hp5 rfl)); clear hA a; intro a hA) | (refine QT ?_; clear hA a; intro a hA) | ((first | refine CT ?_ | (refine DT ?_ ?_ <;> intro hc <;> try (exfalso; omega))) <;> repeat' refine CT ?_))
  · obtain ⟨u5, hu5, hx5⟩ := hv5.get0 (i := r.n.toNat) (by omega)
    have hu6 : vs5[r.n.toNat * 1]? = some u5 := by rw [Nat.mul_one]; exact hu5
    (refine wp_draw_HS [(0, 1), (1, 1), (2, 1), (3, 1), (4, 1), (5, 1), (6, 1), (7, 1), (8, 1), (9, 1)] mixed (by decide +kernel) hH ?_; replace hH := hH.drew)
    repeat' (first | ((first | apply st_ex hA hH rfl rfl (by decide) | apply dr_ex hA rfl rfl rfl (by decide) | apply dr_exp hA rfl rfl rfl (by decide) | apply dr_ex3 hA hH rfl rfl rfl (by decide)); (first | (apply ex_load; rfl; exact cl_frzB MEMT hp5 rfl) | (apply ex_indexAddr; rfl; rfl; exact hnum.1; omega; exact hsp5) | (apply ex_load; rfl; exact cl_frz MEMT hr5 hu6)); clear hA a; intro a hA) | (refine QT ?_; clear hA a; intro a hA) | (refine CT ?_ <;> repeat' refine CT ?_))
    exact rt2 (.inl rfl) rfl hA rfl rfl (Wst.same c.le_refl (hH.tail) (RsV_val e hx5 rfl) (by rw [e]; exact hS) (by rw [e]; rfl) (by rw [e]; rfl))
  · have hnl : nth0 cs r.n.toNat = .nil := by
      unfold nth0
      rw [List.getD_eq_getElem?_getD, List.getElem?_eq_none_iff.2 (by omega)]
      rfl
    rw [hnl] at e
    exact rt2 (.inl rfl) rfl hA rfl rfl (Wst.same c.le_refl (hH.tail) (RsV_stk e rfl) (by rw [e]; exact hS) (by rw [e]; rfl) (by rw [e]; rfl))
set_option maxHeartbeats 16000000 in
theorem Plain10_spec (w0 w : World) (H : List It) (c : Cx) (TM bM : Nat) (g : Grs) (kd : Int) (rest : List Value) (caps : List Int) (mine : Int) (r : Stp) (l : List Vl) (vs : List Value) (oL oO : Option Addr) (cL cO : Nat) (wd : Wd) (sx : Sx) (f : Int) (cs : List Vl) (pc : Nat) (hH : HS w0 noM (cb bM TM (encW g kd wd.inp oO wd.out.length cO ++ rest) :: own 5 1 oO wd.out.length cO (flat encY wd.out) :: frz w0 c.K :: all (sx.map obI) :: H) w) (hL : ∀ w, c.K w → Rd w oL vs) (hlc : vs.length ≤ cL ∧ cL ≤ maxLen) (hV : RVs c l vs) (hS : StR c sx wd.st) (hF : FormP g caps mine r) (hrl : l.length = r.a.l.length) (hnf : c.nf = caps.length) (hcf : FnR c f cs pc) (hK0 : ∀ w, c.K w → Kp w0 noM w) (hN : RdV w0 Fw.encI r.ns) (hbn : r.ns.l.length ≤ c.bd) (hbd : c.bd ≤ 1000000) (hout : wd.out.length ≤ 1000000) (hlab : g.ts.l.length ≤ 9223372036854775807) (hk : r.k = 10) : Ret Tryz.prog 50 #[.pointer (some (bat bM 0)), .agg (encSt r).toArray, .slice oL vs.length cL, .pointer (some (bat pc 0))] w (fun v w' => Wst w0 c TM bM g kd rest H (plainF r l cs wd) wd v w') := by
  have hvl := hV.len
  have hw := hF.want
  have hnum := hF.num
  have hsp : Sp oL vs.length := (hL w (hH.frz (by exact MEMT))).sp (sz := 1) (by omega) (by omega)
  have e := pl_10 (r := r) (l := l) (cs := cs) (wd := wd) hk
  rw [(w_1 (g := g) (mine := mine) (.inr (.inl hk))).1] at hw
  rw [(w_1 (g := g) (mine := mine) (.inr (.inl hk))).2] at hnum
  obtain ⟨v0, hv0, hx0⟩ := hV.get0 (i := 0) (by omega)
  (refine enter (N := 238) Tryz.func50 rfl Tryz.ntmps50 rfl ?_; intro a hA; dsimp only [sl0, Nat.reduceAdd] at hA)
  repeat' (first | ((first | apply st_ex hA hH rfl rfl (by decide) | apply dr_ex hA rfl rfl rfl (by decide) | apply dr_exp hA rfl rfl rfl (by decide) | apply dr_ex3 hA hH rfl rfl rfl (by decide)); (first | (apply ex_indexAddr; rfl; rfl; decide; omega; exact hsp) | (apply ex_load; rfl; exact cl_frz MEMT hL hv0) | (apply ex_iface; rfl)); clear hA a; intro a hA) | (refine QT ?_; clear hA a; intro a hA) | (refine BT ?_; clear hA hH; rintro _ w ⟨bN, rfl, hH⟩ a hA) | ((first | refine CT ?_ | (refine DT ?_ ?_ <;> intro hc <;> try (exfalso; omega))) <;> repeat' refine CT ?_))
  rcases hx0.asTg with ⟨n, y, p, u, hs, rfl, hio, hp, hxu⟩ | ⟨hs, hn⟩
  · rw [hs] at e
    repeat' (first | ((first | apply st_ex hA hH rfl rfl (by decide) | apply dr_ex hA rfl rfl rfl (by decide) | apply dr_exp hA rfl rfl rfl (by decide) | apply dr_ex3 hA hH rfl rfl rfl (by decide)); (first | (apply ex_indexAddr; rfl; rfl; decide; omega; exact hsp) | (apply ex_load; rfl; exact cl_frz MEMT hL hv0) | (apply ex_iface; rfl) | (apply ex_assertY; rfl) | (apply ex_load; rfl; exact cl_frzB MEMT hp rfl)); clear hA a; intro a hA) | (refine QT ?_; clear hA a; intro a hA) | (refine CT ?_ <;> repeat' refine CT ?_))
    exact rt2 (.inl rfl) rfl hA rfl rfl (Wst.same c.le_refl (hH.tail) (RsV_val e (RV_num hio) rfl) (by rw [e]; exact hS) (by rw [e]; rfl) (by rw [e]; rfl))
  · rw [hs] at e
    repeat' (first | ((first | apply st_ex hA hH rfl rfl (by decide) | apply dr_ex hA rfl rfl rfl (by decide) | apply dr_exp hA rfl rfl rfl (by decide) | apply dr_ex3 hA hH rfl rfl rfl (by decide)); (first | (apply ex_indexAddr; rfl; rfl; decide; omega; exact hsp) | (apply ex_load; rfl; exact cl_frz MEMT hL hv0) | (apply ex_iface; rfl) | (apply ex_assertX; rfl; exact hn)); clear hA a; intro a hA) | (refine QT ?_; clear hA a; intro a hA) | (refine CT ?_ <;> repeat' refine CT ?_))
    exact rt2 (.inl rfl) rfl hA rfl rfl (Wst.same c.le_refl (hH.tail) (RsV_stk e rfl) (by rw [e]; exact hS) (by rw [e]; rfl) (by rw [e]; rfl))
set_option maxHeartbeats 16000000 in
theorem Plain11_spec (w0 w : World) (H : List It) (c : Cx) (TM bM : Nat) (g : Grs) (kd : Int) (rest : List Value) (caps : List Int) (mine : Int) (r : Stp) (l : List Vl) (vs : List Value) (oL oO : Option Addr) (cL cO : Nat) (wd : Wd) (sx : Sx) (f : Int) (cs : List Vl) (pc : Nat) (hH : HS w0 noM (cb bM TM (encW g kd wd.inp oO wd.out.length cO ++ rest) :: own 5 1 oO wd.out.length cO (flat encY wd.out) :: frz w0 c.K :: all (sx.map obI) :: H) w) (hL : ∀ w, c.K w → Rd w oL vs) (hlc : vs.length ≤ cL ∧ cL ≤ maxLen) (hV : RVs c l vs) (hS : StR c sx wd.st) (hF : FormP g caps mine r) (hrl : l.length = r.a.l.length) (hnf : c.nf = caps.length) (hcf : FnR c f cs pc) (hK0 : ∀ w, c.K w → Kp w0 noM w) (hN : RdV w0 Fw.encI r.ns) (hbn : r.ns.l.length ≤ c.bd) (hbd : c.bd ≤ 1000000) (hout : wd.out.length ≤ 1000000) (hlab : g.ts.l.length ≤ 9223372036854775807) (hk : r.k = 11) : Ret Tryz.prog 50 #[.pointer (some (bat bM 0)), .agg (encSt r).toArray, .slice oL vs.length cL, .pointer (some (bat pc 0))] w (fun v w' => Wst w0 c TM bM g kd rest H (plainF r l cs wd) wd v w') := by
  have hvl := hV.len
  have hw := hF.want
  have hnum := hF.num
  have hsp : Sp oL vs.length := (hL w (hH.frz (by exact MEMT))).sp (sz := 1) (by omega) (by omega)
  have e := pl_11 (r := r) (l := l) (cs := cs) (wd := wd) hk
  rw [(w_1 (g := g) (mine := mine) (.inr (.inr hk))).1] at hw
  rw [(w_1 (g := g) (mine := mine) (.inr (.inr hk))).2] at hnum
  obtain ⟨v0, hv0, hx0⟩ := hV.get0 (i := 0) (by omega)
  (refine enter (N := 238) Tryz.func50 rfl Tryz.ntmps50 rfl ?_; intro a hA; dsimp only [sl0, Nat.reduceAdd] at hA)
  repeat' (first | ((first | apply st_ex hA hH rfl rfl (by decide) | apply dr_ex hA rfl rfl rfl (by decide) | apply dr_exp hA rfl rfl rfl (by decide) | apply dr_ex3 hA hH rfl rfl rfl (by decide)); (first | (apply ex_indexAddr; rfl; rfl; decide; omega; exact hsp) | (apply ex_load; rfl; exact cl_frz MEMT hL hv0) | (apply ex_iface; rfl)); clear hA a; intro a hA) | (refine QT ?_; clear hA a; intro a hA) | (refine BT ?_; clear hA hH; rintro _ w ⟨bN, rfl, hH⟩ a hA) | ((first | refine CT ?_ | (refine DT ?_ ?_ <;> intro hc <;> try (exfalso; omega))) <;> repeat' refine CT ?_))
  rcases hx0.asTg with ⟨n, y, p, u, hs, rfl, hio, hp, hxu⟩ | ⟨hs, hn⟩
  · rw [hs] at e
    repeat' (first | ((first | apply st_ex hA hH rfl rfl (by decide) | apply dr_ex hA rfl rfl rfl (by decide) | apply dr_exp hA rfl rfl rfl (by decide) | apply dr_ex3 hA hH rfl rfl rfl (by decide)); (first | (apply ex_indexAddr; rfl; rfl; decide; omega; exact hsp) | (apply ex_load; rfl; exact cl_frz MEMT hL hv0) | (apply ex_iface; rfl) | (apply ex_assertY; rfl) | (apply ex_load; rfl; exact cl_frzB MEMT hp rfl)); clear hA a; intro a hA) | (refine QT ?_; clear hA a; intro a hA) | (refine CT ?_ <;> repeat' refine CT ?_))
    exact rt2 (.inl rfl) rfl hA rfl rfl (Wst.same c.le_refl (hH.tail) (RsV_val e hxu rfl) (by rw [e]; exact hS) (by rw [e]; rfl) (by rw [e]; rfl))
  · rw [hs] at e
    repeat' (first | ((first | apply st_ex hA hH rfl rfl (by decide) | apply dr_ex hA rfl rfl rfl (by decide) | apply dr_exp hA rfl rfl rfl (by decide) | apply dr_ex3 hA hH rfl rfl rfl (by decide)); (first | (apply ex_indexAddr; rfl; rfl; decide; omega; exact hsp) | (apply ex_load; rfl; exact cl_frz MEMT hL hv0) | (apply ex_iface; rfl) | (apply ex_assertX; rfl; exact hn)); clear hA a; intro a hA) | (refine QT ?_; clear hA a; intro a hA) | (refine CT ?_ <;> repeat' refine CT ?_))
    exact rt2 (.inl rfl) rfl hA rfl rfl (Wst.same c.le_refl (hH.tail) (RsV_stk e rfl) (by rw [e]; exact hS) (by rw [e]; rfl) (by rw [e]; rfl))
end Go.Proofs.YtenlcdokaadobaaGreatDoor
namespace Go.Proofs.YtenlcdokaadobaaGreatDoor
open Go Go.Fw
set_option linter.unusedVariables false
set_option maxRecDepth 10000 attribute [local irreducible] Code.wp wpList Calls Ex Op1 sat bat blk cb own Go.Fw.mp Go.Fw.mpO Go.Fw.mpI Go.Fw.mpE Go.Fw.itr HS Rd Ret wkD Hp Cl Cls Exit.then Exit.inBlock Exit.noGoto bodyPost Go.Fw.flat wk2 Go.Fw.all Go.Fw.owns wpOp
attribute [local irreducible] sk mpK sko mvO entK opM Go.Fw.mset Go.Fw.mv opK w63 frz obI RV

set_option maxHeartbeats 16000000 in
theorem Plain8_spec (w0 w : World) (H : List It) (c : Cx) (TM bM : Nat) (g : Grs) (kd : Int) (rest : List Value) (caps : List Int) (mine : Int) (r : Stp) (l : List Vl) (vs : List Value) (oL oO : Option Addr) (cL cO : Nat) (wd : Wd) (sx : Sx) (f : Int) (cs : List Vl) (pc : Nat) (hH : HS w0 noM (cb bM TM (encW g kd wd.inp oO wd.out.length cO ++ rest) :: own 5 1 oO wd.out.length cO (flat encY wd.out) :: frz w0 c.K :: all (sx.map obI) :: H) w) (hL : ∀ w, c.K w → Rd w oL vs) (hlc : vs.length ≤ cL ∧ cL ≤ maxLen) (hV : RVs c l vs) (hS : StR c sx wd.st) (hF : FormP g caps mine r) (hrl : l.length = r.a.l.length) (hnf : c.nf = caps.length) (hcf : FnR c f cs pc) (hK0 : ∀ w, c.K w → Kp w0 noM w) (hN : RdV w0 Fw.encI r.ns) (hbn : r.ns.l.length ≤ c.bd) (hbd : c.bd ≤ 1000000) (hout : wd.out.length ≤ 1000000) (hlab : g.ts.l.length ≤ 9223372036854775807) (hk : r.k = 8) : Ret Tryz.prog 50 #[.pointer (some (bat bM 0)), .agg (encSt r).toArray, .slice oL vs.length cL, .pointer (some (bat pc 0))] w (fun v w' => Wst w0 c TM bM g kd rest H (plainF r l cs wd) wd v w') := by
  have hvl := hV.len
  have hw := hF.want
  have hnum := hF.num
  have hsp : Sp oL vs.length := (hL w (hH.frz (by exact MEMT))).sp (sz := 1) (by omega) (by omega)
  have e := pl_8 (r := r) (l := l) (cs := cs) (wd := wd) hk
  rw [(w_8 (g := g) (mine := mine) hk).1] at hw
  rw [(w_8 (g := g) (mine := mine) hk).2] at hnum
  obtain ⟨v0, hv0, hx0⟩ := hV.get0 (i := 0) (by omega)
  (refine enter (N := 238) Tryz.func50 rfl Tryz.ntmps50 rfl ?_; intro a hA; dsimp only [sl0, Nat.reduceAdd] at hA)
  repeat' (first | ((first | apply st_ex hA hH rfl rfl (by decide) | apply dr_ex hA rfl rfl rfl (by decide) | apply dr_exp hA rfl rfl rfl (by decide) | apply dr_ex3 hA hH rfl rfl rfl (by decide)); (first | (apply ex_indexAddr; rfl; rfl; decide; omega; exact hsp) | (apply ex_load; rfl; exact cl_frz MEMT hL hv0) | (apply ex_iface; rfl)); clear hA a; intro a hA) | (refine QT ?_; clear hA a; intro a hA) | (refine BT ?_; clear hA hH; rintro _ w ⟨bN, rfl, hH⟩ a hA) | ((first | refine CT ?_ | (refine DT ?_ ?_ <;> intro hc <;> try (exfalso; omega))) <;> repeat' refine CT ?_))
  rcases hx0.asRc with ⟨ns, xs, p, on, cn, ol, cl, us, hs, rfl, ⟨hq1, hq2, hq3, hq4, hq5, hq6⟩, hp, hrn, hrl2, hus⟩ | ⟨hs, hn⟩
  rotate_left
  · rw [hs] at e
    repeat' (first | ((first | apply st_ex hA hH rfl rfl (by decide) | apply dr_ex hA rfl rfl rfl (by decide) | apply dr_exp hA rfl rfl rfl (by decide) | apply dr_ex3 hA hH rfl rfl rfl (by decide)); (first | (apply ex_indexAddr; rfl; rfl; decide; omega; exact hsp) | (apply ex_load; rfl; exact cl_frz MEMT hL hv0) | (apply ex_iface; rfl) | (apply ex_assertX; rfl; exact hn)); clear hA a; intro a hA) | (refine QT ?_; clear hA a; intro a hA) | (refine CT ?_ <;> repeat' refine CT ?_))
    exact rt2 (.inl rfl) rfl hA rfl rfl (Wst.same c.le_refl (hH.tail) (RsV_stk e rfl) (by rw [e]; exact hS) (by rw [e]; rfl) (by rw [e]; rfl))
  rw [hs] at e
  dsimp only at e
  have hul := hus.len
  repeat' (first | ((first | apply st_ex hA hH rfl rfl (by decide) | apply dr_ex hA rfl rfl rfl (by decide) | apply dr_exp hA rfl rfl rfl (by decide) | apply dr_ex3 hA hH rfl rfl rfl (by decide)); (first | (apply ex_assertY; rfl)); clear hA a; intro a hA) | (refine QT ?_; clear hA a; intro a hA) | (refine CT ?_ <;> repeat' refine CT ?_))
  (refine wp_draw_HS [(0, 1), (1, 1), (2, 1), (3, 1), (4, 1), (5, 1), (6, 0), (7, 1), (8, 1), (9, 1), (10, 1), (11, 1)] mixed (by decide +kernel) hH ?_; replace hH := hH.drew)
  repeat' (first | ((first | apply st_ex hA hH rfl rfl (by decide) | apply dr_ex hA rfl rfl rfl (by decide) | apply dr_exp hA rfl rfl rfl (by decide) | apply dr_ex3 hA hH rfl rfl rfl (by decide)); (first | (apply ex_load; rfl; exact cl_frzB MEMT hp rfl)); clear hA a; intro a hA) | (refine QT ?_; clear hA a; intro a hA))
  have hb := bs_spec w.drew on cn ns r.n (hrn _ (hH.frz (by exact MEMT))) (by omega)
  (refine dr_op hA rfl rfl rfl (by decide) (op_call rfl rfl rfl (hb)) ?_; clear hA; rintro _ w ⟨rfl, hk2⟩; refine ⟨hH.keep hk2, ?_⟩; intro a hA)
  replace hH := hH.keep hk2
  clear hk2 hb
  have hspU : Sp ol xs.length := (hrl2 _ (hH.frz (by exact MEMT))).sp (sz := 1) (by omega) (by omega)
  cases hfd : bsB ns r.n with
  | true =>
    rw [if_pos hfd] at e
    have hbi : bsI ns r.n < ns.length := (of_decide_eq_true hfd).1
    obtain ⟨u, hu, hxu⟩ := hus.get0 (i := bsI ns r.n) (by omega)
    have hu6 : us[bsI ns r.n * 1]? = some u := by rw [Nat.mul_one]; exact hu
    rw [hfd] at hA
    repeat' (first | ((first | apply st_ex hA hH rfl rfl (by decide) | apply dr_ex hA rfl rfl rfl (by decide) | apply dr_exp hA rfl rfl rfl (by decide) | apply dr_ex3 hA hH rfl rfl rfl (by decide)); (first | (apply ex_load; rfl; exact cl_frzB MEMT hp rfl) | (apply ex_indexAddr_nat; rfl; rfl; omega; exact hspU) | (apply ex_load; rfl; exact cl_frz MEMT hrl2 hu6)); clear hA a; intro a hA) | (refine QT ?_; clear hA a; intro a hA) | (refine CT ?_ <;> repeat' refine CT ?_))
    exact rt2 (.inl rfl) rfl hA rfl rfl (Wst.same c.le_refl (hH.tail) (RsV_val e hxu rfl) (by rw [e]; exact hS) (by rw [e]; rfl) (by rw [e]; rfl))
  | false =>
    rw [if_neg (by rw [hfd]; decide)] at e
    rw [hfd] at hA
    repeat' (first | (refine QT ?_; clear hA a; intro a hA) | (refine CT ?_ <;> repeat' refine CT ?_))
    exact rt2 (.inl rfl) rfl hA rfl rfl (Wst.same c.le_refl (hH.tail) (RsV_stk e rfl) (by rw [e]; exact hS) (by rw [e]; rfl) (by rw [e]; rfl))
end Go.Proofs.YtenlcdokaadobaaGreatDoor
namespace Go.Fw
open Go Go.RowKit
set_option linter.unusedVariables false
def okTL (ops : Array Oper) (π2 ps : List Nat) : Pl → Array Bool → Bool
  | .nil, listed => okL ops π2 listed
  | .q i t, listed => (Region.ready .any ops listed).contains i && Region.free .any ops listed i && (ps.contains i || late ops π2 listed i) && okTL ops π2 ps t (listed.setIfInBounds i true)
  | .one i t, listed => decide (Region.ready .any ops listed = [i]) && okTL ops π2 ps t (listed.setIfInBounds i true)
  | .two i j t u, listed => Nat.beq t.len u.len && decide (Region.ready .any ops listed = [i, j]) && okTL ops π2 ps t (listed.setIfInBounds i true) && okTL ops π2 ps u (listed.setIfInBounds j true)
def wkTL (P : Program) (ops : Array Oper) (S : World → Prop) (Q : Exit → Act → World → Prop) (π2 ps : List Nat) : Pl → Act → World → Prop
  | .nil, a, w => wk2 P ops Q π2 a w
  | .q i t, a, w => ∃ o v, ops[i]? = some o ∧ YieldsIf P ops (if ps.contains i then fun _ => True else S) o v a ∧ wkTL P ops S Q π2 ps t (a.put o.dst v) w
  | .one i t, a, w => wpOp P ops (NoPanic Q) i (fun a' w' => S w' ∧ wkTL P ops S Q π2 ps t a' w') a w
  | .two i j t u, a, w => wpOp P ops (NoPanic Q) i (fun a' w' => S w' ∧ wkTL P ops S Q π2 ps t a' w') a w ∧ wpOp P ops (NoPanic Q) j (fun a' w' => S w' ∧ wkTL P ops S Q π2 ps u a' w') a w
section
variable {P : Program} {ops : Array Oper} {S : World → Prop} {Q : Exit → Act → World → Prop} {π2 ps : List Nat}
theorem wkTL_any (hs : Region.noSelect ops = true) : ∀ (t : Pl) (listed : Array Bool) (a : Act) (w : World),
    okTL ops π2 ps t listed = true → S w → wkTL P ops S Q π2 ps t a w → wpAnyK P .any ops (NoPanic Q) S (fun j => !π2.contains j) (t.len + π2.length) listed a w
  | .nil, listed, a, w, hok, hS, h => by
    have := wk2_any (S := S) (F := fun j => !π2.contains j) π2 listed a w (fun i hi => by simpa using hi) hok h
    have e : Pl.nil.len + π2.length = π2.length := Nat.zero_add _
    rw [e]
    exact this
  | .q i t, listed, a, w, hok, hS, h => by
    simp only [okTL, Bool.and_eq_true] at hok
    obtain ⟨⟨⟨hr, hf⟩, hl⟩, hok'⟩ := hok
    obtain ⟨o, v, hi, hy, hk⟩ := h
    have e : (Pl.q i t).len + π2.length = (t.len + π2.length) + 1 := by show t.len + 1 + _ = _; omega
    rw [e]
    have hn := wkTL_any hs t _ _ w hok' hS hk
    cases hp : ps.contains i with
    | true =>
      rw [hp, if_pos rfl] at hy
      exact wpAnyK.firstp hi (Region.noSelect_spec hs) (fun c a w h => h) _ listed a w (Region.free_spec hi hf) (by simpa using hr) hy hn
    | false =>
      rw [hp] at hy hl
      exact wpAnyK.first hi (Region.noSelect_spec hs) (fun c a w h => h) _ listed a w (late_spec (by simpa using hl)) (Region.free_spec hi hf) (by simpa using hr) (by simpa using hy) hS hn
  | .one i t, listed, a, w, hok, hS, h => by
    simp only [okTL, Bool.and_eq_true, decide_eq_true_eq] at hok
    have e : (Pl.one i t).len + π2.length = (t.len + π2.length) + 1 := by show t.len + 1 + _ = _; omega
    rw [e]
    refine ⟨fun h0 => (by rw [hok.1] at h0; cases h0), fun j hj => ?_⟩
    rw [hok.1] at hj
    obtain rfl : j = i := by simpa using hj
    exact wpOp_mono (fun a' w' ⟨hS', h'⟩ => ⟨fun _ _ => hS', wkTL_any hs t _ a' w' hok.2 hS' h'⟩) h
  | .two i k t u, listed, a, w, hok, hS, h => by
    simp only [okTL, Bool.and_eq_true, decide_eq_true_eq] at hok
    obtain ⟨⟨⟨hl, hr⟩, ht⟩, hu⟩ := hok
    have hl := Nat.eq_of_beq_eq_true hl
    have e : (Pl.two i k t u).len + π2.length = (t.len + π2.length) + 1 := by show t.len + 1 + _ = _; omega
    rw [e]
    refine ⟨fun h0 => (by rw [hr] at h0; cases h0), fun j hj => ?_⟩
    rw [hr] at hj
    rcases (by simpa using hj : j = i ∨ j = k) with rfl | rfl
    · exact wpOp_mono (fun a' w' ⟨hS', h'⟩ => ⟨fun _ _ => hS', wkTL_any hs t _ a' w' ht hS' h'⟩) h.1
    · exact wpOp_mono (fun a' w' ⟨hS', h'⟩ => ⟨fun _ _ => hS', by rw [hl]; exact wkTL_any hs u _ a' w' hu hS' h'⟩) h.2
end
theorem wp_drawTL {P : Program} {id : Nat} {ops : List Oper} {Q : Exit → Act → World → Prop} {a : Act} {w0 w : World} {M : Nat → Prop} {H : List It} (t : Pl) (π2 ps : List Nat) (R : Act → World → Prop) (hm : P.follows .mixedOrders = true)
    (hok : (Region.noSelect ops.toArray && Nat.beq (t.len + π2.length) ops.length && okTL ops.toArray π2 ps t (Array.replicate ops.length false)) = true) (hH : HS w0 M H w)
    (h : (∀ a w, R a w → Q .normal a w) → wkTL P ops.toArray (HS w0 M H) Q π2 ps t a w.drew) (k : ∀ a w, R a w → Q .normal a w) : (Code.region id ops.toArray true).wp P Q a w := by
  simp only [Bool.and_eq_true] at hok
  obtain ⟨⟨hs, hl⟩, hok⟩ := hok
  have hl' : t.len + π2.length = ops.toArray.size := by simpa using Nat.eq_of_beq_eq_true hl
  have := wkTL_any (P := P) (Q := Q) hs t _ a w.drew hok hH.drew (h k)
  rw [hl'] at this
  refine wp_region_noPanic (wp_region_any hm (wpAnyK.any (S := HS w0 M H) (F := fun j => !π2.contains j) _ _ _ _ ?_))
  simpa using this
section
variable {P : Program} {N : Nat} {l : List (Nat × Value)} {a : Act} {Ds : List Deferred} {w : World} {ops : Array Oper} {S : World → Prop} {Q : Exit → Act → World → Prop} {π2 ps : List Nat} {i j : Nat} {t u : Pl}
theorem dl_nil (h : wk2 P ops Q π2 a w) : wkTL P ops S Q π2 ps .nil a w := h
theorem dl_exp {o : Oper} {d : Nat} {v : Value} (hA : Sl N l a Ds) (hi : ops[i]? = some o) (hg : gd ops l o.guard = some true) (hd : o.dst = some d) (hdN : d < N) (hp : ps.contains i = true)
    (h : Ex P N l (fun _ => True) o v) (k' : ∀ a', Sl N ((d, v) :: l) a' Ds → wkTL P ops S Q π2 ps t a' w) : wkTL P ops S Q π2 ps (.q i t) a w := by
  refine ⟨o, v, hi, ?_, ?_⟩
  · rw [hp, if_pos rfl]
    exact .inl ⟨hA.gd hg, fun w' hS => h a w' hA.toSl0 hS⟩
  · rw [hd]
    exact k' _ (hA.put hdN v)
theorem dl_ex {o : Oper} {d : Nat} {v : Value} (hA : Sl N l a Ds) (hi : ops[i]? = some o) (hg : gd ops l o.guard = some true) (hd : o.dst = some d) (hdN : d < N) (hp : ps.contains i = false)
    (h : Ex P N l S o v) (k' : ∀ a', Sl N ((d, v) :: l) a' Ds → wkTL P ops S Q π2 ps t a' w) : wkTL P ops S Q π2 ps (.q i t) a w := by
  refine ⟨o, v, hi, ?_, ?_⟩
  · rw [hp, if_neg (by decide)]
    exact .inl ⟨hA.gd hg, fun w' hS => h a w' hA.toSl0 hS⟩
  · rw [hd]
    exact k' _ (hA.put hdN v)
theorem dl_op {o : Oper} {d : Nat} {R : Value → World → Prop} (hA : Sl N l a Ds) (hi : ops[i]? = some o) (hg : gd ops l o.guard = some true) (hd : o.dst = some d) (hdN : d < N)
    (h : Op1 P N l o w R) (k : ∀ v w', R v w' → S w' ∧ ∀ a', Sl N ((d, v) :: l) a' Ds → wkTL P ops S Q π2 ps t a' w') : wkTL P ops S Q π2 ps (.one i t) a w := by
  unfold wkTL wpOp
  simp only [hi, hA.gd hg, if_true]
  refine .inl (h a hA.toSl0 _ _ fun v w' hR => ?_)
  rw [hd]
  exact ⟨(k v w' hR).1, (k v w' hR).2 _ (hA.put hdN v)⟩
theorem dl_op0 {o : Oper} {R : Value → World → Prop} (hA : Sl N l a Ds) (hi : ops[i]? = some o) (hg : gd ops l o.guard = some true) (hd : o.dst = none)
    (h : Op1 P N l o w R) (k : ∀ v w', R v w' → S w' ∧ wkTL P ops S Q π2 ps t a w') : wkTL P ops S Q π2 ps (.one i t) a w := by
  unfold wkTL wpOp
  simp only [hi, hA.gd hg, if_true]
  refine .inl (h a hA.toSl0 _ _ fun v w' hR => ?_)
  rw [hd]
  exact k v w' hR
theorem dl_two (h1 : wkTL P ops S Q π2 ps (.one i t) a w) (h2 : wkTL P ops S Q π2 ps (.one j u) a w) : wkTL P ops S Q π2 ps (.two i j t u) a w := ⟨h1, h2⟩
end
end Go.Fw
