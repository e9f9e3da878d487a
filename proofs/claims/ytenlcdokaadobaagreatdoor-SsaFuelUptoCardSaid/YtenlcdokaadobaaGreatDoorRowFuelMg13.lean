/-
  What steps do with arrays. Conditions: none.
  What operations do. Conditions: none.
-/
import Derived.Test.YtenlcdokaadobaaGreatDoorRowFuelMg12
namespace Go.Proofs.YtenlcdokaadobaaGreatDoor
open Go Go.Fw
set_option linter.unusedVariables false
def Rs.wd (r : Rs) (w : Wd) : Wd :=
  match r with
  | .val _ w' => w'
  | .exn _ => w
theorem sto_arr {w0 w : World} {H : List It} {sx : Sx} {i p k : Nat} {o : Option Addr} {us : List Value} (h : HS w0 noM (all (sx.map obI) :: H) w) (hi : sx[i]? = some (p, Ob.arr o k us)) :
    HS w0 noM (cb p 246 [.slice o us.length k] :: own 137 1 o us.length k us :: all ((sx.map obI).eraseIdx i) :: H) w :=
  HS.open_ (L := [_, _]) (h.openAt (i := i) (x := obI (p, Ob.arr o k us)) (by rw [List.getElem?_map, hi]; rfl))
theorem sto_arr_set {w0 w : World} {H : List It} {sx : Sx} {i p k : Nat} {o : Option Addr} {us : List Value} (h : HS w0 noM (cb p 246 [.slice o us.length k] :: own 137 1 o us.length k us :: all ((sx.map obI).eraseIdx i) :: H) w) (hi : i < sx.length) :
    HS w0 noM (all ((sx.set i (p, Ob.arr o k us)).map obI) :: H) w := by
  have h1 : HS w0 noM (obI (p, Ob.arr o k us) :: all ((sx.map obI).eraseIdx i) :: H) w := HS.shut (L := [cb p 246 [.slice o us.length k], own 137 1 o us.length k us]) h
  have h2 := h1.shutAt (by rw [List.length_map]; exact hi)
  rw [List.map_set]
  exact h2
theorem sto_arr_add {w0 w : World} {H : List It} {sx : Sx} {p k : Nat} {o : Option Addr} {us : List Value} (h : HS w0 noM (cb p 246 [.slice o us.length k] :: own 137 1 o us.length k us :: all (sx.map obI) :: H) w) :
    HS w0 noM (all ((sx ++ [(p, Ob.arr o k us)]).map obI) :: H) w := by
  have h1 : HS w0 noM (obI (p, Ob.arr o k us) :: all (sx.map obI) :: H) w := HS.shut (L := [cb p 246 [.slice o us.length k], own 137 1 o us.length k us]) h
  have h2 := h1.pushA
  rw [List.map_append]
  exact h2
theorem sto_cell {w0 w : World} {H : List It} {sx : Sx} {i p : Nat} {v : Value} (h : HS w0 noM (all (sx.map obI) :: H) w) (hi : sx[i]? = some (p, Ob.cell v)) :
    HS w0 noM (cb p 234 [v] :: all ((sx.map obI).eraseIdx i) :: H) w := h.openAt (i := i) (x := obI (p, Ob.cell v)) (by rw [List.getElem?_map, hi]; rfl)
theorem sto_cell_set {w0 w : World} {H : List It} {sx : Sx} {i p : Nat} {v : Value} (h : HS w0 noM (cb p 234 [v] :: all ((sx.map obI).eraseIdx i) :: H) w) (hi : i < sx.length) :
    HS w0 noM (all ((sx.set i (p, Ob.cell v)).map obI) :: H) w := by
  have h1 : HS w0 noM (obI (p, Ob.cell v) :: all ((sx.map obI).eraseIdx i) :: H) w := h
  have h2 := h1.shutAt (by rw [List.length_map]; exact hi)
  rw [List.map_set]
  exact h2
theorem sto_cell_add {w0 w : World} {H : List It} {sx : Sx} {p : Nat} {v : Value} (h : HS w0 noM (cb p 234 [v] :: all (sx.map obI) :: H) w) :
    HS w0 noM (all ((sx ++ [(p, Ob.cell v)]).map obI) :: H) w := by
  have h1 : HS w0 noM (obI (p, Ob.cell v) :: all (sx.map obI) :: H) w := h
  have h2 := h1.pushA
  rw [List.map_append]
  exact h2
theorem set_self {α : Type} {l : List α} {i : Nat} {x : α} (h : l[i]? = some x) : l.set i x = l := set_same h
theorem getD_some {α : Type} {l : List α} {i : Nat} {x d : α} (h : l[i]? = some x) : l.getD i d = x := by rw [List.getD_eq_getElem?_getD, h]; rfl
theorem arr_of {c : Cx} {sx : Sx} {st : List (List Vl)} {i p : Nat} (h : StR c sx st) (hi : c.ad[i]? = some (p, false)) : ∃ o k us l, sx[i]? = some (p, .arr o k us) ∧ st[i]? = some l ∧ RVs c l us := by
  obtain ⟨ob, l, h1, h2, h3, h4⟩ := h.place hi
  cases ob with
  | cell v => cases h2
  | arr o k us => exact ⟨o, k, us, l, h1, h3, h4⟩
theorem cell_of {c : Cx} {sx : Sx} {st : List (List Vl)} {i p : Nat} (h : StR c sx st) (hi : c.ad[i]? = some (p, true)) : ∃ v x, sx[i]? = some (p, .cell v) ∧ st[i]? = some [x] ∧ RV c x v := by
  obtain ⟨ob, l, h1, h2, h3, h4⟩ := h.place hi
  cases ob with
  | arr o k us => cases h2
  | cell v =>
    obtain ⟨x, rfl, h5⟩ := h4
    exact ⟨v, x, h1, h3, h5⟩
def Pst (w0 : World) (c : Cx) (H : List It) (r : Rs) (wd : Wd) (v : Value) (w : World) : Prop :=
  ∃ d sx, (c.le d ∧ d.bd ≤ c.bd + 1) ∧ HS w0 noM (frz w0 d.K :: all (sx.map obI) :: H) w ∧ RsV d r v ∧ StR d sx (r.wd wd).st
theorem Pst.same {w0 w : World} {c : Cx} {H : List It} {r : Rs} {wd : Wd} {v : Value} {sx : Sx} (hH : HS w0 noM (frz w0 c.K :: all (sx.map obI) :: H) w) (hr : RsV c r v) (hS : StR c sx (r.wd wd).st) : Pst w0 c H r wd v w := ⟨c, sx, ⟨c.le_refl, Nat.le_succ _⟩, hH, hr, hS⟩
theorem RV_ar {c : Cx} {i p : Nat} (h : c.ad[i]? = some (p, false)) : RV c (.ar i) (ptrV 243 p) := by rw [RV]; exact ⟨p, rfl, h⟩
theorem RV_cl {c : Cx} {i p : Nat} (h : c.ad[i]? = some (p, true)) : RV c (.cl i) (ptrV 232 p) := by rw [RV]; exact ⟨p, rfl, h⟩
theorem StR.next {c : Cx} {sx : Sx} {st : List (List Vl)} (h : StR c sx st) (e : Nat × Bool) : (c.ad ++ [e])[st.length]? = some e := by
  have h1 : c.ad.length = st.length := by rw [h.ad, ← h.len]; unfold adr; rw [List.length_map]
  rw [List.getElem?_append_right (by omega), h1, Nat.sub_self]
  rfl
theorem Pst.arr {w0 w : World} {c : Cx} {H : List It} {r : Rs} {wd : Wd} {sx : Sx} {p m : Nat} {o : Option Addr} {x : Vl} {u v : Value} (hH : HS w0 noM (cb p 246 [.slice o m m] :: own 137 1 o m m (List.replicate m u) :: all (sx.map obI) :: frz w0 c.K :: H) w) (hx : RV c x u) (hS : StR c sx wd.st)
    (hr : r = .val (.ar wd.st.length) { wd with st := wd.st ++ [List.replicate m x] }) (hv : v = .tuple #[ptrV 243 p, .string empS]) : Pst w0 c H r wd v w := by
  obtain ⟨hle, hS2⟩ := hS.add (p := p) (ob := .arr o m (List.replicate m u)) (l := List.replicate m x) (RVs.rep hx m)
  refine ⟨_, _, ⟨hle, Nat.le_succ _⟩, ?_, RsV_val hr (RV_ar (hS.next _)) hv, by rw [hr]; exact hS2⟩
  have e : (List.replicate m u).length = m := List.length_replicate
  have h1 : HS w0 noM (cb p 246 [.slice o (List.replicate m u).length m] :: own 137 1 o (List.replicate m u).length m (List.replicate m u) :: all (sx.map obI) :: frz w0 c.K :: H) w := by rw [e]; exact hH
  exact (sto_arr_add h1).perm (.swap _ _ _)
theorem arr13 {l : List Vl} {wd : Wd} {op : Int} (h : op = 13) : arraysF op l wd = (match asNum (nth0 l 0) with | some n => if n < 0 ∨ 256 < n then .exn exnS else .val (.ar wd.st.length) { wd with st := wd.st ++ [List.replicate n.toNat (nth0 l 1)] } | none => stk wd) := if_pos h
theorem arrN {l : List Vl} {wd : Wd} {op : Int} (h : op ≠ 13) : arraysF op l wd = (match asAr (nth0 l 0) with
    | some p =>
      if op = 16 then .val (.num (wd.st.getD p []).length) wd
      else
        match asNum (nth0 l 1) with
        | some i =>
          if i < 0 ∨ ((wd.st.getD p []).length : Int) ≤ i then .exn exnB
          else if op = 14 then .val (nth0 (wd.st.getD p []) i.toNat) wd
          else .val (.num 0) { wd with st := wd.st.set p ((wd.st.getD p []).set i.toNat (nth0 l 2)) }
        | none => stk wd
    | none => stk wd) := if_neg h
theorem put_set {cs : List Value} {j : Nat} {v : Value} (h : j < cs.length) : put cs (j * 1) [v] = cs.set j v := by
  rw [Nat.mul_one, List.set_eq_take_append_cons_drop, if_pos h]
  simp [put]
set_option maxRecDepth 10000 attribute [local irreducible] Code.wp wpList Calls Ex Op1 sat bat blk cb own Go.Fw.mp Go.Fw.mpO Go.Fw.mpI Go.Fw.mpE Go.Fw.itr HS Rd Ret wkD Hp Cl Cls Exit.then Exit.inBlock Exit.noGoto bodyPost Go.Fw.flat wk2 Go.Fw.all Go.Fw.owns wpOp
attribute [local irreducible] sk mpK sko mvO entK opM Go.Fw.mset Go.Fw.mv opK w63 frz obI RV

set_option maxHeartbeats 16000000 in
theorem arrays_spec (w0 w : World) (H : List It) (c : Cx) (op : Int) (l : List Vl) (vs : List Value) (oL : Option Addr) (cL : Nat) (wd : Wd) (sx : Sx) (hH : HS w0 noM (frz w0 c.K :: all (sx.map obI) :: H) w) (hL : ∀ w, c.K w → Rd w oL vs) (hV : RVs c l vs) (hS : StR c sx wd.st)
    (hop : (op = 13 ∧ 2 ≤ l.length) ∨ (op = 14 ∧ 2 ≤ l.length) ∨ (op = 15 ∧ 3 ≤ l.length) ∨ (op = 16 ∧ 1 ≤ l.length)) :
    Ret Tryz.prog 116 #[.int .i64 op, .slice oL vs.length cL] w (fun v w' => Pst w0 c H (arraysF op l wd) wd v w') := by
  have hvl := hV.len
  have hsp : Sp oL vs.length := (hL w (hH.frz (.head _))).sp (sz := 1) (by omega) (by omega)
  obtain ⟨v0, hv0, hx0⟩ := hV.get0 (i := 0) (by omega)
  (refine enter (N := 98) Tryz.func116 rfl Tryz.ntmps116 rfl ?_; intro a hA; dsimp only [sl0, Nat.reduceAdd] at hA)
  by_cases h13 : op = 13
  · obtain ⟨v1, hv1, hx1⟩ := hV.get0 (i := 1) (by omega)
    have e13 := arr13 (l := l) (wd := wd) h13
    repeat' (first | ((first | apply st_ex hA hH rfl rfl (by decide) | apply dr_ex hA rfl rfl rfl (by decide) | apply dr_exp hA rfl rfl rfl (by decide) | apply dr_ex3 hA hH rfl rfl rfl (by decide)); (first | (apply ex_indexAddr; rfl; rfl; decide; omega; exact hsp) | (apply ex_load; rfl; exact cl_frz MEMT hL hv0)); clear hA a; intro a hA) | (refine QT ?_; clear hA a; intro a hA) | ((first | refine CT ?_ | (refine DT ?_ ?_ <;> intro hc <;> try (exfalso; omega))) <;> repeat' refine CT ?_))
    rcases hx0.asNum with ⟨n, hs, rfl, hio⟩ | ⟨hs, hn⟩
    rotate_left
    · repeat' (first | ((first | apply st_ex hA hH rfl rfl (by decide) | apply dr_ex hA rfl rfl rfl (by decide) | apply dr_exp hA rfl rfl rfl (by decide) | apply dr_ex3 hA hH rfl rfl rfl (by decide)); (first | (apply ex_assertX; rfl; exact hn)); clear hA a; intro a hA) | (refine QT ?_; clear hA a; intro a hA) | (refine CT ?_ <;> repeat' refine CT ?_))
      rw [hs] at e13
      exact rt2 (.inl rfl) rfl hA rfl rfl (Pst.same hH (RsV_stk e13 rfl) (by rw [e13]; exact hS))
    rw [hs] at e13
    dsimp only at e13
    repeat' (first | (refine GT ?_ ?_ <;> intro hg <;> clear hA a <;> intro a hA <;> (first | exact FA | replace hg := of_decide_eq_true hg | replace hg := of_decide_eq_false hg | skip)) | ((first | apply st_ex hA hH rfl rfl (by decide) | apply dr_ex hA rfl rfl rfl (by decide) | apply dr_exp hA rfl rfl rfl (by decide) | apply dr_ex3 hA hH rfl rfl rfl (by decide)); (first | (apply ex_assertY; rfl) | (apply ex_iface; rfl) | (apply ex_load; rfl; exact cl_frz MEMT hL hv1)); clear hA a; intro a hA) | (refine QT ?_; clear hA a; intro a hA) | ((first | refine CT ?_ | (refine DT ?_ ?_ <;> intro hc <;> try (exfalso; omega))) <;> repeat' refine CT ?_))
    · rw [if_pos (.inl (by omega))] at e13
      exact rt2 (.inl rfl) rfl hA rfl rfl (Pst.same hH (RsV_exn e13 rfl) (by rw [e13]; exact hS))
    · rw [if_pos (.inr (by omega))] at e13
      exact rt2 (.inl rfl) rfl hA rfl rfl (Pst.same hH (RsV_exn e13 rfl) (by rw [e13]; exact hS))
    rw [if_neg (by omega)] at e13
    obtain ⟨m, rfl⟩ : ∃ m : Nat, n = m := ⟨n.toNat, by omega⟩
    (apply st_op hA rfl rfl (by decide); apply op_sliceLit (xs := [v1]) (vs := [v1]); rfl; rfl; exact .c1 hx1.one .nil; rfl; rfl; rfl; exact hH; clear hA hH; rintro _ w ⟨oN, rfl, hH⟩ a hA)
    repeat' (first | (refine QT ?_; clear hA a; intro a hA))
    have hrp := repeat_spec w oN m v1 (hH.own_rd (T := 137) (.head _)) hx1.one (by omega)
    (refine st_op hA rfl rfl (by decide) (op_call rfl rfl rfl hrp) ?_; clear hA; rintro _ w ⟨oR, rfl, hj⟩ a hA; replace hH := hH.join hj; clear hj hrp)
    repeat' (first | ((first | apply st_ex hA hH rfl rfl (by decide) | apply dr_ex hA rfl rfl rfl (by decide) | apply dr_exp hA rfl rfl rfl (by decide) | apply dr_ex3 hA hH rfl rfl rfl (by decide)); (first | (apply ex_iface; rfl)); clear hA a; intro a hA) | (refine QT ?_; clear hA a; intro a hA) | (refine BT ?_; clear hA hH; rintro _ w ⟨bN, rfl, hH⟩ a hA) | (refine CT ?_ <;> repeat' refine CT ?_))
    exact rt2 (.inl rfl) rfl hA rfl rfl (Pst.arr (x := nth0 l 1) (hH.perm (H' := cb bN 246 [.slice oR m m] :: own 137 1 oR m m (List.replicate m v1) :: all (sx.map obI) :: frz w0 c.K :: own 137 1 oN 1 1 [v1] :: H) (by (repeat (first | exact List.Perm.refl _ | exact List.Perm.nil | refine perm_pick 0 rfl ?_ | refine perm_pick 1 rfl ?_ | refine perm_pick 2 rfl ?_ | refine perm_pick 3 rfl ?_ | refine perm_pick 4 rfl ?_ | refine perm_pick 5 rfl ?_ | refine perm_pick 6 rfl ?_ | refine perm_pick 7 rfl ?_ | refine perm_pick 8 rfl ?_ | refine perm_pick 9 rfl ?_ | refine perm_pick 10 rfl ?_ | refine perm_pick 11 rfl ?_))) |>.rm 4) hx1 hS e13 rfl)
  · have eN := arrN (l := l) (wd := wd) h13
    repeat' (first | ((first | apply st_ex hA hH rfl rfl (by decide) | apply dr_ex hA rfl rfl rfl (by decide) | apply dr_exp hA rfl rfl rfl (by decide) | apply dr_ex3 hA hH rfl rfl rfl (by decide)); (first | (apply ex_indexAddr; rfl; rfl; decide; omega; exact hsp) | (apply ex_load; rfl; exact cl_frz MEMT hL hv0)); clear hA a; intro a hA) | (refine QT ?_; clear hA a; intro a hA) | ((first | refine CT ?_ | (refine DT ?_ ?_ <;> intro hc <;> try (exfalso; omega))) <;> repeat' refine CT ?_))
    rcases hx0.asAr with ⟨i, p, hs, rfl, hio⟩ | ⟨hs, hn⟩
    rotate_left
    · repeat' (first | ((first | apply st_ex hA hH rfl rfl (by decide) | apply dr_ex hA rfl rfl rfl (by decide) | apply dr_exp hA rfl rfl rfl (by decide) | apply dr_ex3 hA hH rfl rfl rfl (by decide)); (first | (apply ex_assertX; rfl; exact hn)); clear hA a; intro a hA) | (refine QT ?_; clear hA a; intro a hA) | (refine CT ?_ <;> repeat' refine CT ?_))
      rw [hs] at eN
      exact rt2 (.inl rfl) rfl hA rfl rfl (Pst.same hH (RsV_stk eN rfl) (by rw [eN]; exact hS))
    rw [hs] at eN
    dsimp only at eN
    obtain ⟨o, k, us, xs, hsx, hst, hus⟩ := arr_of hS hio
    have hul := hus.len
    rw [getD_some hst] at eN
    have hiL := (List.getElem?_eq_some_iff.1 hsx).1
    have hH2 := sto_arr ((hH.perm (.swap _ _ _))) hsx
    clear hH
    have hH := hH2
    clear hH2
    have hback : ∀ w, HS w0 noM (cb p 246 [.slice o us.length k] :: own 137 1 o us.length k us :: all ((sx.map obI).eraseIdx i) :: frz w0 c.K :: H) w → HS w0 noM (frz w0 c.K :: all (sx.map obI) :: H) w := fun w h => by
      have h2 := sto_arr_set h hiL
      rw [set_self hsx] at h2
      exact h2.perm (.swap _ _ _)
    have hspU := hH.own_sp (T := 137) (o := o) (by exact MEMT)
    repeat' (first | ((first | apply st_ex hA hH rfl rfl (by decide) | apply dr_ex hA rfl rfl rfl (by decide) | apply dr_exp hA rfl rfl rfl (by decide) | apply dr_ex3 hA hH rfl rfl rfl (by decide)); (first | (apply ex_assertY; rfl) | (apply ex_iface; rfl)); clear hA a; intro a hA) | (refine QT ?_; clear hA a; intro a hA) | ((first | refine CT ?_ | (refine DT ?_ ?_ <;> intro hc <;> try (exfalso; omega))) <;> repeat' refine CT ?_))
    · rw [if_pos (by assumption)] at eN
      have hle := (hH.own_le (T := 137) (o := o) (by exact MEMT))
      unfold maxLen at hle
      exact rt2 (.inl rfl) rfl hA rfl rfl (Pst.same (hback _ hH) (RsV_val (x := .num xs.length) eN (by rw [← hul]; exact RV_num ⟨by omega, by omega⟩) rfl) (by rw [eN]; exact hS))
    rw [if_neg (by assumption)] at eN
    obtain ⟨v1, hv1, hx1⟩ := hV.get0 (i := 1) (by omega)
    repeat' (first | ((first | apply st_ex hA hH rfl rfl (by decide) | apply dr_ex hA rfl rfl rfl (by decide) | apply dr_exp hA rfl rfl rfl (by decide) | apply dr_ex3 hA hH rfl rfl rfl (by decide)); (first | (apply ex_load; rfl; exact cl_frz MEMT hL hv1)); clear hA a; intro a hA) | (refine QT ?_; clear hA a; intro a hA))
    rcases hx1.asNum with ⟨j, hj, rfl, hjo⟩ | ⟨hj, hn⟩
    rotate_left
    · repeat' (first | ((first | apply st_ex hA hH rfl rfl (by decide) | apply dr_ex hA rfl rfl rfl (by decide) | apply dr_exp hA rfl rfl rfl (by decide) | apply dr_ex3 hA hH rfl rfl rfl (by decide)); (first | (apply ex_assertX; rfl; exact hn)); clear hA a; intro a hA) | (refine QT ?_; clear hA a; intro a hA) | (refine CT ?_ <;> repeat' refine CT ?_))
      rw [hj] at eN
      exact rt2 (.inl rfl) rfl hA rfl rfl (Pst.same (hback _ hH) (RsV_stk eN rfl) (by rw [eN]; exact hS))
    rw [hj] at eN
    dsimp only at eN
    have hget : ∀ h : ¬ (j < 0 ∨ (xs.length : Int) ≤ j), ∃ u, us[j.toNat * 1]? = some u ∧ RV c (nth0 xs j.toNat) u := fun h => by
      obtain ⟨u, h1, h2⟩ := hus.get0 (i := j.toNat) (by omega)
      exact ⟨u, by rw [Nat.mul_one]; exact h1, h2⟩
    by_cases hb : j < 0 ∨ (xs.length : Int) ≤ j
    · rw [if_pos hb] at eN
      repeat' (first | (refine GT ?_ ?_ <;> intro hg <;> clear hA a <;> intro a hA <;> (first | exact FA | replace hg := of_decide_eq_true hg | replace hg := of_decide_eq_false hg | skip)) | ((first | apply st_ex hA hH rfl rfl (by decide) | apply dr_ex hA rfl rfl rfl (by decide) | apply dr_exp hA rfl rfl rfl (by decide) | apply dr_ex3 hA hH rfl rfl rfl (by decide)); (first | (apply ex_assertY; rfl)); clear hA a; intro a hA) | (refine QT ?_; clear hA a; intro a hA) | ((first | refine CT ?_ | (refine DT ?_ ?_ <;> intro hc <;> try (exfalso; omega))) <;> repeat' refine CT ?_))
      all_goals exact rt2 (.inl rfl) rfl hA rfl rfl (Pst.same (hback _ hH) (RsV_exn eN rfl) (by rw [eN]; exact hS))
    obtain ⟨u, hu, hxu⟩ := hget hb
    rw [if_neg hb] at eN
    by_cases h14 : op = 14
    · rw [if_pos h14] at eN
      repeat' (first | (refine GT ?_ ?_ <;> intro hg <;> clear hA a <;> intro a hA <;> (first | exact FA | replace hg := of_decide_eq_true hg | replace hg := of_decide_eq_false hg | skip)) | ((first | apply st_ex hA hH rfl rfl (by decide) | apply dr_ex hA rfl rfl rfl (by decide) | apply dr_exp hA rfl rfl rfl (by decide) | apply dr_ex3 hA hH rfl rfl rfl (by decide)); (first | (apply ex_assertY; rfl) | (apply ex_indexAddr; rfl; rfl; omega; omega; exact hspU) | (apply ex_load; rfl; apply cl_own (T := 137) (o := o); exact MEMT; exact hu)); clear hA a; intro a hA) | (refine QT ?_; clear hA a; intro a hA) | ((first | refine CT ?_ | (refine DT ?_ ?_ <;> intro hc <;> try (exfalso; omega))) <;> repeat' refine CT ?_))
      exact rt2 (.inl rfl) rfl hA rfl rfl (Pst.same (hback _ hH) (RsV_val eN hxu rfl) (by rw [eN]; exact hS))
    · rw [if_neg h14] at eN
      obtain ⟨v2, hv2, hx2⟩ := hV.get0 (i := 2) (by omega)
      repeat' (first | (refine GT ?_ ?_ <;> intro hg <;> clear hA a <;> intro a hA <;> (first | exact FA | replace hg := of_decide_eq_true hg | replace hg := of_decide_eq_false hg | skip)) | ((first | apply st_ex hA hH rfl rfl (by decide) | apply dr_ex hA rfl rfl rfl (by decide) | apply dr_exp hA rfl rfl rfl (by decide) | apply dr_ex3 hA hH rfl rfl rfl (by decide)); (first | (apply ex_assertY; rfl) | (apply ex_iface; rfl)); clear hA a; intro a hA) | (refine QT ?_; clear hA a; intro a hA) | ((first | refine CT ?_ | (refine DT ?_ ?_ <;> intro hc <;> try (exfalso; omega))) <;> repeat' refine CT ?_))
      have hjl : j.toNat < us.length := by omega
      have hjl1 : j.toNat * 1 < us.length := by omega
      have hps := put_set (v := v2) hjl
      have h1v := hx2.one
      (refine wp_draw2_HS [(0, 1), (1, 1), (2, 1), (3, 1), (4, 1), (5, 1), (6, 1), (7, 1), (8, 1)] [9] mixed (by decide +kernel) hH ?_; replace hH := hH.drew)
      repeat' (first | ((first | apply st_ex hA hH rfl rfl (by decide) | apply dr_ex hA rfl rfl rfl (by decide) | apply dr_exp hA rfl rfl rfl (by decide) | apply dr_ex3 hA hH rfl rfl rfl (by decide)); (first | (apply ex_indexAddr; rfl; rfl; decide; omega; exact hsp) | (apply ex_indexAddr; rfl; rfl; omega; omega; exact hspU) | (apply ex_load; rfl; exact cl_frz MEMT hL hv2)); clear hA a; intro a hA) | (refine QT ?_; clear hA a; intro a hA) | (refine CT ?_ <;> repeat' refine CT ?_))
      (apply dr_op03 hA rfl rfl rfl; apply op_store_own1; rfl; rfl; exact h1v; exact hH; (repeat constructor); exact hjl1; exact hps; clear hH; rintro _ w hH)
      repeat' (first | ((first | apply st_ex hA hH rfl rfl (by decide) | apply dr_ex hA rfl rfl rfl (by decide) | apply dr_exp hA rfl rfl rfl (by decide) | apply dr_ex3 hA hH rfl rfl rfl (by decide)); (first | (apply ex_iface; rfl)); clear hA a; intro a hA) | (refine QT ?_; clear hA a; intro a hA) | (refine CT ?_ <;> repeat' refine CT ?_))
      have hlen : (us.set j.toNat v2).length = us.length := List.length_set
      rw [← hlen] at hH
      have h2 := sto_arr_set hH hiL
      have hS2 := hS.set (ob' := .arr o k (us.set j.toNat v2)) (l := xs.set j.toNat (nth0 l 2)) hsx rfl (RVs.set hus hx2)
      exact rt2 (.inl rfl) rfl hA rfl rfl ⟨c, _, ⟨c.le_refl, Nat.le_succ _⟩, h2.perm (.swap _ _ _), RsV_val eN (RV_num ⟨by omega, by omega⟩) rfl, by rw [eN]; exact hS2⟩
end Go.Proofs.YtenlcdokaadobaaGreatDoor
namespace Go.Proofs.YtenlcdokaadobaaGreatDoor
open Go Go.Fw
set_option linter.unusedVariables false
def encW (g : Grs) (kd : Int) (s : ByteArray) (o : Option Addr) (n c : Nat) : List Value := [.slice g.xs.o g.xs.l.length g.xs.c, .slice g.ss.o g.ss.l.length g.ss.c, .int .i64 kd, .string s, .slice o n c]
def Wst (w0 : World) (c : Cx) (TM bM : Nat) (g : Grs) (kd : Int) (rest : List Value) (H : List It) (r : Rs) (wd : Wd) (v : Value) (w : World) : Prop :=
  ∃ d sx oO cO, (c.le d ∧ d.bd ≤ c.bd + 1) ∧ HS w0 noM (cb bM TM (encW g kd (r.wd wd).inp oO (r.wd wd).out.length cO ++ rest) :: own 5 1 oO (r.wd wd).out.length cO (flat encY (r.wd wd).out) :: frz w0 d.K :: all (sx.map obI) :: H) w ∧ RsV d r v ∧ StR d sx (r.wd wd).st
theorem Wst.same {w0 w : World} {c d : Cx} {TM bM : Nat} {g : Grs} {kd : Int} {rest : List Value} {H : List It} {r : Rs} {wd : Wd} {v : Value} {sx : Sx} {oO : Option Addr} {cO : Nat} (hd : c.le d) (hH : HS w0 noM (cb bM TM (encW g kd wd.inp oO wd.out.length cO ++ rest) :: own 5 1 oO wd.out.length cO (flat encY wd.out) :: frz w0 d.K :: all (sx.map obI) :: H) w) (hr : RsV d r v) (hS : StR d sx (r.wd wd).st) (hi : (r.wd wd).inp = wd.inp) (ho : (r.wd wd).out = wd.out) (hb : d.bd ≤ c.bd + 1 := by exact Nat.le_succ _) :
    Wst w0 c TM bM g kd rest H r wd v w := ⟨d, sx, oO, cO, ⟨hd, hb⟩, by rw [hi, ho]; exact hH, hr, hS⟩
theorem texts_wd {op : Int} {l : List Vl} {wd : Wd} : (textsF op l wd).wd wd = wd := by
  unfold textsF
  split
  · split
    · rfl
    · split
      · split
        · split <;> rfl
        · rfl
      · split
        · split <;> rfl
        · rfl
  · rfl
theorem arrays_io {op : Int} {l : List Vl} {wd : Wd} : ((arraysF op l wd).wd wd).inp = wd.inp ∧ ((arraysF op l wd).wd wd).out = wd.out := by
  unfold arraysF
  split
  · split
    · split <;> exact ⟨rfl, rfl⟩
    · exact ⟨rfl, rfl⟩
  · split
    · split
      · exact ⟨rfl, rfl⟩
      · split
        · split
          · exact ⟨rfl, rfl⟩
          · split <;> exact ⟨rfl, rfl⟩
        · exact ⟨rfl, rfl⟩
    · exact ⟨rfl, rfl⟩
theorem op_10 {op : Int} {l : List Vl} {wd : Wd} (h : op = 10) : opF op l wd = .val (.cl wd.st.length) { wd with st := wd.st ++ [[nth0 l 0]] } := if_pos h
theorem op_11 {op : Int} {l : List Vl} {wd : Wd} (h : op = 11) : opF op l wd = (match asCl (nth0 l 0) with | some p => .val (nth0 (wd.st.getD p []) 0) wd | none => stk wd) := by
  subst h; rfl
theorem op_12 {op : Int} {l : List Vl} {wd : Wd} (h : op = 12) : opF op l wd = (match asCl (nth0 l 0) with | some p => .val (.num 0) { wd with st := wd.st.set p [nth0 l 1] } | none => stk wd) := by
  subst h; rfl
theorem op_tx {op : Int} {l : List Vl} {wd : Wd} (h : op = 17 ∨ op = 18 ∨ op = 19) : opF op l wd = textsF op l wd := by
  rcases h with rfl | rfl | rfl <;> rfl
theorem op_ar {op : Int} {l : List Vl} {wd : Wd} (h : op = 13 ∨ op = 14 ∨ op = 15 ∨ op = 16) : opF op l wd = arraysF op l wd := by
  rcases h with rfl | rfl | rfl | rfl <;> rfl
theorem op_num {op : Int} {l : List Vl} {wd : Wd} (h : op < 10 ∨ 19 < op) : opF op l wd = (match asNum (nth0 l 0), (if 1 < l.length then asNum (nth0 l 1) else some 0) with
    | some a, some b =>
      if op = 20 then (if eqS wd.inp empS = true then .val (.num (-1)) wd else .val (.num ((bts wd.inp).getD 0 0)) { wd with inp := wd.inp.extract 1 wd.inp.size })
      else if op = 21 then .val (.num 0) { wd with out := wd.out ++ [(IntKind.u8.wrap a).toNat] }
      else match doF op a b with
        | some n => .val (.num n) wd
        | none => .exn exnD
    | _, _ => stk wd) := by
  unfold opF
  rw [if_neg (by omega), if_neg (by omega), if_neg (by omega), if_neg (by omega), if_neg (by omega)]
  rfl
theorem inp_pos {s : ByteArray} (h : eqS s empS = false) : 0 < (bts s).length := by
  rcases Nat.eq_zero_or_pos (bts s).length with h0 | h0
  · rw [bts_len] at h0
    have : s = empS := by
      cases s with
      | mk d => unfold empS; congr 1; exact Array.eq_empty_of_size_eq_zero h0
    rw [this, show eqS empS empS = true from beq_self_eq_true _] at h
    cases h
  · exact h0
theorem flatY_s (l : List Nat) (n : Nat) : flat encY l ++ [.int .u8 (n : Int)] = flat encY (l ++ [n]) := by rw [flat_snoc]; rfl
theorem lenY (l : List Nat) (n : Nat) : (l ++ [n]).length = l.length + 1 := by rw [List.length_append]; rfl
theorem u8_nat (a : Int) : ((IntKind.u8.wrap a).toNat : Int) = IntKind.u8.wrap a := by
  have : IntKind.u8.wrap a = a % 256 := rfl
  rw [this]
  omega
theorem shr_63 (x : Int) (h : iok x) : iok (shrK .i64 x 1) := by
  unfold shrK iok at *
  have : min (Int.toNat 1) IntKind.i64.bits = 1 := by decide
  rw [this, Int.fdiv_eq_ediv_of_nonneg _ (by decide)]
  show -9223372036854775808 ≤ x / 2 ∧ x / 2 ≤ 9223372036854775807
  omega
theorem wrap_iok (x : Int) : iok (IntKind.i64.wrap x) := by
  have h : IntKind.i64.wrap x = if (x % 18446744073709551616) ≥ 9223372036854775808 then x % 18446744073709551616 - 18446744073709551616 else x % 18446744073709551616 := by
    unfold IntKind.wrap
    simp [IntKind.bits, IntKind.signed]
  rw [h]
  unfold iok
  split <;> omega
theorem w63_iok (n : Int) : iok (w63 n) := by
  unfold w63 shlK
  exact shr_63 _ (wrap_iok _)
theorem doF_iok {op a b n : Int} (h : doF op a b = some n) : iok n := by
  unfold doF at h
  split at h
  · cases h
  · split at h
    · cases h
    · cases h; exact w63_iok _
set_option maxRecDepth 10000 attribute [local irreducible] Code.wp wpList Calls Ex Op1 sat bat blk cb own Go.Fw.mp Go.Fw.mpO Go.Fw.mpI Go.Fw.mpE Go.Fw.itr HS Rd Ret wkD Hp Cl Cls Exit.then Exit.inBlock Exit.noGoto bodyPost Go.Fw.flat wk2 Go.Fw.all Go.Fw.owns wpOp
attribute [local irreducible] sk mpK sko mvO entK opM Go.Fw.mset Go.Fw.mv opK w63 frz obI RV

set_option maxHeartbeats 16000000 in
theorem op_spec (w0 w : World) (H : List It) (c : Cx) (TM bM : Nat) (g : Grs) (kd : Int) (rest : List Value) (op : Int) (l : List Vl) (vs : List Value) (oL oO : Option Addr) (cL cO : Nat) (wd : Wd) (sx : Sx) (hH : HS w0 noM (cb bM TM (encW g kd wd.inp oO wd.out.length cO ++ rest) :: own 5 1 oO wd.out.length cO (flat encY wd.out) :: frz w0 c.K :: all (sx.map obI) :: H) w)
    (hL : ∀ w, c.K w → Rd w oL vs) (hV : RVs c l vs) (hS : StR c sx wd.st) (hlo : 1 ≤ op) (hhi : op ≤ 21) (hop : (l.length : Int) = arityF op) (hout : wd.out.length ≤ 1000000) :
    Ret Tryz.prog 92 #[.pointer (some (bat bM 0)), .int .i64 op, .slice oL vs.length cL] w (fun v w' => Wst w0 c TM bM g kd rest H (opF op l wd) wd v w') := by
  have hvl := hV.len
  have hl1 : 1 ≤ l.length := by unfold arityF at hop; (repeat' split at hop) <;> omega
  have hsp : Sp oL vs.length := (hL w (hH.frz (by exact MEMT))).sp (sz := 1) (by omega) (by omega)
  obtain ⟨v0, hv0, hx0⟩ := hV.get0 (i := 0) (by omega)
  (refine enter (N := 153) Tryz.func92 rfl Tryz.ntmps92 rfl ?_; intro a hA; dsimp only [sl0, Nat.reduceAdd] at hA)
  by_cases h10 : op = 10
  · have e := op_10 (l := l) (wd := wd) h10
    have hone : ([v0] : List Value).all (·.oneCell') = true := by simp [hx0.one]
    repeat' (first | ((first | apply st_ex hA hH rfl rfl (by decide) | apply dr_ex hA rfl rfl rfl (by decide) | apply dr_exp hA rfl rfl rfl (by decide) | apply dr_ex3 hA hH rfl rfl rfl (by decide)); (first | (apply ex_indexAddr; rfl; rfl; decide; omega; exact hsp) | (apply ex_load; rfl; exact cl_frz MEMT hL hv0) | (apply ex_iface; rfl) | (apply ex_build_full (vs := [v0]); rfl; rfl; rfl; exact hone; rfl; (repeat (first | (intro _ h; exact absurd h (List.not_mem_nil)) | (refine List.forall_mem_cons.2 ⟨one_cell_of _ _, ?_⟩))))); clear hA a; intro a hA) | (refine QT ?_; clear hA a; intro a hA) | (refine BT ?_; clear hA hH; rintro _ w ⟨bN, rfl, hH⟩ a hA) | ((first | refine CT ?_ | (refine DT ?_ ?_ <;> intro hc <;> try (exfalso; omega))) <;> repeat' refine CT ?_))
    obtain ⟨hle, hS2⟩ := hS.add (p := bN) (ob := .cell v0) (l := [nth0 l 0]) ⟨_, rfl, hx0⟩
    have h2 := sto_cell_add (hH.perm (H' := cb bN 234 [v0] :: all (sx.map obI) :: cb bM TM (encW g kd wd.inp oO wd.out.length cO ++ rest) :: own 5 1 oO wd.out.length cO (flat encY wd.out) :: frz w0 c.K :: H) (by (repeat (first | exact List.Perm.refl _ | exact List.Perm.nil | refine perm_pick 0 rfl ?_ | refine perm_pick 1 rfl ?_ | refine perm_pick 2 rfl ?_ | refine perm_pick 3 rfl ?_ | refine perm_pick 4 rfl ?_ | refine perm_pick 5 rfl ?_ | refine perm_pick 6 rfl ?_ | refine perm_pick 7 rfl ?_ | refine perm_pick 8 rfl ?_ | refine perm_pick 9 rfl ?_ | refine perm_pick 10 rfl ?_ | refine perm_pick 11 rfl ?_))))
    exact rt2 (.inl rfl) rfl hA rfl rfl (Wst.same hle (h2.perm (by (repeat (first | exact List.Perm.refl _ | exact List.Perm.nil | refine perm_pick 0 rfl ?_ | refine perm_pick 1 rfl ?_ | refine perm_pick 2 rfl ?_ | refine perm_pick 3 rfl ?_ | refine perm_pick 4 rfl ?_ | refine perm_pick 5 rfl ?_ | refine perm_pick 6 rfl ?_ | refine perm_pick 7 rfl ?_ | refine perm_pick 8 rfl ?_ | refine perm_pick 9 rfl ?_ | refine perm_pick 10 rfl ?_ | refine perm_pick 11 rfl ?_)))) (RsV_val e (RV_cl (hS.next _)) rfl) (by rw [e]; exact hS2) (by rw [e]; rfl) (by rw [e]; rfl))
  by_cases h11 : op = 11
  · have e := op_11 (l := l) (wd := wd) h11
    repeat' (first | ((first | apply st_ex hA hH rfl rfl (by decide) | apply dr_ex hA rfl rfl rfl (by decide) | apply dr_exp hA rfl rfl rfl (by decide) | apply dr_ex3 hA hH rfl rfl rfl (by decide)); (first | (apply ex_indexAddr; rfl; rfl; decide; omega; exact hsp) | (apply ex_load; rfl; exact cl_frz MEMT hL hv0) | (apply ex_iface; rfl)); clear hA a; intro a hA) | (refine QT ?_; clear hA a; intro a hA) | ((first | refine CT ?_ | (refine DT ?_ ?_ <;> intro hc <;> try (exfalso; omega))) <;> repeat' refine CT ?_))
    rcases hx0.asCl with ⟨i, p, hs, rfl, hio⟩ | ⟨hs, hn⟩
    rotate_left
    · rw [hs] at e
      repeat' (first | ((first | apply st_ex hA hH rfl rfl (by decide) | apply dr_ex hA rfl rfl rfl (by decide) | apply dr_exp hA rfl rfl rfl (by decide) | apply dr_ex3 hA hH rfl rfl rfl (by decide)); (first | (apply ex_assertX; rfl; exact hn)); clear hA a; intro a hA) | (refine QT ?_; clear hA a; intro a hA) | (refine CT ?_ <;> repeat' refine CT ?_))
      exact rt2 (.inl rfl) rfl hA rfl rfl (Wst.same c.le_refl hH (RsV_stk e rfl) (by rw [e]; exact hS) (by rw [e]; rfl) (by rw [e]; rfl))
    rw [hs] at e
    obtain ⟨u, x, hsx, hst, hux⟩ := cell_of hS hio
    dsimp only at e
    rw [getD_some hst] at e
    have hiL := (List.getElem?_eq_some_iff.1 hsx).1
    have hH2 := sto_cell (hH.perm (H' := all (sx.map obI) :: cb bM TM (encW g kd wd.inp oO wd.out.length cO ++ rest) :: own 5 1 oO wd.out.length cO (flat encY wd.out) :: frz w0 c.K :: H) (by (repeat (first | exact List.Perm.refl _ | exact List.Perm.nil | refine perm_pick 0 rfl ?_ | refine perm_pick 1 rfl ?_ | refine perm_pick 2 rfl ?_ | refine perm_pick 3 rfl ?_ | refine perm_pick 4 rfl ?_ | refine perm_pick 5 rfl ?_ | refine perm_pick 6 rfl ?_ | refine perm_pick 7 rfl ?_ | refine perm_pick 8 rfl ?_ | refine perm_pick 9 rfl ?_ | refine perm_pick 10 rfl ?_ | refine perm_pick 11 rfl ?_)))) hsx
    clear hH
    have hH := hH2
    clear hH2
    repeat' (first | ((first | apply st_ex hA hH rfl rfl (by decide) | apply dr_ex hA rfl rfl rfl (by decide) | apply dr_exp hA rfl rfl rfl (by decide) | apply dr_ex3 hA hH rfl rfl rfl (by decide)); (first | (apply ex_assertY; rfl)); clear hA a; intro a hA) | (refine QT ?_; clear hA a; intro a hA) | (refine CT ?_ <;> repeat' refine CT ?_))
    have h2 := sto_cell_set hH hiL
    rw [set_self hsx] at h2
    exact rt2 (.inl rfl) rfl hA rfl rfl (Wst.same c.le_refl (h2.perm (by (repeat (first | exact List.Perm.refl _ | exact List.Perm.nil | refine perm_pick 0 rfl ?_ | refine perm_pick 1 rfl ?_ | refine perm_pick 2 rfl ?_ | refine perm_pick 3 rfl ?_ | refine perm_pick 4 rfl ?_ | refine perm_pick 5 rfl ?_ | refine perm_pick 6 rfl ?_ | refine perm_pick 7 rfl ?_ | refine perm_pick 8 rfl ?_ | refine perm_pick 9 rfl ?_ | refine perm_pick 10 rfl ?_ | refine perm_pick 11 rfl ?_)))) (RsV_val e hux rfl) (by rw [e]; exact hS) (by rw [e]; rfl) (by rw [e]; rfl))
  by_cases h12 : op = 12
  · have e := op_12 (l := l) (wd := wd) h12
    have hl2 : 2 ≤ l.length := by rw [h12] at hop; have : arityF 12 = 2 := by decide
                                  omega
    obtain ⟨v1, hv1, hx1⟩ := hV.get0 (i := 1) (by omega)
    repeat' (first | ((first | apply st_ex hA hH rfl rfl (by decide) | apply dr_ex hA rfl rfl rfl (by decide) | apply dr_exp hA rfl rfl rfl (by decide) | apply dr_ex3 hA hH rfl rfl rfl (by decide)); (first | (apply ex_indexAddr; rfl; rfl; decide; omega; exact hsp) | (apply ex_load; rfl; exact cl_frz MEMT hL hv0) | (apply ex_iface; rfl)); clear hA a; intro a hA) | (refine QT ?_; clear hA a; intro a hA) | ((first | refine CT ?_ | (refine DT ?_ ?_ <;> intro hc <;> try (exfalso; omega))) <;> repeat' refine CT ?_))
    rcases hx0.asCl with ⟨i, p, hs, rfl, hio⟩ | ⟨hs, hn⟩
    rotate_left
    · rw [hs] at e
      repeat' (first | ((first | apply st_ex hA hH rfl rfl (by decide) | apply dr_ex hA rfl rfl rfl (by decide) | apply dr_exp hA rfl rfl rfl (by decide) | apply dr_ex3 hA hH rfl rfl rfl (by decide)); (first | (apply ex_assertX; rfl; exact hn)); clear hA a; intro a hA) | (refine QT ?_; clear hA a; intro a hA) | (refine CT ?_ <;> repeat' refine CT ?_))
      exact rt2 (.inl rfl) rfl hA rfl rfl (Wst.same c.le_refl hH (RsV_stk e rfl) (by rw [e]; exact hS) (by rw [e]; rfl) (by rw [e]; rfl))
    rw [hs] at e
    obtain ⟨u, x, hsx, hst, hux⟩ := cell_of hS hio
    dsimp only at e
    have hiL := (List.getElem?_eq_some_iff.1 hsx).1
    have hH2 := sto_cell (hH.perm (H' := all (sx.map obI) :: cb bM TM (encW g kd wd.inp oO wd.out.length cO ++ rest) :: own 5 1 oO wd.out.length cO (flat encY wd.out) :: frz w0 c.K :: H) (by (repeat (first | exact List.Perm.refl _ | exact List.Perm.nil | refine perm_pick 0 rfl ?_ | refine perm_pick 1 rfl ?_ | refine perm_pick 2 rfl ?_ | refine perm_pick 3 rfl ?_ | refine perm_pick 4 rfl ?_ | refine perm_pick 5 rfl ?_ | refine perm_pick 6 rfl ?_ | refine perm_pick 7 rfl ?_ | refine perm_pick 8 rfl ?_ | refine perm_pick 9 rfl ?_ | refine perm_pick 10 rfl ?_ | refine perm_pick 11 rfl ?_)))) hsx
    clear hH
    have hH := hH2
    clear hH2
    have h1v := hx1.one
    repeat' (first | ((first | apply st_ex hA hH rfl rfl (by decide) | apply dr_ex hA rfl rfl rfl (by decide) | apply dr_exp hA rfl rfl rfl (by decide) | apply dr_ex3 hA hH rfl rfl rfl (by decide)); (first | (apply ex_assertY; rfl) | (apply ex_indexAddr; rfl; rfl; decide; omega; exact hsp) | (apply ex_load; rfl; exact cl_frz MEMT hL hv1) | (apply ex_iface; rfl)); clear hA a; intro a hA) | (refine QT ?_; clear hA a; intro a hA) | (apply st_op0 hA rfl rfl; apply op_store_fld (cs' := [v1]); rfl; rfl; exact h1v; exact hH; (repeat constructor); clear hH; rintro _ w hH) | (refine CT ?_ <;> repeat' refine CT ?_))
    have h2 := sto_cell_set hH hiL
    have hS2 := hS.set (ob' := .cell v1) (l := [nth0 l 1]) hsx rfl ⟨_, rfl, hx1⟩
    exact rt2 (.inl rfl) rfl hA rfl rfl (Wst.same c.le_refl (h2.perm (by (repeat (first | exact List.Perm.refl _ | exact List.Perm.nil | refine perm_pick 0 rfl ?_ | refine perm_pick 1 rfl ?_ | refine perm_pick 2 rfl ?_ | refine perm_pick 3 rfl ?_ | refine perm_pick 4 rfl ?_ | refine perm_pick 5 rfl ?_ | refine perm_pick 6 rfl ?_ | refine perm_pick 7 rfl ?_ | refine perm_pick 8 rfl ?_ | refine perm_pick 9 rfl ?_ | refine perm_pick 10 rfl ?_ | refine perm_pick 11 rfl ?_)))) (RsV_val e (RV_num ⟨by omega, by omega⟩) rfl) (by rw [e]; exact hS2) (by rw [e]; rfl) (by rw [e]; rfl))
  by_cases htx : op = 17 ∨ op = 18 ∨ op = 19
  · have e := op_tx (l := l) (wd := wd) htx
    have hopx : (op = 17 ∧ 1 ≤ l.length) ∨ ((op = 18 ∨ op = 19) ∧ 2 ≤ l.length) := by
      rcases htx with rfl | rfl | rfl
      · exact .inl ⟨rfl, hl1⟩
      · exact .inr ⟨.inl rfl, by have : arityF 18 = 2 := by decide
                                 omega⟩
      · exact .inr ⟨.inr rfl, by have : arityF 19 = 2 := by decide
                                 omega⟩
    have hRw := fun (w : World) (h : HS w0 noM (cb bM TM (encW g kd wd.inp oO wd.out.length cO ++ rest) :: own 5 1 oO wd.out.length cO (flat encY wd.out) :: frz w0 c.K :: all (sx.map obI) :: H) w) => texts_spec w c op l vs oL cL wd (hL w (h.frz (by exact MEMT))) hV hopx
    repeat' (first | (refine QT ?_; clear hA a; intro a hA) | ((first | refine CT ?_ | (refine DT ?_ ?_ <;> intro hc <;> try (exfalso; omega))) <;> repeat' refine CT ?_))
    all_goals
      (refine st_op hA rfl rfl (by decide) (op_call rfl rfl rfl (hRw _ hH)) ?_; clear hA; rintro _ w ⟨hr, hk⟩ a hA; replace hH := hH.keep hk; clear hk)
      rw [← e] at hr
      have hwd : (opF op l wd).wd wd = wd := by rw [e]; exact texts_wd
      cases hrs : opF op l wd with
      | val x w' =>
        rw [hrs] at hr hwd
        obtain ⟨u, hu, rfl⟩ := hr
        repeat' (first | (refine QT ?_; clear hA a; intro a hA) | (refine CT ?_ <;> repeat' refine CT ?_))
        exact rt2 (.inl rfl) rfl hA rfl rfl (Wst.same c.le_refl hH (RsV_val rfl hu rfl) (by rw [hwd]; exact hS) (by rw [hwd]) (by rw [hwd]))
      | exn s =>
        rw [hrs] at hr hwd
        obtain rfl := hr
        repeat' (first | (refine QT ?_; clear hA a; intro a hA) | (refine CT ?_ <;> repeat' refine CT ?_))
        exact rt2 (.inl rfl) rfl hA rfl rfl (Wst.same c.le_refl hH (RsV_exn rfl rfl) (by rw [hwd]; exact hS) (by rw [hwd]) (by rw [hwd]))
  by_cases har : op = 13 ∨ op = 14 ∨ op = 15 ∨ op = 16
  · have e := op_ar (l := l) (wd := wd) har
    have hopx : (op = 13 ∧ 2 ≤ l.length) ∨ (op = 14 ∧ 2 ≤ l.length) ∨ (op = 15 ∧ 3 ≤ l.length) ∨ (op = 16 ∧ 1 ≤ l.length) := by
      have a13 : arityF 13 = 2 := by decide
      have a14 : arityF 14 = 2 := by decide
      have a15 : arityF 15 = 3 := by decide
      rcases har with rfl | rfl | rfl | rfl
      · exact .inl ⟨rfl, by omega⟩
      · exact .inr (.inl ⟨rfl, by omega⟩)
      · exact .inr (.inr (.inl ⟨rfl, by omega⟩))
      · exact .inr (.inr (.inr ⟨rfl, hl1⟩))
    have hRw := fun (w : World) (h : HS w0 noM (cb bM TM (encW g kd wd.inp oO wd.out.length cO ++ rest) :: own 5 1 oO wd.out.length cO (flat encY wd.out) :: frz w0 c.K :: all (sx.map obI) :: H) w) => arrays_spec w0 w (cb bM TM (encW g kd wd.inp oO wd.out.length cO ++ rest) :: own 5 1 oO wd.out.length cO (flat encY wd.out) :: H) c op l vs oL cL wd sx (h.perm (by (repeat (first | exact List.Perm.refl _ | exact List.Perm.nil | refine perm_pick 0 rfl ?_ | refine perm_pick 1 rfl ?_ | refine perm_pick 2 rfl ?_ | refine perm_pick 3 rfl ?_ | refine perm_pick 4 rfl ?_ | refine perm_pick 5 rfl ?_ | refine perm_pick 6 rfl ?_ | refine perm_pick 7 rfl ?_ | refine perm_pick 8 rfl ?_ | refine perm_pick 9 rfl ?_ | refine perm_pick 10 rfl ?_ | refine perm_pick 11 rfl ?_)))) hL hV hS hopx
    repeat' (first | (refine QT ?_; clear hA a; intro a hA) | ((first | refine CT ?_ | (refine DT ?_ ?_ <;> intro hc <;> try (exfalso; omega))) <;> repeat' refine CT ?_))
    all_goals
      (refine st_op hA rfl rfl (by decide) (op_call rfl rfl rfl (hRw _ hH)) ?_; clear hA hH; rintro _ w ⟨d, sx2, ⟨hle, hb9⟩, hH, hr, hS2⟩ a hA)
      rw [← e] at hr hS2
      have hio := arrays_io (op := op) (l := l) (wd := wd)
      rw [← e] at hio
      cases hrs : opF op l wd with
      | val x w' =>
        rw [hrs] at hr hS2 hio
        obtain ⟨u, hu, rfl⟩ := hr
        repeat' (first | (refine QT ?_; clear hA a; intro a hA) | (refine CT ?_ <;> repeat' refine CT ?_))
        exact rt2 (.inl rfl) rfl hA rfl rfl (Wst.same hle (hH.perm (by (repeat (first | exact List.Perm.refl _ | exact List.Perm.nil | refine perm_pick 0 rfl ?_ | refine perm_pick 1 rfl ?_ | refine perm_pick 2 rfl ?_ | refine perm_pick 3 rfl ?_ | refine perm_pick 4 rfl ?_ | refine perm_pick 5 rfl ?_ | refine perm_pick 6 rfl ?_ | refine perm_pick 7 rfl ?_ | refine perm_pick 8 rfl ?_ | refine perm_pick 9 rfl ?_ | refine perm_pick 10 rfl ?_ | refine perm_pick 11 rfl ?_)))) (RsV_val rfl hu rfl) hS2 hio.1 hio.2 hb9)
      | exn s =>
        rw [hrs] at hr hS2 hio
        obtain rfl := hr
        repeat' (first | (refine QT ?_; clear hA a; intro a hA) | (refine CT ?_ <;> repeat' refine CT ?_))
        exact rt2 (.inl rfl) rfl hA rfl rfl (Wst.same hle (hH.perm (by (repeat (first | exact List.Perm.refl _ | exact List.Perm.nil | refine perm_pick 0 rfl ?_ | refine perm_pick 1 rfl ?_ | refine perm_pick 2 rfl ?_ | refine perm_pick 3 rfl ?_ | refine perm_pick 4 rfl ?_ | refine perm_pick 5 rfl ?_ | refine perm_pick 6 rfl ?_ | refine perm_pick 7 rfl ?_ | refine perm_pick 8 rfl ?_ | refine perm_pick 9 rfl ?_ | refine perm_pick 10 rfl ?_ | refine perm_pick 11 rfl ?_)))) (RsV_exn rfl rfl) hS2 hio.1 hio.2 hb9)
  have e := op_num (l := l) (wd := wd) (op := op) (by omega)
  repeat' (first | ((first | apply st_ex hA hH rfl rfl (by decide) | apply dr_ex hA rfl rfl rfl (by decide) | apply dr_exp hA rfl rfl rfl (by decide) | apply dr_ex3 hA hH rfl rfl rfl (by decide)); (first | (apply ex_indexAddr; rfl; rfl; decide; omega; exact hsp) | (apply ex_load; rfl; exact cl_frz MEMT hL hv0) | (apply ex_iface; rfl)); clear hA a; intro a hA) | (refine QT ?_; clear hA a; intro a hA) | ((first | refine CT ?_ | (refine DT ?_ ?_ <;> intro hc <;> try (exfalso; omega))) <;> repeat' refine CT ?_))
  replace hA : Sl 153 [(81, v0), (0, .pointer (some (bat bM 0))), (1, .int .i64 op), (2, .slice oL vs.length cL)] a := (hA.sub (by (repeat (first | exact trivial | refine ⟨rfl, ?_⟩)); first | done | fail "sub"))
  rcases hx0.asNum with ⟨m, hs, rfl, hmo⟩ | ⟨hs, hn⟩
  rotate_left
  · rw [hs] at e
    rcases Nat.lt_or_ge 1 l.length with h2 | h2
    · obtain ⟨v1, hv1, hx1⟩ := hV.get0 (i := 1) (by omega)
      rcases hx1.asNum with ⟨y, hy, rfl, hyo⟩ | ⟨hy, hn1⟩
      · repeat' (first | (refine GT ?_ ?_ <;> intro hg <;> clear hA a <;> intro a hA <;> (first | exact FA | replace hg := of_decide_eq_true hg | replace hg := of_decide_eq_false hg | skip)) | ((first | apply st_ex hA hH rfl rfl (by decide) | apply dr_ex hA rfl rfl rfl (by decide) | apply dr_exp hA rfl rfl rfl (by decide) | apply dr_ex3 hA hH rfl rfl rfl (by decide)); (first | (apply ex_indexAddr; rfl; rfl; decide; omega; exact hsp) | (apply ex_load; rfl; exact cl_frz MEMT hL hv0) | (apply ex_iface; rfl) | (apply ex_assertX; rfl; exact hn) | (apply ex_load; rfl; exact cl_frz MEMT hL hv1) | (apply ex_assertY; rfl)); clear hA a; intro a hA) | (refine QT ?_; clear hA a; intro a hA) | ((first | refine CT ?_ | (refine DT ?_ ?_ <;> intro hc <;> try (exfalso; omega))) <;> repeat' refine CT ?_))
        exact rt2 (.inl rfl) rfl hA rfl rfl (Wst.same c.le_refl hH (RsV_stk e rfl) (by rw [e]; exact hS) (by rw [e]; rfl) (by rw [e]; rfl))
      · repeat' (first | (refine GT ?_ ?_ <;> intro hg <;> clear hA a <;> intro a hA <;> (first | exact FA | replace hg := of_decide_eq_true hg | replace hg := of_decide_eq_false hg | skip)) | ((first | apply st_ex hA hH rfl rfl (by decide) | apply dr_ex hA rfl rfl rfl (by decide) | apply dr_exp hA rfl rfl rfl (by decide) | apply dr_ex3 hA hH rfl rfl rfl (by decide)); (first | (apply ex_indexAddr; rfl; rfl; decide; omega; exact hsp) | (apply ex_load; rfl; exact cl_frz MEMT hL hv0) | (apply ex_iface; rfl) | (apply ex_assertX; rfl; exact hn) | (apply ex_load; rfl; exact cl_frz MEMT hL hv1) | (apply ex_assertX; rfl; exact hn1)); clear hA a; intro a hA) | (refine QT ?_; clear hA a; intro a hA) | ((first | refine CT ?_ | (refine DT ?_ ?_ <;> intro hc <;> try (exfalso; omega))) <;> repeat' refine CT ?_))
        exact rt2 (.inl rfl) rfl hA rfl rfl (Wst.same c.le_refl hH (RsV_stk e rfl) (by rw [e]; exact hS) (by rw [e]; rfl) (by rw [e]; rfl))
    · repeat' (first | ((first | apply st_ex hA hH rfl rfl (by decide) | apply dr_ex hA rfl rfl rfl (by decide) | apply dr_exp hA rfl rfl rfl (by decide) | apply dr_ex3 hA hH rfl rfl rfl (by decide)); (first | (apply ex_indexAddr; rfl; rfl; decide; omega; exact hsp) | (apply ex_load; rfl; exact cl_frz MEMT hL hv0) | (apply ex_iface; rfl) | (apply ex_assertX; rfl; exact hn)); clear hA a; intro a hA) | (refine QT ?_; clear hA a; intro a hA) | ((first | refine CT ?_ | (refine DT ?_ ?_ <;> intro hc <;> try (exfalso; omega))) <;> repeat' refine CT ?_))
      exact rt2 (.inl rfl) rfl hA rfl rfl (Wst.same c.le_refl hH (RsV_stk e rfl) (by rw [e]; exact hS) (by rw [e]; rfl) (by rw [e]; rfl))
  rcases Nat.lt_or_ge 1 l.length with h2 | h2
  · obtain ⟨v1, hv1, hx1⟩ := hV.get0 (i := 1) (by omega)
    rcases hx1.asNum with ⟨y, hy, rfl, hyo⟩ | ⟨hy, hn1⟩
    · rw [hs, if_pos h2, hy] at e
      dsimp only at e
      by_cases h20 : op = 20
      · rw [if_pos h20] at e
        cases hem : eqS wd.inp empS with
        | true =>
          rw [if_pos hem] at e
          repeat' (first | (refine GT ?_ ?_ <;> intro hg <;> clear hA a <;> intro a hA <;> (first | exact FA | replace hg := of_decide_eq_true hg | replace hg := of_decide_eq_false hg | skip)) | ((first | apply st_ex hA hH rfl rfl (by decide) | apply dr_ex hA rfl rfl rfl (by decide) | apply dr_exp hA rfl rfl rfl (by decide) | apply dr_ex3 hA hH rfl rfl rfl (by decide)); (first | (apply ex_indexAddr; rfl; rfl; decide; omega; exact hsp) | (apply ex_load; rfl; exact cl_frz MEMT hL hv0) | (apply ex_iface; rfl) | (apply ex_assertY; rfl) | (apply ex_load; rfl; exact cl_frz MEMT hL hv1) | (apply ex_eqlS; rfl; rfl)); clear hA a; intro a hA) | (refine QT ?_; clear hA a; intro a hA) | ((first | refine CT ?_ | (refine DT ?_ ?_ <;> intro hc <;> try (exfalso; omega))) <;> repeat' refine CT ?_))
          · exact rt2 (.inl rfl) rfl hA rfl rfl (Wst.same c.le_refl hH (RsV_val e (RV_num ⟨by omega, by omega⟩) rfl) (by rw [e]; exact hS) (by rw [e]; rfl) (by rw [e]; rfl))
          · exact absurd (hem.symm.trans (by assumption : eqS wd.inp empS = false)) (by decide)
        | false =>
          rw [if_neg (by rw [hem]; decide)] at e
          have hip := inp_pos hem
          have hby := bts_byte wd.inp 0
          have hsz : 1 ≤ wd.inp.size := by rw [← bts_len]; omega
          repeat' (first | (refine GT ?_ ?_ <;> intro hg <;> clear hA a <;> intro a hA <;> (first | exact FA | replace hg := of_decide_eq_true hg | replace hg := of_decide_eq_false hg | skip)) | ((first | apply st_ex hA hH rfl rfl (by decide) | apply dr_ex hA rfl rfl rfl (by decide) | apply dr_exp hA rfl rfl rfl (by decide) | apply dr_ex3 hA hH rfl rfl rfl (by decide)); (first | (apply ex_indexAddr; rfl; rfl; decide; omega; exact hsp) | (apply ex_load; rfl; exact cl_frz MEMT hL hv0) | (apply ex_iface; rfl) | (apply ex_assertY; rfl) | (apply ex_load; rfl; exact cl_frz MEMT hL hv1) | (apply ex_eqlS; rfl; rfl) | (apply ex_index_string (j := 0); rfl; rfl; rfl; exact bts_get hip) | (apply ex_slice_string_lo (i := 1); rfl; rfl; rfl; exact hsz) | (apply ex_convert; rfl; exact wrap_i64 (by unfold i64ok; omega))); clear hA a; intro a hA) | (refine QT ?_; clear hA a; intro a hA) | (apply st_op0 hA rfl rfl; apply op_store_fld (cs' := encW g kd (wd.inp.extract 1 wd.inp.size) oO wd.out.length cO ++ rest); rfl; rfl; rfl; exact hH; (repeat constructor); clear hH; rintro _ w hH) | ((first | refine CT ?_ | (refine DT ?_ ?_ <;> intro hc <;> try (exfalso; omega))) <;> repeat' refine CT ?_))
          · exact absurd (hem.symm.trans (by assumption : eqS wd.inp empS = true)) (by decide)
          · exact rt2 (.inl rfl) rfl hA rfl rfl ⟨c, sx, oO, cO, ⟨c.le_refl, Nat.le_succ _⟩, by rw [e]; exact hH, RsV_val e (RV_num ⟨by omega, by omega⟩) rfl, by rw [e]; exact hS⟩
      by_cases h21 : op = 21
      · rw [if_neg h20, if_pos h21] at e
        have hu8 := (u8_nat m).symm
        repeat' (first | (refine GT ?_ ?_ <;> intro hg <;> clear hA a <;> intro a hA <;> (first | exact FA | replace hg := of_decide_eq_true hg | replace hg := of_decide_eq_false hg | skip)) | ((first | apply st_ex hA hH rfl rfl (by decide) | apply dr_ex hA rfl rfl rfl (by decide) | apply dr_exp hA rfl rfl rfl (by decide) | apply dr_ex3 hA hH rfl rfl rfl (by decide)); (first | (apply ex_indexAddr; rfl; rfl; decide; omega; exact hsp) | (apply ex_load; rfl; exact cl_frz MEMT hL hv0) | (apply ex_iface; rfl) | (apply ex_assertY; rfl) | (apply ex_load; rfl; exact cl_frz MEMT hL hv1) | (apply ex_convert; rfl; exact hu8)); clear hA a; intro a hA) | (refine QT ?_; clear hA a; intro a hA) | (refine LT ?_; clear hA hH; rintro _ w ⟨oN, rfl, hH⟩ a hA) | (refine AT ?_; clear hA; rintro _ w ⟨oN, cN, rfl, hH2⟩ a hA; clear hH; have hH := (hH2 _ (by (repeat constructor))).tail; clear hH2) | ((first | refine CT ?_ | (refine DT ?_ ?_ <;> intro hc <;> try (exfalso; omega))) <;> repeat' refine CT ?_))
        rw [flatY_s] at hH
        repeat' (first | ((first | apply st_ex hA hH rfl rfl (by decide) | apply dr_ex hA rfl rfl rfl (by decide) | apply dr_exp hA rfl rfl rfl (by decide) | apply dr_ex3 hA hH rfl rfl rfl (by decide)); (first | (apply ex_iface; rfl)); clear hA a; intro a hA) | (refine QT ?_; clear hA a; intro a hA) | (apply st_op0 hA rfl rfl; apply op_store_fld (cs' := encW g kd wd.inp oN (wd.out.length + 1) cN ++ rest); rfl; rfl; rfl; exact hH; (repeat constructor); clear hH; rintro _ w hH) | (refine CT ?_ <;> repeat' refine CT ?_))
        refine rt2 (.inl rfl) rfl hA rfl rfl ⟨c, sx, oN, cN, ⟨c.le_refl, Nat.le_succ _⟩, ?_, RsV_val e (RV_num ⟨by omega, by omega⟩) rfl, by rw [e]; exact hS⟩
        rw [e]
        show HS w0 noM (cb bM TM (encW g kd wd.inp oN (wd.out ++ [(IntKind.u8.wrap m).toNat]).length cN ++ rest) :: own 5 1 oN (wd.out ++ [(IntKind.u8.wrap m).toNat]).length cN _ :: _) w
        rw [lenY]
        exact hH.perm (by (repeat (first | exact List.Perm.refl _ | exact List.Perm.nil | refine perm_pick 0 rfl ?_ | refine perm_pick 1 rfl ?_ | refine perm_pick 2 rfl ?_ | refine perm_pick 3 rfl ?_ | refine perm_pick 4 rfl ?_ | refine perm_pick 5 rfl ?_ | refine perm_pick 6 rfl ?_ | refine perm_pick 7 rfl ?_ | refine perm_pick 8 rfl ?_ | refine perm_pick 9 rfl ?_ | refine perm_pick 10 rfl ?_ | refine perm_pick 11 rfl ?_)))
      rw [if_neg h20, if_neg h21] at e
      repeat' (first | (refine GT ?_ ?_ <;> intro hg <;> clear hA a <;> intro a hA <;> (first | exact FA | replace hg := of_decide_eq_true hg | replace hg := of_decide_eq_false hg | skip)) | ((first | apply st_ex hA hH rfl rfl (by decide) | apply dr_ex hA rfl rfl rfl (by decide) | apply dr_exp hA rfl rfl rfl (by decide) | apply dr_ex3 hA hH rfl rfl rfl (by decide)); (first | (apply ex_indexAddr; rfl; rfl; decide; omega; exact hsp) | (apply ex_load; rfl; exact cl_frz MEMT hL hv0) | (apply ex_iface; rfl) | (apply ex_assertY; rfl) | (apply ex_load; rfl; exact cl_frz MEMT hL hv1)); clear hA a; intro a hA) | (refine QT ?_; clear hA a; intro a hA) | ((first | refine CT ?_ | (refine DT ?_ ?_ <;> intro hc <;> try (exfalso; omega))) <;> repeat' refine CT ?_))
      (refine st_op hA rfl rfl (by decide) (op_call rfl rfl rfl (Do_spec _ op m y)) ?_; clear hA; rintro _ w ⟨hk, hdo⟩ a hA; replace hH := hH.keep hk; clear hk)
      rcases hdo with ⟨x, hdo, rfl⟩ | ⟨er, her, hdo, rfl⟩
      · rw [hdo] at e
        repeat' (first | ((first | apply st_ex hA hH rfl rfl (by decide) | apply dr_ex hA rfl rfl rfl (by decide) | apply dr_exp hA rfl rfl rfl (by decide) | apply dr_ex3 hA hH rfl rfl rfl (by decide)); (first | (apply ex_iface; rfl)); clear hA a; intro a hA) | (refine QT ?_; clear hA a; intro a hA) | (refine CT ?_ <;> repeat' refine CT ?_))
        exact rt2 (.inl rfl) rfl hA rfl rfl (Wst.same c.le_refl hH (RsV_val e (RV_num (doF_iok hdo)) rfl) (by rw [e]; exact hS) (by rw [e]; rfl) (by rw [e]; rfl))
      · rw [hdo] at e
        repeat' (first | (refine QT ?_; clear hA a; intro a hA) | ((first | refine CT ?_ | (refine DT ?_ ?_ <;> intro hc <;> try (exfalso; omega))) <;> repeat' refine CT ?_))
        exact rt2 (.inl rfl) rfl hA rfl rfl (Wst.same c.le_refl hH (RsV_exn e rfl) (by rw [e]; exact hS) (by rw [e]; rfl) (by rw [e]; rfl))
    · rw [hs, if_pos h2, hy] at e
      repeat' (first | (refine GT ?_ ?_ <;> intro hg <;> clear hA a <;> intro a hA <;> (first | exact FA | replace hg := of_decide_eq_true hg | replace hg := of_decide_eq_false hg | skip)) | ((first | apply st_ex hA hH rfl rfl (by decide) | apply dr_ex hA rfl rfl rfl (by decide) | apply dr_exp hA rfl rfl rfl (by decide) | apply dr_ex3 hA hH rfl rfl rfl (by decide)); (first | (apply ex_indexAddr; rfl; rfl; decide; omega; exact hsp) | (apply ex_load; rfl; exact cl_frz MEMT hL hv0) | (apply ex_iface; rfl) | (apply ex_assertY; rfl) | (apply ex_load; rfl; exact cl_frz MEMT hL hv1) | (apply ex_assertX; rfl; exact hn1)); clear hA a; intro a hA) | (refine QT ?_; clear hA a; intro a hA) | ((first | refine CT ?_ | (refine DT ?_ ?_ <;> intro hc <;> try (exfalso; omega))) <;> repeat' refine CT ?_))
      exact rt2 (.inl rfl) rfl hA rfl rfl (Wst.same c.le_refl hH (RsV_stk e rfl) (by rw [e]; exact hS) (by rw [e]; rfl) (by rw [e]; rfl))
  · rw [hs, if_neg (by omega)] at e
    dsimp only at e
    by_cases h20 : op = 20
    · rw [if_pos h20] at e
      cases hem : eqS wd.inp empS with
      | true =>
        rw [if_pos hem] at e
        repeat' (first | ((first | apply st_ex hA hH rfl rfl (by decide) | apply dr_ex hA rfl rfl rfl (by decide) | apply dr_exp hA rfl rfl rfl (by decide) | apply dr_ex3 hA hH rfl rfl rfl (by decide)); (first | (apply ex_indexAddr; rfl; rfl; decide; omega; exact hsp) | (apply ex_load; rfl; exact cl_frz MEMT hL hv0) | (apply ex_iface; rfl) | (apply ex_assertY; rfl) | (apply ex_eqlS; rfl; rfl)); clear hA a; intro a hA) | (refine QT ?_; clear hA a; intro a hA) | ((first | refine CT ?_ | (refine DT ?_ ?_ <;> intro hc <;> try (exfalso; omega))) <;> repeat' refine CT ?_))
        · exact rt2 (.inl rfl) rfl hA rfl rfl (Wst.same c.le_refl hH (RsV_val e (RV_num ⟨by omega, by omega⟩) rfl) (by rw [e]; exact hS) (by rw [e]; rfl) (by rw [e]; rfl))
        · exact absurd (hem.symm.trans (by assumption : eqS wd.inp empS = false)) (by decide)
      | false =>
        rw [if_neg (by rw [hem]; decide)] at e
        have hip := inp_pos hem
        have hby := bts_byte wd.inp 0
        have hsz : 1 ≤ wd.inp.size := by rw [← bts_len]; omega
        repeat' (first | ((first | apply st_ex hA hH rfl rfl (by decide) | apply dr_ex hA rfl rfl rfl (by decide) | apply dr_exp hA rfl rfl rfl (by decide) | apply dr_ex3 hA hH rfl rfl rfl (by decide)); (first | (apply ex_indexAddr; rfl; rfl; decide; omega; exact hsp) | (apply ex_load; rfl; exact cl_frz MEMT hL hv0) | (apply ex_iface; rfl) | (apply ex_assertY; rfl) | (apply ex_eqlS; rfl; rfl) | (apply ex_index_string (j := 0); rfl; rfl; rfl; exact bts_get hip) | (apply ex_slice_string_lo (i := 1); rfl; rfl; rfl; exact hsz) | (apply ex_convert; rfl; exact wrap_i64 (by unfold i64ok; omega))); clear hA a; intro a hA) | (refine QT ?_; clear hA a; intro a hA) | (apply st_op0 hA rfl rfl; apply op_store_fld (cs' := encW g kd (wd.inp.extract 1 wd.inp.size) oO wd.out.length cO ++ rest); rfl; rfl; rfl; exact hH; (repeat constructor); clear hH; rintro _ w hH) | ((first | refine CT ?_ | (refine DT ?_ ?_ <;> intro hc <;> try (exfalso; omega))) <;> repeat' refine CT ?_))
        · exact absurd (hem.symm.trans (by assumption : eqS wd.inp empS = true)) (by decide)
        · exact rt2 (.inl rfl) rfl hA rfl rfl ⟨c, sx, oO, cO, ⟨c.le_refl, Nat.le_succ _⟩, by rw [e]; exact hH, RsV_val e (RV_num ⟨by omega, by omega⟩) rfl, by rw [e]; exact hS⟩
    by_cases h21 : op = 21
    · rw [if_neg h20, if_pos h21] at e
      have hu8 := (u8_nat m).symm
      repeat' (first | ((first | apply st_ex hA hH rfl rfl (by decide) | apply dr_ex hA rfl rfl rfl (by decide) | apply dr_exp hA rfl rfl rfl (by decide) | apply dr_ex3 hA hH rfl rfl rfl (by decide)); (first | (apply ex_indexAddr; rfl; rfl; decide; omega; exact hsp) | (apply ex_load; rfl; exact cl_frz MEMT hL hv0) | (apply ex_iface; rfl) | (apply ex_assertY; rfl) | (apply ex_convert; rfl; exact hu8)); clear hA a; intro a hA) | (refine QT ?_; clear hA a; intro a hA) | (refine LT ?_; clear hA hH; rintro _ w ⟨oN, rfl, hH⟩ a hA) | (refine AT ?_; clear hA; rintro _ w ⟨oN, cN, rfl, hH2⟩ a hA; clear hH; have hH := (hH2 _ (by (repeat constructor))).tail; clear hH2) | ((first | refine CT ?_ | (refine DT ?_ ?_ <;> intro hc <;> try (exfalso; omega))) <;> repeat' refine CT ?_))
      rw [flatY_s] at hH
      repeat' (first | ((first | apply st_ex hA hH rfl rfl (by decide) | apply dr_ex hA rfl rfl rfl (by decide) | apply dr_exp hA rfl rfl rfl (by decide) | apply dr_ex3 hA hH rfl rfl rfl (by decide)); (first | (apply ex_iface; rfl)); clear hA a; intro a hA) | (refine QT ?_; clear hA a; intro a hA) | (apply st_op0 hA rfl rfl; apply op_store_fld (cs' := encW g kd wd.inp oN (wd.out.length + 1) cN ++ rest); rfl; rfl; rfl; exact hH; (repeat constructor); clear hH; rintro _ w hH) | (refine CT ?_ <;> repeat' refine CT ?_))
      refine rt2 (.inl rfl) rfl hA rfl rfl ⟨c, sx, oN, cN, ⟨c.le_refl, Nat.le_succ _⟩, ?_, RsV_val e (RV_num ⟨by omega, by omega⟩) rfl, by rw [e]; exact hS⟩
      rw [e]
      show HS w0 noM (cb bM TM (encW g kd wd.inp oN (wd.out ++ [(IntKind.u8.wrap m).toNat]).length cN ++ rest) :: own 5 1 oN (wd.out ++ [(IntKind.u8.wrap m).toNat]).length cN _ :: _) w
      rw [lenY]
      exact hH.perm (by (repeat (first | exact List.Perm.refl _ | exact List.Perm.nil | refine perm_pick 0 rfl ?_ | refine perm_pick 1 rfl ?_ | refine perm_pick 2 rfl ?_ | refine perm_pick 3 rfl ?_ | refine perm_pick 4 rfl ?_ | refine perm_pick 5 rfl ?_ | refine perm_pick 6 rfl ?_ | refine perm_pick 7 rfl ?_ | refine perm_pick 8 rfl ?_ | refine perm_pick 9 rfl ?_ | refine perm_pick 10 rfl ?_ | refine perm_pick 11 rfl ?_)))
    rw [if_neg h20, if_neg h21] at e
    repeat' (first | ((first | apply st_ex hA hH rfl rfl (by decide) | apply dr_ex hA rfl rfl rfl (by decide) | apply dr_exp hA rfl rfl rfl (by decide) | apply dr_ex3 hA hH rfl rfl rfl (by decide)); (first | (apply ex_indexAddr; rfl; rfl; decide; omega; exact hsp) | (apply ex_load; rfl; exact cl_frz MEMT hL hv0) | (apply ex_iface; rfl) | (apply ex_assertY; rfl)); clear hA a; intro a hA) | (refine QT ?_; clear hA a; intro a hA) | ((first | refine CT ?_ | (refine DT ?_ ?_ <;> intro hc <;> try (exfalso; omega))) <;> repeat' refine CT ?_))
    (refine st_op hA rfl rfl (by decide) (op_call rfl rfl rfl (Do_spec _ op m 0)) ?_; clear hA; rintro _ w ⟨hk, hdo⟩ a hA; replace hH := hH.keep hk; clear hk)
    rcases hdo with ⟨x, hdo, rfl⟩ | ⟨er, her, hdo, rfl⟩
    · rw [hdo] at e
      repeat' (first | ((first | apply st_ex hA hH rfl rfl (by decide) | apply dr_ex hA rfl rfl rfl (by decide) | apply dr_exp hA rfl rfl rfl (by decide) | apply dr_ex3 hA hH rfl rfl rfl (by decide)); (first | (apply ex_iface; rfl)); clear hA a; intro a hA) | (refine QT ?_; clear hA a; intro a hA) | (refine CT ?_ <;> repeat' refine CT ?_))
      exact rt2 (.inl rfl) rfl hA rfl rfl (Wst.same c.le_refl hH (RsV_val e (RV_num (doF_iok hdo)) rfl) (by rw [e]; exact hS) (by rw [e]; rfl) (by rw [e]; rfl))
    · rw [hdo] at e
      repeat' (first | (refine QT ?_; clear hA a; intro a hA) | ((first | refine CT ?_ | (refine DT ?_ ?_ <;> intro hc <;> try (exfalso; omega))) <;> repeat' refine CT ?_))
      exact rt2 (.inl rfl) rfl hA rfl rfl (Wst.same c.le_refl hH (RsV_exn e rfl) (by rw [e]; exact hS) (by rw [e]; rfl) (by rw [e]; rfl))
end Go.Proofs.YtenlcdokaadobaaGreatDoor
