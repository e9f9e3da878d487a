/-
  ssa.Of's parts at a function that returns a number: fill, order, graph. Conditions: none.
  ssa.Of's parts at a function that returns a number: order. Conditions: none.
  ssa.Of's parts at a function that returns a number: order, graph. Conditions: none.
  The machine: an end. Conditions: none.
  The machine: how it begins; what comes of graphs. Conditions: none.
-/
import Derived.Test.YtenlcdokaadobaaGreatDoorRowFuelMg19
import Derived.Test.YtenlcdokaadobaaGreatDoorRowFuelMg18
namespace Go.Proofs.YtenlcdokaadobaaGreatDoor
open Go Go.Fw
set_option linter.unusedVariables false
def dr1 (o : Option Addr) (k : Int) : List Value := [.slice none 0 0, .slice none 0 0, .int .i64 1, .slice o 1 1, .slice none 0 0, .slice none 0 0, .int .i64 k]
theorem put_dr (o : Option Addr) (spare : List Value) : put (dr0 ++ spare) 2 [.int .i64 1, .slice o 1 1, .slice none 0 0, .slice none 0 0] = dr1 o 0 ++ spare := rfl
theorem sp_bat (b : Nat) : Sp (some (bat b 0)) 1 := fun _ => ⟨b, 0, rfl⟩
theorem sat_b2 (b : Nat) : sat (some (bat b 0)) (Int.toNat 0 * 7 + 0 + 2) = bat b 2 := rfl
set_option maxRecDepth 10000 attribute [local irreducible] Code.wp wpList Calls Ex Op1 sat bat blk cb own Go.Fw.mp Go.Fw.mpO Go.Fw.mpI Go.Fw.mpE Go.Fw.itr HS Rd Ret wkD Hp Cl Cls Exit.then Exit.inBlock Exit.noGoto bodyPost Go.Fw.flat wk2 Go.Fw.all Go.Fw.owns wpOp
attribute [local irreducible] sk mpK sko mvO entK opM Go.Fw.mset Go.Fw.mv opK

set_option maxHeartbeats 8000000 in
theorem fill1_spec (w0 w : World) (H : List It) (bM bJ bF cD : Nat) (oD o : Option Addr) (x : Atm) (hH : HS w0 noM (cb bM 174 (encMk oD 1 cD bJ) :: own 179 7 oD 1 cD dr0 :: cb bF 72 (encF o 0) :: H) w) (hR : Rd w0 o (encAt x)) :
    Ret Tryz.prog 73 #[.pointer (some (bat bM 0)), .int .i64 0, .pointer (some (bat bF 1))] w (fun r w' => ∃ o1, HS w0 noM (cb bM 174 (encMk oD 1 cD bJ) :: own 179 7 oD 1 cD (dr1 o1 0) :: own 65 2 o1 1 1 (encAt x) :: cb bF 72 (encF o 0) :: H) w') := by
  have hcD := hH.own_le (T := 179) (o := oD) (by exact MEMT)
  obtain ⟨b, spare, rfl, q1, q2, q3, q4, hH2⟩ := (hH.perm (H' := own 179 7 oD 1 cD dr0 :: cb bM 174 (encMk oD 1 cD bJ) :: cb bF 72 (encF o 0) :: H) (by (repeat (first | exact List.Perm.refl _ | exact List.Perm.nil | refine perm_pick 0 rfl ?_ | refine perm_pick 1 rfl ?_ | refine perm_pick 2 rfl ?_ | refine perm_pick 3 rfl ?_ | refine perm_pick 4 rfl ?_ | refine perm_pick 5 rfl ?_ | refine perm_pick 6 rfl ?_ | refine perm_pick 7 rfl ?_ | refine perm_pick 8 rfl ?_ | refine perm_pick 9 rfl ?_ | refine perm_pick 10 rfl ?_ | refine perm_pick 11 rfl ?_)))).own_block (by omega)
  clear hH
  have hH := hH2
  clear hH2
  have hspD : Sp (some (bat b 0)) 1 := sp_bat b
  (refine enter (N := 202) Tryz.func73 rfl Tryz.ntmps73 rfl ?_; intro a hA; dsimp only [sl0, Nat.reduceAdd] at hA)
  repeat' (first | (refine QT ?_; clear hA a; intro a hA) | (refine CT ?_ <;> repeat' refine CT ?_))
  refine wp_lpk (S := Nat) (fun i a w => i = 0 ∧ HS w0 noM (cb b 179 (dr0 ++ spare) :: cb bM 174 (encMk (some (bat b 0)) 1 cD bJ) :: cb bF 72 (encF o 0) :: H) w ∧ Sl 202 [(0, .pointer (some (bat bM 0))), (1, .int .i64 0), (2, .pointer (some (bat bF 1)))] a) (fun i => i) (fun a w => False) 0 ⟨rfl, hH, (hA.sub (by (repeat (first | exact trivial | refine ⟨rfl, ?_⟩)); first | done | fail "sub"))⟩ ?_ (fun a w h => h.elim)
  clear hA hH
  rintro i a w ⟨hi, hH, hA⟩
  repeat' (first | ((first | apply st_ex hA hH rfl rfl (by decide) | apply dr_ex hA rfl rfl rfl (by decide) | apply dr_exp hA rfl rfl rfl (by decide) | apply dr_ex3 hA hH rfl rfl rfl (by decide)); (first | (apply ex_indexAddr; rfl; rfl; decide; omega; exact hspD)); clear hA a; intro a hA) | (refine QT ?_; clear hA a; intro a hA) | (refine CT ?_ <;> repeat' refine CT ?_))
  rw [sat_b2] at hA
  (refine st_op hA rfl rfl (by decide) (op_call rfl rfl rfl (atoms1_spec _ o 1 x (hH.rd hR id))) ?_; clear hA; rintro _ w ⟨o1, rfl, hj⟩ a hA; replace hH := hH.join hj; clear hj)
  replace hH := hH.perm (H' := cb b 179 (dr0 ++ spare) :: own 65 2 o1 1 1 (encAt x) :: cb bM 174 (encMk (some (bat b 0)) 1 cD bJ) :: cb bF 72 (encF o 0) :: H) (by (repeat (first | exact List.Perm.refl _ | exact List.Perm.nil | refine perm_pick 0 rfl ?_ | refine perm_pick 1 rfl ?_ | refine perm_pick 2 rfl ?_ | refine perm_pick 3 rfl ?_ | refine perm_pick 4 rfl ?_ | refine perm_pick 5 rfl ?_ | refine perm_pick 6 rfl ?_ | refine perm_pick 7 rfl ?_ | refine perm_pick 8 rfl ?_ | refine perm_pick 9 rfl ?_ | refine perm_pick 10 rfl ?_ | refine perm_pick 11 rfl ?_)))
  repeat' (first | ((first | apply st_ex hA hH rfl rfl (by decide) | apply dr_ex hA rfl rfl rfl (by decide) | apply dr_exp hA rfl rfl rfl (by decide) | apply dr_ex3 hA hH rfl rfl rfl (by decide)); (first | (apply ex_build_p (cs := #[.int .i64 1, .slice o1 1 1, .slice none 0 0, .slice none 0 0]); rfl; (repeat (first | (intro _ h; exact absurd h (List.not_mem_nil)) | (refine List.forall_mem_cons.2 ⟨one_cell_of _ _, ?_⟩))); rfl)); clear hA a; intro a hA) | (refine QT ?_; clear hA a; intro a hA))
  have hdl : 2 + 4 ≤ (dr0 ++ spare).length := by rw [List.length_append, q3]; omega
  refine st_op0 hA rfl rfl (op_store_cb (vs := [.int .i64 1, .slice o1 1 1, .slice none 0 0, .slice none 0 0]) (cs' := dr1 o1 0 ++ spare) rfl rfl hH (by repeat constructor) rfl rfl rfl hdl (put_dr o1 spare)) ?_
  clear hH
  rintro _ w hH
  repeat' (first | (refine QT ?_; clear hA a; intro a hA) | (refine CT ?_ <;> repeat' refine CT ?_))
  refine rt0 (.inl rfl) rfl hA ⟨o1, ?_⟩
  have hH3 := HS.block_own (sz := 7) (n := 1) (cap := cD) (xs := dr1 o1 0) (spare := spare) (hH.perm (H' := cb b 179 (dr1 o1 0 ++ spare) :: own 65 2 o1 1 1 (encAt x) :: cb bM 174 (encMk (some (bat b 0)) 1 cD bJ) :: cb bF 72 (encF o 0) :: H) (by (repeat (first | exact List.Perm.refl _ | exact List.Perm.nil | refine perm_pick 0 rfl ?_ | refine perm_pick 1 rfl ?_ | refine perm_pick 2 rfl ?_ | refine perm_pick 3 rfl ?_ | refine perm_pick 4 rfl ?_ | refine perm_pick 5 rfl ?_ | refine perm_pick 6 rfl ?_ | refine perm_pick 7 rfl ?_ | refine perm_pick 8 rfl ?_ | refine perm_pick 9 rfl ?_ | refine perm_pick 10 rfl ?_ | refine perm_pick 11 rfl ?_)))) rfl (by omega) hcD.2 (by rw [← q4, q3]; rfl)
  exact hH3.perm (by (repeat (first | exact List.Perm.refl _ | exact List.Perm.nil | refine perm_pick 0 rfl ?_ | refine perm_pick 1 rfl ?_ | refine perm_pick 2 rfl ?_ | refine perm_pick 3 rfl ?_ | refine perm_pick 4 rfl ?_ | refine perm_pick 5 rfl ?_ | refine perm_pick 6 rfl ?_ | refine perm_pick 7 rfl ?_ | refine perm_pick 8 rfl ?_ | refine perm_pick 9 rfl ?_ | refine perm_pick 10 rfl ?_ | refine perm_pick 11 rfl ?_)))
end Go.Proofs.YtenlcdokaadobaaGreatDoor
namespace Go.Proofs.YtenlcdokaadobaaGreatDoor
open Go Go.Fw
set_option linter.unusedVariables false
set_option maxRecDepth 10000 attribute [local irreducible] Code.wp wpList Calls Ex Op1 sat bat blk cb own Go.Fw.mp Go.Fw.mpO Go.Fw.mpI Go.Fw.mpE Go.Fw.itr HS Rd Ret wkD Hp Cl Cls Exit.then Exit.inBlock Exit.noGoto bodyPost Go.Fw.flat wk2 Go.Fw.all Go.Fw.owns wpOp
attribute [local irreducible] sk mpK sko mvO entK opM Go.Fw.mset Go.Fw.mv opK

set_option maxHeartbeats 8000000 in
theorem visit0_spec (w0 w : World) (H : List It) (bS bm bMc bM bO bJ cD : Nat) (oD o1 : Option Addr) (bV : Nat) (hD : Sp oD 1) (hH : HS w0 noM (cb bS 109 [.map (some bm)] :: sk bm [] :: cb bMc 171 [.pointer (some (bat bM 0))] :: cb bM 174 (encMk oD 1 cD bJ) :: own 179 7 oD 1 cD (dr1 o1 0) :: cb bO 45 [.slice none 0 0] :: H) w) :
    Ret Tryz.prog 111 #[.int .i64 0, .pointer (some (bat bS 0)), .pointer (some (bat bMc 0)), .pointer (some (bat bV 0)), .pointer (some (bat bO 0))] w (fun r w' =>
      ∃ oL cL, HS w0 noM (cb bS 109 [.map (some bm)] :: sk bm [0] :: cb bMc 171 [.pointer (some (bat bM 0))] :: cb bM 174 (encMk oD 1 cD bJ) :: own 179 7 oD 1 cD (dr1 o1 0) :: cb bO 45 [.slice oL 1 cL] :: own 3 1 oL 1 cL [.int .i64 0] :: H) w') := by
  (refine enter (N := 37) Tryz.func111 rfl Tryz.ntmps111 rfl ?_; intro a hA; dsimp only [sl0, Nat.reduceAdd] at hA)
  repeat' (first | ((first | apply st_ex hA hH rfl rfl (by decide) | apply dr_ex hA rfl rfl rfl (by decide) | apply dr_exp hA rfl rfl rfl (by decide) | apply dr_ex3 hA hH rfl rfl rfl (by decide)); (first | (apply ex_hasK; rfl; rfl; exact MEMT) | (apply ex_indexAddr; rfl; rfl; decide; omega; exact hD)); clear hA a; intro a hA) | (refine QT ?_; clear hA a; intro a hA) | (apply st_op0 hA rfl rfl; apply op_addK; rfl; rfl; rfl; exact hH; (repeat constructor); clear hH; rintro _ w hH) | (refine CT ?_ <;> repeat' refine CT ?_))
  have hv5 : (dr1 o1 0)[Int.toNat 0 * 7 + 0 + 2 + 3]? = some (.slice none 0 0) := rfl
  repeat' (first | ((first | apply st_ex hA hH rfl rfl (by decide) | apply dr_ex hA rfl rfl rfl (by decide) | apply dr_exp hA rfl rfl rfl (by decide) | apply dr_ex3 hA hH rfl rfl rfl (by decide)); (first | (apply ex_load; rfl; exact cl_own (T := 179) (o := oD) MEMT hv5)); clear hA a; intro a hA) | (refine QT ?_; clear hA a; intro a hA) | (refine CT ?_ <;> repeat' refine CT ?_))
  refine wp_lpk (S := Nat) (fun i a w => i = 0 ∧ HS w0 noM (cb bS 109 [.map (some bm)] :: sk bm (sadd [] 0) :: cb bMc 171 [.pointer (some (bat bM 0))] :: cb bM 174 (encMk oD 1 cD bJ) :: own 179 7 oD 1 cD (dr1 o1 0) :: cb bO 45 [.slice none 0 0] :: H) w ∧ Sl 37 [(24, .int .i64 0), (23, .int .i64 (0 : Nat)), (0, .int .i64 0), (4, .pointer (some (bat bO 0)))] a) (fun i => i) (fun a w => HS w0 noM (cb bS 109 [.map (some bm)] :: sk bm (sadd [] 0) :: cb bMc 171 [.pointer (some (bat bM 0))] :: cb bM 174 (encMk oD 1 cD bJ) :: own 179 7 oD 1 cD (dr1 o1 0) :: cb bO 45 [.slice none 0 0] :: H) w ∧ Sl 37 [(0, .int .i64 0), (4, .pointer (some (bat bO 0)))] a) 0 ⟨rfl, hH, (hA.sub (by (repeat (first | exact trivial | refine ⟨rfl, ?_⟩)); first | done | fail "sub"))⟩ ?_ ?_
  · clear hA hH
    rintro i a w ⟨hi, hH, hA⟩
    repeat' (first | (refine QT ?_; clear hA a; intro a hA) | (refine CT ?_ <;> repeat' refine CT ?_))
    exact ⟨hH, (hA.sub (by (repeat (first | exact trivial | refine ⟨rfl, ?_⟩)); first | done | fail "sub"))⟩
  clear hA hH
  rintro a w ⟨hH, hA⟩
  repeat' (first | (refine QT ?_; clear hA a; intro a hA) | (refine LT ?_; clear hA hH; rintro _ w ⟨oN, rfl, hH⟩ a hA) | (refine CT ?_ <;> repeat' refine CT ?_))
  have hRw := hH.own_rd (T := 3) (List.Mem.head _)
  replace hH := hH.nil_own 3 1
  (apply st_op hA rfl rfl (by decide); apply op_append; rfl; rfl; exact hH; exact MEMT; exact hRw; exact rfl; rfl; decide; exact rfl; (unfold maxLen; omega); omega; clear hA; rintro _ w ⟨oN, cN, rfl, hH2⟩ a hA; clear hH; have hH := hH2 _ (by (repeat constructor)); clear hH2)
  repeat' (first | (refine QT ?_; clear hA a; intro a hA) | (refine S0T ?_; clear hH; rintro _ w hH) | (refine CT ?_ <;> repeat' refine CT ?_))
  exact rt0 (.inr rfl) rfl hA ⟨oN, cN, (hH.rm 1).perm (by (repeat (first | exact List.Perm.refl _ | exact List.Perm.nil | refine perm_pick 0 rfl ?_ | refine perm_pick 1 rfl ?_ | refine perm_pick 2 rfl ?_ | refine perm_pick 3 rfl ?_ | refine perm_pick 4 rfl ?_ | refine perm_pick 5 rfl ?_ | refine perm_pick 6 rfl ?_ | refine perm_pick 7 rfl ?_ | refine perm_pick 8 rfl ?_ | refine perm_pick 9 rfl ?_ | refine perm_pick 10 rfl ?_ | refine perm_pick 11 rfl ?_)))⟩
end Go.Proofs.YtenlcdokaadobaaGreatDoor
namespace Go.Proofs.YtenlcdokaadobaaGreatDoor
open Go Go.Fw
set_option linter.unusedVariables false
set_option maxRecDepth 10000 attribute [local irreducible] Code.wp wpList Calls Ex Op1 sat bat blk cb own Go.Fw.mp Go.Fw.mpO Go.Fw.mpI Go.Fw.mpE Go.Fw.itr HS Rd Ret wkD Hp Cl Cls Exit.then Exit.inBlock Exit.noGoto bodyPost Go.Fw.flat wk2 Go.Fw.all Go.Fw.owns wpOp
attribute [local irreducible] sk mpK sko mvO entK opM Go.Fw.mset Go.Fw.mv opK

set_option maxHeartbeats 4000000 in
theorem rev1_spec (w0 : World) (o : Option Addr) (c : Nat) : Ret Tryz.prog 112 #[.slice o 1 c] w0 (fun r w => Kp w0 noM w) := by
  have hH : HS w0 noM [] w0 := HS.init w0 noM
  (refine enter (N := 28) Tryz.func112 rfl Tryz.ntmps112 rfl ?_; intro a hA; dsimp only [sl0, Nat.reduceAdd] at hA)
  repeat' (first | (refine QT ?_; clear hA a; intro a hA) | (refine CT ?_ <;> repeat' refine CT ?_))
  refine wp_lpk (S := Nat) (fun i a w => i = 0 ∧ HS w0 noM [] w ∧ Sl 28 [(2, .int .i64 0), (3, .int .i64 0)] a) (fun i => i) (fun a w => HS w0 noM [] w ∧ Sl 28 [] a) 0 ⟨rfl, hH, (hA.sub (by (repeat (first | exact trivial | refine ⟨rfl, ?_⟩)); first | done | fail "sub"))⟩ ?_ ?_
  · clear hA hH
    rintro i a w ⟨hi, hH, hA⟩
    repeat' (first | (refine QT ?_; clear hA a; intro a hA) | (refine CT ?_ <;> repeat' refine CT ?_))
    exact ⟨hH, (hA.sub (by (repeat (first | exact trivial | refine ⟨rfl, ?_⟩)); first | done | fail "sub"))⟩
  clear hA hH
  rintro a w ⟨hH, hA⟩
  repeat' (first | (refine QT ?_; clear hA a; intro a hA))
  exact rt0 (.inr rfl) rfl hA hH.kp
set_option maxHeartbeats 8000000 in
theorem order1_spec (w0 w : World) (H : List It) (bM bJ cD : Nat) (oD o1 : Option Addr) (hD : Sp oD 1) (hH : HS w0 noM (cb bM 174 (encMk oD 1 cD bJ) :: own 179 7 oD 1 cD (dr1 o1 0) :: H) w) :
    Ret Tryz.prog 75 #[.pointer (some (bat bM 0))] w (fun r w' =>
      ∃ oL cL, r = .slice oL 1 cL ∧ HS w0 noM (cb bM 174 (encMk oD 1 cD bJ) :: own 179 7 oD 1 cD (dr1 o1 0) :: own 3 1 oL 1 cL [.int .i64 0] :: H) w') := by
  (refine enter (N := 13) Tryz.func75 rfl Tryz.ntmps75 rfl ?_; intro a hA; dsimp only [sl0, Nat.reduceAdd] at hA)
  repeat' (first | ((first | apply st_ex hA hH rfl rfl (by decide) | apply dr_ex hA rfl rfl rfl (by decide) | apply dr_exp hA rfl rfl rfl (by decide) | apply dr_ex3 hA hH rfl rfl rfl (by decide)); (first | (apply ex_makeFunc; rfl; rfl)); clear hA a; intro a hA) | (refine QT ?_; clear hA a; intro a hA) | (refine BT ?_; clear hA hH; rintro _ w ⟨bN, rfl, hH⟩ a hA) | (refine S0T ?_; clear hH; rintro _ w hH) | (refine st_op hA rfl rfl (by decide) (op_makeMapK hH) ?_; clear hA hH; rintro _ w ⟨bm, rfl, hH⟩ a hA) | (refine CT ?_ <;> repeat' refine CT ?_))
  have key : ∃ bS bMc bV bO bm, HS w0 noM (cb bS 109 [.map (some bm)] :: sk bm [] :: cb bMc 171 [.pointer (some (bat bM 0))] :: cb bM 174 (encMk oD 1 cD bJ) :: own 179 7 oD 1 cD (dr1 o1 0) :: cb bO 45 [.slice none 0 0] :: cb bV 228 [.func (.func 111) #[] #[.pointer (some (bat bS 0)), .pointer (some (bat bMc 0)), .pointer (some (bat bV 0)), .pointer (some (bat bO 0))]] :: H) w ∧
      Sl 13 [(8, .func (.func 111) #[] #[.pointer (some (bat bS 0)), .pointer (some (bat bMc 0)), .pointer (some (bat bV 0)), .pointer (some (bat bO 0))]), (4, .pointer (some (bat bO 0))), (2, .slice none 0 0)] a := ⟨_, _, _, _, _, hH.perm (by (repeat (first | exact List.Perm.refl _ | exact List.Perm.nil | refine perm_pick 0 rfl ?_ | refine perm_pick 1 rfl ?_ | refine perm_pick 2 rfl ?_ | refine perm_pick 3 rfl ?_ | refine perm_pick 4 rfl ?_ | refine perm_pick 5 rfl ?_ | refine perm_pick 6 rfl ?_ | refine perm_pick 7 rfl ?_ | refine perm_pick 8 rfl ?_ | refine perm_pick 9 rfl ?_ | refine perm_pick 10 rfl ?_ | refine perm_pick 11 rfl ?_))), (hA.sub (by (repeat (first | exact trivial | refine ⟨rfl, ?_⟩)); first | done | fail "sub"))⟩
  clear hA hH
  obtain ⟨bS, bMc, bV, bO, bm, hH, hA⟩ := key
  (refine st_op hA rfl rfl (by decide) (op_call rfl rfl rfl (visit0_spec w0 w _ bS bm bMc bM bO bJ cD oD o1 bV hD hH)) ?_; clear hA hH; rintro _ w ⟨oL, cL, hH⟩ a hA)
  repeat' (first | (refine QT ?_; clear hA a; intro a hA) | (refine CT ?_ <;> repeat' refine CT ?_))
  (refine st_op hA rfl rfl (by decide) (op_call rfl rfl rfl (rev1_spec _ oL cL)) ?_; clear hA; rintro _ w hk a hA; replace hH := hH.keep hk; clear hk)
  repeat' (first | (refine QT ?_; clear hA a; intro a hA) | (refine CT ?_ <;> repeat' refine CT ?_))
  exact rt1 (.inl rfl) rfl hA rfl ⟨oL, cL, rfl, (((((hH.rm 0).rm 0).rm 0).rm 2).rm 3).perm (by (repeat (first | exact List.Perm.refl _ | exact List.Perm.nil | refine perm_pick 0 rfl ?_ | refine perm_pick 1 rfl ?_ | refine perm_pick 2 rfl ?_ | refine perm_pick 3 rfl ?_ | refine perm_pick 4 rfl ?_ | refine perm_pick 5 rfl ?_ | refine perm_pick 6 rfl ?_ | refine perm_pick 7 rfl ?_ | refine perm_pick 8 rfl ?_ | refine perm_pick 9 rfl ?_ | refine perm_pick 10 rfl ?_ | refine perm_pick 11 rfl ?_)))⟩
end Go.Proofs.YtenlcdokaadobaaGreatDoor
namespace Go.Proofs.YtenlcdokaadobaaGreatDoor
open Go Go.Fw
set_option linter.unusedVariables false
theorem la_1 {g : Grs} {kd : Int} {fm : Fm} {e : En} {wd : Wd} {sk : List Fm} (h : e.k = 1) : lastF g kd fm e wd sk = backF g kd (getF g fm (e.a.l.getD 0 atm0)) wd sk := by unfold lastF; rw [if_pos h]
theorem la_2 {g : Grs} {kd : Int} {fm : Fm} {e : En} {wd : Wd} {sk : List Fm} (h : e.k = 2) : lastF g kd fm e wd sk = enterF (getF g fm (e.a.l.getD 0 atm0)) (getF g fm (e.a.l.getD 1 atm0)) wd sk := by unfold lastF; rw [if_neg (by omega), if_pos h]
theorem la_4 {g : Grs} {kd : Int} {fm : Fm} {e : En} {wd : Wd} {sk : List Fm} (h : e.k = 4) : lastF g kd fm e wd sk = .go ⟨wd, sk, followF g fm (e.to.l.getD 0 edg0)⟩ := by unfold lastF; rw [if_neg (by omega), if_neg (by omega), if_pos h]
theorem la_x {g : Grs} {kd : Int} {fm : Fm} {e : En} {wd : Wd} {sk : List Fm} (h : e.k ≠ 1 ∧ e.k ≠ 2 ∧ e.k ≠ 4) : lastF g kd fm e wd sk = (match asNum (getF g fm (e.a.l.getD 0 atm0)) with
    | none => stuckF wd
    | some n =>
      if e.k = 3 then raiseF g n wd sk
      else if e.k = 5 then .go ⟨wd, sk, followF g fm (e.to.l.getD (if n = 0 then 1 else 0) edg0)⟩
      else .go ⟨wd, sk, followF g fm (e.to.l.getD (if bsB e.ns.l n then bsI e.ns.l n else e.ns.l.length) edg0)⟩) := by unfold lastF; rw [if_neg h.1, if_neg h.2.1, if_neg h.2.2]; rfl
theorem atm_at {l : List Atm} {i : Nat} (h : i < l.length) : l[i]? = some (l.getD i atm0) := by rw [List.getD_eq_getElem?_getD, List.getElem?_eq_getElem h]; rfl
theorem edg_at {l : List Edg} {i : Nat} (h : i < l.length) : l[i]? = some (l.getD i edg0) := by rw [List.getD_eq_getElem?_getD, List.getElem?_eq_getElem h]; rfl
theorem end_ns {e : En} (h : EndP e) (hn : e.ns.l.length ≤ 9223372036854775807) (ht : e.to.l.length ≤ 1000000000) : e.ns.l.length ≤ 2000000000 := by
  have h1 := h.to
  have h2 := h.ns
  unfold endT at h1
  by_cases h6 : e.k = 6
  · rw [if_neg (by omega), if_neg (by omega), if_pos h6] at h1
    by_cases hb : (e.ns.l.length : Int) + 1 ≤ 9223372036854775807
    · rw [wrap_i64 (by unfold i64ok; omega)] at h1
      omega
    · have h3 : e.ns.l.length = 9223372036854775807 := by omega
      rw [h3, show IntKind.i64.wrap ((9223372036854775807 : Nat) + 1 : Int) = -9223372036854775808 by decide] at h1
      omega
  · have : ¬ 0 < e.ns.l.length := fun h => h6 (h2.2 h)
    omega
structure EdgOk (g : Grs) (w0 : World) (fm : Fm) (t : Edg) : Prop where
  b0 : 0 ≤ t.b
  b1 : t.b < (g.fs.l.getD fm.c.1.toNat gr0).bs.l.length
  len : t.a.l.length = (blkOf g fm.c.1 t.b.toNat).ps.l.length
  at_ : ∀ a ∈ t.a.l, atW g a
  top : t.a.l.length ≤ 1048576
set_option maxRecDepth 10000 attribute [local irreducible] Code.wp wpList Calls Ex Op1 sat bat blk cb own Go.Fw.mp Go.Fw.mpO Go.Fw.mpI Go.Fw.mpE Go.Fw.itr HS Rd Ret wkD Hp Cl Cls Exit.then Exit.inBlock Exit.noGoto bodyPost Go.Fw.flat wk2 Go.Fw.all Go.Fw.owns wpOp
attribute [local irreducible] sk mpK sko mvO entK opM Go.Fw.mset Go.Fw.mv opK w63 frz obI RV idxF quoteF itoaB textF

set_option maxHeartbeats 32000000 in
theorem last_spec {w0 w : World} {H : List It} {c : Cx} {bM : Nat} {g : Grs} {kd fuel : Int} {m : Mc} {oO oS ph : Option Addr} {cO cS pc bv : Nat} {mm : List (Int × Value)} {fms : List FmM} {sx : Sx} (hH : HS w0 noM (cb bM 86 (encW g kd m.wd.inp oO m.wd.out.length cO ++ encR g fuel oS fms.length cS pc bv (blkA g m.fm.c.1 m.fm.b) m.fm.i ph none) :: own 5 1 oO m.wd.out.length cO (flat encY m.wd.out) :: frz w0 c.K :: all (sx.map obI) :: own 83 5 oS fms.length cS (flat encFm fms) :: all (fms.map mpF) :: mp bv mm :: H) w) (hpc : FnR c m.fm.c.1 m.fm.c.2 pc) (hmm : MapR c m.fm.vs mm) (hfs : FsR g c m.sk fms) (hst : StR c sx m.wd.st) (e : En) (hR : RdGs w0 g) (hnf : c.nf = g.fs.l.length) (hne : ∀ f ∈ g.fs.l, 0 < f.bs.l.length) (hsz : ∀ s ∈ g.ss.l, s.size ≤ 4096) (hxs : ∀ s ∈ g.xs.l, s.size ≤ 4611686018427387904) (hfl : m.sk.length ≤ 1000000)
    (hE : EndP e) (hRe : RdEn w0 e) (ha : ∀ a ∈ e.a.l, atW g a) (hto : ∀ t ∈ e.to.l, EdgOk g w0 m.fm t) (hFI : FI w0) (htl : e.to.l.length ≤ 1000000000) (hok : ∀ f ∈ m.sk, FmOk g f ∧ f.i < (curB g f).is.l.length) :
    Ret Tryz.prog 29 #[.pointer (some (bat bM 0)), .agg (encEn e).toArray] w (fun r w' => SrW w0 c bM g kd fuel H (lastF g kd m.fm e m.wd m.sk) w') := by
  have hel := hE.lo
  have heh := hE.hi
  have hea := hE.a
  have het := hE.to
  have hal := hRe.1.le
  have hspA : Sp e.a.o e.a.l.length := hRe.1.1.sp (sz := 2) (flat_length encAt_len _) (by omega)
  have hspT : Sp e.to.o e.to.l.length := hRe.2.2.1.1.sp (sz := 2) (flat_length encEd_len _) (by omega)
  have hnl := hRe.2.1.le
  have hns : e.ns.l.length ≤ 2000000000 := end_ns hE hnl htl
  (refine enter (N := 99) Tryz.func29 rfl Tryz.ntmps29 rfl ?_; intro a hA; dsimp only [sl0, Nat.reduceAdd] at hA)
  by_cases h1 : e.k = 1
  · unfold endA at hea
    rw [if_neg (by omega), if_neg (by omega)] at hea
    repeat' (first | ((first | apply st_ex hA hH rfl rfl (by decide) | apply dr_ex hA rfl rfl rfl (by decide) | apply dr_exp hA rfl rfl rfl (by decide) | apply dr_ex3 hA hH rfl rfl rfl (by decide)); (first | (apply ex_indexAddr; rfl; rfl; decide; omega; exact hspA) | (apply ex_load_st (vs := encAt (e.a.l.getD 0 atm0)); rfl; rfl; exact cls_rd hRe.1.1 id (flat_all encAt_len (atm_at (by omega)))) | (apply ex_load_st (vs := encAt (e.a.l.getD 1 atm0)); rfl; rfl; exact cls_rd hRe.1.1 id (flat_all encAt_len (atm_at (by omega))))); clear hA a; intro a hA) | (refine QT ?_; clear hA a; intro a hA) | (refine BT ?_; clear hA hH; rintro _ w ⟨bN, rfl, hH⟩ a hA) | ((first | refine CT ?_ | (refine DT ?_ ?_ <;> intro hc <;> try (exfalso; omega))) <;> repeat' refine CT ?_))
    obtain ⟨b3, hb3⟩ : ∃ x, x = bN := ⟨_, rfl⟩; rw [← hb3] at hA hH; clear hb3 bN; replace hH := hH.perm (H' := cb bM 86 (encW g kd m.wd.inp oO m.wd.out.length cO ++ encR g fuel oS fms.length cS pc bv (blkA g m.fm.c.1 m.fm.b) m.fm.i ph none) :: mp bv mm :: own 5 1 oO m.wd.out.length cO (flat encY m.wd.out) :: frz w0 c.K :: all (sx.map obI) :: own 83 5 oS fms.length cS (flat encFm fms) :: all (fms.map mpF) :: cb b3 51 (encEn e) :: H) (by (repeat (first | exact List.Perm.refl _ | exact List.Perm.nil | refine perm_pick 0 rfl ?_ | refine perm_pick 1 rfl ?_ | refine perm_pick 2 rfl ?_ | refine perm_pick 3 rfl ?_ | refine perm_pick 4 rfl ?_ | refine perm_pick 5 rfl ?_ | refine perm_pick 6 rfl ?_ | refine perm_pick 7 rfl ?_ | refine perm_pick 8 rfl ?_ | refine perm_pick 9 rfl ?_ | refine perm_pick 10 rfl ?_ | refine perm_pick 11 rfl ?_)))
    (refine st_op hA rfl rfl (by decide) (op_call rfl rfl rfl (get_spec w0 _ (own 5 1 oO m.wd.out.length cO (flat encY m.wd.out) :: frz w0 c.K :: all (sx.map obI) :: own 83 5 oS fms.length cS (flat encFm fms) :: all (fms.map mpF) :: cb b3 51 (encEn e) :: H) c bM g kd m.wd.inp oO oS m.wd.out.length cO fms.length cS pc bv fuel m.fm.i _ ph none m.fm mm (e.a.l.getD 0 atm0) hH hmm (ha _ (List.mem_of_getElem? (atm_at (by omega)))) hR.2.2.2.2.2 hsz)) ?_; clear hA hH; rintro u w ⟨hu, hH⟩ a hA)
    repeat' (first | (refine QT ?_; clear hA a; intro a hA))
    replace hH := hH.perm (H' := cb bM 86 (encW g kd m.wd.inp oO m.wd.out.length cO ++ encR g fuel oS fms.length cS pc bv (blkA g m.fm.c.1 m.fm.b) m.fm.i ph none) :: own 5 1 oO m.wd.out.length cO (flat encY m.wd.out) :: frz w0 c.K :: all (sx.map obI) :: own 83 5 oS fms.length cS (flat encFm fms) :: all (fms.map mpF) :: mp bv mm :: cb b3 51 (encEn e) :: H) (by (repeat (first | exact List.Perm.refl _ | exact List.Perm.nil | refine perm_pick 0 rfl ?_ | refine perm_pick 1 rfl ?_ | refine perm_pick 2 rfl ?_ | refine perm_pick 3 rfl ?_ | refine perm_pick 4 rfl ?_ | refine perm_pick 5 rfl ?_ | refine perm_pick 6 rfl ?_ | refine perm_pick 7 rfl ?_ | refine perm_pick 8 rfl ?_ | refine perm_pick 9 rfl ?_ | refine perm_pick 10 rfl ?_ | refine perm_pick 11 rfl ?_)))
    (refine st_op hA rfl rfl (by decide) (op_call rfl rfl rfl (backS hH hpc hmm hfs hst hu hR hFI hfl hok)) ?_; clear hA hH; rintro _ w hS a hA)
    repeat' (first | (refine QT ?_; clear hA a; intro a hA) | (refine CT ?_ <;> repeat' refine CT ?_))
    exact rt0 (by first | exact .inl rfl | exact .inr rfl) rfl hA (by rw [la_1 h1]; exact hS.drop1)
  by_cases h2 : e.k = 2
  · unfold endA at hea
    rw [if_pos h2] at hea
    repeat' (first | ((first | apply st_ex hA hH rfl rfl (by decide) | apply dr_ex hA rfl rfl rfl (by decide) | apply dr_exp hA rfl rfl rfl (by decide) | apply dr_ex3 hA hH rfl rfl rfl (by decide)); (first | (apply ex_indexAddr; rfl; rfl; decide; omega; exact hspA) | (apply ex_load_st (vs := encAt (e.a.l.getD 0 atm0)); rfl; rfl; exact cls_rd hRe.1.1 id (flat_all encAt_len (atm_at (by omega)))) | (apply ex_load_st (vs := encAt (e.a.l.getD 1 atm0)); rfl; rfl; exact cls_rd hRe.1.1 id (flat_all encAt_len (atm_at (by omega))))); clear hA a; intro a hA) | (refine QT ?_; clear hA a; intro a hA) | (refine BT ?_; clear hA hH; rintro _ w ⟨bN, rfl, hH⟩ a hA) | ((first | refine CT ?_ | (refine DT ?_ ?_ <;> intro hc <;> try (exfalso; omega))) <;> repeat' refine CT ?_))
    obtain ⟨b3, hb3⟩ : ∃ x, x = bN := ⟨_, rfl⟩; rw [← hb3] at hA hH; clear hb3 bN; replace hH := hH.perm (H' := cb bM 86 (encW g kd m.wd.inp oO m.wd.out.length cO ++ encR g fuel oS fms.length cS pc bv (blkA g m.fm.c.1 m.fm.b) m.fm.i ph none) :: mp bv mm :: own 5 1 oO m.wd.out.length cO (flat encY m.wd.out) :: frz w0 c.K :: all (sx.map obI) :: own 83 5 oS fms.length cS (flat encFm fms) :: all (fms.map mpF) :: cb b3 51 (encEn e) :: H) (by (repeat (first | exact List.Perm.refl _ | exact List.Perm.nil | refine perm_pick 0 rfl ?_ | refine perm_pick 1 rfl ?_ | refine perm_pick 2 rfl ?_ | refine perm_pick 3 rfl ?_ | refine perm_pick 4 rfl ?_ | refine perm_pick 5 rfl ?_ | refine perm_pick 6 rfl ?_ | refine perm_pick 7 rfl ?_ | refine perm_pick 8 rfl ?_ | refine perm_pick 9 rfl ?_ | refine perm_pick 10 rfl ?_ | refine perm_pick 11 rfl ?_)))
    (refine wp_draw2_HS [(0, 1), (1, 1), (2, 2), (3, 1), (4, 1), (5, 1), (7, 1), (8, 2), (9, 1), (10, 1), (11, 1), (6, 0), (12, 0)] [13] mixed (by decide +kernel) hH ?_; replace hH := hH.drew)
    repeat' (first | ((first | apply st_ex hA hH rfl rfl (by decide) | apply dr_ex hA rfl rfl rfl (by decide) | apply dr_exp hA rfl rfl rfl (by decide) | apply dr_ex3 hA hH rfl rfl rfl (by decide)); (first | (apply ex_indexAddr; rfl; rfl; decide; omega; exact hspA) | (apply ex_load_st (vs := encAt (e.a.l.getD 0 atm0)); rfl; rfl; exact cls_rd hRe.1.1 id (flat_all encAt_len (atm_at (by omega)))) | (apply ex_load_st (vs := encAt (e.a.l.getD 1 atm0)); rfl; rfl; exact cls_rd hRe.1.1 id (flat_all encAt_len (atm_at (by omega))))); clear hA a; intro a hA) | (refine QT ?_; clear hA a; intro a hA))
    (refine dr_op hA rfl rfl rfl (by decide) (op_call rfl rfl rfl (get_spec w0 _ (own 5 1 oO m.wd.out.length cO (flat encY m.wd.out) :: frz w0 c.K :: all (sx.map obI) :: own 83 5 oS fms.length cS (flat encFm fms) :: all (fms.map mpF) :: cb b3 51 (encEn e) :: H) c bM g kd m.wd.inp oO oS m.wd.out.length cO fms.length cS pc bv fuel m.fm.i _ ph none m.fm mm (e.a.l.getD 0 atm0) hH hmm (ha _ (List.mem_of_getElem? (atm_at (by omega)))) hR.2.2.2.2.2 hsz)) ?_; clear hA hH; rintro u w ⟨hu, hH⟩; refine ⟨STT, ?_⟩; intro a hA)
    (refine dr_op hA rfl rfl rfl (by decide) (op_call rfl rfl rfl (get_spec w0 _ (own 5 1 oO m.wd.out.length cO (flat encY m.wd.out) :: frz w0 c.K :: all (sx.map obI) :: own 83 5 oS fms.length cS (flat encFm fms) :: all (fms.map mpF) :: cb b3 51 (encEn e) :: H) c bM g kd m.wd.inp oO oS m.wd.out.length cO fms.length cS pc bv fuel m.fm.i _ ph none m.fm mm (e.a.l.getD 1 atm0) hH hmm (ha _ (List.mem_of_getElem? (atm_at (by omega)))) hR.2.2.2.2.2 hsz)) ?_; clear hA hH; rintro v w ⟨hv, hH⟩; refine ⟨STT, ?_⟩; intro a hA)
    trace_state
    repeat' (first | (refine QT ?_; clear hA a; intro a hA) | (refine CT ?_ <;> repeat' refine CT ?_))
    replace hH := hH.perm (H' := cb bM 86 (encW g kd m.wd.inp oO m.wd.out.length cO ++ encR g fuel oS fms.length cS pc bv (blkA g m.fm.c.1 m.fm.b) m.fm.i ph none) :: own 5 1 oO m.wd.out.length cO (flat encY m.wd.out) :: frz w0 c.K :: all (sx.map obI) :: own 83 5 oS fms.length cS (flat encFm fms) :: all (fms.map mpF) :: mp bv mm :: cb b3 51 (encEn e) :: H) (by (repeat (first | exact List.Perm.refl _ | exact List.Perm.nil | refine perm_pick 0 rfl ?_ | refine perm_pick 1 rfl ?_ | refine perm_pick 2 rfl ?_ | refine perm_pick 3 rfl ?_ | refine perm_pick 4 rfl ?_ | refine perm_pick 5 rfl ?_ | refine perm_pick 6 rfl ?_ | refine perm_pick 7 rfl ?_ | refine perm_pick 8 rfl ?_ | refine perm_pick 9 rfl ?_ | refine perm_pick 10 rfl ?_ | refine perm_pick 11 rfl ?_)))
    (refine dr_op3 hA rfl rfl rfl (by decide) (op_call rfl rfl rfl (enterS hH hpc hmm hfs hst hu hv hR hnf hne)) ?_; clear hA hH; rintro _ w hS a hA)
    repeat' (first | (refine QT ?_; clear hA a; intro a hA) | (refine CT ?_ <;> repeat' refine CT ?_))
    exact rt0 (by first | exact .inl rfl | exact .inr rfl) rfl hA (by rw [la_2 h2]; exact hS.drop1)
  by_cases h4 : e.k = 4
  · unfold endT at het
    rw [if_pos h4] at het
    repeat' (first | ((first | apply st_ex hA hH rfl rfl (by decide) | apply dr_ex hA rfl rfl rfl (by decide) | apply dr_exp hA rfl rfl rfl (by decide) | apply dr_ex3 hA hH rfl rfl rfl (by decide)); (first | (apply ex_indexAddr; rfl; rfl; decide; omega; exact hspT) | (apply ex_load_st (vs := encEd (e.to.l.getD 0 edg0)); rfl; rfl; exact cls_rd hRe.2.2.1.1 id (flat_all encEd_len (edg_at (by omega))))); clear hA a; intro a hA) | (refine QT ?_; clear hA a; intro a hA) | (refine BT ?_; clear hA hH; rintro _ w ⟨bN, rfl, hH⟩ a hA) | ((first | refine CT ?_ | (refine DT ?_ ?_ <;> intro hc <;> try (exfalso; omega))) <;> repeat' refine CT ?_))
    obtain ⟨b3, hb3⟩ : ∃ x, x = bN := ⟨_, rfl⟩; rw [← hb3] at hA hH; clear hb3 bN; replace hH := hH.perm (H' := cb bM 86 (encW g kd m.wd.inp oO m.wd.out.length cO ++ encR g fuel oS fms.length cS pc bv (blkA g m.fm.c.1 m.fm.b) m.fm.i ph none) :: mp bv mm :: own 5 1 oO m.wd.out.length cO (flat encY m.wd.out) :: frz w0 c.K :: all (sx.map obI) :: own 83 5 oS fms.length cS (flat encFm fms) :: all (fms.map mpF) :: cb b3 51 (encEn e) :: H) (by (repeat (first | exact List.Perm.refl _ | exact List.Perm.nil | refine perm_pick 0 rfl ?_ | refine perm_pick 1 rfl ?_ | refine perm_pick 2 rfl ?_ | refine perm_pick 3 rfl ?_ | refine perm_pick 4 rfl ?_ | refine perm_pick 5 rfl ?_ | refine perm_pick 6 rfl ?_ | refine perm_pick 7 rfl ?_ | refine perm_pick 8 rfl ?_ | refine perm_pick 9 rfl ?_ | refine perm_pick 10 rfl ?_ | refine perm_pick 11 rfl ?_)))
    replace hH := hH.perm (H' := cb bM 86 (encW g kd m.wd.inp oO m.wd.out.length cO ++ encR g fuel oS fms.length cS pc bv (blkA g m.fm.c.1 m.fm.b) m.fm.i ph none) :: own 5 1 oO m.wd.out.length cO (flat encY m.wd.out) :: frz w0 c.K :: all (sx.map obI) :: own 83 5 oS fms.length cS (flat encFm fms) :: all (fms.map mpF) :: mp bv mm :: cb b3 51 (encEn e) :: H) (by (repeat (first | exact List.Perm.refl _ | exact List.Perm.nil | refine perm_pick 0 rfl ?_ | refine perm_pick 1 rfl ?_ | refine perm_pick 2 rfl ?_ | refine perm_pick 3 rfl ?_ | refine perm_pick 4 rfl ?_ | refine perm_pick 5 rfl ?_ | refine perm_pick 6 rfl ?_ | refine perm_pick 7 rfl ?_ | refine perm_pick 8 rfl ?_ | refine perm_pick 9 rfl ?_ | refine perm_pick 10 rfl ?_ | refine perm_pick 11 rfl ?_)))
    have hm0 : e.to.l.getD 0 edg0 ∈ e.to.l := getD_mem (by omega)
    have hEd := hto _ hm0
    (refine st_op hA rfl rfl (by decide) (op_call rfl rfl rfl (followS hH hpc hmm hfs hst hEd.at_ hR hsz (hRe.2.2.2 _ hm0) hEd.top hnf hEd.b0 hEd.b1 hEd.len)) ?_; clear hA hH; rintro _ w hS a hA)
    repeat' (first | (refine QT ?_; clear hA a; intro a hA) | (refine CT ?_ <;> repeat' refine CT ?_))
    exact rt0 (by first | exact .inl rfl | exact .inr rfl) rfl hA (by rw [la_4 h4]; exact hS.drop1)
  have hk : e.k = 3 ∨ e.k = 5 ∨ e.k = 6 := by omega
  have ex := la_x (g := g) (kd := kd) (fm := m.fm) (wd := m.wd) (sk := m.sk) ⟨h1, h2, h4⟩
  unfold endA at hea
  rw [if_neg h2, if_neg h4] at hea
  repeat' (first | ((first | apply st_ex hA hH rfl rfl (by decide) | apply dr_ex hA rfl rfl rfl (by decide) | apply dr_exp hA rfl rfl rfl (by decide) | apply dr_ex3 hA hH rfl rfl rfl (by decide)); (first | (apply ex_indexAddr; rfl; rfl; decide; omega; exact hspA) | (apply ex_load_st (vs := encAt (e.a.l.getD 0 atm0)); rfl; rfl; exact cls_rd hRe.1.1 id (flat_all encAt_len (atm_at (by omega)))) | (apply ex_load_st (vs := encAt (e.a.l.getD 1 atm0)); rfl; rfl; exact cls_rd hRe.1.1 id (flat_all encAt_len (atm_at (by omega))))); clear hA a; intro a hA) | (refine QT ?_; clear hA a; intro a hA) | (refine BT ?_; clear hA hH; rintro _ w ⟨bN, rfl, hH⟩ a hA) | ((first | refine CT ?_ | (refine DT ?_ ?_ <;> intro hc <;> try (exfalso; omega))) <;> repeat' refine CT ?_))
  obtain ⟨b3, hb3⟩ : ∃ x, x = bN := ⟨_, rfl⟩; rw [← hb3] at hA hH; clear hb3 bN; replace hH := hH.perm (H' := cb bM 86 (encW g kd m.wd.inp oO m.wd.out.length cO ++ encR g fuel oS fms.length cS pc bv (blkA g m.fm.c.1 m.fm.b) m.fm.i ph none) :: mp bv mm :: own 5 1 oO m.wd.out.length cO (flat encY m.wd.out) :: frz w0 c.K :: all (sx.map obI) :: own 83 5 oS fms.length cS (flat encFm fms) :: all (fms.map mpF) :: cb b3 51 (encEn e) :: H) (by (repeat (first | exact List.Perm.refl _ | exact List.Perm.nil | refine perm_pick 0 rfl ?_ | refine perm_pick 1 rfl ?_ | refine perm_pick 2 rfl ?_ | refine perm_pick 3 rfl ?_ | refine perm_pick 4 rfl ?_ | refine perm_pick 5 rfl ?_ | refine perm_pick 6 rfl ?_ | refine perm_pick 7 rfl ?_ | refine perm_pick 8 rfl ?_ | refine perm_pick 9 rfl ?_ | refine perm_pick 10 rfl ?_ | refine perm_pick 11 rfl ?_)))
  (refine st_op hA rfl rfl (by decide) (op_call rfl rfl rfl (get_spec w0 _ (own 5 1 oO m.wd.out.length cO (flat encY m.wd.out) :: frz w0 c.K :: all (sx.map obI) :: own 83 5 oS fms.length cS (flat encFm fms) :: all (fms.map mpF) :: cb b3 51 (encEn e) :: H) c bM g kd m.wd.inp oO oS m.wd.out.length cO fms.length cS pc bv fuel m.fm.i _ ph none m.fm mm (e.a.l.getD 0 atm0) hH hmm (ha _ (List.mem_of_getElem? (atm_at (by omega)))) hR.2.2.2.2.2 hsz)) ?_; clear hA hH; rintro u w ⟨hu, hH⟩ a hA)
  rcases hu.asNum with ⟨n, hs, rfl, hn⟩ | ⟨hs, hn⟩
  rotate_left
  · rw [hs] at ex
    dsimp only at ex
    replace hH := hH.perm (H' := cb bM 86 (encW g kd m.wd.inp oO m.wd.out.length cO ++ encR g fuel oS fms.length cS pc bv (blkA g m.fm.c.1 m.fm.b) m.fm.i ph none) :: own 5 1 oO m.wd.out.length cO (flat encY m.wd.out) :: frz w0 c.K :: all (sx.map obI) :: own 83 5 oS fms.length cS (flat encFm fms) :: all (fms.map mpF) :: mp bv mm :: cb b3 51 (encEn e) :: H) (by (repeat (first | exact List.Perm.refl _ | exact List.Perm.nil | refine perm_pick 0 rfl ?_ | refine perm_pick 1 rfl ?_ | refine perm_pick 2 rfl ?_ | refine perm_pick 3 rfl ?_ | refine perm_pick 4 rfl ?_ | refine perm_pick 5 rfl ?_ | refine perm_pick 6 rfl ?_ | refine perm_pick 7 rfl ?_ | refine perm_pick 8 rfl ?_ | refine perm_pick 9 rfl ?_ | refine perm_pick 10 rfl ?_ | refine perm_pick 11 rfl ?_)))
    repeat' (first | ((first | apply st_ex hA hH rfl rfl (by decide) | apply dr_ex hA rfl rfl rfl (by decide) | apply dr_exp hA rfl rfl rfl (by decide) | apply dr_ex3 hA hH rfl rfl rfl (by decide)); (first | (apply ex_assertX; rfl; exact hn)); clear hA a; intro a hA) | (refine QT ?_; clear hA a; intro a hA) | (refine CT ?_ <;> repeat' refine CT ?_))
    (refine st_op hA rfl rfl (by decide) (op_call rfl rfl rfl (stopS hH hpc hmm hfs hst 4 empS)) ?_; clear hA hH; rintro _ w hS a hA)
    repeat' (first | (refine QT ?_; clear hA a; intro a hA) | (refine CT ?_ <;> repeat' refine CT ?_))
    exact rt0 (by first | exact .inl rfl | exact .inr rfl) rfl hA (SrW.stop (by rw [ex]; rfl) hS.drop1)
  rw [hs] at ex
  dsimp only at ex
  replace hH := hH.perm (H' := cb bM 86 (encW g kd m.wd.inp oO m.wd.out.length cO ++ encR g fuel oS fms.length cS pc bv (blkA g m.fm.c.1 m.fm.b) m.fm.i ph none) :: own 5 1 oO m.wd.out.length cO (flat encY m.wd.out) :: frz w0 c.K :: all (sx.map obI) :: own 83 5 oS fms.length cS (flat encFm fms) :: all (fms.map mpF) :: mp bv mm :: cb b3 51 (encEn e) :: H) (by (repeat (first | exact List.Perm.refl _ | exact List.Perm.nil | refine perm_pick 0 rfl ?_ | refine perm_pick 1 rfl ?_ | refine perm_pick 2 rfl ?_ | refine perm_pick 3 rfl ?_ | refine perm_pick 4 rfl ?_ | refine perm_pick 5 rfl ?_ | refine perm_pick 6 rfl ?_ | refine perm_pick 7 rfl ?_ | refine perm_pick 8 rfl ?_ | refine perm_pick 9 rfl ?_ | refine perm_pick 10 rfl ?_ | refine perm_pick 11 rfl ?_)))
  by_cases h3 : e.k = 3
  · rw [if_pos h3] at ex
    repeat' (first | ((first | apply st_ex hA hH rfl rfl (by decide) | apply dr_ex hA rfl rfl rfl (by decide) | apply dr_exp hA rfl rfl rfl (by decide) | apply dr_ex3 hA hH rfl rfl rfl (by decide)); (first | (apply ex_assertY; rfl)); clear hA a; intro a hA) | (refine QT ?_; clear hA a; intro a hA) | ((first | refine CT ?_ | (refine DT ?_ ?_ <;> intro hc <;> try (exfalso; omega))) <;> repeat' refine CT ?_))
    (refine st_op hA rfl rfl (by decide) (op_call rfl rfl rfl (raiseS hH hpc hmm hfs hst c.le_refl (Nat.le_succ _) hn hR hnf hne hfl hxs)) ?_; clear hA hH; rintro _ w hS a hA)
    repeat' (first | (refine QT ?_; clear hA a; intro a hA) | (refine CT ?_ <;> repeat' refine CT ?_))
    exact rt0 (by first | exact .inl rfl | exact .inr rfl) rfl hA (by rw [ex]; exact hS.drop1)
  rw [if_neg h3] at ex
  unfold endT at het
  rw [if_neg h4] at het
  by_cases h5 : e.k = 5
  · rw [if_pos h5] at ex
    rw [if_pos h5] at het
    repeat' (first | ((first | apply st_ex hA hH rfl rfl (by decide) | apply dr_ex hA rfl rfl rfl (by decide) | apply dr_exp hA rfl rfl rfl (by decide) | apply dr_ex3 hA hH rfl rfl rfl (by decide)); (first | (apply ex_assertY; rfl)); clear hA a; intro a hA) | (refine QT ?_; clear hA a; intro a hA) | ((first | refine CT ?_ | (refine DT ?_ ?_ <;> intro hc <;> try (exfalso; omega))) <;> repeat' refine CT ?_))
    have hm1 : e.to.l.getD 1 edg0 ∈ e.to.l := getD_mem (by omega)
    have hm0 : e.to.l.getD 0 edg0 ∈ e.to.l := getD_mem (by omega)
    (refine wp_draw2_HS [(0, 1), (1, 1), (2, 1), (3, 1), (4, 1), (5, 0), (6, 1), (7, 1), (8, 1)] [9] mixed (by decide +kernel) hH ?_; replace hH := hH.drew)
    by_cases h0 : n = 0
    · have htr : tru (decide (n ≠ 0)) = 0 := by rw [decide_eq_false (by simpa using h0)]; rfl
      rw [if_pos h0] at ex
      have hEd := hto _ hm1
      repeat' (first | ((first | apply st_ex hA hH rfl rfl (by decide) | apply dr_ex hA rfl rfl rfl (by decide) | apply dr_exp hA rfl rfl rfl (by decide) | apply dr_ex3 hA hH rfl rfl rfl (by decide)); (first | (apply ex_indexAddr; rfl; rfl; decide; omega; exact hspT) | (apply ex_load_st (vs := encEd (e.to.l.getD 1 edg0)); rfl; rfl; exact cls_rd hRe.2.2.1.1 id (flat_all encEd_len (edg_at (by omega))))); clear hA a; intro a hA) | (refine QT ?_; clear hA a; intro a hA) | (refine dr_op hA rfl rfl rfl (by decide) (op_call rfl rfl rfl (Truth_spec _ _)) ?_; clear hA; rintro _ w ⟨rfl, hk2⟩; replace hH := hH.keep hk2; refine ⟨STT, ?_⟩; intro a hA; rw [htr] at hA) | (refine CT ?_ <;> repeat' refine CT ?_))
      (refine dr_op3 hA rfl rfl rfl (by decide) (op_call rfl rfl rfl (followS hH hpc hmm hfs hst hEd.at_ hR hsz (hRe.2.2.2 _ hm1) hEd.top hnf hEd.b0 hEd.b1 hEd.len)) ?_; clear hA hH; rintro _ w hS a hA)
      repeat' (first | (refine QT ?_; clear hA a; intro a hA) | (refine CT ?_ <;> repeat' refine CT ?_))
      exact rt0 (by first | exact .inl rfl | exact .inr rfl) rfl hA (by rw [ex]; exact hS.drop1)
    · have htr : tru (decide (n ≠ 0)) = 1 := by rw [decide_eq_true h0]; rfl
      rw [if_neg h0] at ex
      have hEd := hto _ hm0
      repeat' (first | ((first | apply st_ex hA hH rfl rfl (by decide) | apply dr_ex hA rfl rfl rfl (by decide) | apply dr_exp hA rfl rfl rfl (by decide) | apply dr_ex3 hA hH rfl rfl rfl (by decide)); (first | (apply ex_indexAddr; rfl; rfl; decide; omega; exact hspT) | (apply ex_load_st (vs := encEd (e.to.l.getD 0 edg0)); rfl; rfl; exact cls_rd hRe.2.2.1.1 id (flat_all encEd_len (edg_at (by omega))))); clear hA a; intro a hA) | (refine QT ?_; clear hA a; intro a hA) | (refine dr_op hA rfl rfl rfl (by decide) (op_call rfl rfl rfl (Truth_spec _ _)) ?_; clear hA; rintro _ w ⟨rfl, hk2⟩; replace hH := hH.keep hk2; refine ⟨STT, ?_⟩; intro a hA; rw [htr] at hA) | (refine CT ?_ <;> repeat' refine CT ?_))
      (refine dr_op3 hA rfl rfl rfl (by decide) (op_call rfl rfl rfl (followS hH hpc hmm hfs hst hEd.at_ hR hsz (hRe.2.2.2 _ hm0) hEd.top hnf hEd.b0 hEd.b1 hEd.len)) ?_; clear hA hH; rintro _ w hS a hA)
      repeat' (first | (refine QT ?_; clear hA a; intro a hA) | (refine CT ?_ <;> repeat' refine CT ?_))
      exact rt0 (by first | exact .inl rfl | exact .inr rfl) rfl hA (by rw [ex]; exact hS.drop1)
  have h6 : e.k = 6 := by omega
  rw [if_neg h5] at ex
  rw [if_neg h5, if_pos h6] at het
  have hnl2 := hRe.2.1.le
  rw [wrap_i64 (by unfold i64ok; omega)] at het
  have hbi := bsI_le e.ns.l n
  obtain ⟨i0, hi1⟩ : ∃ i : Nat, i = if bsB e.ns.l n = true then bsI e.ns.l n else e.ns.l.length := ⟨_, rfl⟩
  rw [← hi1] at ex
  have hm0 : e.to.l.getD i0 edg0 ∈ e.to.l := getD_mem (by rw [hi1]; split <;> omega)
  have hEd := hto _ hm0
  repeat' (first | ((first | apply st_ex hA hH rfl rfl (by decide) | apply dr_ex hA rfl rfl rfl (by decide) | apply dr_exp hA rfl rfl rfl (by decide) | apply dr_ex3 hA hH rfl rfl rfl (by decide)); (first | (apply ex_assertY; rfl)); clear hA a; intro a hA) | (refine QT ?_; clear hA a; intro a hA) | ((first | refine CT ?_ | (refine DT ?_ ?_ <;> intro hc <;> try (exfalso; omega))) <;> repeat' refine CT ?_))
  (refine st_op hA rfl rfl (by decide) (op_call rfl rfl rfl (bs_spec _ _ _ _ _ (hH.rd hRe.2.1.1 id) hns)) ?_; clear hA; rintro _ w ⟨rfl, hk2⟩ a hA; replace hH := hH.keep hk2)
  cases hb : bsB e.ns.l n
  · rw [hb, if_neg (by decide)] at hi1
    subst hi1
    rw [hb] at hA
    repeat' (first | ((first | apply st_ex hA hH rfl rfl (by decide) | apply dr_ex hA rfl rfl rfl (by decide) | apply dr_exp hA rfl rfl rfl (by decide) | apply dr_ex3 hA hH rfl rfl rfl (by decide)); (first | (apply ex_indexAddr_nat; rfl; rfl; omega; exact hspT) | (apply ex_load_st (vs := encEd (e.to.l.getD e.ns.l.length edg0)); rfl; rfl; exact cls_rd hRe.2.2.1.1 id (flat_all encEd_len (edg_at (by omega))))); clear hA a; intro a hA) | (refine QT ?_; clear hA a; intro a hA) | (refine CT ?_ <;> repeat' refine CT ?_))
    (refine st_op hA rfl rfl (by decide) (op_call rfl rfl rfl (followS hH hpc hmm hfs hst hEd.at_ hR hsz (hRe.2.2.2 _ hm0) hEd.top hnf hEd.b0 hEd.b1 hEd.len)) ?_; clear hA hH; rintro _ w hS a hA)
    repeat' (first | (refine QT ?_; clear hA a; intro a hA) | (refine CT ?_ <;> repeat' refine CT ?_))
    exact rt0 (by first | exact .inl rfl | exact .inr rfl) rfl hA (by rw [ex]; exact hS.drop1)
  · rw [hb, if_pos rfl] at hi1
    subst hi1
    rw [hb] at hA
    repeat' (first | ((first | apply st_ex hA hH rfl rfl (by decide) | apply dr_ex hA rfl rfl rfl (by decide) | apply dr_exp hA rfl rfl rfl (by decide) | apply dr_ex3 hA hH rfl rfl rfl (by decide)); (first | (apply ex_indexAddr_nat; rfl; rfl; omega; exact hspT) | (apply ex_load_st (vs := encEd (e.to.l.getD (bsI e.ns.l n) edg0)); rfl; rfl; exact cls_rd hRe.2.2.1.1 id (flat_all encEd_len (edg_at (by omega))))); clear hA a; intro a hA) | (refine QT ?_; clear hA a; intro a hA) | (refine CT ?_ <;> repeat' refine CT ?_))
    (refine st_op hA rfl rfl (by decide) (op_call rfl rfl rfl (followS hH hpc hmm hfs hst hEd.at_ hR hsz (hRe.2.2.2 _ hm0) hEd.top hnf hEd.b0 hEd.b1 hEd.len)) ?_; clear hA hH; rintro _ w hS a hA)
    repeat' (first | (refine QT ?_; clear hA a; intro a hA) | (refine CT ?_ <;> repeat' refine CT ?_))
    exact rt0 (by first | exact .inl rfl | exact .inr rfl) rfl hA (by rw [ex]; exact hS.drop1)
end Go.Proofs.YtenlcdokaadobaaGreatDoor
namespace Go.Fw
open Go Go.RowKit
theorem rt1c {P : Program} {N : Nat} {l : List (Nat × Value)} {a : Act} {w : World} {C : World → Prop} {fn : Func} {R : Value → World → Prop} {p : Tmp} {ty sz by_ : Nat} {z : Value} {zs : List Value} {fl : List (Nat × Nat)} {q : Addr} {vs : List Value} {e : Exit} [h0 : TSt P ty fl] [hi : TIf P ty z zs sz by_] (he : e = .ret ∨ e = .normal) (hr : fn.results = #[.cell p ty]) (hA : Sl N l a)
    (hp : lk l p = some (.pointer (some q))) (hl : vs.length = sz) (hC : C w) (hc : Cls C q vs) (h : R (.agg vs.toArray) w) : bodyPost P fn (fun e w' => ∃ v, e = .returned v ∧ R v w') e a w := by
  have hg : a.tmps.getD p undef = .pointer (some q) := by simp [Array.getD_eq_getD_getElem?, hA.get p _ hp]
  obtain ⟨ti, h3, h4, h5, h6⟩ := hi.eq
  have hrun : (results fn a.tmps).run P w = .ok (.agg vs.toArray) w := by
    have e1 : (results fn a.tmps).run P w = ((asAddr (a.tmps.getD p undef)).run P w).andThen fun b w₁ => (loadVar ty b).run P w₁ := by
      simp only [results, hr]
      simp [Sem.run_bind, Result.andThen]
    rw [e1, hg]
    simp [asAddr, loadVar, run_isAgg_st, sizeOf, typeInfo, h3, h5, ← hl, run_loadCells_list w q vs (hc w hC), Result.andThen]
  rcases he with rfl | rfl
  · exact bodyPost_ret hrun hA.defers ⟨_, rfl, h⟩
  · exact bodyPost_end hrun hA.defers ⟨_, rfl, h⟩
end Go.Fw
namespace Go.Proofs.YtenlcdokaadobaaGreatDoor
open Go Go.Fw
set_option linter.unusedVariables false
noncomputable def runP (g : Grs) (kd : Int) (s : ByteArray) (fuel : Int) : Int × ByteArray × ByteArray :=
  open Classical in if MayP g then ((runF g kd fuel.toNat (firstM s)).1, ofB (runF g kd fuel.toNat (firstM s)).2.2.out, (runF g kd fuel.toNat (firstM s)).2.1) else (4, empS, empS)
theorem runP_t {g : Grs} {kd : Int} {s : ByteArray} {fuel : Int} (h : MayP g) : runP g kd s fuel = ((runF g kd fuel.toNat (firstM s)).1, ofB (runF g kd fuel.toNat (firstM s)).2.2.out, (runF g kd fuel.toNat (firstM s)).2.1) := by unfold runP; rw [if_pos h]
theorem runP_f {g : Grs} {kd : Int} {s : ByteArray} {fuel : Int} (h : ¬ MayP g) : runP g kd s fuel = (4, empS, empS) := by unfold runP; rw [if_neg h]
def encP3 (r : Int × ByteArray × ByteArray) : List Value := encO3 r.1 r.2.1 r.2.2
def enc0 (g : Grs) (fuel : Int) : List Value :=
  [.slice g.fs.o g.fs.l.length g.fs.c, .slice g.ls.o g.ls.l.length g.ls.c, .slice g.ts.o g.ts.l.length g.ts.c, .slice g.xs.o g.xs.l.length g.xs.c, .slice g.ss.o g.ss.l.length g.ss.c,
   .int .i64 fuel, .slice none 0 0, .pointer none, .map none, .pointer none, .int .i64 0, .pointer none, .pointer none]
structure RunOk (w0 : World) (g : Grs) (kd : Int) (n0 : Nat) (inp : ByteArray) (c : Cx) (m : Mc) (fu : Int) : Prop where
  run : runF g kd n0 (firstM inp) = runF g kd fu.toNat m
  mc : McOk g m
  nf : c.nf = g.fs.l.length
  K : ∀ w, c.K w → Kp w0 noM w
  top : fu ≤ 3000
  b0 : 65536 ≤ c.bd
  b1 : c.bd + fu.toNat ≤ 70000
  sk : m.sk.length + fu.toNat ≤ 3000
  out : m.wd.out.length + fu.toNat ≤ 3000
def RunG (w0 : World) (g : Grs) (kd : Int) (n0 : Nat) (inp : ByteArray) (bM : Nat) (H : List It) (i : Nat) (w : World) : Prop :=
  ∃ c m fu, (i = fu.toNat + 1 ∧ RunOk w0 g kd n0 inp c m fu) ∧ MSt w0 c bM g kd fu H m w
def RunE (w0 : World) (g : Grs) (kd : Int) (n0 : Nat) (inp : ByteArray) (bM : Nat) (H : List It) (w : World) : Prop :=
  ∃ k r wd fu, runF g kd n0 (firstM inp) = (k, r, wd) ∧ MEnd w0 bM g kd fu H k r wd w
theorem run_next {w0 w : World} {g : Grs} (hss : g.ss.l.length ≤ 9223372036854775807) {kd : Int} {n0 : Nat} {inp : ByteArray} {c : Cx} {m : Mc} {fu : Int} {bM : Nat} {H : List It} (hM : MayP g) (h : RunOk w0 g kd n0 inp c m fu) (h0 : 0 < fu) (hS : SrW w0 c bM g kd (fu - 1) H (stepF g kd m) w) :
    RunG w0 g kd n0 inp bM H fu.toNat w ∨ RunE w0 g kd n0 inp bM H w := by
  obtain ⟨n, hn⟩ : ∃ n, fu.toNat = n + 1 := ⟨fu.toNat - 1, by omega⟩
  have hn1 : (fu - 1).toNat = n := by omega
  have hrun := h.run
  have htop := h.top
  have hb0 := h.b0
  have hb1 := h.b1
  have hsk := h.sk
  have hout := h.out
  rw [hn, runF] at hrun
  cases hs : stepF g kd m with
  | go m' =>
    rw [hs] at hS hrun
    obtain ⟨d, ⟨hle, hbd⟩, hm⟩ := hS
    have hm2 := hm
    obtain ⟨oO, cO, oS, cS, pc, bv, mm, fms, sx, ph, hH, hf, hrest⟩ := hm2
    obtain ⟨o, k, vs, hr, _⟩ := hf
    have hnf : d.nf = g.fs.l.length := by rw [← hle.nf]; exact h.nf
    have hcu := cur_ok hM h.mc.fm
    have ho := step_ok hs h.mc (may_ne hM) (fun t ht => ⟨(hcu.edge hss ht).1, (hcu.edge hss ht).2.1⟩) hr.1 (by omega)
    have h1 := ho.sk
    have h2 := ho.out
    have h3 := hle.bd
    refine .inl ⟨d, m', fu - 1, ⟨by omega, ⟨by rw [hn1]; exact hrun, ho.ok, hnf, fun w hw => h.K w (hle.K w hw), by omega, by omega, by omega, by omega, by omega⟩⟩, hm⟩
  | stop k r wd =>
    rw [hs] at hS hrun
    exact .inr ⟨k, r, wd, fu - 1, hrun, hS⟩
set_option maxRecDepth 10000 attribute [local irreducible] Code.wp wpList Calls Ex Op1 sat bat blk cb own Go.Fw.mp Go.Fw.mpO Go.Fw.mpI Go.Fw.mpE Go.Fw.itr HS Rd Ret wkD Hp Cl Cls Exit.then Exit.inBlock Exit.noGoto bodyPost Go.Fw.flat wk2 Go.Fw.all Go.Fw.owns wpOp
attribute [local irreducible] sk mpK sko mvO entK opM Go.Fw.mset Go.Fw.mv opK w63 frz obI RV idxF quoteF itoaB textF

set_option maxHeartbeats 16000000 in
theorem enter0_spec (w0 w : World) (H : List It) (c : Cx) (bM p : Nat) (g : Grs) (kd : Int) (s : ByteArray) (fuel : Int) (hH : HS w0 noM (cb bM 86 (encW g kd s none 0 0 ++ enc0 g fuel) :: frz w0 c.K :: H) w) (hf : FnR c 0 [] p)
    (hR : RdGs w0 g) (hnf : c.nf = g.fs.l.length) (hne : ∀ f ∈ g.fs.l, 0 < f.bs.l.length) :
    Ret Tryz.prog 26 #[.pointer (some (bat bM 0)), ptrV 79 p, .iface 2 (.int .i64 0)] w (fun r w' =>
      ∃ b m, MapR c (firstM s).fm.vs m ∧ HS w0 noM (cb bM 86 (encW g kd s none 0 0 ++ encR g fuel none 0 0 p b (blkA g 0 0) 0 none none) :: mp b m :: frz w0 c.K :: H) w') := by
  have hspF : Sp g.fs.o g.fs.l.length := hR.1.1.sp (sz := 2) (flat_length encG_len _) (by omega)
  have hv : RV c (.num 0) (.iface 2 (.int .i64 0)) := RV_num (c := c) (n := 0) ⟨by decide, by decide⟩
  obtain ⟨o, k, vs, hfr, hp, hr2, hvs⟩ := id hf
  have hfl : 0 < g.fs.l.length := by omega
  have hgm : g.fs.l.getD (Int.toNat 0) gr0 ∈ g.fs.l := getD_mem hfl
  have hbl := hne _ hgm
  have hspB : Sp (g.fs.l.getD (Int.toNat 0) gr0).bs.o (g.fs.l.getD (Int.toNat 0) gr0).bs.l.length := (hR.2.1 _ hgm).1.1.sp (sz := 6) (flat_length encBl_len _) (by omega)
  unfold ptrV
  (refine enter (N := 41) Tryz.func26 rfl Tryz.ntmps26 rfl ?_; intro a hA; dsimp only [sl0, Nat.reduceAdd] at hA)
  repeat' (first | ((first | apply st_ex hA hH rfl rfl (by decide) | apply dr_ex hA rfl rfl rfl (by decide) | apply dr_exp hA rfl rfl rfl (by decide) | apply dr_ex3 hA hH rfl rfl rfl (by decide)); (first | (apply ex_assertY; rfl)); clear hA a; intro a hA) | (refine QT ?_; clear hA a; intro a hA) | (refine CT ?_ <;> repeat' refine CT ?_))
  have hb0 : (0 : Int) < (g.fs.l.getD (Int.toNat 0) gr0).bs.l.length := by omega
  refine wp_drawTL (qs [0, 1, 3, 4, 6, 9, 10, 11, 12, 13, 14, 15, 16, 17, 18, 19, 20, 21] (.one 2 (.two 5 7 (.one 7 (qs [8, 22, 23, 24] .nil)) (.one 5 (qs [8, 22, 23, 24] .nil))))) [25] [] (fun _ _ => False) mixed (by decide +kernel) hH ?_ (fun a w h => h.elim)
  intro hQ
  replace hH := hH.drew
  (repeat ((first | (apply dl_exp hA rfl rfl rfl (by decide) rfl; exact ex_move rfl) | (apply dl_ex hA rfl rfl rfl (by decide) rfl; first | (apply ex_load; rfl; exact cl_frzB MEMT hp rfl) | (apply ex_indexAddr; rfl; rfl; omega; omega; first | exact hspF | exact hspB) | (apply ex_load; rfl; refine cl_rd hR.1.1 id (fs_at ?_); omega) | (apply ex_iface; rfl) | (apply ex_build_p (cs := #[.pointer (some (bat p 0)), .map (some bV), .pointer (blkA g 0 0), .int .i64 0, .pointer none]); rfl; (repeat (first | (intro _ h; exact absurd h (List.not_mem_nil)) | (refine List.forall_mem_cons.2 ⟨one_cell_of _ _, ?_⟩))); rfl) | exact EXT)); clear hA a; intro a hA))
  (refine dl_op hA rfl rfl rfl (by decide) (op_makeMap hH) ?_; clear hA hH; rintro _ w ⟨bV, rfl, hH⟩; refine ⟨hH.tail, ?_⟩; intro a hA)
  refine dl_two ?_ ?_
  · (apply dl_op0 hA rfl rfl rfl; apply op_insertV; rfl; rfl; rfl; exact hH; (repeat constructor); clear hH; rintro _ w hH; refine ⟨hH.tail, ?_⟩)
    (apply dl_op0 hA rfl rfl rfl; apply op_insertV; rfl; rfl; rfl; exact hH; (repeat constructor); clear hH; rintro _ w hH; refine ⟨hH.tail, ?_⟩)
    (repeat ((first | (apply dl_exp hA rfl rfl rfl (by decide) rfl; exact ex_move rfl) | (apply dl_ex hA rfl rfl rfl (by decide) rfl; first | (apply ex_load; rfl; exact cl_frzB MEMT hp rfl) | (apply ex_indexAddr; rfl; rfl; omega; omega; first | exact hspF | exact hspB) | (apply ex_load; rfl; refine cl_rd hR.1.1 id (fs_at ?_); omega) | (apply ex_iface; rfl) | (apply ex_build_p (cs := #[.pointer (some (bat p 0)), .map (some bV), .pointer (blkA g 0 0), .int .i64 0, .pointer none]); rfl; (repeat (first | (intro _ h; exact absurd h (List.not_mem_nil)) | (refine List.forall_mem_cons.2 ⟨one_cell_of _ _, ?_⟩))); rfl) | exact EXT)); clear hA a; intro a hA))
    (apply dl_nil; (apply dr_op03 hA rfl rfl rfl; apply op_store_cb (vs := [.pointer (some (bat p 0)), .map (some bV), .pointer (blkA g 0 0), .int .i64 0, .pointer none]) (cs' := encW g kd s none 0 0 ++ encR g fuel none 0 0 p bV (blkA g 0 0) 0 none none); rfl; rfl; exact hH; (repeat constructor); clear hH; rintro _ w hH); (repeat' (first | (refine QT ?_; clear hA a; intro a hA) | (refine CT ?_ <;> repeat' refine CT ?_))))
    exact rt1 (.inl rfl) rfl hA rfl ⟨bV, _, MapR_new (cl := (0, [])) hf hv, hH.perm (by (repeat (first | exact List.Perm.refl _ | exact List.Perm.nil | refine perm_pick 0 rfl ?_ | refine perm_pick 1 rfl ?_ | refine perm_pick 2 rfl ?_ | refine perm_pick 3 rfl ?_ | refine perm_pick 4 rfl ?_ | refine perm_pick 5 rfl ?_ | refine perm_pick 6 rfl ?_ | refine perm_pick 7 rfl ?_ | refine perm_pick 8 rfl ?_ | refine perm_pick 9 rfl ?_ | refine perm_pick 10 rfl ?_ | refine perm_pick 11 rfl ?_)))⟩
  · (apply dl_op0 hA rfl rfl rfl; apply op_insertV; rfl; rfl; rfl; exact hH; (repeat constructor); clear hH; rintro _ w hH; refine ⟨hH.tail, ?_⟩)
    (apply dl_op0 hA rfl rfl rfl; apply op_insertV; rfl; rfl; rfl; exact hH; (repeat constructor); clear hH; rintro _ w hH; refine ⟨hH.tail, ?_⟩)
    (repeat ((first | (apply dl_exp hA rfl rfl rfl (by decide) rfl; exact ex_move rfl) | (apply dl_ex hA rfl rfl rfl (by decide) rfl; first | (apply ex_load; rfl; exact cl_frzB MEMT hp rfl) | (apply ex_indexAddr; rfl; rfl; omega; omega; first | exact hspF | exact hspB) | (apply ex_load; rfl; refine cl_rd hR.1.1 id (fs_at ?_); omega) | (apply ex_iface; rfl) | (apply ex_build_p (cs := #[.pointer (some (bat p 0)), .map (some bV), .pointer (blkA g 0 0), .int .i64 0, .pointer none]); rfl; (repeat (first | (intro _ h; exact absurd h (List.not_mem_nil)) | (refine List.forall_mem_cons.2 ⟨one_cell_of _ _, ?_⟩))); rfl) | exact EXT)); clear hA a; intro a hA))
    (apply dl_nil; (apply dr_op03 hA rfl rfl rfl; apply op_store_cb (vs := [.pointer (some (bat p 0)), .map (some bV), .pointer (blkA g 0 0), .int .i64 0, .pointer none]) (cs' := encW g kd s none 0 0 ++ encR g fuel none 0 0 p bV (blkA g 0 0) 0 none none); rfl; rfl; exact hH; (repeat constructor); clear hH; rintro _ w hH); (repeat' (first | (refine QT ?_; clear hA a; intro a hA) | (refine CT ?_ <;> repeat' refine CT ?_))))
    exact rt1 (.inl rfl) rfl hA rfl ⟨bV, _, MapR_new2 (cl := (0, [])) hf hv, hH.perm (by (repeat (first | exact List.Perm.refl _ | exact List.Perm.nil | refine perm_pick 0 rfl ?_ | refine perm_pick 1 rfl ?_ | refine perm_pick 2 rfl ?_ | refine perm_pick 3 rfl ?_ | refine perm_pick 4 rfl ?_ | refine perm_pick 5 rfl ?_ | refine perm_pick 6 rfl ?_ | refine perm_pick 7 rfl ?_ | refine perm_pick 8 rfl ?_ | refine perm_pick 9 rfl ?_ | refine perm_pick 10 rfl ?_ | refine perm_pick 11 rfl ?_)))⟩
end Go.Proofs.YtenlcdokaadobaaGreatDoor
