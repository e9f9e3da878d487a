/-
  ssa.Run. Conditions: none.
  What comes of awake's graphs (plain). Conditions: none.
  Two outcomes are alike. Conditions: none.
-/
import Derived.Test.YtenlcdokaadobaaGreatDoorRowFuelMg20
import Derived.Test.YtenlcdokaadobaaGreatDoorRowFuelMg19
import Derived.ChangeKeysEq
import Derived.Laws.StructEq
namespace Go.Proofs.YtenlcdokaadobaaGreatDoor
open Go Go.Fw
set_option linter.unusedVariables false
theorem bl_en {l : List Blc} {b : Nat} {bl : Blc} (h : l[b]? = some bl) (i : Nat) (v : Value) (hv : (encEn bl.e)[i]? = some v) : (flat encBl l)[b * 6 + 2 + i]? = some v := by
  rw [Nat.add_assoc]
  refine flat_get (off := 2 + i) encBl_len h ?_
  match i, hv with
  | 0, hv => exact hv
  | 1, hv => exact hv
  | 2, hv => exact hv
  | 3, hv => exact hv
theorem form_ns {g : Grs} {cs : List Int} {mine : Int} {r : Stp} (h : FormP g cs mine r) : r.ns.l.length ≤ r.a.l.length := by
  rcases h.ns with h1 | h1
  · rw [h1]; exact Nat.zero_le _
  · have := h.want
    unfold wantF at this
    rw [h1] at this
    simp at this
    omega
theorem step_ins {g : Grs} {kd : Int} {m : Mc} (h : m.fm.i < (curB g m.fm).is.l.length) : stepF g kd m = insF g m.fm (insAt g m.fm) m.wd m.sk := by unfold stepF; rw [if_pos h]
theorem step_last {g : Grs} {kd : Int} {m : Mc} (h : ¬ m.fm.i < (curB g m.fm).is.l.length) : stepF g kd m = lastF g kd m.fm (curB g m.fm).e m.wd m.sk := by unfold stepF; rw [if_neg h]
def cx0 (w0 : World) (n p : Nat) : Cx := ⟨fun w => RdB w p [.int .i64 0, .slice none 0 0] ∧ Kp w0 noM w, [], 65536, n⟩
theorem cx0_fn (w0 : World) (n p : Nat) (h : 0 < n) : FnR (cx0 w0 n p) 0 [] p := by
  refine ⟨none, 0, [], ⟨by decide, by show (0 : Int) < _; exact Int.natCast_pos.2 h⟩, fun w hw => hw.1, fun w hw => ⟨fun h => absurd h (Nat.lt_irrefl _), fun i v hv => by cases hv⟩, ?_⟩
  rw [RVs]
def zM : Value := Value.agg #[Value.slice none 0 0, Value.slice none 0 0, Value.int IntKind.i64 0, Value.string ByteArray.empty,
            Value.slice none 0 0, Value.slice none 0 0, Value.slice none 0 0, Value.slice none 0 0,
            Value.slice none 0 0, Value.slice none 0 0, Value.int IntKind.i64 0, Value.slice none 0 0,
            Value.pointer none, Value.map none, Value.pointer none, Value.int IntKind.i64 0, Value.pointer none,
            Value.pointer none]
theorem fill_M (g : Grs) (kd : Int) (s : ByteArray) (fuel : Int) :
    Instr.fill (fun x => ([(0, 5), (5, 5), (10, 1), (11, 1), (12, 5), (17, 1)] : List (Nat × Nat))[x]?) zM.cells [(0, .agg (encW g kd s none 0 0).toArray), (1, .agg (encGs g).toArray), (2, .int .i64 fuel)] = some (encW g kd s none 0 0 ++ enc0 g fuel).toArray := by
  simp [Instr.fill, zM, encW, encGs, enc0, Value.cells]
set_option maxRecDepth 10000 attribute [local irreducible] Code.wp wpList Calls Ex Op1 sat bat blk cb own Go.Fw.mp Go.Fw.mpO Go.Fw.mpI Go.Fw.mpE Go.Fw.itr HS Rd Ret wkD Hp Cl Cls Exit.then Exit.inBlock Exit.noGoto bodyPost Go.Fw.flat wk2 Go.Fw.all Go.Fw.owns wpOp
attribute [local irreducible] sk mpK sko mvO entK opM Go.Fw.mset Go.Fw.mv opK w63 frz obI RV idxF quoteF itoaB textF

set_option maxHeartbeats 32000000 in
theorem Run_spec (w0 : World) (g : Grs) (kd : Int) (s : ByteArray) (fuel : Int) (hR : RdGs w0 g) (hl : g.fs.l.length ≤ 100000) (hbs : ∀ f ∈ g.fs.l, f.bs.l.length ≤ 1048576 ∧ ∀ bl ∈ f.bs.l, bl.e.to.l.length ≤ 1048576) (hxs : ∀ s ∈ g.xs.l, s.size ≤ 4611686018427387904) (hfu : fuel ≤ 3000) (hFI : FI w0) :
    Ret Tryz.prog 12 #[.agg (encGs g).toArray, .int .i64 kd, .string s, .int .i64 fuel] w0 (fun v w => v = .agg (encP3 (runP g kd s fuel)).toArray ∧ Kp w0 noM w) := by
  have hH : HS w0 noM [] w0 := HS.init w0 noM
  (refine enter (N := 119) Tryz.func12 rfl Tryz.ntmps12 rfl ?_; intro a hA; dsimp only [sl0, Nat.reduceAdd] at hA)
  repeat' (first | ((first | apply st_ex hA hH rfl rfl (by decide) | apply dr_ex hA rfl rfl rfl (by decide) | apply dr_exp hA rfl rfl rfl (by decide) | apply dr_ex3 hA hH rfl rfl rfl (by decide)); (first | (apply ex_load_st (vs := encGs g); rfl; rfl; exact cls_cb_all MEMT)); clear hA a; intro a hA) | (refine QT ?_; clear hA a; intro a hA) | (refine BT ?_; clear hA hH; rintro _ w ⟨bN, rfl, hH⟩ a hA) | (refine CT ?_ <;> repeat' refine CT ?_))
  have key : ∃ b4 b8, HS w0 noM [cb b8 29 (encO3 0 empS empS), cb b4 25 (encGs g)] w ∧ Sl 119 [(10, .agg (encGs g).toArray), (8, .pointer (some (bat b8 0))), (4, .pointer (some (bat b4 0))), (1, .int .i64 kd), (2, .string s), (3, .int .i64 fuel)] a := ⟨_, _, hH, (hA.sub (by (repeat (first | exact trivial | refine ⟨rfl, ?_⟩)); first | done | fail "sub"))⟩
  clear hA hH
  obtain ⟨b4, b8, hH, hA⟩ := key
  (refine st_op hA rfl rfl (by decide) (op_call rfl rfl rfl (May_spec _ g (hR.keep hH.kp) hl hbs)) ?_; clear hA; rintro _ w ⟨may, rfl, hk, hmay⟩ a hA; replace hH := hH.keep hk; clear hk)
  cases may with
  | false =>
    have hno : ¬ MayP g := fun h => by cases hmay.2 h
    repeat' (first | ((first | apply st_ex hA hH rfl rfl (by decide) | apply dr_ex hA rfl rfl rfl (by decide) | apply dr_exp hA rfl rfl rfl (by decide) | apply dr_ex3 hA hH rfl rfl rfl (by decide)); (first | (apply ex_build_p (cs := (encO3 4 empS empS).toArray); rfl; (repeat (first | (intro _ h; exact absurd h (List.not_mem_nil)) | (refine List.forall_mem_cons.2 ⟨one_cell_of _ _, ?_⟩))); rfl)); clear hA a; intro a hA) | (refine QT ?_; clear hA a; intro a hA) | (apply st_op0 hA rfl rfl; apply op_store_agg (vs := encO3 4 empS empS); rfl; rfl; exact hH; (repeat constructor); (repeat rfl); clear hH; rintro _ w hH) | (refine CT ?_ <;> repeat' refine CT ?_))
    exact rt1c (vs := encO3 4 empS empS) (.inl rfl) rfl hA rfl rfl hH (cls_cb_all (by exact MEMT)) ⟨by rw [runP_f hno]; rfl, hH.kp⟩
  | true =>
  have hM := hmay.1 rfl
  repeat' (first | ((first | apply st_ex hA hH rfl rfl (by decide) | apply dr_ex hA rfl rfl rfl (by decide) | apply dr_exp hA rfl rfl rfl (by decide) | apply dr_ex3 hA hH rfl rfl rfl (by decide)); (first | (apply ex_load_st (vs := encGs g); rfl; rfl; exact cls_cb_all MEMT) | (apply ex_build_p (cs := (encW g kd s none 0 0).toArray); rfl; (repeat (first | (intro _ h; exact absurd h (List.not_mem_nil)) | (refine List.forall_mem_cons.2 ⟨one_cell_of _ _, ?_⟩))); rfl)); clear hA a; intro a hA) | (refine QT ?_; clear hA a; intro a hA) | (refine CT ?_ <;> repeat' refine CT ?_))
  refine st_ex hA hH rfl rfl (by decide) (ex_build (szs := [(0, 5), (5, 5), (10, 1), (11, 1), (12, 5), (17, 1)]) (cs := (encW g kd s none 0 0 ++ enc0 g fuel).toArray) (run_szl (by (repeat (first | exact SzL.nil | refine SzL.cons ⟨_, rfl, by decide⟩ ?_)))) rfl ?_) ?_
  · exact fill_M g kd s fuel
  clear hA a
  intro a hA
  repeat' (first | (refine QT ?_; clear hA a; intro a hA) | (refine BT ?_; clear hA hH; rintro _ w ⟨bN, rfl, hH⟩ a hA) | (refine CT ?_ <;> repeat' refine CT ?_))
  obtain ⟨bM, hb3⟩ : ∃ x, x = bN := ⟨_, rfl⟩; rw [← hb3] at hA hH; clear hb3 bN
  repeat' (first | ((first | apply st_ex hA hH rfl rfl (by decide) | apply dr_ex hA rfl rfl rfl (by decide) | apply dr_exp hA rfl rfl rfl (by decide) | apply dr_ex3 hA hH rfl rfl rfl (by decide)); (first | (apply ex_build_p (cs := #[.int .i64 0, .slice none 0 0]); rfl; (repeat (first | (intro _ h; exact absurd h (List.not_mem_nil)) | (refine List.forall_mem_cons.2 ⟨one_cell_of _ _, ?_⟩))); rfl) | (apply ex_iface; rfl)); clear hA a; intro a hA) | (refine QT ?_; clear hA a; intro a hA) | (refine BT ?_; clear hA hH; rintro _ w ⟨bN, rfl, hH⟩ a hA))
  obtain ⟨p, hb3⟩ : ∃ x, x = bN := ⟨_, rfl⟩; rw [← hb3] at hA hH; clear hb3 bN
  obtain ⟨c, hc⟩ : ∃ c, c = cx0 w0 g.fs.l.length p := ⟨_, rfl⟩
  have hfl : 0 < g.fs.l.length := by have := hM.anf.pos; rw [List.length_map] at this; exact this
  have hne := may_ne hM
  have hfn : FnR c 0 [] p := by rw [hc]; exact cx0_fn w0 _ p hfl
  have hnf : c.nf = g.fs.l.length := by rw [hc]; rfl
  have hH1 := ((hH.frz_nil (K := fun w => Kp w0 noM w) (fun w h => h)).perm (H' := cb p 90 [.int .i64 0, .slice none 0 0] :: frz w0 (fun w => Kp w0 noM w) :: cb bM 86 (encW g kd s none 0 0 ++ enc0 g fuel) :: cb b8 29 (encO3 0 empS empS) :: cb b4 25 (encGs g) :: []) (by (repeat (first | exact List.Perm.refl _ | exact List.Perm.nil | refine perm_pick 0 rfl ?_ | refine perm_pick 1 rfl ?_ | refine perm_pick 2 rfl ?_ | refine perm_pick 3 rfl ?_ | refine perm_pick 4 rfl ?_ | refine perm_pick 5 rfl ?_ | refine perm_pick 6 rfl ?_ | refine perm_pick 7 rfl ?_ | refine perm_pick 8 rfl ?_ | refine perm_pick 9 rfl ?_ | refine perm_pick 10 rfl ?_ | refine perm_pick 11 rfl ?_)))).frz_cb
  have hKe : c.K = fun w => RdB w p [.int .i64 0, .slice none 0 0] ∧ Kp w0 noM w := by rw [hc]; rfl
  rw [← hKe] at hH1
  clear hH
  have hH := hH1
  clear hH1
  (refine st_op hA rfl rfl (by decide) (op_call rfl rfl rfl (enter0_spec w0 w [cb b4 25 (encGs g), cb b8 29 (encO3 0 empS empS)] c bM p g kd s fuel (hH.perm (by (repeat (first | exact List.Perm.refl _ | exact List.Perm.nil | refine perm_pick 0 rfl ?_ | refine perm_pick 1 rfl ?_ | refine perm_pick 2 rfl ?_ | refine perm_pick 3 rfl ?_ | refine perm_pick 4 rfl ?_ | refine perm_pick 5 rfl ?_ | refine perm_pick 6 rfl ?_ | refine perm_pick 7 rfl ?_ | refine perm_pick 8 rfl ?_ | refine perm_pick 9 rfl ?_ | refine perm_pick 10 rfl ?_ | refine perm_pick 11 rfl ?_)))) hfn hR hnf hne)) ?_; clear hA hH; rintro _ w ⟨bv, mm, hmm, hH⟩ a hA)
  have hst : StR c [] (firstM s).wd.st := ⟨by rw [hc]; rfl, rfl, fun i e l h => by cases h⟩
  have hMS : MSt w0 c bM g kd fuel (cb b8 29 (encO3 0 empS empS) :: cb b4 25 (encGs g) :: []) (firstM s) w := by
    refine ⟨none, 0, none, 0, p, bv, mm, [], [], none, ?_, hfn, hmm, rfl, hst⟩
    exact ((((hH.nil_flat encY 5 1).nil_all).nil_flat encFm 83 5).nil_all).perm (by (repeat (first | exact List.Perm.refl _ | exact List.Perm.nil | refine perm_pick 0 rfl ?_ | refine perm_pick 1 rfl ?_ | refine perm_pick 2 rfl ?_ | refine perm_pick 3 rfl ?_ | refine perm_pick 4 rfl ?_ | refine perm_pick 5 rfl ?_ | refine perm_pick 6 rfl ?_ | refine perm_pick 7 rfl ?_ | refine perm_pick 8 rfl ?_ | refine perm_pick 9 rfl ?_ | refine perm_pick 10 rfl ?_ | refine perm_pick 11 rfl ?_)))
  have hok0 : RunOk w0 g kd fuel.toNat s c (firstM s) fuel := ⟨rfl, first_ok hne hfl, hnf, (fun w hw => by rw [hKe] at hw; exact hw.2), hfu, (by rw [hc]; exact Nat.le_refl _), (by rw [hc]; show 65536 + _ ≤ _; omega), (by show 0 + _ ≤ _; omega), (by show 0 + _ ≤ _; omega)⟩
  clear hst hmm hH hfn hc hKe hnf
  have hA2 : Sl 119 [(9, .pointer (some (bat bM 0))), (8, .pointer (some (bat b8 0)))] a := (hA.sub (by (repeat (first | exact trivial | refine ⟨rfl, ?_⟩)); first | done | fail "sub"))
  clear hA
  have hss := hR.2.2.2.2.2.le
  have hsz := hM.anf.ss
  obtain ⟨HX, hHX⟩ : ∃ HX : List It, HX = cb b8 29 (encO3 0 empS empS) :: cb b4 25 (encGs g) :: [] := ⟨_, rfl⟩
  rw [← hHX] at hMS
  replace hA := hA2
  clear hA2
  repeat' (first | (refine QT ?_; clear hA a; intro a hA) | (refine CT ?_ <;> repeat' refine CT ?_))
  refine wp_lpk (S := Nat) (fun i a w => (RunG w0 g kd fuel.toNat s bM HX i w ∨ (i = 0 ∧ RunE w0 g kd fuel.toNat s bM HX w)) ∧ Sl 119 [(9, .pointer (some (bat bM 0))), (8, .pointer (some (bat b8 0)))] a) (fun i => i)
    (fun a w => RunE w0 g kd fuel.toNat s bM HX w ∧ Sl 119 [(9, .pointer (some (bat bM 0))), (8, .pointer (some (bat b8 0)))] a) (fuel.toNat + 1) ⟨.inl ⟨c, firstM s, fuel, ⟨rfl, hok0⟩, hMS⟩, (hA.sub (by (repeat (first | exact trivial | refine ⟨rfl, ?_⟩)); first | done | fail "sub"))⟩ ?_ ?_
  · clear hA hMS hok0
    rintro i a w ⟨hS, hA⟩
    rcases hS with ⟨c, m, fu, ⟨hi, hok⟩, oO, cO, oS, cS, pc, bv, mm, fms, sx, ph, hH, hpc, hmm, hfs, hst⟩ | ⟨hi, hE⟩
    rotate_left
    · obtain ⟨k, r, wd, fu, hr, oO, cO, oS, nS, cS, pc, bv, pb, pi, ph, b, hH⟩ := hE
      repeat' (first | (refine QT ?_; clear hA a; intro a hA) | (refine CT ?_ <;> repeat' refine CT ?_))
      exact ⟨⟨k, r, wd, fu, hr, oO, cO, oS, nS, cS, pc, bv, pb, pi, ph, b, hH⟩, (hA.sub (by (repeat (first | exact trivial | refine ⟨rfl, ?_⟩)); first | done | fail "sub"))⟩
    by_cases h0 : fu ≤ 0
    · repeat' (first | (refine QT ?_; clear hA a; intro a hA) | ((first | refine CT ?_ | (refine DT ?_ ?_ <;> intro hc <;> try (exfalso; omega))) <;> repeat' refine CT ?_))
      (refine st_op hA rfl rfl (by decide) (op_call rfl rfl rfl (stopS hH hpc hmm hfs hst 2 empS)) ?_; clear hA hH; rintro _ w hS a hA)
      repeat' (first | (refine QT ?_; clear hA a; intro a hA) | (refine CT ?_ <;> repeat' refine CT ?_))
      refine ⟨0, ⟨.inr ⟨rfl, 2, empS, m.wd, fu, ?_, hS⟩, (hA.sub (by (repeat (first | exact trivial | refine ⟨rfl, ?_⟩)); first | done | fail "sub"))⟩, by omega⟩
      rw [hok.run, show fu.toNat = 0 by omega]; rfl
    have hle := hR.1.le
    have hcu := cur_ok hM hok.mc.fm
    have hgR := hR.2.1 _ hcu.gr
    have hbl := hcu.bl
    have hbm := List.mem_of_getElem? hbl
    have hbR := hgR.2 _ hbm
    have hvI := bl_is hbl
    have hsizes := blk_sizes (hcu.size hM.size)
    have hspI : Sp (curB g m.fm).is.o (curB g m.fm).is.l.length := hbR.2.1.1.sp (sz := 5) (flat_length encIn_len _) (by omega)
    have htop := hok.top
    have hb1 := hok.b1
    have hb0 := hok.b0
    have hsk := hok.sk
    have hout := hok.out
    have hwr : IntKind.i64.wrap (fu - 1) = fu - 1 := wrap_i64 (by unfold i64ok; omega)
    have hnext := fun w h => run_next (bM := bM) (H := HX) (w := w) hss hM hok (by omega) h
    have hblk : blkA g m.fm.c.1 m.fm.b = some (sat (g.fs.l.getD m.fm.c.1.toNat gr0).bs.o (m.fm.b * 6)) := rfl
    rw [hblk] at hH
    by_cases hlt : m.fm.i < (curB g m.fm).is.l.length
    · have hx : (curB g m.fm).is.l[m.fm.i]? = some (insAt g m.fm) := by unfold insAt; rw [List.getD_eq_getElem?_getD, List.getElem?_eq_getElem hlt]; rfl
      have hxm := List.mem_of_getElem? hx
      obtain ⟨hF, hat⟩ := hcu.blk.ins _ _ hx
      repeat' (first | (refine QT ?_; clear hA a; intro a hA) | ((first | refine CT ?_ | (refine DT ?_ ?_ <;> intro hc <;> try (exfalso; omega))) <;> repeat' refine CT ?_))
      (refine wp_draw_HS [(0, 1), (1, 1), (2, 1), (3, 1), (4, 1), (5, 1), (6, 1), (7, 1), (8, 1), (9, 1), (10, 1), (11, 1), (12, 1), (13, 1), (14, 1), (15, 1)] mixed (by decide +kernel) hH ?_; replace hH := hH.drew)
      repeat' (first | ((first | apply st_ex hA hH rfl rfl (by decide) | apply dr_ex hA rfl rfl rfl (by decide) | apply dr_exp hA rfl rfl rfl (by decide) | apply dr_ex3 hA hH rfl rfl rfl (by decide)); (first | (apply ex_load; rfl; exact cl_rd hgR.1.1 id hvI)); clear hA a; intro a hA) | (refine QT ?_; clear hA a; intro a hA) | (apply st_op0 hA rfl rfl; apply op_store_fld (cs' := encW g kd m.wd.inp oO m.wd.out.length cO ++ encR g (fu - 1) oS fms.length cS pc bv (some (sat (g.fs.l.getD m.fm.c.1.toNat gr0).bs.o (m.fm.b * 6))) m.fm.i ph none); rfl; rfl; rfl; exact hH; (repeat constructor); clear hH; rintro _ w hH) | ((first | refine CT ?_ | (refine DT ?_ ?_ <;> intro hc <;> try (exfalso; omega))) <;> repeat' refine CT ?_))
      rw [← hblk] at hH
      (refine wp_draw3_HS 10 [(0, 1), (1, 1), (2, 1), (3, 1), (4, 1), (5, 1), (6, 1), (7, 1), (8, 1), (9, 1), (10, 1), (11, 1), (12, 1), (13, 1), (14, 1), (15, 1)] [16] mixed (by decide +kernel) hH ?_; replace hH := hH.drew)
      rw [hblk] at hH
      repeat' (first | ((first | apply st_ex hA hH rfl rfl (by decide) | apply dr_ex hA rfl rfl rfl (by decide) | apply dr_exp hA rfl rfl rfl (by decide) | apply dr_ex3 hA hH rfl rfl rfl (by decide)); (first | (apply ex_load; rfl; exact cl_rd hgR.1.1 id hvI) | (apply ex_indexAddr_nat; rfl; rfl; omega; exact hspI) | (apply ex_load_st (vs := encIn (insAt g m.fm)); rfl; rfl; exact cls_rd hbR.2.1.1 id (flat_all encIn_len hx))); clear hA a; intro a hA) | (refine QT ?_; clear hA a; intro a hA) | (refine CT ?_ <;> repeat' refine CT ?_))
      rw [← hblk] at hH
      (refine dr_op3 hA rfl rfl rfl (by decide) (op_call rfl rfl rfl (ins_spec hH hpc hmm hfs hst (insAt g m.fm) hR hok.nf hne hsz hxs (by omega) hok.K (g.fs.l.getD m.fm.c.1.toNat gr0).caps hF (fun a ha => atS_W hss (hat a ha)) (hbR.2.2.1 _ hxm) (by have := hsizes.2.2.1 _ hxm; omega) (by have := form_ns hF; have := hsizes.2.2.1 _ hxm; omega) (by omega) (by omega) (by omega))) ?_; clear hA hH; rintro _ w hS a hA)
      rw [← step_ins hlt] at hS
      repeat' (first | (refine QT ?_; clear hA a; intro a hA) | (refine CT ?_ <;> repeat' refine CT ?_))
      rcases hnext _ hS with h | h
      · exact ⟨fu.toNat, ⟨.inl h, (hA.sub (by (repeat (first | exact trivial | refine ⟨rfl, ?_⟩)); first | done | fail "sub"))⟩, by omega⟩
      · exact ⟨0, ⟨.inr ⟨rfl, h⟩, (hA.sub (by (repeat (first | exact trivial | refine ⟨rfl, ?_⟩)); first | done | fail "sub"))⟩, by omega⟩
    · repeat' (first | (refine QT ?_; clear hA a; intro a hA) | ((first | refine CT ?_ | (refine DT ?_ ?_ <;> intro hc <;> try (exfalso; omega))) <;> repeat' refine CT ?_))
      (refine wp_draw_HS [(0, 1), (1, 1), (2, 1), (3, 1), (4, 1), (5, 1), (6, 1), (7, 1), (8, 1), (9, 1), (10, 1), (11, 1), (12, 1), (13, 1), (14, 1), (15, 1)] mixed (by decide +kernel) hH ?_; replace hH := hH.drew)
      repeat' (first | ((first | apply st_ex hA hH rfl rfl (by decide) | apply dr_ex hA rfl rfl rfl (by decide) | apply dr_exp hA rfl rfl rfl (by decide) | apply dr_ex3 hA hH rfl rfl rfl (by decide)); (first | (apply ex_load; rfl; exact cl_rd hgR.1.1 id hvI) | (apply ex_load_st (vs := encEn (curB g m.fm).e); rfl; rfl; exact cls_rd hgR.1.1 id (bl_en hbl))); clear hA a; intro a hA) | (refine QT ?_; clear hA a; intro a hA) | (apply st_op0 hA rfl rfl; apply op_store_fld (cs' := encW g kd m.wd.inp oO m.wd.out.length cO ++ encR g (fu - 1) oS fms.length cS pc bv (some (sat (g.fs.l.getD m.fm.c.1.toNat gr0).bs.o (m.fm.b * 6))) m.fm.i ph none); rfl; rfl; rfl; exact hH; (repeat constructor); clear hH; rintro _ w hH) | ((first | refine CT ?_ | (refine DT ?_ ?_ <;> intro hc <;> try (exfalso; omega))) <;> repeat' refine CT ?_))
      rw [← hblk] at hH
      have hto : ∀ t ∈ (curB g m.fm).e.to.l, EdgOk g w0 m.fm t := fun t ht => by
        obtain ⟨e1, e2, e3, e4⟩ := hcu.edge hss ht
        have e5 := hsizes.2.2.2.2.2 t ht
        exact ⟨e1, e2, e3, e4, by omega⟩
      (refine st_op hA rfl rfl (by decide) (op_call rfl rfl rfl (last_spec hH hpc hmm hfs hst (curB g m.fm).e hR hok.nf hne hsz hxs (by omega) hcu.blk.end_ hbR.2.2.2 (fun a ha => atS_W hss (hcu.blk.ends a ha)) hto hFI (by have := hsizes.2.2.2.2.1; omega) hok.mc.sk)) ?_; clear hA hH; rintro _ w hS a hA)
      rw [← step_last hlt] at hS
      repeat' (first | (refine QT ?_; clear hA a; intro a hA) | (refine CT ?_ <;> repeat' refine CT ?_))
      rcases hnext _ hS with h | h
      · exact ⟨fu.toNat, ⟨.inl h, (hA.sub (by (repeat (first | exact trivial | refine ⟨rfl, ?_⟩)); first | done | fail "sub"))⟩, by omega⟩
      · exact ⟨0, ⟨.inr ⟨rfl, h⟩, (hA.sub (by (repeat (first | exact trivial | refine ⟨rfl, ?_⟩)); first | done | fail "sub"))⟩, by omega⟩
  clear hA hMS hok0
  rintro a w ⟨⟨k, r, wd, fu, hr, oO, cO, oS, nS, cS, pc, bv, pb, pi, ph, b, hH⟩, hA⟩
  subst hHX
  repeat' (first | (refine QT ?_; clear hA a; intro a hA) | (refine CT ?_ <;> repeat' refine CT ?_))
  (refine wp_draw2_HS [(0, 1), (1, 1), (2, 1), (3, 1), (4, 1), (5, 1), (6, 1), (7, 1), (8, 1), (9, 1), (10, 1), (11, 1)] [12] mixed (by decide +kernel) hH ?_; replace hH := hH.drew)
  repeat' (first | ((first | apply st_ex hA hH rfl rfl (by decide) | apply dr_ex hA rfl rfl rfl (by decide) | apply dr_exp hA rfl rfl rfl (by decide) | apply dr_ex3 hA hH rfl rfl rfl (by decide)); (first | (apply ex_ofBytes (l' := wd.out); rfl; rfl; exact fun w h => h.own_rd (by exact MEMT))); clear hA a; intro a hA) | (refine QT ?_; clear hA a; intro a hA) | (apply dr_op03 hA rfl rfl rfl; apply op_store_fld (cs' := encO3 k (ofB wd.out) r); rfl; rfl; rfl; exact hH; (repeat constructor); clear hH; rintro _ w hH) | (refine CT ?_ <;> repeat' refine CT ?_))
  repeat' (first | ((first | apply st_ex hA hH rfl rfl (by decide) | apply dr_ex hA rfl rfl rfl (by decide) | apply dr_exp hA rfl rfl rfl (by decide) | apply dr_ex3 hA hH rfl rfl rfl (by decide)); (first | (apply ex_load_st (vs := encO3 k (ofB wd.out) r); rfl; rfl; exact cls_cb_all MEMT)); clear hA a; intro a hA) | (refine QT ?_; clear hA a; intro a hA) | (apply st_op0 hA rfl rfl; apply op_store_agg (vs := encO3 k (ofB wd.out) r); rfl; rfl; exact hH; (repeat constructor); (repeat rfl); clear hH; rintro _ w hH) | (refine CT ?_ <;> repeat' refine CT ?_))
  all_goals trace_state
  refine rt1c (vs := encO3 k (ofB wd.out) r) (.inl rfl) rfl hA rfl rfl hH (cls_cb_all (by exact MEMT)) ⟨?_, hH.kp⟩
  rw [runP_t hM, hr]
  rfl
end Go.Proofs.YtenlcdokaadobaaGreatDoor
namespace Go.Proofs.YtenlcdokaadobaaGreatDoor
open Go Go.Fw
set_option linter.unusedVariables false
def gA (oG oB oX p0 p1 p2 p3 p4 p5 p6 p7 : Option Addr) : Grs := ⟨⟨oG, 1, [⟨0, ⟨oB, 4, [blA p0 p1 1 2, blJ p2 p3 1 1 7, blJ p4 p5 1 1 8, blR p6 p7 1 1]⟩⟩]⟩, nilV, nilV, ⟨oX, 4, xs4⟩, nilV⟩
theorem itoa_8 : itoaB 8 = ⟨#[56]⟩ := by decide +kernel
theorem itoa_5 : itoaB 5 = ⟨#[53]⟩ := by decide +kernel
theorem gA_may (oG oB oX p0 p1 p2 p3 p4 p5 p6 p7 : Option Addr) : MayP (gA oG oB oX p0 p1 p2 p3 p4 p5 p6 p7) := mayA (a0 := p0) (a1 := p1) (b0 := p2) (b1 := p3) (d0 := p4) (d1 := p5) (e0 := p6) (e1 := p7) (oB := oB) (cB := 4) rfl rfl rfl rfl rfl
theorem gA_run (oG oB oX p0 p1 p2 p3 p4 p5 p6 p7 : Option Addr) : runF (gA oG oB oX p0 p1 p2 p3 p4 p5 p6 p7) 2 9 (firstM empS) = (1, itoaB 8, ⟨empS, [], []⟩) := rfl
theorem gA_runP (oG oB oX p0 p1 p2 p3 p4 p5 p6 p7 : Option Addr) : runP (gA oG oB oX p0 p1 p2 p3 p4 p5 p6 p7) 2 empS 9 = (1, empS, ⟨#[56]⟩) := by
  rw [runP_t (gA_may ..)]
  show ((runF _ 2 9 _).1, ofB (runF _ 2 9 _).2.2.out, (runF _ 2 9 _).2.1) = _
  rw [gA_run, itoa_8]
  rfl
theorem h5_runP {h : Grs} {oG oB o1 : Option Addr} {cG cB : Nat} (hf : h.fs = ⟨oG, cG, [⟨0, ⟨oB, cB, [bl5 o1 1 5]⟩⟩]⟩) (hm : MayP h) : (runP h 2 empS 9).2.2 = ⟨#[53]⟩ := by
  obtain ⟨fs, ls, ts, xs, ss⟩ := h
  dsimp only at hf
  subst hf
  rw [runP_t hm]
  have e : runF ⟨⟨oG, cG, [⟨0, ⟨oB, cB, [bl5 o1 1 5]⟩⟩]⟩, ls, ts, xs, ss⟩ 2 9 (firstM empS) = (1, itoaB 5, ⟨empS, [], []⟩) := rfl
  show (runF _ 2 9 _).2.1 = _
  rw [e, itoa_5]
end Go.Proofs.YtenlcdokaadobaaGreatDoor
namespace Go.Fw
open Go Go.RowKit
set_option linter.unusedVariables false
theorem run_eqF3 {P : Program} {w : World} {d : Nat} {fs : List Field} {t1 t2 t3 : TypeId} {k1 k2 : Int} {a1 b1 a2 b2 : ByteArray} (h : fs.map (fun f => (f.name != "_", f.type, f.offset)) = [(true, t1, 0), (true, t2, 1), (true, t3, 2)])
    (h1 : P.underlying t1 = some (.int .i64)) (h2 : P.underlying t2 = some .string) (h3 : P.underlying t3 = some .string) (p1 : P.plainKey t1 = true) (p2 : P.plainKey t2 = true) (p3 : P.plainKey t3 = true) :
    (Op.eqFields (d + 1) #[.int .i64 k1, .string a1, .string b1] #[.int .i64 k2, .string a2, .string b2] fs).run P w = .ok (k1 == k2 && (a1.toList == a2.toList && b1.toList == b2.toList)) w := by
  rcases fs with _ | ⟨f1, _ | ⟨f2, _ | ⟨f3, _ | ⟨f4, fs⟩⟩⟩⟩
  · cases h
  · exact absurd (congrArg List.length h) (by simp)
  · exact absurd (congrArg List.length h) (by simp)
  rotate_left
  · exact absurd (congrArg List.length h) (by simp)
  · simp only [List.map_cons, List.map_nil, List.cons.injEq, Prod.mk.injEq, and_true, bne_iff_ne, ne_eq] at h
    obtain ⟨⟨n1, rfl, o1⟩, ⟨n2, rfl, o2⟩, ⟨n3, rfl, o3⟩⟩ := h
    simp only [Op.eqFields, n1, n2, n3, ne_eq, not_false_eq_true, if_true, o1, o2, o3, Sem.run_bind]
    rw [run_part_plain w p1 (v := .int .i64 k1) rfl]
    simp only [Result.andThen_ok]
    rw [run_part_plain w p1 (v := .int .i64 k2) rfl]
    simp only [Result.andThen_ok, run_equalIn_int w d _ _ .i64 k1 k2 h1]
    cases hk : k1 == k2
    · simp
    simp only [Bool.not_true, Bool.false_eq_true, if_false, Bool.true_and, Sem.run_bind]
    rw [run_part_plain w p2 (v := .string a1) rfl]
    simp only [Result.andThen_ok]
    rw [run_part_plain w p2 (v := .string a2) rfl]
    simp only [Result.andThen_ok, run_equalIn_string w d _ a1 a2 h2]
    cases ha : a1.toList == a2.toList
    · simp
    simp only [Bool.not_true, Bool.false_eq_true, if_false, Bool.true_and, Sem.run_bind]
    rw [run_part_plain w p3 (v := .string b1) rfl]
    simp only [Result.andThen_ok]
    rw [run_part_plain w p3 (v := .string b2) rfl]
    simp only [Result.andThen_ok, run_equalIn_string w d _ b1 b2 h3]
    cases hb : b1.toList == b2.toList <;> simp
theorem ex_field {P : Program} {N : Nat} {l : List (Nat × Value)} {C : World → Prop} {d : Option Tmp} {T : TypeId} {pos : String} {af : Array Edge} {g : Option (Nat × Bool)} {s : TypeId} {x : Operand} {i ft off : Nat} {fl : List (Nat × Nat)} {cs : Array Value} {v : Value} [h : TSt P s fl] (hx : ev l x = some (.agg cs)) (hf0 : nth fl i = some (ft, off)) (hp : P.plainKey ft = true) (hv : cs[off]? = some v) :
    Ex P N l C ⟨d, .field s x i, T, pos, af, g⟩ v := by
  intro a w hA _
  have hf := hf0
  rw [nth_eq] at hf
  obtain ⟨fs, h1, h2⟩ := h.eq
  have hl : fs.toList[i]?.map (fun f => (f.type, f.offset)) = some (ft, off) := by rw [← List.getElem?_map, h2, hf]
  obtain ⟨f, hfi, hfe⟩ := Option.map_eq_some_iff.1 hl
  have hfi' : fs[i]? = some f := by simpa using hfi
  simp only [Prod.mk.injEq] at hfe
  obtain ⟨rfl, rfl⟩ := hfe
  simp [execOp, hA.ev hx, Instr.field, run_underlying h1, hfi', asAgg, run_part_plain w hp hv]
theorem ex_eqlSs {P : Program} {N : Nat} {l : List (Nat × Value)} {C : World → Prop} {d : Option Tmp} {T : TypeId} {pos : String} {af : Array Edge} {gd : Option (Nat × Bool)} {t ty : TypeId} {x y : Operand} {m : ByteArray} [h : TSr P t] (hx : ev l x = some (.string m)) (hy : ev l y = some (.string m)) : Ex P N l C ⟨d, .binOp .eql t x y ty, T, pos, af, gd⟩ (.bool true) := by
  have := ex_eqlS (N := N) (C := C) (d := d) (T := T) (pos := pos) (af := af) (g := gd) (ty := ty) (h := h) hx hy
  rwa [beq_self_eq_true] at this
end Go.Fw
namespace Go.Proofs.YtenlcdokaadobaaGreatDoor
open Go Go.Fw
set_option linter.unusedVariables false
theorem fo_29 : (Tryz.prog.fieldsOf 29).toList.map (fun f => (f.name != "_", f.type, f.offset)) = [(true, 3, 0), (true, 9, 1), (true, 9, 2)] := by decide +kernel
theorem ge_29 : Tryz.prog.eqGuardType Tryz.prog.depth 29 = false := by decide +kernel
theorem st_29 : Tryz.prog.stoodInHeld 29 = false := by decide +kernel
theorem isSt_29 : (match Tryz.prog.underlying 29 with | some (.struct _) => true | _ => false) = true := by decide +kernel
theorem un_29 : Tryz.prog.underlying 29 = some (.struct (Tryz.prog.fieldsOf 29)) := by
  have h := isSt_29
  unfold Program.fieldsOf
  cases hu : Tryz.prog.underlying 29 with
  | none => rw [hu] at h; cases h
  | some d => cases d <;> rw [hu] at h <;> first | rfl | cases h
theorem pk_3 : Tryz.prog.plainKey 3 = true := by decide +kernel
theorem pk_9 : Tryz.prog.plainKey 9 = true := by decide +kernel
def eqO (a b : Int × ByteArray × ByteArray) : Bool := a.1 == b.1 && (a.2.1.toList == b.2.1.toList && a.2.2.toList == b.2.2.toList)
theorem ex_eqlO {N : Nat} {l : List (Nat × Value)} {C : World → Prop} {d : Option Tmp} {T : TypeId} {pos : String} {af : Array Edge} {gd : Option (Nat × Bool)} {ty : TypeId} {x y : Operand} {p q : Int × ByteArray × ByteArray} (hx : ev l x = some (.agg (encP3 p).toArray)) (hy : ev l y = some (.agg (encP3 q).toArray)) :
    Ex Tryz.prog N l C ⟨d, .binOp .eql 29 x y ty, T, pos, af, gd⟩ (.bool (eqO p q)) := by
  intro a w hA _
  simp only [execOp, hA.ev hx, hA.ev hy, Sem.run_bind, run_eqGuard_agg w .eql _ _ _ _ _ ge_29, Result.andThen_ok, run_eql_struct]
  rw [show (10000 : Nat) = 9999 + 1 from rfl, run_equalIn_agg w 9999 _ _ _ un_29 st_29]
  have h := run_eqF3 (P := Tryz.prog) (w := w) (d := 9998) (k1 := p.1) (k2 := q.1) (a1 := p.2.1) (b1 := p.2.2) (a2 := q.2.1) (b2 := q.2.2) fo_29 (TIn.eq (t := 3)) (TSr.eq (t := 9)) (TSr.eq (t := 9)) pk_3 pk_9 pk_9
  have e1 : (encP3 p).toArray = #[.int .i64 p.1, .string p.2.1, .string p.2.2] := rfl
  have e2 : (encP3 q).toArray = #[.int .i64 q.1, .string q.2.1, .string q.2.2] := rfl
  rw [e1, e2, h]
  rfl
theorem eqO_refl (p : Int × ByteArray × ByteArray) : eqO p p = true := by simp [eqO]
theorem ex_eqlOs {N : Nat} {l : List (Nat × Value)} {C : World → Prop} {d : Option Tmp} {T : TypeId} {pos : String} {af : Array Edge} {gd : Option (Nat × Bool)} {ty : TypeId} {x y : Operand} {p : Int × ByteArray × ByteArray} (hx : ev l x = some (.agg (encP3 p).toArray)) (hy : ev l y = some (.agg (encP3 p).toArray)) :
    Ex Tryz.prog N l C ⟨d, .binOp .eql 29 x y ty, T, pos, af, gd⟩ (.bool true) := by
  have h := ex_eqlO (N := N) (C := C) (d := d) (T := T) (pos := pos) (af := af) (gd := gd) (ty := ty) hx hy
  rwa [eqO_refl] at h
end Go.Proofs.YtenlcdokaadobaaGreatDoor
