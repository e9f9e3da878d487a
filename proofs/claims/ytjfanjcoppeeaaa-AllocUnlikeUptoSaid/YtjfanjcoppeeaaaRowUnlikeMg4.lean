/-
  The document's variables. Conditions: none.
  The document's lives: a way is followed to a use. Conditions: none.
  The document's Lives. Conditions: none.
  The document's Into: which variables live into a block. Conditions: none.
  The document's Behind: which variables but its X live behind an Ins. Conditions: none.
  A range over a set or over nil; what a set holds, sorted. Conditions: none.
  Maps against nil; a new key by its entry; sums that wrap; arrays of two; literals of maps. Conditions: none.
  ssa.May's check: what it holds, bind, atoms; how many parts graphs have, as an int. Conditions: none.
  anf.Step: it tells something of any step. Conditions: none.
  ssa.May's check: step, end, meet. Conditions: none.
-/
import Derived.Test.YtjfanjcoppeeaaaRowUnlikeMg3
import Derived.Test.YtjfanjcoppeeaaaRowUnlikeMg2
namespace Go.Proofs.Ytjfanjcoppeeaaa
open Go Go.Fw
set_option linter.unusedVariables false
def insL (q : List Int) : List Int := q.foldl insF [0, 1]
theorem insL_snoc (q : List Int) (x : Int) : insL (q ++ [x]) = insF (insL q) x := by unfold insL; rw [List.foldl_append]; rfl
theorem insL_len (q : List Int) : (insL q).length = q.length + 2 := by
  have : ∀ (q s : List Int), (q.foldl insF s).length = q.length + s.length := by
    intro q
    induction q with
    | nil => intro s; simp
    | cons x q ih =>
      intro s
      rw [List.foldl_cons, ih, insF_len, List.length_cons]
      omega
  exact this q [0, 1]
def vpre (bs : List Blc) (i : Nat) : List Int := (bs.take i).flatMap bvars
theorem vpre_0 (bs : List Blc) : vpre bs 0 = [] := by unfold vpre; rw [List.take_zero]; rfl
theorem vpre_next {bs : List Blc} {i : Nat} {b : Blc} (h : bs[i]? = some b) : vpre bs (i + 1) = vpre bs i ++ b.ps.l ++ b.is.l.map Ins.x := by
  unfold vpre
  rw [take_snoc h, List.flatMap_append, List.append_assoc]
  simp [bvars]
theorem vpre_len (bs : List Blc) (i : Nat) : (vpre bs i).length + 2 = (varsL (bs.take i)).length := by
  unfold vpre varsL
  rw [List.length_append]
  show _ = 2 + _
  omega
theorem app_take {q l : List Int} {j : Nat} {x : Int} (hx : l[j]? = some x) : q ++ l.take (j + 1) = q ++ l.take j ++ [x] := by rw [take_snoc hx, List.append_assoc]
theorem flat01 : flat Fw.encI [0, 1] = [.int .i64 0, .int .i64 1] := rfl
set_option maxRecDepth 10000 attribute [local irreducible] Code.wp wpList Calls Ex Op1 sat bat blk cb own Go.Fw.mp Go.Fw.mpO Go.Fw.mpI Go.Fw.mpE Go.Fw.itr HS Rd Ret wkD Hp Cl Cls Exit.then Exit.inBlock Exit.noGoto bodyPost Go.Fw.flat wk2 Go.Fw.all Go.Fw.owns wpOp
attribute [local irreducible] sk mpK srt varsL regOf insF insL vpre

set_option maxHeartbeats 8000000 in
theorem vars_spec (w0 : World) (f : Gr) (hR : RdG w0 f) (hb : (varsL f.bs.l).length ≤ 1000000) :
    Ret Try.prog 15 #[.agg (encG f).toArray] w0 (fun v w => ∃ o c, v = .slice o (insL (vpre f.bs.l f.bs.l.length)).length c ∧ HS w0 noM [own 3 1 o (insL (vpre f.bs.l f.bs.l.length)).length c (flat Fw.encI (insL (vpre f.bs.l f.bs.l.length)))] w) := by
  have hH : HS w0 noM [] w0 := HS.init w0 noM
  have hle := hR.1.le
  have hsp : Sp f.bs.o f.bs.l.length := hR.1.1.sp (sz := 6) (flat_length encBl_len _) (by omega)
  (refine enter (N := 51) Try.func15 rfl Try.ntmps15 rfl ?_; intro a hA; dsimp only [sl0, Nat.reduceAdd] at hA)
  repeat' (first | (first | (refine GT ?_ ?_ <;> intro hg <;> clear hA a <;> intro a hA <;> (first | exact FA | replace hg := of_decide_eq_true hg | replace hg := of_decide_eq_false hg | skip)) | (refine QT ?_; clear hA a; intro a hA) | (first | (refine BT ?_; clear hA hH; rintro _ w ⟨bN, rfl, hH⟩ a hA) | (refine LT ?_; clear hA hH; rintro _ w ⟨oN, rfl, hH⟩ a hA) | (refine AT ?_; clear hA; rintro _ w ⟨oN, cN, rfl, hH2⟩ a hA; clear hH; have hH := (hH2 _ (by (repeat constructor))).tail; clear hH2) | (refine S0T ?_; clear hH; rintro _ w hH) )) | ((first | refine CT ?_ | (refine DT ?_ ?_ <;> intro hc <;> try (exfalso; omega))) <;> repeat' refine CT ?_) | (first | (refine DSK ?_; clear hA a; intro a hA) | (first | (refine DLT ?_; clear hA hH; rintro _ w ⟨oN, rfl, hH⟩; refine ⟨STT, ?_⟩; intro a hA) | (refine DAT ?_; clear hA; rintro _ w ⟨oN, cN, rfl, hH2⟩; clear hH; have hH := (hH2 _ (by (repeat constructor))).tail; clear hH2; refine ⟨STT, ?_⟩; intro a hA))) )
  obtain ⟨bG, hbG⟩ : ∃ x, x = bN := ⟨_, rfl⟩
  rw [← hbG] at hA hH
  clear hbG bN
  have hi0 : insL (vpre f.bs.l 0) = [0, 1] := by rw [vpre_0]; unfold insL; rfl
  refine wp_lpk (S := Nat) (fun i a w => ∃ o c, i ≤ f.bs.l.length ∧ HS w0 noM [own 3 1 o (insL (vpre f.bs.l i)).length c (flat Fw.encI (insL (vpre f.bs.l i))), cb bG 30 (encG f)] w ∧ Sl 51 [(1, .pointer (some (bat bG 0))), (4, .int .i64 i), (3, .slice o (insL (vpre f.bs.l i)).length c)] a) (fun i => f.bs.l.length - i)
    (fun a w => ∃ o c, HS w0 noM [own 3 1 o (insL (vpre f.bs.l f.bs.l.length)).length c (flat Fw.encI (insL (vpre f.bs.l f.bs.l.length)))] w ∧ Sl 51 [(3, .slice o (insL (vpre f.bs.l f.bs.l.length)).length c)] a) 0 ⟨oN, 2, Nat.zero_le _, (by rw [hi0, flat01]; exact hH), (by rw [hi0]; exact (hA.sub (by (repeat (first | exact trivial | refine ⟨rfl, ?_⟩)))))⟩ ?_ ?_
  · clear hA hH
    rintro i a w ⟨o, c, hi, hH, hA⟩
    by_cases hlt : i < f.bs.l.length
    rotate_left
    · obtain rfl : i = f.bs.l.length := by omega
      repeat' (first | (first | (refine GT ?_ ?_ <;> intro hg <;> clear hA a <;> intro a hA <;> (first | exact FA | replace hg := of_decide_eq_true hg | replace hg := of_decide_eq_false hg | skip)) | (refine QT ?_; clear hA a; intro a hA) | (first | (refine BT ?_; clear hA hH; rintro _ w ⟨bN, rfl, hH⟩ a hA) | (refine LT ?_; clear hA hH; rintro _ w ⟨oN, rfl, hH⟩ a hA) | (refine AT ?_; clear hA; rintro _ w ⟨oN, cN, rfl, hH2⟩ a hA; clear hH; have hH := (hH2 _ (by (repeat constructor))).tail; clear hH2) | (refine S0T ?_; clear hH; rintro _ w hH) )) | ((first | refine CT ?_ | (refine DT ?_ ?_ <;> intro hc <;> try (exfalso; omega))) <;> repeat' refine CT ?_) | (first | (refine DSK ?_; clear hA a; intro a hA) | (first | (refine DLT ?_; clear hA hH; rintro _ w ⟨oN, rfl, hH⟩; refine ⟨STT, ?_⟩; intro a hA) | (refine DAT ?_; clear hA; rintro _ w ⟨oN, cN, rfl, hH2⟩; clear hH; have hH := (hH2 _ (by (repeat constructor))).tail; clear hH2; refine ⟨STT, ?_⟩; intro a hA))) )
      exact ⟨o, c, hH.head, (hA.sub (by (repeat (first | exact trivial | refine ⟨rfl, ?_⟩))))⟩
    obtain ⟨bl, hbl⟩ : ∃ bl, f.bs.l[i]? = some bl := ⟨_, List.getElem?_eq_getElem hlt⟩
    have hbR := hR.2 bl (List.mem_of_getElem? hbl)
    have hvs := flat_all encBl_len hbl
    have hleP := hbR.1.le
    have hleI := hbR.2.1.le
    have hspP : Sp bl.ps.o bl.ps.l.length := hbR.1.1.sp (sz := 1) (flat_length Fw.encI_len _) (by omega)
    have hspI : Sp bl.is.o bl.is.l.length := hbR.2.1.1.sp (sz := 5) (flat_length encIn_len _) (by omega)
    have htot : (vpre f.bs.l i).length + bl.ps.l.length + bl.is.l.length + 2 ≤ 1000000 := by
      have h1 := varsL_le f.bs.l (i + 1)
      have h2 := vpre_len f.bs.l (i + 1)
      rw [vpre_next hbl, List.length_append, List.length_append, List.length_map] at h2
      omega
    repeat' (first | (first | (refine GT ?_ ?_ <;> intro hg <;> clear hA a <;> intro a hA <;> (first | exact FA | replace hg := of_decide_eq_true hg | replace hg := of_decide_eq_false hg | skip)) | ((first | apply st_ex hA hH rfl rfl (by decide) | apply dr_ex hA rfl rfl rfl (by decide) | apply dr_exp hA rfl rfl rfl (by decide) | apply dr_ex3 hA hH rfl rfl rfl (by decide)); (first | (apply ex_load_st (vs := encBl bl); rfl; rfl; exact cls_rd hR.1.1 id hvs)); clear hA a; intro a hA) | (refine QT ?_; clear hA a; intro a hA) | (first | (refine BT ?_; clear hA hH; rintro _ w ⟨bN, rfl, hH⟩ a hA) | (refine LT ?_; clear hA hH; rintro _ w ⟨oN, rfl, hH⟩ a hA) | (refine AT ?_; clear hA; rintro _ w ⟨oN, cN, rfl, hH2⟩ a hA; clear hH; have hH := (hH2 _ (by (repeat constructor))).tail; clear hH2) | (refine S0T ?_; clear hH; rintro _ w hH) | (apply st_op0 hA rfl rfl; apply op_store_agg (vs := encBl bl); rfl; rfl; exact hH; (repeat constructor); (repeat rfl); clear hH; rintro _ w hH))) | ((first | refine CT ?_ | (refine DT ?_ ?_ <;> intro hc <;> try (exfalso; omega))) <;> repeat' refine CT ?_) | (first | (refine DSK ?_; clear hA a; intro a hA) | (first | (refine DLT ?_; clear hA hH; rintro _ w ⟨oN, rfl, hH⟩; refine ⟨STT, ?_⟩; intro a hA) | (refine DAT ?_; clear hA; rintro _ w ⟨oN, cN, rfl, hH2⟩; clear hH; have hH := (hH2 _ (by (repeat constructor))).tail; clear hH2; refine ⟨STT, ?_⟩; intro a hA))) )
    obtain ⟨bB, hbB⟩ : ∃ x, x = bN := ⟨_, rfl⟩
    rw [← hbB] at hA hH
    clear hbB bN
    have hq0 : vpre f.bs.l i ++ bl.ps.l.take 0 = vpre f.bs.l i := by rw [List.take_zero, List.append_nil]
    refine wp_lpk (S := Nat) (fun j a w => ∃ o c, j ≤ bl.ps.l.length ∧ HS w0 noM [own 3 1 o (insL (vpre f.bs.l i ++ bl.ps.l.take j)).length c (flat Fw.encI (insL (vpre f.bs.l i ++ bl.ps.l.take j))), cb bB 52 (encBl bl), cb bG 30 (encG f)] w ∧ Sl 51 [(6, .int .i64 j), (5, .pointer (some (bat bB 0))), (1, .pointer (some (bat bG 0))), (4, .int .i64 i), (3, .slice o (insL (vpre f.bs.l i ++ bl.ps.l.take j)).length c)] a) (fun j => bl.ps.l.length - j)
      (fun a w => ∃ o c, HS w0 noM [own 3 1 o (insL (vpre f.bs.l i ++ bl.ps.l)).length c (flat Fw.encI (insL (vpre f.bs.l i ++ bl.ps.l))), cb bB 52 (encBl bl), cb bG 30 (encG f)] w ∧ Sl 51 [(5, .pointer (some (bat bB 0))), (1, .pointer (some (bat bG 0))), (4, .int .i64 i), (3, .slice o (insL (vpre f.bs.l i ++ bl.ps.l)).length c)] a) 0 ⟨o, c, Nat.zero_le _, (by rw [hq0]; exact hH.perm (by (repeat (first | exact List.Perm.refl _ | exact List.Perm.nil | refine perm_pick 0 rfl ?_ | refine perm_pick 1 rfl ?_ | refine perm_pick 2 rfl ?_ | refine perm_pick 3 rfl ?_ | refine perm_pick 4 rfl ?_ | refine perm_pick 5 rfl ?_ | refine perm_pick 6 rfl ?_ | refine perm_pick 7 rfl ?_ | refine perm_pick 8 rfl ?_ | refine perm_pick 9 rfl ?_ | refine perm_pick 10 rfl ?_ | refine perm_pick 11 rfl ?_)))), (by rw [hq0]; exact (hA.sub (by (repeat (first | exact trivial | refine ⟨rfl, ?_⟩)))))⟩ ?_ ?_
    · clear hA hH
      rintro j a w ⟨o, c, hj, hH, hA⟩
      by_cases hlj : j < bl.ps.l.length
      rotate_left
      · obtain rfl : j = bl.ps.l.length := by omega
        rw [List.take_length] at hA hH
        repeat' (first | (first | (refine GT ?_ ?_ <;> intro hg <;> clear hA a <;> intro a hA <;> (first | exact FA | replace hg := of_decide_eq_true hg | replace hg := of_decide_eq_false hg | skip)) | (refine QT ?_; clear hA a; intro a hA) | (first | (refine BT ?_; clear hA hH; rintro _ w ⟨bN, rfl, hH⟩ a hA) | (refine LT ?_; clear hA hH; rintro _ w ⟨oN, rfl, hH⟩ a hA) | (refine AT ?_; clear hA; rintro _ w ⟨oN, cN, rfl, hH2⟩ a hA; clear hH; have hH := (hH2 _ (by (repeat constructor))).tail; clear hH2) | (refine S0T ?_; clear hH; rintro _ w hH) )) | ((first | refine CT ?_ | (refine DT ?_ ?_ <;> intro hc <;> try (exfalso; omega))) <;> repeat' refine CT ?_) | (first | (refine DSK ?_; clear hA a; intro a hA) | (first | (refine DLT ?_; clear hA hH; rintro _ w ⟨oN, rfl, hH⟩; refine ⟨STT, ?_⟩; intro a hA) | (refine DAT ?_; clear hA; rintro _ w ⟨oN, cN, rfl, hH2⟩; clear hH; have hH := (hH2 _ (by (repeat constructor))).tail; clear hH2; refine ⟨STT, ?_⟩; intro a hA))) )
        exact ⟨o, c, hH, (hA.sub (by (repeat (first | exact trivial | refine ⟨rfl, ?_⟩))))⟩
      obtain ⟨x, hx⟩ : ∃ x, bl.ps.l[j]? = some x := ⟨_, List.getElem?_eq_getElem hlj⟩
      have hv : (flat Fw.encI bl.ps.l)[j * 1]? = some (.int .i64 x) := flat_get (off := 0) Fw.encI_len hx rfl
      have hb2 : (insL (vpre f.bs.l i ++ bl.ps.l.take j)).length ≤ 1000000 := by rw [insL_len, List.length_append, List.length_take]; omega
      repeat' (first | (first | (refine GT ?_ ?_ <;> intro hg <;> clear hA a <;> intro a hA <;> (first | exact FA | replace hg := of_decide_eq_true hg | replace hg := of_decide_eq_false hg | skip)) | ((first | apply st_ex hA hH rfl rfl (by decide) | apply dr_ex hA rfl rfl rfl (by decide) | apply dr_exp hA rfl rfl rfl (by decide) | apply dr_ex3 hA hH rfl rfl rfl (by decide)); (first | (apply ex_load; rfl; exact cl_rd hbR.1.1 id hv)); clear hA a; intro a hA) | (refine QT ?_; clear hA a; intro a hA) | (first | (refine BT ?_; clear hA hH; rintro _ w ⟨bN, rfl, hH⟩ a hA) | (refine LT ?_; clear hA hH; rintro _ w ⟨oN, rfl, hH⟩ a hA) | (refine AT ?_; clear hA; rintro _ w ⟨oN, cN, rfl, hH2⟩ a hA; clear hH; have hH := (hH2 _ (by (repeat constructor))).tail; clear hH2) | (refine S0T ?_; clear hH; rintro _ w hH) )) | ((first | refine CT ?_ | (refine DT ?_ ?_ <;> intro hc <;> try (exfalso; omega))) <;> repeat' refine CT ?_) | (first | (refine DSK ?_; clear hA a; intro a hA) | (first | (refine DLT ?_; clear hA hH; rintro _ w ⟨oN, rfl, hH⟩; refine ⟨STT, ?_⟩; intro a hA) | (refine DAT ?_; clear hA; rintro _ w ⟨oN, cN, rfl, hH2⟩; clear hH; have hH := (hH2 _ (by (repeat constructor))).tail; clear hH2; refine ⟨STT, ?_⟩; intro a hA))) )
      (refine st_op hA rfl rfl (by decide) (op_call rfl rfl rfl (insert_spec _ o c _ x (hH.own_rd (.head _)) hb2)) ?_; clear hA; rintro _ w ⟨o2, c2, rfl, hj2⟩ a hA; replace hH := hH.join hj2; clear hj2)
      rw [← insL_snoc, ← app_take hx] at hA hH
      repeat' (first | (first | (refine GT ?_ ?_ <;> intro hg <;> clear hA a <;> intro a hA <;> (first | exact FA | replace hg := of_decide_eq_true hg | replace hg := of_decide_eq_false hg | skip)) | (refine QT ?_; clear hA a; intro a hA) | (first | (refine BT ?_; clear hA hH; rintro _ w ⟨bN, rfl, hH⟩ a hA) | (refine LT ?_; clear hA hH; rintro _ w ⟨oN, rfl, hH⟩ a hA) | (refine AT ?_; clear hA; rintro _ w ⟨oN, cN, rfl, hH2⟩ a hA; clear hH; have hH := (hH2 _ (by (repeat constructor))).tail; clear hH2) | (refine S0T ?_; clear hH; rintro _ w hH) )) | ((first | refine CT ?_ | (refine DT ?_ ?_ <;> intro hc <;> try (exfalso; omega))) <;> repeat' refine CT ?_) | (first | (refine DSK ?_; clear hA a; intro a hA) | (first | (refine DLT ?_; clear hA hH; rintro _ w ⟨oN, rfl, hH⟩; refine ⟨STT, ?_⟩; intro a hA) | (refine DAT ?_; clear hA; rintro _ w ⟨oN, cN, rfl, hH2⟩; clear hH; have hH := (hH2 _ (by (repeat constructor))).tail; clear hH2; refine ⟨STT, ?_⟩; intro a hA))) )
      exact ⟨j + 1, ⟨o2, c2, hlj, hH.rm 1, (hA.sub (by (repeat (first | exact trivial | refine ⟨rfl, ?_⟩))))⟩, by omega⟩
    clear hA hH
    rintro a w ⟨o, c, hH, hA⟩
    repeat' (first | (first | (refine GT ?_ ?_ <;> intro hg <;> clear hA a <;> intro a hA <;> (first | exact FA | replace hg := of_decide_eq_true hg | replace hg := of_decide_eq_false hg | skip)) | (refine QT ?_; clear hA a; intro a hA) | (first | (refine BT ?_; clear hA hH; rintro _ w ⟨bN, rfl, hH⟩ a hA) | (refine LT ?_; clear hA hH; rintro _ w ⟨oN, rfl, hH⟩ a hA) | (refine AT ?_; clear hA; rintro _ w ⟨oN, cN, rfl, hH2⟩ a hA; clear hH; have hH := (hH2 _ (by (repeat constructor))).tail; clear hH2) | (refine S0T ?_; clear hH; rintro _ w hH) )) | ((first | refine CT ?_ | (refine DT ?_ ?_ <;> intro hc <;> try (exfalso; omega))) <;> repeat' refine CT ?_) | (first | (refine DSK ?_; clear hA a; intro a hA) | (first | (refine DLT ?_; clear hA hH; rintro _ w ⟨oN, rfl, hH⟩; refine ⟨STT, ?_⟩; intro a hA) | (refine DAT ?_; clear hA; rintro _ w ⟨oN, cN, rfl, hH2⟩; clear hH; have hH := (hH2 _ (by (repeat constructor))).tail; clear hH2; refine ⟨STT, ?_⟩; intro a hA))) )
    obtain ⟨q, hq⟩ : ∃ q, q = vpre f.bs.l i ++ bl.ps.l := ⟨_, rfl⟩
    have hql : q.length = (vpre f.bs.l i).length + bl.ps.l.length := by rw [hq, List.length_append]
    rw [← hq] at hA hH
    have hq1 : q ++ (bl.is.l.map Ins.x).take 0 = q := by rw [List.take_zero, List.append_nil]
    refine wp_lpk (S := Nat) (fun j a w => ∃ o c, j ≤ bl.is.l.length ∧ HS w0 noM [own 3 1 o (insL (q ++ (bl.is.l.map Ins.x).take j)).length c (flat Fw.encI (insL (q ++ (bl.is.l.map Ins.x).take j))), cb bB 52 (encBl bl), cb bG 30 (encG f)] w ∧ Sl 51 [(7, .int .i64 j), (5, .pointer (some (bat bB 0))), (1, .pointer (some (bat bG 0))), (4, .int .i64 i), (3, .slice o (insL (q ++ (bl.is.l.map Ins.x).take j)).length c)] a) (fun j => bl.is.l.length - j)
      (fun a w => ∃ o c, HS w0 noM [own 3 1 o (insL (vpre f.bs.l (i + 1))).length c (flat Fw.encI (insL (vpre f.bs.l (i + 1)))), cb bG 30 (encG f)] w ∧ Sl 51 [(1, .pointer (some (bat bG 0))), (4, .int .i64 i), (3, .slice o (insL (vpre f.bs.l (i + 1))).length c)] a) 0 ⟨o, c, Nat.zero_le _, (by rw [hq1]; exact hH), (by rw [hq1]; exact (hA.sub (by (repeat (first | exact trivial | refine ⟨rfl, ?_⟩)))))⟩ ?_ ?_
    · clear hA hH
      rintro j a w ⟨o, c, hj, hH, hA⟩
      by_cases hlj : j < bl.is.l.length
      rotate_left
      · obtain rfl : j = bl.is.l.length := by omega
        rw [show (bl.is.l.map Ins.x).take bl.is.l.length = bl.is.l.map Ins.x from by rw [← List.length_map (f := Ins.x), List.take_length], hq, ← vpre_next hbl] at hA hH
        repeat' (first | (first | (refine GT ?_ ?_ <;> intro hg <;> clear hA a <;> intro a hA <;> (first | exact FA | replace hg := of_decide_eq_true hg | replace hg := of_decide_eq_false hg | skip)) | (refine QT ?_; clear hA a; intro a hA) | (first | (refine BT ?_; clear hA hH; rintro _ w ⟨bN, rfl, hH⟩ a hA) | (refine LT ?_; clear hA hH; rintro _ w ⟨oN, rfl, hH⟩ a hA) | (refine AT ?_; clear hA; rintro _ w ⟨oN, cN, rfl, hH2⟩ a hA; clear hH; have hH := (hH2 _ (by (repeat constructor))).tail; clear hH2) | (refine S0T ?_; clear hH; rintro _ w hH) )) | ((first | refine CT ?_ | (refine DT ?_ ?_ <;> intro hc <;> try (exfalso; omega))) <;> repeat' refine CT ?_) | (first | (refine DSK ?_; clear hA a; intro a hA) | (first | (refine DLT ?_; clear hA hH; rintro _ w ⟨oN, rfl, hH⟩; refine ⟨STT, ?_⟩; intro a hA) | (refine DAT ?_; clear hA; rintro _ w ⟨oN, cN, rfl, hH2⟩; clear hH; have hH := (hH2 _ (by (repeat constructor))).tail; clear hH2; refine ⟨STT, ?_⟩; intro a hA))) )
        exact ⟨o, c, hH.rm 1, (hA.sub (by (repeat (first | exact trivial | refine ⟨rfl, ?_⟩))))⟩
      obtain ⟨x, hx⟩ : ∃ x, bl.is.l[j]? = some x := ⟨_, List.getElem?_eq_getElem hlj⟩
      have hx2 : (bl.is.l.map Ins.x)[j]? = some x.x := by rw [List.getElem?_map, hx]; rfl
      have hv : (flat encIn bl.is.l)[j * 5 + 0]? = some (.int .i64 x.x) := flat_get (off := 0) encIn_len hx rfl
      have hb2 : (insL (q ++ (bl.is.l.map Ins.x).take j)).length ≤ 1000000 := by rw [insL_len, List.length_append, List.length_take, List.length_map]; omega
      repeat' (first | (first | (refine GT ?_ ?_ <;> intro hg <;> clear hA a <;> intro a hA <;> (first | exact FA | replace hg := of_decide_eq_true hg | replace hg := of_decide_eq_false hg | skip)) | ((first | apply st_ex hA hH rfl rfl (by decide) | apply dr_ex hA rfl rfl rfl (by decide) | apply dr_exp hA rfl rfl rfl (by decide) | apply dr_ex3 hA hH rfl rfl rfl (by decide)); (first | (apply ex_load; rfl; exact cl_rd hbR.2.1.1 id hv)); clear hA a; intro a hA) | (refine QT ?_; clear hA a; intro a hA) | (first | (refine BT ?_; clear hA hH; rintro _ w ⟨bN, rfl, hH⟩ a hA) | (refine LT ?_; clear hA hH; rintro _ w ⟨oN, rfl, hH⟩ a hA) | (refine AT ?_; clear hA; rintro _ w ⟨oN, cN, rfl, hH2⟩ a hA; clear hH; have hH := (hH2 _ (by (repeat constructor))).tail; clear hH2) | (refine S0T ?_; clear hH; rintro _ w hH) )) | ((first | refine CT ?_ | (refine DT ?_ ?_ <;> intro hc <;> try (exfalso; omega))) <;> repeat' refine CT ?_) | (first | (refine DSK ?_; clear hA a; intro a hA) | (first | (refine DLT ?_; clear hA hH; rintro _ w ⟨oN, rfl, hH⟩; refine ⟨STT, ?_⟩; intro a hA) | (refine DAT ?_; clear hA; rintro _ w ⟨oN, cN, rfl, hH2⟩; clear hH; have hH := (hH2 _ (by (repeat constructor))).tail; clear hH2; refine ⟨STT, ?_⟩; intro a hA))) )
      (refine st_op hA rfl rfl (by decide) (op_call rfl rfl rfl (insert_spec _ o c _ x.x (hH.own_rd (.head _)) hb2)) ?_; clear hA; rintro _ w ⟨o2, c2, rfl, hj2⟩ a hA; replace hH := hH.join hj2; clear hj2)
      rw [← insL_snoc, ← app_take hx2] at hA hH
      repeat' (first | (first | (refine GT ?_ ?_ <;> intro hg <;> clear hA a <;> intro a hA <;> (first | exact FA | replace hg := of_decide_eq_true hg | replace hg := of_decide_eq_false hg | skip)) | (refine QT ?_; clear hA a; intro a hA) | (first | (refine BT ?_; clear hA hH; rintro _ w ⟨bN, rfl, hH⟩ a hA) | (refine LT ?_; clear hA hH; rintro _ w ⟨oN, rfl, hH⟩ a hA) | (refine AT ?_; clear hA; rintro _ w ⟨oN, cN, rfl, hH2⟩ a hA; clear hH; have hH := (hH2 _ (by (repeat constructor))).tail; clear hH2) | (refine S0T ?_; clear hH; rintro _ w hH) )) | ((first | refine CT ?_ | (refine DT ?_ ?_ <;> intro hc <;> try (exfalso; omega))) <;> repeat' refine CT ?_) | (first | (refine DSK ?_; clear hA a; intro a hA) | (first | (refine DLT ?_; clear hA hH; rintro _ w ⟨oN, rfl, hH⟩; refine ⟨STT, ?_⟩; intro a hA) | (refine DAT ?_; clear hA; rintro _ w ⟨oN, cN, rfl, hH2⟩; clear hH; have hH := (hH2 _ (by (repeat constructor))).tail; clear hH2; refine ⟨STT, ?_⟩; intro a hA))) )
      exact ⟨j + 1, ⟨o2, c2, hlj, hH.rm 1, (hA.sub (by (repeat (first | exact trivial | refine ⟨rfl, ?_⟩))))⟩, by omega⟩
    clear hA hH
    rintro a w ⟨o, c, hH, hA⟩
    repeat' (first | (first | (refine GT ?_ ?_ <;> intro hg <;> clear hA a <;> intro a hA <;> (first | exact FA | replace hg := of_decide_eq_true hg | replace hg := of_decide_eq_false hg | skip)) | (refine QT ?_; clear hA a; intro a hA) | (first | (refine BT ?_; clear hA hH; rintro _ w ⟨bN, rfl, hH⟩ a hA) | (refine LT ?_; clear hA hH; rintro _ w ⟨oN, rfl, hH⟩ a hA) | (refine AT ?_; clear hA; rintro _ w ⟨oN, cN, rfl, hH2⟩ a hA; clear hH; have hH := (hH2 _ (by (repeat constructor))).tail; clear hH2) | (refine S0T ?_; clear hH; rintro _ w hH) )) | ((first | refine CT ?_ | (refine DT ?_ ?_ <;> intro hc <;> try (exfalso; omega))) <;> repeat' refine CT ?_) | (first | (refine DSK ?_; clear hA a; intro a hA) | (first | (refine DLT ?_; clear hA hH; rintro _ w ⟨oN, rfl, hH⟩; refine ⟨STT, ?_⟩; intro a hA) | (refine DAT ?_; clear hA; rintro _ w ⟨oN, cN, rfl, hH2⟩; clear hH; have hH := (hH2 _ (by (repeat constructor))).tail; clear hH2; refine ⟨STT, ?_⟩; intro a hA))) )
    exact ⟨i + 1, ⟨o, c, hlt, hH, (hA.sub (by (repeat (first | exact trivial | refine ⟨rfl, ?_⟩))))⟩, by omega⟩
  clear hA hH
  rintro a w ⟨o, c, hH, hA⟩
  repeat' (first | (first | (refine GT ?_ ?_ <;> intro hg <;> clear hA a <;> intro a hA <;> (first | exact FA | replace hg := of_decide_eq_true hg | replace hg := of_decide_eq_false hg | skip)) | (refine QT ?_; clear hA a; intro a hA) | (first | (refine BT ?_; clear hA hH; rintro _ w ⟨bN, rfl, hH⟩ a hA) | (refine LT ?_; clear hA hH; rintro _ w ⟨oN, rfl, hH⟩ a hA) | (refine AT ?_; clear hA; rintro _ w ⟨oN, cN, rfl, hH2⟩ a hA; clear hH; have hH := (hH2 _ (by (repeat constructor))).tail; clear hH2) | (refine S0T ?_; clear hH; rintro _ w hH) )) | ((first | refine CT ?_ | (refine DT ?_ ?_ <;> intro hc <;> try (exfalso; omega))) <;> repeat' refine CT ?_) | (first | (refine DSK ?_; clear hA a; intro a hA) | (first | (refine DLT ?_; clear hA hH; rintro _ w ⟨oN, rfl, hH⟩; refine ⟨STT, ?_⟩; intro a hA) | (refine DAT ?_; clear hA; rintro _ w ⟨oN, cN, rfl, hH2⟩; clear hH; have hH := (hH2 _ (by (repeat constructor))).tail; clear hH2; refine ⟨STT, ?_⟩; intro a hA))) )
  exact rt1 (.inl rfl) rfl hA rfl ⟨o, c, rfl, hH⟩
end Go.Proofs.Ytjfanjcoppeeaaa
namespace Go.Proofs.Ytjfanjcoppeeaaa
open Go Go.Fw
set_option linter.unusedVariables false
/-- does x live in a block ahead of its Ins of a number? -/
def LvAt (ss : List (Option (Nat × List Int))) (bl : Blc) (n : Nat) (x : Int) : Prop := insP (bl.is.l.drop n) (lastP bl.e ss) x
theorem lvAt_end {ss : List (Option (Nat × List Int))} {bl : Blc} {x : Int} : LvAt ss bl bl.is.l.length x ↔ lastP bl.e ss x := by
  unfold LvAt
  rw [List.drop_length]
  exact Iff.rfl
theorem lvAt_at {ss : List (Option (Nat × List Int))} {bl : Blc} {j : Nat} {i : Ins} {x : Int} (h : bl.is.l[j]? = some i) : LvAt ss bl j x ↔ insUse i x ∨ (LvAt ss bl (j + 1) x ∧ x ≠ i.x) := by
  unfold LvAt
  obtain ⟨hi, rfl⟩ := List.getElem?_eq_some_iff.1 h
  rw [List.drop_eq_getElem_cons hi]
  exact Iff.rfl
theorem blk_ps {bl : Blc} {ss : List (Option (Nat × List Int))} {x : Int} (h : blkP bl ss x) : x ∉ bl.ps.l := h.2
theorem blk_mk {bl : Blc} {ss : List (Option (Nat × List Int))} {x : Int} (h : LvAt ss bl 0 x) (hp : x ∉ bl.ps.l) : blkP bl ss x := ⟨h, hp⟩
theorem blk_lv {bl : Blc} {ss : List (Option (Nat × List Int))} {x : Int} (h : blkP bl ss x) : LvAt ss bl 0 x := h.1
set_option maxRecDepth 10000 attribute [local irreducible] Code.wp wpList Calls Ex Op1 sat bat blk cb own Go.Fw.mp Go.Fw.mpO Go.Fw.mpI Go.Fw.mpE Go.Fw.itr HS Rd Ret wkD Hp Cl Cls Exit.then Exit.inBlock Exit.noGoto bodyPost Go.Fw.flat wk2 Go.Fw.all Go.Fw.owns wpOp
attribute [local irreducible] sk mpK srt varsL regOf insF insL vpre insP uses

end Go.Proofs.Ytjfanjcoppeeaaa
namespace Go.Proofs.Ytjfanjcoppeeaaa
open Go Go.Fw
set_option linter.unusedVariables false
set_option maxRecDepth 10000 attribute [local irreducible] Code.wp wpList Calls Ex Op1 sat bat blk cb own Go.Fw.mp Go.Fw.mpO Go.Fw.mpI Go.Fw.mpE Go.Fw.itr HS Rd Ret wkD Hp Cl Cls Exit.then Exit.inBlock Exit.noGoto bodyPost Go.Fw.flat wk2 Go.Fw.all Go.Fw.owns wpOp
attribute [local irreducible] sk mpK srt varsL regOf insF insL vpre insP uses LvAt

end Go.Proofs.Ytjfanjcoppeeaaa
namespace Go.Proofs.Ytjfanjcoppeeaaa
open Go Go.Fw
set_option linter.unusedVariables false
/-- all variables, by the document -/
def vrs (f : Gr) : List Int := insL (vpre f.bs.l f.bs.l.length)
def intoF (f : Gr) (ss : List (Option (Nat × List Int))) (n : Nat) (l : List Int) : List Int := l.filter fun x => decide (x ∈ setAt ss n)
theorem nd_t {p : Prop} [Decidable p] (h : (!decide p) = true) : ¬ p := by simpa using h
theorem nd_f {p : Prop} [Decidable p] (h : (!decide p) = false) : p := by simpa using h
theorem vrs_eq (f : Gr) : vrs f = insL (vpre f.bs.l f.bs.l.length) := rfl
theorem vrs_len (f : Gr) : (vrs f).length = (varsL f.bs.l).length := by
  unfold vrs
  rw [insL_len, vpre_len, List.take_length]
set_option maxRecDepth 10000 attribute [local irreducible] Code.wp wpList Calls Ex Op1 sat bat blk cb own Go.Fw.mp Go.Fw.mpO Go.Fw.mpI Go.Fw.mpE Go.Fw.itr HS Rd Ret wkD Hp Cl Cls Exit.then Exit.inBlock Exit.noGoto bodyPost Go.Fw.flat wk2 Go.Fw.all Go.Fw.owns wpOp
attribute [local irreducible] sk mpK srt varsL regOf insF insL vpre insP uses LvAt intoF vrs

end Go.Proofs.Ytjfanjcoppeeaaa
namespace Go.Proofs.Ytjfanjcoppeeaaa
open Go Go.Fw
set_option linter.unusedVariables false
/-- those that p tells of -/
def filF (p : Int → Bool) (l : List Int) : List Int := l.filter p
set_option maxRecDepth 10000 attribute [local irreducible] Code.wp wpList Calls Ex Op1 sat bat blk cb own Go.Fw.mp Go.Fw.mpO Go.Fw.mpI Go.Fw.mpE Go.Fw.itr HS Rd Ret wkD Hp Cl Cls Exit.then Exit.inBlock Exit.noGoto bodyPost Go.Fw.flat wk2 Go.Fw.all Go.Fw.owns wpOp
attribute [local irreducible] sk mpK srt varsL regOf insF insL vpre insP uses LvAt filF vrs

end Go.Proofs.Ytjfanjcoppeeaaa
namespace Go.Proofs.Ytjfanjcoppeeaaa
open Go Go.Fw
set_option linter.unusedVariables false
def mvO (st : Option (Nat × List Int)) : Value := .map (st.map (·.1))
theorem encO_eq (st : Option (Nat × List Int)) : encO st = [mvO st] := by cases st <;> rfl
def itS (r : Nat) (st : Option (Nat × List Int)) (clock : Nat) (dn : List (Int × Nat)) : It :=
  match st with
  | none => itr0 r
  | some p => itr r p.1 clock (dn.map (·.2))
def mpS (st : Option (Nat × List Int)) (el : List (Int × Nat)) (clock : Nat) : It :=
  match st with
  | none => all []
  | some p => mpK p.1 el clock
theorem HS.openS {w0 w : World} {M : Nat → Prop} {H : List It} {st : Option (Nat × List Int)} (h : HS w0 M H w) (hm : sko st ∈ H) :
    ∃ el clock, el.map (·.1) = kso st ∧ ElK el clock ∧ ∀ H', Rp H (sko st) (mpS st el clock) H' → HS w0 M H' w := by
  cases st with
  | none => exact ⟨[], 0, rfl, ⟨List.nodup_nil, List.nodup_nil, fun e he => absurd he List.not_mem_nil⟩, fun H' hr => h.conv hr fun F hF => hF⟩
  | some p => exact h.openK hm
theorem HS.shutS {w0 w : World} {M : Nat → Prop} {H H' : List It} {st : Option (Nat × List Int)} {clock : Nat} {el : List (Int × Nat)} (h : HS w0 M H w) (hel : el.map (·.1) = kso st) (hok : ElK el clock) (hr : Rp H (mpS st el clock) (sko st) H') : HS w0 M H' w := by
  cases st with
  | none => exact h.conv hr fun F hF => hF
  | some p =>
    refine h.shutK (b := p.1) (el := el) hok ?_
    rw [hel]
    exact hr
theorem sko_nodup {w0 w : World} {M : Nat → Prop} {H : List It} {st : Option (Nat × List Int)} (h : HS w0 M H w) (hm : sko st ∈ H) : (kso st).Nodup := by
  cases st with
  | none => exact List.nodup_nil
  | some p => exact h.sk_nodup hm
section
variable {P : Program} {N : Nat} {l : List (Nat × Value)} {a : Act} {d : Option Tmp} {T : TypeId} {pos : String} {af : Array Edge} {g : Option (Nat × Bool)} {st : Option (Nat × List Int)}
theorem op_rangeS {t kt e clock : Nat} {el : List (Int × Nat)} {x : Operand} {w0 w : World} {M : Nat → Prop} {H : List It} [ht : TMp P t kt e] (hx : ev l x = some (mvO st)) (hH : HS w0 M H w) (hm : mpS st el clock ∈ H) :
    Op1 P N l ⟨d, .range t x, T, pos, af, g⟩ w (fun v w' => ∃ r, v = .pointer (some (bat r 0)) ∧ HS w0 M (itS r st clock [] :: H) w') := by
  cases st with
  | none => exact op_rangeN hx hH
  | some p => exact op_rangeK hx hH hm
theorem op_nextS {r clock : Nat} {el done : List (Int × Nat)} {x : Operand} {w0 w : World} {M : Nat → Prop} {H : List It}
    (hx : ev l x = some (.pointer (some (bat r 0)))) (hH : HS w0 M H w) (hi : itS r st clock done ∈ H) (hm : mpS st el clock ∈ H) (hel : el.map (·.1) = kso st) (hok : ElK el clock) (hd : ∀ e ∈ done, e ∈ el) :
    Op1 P N l ⟨d, .next x false, T, pos, af, g⟩ w (fun v w' =>
      ((∀ e ∈ el, e ∈ done) ∧ v = .tuple #[.bool false] ∧ HS w0 M H w') ∨
      (∃ e ∈ el, e ∉ done ∧ v = .tuple #[.bool true, .int .i64 e.1, .bool true] ∧ ∀ H', Rp H (itS r st clock done) (itS r st clock (done ++ [e])) H' → HS w0 M H' w')) := by
  cases st with
  | none =>
    intro a hA K Q hK
    obtain rfl : el = [] := by simpa [kso] using hel
    have hev := ex_nextN (P := P) (d := d) (T := T) (pos := pos) (af := af) (g := g) (N := N) (l := l) hx hi a w hA hH
    unfold Oper.wp
    simp only [hev, Oper.upon]
    exact hK _ _ (.inl ⟨fun e he => absurd he List.not_mem_nil, rfl, hH⟩)
  | some p => exact op_nextK hx hH hi hm hok hd
theorem ex_entryS {r clock : Nat} {el done : List (Int × Nat)} {x : Operand} {e : Int × Nat} {w0 : World} {M : Nat → Prop} {H : List It}
    (hx : ev l x = some (.pointer (some (bat r 0)))) (hi : itS r st clock (done ++ [e]) ∈ H) (hm : mpS st el clock ∈ H) (hel : el.map (·.1) = kso st) (hok : ElK el clock) (he : e ∈ el) :
    Ex P N l (HS w0 M H) ⟨d, .entry x, T, pos, af, g⟩ (.tuple #[.int .i64 e.1, .bool true]) := by
  cases st with
  | none =>
    obtain rfl : el = [] := by simpa [kso] using hel
    exact absurd he List.not_mem_nil
  | some p => exact ex_entryK hx hi hm hok he
theorem ex_lenS {t kt e : Nat} {x : Operand} {w0 : World} {M : Nat → Prop} {H : List It} [ht : TMp P t kt e] (hx : ev l x = some (mvO st)) (hm : sko st ∈ H) :
    Ex P N l (HS w0 M H) ⟨d, .call ⟨.builtin .len, #[x], #[t]⟩, T, pos, af, g⟩ (.int .i64 (kso st).length) := by
  cases st with
  | none => exact ex_lenK0 hx
  | some p => exact ex_lenK hx hm
end
set_option maxRecDepth 10000 attribute [local irreducible] Code.wp wpList Calls Ex Op1 sat bat blk cb own Go.Fw.mp Go.Fw.mpO Go.Fw.mpI Go.Fw.mpE Go.Fw.itr HS Rd Ret wkD Hp Cl Cls Exit.then Exit.inBlock Exit.noGoto bodyPost Go.Fw.flat wk2 Go.Fw.all Go.Fw.owns wpOp
attribute [local irreducible] sk mpK srt sko itS mpS mvO

set_option maxHeartbeats 2000000 in
theorem sortedS_spec (w0 w : World) (H : List It) (st : Option (Nat × List Int)) (hH : HS w0 noM (sko st :: H) w) (hb : (kso st).length ≤ 1000000) :
    Ret Try.prog 32 #[mvO st] w (fun r w' => ∃ o c l, r = .slice o l.length c ∧ (∀ x, x ∈ l ↔ x ∈ kso st) ∧ l.Pairwise (· ≤ ·) ∧ l.Nodup ∧ HS w0 noM (own 3 1 o l.length c (flat Fw.encI l) :: sko st :: H) w') := by
  (refine enter (N := 18) Try.func32 rfl Try.ntmps32 rfl ?_; intro a hA; dsimp only [sl0, Nat.reduceAdd] at hA)
  repeat' (first | (first | (refine GT ?_ ?_ <;> intro hg <;> clear hA a <;> intro a hA <;> (first | exact FA | replace hg := of_decide_eq_true hg | replace hg := of_decide_eq_false hg | skip)) | (refine QT ?_; clear hA a; intro a hA) | (first | (refine BT ?_; clear hA hH; rintro _ w ⟨bN, rfl, hH⟩ a hA) | (refine LT ?_; clear hA hH; rintro _ w ⟨oN, rfl, hH⟩ a hA) | (refine AT ?_; clear hA; rintro _ w ⟨oN, cN, rfl, hH2⟩ a hA; clear hH; have hH := (hH2 _ (by (repeat constructor))).tail; clear hH2) | (refine S0T ?_; clear hH; rintro _ w hH) )) | ((first | refine CT ?_ | (refine DT ?_ ?_ <;> intro hc <;> try (exfalso; omega))) <;> repeat' refine CT ?_) | (first | (refine DSK ?_; clear hA a; intro a hA) | (first | (refine DLT ?_; clear hA hH; rintro _ w ⟨oN, rfl, hH⟩; refine ⟨STT, ?_⟩; intro a hA) | (refine DAT ?_; clear hA; rintro _ w ⟨oN, cN, rfl, hH2⟩; clear hH; have hH := (hH2 _ (by (repeat constructor))).tail; clear hH2; refine ⟨STT, ?_⟩; intro a hA))) )
  obtain ⟨el, clock, hel, hok, hop⟩ := HS.openS (st := st) hH (by exact MEMT)
  replace hH := hop _ (by (repeat constructor))
  clear hop
  have hell : el.length = (kso st).length := by rw [← hel, List.length_map]
  (refine st_op hA rfl rfl (by decide) (op_rangeS (st := st) rfl hH (by exact MEMT)) ?_; clear hA hH; rintro _ w ⟨r, rfl, hH⟩ a hA)
  replace hH := hH.nil_own 3 1
  repeat' (first | (first | (refine GT ?_ ?_ <;> intro hg <;> clear hA a <;> intro a hA <;> (first | exact FA | replace hg := of_decide_eq_true hg | replace hg := of_decide_eq_false hg | skip)) | (refine QT ?_; clear hA a; intro a hA) | (first | (refine BT ?_; clear hA hH; rintro _ w ⟨bN, rfl, hH⟩ a hA) | (refine LT ?_; clear hA hH; rintro _ w ⟨oN, rfl, hH⟩ a hA) | (refine AT ?_; clear hA; rintro _ w ⟨oN, cN, rfl, hH2⟩ a hA; clear hH; have hH := (hH2 _ (by (repeat constructor))).tail; clear hH2) | (refine S0T ?_; clear hH; rintro _ w hH) )) | ((first | refine CT ?_ | (refine DT ?_ ?_ <;> intro hc <;> try (exfalso; omega))) <;> repeat' refine CT ?_) | (first | (refine DSK ?_; clear hA a; intro a hA) | (first | (refine DLT ?_; clear hA hH; rintro _ w ⟨oN, rfl, hH⟩; refine ⟨STT, ?_⟩; intro a hA) | (refine DAT ?_; clear hA; rintro _ w ⟨oN, cN, rfl, hH2⟩; clear hH; have hH := (hH2 _ (by (repeat constructor))).tail; clear hH2; refine ⟨STT, ?_⟩; intro a hA))) )
  refine wp_lpk (S := List (Int × Nat)) (fun dn a w => ∃ o c, (dn.Nodup ∧ (∀ e ∈ dn, e ∈ el)) ∧ HS w0 noM (own 3 1 o dn.length c (flat Fw.encI (dn.map (·.1))) :: itS r st clock dn :: mpS st el clock :: H) w ∧ Sl 18 [(6, .pointer (some (bat r 0))), (3, .slice o dn.length c)] a) (fun dn => el.length - dn.length)
    (fun a w => ∃ o c dn, ((∀ x, x ∈ dn ↔ x ∈ kso st) ∧ dn.Nodup) ∧ HS w0 noM (own 3 1 o dn.length c (flat Fw.encI dn) :: sko st :: H) w ∧ Sl 18 [(3, .slice o dn.length c)] a) [] ⟨none, 0, ⟨List.nodup_nil, fun e he => absurd he List.not_mem_nil⟩, (by rw [List.map_nil, flatI_nil]; exact hH), (hA.sub (by (repeat (first | exact trivial | refine ⟨rfl, ?_⟩))))⟩ ?_ ?_
  · clear hA hH
    rintro dn a w ⟨o, c, ⟨hn, hd⟩, hH, hA⟩
    repeat' (first | (first | (refine GT ?_ ?_ <;> intro hg <;> clear hA a <;> intro a hA <;> (first | exact FA | replace hg := of_decide_eq_true hg | replace hg := of_decide_eq_false hg | skip)) | (refine QT ?_; clear hA a; intro a hA) | (first | (refine BT ?_; clear hA hH; rintro _ w ⟨bN, rfl, hH⟩ a hA) | (refine LT ?_; clear hA hH; rintro _ w ⟨oN, rfl, hH⟩ a hA) | (refine AT ?_; clear hA; rintro _ w ⟨oN, cN, rfl, hH2⟩ a hA; clear hH; have hH := (hH2 _ (by (repeat constructor))).tail; clear hH2) | (refine S0T ?_; clear hH; rintro _ w hH) )) | ((first | refine CT ?_ | (refine DT ?_ ?_ <;> intro hc <;> try (exfalso; omega))) <;> repeat' refine CT ?_) | (first | (refine DSK ?_; clear hA a; intro a hA) | (first | (refine DLT ?_; clear hA hH; rintro _ w ⟨oN, rfl, hH⟩; refine ⟨STT, ?_⟩; intro a hA) | (refine DAT ?_; clear hA; rintro _ w ⟨oN, cN, rfl, hH2⟩; clear hH; have hH := (hH2 _ (by (repeat constructor))).tail; clear hH2; refine ⟨STT, ?_⟩; intro a hA))) )
    refine st_op hA rfl rfl (by decide) (op_nextS (st := st) rfl hH (by exact MEMT) (by exact MEMT) hel hok hd) ?_
    clear hA
    rintro _ w2 (⟨hall, rfl, hH⟩ | ⟨e, he, hs, rfl, hup⟩) a hA
    · repeat' (first | (first | (refine GT ?_ ?_ <;> intro hg <;> clear hA a <;> intro a hA <;> (first | exact FA | replace hg := of_decide_eq_true hg | replace hg := of_decide_eq_false hg | skip)) | (refine QT ?_; clear hA a; intro a hA) | (first | (refine BT ?_; clear hA hH; rintro _ w ⟨bN, rfl, hH⟩ a hA) | (refine LT ?_; clear hA hH; rintro _ w ⟨oN, rfl, hH⟩ a hA) | (refine AT ?_; clear hA; rintro _ w ⟨oN, cN, rfl, hH2⟩ a hA; clear hH; have hH := (hH2 _ (by (repeat constructor))).tail; clear hH2) | (refine S0T ?_; clear hH; rintro _ w hH) )) | ((first | refine CT ?_ | (refine DT ?_ ?_ <;> intro hc <;> try (exfalso; omega))) <;> repeat' refine CT ?_) | (first | (refine DSK ?_; clear hA a; intro a hA) | (first | (refine DLT ?_; clear hA hH; rintro _ w ⟨oN, rfl, hH⟩; refine ⟨STT, ?_⟩; intro a hA) | (refine DAT ?_; clear hA; rintro _ w ⟨oN, cN, rfl, hH2⟩; clear hH; have hH := (hH2 _ (by (repeat constructor))).tail; clear hH2; refine ⟨STT, ?_⟩; intro a hA))) )
      replace hH := HS.shutS (st := st) hH hel hok (by (repeat constructor))
      rw [← List.length_map (f := fun x : Int × Nat => x.1)] at hH
      rw [← List.length_map (f := fun x : Int × Nat => x.1)] at hA
      exact ⟨o, c, dn.map (fun x : Int × Nat => x.1), ⟨dn_mem hel hd hall, dn_nodup hok.keys hn hd⟩, hH.rm 1, (hA.sub (by (repeat (first | exact trivial | refine ⟨rfl, ?_⟩))))⟩
    · have hlt := done_lt hn hd he hs
      clear hH
      have hH := hup _ (by (repeat constructor))
      clear hup
      repeat' (first | (first | (refine GT ?_ ?_ <;> intro hg <;> clear hA a <;> intro a hA <;> (first | exact FA | replace hg := of_decide_eq_true hg | replace hg := of_decide_eq_false hg | skip)) | ((first | apply st_ex hA hH rfl rfl (by decide) | apply dr_ex hA rfl rfl rfl (by decide) | apply dr_exp hA rfl rfl rfl (by decide) | apply dr_ex3 hA hH rfl rfl rfl (by decide)); (first | (apply ex_entryS (st := st); rfl; exact MEMT; exact MEMT; exact hel; exact hok; exact he)); clear hA a; intro a hA) | (refine QT ?_; clear hA a; intro a hA) | (first | (refine BT ?_; clear hA hH; rintro _ w ⟨bN, rfl, hH⟩ a hA) | (refine LT ?_; clear hA hH; rintro _ w ⟨oN, rfl, hH⟩ a hA) | (refine AT ?_; clear hA; rintro _ w ⟨oN, cN, rfl, hH2⟩ a hA; clear hH; have hH := (hH2 _ (by (repeat constructor))).tail; clear hH2) | (refine S0T ?_; clear hH; rintro _ w hH) )) | ((first | refine CT ?_ | (refine DT ?_ ?_ <;> intro hc <;> try (exfalso; omega))) <;> repeat' refine CT ?_) | (first | (refine DSK ?_; clear hA a; intro a hA) | (first | (refine DLT ?_; clear hA hH; rintro _ w ⟨oN, rfl, hH⟩; refine ⟨STT, ?_⟩; intro a hA) | (refine DAT ?_; clear hA; rintro _ w ⟨oN, cN, rfl, hH2⟩; clear hH; have hH := (hH2 _ (by (repeat constructor))).tail; clear hH2; refine ⟨STT, ?_⟩; intro a hA))) )
      have ha := dn_add (ks := []) (ks' := dn.map (·.1)) hn hd he hs (fun x => by simp)
      have hl : (dn ++ [e]).length = dn.length + 1 := by rw [List.length_append]; rfl
      refine ⟨dn ++ [e], ⟨oN, cN, ⟨ha.1, ha.2.1⟩, ?_, ?_⟩, by omega⟩
      · rw [hl, List.map_append, List.map_cons, List.map_nil, ← flatI_snoc]
        exact hH
      · rw [hl]
        exact (hA.sub (by (repeat (first | exact trivial | refine ⟨rfl, ?_⟩))))
  clear hA hH
  rintro a w ⟨o, c, dn, ⟨hdn, hnd⟩, hH, hA⟩
  have hdl : dn.length ≤ 1000000 := by rw [nodup_len hnd (sko_nodup (st := st) hH (.tail _ (.head _))) hdn]; exact hb
  repeat' (first | (first | (refine GT ?_ ?_ <;> intro hg <;> clear hA a <;> intro a hA <;> (first | exact FA | replace hg := of_decide_eq_true hg | replace hg := of_decide_eq_false hg | skip)) | (refine QT ?_; clear hA a; intro a hA) | (first | (refine BT ?_; clear hA hH; rintro _ w ⟨bN, rfl, hH⟩ a hA) | (refine LT ?_; clear hA hH; rintro _ w ⟨oN, rfl, hH⟩ a hA) | (refine AT ?_; clear hA; rintro _ w ⟨oN, cN, rfl, hH2⟩ a hA; clear hH; have hH := (hH2 _ (by (repeat constructor))).tail; clear hH2) | (refine S0T ?_; clear hH; rintro _ w hH) )) | ((first | refine CT ?_ | (refine DT ?_ ?_ <;> intro hc <;> try (exfalso; omega))) <;> repeat' refine CT ?_) | (first | (refine DSK ?_; clear hA a; intro a hA) | (first | (refine DLT ?_; clear hA hH; rintro _ w ⟨oN, rfl, hH⟩; refine ⟨STT, ?_⟩; intro a hA) | (refine DAT ?_; clear hA; rintro _ w ⟨oN, cN, rfl, hH2⟩; clear hH; have hH := (hH2 _ (by (repeat constructor))).tail; clear hH2; refine ⟨STT, ?_⟩; intro a hA))) )
  (refine st_op hA rfl rfl (by decide) (op_call rfl rfl rfl (sort_spec w0 _ noM _ o c dn hH (.head _) (by omega))) ?_; clear hA; rintro _ w ⟨rfl, hup⟩ a hA; clear hH; have hH := hup _ .here; clear hup)
  rw [← srt_len dn] at hA hH
  repeat' (first | (first | (refine GT ?_ ?_ <;> intro hg <;> clear hA a <;> intro a hA <;> (first | exact FA | replace hg := of_decide_eq_true hg | replace hg := of_decide_eq_false hg | skip)) | (refine QT ?_; clear hA a; intro a hA) | (first | (refine BT ?_; clear hA hH; rintro _ w ⟨bN, rfl, hH⟩ a hA) | (refine LT ?_; clear hA hH; rintro _ w ⟨oN, rfl, hH⟩ a hA) | (refine AT ?_; clear hA; rintro _ w ⟨oN, cN, rfl, hH2⟩ a hA; clear hH; have hH := (hH2 _ (by (repeat constructor))).tail; clear hH2) | (refine S0T ?_; clear hH; rintro _ w hH) )) | ((first | refine CT ?_ | (refine DT ?_ ?_ <;> intro hc <;> try (exfalso; omega))) <;> repeat' refine CT ?_) | (first | (refine DSK ?_; clear hA a; intro a hA) | (first | (refine DLT ?_; clear hA hH; rintro _ w ⟨oN, rfl, hH⟩; refine ⟨STT, ?_⟩; intro a hA) | (refine DAT ?_; clear hA; rintro _ w ⟨oN, cN, rfl, hH2⟩; clear hH; have hH := (hH2 _ (by (repeat constructor))).tail; clear hH2; refine ⟨STT, ?_⟩; intro a hA))) )
  exact rt1 (.inl rfl) rfl hA rfl ⟨o, c, srt dn, rfl, fun x => mem_srt.trans (hdn x), srt_sorted dn, (srt_perm dn).nodup_iff.2 hnd, hH⟩
end Go.Proofs.Ytjfanjcoppeeaaa
namespace Go.Fw
open Go Go.RowKit
set_option linter.unusedVariables false
class TAr (P : Program) (t : TypeId) (n : outParam Nat) (e : outParam TypeId) : Prop where
  eq : P.underlying t = some (.array n e)
/-- a set with a new key that has no value yet -/
def entK (b : Nat) (ks : List Int) (k : Int) (c : Nat) : It where
  sat w F := ∃ el, el.map (·.1) = ks ∧ ElK el c ∧ k ∉ ks ∧ (blk b (.map ((el.map mkK ++ [(k, Value.bool false, c)]).map mkE).toArray (c + 1))).sat w F
  loc := by
    rintro w w' F ⟨el, h1, h2, h3, h4⟩ he
    exact ⟨el, h1, h2, h3, (blk b _).loc h4 he⟩
  lt := by
    rintro w F ⟨el, h1, h2, h3, h4⟩
    exact (blk b _).lt h4
  ext := by
    rintro w F F' ⟨el, h1, h2, h3, h4⟩ he
    exact ⟨el, h1, h2, h3, (blk b _).ext h4 he⟩
theorem born_new {es : List (Int × Value × Nat)} {k : Int} {v : Value} {c : Nat} (hlt : ∀ e ∈ es, e.2.2 < c) : ((es ++ [(k, v, c)]).map mkE).toArray.findIdx? (fun e => (e.born : Int) == (c : Int)) = some es.length := by
  rw [Array.findIdx?_eq_some_iff_getElem]
  refine ⟨by simp, by simp [mkE], fun j hj => ?_⟩
  have h1 : j < es.length := hj
  have h2 := hlt es[j] (List.getElem_mem h1)
  simp only [List.map_append, List.getElem_toArray]
  rw [List.getElem_append_left (by simpa using h1)]
  simp only [List.getElem_map, mkE, beq_iff_eq]
  omega
section
variable {P : Program} {N : Nat} {l : List (Nat × Value)} {a : Act} {C : World → Prop} {d : Option Tmp} {T : TypeId} {pos : String} {af : Array Edge} {g : Option (Nat × Bool)}
theorem ex_eqlMapN {t k e ty : TypeId} {x y : Operand} {m : Option Nat} [h : TMp P t k e] (hx : ev l x = some (.map m)) (hy : ev l y = some (.map none)) : Ex P N l C ⟨d, .binOp .eql t x y ty, T, pos, af, g⟩ (.bool m.isNone) := by
  intro a w hA _
  simp [execOp, hA.ev hx, hA.ev hy, eqGuard_at_map, binOp, run_equal_map_nil w t k e m h.eq]
theorem ex_eqlMapT {t k e ty : TypeId} {x y : Operand} [h : TMp P t k e] (hx : ev l x = some (.map none)) (hy : ev l y = some (.map none)) : Ex P N l C ⟨d, .binOp .eql t x y ty, T, pos, af, g⟩ (.bool true) := ex_eqlMapN (h := h) hx hy
theorem ex_eqlMapF {t k e ty : TypeId} {x y : Operand} {b : Nat} [h : TMp P t k e] (hx : ev l x = some (.map (some b))) (hy : ev l y = some (.map none)) : Ex P N l C ⟨d, .binOp .eql t x y ty, T, pos, af, g⟩ (.bool false) := ex_eqlMapN (h := h) hx hy
theorem ex_addW {t ty : TypeId} {x y : Operand} {m n : Int} (hx : ev l x = some (.int .i64 m)) (hy : ev l y = some (.int .i64 n)) : Ex P N l C ⟨d, .binOp .add t x y ty, T, pos, af, g⟩ (.int .i64 (IntKind.i64.wrap (m + n))) := by
  intro a w hA _
  simp only [execOp, hA.ev hx, hA.ev hy, eqGuard_at_int, binOp_add]
  simp [Op.intArith]
theorem op_entryK {t kt e sz by_ b : Nat} {kk : IntKind} {zs : List Value} {x y : Operand} {ks : List Int} {k : Int} {w0 w : World} {M : Nat → Prop} {H : List It} [ht : TMp P t kt e] [hk : TIn P kt kk] [hi : TIf P e (.bool false) zs sz by_]
    (hx : ev l x = some (.map (some b))) (hy : ev l y = some (.int .i64 k)) (hH : HS w0 M (sk b ks :: H) w) (hn : k ∉ ks) :
    Op1 P N l ⟨d, .mapEntry t x y, T, pos, af, g⟩ w (fun v w' => ∃ c : Nat, v = .tuple #[.bool false, .int .i64 c] ∧ HS w0 M (entK b ks k c :: H) w') := by
  intro a hA K Q hK
  obtain ⟨F, es, clock, h1, hok, h3, h4⟩ := hH.sat (it := sk b ks) (.head _)
  obtain ⟨el, rfl, h5⟩ := es_encK ks es h1
  obtain ⟨ti, g3, g4, g5, g6⟩ := hi.eq
  have hf : fnd k (el.map mkK) 0 = none := by
    cases hf : fnd k (el.map mkK) 0 with
    | none => rfl
    | some q =>
      obtain ⟨j, v0⟩ := q
      obtain ⟨_, born, hj⟩ := fnd_some k _ 0 j v0 hf
      obtain ⟨e', he', h6⟩ := List.mem_map.1 (List.mem_of_getElem? hj)
      refine absurd ?_ hn
      rw [← h5]
      refine List.mem_map.2 ⟨e', he', ?_⟩
      have := congrArg Prod.fst h6
      exact this
  unfold Oper.wp
  simp only [execOp, hA.ev hx, hA.ev hy, Instr.mapEntry, Sem.run_bind, run_underlying ht.eq, Result.andThen_ok, run_getObj_map h4, run_checkKey, run_findKey, hf]
  have hpush : (((el.map mkK).map mkE).toArray.push { key := .int .i64 k, val := .bool false, born := clock }) = ((el.map mkK ++ [(k, Value.bool false, clock)]).map mkE).toArray := by simp [mkE]
  simp only [zeroValue, typeInfo, Sem.run_bind, Sem.run_pure, Result.andThen_ok, run_program, g3, g4, run_setObj_map h4, hpush, Oper.upon]
  have hok' : ElK el clock := ⟨by simpa [mkK, Function.comp_def] using hok.keys, by simpa [mkK, Function.comp_def] using hok.borns, fun e he => hok.lt (mkK e) (List.mem_map.2 ⟨e, he, rfl⟩)⟩
  refine hK _ _ ⟨clock, rfl, hH.turn .here fun F' hF' => ?_⟩
  obtain ⟨_, _, _, _, hF1, _⟩ := hF'
  exact ⟨setObj_kp ((hF1 b).2 rfl), F', ⟨el, h5, hok', hn, hF1, setObj_at h4⟩, fun b hb => .inr hb⟩
theorem op_entryStK {t b c : Nat} {x y z : Operand} {ks : List Int} {k : Int} {w0 w : World} {M : Nat → Prop} {H : List It}
    (hx : ev l x = some (.map (some b))) (hy : ev l y = some (.int .i64 c)) (hz : ev l z = some (.bool true)) (hH : HS w0 M (entK b ks k c :: H) w) :
    Op1 P N l ⟨d, .entryStore t x y z, T, pos, af, g⟩ w (fun v w' => HS w0 M (sk b (ks ++ [k]) :: H) w') := by
  intro a hA K Q hK
  obtain ⟨F, el, h5, hok, hn, h3, h4⟩ := hH.sat (it := entK b ks k c) (.head _)
  have hes := hok.es
  have hb := born_new (k := k) (v := .bool false) (c := c) (es := el.map mkK) hes.lt
  unfold Oper.wp
  simp only [execOp, hA.ev hx, hA.ev hy, hA.ev hz, Instr.entryStore, asInt, asIntOf, Sem.run_bind, Sem.run_pure, Result.andThen_ok, run_getObj_map h4, hb, run_setObj_map h4, Oper.upon]
  have hmod : (((el.map mkK ++ [(k, Value.bool false, c)]).map mkE).toArray.modify (el.map mkK).length fun e => { e with val := .bool true }) = (((el ++ [(k, c)]).map mkK).map mkE).toArray := by
    apply Array.ext'
    simp only [Array.toList_modify]
    apply List.ext_getElem?
    intro i
    simp only [List.getElem?_modify, List.map_append, List.map_cons, List.map_nil]
    rcases Nat.lt_trichotomy i el.length with h | h | h
    · rw [List.getElem?_append_left (by simpa using h), List.getElem?_append_left (by simpa using h)]
      have h1 : ¬ el.length = i := by omega
      simp [h1]
    · subst h
      simp [mkK, mkE]
    · rw [List.getElem?_eq_none_iff.2 (by simp; omega), List.getElem?_eq_none_iff.2 (by simp; omega)]
      rfl
  simp only [hmod]
  refine hK _ _ (hH.turn .here fun F' hF' => ?_)
  obtain ⟨el', h5', hok'', hn', hF1, hF2⟩ := hF'
  refine ⟨setObj_kp ((hF1 b).2 rfl), F', ⟨(el ++ [(k, c)]).map mkK, c + 1, ?_, ⟨?_, ?_, ?_⟩, hF1, setObj_at h4⟩, fun b hb => .inr hb⟩
  · rw [← h5]
    simp [encK, mkK, Function.comp_def]
  · have : ((el ++ [(k, c)]).map mkK).map (·.1) = ks ++ [k] := by rw [← h5]; simp [mkK, Function.comp_def]
    rw [this]
    refine List.nodup_append.2 ⟨h5 ▸ hok.keys, by simp, fun x hx y hy => ?_⟩
    simp at hy; subst hy
    exact fun e => hn (e ▸ hx)
  · have : ((el ++ [(k, c)]).map mkK).map (·.2.2) = el.map (·.2) ++ [c] := by simp [mkK, Function.comp_def]
    rw [this]
    refine List.nodup_append.2 ⟨hok.borns, by simp, fun x hx y hy => ?_⟩
    simp at hy; subst hy
    obtain ⟨e, he, rfl⟩ := List.mem_map.1 hx
    exact Nat.ne_of_lt (hok.lt e he)
  · intro e he
    obtain ⟨e', he', rfl⟩ := List.mem_map.1 he
    rcases List.mem_append.1 he' with h | h
    · have := hok.lt e' h
      show e'.2 < c + 1
      omega
    · simp at h; subst h
      exact Nat.lt_succ_self _
theorem op_insertV {t kt e b : Nat} {kk : IntKind} {x y z : Operand} {m : List (Int × Value)} {k : Int} {v : Value} {w0 w : World} {M : Nat → Prop} {H H' : List It} [ht : TMp P t kt e] [hk : TIn P kt kk]
    (hx : ev l x = some (.map (some b))) (hy : ev l y = some (.int .i64 k)) (hz : ev l z = some v) (hH : HS w0 M H w) (hr : Rp H (mp b m) (mp b (mset m k v)) H') :
    Op1 P N l ⟨d, .insert t x y z, T, pos, af, g⟩ w (fun _ w' => HS w0 M H' w') := by
  intro a hA K Q hK
  have h := op_mapUpdate (P := P) (N := N) (d := d) (T := T) (pos := pos) (af := af) (g := g) (t := t) hx hy hz hH hr a hA K Q hK
  exact h
theorem ex_build2 {t e by_ : Nat} {z ze u v : Value} {zs zse : List Value} {x y : Operand} {bye : Nat} [ha : TAr P t 2 e] [hi : TIf P t z zs 2 by_] [he : TIf P e ze zse 1 bye] (hx : ev l x = some u) (hy : ev l y = some v) (hz : zs.length = 2) (h1 : u.oneCell' = true) (h2 : v.oneCell' = true) :
    Ex P N l C ⟨d, .build t #[(0, x), (1, y)], T, pos, af, g⟩ (.agg #[u, v]) := by
  intro a w hA hC
  obtain ⟨ti, g3, g4, g5, g6⟩ := hi.eq
  obtain ⟨te, e3, e4, e5, e6⟩ := he.eq
  have hzs : z.cells = zs.toArray := by rw [← hi.zc]
  obtain ⟨q0, q1, hq⟩ : ∃ q0 q1, zs = [q0, q1] := by
    match zs, hz with
    | [q0, q1], _ => exact ⟨q0, q1, rfl⟩
  have hu : u.cells = #[u] := by cases u <;> first | rfl | cases h1
  have hv : v.cells = #[v] := by cases v <;> first | rfl | cases h2
  simp [execOp, Instr.build, zeroValue, typeInfo, sizeOf, g3, g4, e3, e5, run_underlying ha.eq, hA.ev hx, hA.ev hy, hzs, hq, Instr.fill, hu, hv]
theorem ex_indexArr {t e n sz by_ i b j : Nat} {z : Value} {zs : List Value} {k : IntKind} {x ix : Operand} [ht : TAr P t n e] [hi : TIf P e z zs sz by_] (hx : ev l x = some (.pointer (some (bat b j)))) (hix : ev l ix = some (.int k (i : Int))) (h1 : i < n) :
    Ex P N l C ⟨d, .indexAddr t x ix, T, pos, af, g⟩ (.pointer (some (bat b (j + i * sz)))) := by
  intro a w hA _
  obtain ⟨ti, h3, h4, h5, h6⟩ := hi.eq
  simp [execOp, hA.ev hx, hA.ev hix, Instr.indexAt, asIntOf, run_underlying ht.eq, sizeOf, typeInfo, h3, h5, h1, Instr.sureAddr, bat, Addr.add]
end
end Go.Fw
namespace Go.Proofs.Ytjfanjcoppeeaaa
open Go Go.Fw
set_option linter.unusedVariables false
/-- what a check holds but its count of parts -/
structure Ck where
  g : Grs
  f : Gr
  oA : Option Addr
  nA : Nat
  cA : Nat
  bE : Nat
  oT : Option Addr
  nT : Nat
  cT : Nat
def encC (c : Ck) (p : Int) : List Value := [.slice c.g.fs.o c.g.fs.l.length c.g.fs.c, .slice c.g.ls.o c.g.ls.l.length c.g.ls.c, .slice c.g.ts.o c.g.ts.l.length c.g.ts.c, .slice c.g.xs.o c.g.xs.l.length c.g.xs.c, .slice c.g.ss.o c.g.ss.l.length c.g.ss.c,
  .int .i64 c.f.caps, .slice c.f.bs.o c.f.bs.l.length c.f.bs.c, .slice c.oA c.nA c.cA, .int .i64 p, .map (some c.bE), .slice c.oT c.nT c.cT]
/-- a variable that may be bound -/
def bindP (es : List Int) (x : Int) : Prop := 2 ≤ x ∧ x ≤ 1048576 ∧ x ∉ es
/-- an atom that may stand where some variables are -/
def atOk (g : Grs) (ks : List Int) (a : Atm) : Prop := (a.k = 1 ∧ 0 ≤ a.n ∧ a.n ≤ 1048576 ∧ (a.n < 2 ∨ a.n ∈ ks)) ∨ (a.k = 2 ∧ -4611686018427387904 ≤ a.n ∧ a.n < 4611686018427387904) ∨ (a.k = 3 ∧ 0 ≤ a.n ∧ a.n < g.ss.l.length)
def atsOk (g : Grs) (ks : List Int) (p : Int) (l : List Atm) : Prop := (∀ a ∈ l, atOk g ks a) ∧ (l = [] ∨ p + l.length ≤ 65536)
set_option maxRecDepth 10000 attribute [local irreducible] Code.wp wpList Calls Ex Op1 sat bat blk cb own Go.Fw.mp Go.Fw.mpO Go.Fw.mpI Go.Fw.mpE Go.Fw.itr HS Rd Ret wkD Hp Cl Cls Exit.then Exit.inBlock Exit.noGoto bodyPost Go.Fw.flat wk2 Go.Fw.all Go.Fw.owns wpOp
attribute [local irreducible] sk mpK srt sko mvO entK

set_option maxHeartbeats 4000000 in
theorem bind_spec (w0 w : World) (H : List It) (c : Ck) (bC bN : Nat) (p : Int) (es ks : List Int) (x : Int) (hH : HS w0 noM (cb bC 95 (encC c p) :: sk c.bE es :: sk bN ks :: H) w) :
    Ret Try.prog 47 #[.pointer (some (bat bC 0)), .int .i64 x, .map (some bN)] w (fun r w' =>
      (bindP es x ∧ r = .bool true ∧ HS w0 noM (cb bC 95 (encC c p) :: sk c.bE (es ++ [x]) :: sk bN (sadd ks x) :: H) w') ∨
      (¬ bindP es x ∧ r = .bool false ∧ HS w0 noM (cb bC 95 (encC c p) :: sk c.bE es :: sk bN ks :: H) w')) := by
  (refine enter (N := 30) Try.func47 rfl Try.ntmps47 rfl ?_; intro a hA; dsimp only [sl0, Nat.reduceAdd] at hA)
  repeat' (first | (first | (refine GT ?_ ?_ <;> intro hg <;> clear hA a <;> intro a hA <;> (first | exact FA | replace hg := of_decide_eq_true hg | replace hg := of_decide_eq_false hg | skip)) | ((first | apply st_ex hA hH rfl rfl (by decide) | apply dr_ex hA rfl rfl rfl (by decide) | apply dr_exp hA rfl rfl rfl (by decide) | apply dr_ex3 hA hH rfl rfl rfl (by decide)); (first | (apply ex_hasK; rfl; rfl; exact MEMT)); clear hA a; intro a hA) | (refine QT ?_; clear hA a; intro a hA) | (first | (refine BT ?_; clear hA hH; rintro _ w ⟨bN, rfl, hH⟩ a hA) | (refine LT ?_; clear hA hH; rintro _ w ⟨oN, rfl, hH⟩ a hA) | (refine AT ?_; clear hA; rintro _ w ⟨oN, cN, rfl, hH2⟩ a hA; clear hH; have hH := (hH2 _ (by (repeat constructor))).tail; clear hH2) | (refine S0T ?_; clear hH; rintro _ w hH) )) | ((first | refine CT ?_ | (refine DT ?_ ?_ <;> intro hc <;> try (exfalso; omega))) <;> repeat' refine CT ?_) | (first | (refine DSK ?_; clear hA a; intro a hA) | (first | (refine DLT ?_; clear hA hH; rintro _ w ⟨oN, rfl, hH⟩; refine ⟨STT, ?_⟩; intro a hA) | (refine DAT ?_; clear hA; rintro _ w ⟨oN, cN, rfl, hH2⟩; clear hH; have hH := (hH2 _ (by (repeat constructor))).tail; clear hH2; refine ⟨STT, ?_⟩; intro a hA))) )
  · exact rt1 (.inl rfl) rfl hA rfl (.inr ⟨fun h => (by have := h.1; omega), rfl, hH⟩)
  · exact rt1 (.inl rfl) rfl hA rfl (.inr ⟨fun h => (by have := h.2.1; omega), rfl, hH⟩)
  · have hin : x ∈ es := by assumption
    exact rt1 (.inl rfl) rfl hA rfl (.inr ⟨fun h => h.2.2 hin, rfl, hH⟩)
  have hnin : ¬ x ∈ es := by assumption
  have hbp : bindP es x := ⟨by omega, by omega, hnin⟩
  replace hH := hH.up 1 rfl
  dsimp only [List.eraseIdx_cons_succ, List.eraseIdx_cons_zero] at hH
  (refine st_op hA rfl rfl (by decide) (op_entryK rfl rfl hH hnin) ?_; clear hA hH; rintro _ w ⟨cl, rfl, hH⟩ a hA)
  repeat' (first | (first | (refine GT ?_ ?_ <;> intro hg <;> clear hA a <;> intro a hA <;> (first | exact FA | replace hg := of_decide_eq_true hg | replace hg := of_decide_eq_false hg | skip)) | (refine QT ?_; clear hA a; intro a hA) | (first | (refine BT ?_; clear hA hH; rintro _ w ⟨bN, rfl, hH⟩ a hA) | (refine LT ?_; clear hA hH; rintro _ w ⟨oN, rfl, hH⟩ a hA) | (refine AT ?_; clear hA; rintro _ w ⟨oN, cN, rfl, hH2⟩ a hA; clear hH; have hH := (hH2 _ (by (repeat constructor))).tail; clear hH2) | (refine S0T ?_; clear hH; rintro _ w hH) )) | ((first | refine CT ?_ | (refine DT ?_ ?_ <;> intro hc <;> try (exfalso; omega))) <;> repeat' refine CT ?_) | (first | (refine DSK ?_; clear hA a; intro a hA) | (first | (refine DLT ?_; clear hA hH; rintro _ w ⟨oN, rfl, hH⟩; refine ⟨STT, ?_⟩; intro a hA) | (refine DAT ?_; clear hA; rintro _ w ⟨oN, cN, rfl, hH2⟩; clear hH; have hH := (hH2 _ (by (repeat constructor))).tail; clear hH2; refine ⟨STT, ?_⟩; intro a hA))) )
  (refine st_op0 hA rfl rfl (op_entryStK rfl rfl rfl hH) ?_; clear hH; rintro _ w hH)
  repeat' (first | (first | (refine GT ?_ ?_ <;> intro hg <;> clear hA a <;> intro a hA <;> (first | exact FA | replace hg := of_decide_eq_true hg | replace hg := of_decide_eq_false hg | skip)) | (refine QT ?_; clear hA a; intro a hA) | (first | (refine BT ?_; clear hA hH; rintro _ w ⟨bN, rfl, hH⟩ a hA) | (refine LT ?_; clear hA hH; rintro _ w ⟨oN, rfl, hH⟩ a hA) | (refine AT ?_; clear hA; rintro _ w ⟨oN, cN, rfl, hH2⟩ a hA; clear hH; have hH := (hH2 _ (by (repeat constructor))).tail; clear hH2) | (refine S0T ?_; clear hH; rintro _ w hH) | (apply st_op0 hA rfl rfl; apply op_addK; rfl; rfl; rfl; exact hH; (repeat constructor); clear hH; rintro _ w hH))) | ((first | refine CT ?_ | (refine DT ?_ ?_ <;> intro hc <;> try (exfalso; omega))) <;> repeat' refine CT ?_) | (first | (refine DSK ?_; clear hA a; intro a hA) | (first | (refine DLT ?_; clear hA hH; rintro _ w ⟨oN, rfl, hH⟩; refine ⟨STT, ?_⟩; intro a hA) | (refine DAT ?_; clear hA; rintro _ w ⟨oN, cN, rfl, hH2⟩; clear hH; have hH := (hH2 _ (by (repeat constructor))).tail; clear hH2; refine ⟨STT, ?_⟩; intro a hA))) )
  exact rt1 (.inl rfl) rfl hA rfl (.inl ⟨hbp, rfl, hH.perm (by (repeat (first | exact List.Perm.refl _ | exact List.Perm.nil | refine perm_pick 0 rfl ?_ | refine perm_pick 1 rfl ?_ | refine perm_pick 2 rfl ?_ | refine perm_pick 3 rfl ?_ | refine perm_pick 4 rfl ?_ | refine perm_pick 5 rfl ?_ | refine perm_pick 6 rfl ?_ | refine perm_pick 7 rfl ?_ | refine perm_pick 8 rfl ?_ | refine perm_pick 9 rfl ?_ | refine perm_pick 10 rfl ?_ | refine perm_pick 11 rfl ?_)))⟩)

theorem atk {g : Grs} {ks : List Int} {a : Atm} : atOk g ks a ↔ (a.k = 1 ∧ 0 ≤ a.n ∧ a.n ≤ 1048576 ∧ (a.n < 2 ∨ a.n ∈ ks)) ∨ (a.k = 2 ∧ -4611686018427387904 ≤ a.n ∧ a.n < 4611686018427387904) ∨ (a.k = 3 ∧ 0 ≤ a.n ∧ a.n < g.ss.l.length) := Iff.rfl
theorem ats_next {g : Grs} {ks : List Int} {p : Int} {l : List Atm} {i : Nat} {a : Atm} (h : l[i]? = some a) (hp : ∀ b ∈ l.take i, atOk g ks b) (ha : atOk g ks a) : ∀ b ∈ l.take (i + 1), atOk g ks b := by
  intro b hb
  rw [take_snoc h] at hb
  rcases List.mem_append.1 hb with h1 | h1
  · exact hp b h1
  · rw [List.mem_singleton] at h1
    exact h1 ▸ ha
theorem ats_no {g : Grs} {ks : List Int} {p : Int} {l : List Atm} {i : Nat} {a : Atm} (h : l[i]? = some a) (ha : ¬ atOk g ks a) : ¬ atsOk g ks p l := fun hc => ha (hc.1 a (List.mem_of_getElem? h))
theorem ats_many {g : Grs} {ks : List Int} {p : Int} {l : List Atm} {i : Nat} (hi : i < l.length) (h : 65536 < p + ((i + 1 : Nat) : Int)) : ¬ atsOk g ks p l := by
  rintro ⟨_, h2 | h2⟩
  · rw [h2] at hi
    cases hi
  · omega
set_option maxHeartbeats 4000000 in
theorem atoms_spec (w0 w : World) (H : List It) (c : Ck) (bC bW : Nat) (p : Int) (ks : List Int) (v : Vec Atm) (hH : HS w0 noM (cb bC 95 (encC c p) :: sk bW ks :: H) w) (hR : RdV w0 encAt v) (hp0 : 0 ≤ p) (hp1 : p ≤ 3000000) :
    Ret Try.prog 49 #[.pointer (some (bat bC 0)), .slice v.o v.l.length v.c, .map (some bW)] w (fun r w' =>
      (atsOk c.g ks p v.l ∧ r = .bool true ∧ HS w0 noM (cb bC 95 (encC c (p + v.l.length)) :: sk bW ks :: H) w') ∨
      (¬ atsOk c.g ks p v.l ∧ r = .bool false ∧ ∃ p', 0 ≤ p' ∧ p' ≤ 3000001 ∧ HS w0 noM (cb bC 95 (encC c p') :: sk bW ks :: H) w')) := by
  have hle := hR.le
  have hsp : Sp v.o v.l.length := hR.1.sp (sz := 2) (flat_length encAt_len _) (by omega)
  (refine enter (N := 82) Try.func49 rfl Try.ntmps49 rfl ?_; intro a hA; dsimp only [sl0, Nat.reduceAdd] at hA)
  repeat' (first | (first | (refine GT ?_ ?_ <;> intro hg <;> clear hA a <;> intro a hA <;> (first | exact FA | replace hg := of_decide_eq_true hg | replace hg := of_decide_eq_false hg | skip)) | (refine QT ?_; clear hA a; intro a hA) | (first | (refine BT ?_; clear hA hH; rintro _ w ⟨bN, rfl, hH⟩ a hA) | (refine LT ?_; clear hA hH; rintro _ w ⟨oN, rfl, hH⟩ a hA) | (refine AT ?_; clear hA; rintro _ w ⟨oN, cN, rfl, hH2⟩ a hA; clear hH; have hH := (hH2 _ (by (repeat constructor))).tail; clear hH2) | (refine S0T ?_; clear hH; rintro _ w hH) )) | ((first | refine CT ?_ | (refine DT ?_ ?_ <;> intro hc <;> try (exfalso; omega))) <;> repeat' refine CT ?_) | (first | (refine DSK ?_; clear hA a; intro a hA) | (first | (refine DLT ?_; clear hA hH; rintro _ w ⟨oN, rfl, hH⟩; refine ⟨STT, ?_⟩; intro a hA) | (refine DAT ?_; clear hA; rintro _ w ⟨oN, cN, rfl, hH2⟩; clear hH; have hH := (hH2 _ (by (repeat constructor))).tail; clear hH2; refine ⟨STT, ?_⟩; intro a hA))) )
  refine wp_lpk (S := Nat) (fun i a w => (i ≤ v.l.length ∧ (∀ b ∈ v.l.take i, atOk c.g ks b) ∧ (i = 0 ∨ p + i ≤ 65536)) ∧ HS w0 noM (cb bC 95 (encC c (p + i)) :: sk bW ks :: H) w ∧ Sl 82 [(12, .int .i64 i), (11, .int .i64 v.l.length), (10, .slice v.o v.l.length v.c), (0, .pointer (some (bat bC 0))), (2, .map (some bW))] a) (fun i => v.l.length - i)
    (fun a w => atsOk c.g ks p v.l ∧ HS w0 noM (cb bC 95 (encC c (p + v.l.length)) :: sk bW ks :: H) w ∧ Sl 82 [] a) 0 ⟨⟨Nat.zero_le _, (by rw [List.take_zero]; exact fun b h => absurd h List.not_mem_nil), .inl rfl⟩, (by rw [show p + ((0 : Nat) : Int) = p by omega]; exact hH), (hA.sub (by (repeat (first | exact trivial | refine ⟨rfl, ?_⟩))))⟩ ?_ ?_
  · clear hA hH
    rintro i a w ⟨⟨hi, hok, hpi⟩, hH, hA⟩
    by_cases hlt : i < v.l.length
    rotate_left
    · obtain rfl : i = v.l.length := by omega
      rw [List.take_length] at hok
      repeat' (first | (first | (refine GT ?_ ?_ <;> intro hg <;> clear hA a <;> intro a hA <;> (first | exact FA | replace hg := of_decide_eq_true hg | replace hg := of_decide_eq_false hg | skip)) | (refine QT ?_; clear hA a; intro a hA) | (first | (refine BT ?_; clear hA hH; rintro _ w ⟨bN, rfl, hH⟩ a hA) | (refine LT ?_; clear hA hH; rintro _ w ⟨oN, rfl, hH⟩ a hA) | (refine AT ?_; clear hA; rintro _ w ⟨oN, cN, rfl, hH2⟩ a hA; clear hH; have hH := (hH2 _ (by (repeat constructor))).tail; clear hH2) | (refine S0T ?_; clear hH; rintro _ w hH) )) | ((first | refine CT ?_ | (refine DT ?_ ?_ <;> intro hc <;> try (exfalso; omega))) <;> repeat' refine CT ?_) | (first | (refine DSK ?_; clear hA a; intro a hA) | (first | (refine DLT ?_; clear hA hH; rintro _ w ⟨oN, rfl, hH⟩; refine ⟨STT, ?_⟩; intro a hA) | (refine DAT ?_; clear hA; rintro _ w ⟨oN, cN, rfl, hH2⟩; clear hH; have hH := (hH2 _ (by (repeat constructor))).tail; clear hH2; refine ⟨STT, ?_⟩; intro a hA))) )
      exact ⟨⟨hok, hpi.imp (fun h => List.length_eq_zero_iff.1 h) id⟩, hH, (hA.sub (by (repeat (first | exact trivial | refine ⟨rfl, ?_⟩))))⟩
    obtain ⟨x, hx⟩ : ∃ x, v.l[i]? = some x := ⟨_, List.getElem?_eq_getElem hlt⟩
    have hvs := flat_all encAt_len hx
    have hpb : p + (i : Int) ≤ 3000000 := by rcases hpi with h | h <;> omega
    have e1 : p + (i : Int) + 1 = p + ((i + 1 : Nat) : Int) := by omega
    repeat' (first | (first | (refine GT ?_ ?_ <;> intro hg <;> clear hA a <;> intro a hA <;> (first | exact FA | replace hg := of_decide_eq_true hg | replace hg := of_decide_eq_false hg | skip)) | ((first | apply st_ex hA hH rfl rfl (by decide) | apply dr_ex hA rfl rfl rfl (by decide) | apply dr_exp hA rfl rfl rfl (by decide) | apply dr_ex3 hA hH rfl rfl rfl (by decide)); (first | (apply ex_hasK; rfl; rfl; exact MEMT) | (apply ex_load_st (vs := encAt x); rfl; rfl; exact cls_rd hR.1 id hvs)); clear hA a; intro a hA) | (refine QT ?_; clear hA a; intro a hA) | (first | (refine BT ?_; clear hA hH; rintro _ w ⟨bN, rfl, hH⟩ a hA) | (refine LT ?_; clear hA hH; rintro _ w ⟨oN, rfl, hH⟩ a hA) | (refine AT ?_; clear hA; rintro _ w ⟨oN, cN, rfl, hH2⟩ a hA; clear hH; have hH := (hH2 _ (by (repeat constructor))).tail; clear hH2) | (refine S0T ?_; clear hH; rintro _ w hH) | (apply st_op0 hA rfl rfl; apply op_store_agg (vs := encAt x); rfl; rfl; exact hH; (repeat constructor); (repeat rfl); clear hH; rintro _ w hH) | (apply st_op0 hA rfl rfl; apply op_store_fld (cs' := encC c (p + (i : Int) + 1)); rfl; rfl; rfl; exact hH; (repeat constructor); clear hH; rintro _ w hH))) | ((first | refine CT ?_ | (refine DT ?_ ?_ <;> intro hc <;> try (exfalso; omega))) <;> repeat' refine CT ?_) | (first | (refine DSK ?_; clear hA a; intro a hA) | (first | (refine DLT ?_; clear hA hH; rintro _ w ⟨oN, rfl, hH⟩; refine ⟨STT, ?_⟩; intro a hA) | (refine DAT ?_; clear hA; rintro _ w ⟨oN, cN, rfl, hH2⟩; clear hH; have hH := (hH2 _ (by (repeat constructor))).tail; clear hH2; refine ⟨STT, ?_⟩; intro a hA))) | (refine wp_draw_HS [(0, 1), (1, 1), (2, 1), (3, 1), (4, 1), (5, 1), (6, 1), (7, 1), (8, 1), (9, 1), (10, 1), (11, 1), (12, 1), (13, 1), (14, 1)] mixed (by decide +kernel) hH ?_; replace hH := hH.drew))
    all_goals first
      | exact ⟨i + 1, ⟨⟨hlt, ats_next (p := p) hx hok (by first | exact .inl ⟨by assumption, by assumption, by assumption, .inl (by assumption)⟩ | exact .inl ⟨by assumption, by assumption, by assumption, .inr (nd_f (by assumption))⟩ | exact .inr (.inl ⟨by assumption, by assumption, nd_f (by assumption)⟩) | exact .inr (.inr ⟨by assumption, by assumption, nd_f (by assumption)⟩)), .inr (by omega)⟩, (by rw [← e1]; exact hH.tail), (hA.sub (by (repeat (first | exact trivial | refine ⟨rfl, ?_⟩))))⟩, by omega⟩
      | exact rt1 (.inl rfl) rfl hA rfl (.inr ⟨ats_many hlt (by omega), rfl, _, by omega, by omega, hH.tail⟩)
      | exact rt1 (.inl rfl) rfl hA rfl (.inr ⟨ats_no hx (fun h => (by rcases atk.1 h with ⟨h1, h2, h3, h4⟩ | ⟨h1, h2, h3⟩ | ⟨h1, h2, h3⟩ <;> first | omega | exact absurd h3 (nd_t (by assumption)) | (rcases h4 with h4 | h4 <;> first | omega | exact absurd h4 (nd_t (by assumption))))), rfl, _, by omega, by omega, hH.tail⟩)
  clear hA hH
  rintro a w ⟨hok, hH, hA⟩
  repeat' (first | (first | (refine GT ?_ ?_ <;> intro hg <;> clear hA a <;> intro a hA <;> (first | exact FA | replace hg := of_decide_eq_true hg | replace hg := of_decide_eq_false hg | skip)) | (refine QT ?_; clear hA a; intro a hA) | (first | (refine BT ?_; clear hA hH; rintro _ w ⟨bN, rfl, hH⟩ a hA) | (refine LT ?_; clear hA hH; rintro _ w ⟨oN, rfl, hH⟩ a hA) | (refine AT ?_; clear hA; rintro _ w ⟨oN, cN, rfl, hH2⟩ a hA; clear hH; have hH := (hH2 _ (by (repeat constructor))).tail; clear hH2) | (refine S0T ?_; clear hH; rintro _ w hH) )) | ((first | refine CT ?_ | (refine DT ?_ ?_ <;> intro hc <;> try (exfalso; omega))) <;> repeat' refine CT ?_) | (first | (refine DSK ?_; clear hA a; intro a hA) | (first | (refine DLT ?_; clear hA hH; rintro _ w ⟨oN, rfl, hH⟩; refine ⟨STT, ?_⟩; intro a hA) | (refine DAT ?_; clear hA; rintro _ w ⟨oN, cN, rfl, hH2⟩; clear hH; have hH := (hH2 _ (by (repeat constructor))).tail; clear hH2; refine ⟨STT, ?_⟩; intro a hA))) )
  exact rt1 (.inl rfl) rfl hA rfl (.inl ⟨hok, rfl, hH⟩)
end Go.Proofs.Ytjfanjcoppeeaaa
namespace Go.Proofs.Ytjfanjcoppeeaaa
open Go Go.Fw
set_option linter.unusedVariables false
theorem ints_at {l : List Int} {k : Nat} (h : k < l.length) : (flat Fw.encI l)[k * 1]? = some (.int .i64 (l.getD k 0)) := by
  refine flat_get (off := 0) Fw.encI_len (List.getElem?_eq_getElem h) ?_
  rw [List.getD_eq_getElem?_getD, List.getElem?_eq_getElem h]
  rfl
/-- a program of the older form: its functions' slice, the graphs' names -/
def encP (o : Option Addr) (n c : Nat) (g : Grs) : List Value := [.slice o n c, .slice g.ls.o g.ls.l.length g.ls.c, .slice g.ts.o g.ts.l.length g.ts.c, .slice g.xs.o g.xs.l.length g.xs.c, .slice g.ss.o g.ss.l.length g.ss.c]
theorem and_dec {p q : Prop} [Decidable p] [Decidable q] (h : p) : decide q = decide (p ∧ q) := by
  by_cases hq : q
  · rw [decide_eq_true hq, decide_eq_true ⟨h, hq⟩]
  · rw [decide_eq_false hq, decide_eq_false (fun h => hq h.2)]
set_option maxRecDepth 10000 attribute [local irreducible] Code.wp wpList Calls Ex Op1 sat bat blk cb own Go.Fw.mp Go.Fw.mpO Go.Fw.mpI Go.Fw.mpE Go.Fw.itr HS Rd Ret wkD Hp Cl Cls Exit.then Exit.inBlock Exit.noGoto bodyPost Go.Fw.flat wk2 Go.Fw.all Go.Fw.owns wpOp
attribute [local irreducible] sk mpK srt sko mvO entK

set_option maxHeartbeats 4000000 in
theorem below_spec (w0 : World) (n m : Int) : Ret Try.prog 86 #[.int .i64 n, .int .i64 m] w0 (fun v w => v = .bool (decide (0 ≤ n ∧ n < m)) ∧ Kp w0 noM w) := by
  have hH : HS w0 noM [] w0 := HS.init w0 noM
  (refine enter (N := 12) Try.func86 rfl Try.ntmps86 rfl ?_; intro a hA; dsimp only [sl0, Nat.reduceAdd] at hA)
  repeat' (first | (first | (refine GT ?_ ?_ <;> intro hg <;> clear hA a <;> intro a hA <;> (first | exact FA | replace hg := of_decide_eq_true hg | replace hg := of_decide_eq_false hg | skip)) | (refine QT ?_; clear hA a; intro a hA) | (first | (refine BT ?_; clear hA hH; rintro _ w ⟨bN, rfl, hH⟩ a hA) | (refine LT ?_; clear hA hH; rintro _ w ⟨oN, rfl, hH⟩ a hA) | (refine AT ?_; clear hA; rintro _ w ⟨oN, cN, rfl, hH2⟩ a hA; clear hH; have hH := (hH2 _ (by (repeat constructor))).tail; clear hH2) | (refine S0T ?_; clear hH; rintro _ w hH) )) | ((first | refine CT ?_ | (refine DT ?_ ?_ <;> intro hc <;> try (exfalso; omega))) <;> repeat' refine CT ?_) | (first | (refine DSK ?_; clear hA a; intro a hA) | (first | (refine DLT ?_; clear hA hH; rintro _ w ⟨oN, rfl, hH⟩; refine ⟨STT, ?_⟩; intro a hA) | (refine DAT ?_; clear hA; rintro _ w ⟨oN, cN, rfl, hH2⟩; clear hH; have hH := (hH2 _ (by (repeat constructor))).tail; clear hH2; refine ⟨STT, ?_⟩; intro a hA))) )
  · exact rt1 (.inl rfl) rfl hA rfl ⟨by rw [and_dec (p := 0 ≤ n) (by assumption)], hH.kp⟩
  · exact rt1 (.inl rfl) rfl hA rfl ⟨by rw [decide_eq_false]; exact fun h => (by assumption : ¬ 0 ≤ n) h.1, hH.kp⟩
set_option maxHeartbeats 4000000 in
theorem arity_spec (w0 : World) (n : Int) : Ret Try.prog 85 #[.int .i64 n] w0 (fun v w => ∃ m, v = .int .i64 m ∧ Kp w0 noM w) := by
  have hH : HS w0 noM [] w0 := HS.init w0 noM
  (refine enter (N := 21) Try.func85 rfl Try.ntmps85 rfl ?_; intro a hA; dsimp only [sl0, Nat.reduceAdd] at hA)
  repeat' (first | (first | (refine GT ?_ ?_ <;> intro hg <;> clear hA a <;> intro a hA <;> (first | exact FA | replace hg := of_decide_eq_true hg | replace hg := of_decide_eq_false hg | skip)) | (refine QT ?_; clear hA a; intro a hA) | (first | (refine BT ?_; clear hA hH; rintro _ w ⟨bN, rfl, hH⟩ a hA) | (refine LT ?_; clear hA hH; rintro _ w ⟨oN, rfl, hH⟩ a hA) | (refine AT ?_; clear hA; rintro _ w ⟨oN, cN, rfl, hH2⟩ a hA; clear hH; have hH := (hH2 _ (by (repeat constructor))).tail; clear hH2) | (refine S0T ?_; clear hH; rintro _ w hH) )) | ((first | refine CT ?_ | (refine DT ?_ ?_ <;> intro hc <;> try (exfalso; omega))) <;> repeat' refine CT ?_) | (first | (refine DSK ?_; clear hA a; intro a hA) | (first | (refine DLT ?_; clear hA hH; rintro _ w ⟨oN, rfl, hH⟩; refine ⟨STT, ?_⟩; intro a hA) | (refine DAT ?_; clear hA; rintro _ w ⟨oN, cN, rfl, hH2⟩; clear hH; have hH := (hH2 _ (by (repeat constructor))).tail; clear hH2; refine ⟨STT, ?_⟩; intro a hA))) )
  all_goals exact rt1 (.inl rfl) rfl hA rfl ⟨_, rfl, hH.kp⟩
set_option maxHeartbeats 8000000 in
theorem Step_spec (w0 : World) (oP : Option Addr) (nP cP : Nat) (g : Grs) (oA : Option Addr) (cA : Nat) (la : List Int) (mine : Int) (r : Stp) (hA0 : Rd w0 oA (flat Fw.encI la)) (hla : la.length ≤ 9223372036854775807) (hN : RdV w0 Fw.encI r.ns) :
    Ret Try.prog 76 #[.agg (encP oP nP cP g).toArray, .slice oA la.length cA, .int .i64 mine, .agg (encSt r).toArray] w0 (fun v w => ∃ b, v = .bool b ∧ Kp w0 noM w) := by
  have hH : HS w0 noM [] w0 := HS.init w0 noM
  have hle := hN.le
  have hspA : Sp oA la.length := hA0.sp (sz := 1) (flat_length Fw.encI_len _) (by omega)
  have hspN : Sp r.ns.o r.ns.l.length := hN.1.sp (sz := 1) (flat_length Fw.encI_len _) (by omega)
  (refine enter (N := 134) Try.func76 rfl Try.ntmps76 rfl ?_; intro a hA; dsimp only [sl0, Nat.reduceAdd] at hA)
  repeat' (first | (first | (refine GT ?_ ?_ <;> intro hg <;> clear hA a <;> intro a hA <;> (first | exact FA | replace hg := of_decide_eq_true hg | replace hg := of_decide_eq_false hg | skip)) | (refine QT ?_; clear hA a; intro a hA) | (first | (refine BT ?_; clear hA hH; rintro _ w ⟨bN, rfl, hH⟩ a hA) | (refine LT ?_; clear hA hH; rintro _ w ⟨oN, rfl, hH⟩ a hA) | (refine AT ?_; clear hA; rintro _ w ⟨oN, cN, rfl, hH2⟩ a hA; clear hH; have hH := (hH2 _ (by (repeat constructor))).tail; clear hH2) | (refine S0T ?_; clear hH; rintro _ w hH) )) | ((first | refine CT ?_ | (refine DT ?_ ?_ <;> intro hc <;> try (exfalso; omega))) <;> repeat' refine CT ?_) | (first | (refine DSK ?_; clear hA a; intro a hA) | (first | (refine DLT ?_; clear hA hH; rintro _ w ⟨oN, rfl, hH⟩; refine ⟨STT, ?_⟩; intro a hA) | (refine DAT ?_; clear hA; rintro _ w ⟨oN, cN, rfl, hH2⟩; clear hH; have hH := (hH2 _ (by (repeat constructor))).tail; clear hH2; refine ⟨STT, ?_⟩; intro a hA))) )
  obtain ⟨b7, hb7⟩ : ∃ x, x = bN := ⟨_, rfl⟩
  rw [← hb7] at hA hH
  clear hb7
  rename_i b4 _
  have hX := hH
  (refine wp_draw_HS [(0, 1), (1, 1), (2, 1), (3, 1), (4, 1)] mixed (by decide +kernel) hH ?_; replace hH := hH.drew)
  (first | (apply dr_exb hA rfl rfl rfl (by decide) rfl (ex_move rfl) <;> intro hg <;> clear hA a <;> intro a hA <;> (first | (replace hg := of_decide_eq_true hg; try (exfalso; omega)) | (replace hg := of_decide_eq_false hg; try (exfalso; omega)) | (exact absurd hg (by decide)) | skip)) | (apply dr_ex hA rfl rfl rfl (by decide); (first | (apply ex_move; rfl) | (apply ex_assign; rfl)  | exact EXT); clear hA a; intro a hA) | (apply dr_skip hA rfl rfl rfl (by decide); clear hA a; intro a hA) | (apply dr_exp hA rfl rfl rfl (by decide); (first | (apply ex_move; rfl) | (apply ex_assign; rfl)  | exact EXT); clear hA a; intro a hA) | (apply dr_ex3 hA hH rfl rfl rfl (by decide); (first | (apply ex_move; rfl) | (apply ex_assign; rfl)  | exact EXT); clear hA a; intro a hA) | (apply dr_skip3 hA rfl rfl rfl (by decide); clear hA a; intro a hA) | apply dr_nil | apply dr_late | apply dr_nil2)
  (first | (apply dr_exb hA rfl rfl rfl (by decide) rfl (ex_move rfl) <;> intro hg <;> clear hA a <;> intro a hA <;> (first | (replace hg := of_decide_eq_true hg; try (exfalso; omega)) | (replace hg := of_decide_eq_false hg; try (exfalso; omega)) | (exact absurd hg (by decide)) | skip)) | (apply dr_ex hA rfl rfl rfl (by decide); (first | (apply ex_move; rfl) | (apply ex_assign; rfl)  | exact EXT); clear hA a; intro a hA) | (apply dr_skip hA rfl rfl rfl (by decide); clear hA a; intro a hA) | (apply dr_exp hA rfl rfl rfl (by decide); (first | (apply ex_move; rfl) | (apply ex_assign; rfl)  | exact EXT); clear hA a; intro a hA) | (apply dr_ex3 hA hH rfl rfl rfl (by decide); (first | (apply ex_move; rfl) | (apply ex_assign; rfl)  | exact EXT); clear hA a; intro a hA) | (apply dr_skip3 hA rfl rfl rfl (by decide); clear hA a; intro a hA) | apply dr_nil | apply dr_late | apply dr_nil2)
  clear hH
  have hH : HS w0 noM [] w.drew := hX.drop_.drew
  repeat' (first | (first | (refine GT ?_ ?_ <;> intro hg <;> clear hA a <;> intro a hA <;> (first | exact FA | replace hg := of_decide_eq_true hg | replace hg := of_decide_eq_false hg | skip)) | (refine QT ?_; clear hA a; intro a hA) | (first | (refine BT ?_; clear hA hH; rintro _ w ⟨bN, rfl, hH⟩ a hA) | (refine LT ?_; clear hA hH; rintro _ w ⟨oN, rfl, hH⟩ a hA) | (refine AT ?_; clear hA; rintro _ w ⟨oN, cN, rfl, hH2⟩ a hA; clear hH; have hH := (hH2 _ (by (repeat constructor))).tail; clear hH2) | (refine S0T ?_; clear hH; rintro _ w hH) )) | ((first | refine CT ?_ | (refine DT ?_ ?_ <;> intro hc <;> try (exfalso; omega))) <;> repeat' refine CT ?_) | (first | (refine DSK ?_; clear hA a; intro a hA) | (first | (refine DLT ?_; clear hA hH; rintro _ w ⟨oN, rfl, hH⟩; refine ⟨STT, ?_⟩; intro a hA) | (refine DAT ?_; clear hA; rintro _ w ⟨oN, cN, rfl, hH2⟩; clear hH; have hH := (hH2 _ (by (repeat constructor))).tail; clear hH2; refine ⟨STT, ?_⟩; intro a hA))) )
  replace hH := hX.drew
  clear hX
  refine st_join (fun a w => ∃ (wt : Int) (n : Bool), HS w0 noM [cb b7 56 (encSt r), cb b4 88 (encP oP nP cP g)] w ∧ Sl 134 [(8, .bool false), (9, .int .i64 wt), (10, .bool n), (7, .pointer (some (bat b7 0)))] a) ?_ ?_
  · repeat' (first | (first | (refine GT ?_ ?_ <;> intro hg <;> clear hA a <;> intro a hA <;> (first | exact FA | replace hg := of_decide_eq_true hg | replace hg := of_decide_eq_false hg | skip)) | ((first | apply st_ex hA hH rfl rfl (by decide) | apply dr_ex hA rfl rfl rfl (by decide) | apply dr_exp hA rfl rfl rfl (by decide) | apply dr_ex3 hA hH rfl rfl rfl (by decide)); (first | (apply ex_indexAddr; rfl; rfl; omega; omega; exact hspA) | (apply ex_load; rfl; refine cl_rd hA0 id (ints_at ?_); omega)); clear hA a; intro a hA) | (refine QT ?_; clear hA a; intro a hA) | (first | (refine BT ?_; clear hA hH; rintro _ w ⟨bN, rfl, hH⟩ a hA) | (refine LT ?_; clear hA hH; rintro _ w ⟨oN, rfl, hH⟩ a hA) | (refine AT ?_; clear hA; rintro _ w ⟨oN, cN, rfl, hH2⟩ a hA; clear hH; have hH := (hH2 _ (by (repeat constructor))).tail; clear hH2) | (refine S0T ?_; clear hH; rintro _ w hH) | (refine st_op hA rfl rfl (by decide) (op_call rfl rfl rfl (below_spec _ _ _)) ?_; clear hA; rintro _ w ⟨rfl, hk⟩ a hA; replace hH := hH.keep hk; clear hk) | (refine st_op hA rfl rfl (by decide) (op_call rfl rfl rfl (arity_spec _ _)) ?_; clear hA; rintro _ w ⟨m, rfl, hk⟩ a hA; replace hH := hH.keep hk; clear hk))) | ((first | refine CT ?_ | (refine DT ?_ ?_ <;> intro hc <;> try (exfalso; omega))) <;> repeat' refine CT ?_) | (first | (refine DSK ?_; clear hA a; intro a hA) | (first | (refine DLT ?_; clear hA hH; rintro _ w ⟨oN, rfl, hH⟩; refine ⟨STT, ?_⟩; intro a hA) | (refine DAT ?_; clear hA; rintro _ w ⟨oN, cN, rfl, hH2⟩; clear hH; have hH := (hH2 _ (by (repeat constructor))).tail; clear hH2; refine ⟨STT, ?_⟩; intro a hA))) )
    all_goals first | exact ⟨_, _, hH, (hA.sub (by (repeat (first | exact trivial | refine ⟨rfl, ?_⟩))))⟩ | exact rt1 (.inl rfl) rfl hA rfl ⟨_, rfl, hH.kp⟩ | skip
    refine wp_lpk (S := Nat) (fun i a w => (i ≤ r.ns.l.length) ∧ HS w0 noM [cb b7 56 (encSt r), cb b4 88 (encP oP nP cP g)] w ∧ Sl 134 [(58, .int .i64 i), (57, .int .i64 r.ns.l.length), (56, .slice r.ns.o r.ns.l.length r.ns.c), (8, .bool false), (9, .int .i64 r.ns.l.length), (10, .bool (decide (r.n = 0))), (7, .pointer (some (bat b7 0))), (4, .pointer (some (bat b4 0)))] a) (fun i => r.ns.l.length - i)
      (fun a w => HS w0 noM [cb b7 56 (encSt r), cb b4 88 (encP oP nP cP g)] w ∧ Sl 134 [(8, .bool false), (9, .int .i64 r.ns.l.length), (10, .bool (decide (r.n = 0))), (7, .pointer (some (bat b7 0)))] a) 0 ⟨Nat.zero_le _, hH, (hA.sub (by (repeat (first | exact trivial | refine ⟨rfl, ?_⟩))))⟩ ?_ ?_
    · clear hA hH
      rintro i a w ⟨hi, hH, hA⟩
      by_cases hlt : i < r.ns.l.length
      rotate_left
      · repeat' (first | (first | (refine GT ?_ ?_ <;> intro hg <;> clear hA a <;> intro a hA <;> (first | exact FA | replace hg := of_decide_eq_true hg | replace hg := of_decide_eq_false hg | skip)) | (refine QT ?_; clear hA a; intro a hA) | (first | (refine BT ?_; clear hA hH; rintro _ w ⟨bN, rfl, hH⟩ a hA) | (refine LT ?_; clear hA hH; rintro _ w ⟨oN, rfl, hH⟩ a hA) | (refine AT ?_; clear hA; rintro _ w ⟨oN, cN, rfl, hH2⟩ a hA; clear hH; have hH := (hH2 _ (by (repeat constructor))).tail; clear hH2) | (refine S0T ?_; clear hH; rintro _ w hH) )) | ((first | refine CT ?_ | (refine DT ?_ ?_ <;> intro hc <;> try (exfalso; omega))) <;> repeat' refine CT ?_) | (first | (refine DSK ?_; clear hA a; intro a hA) | (first | (refine DLT ?_; clear hA hH; rintro _ w ⟨oN, rfl, hH⟩; refine ⟨STT, ?_⟩; intro a hA) | (refine DAT ?_; clear hA; rintro _ w ⟨oN, cN, rfl, hH2⟩; clear hH; have hH := (hH2 _ (by (repeat constructor))).tail; clear hH2; refine ⟨STT, ?_⟩; intro a hA))) )
        exact ⟨hH, (hA.sub (by (repeat (first | exact trivial | refine ⟨rfl, ?_⟩))))⟩
      repeat' (first | (first | (refine GT ?_ ?_ <;> intro hg <;> clear hA a <;> intro a hA <;> (first | exact FA | replace hg := of_decide_eq_true hg | replace hg := of_decide_eq_false hg | skip)) | ((first | apply st_ex hA hH rfl rfl (by decide) | apply dr_ex hA rfl rfl rfl (by decide) | apply dr_exp hA rfl rfl rfl (by decide) | apply dr_ex3 hA hH rfl rfl rfl (by decide)); (first | (apply ex_indexAddr_nat; rfl; rfl; omega; exact hspN) | (apply ex_indexAddr; rfl; rfl; omega; omega; exact hspN) | (apply ex_load; rfl; refine cl_rd hN.1 id (ints_at ?_); omega)); clear hA a; intro a hA) | (refine QT ?_; clear hA a; intro a hA) | (first | (refine BT ?_; clear hA hH; rintro _ w ⟨bN, rfl, hH⟩ a hA) | (refine LT ?_; clear hA hH; rintro _ w ⟨oN, rfl, hH⟩ a hA) | (refine AT ?_; clear hA; rintro _ w ⟨oN, cN, rfl, hH2⟩ a hA; clear hH; have hH := (hH2 _ (by (repeat constructor))).tail; clear hH2) | (refine S0T ?_; clear hH; rintro _ w hH) | (refine st_op hA rfl rfl (by decide) (op_call rfl rfl rfl (below_spec _ _ _)) ?_; clear hA; rintro _ w ⟨rfl, hk⟩ a hA; replace hH := hH.keep hk; clear hk))) | ((first | refine CT ?_ | (refine DT ?_ ?_ <;> intro hc <;> try (exfalso; omega))) <;> repeat' refine CT ?_) | (first | (refine DSK ?_; clear hA a; intro a hA) | (first | (refine DLT ?_; clear hA hH; rintro _ w ⟨oN, rfl, hH⟩; refine ⟨STT, ?_⟩; intro a hA) | (refine DAT ?_; clear hA; rintro _ w ⟨oN, cN, rfl, hH2⟩; clear hH; have hH := (hH2 _ (by (repeat constructor))).tail; clear hH2; refine ⟨STT, ?_⟩; intro a hA))) )
      all_goals first | exact ⟨i + 1, ⟨hlt, hH, (hA.sub (by (repeat (first | exact trivial | refine ⟨rfl, ?_⟩))))⟩, by omega⟩ | exact rt1 (.inl rfl) rfl hA rfl ⟨_, rfl, hH.kp⟩ | skip
    clear hA hH
    rintro a w ⟨hH, hA⟩
    repeat' (first | (first | (refine GT ?_ ?_ <;> intro hg <;> clear hA a <;> intro a hA <;> (first | exact FA | replace hg := of_decide_eq_true hg | replace hg := of_decide_eq_false hg | skip)) | (refine QT ?_; clear hA a; intro a hA) | (first | (refine BT ?_; clear hA hH; rintro _ w ⟨bN, rfl, hH⟩ a hA) | (refine LT ?_; clear hA hH; rintro _ w ⟨oN, rfl, hH⟩ a hA) | (refine AT ?_; clear hA; rintro _ w ⟨oN, cN, rfl, hH2⟩ a hA; clear hH; have hH := (hH2 _ (by (repeat constructor))).tail; clear hH2) | (refine S0T ?_; clear hH; rintro _ w hH) )) | ((first | refine CT ?_ | (refine DT ?_ ?_ <;> intro hc <;> try (exfalso; omega))) <;> repeat' refine CT ?_) | (first | (refine DSK ?_; clear hA a; intro a hA) | (first | (refine DLT ?_; clear hA hH; rintro _ w ⟨oN, rfl, hH⟩; refine ⟨STT, ?_⟩; intro a hA) | (refine DAT ?_; clear hA; rintro _ w ⟨oN, cN, rfl, hH2⟩; clear hH; have hH := (hH2 _ (by (repeat constructor))).tail; clear hH2; refine ⟨STT, ?_⟩; intro a hA))) )
    all_goals exact ⟨_, _, hH, (hA.sub (by (repeat (first | exact trivial | refine ⟨rfl, ?_⟩))))⟩
  clear hA hH
  rintro a w ⟨wt, n, hH, hA⟩
  repeat' (first | (first | (refine GT ?_ ?_ <;> intro hg <;> clear hA a <;> intro a hA <;> (first | exact FA | replace hg := of_decide_eq_true hg | replace hg := of_decide_eq_false hg | skip)) | (refine QT ?_; clear hA a; intro a hA) | (first | (refine BT ?_; clear hA hH; rintro _ w ⟨bN, rfl, hH⟩ a hA) | (refine LT ?_; clear hA hH; rintro _ w ⟨oN, rfl, hH⟩ a hA) | (refine AT ?_; clear hA; rintro _ w ⟨oN, cN, rfl, hH2⟩ a hA; clear hH; have hH := (hH2 _ (by (repeat constructor))).tail; clear hH2) | (refine S0T ?_; clear hH; rintro _ w hH) )) | ((first | refine CT ?_ | (refine DT ?_ ?_ <;> intro hc <;> try (exfalso; omega))) <;> repeat' refine CT ?_) | (first | (refine DSK ?_; clear hA a; intro a hA) | (first | (refine DLT ?_; clear hA hH; rintro _ w ⟨oN, rfl, hH⟩; refine ⟨STT, ?_⟩; intro a hA) | (refine DAT ?_; clear hA; rintro _ w ⟨oN, cN, rfl, hH2⟩; clear hH; have hH := (hH2 _ (by (repeat constructor))).tail; clear hH2; refine ⟨STT, ?_⟩; intro a hA))) )
  all_goals exact rt1 (.inl rfl) rfl hA rfl ⟨_, rfl, hH.kp⟩
end Go.Proofs.Ytjfanjcoppeeaaa
namespace Go.Proofs.Ytjfanjcoppeeaaa
open Go Go.Fw
set_option linter.unusedVariables false
instance : TAr Try.prog 149 2 3 := ⟨Try.underlying149⟩
theorem ex_lookup2 {P : Program} {N : Nat} {l : List (Nat × Value)} {d : Option Tmp} {T : TypeId} {pos : String} {af : Array Edge} {g : Option (Nat × Bool)} {t kt e sz by_ b : Nat} {kk : IntKind} {z u v : Value} {zs : List Value} {x y : Operand} {m : List (Int × Value)} {k : Int} {ok : Bool} {w0 : World} {M : Nat → Prop} {H : List It} [ht : TMp P t kt e] [hk : TIn P kt kk] [hi : TIf P e z zs sz by_]
    (hx : ev l x = some (.map (some b))) (hy : ev l y = some (.int .i64 k)) (hm : mp b m ∈ H) (h1 : (mv m k).getD z = .agg #[u, v]) (h2 : (mv m k).isSome = ok) : Ex P N l (HS w0 M H) ⟨d, .lookup t x y true, T, pos, af, g⟩ (.tuple #[.agg #[u, v], .bool ok]) := by
  rw [← h1, ← h2]
  exact ex_lookup_ok hx hy hm
def pairV (a b : Int) : Value := .agg #[.int .i64 a, .int .i64 b]
/-- how many atoms and edges each end has -/
def endM (n : Int) : List (Int × Value) := mset (mset (mset (mset (mset (mset [] 1 (pairV 1 0)) 2 (pairV 2 0)) 3 (pairV 1 0)) 4 (pairV 0 1)) 5 (pairV 1 2)) 6 (pairV 1 n)
theorem endM_eq (n : Int) : endM n = [(1, pairV 1 0), (2, pairV 2 0), (3, pairV 1 0), (4, pairV 0 1), (5, pairV 1 2), (6, pairV 1 n)] := rfl
theorem endM_fold (n : Int) : mset (mset (mset (mset (mset (mset [] 1 (.agg #[.int .i64 1, .int .i64 0])) 2 (.agg #[.int .i64 2, .int .i64 0])) 3 (.agg #[.int .i64 1, .int .i64 0])) 4 (.agg #[.int .i64 0, .int .i64 1])) 5 (.agg #[.int .i64 1, .int .i64 2])) 6 (.agg #[.int .i64 1, .int .i64 n]) = endM n := rfl
theorem endM_at (n k : Int) : ∃ a b, (mv (endM n) k).getD (.agg #[.int .i64 0, .int .i64 0]) = .agg #[.int .i64 a, .int .i64 b] := by
  rw [endM_eq]
  unfold mv
  cases h : List.find? (fun e : Int × Value => e.1 == k) [(1, pairV 1 0), (2, pairV 2 0), (3, pairV 1 0), (4, pairV 0 1), (5, pairV 1 2), (6, pairV 1 n)] with
  | none => exact ⟨0, 0, rfl⟩
  | some e =>
    have hm := List.mem_of_find?_eq_some h
    simp only [List.mem_cons, List.not_mem_nil, or_false] at hm
    rcases hm with rfl | rfl | rfl | rfl | rfl | rfl <;> exact ⟨_, _, rfl⟩
set_option maxRecDepth 10000 attribute [local irreducible] Code.wp wpList Calls Ex Op1 sat bat blk cb own Go.Fw.mp Go.Fw.mpO Go.Fw.mpI Go.Fw.mpE Go.Fw.itr HS Rd Ret wkD Hp Cl Cls Exit.then Exit.inBlock Exit.noGoto bodyPost Go.Fw.flat wk2 Go.Fw.all Go.Fw.owns wpOp
attribute [local irreducible] sk mpK srt sko mvO entK endM Go.Fw.mset Go.Fw.mv

set_option maxHeartbeats 8000000 in
theorem end_spec (w0 : World) (e : En) (hN : RdV w0 Fw.encI e.ns) : Ret Try.prog 50 #[.agg (encEn e).toArray] w0 (fun v w => ∃ b, v = .bool b ∧ Kp w0 noM w) := by
  have hH : HS w0 noM [] w0 := HS.init w0 noM
  have hle := hN.le
  have hspN : Sp e.ns.o e.ns.l.length := hN.1.sp (sz := 1) (flat_length Fw.encI_len _) (by omega)
  (refine enter (N := 77) Try.func50 rfl Try.ntmps50 rfl ?_; intro a hA; dsimp only [sl0, Nat.reduceAdd] at hA)
  repeat' (first | (first | (refine GT ?_ ?_ <;> intro hg <;> clear hA a <;> intro a hA <;> (first | exact FA | replace hg := of_decide_eq_true hg | replace hg := of_decide_eq_false hg | skip)) | (refine QT ?_; clear hA a; intro a hA) | (first | (refine BT ?_; clear hA hH; rintro _ w ⟨bN, rfl, hH⟩ a hA) | (refine LT ?_; clear hA hH; rintro _ w ⟨oN, rfl, hH⟩ a hA) | (refine AT ?_; clear hA; rintro _ w ⟨oN, cN, rfl, hH2⟩ a hA; clear hH; have hH := (hH2 _ (by (repeat constructor))).tail; clear hH2) | (refine S0T ?_; clear hH; rintro _ w hH) )) | ((first | refine CT ?_ | (refine DT ?_ ?_ <;> intro hc <;> try (exfalso; omega))) <;> repeat' refine CT ?_) | (first | (refine DSK ?_; clear hA a; intro a hA) | (first | (refine DLT ?_; clear hA hH; rintro _ w ⟨oN, rfl, hH⟩; refine ⟨STT, ?_⟩; intro a hA) | (refine DAT ?_; clear hA; rintro _ w ⟨oN, cN, rfl, hH2⟩; clear hH; have hH := (hH2 _ (by (repeat constructor))).tail; clear hH2; refine ⟨STT, ?_⟩; intro a hA))) )
  obtain ⟨b1, hb1⟩ : ∃ x, x = bN := ⟨_, rfl⟩
  rw [← hb1] at hA hH
  clear hb1 bN
  (refine st_op hA rfl rfl (by decide) (op_makeMap hH) ?_; clear hA hH; rintro _ w ⟨bM, rfl, hH⟩ a hA)
  repeat' (first | (first | (refine GT ?_ ?_ <;> intro hg <;> clear hA a <;> intro a hA <;> (first | exact FA | replace hg := of_decide_eq_true hg | replace hg := of_decide_eq_false hg | skip)) | ((first | apply st_ex hA hH rfl rfl (by decide) | apply dr_ex hA rfl rfl rfl (by decide) | apply dr_exp hA rfl rfl rfl (by decide) | apply dr_ex3 hA hH rfl rfl rfl (by decide)); (first | (apply ex_build2; rfl; rfl; rfl; rfl; rfl) | (apply ex_addW; rfl; rfl)); clear hA a; intro a hA) | (refine QT ?_; clear hA a; intro a hA) | (first | (refine BT ?_; clear hA hH; rintro _ w ⟨bN, rfl, hH⟩ a hA) | (refine LT ?_; clear hA hH; rintro _ w ⟨oN, rfl, hH⟩ a hA) | (refine AT ?_; clear hA; rintro _ w ⟨oN, cN, rfl, hH2⟩ a hA; clear hH; have hH := (hH2 _ (by (repeat constructor))).tail; clear hH2) | (refine S0T ?_; clear hH; rintro _ w hH) | (apply st_op0 hA rfl rfl; apply op_insertV; rfl; rfl; rfl; exact hH; (repeat constructor); clear hH; rintro _ w hH))) | ((first | refine CT ?_ | (refine DT ?_ ?_ <;> intro hc <;> try (exfalso; omega))) <;> repeat' refine CT ?_) | (first | (refine DSK ?_; clear hA a; intro a hA) | (first | (refine DLT ?_; clear hA hH; rintro _ w ⟨oN, rfl, hH⟩; refine ⟨STT, ?_⟩; intro a hA) | (refine DAT ?_; clear hA; rintro _ w ⟨oN, cN, rfl, hH2⟩; clear hH; have hH := (hH2 _ (by (repeat constructor))).tail; clear hH2; refine ⟨STT, ?_⟩; intro a hA))) )
  rw [endM_fold] at hH
  obtain ⟨n, hn⟩ : ∃ x, x = IntKind.i64.wrap (e.ns.l.length + 1) := ⟨_, rfl⟩
  rw [← hn] at hA hH
  obtain ⟨h0, h1, hv⟩ := endM_at n e.k
  (refine st_ex hA hH rfl rfl (by decide) (ex_lookup2 (m := endM n) (k := e.k) rfl rfl (by exact MEMT) hv rfl) ?_; clear hA a; intro a hA)
  obtain ⟨ok, hok⟩ : ∃ x, x = (mv (endM n) e.k).isSome := ⟨_, rfl⟩
  rw [← hok] at hA
  repeat' (first | (first | (refine GT ?_ ?_ <;> intro hg <;> clear hA a <;> intro a hA <;> (first | exact FA | replace hg := of_decide_eq_true hg | replace hg := of_decide_eq_false hg | skip)) | ((first | apply st_ex hA hH rfl rfl (by decide) | apply dr_ex hA rfl rfl rfl (by decide) | apply dr_exp hA rfl rfl rfl (by decide) | apply dr_ex3 hA hH rfl rfl rfl (by decide)); (first | (apply ex_indexArr; rfl; rfl; decide)); clear hA a; intro a hA) | (refine QT ?_; clear hA a; intro a hA) | (first | (refine BT ?_; clear hA hH; rintro _ w ⟨bN, rfl, hH⟩ a hA) | (refine LT ?_; clear hA hH; rintro _ w ⟨oN, rfl, hH⟩ a hA) | (refine AT ?_; clear hA; rintro _ w ⟨oN, cN, rfl, hH2⟩ a hA; clear hH; have hH := (hH2 _ (by (repeat constructor))).tail; clear hH2) | (refine S0T ?_; clear hH; rintro _ w hH) | (apply st_op0 hA rfl rfl; apply op_store_agg (vs := [.int .i64 h0, .int .i64 h1]); rfl; rfl; exact hH; (repeat constructor); (repeat rfl); clear hH; rintro _ w hH))) | ((first | refine CT ?_ | (refine DT ?_ ?_ <;> intro hc <;> try (exfalso; omega))) <;> repeat' refine CT ?_) | (first | (refine DSK ?_; clear hA a; intro a hA) | (first | (refine DLT ?_; clear hA hH; rintro _ w ⟨oN, rfl, hH⟩; refine ⟨STT, ?_⟩; intro a hA) | (refine DAT ?_; clear hA; rintro _ w ⟨oN, cN, rfl, hH2⟩; clear hH; have hH := (hH2 _ (by (repeat constructor))).tail; clear hH2; refine ⟨STT, ?_⟩; intro a hA))) )
  all_goals first | exact rt1 (.inl rfl) rfl hA rfl ⟨_, rfl, hH.kp⟩ | skip
  refine wp_lpk (S := Nat) (fun i a w => (i ≤ e.ns.l.length) ∧ HS w0 noM [cb b1 50 (encEn e)] w ∧ Sl 77 [(57, .int .i64 i), (56, .int .i64 e.ns.l.length), (1, .pointer (some (bat b1 0)))] a) (fun i => e.ns.l.length - i)
    (fun a w => HS w0 noM [] w ∧ Sl 77 [] a) 0 ⟨Nat.zero_le _, hH.tail.tail, (hA.sub (by (repeat (first | exact trivial | refine ⟨rfl, ?_⟩))))⟩ ?_ ?_
  · clear hA hH
    rintro i a w ⟨hi, hH, hA⟩
    by_cases hlt : i < e.ns.l.length
    rotate_left
    · repeat' (first | (first | (refine GT ?_ ?_ <;> intro hg <;> clear hA a <;> intro a hA <;> (first | exact FA | replace hg := of_decide_eq_true hg | replace hg := of_decide_eq_false hg | skip)) | (refine QT ?_; clear hA a; intro a hA) | (first | (refine BT ?_; clear hA hH; rintro _ w ⟨bN, rfl, hH⟩ a hA) | (refine LT ?_; clear hA hH; rintro _ w ⟨oN, rfl, hH⟩ a hA) | (refine AT ?_; clear hA; rintro _ w ⟨oN, cN, rfl, hH2⟩ a hA; clear hH; have hH := (hH2 _ (by (repeat constructor))).tail; clear hH2) | (refine S0T ?_; clear hH; rintro _ w hH) )) | ((first | refine CT ?_ | (refine DT ?_ ?_ <;> intro hc <;> try (exfalso; omega))) <;> repeat' refine CT ?_) | (first | (refine DSK ?_; clear hA a; intro a hA) | (first | (refine DLT ?_; clear hA hH; rintro _ w ⟨oN, rfl, hH⟩; refine ⟨STT, ?_⟩; intro a hA) | (refine DAT ?_; clear hA; rintro _ w ⟨oN, cN, rfl, hH2⟩; clear hH; have hH := (hH2 _ (by (repeat constructor))).tail; clear hH2; refine ⟨STT, ?_⟩; intro a hA))) )
      exact ⟨hH.tail, (hA.sub (by (repeat (first | exact trivial | refine ⟨rfl, ?_⟩))))⟩
    repeat' (first | (first | (refine GT ?_ ?_ <;> intro hg <;> clear hA a <;> intro a hA <;> (first | exact FA | replace hg := of_decide_eq_true hg | replace hg := of_decide_eq_false hg | skip)) | (refine QT ?_; clear hA a; intro a hA) | (first | (refine BT ?_; clear hA hH; rintro _ w ⟨bN, rfl, hH⟩ a hA) | (refine LT ?_; clear hA hH; rintro _ w ⟨oN, rfl, hH⟩ a hA) | (refine AT ?_; clear hA; rintro _ w ⟨oN, cN, rfl, hH2⟩ a hA; clear hH; have hH := (hH2 _ (by (repeat constructor))).tail; clear hH2) | (refine S0T ?_; clear hH; rintro _ w hH) )) | ((first | refine CT ?_ | (refine DT ?_ ?_ <;> intro hc <;> try (exfalso; omega))) <;> repeat' refine CT ?_) | (first | (refine DSK ?_; clear hA a; intro a hA) | (first | (refine DLT ?_; clear hA hH; rintro _ w ⟨oN, rfl, hH⟩; refine ⟨STT, ?_⟩; intro a hA) | (refine DAT ?_; clear hA; rintro _ w ⟨oN, cN, rfl, hH2⟩; clear hH; have hH := (hH2 _ (by (repeat constructor))).tail; clear hH2; refine ⟨STT, ?_⟩; intro a hA))) )
    (refine wp_draw_HS [(0, 1), (1, 1), (2, 1), (3, 1), (4, 1), (5, 1), (6, 1), (7, 1), (8, 1), (9, 1), (10, 1), (11, 1), (12, 1), (13, 1), (14, 1), (15, 1)] mixed (by decide +kernel) hH ?_; replace hH := hH.drew)
    repeat' (first | (first | (refine GT ?_ ?_ <;> intro hg <;> clear hA a <;> intro a hA <;> (first | exact FA | replace hg := of_decide_eq_true hg | replace hg := of_decide_eq_false hg | skip)) | ((first | apply st_ex hA hH rfl rfl (by decide) | apply dr_ex hA rfl rfl rfl (by decide) | apply dr_exp hA rfl rfl rfl (by decide) | apply dr_ex3 hA hH rfl rfl rfl (by decide)); (first | (apply ex_indexAddr_nat; rfl; rfl; omega; exact hspN) | (apply ex_indexAddr; rfl; rfl; omega; omega; exact hspN) | (apply ex_load; rfl; refine cl_rd hN.1 id (ints_at ?_); omega)); clear hA a; intro a hA) | (refine QT ?_; clear hA a; intro a hA) | (first | (refine BT ?_; clear hA hH; rintro _ w ⟨bN, rfl, hH⟩ a hA) | (refine LT ?_; clear hA hH; rintro _ w ⟨oN, rfl, hH⟩ a hA) | (refine AT ?_; clear hA; rintro _ w ⟨oN, cN, rfl, hH2⟩ a hA; clear hH; have hH := (hH2 _ (by (repeat constructor))).tail; clear hH2) | (refine S0T ?_; clear hH; rintro _ w hH) )) | ((first | refine CT ?_ | (refine DT ?_ ?_ <;> intro hc <;> try (exfalso; omega))) <;> repeat' refine CT ?_) | (first | (refine DSK ?_; clear hA a; intro a hA) | (first | (refine DLT ?_; clear hA hH; rintro _ w ⟨oN, rfl, hH⟩; refine ⟨STT, ?_⟩; intro a hA) | (refine DAT ?_; clear hA; rintro _ w ⟨oN, cN, rfl, hH2⟩; clear hH; have hH := (hH2 _ (by (repeat constructor))).tail; clear hH2; refine ⟨STT, ?_⟩; intro a hA))) )
    all_goals first | exact ⟨i + 1, ⟨hlt, hH, (hA.sub (by (repeat (first | exact trivial | refine ⟨rfl, ?_⟩))))⟩, by omega⟩ | exact rt1 (.inl rfl) rfl hA rfl ⟨_, rfl, hH.kp⟩ | skip
  clear hA hH
  rintro a w ⟨hH, hA⟩
  repeat' (first | (first | (refine GT ?_ ?_ <;> intro hg <;> clear hA a <;> intro a hA <;> (first | exact FA | replace hg := of_decide_eq_true hg | replace hg := of_decide_eq_false hg | skip)) | (refine QT ?_; clear hA a; intro a hA) | (first | (refine BT ?_; clear hA hH; rintro _ w ⟨bN, rfl, hH⟩ a hA) | (refine LT ?_; clear hA hH; rintro _ w ⟨oN, rfl, hH⟩ a hA) | (refine AT ?_; clear hA; rintro _ w ⟨oN, cN, rfl, hH2⟩ a hA; clear hH; have hH := (hH2 _ (by (repeat constructor))).tail; clear hH2) | (refine S0T ?_; clear hH; rintro _ w hH) )) | ((first | refine CT ?_ | (refine DT ?_ ?_ <;> intro hc <;> try (exfalso; omega))) <;> repeat' refine CT ?_) | (first | (refine DSK ?_; clear hA a; intro a hA) | (first | (refine DLT ?_; clear hA hH; rintro _ w ⟨oN, rfl, hH⟩; refine ⟨STT, ?_⟩; intro a hA) | (refine DAT ?_; clear hA; rintro _ w ⟨oN, cN, rfl, hH2⟩; clear hH; have hH := (hH2 _ (by (repeat constructor))).tail; clear hH2; refine ⟨STT, ?_⟩; intro a hA))) )
  exact rt1 (.inl rfl) rfl hA rfl ⟨_, rfl, hH.kp⟩

set_option maxHeartbeats 4000000 in
theorem step2_spec (w0 w : World) (H : List It) (c : Ck) (bC : Nat) (p : Int) (la : List Int) (r : Stp) (hH : HS w0 noM (cb bC 95 (encC c p) :: H) w) (hm : own 3 1 c.oA c.nA c.cA (flat Fw.encI la) ∈ H) (hn : c.nA = la.length) (hla : la.length ≤ 9223372036854775807) (hN : RdV w0 Fw.encI r.ns) :
    Ret Try.prog 48 #[.pointer (some (bat bC 0)), .agg (encSt r).toArray] w (fun v w' => ∃ b, v = .bool b ∧ HS w0 noM (cb bC 95 (encC c p) :: H) w') := by
  (refine enter (N := 39) Try.func48 rfl Try.ntmps48 rfl ?_; intro a hA; dsimp only [sl0, Nat.reduceAdd] at hA)
  repeat' (first | (first | (refine GT ?_ ?_ <;> intro hg <;> clear hA a <;> intro a hA <;> (first | exact FA | replace hg := of_decide_eq_true hg | replace hg := of_decide_eq_false hg | skip)) | (refine QT ?_; clear hA a; intro a hA) | (first | (refine BT ?_; clear hA hH; rintro _ w ⟨bN, rfl, hH⟩ a hA) | (refine LT ?_; clear hA hH; rintro _ w ⟨oN, rfl, hH⟩ a hA) | (refine AT ?_; clear hA; rintro _ w ⟨oN, cN, rfl, hH2⟩ a hA; clear hH; have hH := (hH2 _ (by (repeat constructor))).tail; clear hH2) | (refine S0T ?_; clear hH; rintro _ w hH) )) | ((first | refine CT ?_ | (refine DT ?_ ?_ <;> intro hc <;> try (exfalso; omega))) <;> repeat' refine CT ?_) | (first | (refine DSK ?_; clear hA a; intro a hA) | (first | (refine DLT ?_; clear hA hH; rintro _ w ⟨oN, rfl, hH⟩; refine ⟨STT, ?_⟩; intro a hA) | (refine DAT ?_; clear hA; rintro _ w ⟨oN, cN, rfl, hH2⟩; clear hH; have hH := (hH2 _ (by (repeat constructor))).tail; clear hH2; refine ⟨STT, ?_⟩; intro a hA))) )
  obtain ⟨b3, hb3⟩ : ∃ x, x = bN := ⟨_, rfl⟩
  rw [← hb3] at hA hH
  clear hb3 bN
  (refine wp_draw_HS [(0, 1), (1, 1), (2, 1), (3, 1), (4, 1), (5, 1), (6, 1), (7, 1), (8, 1), (9, 1), (10, 1), (11, 1), (12, 1), (13, 1), (14, 1), (15, 1), (16, 1), (17, 1), (18, 1), (19, 1), (20, 1), (21, 0), (22, 0)] mixed (by decide +kernel) hH ?_; replace hH := hH.drew)
  repeat' (first | (first | (refine GT ?_ ?_ <;> intro hg <;> clear hA a <;> intro a hA <;> (first | exact FA | replace hg := of_decide_eq_true hg | replace hg := of_decide_eq_false hg | skip)) | ((first | apply st_ex hA hH rfl rfl (by decide) | apply dr_ex hA rfl rfl rfl (by decide) | apply dr_exp hA rfl rfl rfl (by decide) | apply dr_ex3 hA hH rfl rfl rfl (by decide)); (first | (apply ex_build_p (cs := (encP none 0 0 c.g).toArray); rfl; (repeat (first | (intro _ h; exact absurd h (List.not_mem_nil)) | (refine List.forall_mem_cons.2 ⟨one_cell_of _ _, ?_⟩))); rfl)); clear hA a; intro a hA) | (refine QT ?_; clear hA a; intro a hA) | (first | (refine BT ?_; clear hA hH; rintro _ w ⟨bN, rfl, hH⟩ a hA) | (refine LT ?_; clear hA hH; rintro _ w ⟨oN, rfl, hH⟩ a hA) | (refine AT ?_; clear hA; rintro _ w ⟨oN, cN, rfl, hH2⟩ a hA; clear hH; have hH := (hH2 _ (by (repeat constructor))).tail; clear hH2) | (refine S0T ?_; clear hH; rintro _ w hH) )) | ((first | refine CT ?_ | (refine DT ?_ ?_ <;> intro hc <;> try (exfalso; omega))) <;> repeat' refine CT ?_) | (first | (refine DSK ?_; clear hA a; intro a hA) | (first | (refine DLT ?_; clear hA hH; rintro _ w ⟨oN, rfl, hH⟩; refine ⟨STT, ?_⟩; intro a hA) | (refine DAT ?_; clear hA; rintro _ w ⟨oN, cN, rfl, hH2⟩; clear hH; have hH := (hH2 _ (by (repeat constructor))).tail; clear hH2; refine ⟨STT, ?_⟩; intro a hA))) )
  (apply dr_op hA rfl rfl rfl (by decide); apply op_alloc; exact hH; clear hA hH; rintro _ w ⟨bN, rfl, hH⟩; refine ⟨hH.tail, ?_⟩; intro a hA)
  (apply dr_op0 hA rfl rfl rfl; apply op_store_agg (vs := encP none 0 0 c.g); rfl; rfl; exact hH; (repeat constructor); (repeat rfl); clear hH; rintro _ w hH; refine ⟨hH.tail, ?_⟩)
  repeat' (first | (first | (refine GT ?_ ?_ <;> intro hg <;> clear hA a <;> intro a hA <;> (first | exact FA | replace hg := of_decide_eq_true hg | replace hg := of_decide_eq_false hg | skip)) | (refine QT ?_; clear hA a; intro a hA) | (first | (refine BT ?_; clear hA hH; rintro _ w ⟨bN, rfl, hH⟩ a hA) | (refine LT ?_; clear hA hH; rintro _ w ⟨oN, rfl, hH⟩ a hA) | (refine AT ?_; clear hA; rintro _ w ⟨oN, cN, rfl, hH2⟩ a hA; clear hH; have hH := (hH2 _ (by (repeat constructor))).tail; clear hH2) | (refine S0T ?_; clear hH; rintro _ w hH) )) | ((first | refine CT ?_ | (refine DT ?_ ?_ <;> intro hc <;> try (exfalso; omega))) <;> repeat' refine CT ?_) | (first | (refine DSK ?_; clear hA a; intro a hA) | (first | (refine DLT ?_; clear hA hH; rintro _ w ⟨oN, rfl, hH⟩; refine ⟨STT, ?_⟩; intro a hA) | (refine DAT ?_; clear hA; rintro _ w ⟨oN, cN, rfl, hH2⟩; clear hH; have hH := (hH2 _ (by (repeat constructor))).tail; clear hH2; refine ⟨STT, ?_⟩; intro a hA))) )
  (refine wp_draw_HS [(0, 1), (1, 1), (2, 1), (3, 1), (4, 1), (5, 1), (6, 1), (7, 1), (8, 1), (9, 1), (10, 1), (11, 0), (12, 1)] mixed (by decide +kernel) hH ?_; replace hH := hH.drew)
  repeat' (first | (first | (refine GT ?_ ?_ <;> intro hg <;> clear hA a <;> intro a hA <;> (first | exact FA | replace hg := of_decide_eq_true hg | replace hg := of_decide_eq_false hg | skip)) | (refine QT ?_; clear hA a; intro a hA) | (first | (refine BT ?_; clear hA hH; rintro _ w ⟨bN, rfl, hH⟩ a hA) | (refine LT ?_; clear hA hH; rintro _ w ⟨oN, rfl, hH⟩ a hA) | (refine AT ?_; clear hA; rintro _ w ⟨oN, cN, rfl, hH2⟩ a hA; clear hH; have hH := (hH2 _ (by (repeat constructor))).tail; clear hH2) | (refine S0T ?_; clear hH; rintro _ w hH) )) | ((first | refine CT ?_ | (refine DT ?_ ?_ <;> intro hc <;> try (exfalso; omega))) <;> repeat' refine CT ?_) | (first | (refine DSK ?_; clear hA a; intro a hA) | (first | (refine DLT ?_; clear hA hH; rintro _ w ⟨oN, rfl, hH⟩; refine ⟨STT, ?_⟩; intro a hA) | (refine DAT ?_; clear hA; rintro _ w ⟨oN, cN, rfl, hH2⟩; clear hH; have hH := (hH2 _ (by (repeat constructor))).tail; clear hH2; refine ⟨STT, ?_⟩; intro a hA))) )
  have hS := Step_spec _ none 0 0 c.g c.oA c.cA la c.f.caps r (hH.own_rd (T := 3) (n := c.nA) (cap := c.cA) (sz := 1) (.tail _ (.tail _ (.tail _ hm)))) hla (hN.keep hH.kp)
  rw [← hn] at hS
  (refine dr_op hA rfl rfl rfl (by decide) (op_call rfl rfl rfl (hS)) ?_; clear hA; rintro _ w ⟨b, rfl, hk⟩; refine ⟨hH.keep hk, ?_⟩; intro a hA)
  replace hH := hH.keep hk
  repeat' (first | (first | (refine GT ?_ ?_ <;> intro hg <;> clear hA a <;> intro a hA <;> (first | exact FA | replace hg := of_decide_eq_true hg | replace hg := of_decide_eq_false hg | skip)) | (refine QT ?_; clear hA a; intro a hA) | (first | (refine BT ?_; clear hA hH; rintro _ w ⟨bN, rfl, hH⟩ a hA) | (refine LT ?_; clear hA hH; rintro _ w ⟨oN, rfl, hH⟩ a hA) | (refine AT ?_; clear hA; rintro _ w ⟨oN, cN, rfl, hH2⟩ a hA; clear hH; have hH := (hH2 _ (by (repeat constructor))).tail; clear hH2) | (refine S0T ?_; clear hH; rintro _ w hH) )) | ((first | refine CT ?_ | (refine DT ?_ ?_ <;> intro hc <;> try (exfalso; omega))) <;> repeat' refine CT ?_) | (first | (refine DSK ?_; clear hA a; intro a hA) | (first | (refine DLT ?_; clear hA hH; rintro _ w ⟨oN, rfl, hH⟩; refine ⟨STT, ?_⟩; intro a hA) | (refine DAT ?_; clear hA; rintro _ w ⟨oN, cN, rfl, hH2⟩; clear hH; have hH := (hH2 _ (by (repeat constructor))).tail; clear hH2; refine ⟨STT, ?_⟩; intro a hA))) )
  exact rt1 (.inl rfl) rfl hA rfl ⟨_, rfl, hH.tail.tail⟩
end Go.Proofs.Ytjfanjcoppeeaaa
