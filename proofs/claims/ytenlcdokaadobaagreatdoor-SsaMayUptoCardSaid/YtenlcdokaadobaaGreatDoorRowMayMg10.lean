/-
  The document's check of graphs: a graph's shape. Conditions: none.
  The document's check of graphs: numbers, steps, ends. Conditions: none.
  The document's check of graphs, whole. Conditions: none.
  More fuel, more input (plain). Conditions: none.
  What the bound of '..UptoSaid' gives. Conditions: none.
  What is handed in, taken apart, with what the bound of '..UptoSaid' gives. Conditions: none.
  Graphs handed in. Conditions: none.
  SsaFuel, SsaReads: the walks. Conditions: none.
  SsaMay: the law. Conditions: none.
  The frame of a law's proof, where what is handed in is not great and tables are laid ('..UptoCardSaid'). Conditions: none.
  What the laid table gives: strconv.FormatInt. Conditions: none.
-/
import Derived.Test.YtenlcdokaadobaaGreatDoorRowMayMg9
import Derived.Test.YtenlcdokaadobaaGreatDoorRowMayMg2
import Derived.Test.YtenlcdokaadobaaGreatDoorRowMayMg4
import Derived.Test.YtenlcdokaadobaaGreatDoorRowMayMg8
import Derived.Test.YtenlcdokaadobaaGreatDoorRowMayMg5
import Derived.Test.YtenlcdokaadobaaGreatDoorRows
import Derived.Test.YtenlcdokaadobaaGreatDoorRowMayMg1
import Derived.LaidLaws
import Derived.LaidMore
import Derived.Stop.Joined
import Derived.LaidHandle
import Derived.Test.YtenlcdokaadobaaGreatDoorRowMayMg7
import Derived.Lib.LaidTab
namespace Go.Proofs.YtenlcdokaadobaaGreatDoor
open Go Go.Fw
set_option linter.unusedVariables false
structure BlS (f : Gr) (n : Nat) (bl : Blc) : Prop where
  e : EndP bl.e
  c : come f n
  t : ∀ t ∈ bl.e.to.l, (n : Int) < t.b ∧ t.b < f.bs.l.length ∧ t.a.l.length = (f.bs.l.getD t.b.toNat blc0).ps.l.length
structure ShP (f : Gr) : Prop where
  ne : 0 < f.bs.l.length
  first : (f.bs.l.getD 0 blc0).ps.l.length = 0
  blk : ∀ (n : Nat) (bl : Blc), f.bs.l[n]? = some bl → BlS f n bl
  ev : EvOk (f.bs.l.flatMap bvs)
theorem sh_no {f : Gr} (h : ¬ ShP f) : false = true ↔ ShP f := ⟨fun e => (by cases e), fun e => absurd e h⟩
def cmS (f : Gr) (n k : Nat) : Prop := k = 0 ∨ ∃ m bl, m < n ∧ f.bs.l[m]? = some bl ∧ goes bl k
theorem cm_next {f : Gr} {n : Nat} {bl : Blc} (hbl : f.bs.l[n]? = some bl) (k : Nat) : cmS f (n + 1) k ↔ cmS f n k ∨ ∃ t ∈ bl.e.to.l.take bl.e.to.l.length, t.b = (k : Int) := by
  rw [List.take_length]
  constructor
  · rintro (h0 | ⟨m, b, hm, hb, hg⟩)
    · exact .inl (.inl h0)
    · by_cases e : m = n
      · subst e
        rw [hbl] at hb; cases hb
        exact .inr hg
      · exact .inl (.inr ⟨m, b, by omega, hb, hg⟩)
  · rintro ((h0 | ⟨m, b, hm, hb, hg⟩) | hg)
    · exact .inl h0
    · exact .inr ⟨m, b, by omega, hb, hg⟩
    · exact .inr ⟨n, bl, by omega, hbl, hg⟩
theorem bvs_le (bl : Blc) : bl.ps.l.length + bl.is.l.length + 2 + bl.e.to.l.length ≤ blkN bl := by
  have h1 : bl.is.l.length ≤ (bl.is.l.map fun i => 1 + i.r.a.l.length).sum := by
    generalize bl.is.l = l
    induction l with
    | nil => exact Nat.le_refl _
    | cons x l ih => rw [List.map_cons, List.sum_cons, List.length_cons]; omega
  have h2 : bl.e.to.l.length ≤ (bl.e.to.l.map fun t => 1 + t.a.l.length).sum := by
    generalize bl.e.to.l = l
    induction l with
    | nil => exact Nat.le_refl _
    | cons x l ih => rw [List.map_cons, List.sum_cons, List.length_cons]; omega
  unfold blkN
  omega
theorem evs_len (f : Gr) : ∀ n, n ≤ f.bs.l.length → (evs f n).length + 2 * n ≤ blkS f n
  | 0, _ => by
    have h1 : evs f 0 = [] := by unfold evs; rw [List.take_zero]; rfl
    rw [h1]; exact Nat.zero_le _
  | n + 1, h => by
    have hbl : f.bs.l[n]? = some (f.bs.l[n]'(by omega)) := List.getElem?_eq_getElem (by omega)
    have ih := evs_len f n (by omega)
    have := bvs_le (f.bs.l[n]'(by omega))
    rw [evs_next hbl, blkS_next hbl, List.length_append]
    unfold bvs
    rw [List.length_append, List.length_map]
    omega
theorem evs_zero (f : Gr) : evs f 0 = [] := by unfold evs; rw [List.take_zero]; rfl
theorem blkps {l : List Blc} {b : Nat} (h : b < l.length) : (flat encBl l)[b * 6 + 0]? = some (.slice (l.getD b blc0).ps.o (l.getD b blc0).ps.l.length (l.getD b blc0).ps.c) := by
  refine flat_get (off := 0) encBl_len (List.getElem?_eq_getElem h) ?_
  rw [List.getD_eq_getElem?_getD, List.getElem?_eq_getElem h]
  rfl
def evAt (es : List Int) (i : Nat) : Prop := 2 ≤ es.getD i 0 ∧ es.getD i 0 ≤ 1048576 ∧ ∀ k, k < i → es.getD i 0 ≠ es.getD k 0
theorem ev_of {es : List Int} (h : ∀ i, i < es.length → evAt es i) : EvOk es := by
  refine ⟨?_, fun x hx => ?_⟩
  · refine List.pairwise_iff_getElem.2 fun i j hi hj hij => ?_
    have h1 := (h j hj).2.2 i hij
    rw [List.getD_eq_getElem?_getD, List.getD_eq_getElem?_getD, List.getElem?_eq_getElem hj, List.getElem?_eq_getElem hi] at h1
    exact fun e => h1 e.symm
  · obtain ⟨k, hk, rfl⟩ := List.getElem_of_mem hx
    have h1 := h k hk
    unfold evAt at h1
    rw [List.getD_eq_getElem?_getD, List.getElem?_eq_getElem hk] at h1
    exact ⟨h1.1, h1.2.1⟩
theorem ev_at {es : List Int} (h : EvOk es) {i : Nat} (hi : i < es.length) : evAt es i := by
  have h1 := h.rg (es[i]) (List.getElem_mem hi)
  have h2 : es.getD i 0 = es[i] := by rw [List.getD_eq_getElem?_getD, List.getElem?_eq_getElem hi]; rfl
  refine ⟨by omega, by omega, fun k hk e => ?_⟩
  have h3 : es.getD k 0 = es[k]'(by omega) := by rw [List.getD_eq_getElem?_getD, List.getElem?_eq_getElem (by omega)]; rfl
  rw [h2, h3] at e
  exact List.pairwise_iff_getElem.1 h.nd k i (by omega) hi hk e.symm
set_option maxRecDepth 10000 attribute [local irreducible] Code.wp wpList Calls Ex Op1 sat bat blk cb own Go.Fw.mp Go.Fw.mpO Go.Fw.mpI Go.Fw.mpE Go.Fw.itr HS Rd Ret wkD Hp Cl Cls Exit.then Exit.inBlock Exit.noGoto bodyPost Go.Fw.flat wk2 Go.Fw.all Go.Fw.owns wpOp
attribute [local irreducible] sk mpK sko mvO entK geS idxF cmS evs

set_option maxHeartbeats 16000000 in
theorem shape_spec (w0 : World) (f : Gr) (hR : RdG w0 f) (hl : f.bs.l.length ≤ 1048576) (hlt : ∀ bl ∈ f.bs.l, bl.e.to.l.length ≤ 1048576) (hsz : grN f ≤ 65536) : Ret Tryz.prog 35 #[.agg (encG f).toArray] w0 (fun v w => ∃ b, v = .bool b ∧ (b = true ↔ ShP f) ∧ Kp w0 noM w) := by
  have hH : HS w0 noM [] w0 := HS.init w0 noM
  have hspB : Sp f.bs.o f.bs.l.length := hR.1.1.sp (sz := 6) (flat_length encBl_len _) (by omega)
  (refine enter (N := 151) Tryz.func35 rfl Tryz.ntmps35 rfl ?_; intro a hA; dsimp only [sl0, Nat.reduceAdd] at hA)
  by_cases h0 : f.bs.l.length = 0
  · repeat' (first | (refine GT ?_ ?_ <;> intro hg <;> clear hA a <;> intro a hA <;> (first | exact FA | replace hg := of_decide_eq_true hg | replace hg := of_decide_eq_false hg | skip)) | (refine QT ?_; clear hA a; intro a hA) | (refine BT ?_; clear hA hH; rintro _ w ⟨bN, rfl, hH⟩ a hA) | (refine CT ?_ <;> repeat' refine CT ?_) | fail)
    all_goals exact rt1 (.inl rfl) rfl hA rfl ⟨_, rfl, sh_no (fun h => by have := h.ne; omega), hH.kp⟩
  have hps0 := blkps (l := f.bs.l) (b := 0) (by omega)
  have hput0 : Fw.put (flat Fw.encB (List.replicate f.bs.l.length false)) (Int.toNat 0 * 1) [.bool true] = flat Fw.encB ((List.replicate f.bs.l.length false).set 0 true) := flag_put (by rw [List.length_replicate]; omega)
  repeat' (first | (refine GT ?_ ?_ <;> intro hg <;> clear hA a <;> intro a hA <;> (first | exact FA | replace hg := of_decide_eq_true hg | replace hg := of_decide_eq_false hg | skip)) | (refine XT ?_; apply XE; (first | (apply ex_load; rfl; exact cl_rd hR.1.1 id hps0)); clear hA a; intro a hA) | (refine QT ?_; clear hA a; intro a hA) | (refine BT ?_; clear hA hH; rintro _ w ⟨bN, rfl, hH⟩ a hA) | (refine LT ?_; clear hA hH; rintro _ w ⟨oN, rfl, hH⟩ a hA) | (apply st_op hA rfl rfl (by decide); apply op_make1 Fw.encB false (n := f.bs.l.length); rfl; rfl; omega; omega; (unfold maxLen; omega); omega; rfl; rfl; exact hH; clear hA hH; rintro _ w ⟨oC, rfl, hH⟩ a hA) | (apply st_op0 hA rfl rfl; apply op_store_own1; rfl; rfl; rfl; exact hH; (repeat constructor); (rw [flat_length encB_len1, List.length_replicate]; show 0 * 1 < _; omega); exact hput0; clear hH; rintro _ w hH) | ((first | refine CT ?_ | (refine DT ?_ ?_ <;> intro hc <;> try (exfalso; omega))) <;> repeat' refine CT ?_) | fail)
  · exact rt1 (.inl rfl) rfl hA rfl ⟨_, rfl, sh_no (fun h => by have := h.first; omega), hH.kp⟩
  obtain ⟨b1, oV, hH, hA⟩ : ∃ b1 oV, HS w0 noM [own 3 1 oV 0 0 [], own 4 1 oC f.bs.l.length f.bs.l.length (flat Fw.encB ((List.replicate f.bs.l.length false).set 0 true)), cb b1 44 (encG f)] w ∧ Sl 151 [(5, .int .i64 (0 : Nat)), (4, .slice oV 0 0), (3, .slice oC f.bs.l.length f.bs.l.length), (1, .pointer (some (bat b1 0))), (2, .bool false)] a := ⟨_, _, hH, (hA.sub SBT)⟩
  have hcome0 := come_0 f.bs.l.length
  obtain ⟨cs0, hcs0⟩ : ∃ cs, cs = (List.replicate f.bs.l.length false).set 0 true := ⟨_, rfl⟩
  rw [← hcs0] at hH hcome0
  have hlen0 : cs0.length = f.bs.l.length := by rw [hcs0, List.length_set, List.length_replicate]
  clear hcs0
  have hfirst : (f.bs.l.getD 0 blc0).ps.l.length = 0 := by omega
  refine wp_lpk (S := Nat) (fun n a w => ∃ cs oV cV, (n ≤ f.bs.l.length ∧ cs.length = f.bs.l.length ∧ ComeB cs (cmS f n) ∧ ∀ m, m < n → ∀ bl, f.bs.l[m]? = some bl → BlS f m bl) ∧ HS w0 noM [own 3 1 oV (evs f n).length cV (flat Fw.encI (evs f n)), own 4 1 oC f.bs.l.length f.bs.l.length (flat Fw.encB cs), cb b1 44 (encG f)] w ∧ Sl 151 [(5, .int .i64 n), (4, .slice oV (evs f n).length cV), (3, .slice oC f.bs.l.length f.bs.l.length), (1, .pointer (some (bat b1 0))), (2, .bool false)] a) (fun n => f.bs.l.length - n)
    (fun a w => ∃ oV cV, (∀ m bl, f.bs.l[m]? = some bl → BlS f m bl) ∧ HS w0 noM [own 3 1 oV (evs f f.bs.l.length).length cV (flat Fw.encI (evs f f.bs.l.length))] w ∧ Sl 151 [(4, .slice oV (evs f f.bs.l.length).length cV), (2, .bool false)] a) 0
    ⟨cs0, oV, 0, ⟨Nat.zero_le _, hlen0, come_imp hcome0 (fun k hk => ⟨fun h => by unfold cmS; exact .inl h, fun h => by unfold cmS at h; exact h.elim id (fun ⟨m, bl, hm, _⟩ => absurd hm (Nat.not_lt_zero _))⟩), fun m hm => absurd hm (Nat.not_lt_zero _)⟩, (by rw [evs_zero, flatI_nil2, List.length_nil]; exact hH), (by rw [evs_zero]; exact (hA.sub SBT))⟩ ?_ ?_
  · clear hA hH hcome0 hlen0
    rintro n a w ⟨cs, oV, cV, ⟨hn, hcl, hcs, hok⟩, hH, hA⟩
    by_cases hlt2 : n < f.bs.l.length
    rotate_left
    · obtain rfl : n = f.bs.l.length := by omega
      repeat' (first | (refine QT ?_; clear hA a; intro a hA) | ((first | refine CT ?_ | (refine DT ?_ ?_ <;> intro hc <;> try (exfalso; omega))) <;> repeat' refine CT ?_) | fail)
      exact ⟨oV, cV, fun m bl hm => hok m (List.getElem?_eq_some_iff.1 hm).1 bl hm, (hH.rm 1).rm 1, (hA.sub SBT)⟩
    obtain ⟨bl, hbl⟩ : ∃ x, f.bs.l[n]? = some x := ⟨_, List.getElem?_eq_getElem hlt2⟩
    have hblm := List.mem_of_getElem? hbl
    have hRb := hR.2 bl hblm
    have hlt3 := hlt bl hblm
    have hvb := flat_all encBl_len hbl
    have hspT : Sp bl.e.to.o bl.e.to.l.length := hRb.2.2.2.2.2.1.1.sp (sz := 2) (flat_length encEd_len _) (by omega)
    have hev := evs_len f n hn
    have hnx := blkS_next hbl
    have hle1 := blkS_le f (n + 1)
    have hbv := bvs_le bl
    have hflag := flag_at (cs := cs) (k := n) (by omega)
    have hii := hcs n (by omega)
    obtain ⟨fl, hfl⟩ : ∃ b, b = cs.getD n false := ⟨_, rfl⟩
    rw [← hfl] at hflag hii
    clear hfl
    have hsubE : ∀ i v, (encEn bl.e)[i]? = some v → (encBl bl)[0 + 2 + i]? = some v := fun i v h => by rw [Nat.zero_add, Nat.add_comm]; exact h
    repeat' (first | (refine XT ?_; apply XE; (first | (apply ex_indexAddr_nat; rfl; rfl; omega; exact hspB) | (apply ex_load_st (vs := encBl bl); rfl; rfl; exact cls_rd hR.1.1 id hvb) | (apply ex_load_st (vs := encEn bl.e); rfl; rfl; exact cls_cb MEMT hsubE)); clear hA a; intro a hA) | (refine QT ?_; clear hA a; intro a hA) | (refine BT ?_; clear hA hH; rintro _ w ⟨bN, rfl, hH⟩ a hA) | (apply st_op0 hA rfl rfl; apply op_store_agg (vs := encBl bl); rfl; rfl; exact hH; (repeat constructor); (repeat rfl); clear hH; rintro _ w hH) | ((first | refine CT ?_ | (refine DT ?_ ?_ <;> intro hc <;> try (exfalso; omega))) <;> repeat' refine CT ?_) | fail)
    (refine st_op hA rfl rfl (by decide) (op_call rfl rfl rfl (endForm_spec _ bl.e (hRb.2.2.2.2.1.keep hH.kp))) ?_; clear hA; rintro _ w ⟨be, rfl, hbe, hk⟩ a hA; replace hH := hH.keep hk; clear hk)
    cases be with
    | false =>
      repeat' (first | (refine GT ?_ ?_ <;> intro hg <;> clear hA a <;> intro a hA <;> (first | exact FA | replace hg := of_decide_eq_true hg | replace hg := of_decide_eq_false hg | skip)) | (refine QT ?_; clear hA a; intro a hA) | (refine CT ?_ <;> repeat' refine CT ?_) | fail)
      exact rt1 (.inl rfl) rfl hA rfl ⟨_, rfl, sh_no (fun h => by cases hbe.2 (h.blk n bl hbl).e), hH.kp⟩
    | true =>
    have hEnd := hbe.1 rfl
    cases fl with
    | false =>
      repeat' (first | (refine GT ?_ ?_ <;> intro hg <;> clear hA a <;> intro a hA <;> (first | exact FA | replace hg := of_decide_eq_true hg | replace hg := of_decide_eq_false hg | skip)) | (refine XT ?_; apply XE; (first | (apply ex_load; rfl; apply cl_own; exact MEMT; exact hflag)); clear hA a; intro a hA) | (refine QT ?_; clear hA a; intro a hA) | (refine CT ?_ <;> repeat' refine CT ?_) | fail)
      exact rt1 (.inl rfl) rfl hA rfl ⟨_, rfl, sh_no (fun h => by have h1 := (h.blk n bl hbl).c; have h2 := hii.2 (by unfold cmS; exact h1); cases h2), hH.kp⟩
    | true =>
    have hcome : come f n := by have := hii.1 rfl; unfold cmS at this; exact this
    repeat' (first | (refine GT ?_ ?_ <;> intro hg <;> clear hA a <;> intro a hA <;> (first | exact FA | replace hg := of_decide_eq_true hg | replace hg := of_decide_eq_false hg | skip)) | (refine XT ?_; apply XE; (first | (apply ex_load; rfl; apply cl_own; exact MEMT; exact hflag)); clear hA a; intro a hA) | (refine QT ?_; clear hA a; intro a hA) | (refine CT ?_ <;> repeat' refine CT ?_) | fail)
    obtain ⟨b6, hb6⟩ : ∃ x, x = bN := ⟨_, rfl⟩
    rw [← hb6] at hA hH
    clear hb6 bN
    refine wp_lpk (S := Nat) (fun j a w => ∃ cs, (j ≤ bl.e.to.l.length ∧ cs.length = f.bs.l.length ∧ ComeB cs (fun k => cmS f n k ∨ ∃ t ∈ bl.e.to.l.take j, t.b = (k : Int)) ∧ ∀ t ∈ bl.e.to.l.take j, (n : Int) < t.b ∧ t.b < f.bs.l.length ∧ t.a.l.length = (f.bs.l.getD t.b.toNat blc0).ps.l.length) ∧ HS w0 noM [cb b6 53 (encBl bl), own 3 1 oV (evs f n).length cV (flat Fw.encI (evs f n)), own 4 1 oC f.bs.l.length f.bs.l.length (flat Fw.encB cs), cb b1 44 (encG f)] w ∧ Sl 151 [(7, .int .i64 j), (6, .pointer (some (bat b6 0))), (5, .int .i64 n), (4, .slice oV (evs f n).length cV), (3, .slice oC f.bs.l.length f.bs.l.length), (1, .pointer (some (bat b1 0))), (2, .bool false)] a) (fun j => bl.e.to.l.length - j)
      (fun a w => ∃ cs, (cs.length = f.bs.l.length ∧ ComeB cs (cmS f (n + 1)) ∧ BlS f n bl) ∧ HS w0 noM [cb b6 53 (encBl bl), own 3 1 oV (evs f n).length cV (flat Fw.encI (evs f n)), own 4 1 oC f.bs.l.length f.bs.l.length (flat Fw.encB cs), cb b1 44 (encG f)] w ∧ Sl 151 [(6, .pointer (some (bat b6 0))), (5, .int .i64 n), (4, .slice oV (evs f n).length cV), (3, .slice oC f.bs.l.length f.bs.l.length), (1, .pointer (some (bat b1 0))), (2, .bool false)] a) 0
      ⟨cs, ⟨Nat.zero_le _, hcl, come_imp hcs fun k hk => ⟨.inl, fun h => h.elim id (fun ⟨t, ht, _⟩ => absurd ht (by rw [List.take_zero]; exact List.not_mem_nil))⟩, fun t ht => absurd ht (by rw [List.take_zero]; exact List.not_mem_nil)⟩, hH, (hA.sub SBT)⟩ ?_ ?_
    · clear hA hH hcs hcl hflag hii
      rintro j a w ⟨cs, ⟨hj, hcl, hcs, hts⟩, hH, hA⟩
      by_cases hjl : j < bl.e.to.l.length
      rotate_left
      · obtain rfl : j = bl.e.to.l.length := by omega
        repeat' (first | (refine QT ?_; clear hA a; intro a hA) | ((first | refine CT ?_ | (refine DT ?_ ?_ <;> intro hc <;> try (exfalso; omega))) <;> repeat' refine CT ?_) | fail)
        rw [List.take_length] at hts
        exact ⟨cs, ⟨hcl, come_imp hcs fun k hk => (cm_next hbl k).symm, ⟨hEnd, hcome, hts⟩⟩, hH, (hA.sub SBT)⟩
      obtain ⟨t, ht⟩ : ∃ x, bl.e.to.l[j]? = some x := ⟨_, List.getElem?_eq_getElem hjl⟩
      have htm := List.mem_of_getElem? ht
      have hvt := flat_all encEd_len ht
      repeat' (first | (refine XT ?_; apply XE; (first | (apply ex_indexAddr_nat; rfl; rfl; omega; exact hspT) | (apply ex_load_st (vs := encEd t); rfl; rfl; exact cls_rd hRb.2.2.2.2.2.1.1 id hvt)); clear hA a; intro a hA) | (refine QT ?_; clear hA a; intro a hA) | (refine BT ?_; clear hA hH; rintro _ w ⟨bN, rfl, hH⟩ a hA) | (apply st_op0 hA rfl rfl; apply op_store_agg (vs := encEd t); rfl; rfl; exact hH; (repeat constructor); (repeat rfl); clear hH; rintro _ w hH) | ((first | refine CT ?_ | (refine DT ?_ ?_ <;> intro hc <;> try (exfalso; omega))) <;> repeat' refine CT ?_) | fail)
      (refine wp_draw_HS [(0, 1), (1, 1), (2, 1), (3, 1), (4, 1), (5, 1), (6, 1), (7, 1), (8, 1), (9, 1), (10, 1), (11, 1), (12, 1), (13, 1), (14, 1), (15, 1), (16, 1), (17, 1), (18, 1), (19, 1), (20, 1), (21, 1), (22, 1), (23, 1), (24, 1), (25, 1)] mixed (by decide +kernel) hH ?_; replace hH := hH.drew)
      by_cases hin : (n : Int) < t.b ∧ t.b < f.bs.l.length
      rotate_left
      · repeat' (first | (refine GT ?_ ?_ <;> intro hg <;> clear hA a <;> intro a hA <;> (first | exact FA | replace hg := of_decide_eq_true hg | replace hg := of_decide_eq_false hg | skip)) | (refine QT ?_; clear hA a; intro a hA) | (refine CT ?_ <;> repeat' refine CT ?_) | fail)
        all_goals exact rt1 (.inl rfl) rfl hA rfl ⟨_, rfl, sh_no (fun h => hin ⟨((h.blk n bl hbl).t t htm).1, ((h.blk n bl hbl).t t htm).2.1⟩), hH.kp⟩
      obtain ⟨hin1, hin2⟩ := hin
      have hpt := blkps (l := f.bs.l) (b := t.b.toNat) (by omega)
      have htn : t.b.toNat < cs.length := by omega
      have hput := flag_put htn
      repeat' (first | (refine GT ?_ ?_ <;> intro hg <;> clear hA a <;> intro a hA <;> (first | exact FA | replace hg := of_decide_eq_true hg | replace hg := of_decide_eq_false hg | skip)) | (refine XT ?_; apply XE; (first | (apply ex_indexAddr; rfl; rfl; omega; omega; exact hspB) | (apply ex_load; rfl; exact cl_rd hR.1.1 id hpt)); clear hA a; intro a hA) | (refine QT ?_; clear hA a; intro a hA) | (apply st_op0 hA rfl rfl; apply op_store_own1; rfl; rfl; rfl; exact hH; (repeat constructor); (rw [flat_length encB_len1]; omega); exact hput; clear hH; rintro _ w hH) | ((first | refine CT ?_ | (refine DT ?_ ?_ <;> intro hc <;> try (exfalso; omega))) <;> repeat' refine CT ?_) | fail)
      · exact rt1 (.inl rfl) rfl hA rfl ⟨_, rfl, sh_no (fun h => by have := ((h.blk n bl hbl).t t htm).2.2; omega), hH.kp⟩
      exact ⟨j + 1, ⟨_, ⟨hjl, by rw [List.length_set]; exact hcl, come_imp (come_set hcs) (fun k hk => ⟨fun h => h.elim (fun h => h.elim .inl (fun h => .inr ((take_t ht k).2 (.inl h)))) (fun h => .inr ((take_t ht k).2 (.inr (by omega)))), fun h => h.elim (fun h => .inl (.inl h)) (fun h => ((take_t ht k).1 h).elim (fun h => .inl (.inr h)) (fun h => .inr (by omega)))⟩), all_nx hts ht ⟨hin1, hin2, by omega⟩⟩, hH.tail, (hA.sub SBT)⟩, by omega⟩
    clear hA hH hcs hcl hflag hii
    rintro a w ⟨cs, ⟨hcl, hcs, hblS⟩, hH, hA⟩
    repeat' (first | (refine QT ?_; clear hA a; intro a hA) | (refine CT ?_ <;> repeat' refine CT ?_) | fail)
    (apply st_op hA rfl rfl (by decide); apply op_append; rfl; rfl; exact hH; exact MEMT; exact (hRb.1.keep hH.kp).1; exact (flat_length Fw.encI_len _); rfl; decide; exact (flat_one_cell (fun _ => rfl) _); (unfold maxLen; omega); omega; clear hA; rintro _ w ⟨oN, cN, rfl, hH2⟩ a hA; clear hH; have hH := hH2 _ (by (repeat constructor)); clear hH2)
    obtain ⟨es1, hes1⟩ : ∃ es, es = evs f n ++ bl.ps.l := ⟨_, rfl⟩
    have hel1 : es1.length = (evs f n).length + bl.ps.l.length := by rw [hes1, List.length_append]
    rw [← flat_append, ← hes1, ← hel1] at hH
    rw [← hel1] at hA
    have hspI : Sp bl.is.o bl.is.l.length := hRb.2.1.1.sp (sz := 5) (flat_length encIn_len _) (by have := hRb.2.1.le; omega)
    repeat' (first | (refine QT ?_; clear hA a; intro a hA) | (refine CT ?_ <;> repeat' refine CT ?_) | fail)
    refine wp_lpk (S := Nat) (fun j a w => ∃ oV cV, j ≤ bl.is.l.length ∧ HS w0 noM [cb b6 53 (encBl bl), own 3 1 oV (es1 ++ (bl.is.l.take j).map Ins.x).length cV (flat Fw.encI (es1 ++ (bl.is.l.take j).map Ins.x)), own 4 1 oC f.bs.l.length f.bs.l.length (flat Fw.encB cs), cb b1 44 (encG f)] w ∧ Sl 151 [(9, .int .i64 j), (6, .pointer (some (bat b6 0))), (5, .int .i64 n), (4, .slice oV (es1 ++ (bl.is.l.take j).map Ins.x).length cV), (3, .slice oC f.bs.l.length f.bs.l.length), (1, .pointer (some (bat b1 0))), (2, .bool false)] a) (fun j => bl.is.l.length - j)
      (fun a w => ∃ oV cV, HS w0 noM [own 3 1 oV (evs f (n + 1)).length cV (flat Fw.encI (evs f (n + 1))), own 4 1 oC f.bs.l.length f.bs.l.length (flat Fw.encB cs), cb b1 44 (encG f)] w ∧ Sl 151 [(5, .int .i64 n), (4, .slice oV (evs f (n + 1)).length cV), (3, .slice oC f.bs.l.length f.bs.l.length), (1, .pointer (some (bat b1 0))), (2, .bool false)] a) 0
      ⟨oN, cN, Nat.zero_le _, (by rw [List.take_zero, List.map_nil, List.append_nil]; exact hH.perm PMT), (by rw [List.take_zero, List.map_nil, List.append_nil]; exact (hA.sub SBT))⟩ ?_ ?_
    · clear hA hH
      rintro j a w ⟨oV, cV, hj, hH, hA⟩
      by_cases hjl : j < bl.is.l.length
      rotate_left
      · obtain rfl : j = bl.is.l.length := by omega
        repeat' (first | (refine QT ?_; clear hA a; intro a hA) | ((first | refine CT ?_ | (refine DT ?_ ?_ <;> intro hc <;> try (exfalso; omega))) <;> repeat' refine CT ?_) | fail)
        have he : es1 ++ (bl.is.l.take bl.is.l.length).map Ins.x = evs f (n + 1) := by rw [evs_next hbl, hes1, List.take_length, List.append_assoc]; rfl
        rw [he] at hH hA
        exact ⟨oV, cV, hH.tail, (hA.sub SBT)⟩
      obtain ⟨x, hx⟩ : ∃ x, bl.is.l[j]? = some x := ⟨_, List.getElem?_eq_getElem hjl⟩
      have hvx := in_xx hx
      have hel2 : (es1 ++ (bl.is.l.take j).map Ins.x).length = es1.length + j := by rw [List.length_append, List.length_map, List.length_take]; omega
      obtain ⟨es2, hes2⟩ : ∃ es, es = es1 ++ (bl.is.l.take j).map Ins.x := ⟨_, rfl⟩
      rw [← hes2] at hH hA hel2
      have he3 : es1 ++ (bl.is.l.take (j + 1)).map Ins.x = es2 ++ [x.x] := by rw [hes2, take_snoc hx, List.map_append, ← List.append_assoc]; rfl
      repeat' (first | (refine XT ?_; apply XE; (first | (apply ex_indexAddr_nat; rfl; rfl; omega; exact hspI) | (apply ex_load; rfl; exact cl_rd hRb.2.1.1 id hvx)); clear hA a; intro a hA) | (refine QT ?_; clear hA a; intro a hA) | (refine LT ?_; clear hA hH; rintro _ w ⟨oN, rfl, hH⟩ a hA) | (refine AT ?_; clear hA; rintro _ w ⟨oN, cN, rfl, hH2⟩ a hA; clear hH; have hH := (hH2 _ (by (repeat constructor))).tail; clear hH2) | ((first | refine CT ?_ | (refine DT ?_ ?_ <;> intro hc <;> try (exfalso; omega))) <;> repeat' refine CT ?_) | fail)
      have he4 : (es2 ++ [x.x]).length = es2.length + 1 := by rw [List.length_append]; rfl
      rw [flatI_s, ← he4] at hH
      rw [← he4] at hA
      exact ⟨j + 1, ⟨oN, cN, hjl, (by rw [he3]; exact hH), (by rw [he3]; exact (hA.sub SBT))⟩, by omega⟩
    clear hA hH
    rintro a w ⟨oV, cV, hH, hA⟩
    repeat' (first | (refine QT ?_; clear hA a; intro a hA) | (refine CT ?_ <;> repeat' refine CT ?_) | fail)
    exact ⟨n + 1, ⟨cs, oV, cV, ⟨hlt2, hcl, hcs, lt_next (p := fun m => ∀ bl, f.bs.l[m]? = some bl → BlS f m bl) hok (fun b hb => by rw [hbl] at hb; cases hb; exact hblS)⟩, hH, (hA.sub SBT)⟩, by omega⟩
  clear hA hH
  rintro a w ⟨oV, cV, hok, hH, hA⟩
  rw [evs_all] at hA hH
  have hevl : (f.bs.l.flatMap bvs).length ≤ 65536 := by
    have h1 := evs_len f f.bs.l.length (Nat.le_refl _)
    rw [evs_all] at h1
    have h2 := blkS_le f f.bs.l.length
    omega
  have hyes : EvOk (f.bs.l.flatMap bvs) → ShP f := fun h => ⟨by omega, hfirst, hok, h⟩
  obtain ⟨es, hes⟩ : ∃ es, es = f.bs.l.flatMap bvs := ⟨_, rfl⟩
  rw [← hes] at hA hH hevl hyes
  have hev0 : ShP f → EvOk es := fun h => by rw [hes]; exact h.ev
  clear hes
  have hint : ∀ k, k < es.length → (flat Fw.encI es)[k * 1]? = some (.int .i64 (es.getD k 0)) := fun k hk => ints_at hk
  repeat' (first | (refine QT ?_; clear hA a; intro a hA) | (refine CT ?_ <;> repeat' refine CT ?_) | fail)
  refine wp_lpk (S := Nat) (fun i a w => (i ≤ es.length ∧ ∀ k, k < i → evAt es k) ∧ HS w0 noM [own 3 1 oV es.length cV (flat Fw.encI es)] w ∧ Sl 151 [(10, .int .i64 i), (4, .slice oV es.length cV), (2, .bool false)] a) (fun i => es.length - i)
    (fun a w => (∀ k, k < es.length → evAt es k) ∧ HS w0 noM [] w ∧ Sl 151 [] a) 0 ⟨⟨Nat.zero_le _, fun k h => absurd h (Nat.not_lt_zero _)⟩, hH, (hA.sub SBT)⟩ ?_ ?_
  · clear hA hH
    rintro i a w ⟨⟨hi, hat⟩, hH, hA⟩
    by_cases hlt2 : i < es.length
    rotate_left
    · obtain rfl : i = es.length := by omega
      repeat' (first | (refine QT ?_; clear hA a; intro a hA) | ((first | refine CT ?_ | (refine DT ?_ ?_ <;> intro hc <;> try (exfalso; omega))) <;> repeat' refine CT ?_) | fail)
      exact ⟨hat, hH.tail, (hA.sub SBT)⟩
    have hvi := hint i hlt2
    repeat' (first | (refine GT ?_ ?_ <;> intro hg <;> clear hA a <;> intro a hA <;> (first | exact FA | replace hg := of_decide_eq_true hg | replace hg := of_decide_eq_false hg | skip)) | (refine XT ?_; apply XE; (first | (apply ex_load; rfl; apply cl_own; exact MEMT; exact hvi)); clear hA a; intro a hA) | (refine QT ?_; clear hA a; intro a hA) | ((first | refine CT ?_ | (refine DT ?_ ?_ <;> intro hc <;> try (exfalso; omega))) <;> repeat' refine CT ?_) | fail)
    · exact rt1 (.inl rfl) rfl hA rfl ⟨_, rfl, sh_no (fun h => by have := (ev_at (hev0 h) hlt2).1; omega), hH.kp⟩
    · exact rt1 (.inl rfl) rfl hA rfl ⟨_, rfl, sh_no (fun h => by have := (ev_at (hev0 h) hlt2).2.1; omega), hH.kp⟩
    refine wp_lpk (S := Nat) (fun k a w => (k ≤ i ∧ ∀ j, j < k → es.getD i 0 ≠ es.getD j 0) ∧ HS w0 noM [own 3 1 oV es.length cV (flat Fw.encI es)] w ∧ Sl 151 [(11, .int .i64 k), (10, .int .i64 i), (4, .slice oV es.length cV), (2, .bool false)] a) (fun k => i - k)
      (fun a w => (∀ j, j < i → es.getD i 0 ≠ es.getD j 0) ∧ HS w0 noM [own 3 1 oV es.length cV (flat Fw.encI es)] w ∧ Sl 151 [(10, .int .i64 i), (4, .slice oV es.length cV), (2, .bool false)] a) 0 ⟨⟨Nat.zero_le _, fun k h => absurd h (Nat.not_lt_zero _)⟩, hH, (hA.sub SBT)⟩ ?_ ?_
    · clear hA hH
      rintro k a w ⟨⟨hk, hne⟩, hH, hA⟩
      by_cases hlk : k < i
      rotate_left
      · obtain rfl : k = i := by omega
        repeat' (first | (refine QT ?_; clear hA a; intro a hA) | ((first | refine CT ?_ | (refine DT ?_ ?_ <;> intro hc <;> try (exfalso; omega))) <;> repeat' refine CT ?_) | fail)
        exact ⟨hne, hH, (hA.sub SBT)⟩
      have hvk := hint k (by omega)
      repeat' (first | (refine QT ?_; clear hA a; intro a hA) | ((first | refine CT ?_ | (refine DT ?_ ?_ <;> intro hc <;> try (exfalso; omega))) <;> repeat' refine CT ?_) | fail)
      (refine wp_draw_HS [(0, 1), (1, 1), (2, 1), (3, 1), (4, 1), (5, 1), (6, 1), (7, 1), (8, 1)] mixed (by decide +kernel) hH ?_; replace hH := hH.drew)
      repeat' (first | (refine XT ?_; apply XE; (first | (apply ex_load; rfl; apply cl_own; exact MEMT; first | exact hvi | exact hvk)); clear hA a; intro a hA) | (refine QT ?_; clear hA a; intro a hA) | ((first | refine CT ?_ | (refine DT ?_ ?_ <;> intro hc <;> try (exfalso; omega))) <;> repeat' refine CT ?_) | fail)
      · exact rt1 (.inl rfl) rfl hA rfl ⟨_, rfl, sh_no (fun h => (ev_at (hev0 h) hlt2).2.2 k hlk (by assumption)), hH.kp⟩
      · exact ⟨k + 1, ⟨⟨hlk, lt_next hne (by assumption)⟩, hH, (hA.sub SBT)⟩, by omega⟩
    clear hA hH
    rintro a w ⟨hne, hH, hA⟩
    repeat' (first | (refine QT ?_; clear hA a; intro a hA) | (refine CT ?_ <;> repeat' refine CT ?_) | fail)
    exact ⟨i + 1, ⟨⟨hlt2, lt_next hat ⟨by omega, by omega, hne⟩⟩, hH, (hA.sub SBT)⟩, by omega⟩
  clear hA hH
  rintro a w ⟨hat, hH, hA⟩
  repeat' (first | (refine QT ?_; clear hA a; intro a hA) | (refine CT ?_ <;> repeat' refine CT ?_) | fail)
  exact rt1 (.inl rfl) rfl hA rfl ⟨_, rfl, iff_of_true rfl (hyes (ev_of hat)), hH.kp⟩
end Go.Proofs.YtenlcdokaadobaaGreatDoor
namespace Go.Proofs.YtenlcdokaadobaaGreatDoor
open Go Go.Fw
set_option linter.unusedVariables false
def manyF (n : Int) : Int := if n = 6 ∨ n = 9 ∨ n = 10 ∨ n = 11 ∨ n = 16 ∨ n = 17 ∨ n = 20 ∨ n = 21 then 1 else if n = 15 then 3 else if n < 1 ∨ 21 < n then 0 else 2
theorem many_ar (n : Int) : (0 < manyF n ∧ arityF n = manyF n) ∨ (manyF n = 0 ∧ arityF n = -1) := by
  unfold manyF arityF
  split
  · exact .inl ⟨by decide, rfl⟩
  split
  · exact .inl ⟨by decide, rfl⟩
  split
  · exact .inr ⟨rfl, rfl⟩
  · exact .inl ⟨by decide, rfl⟩
section
variable {g : Grs} {cs : List Int} {mine : Int} {r : Stp}
theorem rform_ns (h : ¬ r.ns.l = []) (hk : ¬ r.k = 6) : ¬ FormP g cs mine r := fun hf => hf.ns.elim h hk
theorem rform_k (h : ¬ (1 ≤ r.k ∧ r.k ≤ 14)) : ¬ FormP g cs mine r := fun hf => h ⟨hf.lo, hf.hi⟩
theorem rform_by (hns : r.ns.l = []) (h6 : ¬ r.k = 6) (h : 1 ≤ r.k ∧ r.k ≤ 14) {w : Int} {p : Prop} (hw : wantF cs r = w ∧ (numP g cs mine r ↔ p)) : FormP g cs mine r ↔ p ∧ (r.a.l.length : Int) = w :=
  ⟨fun hf => ⟨hw.2.1 hf.num, hf.want.trans hw.1⟩, fun ⟨h1, h2⟩ => ⟨h.1, h.2, hw.2.2 h1, h2.trans hw.1.symm, .inl hns, fun e => absurd e h6⟩⟩
theorem rform_6 (h : r.k = 6) : FormP g cs mine r ↔ labP g r.ns.l ∧ r.n = 0 ∧ (r.a.l.length : Int) = r.ns.l.length :=
  ⟨fun hf => ⟨hf.lab h, (w_6 h).2.1 hf.num, hf.want.trans (w_6 (g := g) (mine := mine) h).1⟩, fun ⟨h1, h2, h3⟩ => ⟨by omega, by omega, (w_6 h).2.2 h2, h3.trans (w_6 (g := g) (mine := mine) h).1.symm, .inr h, fun _ => h1⟩⟩
end
set_option maxRecDepth 10000 attribute [local irreducible] Code.wp wpList Calls Ex Op1 sat bat blk cb own Go.Fw.mp Go.Fw.mpO Go.Fw.mpI Go.Fw.mpE Go.Fw.itr HS Rd Ret wkD Hp Cl Cls Exit.then Exit.inBlock Exit.noGoto bodyPost Go.Fw.flat wk2 Go.Fw.all Go.Fw.owns wpOp
attribute [local irreducible] sk mpK sko mvO entK

set_option maxHeartbeats 4000000 in
theorem many_spec (w0 : World) (n : Int) : Ret Tryz.prog 68 #[.int .i64 n] w0 (fun v w => v = .int .i64 (manyF n) ∧ Kp w0 noM w) := by
  have hH : HS w0 noM [] w0 := HS.init w0 noM
  (refine enter (N := 21) Tryz.func68 rfl Tryz.ntmps68 rfl ?_; intro a hA; dsimp only [sl0, Nat.reduceAdd] at hA)
  repeat' (first | (refine GT ?_ ?_ <;> intro hg <;> clear hA a <;> intro a hA <;> (first | exact FA | replace hg := of_decide_eq_true hg | replace hg := of_decide_eq_false hg | skip)) | (refine QT ?_; clear hA a; intro a hA) | ((first | refine CT ?_ | (refine DT ?_ ?_ <;> intro hc <;> try (exfalso; omega))) <;> repeat' refine CT ?_) | fail)
  all_goals exact rt1 (.inl rfl) rfl hA rfl ⟨by congr 1; unfold manyF; (repeat (first | rw [if_pos (by omega)] | rw [if_neg (by omega)])), hH.kp⟩
set_option maxHeartbeats 4000000 in
theorem in_spec (w0 : World) (n m : Int) : Ret Tryz.prog 69 #[.int .i64 n, .int .i64 m] w0 (fun v w => v = .bool (decide (0 ≤ n ∧ n < m)) ∧ Kp w0 noM w) := by
  have hH : HS w0 noM [] w0 := HS.init w0 noM
  (refine enter (N := 12) Tryz.func69 rfl Tryz.ntmps69 rfl ?_; intro a hA; dsimp only [sl0, Nat.reduceAdd] at hA)
  repeat' (first | (refine GT ?_ ?_ <;> intro hg <;> clear hA a <;> intro a hA <;> (first | exact FA | replace hg := of_decide_eq_true hg | replace hg := of_decide_eq_false hg | skip)) | (refine QT ?_; clear hA a; intro a hA) | (refine CT ?_ <;> repeat' refine CT ?_) | fail)
  · exact rt1 (.inl rfl) rfl hA rfl ⟨by rw [and_dec (p := 0 ≤ n) (by assumption)], hH.kp⟩
  · exact rt1 (.inl rfl) rfl hA rfl ⟨by rw [decide_eq_false]; exact fun h => (by assumption : ¬ 0 ≤ n) h.1, hH.kp⟩
set_option maxHeartbeats 16000000 in
theorem Form_spec (w0 : World) (oP : Option Addr) (nP cP : Nat) (g : Grs) (oA : Option Addr) (cA : Nat) (la : List Int) (mine : Int) (r : Stp) (hA0 : Rd w0 oA (flat Fw.encI la)) (hla : la.length ≤ 9223372036854775807) (hN : RdV w0 Fw.encI r.ns) :
    Ret Tryz.prog 36 #[.agg (encP oP nP cP g).toArray, .slice oA la.length cA, .int .i64 mine, .agg (encSt r).toArray] w0 (fun v w => ∃ b, v = .bool b ∧ (b = true ↔ FormP g la mine r) ∧ Kp w0 noM w) := by
  have hH : HS w0 noM [] w0 := HS.init w0 noM
  have hle := hN.le
  have hspA : Sp oA la.length := hA0.sp (sz := 1) (flat_length Fw.encI_len _) (by omega)
  have hspN : Sp r.ns.o r.ns.l.length := hN.1.sp (sz := 1) (flat_length Fw.encI_len _) (by omega)
  have hnil : r.ns.l = [] ↔ r.ns.l.length = 0 := List.length_eq_zero_iff.symm
  have har := many_ar r.n
  (refine enter (N := 180) Tryz.func36 rfl Tryz.ntmps36 rfl ?_; intro a hA; dsimp only [sl0, Nat.reduceAdd] at hA)
  repeat' (first | (refine GT ?_ ?_ <;> intro hg <;> clear hA a <;> intro a hA <;> (first | exact FA | replace hg := of_decide_eq_true hg | replace hg := of_decide_eq_false hg | skip)) | (refine XT ?_; apply XE; (first | (apply ex_indexAddr; rfl; rfl; omega; omega; exact hspA) | (apply ex_load; rfl; refine cl_rd hA0 id (ints_at ?_); omega)); clear hA a; intro a hA) | (refine QT ?_; clear hA a; intro a hA) | (refine BT ?_; clear hA hH; rintro _ w ⟨bN, rfl, hH⟩ a hA) | (refine st_op hA rfl rfl (by decide) (op_call rfl rfl rfl (in_spec _ _ _)) ?_; clear hA; rintro _ w ⟨rfl, hk⟩ a hA; replace hH := hH.keep hk; clear hk) | (refine st_op hA rfl rfl (by decide) (op_call rfl rfl rfl (many_spec _ _)) ?_; clear hA; rintro _ w ⟨rfl, hk⟩ a hA; replace hH := hH.keep hk; clear hk) | ((first | refine CT ?_ | (refine DT ?_ ?_ <;> intro hc <;> try (exfalso; omega))) <;> repeat' refine CT ?_) | fail)
  all_goals (first | exact rt1 (.inl rfl) rfl hA rfl ⟨_, rfl, form_no (rform_ns (fun e => absurd (hnil.1 e) (by omega)) (by assumption)), hH.kp⟩ | exact rt1 (.inl rfl) rfl hA rfl ⟨_, rfl, (by rw [rform_by (hnil.2 (by omega)) (by omega) ⟨by omega, by omega⟩ (w_1 (by omega))]; first | exact ⟨fun h => ⟨of_decide_eq_true h, by omega⟩, fun h => decide_eq_true h.1⟩ | exact ⟨fun h => ⟨(by assumption), of_decide_eq_true h⟩, fun h => decide_eq_true h.2⟩ | exact ⟨fun h => (by cases h), fun h => absurd h.2 (by omega)⟩ | exact ⟨fun h => (by cases h), fun h => absurd h.1 (by assumption)⟩), hH.kp⟩ | exact rt1 (.inl rfl) rfl hA rfl ⟨_, rfl, (by rw [rform_by (hnil.2 (by omega)) (by omega) ⟨by omega, by omega⟩ (w_2 (by assumption))]; rcases har with ⟨h1, h2⟩ | ⟨h1, h2⟩ <;> first | exact ⟨fun h => ⟨trivial, (by have := of_decide_eq_true h; omega)⟩, fun h => decide_eq_true (by omega)⟩ | exact ⟨fun h => (by cases h), fun h => absurd h.2 (by omega)⟩ | (exfalso; omega)), hH.kp⟩ | exact rt1 (.inl rfl) rfl hA rfl ⟨_, rfl, (by rw [rform_by (hnil.2 (by omega)) (by omega) ⟨by omega, by omega⟩ (w_3 (by omega))]; first | exact ⟨fun h => ⟨of_decide_eq_true h, by omega⟩, fun h => decide_eq_true h.1⟩ | exact ⟨fun h => ⟨(by assumption), of_decide_eq_true h⟩, fun h => decide_eq_true h.2⟩ | exact ⟨fun h => (by cases h), fun h => absurd h.2 (by omega)⟩ | exact ⟨fun h => (by cases h), fun h => absurd h.1 (by assumption)⟩), hH.kp⟩ | exact rt1 (.inl rfl) rfl hA rfl ⟨_, rfl, (by rw [rform_by (hnil.2 (by omega)) (by omega) ⟨by omega, by omega⟩ (w_4 (by assumption))]; first | exact ⟨fun h => ⟨of_decide_eq_true h, by omega⟩, fun h => decide_eq_true h.1⟩ | exact ⟨fun h => ⟨(by assumption), of_decide_eq_true h⟩, fun h => decide_eq_true h.2⟩ | exact ⟨fun h => (by cases h), fun h => absurd h.2 (by omega)⟩ | exact ⟨fun h => (by cases h), fun h => absurd h.1 (by assumption)⟩), hH.kp⟩ | exact rt1 (.inl rfl) rfl hA rfl ⟨_, rfl, (by rw [rform_by (hnil.2 (by omega)) (by omega) ⟨by omega, by omega⟩ (w_5 (by assumption))]; first | exact ⟨fun h => ⟨of_decide_eq_true h, by omega⟩, fun h => decide_eq_true h.1⟩ | exact ⟨fun h => ⟨(by assumption), of_decide_eq_true h⟩, fun h => decide_eq_true h.2⟩ | exact ⟨fun h => (by cases h), fun h => absurd h.2 (by omega)⟩ | exact ⟨fun h => (by cases h), fun h => absurd h.1 (by assumption)⟩), hH.kp⟩ | exact rt1 (.inl rfl) rfl hA rfl ⟨_, rfl, (by rw [rform_by (hnil.2 (by omega)) (by omega) ⟨by omega, by omega⟩ (w_7 (by assumption))]; first | exact ⟨fun h => ⟨of_decide_eq_true h, by omega⟩, fun h => decide_eq_true h.1⟩ | exact ⟨fun h => ⟨(by assumption), of_decide_eq_true h⟩, fun h => decide_eq_true h.2⟩ | exact ⟨fun h => (by cases h), fun h => absurd h.2 (by omega)⟩ | exact ⟨fun h => (by cases h), fun h => absurd h.1 (by assumption)⟩), hH.kp⟩ | exact rt1 (.inl rfl) rfl hA rfl ⟨_, rfl, (by rw [rform_by (hnil.2 (by omega)) (by omega) ⟨by omega, by omega⟩ (w_8 (by assumption))]; first | exact ⟨fun h => ⟨of_decide_eq_true h, by omega⟩, fun h => decide_eq_true h.1⟩ | exact ⟨fun h => ⟨(by assumption), of_decide_eq_true h⟩, fun h => decide_eq_true h.2⟩ | exact ⟨fun h => (by cases h), fun h => absurd h.2 (by omega)⟩ | exact ⟨fun h => (by cases h), fun h => absurd h.1 (by assumption)⟩), hH.kp⟩ | exact rt1 (.inl rfl) rfl hA rfl ⟨_, rfl, (by rw [rform_by (hnil.2 (by omega)) (by omega) ⟨by omega, by omega⟩ (w_9 (by assumption))]; first | exact ⟨fun h => ⟨of_decide_eq_true h, by omega⟩, fun h => decide_eq_true h.1⟩ | exact ⟨fun h => ⟨(by assumption), of_decide_eq_true h⟩, fun h => decide_eq_true h.2⟩ | exact ⟨fun h => (by cases h), fun h => absurd h.2 (by omega)⟩ | exact ⟨fun h => (by cases h), fun h => absurd h.1 (by assumption)⟩), hH.kp⟩ | exact rt1 (.inl rfl) rfl hA rfl ⟨_, rfl, (by rw [rform_by (hnil.2 (by omega)) (by omega) ⟨by omega, by omega⟩ (w_14 (by assumption))]; first | exact ⟨fun h => ⟨of_decide_eq_true h, by omega⟩, fun h => decide_eq_true h.1⟩ | exact ⟨fun h => ⟨(by assumption), of_decide_eq_true h⟩, fun h => decide_eq_true h.2⟩ | exact ⟨fun h => (by cases h), fun h => absurd h.2 (by omega)⟩ | exact ⟨fun h => (by cases h), fun h => absurd h.1 (by assumption)⟩), hH.kp⟩ | exact rt1 (.inl rfl) rfl hA rfl ⟨_, rfl, form_no (rform_k (by omega)), hH.kp⟩ | skip)
  all_goals
    obtain ⟨b4, b7, hH, hA⟩ : ∃ b4 b7, HS w0 noM [cb b7 57 (encSt r), cb b4 34 (encP oP nP cP g)] w ∧ Sl 180 [(10, .int .i64 0), (9, .int .i64 r.a.l.length), (8, .bool false), (7, .pointer (some (bat b7 0))), (4, .pointer (some (bat b4 0)))] a := ⟨_, _, hH, (hA.sub SBT)⟩
    refine wp_lpk (S := Nat) (fun i a w => (i ≤ r.ns.l.length ∧ ∀ k, k < i → labAt g r.ns.l k) ∧ HS w0 noM [cb b7 57 (encSt r), cb b4 34 (encP oP nP cP g)] w ∧ Sl 180 [(10, .int .i64 i), (9, .int .i64 r.a.l.length), (8, .bool false), (7, .pointer (some (bat b7 0))), (4, .pointer (some (bat b4 0)))] a) (fun i => r.ns.l.length - i)
      (fun a w => labP g r.ns.l ∧ HS w0 noM [cb b7 57 (encSt r), cb b4 34 (encP oP nP cP g)] w ∧ Sl 180 [(9, .int .i64 r.a.l.length), (8, .bool false), (7, .pointer (some (bat b7 0))), (4, .pointer (some (bat b4 0)))] a) 0 ⟨⟨Nat.zero_le _, fun k h => absurd h (Nat.not_lt_zero _)⟩, hH, (hA.sub SBT)⟩ ?_ ?_
    · clear hA hH
      rintro i a w ⟨⟨hi, hlab⟩, hH, hA⟩
      by_cases hlt : i < r.ns.l.length
      rotate_left
      · repeat' (first | (refine QT ?_; clear hA a; intro a hA) | ((first | refine CT ?_ | (refine DT ?_ ?_ <;> intro hc <;> try (exfalso; omega))) <;> repeat' refine CT ?_) | fail)
        obtain rfl : i = r.ns.l.length := by omega
        exact ⟨hlab, hH, (hA.sub SBT)⟩
      have e1 : ((i : Int) - 1).toNat = i - 1 := by omega
      repeat' (first | (refine QT ?_; clear hA a; intro a hA) | ((first | refine CT ?_ | (refine DT ?_ ?_ <;> intro hc <;> try (exfalso; omega))) <;> repeat' refine CT ?_) | fail)
      all_goals (refine wp_draw_HS [(0, 1), (1, 1), (2, 1), (3, 1), (4, 1), (5, 1), (6, 1), (7, 1), (8, 0), (9, 1), (10, 1), (11, 1), (12, 1), (13, 1), (14, 1), (15, 1), (16, 1), (17, 1), (18, 1), (19, 1), (20, 1), (21, 1), (22, 1), (23, 1), (24, 1), (25, 1), (26, 1), (27, 1)] mixed (by decide +kernel) hH ?_; replace hH := hH.drew)
      all_goals repeat' (first | (refine XT ?_; apply XE; (first | (apply ex_indexAddr_nat; rfl; rfl; omega; exact hspN) | (apply ex_load; rfl; refine cl_rd hN.1 id (ints_at ?_); omega)); clear hA a; intro a hA) | (refine QT ?_; clear hA a; intro a hA) | fail)
      all_goals (refine dr_op hA rfl rfl rfl (by decide) (op_call rfl rfl rfl (in_spec _ _ _)) ?_; clear hA; rintro _ w ⟨rfl, hk⟩; replace hH := hH.keep hk; clear hk; refine ⟨STT, ?_⟩; intro a hA)
      all_goals repeat' (first | (refine GT ?_ ?_ <;> intro hg <;> clear hA a <;> intro a hA <;> (first | exact FA | replace hg := of_decide_eq_true hg | replace hg := of_decide_eq_false hg | skip)) | (refine XT ?_; apply XE; (first | (apply ex_indexAddr_nat; rfl; rfl; omega; exact hspN) | (apply ex_indexAddr; rfl; rfl; omega; omega; exact hspN) | (apply ex_load; rfl; refine cl_rd hN.1 id (ints_at ?_); omega)); clear hA a; intro a hA) | (refine QT ?_; clear hA a; intro a hA) | ((first | refine CT ?_ | (refine DT ?_ ?_ <;> intro hc <;> try (exfalso; omega))) <;> repeat' refine CT ?_) | fail)
      all_goals first
        | exact ⟨i + 1, ⟨⟨hlt, lab_next hlab ⟨nd_f (by assumption), fun h0 => (by omega)⟩⟩, hH, (hA.sub SBT)⟩, by omega⟩
        | exact ⟨i + 1, ⟨⟨hlt, lab_next hlab ⟨nd_f (by assumption), fun h0 => (by rw [← e1]; omega)⟩⟩, hH, (hA.sub SBT)⟩, by omega⟩
        | exact rt1 (.inl rfl) rfl hA rfl ⟨_, rfl, form_no (lab_no hlt (by assumption) (fun h => nd_t (by assumption) h.1)), hH.kp⟩
        | exact rt1 (.inl rfl) rfl hA rfl ⟨_, rfl, form_no (lab_no hlt (by assumption) (fun h => (by have h1 := h.2 (by omega); rw [← e1] at h1; omega))), hH.kp⟩
    clear hA hH
    rintro a w ⟨hlab, hH, hA⟩
    repeat' (first | (refine GT ?_ ?_ <;> intro hg <;> clear hA a <;> intro a hA <;> (first | exact FA | replace hg := of_decide_eq_true hg | replace hg := of_decide_eq_false hg | skip)) | (refine QT ?_; clear hA a; intro a hA) | (refine CT ?_ <;> repeat' refine CT ?_) | fail)
    all_goals first
      | exact rt1 (.inl rfl) rfl hA rfl ⟨_, rfl, (by rw [rform_6 (by assumption)]; exact ⟨fun h => ⟨hlab, by assumption, of_decide_eq_true h⟩, fun h => decide_eq_true h.2.2⟩), hH.kp⟩
      | exact rt1 (.inl rfl) rfl hA rfl ⟨_, rfl, (by rw [rform_6 (by assumption)]; exact ⟨fun h => (by cases h), fun h => absurd h.2.1 (by assumption)⟩), hH.kp⟩
end Go.Proofs.YtenlcdokaadobaaGreatDoor
namespace Go.Proofs.YtenlcdokaadobaaGreatDoor
open Go Go.Fw
set_option linter.unusedVariables false
structure BlQ (g : Grs) (f : Gr) (cs : List Int) (n : Nat) (bl : Blc) : Prop where
  ins : ∀ (i : Nat) (x : Ins), bl.is.l[i]? = some x → FormP g cs f.caps x.r ∧ ∀ a ∈ x.r.a.l, atS g (nowS (BS f n) bl i) a
  ends : ∀ a ∈ bl.e.a.l, atS g (nowS (BS f n) bl bl.is.l.length) a
  edges : ∀ t ∈ bl.e.to.l, ∀ a ∈ t.a.l, atS g (nowS (BS f n) bl bl.is.l.length) a
theorem gr_of {g : Grs} {cs : List Int} {f : Gr} (hs : ShP f) (hb : ∀ (n : Nat) (bl : Blc), f.bs.l[n]? = some bl → BlQ g f cs n bl) : GrP g cs f :=
  ⟨hs.ne, fun n bl h => ⟨(hs.blk n bl h).c, ⟨fun h0 => by
    subst h0
    have h1 := hs.first
    rw [List.getD_eq_getElem?_getD, h] at h1
    exact List.length_eq_zero_iff.1 h1, (hb n bl h).ins, (hs.blk n bl h).e, (hb n bl h).ends, fun t ht => ⟨((hs.blk n bl h).t t ht).1, ((hs.blk n bl h).t t ht).2.1, ((hs.blk n bl h).t t ht).2.2, (hb n bl h).edges t ht⟩⟩⟩, hs.ev⟩
theorem gr_sh {g : Grs} {cs : List Int} {f : Gr} (h : GrP g cs f) : ShP f :=
  ⟨h.ne, by
    have h0 := List.getElem?_eq_getElem h.ne
    rw [List.getD_eq_getElem?_getD, h0]
    exact List.length_eq_zero_iff.2 ((h.blk 0 _ h0).2.first rfl), fun n bl hb => ⟨(h.blk n bl hb).2.end_, (h.blk n bl hb).1, fun t ht => ⟨((h.blk n bl hb).2.edges t ht).1, ((h.blk n bl hb).2.edges t ht).2.1, ((h.blk n bl hb).2.edges t ht).2.2.1⟩⟩, h.ev⟩
theorem gr_q {g : Grs} {cs : List Int} {f : Gr} (h : GrP g cs f) {n : Nat} {bl : Blc} (hb : f.bs.l[n]? = some bl) : BlQ g f cs n bl :=
  ⟨(h.blk n bl hb).2.ins, (h.blk n bl hb).2.ends, fun t ht => ((h.blk n bl hb).2.edges t ht).2.2.2⟩
theorem grN_le {g : Grs} {f : Gr} (h : f ∈ g.fs.l) : grN f ≤ grsN g := by
  unfold grsN
  generalize g.fs.l = l at h
  induction l with
  | nil => cases h
  | cons x l ih =>
    rw [List.map_cons, List.sum_cons]
    rcases List.mem_cons.1 h with rfl | h
    · omega
    · have := ih h; omega
theorem sh_edgs {f : Gr} (h : ShP f) : EdgS f := fun m bl hb t ht => ⟨((h.blk m bl hb).t t ht).1, ((h.blk m bl hb).t t ht).2.1⟩
theorem st_at {l : List Ins} {k : Nat} {x : Ins} (h : l[k]? = some x) (i : Nat) (v : Value) (hv : (encSt x.r)[i]? = some v) : (flat encIn l)[k * 5 + 1 + i]? = some v := by
  rw [Nat.add_assoc]
  refine flat_get (off := 1 + i) encIn_len h ?_
  rw [Nat.add_comm]
  exact hv
theorem all_f {l : List Gr} {p : Gr → Prop} (h : ∀ (k : Nat) f, l[k]? = some f → k < l.length → p f) : ∀ f ∈ l, p f := fun f hf => by
  obtain ⟨k, hk⟩ := List.getElem?_of_mem hf
  exact h k f hk (List.getElem?_eq_some_iff.1 hk).1
theorem nx_k {α : Type} {l : List α} {p : Nat → α → Prop} {i : Nat} {x : α} (hx : l[i]? = some x) (h : ∀ k y, l[k]? = some y → k < i → p k y) (hp : p i x) : ∀ k y, l[k]? = some y → k < i + 1 → p k y := fun k y hy hk => by
  by_cases e : k = i
  · subst e
    rw [hx] at hy
    cases hy
    exact hp
  · exact h k y hy (by omega)
set_option maxRecDepth 10000 attribute [local irreducible] Code.wp wpList Calls Ex Op1 sat bat blk cb own Go.Fw.mp Go.Fw.mpO Go.Fw.mpI Go.Fw.mpE Go.Fw.itr HS Rd Ret wkD Hp Cl Cls Exit.then Exit.inBlock Exit.noGoto bodyPost Go.Fw.flat wk2 Go.Fw.all Go.Fw.owns wpOp
attribute [local irreducible] sk mpK sko mvO entK geS idxF cmS evs

set_option maxHeartbeats 32000000 in
theorem refMay_spec (w0 : World) (g : Grs) (hR : RdGs w0 g) (hl : g.fs.l.length ≤ 100000) (hs : SzG 1048576 g) :
    Ret Tryz.prog 15 #[.agg (encGs g).toArray] w0 (fun v w => ∃ b, v = .bool b ∧ (b = true ↔ MayP g) ∧ Kp w0 noM w) := by
  have hH : HS w0 noM [] w0 := HS.init w0 noM
  have hspF : Sp g.fs.o g.fs.l.length := hR.1.1.sp (sz := 2) (flat_length encG_len _) (by omega)
  (refine enter (N := 160) Tryz.func15 rfl Tryz.ntmps15 rfl ?_; intro a hA; dsimp only [sl0, Nat.reduceAdd] at hA)
  repeat' (first | (refine XT ?_; apply XE; (first | (apply ex_build_p (cs := (encP none 0 0 g).toArray); rfl; exact FLT; rfl)); clear hA a; intro a hA) | (refine QT ?_; clear hA a; intro a hA) | (refine BT ?_; clear hA hH; rintro _ w ⟨bN, rfl, hH⟩ a hA) | (refine LT ?_; clear hA hH; rintro _ w ⟨oN, rfl, hH⟩ a hA) | (apply st_op0 hA rfl rfl; apply op_store_agg (vs := encP none 0 0 g); rfl; rfl; exact hH; (repeat constructor); (repeat rfl); clear hH; rintro _ w hH) | (refine CT ?_ <;> repeat' refine CT ?_) | fail)
  obtain ⟨b3, hb3⟩ : ∃ x, x = bN := ⟨_, rfl⟩
  subst hb3
  obtain ⟨b1, oA0, hH, hA2⟩ : ∃ b1 oA0, HS w0 noM [cb b3 34 (encP none 0 0 g), own 3 1 oA0 0 0 (flat Fw.encI ((g.fs.l.take 0).map Gr.caps)), cb b1 25 (encGs g)] w ∧ Sl 160 [(5, .int .i64 (0 : Nat)), (4, .slice oA0 0 0), (3, .pointer (some (bat b3 0))), (1, .pointer (some (bat b1 0))), (2, .bool false)] a := ⟨bN, oN, (by rw [List.take_zero, List.map_nil, flatI_nil]; exact hH.perm PMT), (hA.sub SBT)⟩
  clear hA
  refine wp_lpk (S := Nat) (fun i a w => ∃ oF cF oA cA fs, (i ≤ g.fs.l.length ∧ fs.length = i ∧ fs.map Prod.snd = ((g.fs.l.take i).map Gr.caps)) ∧ HS w0 noM [cb b3 34 (encP oF i cF g), cb b1 25 (encGs g), own 72 12 oF i cF (flat encF2 fs), own 3 1 oA i cA (flat Fw.encI ((g.fs.l.take i).map Gr.caps)), fzI (fun w => ∀ p ∈ fs, Rd w p.1 (encAt at0))] w ∧ Sl 160 [(5, .int .i64 i), (4, .slice oA i cA), (3, .pointer (some (bat b3 0))), (1, .pointer (some (bat b1 0))), (2, .bool false)] a) (fun i => g.fs.l.length - i)
    (fun a w => ∃ oF cF oA cA fs, (fs.length = g.fs.l.length ∧ fs.map Prod.snd = g.fs.l.map Gr.caps) ∧ HS w0 noM [cb b3 34 (encP oF g.fs.l.length cF g), cb b1 25 (encGs g), own 72 12 oF g.fs.l.length cF (flat encF2 fs), own 3 1 oA g.fs.l.length cA (flat Fw.encI (g.fs.l.map Gr.caps)), fzI (fun w => ∀ p ∈ fs, Rd w p.1 (encAt at0))] w ∧ Sl 160 [(4, .slice oA g.fs.l.length cA), (3, .pointer (some (bat b3 0))), (1, .pointer (some (bat b1 0))), (2, .bool false)] a) 0
    ⟨none, 0, oA0, 0, [], ⟨Nat.zero_le _, rfl, rfl⟩, ((HS.nil_flat encF2 (HS.fz_nil (K := fun w => ∀ p ∈ ([] : List (Option Addr × Int)), Rd w p.1 (encAt at0)) hH (fun w p hp => absurd hp List.not_mem_nil)) 72 12).perm PMT), hA2⟩ ?_ ?_
  · clear hA2 hH
    rintro i a w ⟨oF, cF, oA, cA, fs, ⟨hi, hfl, hfc⟩, hH, hA⟩
    by_cases hlt : i < g.fs.l.length
    rotate_left
    · obtain rfl : i = g.fs.l.length := by omega
      rw [List.take_length] at hfc hH
      repeat' (first | (refine QT ?_; clear hA a; intro a hA) | ((first | refine CT ?_ | (refine DT ?_ ?_ <;> intro hc <;> try (exfalso; omega))) <;> repeat' refine CT ?_) | fail)
      exact ⟨oF, cF, oA, cA, fs, ⟨hfl, hfc⟩, hH, (hA.sub SBT)⟩
    obtain ⟨f, hf⟩ : ∃ x, g.fs.l[i]? = some x := ⟨_, List.getElem?_eq_getElem hlt⟩
    have hvc : (flat encG g.fs.l)[i * 2 + 0]? = some (.int .i64 f.caps) := flat_get (off := 0) encG_len hf rfl
    have hcl := map_caps_len (l := g.fs.l) hi
    repeat' (first | (refine QT ?_; clear hA a; intro a hA) | ((first | refine CT ?_ | (refine DT ?_ ?_ <;> intro hc <;> try (exfalso; omega))) <;> repeat' refine CT ?_) | fail)
    have hST : HS w0 noM [cb b3 34 (encP oF i cF g), cb b1 25 (encGs g)] w := HS.left (H1 := [_, _]) hH
    (refine wp_draw2_HS (H := [_, _]) [(0, 1), (1, 1), (2, 1), (3, 1), (4, 1), (5, 1), (6, 1), (7, 1), (8, 1), (9, 0), (10, 1), (11, 1), (12, 0), (13, 0), (14, 1)] [15] mixed (by decide +kernel) (hST) ?_; replace hH := hH.drew)
    clear hST
    repeat' (first | (refine XT ?_; apply XE; (first | (apply ex_indexAddr_nat; rfl; rfl; omega; exact hspF) | (apply ex_load; rfl; exact cl_rd hR.1.1 id hvc) | (apply ex_build_p (cs := (encAt at0).toArray); rfl; exact FLT; rfl)); clear hA a; intro a hA) | (refine QT ?_; clear hA a; intro a hA) | (refine DLT ?_; clear hA hH; rintro _ w ⟨oN, rfl, hH⟩; refine ⟨STT, ?_⟩; intro a hA) | fail)
    (apply dr_op hA rfl rfl rfl (by decide); apply op_sliceLit (xs := encAt at0) (vs := [.agg (encAt at0).toArray]); rfl; rfl; exact (Cats.cn (cs := encAt at0) Cats.nil); rfl; rfl; rfl; exact hH; clear hA hH; rintro _ w ⟨oN, rfl, hH⟩; refine ⟨HS.left (H1 := [_, _]) hH.tail, ?_⟩; intro a hA)
    obtain ⟨oB, hoB⟩ : ∃ x, x = oN := ⟨_, rfl⟩
    subst hoB
    (refine dr_ex hA rfl rfl rfl (by decide) (ex_build (szs := [(0, 1), (1, 1), (2, 1), (3, 1), (4, 1), (5, 4), (9, 1), (10, 1)]) (cs := (encB oB).toArray) (run_szl (by (repeat (first | exact SzL.nil | refine SzL.cons ⟨_, rfl, by decide⟩ ?_)))) rfl rfl) ?_; clear hA a; intro a hA)
    (refine dr_ex hA rfl rfl rfl (by decide) (ex_build (szs := [(0, 1), (1, 11)]) (cs := (encF oB f.caps).toArray) (run_szl (.cons ⟨_, rfl, by decide⟩ (.cons ⟨_, rfl, by decide⟩ .nil))) rfl (fill_F oB f.caps _ rfl)) ?_; clear hA a; intro a hA)
    obtain ⟨fc, hfc2⟩ : ∃ x, x = encF oB f.caps := ⟨_, rfl⟩
    have hfl2 : fc.length = 12 := by rw [hfc2]; rfl
    have hfo : fc.all (·.oneCell') = true := by rw [hfc2]; rfl
    rw [← hfc2] at hA
    have hcats : Cats 12 [.agg fc.toArray] fc := by
      have h := Cats.cn (cs := fc) Cats.nil
      rw [hfl2, List.append_nil] at h
      exact h
    (apply dr_op hA rfl rfl rfl (by decide); apply op_sliceLit (xs := fc) (vs := [.agg fc.toArray]); rfl; rfl; exact hcats; rfl; rfl; rfl; exact hH; clear hA hH; rintro _ w ⟨oL, rfl, hH⟩; refine ⟨HS.left (H1 := [_, _]) hH.tail.tail, ?_⟩; intro a hA)
    (apply dr_op hA rfl rfl rfl (by decide); apply op_append; rfl; rfl; exact hH; exact MEMT; exact (hH.own_rd (List.Mem.head _)); exact hfl2; rfl; decide; exact hfo; (unfold maxLen; omega); omega; clear hA; rintro _ w ⟨oN, cN, rfl, hH2⟩; clear hH; have hH := hH2 _ (by (repeat constructor)); clear hH2; refine ⟨HS.left (H1 := [_, _]) hH.tail.tail, ?_⟩; intro a hA)
    rw [hfc2, show encF oB f.caps = encF2 (oB, f.caps) from rfl, ← flat_snoc] at hH
    obtain ⟨oF2, hoF2⟩ : ∃ x, x = oN := ⟨_, rfl⟩
    subst hoF2
    obtain ⟨cF2, hcF2⟩ : ∃ x, x = cN := ⟨_, rfl⟩
    subst hcF2
    repeat' (first | (refine QT ?_; clear hA a; intro a hA) | (refine CT ?_ <;> repeat' refine CT ?_) | fail)
    (apply dr_op03 hA rfl rfl rfl; apply op_store_fld (cs' := encP oF2 (i + 1) cF2 g); rfl; rfl; rfl; exact hH; (repeat constructor); clear hH; rintro _ w hH)
    replace hH := hH.tail
    repeat' (first | (refine XT ?_; apply XE; (first | (apply ex_indexAddr_nat; rfl; rfl; omega; exact hspF) | (apply ex_load; rfl; exact cl_rd hR.1.1 id hvc)); clear hA a; intro a hA) | (refine QT ?_; clear hA a; intro a hA) | (refine LT ?_; clear hA hH; rintro _ w ⟨oN, rfl, hH⟩ a hA) | (refine AT ?_; clear hA; rintro _ w ⟨oN, cN, rfl, hH2⟩ a hA; clear hH; have hH := (hH2 _ (by (repeat constructor))).tail; clear hH2) | (refine CT ?_ <;> repeat' refine CT ?_) | fail)
    rw [flatI_s, ← map_caps_next hf] at hH
    have hH2 := (hH.perm (H' := own 65 2 oB 1 1 (encAt at0) :: fzI (fun w => ∀ p ∈ fs, Rd w p.1 (encAt at0)) :: cb b3 34 (encP oF2 (i + 1) cF2 g) :: cb b1 25 (encGs g) :: own 72 12 oF2 (i + 1) cF2 (flat encF2 (fs ++ [(oB, f.caps)])) :: own 3 1 oN (i + 1) cN (flat Fw.encI ((g.fs.l.take (i + 1)).map Gr.caps)) :: []) PMT).fz_own.fz_and.fz_mono (K2 := fun w => ∀ p ∈ fs ++ [(oB, f.caps)], Rd w p.1 (encAt at0)) (fun w ⟨h1, h2⟩ p hp => by
      rcases List.mem_append.1 hp with hp | hp
      · exact h2 p hp
      · rw [List.mem_singleton] at hp
        subst hp
        exact h1)
    exact ⟨i + 1, ⟨oF2, cF2, oN, cN, fs ++ [(oB, f.caps)], ⟨hlt, by rw [List.length_append, hfl]; rfl, by rw [List.map_append, hfc, map_caps_next hf]; rfl⟩, hH2.perm PMT, (hA.sub SBT)⟩, by omega⟩
  clear hA2 hH
  rintro a w ⟨oF, cF, oA, cA, fs, ⟨hfl, hfc⟩, hH, hA⟩
  have hk0 := hH.kp
  have hsp := refMay0_spec w oF cF fs g (hH.own_rd (T := 72) MEMT) (hH.fz (K := fun w => ∀ p ∈ fs, Rd w p.1 (encAt at0)) MEMT) (by omega) (hR.2.2.1.keep hk0) (hR.2.2.2.1.keep hk0) (hR.2.2.2.2.1.keep hk0) (hR.2.2.2.2.2.keep hk0)
  rw [hfl, hfc] at hsp
  repeat' (first | (refine QT ?_; clear hA a; intro a hA) | (refine CT ?_ <;> repeat' refine CT ?_) | fail)
  (refine st_op hA rfl rfl (by decide) (op_call rfl rfl rfl hsp) ?_; clear hA; rintro _ w ⟨bm, rfl, hbm, hk⟩ a hA; replace hH := hH.keep hk; clear hk hsp hk0)
  cases bm with
  | false =>
    repeat' (first | (refine GT ?_ ?_ <;> intro hg <;> clear hA a <;> intro a hA <;> (first | exact FA | replace hg := of_decide_eq_true hg | replace hg := of_decide_eq_false hg | skip)) | (refine QT ?_; clear hA a; intro a hA) | (refine CT ?_ <;> repeat' refine CT ?_) | fail)
    exact rt1 (.inl rfl) rfl hA rfl ⟨_, rfl, may_no (fun h => (by cases hbm.2 h.anf)), hH.kp⟩
  | true =>
  have hanf := hbm.1 rfl
  repeat' (first | (refine GT ?_ ?_ <;> intro hg <;> clear hA a <;> intro a hA <;> (first | exact FA | replace hg := of_decide_eq_true hg | replace hg := of_decide_eq_false hg | skip)) | (refine QT ?_; clear hA a; intro a hA) | (refine CT ?_ <;> repeat' refine CT ?_) | fail)
  (refine st_op hA rfl rfl (by decide) (op_call rfl rfl rfl (Parts_spec _ g 65536 (by decide) (hR.keep hH.kp) hs)) ?_; clear hA; rintro _ w ⟨np, rfl, hn, hk⟩ a hA; replace hH := hH.keep hk; clear hk)
  repeat' (first | (refine QT ?_; clear hA a; intro a hA) | ((first | refine CT ?_ | (refine DT ?_ ?_ <;> intro hc <;> try (exfalso; omega))) <;> repeat' refine CT ?_) | fail)
  · exact rt1 (.inl rfl) rfl hA rfl ⟨_, rfl, may_no (fun h => (by have := hn.2 h.size; omega)), hH.kp⟩
  have hsz : grsN g ≤ 65536 := hn.1 (by omega)
  obtain ⟨cl, hcl⟩ : ∃ x, x = g.fs.l.map Gr.caps := ⟨_, rfl⟩
  have hcll : cl.length = g.fs.l.length := by rw [hcl, List.length_map]
  obtain ⟨hH3, hA3⟩ : HS w0 noM [cb b3 34 (encP oF cl.length cF g), own 3 1 oA cl.length cA (flat Fw.encI cl), cb b1 25 (encGs g)] w ∧ Sl 160 [(7, .int .i64 (0 : Nat)), (4, .slice oA cl.length cA), (3, .pointer (some (bat b3 0))), (1, .pointer (some (bat b1 0))), (2, .bool false)] a := by
    rw [hcll]
    refine ⟨?_, (hA.sub SBT)⟩
    rw [hcl]
    exact HS.left (H1 := [_, _, _]) (H2 := [_, _]) (hH.perm PMT)
  clear hA hH hbm hfl hfc fs
  refine wp_lpk (S := Nat) (fun i a w => (i ≤ g.fs.l.length ∧ ∀ k f, g.fs.l[k]? = some f → k < i → GrP g cl f) ∧ HS w0 noM [cb b3 34 (encP oF cl.length cF g), own 3 1 oA cl.length cA (flat Fw.encI cl), cb b1 25 (encGs g)] w ∧ Sl 160 [(7, .int .i64 i), (4, .slice oA cl.length cA), (3, .pointer (some (bat b3 0))), (1, .pointer (some (bat b1 0))), (2, .bool false)] a) (fun i => g.fs.l.length - i)
    (fun a w => (∀ f ∈ g.fs.l, GrP g cl f) ∧ HS w0 noM [] w ∧ Sl 160 [] a) 0 ⟨⟨Nat.zero_le _, fun k f hk h => absurd h (Nat.not_lt_zero _)⟩, hH3, hA3⟩ ?_ ?_
  · clear hA3 hH3
    rintro i a w ⟨⟨hi, hgr⟩, hH, hA⟩
    by_cases hlt : i < g.fs.l.length
    rotate_left
    · obtain rfl : i = g.fs.l.length := by omega
      repeat' (first | (refine QT ?_; clear hA a; intro a hA) | ((first | refine CT ?_ | (refine DT ?_ ?_ <;> intro hc <;> try (exfalso; omega))) <;> repeat' refine CT ?_) | fail)
      exact ⟨all_f hgr, hH.drop_, (hA.sub SBT)⟩
    obtain ⟨f, hf⟩ : ∃ x, g.fs.l[i]? = some x := ⟨_, List.getElem?_eq_getElem hlt⟩
    have hfm := List.mem_of_getElem? hf
    have hRf := hR.2.1 f hfm
    have hfb := hs.bs f hfm
    have hto : ∀ bl ∈ f.bs.l, bl.e.to.l.length ≤ 1048576 := fun bl h => (hs.bl f hfm bl h).et
    have hvf := flat_all encG_len hf
    repeat' (first | (refine XT ?_; apply XE; (first | (apply ex_load_st (vs := encG f); rfl; rfl; exact cls_rd hR.1.1 id hvf) | (apply ex_indexAddr_nat; rfl; rfl; omega; exact hspF)); clear hA a; intro a hA) | (refine QT ?_; clear hA a; intro a hA) | (refine BT ?_; clear hA hH; rintro _ w ⟨bN, rfl, hH⟩ a hA) | (apply st_op0 hA rfl rfl; apply op_store_agg (vs := encG f); rfl; rfl; exact hH; (repeat constructor); (repeat rfl); clear hH; rintro _ w hH) | ((first | refine CT ?_ | (refine DT ?_ ?_ <;> intro hc <;> try (exfalso; omega))) <;> repeat' refine CT ?_) | fail)
    obtain ⟨b8, hb8⟩ : ∃ x, x = bN := ⟨_, rfl⟩
    subst hb8
    (refine st_op hA rfl rfl (by decide) (op_call rfl rfl rfl (shape_spec _ f (hRf.keep hH.kp) hfb hto (Nat.le_trans (grN_le hfm) hsz))) ?_; clear hA; rintro _ w ⟨bs, rfl, hbs, hk⟩ a hA; replace hH := hH.keep hk; clear hk)
    cases bs with
    | false =>
      repeat' (first | (refine QT ?_; clear hA a; intro a hA) | (refine CT ?_ <;> repeat' refine CT ?_) | fail)
      exact rt1 (.inl rfl) rfl hA rfl ⟨_, rfl, may_no (fun h => (by cases hbs.2 (gr_sh (h.gr f hfm)))), hH.kp⟩
    | true =>
    have hsh := hbs.1 rfl
    clear hbs
    have hE := sh_edgs hsh
    have hspB : Sp f.bs.o f.bs.l.length := hRf.1.1.sp (sz := 6) (flat_length encBl_len _) (by omega)
    repeat' (first | (refine QT ?_; clear hA a; intro a hA) | (refine CT ?_ <;> repeat' refine CT ?_) | fail)
    refine wp_lpk (S := Nat) (fun n a w => (n ≤ f.bs.l.length ∧ ∀ k bl, f.bs.l[k]? = some bl → k < n → BlQ g f cl k bl) ∧ HS w0 noM [cb b8 44 (encG f), cb b3 34 (encP oF cl.length cF g), own 3 1 oA cl.length cA (flat Fw.encI cl), cb b1 25 (encGs g)] w ∧ Sl 160 [(9, .int .i64 n), (8, .pointer (some (bat b8 0))), (7, .int .i64 i), (4, .slice oA cl.length cA), (3, .pointer (some (bat b3 0))), (1, .pointer (some (bat b1 0))), (2, .bool false)] a) (fun n => f.bs.l.length - n)
      (fun a w => GrP g cl f ∧ HS w0 noM [cb b3 34 (encP oF cl.length cF g), own 3 1 oA cl.length cA (flat Fw.encI cl), cb b1 25 (encGs g)] w ∧ Sl 160 [(7, .int .i64 i), (4, .slice oA cl.length cA), (3, .pointer (some (bat b3 0))), (1, .pointer (some (bat b1 0))), (2, .bool false)] a) 0 ⟨⟨Nat.zero_le _, fun k bl hk h => absurd h (Nat.not_lt_zero _)⟩, hH.perm PMT, (hA.sub SBT)⟩ ?_ ?_
    · clear hA hH
      rintro n a w ⟨⟨hn, hbq⟩, hH, hA⟩
      by_cases hltn : n < f.bs.l.length
      rotate_left
      · obtain rfl : n = f.bs.l.length := by omega
        repeat' (first | (refine QT ?_; clear hA a; intro a hA) | ((first | refine CT ?_ | (refine DT ?_ ?_ <;> intro hc <;> try (exfalso; omega))) <;> repeat' refine CT ?_) | fail)
        exact ⟨gr_of hsh (fun k bl hk => hbq k bl hk (List.getElem?_eq_some_iff.1 hk).1), hH.tail, (hA.sub SBT)⟩
      obtain ⟨bl, hbl⟩ : ∃ bl, f.bs.l[n]? = some bl := ⟨_, List.getElem?_eq_getElem hltn⟩
      have hbm := List.mem_of_getElem? hbl
      have hRb := hRf.2 bl hbm
      have hsb := hs.bl f hfm bl hbm
      have hbi := hsb.is
      have hbt := hsb.et
      have hvb := flat_all encBl_len hbl
      have hspI : Sp bl.is.o bl.is.l.length := hRb.2.1.1.sp (sz := 5) (flat_length encIn_len _) (by omega)
      have hspE : Sp bl.e.to.o bl.e.to.l.length := hRb.2.2.2.2.2.1.1.sp (sz := 2) (flat_length encEd_len _) (by omega)
      repeat' (first | (refine XT ?_; apply XE; (first | (apply ex_load_st (vs := encBl bl); rfl; rfl; exact cls_rd hRf.1.1 id hvb) | (apply ex_indexAddr_nat; rfl; rfl; omega; exact hspB)); clear hA a; intro a hA) | (refine QT ?_; clear hA a; intro a hA) | (refine BT ?_; clear hA hH; rintro _ w ⟨bN, rfl, hH⟩ a hA) | (apply st_op0 hA rfl rfl; apply op_store_agg (vs := encBl bl); rfl; rfl; exact hH; (repeat constructor); (repeat rfl); clear hH; rintro _ w hH) | ((first | refine CT ?_ | (refine DT ?_ ?_ <;> intro hc <;> try (exfalso; omega))) <;> repeat' refine CT ?_) | fail)
      obtain ⟨b10, hb10⟩ : ∃ x, x = bN := ⟨_, rfl⟩
      subst hb10
      refine wp_lpk (S := Nat) (fun k a w => (k ≤ bl.is.l.length ∧ ∀ j x, bl.is.l[j]? = some x → j < k → FormP g cl f.caps x.r ∧ ∀ a ∈ x.r.a.l, atS g (nowS (BS f n) bl j) a) ∧ HS w0 noM [cb b10 53 (encBl bl), cb b8 44 (encG f), cb b3 34 (encP oF cl.length cF g), own 3 1 oA cl.length cA (flat Fw.encI cl), cb b1 25 (encGs g)] w ∧ Sl 160 [(11, .int .i64 k), (10, .pointer (some (bat b10 0))), (9, .int .i64 n), (8, .pointer (some (bat b8 0))), (7, .int .i64 i), (4, .slice oA cl.length cA), (3, .pointer (some (bat b3 0))), (1, .pointer (some (bat b1 0))), (2, .bool false)] a) (fun k => bl.is.l.length - k)
        (fun a w => (∀ (j : Nat) x, bl.is.l[j]? = some x → FormP g cl f.caps x.r ∧ ∀ a ∈ x.r.a.l, atS g (nowS (BS f n) bl j) a) ∧ HS w0 noM [cb b10 53 (encBl bl), cb b8 44 (encG f), cb b3 34 (encP oF cl.length cF g), own 3 1 oA cl.length cA (flat Fw.encI cl), cb b1 25 (encGs g)] w ∧ Sl 160 [(10, .pointer (some (bat b10 0))), (9, .int .i64 n), (8, .pointer (some (bat b8 0))), (7, .int .i64 i), (4, .slice oA cl.length cA), (3, .pointer (some (bat b3 0))), (1, .pointer (some (bat b1 0))), (2, .bool false)] a) 0 ⟨⟨Nat.zero_le _, fun k bl hk h => absurd h (Nat.not_lt_zero _)⟩, hH, (hA.sub SBT)⟩ ?_ ?_
      · clear hA hH
        rintro k a w ⟨⟨hk, hins⟩, hH, hA⟩
        by_cases hltk : k < bl.is.l.length
        rotate_left
        · obtain rfl : k = bl.is.l.length := by omega
          repeat' (first | (refine QT ?_; clear hA a; intro a hA) | ((first | refine CT ?_ | (refine DT ?_ ?_ <;> intro hc <;> try (exfalso; omega))) <;> repeat' refine CT ?_) | fail)
          exact ⟨fun j x hx => hins j x hx (List.getElem?_eq_some_iff.1 hx).1, hH, (hA.sub SBT)⟩
        obtain ⟨x, hx⟩ : ∃ x, bl.is.l[k]? = some x := ⟨_, List.getElem?_eq_getElem hltk⟩
        have hRi := hRb.2.2.1 x (List.mem_of_getElem? hx)
        have hvs := st_at hx
        have hva := in_a hx
        repeat' (first | (refine QT ?_; clear hA a; intro a hA) | ((first | refine CT ?_ | (refine DT ?_ ?_ <;> intro hc <;> try (exfalso; omega))) <;> repeat' refine CT ?_) | fail)
        (refine wp_draw_HS [(0, 1), (1, 1), (2, 1), (3, 1), (4, 1), (5, 1), (6, 1), (7, 1), (8, 1), (9, 1), (10, 0), (11, 1)] mixed (by decide +kernel) hH ?_; replace hH := hH.drew)
        repeat' (first | (refine XT ?_; apply XE; (first | (apply ex_load_st (vs := encSt x.r); rfl; rfl; exact cls_rd hRb.2.1.1 id hvs) | (apply ex_indexAddr_nat; rfl; rfl; omega; exact hspI)); clear hA a; intro a hA) | (refine QT ?_; clear hA a; intro a hA) | fail)
        (refine dr_op hA rfl rfl rfl (by decide) (op_call rfl rfl rfl (Form_spec _ oF cl.length cF g oA cA cl f.caps x.r (hH.own_rd (T := 3) MEMT) (by omega) (hRi.1.keep hH.kp))) ?_; clear hA; rintro _ w ⟨bf, rfl, hbf, hk2⟩; replace hH := hH.keep hk2; clear hk2; refine ⟨STT, ?_⟩; intro a hA)
        cases bf with
        | false =>
          repeat' (first | (refine QT ?_; clear hA a; intro a hA) | (refine CT ?_ <;> repeat' refine CT ?_) | fail)
          (refine wp_draw_HS [(0, 1), (1, 1), (2, 1), (3, 1), (4, 1), (5, 1), (6, 1), (7, 1), (8, 1), (9, 1), (10, 1), (11, 1), (12, 1), (13, 1), (14, 0), (15, 1), (16, 1)] mixed (by decide +kernel) hH ?_; replace hH := hH.drew)
          repeat' (first | (refine GT ?_ ?_ <;> intro hg <;> clear hA a <;> intro a hA <;> (first | exact FA | replace hg := of_decide_eq_true hg | replace hg := of_decide_eq_false hg | skip)) | (refine QT ?_; clear hA a; intro a hA) | (refine CT ?_ <;> repeat' refine CT ?_) | (refine DSK ?_; clear hA a; intro a hA) | fail)
          exact rt1 (.inl rfl) rfl hA rfl ⟨_, rfl, may_no (fun h => (by cases hbf.2 (((hcl ▸ gr_q (h.gr f hfm) hbl : BlQ g f cl n bl)).ins k x hx).1)), hH.kp⟩
        | true =>
        repeat' (first | (refine QT ?_; clear hA a; intro a hA) | (refine CT ?_ <;> repeat' refine CT ?_) | fail)
        (refine wp_draw_HS [(0, 1), (1, 1), (2, 1), (3, 1), (4, 1), (5, 1), (6, 1), (7, 1), (8, 1), (9, 1), (10, 1), (11, 1), (12, 1), (13, 1), (14, 0), (15, 1), (16, 1)] mixed (by decide +kernel) hH ?_; replace hH := hH.drew)
        repeat' (first | (refine GT ?_ ?_ <;> intro hg <;> clear hA a <;> intro a hA <;> (first | exact FA | replace hg := of_decide_eq_true hg | replace hg := of_decide_eq_false hg | skip)) | (refine XT ?_; apply XE; (first | (apply ex_load; rfl; exact cl_rd hRb.2.1.1 id hva) | (apply ex_indexAddr_nat; rfl; rfl; omega; exact hspI)); clear hA a; intro a hA) | (refine QT ?_; clear hA a; intro a hA) | fail)
        (refine dr_op hA rfl rfl rfl (by decide) (op_call rfl rfl rfl (atomsR_spec _ g f n k bl x.r.a (hRf.keep hH.kp) hE hbl hfb hto (hRi.2.keep hH.kp))) ?_; clear hA; rintro _ w ⟨b2, rfl, hb2, hk⟩; replace hH := hH.keep hk; clear hk; refine ⟨STT, ?_⟩; intro a hA)
        cases b2 with
        | false =>
          repeat' (first | (refine QT ?_; clear hA a; intro a hA) | (refine CT ?_ <;> repeat' refine CT ?_) | fail)
          exact rt1 (.inl rfl) rfl hA rfl ⟨_, rfl, may_no (fun h => (by cases hb2.2 (((hcl ▸ gr_q (h.gr f hfm) hbl : BlQ g f cl n bl)).ins k x hx).2)), hH.kp⟩
        | true =>
        repeat' (first | (refine QT ?_; clear hA a; intro a hA) | (refine CT ?_ <;> repeat' refine CT ?_) | fail)
        exact ⟨k + 1, ⟨⟨hltk, nx_k hx hins ⟨hbf.1 rfl, hb2.1 rfl⟩⟩, hH, (hA.sub SBT)⟩, by omega⟩
      clear hA hH
      rintro a w ⟨hins, hH, hA⟩
      repeat' (first | (refine QT ?_; clear hA a; intro a hA) | (refine CT ?_ <;> repeat' refine CT ?_) | fail)
      (refine st_op hA rfl rfl (by decide) (op_call rfl rfl rfl (atomsR_spec _ g f n bl.is.l.length bl bl.e.a (hRf.keep hH.kp) hE hbl hfb hto (hRb.2.2.2.1.keep hH.kp))) ?_; clear hA; rintro _ w ⟨b2, rfl, hb2, hk⟩ a hA; replace hH := hH.keep hk; clear hk)
      cases b2 with
      | false =>
        repeat' (first | (refine QT ?_; clear hA a; intro a hA) | (refine CT ?_ <;> repeat' refine CT ?_) | fail)
        exact rt1 (.inl rfl) rfl hA rfl ⟨_, rfl, may_no (fun h => (by cases hb2.2 ((hcl ▸ gr_q (h.gr f hfm) hbl : BlQ g f cl n bl)).ends)), hH.kp⟩
      | true =>
      have hends := hb2.1 rfl
      clear hb2
      repeat' (first | (refine QT ?_; clear hA a; intro a hA) | (refine CT ?_ <;> repeat' refine CT ?_) | fail)
      refine wp_lpk (S := Nat) (fun k a w => (k ≤ bl.e.to.l.length ∧ ∀ j t, bl.e.to.l[j]? = some t → j < k → ∀ a ∈ t.a.l, atS g (nowS (BS f n) bl bl.is.l.length) a) ∧ HS w0 noM [cb b10 53 (encBl bl), cb b8 44 (encG f), cb b3 34 (encP oF cl.length cF g), own 3 1 oA cl.length cA (flat Fw.encI cl), cb b1 25 (encGs g)] w ∧ Sl 160 [(13, .int .i64 k), (10, .pointer (some (bat b10 0))), (9, .int .i64 n), (8, .pointer (some (bat b8 0))), (7, .int .i64 i), (4, .slice oA cl.length cA), (3, .pointer (some (bat b3 0))), (1, .pointer (some (bat b1 0))), (2, .bool false)] a) (fun k => bl.e.to.l.length - k)
        (fun a w => (∀ t ∈ bl.e.to.l, ∀ a ∈ t.a.l, atS g (nowS (BS f n) bl bl.is.l.length) a) ∧ HS w0 noM [cb b8 44 (encG f), cb b3 34 (encP oF cl.length cF g), own 3 1 oA cl.length cA (flat Fw.encI cl), cb b1 25 (encGs g)] w ∧ Sl 160 [(9, .int .i64 n), (8, .pointer (some (bat b8 0))), (7, .int .i64 i), (4, .slice oA cl.length cA), (3, .pointer (some (bat b3 0))), (1, .pointer (some (bat b1 0))), (2, .bool false)] a) 0 ⟨⟨Nat.zero_le _, fun k bl hk h => absurd h (Nat.not_lt_zero _)⟩, hH, (hA.sub SBT)⟩ ?_ ?_
      · clear hA hH
        rintro k a w ⟨⟨hk, hto2⟩, hH, hA⟩
        by_cases hltk : k < bl.e.to.l.length
        rotate_left
        · obtain rfl : k = bl.e.to.l.length := by omega
          repeat' (first | (refine QT ?_; clear hA a; intro a hA) | ((first | refine CT ?_ | (refine DT ?_ ?_ <;> intro hc <;> try (exfalso; omega))) <;> repeat' refine CT ?_) | fail)
          refine ⟨fun t ht => ?_, hH.tail, (hA.sub SBT)⟩
          obtain ⟨j, hj⟩ := List.getElem?_of_mem ht
          exact hto2 j t hj (List.getElem?_eq_some_iff.1 hj).1
        obtain ⟨x, hx⟩ : ∃ x, bl.e.to.l[k]? = some x := ⟨_, List.getElem?_eq_getElem hltk⟩
        have hxm := List.mem_of_getElem? hx
        have hRx := hRb.2.2.2.2.2.2 x hxm
        have hva := ed_a hx
        repeat' (first | (refine QT ?_; clear hA a; intro a hA) | ((first | refine CT ?_ | (refine DT ?_ ?_ <;> intro hc <;> try (exfalso; omega))) <;> repeat' refine CT ?_) | fail)
        (refine wp_draw_HS [(0, 1), (1, 1), (2, 1), (3, 1), (4, 1), (5, 1), (6, 1), (7, 1), (8, 1), (9, 1), (10, 1), (11, 1), (12, 1), (13, 0), (14, 1)] mixed (by decide +kernel) hH ?_; replace hH := hH.drew)
        repeat' (first | (refine XT ?_; apply XE; (first | (apply ex_load; rfl; exact cl_rd hRb.2.2.2.2.2.1.1 id hva) | (apply ex_indexAddr_nat; rfl; rfl; omega; exact hspE)); clear hA a; intro a hA) | (refine QT ?_; clear hA a; intro a hA) | fail)
        (refine dr_op hA rfl rfl rfl (by decide) (op_call rfl rfl rfl (atomsR_spec _ g f n bl.is.l.length bl x.a (hRf.keep hH.kp) hE hbl hfb hto (hRx.keep hH.kp))) ?_; clear hA; rintro _ w ⟨b2, rfl, hb2, hk⟩; replace hH := hH.keep hk; clear hk; refine ⟨STT, ?_⟩; intro a hA)
        cases b2 with
        | false =>
          repeat' (first | (refine QT ?_; clear hA a; intro a hA) | (refine CT ?_ <;> repeat' refine CT ?_) | fail)
          exact rt1 (.inl rfl) rfl hA rfl ⟨_, rfl, may_no (fun h => (by cases hb2.2 (((hcl ▸ gr_q (h.gr f hfm) hbl : BlQ g f cl n bl)).edges x hxm))), hH.kp⟩
        | true =>
        repeat' (first | (refine QT ?_; clear hA a; intro a hA) | (refine CT ?_ <;> repeat' refine CT ?_) | fail)
        exact ⟨k + 1, ⟨⟨hltk, nx_k (p := fun _ (t : Edg) => ∀ a ∈ t.a.l, atS g (nowS (BS f n) bl bl.is.l.length) a) hx hto2 (hb2.1 rfl)⟩, hH, (hA.sub SBT)⟩, by omega⟩
      clear hA hH
      rintro a w ⟨hto2, hH, hA⟩
      repeat' (first | (refine QT ?_; clear hA a; intro a hA) | (refine CT ?_ <;> repeat' refine CT ?_) | fail)
      exact ⟨n + 1, ⟨⟨hltn, nx_k hbl hbq ⟨hins, hends, hto2⟩⟩, hH, (hA.sub SBT)⟩, by omega⟩
    clear hA hH
    rintro a w ⟨hg, hH, hA⟩
    repeat' (first | (refine QT ?_; clear hA a; intro a hA) | (refine CT ?_ <;> repeat' refine CT ?_) | fail)
    exact ⟨i + 1, ⟨⟨hlt, nx_k (p := fun _ f => GrP g cl f) hf hgr hg⟩, hH, (hA.sub SBT)⟩, by omega⟩
  clear hA3 hH3
  rintro a w ⟨hall, hH, hA⟩
  repeat' (first | (refine QT ?_; clear hA a; intro a hA) | (refine CT ?_ <;> repeat' refine CT ?_) | fail)
  exact rt1 (.inl rfl) rfl hA rfl ⟨_, rfl, iff_of_true rfl ⟨hanf, hcl ▸ hall, hsz⟩, hH.kp⟩
end Go.Proofs.YtenlcdokaadobaaGreatDoor
namespace Go.Proofs.YtenlcdokaadobaaGreatDoor
open Go Go.Fw
set_option linter.unusedVariables false
def SrO (out : List Nat) : Sr → Prop
  | .go m => ∃ t, m.wd.out = out ++ t
  | .stop k s wd => k ≠ 2 ∧ ∃ t, wd.out = out ++ t
theorem SrO.same {wd : Wd} {sk : List Fm} {fm : Fm} : SrO wd.out (.go ⟨wd, sk, fm⟩) := ⟨[], (List.append_nil _).symm⟩
def WdI (w w' : Wd) : Prop := w.inp.size ≤ w'.inp.size + 1
theorem WdI.same (w : Wd) : WdI w w := Nat.le_succ _
end Go.Proofs.YtenlcdokaadobaaGreatDoor
namespace Go.Proofs.YtenlcdokaadobaaGreatDoor
open Go Go.Fw
set_option linter.unusedVariables false
theorem bulk_pos {H : Type} (d : DataW H) : 1 ≤ Rows.uptoBulk d := by
  cases d with
  | lit l => cases l <;> simp [Rows.uptoBulk]
  | _ => simp [Rows.uptoBulk]
theorem bulk_mem {H : Type} {d : DataW H} : ∀ {l : List (DataW H)}, d ∈ l → Rows.uptoBulk d ≤ Rows.uptoBulkAll l
  | x :: l, h => by
    rw [Rows.uptoBulkAll]
    rcases List.mem_cons.1 h with rfl | h
    · omega
    · have := bulk_mem h; omega
theorem bulk_len {H : Type} : ∀ (l : List (DataW H)), l.length ≤ Rows.uptoBulkAll l
  | [] => Nat.zero_le _
  | x :: l => by
    rw [Rows.uptoBulkAll, List.length_cons]
    have := bulk_pos x
    have := bulk_len l
    omega
theorem bulk_of {H : Type} {ds : List (DataW H)} {d : DataW H} (hk : ∃ gs, Rows.uptoSmall H (ds ++ gs) = true) (hd : d ∈ ds) : Rows.uptoBulk d ≤ 1048576 := by
  obtain ⟨gs, hk⟩ := hk
  have h : Rows.uptoBulkAll (ds ++ gs) ≤ 1048576 := of_decide_eq_true hk
  have := bulk_mem (List.mem_append_left gs hd)
  omega
theorem bulk_slice {H : Type} {elems rest : List (DataW H)} : elems.length ≤ Rows.uptoBulk (.slice elems rest) := by
  rw [Rows.uptoBulk]
  have := bulk_len elems
  omega
end Go.Proofs.YtenlcdokaadobaaGreatDoor
namespace Go.Proofs.YtenlcdokaadobaaGreatDoor
open Go Go.Fw Go.ChangeShapes Go.WideShapes Go.ChangeAt Go.RowKit Go.Deep
set_option linter.unusedVariables false
section
variable {H : Type} {enc0 : TypeId × Value → H} {w : World} {held : Bool}
def Opn (enc0 : TypeId × Value → H) (w : World) (held : Bool) (t : TypeId) {α : Type} (enc : α → List Value) (K : α → Prop) : Prop :=
  ∀ (fuel : Nat) (cs : List Value) (x : DataW H × List MemPlace), DataW.trod enc0 Tryz.prog w 0 (fun _ => true) held fuel t cs = some x → ∃ a, cs = enc a ∧ (Rows.uptoBulk x.1 ≤ 1048576 → K a)
theorem opn_int {t : TypeId} {k : IntKind} [h : TIn Tryz.prog t k] : Opn enc0 w held t (fun n : Int => [.int k n]) (fun _ => True) := fun fuel cs x hx => by
  obtain ⟨n, rfl, _⟩ := DataW.trod_int h.eq hx
  exact ⟨n, rfl, fun _ => trivial⟩
theorem rd_of0 {a : Addr} {vs : List Value} (h : ∀ j v, vs[j]? = some v → w.cell? (a.add j) = some v) : Rd w (some a) vs := by
  cases vs with
  | nil => exact ⟨fun h => absurd h (by decide), fun j u h => by simp at h⟩
  | cons v vs =>
    have h1 := World.cell?_spot (h 0 v rfl)
    have hs : a.spot = none := by simpa [Addr.add] using h1
    refine ⟨fun _ => ⟨a.block, a.off, by rw [← hs]⟩, fun j u hj => ?_⟩
    rw [← add_sat a hs]
    exact h j u hj
theorem opn_slice {t e : TypeId} [ht : TSl Tryz.prog t e] {α : Type} {enc : α → List Value} {K : α → Prop} {sz : Nat} (he : Opn enc0 w held e enc K) (hc : Tryz.prog.cellsOf e = sz) (hsz : 0 < sz) (hl : ∀ a, (enc a).length = sz) :
    Opn enc0 w held t (fun v : Option Addr × Nat × List α => [.slice v.1 v.2.2.length v.2.1]) (fun v => (Rd w v.1 (flat enc v.2.2) ∧ v.2.2.length ≤ v.2.1 ∧ v.2.1 ≤ maxLen) ∧ v.2.2.length ≤ 1048576 ∧ ∀ a ∈ v.2.2, K a) := fun fuel cs x hx => by
  rcases DataW.trod_slice ht.eq hx with ⟨rfl, rfl⟩ | ⟨a, len, cap, elems, rest, n, rfl, rfl, rfl, hb, hle, hm, hlen, hel, _, _⟩
  · exact ⟨(none, 0, []), rfl, fun _ => ⟨⟨⟨fun h => absurd h (Nat.lt_irrefl 0), fun j u h => by simp [flat] at h⟩, Nat.le_refl _, Nat.zero_le _⟩, Nat.zero_le _, fun a ha => absurd ha List.not_mem_nil⟩⟩
  · obtain ⟨l, hll, hp⟩ := choose_list (fun i (p : α) => (∀ j v, (enc p)[j]? = some v → w.cell? (a.add (i * sz + j)) = some v) ∧ ∀ y, elems[i]? = some y → Rows.uptoBulk y.1 ≤ 1048576 → K p) len (fun i hi => by
      have h1 := hel i hi
      have h2 : elems[i]? = some (elems[i]'(by omega)) := List.getElem?_eq_getElem (by omega)
      rw [h2, hc] at h1
      obtain ⟨cs', hcs, ht'⟩ := Option.bind_eq_some_iff.1 h1
      obtain ⟨_, hcl, hat⟩ := World.cells?_some hcs
      obtain ⟨p, rfl, hK⟩ := he _ _ _ ht'
      refine ⟨p, fun j v hj => ?_, fun y hy hbk => ?_⟩
      · have hjl := (List.getElem?_eq_some_iff.1 hj).1
        rw [hl] at hjl
        rw [← Go.Deep.add_add, hat j hjl, hj]
      · rw [h2] at hy
        cases hy
        exact hK hbk)
    subst hll
    refine ⟨(some a, cap, l), rfl, fun hbk => ⟨⟨rd_of0 fun j v hj => ?_, hle, hm⟩, ?_, fun p hp' => ?_⟩⟩
    · dsimp only at hj
      have hjl := (List.getElem?_eq_some_iff.1 hj).1
      rw [flat_length hl] at hjl
      have hjq : j / sz < l.length := Nat.div_lt_of_lt_mul (by rw [Nat.mul_comm]; exact hjl)
      obtain ⟨p, hpp⟩ : ∃ p, l[j / sz]? = some p := ⟨_, List.getElem?_eq_getElem hjq⟩
      have h6 := (hp _ _ hpp).1 (j % sz)
      have ej : j / sz * sz + j % sz = j := by rw [Nat.mul_comm]; exact Nat.div_add_mod j sz
      obtain ⟨u, hu⟩ : ∃ u, (enc p)[j % sz]? = some u := ⟨_, List.getElem?_eq_getElem (by rw [hl]; exact Nat.mod_lt _ hsz)⟩
      have h7 := flat_get hl hpp hu
      rw [ej, hj] at h7
      have h8 := h6 u hu
      rw [ej] at h8
      rw [h8, ← Option.some.inj h7]
    · have := bulk_slice (elems := elems.map (·.1)) (rest := rest.map (·.1))
      rw [List.length_map] at this
      dsimp only at hbk ⊢
      omega
    · dsimp only at hp' hbk
      obtain ⟨i, hi⟩ := List.getElem?_of_mem hp'
      have hil := (List.getElem?_eq_some_iff.1 hi).1
      obtain ⟨y, hy⟩ : ∃ y, elems[i]? = some y := ⟨_, List.getElem?_eq_getElem (by omega)⟩
      refine (hp i p hi).2 y hy ?_
      have h9 := bulk_mem (List.mem_map_of_mem (f := fun x => x.1) (List.mem_of_getElem? hy))
      rw [Rows.uptoBulk] at hbk
      omega
theorem opn_struct {t : TypeId} {fl : List (Nat × Nat)} [ht : TSt Tryz.prog t fl] {fuel : Nat} {cs : List Value} {x : DataW H × List MemPlace} (hx : DataW.trod enc0 Tryz.prog w 0 (fun _ => true) held fuel t cs = some x) :
    ∃ n, cs.length = Tryz.prog.cellsOf t ∧ ∀ (i ft off : Nat), fl[i]? = some (ft, off) → ∃ y : DataW H × List MemPlace, DataW.trod enc0 Tryz.prog w 0 (fun _ => true) held n ft ((cs.drop off).take (Tryz.prog.cellsOf ft)) = some y ∧ (Rows.uptoBulk x.1 ≤ 1048576 → Rows.uptoBulk y.1 ≤ 1048576) := by
  obtain ⟨fs, hfs, hfl⟩ := ht.eq
  obtain ⟨ys, n, rfl, rfl, hcl, hyl, hf⟩ := DataW.trod_struct hfs hx
  refine ⟨n, hcl, fun i ft off hi => ?_⟩
  rw [← hfl, List.getElem?_map] at hi
  obtain ⟨fd, hfd, e⟩ := Option.map_eq_some_iff.1 hi
  cases e
  have hfd2 : fs[i]? = some fd := by rw [← Array.getElem?_toList]; exact hfd
  have h1 := hf i fd hfd2
  have hil : i < ys.length := by
    rw [hyl]
    exact (Array.getElem?_eq_some_iff.1 hfd2).1
  rw [List.getElem?_eq_getElem hil] at h1
  refine ⟨_, h1, fun hbk => ?_⟩
  have h9 := bulk_mem (List.mem_map_of_mem (f := fun x => x.1) (List.getElem_mem hil))
  rw [Rows.uptoBulk] at hbk
  omega
theorem cut_at (cs : List Value) (off s : Nat) : cs.drop off = (cs.drop off).take s ++ cs.drop (off + s) := by
  rw [← List.drop_drop]
  exact (List.take_append_drop s (cs.drop off)).symm
theorem opn_imp {t : TypeId} {α β : Type} {enc : α → List Value} {K : α → Prop} {enc2 : β → List Value} {K2 : β → Prop} (h : Opn enc0 w held t enc K) (f : α → β) (he : ∀ a, enc a = enc2 (f a)) (hK : ∀ a, K a → K2 (f a)) : Opn enc0 w held t enc2 K2 := fun fuel cs x hx => by
  obtain ⟨a, rfl, hk⟩ := h fuel cs x hx
  exact ⟨f a, he a, fun hb => hK a (hk hb)⟩
theorem opn_arg {t : TypeId} {α : Type} {enc : α → List Value} {K : α → Prop} (h : Opn enc0 w held t enc K) {v : Value} {d : DataW H} {p : List MemPlace} {ds : List (DataW H)} (hT : DataW.Trod enc0 Tryz.prog w 0 (fun _ => true) held t v d p) (hd : d ∈ ds) (hk : ∃ gs, Rows.uptoSmall H (ds ++ gs) = true) :
    ∃ a, v.cells.toList = enc a ∧ K a := by
  obtain ⟨fuel, hf⟩ := hT
  obtain ⟨a, he, hK⟩ := h fuel _ _ hf
  exact ⟨a, he, hK (bulk_of hk hd)⟩
end
end Go.Proofs.YtenlcdokaadobaaGreatDoor
namespace Go.Proofs.YtenlcdokaadobaaGreatDoor
open Go Go.Fw Go.ChangeShapes Go.WideShapes Go.ChangeAt Go.RowKit Go.Deep
set_option linter.unusedVariables false
structure AtB (b : Blc) : Prop where
  is : ∀ i ∈ b.is.l, ∀ a ∈ i.r.a.l, iok a.n
  e : ∀ a ∈ b.e.a.l, iok a.n
  to : ∀ t ∈ b.e.to.l, ∀ a ∈ t.a.l, iok a.n
section
variable {H : Type} {enc0 : TypeId × Value → H} {w : World} {held : Bool}
structure BigG (g : Grs) : Prop where
  sz : SzG 1048576 g
  xs : ∀ s ∈ g.xs.l, s.size ≤ 1048576
  at_ : ∀ f ∈ g.fs.l, ∀ b ∈ f.bs.l, AtB b
theorem opn_strB {t : TypeId} [h : TSr Tryz.prog t] : Opn enc0 w held t (fun s : ByteArray => [.string s]) (fun s => s.size ≤ 1048576) := fun fuel cs x hx => by
  obtain ⟨n, rfl, hx2, _⟩ := DataW.trod_string h.eq hx
  refine ⟨n, rfl, fun hb => ?_⟩
  rw [hx2] at hb
  have hb2 : n.data.toList.length + 1 ≤ 1048576 := hb
  have h9 : n.size = n.data.toList.length := rfl
  show n.size ≤ 1048576
  omega
theorem cutc {cs A B : List Value} {o s o2 : Nat} (z : o2 = o + s) (e : (cs.drop o).take s = A) (h : cs.drop o2 = B) : cs.drop o = A ++ B := by
  subst z
  rw [cut_at cs o s, e, h]
theorem cutn {cs : List Value} {o n : Nat} (h : cs.length = n) (z : n = o) : cs.drop o = [] := List.drop_eq_nil_of_le (by omega)
theorem opn_vec {t e : TypeId} [ht : TSl Tryz.prog t e] {α : Type} {enc : α → List Value} {K : α → Prop} {sz : Nat} (he : Opn enc0 w held e enc K) (hc : Tryz.prog.cellsOf e = sz) (hsz : 0 < sz) (hl : ∀ a, (enc a).length = sz) :
    Opn enc0 w held t (fun v : Vec α => [.slice v.o v.l.length v.c]) (fun v => RdV w enc v ∧ v.l.length ≤ 1048576 ∧ ∀ a ∈ v.l, K a) :=
  opn_imp (opn_slice he hc hsz hl) (fun v => ⟨v.1, v.2.1, v.2.2⟩) (fun v => rfl) (fun v h => h)
theorem opn_iok {t : TypeId} [h : TIn Tryz.prog t .i64] : Opn enc0 w held t (fun n : Int => [.int .i64 n]) iok := fun fuel cs x hx => by
  obtain ⟨n, rfl, hw⟩ := DataW.trod_int h.eq hx
  have hw2 : (decide (IntKind.i64.min ≤ n) && decide (n ≤ IntKind.i64.max)) = true := hw.2
  rw [Bool.and_eq_true, decide_eq_true_eq, decide_eq_true_eq] at hw2
  exact ⟨n, rfl, fun _ => hw2⟩
theorem opn_encI {t : TypeId} [h : TIn Tryz.prog t .i64] : Opn enc0 w held t Fw.encI (fun _ => True) := opn_imp opn_int id (fun _ => rfl) (fun _ _ => trivial)
theorem opn_encX {t : TypeId} [h : TSr Tryz.prog t] : Opn enc0 w held t encX (fun s => s.size ≤ 1048576) := opn_imp opn_strB id (fun _ => rfl) (fun _ h => h)
theorem opn_atm : Opn enc0 w held 65 encAt (fun a => iok a.n) := fun fuel cs x hx => by
  obtain ⟨n, hcl, hf⟩ := opn_struct hx
  obtain ⟨y0, h0, b0⟩ := hf 0 _ _ rfl
  obtain ⟨a0, e0, k0⟩ := (opn_int) n _ _ h0
  obtain ⟨y1, h1, b1⟩ := hf 1 _ _ rfl
  obtain ⟨a1, e1, k1⟩ := (opn_iok) n _ _ h1
  refine ⟨⟨a0, a1⟩, cutc (o2 := 1) (by kernel_rfl) e0 (cutc (o2 := 2) (by kernel_rfl) e1 (cutn (o := 2) hcl (by kernel_rfl))), fun hb => ?_⟩
  have g0 := k0 (b0 hb)
  have g1 := k1 (b1 hb)
  exact g1
theorem opn_stp : Opn enc0 w held 57 encSt (fun s => (RdV w Fw.encI s.ns ∧ RdV w encAt s.a) ∧ s.a.l.length ≤ 1048576 ∧ ∀ a ∈ s.a.l, iok a.n) := fun fuel cs x hx => by
  obtain ⟨n, hcl, hf⟩ := opn_struct hx
  obtain ⟨y0, h0, b0⟩ := hf 0 _ _ rfl
  obtain ⟨a0, e0, k0⟩ := (opn_int) n _ _ h0
  obtain ⟨y1, h1, b1⟩ := hf 1 _ _ rfl
  obtain ⟨a1, e1, k1⟩ := (opn_int) n _ _ h1
  obtain ⟨y2, h2, b2⟩ := hf 2 _ _ rfl
  obtain ⟨a2, e2, k2⟩ := (opn_vec (opn_encI) (by kernel_rfl) (by decide) Fw.encI_len) n _ _ h2
  obtain ⟨y3, h3, b3⟩ := hf 3 _ _ rfl
  obtain ⟨a3, e3, k3⟩ := (opn_vec (opn_atm) (by kernel_rfl) (by decide) encAt_len) n _ _ h3
  refine ⟨⟨a0, a1, a2, a3⟩, cutc (o2 := 1) (by kernel_rfl) e0 (cutc (o2 := 2) (by kernel_rfl) e1 (cutc (o2 := 3) (by kernel_rfl) e2 (cutc (o2 := 4) (by kernel_rfl) e3 (cutn (o := 4) hcl (by kernel_rfl))))), fun hb => ?_⟩
  have g0 := k0 (b0 hb)
  have g1 := k1 (b1 hb)
  have g2 := k2 (b2 hb)
  have g3 := k3 (b3 hb)
  exact ⟨⟨g2.1, g3.1⟩, g3.2⟩
theorem opn_ins : Opn enc0 w held 59 encIn (fun i => RdIn w i ∧ i.r.a.l.length ≤ 1048576 ∧ ∀ a ∈ i.r.a.l, iok a.n) := fun fuel cs x hx => by
  obtain ⟨n, hcl, hf⟩ := opn_struct hx
  obtain ⟨y0, h0, b0⟩ := hf 0 _ _ rfl
  obtain ⟨a0, e0, k0⟩ := (opn_int) n _ _ h0
  obtain ⟨y1, h1, b1⟩ := hf 1 _ _ rfl
  obtain ⟨a1, e1, k1⟩ := (opn_stp) n _ _ h1
  refine ⟨⟨a0, a1⟩, cutc (o2 := 1) (by kernel_rfl) e0 (cutc (o2 := 5) (by kernel_rfl) e1 (cutn (o := 5) hcl (by kernel_rfl))), fun hb => ?_⟩
  have g0 := k0 (b0 hb)
  have g1 := k1 (b1 hb)
  exact g1
theorem opn_edg : Opn enc0 w held 61 encEd (fun e => RdV w encAt e.a ∧ e.a.l.length ≤ 1048576 ∧ ∀ a ∈ e.a.l, iok a.n) := fun fuel cs x hx => by
  obtain ⟨n, hcl, hf⟩ := opn_struct hx
  obtain ⟨y0, h0, b0⟩ := hf 0 _ _ rfl
  obtain ⟨a0, e0, k0⟩ := (opn_int) n _ _ h0
  obtain ⟨y1, h1, b1⟩ := hf 1 _ _ rfl
  obtain ⟨a1, e1, k1⟩ := (opn_vec (opn_atm) (by kernel_rfl) (by decide) encAt_len) n _ _ h1
  refine ⟨⟨a0, a1⟩, cutc (o2 := 1) (by kernel_rfl) e0 (cutc (o2 := 2) (by kernel_rfl) e1 (cutn (o := 2) hcl (by kernel_rfl))), fun hb => ?_⟩
  have g0 := k0 (b0 hb)
  have g1 := k1 (b1 hb)
  exact g1
theorem opn_en : Opn enc0 w held 51 encEn (fun e => RdEn w e ∧ e.a.l.length ≤ 1048576 ∧ e.to.l.length ≤ 1048576 ∧ (∀ t ∈ e.to.l, t.a.l.length ≤ 1048576) ∧ (∀ a ∈ e.a.l, iok a.n) ∧ ∀ t ∈ e.to.l, ∀ a ∈ t.a.l, iok a.n) := fun fuel cs x hx => by
  obtain ⟨n, hcl, hf⟩ := opn_struct hx
  obtain ⟨y0, h0, b0⟩ := hf 0 _ _ rfl
  obtain ⟨a0, e0, k0⟩ := (opn_int) n _ _ h0
  obtain ⟨y1, h1, b1⟩ := hf 1 _ _ rfl
  obtain ⟨a1, e1, k1⟩ := (opn_vec (opn_atm) (by kernel_rfl) (by decide) encAt_len) n _ _ h1
  obtain ⟨y2, h2, b2⟩ := hf 2 _ _ rfl
  obtain ⟨a2, e2, k2⟩ := (opn_vec (opn_encI) (by kernel_rfl) (by decide) Fw.encI_len) n _ _ h2
  obtain ⟨y3, h3, b3⟩ := hf 3 _ _ rfl
  obtain ⟨a3, e3, k3⟩ := (opn_vec (opn_edg) (by kernel_rfl) (by decide) encEd_len) n _ _ h3
  refine ⟨⟨a0, a1, a2, a3⟩, cutc (o2 := 1) (by kernel_rfl) e0 (cutc (o2 := 2) (by kernel_rfl) e1 (cutc (o2 := 3) (by kernel_rfl) e2 (cutc (o2 := 4) (by kernel_rfl) e3 (cutn (o := 4) hcl (by kernel_rfl))))), fun hb => ?_⟩
  have g0 := k0 (b0 hb)
  have g1 := k1 (b1 hb)
  have g2 := k2 (b2 hb)
  have g3 := k3 (b3 hb)
  exact ⟨⟨g1.1, g2.1, g3.1, fun t ht => (g3.2.2 t ht).1⟩, g1.2.1, g3.2.1, fun t ht => (g3.2.2 t ht).2.1, g1.2.2, fun t ht => (g3.2.2 t ht).2.2⟩
theorem opn_blc : Opn enc0 w held 53 encBl (fun b => RdBl w b ∧ SzB 1048576 b ∧ AtB b) := fun fuel cs x hx => by
  obtain ⟨n, hcl, hf⟩ := opn_struct hx
  obtain ⟨y0, h0, b0⟩ := hf 0 _ _ rfl
  obtain ⟨a0, e0, k0⟩ := (opn_vec (opn_encI) (by kernel_rfl) (by decide) Fw.encI_len) n _ _ h0
  obtain ⟨y1, h1, b1⟩ := hf 1 _ _ rfl
  obtain ⟨a1, e1, k1⟩ := (opn_vec (opn_ins) (by kernel_rfl) (by decide) encIn_len) n _ _ h1
  obtain ⟨y2, h2, b2⟩ := hf 2 _ _ rfl
  obtain ⟨a2, e2, k2⟩ := (opn_en) n _ _ h2
  refine ⟨⟨a0, a1, a2⟩, cutc (o2 := 1) (by kernel_rfl) e0 (cutc (o2 := 2) (by kernel_rfl) e1 (cutc (o2 := 6) (by kernel_rfl) e2 (cutn (o := 6) hcl (by kernel_rfl)))), fun hb => ?_⟩
  have g0 := k0 (b0 hb)
  have g1 := k1 (b1 hb)
  have g2 := k2 (b2 hb)
  exact ⟨⟨g0.1, g1.1, fun i hi => (g1.2.2 i hi).1, g2.1⟩, ⟨g0.2.1, g1.2.1, fun i hi => (g1.2.2 i hi).2.1, g2.2.1, g2.2.2.1, g2.2.2.2.1⟩, ⟨fun i hi => (g1.2.2 i hi).2.2, g2.2.2.2.2.1, g2.2.2.2.2.2⟩⟩
theorem opn_gr : Opn enc0 w held 44 encG (fun g => RdG w g ∧ g.bs.l.length ≤ 1048576 ∧ ∀ bl ∈ g.bs.l, SzB 1048576 bl ∧ AtB bl) := fun fuel cs x hx => by
  obtain ⟨n, hcl, hf⟩ := opn_struct hx
  obtain ⟨y0, h0, b0⟩ := hf 0 _ _ rfl
  obtain ⟨a0, e0, k0⟩ := (opn_int) n _ _ h0
  obtain ⟨y1, h1, b1⟩ := hf 1 _ _ rfl
  obtain ⟨a1, e1, k1⟩ := (opn_vec (opn_blc) (by kernel_rfl) (by decide) encBl_len) n _ _ h1
  refine ⟨⟨a0, a1⟩, cutc (o2 := 1) (by kernel_rfl) e0 (cutc (o2 := 2) (by kernel_rfl) e1 (cutn (o := 2) hcl (by kernel_rfl))), fun hb => ?_⟩
  have g0 := k0 (b0 hb)
  have g1 := k1 (b1 hb)
  exact ⟨⟨g1.1, fun b hb => (g1.2.2 b hb).1⟩, g1.2.1, fun b hb => (g1.2.2 b hb).2⟩
theorem opn_grs : Opn enc0 w held 25 encGs (fun g => RdGs w g ∧ BigG g) := fun fuel cs x hx => by
  obtain ⟨n, hcl, hf⟩ := opn_struct hx
  obtain ⟨y0, h0, b0⟩ := hf 0 _ _ rfl
  obtain ⟨a0, e0, k0⟩ := (opn_vec (opn_gr) (by kernel_rfl) (by decide) encG_len) n _ _ h0
  obtain ⟨y1, h1, b1⟩ := hf 1 _ _ rfl
  obtain ⟨a1, e1, k1⟩ := (opn_vec (opn_encX) (by kernel_rfl) (by decide) encX_len) n _ _ h1
  obtain ⟨y2, h2, b2⟩ := hf 2 _ _ rfl
  obtain ⟨a2, e2, k2⟩ := (opn_vec (opn_encX) (by kernel_rfl) (by decide) encX_len) n _ _ h2
  obtain ⟨y3, h3, b3⟩ := hf 3 _ _ rfl
  obtain ⟨a3, e3, k3⟩ := (opn_vec (opn_encX) (by kernel_rfl) (by decide) encX_len) n _ _ h3
  obtain ⟨y4, h4, b4⟩ := hf 4 _ _ rfl
  obtain ⟨a4, e4, k4⟩ := (opn_vec (opn_encX) (by kernel_rfl) (by decide) encX_len) n _ _ h4
  refine ⟨⟨a0, a1, a2, a3, a4⟩, cutc (o2 := 1) (by kernel_rfl) e0 (cutc (o2 := 2) (by kernel_rfl) e1 (cutc (o2 := 3) (by kernel_rfl) e2 (cutc (o2 := 4) (by kernel_rfl) e3 (cutc (o2 := 5) (by kernel_rfl) e4 (cutn (o := 5) hcl (by kernel_rfl)))))), fun hb => ?_⟩
  have g0 := k0 (b0 hb)
  have g1 := k1 (b1 hb)
  have g2 := k2 (b2 hb)
  have g3 := k3 (b3 hb)
  have g4 := k4 (b4 hb)
  exact ⟨⟨g0.1, fun f hf => (g0.2.2 f hf).1, g1.1, g2.1, g3.1, g4.1⟩, ⟨⟨g0.2.1, fun f hf => (g0.2.2 f hf).2.1, fun f hf b hb => ((g0.2.2 f hf).2.2 b hb).1⟩, g3.2.2, fun f hf b hb => ((g0.2.2 f hf).2.2 b hb).2⟩⟩
set_option maxRecDepth 100000 in
theorem argG {base : Nat} {v : Value} {d : DataW H} {p : List MemPlace} {ds : List (DataW H)} (hv : Value.okWide Tryz.prog w .any base 25 v) (h : DataW.Trod enc0 Tryz.prog w 0 (fun _ => true) held 25 v d p) (hd : d ∈ ds) (hk : ∃ gs, Rows.uptoSmall H (ds ++ gs) = true) :
    ∃ g : Grs, v = .agg (encGs g).toArray ∧ RdGs w g ∧ BigG g := by
  obtain ⟨cs, rfl, _⟩ := okWide_struct Tryz.underlying25 hv
  obtain ⟨g, he, hK⟩ := opn_arg opn_grs h hd hk
  have he : cs.toList = encGs g := he
  exact ⟨g, by rw [← he], hK⟩
end
theorem own_ : ownKnob Tryz.checked.prog.godebug = none := by kernel_rfl
theorem laidOut : laidOutB Tryz.checked.prog = true := by kernel_rfl
end Go.Proofs.YtenlcdokaadobaaGreatDoor
namespace Go.Fw
open Go Go.RowKit
end Go.Fw
namespace Go.Proofs.YtenlcdokaadobaaGreatDoor
open Go Go.Fw
set_option linter.unusedVariables false
theorem BigG.bs {g : Grs} (h : BigG g) : ∀ f ∈ g.fs.l, f.bs.l.length ≤ 1048576 ∧ ∀ bl ∈ f.bs.l, bl.e.to.l.length ≤ 1048576 := fun f hf => ⟨h.sz.bs f hf, fun bl hb => (h.sz.bl f hf bl hb).et⟩
theorem BigG.ex {g : Grs} (h : BigG g) : ∀ s ∈ g.xs.l, s.size ≤ 4611686018427387904 := fun s hs => Nat.le_trans (h.xs s hs) (by decide)
set_option maxRecDepth 10000 attribute [local irreducible] Code.wp wpList Calls Ex Op1 sat bat blk cb own Go.Fw.mp Go.Fw.mpO Go.Fw.mpI Go.Fw.mpE Go.Fw.itr HS Rd Ret wkD Hp Cl Cls Exit.then Exit.inBlock Exit.noGoto bodyPost Go.Fw.flat wk2 Go.Fw.all Go.Fw.owns wpOp
attribute [local irreducible] sk mpK sko mvO entK opM Go.Fw.mset Go.Fw.mv opK

end Go.Proofs.YtenlcdokaadobaaGreatDoor
namespace Go.Proofs.YtenlcdokaadobaaGreatDoor
open Go Go.Fw
set_option linter.unusedVariables false
set_option maxRecDepth 10000 attribute [local irreducible] Code.wp wpList Calls Ex Op1 sat bat blk cb own Go.Fw.mp Go.Fw.mpO Go.Fw.mpI Go.Fw.mpE Go.Fw.itr HS Rd Ret wkD Hp Cl Cls Exit.then Exit.inBlock Exit.noGoto bodyPost Go.Fw.flat wk2 Go.Fw.all Go.Fw.owns wpOp
attribute [local irreducible] sk mpK sko mvO entK opM Go.Fw.mset Go.Fw.mv opK

set_option maxHeartbeats 8000000 in
theorem may_law (W : World) (g : Grs) (hR : RdGs W g) (hb : BigG g) (hFI : FI W) : Ret Tryz.prog 4 #[.agg (encGs g).toArray] W (LawR W) := by
  have hH : HS W noM [] W := HS.init W noM
  (refine enter (N := 14) Tryz.func4 rfl Tryz.ntmps4 rfl ?_; intro a hA; dsimp only [sl0, Nat.reduceAdd] at hA)
  repeat' (first | (refine QT ?_; clear hA a; intro a hA) | (refine BT ?_; clear hA hH; rintro _ w ⟨bN, rfl, hH⟩ a hA) | (refine CT ?_ <;> repeat' refine CT ?_) | fail)
  (refine st_op hA rfl rfl (by decide) (op_call rfl rfl rfl (awake_spec _ (hFI.keep hH.kp))) ?_; clear hA; rintro _ w ⟨rfl, hk⟩ a hA; replace hH := hH.keep hk; clear hk)
  repeat' (first | (refine QT ?_; clear hA a; intro a hA) | (refine CT ?_ <;> repeat' refine CT ?_) | fail)
  (refine wp_draw_HS [(0, 1), (1, 0), (2, 1), (3, 1), (5, 1), (4, 0), (6, 0), (7, 1), (8, 1), (9, 1)] mixed (by decide +kernel) hH ?_; replace hH := hH.drew)
  repeat' (first | (refine XT ?_; apply XE; (first | (apply ex_load_st (vs := encGs g); rfl; rfl; exact cls_cb_all MEMT)); clear hA a; intro a hA) | (refine QT ?_; clear hA a; intro a hA) | fail)
  (refine dr_op hA rfl rfl rfl (by decide) (op_call rfl rfl rfl (large_spec _ g (hR.keep hH.kp) hb.sz)) ?_; clear hA; rintro _ w ⟨b, rfl, hlg, hk⟩; replace hH := hH.keep hk; clear hk; refine ⟨STT, ?_⟩; intro a hA)
  cases b with
  | true =>
    repeat' (first | (refine GT ?_ ?_ <;> intro hg <;> clear hA a <;> intro a hA <;> (first | exact FA | replace hg := of_decide_eq_true hg | replace hg := of_decide_eq_false hg | skip)) | (refine QT ?_; clear hA a; intro a hA) | (refine CT ?_ <;> repeat' refine CT ?_) | (refine DSK ?_; clear hA a; intro a hA) | fail)
    exact rt1 (.inl rfl) rfl hA rfl ⟨rfl, hH.kp⟩
  | false =>
  have hfl : g.fs.l.length ≤ 100000 := by
    have := hb.sz.fs
    have h2 : ¬ (50 < g.fs.l.length ∨ 1000 < grsN g) := fun h => by cases hlg.2 h
    omega
  repeat' (first | (refine GT ?_ ?_ <;> intro hg <;> clear hA a <;> intro a hA <;> (first | exact FA | replace hg := of_decide_eq_true hg | replace hg := of_decide_eq_false hg | skip)) | (refine XT ?_; apply XE; (first | (apply ex_load_st (vs := encGs g); rfl; rfl; exact cls_cb_all MEMT)); clear hA a; intro a hA) | (refine QT ?_; clear hA a; intro a hA) | fail)
  (refine dr_op hA rfl rfl rfl (by decide) (op_call rfl rfl rfl (May_spec _ g (hR.keep hH.kp) hfl hb.bs)) ?_; clear hA; rintro _ w ⟨m1, rfl, hk, hm1⟩; replace hH := hH.keep hk; clear hk; refine ⟨STT, ?_⟩; intro a hA)
  (refine dr_op hA rfl rfl rfl (by decide) (op_call rfl rfl rfl (refMay_spec _ g (hR.keep hH.kp) hfl hb.sz)) ?_; clear hA; rintro _ w ⟨m2, rfl, hm2, hk⟩; replace hH := hH.keep hk; clear hk; refine ⟨STT, ?_⟩; intro a hA)
  obtain rfl : m1 = m2 := by rw [Bool.eq_iff_iff, hm1, hm2]
  repeat' (first | (refine XT ?_; apply XE; (first | (apply ex_eqlBs; rfl; rfl)); clear hA a; intro a hA) | (refine QT ?_; clear hA a; intro a hA) | (refine CT ?_ <;> repeat' refine CT ?_) | fail)
  exact rt1 (.inl rfl) rfl hA rfl ⟨by rw [beq_self_eq_true], hH.kp⟩
end Go.Proofs.YtenlcdokaadobaaGreatDoor
namespace Go.Fw
open Go Go.ChangeShapes Go.WideShapes Go.ChangeAt Go.RowKit
set_option linter.unusedVariables false
section
variable {H : Type} {enc : TypeId × Value → H}
def preL (enc : TypeId × Value → H) (P : Program) (fn : Func) (s : OpenSpec) (conds : List PathCond) (laid : List (String × DataW Unit)) (w : World) (args : Array Value) : Prop :=
  (s.pre enc P fn conds false w args ∧ laidMetH P laid w) ∧ sizedMet enc P fn s false w args
theorem law_lifted_uptoL {C : Checked} {os : Os} {f : FuncId} {fn : Func} {s : ChangeSpec} {k : (H : Type) → List (DataW H) → Bool} {F : Stop.Interp} {conds : List PathCond} {tb : TypeId} {laid : List (String × DataW Unit)}
    (own : ownKnob C.prog.godebug = none) (started : os.Started) (noInit : C.prog.inits.idxOf? f = none) (hfn : C.prog.funcs[f]? = some fn)
    (witness : ∃ (w : World) (tape : Tape) (i : Input), w.os = os ∧ (w.forCall tape i).Shaped C.prog ∧ i.vars = [] ∧ Input.okWide C.prog (w.forCall tape i) .any w.heap.size f i ∧
      preL enc C.prog fn { OpenSpec.ofChange s with cond := some k } conds laid (w.forCall tape i).memory i.args ∧ ({} : Assume).holds C.prog (lone (Frame.enter C.prog f i.args .normal) [] (w.forCall tape i)))
    (hl : laidOutB C.prog = true) (hrd : fn.params.toList.all (fun t => C.prog.readableRec t && decide (t < C.prog.types.size)) = true) (hv : s.vars = [])
    (hs : ∀ ds : List (DataW H), ds.length = fn.params.size → (s.fn H (ds ++ [])).results = [.lit (.bool true)] ∧ (s.fn H (ds ++ [])).args = ds ∧ (s.fn H (ds ++ [])).vars = [])
    (hrt : fn.resultTypes = #[tb]) (hb : C.prog.underlying tb = some .bool)
    (walk : ∀ (W : World) (base : Nat) (args : Array Value) (ds : List (DataW H)) (p : List MemPlace),
      (∀ (j : Nat) t v, fn.params[j]? = some t → args[j]? = some v → Value.okWide C.prog W .any base t v) →
      DataW.TrodAll enc C.prog W 0 (fun _ => true) true fn.params.toList args.toList ds p → (∃ gs, k H (ds ++ gs) = true) → laidMetH C.prog laid W → Ret C.prog f args W (LawR W)) :
    ReturnsInHanded {} C os f .any (preL enc C.prog fn { OpenSpec.ofChange s with cond := some k } conds laid) ((({ OpenSpec.ofChange s with cond := some k } : OpenSpec).at F).post enc C.prog fn false true false false) := by
  refine returnsInHanded_of_calls own started noInit witness ?_
  intro w tape i _ _ _ hok hpre hholds
  obtain ⟨_, _, _, fn', hfn', _, _, _, _, hval⟩ := hok
  have e : fn' = fn := Option.some.inj (hfn'.symm.trans hfn)
  subst e
  obtain ⟨⟨hp0, hL⟩, hz⟩ := hpre
  obtain ⟨ds, gs, before, hw, hc, hkk⟩ := (OpenSpec.pre_some (s := { OpenSpec.ofChange s with cond := some k }) (k := k) rfl conds false _ _).1 hp0
  have hw' := DataW.Whole.of_heap (w' := w.forCall tape i) (by rfl) hw
  have hL' : laidMetH C.prog laid (w.forCall tape i) := laidMetH.of_heap (by rfl) hL
  have hA := hw'
  obtain ⟨p, q, hA, _⟩ := hA
  refine Calls.mono (walk (w.forCall tape i) w.heap.size i.args ds p hval hA ⟨gs, hkk⟩ hL') fun e W' ⟨v, he, hp⟩ => ?_
  subst he
  obtain ⟨rfl, hkp⟩ := hp
  exact ChangeSpec.post_blind (law_post hl hrd hv hs hrt hb hw' hkp)
theorem witnessL {C : Checked} {os : Os} {f : FuncId} {fn : Func} {s : OpenSpec} {k : (H : Type) → List (DataW H) → Bool} (hk : s.cond = some k) {conds : List PathCond} {laid : List (String × DataW Unit)} (w0 : World) (args : Array Value) (fuel : Nat) (hos : w0.os = os)
    (hsh : (w0.forCall (fun _ _ => 0) ⟨#[], args, []⟩).Shaped C.prog)
    (hok : Input.okWideB C.prog (w0.forCall (fun _ _ => 0) ⟨#[], args, []⟩) f ⟨#[], args, []⟩ = true)
    {x : List (DataW H) × List (DataW H) × List MemPlace} (hx : DataW.whole enc C.prog (w0.forCall (fun _ _ => 0) ⟨#[], args, []⟩).memory fn.params.toList s.vars false args.toList fuel = some x)
    (hconds : conds.all (PathCond.test C.prog ⟨fn.params.toList, x.1, s.bare.plain.varTypes C.prog, x.2.1⟩) = true) (hkk : k H (x.1 ++ x.2.1) = true)
    (hsz : s.bare.sizedB enc C.prog fn false (w0.forCall (fun _ _ => 0) ⟨#[], args, []⟩).memory args fuel = true)
    (hX : laidMetH C.prog laid (w0.forCall (fun _ _ => 0) ⟨#[], args, []⟩).memory) :
    ∃ (w : World) (tape : Tape) (i : Input), w.os = os ∧ (w.forCall tape i).Shaped C.prog ∧ i.vars = [] ∧ Input.okWide C.prog (w.forCall tape i) .any w.heap.size f i ∧
      preL enc C.prog fn s conds laid (w.forCall tape i).memory i.args ∧ ({} : Assume).holds C.prog (lone (Frame.enter C.prog f i.args .normal) [] (w.forCall tape i)) :=
  ⟨w0, fun _ _ => 0, ⟨#[], args, []⟩, hos, hsh, (Input.okWide_of_okWideB (base := 0) hok).1, (Input.okWide_of_okWideB hok).2,
    ⟨⟨(OpenSpec.pre_some hk conds false _ _).2 ⟨x.1, x.2.1, x.2.2, DataW.Whole_of_whole hx, hconds, hkk⟩, hX⟩, sizedMet_of_sizedB hsz⟩, by
    simp only [Assume.holds]
    exact ⟨by simp, by simp, fun _ => Modest.zero, by simp, by simp⟩⟩
end
end Go.Fw
namespace Go.Proofs.YtenlcdokaadobaaGreatDoor
open Go Go.Fw Go.Sort
set_option linter.unusedVariables false
theorem gPow : Tryz.prog.globalNamed "internal/strconv.uint64pow10" = some 0 := by kernel_rfl
theorem tPow : (Tryz.prog.globals[0]?).map (·.type) = some 288 := by kernel_rfl
theorem uPow : Tryz.prog.underlying 288 = some (.array 20 276) := by kernel_rfl
theorem uU64 : Tryz.prog.underlying 276 = some (.int .u64) := by kernel_rfl
theorem dPow : (Rows.laid_internal_strconv_uint64pow10 : DataW Unit) = Lib.tabData .u64 Lib.pow10Tab := by kernel_rfl
theorem tab_of_laid {W : World} (h : laidMetH Tryz.prog Rows.ssaFuelUptoRow.laid W) : Lib.TabIs Tryz.prog W "internal/strconv.uint64pow10" .u64 Lib.pow10Tab := by
  rw [MakeChecks.laidMetH_plain _ _ _ (by kernel_rfl)] at h
  obtain ⟨ps, ⟨g0, t0, cs0, f0, p0, q0, hg0, ht0, hv0, hd0, ⟨g1, t1, cs1, f1, p1, q1, hg1, ht1, hv1, hd1, ⟨g2, t2, cs2, f2, p2, q2, hg2, ht2, hv2, hd2, _, _⟩, _⟩, _⟩, _⟩ := h
  obtain rfl := Option.some.inj (gPow.symm.trans hg2)
  obtain rfl := Option.some.inj (tPow.symm.trans ht2)
  unfold Lib.TabIs
  rw [dPow] at hd2
  rw [hv2, ← Lib.cells_of_tab uPow uU64 (by kernel_rfl) (by kernel_rfl) hd2]
theorem tab_keep {w w' : World} {zs : List Int} (h : Lib.TabIs Tryz.prog w "internal/strconv.uint64pow10" .u64 zs) (hk : Kp w noM w') : Lib.TabIs Tryz.prog w' "internal/strconv.uint64pow10" .u64 zs := by
  unfold Lib.TabIs World.var? at h ⊢
  rw [gPow] at h ⊢
  simp only [Option.bind_some] at h ⊢
  have hlt : 0 < w.heap.size := by
    rcases Nat.lt_or_ge 0 w.heap.size with h' | h'
    · exact h'
    · rw [Array.getElem?_eq_none h'] at h; cases h
  rw [hk.block 0 hlt id]
  exact h
theorem Kp.grow (w : World) (k : Nat) (os : Array Obj) : Kp w noM (grow (w.drewN k) os) := by
  refine ⟨rfl, rfl, rfl, ?_, fun b hb _ => ?_⟩
  · show _ ≤ (w.heap ++ os).size
    rw [Array.size_append]
    omega
  · show (w.heap ++ os)[b]? = _
    rw [Array.getElem?_append_left hb]
theorem fi_of_tab {W : World} (h : Lib.TabIs Tryz.prog W "internal/strconv.uint64pow10" .u64 Lib.pow10Tab) : FI W := fun w hk n hn =>
  Calls.mono (Tryz.strconv_FormatInt_10 n hn.1 hn.2 w (tab_keep h hk)) fun e w' ⟨he, k, os, hw⟩ => ⟨_, he, rfl, hw ▸ Kp.grow w k os⟩
theorem fi_of_laid {W : World} (h : laidMetH Tryz.prog Rows.ssaFuelUptoRow.laid W) : FI W := fi_of_tab (tab_of_laid h)
set_option maxRecDepth 100000 in
theorem door_met (os : Os) (args : Array Value) : laidMetH Tryz.prog Rows.ssaFuelUptoRow.laid ((World.doorLaid Tryz.prog 400 os).forCall (fun _ _ => 0) ⟨#[], args, []⟩).memory :=
  laidMetH_of_parts3 (fuel := 8) (laidMet_of_run' 8 (by kernel_rfl) (by kernel_rfl)) (by kernel_rfl) (by kernel_rfl)
theorem door_shaped (os : Os) (args : Array Value) : ((World.doorLaid Tryz.prog 400 os).forCall (fun _ _ => 0) ⟨#[], args, []⟩).Shaped Tryz.prog := World.shaped_of_RefB (by kernel_rfl) (by kernel_rfl)
end Go.Proofs.YtenlcdokaadobaaGreatDoor
