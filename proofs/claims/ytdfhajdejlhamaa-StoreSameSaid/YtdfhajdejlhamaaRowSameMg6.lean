/-
  The walk over a collector's step. Conditions: none.
  A region whose operations come up in one of several orders: a plan, with ways. Conditions: none.
  Strings: their length, a byte, a part; as bytes and back. Conditions: none.
  A store in memory; the walks over its calls, but for those of texts. Conditions: none.
  The walk over a store's Alloc. Conditions: none.
-/
import Derived.Test.YtdfhajdejlhamaaRowSameMg5
import Derived.Test.YtdfhajdejlhamaaRowSameMg3
import Derived.Lib.ConvBytes
import Derived.Laws.BytesString
import Derived.Laws.Strings
import Derived.Laws.Slices
import Derived.Test.YtdfhajdejlhamaaRowSameMg0
namespace Go.Proofs.Ytdfhajdejlhamaa
open Go Go.Fw
set_option linter.unusedVariables false
theorem gc_eq {w0 w : World} {M : Nat → Prop} {H : List It} {bg b N : Nat} {s : GS} {L : List Ob} (h : HS w0 M (gcI bg b N s :: H) w) : HS w0 M (gcI bg b N { s with L := L } :: H) w := h
theorem gc_new {w0 w : World} {M : Nat → Prop} {H : List It} {bg b N : Nat} {L : List Ob} {oC : Option Addr} (h : HS w0 M (own 3 1 none 0 0 [] :: cb bg 109 [.pointer (some (bat b 0)), .int .i64 0, .slice oC N N, .slice none 0 0, .int .i64 0] :: own 5 1 oC N N (flat encC (List.replicate N 0)) :: H) w) :
    HS w0 M (gcI bg b N ⟨0, L, List.replicate N 0, [], 0⟩ :: H) w := gc_shut ⟨oC, N, none, 0⟩ (h.perm (((List.Perm.swap _ _ _).trans ((List.Perm.swap _ _ _).cons _))))
theorem grey_cut {k : Nat} {l : List Nat} {w : World} {F : Nat → Prop} {o : Option Addr} {c : Nat} (hk : l.length = k + 1) (hF : (own 3 1 o (k + 1) c (flat encN l)).sat w F) : (own 3 1 o k c (flat encN l.dropLast)).sat w F := by
  have h := own_cut hF (show k ≤ k + 1 by omega)
  rw [flat_take encN_len] at h
  rw [List.dropLast_eq_take, hk]
  exact h
set_option maxRecDepth 10000 attribute [local irreducible] Code.wp wpList Calls Ex Op1 sat bat blk cb own Go.Fw.mp Go.Fw.mpO Go.Fw.mpI Go.Fw.mpE Go.Fw.itr HS Rd Ret wkD Hp Cl Cls Exit.then Exit.inBlock Exit.noGoto bodyPost Go.Fw.flat wk2 Go.Fw.all Go.Fw.owns wpOp
attribute [local irreducible] hdA gaps isA nextA allocA freeA sizeA kindA setA getA whiteZ numW addrW shadeG gcI hpI

set_option maxHeartbeats 4000000 in
theorem gstep_spec (w0 : World) (M : Nat → Prop) (bg b N : Nat) (s : GS) (hok : GOk N s) (hH : HS w0 M [gcI bg b N s, hpI b N s.L] w0) :
    Ret Try.prog 56 #[.pointer (some (bat bg 0))] w0 (fun v w => v = .bool (stepG s).1 ∧ HS w0 M [gcI bg b N (stepG s).2, hpI b N (stepG s).2.L] w) := by
  have hn2 := hok.n2
  have hgl := gr_len hok
  (refine enter (N := 153) Try.func56 rfl Try.ntmps56 rfl ?_; intro a hA; dsimp only [sl0, Nat.reduceAdd] at hA)
  rcases step_cases hok with ⟨h0, e⟩ | ⟨h0, a0, ha, e⟩ | ⟨h0, hg, e⟩ | ⟨h0, hno, h1, e⟩ | ⟨h0, o, ho, h1, h2, h3, e⟩ <;> rw [e]
  · repeat' (first | (first | (refine GT ?_ ?_ <;> intro hg <;> clear hA a <;> intro a hA <;> (first | exact FA | replace hg := of_decide_eq_true hg | replace hg := of_decide_eq_false hg | skip)) | ((first | apply st_ex hA hH rfl rfl (by decide) | apply dr_ex hA rfl rfl rfl (by decide) | apply dr_exp hA rfl rfl rfl (by decide) | apply dr_ex3 hA hH rfl rfl rfl (by decide)); (first | (apply ex_load; rfl; exact cl_gp MEMT)); clear hA a; intro a hA) | (refine QT ?_; clear hA a; intro a hA) | (first | (refine BT ?_; clear hA hH; rintro _ w ⟨bN, rfl, hH⟩ a hA) | (refine LT ?_; clear hA hH; rintro _ w ⟨oN, rfl, hH⟩ a hA) | (refine AT ?_; clear hA; rintro _ w ⟨oN, cN, rfl, hH2⟩ a hA; clear hH; have hH := (hH2 _ (by (repeat constructor))).tail; clear hH2) | (refine S0T ?_; clear hH; rintro _ w hH) )) | ((first | refine CT ?_ | (refine DT ?_ ?_ <;> intro hc <;> try (exfalso; omega))) <;> repeat' refine CT ?_) | (first | (refine DSK ?_; clear hA a; intro a hA) | (first | (refine DLT ?_; clear hA hH; rintro _ w ⟨oN, rfl, hH⟩; refine ⟨STT, ?_⟩; intro a hA) | (refine DAT ?_; clear hA; rintro _ w ⟨oN, cN, rfl, hH2⟩; clear hH; have hH := (hH2 _ (by (repeat constructor))).tail; clear hH2; refine ⟨STT, ?_⟩; intro a hA))) )
    exact rt1 (.inl rfl) rfl hA rfl ⟨rfl, hH⟩
  · -- a grey one
    obtain ⟨g, hg⟩ := List.getLast?_eq_some_iff.1 ha
    obtain ⟨k, hk⟩ : ∃ k, s.gr.length = k + 1 := ⟨g.length, by rw [hg]; simp⟩
    have hgk : s.gr[k]? = some a0 := by
      have : k = g.length := by rw [hg] at hk; simp at hk; omega
      rw [hg, this]; simp
    have hdl : s.gr.dropLast.length = k := by rw [List.length_dropLast, hk]; rfl
    have hc1 := ((black_ok hok h0 ha)).2.1
    have hokB := (black_ok hok h0 ha).1
    have hO := hok.obj a0 (by omega)
    have hlt := hok.lt hO
    obtain ⟨o, ho, hoa⟩ := hO
    subst hoa
    obtain ⟨hk1, hk2⟩ := kind_obj hok.lay (objA_mem hok.lay ho)
    have hkd := (hok.kd o ho).2
    have hcg := encN_at hgk
    obtain ⟨q, hH2⟩ := gc_open hH
    clear hH
    have hH := hH2
    clear hH2
    unfold gcQ at hH
    rw [hk] at hH
    have hspC : Sp q.oC N := hH.own_sp (o := q.oC) (by exact MEMT)
    have hspG : Sp q.oG (k + 1) := hH.own_sp (o := q.oG) (by exact MEMT)
    have hle := hH.own_le (o := q.oG) (by exact MEMT)
    repeat' (first | (first | (refine GT ?_ ?_ <;> intro hg <;> clear hA a <;> intro a hA <;> (first | exact FA | replace hg := of_decide_eq_true hg | replace hg := of_decide_eq_false hg | skip)) | (refine QT ?_; clear hA a; intro a hA) | (first | (refine BT ?_; clear hA hH; rintro _ w ⟨bN, rfl, hH⟩ a hA) | (refine LT ?_; clear hA hH; rintro _ w ⟨oN, rfl, hH⟩ a hA) | (refine AT ?_; clear hA; rintro _ w ⟨oN, cN, rfl, hH2⟩ a hA; clear hH; have hH := (hH2 _ (by (repeat constructor))).tail; clear hH2) | (refine S0T ?_; clear hH; rintro _ w hH) )) | ((first | refine CT ?_ | (refine DT ?_ ?_ <;> intro hc <;> try (exfalso; omega))) <;> repeat' refine CT ?_) | (first | (refine DSK ?_; clear hA a; intro a hA) | (first | (refine DLT ?_; clear hA hH; rintro _ w ⟨oN, rfl, hH⟩; refine ⟨STT, ?_⟩; intro a hA) | (refine DAT ?_; clear hA; rintro _ w ⟨oN, cN, rfl, hH2⟩; clear hH; have hH := (hH2 _ (by (repeat constructor))).tail; clear hH2; refine ⟨STT, ?_⟩; intro a hA))) )
    (refine wp_draw_HS [(0, 1), (1, 1), (2, 1), (3, 1), (4, 1), (5, 1), (6, 1), (7, 1), (8, 1), (9, 1), (10, 1), (11, 1), (12, 1)] mixed (by decide +kernel) hH ?_; replace hH := hH.drew)
    repeat' (first | (first | (refine GT ?_ ?_ <;> intro hg <;> clear hA a <;> intro a hA <;> (first | exact FA | replace hg := of_decide_eq_true hg | replace hg := of_decide_eq_false hg | skip)) | (refine QT ?_; clear hA a; intro a hA) | (first | (refine BT ?_; clear hA hH; rintro _ w ⟨bN, rfl, hH⟩ a hA) | (refine LT ?_; clear hA hH; rintro _ w ⟨oN, rfl, hH⟩ a hA) | (refine AT ?_; clear hA; rintro _ w ⟨oN, cN, rfl, hH2⟩ a hA; clear hH; have hH := (hH2 _ (by (repeat constructor))).tail; clear hH2) | (refine S0T ?_; clear hH; rintro _ w hH) )) | ((first | refine CT ?_ | (refine DT ?_ ?_ <;> intro hc <;> try (exfalso; omega))) <;> repeat' refine CT ?_) | (first | (refine DSK ?_; clear hA a; intro a hA) | (first | (refine DLT ?_; clear hA hH; rintro _ w ⟨oN, rfl, hH⟩; refine ⟨STT, ?_⟩; intro a hA) | (refine DAT ?_; clear hA; rintro _ w ⟨oN, cN, rfl, hH2⟩; clear hH; have hH := (hH2 _ (by (repeat constructor))).tail; clear hH2; refine ⟨STT, ?_⟩; intro a hA))) )
    (refine wp_draw2_HS [(0, 1), (1, 1), (2, 1), (3, 1), (4, 1), (5, 1), (6, 1), (7, 1), (8, 1), (9, 1), (10, 1), (11, 1), (12, 1), (13, 1)] [14] mixed (by decide +kernel) hH ?_; replace hH := hH.drew)
    repeat' (first | (first | (refine GT ?_ ?_ <;> intro hg <;> clear hA a <;> intro a hA <;> (first | exact FA | replace hg := of_decide_eq_true hg | replace hg := of_decide_eq_false hg | skip)) | ((first | apply st_ex hA hH rfl rfl (by decide) | apply dr_ex hA rfl rfl rfl (by decide) | apply dr_exp hA rfl rfl rfl (by decide) | apply dr_ex3 hA hH rfl rfl rfl (by decide)); (first | (apply ex_slice_hi (k := k); rfl; rfl; rfl; omega)); clear hA a; intro a hA) | (refine QT ?_; clear hA a; intro a hA) | (first | (refine BT ?_; clear hA hH; rintro _ w ⟨bN, rfl, hH⟩ a hA) | (refine LT ?_; clear hA hH; rintro _ w ⟨oN, rfl, hH⟩ a hA) | (refine AT ?_; clear hA; rintro _ w ⟨oN, cN, rfl, hH2⟩ a hA; clear hH; have hH := (hH2 _ (by (repeat constructor))).tail; clear hH2) | (refine S0T ?_; clear hH; rintro _ w hH) | (apply dr_op03 hA rfl rfl rfl; apply op_store_fld; rfl; rfl; rfl; exact hH; (repeat constructor); (repeat rfl); clear hH; rintro _ w hH) | (apply st_op0 hA rfl rfl; apply op_set1 (enc := encC) (y0 := 2) (j := o.a * 1); rfl; rfl; rfl; rfl; exact encC_len; exact hH; (repeat constructor); (rw [hok.cll]; omega); clear hH; rintro _ w hH))) | ((first | refine CT ?_ | (refine DT ?_ ?_ <;> intro hc <;> try (exfalso; omega))) <;> repeat' refine CT ?_) | (first | (refine DSK ?_; clear hA a; intro a hA) | (first | (refine DLT ?_; clear hA hH; rintro _ w ⟨oN, rfl, hH⟩; refine ⟨STT, ?_⟩; intro a hA) | (refine DAT ?_; clear hA; rintro _ w ⟨oN, cN, rfl, hH2⟩; clear hH; have hH := (hH2 _ (by (repeat constructor))).tail; clear hH2; refine ⟨STT, ?_⟩; intro a hA))) )
    replace hH := hH.conv (it' := own 3 1 q.oG k q.cG (flat encN s.gr.dropLast)) (.there (.there .here)) (fun F hF => grey_cut hk hF)
    rw [Nat.mul_one] at hH
    have hH2 : HS w0 M [gcI bg b N (blackG s o.a), hpI b N s.L] w := by
      refine gc_shut ⟨q.oC, q.cC, q.oG, q.cG⟩ ?_
      unfold gcQ
      rw [show (blackG s o.a).gr.length = k from hdl]
      exact hH
    clear hH
    have hH := hH2
    clear hH2
    have hm : markG s o.a = if o.kind = 1 then blackG s o.a else o.fs.foldl shadeG (blackG s o.a) := by
      unfold markG
      rw [(fsA_at hok.lay ho).1, (fsA_at hok.lay ho).2]
    rw [hm]
    repeat' (first | (first | (refine GT ?_ ?_ <;> intro hg <;> clear hA a <;> intro a hA <;> (first | exact FA | replace hg := of_decide_eq_true hg | replace hg := of_decide_eq_false hg | skip)) | ((first | apply st_ex hA hH rfl rfl (by decide) | apply dr_ex hA rfl rfl rfl (by decide) | apply dr_exp hA rfl rfl rfl (by decide) | apply dr_ex3 hA hH rfl rfl rfl (by decide)); (first | (apply ex_load; rfl; exact cl_gh MEMT)); clear hA a; intro a hA) | (refine QT ?_; clear hA a; intro a hA) | (first | (refine BT ?_; clear hA hH; rintro _ w ⟨bN, rfl, hH⟩ a hA) | (refine LT ?_; clear hA hH; rintro _ w ⟨oN, rfl, hH⟩ a hA) | (refine AT ?_; clear hA; rintro _ w ⟨oN, cN, rfl, hH2⟩ a hA; clear hH; have hH := (hH2 _ (by (repeat constructor))).tail; clear hH2) | (refine S0T ?_; clear hH; rintro _ w hH) )) | ((first | refine CT ?_ | (refine DT ?_ ?_ <;> intro hc <;> try (exfalso; omega))) <;> repeat' refine CT ?_) | (first | (refine DSK ?_; clear hA a; intro a hA) | (first | (refine DLT ?_; clear hA hH; rintro _ w ⟨oN, rfl, hH⟩; refine ⟨STT, ?_⟩; intro a hA) | (refine DAT ?_; clear hA; rintro _ w ⟨oN, cN, rfl, hH2⟩; clear hH; have hH := (hH2 _ (by (repeat constructor))).tail; clear hH2; refine ⟨STT, ?_⟩; intro a hA))) )
    (refine st_op hA rfl rfl (by decide) (op_call rfl rfl rfl (kind_f hH (by exact MEMT))) ?_; clear hA hH; rintro _ w ⟨rfl, hH⟩ a hA)
    rw [hk1] at hA
    dsimp only at hA
    by_cases hkd1 : o.kind = 1
    · rw [if_pos hkd1]
      repeat' (first | (first | (refine GT ?_ ?_ <;> intro hg <;> clear hA a <;> intro a hA <;> (first | exact FA | replace hg := of_decide_eq_true hg | replace hg := of_decide_eq_false hg | skip)) | (refine QT ?_; clear hA a; intro a hA) | (first | (refine BT ?_; clear hA hH; rintro _ w ⟨bN, rfl, hH⟩ a hA) | (refine LT ?_; clear hA hH; rintro _ w ⟨oN, rfl, hH⟩ a hA) | (refine AT ?_; clear hA; rintro _ w ⟨oN, cN, rfl, hH2⟩ a hA; clear hH; have hH := (hH2 _ (by (repeat constructor))).tail; clear hH2) | (refine S0T ?_; clear hH; rintro _ w hH) )) | ((first | refine CT ?_ | (refine DT ?_ ?_ <;> intro hc <;> try (exfalso; omega))) <;> repeat' refine CT ?_) | (first | (refine DSK ?_; clear hA a; intro a hA) | (first | (refine DLT ?_; clear hA hH; rintro _ w ⟨oN, rfl, hH⟩; refine ⟨STT, ?_⟩; intro a hA) | (refine DAT ?_; clear hA; rintro _ w ⟨oN, cN, rfl, hH2⟩; clear hH; have hH := (hH2 _ (by (repeat constructor))).tail; clear hH2; refine ⟨STT, ?_⟩; intro a hA))) )
      exact rt1 (.inl rfl) rfl hA rfl ⟨rfl, hH⟩
    rw [if_neg hkd1]
    have hfL : (o.fs.foldl shadeG (blackG s o.a)).L = s.L := (shades_ok (s := blackG s o.a) h0 hokB o.fs).2.1
    rw [hfL]
    repeat' (first | (first | (refine GT ?_ ?_ <;> intro hg <;> clear hA a <;> intro a hA <;> (first | exact FA | replace hg := of_decide_eq_true hg | replace hg := of_decide_eq_false hg | skip)) | ((first | apply st_ex hA hH rfl rfl (by decide) | apply dr_ex hA rfl rfl rfl (by decide) | apply dr_exp hA rfl rfl rfl (by decide) | apply dr_ex3 hA hH rfl rfl rfl (by decide)); (first | (apply ex_load; rfl; exact cl_gh MEMT)); clear hA a; intro a hA) | (refine QT ?_; clear hA a; intro a hA) | (first | (refine BT ?_; clear hA hH; rintro _ w ⟨bN, rfl, hH⟩ a hA) | (refine LT ?_; clear hA hH; rintro _ w ⟨oN, rfl, hH⟩ a hA) | (refine AT ?_; clear hA; rintro _ w ⟨oN, cN, rfl, hH2⟩ a hA; clear hH; have hH := (hH2 _ (by (repeat constructor))).tail; clear hH2) | (refine S0T ?_; clear hH; rintro _ w hH) )) | ((first | refine CT ?_ | (refine DT ?_ ?_ <;> intro hc <;> try (exfalso; omega))) <;> repeat' refine CT ?_) | (first | (refine DSK ?_; clear hA a; intro a hA) | (first | (refine DLT ?_; clear hA hH; rintro _ w ⟨oN, rfl, hH⟩; refine ⟨STT, ?_⟩; intro a hA) | (refine DAT ?_; clear hA; rintro _ w ⟨oN, cN, rfl, hH2⟩; clear hH; have hH := (hH2 _ (by (repeat constructor))).tail; clear hH2; refine ⟨STT, ?_⟩; intro a hA))) )
    (refine st_op hA rfl rfl (by decide) (op_call rfl rfl rfl (size_f hH (by exact MEMT))) ?_; clear hA hH; rintro _ w ⟨rfl, hH⟩ a hA)
    rw [hk2] at hA
    dsimp only at hA
    repeat' (first | (first | (refine GT ?_ ?_ <;> intro hg <;> clear hA a <;> intro a hA <;> (first | exact FA | replace hg := of_decide_eq_true hg | replace hg := of_decide_eq_false hg | skip)) | (refine QT ?_; clear hA a; intro a hA) | (first | (refine BT ?_; clear hA hH; rintro _ w ⟨bN, rfl, hH⟩ a hA) | (refine LT ?_; clear hA hH; rintro _ w ⟨oN, rfl, hH⟩ a hA) | (refine AT ?_; clear hA; rintro _ w ⟨oN, cN, rfl, hH2⟩ a hA; clear hH; have hH := (hH2 _ (by (repeat constructor))).tail; clear hH2) | (refine S0T ?_; clear hH; rintro _ w hH) )) | ((first | refine CT ?_ | (refine DT ?_ ?_ <;> intro hc <;> try (exfalso; omega))) <;> repeat' refine CT ?_) | (first | (refine DSK ?_; clear hA a; intro a hA) | (first | (refine DLT ?_; clear hA hH; rintro _ w ⟨oN, rfl, hH⟩; refine ⟨STT, ?_⟩; intro a hA) | (refine DAT ?_; clear hA; rintro _ w ⟨oN, cN, rfl, hH2⟩; clear hH; have hH := (hH2 _ (by (repeat constructor))).tail; clear hH2; refine ⟨STT, ?_⟩; intro a hA))) )
    refine wp_lpk (S := Nat) (fun i a w => i ≤ o.fs.length ∧ HS w0 M [gcI bg b N ((o.fs.take i).foldl shadeG (blackG s o.a)), hpI b N s.L] w ∧ Sl 153 [(0, .pointer (some (bat bg 0))), (3, .int .i64 o.a), (78, .int .i64 o.fs.length), (79, .int .i64 i)] a) (fun i => o.fs.length - i)
      (fun a w => HS w0 M [gcI bg b N (o.fs.foldl shadeG (blackG s o.a)), hpI b N s.L] w ∧ Sl 153 [] a) 0 ⟨Nat.zero_le _, hH, (hA.sub (by (repeat (first | exact trivial | refine ⟨rfl, ?_⟩))))⟩ ?_ ?_
    rotate_left
    · clear hA hH
      rintro a w ⟨hH, hA⟩
      repeat' (first | (first | (refine GT ?_ ?_ <;> intro hg <;> clear hA a <;> intro a hA <;> (first | exact FA | replace hg := of_decide_eq_true hg | replace hg := of_decide_eq_false hg | skip)) | (refine QT ?_; clear hA a; intro a hA) | (first | (refine BT ?_; clear hA hH; rintro _ w ⟨bN, rfl, hH⟩ a hA) | (refine LT ?_; clear hA hH; rintro _ w ⟨oN, rfl, hH⟩ a hA) | (refine AT ?_; clear hA; rintro _ w ⟨oN, cN, rfl, hH2⟩ a hA; clear hH; have hH := (hH2 _ (by (repeat constructor))).tail; clear hH2) | (refine S0T ?_; clear hH; rintro _ w hH) )) | ((first | refine CT ?_ | (refine DT ?_ ?_ <;> intro hc <;> try (exfalso; omega))) <;> repeat' refine CT ?_) | (first | (refine DSK ?_; clear hA a; intro a hA) | (first | (refine DLT ?_; clear hA hH; rintro _ w ⟨oN, rfl, hH⟩; refine ⟨STT, ?_⟩; intro a hA) | (refine DAT ?_; clear hA; rintro _ w ⟨oN, cN, rfl, hH2⟩; clear hH; have hH := (hH2 _ (by (repeat constructor))).tail; clear hH2; refine ⟨STT, ?_⟩; intro a hA))) )
      exact rt1 (.inl rfl) rfl hA rfl ⟨rfl, hH⟩
    clear hA hH
    rintro i a w ⟨hi, hH, hA⟩
    by_cases hlt2 : i < o.fs.length
    rotate_left
    · rw [List.take_of_length_le (by omega)] at hH
      repeat' (first | (first | (refine GT ?_ ?_ <;> intro hg <;> clear hA a <;> intro a hA <;> (first | exact FA | replace hg := of_decide_eq_true hg | replace hg := of_decide_eq_false hg | skip)) | (refine QT ?_; clear hA a; intro a hA) | (first | (refine BT ?_; clear hA hH; rintro _ w ⟨bN, rfl, hH⟩ a hA) | (refine LT ?_; clear hA hH; rintro _ w ⟨oN, rfl, hH⟩ a hA) | (refine AT ?_; clear hA; rintro _ w ⟨oN, cN, rfl, hH2⟩ a hA; clear hH; have hH := (hH2 _ (by (repeat constructor))).tail; clear hH2) | (refine S0T ?_; clear hH; rintro _ w hH) )) | ((first | refine CT ?_ | (refine DT ?_ ?_ <;> intro hc <;> try (exfalso; omega))) <;> repeat' refine CT ?_) | (first | (refine DSK ?_; clear hA a; intro a hA) | (first | (refine DLT ?_; clear hA hH; rintro _ w ⟨oN, rfl, hH⟩; refine ⟨STT, ?_⟩; intro a hA) | (refine DAT ?_; clear hA; rintro _ w ⟨oN, cN, rfl, hH2⟩; clear hH; have hH := (hH2 _ (by (repeat constructor))).tail; clear hH2; refine ⟨STT, ?_⟩; intro a hA))) )
      exact ⟨hH, (hA.sub (by (repeat (first | exact trivial | refine ⟨rfl, ?_⟩))))⟩
    obtain ⟨x, hx⟩ : ∃ x, o.fs[i]? = some x := ⟨_, List.getElem?_eq_getElem hlt2⟩
    obtain ⟨g1, g2, g3, g4, g5⟩ := shades_ok (s := blackG s o.a) h0 hokB (o.fs.take i)
    have hst : (o.fs.take (i + 1)).foldl shadeG (blackG s o.a) = shadeG ((o.fs.take i).foldl shadeG (blackG s o.a)) x := by
      rw [List.take_add_one, hx]
      simp
    have hge := get_obj hok.lay ho hx
    repeat' (first | (first | (refine GT ?_ ?_ <;> intro hg <;> clear hA a <;> intro a hA <;> (first | exact FA | replace hg := of_decide_eq_true hg | replace hg := of_decide_eq_false hg | skip)) | ((first | apply st_ex hA hH rfl rfl (by decide) | apply dr_ex hA rfl rfl rfl (by decide) | apply dr_exp hA rfl rfl rfl (by decide) | apply dr_ex3 hA hH rfl rfl rfl (by decide)); (first | (apply ex_load; rfl; exact cl_gh MEMT)); clear hA a; intro a hA) | (refine QT ?_; clear hA a; intro a hA) | (first | (refine BT ?_; clear hA hH; rintro _ w ⟨bN, rfl, hH⟩ a hA) | (refine LT ?_; clear hA hH; rintro _ w ⟨oN, rfl, hH⟩ a hA) | (refine AT ?_; clear hA; rintro _ w ⟨oN, cN, rfl, hH2⟩ a hA; clear hH; have hH := (hH2 _ (by (repeat constructor))).tail; clear hH2) | (refine S0T ?_; clear hH; rintro _ w hH) )) | ((first | refine CT ?_ | (refine DT ?_ ?_ <;> intro hc <;> try (exfalso; omega))) <;> repeat' refine CT ?_) | (first | (refine DSK ?_; clear hA a; intro a hA) | (first | (refine DLT ?_; clear hA hH; rintro _ w ⟨oN, rfl, hH⟩; refine ⟨STT, ?_⟩; intro a hA) | (refine DAT ?_; clear hA; rintro _ w ⟨oN, cN, rfl, hH2⟩; clear hH; have hH := (hH2 _ (by (repeat constructor))).tail; clear hH2; refine ⟨STT, ?_⟩; intro a hA))) )
    (refine st_op hA rfl rfl (by decide) (op_call rfl rfl rfl (get_f hH (by exact MEMT))) ?_; clear hA hH; rintro _ w ⟨rfl, hH⟩ a hA)
    rw [hge] at hA
    dsimp only at hA
    repeat' (first | (first | (refine GT ?_ ?_ <;> intro hg <;> clear hA a <;> intro a hA <;> (first | exact FA | replace hg := of_decide_eq_true hg | replace hg := of_decide_eq_false hg | skip)) | (refine QT ?_; clear hA a; intro a hA) | (first | (refine BT ?_; clear hA hH; rintro _ w ⟨bN, rfl, hH⟩ a hA) | (refine LT ?_; clear hA hH; rintro _ w ⟨oN, rfl, hH⟩ a hA) | (refine AT ?_; clear hA; rintro _ w ⟨oN, cN, rfl, hH2⟩ a hA; clear hH; have hH := (hH2 _ (by (repeat constructor))).tail; clear hH2) | (refine S0T ?_; clear hH; rintro _ w hH) )) | ((first | refine CT ?_ | (refine DT ?_ ?_ <;> intro hc <;> try (exfalso; omega))) <;> repeat' refine CT ?_) | (first | (refine DSK ?_; clear hA a; intro a hA) | (first | (refine DLT ?_; clear hA hH; rintro _ w ⟨oN, rfl, hH⟩; refine ⟨STT, ?_⟩; intro a hA) | (refine DAT ?_; clear hA; rintro _ w ⟨oN, cN, rfl, hH2⟩; clear hH; have hH := (hH2 _ (by (repeat constructor))).tail; clear hH2; refine ⟨STT, ?_⟩; intro a hA))) )
    (refine st_op hA rfl rfl (by decide) (op_call rfl rfl rfl (gshade_f hH g1 g3 (hok.us o ho x (List.mem_of_getElem? hx)) g2)) ?_; clear hA hH; rintro _ w hH a hA)
    rw [← hst] at hH
    repeat' (first | (first | (refine GT ?_ ?_ <;> intro hg <;> clear hA a <;> intro a hA <;> (first | exact FA | replace hg := of_decide_eq_true hg | replace hg := of_decide_eq_false hg | skip)) | (refine QT ?_; clear hA a; intro a hA) | (first | (refine BT ?_; clear hA hH; rintro _ w ⟨bN, rfl, hH⟩ a hA) | (refine LT ?_; clear hA hH; rintro _ w ⟨oN, rfl, hH⟩ a hA) | (refine AT ?_; clear hA; rintro _ w ⟨oN, cN, rfl, hH2⟩ a hA; clear hH; have hH := (hH2 _ (by (repeat constructor))).tail; clear hH2) | (refine S0T ?_; clear hH; rintro _ w hH) )) | ((first | refine CT ?_ | (refine DT ?_ ?_ <;> intro hc <;> try (exfalso; omega))) <;> repeat' refine CT ?_) | (first | (refine DSK ?_; clear hA a; intro a hA) | (first | (refine DLT ?_; clear hA hH; rintro _ w ⟨oN, rfl, hH⟩; refine ⟨STT, ?_⟩; intro a hA) | (refine DAT ?_; clear hA; rintro _ w ⟨oN, cN, rfl, hH2⟩; clear hH; have hH := (hH2 _ (by (repeat constructor))).tail; clear hH2; refine ⟨STT, ?_⟩; intro a hA))) )
    exact ⟨i + 1, ⟨hlt2, hH, (hA.sub (by (repeat (first | exact trivial | refine ⟨rfl, ?_⟩))))⟩, by omega⟩
  · -- none is grey
    obtain ⟨q, hH2⟩ := gc_open hH
    clear hH
    have hH := hH2
    clear hH2
    unfold gcQ at hH
    have hg0 : s.gr.length = 0 := by rw [hg]; rfl
    repeat' (first | (first | (refine GT ?_ ?_ <;> intro hg <;> clear hA a <;> intro a hA <;> (first | exact FA | replace hg := of_decide_eq_true hg | replace hg := of_decide_eq_false hg | skip)) | (refine QT ?_; clear hA a; intro a hA) | (first | (refine BT ?_; clear hA hH; rintro _ w ⟨bN, rfl, hH⟩ a hA) | (refine LT ?_; clear hA hH; rintro _ w ⟨oN, rfl, hH⟩ a hA) | (refine AT ?_; clear hA; rintro _ w ⟨oN, cN, rfl, hH2⟩ a hA; clear hH; have hH := (hH2 _ (by (repeat constructor))).tail; clear hH2) | (refine S0T ?_; clear hH; rintro _ w hH) | (apply st_op0 hA rfl rfl; apply op_store_fld; rfl; rfl; rfl; exact hH; (repeat constructor); (repeat rfl); clear hH; rintro _ w hH))) | ((first | refine CT ?_ | (refine DT ?_ ?_ <;> intro hc <;> try (exfalso; omega))) <;> repeat' refine CT ?_) | (first | (refine DSK ?_; clear hA a; intro a hA) | (first | (refine DLT ?_; clear hA hH; rintro _ w ⟨oN, rfl, hH⟩; refine ⟨STT, ?_⟩; intro a hA) | (refine DAT ?_; clear hA; rintro _ w ⟨oN, cN, rfl, hH2⟩; clear hH; have hH := (hH2 _ (by (repeat constructor))).tail; clear hH2; refine ⟨STT, ?_⟩; intro a hA))) )
    exact rt1 (.inl rfl) rfl hA rfl ⟨rfl, gc_shut q hH⟩
  · -- the end
    repeat' (first | (first | (refine GT ?_ ?_ <;> intro hg <;> clear hA a <;> intro a hA <;> (first | exact FA | replace hg := of_decide_eq_true hg | replace hg := of_decide_eq_false hg | skip)) | ((first | apply st_ex hA hH rfl rfl (by decide) | apply dr_ex hA rfl rfl rfl (by decide) | apply dr_exp hA rfl rfl rfl (by decide) | apply dr_ex3 hA hH rfl rfl rfl (by decide)); (first | (apply ex_load; rfl; exact cl_gp MEMT)); clear hA a; intro a hA) | (refine QT ?_; clear hA a; intro a hA) | (first | (refine BT ?_; clear hA hH; rintro _ w ⟨bN, rfl, hH⟩ a hA) | (refine LT ?_; clear hA hH; rintro _ w ⟨oN, rfl, hH⟩ a hA) | (refine AT ?_; clear hA; rintro _ w ⟨oN, cN, rfl, hH2⟩ a hA; clear hH; have hH := (hH2 _ (by (repeat constructor))).tail; clear hH2) | (refine S0T ?_; clear hH; rintro _ w hH) )) | ((first | refine CT ?_ | (refine DT ?_ ?_ <;> intro hc <;> try (exfalso; omega))) <;> repeat' refine CT ?_) | (first | (refine DSK ?_; clear hA a; intro a hA) | (first | (refine DLT ?_; clear hA hH; rintro _ w ⟨oN, rfl, hH⟩; refine ⟨STT, ?_⟩; intro a hA) | (refine DAT ?_; clear hA; rintro _ w ⟨oN, cN, rfl, hH2⟩; clear hH; have hH := (hH2 _ (by (repeat constructor))).tail; clear hH2; refine ⟨STT, ?_⟩; intro a hA))) )
    (refine wp_draw_HS [(0, 1), (1, 1), (2, 1), (3, 1), (4, 1), (5, 1), (6, 1), (7, 1), (8, 0), (9, 2)] mixed (by decide +kernel) hH ?_; replace hH := hH.drew)
    repeat' (first | (first | (refine GT ?_ ?_ <;> intro hg <;> clear hA a <;> intro a hA <;> (first | exact FA | replace hg := of_decide_eq_true hg | replace hg := of_decide_eq_false hg | skip)) | ((first | apply st_ex hA hH rfl rfl (by decide) | apply dr_ex hA rfl rfl rfl (by decide) | apply dr_exp hA rfl rfl rfl (by decide) | apply dr_ex3 hA hH rfl rfl rfl (by decide)); (first | (apply ex_load; rfl; exact cl_gh MEMT) | (apply ex_load; rfl; exact cl_gl MEMT)); clear hA a; intro a hA) | (refine QT ?_; clear hA a; intro a hA) | (first | (refine BT ?_; clear hA hH; rintro _ w ⟨bN, rfl, hH⟩ a hA) | (refine LT ?_; clear hA hH; rintro _ w ⟨oN, rfl, hH⟩ a hA) | (refine AT ?_; clear hA; rintro _ w ⟨oN, cN, rfl, hH2⟩ a hA; clear hH; have hH := (hH2 _ (by (repeat constructor))).tail; clear hH2) | (refine S0T ?_; clear hH; rintro _ w hH) )) | ((first | refine CT ?_ | (refine DT ?_ ?_ <;> intro hc <;> try (exfalso; omega))) <;> repeat' refine CT ?_) | (first | (refine DSK ?_; clear hA a; intro a hA) | (first | (refine DLT ?_; clear hA hH; rintro _ w ⟨oN, rfl, hH⟩; refine ⟨STT, ?_⟩; intro a hA) | (refine DAT ?_; clear hA; rintro _ w ⟨oN, cN, rfl, hH2⟩; clear hH; have hH := (hH2 _ (by (repeat constructor))).tail; clear hH2; refine ⟨STT, ?_⟩; intro a hA))) )
    (refine dr_op hA rfl rfl rfl (by decide) (op_call rfl rfl rfl (next_f hH (by exact MEMT))) ?_; clear hA hH; rintro _ w ⟨rfl, hH⟩; refine ⟨STT, ?_⟩; intro a hA)
    rw [h1] at hA
    obtain ⟨q, hH2⟩ := gc_open hH
    clear hH
    have hH := hH2
    clear hH2
    unfold gcQ at hH
    repeat' (first | (first | (refine GT ?_ ?_ <;> intro hg <;> clear hA a <;> intro a hA <;> (first | exact FA | replace hg := of_decide_eq_true hg | replace hg := of_decide_eq_false hg | skip)) | (refine QT ?_; clear hA a; intro a hA) | (first | (refine BT ?_; clear hA hH; rintro _ w ⟨bN, rfl, hH⟩ a hA) | (refine LT ?_; clear hA hH; rintro _ w ⟨oN, rfl, hH⟩ a hA) | (refine AT ?_; clear hA; rintro _ w ⟨oN, cN, rfl, hH2⟩ a hA; clear hH; have hH := (hH2 _ (by (repeat constructor))).tail; clear hH2) | (refine S0T ?_; clear hH; rintro _ w hH) | (apply st_op0 hA rfl rfl; apply op_store_fld; rfl; rfl; rfl; exact hH; (repeat constructor); (repeat rfl); clear hH; rintro _ w hH))) | ((first | refine CT ?_ | (refine DT ?_ ?_ <;> intro hc <;> try (exfalso; omega))) <;> repeat' refine CT ?_) | (first | (refine DSK ?_; clear hA a; intro a hA) | (first | (refine DLT ?_; clear hA hH; rintro _ w ⟨oN, rfl, hH⟩; refine ⟨STT, ?_⟩; intro a hA) | (refine DAT ?_; clear hA; rintro _ w ⟨oN, cN, rfl, hH2⟩; clear hH; have hH := (hH2 _ (by (repeat constructor))).tail; clear hH2; refine ⟨STT, ?_⟩; intro a hA))) )
    exact rt1 (.inl rfl) rfl hA rfl ⟨rfl, gc_shut q hH⟩
  · -- an object
    have hlt := hok.lt ⟨o, ho, rfl⟩
    repeat' (first | (first | (refine GT ?_ ?_ <;> intro hg <;> clear hA a <;> intro a hA <;> (first | exact FA | replace hg := of_decide_eq_true hg | replace hg := of_decide_eq_false hg | skip)) | ((first | apply st_ex hA hH rfl rfl (by decide) | apply dr_ex hA rfl rfl rfl (by decide) | apply dr_exp hA rfl rfl rfl (by decide) | apply dr_ex3 hA hH rfl rfl rfl (by decide)); (first | (apply ex_load; rfl; exact cl_gp MEMT)); clear hA a; intro a hA) | (refine QT ?_; clear hA a; intro a hA) | (first | (refine BT ?_; clear hA hH; rintro _ w ⟨bN, rfl, hH⟩ a hA) | (refine LT ?_; clear hA hH; rintro _ w ⟨oN, rfl, hH⟩ a hA) | (refine AT ?_; clear hA; rintro _ w ⟨oN, cN, rfl, hH2⟩ a hA; clear hH; have hH := (hH2 _ (by (repeat constructor))).tail; clear hH2) | (refine S0T ?_; clear hH; rintro _ w hH) )) | ((first | refine CT ?_ | (refine DT ?_ ?_ <;> intro hc <;> try (exfalso; omega))) <;> repeat' refine CT ?_) | (first | (refine DSK ?_; clear hA a; intro a hA) | (first | (refine DLT ?_; clear hA hH; rintro _ w ⟨oN, rfl, hH⟩; refine ⟨STT, ?_⟩; intro a hA) | (refine DAT ?_; clear hA; rintro _ w ⟨oN, cN, rfl, hH2⟩; clear hH; have hH := (hH2 _ (by (repeat constructor))).tail; clear hH2; refine ⟨STT, ?_⟩; intro a hA))) )
    (refine wp_draw_HS [(0, 1), (1, 1), (2, 1), (3, 1), (4, 1), (5, 1), (6, 1), (7, 1), (8, 0), (9, 2)] mixed (by decide +kernel) hH ?_; replace hH := hH.drew)
    repeat' (first | (first | (refine GT ?_ ?_ <;> intro hg <;> clear hA a <;> intro a hA <;> (first | exact FA | replace hg := of_decide_eq_true hg | replace hg := of_decide_eq_false hg | skip)) | ((first | apply st_ex hA hH rfl rfl (by decide) | apply dr_ex hA rfl rfl rfl (by decide) | apply dr_exp hA rfl rfl rfl (by decide) | apply dr_ex3 hA hH rfl rfl rfl (by decide)); (first | (apply ex_load; rfl; exact cl_gh MEMT) | (apply ex_load; rfl; exact cl_gl MEMT)); clear hA a; intro a hA) | (refine QT ?_; clear hA a; intro a hA) | (first | (refine BT ?_; clear hA hH; rintro _ w ⟨bN, rfl, hH⟩ a hA) | (refine LT ?_; clear hA hH; rintro _ w ⟨oN, rfl, hH⟩ a hA) | (refine AT ?_; clear hA; rintro _ w ⟨oN, cN, rfl, hH2⟩ a hA; clear hH; have hH := (hH2 _ (by (repeat constructor))).tail; clear hH2) | (refine S0T ?_; clear hH; rintro _ w hH) )) | ((first | refine CT ?_ | (refine DT ?_ ?_ <;> intro hc <;> try (exfalso; omega))) <;> repeat' refine CT ?_) | (first | (refine DSK ?_; clear hA a; intro a hA) | (first | (refine DLT ?_; clear hA hH; rintro _ w ⟨oN, rfl, hH⟩; refine ⟨STT, ?_⟩; intro a hA) | (refine DAT ?_; clear hA; rintro _ w ⟨oN, cN, rfl, hH2⟩; clear hH; have hH := (hH2 _ (by (repeat constructor))).tail; clear hH2; refine ⟨STT, ?_⟩; intro a hA))) )
    (refine dr_op hA rfl rfl rfl (by decide) (op_call rfl rfl rfl (next_f hH (by exact MEMT))) ?_; clear hA hH; rintro _ w ⟨rfl, hH⟩; refine ⟨STT, ?_⟩; intro a hA)
    rw [h1] at hA
    obtain ⟨q, hH2⟩ := gc_open hH
    clear hH
    have hH := hH2
    clear hH2
    unfold gcQ at hH
    have hspC : Sp q.oC N := hH.own_sp (o := q.oC) (by exact MEMT)
    have hcc := encC_at (cl_at hok hlt.2)
    have hfr : freeA s.L (o.a : Int) = (0, delA s.L o.a) := by
      simp only [freeA, objA_mem hok.lay ho]
      rfl
    repeat' (first | (first | (refine GT ?_ ?_ <;> intro hg <;> clear hA a <;> intro a hA <;> (first | exact FA | replace hg := of_decide_eq_true hg | replace hg := of_decide_eq_false hg | skip)) | (refine QT ?_; clear hA a; intro a hA) | (first | (refine BT ?_; clear hA hH; rintro _ w ⟨bN, rfl, hH⟩ a hA) | (refine LT ?_; clear hA hH; rintro _ w ⟨oN, rfl, hH⟩ a hA) | (refine AT ?_; clear hA; rintro _ w ⟨oN, cN, rfl, hH2⟩ a hA; clear hH; have hH := (hH2 _ (by (repeat constructor))).tail; clear hH2) | (refine S0T ?_; clear hH; rintro _ w hH) )) | ((first | refine CT ?_ | (refine DT ?_ ?_ <;> intro hc <;> try (exfalso; omega))) <;> repeat' refine CT ?_) | (first | (refine DSK ?_; clear hA a; intro a hA) | (first | (refine DLT ?_; clear hA hH; rintro _ w ⟨oN, rfl, hH⟩; refine ⟨STT, ?_⟩; intro a hA) | (refine DAT ?_; clear hA; rintro _ w ⟨oN, cN, rfl, hH2⟩; clear hH; have hH := (hH2 _ (by (repeat constructor))).tail; clear hH2; refine ⟨STT, ?_⟩; intro a hA))) )
    · replace hH := hH.perm (perm_pick 3 rfl (.refl _))
      (refine st_op hA rfl rfl (by decide) (op_call rfl rfl rfl (free_f hH)) ?_; clear hA hH; rintro _ w ⟨rfl, hH⟩ a hA)
      rw [hfr] at hH hA
      dsimp only at hA
      replace hH := hH.perm (H' := gcQ bg b N s q ++ [hpI b N (delA s.L o.a)]) (by unfold gcQ; (repeat (first | exact List.Perm.nil | refine perm_pick 0 rfl ?_ | refine perm_pick 1 rfl ?_ | refine perm_pick 2 rfl ?_ | refine perm_pick 3 rfl ?_ | refine perm_pick 4 rfl ?_ | refine perm_pick 5 rfl ?_ | refine perm_pick 6 rfl ?_ | refine perm_pick 7 rfl ?_ | refine perm_pick 8 rfl ?_ | refine perm_pick 9 rfl ?_ | refine perm_pick 10 rfl ?_ | refine perm_pick 11 rfl ?_)))
      unfold gcQ at hH
      repeat' (first | (first | (refine GT ?_ ?_ <;> intro hg <;> clear hA a <;> intro a hA <;> (first | exact FA | replace hg := of_decide_eq_true hg | replace hg := of_decide_eq_false hg | skip)) | (refine QT ?_; clear hA a; intro a hA) | (first | (refine BT ?_; clear hA hH; rintro _ w ⟨bN, rfl, hH⟩ a hA) | (refine LT ?_; clear hA hH; rintro _ w ⟨oN, rfl, hH⟩ a hA) | (refine AT ?_; clear hA; rintro _ w ⟨oN, cN, rfl, hH2⟩ a hA; clear hH; have hH := (hH2 _ (by (repeat constructor))).tail; clear hH2) | (refine S0T ?_; clear hH; rintro _ w hH) | (apply st_op0 hA rfl rfl; apply op_set1 (enc := encC) (y0 := 0) (j := o.a * 1); rfl; rfl; rfl; rfl; exact encC_len; exact hH; (repeat constructor); (rw [hok.cll]; omega); clear hH; rintro _ w hH) | (apply st_op0 hA rfl rfl; apply op_store_fld; rfl; rfl; rfl; exact hH; (repeat constructor); (repeat rfl); clear hH; rintro _ w hH))) | ((first | refine CT ?_ | (refine DT ?_ ?_ <;> intro hc <;> try (exfalso; omega))) <;> repeat' refine CT ?_) | (first | (refine DSK ?_; clear hA a; intro a hA) | (first | (refine DLT ?_; clear hA hH; rintro _ w ⟨oN, rfl, hH⟩; refine ⟨STT, ?_⟩; intro a hA) | (refine DAT ?_; clear hA; rintro _ w ⟨oN, cN, rfl, hH2⟩; clear hH; have hH := (hH2 _ (by (repeat constructor))).tail; clear hH2; refine ⟨STT, ?_⟩; intro a hA))) )
      rename_i hcol
      have hcol' : col s o.a = 0 := by omega
      rw [Nat.mul_one] at hH
      have e2 : sweepG s o.a = { s with L := delA s.L o.a, cl := s.cl.set o.a 0, pl := o.a + 1 } := by unfold sweepG; rw [if_pos hcol']
      rw [e2]
      exact rt1 (.inl rfl) rfl hA rfl ⟨rfl, gc_shut q hH⟩
    · repeat' (first | (first | (refine GT ?_ ?_ <;> intro hg <;> clear hA a <;> intro a hA <;> (first | exact FA | replace hg := of_decide_eq_true hg | replace hg := of_decide_eq_false hg | skip)) | (refine QT ?_; clear hA a; intro a hA) | (first | (refine BT ?_; clear hA hH; rintro _ w ⟨bN, rfl, hH⟩ a hA) | (refine LT ?_; clear hA hH; rintro _ w ⟨oN, rfl, hH⟩ a hA) | (refine AT ?_; clear hA; rintro _ w ⟨oN, cN, rfl, hH2⟩ a hA; clear hH; have hH := (hH2 _ (by (repeat constructor))).tail; clear hH2) | (refine S0T ?_; clear hH; rintro _ w hH) | (apply st_op0 hA rfl rfl; apply op_set1 (enc := encC) (y0 := 0) (j := o.a * 1); rfl; rfl; rfl; rfl; exact encC_len; exact hH; (repeat constructor); (rw [hok.cll]; omega); clear hH; rintro _ w hH) | (apply st_op0 hA rfl rfl; apply op_store_fld; rfl; rfl; rfl; exact hH; (repeat constructor); (repeat rfl); clear hH; rintro _ w hH))) | ((first | refine CT ?_ | (refine DT ?_ ?_ <;> intro hc <;> try (exfalso; omega))) <;> repeat' refine CT ?_) | (first | (refine DSK ?_; clear hA a; intro a hA) | (first | (refine DLT ?_; clear hA hH; rintro _ w ⟨oN, rfl, hH⟩; refine ⟨STT, ?_⟩; intro a hA) | (refine DAT ?_; clear hA; rintro _ w ⟨oN, cN, rfl, hH2⟩; clear hH; have hH := (hH2 _ (by (repeat constructor))).tail; clear hH2; refine ⟨STT, ?_⟩; intro a hA))) )
      rename_i hcol
      have hcol' : col s o.a ≠ 0 := by omega
      rw [Nat.mul_one] at hH
      have e2 : sweepG s o.a = { s with cl := s.cl.set o.a 0, pl := o.a + 1 } := by unfold sweepG; rw [if_neg hcol']
      rw [e2]
      exact rt1 (.inl rfl) rfl hA rfl ⟨rfl, gc_shut q hH⟩
theorem gstep_f {w0 w : World} {M : Nat → Prop} {H : List It} {bg b N : Nat} {s : GS} {L : List Ob} (hH : HS w0 M (gcI bg b N s :: hpI b N L :: H) w) (hok : GOk N s) (hL : s.L = L) :
    Ret Try.prog 56 #[.pointer (some (bat bg 0))] w (fun v w' => v = .bool (stepG s).1 ∧ HS w0 M (gcI bg b N (stepG s).2 :: hpI b N (stepG s).2.L :: H) w') := by
  subst hL
  obtain ⟨Mc, h1, -, h2⟩ := HS.frame (Hc := [gcI bg b N s, hpI b N s.L]) (Hf := H) hH
  exact (gstep_spec w Mc bg b N s hok h1).mono fun v w' ⟨h3, h4⟩ => ⟨h3, h2 _ _ h4⟩

theorem gfinish_spec (w0 : World) (M : Nat → Prop) (bg b N : Nat) (s : GS) (hok : GOk N s) (hH : HS w0 M [gcI bg b N s, hpI b N s.L] w0) :
    Ret Try.prog 72 #[.pointer (some (bat bg 0))] w0 (fun v w => ∃ n s', v = .int .i64 (n : Nat) ∧ Steps s n s' ∧ GOk N s' ∧ n ≤ mu N s ∧ HS w0 M [gcI bg b N s', hpI b N s'.L] w) := by
  have hmu : mu N s ≤ 2 * N + 2 := by
    have h1 : nb N s ≤ N := by
      have := List.countP_le_length (p := fun a => !decide (col s a = 2)) (l := List.range N)
      rw [List.length_range] at this
      exact this
    unfold mu
    split
    · omega
    · split <;> omega
  have hn2 := hok.n2
  (refine enter (N := 14) Try.func72 rfl Try.ntmps72 rfl ?_; intro a hA; dsimp only [sl0, Nat.reduceAdd] at hA)
  repeat' (first | (first | (refine GT ?_ ?_ <;> intro hg <;> clear hA a <;> intro a hA <;> (first | exact FA | replace hg := of_decide_eq_true hg | replace hg := of_decide_eq_false hg | skip)) | (refine QT ?_; clear hA a; intro a hA) | (first | (refine BT ?_; clear hA hH; rintro _ w ⟨bN, rfl, hH⟩ a hA) | (refine LT ?_; clear hA hH; rintro _ w ⟨oN, rfl, hH⟩ a hA) | (refine AT ?_; clear hA; rintro _ w ⟨oN, cN, rfl, hH2⟩ a hA; clear hH; have hH := (hH2 _ (by (repeat constructor))).tail; clear hH2) | (refine S0T ?_; clear hH; rintro _ w hH) )) | ((first | refine CT ?_ | (refine DT ?_ ?_ <;> intro hc <;> try (exfalso; omega))) <;> repeat' refine CT ?_) | (first | (refine DSK ?_; clear hA a; intro a hA) | (first | (refine DLT ?_; clear hA hH; rintro _ w ⟨oN, rfl, hH⟩; refine ⟨STT, ?_⟩; intro a hA) | (refine DAT ?_; clear hA; rintro _ w ⟨oN, cN, rfl, hH2⟩; clear hH; have hH := (hH2 _ (by (repeat constructor))).tail; clear hH2; refine ⟨STT, ?_⟩; intro a hA))) )
  refine wp_lpj (S := Nat × GS) (fun p a w => (GOk N p.2 ∧ p.1 + mu N p.2 ≤ mu N s ∧ ∀ m t, Steps p.2 m t → Steps s (p.1 + m) t) ∧ HS w0 M [gcI bg b N p.2, hpI b N p.2.L] w ∧ Sl 14 [(0, .pointer (some (bat bg 0))), (3, .int .i64 p.1)] a) (fun p => mu N p.2)
    (fun a w => ∃ n s', Steps s n s' ∧ GOk N s' ∧ n ≤ mu N s ∧ HS w0 M [gcI bg b N s', hpI b N s'.L] w ∧ Sl 14 [(3, .int .i64 n)] a) (0, s) ⟨⟨hok, (by show 0 + mu N s ≤ mu N s; omega), fun m t h => by rw [Nat.zero_add]; exact h⟩, hH, (hA.sub (by (repeat (first | exact trivial | refine ⟨rfl, ?_⟩))))⟩ ?_ ?_
  rotate_left
  · clear hA hH
    rintro a w ⟨n, s', h1, h2, h3, hH, hA⟩
    repeat' (first | (first | (refine GT ?_ ?_ <;> intro hg <;> clear hA a <;> intro a hA <;> (first | exact FA | replace hg := of_decide_eq_true hg | replace hg := of_decide_eq_false hg | skip)) | (refine QT ?_; clear hA a; intro a hA) | (first | (refine BT ?_; clear hA hH; rintro _ w ⟨bN, rfl, hH⟩ a hA) | (refine LT ?_; clear hA hH; rintro _ w ⟨oN, rfl, hH⟩ a hA) | (refine AT ?_; clear hA; rintro _ w ⟨oN, cN, rfl, hH2⟩ a hA; clear hH; have hH := (hH2 _ (by (repeat constructor))).tail; clear hH2) | (refine S0T ?_; clear hH; rintro _ w hH) )) | ((first | refine CT ?_ | (refine DT ?_ ?_ <;> intro hc <;> try (exfalso; omega))) <;> repeat' refine CT ?_) | (first | (refine DSK ?_; clear hA a; intro a hA) | (first | (refine DLT ?_; clear hA hH; rintro _ w ⟨oN, rfl, hH⟩; refine ⟨STT, ?_⟩; intro a hA) | (refine DAT ?_; clear hA; rintro _ w ⟨oN, cN, rfl, hH2⟩; clear hH; have hH := (hH2 _ (by (repeat constructor))).tail; clear hH2; refine ⟨STT, ?_⟩; intro a hA))) )
    exact rt1 (.inl rfl) rfl hA rfl ⟨n, s', rfl, h1, h2, h3, hH⟩
  clear hA hH
  rintro ⟨n, s1⟩ a w ⟨⟨h1, h2, h3⟩, hH, hA⟩
  dsimp only at h1 h2 h3 hH hA
  by_cases hp : s1.ph = 0
  · repeat' (first | (first | (refine GT ?_ ?_ <;> intro hg <;> clear hA a <;> intro a hA <;> (first | exact FA | replace hg := of_decide_eq_true hg | replace hg := of_decide_eq_false hg | skip)) | ((first | apply st_ex hA hH rfl rfl (by decide) | apply dr_ex hA rfl rfl rfl (by decide) | apply dr_exp hA rfl rfl rfl (by decide) | apply dr_ex3 hA hH rfl rfl rfl (by decide)); (first | (apply ex_load; rfl; exact cl_gp MEMT)); clear hA a; intro a hA) | (refine QT ?_; clear hA a; intro a hA) | (first | (refine BT ?_; clear hA hH; rintro _ w ⟨bN, rfl, hH⟩ a hA) | (refine LT ?_; clear hA hH; rintro _ w ⟨oN, rfl, hH⟩ a hA) | (refine AT ?_; clear hA; rintro _ w ⟨oN, cN, rfl, hH2⟩ a hA; clear hH; have hH := (hH2 _ (by (repeat constructor))).tail; clear hH2) | (refine S0T ?_; clear hH; rintro _ w hH) )) | ((first | refine CT ?_ | (refine DT ?_ ?_ <;> intro hc <;> try (exfalso; omega))) <;> repeat' refine CT ?_) | (first | (refine DSK ?_; clear hA a; intro a hA) | (first | (refine DLT ?_; clear hA hH; rintro _ w ⟨oN, rfl, hH⟩; refine ⟨STT, ?_⟩; intro a hA) | (refine DAT ?_; clear hA; rintro _ w ⟨oN, cN, rfl, hH2⟩; clear hH; have hH := (hH2 _ (by (repeat constructor))).tail; clear hH2; refine ⟨STT, ?_⟩; intro a hA))) )
    exact ⟨n, s1, h3 0 s1 (.done hp), h1, by omega, hH, (hA.sub (by (repeat (first | exact trivial | refine ⟨rfl, ?_⟩))))⟩
  have hlt := step_mu h1 hp
  repeat' (first | (first | (refine GT ?_ ?_ <;> intro hg <;> clear hA a <;> intro a hA <;> (first | exact FA | replace hg := of_decide_eq_true hg | replace hg := of_decide_eq_false hg | skip)) | ((first | apply st_ex hA hH rfl rfl (by decide) | apply dr_ex hA rfl rfl rfl (by decide) | apply dr_exp hA rfl rfl rfl (by decide) | apply dr_ex3 hA hH rfl rfl rfl (by decide)); (first | (apply ex_load; rfl; exact cl_gp MEMT)); clear hA a; intro a hA) | (refine QT ?_; clear hA a; intro a hA) | (first | (refine BT ?_; clear hA hH; rintro _ w ⟨bN, rfl, hH⟩ a hA) | (refine LT ?_; clear hA hH; rintro _ w ⟨oN, rfl, hH⟩ a hA) | (refine AT ?_; clear hA; rintro _ w ⟨oN, cN, rfl, hH2⟩ a hA; clear hH; have hH := (hH2 _ (by (repeat constructor))).tail; clear hH2) | (refine S0T ?_; clear hH; rintro _ w hH) )) | ((first | refine CT ?_ | (refine DT ?_ ?_ <;> intro hc <;> try (exfalso; omega))) <;> repeat' refine CT ?_) | (first | (refine DSK ?_; clear hA a; intro a hA) | (first | (refine DLT ?_; clear hA hH; rintro _ w ⟨oN, rfl, hH⟩; refine ⟨STT, ?_⟩; intro a hA) | (refine DAT ?_; clear hA; rintro _ w ⟨oN, cN, rfl, hH2⟩; clear hH; have hH := (hH2 _ (by (repeat constructor))).tail; clear hH2; refine ⟨STT, ?_⟩; intro a hA))) )
  (refine st_op hA rfl rfl (by decide) (op_call rfl rfl rfl (gstep_f hH h1 rfl)) ?_; clear hA hH; rintro _ w ⟨rfl, hH⟩ a hA)
  repeat' (first | (first | (refine GT ?_ ?_ <;> intro hg <;> clear hA a <;> intro a hA <;> (first | exact FA | replace hg := of_decide_eq_true hg | replace hg := of_decide_eq_false hg | skip)) | (refine QT ?_; clear hA a; intro a hA) | (first | (refine BT ?_; clear hA hH; rintro _ w ⟨bN, rfl, hH⟩ a hA) | (refine LT ?_; clear hA hH; rintro _ w ⟨oN, rfl, hH⟩ a hA) | (refine AT ?_; clear hA; rintro _ w ⟨oN, cN, rfl, hH2⟩ a hA; clear hH; have hH := (hH2 _ (by (repeat constructor))).tail; clear hH2) | (refine S0T ?_; clear hH; rintro _ w hH) )) | ((first | refine CT ?_ | (refine DT ?_ ?_ <;> intro hc <;> try (exfalso; omega))) <;> repeat' refine CT ?_) | (first | (refine DSK ?_; clear hA a; intro a hA) | (first | (refine DLT ?_; clear hA hH; rintro _ w ⟨oN, rfl, hH⟩; refine ⟨STT, ?_⟩; intro a hA) | (refine DAT ?_; clear hA; rintro _ w ⟨oN, cN, rfl, hH2⟩; clear hH; have hH := (hH2 _ (by (repeat constructor))).tail; clear hH2; refine ⟨STT, ?_⟩; intro a hA))) )
  exact ⟨(n + 1, (stepG s1).2), ⟨⟨step_ok h1, by dsimp only; omega, fun m t h => by have := h3 (m + 1) t (.more hp h); rwa [show n + (m + 1) = n + 1 + m by omega] at this⟩, hH, (hA.sub (by (repeat (first | exact trivial | refine ⟨rfl, ?_⟩))))⟩, hlt⟩
theorem gfinish_f {w0 w : World} {M : Nat → Prop} {H : List It} {bg b N : Nat} {s : GS} {L : List Ob} (hH : HS w0 M (gcI bg b N s :: hpI b N L :: H) w) (hok : GOk N s) (hL : s.L = L) :
    Ret Try.prog 72 #[.pointer (some (bat bg 0))] w (fun v w' => ∃ n s', v = .int .i64 (n : Nat) ∧ Steps s n s' ∧ GOk N s' ∧ n ≤ mu N s ∧ HS w0 M (gcI bg b N s' :: hpI b N s'.L :: H) w') := by
  subst hL
  obtain ⟨Mc, h1, -, h2⟩ := HS.frame (Hc := [gcI bg b N s, hpI b N s.L]) (Hf := H) hH
  exact (gfinish_spec w Mc bg b N s hok h1).mono fun v w' ⟨n, s', h3, h4, h5, h6, h7⟩ => ⟨n, s', h3, h4, h5, h6, h2 _ _ h7⟩

theorem galloc_spec (w0 : World) (M : Nat → Prop) (bg b N : Nat) (s : GS) (k z : Int) (hok : GOk N s) (hH : HS w0 M [gcI bg b N s, hpI b N s.L] w0) :
    Ret Try.prog 43 #[.pointer (some (bat bg 0)), .int .i64 k, .int .i64 z] w0 (fun v w => v = .tuple #[.int .i64 (allocG N s k z).1, .int .i64 (allocG N s k z).2.1] ∧ HS w0 M [gcI bg b N (allocG N s k z).2.2, hpI b N (allocG N s k z).2.2.L] w) := by
  (refine enter (N := 50) Try.func43 rfl Try.ntmps43 rfl ?_; intro a hA; dsimp only [sl0, Nat.reduceAdd] at hA)
  repeat' (first | (first | (refine GT ?_ ?_ <;> intro hg <;> clear hA a <;> intro a hA <;> (first | exact FA | replace hg := of_decide_eq_true hg | replace hg := of_decide_eq_false hg | skip)) | ((first | apply st_ex hA hH rfl rfl (by decide) | apply dr_ex hA rfl rfl rfl (by decide) | apply dr_exp hA rfl rfl rfl (by decide) | apply dr_ex3 hA hH rfl rfl rfl (by decide)); (first | (apply ex_load; rfl; exact cl_gh MEMT)); clear hA a; intro a hA) | (refine QT ?_; clear hA a; intro a hA) | (first | (refine BT ?_; clear hA hH; rintro _ w ⟨bN, rfl, hH⟩ a hA) | (refine LT ?_; clear hA hH; rintro _ w ⟨oN, rfl, hH⟩ a hA) | (refine AT ?_; clear hA; rintro _ w ⟨oN, cN, rfl, hH2⟩ a hA; clear hH; have hH := (hH2 _ (by (repeat constructor))).tail; clear hH2) | (refine S0T ?_; clear hH; rintro _ w hH) )) | ((first | refine CT ?_ | (refine DT ?_ ?_ <;> intro hc <;> try (exfalso; omega))) <;> repeat' refine CT ?_) | (first | (refine DSK ?_; clear hA a; intro a hA) | (first | (refine DLT ?_; clear hA hH; rintro _ w ⟨oN, rfl, hH⟩; refine ⟨STT, ?_⟩; intro a hA) | (refine DAT ?_; clear hA; rintro _ w ⟨oN, cN, rfl, hH2⟩; clear hH; have hH := (hH2 _ (by (repeat constructor))).tail; clear hH2; refine ⟨STT, ?_⟩; intro a hA))) )
  replace hH := hH.perm (.swap _ _ _)
  (refine st_op hA rfl rfl (by decide) (op_call rfl rfl rfl (alloc_f hH)) ?_; clear hA hH; rintro _ w ⟨rfl, hH⟩ a hA)
  replace hH := hH.perm (.swap _ _ _)
  have hag : allocG N s k z = (if (allocA N s.L k z).2.1 = 0 then ((allocA N s.L k z).1, 0, { s with L := (allocA N s.L k z).2.2, cl := if s.ph = 1 ∨ s.ph = 2 ∧ (s.pl : Int) ≤ (allocA N s.L k z).1 then s.cl.set (allocA N s.L k z).1.toNat 2 else s.cl }) else (0, (allocA N s.L k z).2.1, s)) := rfl
  rw [hag]
  have hn2 := hok.n2
  rcases alloc_two hok.lay k z with ⟨e, he, h1⟩ | ⟨A, B, kd, sz, rfl, rfl, hk1, hk2, hsz, hL, h1, h2⟩
  · rw [h1] at hA hH ⊢
    dsimp only at hA hH ⊢
    rw [if_neg he]
    repeat' (first | (first | (refine GT ?_ ?_ <;> intro hg <;> clear hA a <;> intro a hA <;> (first | exact FA | replace hg := of_decide_eq_true hg | replace hg := of_decide_eq_false hg | skip)) | (refine QT ?_; clear hA a; intro a hA) | (first | (refine BT ?_; clear hA hH; rintro _ w ⟨bN, rfl, hH⟩ a hA) | (refine LT ?_; clear hA hH; rintro _ w ⟨oN, rfl, hH⟩ a hA) | (refine AT ?_; clear hA; rintro _ w ⟨oN, cN, rfl, hH2⟩ a hA; clear hH; have hH := (hH2 _ (by (repeat constructor))).tail; clear hH2) | (refine S0T ?_; clear hH; rintro _ w hH) )) | ((first | refine CT ?_ | (refine DT ?_ ?_ <;> intro hc <;> try (exfalso; omega))) <;> repeat' refine CT ?_) | (first | (refine DSK ?_; clear hA a; intro a hA) | (first | (refine DLT ?_; clear hA hH; rintro _ w ⟨oN, rfl, hH⟩; refine ⟨STT, ?_⟩; intro a hA) | (refine DAT ?_; clear hA; rintro _ w ⟨oN, cN, rfl, hH2⟩; clear hH; have hH := (hH2 _ (by (repeat constructor))).tail; clear hH2; refine ⟨STT, ?_⟩; intro a hA))) )
    exact rt2 (.inl rfl) rfl hA rfl rfl ⟨rfl, hH⟩
  rw [h1] at hA hH ⊢
  dsimp only at hA hH ⊢
  rw [if_pos rfl]
  have hm := h2.mem (newO kd sz (endA 1 A)) (List.mem_append_right _ (List.mem_cons_self ..))
  unfold Ob.fin at hm
  rw [show (newO kd sz (endA 1 A)).a = endA 1 A from rfl] at hm
  generalize newO kd sz (endA 1 A) = o at *
  generalize endA 1 A = at_ at *
  dsimp only
  rw [Int.toNat_natCast]
  by_cases hc : s.ph = 1 ∨ s.ph = 2 ∧ (s.pl : Int) ≤ (at_ : Int)
  · rw [if_pos hc]
    obtain ⟨q, hH2⟩ := gc_open hH
    clear hH
    have hH := hH2
    clear hH2
    unfold gcQ at hH
    have hspC : Sp q.oC N := hH.own_sp (o := q.oC) (by exact MEMT)
    repeat' (first | (first | (refine GT ?_ ?_ <;> intro hg <;> clear hA a <;> intro a hA <;> (first | exact FA | replace hg := of_decide_eq_true hg | replace hg := of_decide_eq_false hg | skip)) | (refine QT ?_; clear hA a; intro a hA) | (first | (refine BT ?_; clear hA hH; rintro _ w ⟨bN, rfl, hH⟩ a hA) | (refine LT ?_; clear hA hH; rintro _ w ⟨oN, rfl, hH⟩ a hA) | (refine AT ?_; clear hA; rintro _ w ⟨oN, cN, rfl, hH2⟩ a hA; clear hH; have hH := (hH2 _ (by (repeat constructor))).tail; clear hH2) | (refine S0T ?_; clear hH; rintro _ w hH) | (apply st_op0 hA rfl rfl; apply op_set1 (enc := encC) (y0 := 2) (j := at_ * 1); rfl; rfl; rfl; rfl; exact encC_len; exact hH; (repeat constructor); (rw [hok.cll]; omega); clear hH; rintro _ w hH))) | ((first | refine CT ?_ | (refine DT ?_ ?_ <;> intro hc <;> try (exfalso; omega))) <;> repeat' refine CT ?_) | (first | (refine DSK ?_; clear hA a; intro a hA) | (first | (refine DLT ?_; clear hA hH; rintro _ w ⟨oN, rfl, hH⟩; refine ⟨STT, ?_⟩; intro a hA) | (refine DAT ?_; clear hA; rintro _ w ⟨oN, cN, rfl, hH2⟩; clear hH; have hH := (hH2 _ (by (repeat constructor))).tail; clear hH2; refine ⟨STT, ?_⟩; intro a hA))) )
    all_goals
      rw [Nat.mul_one] at hH
      exact rt2 (.inl rfl) rfl hA rfl rfl ⟨rfl, gc_shut q hH⟩
  · rw [if_neg hc]
    repeat' (first | (first | (refine GT ?_ ?_ <;> intro hg <;> clear hA a <;> intro a hA <;> (first | exact FA | replace hg := of_decide_eq_true hg | replace hg := of_decide_eq_false hg | skip)) | ((first | apply st_ex hA hH rfl rfl (by decide) | apply dr_ex hA rfl rfl rfl (by decide) | apply dr_exp hA rfl rfl rfl (by decide) | apply dr_ex3 hA hH rfl rfl rfl (by decide)); (first | (apply ex_load; rfl; exact cl_gp MEMT) | (apply ex_load; rfl; exact cl_gl MEMT)); clear hA a; intro a hA) | (refine QT ?_; clear hA a; intro a hA) | (first | (refine BT ?_; clear hA hH; rintro _ w ⟨bN, rfl, hH⟩ a hA) | (refine LT ?_; clear hA hH; rintro _ w ⟨oN, rfl, hH⟩ a hA) | (refine AT ?_; clear hA; rintro _ w ⟨oN, cN, rfl, hH2⟩ a hA; clear hH; have hH := (hH2 _ (by (repeat constructor))).tail; clear hH2) | (refine S0T ?_; clear hH; rintro _ w hH) )) | ((first | refine CT ?_ | (refine DT ?_ ?_ <;> intro hc <;> try (exfalso; omega))) <;> repeat' refine CT ?_) | (first | (refine DSK ?_; clear hA a; intro a hA) | (first | (refine DLT ?_; clear hA hH; rintro _ w ⟨oN, rfl, hH⟩; refine ⟨STT, ?_⟩; intro a hA) | (refine DAT ?_; clear hA; rintro _ w ⟨oN, cN, rfl, hH2⟩; clear hH; have hH := (hH2 _ (by (repeat constructor))).tail; clear hH2; refine ⟨STT, ?_⟩; intro a hA))) )
    all_goals exact rt2 (.inl rfl) rfl hA rfl rfl ⟨rfl, gc_eq hH⟩
theorem galloc_f {w0 w : World} {M : Nat → Prop} {H : List It} {bg b N : Nat} {s : GS} {L : List Ob} {k z : Int} (hH : HS w0 M (gcI bg b N s :: hpI b N L :: H) w) (hok : GOk N s) (hL : s.L = L) :
    Ret Try.prog 43 #[.pointer (some (bat bg 0)), .int .i64 k, .int .i64 z] w (fun v w' => v = .tuple #[.int .i64 (allocG N s k z).1, .int .i64 (allocG N s k z).2.1] ∧ HS w0 M (gcI bg b N (allocG N s k z).2.2 :: hpI b N (allocG N s k z).2.2.L :: H) w') := by
  subst hL
  obtain ⟨Mc, h1, -, h2⟩ := HS.frame (Hc := [gcI bg b N s, hpI b N s.L]) (Hf := H) hH
  exact (galloc_spec w Mc bg b N s k z hok h1).mono fun v w' ⟨h3, h4⟩ => ⟨h3, h2 _ _ h4⟩

theorem gwrite_spec (w0 : World) (M : Nat → Prop) (bg b N : Nat) (s : GS) (z i x : Int) (hok : GOk N s) (hH : HS w0 M [gcI bg b N s, hpI b N s.L] w0) :
    Ret Try.prog 50 #[.pointer (some (bat bg 0)), .int .i64 z, .int .i64 i, .int .u64 x] w0 (fun v w => v = .int .i64 (writeG s z i x).1 ∧ HS w0 M [gcI bg b N (writeG s z i x).2, hpI b N (writeG s z i x).2.L] w) := by
  (refine enter (N := 55) Try.func50 rfl Try.ntmps50 rfl ?_; intro a hA; dsimp only [sl0, Nat.reduceAdd] at hA)
  repeat' (first | (first | (refine GT ?_ ?_ <;> intro hg <;> clear hA a <;> intro a hA <;> (first | exact FA | replace hg := of_decide_eq_true hg | replace hg := of_decide_eq_false hg | skip)) | ((first | apply st_ex hA hH rfl rfl (by decide) | apply dr_ex hA rfl rfl rfl (by decide) | apply dr_exp hA rfl rfl rfl (by decide) | apply dr_ex3 hA hH rfl rfl rfl (by decide)); (first | (apply ex_load; rfl; exact cl_gh MEMT)); clear hA a; intro a hA) | (refine QT ?_; clear hA a; intro a hA) | (first | (refine BT ?_; clear hA hH; rintro _ w ⟨bN, rfl, hH⟩ a hA) | (refine LT ?_; clear hA hH; rintro _ w ⟨oN, rfl, hH⟩ a hA) | (refine AT ?_; clear hA; rintro _ w ⟨oN, cN, rfl, hH2⟩ a hA; clear hH; have hH := (hH2 _ (by (repeat constructor))).tail; clear hH2) | (refine S0T ?_; clear hH; rintro _ w hH) )) | ((first | refine CT ?_ | (refine DT ?_ ?_ <;> intro hc <;> try (exfalso; omega))) <;> repeat' refine CT ?_) | (first | (refine DSK ?_; clear hA a; intro a hA) | (first | (refine DLT ?_; clear hA hH; rintro _ w ⟨oN, rfl, hH⟩; refine ⟨STT, ?_⟩; intro a hA) | (refine DAT ?_; clear hA; rintro _ w ⟨oN, cN, rfl, hH2⟩; clear hH; have hH := (hH2 _ (by (repeat constructor))).tail; clear hH2; refine ⟨STT, ?_⟩; intro a hA))) )
  (refine st_op hA rfl rfl (by decide) (op_call rfl rfl rfl (get_f hH (by exact MEMT))) ?_; clear hA hH; rintro _ w ⟨rfl, hH⟩ a hA)
  have hw : writeG s z i x = (if (getA s.L z i).2 = 0 then (0, { (if s.ph = 1 ∧ kdA s.L z.toNat ≠ 1 then shadeG s (getA s.L z i).1 else s) with L := (setA s.L z i x).2 }) else ((getA s.L z i).2, s)) := rfl
  rw [hw]
  rcases get_cases hok.lay z i x with ⟨e, he, h1, h2⟩ | ⟨o, j, y, ho, rfl, rfl, hy, h1, h2⟩
  · rw [h1] at hA ⊢
    dsimp only at hA ⊢
    rw [if_neg he]
    repeat' (first | (first | (refine GT ?_ ?_ <;> intro hg <;> clear hA a <;> intro a hA <;> (first | exact FA | replace hg := of_decide_eq_true hg | replace hg := of_decide_eq_false hg | skip)) | (refine QT ?_; clear hA a; intro a hA) | (first | (refine BT ?_; clear hA hH; rintro _ w ⟨bN, rfl, hH⟩ a hA) | (refine LT ?_; clear hA hH; rintro _ w ⟨oN, rfl, hH⟩ a hA) | (refine AT ?_; clear hA; rintro _ w ⟨oN, cN, rfl, hH2⟩ a hA; clear hH; have hH := (hH2 _ (by (repeat constructor))).tail; clear hH2) | (refine S0T ?_; clear hH; rintro _ w hH) )) | ((first | refine CT ?_ | (refine DT ?_ ?_ <;> intro hc <;> try (exfalso; omega))) <;> repeat' refine CT ?_) | (first | (refine DSK ?_; clear hA a; intro a hA) | (first | (refine DLT ?_; clear hA hH; rintro _ w ⟨oN, rfl, hH⟩; refine ⟨STT, ?_⟩; intro a hA) | (refine DAT ?_; clear hA; rintro _ w ⟨oN, cN, rfl, hH2⟩; clear hH; have hH := (hH2 _ (by (repeat constructor))).tail; clear hH2; refine ⟨STT, ?_⟩; intro a hA))) )
    exact rt1 (.inl rfl) rfl hA rfl ⟨rfl, hH⟩
  rw [h1] at hA ⊢
  rw [h2]
  dsimp only at hA ⊢
  rw [if_pos rfl, Int.toNat_natCast, (fsA_at hok.lay ho).2]
  dsimp only
  obtain ⟨hk1, hk2⟩ := kind_obj hok.lay (objA_mem hok.lay ho)
  repeat' (first | (first | (refine GT ?_ ?_ <;> intro hg <;> clear hA a <;> intro a hA <;> (first | exact FA | replace hg := of_decide_eq_true hg | replace hg := of_decide_eq_false hg | skip)) | ((first | apply st_ex hA hH rfl rfl (by decide) | apply dr_ex hA rfl rfl rfl (by decide) | apply dr_exp hA rfl rfl rfl (by decide) | apply dr_ex3 hA hH rfl rfl rfl (by decide)); (first | (apply ex_load; rfl; exact cl_gh MEMT)); clear hA a; intro a hA) | (refine QT ?_; clear hA a; intro a hA) | (first | (refine BT ?_; clear hA hH; rintro _ w ⟨bN, rfl, hH⟩ a hA) | (refine LT ?_; clear hA hH; rintro _ w ⟨oN, rfl, hH⟩ a hA) | (refine AT ?_; clear hA; rintro _ w ⟨oN, cN, rfl, hH2⟩ a hA; clear hH; have hH := (hH2 _ (by (repeat constructor))).tail; clear hH2) | (refine S0T ?_; clear hH; rintro _ w hH) )) | ((first | refine CT ?_ | (refine DT ?_ ?_ <;> intro hc <;> try (exfalso; omega))) <;> repeat' refine CT ?_) | (first | (refine DSK ?_; clear hA a; intro a hA) | (first | (refine DLT ?_; clear hA hH; rintro _ w ⟨oN, rfl, hH⟩; refine ⟨STT, ?_⟩; intro a hA) | (refine DAT ?_; clear hA; rintro _ w ⟨oN, cN, rfl, hH2⟩; clear hH; have hH := (hH2 _ (by (repeat constructor))).tail; clear hH2; refine ⟨STT, ?_⟩; intro a hA))) )
  (refine st_op hA rfl rfl (by decide) (op_call rfl rfl rfl (kind_f hH (by exact MEMT))) ?_; clear hA hH; rintro _ w ⟨rfl, hH⟩ a hA)
  rw [hk1] at hA
  dsimp only at hA
  by_cases hcw : s.ph = 1 ∧ o.kind ≠ 1
  · rw [if_pos hcw]
    repeat' (first | (first | (refine GT ?_ ?_ <;> intro hg <;> clear hA a <;> intro a hA <;> (first | exact FA | replace hg := of_decide_eq_true hg | replace hg := of_decide_eq_false hg | skip)) | ((first | apply st_ex hA hH rfl rfl (by decide) | apply dr_ex hA rfl rfl rfl (by decide) | apply dr_exp hA rfl rfl rfl (by decide) | apply dr_ex3 hA hH rfl rfl rfl (by decide)); (first | (apply ex_load; rfl; exact cl_gp MEMT)); clear hA a; intro a hA) | (refine QT ?_; clear hA a; intro a hA) | (first | (refine BT ?_; clear hA hH; rintro _ w ⟨bN, rfl, hH⟩ a hA) | (refine LT ?_; clear hA hH; rintro _ w ⟨oN, rfl, hH⟩ a hA) | (refine AT ?_; clear hA; rintro _ w ⟨oN, cN, rfl, hH2⟩ a hA; clear hH; have hH := (hH2 _ (by (repeat constructor))).tail; clear hH2) | (refine S0T ?_; clear hH; rintro _ w hH) )) | ((first | refine CT ?_ | (refine DT ?_ ?_ <;> intro hc <;> try (exfalso; omega))) <;> repeat' refine CT ?_) | (first | (refine DSK ?_; clear hA a; intro a hA) | (first | (refine DLT ?_; clear hA hH; rintro _ w ⟨oN, rfl, hH⟩; refine ⟨STT, ?_⟩; intro a hA) | (refine DAT ?_; clear hA; rintro _ w ⟨oN, cN, rfl, hH2⟩; clear hH; have hH := (hH2 _ (by (repeat constructor))).tail; clear hH2; refine ⟨STT, ?_⟩; intro a hA))) )
    (refine st_op hA rfl rfl (by decide) (op_call rfl rfl rfl (gshade_f hH hok hcw.1 (hok.us o ho y (List.mem_of_getElem? hy)) rfl)) ?_; clear hA hH; rintro _ w hH a hA)
    repeat' (first | (first | (refine GT ?_ ?_ <;> intro hg <;> clear hA a <;> intro a hA <;> (first | exact FA | replace hg := of_decide_eq_true hg | replace hg := of_decide_eq_false hg | skip)) | ((first | apply st_ex hA hH rfl rfl (by decide) | apply dr_ex hA rfl rfl rfl (by decide) | apply dr_exp hA rfl rfl rfl (by decide) | apply dr_ex3 hA hH rfl rfl rfl (by decide)); (first | (apply ex_load; rfl; exact cl_gh MEMT)); clear hA a; intro a hA) | (refine QT ?_; clear hA a; intro a hA) | (first | (refine BT ?_; clear hA hH; rintro _ w ⟨bN, rfl, hH⟩ a hA) | (refine LT ?_; clear hA hH; rintro _ w ⟨oN, rfl, hH⟩ a hA) | (refine AT ?_; clear hA; rintro _ w ⟨oN, cN, rfl, hH2⟩ a hA; clear hH; have hH := (hH2 _ (by (repeat constructor))).tail; clear hH2) | (refine S0T ?_; clear hH; rintro _ w hH) )) | ((first | refine CT ?_ | (refine DT ?_ ?_ <;> intro hc <;> try (exfalso; omega))) <;> repeat' refine CT ?_) | (first | (refine DSK ?_; clear hA a; intro a hA) | (first | (refine DLT ?_; clear hA hH; rintro _ w ⟨oN, rfl, hH⟩; refine ⟨STT, ?_⟩; intro a hA) | (refine DAT ?_; clear hA; rintro _ w ⟨oN, cN, rfl, hH2⟩; clear hH; have hH := (hH2 _ (by (repeat constructor))).tail; clear hH2; refine ⟨STT, ?_⟩; intro a hA))) )
    replace hH := hH.perm (.swap _ _ _)
    (refine st_op hA rfl rfl (by decide) (op_call rfl rfl rfl (set_f hH)) ?_; clear hA hH; rintro _ w ⟨rfl, hH⟩ a hA)
    rw [h2] at hA hH
    replace hH := hH.perm (.swap _ _ _)
    repeat' (first | (first | (refine GT ?_ ?_ <;> intro hg <;> clear hA a <;> intro a hA <;> (first | exact FA | replace hg := of_decide_eq_true hg | replace hg := of_decide_eq_false hg | skip)) | (refine QT ?_; clear hA a; intro a hA) | (first | (refine BT ?_; clear hA hH; rintro _ w ⟨bN, rfl, hH⟩ a hA) | (refine LT ?_; clear hA hH; rintro _ w ⟨oN, rfl, hH⟩ a hA) | (refine AT ?_; clear hA; rintro _ w ⟨oN, cN, rfl, hH2⟩ a hA; clear hH; have hH := (hH2 _ (by (repeat constructor))).tail; clear hH2) | (refine S0T ?_; clear hH; rintro _ w hH) )) | ((first | refine CT ?_ | (refine DT ?_ ?_ <;> intro hc <;> try (exfalso; omega))) <;> repeat' refine CT ?_) | (first | (refine DSK ?_; clear hA a; intro a hA) | (first | (refine DLT ?_; clear hA hH; rintro _ w ⟨oN, rfl, hH⟩; refine ⟨STT, ?_⟩; intro a hA) | (refine DAT ?_; clear hA; rintro _ w ⟨oN, cN, rfl, hH2⟩; clear hH; have hH := (hH2 _ (by (repeat constructor))).tail; clear hH2; refine ⟨STT, ?_⟩; intro a hA))) )
    exact rt1 (.inl rfl) rfl hA rfl ⟨rfl, gc_eq hH⟩
  · rw [if_neg hcw]
    repeat' (first | (first | (refine GT ?_ ?_ <;> intro hg <;> clear hA a <;> intro a hA <;> (first | exact FA | replace hg := of_decide_eq_true hg | replace hg := of_decide_eq_false hg | skip)) | ((first | apply st_ex hA hH rfl rfl (by decide) | apply dr_ex hA rfl rfl rfl (by decide) | apply dr_exp hA rfl rfl rfl (by decide) | apply dr_ex3 hA hH rfl rfl rfl (by decide)); (first | (apply ex_load; rfl; exact cl_gp MEMT) | (apply ex_load; rfl; exact cl_gh MEMT)); clear hA a; intro a hA) | (refine QT ?_; clear hA a; intro a hA) | (first | (refine BT ?_; clear hA hH; rintro _ w ⟨bN, rfl, hH⟩ a hA) | (refine LT ?_; clear hA hH; rintro _ w ⟨oN, rfl, hH⟩ a hA) | (refine AT ?_; clear hA; rintro _ w ⟨oN, cN, rfl, hH2⟩ a hA; clear hH; have hH := (hH2 _ (by (repeat constructor))).tail; clear hH2) | (refine S0T ?_; clear hH; rintro _ w hH) )) | ((first | refine CT ?_ | (refine DT ?_ ?_ <;> intro hc <;> try (exfalso; omega))) <;> repeat' refine CT ?_) | (first | (refine DSK ?_; clear hA a; intro a hA) | (first | (refine DLT ?_; clear hA hH; rintro _ w ⟨oN, rfl, hH⟩; refine ⟨STT, ?_⟩; intro a hA) | (refine DAT ?_; clear hA; rintro _ w ⟨oN, cN, rfl, hH2⟩; clear hH; have hH := (hH2 _ (by (repeat constructor))).tail; clear hH2; refine ⟨STT, ?_⟩; intro a hA))) )
    all_goals
      replace hH := hH.perm (.swap _ _ _)
      (refine st_op hA rfl rfl (by decide) (op_call rfl rfl rfl (set_f hH)) ?_; clear hA hH; rintro _ w ⟨rfl, hH⟩ a hA)
      rw [h2] at hA hH
      replace hH := hH.perm (.swap _ _ _)
      repeat' (first | (first | (refine GT ?_ ?_ <;> intro hg <;> clear hA a <;> intro a hA <;> (first | exact FA | replace hg := of_decide_eq_true hg | replace hg := of_decide_eq_false hg | skip)) | (refine QT ?_; clear hA a; intro a hA) | (first | (refine BT ?_; clear hA hH; rintro _ w ⟨bN, rfl, hH⟩ a hA) | (refine LT ?_; clear hA hH; rintro _ w ⟨oN, rfl, hH⟩ a hA) | (refine AT ?_; clear hA; rintro _ w ⟨oN, cN, rfl, hH2⟩ a hA; clear hH; have hH := (hH2 _ (by (repeat constructor))).tail; clear hH2) | (refine S0T ?_; clear hH; rintro _ w hH) )) | ((first | refine CT ?_ | (refine DT ?_ ?_ <;> intro hc <;> try (exfalso; omega))) <;> repeat' refine CT ?_) | (first | (refine DSK ?_; clear hA a; intro a hA) | (first | (refine DLT ?_; clear hA hH; rintro _ w ⟨oN, rfl, hH⟩; refine ⟨STT, ?_⟩; intro a hA) | (refine DAT ?_; clear hA; rintro _ w ⟨oN, cN, rfl, hH2⟩; clear hH; have hH := (hH2 _ (by (repeat constructor))).tail; clear hH2; refine ⟨STT, ?_⟩; intro a hA))) )
      exact rt1 (.inl rfl) rfl hA rfl ⟨rfl, gc_eq hH⟩
theorem gwrite_f {w0 w : World} {M : Nat → Prop} {H : List It} {bg b N : Nat} {s : GS} {L : List Ob} {z i x : Int} (hH : HS w0 M (gcI bg b N s :: hpI b N L :: H) w) (hok : GOk N s) (hL : s.L = L) :
    Ret Try.prog 50 #[.pointer (some (bat bg 0)), .int .i64 z, .int .i64 i, .int .u64 x] w (fun v w' => v = .int .i64 (writeG s z i x).1 ∧ HS w0 M (gcI bg b N (writeG s z i x).2 :: hpI b N (writeG s z i x).2.L :: H) w') := by
  subst hL
  obtain ⟨Mc, h1, -, h2⟩ := HS.frame (Hc := [gcI bg b N s, hpI b N s.L]) (Hf := H) hH
  exact (gwrite_spec w Mc bg b N s z i x hok h1).mono fun v w' ⟨h3, h4⟩ => ⟨h3, h2 _ _ h4⟩

theorem gnew_f {w0 w : World} {M : Nat → Prop} {H : List It} {b N : Nat} {L : List Ob} (hH : HS w0 M (hpI b N L :: H) w) (hn2 : 2 ≤ N ∧ N ≤ 65536) :
    Ret Try.prog 41 #[.pointer (some (bat b 0))] w (fun v w' => ∃ bg, v = .pointer (some (bat bg 0)) ∧ HS w0 M (gcI bg b N ⟨0, L, List.replicate N 0, [], 0⟩ :: hpI b N L :: H) w') := by
  (refine enter (N := 9) Try.func41 rfl Try.ntmps41 rfl ?_; intro a hA; dsimp only [sl0, Nat.reduceAdd] at hA)
  repeat' (first | (first | (refine GT ?_ ?_ <;> intro hg <;> clear hA a <;> intro a hA <;> (first | exact FA | replace hg := of_decide_eq_true hg | replace hg := of_decide_eq_false hg | skip)) | (refine QT ?_; clear hA a; intro a hA) | (first | (refine BT ?_; clear hA hH; rintro _ w ⟨bN, rfl, hH⟩ a hA) | (refine LT ?_; clear hA hH; rintro _ w ⟨oN, rfl, hH⟩ a hA) | (refine AT ?_; clear hA; rintro _ w ⟨oN, cN, rfl, hH2⟩ a hA; clear hH; have hH := (hH2 _ (by (repeat constructor))).tail; clear hH2) | (refine S0T ?_; clear hH; rintro _ w hH) )) | ((first | refine CT ?_ | (refine DT ?_ ?_ <;> intro hc <;> try (exfalso; omega))) <;> repeat' refine CT ?_) | (first | (refine DSK ?_; clear hA a; intro a hA) | (first | (refine DLT ?_; clear hA hH; rintro _ w ⟨oN, rfl, hH⟩; refine ⟨STT, ?_⟩; intro a hA) | (refine DAT ?_; clear hA; rintro _ w ⟨oN, cN, rfl, hH2⟩; clear hH; have hH := (hH2 _ (by (repeat constructor))).tail; clear hH2; refine ⟨STT, ?_⟩; intro a hA))) )
  (refine st_op hA rfl rfl (by decide) (op_call rfl rfl rfl (words_f hH (by exact MEMT))) ?_; clear hA hH; rintro _ w ⟨rfl, hH⟩ a hA)
  repeat' (first | (first | (refine GT ?_ ?_ <;> intro hg <;> clear hA a <;> intro a hA <;> (first | exact FA | replace hg := of_decide_eq_true hg | replace hg := of_decide_eq_false hg | skip)) | ((first | apply st_ex hA hH rfl rfl (by decide) | apply dr_ex hA rfl rfl rfl (by decide) | apply dr_exp hA rfl rfl rfl (by decide) | apply dr_ex3 hA hH rfl rfl rfl (by decide)); (first | (apply ex_build_p #[.pointer (some (bat b 0)), .int .i64 0, .slice oN N N, .slice none 0 0, .int .i64 0]; rfl; (repeat (first | (intro _ h; exact absurd h (List.not_mem_nil)) | (refine List.forall_mem_cons.2 ⟨one_cell_of _ _, ?_⟩))); rfl)); clear hA a; intro a hA) | (refine QT ?_; clear hA a; intro a hA) | (first | (refine BT ?_; clear hA hH; rintro _ w ⟨bN, rfl, hH⟩ a hA) | (refine LT ?_; clear hA hH; rintro _ w ⟨oN, rfl, hH⟩ a hA) | (refine AT ?_; clear hA; rintro _ w ⟨oN, cN, rfl, hH2⟩ a hA; clear hH; have hH := (hH2 _ (by (repeat constructor))).tail; clear hH2) | (refine S0T ?_; clear hH; rintro _ w hH) | (apply st_op hA rfl rfl (by decide); apply op_make1 encC 0 (n := N); rfl; rfl; rfl; rfl; (unfold maxLen; omega); omega; rfl; rfl; exact hH; clear hA hH; rintro _ w ⟨oN, rfl, hH⟩ a hA))) | ((first | refine CT ?_ | (refine DT ?_ ?_ <;> intro hc <;> try (exfalso; omega))) <;> repeat' refine CT ?_) | (first | (refine DSK ?_; clear hA a; intro a hA) | (first | (refine DLT ?_; clear hA hH; rintro _ w ⟨oN, rfl, hH⟩; refine ⟨STT, ?_⟩; intro a hA) | (refine DAT ?_; clear hA; rintro _ w ⟨oN, cN, rfl, hH2⟩; clear hH; have hH := (hH2 _ (by (repeat constructor))).tail; clear hH2; refine ⟨STT, ?_⟩; intro a hA))) )
  replace hH := hH.nil_own 3 1
  refine rt1 (.inl rfl) rfl hA rfl ⟨bN, rfl, gc_new hH⟩
end Go.Proofs.Ytdfhajdejlhamaa
namespace Go.Fw
open Go Go.RowKit
set_option linter.unusedVariables false
/-- a plan: one that may come first whatever else may come; the only one that may come; one of two -/
inductive Pl where
  | nil
  | q (i : Nat) (t : Pl)
  | one (i : Nat) (t : Pl)
  | two (i j : Nat) (t u : Pl)
def Pl.len : Pl → Nat
  | .nil => 0
  | .q _ t => t.len + 1
  | .one _ t => t.len + 1
  | .two _ _ t _ => t.len + 1
def qs : List Nat → Pl → Pl
  | [], t => t
  | i :: l, t => .q i (qs l t)
def okT (ops : Array Oper) : Pl → Array Bool → Bool
  | .nil, listed => decide (Region.ready .any ops listed = [])
  | .q i t, listed => (Region.ready .any ops listed).contains i && Region.free .any ops listed i && okT ops t (listed.setIfInBounds i true)
  | .one i t, listed => decide (Region.ready .any ops listed = [i]) && okT ops t (listed.setIfInBounds i true)
  | .two i j t u, listed => Nat.beq t.len u.len && decide (Region.ready .any ops listed = [i, j]) && okT ops t (listed.setIfInBounds i true) && okT ops u (listed.setIfInBounds j true)
def wkT (P : Program) (ops : Array Oper) (S : World → Prop) (Q : Exit → Act → World → Prop) (K : Act → World → Prop) : Pl → Act → World → Prop
  | .nil, a, w => K a w
  | .q i t, a, w => ∃ o v, ops[i]? = some o ∧ YieldsIf P ops S o v a ∧ wkT P ops S Q K t (a.put o.dst v) w
  | .one i t, a, w => wpOp P ops (NoPanic Q) i (fun a' w' => S w' ∧ wkT P ops S Q K t a' w') a w
  | .two i j t u, a, w => wpOp P ops (NoPanic Q) i (fun a' w' => S w' ∧ wkT P ops S Q K t a' w') a w ∧ wpOp P ops (NoPanic Q) j (fun a' w' => S w' ∧ wkT P ops S Q K u a' w') a w
section
variable {P : Program} {ops : Array Oper} {S : World → Prop} {Q : Exit → Act → World → Prop} {K : Act → World → Prop}
theorem wkT_any (hs : Region.noSelect ops = true) (hK : ∀ a w, K a w → Q .normal a w) : ∀ (t : Pl) (listed : Array Bool) (a : Act) (w : World),
    okT ops t listed = true → S w → wkT P ops S Q K t a w → wpAnyK P .any ops (NoPanic Q) S (fun _ => true) t.len listed a w
  | .nil, listed, a, w, hok, hS, h => ⟨of_decide_eq_true hok, hK a w h⟩
  | .q i t, listed, a, w, hok, hS, h => by
    simp only [okT, Bool.and_eq_true] at hok
    obtain ⟨⟨hr, hf⟩, hok'⟩ := hok
    obtain ⟨o, v, hi, hy, hk⟩ := h
    exact wpAnyK.first hi (Region.noSelect_spec hs) (fun c a w h => h) _ listed a w (fun j hF => by cases hF) (Region.free_spec hi hf) (by simpa using hr) hy hS (wkT_any hs hK t _ _ w hok' hS hk)
  | .one i t, listed, a, w, hok, hS, h => by
    simp only [okT, Bool.and_eq_true, decide_eq_true_eq] at hok
    refine ⟨fun h0 => (by rw [hok.1] at h0; cases h0), fun j hj => ?_⟩
    rw [hok.1] at hj
    obtain rfl : j = i := by simpa using hj
    exact wpOp_mono (fun a' w' ⟨hS', h'⟩ => ⟨fun _ _ => hS', wkT_any hs hK t _ a' w' hok.2 hS' h'⟩) h
  | .two i k t u, listed, a, w, hok, hS, h => by
    simp only [okT, Bool.and_eq_true, decide_eq_true_eq] at hok
    obtain ⟨⟨⟨hl, hr⟩, ht⟩, hu⟩ := hok
    have hl := Nat.eq_of_beq_eq_true hl
    refine ⟨fun h0 => (by rw [hr] at h0; cases h0), fun j hj => ?_⟩
    rw [hr] at hj
    rcases (by simpa using hj : j = i ∨ j = k) with rfl | rfl
    · exact wpOp_mono (fun a' w' ⟨hS', h'⟩ => ⟨fun _ _ => hS', wkT_any hs hK t _ a' w' ht hS' h'⟩) h.1
    · exact wpOp_mono (fun a' w' ⟨hS', h'⟩ => ⟨fun _ _ => hS', by rw [hl]; exact wkT_any hs hK u _ a' w' hu hS' h'⟩) h.2
end
/-- a region that draws, by a plan; behind it R holds -/
theorem wp_drawT {P : Program} {id : Nat} {ops : List Oper} {Q : Exit → Act → World → Prop} {a : Act} {w0 w : World} {M : Nat → Prop} {H : List It} (t : Pl) (R : Act → World → Prop) (hm : P.follows .mixedOrders = true)
    (hok : (Region.noSelect ops.toArray && Nat.beq t.len ops.length && okT ops.toArray t (Array.replicate ops.length false)) = true) (hH : HS w0 M H w)
    (h : wkT P ops.toArray (HS w0 M H) Q R t a w.drew) (k : ∀ a w, R a w → Q .normal a w) : (Code.region id ops.toArray true).wp P Q a w := by
  simp only [Bool.and_eq_true] at hok
  obtain ⟨⟨hs, hl⟩, hok⟩ := hok
  have hl' : t.len = ops.toArray.size := by simpa using Nat.eq_of_beq_eq_true hl
  have := wkT_any (P := P) (Q := Q) hs k t _ a w.drew hok hH.drew h
  rw [hl'] at this
  refine wp_region_noPanic (wp_region_any hm (wpAnyK.any (S := HS w0 M H) (F := fun _ => true) _ _ _ _ ?_))
  simpa using this
section
variable {P : Program} {N : Nat} {l : List (Nat × Value)} {a : Act} {w : World} {ops : Array Oper} {S : World → Prop} {Q : Exit → Act → World → Prop} {K : Act → World → Prop} {i j : Nat} {t u : Pl}
theorem dt_ex {o : Oper} {d : Nat} {v : Value} (hA : Sl N l a) (hi : ops[i]? = some o) (hg : gd ops l o.guard = some true) (hd : o.dst = some d) (hdN : d < N)
    (h : Ex P N l S o v) (k' : ∀ a', Sl N ((d, v) :: l) a' → wkT P ops S Q K t a' w) : wkT P ops S Q K (.q i t) a w := by
  refine ⟨o, v, hi, .inl ⟨hA.gd hg, fun w' hS => h a w' hA hS⟩, ?_⟩
  rw [hd]
  exact k' _ (hA.put hdN v)
theorem dt_op {o : Oper} {d : Nat} {R : Value → World → Prop} (hA : Sl N l a) (hi : ops[i]? = some o) (hg : gd ops l o.guard = some true) (hd : o.dst = some d) (hdN : d < N)
    (h : Op1 P N l o w R) (k : ∀ v w', R v w' → S w' ∧ ∀ a', Sl N ((d, v) :: l) a' → wkT P ops S Q K t a' w') : wkT P ops S Q K (.one i t) a w := by
  unfold wkT wpOp
  simp only [hi, hA.gd hg, if_true]
  refine .inl (h a hA _ _ fun v w' hR => ?_)
  rw [hd]
  exact ⟨(k v w' hR).1, (k v w' hR).2 _ (hA.put hdN v)⟩
theorem dt_op0 {o : Oper} {R : Value → World → Prop} (hA : Sl N l a) (hi : ops[i]? = some o) (hg : gd ops l o.guard = some true) (hd : o.dst = none)
    (h : Op1 P N l o w R) (k : ∀ v w', R v w' → S w' ∧ wkT P ops S Q K t a w') : wkT P ops S Q K (.one i t) a w := by
  unfold wkT wpOp
  simp only [hi, hA.gd hg, if_true]
  refine .inl (h a hA _ _ fun v w' hR => ?_)
  rw [hd]
  exact k v w' hR
/-- one of two: each as if it were the only one -/
theorem dt_two (h1 : wkT P ops S Q K (.one i t) a w) (h2 : wkT P ops S Q K (.one j u) a w) : wkT P ops S Q K (.two i j t u) a w := ⟨h1, h2⟩
end
end Go.Fw
namespace Go.Fw
open Go Go.RowKit
set_option linter.unusedVariables false
def bts (s : ByteArray) : List Nat := s.data.toList.map (·.toNat)
theorem bts_len (s : ByteArray) : (bts s).length = s.size := by simp [bts]
theorem bts_lt (s : ByteArray) : ∀ b ∈ bts s, b < 256 := fun b hb => by
  obtain ⟨x, _, rfl⟩ := List.mem_map.1 hb
  exact x.toNat_lt
def ofB (ns : List Nat) : ByteArray := ⟨(ns.map UInt8.ofNat).toArray⟩
theorem ofB_bts (s : ByteArray) : ofB (bts s) = s := by
  unfold ofB bts
  rw [List.map_map]
  have : (UInt8.ofNat ∘ fun x : UInt8 => x.toNat) = id := by
    funext x
    simp
  rw [this, List.map_id]
theorem bts_extract (s : ByteArray) (i j : Nat) : bts (s.extract i j) = ((bts s).take j).drop i := by
  unfold bts
  rw [ByteArray.data_extract, Array.toList_extract, ← List.map_take, ← List.map_drop]
  simp [List.extract, List.drop_take]
def encY (n : Nat) : List Value := [.int .u8 (n : Int)]
theorem encY_len (n : Nat) : (encY n).length = 1 := rfl
section
variable {P : Program} {N : Nat} {l : List (Nat × Value)} {C : World → Prop} {d : Option Tmp} {T : TypeId} {pos : String} {af : Array Edge} {g : Option (Nat × Bool)}
theorem ex_len_string {t : TypeId} {x : Operand} {s : ByteArray} [ht : TSr P t] (hx : ev l x = some (.string s)) :
    Ex P N l C ⟨d, .call ⟨.builtin .len, #[x], #[t]⟩, T, pos, af, g⟩ (.int .i64 (bts s).length) := by
  intro a w hA _
  rw [bts_len]
  simp [execOp, resolve, invoke, builtin, Builtin.len_, hA.ev hx, run_underlying ht.eq, goInt]
theorem ex_slice_string {t : TypeId} {x y y2 : Operand} {s : ByteArray} {kd kd2 : IntKind} {m m2 : Int} {i j : Nat} [ht : TSr P t] (hx : ev l x = some (.string s)) (hy : ev l y = some (.int kd m)) (hy2 : ev l y2 = some (.int kd2 m2)) (hk : m = (i : Int)) (hk2 : m2 = (j : Int)) (hij : i ≤ j) (hj : j ≤ s.size) :
    Ex P N l C ⟨d, .slice t x (some y) (some y2) none, T, pos, af, g⟩ (.string (s.extract i j)) := by
  intro a w hA _
  subst hk
  subst hk2
  have h1 : (i : Int) ≤ (j : Int) := by omega
  have h2 : (j : Int) ≤ (s.size : Int) := by omega
  simp only [execOp, hA.ev hx, Instr.sliceAt, Sem.run_bind, run_underlying ht.eq, Result.andThen_ok, Instr.slice, Instr.sliceBounds, Option.map_some, Option.map_none, Sem.run_pure, hA.ev hy, hA.ev hy2, Instr.sliceBound, asIntOf]
  simp [hij, hj]
theorem ex_eqlS {t ty : TypeId} {x y : Operand} {m n : ByteArray} [h : TSr P t] (hx : ev l x = some (.string m)) (hy : ev l y = some (.string n)) : Ex P N l C ⟨d, .binOp .eql t x y ty, T, pos, af, g⟩ (.bool (m.toList == n.toList)) := by
  intro a w hA _
  simp [execOp, hA.ev hx, hA.ev hy, eqGuard_at_string, binOp, Op.stringOp]
theorem push_ofB (l : List Nat) : ∀ (s : ByteArray), ((l.map fun (b : Nat) => (b : Int)).foldl (fun r n => r.push (UInt8.ofNat n.toNat)) s) = ⟨s.data ++ (l.map UInt8.ofNat).toArray⟩ := by
  induction l with
  | nil => intro s; simp
  | cons b l ih =>
    intro s
    rw [List.map_cons, List.foldl_cons, ih]
    simp [ByteArray.push]
theorem flatY (l : List Nat) : flat encY l = (l.map fun (b : Nat) => (b : Int)).map (Value.int .u8) := by
  induction l with
  | nil => rfl
  | cons b l ih =>
    show encY b ++ flat encY l = _
    rw [ih]
    rfl
theorem ex_ofBytes {src e dst : TypeId} {x : Operand} {o : Option Addr} {n c : Nat} {l' : List Nat} [hs : TSl P src e] [he : TIn P e .u8] [hd : TSr P dst] (hx : ev l x = some (.slice o n c)) (hn : l'.length = n) (hr : ∀ w, C w → Rd w o (flat encY l')) :
    Ex P N l C ⟨d, .convert src dst x, T, pos, af, g⟩ (.string (ofB l')) := by
  intro a w hA hC
  subst hn
  simp only [execOp, hA.ev hx, Sem.run_bind]
  rw [run_convert_bytes_string w src dst e o _ c hs.eq he.eq hd.eq]
  have h := hr w hC
  have hfl : (flat encY l').length = l'.length := by rw [flatY]; simp
  cases o with
  | none =>
    have : l' = [] := by
      cases l' with
      | nil => rfl
      | cons b l' =>
        obtain ⟨_, _, h2⟩ := h.1 (by rw [hfl]; simp)
        cases h2
    subst this
    simp [Conv.bytesToString, ofB]
    rfl
  | some a0 =>
    by_cases h0 : l' = []
    · subst h0
      have hl := run_loadCells_list (P := P) (w := w) a0 [] (fun j v hj => by simp at hj)
      rw [run_bytesToString w a0 _ c [] (by simpa using hl)]
      rfl
    · obtain ⟨b, off, h2⟩ := h.1 (by rw [hfl]; exact List.length_pos_iff.2 h0)
      obtain rfl : a0 = ⟨b, off, none⟩ := by simpa using h2
      have hl := run_loadCells_list (P := P) (w := w) ⟨b, off, none⟩ (flat encY l') (fun j v hj => by
        have := h.2 j v hj
        have e : (⟨b, off, none⟩ : Addr).add j = sat (some ⟨b, off, none⟩) j := by
          unfold Addr.add sat blkO offO
          split <;> simp_all
        rw [e]
        exact this)
      rw [hfl, flatY] at hl
      rw [run_bytesToString w ⟨b, off, none⟩ _ c _ hl, push_ofB]
      simp [ofB]
theorem bytes_kp (w : World) (e : TypeId) (s : ByteArray) : Kp w noM (Lib.bytesWorld w e s) where
  os := by unfold Lib.bytesWorld World.freeze; split <;> rfl
  tape := by unfold Lib.bytesWorld World.freeze; split <;> rfl
  output := by unfold Lib.bytesWorld World.freeze; split <;> rfl
  size := by rw [Lib.bytesWorld_size]; omega
  block := fun b hb _ => Lib.bytesWorld_at_old w e s b hb
/-- a row of a string's bytes -/
def byI (b : Nat) (s : ByteArray) : It := exI fun (o : Obj) => facI (∀ w : World, w.heap[b]? = some o → Rd w (some (bat b 0)) (flat encY (bts s))) (blk b o)
theorem by_rd {w0 w : World} {M : Nat → Prop} {H : List It} {b : Nat} {s : ByteArray} (hH : HS w0 M H w) (hm : byI b s ∈ H) : Rd w (some (bat b 0)) (flat encY (bts s)) := by
  obtain ⟨o, h1⟩ := (hH.pick hm).exI_open
  obtain ⟨h2, h3⟩ := h1.facI_open
  obtain ⟨F, h4, h5⟩ := h3.sat (List.mem_cons_self ..)
  exact h2 w h5
/-- a string's bytes, as a new row -/
theorem op_toBytes {src e dst : TypeId} {x : Operand} {s : ByteArray} {w0 w : World} {M : Nat → Prop} {H : List It} [hs : TSr P src] [hd : TSl P dst e] [he : TIn P e .u8] (hx : ev l x = some (.string s)) (hH : HS w0 M H w) :
    Op1 P N l ⟨d, .convert src dst x, T, pos, af, g⟩ w (fun v w' => ∃ b c, v = .slice (some (bat b 0)) (bts s).length c ∧ HS w0 M (byI b s :: H) w') := by
  intro a hA K Q hK
  unfold Oper.wp
  simp only [execOp, hA.ev hx, Sem.run_bind]
  rw [Lib.run_convert_string_bytes w src dst e s hs.eq hd.eq he.eq]
  simp only [Result.andThen_ok, Sem.run_pure, Oper.upon]
  refine hK _ _ ⟨w.heap.size, _, by rw [bts_len]; rfl, HS.exI_shut _ (HS.facI_shut (fun w' hw' => ?_) (hH.come (it := blk w.heap.size _) (bytes_kp w e s) (F' := fun x => x = w.heap.size) ⟨fun x => Iff.rfl, Lib.bytesWorld_at_new w e s⟩ fun b hb => by omega))⟩
  refine ⟨fun _ => ⟨_, _, rfl⟩, fun j u hj => ?_⟩
  rw [flatY] at hj
  have hjl := (List.getElem?_eq_some_iff.1 hj).1
  simp [bts] at hjl
  have h1 := Lib.bytesWorld_cell w e s j hjl
  have e2 : sat (some (bat w.heap.size 0)) j = ⟨w.heap.size, j, none⟩ := by simp [sat, blkO, offO, bat]
  have e3 : w'.cell? ⟨w.heap.size, j, none⟩ = (Lib.bytesWorld w e s).cell? ⟨w.heap.size, j, none⟩ := World.cell?_of_block (hw'.trans (Lib.bytesWorld_at_new w e s).symm)
  rw [e2, e3, h1, ← hj]
  simp [bts, List.getD, hjl]
theorem ex_min {ats : Array TypeId} {x y : Operand} {k k' : IntKind} {m n : Int} (hx : ev l x = some (.int k m)) (hy : ev l y = some (.int k' n)) : Ex P N l C ⟨d, .call ⟨.builtin .min, #[x, y], ats⟩, T, pos, af, g⟩ (.int k (if n < m then n else m)) := by
  intro a w hA _
  simp [execOp, resolve, invoke, builtin, hA.ev hx, hA.ev hy, run_min_int2]
end
end Go.Fw
namespace Go.Proofs.Ytdfhajdejlhamaa
open Go Go.Fw
set_option linter.unusedVariables false
def stL (bs bg b N : Nat) (g : SS) : List It := [gcI bg b N g.s, hpI b N g.s.L, cb bs 86 [.pointer (some (bat bg 0)), .pointer (some (bat b 0)), .int .i64 g.cy]]
/-- a store of so many cells -/
def stI (bs N : Nat) (g : SS) : It := exI fun (p : Nat × Nat) => all (stL bs p.1 p.2 N g)
theorem st_open {w0 w : World} {M : Nat → Prop} {H : List It} {bs N : Nat} {g : SS} (h : HS w0 M (stI bs N g :: H) w) : ∃ bg b, HS w0 M (stL bs bg b N g ++ H) w := by
  obtain ⟨⟨bg, b⟩, h1⟩ := h.exI_open
  exact ⟨bg, b, h1.open_⟩
theorem st_shut {w0 w : World} {M : Nat → Prop} {H : List It} {bs N : Nat} {g : SS} (bg b : Nat) (h : HS w0 M (stL bs bg b N g ++ H) w) : HS w0 M (stI bs N g :: H) w := HS.exI_shut (bg, b) h.shut
/-- the address that a word reaches -/
def atA (L : List Ob) (x : Int) : Nat := if numW x = false ∧ isO L (addrN x) then addrN x else 0
theorem at_num {L : List Ob} {x : Int} (h : numW x = true) : atA L x = 0 := by
  unfold atA; rw [if_neg (fun hh => by rw [h] at hh; cases hh.1)]
theorem at_yes {L : List Ob} {x : Int} (h : numW x = false) (h2 : isO L (addrN x)) : atA L x = addrN x := by unfold atA; rw [if_pos ⟨h, h2⟩]
theorem at_no {L : List Ob} {x : Int} (h2 : ¬ isO L (addrN x)) : atA L x = 0 := by unfold atA; rw [if_neg (fun hh => h2 hh.2)]
theorem endS_yes {N : Nat} {g : SS} (h : g.s.ph = 0) : endS N g = g := by unfold endS; rw [if_pos h]
theorem endS_no {N : Nat} {g : SS} (h : ¬ g.s.ph = 0) : endS N g = ⟨finG (2 * N + 2) g.s, g.cy + 1⟩ := by unfold endS; rw [if_neg h]
theorem kind_st {N : Nat} {L : List Ob} (hl : Lay N 1 L) (a : Nat) : (kindA L (a : Int)).2 = if isO L a then 0 else 7 := by
  by_cases h : isO L a
  · rw [if_pos h]
    obtain ⟨o, ho, rfl⟩ := h
    rw [(kind_obj hl (objA_mem hl ho)).1]
  · rw [if_neg h]
    have : isA L (a : Int) = false := by
      cases hc : isA L (a : Int) with
      | false => rfl
      | true => exact absurd (isO_iff.1 hc) h
    unfold kindA
    rw [this]
    rfl
set_option maxRecDepth 10000 attribute [local irreducible] Code.wp wpList Calls Ex Op1 sat bat blk cb own Go.Fw.mp Go.Fw.mpO Go.Fw.mpI Go.Fw.mpE Go.Fw.itr HS Rd Ret wkD Hp Cl Cls Exit.then Exit.inBlock Exit.noGoto bodyPost Go.Fw.flat wk2 Go.Fw.all Go.Fw.owns wpOp
attribute [local irreducible] hdA gaps isA nextA allocA freeA sizeA kindA setA getA whiteZ numW addrW shadeG gcI hpI stepG beginG writeG allocG mu atA endS finG

theorem finish_spec (w0 : World) (M : Nat → Prop) (bs N : Nat) (g : SS) (hok : GOk N g.s) (hcy : g.cy ≤ 1000000000) (hH : HS w0 M [stI bs N g] w0) :
    Ret Try.prog 44 #[.pointer (some (bat bs 0))] w0 (fun v w => HS w0 M [stI bs N (endS N g)] w) := by
  obtain ⟨bg, b, hH2⟩ := st_open hH
  clear hH
  have hH : HS w0 M [gcI bg b N g.s, hpI b N g.s.L, cb bs 86 [.pointer (some (bat bg 0)), .pointer (some (bat b 0)), .int .i64 g.cy]] w0 := hH2
  clear hH2
  (refine enter (N := 20) Try.func44 rfl Try.ntmps44 rfl ?_; intro a hA; dsimp only [sl0, Nat.reduceAdd] at hA)
  repeat' (first | (first | (refine GT ?_ ?_ <;> intro hg <;> clear hA a <;> intro a hA <;> (first | exact FA | replace hg := of_decide_eq_true hg | replace hg := of_decide_eq_false hg | skip)) | (refine QT ?_; clear hA a; intro a hA) | (first | (refine BT ?_; clear hA hH; rintro _ w ⟨bN, rfl, hH⟩ a hA) | (refine LT ?_; clear hA hH; rintro _ w ⟨oN, rfl, hH⟩ a hA) | (refine AT ?_; clear hA; rintro _ w ⟨oN, cN, rfl, hH2⟩ a hA; clear hH; have hH := (hH2 _ (by (repeat constructor))).tail; clear hH2) | (refine S0T ?_; clear hH; rintro _ w hH) )) | ((first | refine CT ?_ | (refine DT ?_ ?_ <;> intro hc <;> try (exfalso; omega))) <;> repeat' refine CT ?_) | (first | (refine DSK ?_; clear hA a; intro a hA) | (first | (refine DLT ?_; clear hA hH; rintro _ w ⟨oN, rfl, hH⟩; refine ⟨STT, ?_⟩; intro a hA) | (refine DAT ?_; clear hA; rintro _ w ⟨oN, cN, rfl, hH2⟩; clear hH; have hH := (hH2 _ (by (repeat constructor))).tail; clear hH2; refine ⟨STT, ?_⟩; intro a hA))) )
  (refine st_op hA rfl rfl (by decide) (op_call rfl rfl rfl (gphase_spec _ bg b N g.s (gc_readM hH (by exact MEMT)))) ?_; clear hA; rintro _ w ⟨rfl, hk⟩ a hA; replace hH := hH.keep hk; clear hk)
  by_cases hp : g.s.ph = 0
  · rw [endS_yes hp]
    repeat' (first | (first | (refine GT ?_ ?_ <;> intro hg <;> clear hA a <;> intro a hA <;> (first | exact FA | replace hg := of_decide_eq_true hg | replace hg := of_decide_eq_false hg | skip)) | (refine QT ?_; clear hA a; intro a hA) | (first | (refine BT ?_; clear hA hH; rintro _ w ⟨bN, rfl, hH⟩ a hA) | (refine LT ?_; clear hA hH; rintro _ w ⟨oN, rfl, hH⟩ a hA) | (refine AT ?_; clear hA; rintro _ w ⟨oN, cN, rfl, hH2⟩ a hA; clear hH; have hH := (hH2 _ (by (repeat constructor))).tail; clear hH2) | (refine S0T ?_; clear hH; rintro _ w hH) )) | ((first | refine CT ?_ | (refine DT ?_ ?_ <;> intro hc <;> try (exfalso; omega))) <;> repeat' refine CT ?_) | (first | (refine DSK ?_; clear hA a; intro a hA) | (first | (refine DLT ?_; clear hA hH; rintro _ w ⟨oN, rfl, hH⟩; refine ⟨STT, ?_⟩; intro a hA) | (refine DAT ?_; clear hA; rintro _ w ⟨oN, cN, rfl, hH2⟩; clear hH; have hH := (hH2 _ (by (repeat constructor))).tail; clear hH2; refine ⟨STT, ?_⟩; intro a hA))) )
    exact rt0 (.inr rfl) rfl hA (st_shut bg b hH)
  rw [endS_no hp]
  repeat' (first | (first | (refine GT ?_ ?_ <;> intro hg <;> clear hA a <;> intro a hA <;> (first | exact FA | replace hg := of_decide_eq_true hg | replace hg := of_decide_eq_false hg | skip)) | (refine QT ?_; clear hA a; intro a hA) | (first | (refine BT ?_; clear hA hH; rintro _ w ⟨bN, rfl, hH⟩ a hA) | (refine LT ?_; clear hA hH; rintro _ w ⟨oN, rfl, hH⟩ a hA) | (refine AT ?_; clear hA; rintro _ w ⟨oN, cN, rfl, hH2⟩ a hA; clear hH; have hH := (hH2 _ (by (repeat constructor))).tail; clear hH2) | (refine S0T ?_; clear hH; rintro _ w hH) )) | ((first | refine CT ?_ | (refine DT ?_ ?_ <;> intro hc <;> try (exfalso; omega))) <;> repeat' refine CT ?_) | (first | (refine DSK ?_; clear hA a; intro a hA) | (first | (refine DLT ?_; clear hA hH; rintro _ w ⟨oN, rfl, hH⟩; refine ⟨STT, ?_⟩; intro a hA) | (refine DAT ?_; clear hA; rintro _ w ⟨oN, cN, rfl, hH2⟩; clear hH; have hH := (hH2 _ (by (repeat constructor))).tail; clear hH2; refine ⟨STT, ?_⟩; intro a hA))) )
  (refine st_op hA rfl rfl (by decide) (op_call rfl rfl rfl (gfinish_f hH hok rfl)) ?_; clear hA hH; rintro _ w ⟨m, s', rfl, hst, hok', hm, hH⟩ a hA)
  obtain rfl := hst.same hok
  repeat' (first | (first | (refine GT ?_ ?_ <;> intro hg <;> clear hA a <;> intro a hA <;> (first | exact FA | replace hg := of_decide_eq_true hg | replace hg := of_decide_eq_false hg | skip)) | (refine QT ?_; clear hA a; intro a hA) | (first | (refine BT ?_; clear hA hH; rintro _ w ⟨bN, rfl, hH⟩ a hA) | (refine LT ?_; clear hA hH; rintro _ w ⟨oN, rfl, hH⟩ a hA) | (refine AT ?_; clear hA; rintro _ w ⟨oN, cN, rfl, hH2⟩ a hA; clear hH; have hH := (hH2 _ (by (repeat constructor))).tail; clear hH2) | (refine S0T ?_; clear hH; rintro _ w hH) | (apply st_op0 hA rfl rfl; apply op_store_fld; rfl; rfl; rfl; exact hH; (repeat constructor); (repeat rfl); clear hH; rintro _ w hH))) | ((first | refine CT ?_ | (refine DT ?_ ?_ <;> intro hc <;> try (exfalso; omega))) <;> repeat' refine CT ?_) | (first | (refine DSK ?_; clear hA a; intro a hA) | (first | (refine DLT ?_; clear hA hH; rintro _ w ⟨oN, rfl, hH⟩; refine ⟨STT, ?_⟩; intro a hA) | (refine DAT ?_; clear hA; rintro _ w ⟨oN, cN, rfl, hH2⟩; clear hH; have hH := (hH2 _ (by (repeat constructor))).tail; clear hH2; refine ⟨STT, ?_⟩; intro a hA))) )
  exact rt0 (.inr rfl) rfl hA (st_shut bg b hH)
theorem finish_f {w0 w : World} {M : Nat → Prop} {H : List It} {bs N : Nat} {g : SS} (hH : HS w0 M (stI bs N g :: H) w) (hok : GOk N g.s) (hcy : g.cy ≤ 1000000000) :
    Ret Try.prog 44 #[.pointer (some (bat bs 0))] w (fun v w' => HS w0 M (stI bs N (endS N g) :: H) w') := by
  obtain ⟨Mc, h1, -, h2⟩ := HS.frame (Hc := [stI bs N g]) (Hf := H) hH
  exact (finish_spec w Mc bs N g hok hcy h1).mono fun v w' h3 => h2 _ _ h3

theorem new_st {w0 w : World} {M : Nat → Prop} {H : List It} {z : Int} (hH : HS w0 M H w) :
    Ret Try.prog 9 #[.int .i64 z] w (fun v w' => (v = .pointer none ∧ ¬ (2 ≤ z ∧ z ≤ 65536) ∧ HS w0 M H w') ∨ ((2 ≤ z ∧ z ≤ 65536) ∧ ∃ bs, v = .pointer (some (bat bs 0)) ∧ HS w0 M (stI bs z.toNat ⟨⟨0, [], List.replicate z.toNat 0, [], 0⟩, 0⟩ :: H) w')) := by
  (refine enter (N := 13) Try.func9 rfl Try.ntmps9 rfl ?_; intro a hA; dsimp only [sl0, Nat.reduceAdd] at hA)
  repeat' (first | (first | (refine GT ?_ ?_ <;> intro hg <;> clear hA a <;> intro a hA <;> (first | exact FA | replace hg := of_decide_eq_true hg | replace hg := of_decide_eq_false hg | skip)) | (refine QT ?_; clear hA a; intro a hA) | (first | (refine BT ?_; clear hA hH; rintro _ w ⟨bN, rfl, hH⟩ a hA) | (refine LT ?_; clear hA hH; rintro _ w ⟨oN, rfl, hH⟩ a hA) | (refine AT ?_; clear hA; rintro _ w ⟨oN, cN, rfl, hH2⟩ a hA; clear hH; have hH := (hH2 _ (by (repeat constructor))).tail; clear hH2) | (refine S0T ?_; clear hH; rintro _ w hH) )) | ((first | refine CT ?_ | (refine DT ?_ ?_ <;> intro hc <;> try (exfalso; omega))) <;> repeat' refine CT ?_) | (first | (refine DSK ?_; clear hA a; intro a hA) | (first | (refine DLT ?_; clear hA hH; rintro _ w ⟨oN, rfl, hH⟩; refine ⟨STT, ?_⟩; intro a hA) | (refine DAT ?_; clear hA; rintro _ w ⟨oN, cN, rfl, hH2⟩; clear hH; have hH := (hH2 _ (by (repeat constructor))).tail; clear hH2; refine ⟨STT, ?_⟩; intro a hA))) )
  (refine st_op hA rfl rfl (by decide) (op_call rfl rfl rfl (new_f hH)) ?_; clear hA hH; rintro _ w (⟨rfl, h, hH⟩ | ⟨h, b, rfl, hH⟩) a hA)
  · repeat' (first | (first | (refine GT ?_ ?_ <;> intro hg <;> clear hA a <;> intro a hA <;> (first | exact FA | replace hg := of_decide_eq_true hg | replace hg := of_decide_eq_false hg | skip)) | (refine QT ?_; clear hA a; intro a hA) | (first | (refine BT ?_; clear hA hH; rintro _ w ⟨bN, rfl, hH⟩ a hA) | (refine LT ?_; clear hA hH; rintro _ w ⟨oN, rfl, hH⟩ a hA) | (refine AT ?_; clear hA; rintro _ w ⟨oN, cN, rfl, hH2⟩ a hA; clear hH; have hH := (hH2 _ (by (repeat constructor))).tail; clear hH2) | (refine S0T ?_; clear hH; rintro _ w hH) )) | ((first | refine CT ?_ | (refine DT ?_ ?_ <;> intro hc <;> try (exfalso; omega))) <;> repeat' refine CT ?_) | (first | (refine DSK ?_; clear hA a; intro a hA) | (first | (refine DLT ?_; clear hA hH; rintro _ w ⟨oN, rfl, hH⟩; refine ⟨STT, ?_⟩; intro a hA) | (refine DAT ?_; clear hA; rintro _ w ⟨oN, cN, rfl, hH2⟩; clear hH; have hH := (hH2 _ (by (repeat constructor))).tail; clear hH2; refine ⟨STT, ?_⟩; intro a hA))) )
    exact rt1 (.inl rfl) rfl hA rfl (.inl ⟨rfl, h, hH⟩)
  obtain ⟨N, rfl⟩ : ∃ N : Nat, z = N := ⟨z.toNat, by omega⟩
  rw [Int.toNat_natCast] at hH ⊢
  repeat' (first | (first | (refine GT ?_ ?_ <;> intro hg <;> clear hA a <;> intro a hA <;> (first | exact FA | replace hg := of_decide_eq_true hg | replace hg := of_decide_eq_false hg | skip)) | (refine QT ?_; clear hA a; intro a hA) | (first | (refine BT ?_; clear hA hH; rintro _ w ⟨bN, rfl, hH⟩ a hA) | (refine LT ?_; clear hA hH; rintro _ w ⟨oN, rfl, hH⟩ a hA) | (refine AT ?_; clear hA; rintro _ w ⟨oN, cN, rfl, hH2⟩ a hA; clear hH; have hH := (hH2 _ (by (repeat constructor))).tail; clear hH2) | (refine S0T ?_; clear hH; rintro _ w hH) )) | ((first | refine CT ?_ | (refine DT ?_ ?_ <;> intro hc <;> try (exfalso; omega))) <;> repeat' refine CT ?_) | (first | (refine DSK ?_; clear hA a; intro a hA) | (first | (refine DLT ?_; clear hA hH; rintro _ w ⟨oN, rfl, hH⟩; refine ⟨STT, ?_⟩; intro a hA) | (refine DAT ?_; clear hA; rintro _ w ⟨oN, cN, rfl, hH2⟩; clear hH; have hH := (hH2 _ (by (repeat constructor))).tail; clear hH2; refine ⟨STT, ?_⟩; intro a hA))) )
  (refine st_op hA rfl rfl (by decide) (op_call rfl rfl rfl (gnew_f hH (by omega))) ?_; clear hA; rintro _ w ⟨bg, rfl, hH2⟩ a hA)
  clear hH
  have hH := hH2
  clear hH2
  repeat' (first | (first | (refine GT ?_ ?_ <;> intro hg <;> clear hA a <;> intro a hA <;> (first | exact FA | replace hg := of_decide_eq_true hg | replace hg := of_decide_eq_false hg | skip)) | ((first | apply st_ex hA hH rfl rfl (by decide) | apply dr_ex hA rfl rfl rfl (by decide) | apply dr_exp hA rfl rfl rfl (by decide) | apply dr_ex3 hA hH rfl rfl rfl (by decide)); (first | (apply ex_build_p #[.pointer (some (bat bg 0)), .pointer (some (bat b 0)), .int .i64 0]; rfl; (repeat (first | (intro _ h; exact absurd h (List.not_mem_nil)) | (refine List.forall_mem_cons.2 ⟨one_cell_of _ _, ?_⟩))); rfl)); clear hA a; intro a hA) | (refine QT ?_; clear hA a; intro a hA) | (first | (refine BT ?_; clear hA hH; rintro _ w ⟨bN, rfl, hH⟩ a hA) | (refine LT ?_; clear hA hH; rintro _ w ⟨oN, rfl, hH⟩ a hA) | (refine AT ?_; clear hA; rintro _ w ⟨oN, cN, rfl, hH2⟩ a hA; clear hH; have hH := (hH2 _ (by (repeat constructor))).tail; clear hH2) | (refine S0T ?_; clear hH; rintro _ w hH) )) | ((first | refine CT ?_ | (refine DT ?_ ?_ <;> intro hc <;> try (exfalso; omega))) <;> repeat' refine CT ?_) | (first | (refine DSK ?_; clear hA a; intro a hA) | (first | (refine DLT ?_; clear hA hH; rintro _ w ⟨oN, rfl, hH⟩; refine ⟨STT, ?_⟩; intro a hA) | (refine DAT ?_; clear hA; rintro _ w ⟨oN, cN, rfl, hH2⟩; clear hH; have hH := (hH2 _ (by (repeat constructor))).tail; clear hH2; refine ⟨STT, ?_⟩; intro a hA))) )
  refine rt1 (.inl rfl) rfl hA rfl (.inr ⟨h, bN, rfl, st_shut bg b ?_⟩)
  exact hH.perm (List.Perm.append_right H (show [cb bN 86 [.pointer (some (bat bg 0)), .pointer (some (bat b 0)), .int .i64 0], gcI bg b N ⟨0, [], List.replicate N 0, [], 0⟩, hpI b N []].Perm _ by exact List.perm_append_comm (l₁ := [_]) (l₂ := [_, _])))
end Go.Proofs.Ytdfhajdejlhamaa
namespace Go.Proofs.Ytdfhajdejlhamaa
open Go Go.Fw
set_option linter.unusedVariables false
theorem alloc_num {N : Nat} {s : GS} (h : GOk N s) (k z : Int) : (allocG N s k z).2.1 ≠ 0 ∨ ((allocG N s k z).2.1 = 0 ∧ ∃ ad : Nat, (allocG N s k z).1 = (ad : Int) ∧ ad ≤ 65536) := by
  rcases alloc_ok h k z with ⟨e, h1, h2⟩ | ⟨s', o, h1, h2, h3, h4, h5, h6, h7, h8, h9, h10, h11, h12⟩
  · exact .inl (by rw [h2]; exact h1)
  · right
    rw [h1]
    have := h2.lt ⟨o, (h10 o).2 (.inl rfl), rfl⟩
    have := h.n2
    exact ⟨rfl, o.a, rfl, by omega⟩
theorem allocS_1 {N : Nat} {g : SS} {k z : Int} {roots : List Int} (h : (allocG N g.s k z).2.1 ≠ 6) : allocS N g k z roots = tryS (allocG N g.s k z) g.cy := by unfold allocS; rw [if_pos h]
theorem allocS_2 {N : Nat} {g : SS} {k z : Int} {roots : List Int} (h : ¬ (allocG N g.s k z).2.1 ≠ 6) (h2 : (allocG N (endS N g).s k z).2.1 ≠ 6) : allocS N g k z roots = tryS (allocG N (endS N g).s k z) (endS N g).cy := by unfold allocS; rw [if_neg h, if_pos h2]
theorem allocS_3 {N : Nat} {g : SS} {k z : Int} {roots : List Int} (h : ¬ (allocG N g.s k z).2.1 ≠ 6) (h2 : ¬ (allocG N (endS N g).s k z).2.1 ≠ 6) : allocS N g k z roots = tryS (allocG N (endS N (begS (endS N g) roots)).s k z) (endS N (begS (endS N g) roots)).cy := by unfold allocS; rw [if_neg h, if_neg h2]
theorem endS_cy {N : Nat} {g : SS} : (endS N g).cy ≤ g.cy + 1 := by unfold endS; split <;> simp
set_option maxRecDepth 10000 attribute [local irreducible] Code.wp wpList Calls Ex Op1 sat bat blk cb own Go.Fw.mp Go.Fw.mpO Go.Fw.mpI Go.Fw.mpE Go.Fw.itr HS Rd Ret wkD Hp Cl Cls Exit.then Exit.inBlock Exit.noGoto bodyPost Go.Fw.flat wk2 Go.Fw.all Go.Fw.owns wpOp
attribute [local irreducible] hdA gaps isA nextA allocA freeA sizeA kindA setA getA whiteZ numW addrW shadeG gcI hpI stepG beginG writeG allocG mu atA endS finG

set_option maxHeartbeats 4000000 in
theorem salloc_spec (w0 : World) (M : Nat → Prop) (bs N : Nat) (g : SS) (k z : Int) (roots : List Int) (oR : Option Addr) (cR : Nat) (hok : GOk N g.s) (hcy : g.cy ≤ 1000000) (hU : ∀ x ∈ roots, U x) (hl : roots.length ≤ 140737488355328) (hrd : ∀ H' w', HS w0 M H' w' → Rd w' oR (flat encW roots)) (hH : HS w0 M [stI bs N g] w0) :
    Ret Try.prog 12 #[.pointer (some (bat bs 0)), .int .i64 k, .int .i64 z, .slice oR roots.length cR] w0 (fun v w => v = .tuple #[.int .u64 (allocS N g k z roots).1, .int .i64 (allocS N g k z roots).2.1] ∧ HS w0 M [stI bs N (allocS N g k z roots).2.2] w) := by
  obtain ⟨bg, b, hH2⟩ := st_open hH
  clear hH
  have hH : HS w0 M [gcI bg b N g.s, hpI b N g.s.L, cb bs 86 [.pointer (some (bat bg 0)), .pointer (some (bat b 0)), .int .i64 g.cy]] w0 := hH2
  clear hH2
  (refine enter (N := 61) Try.func12 rfl Try.ntmps12 rfl ?_; intro a hA; dsimp only [sl0, Nat.reduceAdd] at hA)
  repeat' (first | (first | (refine GT ?_ ?_ <;> intro hg <;> clear hA a <;> intro a hA <;> (first | exact FA | replace hg := of_decide_eq_true hg | replace hg := of_decide_eq_false hg | skip)) | (refine QT ?_; clear hA a; intro a hA) | (first | (refine BT ?_; clear hA hH; rintro _ w ⟨bN, rfl, hH⟩ a hA) | (refine LT ?_; clear hA hH; rintro _ w ⟨oN, rfl, hH⟩ a hA) | (refine AT ?_; clear hA; rintro _ w ⟨oN, cN, rfl, hH2⟩ a hA; clear hH; have hH := (hH2 _ (by (repeat constructor))).tail; clear hH2) | (refine S0T ?_; clear hH; rintro _ w hH) )) | ((first | refine CT ?_ | (refine DT ?_ ?_ <;> intro hc <;> try (exfalso; omega))) <;> repeat' refine CT ?_) | (first | (refine DSK ?_; clear hA a; intro a hA) | (first | (refine DLT ?_; clear hA hH; rintro _ w ⟨oN, rfl, hH⟩; refine ⟨STT, ?_⟩; intro a hA) | (refine DAT ?_; clear hA; rintro _ w ⟨oN, cN, rfl, hH2⟩; clear hH; have hH := (hH2 _ (by (repeat constructor))).tail; clear hH2; refine ⟨STT, ?_⟩; intro a hA))) )
  (refine st_op hA rfl rfl (by decide) (op_call rfl rfl rfl (galloc_f hH hok rfl)) ?_; clear hA hH; rintro _ w ⟨rfl, hH⟩ a hA)
  by_cases h1 : (allocG N g.s k z).2.1 ≠ 6
  · rw [allocS_1 h1]
    rcases alloc_num hok k z with he | ⟨he, ad, had, hle⟩
    · generalize allocG N g.s k z = r at *
      have e1 : (tryS r g.cy).1 = 0 := by unfold tryS; rw [if_neg he]
      repeat' (first | (first | (refine GT ?_ ?_ <;> intro hg <;> clear hA a <;> intro a hA <;> (first | exact FA | replace hg := of_decide_eq_true hg | replace hg := of_decide_eq_false hg | skip)) | (refine QT ?_; clear hA a; intro a hA) | (first | (refine BT ?_; clear hA hH; rintro _ w ⟨bN, rfl, hH⟩ a hA) | (refine LT ?_; clear hA hH; rintro _ w ⟨oN, rfl, hH⟩ a hA) | (refine AT ?_; clear hA; rintro _ w ⟨oN, cN, rfl, hH2⟩ a hA; clear hH; have hH := (hH2 _ (by (repeat constructor))).tail; clear hH2) | (refine S0T ?_; clear hH; rintro _ w hH) )) | ((first | refine CT ?_ | (refine DT ?_ ?_ <;> intro hc <;> try (exfalso; omega))) <;> repeat' refine CT ?_) | (first | (refine DSK ?_; clear hA a; intro a hA) | (first | (refine DLT ?_; clear hA hH; rintro _ w ⟨oN, rfl, hH⟩; refine ⟨STT, ?_⟩; intro a hA) | (refine DAT ?_; clear hA; rintro _ w ⟨oN, cN, rfl, hH2⟩; clear hH; have hH := (hH2 _ (by (repeat constructor))).tail; clear hH2; refine ⟨STT, ?_⟩; intro a hA))) )
      exact rt2 (.inl rfl) rfl hA rfl rfl ⟨by rw [e1]; rfl, st_shut bg b hH⟩
    · generalize allocG N g.s k z = r at *
      have e1 : (tryS r g.cy).1 = 2 * (ad : Int) := by unfold tryS; rw [if_pos he, had]
      rw [had] at hA
      repeat' (first | (first | (refine GT ?_ ?_ <;> intro hg <;> clear hA a <;> intro a hA <;> (first | exact FA | replace hg := of_decide_eq_true hg | replace hg := of_decide_eq_false hg | skip)) | (refine QT ?_; clear hA a; intro a hA) | (first | (refine BT ?_; clear hA hH; rintro _ w ⟨bN, rfl, hH⟩ a hA) | (refine LT ?_; clear hA hH; rintro _ w ⟨oN, rfl, hH⟩ a hA) | (refine AT ?_; clear hA; rintro _ w ⟨oN, cN, rfl, hH2⟩ a hA; clear hH; have hH := (hH2 _ (by (repeat constructor))).tail; clear hH2) | (refine S0T ?_; clear hH; rintro _ w hH) )) | ((first | refine CT ?_ | (refine DT ?_ ?_ <;> intro hc <;> try (exfalso; omega))) <;> repeat' refine CT ?_) | (first | (refine DSK ?_; clear hA a; intro a hA) | (first | (refine DLT ?_; clear hA hH; rintro _ w ⟨oN, rfl, hH⟩; refine ⟨STT, ?_⟩; intro a hA) | (refine DAT ?_; clear hA; rintro _ w ⟨oN, cN, rfl, hH2⟩; clear hH; have hH := (hH2 _ (by (repeat constructor))).tail; clear hH2; refine ⟨STT, ?_⟩; intro a hA))) )
      (refine st_op hA rfl rfl (by decide) (op_call rfl rfl rfl (ref_spec _ ad (by omega))) ?_; clear hA; rintro _ w ⟨rfl, hk⟩ a hA; replace hH := hH.keep hk; clear hk)
      repeat' (first | (first | (refine GT ?_ ?_ <;> intro hg <;> clear hA a <;> intro a hA <;> (first | exact FA | replace hg := of_decide_eq_true hg | replace hg := of_decide_eq_false hg | skip)) | (refine QT ?_; clear hA a; intro a hA) | (first | (refine BT ?_; clear hA hH; rintro _ w ⟨bN, rfl, hH⟩ a hA) | (refine LT ?_; clear hA hH; rintro _ w ⟨oN, rfl, hH⟩ a hA) | (refine AT ?_; clear hA; rintro _ w ⟨oN, cN, rfl, hH2⟩ a hA; clear hH; have hH := (hH2 _ (by (repeat constructor))).tail; clear hH2) | (refine S0T ?_; clear hH; rintro _ w hH) )) | ((first | refine CT ?_ | (refine DT ?_ ?_ <;> intro hc <;> try (exfalso; omega))) <;> repeat' refine CT ?_) | (first | (refine DSK ?_; clear hA a; intro a hA) | (first | (refine DLT ?_; clear hA hH; rintro _ w ⟨oN, rfl, hH⟩; refine ⟨STT, ?_⟩; intro a hA) | (refine DAT ?_; clear hA; rintro _ w ⟨oN, cN, rfl, hH2⟩; clear hH; have hH := (hH2 _ (by (repeat constructor))).tail; clear hH2; refine ⟨STT, ?_⟩; intro a hA))) )
      exact rt2 (.inl rfl) rfl hA rfl rfl ⟨by rw [e1]; show _ = Value.tuple #[_, .int .i64 r.2.1]; rw [he], st_shut bg b hH⟩
  have e6 := Decidable.not_not.1 h1
  obtain ⟨f1, f2⟩ := alloc_err hok (k := k) (z := z) (by rw [e6]; decide)
  have hok1 := end_ok hok
  have hcy1 := endS_cy (N := N) (g := g)
  rw [e6] at hA
  rw [f1] at hH
  repeat' (first | (first | (refine GT ?_ ?_ <;> intro hg <;> clear hA a <;> intro a hA <;> (first | exact FA | replace hg := of_decide_eq_true hg | replace hg := of_decide_eq_false hg | skip)) | (refine QT ?_; clear hA a; intro a hA) | (first | (refine BT ?_; clear hA hH; rintro _ w ⟨bN, rfl, hH⟩ a hA) | (refine LT ?_; clear hA hH; rintro _ w ⟨oN, rfl, hH⟩ a hA) | (refine AT ?_; clear hA; rintro _ w ⟨oN, cN, rfl, hH2⟩ a hA; clear hH; have hH := (hH2 _ (by (repeat constructor))).tail; clear hH2) | (refine S0T ?_; clear hH; rintro _ w hH) )) | ((first | refine CT ?_ | (refine DT ?_ ?_ <;> intro hc <;> try (exfalso; omega))) <;> repeat' refine CT ?_) | (first | (refine DSK ?_; clear hA a; intro a hA) | (first | (refine DLT ?_; clear hA hH; rintro _ w ⟨oN, rfl, hH⟩; refine ⟨STT, ?_⟩; intro a hA) | (refine DAT ?_; clear hA; rintro _ w ⟨oN, cN, rfl, hH2⟩; clear hH; have hH := (hH2 _ (by (repeat constructor))).tail; clear hH2; refine ⟨STT, ?_⟩; intro a hA))) )
  replace hH : HS w0 M [stI bs N g] w := st_shut bg b hH
  (refine st_op hA rfl rfl (by decide) (op_call rfl rfl rfl (finish_f hH hok (by omega))) ?_; clear hA hH; rintro _ w hH a hA)
  obtain ⟨bg, b, hH2⟩ := st_open hH
  clear hH
  have hH : HS w0 M [gcI bg b N (endS N g).s, hpI b N (endS N g).s.L, cb bs 86 [.pointer (some (bat bg 0)), .pointer (some (bat b 0)), .int .i64 (endS N g).cy]] w := hH2
  clear hH2
  repeat' (first | (first | (refine GT ?_ ?_ <;> intro hg <;> clear hA a <;> intro a hA <;> (first | exact FA | replace hg := of_decide_eq_true hg | replace hg := of_decide_eq_false hg | skip)) | (refine QT ?_; clear hA a; intro a hA) | (first | (refine BT ?_; clear hA hH; rintro _ w ⟨bN, rfl, hH⟩ a hA) | (refine LT ?_; clear hA hH; rintro _ w ⟨oN, rfl, hH⟩ a hA) | (refine AT ?_; clear hA; rintro _ w ⟨oN, cN, rfl, hH2⟩ a hA; clear hH; have hH := (hH2 _ (by (repeat constructor))).tail; clear hH2) | (refine S0T ?_; clear hH; rintro _ w hH) )) | ((first | refine CT ?_ | (refine DT ?_ ?_ <;> intro hc <;> try (exfalso; omega))) <;> repeat' refine CT ?_) | (first | (refine DSK ?_; clear hA a; intro a hA) | (first | (refine DLT ?_; clear hA hH; rintro _ w ⟨oN, rfl, hH⟩; refine ⟨STT, ?_⟩; intro a hA) | (refine DAT ?_; clear hA; rintro _ w ⟨oN, cN, rfl, hH2⟩; clear hH; have hH := (hH2 _ (by (repeat constructor))).tail; clear hH2; refine ⟨STT, ?_⟩; intro a hA))) )
  (refine st_op hA rfl rfl (by decide) (op_call rfl rfl rfl (galloc_f hH hok1 rfl)) ?_; clear hA hH; rintro _ w ⟨rfl, hH⟩ a hA)
  by_cases h2 : (allocG N (endS N g).s k z).2.1 ≠ 6
  · rw [allocS_2 h1 h2]
    rcases alloc_num hok1 k z with he | ⟨he, ad, had, hle⟩
    · generalize allocG N (endS N g).s k z = r at *
      have e1 : (tryS r (endS N g).cy).1 = 0 := by unfold tryS; rw [if_neg he]
      repeat' (first | (first | (refine GT ?_ ?_ <;> intro hg <;> clear hA a <;> intro a hA <;> (first | exact FA | replace hg := of_decide_eq_true hg | replace hg := of_decide_eq_false hg | skip)) | (refine QT ?_; clear hA a; intro a hA) | (first | (refine BT ?_; clear hA hH; rintro _ w ⟨bN, rfl, hH⟩ a hA) | (refine LT ?_; clear hA hH; rintro _ w ⟨oN, rfl, hH⟩ a hA) | (refine AT ?_; clear hA; rintro _ w ⟨oN, cN, rfl, hH2⟩ a hA; clear hH; have hH := (hH2 _ (by (repeat constructor))).tail; clear hH2) | (refine S0T ?_; clear hH; rintro _ w hH) )) | ((first | refine CT ?_ | (refine DT ?_ ?_ <;> intro hc <;> try (exfalso; omega))) <;> repeat' refine CT ?_) | (first | (refine DSK ?_; clear hA a; intro a hA) | (first | (refine DLT ?_; clear hA hH; rintro _ w ⟨oN, rfl, hH⟩; refine ⟨STT, ?_⟩; intro a hA) | (refine DAT ?_; clear hA; rintro _ w ⟨oN, cN, rfl, hH2⟩; clear hH; have hH := (hH2 _ (by (repeat constructor))).tail; clear hH2; refine ⟨STT, ?_⟩; intro a hA))) )
      exact rt2 (.inl rfl) rfl hA rfl rfl ⟨by rw [e1]; rfl, st_shut bg b hH⟩
    · generalize allocG N (endS N g).s k z = r at *
      have e1 : (tryS r (endS N g).cy).1 = 2 * (ad : Int) := by unfold tryS; rw [if_pos he, had]
      rw [had] at hA
      repeat' (first | (first | (refine GT ?_ ?_ <;> intro hg <;> clear hA a <;> intro a hA <;> (first | exact FA | replace hg := of_decide_eq_true hg | replace hg := of_decide_eq_false hg | skip)) | (refine QT ?_; clear hA a; intro a hA) | (first | (refine BT ?_; clear hA hH; rintro _ w ⟨bN, rfl, hH⟩ a hA) | (refine LT ?_; clear hA hH; rintro _ w ⟨oN, rfl, hH⟩ a hA) | (refine AT ?_; clear hA; rintro _ w ⟨oN, cN, rfl, hH2⟩ a hA; clear hH; have hH := (hH2 _ (by (repeat constructor))).tail; clear hH2) | (refine S0T ?_; clear hH; rintro _ w hH) )) | ((first | refine CT ?_ | (refine DT ?_ ?_ <;> intro hc <;> try (exfalso; omega))) <;> repeat' refine CT ?_) | (first | (refine DSK ?_; clear hA a; intro a hA) | (first | (refine DLT ?_; clear hA hH; rintro _ w ⟨oN, rfl, hH⟩; refine ⟨STT, ?_⟩; intro a hA) | (refine DAT ?_; clear hA; rintro _ w ⟨oN, cN, rfl, hH2⟩; clear hH; have hH := (hH2 _ (by (repeat constructor))).tail; clear hH2; refine ⟨STT, ?_⟩; intro a hA))) )
      (refine st_op hA rfl rfl (by decide) (op_call rfl rfl rfl (ref_spec _ ad (by omega))) ?_; clear hA; rintro _ w ⟨rfl, hk⟩ a hA; replace hH := hH.keep hk; clear hk)
      repeat' (first | (first | (refine GT ?_ ?_ <;> intro hg <;> clear hA a <;> intro a hA <;> (first | exact FA | replace hg := of_decide_eq_true hg | replace hg := of_decide_eq_false hg | skip)) | (refine QT ?_; clear hA a; intro a hA) | (first | (refine BT ?_; clear hA hH; rintro _ w ⟨bN, rfl, hH⟩ a hA) | (refine LT ?_; clear hA hH; rintro _ w ⟨oN, rfl, hH⟩ a hA) | (refine AT ?_; clear hA; rintro _ w ⟨oN, cN, rfl, hH2⟩ a hA; clear hH; have hH := (hH2 _ (by (repeat constructor))).tail; clear hH2) | (refine S0T ?_; clear hH; rintro _ w hH) )) | ((first | refine CT ?_ | (refine DT ?_ ?_ <;> intro hc <;> try (exfalso; omega))) <;> repeat' refine CT ?_) | (first | (refine DSK ?_; clear hA a; intro a hA) | (first | (refine DLT ?_; clear hA hH; rintro _ w ⟨oN, rfl, hH⟩; refine ⟨STT, ?_⟩; intro a hA) | (refine DAT ?_; clear hA; rintro _ w ⟨oN, cN, rfl, hH2⟩; clear hH; have hH := (hH2 _ (by (repeat constructor))).tail; clear hH2; refine ⟨STT, ?_⟩; intro a hA))) )
      exact rt2 (.inl rfl) rfl hA rfl rfl ⟨by rw [e1]; show _ = Value.tuple #[_, .int .i64 r.2.1]; rw [he], st_shut bg b hH⟩
  rw [allocS_3 h1 h2]
  have e6' := Decidable.not_not.1 h2
  obtain ⟨f3, f4⟩ := alloc_err hok1 (k := k) (z := z) (by rw [e6']; decide)
  have hok2 := begS_ok hok1 roots
  have hok3 := end_ok hok2
  rw [e6'] at hA
  rw [f3] at hH
  repeat' (first | (first | (refine GT ?_ ?_ <;> intro hg <;> clear hA a <;> intro a hA <;> (first | exact FA | replace hg := of_decide_eq_true hg | replace hg := of_decide_eq_false hg | skip)) | (refine QT ?_; clear hA a; intro a hA) | (first | (refine BT ?_; clear hA hH; rintro _ w ⟨bN, rfl, hH⟩ a hA) | (refine LT ?_; clear hA hH; rintro _ w ⟨oN, rfl, hH⟩ a hA) | (refine AT ?_; clear hA; rintro _ w ⟨oN, cN, rfl, hH2⟩ a hA; clear hH; have hH := (hH2 _ (by (repeat constructor))).tail; clear hH2) | (refine S0T ?_; clear hH; rintro _ w hH) )) | ((first | refine CT ?_ | (refine DT ?_ ?_ <;> intro hc <;> try (exfalso; omega))) <;> repeat' refine CT ?_) | (first | (refine DSK ?_; clear hA a; intro a hA) | (first | (refine DLT ?_; clear hA hH; rintro _ w ⟨oN, rfl, hH⟩; refine ⟨STT, ?_⟩; intro a hA) | (refine DAT ?_; clear hA; rintro _ w ⟨oN, cN, rfl, hH2⟩; clear hH; have hH := (hH2 _ (by (repeat constructor))).tail; clear hH2; refine ⟨STT, ?_⟩; intro a hA))) )
  (refine st_op hA rfl rfl (by decide) (op_call rfl rfl rfl (gbegin_f hH hok1 hU hl (fun Hc w' h => hrd _ _ h) rfl)) ?_; clear hA hH; rintro _ w ⟨rfl, hH⟩ a hA)
  repeat' (first | (first | (refine GT ?_ ?_ <;> intro hg <;> clear hA a <;> intro a hA <;> (first | exact FA | replace hg := of_decide_eq_true hg | replace hg := of_decide_eq_false hg | skip)) | (refine QT ?_; clear hA a; intro a hA) | (first | (refine BT ?_; clear hA hH; rintro _ w ⟨bN, rfl, hH⟩ a hA) | (refine LT ?_; clear hA hH; rintro _ w ⟨oN, rfl, hH⟩ a hA) | (refine AT ?_; clear hA; rintro _ w ⟨oN, cN, rfl, hH2⟩ a hA; clear hH; have hH := (hH2 _ (by (repeat constructor))).tail; clear hH2) | (refine S0T ?_; clear hH; rintro _ w hH) )) | ((first | refine CT ?_ | (refine DT ?_ ?_ <;> intro hc <;> try (exfalso; omega))) <;> repeat' refine CT ?_) | (first | (refine DSK ?_; clear hA a; intro a hA) | (first | (refine DLT ?_; clear hA hH; rintro _ w ⟨oN, rfl, hH⟩; refine ⟨STT, ?_⟩; intro a hA) | (refine DAT ?_; clear hA; rintro _ w ⟨oN, cN, rfl, hH2⟩; clear hH; have hH := (hH2 _ (by (repeat constructor))).tail; clear hH2; refine ⟨STT, ?_⟩; intro a hA))) )
  replace hH : HS w0 M [stI bs N (begS (endS N g) roots)] w := st_shut bg b hH
  (refine st_op hA rfl rfl (by decide) (op_call rfl rfl rfl (finish_f hH hok2 (by show (endS N g).cy ≤ _; omega))) ?_; clear hA hH; rintro _ w hH a hA)
  obtain ⟨bg, b, hH2⟩ := st_open hH
  clear hH
  have hH : HS w0 M [gcI bg b N (endS N (begS (endS N g) roots)).s, hpI b N (endS N (begS (endS N g) roots)).s.L, cb bs 86 [.pointer (some (bat bg 0)), .pointer (some (bat b 0)), .int .i64 (endS N (begS (endS N g) roots)).cy]] w := hH2
  clear hH2
  repeat' (first | (first | (refine GT ?_ ?_ <;> intro hg <;> clear hA a <;> intro a hA <;> (first | exact FA | replace hg := of_decide_eq_true hg | replace hg := of_decide_eq_false hg | skip)) | (refine QT ?_; clear hA a; intro a hA) | (first | (refine BT ?_; clear hA hH; rintro _ w ⟨bN, rfl, hH⟩ a hA) | (refine LT ?_; clear hA hH; rintro _ w ⟨oN, rfl, hH⟩ a hA) | (refine AT ?_; clear hA; rintro _ w ⟨oN, cN, rfl, hH2⟩ a hA; clear hH; have hH := (hH2 _ (by (repeat constructor))).tail; clear hH2) | (refine S0T ?_; clear hH; rintro _ w hH) )) | ((first | refine CT ?_ | (refine DT ?_ ?_ <;> intro hc <;> try (exfalso; omega))) <;> repeat' refine CT ?_) | (first | (refine DSK ?_; clear hA a; intro a hA) | (first | (refine DLT ?_; clear hA hH; rintro _ w ⟨oN, rfl, hH⟩; refine ⟨STT, ?_⟩; intro a hA) | (refine DAT ?_; clear hA; rintro _ w ⟨oN, cN, rfl, hH2⟩; clear hH; have hH := (hH2 _ (by (repeat constructor))).tail; clear hH2; refine ⟨STT, ?_⟩; intro a hA))) )
  (refine st_op hA rfl rfl (by decide) (op_call rfl rfl rfl (galloc_f hH hok3 rfl)) ?_; clear hA hH; rintro _ w ⟨rfl, hH⟩ a hA)
  rcases alloc_num hok3 k z with he | ⟨he, ad, had, hle⟩
  · generalize allocG N (endS N (begS (endS N g) roots)).s k z = r at *
    have e1 : (tryS r (endS N (begS (endS N g) roots)).cy).1 = 0 := by unfold tryS; rw [if_neg he]
    repeat' (first | (first | (refine GT ?_ ?_ <;> intro hg <;> clear hA a <;> intro a hA <;> (first | exact FA | replace hg := of_decide_eq_true hg | replace hg := of_decide_eq_false hg | skip)) | (refine QT ?_; clear hA a; intro a hA) | (first | (refine BT ?_; clear hA hH; rintro _ w ⟨bN, rfl, hH⟩ a hA) | (refine LT ?_; clear hA hH; rintro _ w ⟨oN, rfl, hH⟩ a hA) | (refine AT ?_; clear hA; rintro _ w ⟨oN, cN, rfl, hH2⟩ a hA; clear hH; have hH := (hH2 _ (by (repeat constructor))).tail; clear hH2) | (refine S0T ?_; clear hH; rintro _ w hH) )) | ((first | refine CT ?_ | (refine DT ?_ ?_ <;> intro hc <;> try (exfalso; omega))) <;> repeat' refine CT ?_) | (first | (refine DSK ?_; clear hA a; intro a hA) | (first | (refine DLT ?_; clear hA hH; rintro _ w ⟨oN, rfl, hH⟩; refine ⟨STT, ?_⟩; intro a hA) | (refine DAT ?_; clear hA; rintro _ w ⟨oN, cN, rfl, hH2⟩; clear hH; have hH := (hH2 _ (by (repeat constructor))).tail; clear hH2; refine ⟨STT, ?_⟩; intro a hA))) )
    exact rt2 (.inl rfl) rfl hA rfl rfl ⟨by rw [e1]; rfl, st_shut bg b hH⟩
  · generalize allocG N (endS N (begS (endS N g) roots)).s k z = r at *
    have e1 : (tryS r (endS N (begS (endS N g) roots)).cy).1 = 2 * (ad : Int) := by unfold tryS; rw [if_pos he, had]
    rw [had] at hA
    repeat' (first | (first | (refine GT ?_ ?_ <;> intro hg <;> clear hA a <;> intro a hA <;> (first | exact FA | replace hg := of_decide_eq_true hg | replace hg := of_decide_eq_false hg | skip)) | (refine QT ?_; clear hA a; intro a hA) | (first | (refine BT ?_; clear hA hH; rintro _ w ⟨bN, rfl, hH⟩ a hA) | (refine LT ?_; clear hA hH; rintro _ w ⟨oN, rfl, hH⟩ a hA) | (refine AT ?_; clear hA; rintro _ w ⟨oN, cN, rfl, hH2⟩ a hA; clear hH; have hH := (hH2 _ (by (repeat constructor))).tail; clear hH2) | (refine S0T ?_; clear hH; rintro _ w hH) )) | ((first | refine CT ?_ | (refine DT ?_ ?_ <;> intro hc <;> try (exfalso; omega))) <;> repeat' refine CT ?_) | (first | (refine DSK ?_; clear hA a; intro a hA) | (first | (refine DLT ?_; clear hA hH; rintro _ w ⟨oN, rfl, hH⟩; refine ⟨STT, ?_⟩; intro a hA) | (refine DAT ?_; clear hA; rintro _ w ⟨oN, cN, rfl, hH2⟩; clear hH; have hH := (hH2 _ (by (repeat constructor))).tail; clear hH2; refine ⟨STT, ?_⟩; intro a hA))) )
    (refine st_op hA rfl rfl (by decide) (op_call rfl rfl rfl (ref_spec _ ad (by omega))) ?_; clear hA; rintro _ w ⟨rfl, hk⟩ a hA; replace hH := hH.keep hk; clear hk)
    repeat' (first | (first | (refine GT ?_ ?_ <;> intro hg <;> clear hA a <;> intro a hA <;> (first | exact FA | replace hg := of_decide_eq_true hg | replace hg := of_decide_eq_false hg | skip)) | (refine QT ?_; clear hA a; intro a hA) | (first | (refine BT ?_; clear hA hH; rintro _ w ⟨bN, rfl, hH⟩ a hA) | (refine LT ?_; clear hA hH; rintro _ w ⟨oN, rfl, hH⟩ a hA) | (refine AT ?_; clear hA; rintro _ w ⟨oN, cN, rfl, hH2⟩ a hA; clear hH; have hH := (hH2 _ (by (repeat constructor))).tail; clear hH2) | (refine S0T ?_; clear hH; rintro _ w hH) )) | ((first | refine CT ?_ | (refine DT ?_ ?_ <;> intro hc <;> try (exfalso; omega))) <;> repeat' refine CT ?_) | (first | (refine DSK ?_; clear hA a; intro a hA) | (first | (refine DLT ?_; clear hA hH; rintro _ w ⟨oN, rfl, hH⟩; refine ⟨STT, ?_⟩; intro a hA) | (refine DAT ?_; clear hA; rintro _ w ⟨oN, cN, rfl, hH2⟩; clear hH; have hH := (hH2 _ (by (repeat constructor))).tail; clear hH2; refine ⟨STT, ?_⟩; intro a hA))) )
    exact rt2 (.inl rfl) rfl hA rfl rfl ⟨by rw [e1]; show _ = Value.tuple #[_, .int .i64 r.2.1]; rw [he], st_shut bg b hH⟩
end Go.Proofs.Ytdfhajdejlhamaa
