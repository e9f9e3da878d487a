/-
  Walks over a way through a tree, where it goes through tags only. Conditions: none.
  The walk over Decide, where it goes through tags only. Conditions: none.
  The law's own calls: which answers the document fixes (awake). Conditions: none.
  The walk over the law MatchCompiles; arguments read. Conditions: none.
  Trees of rows that end with an empty one (plain). Conditions: none.
-/
import Derived.Test.YtcododdkjppmjaaRowLastMg5
namespace Go.Proofs.Ytcododdkjppmjaa
open Go Go.Fw
set_option linter.unusedVariables false
def getF : AP → Pth → Option AP
  | x, [] => some x
  | x, s :: p => if x.k = 8 ∧ s = emp then (match x.ps with | a :: _ => getF a p | [] => none) else none
theorem getF_step {x y : AP} {s : ByteArray} {p : Pth} (h : getF x (s :: p) = some y) : x.k = 8 ∧ s = emp ∧ ∃ a r, x.ps = a :: r ∧ getF a p = some y := by
  rw [getF] at h
  split at h
  · rename_i h1
    split at h
    · rename_i a r hp
      exact ⟨h1.1, h1.2, a, r, hp, h⟩
    · cases h
  · cases h
theorem cls_fld {w0 : World} {b i : Nat} {vs : List Value} {v : Value} (h : Cls (HS w0 noM []) (bat b 0) vs) (hv : nth vs i = some v) (H : List It) : Cl (HS w0 noM H) (bat b (0 + i)) v := by
  intro w hw
  rw [nth_eq] at hv
  have := h w hw.drop_ i v hv
  rwa [bat_add] at this
set_option maxRecDepth 10000 attribute [local irreducible] Code.wp wpList Calls Ex Op1 sat bat blk cb own Go.Fw.mp Go.Fw.mpO Go.Fw.mpI Go.Fw.mpE Go.Fw.itr HS Rd Ret wkD Hp Cl Cls Exit.then Exit.inBlock Exit.noGoto bodyPost Go.Fw.flat wk2 Go.Fw.all Go.Fw.owns wpOp
attribute [local irreducible] encA encC encB encL getF

set_option maxHeartbeats 4000000 in
theorem get_spec (w0 : World) (x y : AP) (o : Option Addr) (c : Nat) (q : Pth) (hx : RdA w0 x) (hq : RdQ w0 o c q) (hl : q.length ≤ 1000) (hg : getF x q = some y) :
    Ret Try.prog 29 #[.agg #[.int .i64 x.k, .int .i64 x.v, .int .i64 x.n, .string x.s, .slice x.ol x.ls.length x.cl, .slice x.oa x.ps.length x.ca], .slice o q.length c] w0 (fun v w => v = .tuple #[.agg #[.int .i64 y.k, .int .i64 y.v, .int .i64 y.n, .string y.s, .slice y.ol y.ls.length y.cl, .slice y.oa y.ps.length y.ca], .bool true] ∧ RdA w0 y ∧ Kp w0 noM w) := by
  have hH : HS w0 noM [] w0 := HS.init w0 noM
  have hsp : Sp o q.length := hq.1.sp (sz := 1) (flat_length encX_len q) (by omega)
  (refine enter (N := 51) Try.func29 rfl Try.ntmps29 rfl ?_; intro a hA; dsimp only [sl0, Nat.reduceAdd] at hA)
  repeat' (first | (first | (refine GT ?_ ?_ <;> intro hg <;> clear hA a <;> intro a hA <;> (first | exact FA | replace hg := of_decide_eq_true hg | replace hg := of_decide_eq_false hg | skip)) | (refine QT ?_; clear hA a; intro a hA) | (first | (refine BT ?_; clear hA hH; rintro _ w ⟨bN, rfl, hH⟩ a hA) | (refine LT ?_; clear hA hH; rintro _ w ⟨oN, rfl, hH⟩ a hA) | (refine AT ?_; clear hA; rintro _ w ⟨oN, cN, rfl, hH2⟩ a hA; clear hH; have hH := (hH2 _ (by (repeat constructor))).tail; clear hH2) | (refine S0T ?_; clear hH; rintro _ w hH) )) | ((first | refine CT ?_ | (refine DT ?_ ?_ <;> intro hc <;> try (exfalso; omega))) <;> repeat' refine CT ?_) | (first | (refine DSK ?_; clear hA a; intro a hA) | (first | (refine DLT ?_; clear hA hH; rintro _ w ⟨oN, rfl, hH⟩; refine ⟨STT, ?_⟩; intro a hA) | (refine DAT ?_; clear hA; rintro _ w ⟨oN, cN, rfl, hH2⟩; clear hH; have hH := (hH2 _ (by (repeat constructor))).tail; clear hH2; refine ⟨STT, ?_⟩; intro a hA))) )
  obtain ⟨b4, hb4⟩ : ∃ b, b = bN := ⟨_, rfl⟩
  rw [← hb4] at hA hH
  clear hb4 bN
  obtain ⟨b2, hb2⟩ : ∃ b, b = bN := ⟨_, rfl⟩
  rw [← hb2] at hA hH
  clear hb2 bN
  refine wp_lpk (S := Nat) (fun i a w => ∃ z : AP, (i ≤ q.length ∧ RdA w0 z ∧ getF z (q.drop i) = some y) ∧ HS w0 noM [Go.Fw.cb b4 38 [.int .i64 ap0.k, .int .i64 ap0.v, .int .i64 ap0.n, .string ap0.s, .slice ap0.ol ap0.ls.length ap0.cl, .slice ap0.oa ap0.ps.length ap0.ca], Go.Fw.cb b2 38 [.int .i64 z.k, .int .i64 z.v, .int .i64 z.n, .string z.s, .slice z.ol z.ls.length z.cl, .slice z.oa z.ps.length z.ca]] w ∧ Sl 51 [(2, .pointer (some (bat b2 0))), (4, .pointer (some (bat b4 0))), (9, .slice o q.length c), (10, .int .i64 q.length), (11, .int .i64 i)] a) (fun i => q.length - i)
    (fun a w => RdA w0 y ∧ HS w0 noM [Go.Fw.cb b4 38 [.int .i64 ap0.k, .int .i64 ap0.v, .int .i64 ap0.n, .string ap0.s, .slice ap0.ol ap0.ls.length ap0.cl, .slice ap0.oa ap0.ps.length ap0.ca], Go.Fw.cb b2 38 [.int .i64 y.k, .int .i64 y.v, .int .i64 y.n, .string y.s, .slice y.ol y.ls.length y.cl, .slice y.oa y.ps.length y.ca]] w ∧ Sl 51 [(2, .pointer (some (bat b2 0))), (4, .pointer (some (bat b4 0)))] a) 0 ⟨x, ⟨Nat.zero_le _, hx, hg⟩, hH, (hA.sub (by (repeat (first | exact trivial | refine ⟨rfl, ?_⟩))))⟩ ?_ ?_
  rotate_left
  · clear hA hH
    rintro a w ⟨hy, hH, hA⟩
    repeat' (first | (first | (refine GT ?_ ?_ <;> intro hg <;> clear hA a <;> intro a hA <;> (first | exact FA | replace hg := of_decide_eq_true hg | replace hg := of_decide_eq_false hg | skip)) | (refine QT ?_; clear hA a; intro a hA) | (first | (refine BT ?_; clear hA hH; rintro _ w ⟨bN, rfl, hH⟩ a hA) | (refine LT ?_; clear hA hH; rintro _ w ⟨oN, rfl, hH⟩ a hA) | (refine AT ?_; clear hA; rintro _ w ⟨oN, cN, rfl, hH2⟩ a hA; clear hH; have hH := (hH2 _ (by (repeat constructor))).tail; clear hH2) | (refine S0T ?_; clear hH; rintro _ w hH) | (apply st_op0 hA rfl rfl; apply op_store_agg (vs := [.int .i64 y.k, .int .i64 y.v, .int .i64 y.n, .string y.s, .slice y.ol y.ls.length y.cl, .slice y.oa y.ps.length y.ca]); rfl; rfl; exact hH; (repeat constructor); (repeat rfl); clear hH; rintro _ w hH))) | ((first | refine CT ?_ | (refine DT ?_ ?_ <;> intro hc <;> try (exfalso; omega))) <;> repeat' refine CT ?_) | (first | (refine DSK ?_; clear hA a; intro a hA) | (first | (refine DLT ?_; clear hA hH; rintro _ w ⟨oN, rfl, hH⟩; refine ⟨STT, ?_⟩; intro a hA) | (refine DAT ?_; clear hA; rintro _ w ⟨oN, cN, rfl, hH2⟩; clear hH; have hH := (hH2 _ (by (repeat constructor))).tail; clear hH2; refine ⟨STT, ?_⟩; intro a hA))) )
    exact rt2c (vs := [.int .i64 y.k, .int .i64 y.v, .int .i64 y.n, .string y.s, .slice y.ol y.ls.length y.cl, .slice y.oa y.ps.length y.ca]) (.inl rfl) rfl hA rfl rfl rfl hH (cls_cb_all (by exact MEMT)) ⟨rfl, hy, hH.kp⟩
  clear hA hH
  rintro i a w ⟨z, ⟨hi, hz, hgz⟩, hH, hA⟩
  by_cases hlt : i < q.length
  rotate_left
  · rw [List.drop_of_length_le (by omega)] at hgz
    have e1 : z = y := by unfold getF at hgz; exact Option.some.inj hgz
    subst e1
    repeat' (first | (first | (refine GT ?_ ?_ <;> intro hg <;> clear hA a <;> intro a hA <;> (first | exact FA | replace hg := of_decide_eq_true hg | replace hg := of_decide_eq_false hg | skip)) | (refine QT ?_; clear hA a; intro a hA) | (first | (refine BT ?_; clear hA hH; rintro _ w ⟨bN, rfl, hH⟩ a hA) | (refine LT ?_; clear hA hH; rintro _ w ⟨oN, rfl, hH⟩ a hA) | (refine AT ?_; clear hA; rintro _ w ⟨oN, cN, rfl, hH2⟩ a hA; clear hH; have hH := (hH2 _ (by (repeat constructor))).tail; clear hH2) | (refine S0T ?_; clear hH; rintro _ w hH) )) | ((first | refine CT ?_ | (refine DT ?_ ?_ <;> intro hc <;> try (exfalso; omega))) <;> repeat' refine CT ?_) | (first | (refine DSK ?_; clear hA a; intro a hA) | (first | (refine DLT ?_; clear hA hH; rintro _ w ⟨oN, rfl, hH⟩; refine ⟨STT, ?_⟩; intro a hA) | (refine DAT ?_; clear hA; rintro _ w ⟨oN, cN, rfl, hH2⟩; clear hH; have hH := (hH2 _ (by (repeat constructor))).tail; clear hH2; refine ⟨STT, ?_⟩; intro a hA))) )
    exact ⟨hz, hH, (hA.sub (by (repeat (first | exact trivial | refine ⟨rfl, ?_⟩))))⟩
  obtain ⟨s, hs⟩ : ∃ s, q[i]? = some s := ⟨_, List.getElem?_eq_getElem hlt⟩
  have hd : q.drop i = s :: q.drop (i + 1) := by
    obtain ⟨h1, h2⟩ := List.getElem?_eq_some_iff.1 hs
    rw [List.drop_eq_getElem_cons h1, h2]
  rw [hd] at hgz
  obtain ⟨h8, hse, arg, r, hps, hga⟩ := getF_step hgz
  have hcx := encX_at hs
  rw [hse] at hcx
  have hav := flat_all encA_len (l := z.ps) (i := 0) (x := arg) (by rw [hps]; rfl)
  rw [encA_eq] at hav
  have hzl : 0 < z.ps.length := by rw [hps]; exact Nat.succ_pos _
  have hspA : Sp z.oa z.ps.length := hz.a.sp (sz := 6) (flat_length encA_len z.ps) (by omega)
  have hzl2 := hz.c
  unfold maxLen at hzl2
  repeat' (first | (first | (refine GT ?_ ?_ <;> intro hg <;> clear hA a <;> intro a hA <;> (first | exact FA | replace hg := of_decide_eq_true hg | replace hg := of_decide_eq_false hg | skip)) | ((first | apply st_ex hA hH rfl rfl (by decide) | apply dr_ex hA rfl rfl rfl (by decide) | apply dr_exp hA rfl rfl rfl (by decide) | apply dr_ex3 hA hH rfl rfl rfl (by decide)); (first | (apply ex_load; rfl; exact cl_rd hq.1 id hcx) | (apply ex_eqlX; rfl; rfl) | (apply ex_neqX; rfl; rfl) | (apply ex_load_st (vs := [.int .i64 arg.k, .int .i64 arg.v, .int .i64 arg.n, .string arg.s, .slice arg.ol arg.ls.length arg.cl, .slice arg.oa arg.ps.length arg.ca]); rfl; rfl; exact cls_rd hz.a id hav)); clear hA a; intro a hA) | (refine QT ?_; clear hA a; intro a hA) | (first | (refine BT ?_; clear hA hH; rintro _ w ⟨bN, rfl, hH⟩ a hA) | (refine LT ?_; clear hA hH; rintro _ w ⟨oN, rfl, hH⟩ a hA) | (refine AT ?_; clear hA; rintro _ w ⟨oN, cN, rfl, hH2⟩ a hA; clear hH; have hH := (hH2 _ (by (repeat constructor))).tail; clear hH2) | (refine S0T ?_; clear hH; rintro _ w hH) | (apply st_op0 hA rfl rfl; apply op_store_agg (vs := [.int .i64 arg.k, .int .i64 arg.v, .int .i64 arg.n, .string arg.s, .slice arg.ol arg.ls.length arg.cl, .slice arg.oa arg.ps.length arg.ca]); rfl; rfl; exact hH; (repeat constructor); (repeat rfl); clear hH; rintro _ w hH))) | ((first | refine CT ?_ | (refine DT ?_ ?_ <;> intro hc <;> try (exfalso; omega))) <;> repeat' refine CT ?_) | (first | (refine DSK ?_; clear hA a; intro a hA) | (first | (refine DLT ?_; clear hA hH; rintro _ w ⟨oN, rfl, hH⟩; refine ⟨STT, ?_⟩; intro a hA) | (refine DAT ?_; clear hA; rintro _ w ⟨oN, cN, rfl, hH2⟩; clear hH; have hH := (hH2 _ (by (repeat constructor))).tail; clear hH2; refine ⟨STT, ?_⟩; intro a hA))) )
  all_goals (try (exfalso; omega))
  all_goals (try exact absurd rfl (by assumption))
  exact ⟨i + 1, ⟨arg, ⟨hlt, hz.s arg (by rw [hps]; exact .head _), hga⟩, hH, (hA.sub (by (repeat (first | exact trivial | refine ⟨rfl, ?_⟩))))⟩, by omega⟩
theorem copied_spec (w0 : World) (g : Hd) : Ret Try.prog 33 #[.agg #[.int .i64 g.ap.k, .int .i64 g.ap.v, .int .i64 g.ap.n, .string g.ap.s, .slice g.ap.ol g.ap.ls.length g.ap.cl, .slice g.ap.oa g.ap.ps.length g.ap.ca]] w0 (fun v w => ∃ y : AP, v = .agg #[.int .i64 y.k, .int .i64 y.v, .int .i64 y.n, .string y.s, .slice y.ol y.ls.length y.cl, .slice y.oa y.ps.length y.ca] ∧ y.hd = g ∧ Kp w0 noM w) := by
  have hH : HS w0 noM [] w0 := HS.init w0 noM
  (refine enter (N := 29) Try.func33 rfl Try.ntmps33 rfl ?_; intro a hA; dsimp only [sl0, Nat.reduceAdd] at hA)
  repeat' (first | (first | (refine GT ?_ ?_ <;> intro hg <;> clear hA a <;> intro a hA <;> (first | exact FA | replace hg := of_decide_eq_true hg | replace hg := of_decide_eq_false hg | skip)) | (refine QT ?_; clear hA a; intro a hA) | (first | (refine BT ?_; clear hA hH; rintro _ w ⟨bN, rfl, hH⟩ a hA) | (refine LT ?_; clear hA hH; rintro _ w ⟨oN, rfl, hH⟩ a hA) | (refine AT ?_; clear hA; rintro _ w ⟨oN, cN, rfl, hH2⟩ a hA; clear hH; have hH := (hH2 _ (by (repeat constructor))).tail; clear hH2) | (refine S0T ?_; clear hH; rintro _ w hH) )) | ((first | refine CT ?_ | (refine DT ?_ ?_ <;> intro hc <;> try (exfalso; omega))) <;> repeat' refine CT ?_) | (first | (refine DSK ?_; clear hA a; intro a hA) | (first | (refine DLT ?_; clear hA hH; rintro _ w ⟨oN, rfl, hH⟩; refine ⟨STT, ?_⟩; intro a hA) | (refine DAT ?_; clear hA; rintro _ w ⟨oN, cN, rfl, hH2⟩; clear hH; have hH := (hH2 _ (by (repeat constructor))).tail; clear hH2; refine ⟨STT, ?_⟩; intro a hA))) )
  obtain ⟨b2, hb2⟩ : ∃ b, b = bN := ⟨_, rfl⟩
  rw [← hb2] at hA hH
  clear hb2 bN
  obtain ⟨b1, hb1⟩ : ∃ b, b = bN := ⟨_, rfl⟩
  rw [← hb1] at hA hH
  clear hb1 bN
  (refine st_op hA rfl rfl (by decide) (op_call rfl rfl rfl (cloneX_spec _ none 0 0 [] (Rd_none _) rfl rfl (fun _ => rfl) (by omega))) ?_; clear hA; rintro _ w ⟨o1, c1, rfl, hj⟩ a hA; replace hH := hH.join hj; clear hj)
  repeat' (first | (first | (refine GT ?_ ?_ <;> intro hg <;> clear hA a <;> intro a hA <;> (first | exact FA | replace hg := of_decide_eq_true hg | replace hg := of_decide_eq_false hg | skip)) | (refine QT ?_; clear hA a; intro a hA) | (first | (refine BT ?_; clear hA hH; rintro _ w ⟨bN, rfl, hH⟩ a hA) | (refine LT ?_; clear hA hH; rintro _ w ⟨oN, rfl, hH⟩ a hA) | (refine AT ?_; clear hA; rintro _ w ⟨oN, cN, rfl, hH2⟩ a hA; clear hH; have hH := (hH2 _ (by (repeat constructor))).tail; clear hH2) | (refine S0T ?_; clear hH; rintro _ w hH) )) | ((first | refine CT ?_ | (refine DT ?_ ?_ <;> intro hc <;> try (exfalso; omega))) <;> repeat' refine CT ?_) | (first | (refine DSK ?_; clear hA a; intro a hA) | (first | (refine DLT ?_; clear hA hH; rintro _ w ⟨oN, rfl, hH⟩; refine ⟨STT, ?_⟩; intro a hA) | (refine DAT ?_; clear hA; rintro _ w ⟨oN, cN, rfl, hH2⟩; clear hH; have hH := (hH2 _ (by (repeat constructor))).tail; clear hH2; refine ⟨STT, ?_⟩; intro a hA))) )
  (apply st_op0 hA rfl rfl; apply op_store_fld (cs' := [.int .i64 g.k, .int .i64 0, .int .i64 g.n, .string g.s, .slice o1 0 c1, .slice none 0 0]); rfl; rfl; rfl; exact hH; (repeat constructor); clear hH; rintro _ w hH)
  repeat' (first | (first | (refine GT ?_ ?_ <;> intro hg <;> clear hA a <;> intro a hA <;> (first | exact FA | replace hg := of_decide_eq_true hg | replace hg := of_decide_eq_false hg | skip)) | (refine QT ?_; clear hA a; intro a hA) | (first | (refine BT ?_; clear hA hH; rintro _ w ⟨bN, rfl, hH⟩ a hA) | (refine LT ?_; clear hA hH; rintro _ w ⟨oN, rfl, hH⟩ a hA) | (refine AT ?_; clear hA; rintro _ w ⟨oN, cN, rfl, hH2⟩ a hA; clear hH; have hH := (hH2 _ (by (repeat constructor))).tail; clear hH2) | (refine S0T ?_; clear hH; rintro _ w hH) )) | ((first | refine CT ?_ | (refine DT ?_ ?_ <;> intro hc <;> try (exfalso; omega))) <;> repeat' refine CT ?_) | (first | (refine DSK ?_; clear hA a; intro a hA) | (first | (refine DLT ?_; clear hA hH; rintro _ w ⟨oN, rfl, hH⟩; refine ⟨STT, ?_⟩; intro a hA) | (refine DAT ?_; clear hA; rintro _ w ⟨oN, cN, rfl, hH2⟩; clear hH; have hH := (hH2 _ (by (repeat constructor))).tail; clear hH2; refine ⟨STT, ?_⟩; intro a hA))) )
  (refine st_op hA rfl rfl (by decide) (op_call rfl rfl rfl (cloneA_spec _ none 0 0 [] (Rd_none _) rfl rfl (fun _ => rfl) (by omega))) ?_; clear hA; rintro _ w ⟨o2, c2, rfl, hj⟩ a hA; replace hH := hH.join hj; clear hj)
  repeat' (first | (first | (refine GT ?_ ?_ <;> intro hg <;> clear hA a <;> intro a hA <;> (first | exact FA | replace hg := of_decide_eq_true hg | replace hg := of_decide_eq_false hg | skip)) | (refine QT ?_; clear hA a; intro a hA) | (first | (refine BT ?_; clear hA hH; rintro _ w ⟨bN, rfl, hH⟩ a hA) | (refine LT ?_; clear hA hH; rintro _ w ⟨oN, rfl, hH⟩ a hA) | (refine AT ?_; clear hA; rintro _ w ⟨oN, cN, rfl, hH2⟩ a hA; clear hH; have hH := (hH2 _ (by (repeat constructor))).tail; clear hH2) | (refine S0T ?_; clear hH; rintro _ w hH) )) | ((first | refine CT ?_ | (refine DT ?_ ?_ <;> intro hc <;> try (exfalso; omega))) <;> repeat' refine CT ?_) | (first | (refine DSK ?_; clear hA a; intro a hA) | (first | (refine DLT ?_; clear hA hH; rintro _ w ⟨oN, rfl, hH⟩; refine ⟨STT, ?_⟩; intro a hA) | (refine DAT ?_; clear hA; rintro _ w ⟨oN, cN, rfl, hH2⟩; clear hH; have hH := (hH2 _ (by (repeat constructor))).tail; clear hH2; refine ⟨STT, ?_⟩; intro a hA))) )
  (apply st_op0 hA rfl rfl; apply op_store_fld (cs' := [.int .i64 g.k, .int .i64 0, .int .i64 g.n, .string g.s, .slice o1 0 c1, .slice o2 0 c2]); rfl; rfl; rfl; exact hH; (repeat constructor); clear hH; rintro _ w hH)
  repeat' (first | (first | (refine GT ?_ ?_ <;> intro hg <;> clear hA a <;> intro a hA <;> (first | exact FA | replace hg := of_decide_eq_true hg | replace hg := of_decide_eq_false hg | skip)) | (refine QT ?_; clear hA a; intro a hA) | (first | (refine BT ?_; clear hA hH; rintro _ w ⟨bN, rfl, hH⟩ a hA) | (refine LT ?_; clear hA hH; rintro _ w ⟨oN, rfl, hH⟩ a hA) | (refine AT ?_; clear hA; rintro _ w ⟨oN, cN, rfl, hH2⟩ a hA; clear hH; have hH := (hH2 _ (by (repeat constructor))).tail; clear hH2) | (refine S0T ?_; clear hH; rintro _ w hH) )) | ((first | refine CT ?_ | (refine DT ?_ ?_ <;> intro hc <;> try (exfalso; omega))) <;> repeat' refine CT ?_) | (first | (refine DSK ?_; clear hA a; intro a hA) | (first | (refine DLT ?_; clear hA hH; rintro _ w ⟨oN, rfl, hH⟩; refine ⟨STT, ?_⟩; intro a hA) | (refine DAT ?_; clear hA; rintro _ w ⟨oN, cN, rfl, hH2⟩; clear hH; have hH := (hH2 _ (by (repeat constructor))).tail; clear hH2; refine ⟨STT, ?_⟩; intro a hA))) )
  refine wp_lpk (S := Nat) (fun i a w => i = 0 ∧ HS w0 noM _ w ∧ Sl 29 [(1, .pointer (some (bat b1 0))), (2, .pointer (some (bat b2 0))), (15, .int .i64 0), (16, .int .i64 i)] a) (fun i => 0) (fun a w => HS w0 noM [cb b2 38 [.int .i64 0, .int .i64 0, .int .i64 0, .string ByteArray.empty, .slice none 0 0, .slice none 0 0], cb b1 38 [.int .i64 g.k, .int .i64 0, .int .i64 g.n, .string g.s, .slice o1 0 c1, .slice o2 0 c2]] w ∧ Sl 29 [(1, .pointer (some (bat b1 0))), (2, .pointer (some (bat b2 0)))] a) 0 ⟨rfl, hH, (hA.sub (by (repeat (first | exact trivial | refine ⟨rfl, ?_⟩))))⟩ ?_ ?_
  · clear hA hH
    rintro i a w ⟨rfl, hH, hA⟩
    repeat' (first | (first | (refine GT ?_ ?_ <;> intro hg <;> clear hA a <;> intro a hA <;> (first | exact FA | replace hg := of_decide_eq_true hg | replace hg := of_decide_eq_false hg | skip)) | (refine QT ?_; clear hA a; intro a hA) | (first | (refine BT ?_; clear hA hH; rintro _ w ⟨bN, rfl, hH⟩ a hA) | (refine LT ?_; clear hA hH; rintro _ w ⟨oN, rfl, hH⟩ a hA) | (refine AT ?_; clear hA; rintro _ w ⟨oN, cN, rfl, hH2⟩ a hA; clear hH; have hH := (hH2 _ (by (repeat constructor))).tail; clear hH2) | (refine S0T ?_; clear hH; rintro _ w hH) )) | ((first | refine CT ?_ | (refine DT ?_ ?_ <;> intro hc <;> try (exfalso; omega))) <;> repeat' refine CT ?_) | (first | (refine DSK ?_; clear hA a; intro a hA) | (first | (refine DLT ?_; clear hA hH; rintro _ w ⟨oN, rfl, hH⟩; refine ⟨STT, ?_⟩; intro a hA) | (refine DAT ?_; clear hA; rintro _ w ⟨oN, cN, rfl, hH2⟩; clear hH; have hH := (hH2 _ (by (repeat constructor))).tail; clear hH2; refine ⟨STT, ?_⟩; intro a hA))) )
    exact ⟨(hH.er 0).er 0, (hA.sub (by (repeat (first | exact trivial | refine ⟨rfl, ?_⟩))))⟩
  clear hA hH
  rintro a w ⟨hH, hA⟩
  repeat' (first | (first | (refine GT ?_ ?_ <;> intro hg <;> clear hA a <;> intro a hA <;> (first | exact FA | replace hg := of_decide_eq_true hg | replace hg := of_decide_eq_false hg | skip)) | (refine QT ?_; clear hA a; intro a hA) | (first | (refine BT ?_; clear hA hH; rintro _ w ⟨bN, rfl, hH⟩ a hA) | (refine LT ?_; clear hA hH; rintro _ w ⟨oN, rfl, hH⟩ a hA) | (refine AT ?_; clear hA; rintro _ w ⟨oN, cN, rfl, hH2⟩ a hA; clear hH; have hH := (hH2 _ (by (repeat constructor))).tail; clear hH2) | (refine S0T ?_; clear hH; rintro _ w hH) | (apply st_op0 hA rfl rfl; apply op_store_agg (vs := [.int .i64 (AP.mk g.k 0 g.n g.s o1 c1 [] o2 c2 []).k, .int .i64 (AP.mk g.k 0 g.n g.s o1 c1 [] o2 c2 []).v, .int .i64 (AP.mk g.k 0 g.n g.s o1 c1 [] o2 c2 []).n, .string (AP.mk g.k 0 g.n g.s o1 c1 [] o2 c2 []).s, .slice (AP.mk g.k 0 g.n g.s o1 c1 [] o2 c2 []).ol (AP.mk g.k 0 g.n g.s o1 c1 [] o2 c2 []).ls.length (AP.mk g.k 0 g.n g.s o1 c1 [] o2 c2 []).cl, .slice (AP.mk g.k 0 g.n g.s o1 c1 [] o2 c2 []).oa (AP.mk g.k 0 g.n g.s o1 c1 [] o2 c2 []).ps.length (AP.mk g.k 0 g.n g.s o1 c1 [] o2 c2 []).ca]); rfl; rfl; exact hH; (repeat constructor); (repeat rfl); clear hH; rintro _ w hH))) | ((first | refine CT ?_ | (refine DT ?_ ?_ <;> intro hc <;> try (exfalso; omega))) <;> repeat' refine CT ?_) | (first | (refine DSK ?_; clear hA a; intro a hA) | (first | (refine DLT ?_; clear hA hH; rintro _ w ⟨oN, rfl, hH⟩; refine ⟨STT, ?_⟩; intro a hA) | (refine DAT ?_; clear hA; rintro _ w ⟨oN, cN, rfl, hH2⟩; clear hH; have hH := (hH2 _ (by (repeat constructor))).tail; clear hH2; refine ⟨STT, ?_⟩; intro a hA))) )
  exact rt1c (vs := [.int .i64 (AP.mk g.k 0 g.n g.s o1 c1 [] o2 c2 []).k, .int .i64 (AP.mk g.k 0 g.n g.s o1 c1 [] o2 c2 []).v, .int .i64 (AP.mk g.k 0 g.n g.s o1 c1 [] o2 c2 []).n, .string (AP.mk g.k 0 g.n g.s o1 c1 [] o2 c2 []).s, .slice (AP.mk g.k 0 g.n g.s o1 c1 [] o2 c2 []).ol (AP.mk g.k 0 g.n g.s o1 c1 [] o2 c2 []).ls.length (AP.mk g.k 0 g.n g.s o1 c1 [] o2 c2 []).cl, .slice (AP.mk g.k 0 g.n g.s o1 c1 [] o2 c2 []).oa (AP.mk g.k 0 g.n g.s o1 c1 [] o2 c2 []).ps.length (AP.mk g.k 0 g.n g.s o1 c1 [] o2 c2 []).ca]) (.inl rfl) rfl hA rfl rfl hH (cls_cb_all (by exact MEMT)) ⟨_, rfl, rfl, hH.kp⟩
theorem dec1_spec (w0 : World) (t : MT) (b : Nat) (y : AP) (hc : Cls (HS w0 noM []) (bat b 0) [.int .i64 y.k, .int .i64 y.v, .int .i64 y.n, .string y.s, .slice y.ol y.ls.length y.cl, .slice y.oa y.ps.length y.ca]) :
    Ret Try.prog 31 #[.agg (encR t).toArray, .pointer (some (bat b 0))] w0 (fun v w => v = .bool (decide (t.h = y.hd)) ∧ Kp w0 noM w) := by
  have hH : HS w0 noM [] w0 := HS.init w0 noM
  have c0 := cls_fld (i := 0) hc rfl
  have c2 := cls_fld (i := 2) hc rfl
  have c3 := cls_fld (i := 3) hc rfl
  (refine enter (N := 14) Try.func31 rfl Try.ntmps31 rfl ?_; intro a hA; dsimp only [sl0, Nat.reduceAdd] at hA)
  repeat' (first | (first | (refine GT ?_ ?_ <;> intro hg <;> clear hA a <;> intro a hA <;> (first | exact FA | replace hg := of_decide_eq_true hg | replace hg := of_decide_eq_false hg | skip)) | ((first | apply st_ex hA hH rfl rfl (by decide) | apply dr_ex hA rfl rfl rfl (by decide) | apply dr_exp hA rfl rfl rfl (by decide) | apply dr_ex3 hA hH rfl rfl rfl (by decide)); (first | (apply ex_load_st (vs := [.int .i64 t.h.ap.k, .int .i64 t.h.ap.v, .int .i64 t.h.ap.n, .string t.h.ap.s, .slice t.h.ap.ol t.h.ap.ls.length t.h.ap.cl, .slice t.h.ap.oa t.h.ap.ps.length t.h.ap.ca]); rfl; rfl; exact cls_box MEMT (encR_head t)) | (apply ex_load; rfl; exact c0 _) | (apply ex_load; rfl; exact c2 _) | (apply ex_load; rfl; exact c3 _) | (apply ex_build_p #[.int .i64 y.hd.ap.k, .int .i64 y.hd.ap.v, .int .i64 y.hd.ap.n, .string y.hd.ap.s, .slice y.hd.ap.ol y.hd.ap.ls.length y.hd.ap.cl, .slice y.hd.ap.oa y.hd.ap.ps.length y.hd.ap.ca]; rfl; (repeat (first | (intro _ h; exact absurd h (List.not_mem_nil)) | (refine List.forall_mem_cons.2 ⟨one_cell_of _ _, ?_⟩))); rfl)); clear hA a; intro a hA) | (refine QT ?_; clear hA a; intro a hA) | (first | (refine BT ?_; clear hA hH; rintro _ w ⟨bN, rfl, hH⟩ a hA) | (refine LT ?_; clear hA hH; rintro _ w ⟨oN, rfl, hH⟩ a hA) | (refine AT ?_; clear hA; rintro _ w ⟨oN, cN, rfl, hH2⟩ a hA; clear hH; have hH := (hH2 _ (by (repeat constructor))).tail; clear hH2) | (refine S0T ?_; clear hH; rintro _ w hH) )) | ((first | refine CT ?_ | (refine DT ?_ ?_ <;> intro hc <;> try (exfalso; omega))) <;> repeat' refine CT ?_) | (first | (refine DSK ?_; clear hA a; intro a hA) | (first | (refine DLT ?_; clear hA hH; rintro _ w ⟨oN, rfl, hH⟩; refine ⟨STT, ?_⟩; intro a hA) | (refine DAT ?_; clear hA; rintro _ w ⟨oN, cN, rfl, hH2⟩; clear hH; have hH := (hH2 _ (by (repeat constructor))).tail; clear hH2; refine ⟨STT, ?_⟩; intro a hA))) )
  (refine st_op hA rfl rfl (by decide) (op_call rfl rfl rfl (is_spec _ t.h.ap y.hd.ap)) ?_; clear hA; rintro _ w ⟨rfl, hk⟩ a hA; replace hH := hH.keep hk; clear hk)
  repeat' (first | (first | (refine GT ?_ ?_ <;> intro hg <;> clear hA a <;> intro a hA <;> (first | exact FA | replace hg := of_decide_eq_true hg | replace hg := of_decide_eq_false hg | skip)) | (refine QT ?_; clear hA a; intro a hA) | (first | (refine BT ?_; clear hA hH; rintro _ w ⟨bN, rfl, hH⟩ a hA) | (refine LT ?_; clear hA hH; rintro _ w ⟨oN, rfl, hH⟩ a hA) | (refine AT ?_; clear hA; rintro _ w ⟨oN, cN, rfl, hH2⟩ a hA; clear hH; have hH := (hH2 _ (by (repeat constructor))).tail; clear hH2) | (refine S0T ?_; clear hH; rintro _ w hH) )) | ((first | refine CT ?_ | (refine DT ?_ ?_ <;> intro hc <;> try (exfalso; omega))) <;> repeat' refine CT ?_) | (first | (refine DSK ?_; clear hA a; intro a hA) | (first | (refine DLT ?_; clear hA hH; rintro _ w ⟨oN, rfl, hH⟩; refine ⟨STT, ?_⟩; intro a hA) | (refine DAT ?_; clear hA; rintro _ w ⟨oN, cN, rfl, hH2⟩; clear hH; have hH := (hH2 _ (by (repeat constructor))).tail; clear hH2; refine ⟨STT, ?_⟩; intro a hA))) )
  exact rt1 (.inl rfl) rfl hA rfl ⟨rfl, hH.kp⟩
end Go.Proofs.Ytcododdkjppmjaa
namespace Go.Proofs.Ytcododdkjppmjaa
open Go Go.Fw
set_option linter.unusedVariables false
def Tr.h : Tr → Hd | mk h _ _ _ _ _ _ => h
def Tr.k : Tr → Int | mk _ k _ _ _ _ _ => k
def Tr.n : Tr → Int | mk _ _ n _ _ _ _ => n
def Tr.bs : Tr → List Bnd | mk _ _ _ bs _ _ _ => bs
def Tr.q : Tr → Pth | mk _ _ _ _ q _ _ => q
def Tr.ts : Tr → List Tr | mk _ _ _ _ _ ts _ => ts
def Tr.es : Tr → List Tr | mk _ _ _ _ _ _ es => es
theorem un_acc (t : MT) : t.un.h = t.h ∧ t.un.k = t.k ∧ t.un.n = t.n ∧ t.un.bs = t.bs.map MB.un ∧ t.un.q = t.q ∧ t.un.ts = t.ts.map MT.un ∧ t.un.es = t.es.map MT.un := by
  rw [un_eq]; exact ⟨rfl, rfl, rfl, rfl, rfl, rfl, rfl⟩
/-- the leaf that data goes to -/
def decF : Nat → Tr → AP → Option Tr
  | 0, _, _ => none
  | f + 1, t, x => if t.k = 3 then (match t.es with
    | [e] => (match getF x t.q with
      | none => none
      | some y => (match t.ts.find? (fun b => decide (b.h = y.hd)) with
        | some s => decF f s x
        | none => decF f e x))
    | _ => none) else some t
theorem decF_test {f : Nat} {t : MT} {x : AP} {U : Tr} (h : decF (f + 1) t.un x = some U) (hk : t.k = 3) : ∃ e y, t.es = [e] ∧ getF x t.q = some y ∧
    ((∃ (i : Nat) (s : MT), idxF (fun b : MT => decide (b.h = y.hd)) t.ts = (i : Int) ∧ t.ts[i]? = some s ∧ decF f s.un x = some U) ∨ (idxF (fun b : MT => decide (b.h = y.hd)) t.ts = -1 ∧ decF f e.un x = some U)) := by
  obtain ⟨a1, a2, a3, a4, a5, a6, a7⟩ := un_acc t
  rw [decF, if_pos (by rw [a2]; exact hk), a5, a6, a7] at h
  match hes : t.es with
  | [] => rw [hes] at h; cases h
  | _ :: _ :: _ => rw [hes] at h; cases h
  | [e] =>
    rw [hes] at h
    simp only [List.map_cons, List.map_nil] at h
    cases hg : getF x t.q with
    | none => rw [hg] at h; cases h
    | some y =>
      rw [hg] at h
      simp only at h
      refine ⟨e, y, rfl, rfl, ?_⟩
      have hfm : (t.ts.map MT.un).find? (fun b => decide (b.h = y.hd)) = (t.ts.find? (fun b : MT => decide (b.h = y.hd))).map MT.un := by
        rw [List.find?_map]
        congr 1
        congr 1
        funext b
        show decide (b.un.h = y.hd) = _
        rw [(un_acc b).1]
      rw [hfm] at h
      cases hf : t.ts.find? (fun b : MT => decide (b.h = y.hd)) with
      | none =>
        rw [hf] at h
        refine .inr ⟨idxF_no fun k z hz => ?_, h⟩
        have := List.find?_eq_none.1 hf z (List.mem_of_getElem? hz)
        simpa using this
      | some s =>
        rw [hf] at h
        rw [List.find?_eq_some_iff_getElem] at hf
        obtain ⟨h1, i, hi, h2, h3⟩ := hf
        refine .inl ⟨i, s, idxF_at (List.getElem?_eq_some_iff.2 ⟨hi, h2⟩) h1 fun k z hk hz => ?_, List.getElem?_eq_some_iff.2 ⟨hi, h2⟩, h⟩
        obtain ⟨h4, h5⟩ := List.getElem?_eq_some_iff.1 hz
        have := h3 k hk
        rw [h5] at this
        simpa using this
theorem decF_end {f : Nat} {t : MT} {x : AP} {U : Tr} (h : decF f t.un x = some U) (hk : t.k ≠ 3) : t.un = U := by
  cases f with
  | zero => cases h
  | succ f =>
    rw [decF, if_neg (by rw [(un_acc t).2.1]; exact hk)] at h
    exact Option.some.inj h
theorem decF_pos {f : Nat} {t : MT} {x : AP} {U : Tr} (h : decF f t.un x = some U) : ∃ g, f = g + 1 := by
  cases f with
  | zero => cases h
  | succ f => exact ⟨f, rfl⟩
theorem encA_one (l : List AP) : (flat encA l).all (·.oneCell') = true := flat_one_cell (fun x => by rw [encA_eq]; rfl) l
set_option maxRecDepth 10000 attribute [local irreducible] Code.wp wpList Calls Ex Op1 sat bat blk cb own Go.Fw.mp Go.Fw.mpO Go.Fw.mpI Go.Fw.mpE Go.Fw.itr HS Rd Ret wkD Hp Cl Cls Exit.then Exit.inBlock Exit.noGoto bodyPost Go.Fw.flat wk2 Go.Fw.all Go.Fw.owns wpOp
attribute [local irreducible] encA encC encB encL getF decF

set_option maxHeartbeats 8000000 in
theorem decide_zero (w0 : World) (x : AP) : Ret Try.prog 14 #[.agg (encT (zT hd0)).toArray, .agg #[.int .i64 x.k, .int .i64 x.v, .int .i64 x.n, .string x.s, .slice x.ol x.ls.length x.cl, .slice x.oa x.ps.length x.ca]] w0 (fun v w => v = .tuple #[.int .i64 (-1), .slice none 0 0] ∧ Kp w0 noM w) := by
  have hH : HS w0 noM [] w0 := HS.init w0 noM
  (refine enter (N := 78) Try.func14 rfl Try.ntmps14 rfl ?_; intro a hA; dsimp only [sl0, Nat.reduceAdd] at hA)
  repeat' (first | (first | (refine GT ?_ ?_ <;> intro hg <;> clear hA a <;> intro a hA <;> (first | exact FA | replace hg := of_decide_eq_true hg | replace hg := of_decide_eq_false hg | skip)) | (refine QT ?_; clear hA a; intro a hA) | (first | (refine BT ?_; clear hA hH; rintro _ w ⟨bN, rfl, hH⟩ a hA) | (refine LT ?_; clear hA hH; rintro _ w ⟨oN, rfl, hH⟩ a hA) | (refine AT ?_; clear hA; rintro _ w ⟨oN, cN, rfl, hH2⟩ a hA; clear hH; have hH := (hH2 _ (by (repeat constructor))).tail; clear hH2) | (refine S0T ?_; clear hH; rintro _ w hH) )) | ((first | refine CT ?_ | (refine DT ?_ ?_ <;> intro hc <;> try (exfalso; omega))) <;> repeat' refine CT ?_) | (first | (refine DSK ?_; clear hA a; intro a hA) | (first | (refine DLT ?_; clear hA hH; rintro _ w ⟨oN, rfl, hH⟩; refine ⟨STT, ?_⟩; intro a hA) | (refine DAT ?_; clear hA; rintro _ w ⟨oN, cN, rfl, hH2⟩; clear hH; have hH := (hH2 _ (by (repeat constructor))).tail; clear hH2; refine ⟨STT, ?_⟩; intro a hA))) )
  obtain ⟨b3, hb3⟩ : ∃ b, b = bN := ⟨_, rfl⟩
  rw [← hb3] at hA hH
  clear hb3 bN
  obtain ⟨b2, hb2⟩ : ∃ b, b = bN := ⟨_, rfl⟩
  rw [← hb2] at hA hH
  clear hb2 bN
  refine wp_lpk (S := Nat) (fun i a w => HS w0 noM [cb b3 38 [.int .i64 x.k, .int .i64 x.v, .int .i64 x.n, .string x.s, .slice x.ol x.ls.length x.cl, .slice x.oa x.ps.length x.ca], cb b2 29 (encT (zT hd0))] w ∧ Sl 78 [(2, .pointer (some (bat b2 0))), (4, .int .i64 0), (5, .slice none 0 0)] a) (fun i => i) (fun a w => HS w0 noM [cb b3 38 [.int .i64 x.k, .int .i64 x.v, .int .i64 x.n, .string x.s, .slice x.ol x.ls.length x.cl, .slice x.oa x.ps.length x.ca], cb b2 29 (encT (zT hd0))] w ∧ Sl 78 [(2, .pointer (some (bat b2 0))), (4, .int .i64 0), (5, .slice none 0 0)] a) 0 ⟨hH, (hA.sub (by (repeat (first | exact trivial | refine ⟨rfl, ?_⟩))))⟩ ?_ ?_
  · clear hA hH
    rintro i a w ⟨hH, hA⟩
    repeat' (first | (first | (refine GT ?_ ?_ <;> intro hg <;> clear hA a <;> intro a hA <;> (first | exact FA | replace hg := of_decide_eq_true hg | replace hg := of_decide_eq_false hg | skip)) | (refine QT ?_; clear hA a; intro a hA) | (first | (refine BT ?_; clear hA hH; rintro _ w ⟨bN, rfl, hH⟩ a hA) | (refine LT ?_; clear hA hH; rintro _ w ⟨oN, rfl, hH⟩ a hA) | (refine AT ?_; clear hA; rintro _ w ⟨oN, cN, rfl, hH2⟩ a hA; clear hH; have hH := (hH2 _ (by (repeat constructor))).tail; clear hH2) | (refine S0T ?_; clear hH; rintro _ w hH) )) | ((first | refine CT ?_ | (refine DT ?_ ?_ <;> intro hc <;> try (exfalso; omega))) <;> repeat' refine CT ?_) | (first | (refine DSK ?_; clear hA a; intro a hA) | (first | (refine DLT ?_; clear hA hH; rintro _ w ⟨oN, rfl, hH⟩; refine ⟨STT, ?_⟩; intro a hA) | (refine DAT ?_; clear hA; rintro _ w ⟨oN, cN, rfl, hH2⟩; clear hH; have hH := (hH2 _ (by (repeat constructor))).tail; clear hH2; refine ⟨STT, ?_⟩; intro a hA))) )
    exact ⟨hH, (hA.sub (by (repeat (first | exact trivial | refine ⟨rfl, ?_⟩))))⟩
  clear hA hH
  rintro a w ⟨hH, hA⟩
  repeat' (first | (first | (refine GT ?_ ?_ <;> intro hg <;> clear hA a <;> intro a hA <;> (first | exact FA | replace hg := of_decide_eq_true hg | replace hg := of_decide_eq_false hg | skip)) | (refine QT ?_; clear hA a; intro a hA) | (first | (refine BT ?_; clear hA hH; rintro _ w ⟨bN, rfl, hH⟩ a hA) | (refine LT ?_; clear hA hH; rintro _ w ⟨oN, rfl, hH⟩ a hA) | (refine AT ?_; clear hA; rintro _ w ⟨oN, cN, rfl, hH2⟩ a hA; clear hH; have hH := (hH2 _ (by (repeat constructor))).tail; clear hH2) | (refine S0T ?_; clear hH; rintro _ w hH) )) | ((first | refine CT ?_ | (refine DT ?_ ?_ <;> intro hc <;> try (exfalso; omega))) <;> repeat' refine CT ?_) | (first | (refine DSK ?_; clear hA a; intro a hA) | (first | (refine DLT ?_; clear hA hH; rintro _ w ⟨oN, rfl, hH⟩; refine ⟨STT, ?_⟩; intro a hA) | (refine DAT ?_; clear hA; rintro _ w ⟨oN, cN, rfl, hH2⟩; clear hH; have hH := (hH2 _ (by (repeat constructor))).tail; clear hH2; refine ⟨STT, ?_⟩; intro a hA))) )
  exact rt2 (.inl rfl) rfl hA rfl rfl ⟨rfl, hH.kp⟩
set_option maxHeartbeats 8000000 in
theorem decide_spec (w0 : World) (f : Nat) (t : MT) (x : AP) (U : Tr) (gs : List Hd) (hT : RdT w0 t) (hx : RdA w0 x) (hd : decF f t.un x = some U) (hU : U.k = 2) (hS : TrS t.un) (hb : U.bs.map (fun b => getF x b.2) = gs.map fun g => some g.ap) :
    Ret Try.prog 14 #[.agg (encT t).toArray, .agg #[.int .i64 x.k, .int .i64 x.v, .int .i64 x.n, .string x.s, .slice x.ol x.ls.length x.cl, .slice x.oa x.ps.length x.ca]] w0 (fun v w => ∃ (o : Option Addr) (c : Nat) (ys : List AP), v = .tuple #[.int .i64 U.n, .slice o ys.length c] ∧ ys.map AP.hd = gs ∧ HS w0 noM [own 38 6 o ys.length c (flat encA ys)] w) := by
  have hH : HS w0 noM [] w0 := HS.init w0 noM
  (refine enter (N := 78) Try.func14 rfl Try.ntmps14 rfl ?_; intro a hA; dsimp only [sl0, Nat.reduceAdd] at hA)
  repeat' (first | (first | (refine GT ?_ ?_ <;> intro hg <;> clear hA a <;> intro a hA <;> (first | exact FA | replace hg := of_decide_eq_true hg | replace hg := of_decide_eq_false hg | skip)) | (refine QT ?_; clear hA a; intro a hA) | (first | (refine BT ?_; clear hA hH; rintro _ w ⟨bN, rfl, hH⟩ a hA) | (refine LT ?_; clear hA hH; rintro _ w ⟨oN, rfl, hH⟩ a hA) | (refine AT ?_; clear hA; rintro _ w ⟨oN, cN, rfl, hH2⟩ a hA; clear hH; have hH := (hH2 _ (by (repeat constructor))).tail; clear hH2) | (refine S0T ?_; clear hH; rintro _ w hH) )) | ((first | refine CT ?_ | (refine DT ?_ ?_ <;> intro hc <;> try (exfalso; omega))) <;> repeat' refine CT ?_) | (first | (refine DSK ?_; clear hA a; intro a hA) | (first | (refine DLT ?_; clear hA hH; rintro _ w ⟨oN, rfl, hH⟩; refine ⟨STT, ?_⟩; intro a hA) | (refine DAT ?_; clear hA; rintro _ w ⟨oN, cN, rfl, hH2⟩; clear hH; have hH := (hH2 _ (by (repeat constructor))).tail; clear hH2; refine ⟨STT, ?_⟩; intro a hA))) )
  obtain ⟨b3, hb3⟩ : ∃ b, b = bN := ⟨_, rfl⟩
  rw [← hb3] at hA hH
  clear hb3 bN
  obtain ⟨b2, hb2⟩ : ∃ b, b = bN := ⟨_, rfl⟩
  rw [← hb2] at hA hH
  clear hb2 bN
  refine wp_lpk (S := Nat) (fun f a w => ∃ s : MT, (RdT w0 s ∧ decF f s.un x = some U ∧ TrS s.un) ∧ HS w0 noM [Go.Fw.cb b2 29 (encT s), Go.Fw.cb b3 38 [.int .i64 x.k, .int .i64 x.v, .int .i64 x.n, .string x.s, .slice x.ol x.ls.length x.cl, .slice x.oa x.ps.length x.ca]] w ∧ Sl 78 [(2, .pointer (some (bat b2 0))), (3, .pointer (some (bat b3 0))), (4, .int .i64 0), (5, .slice none 0 0)] a) (fun f => f)
    (fun a w => ∃ s : MT, (RdT w0 s ∧ s.un = U ∧ TrS s.un) ∧ HS w0 noM [Go.Fw.cb b2 29 (encT s), Go.Fw.cb b3 38 [.int .i64 x.k, .int .i64 x.v, .int .i64 x.n, .string x.s, .slice x.ol x.ls.length x.cl, .slice x.oa x.ps.length x.ca]] w ∧ Sl 78 [(2, .pointer (some (bat b2 0))), (3, .pointer (some (bat b3 0))), (4, .int .i64 0), (5, .slice none 0 0)] a) f ⟨t, ⟨hT, hd, hS⟩, hH.perm (by (repeat (first | exact List.Perm.refl _ | exact List.Perm.nil | refine perm_pick 0 rfl ?_ | refine perm_pick 1 rfl ?_ | refine perm_pick 2 rfl ?_ | refine perm_pick 3 rfl ?_ | refine perm_pick 4 rfl ?_ | refine perm_pick 5 rfl ?_ | refine perm_pick 6 rfl ?_ | refine perm_pick 7 rfl ?_ | refine perm_pick 8 rfl ?_ | refine perm_pick 9 rfl ?_ | refine perm_pick 10 rfl ?_ | refine perm_pick 11 rfl ?_))), (hA.sub (by (repeat (first | exact trivial | refine ⟨rfl, ?_⟩))))⟩ ?_ ?_
  · clear hA hH
    rintro f a w ⟨s, ⟨hs, hds, hss⟩, hH, hA⟩
    by_cases hk : s.k = 3
    rotate_left
    · have hsu := decF_end hds hk
      repeat' (first | (first | (refine GT ?_ ?_ <;> intro hg <;> clear hA a <;> intro a hA <;> (first | exact FA | replace hg := of_decide_eq_true hg | replace hg := of_decide_eq_false hg | skip)) | (refine QT ?_; clear hA a; intro a hA) | (first | (refine BT ?_; clear hA hH; rintro _ w ⟨bN, rfl, hH⟩ a hA) | (refine LT ?_; clear hA hH; rintro _ w ⟨oN, rfl, hH⟩ a hA) | (refine AT ?_; clear hA; rintro _ w ⟨oN, cN, rfl, hH2⟩ a hA; clear hH; have hH := (hH2 _ (by (repeat constructor))).tail; clear hH2) | (refine S0T ?_; clear hH; rintro _ w hH) )) | ((first | refine CT ?_ | (refine DT ?_ ?_ <;> intro hc <;> try (exfalso; omega))) <;> repeat' refine CT ?_) | (first | (refine DSK ?_; clear hA a; intro a hA) | (first | (refine DLT ?_; clear hA hH; rintro _ w ⟨oN, rfl, hH⟩; refine ⟨STT, ?_⟩; intro a hA) | (refine DAT ?_; clear hA; rintro _ w ⟨oN, cN, rfl, hH2⟩; clear hH; have hH := (hH2 _ (by (repeat constructor))).tail; clear hH2; refine ⟨STT, ?_⟩; intro a hA))) )
      all_goals first | (exfalso; omega) | exact ⟨s, ⟨hs, hsu, hss⟩, hH, (hA.sub (by (repeat (first | exact trivial | refine ⟨rfl, ?_⟩))))⟩
    obtain ⟨f', rfl⟩ := decF_pos hds
    obtain ⟨e, y, hes, hgy, hcase⟩ := decF_test hds hk
    have hel : s.es.length = 1 := by rw [hes]; rfl
    have hts := trS_of hss
    have hevs := flat_all encT_len (l := s.es) (i := 0) (x := e) (by rw [hes]; rfl)
    have hspE : Sp s.oe s.es.length := hs.e.1.sp (sz := 6) (flat_length encT_len _) (by omega)
    repeat' (first | (first | (refine GT ?_ ?_ <;> intro hg <;> clear hA a <;> intro a hA <;> (first | exact FA | replace hg := of_decide_eq_true hg | replace hg := of_decide_eq_false hg | skip)) | (refine QT ?_; clear hA a; intro a hA) | (first | (refine BT ?_; clear hA hH; rintro _ w ⟨bN, rfl, hH⟩ a hA) | (refine LT ?_; clear hA hH; rintro _ w ⟨oN, rfl, hH⟩ a hA) | (refine AT ?_; clear hA; rintro _ w ⟨oN, cN, rfl, hH2⟩ a hA; clear hH; have hH := (hH2 _ (by (repeat constructor))).tail; clear hH2) | (refine S0T ?_; clear hH; rintro _ w hH) )) | ((first | refine CT ?_ | (refine DT ?_ ?_ <;> intro hc <;> try (exfalso; omega))) <;> repeat' refine CT ?_) | (first | (refine DSK ?_; clear hA a; intro a hA) | (first | (refine DLT ?_; clear hA hH; rintro _ w ⟨oN, rfl, hH⟩; refine ⟨STT, ?_⟩; intro a hA) | (refine DAT ?_; clear hA; rintro _ w ⟨oN, cN, rfl, hH2⟩; clear hH; have hH := (hH2 _ (by (repeat constructor))).tail; clear hH2; refine ⟨STT, ?_⟩; intro a hA))) )
    all_goals (try (exfalso; omega))
    have hsq := (hs.q).keep hH.kp
    (refine st_op hA rfl rfl (by decide) (op_call rfl rfl rfl (get_spec _ x y s.oq s.cq s.q (hx.keep hH.kp) hsq (by omega) hgy)) ?_; clear hA; rintro _ w ⟨rfl, hyR, hk⟩ a hA; replace hH := hH.keep hk; clear hk)
    repeat' (first | (first | (refine GT ?_ ?_ <;> intro hg <;> clear hA a <;> intro a hA <;> (first | exact FA | replace hg := of_decide_eq_true hg | replace hg := of_decide_eq_false hg | skip)) | ((first | apply st_ex hA hH rfl rfl (by decide) | apply dr_ex hA rfl rfl rfl (by decide) | apply dr_exp hA rfl rfl rfl (by decide) | apply dr_ex3 hA hH rfl rfl rfl (by decide)); (first | (apply ex_load_st (vs := encT e); rfl; rfl; exact cls_rd hs.e.1 id hevs)); clear hA a; intro a hA) | (refine QT ?_; clear hA a; intro a hA) | (first | (refine BT ?_; clear hA hH; rintro _ w ⟨bN, rfl, hH⟩ a hA) | (refine LT ?_; clear hA hH; rintro _ w ⟨oN, rfl, hH⟩ a hA) | (refine AT ?_; clear hA; rintro _ w ⟨oN, cN, rfl, hH2⟩ a hA; clear hH; have hH := (hH2 _ (by (repeat constructor))).tail; clear hH2) | (refine S0T ?_; clear hH; rintro _ w hH) | (apply st_op0 hA rfl rfl; apply op_store_agg (vs := [.int .i64 y.k, .int .i64 y.v, .int .i64 y.n, .string y.s, .slice y.ol y.ls.length y.cl, .slice y.oa y.ps.length y.ca]); rfl; rfl; exact hH; (repeat constructor); (repeat rfl); clear hH; rintro _ w hH) | (apply st_op0 hA rfl rfl; apply op_store_agg (vs := encT e); rfl; rfl; exact hH; (repeat constructor); (repeat rfl); clear hH; rintro _ w hH))) | ((first | refine CT ?_ | (refine DT ?_ ?_ <;> intro hc <;> try (exfalso; omega))) <;> repeat' refine CT ?_) | (first | (refine DSK ?_; clear hA a; intro a hA) | (first | (refine DLT ?_; clear hA hH; rintro _ w ⟨oN, rfl, hH⟩; refine ⟨STT, ?_⟩; intro a hA) | (refine DAT ?_; clear hA; rintro _ w ⟨oN, cN, rfl, hH2⟩; clear hH; have hH := (hH2 _ (by (repeat constructor))).tail; clear hH2; refine ⟨STT, ?_⟩; intro a hA))) )
    obtain ⟨b8, hb8⟩ : ∃ b, b = bN := ⟨_, rfl⟩
    rw [← hb8] at hA hH
    clear hb8 bN
    obtain ⟨b6, hb6⟩ : ∃ b, b = bN := ⟨_, rfl⟩
    rw [← hb6] at hA hH
    clear hb6 bN
    have htl : s.ts.length ≤ 9223372036854775807 := by have := hs.t.2; unfold maxLen at this; omega
    have hcl : ∀ z ∈ s.ts, ∀ w2, Kp w noM w2 → Ret Try.prog 31 (#[] ++ #[.agg (encR z).toArray] ++ #[.pointer (some (bat b6 0))]) w2 (fun v w' => v = .bool (decide (z.h = y.hd)) ∧ Kp w2 noM w') := fun z hz w2 hk2 =>
      dec1_spec w2 z b6 y (cls_later hH (by exact MEMT) hk2)
    (refine st_op hA rfl rfl (by decide) (op_call rfl rfl rfl (indexR_spec _ s.ot s.ct s.ts 31 #[] #[.pointer (some (bat b6 0))] (fun b => decide (b.h = y.hd)) (hH.rd hs.t.1 id) htl hcl)) ?_; clear hA; rintro _ w ⟨rfl, hk⟩ a hA; replace hH := hH.keep hk; clear hk)
    have hspT : Sp s.ot s.ts.length := hs.t.1.sp (sz := 12) (flat_length encR_len _) (by omega)
    rcases hcase with ⟨i, s', hidx, hs', hd'⟩ | ⟨hidx, hd'⟩
    · have hvs := flatR_tree hs'
      have hsm := List.mem_of_getElem? hs'
      have hil := (List.getElem?_eq_some_iff.1 hs').1
      rw [hidx] at hA
      repeat' (first | (first | (refine GT ?_ ?_ <;> intro hg <;> clear hA a <;> intro a hA <;> (first | exact FA | replace hg := of_decide_eq_true hg | replace hg := of_decide_eq_false hg | skip)) | ((first | apply st_ex hA hH rfl rfl (by decide) | apply dr_ex hA rfl rfl rfl (by decide) | apply dr_exp hA rfl rfl rfl (by decide) | apply dr_ex3 hA hH rfl rfl rfl (by decide)); (first | (apply ex_load_st (vs := encT s'); rfl; rfl; exact cls_rd hs.t.1 id hvs)); clear hA a; intro a hA) | (refine QT ?_; clear hA a; intro a hA) | (first | (refine BT ?_; clear hA hH; rintro _ w ⟨bN, rfl, hH⟩ a hA) | (refine LT ?_; clear hA hH; rintro _ w ⟨oN, rfl, hH⟩ a hA) | (refine AT ?_; clear hA; rintro _ w ⟨oN, cN, rfl, hH2⟩ a hA; clear hH; have hH := (hH2 _ (by (repeat constructor))).tail; clear hH2) | (refine S0T ?_; clear hH; rintro _ w hH) | (apply st_op0 hA rfl rfl; apply op_store_agg (vs := encT s'); rfl; rfl; exact hH; (repeat constructor); (repeat rfl); clear hH; rintro _ w hH))) | ((first | refine CT ?_ | (refine DT ?_ ?_ <;> intro hc <;> try (exfalso; omega))) <;> repeat' refine CT ?_) | (first | (refine DSK ?_; clear hA a; intro a hA) | (first | (refine DLT ?_; clear hA hH; rintro _ w ⟨oN, rfl, hH⟩; refine ⟨STT, ?_⟩; intro a hA) | (refine DAT ?_; clear hA; rintro _ w ⟨oN, cN, rfl, hH2⟩; clear hH; have hH := (hH2 _ (by (repeat constructor))).tail; clear hH2; refine ⟨STT, ?_⟩; intro a hA))) )
      exact ⟨f', ⟨s', ⟨hs.ts s' hsm, hd', hts.2.2.2.1 s' hsm⟩, (hH.er 0).er 0, (hA.sub (by (repeat (first | exact trivial | refine ⟨rfl, ?_⟩))))⟩, Nat.lt_succ_self _⟩
    · have hem : e ∈ s.es := by rw [hes]; exact .head _
      rw [hidx] at hA
      repeat' (first | (first | (refine GT ?_ ?_ <;> intro hg <;> clear hA a <;> intro a hA <;> (first | exact FA | replace hg := of_decide_eq_true hg | replace hg := of_decide_eq_false hg | skip)) | (refine QT ?_; clear hA a; intro a hA) | (first | (refine BT ?_; clear hA hH; rintro _ w ⟨bN, rfl, hH⟩ a hA) | (refine LT ?_; clear hA hH; rintro _ w ⟨oN, rfl, hH⟩ a hA) | (refine AT ?_; clear hA; rintro _ w ⟨oN, cN, rfl, hH2⟩ a hA; clear hH; have hH := (hH2 _ (by (repeat constructor))).tail; clear hH2) | (refine S0T ?_; clear hH; rintro _ w hH) | (apply st_op0 hA rfl rfl; apply op_store_agg (vs := encT e); rfl; rfl; exact hH; (repeat constructor); (repeat rfl); clear hH; rintro _ w hH))) | ((first | refine CT ?_ | (refine DT ?_ ?_ <;> intro hc <;> try (exfalso; omega))) <;> repeat' refine CT ?_) | (first | (refine DSK ?_; clear hA a; intro a hA) | (first | (refine DLT ?_; clear hA hH; rintro _ w ⟨oN, rfl, hH⟩; refine ⟨STT, ?_⟩; intro a hA) | (refine DAT ?_; clear hA; rintro _ w ⟨oN, cN, rfl, hH2⟩; clear hH; have hH := (hH2 _ (by (repeat constructor))).tail; clear hH2; refine ⟨STT, ?_⟩; intro a hA))) )
      exact ⟨f', ⟨e, ⟨hs.es e hem, hd', hts.2.2.2.2 e hem⟩, (hH.er 0).er 0, (hA.sub (by (repeat (first | exact trivial | refine ⟨rfl, ?_⟩))))⟩, Nat.lt_succ_self _⟩
  clear hA hH
  rintro a w ⟨s, ⟨hs, hsu, hss⟩, hH, hA⟩
  obtain ⟨a1, a2, a3, a4, a5, a6, a7⟩ := un_acc s
  rw [hsu] at a2 a3 a4
  rw [a4] at hb
  rw [List.map_map] at hb
  have hk2 : s.k = 2 := by rw [← a2]; exact hU
  have hts := trS_of hss
  have hgl : s.bs.length = gs.length := by
    have := congrArg List.length hb
    rwa [List.length_map, List.length_map] at this
  have hspB : Sp s.ob s.bs.length := hs.b.1.sp (sz := 2) (flat_length encB_len _) (by omega)
  repeat' (first | (first | (refine GT ?_ ?_ <;> intro hg <;> clear hA a <;> intro a hA <;> (first | exact FA | replace hg := of_decide_eq_true hg | replace hg := of_decide_eq_false hg | skip)) | (refine QT ?_; clear hA a; intro a hA) | (first | (refine BT ?_; clear hA hH; rintro _ w ⟨bN, rfl, hH⟩ a hA) | (refine LT ?_; clear hA hH; rintro _ w ⟨oN, rfl, hH⟩ a hA) | (refine AT ?_; clear hA; rintro _ w ⟨oN, cN, rfl, hH2⟩ a hA; clear hH; have hH := (hH2 _ (by (repeat constructor))).tail; clear hH2) | (refine S0T ?_; clear hH; rintro _ w hH) )) | ((first | refine CT ?_ | (refine DT ?_ ?_ <;> intro hc <;> try (exfalso; omega))) <;> repeat' refine CT ?_) | (first | (refine DSK ?_; clear hA a; intro a hA) | (first | (refine DLT ?_; clear hA hH; rintro _ w ⟨oN, rfl, hH⟩; refine ⟨STT, ?_⟩; intro a hA) | (refine DAT ?_; clear hA; rintro _ w ⟨oN, cN, rfl, hH2⟩; clear hH; have hH := (hH2 _ (by (repeat constructor))).tail; clear hH2; refine ⟨STT, ?_⟩; intro a hA))) )
  refine wp_lpk (S := Nat) (fun i a w => ∃ (ys : List AP) (oo : Option Addr) (co : Nat), (i ≤ s.bs.length ∧ ys.map AP.hd = gs.take i ∧ ys.length = i) ∧ HS w0 noM [own 38 6 oo ys.length co (flat encA ys), Go.Fw.cb b2 29 (encT s), Go.Fw.cb b3 38 [.int .i64 x.k, .int .i64 x.v, .int .i64 x.n, .string x.s, .slice x.ol x.ls.length x.cl, .slice x.oa x.ps.length x.ca]] w ∧ Sl 78 [(2, .pointer (some (bat b2 0))), (3, .pointer (some (bat b3 0))), (10, .slice oo ys.length co), (54, .slice s.ob s.bs.length s.cb), (55, .int .i64 s.bs.length), (56, .int .i64 i)] a) (fun i => s.bs.length - i)
    (fun a w => ∃ (ys : List AP) (oo : Option Addr) (co : Nat), (ys.map AP.hd = gs) ∧ HS w0 noM [own 38 6 oo ys.length co (flat encA ys), Go.Fw.cb b2 29 (encT s), Go.Fw.cb b3 38 [.int .i64 x.k, .int .i64 x.v, .int .i64 x.n, .string x.s, .slice x.ol x.ls.length x.cl, .slice x.oa x.ps.length x.ca]] w ∧ Sl 78 [(2, .pointer (some (bat b2 0))), (10, .slice oo ys.length co)] a) 0 ⟨[], none, 0, ⟨Nat.zero_le _, by rw [List.take_zero]; rfl, rfl⟩, hH.nil_flat encA 38 6, (hA.sub (by (repeat (first | exact trivial | refine ⟨rfl, ?_⟩))))⟩ ?_ ?_
  · clear hA hH
    rintro i a w ⟨ys, oo, co, ⟨hi, hys, hyl⟩, hH, hA⟩
    by_cases hlt : i < s.bs.length
    rotate_left
    · rw [List.take_of_length_le (by omega)] at hys
      repeat' (first | (first | (refine GT ?_ ?_ <;> intro hg <;> clear hA a <;> intro a hA <;> (first | exact FA | replace hg := of_decide_eq_true hg | replace hg := of_decide_eq_false hg | skip)) | (refine QT ?_; clear hA a; intro a hA) | (first | (refine BT ?_; clear hA hH; rintro _ w ⟨bN, rfl, hH⟩ a hA) | (refine LT ?_; clear hA hH; rintro _ w ⟨oN, rfl, hH⟩ a hA) | (refine AT ?_; clear hA; rintro _ w ⟨oN, cN, rfl, hH2⟩ a hA; clear hH; have hH := (hH2 _ (by (repeat constructor))).tail; clear hH2) | (refine S0T ?_; clear hH; rintro _ w hH) )) | ((first | refine CT ?_ | (refine DT ?_ ?_ <;> intro hc <;> try (exfalso; omega))) <;> repeat' refine CT ?_) | (first | (refine DSK ?_; clear hA a; intro a hA) | (first | (refine DLT ?_; clear hA hH; rintro _ w ⟨oN, rfl, hH⟩; refine ⟨STT, ?_⟩; intro a hA) | (refine DAT ?_; clear hA; rintro _ w ⟨oN, cN, rfl, hH2⟩; clear hH; have hH := (hH2 _ (by (repeat constructor))).tail; clear hH2; refine ⟨STT, ?_⟩; intro a hA))) )
      exact ⟨ys, oo, co, hys, hH, (hA.sub (by (repeat (first | exact trivial | refine ⟨rfl, ?_⟩))))⟩
    obtain ⟨b, hbi⟩ : ∃ b, s.bs[i]? = some b := ⟨_, List.getElem?_eq_getElem hlt⟩
    obtain ⟨g, hgi⟩ : ∃ g, gs[i]? = some g := ⟨_, List.getElem?_eq_getElem (by omega)⟩
    have hbm := List.mem_of_getElem? hbi
    have hgx : getF x b.q = some g.ap := by
      have h1 := congrArg (fun l => l[i]?) hb
      simp only [List.getElem?_map, hbi, hgi] at h1
      exact Option.some.inj h1
    have hvs := flat_all encB_len hbi
    rw [encB_eq] at hvs
    have hql := hts.2.2.1 b hbm
    repeat' (first | (first | (refine GT ?_ ?_ <;> intro hg <;> clear hA a <;> intro a hA <;> (first | exact FA | replace hg := of_decide_eq_true hg | replace hg := of_decide_eq_false hg | skip)) | ((first | apply st_ex hA hH rfl rfl (by decide) | apply dr_ex hA rfl rfl rfl (by decide) | apply dr_exp hA rfl rfl rfl (by decide) | apply dr_ex3 hA hH rfl rfl rfl (by decide)); (first | (apply ex_load_st (vs := [.int .i64 b.v, .slice b.o b.q.length b.c]); rfl; rfl; exact cls_rd hs.b.1 id hvs)); clear hA a; intro a hA) | (refine QT ?_; clear hA a; intro a hA) | (first | (refine BT ?_; clear hA hH; rintro _ w ⟨bN, rfl, hH⟩ a hA) | (refine LT ?_; clear hA hH; rintro _ w ⟨oN, rfl, hH⟩ a hA) | (refine AT ?_; clear hA; rintro _ w ⟨oN, cN, rfl, hH2⟩ a hA; clear hH; have hH := (hH2 _ (by (repeat constructor))).tail; clear hH2) | (refine S0T ?_; clear hH; rintro _ w hH) | (apply st_op0 hA rfl rfl; apply op_store_agg (vs := [.int .i64 b.v, .slice b.o b.q.length b.c]); rfl; rfl; exact hH; (repeat constructor); (repeat rfl); clear hH; rintro _ w hH))) | ((first | refine CT ?_ | (refine DT ?_ ?_ <;> intro hc <;> try (exfalso; omega))) <;> repeat' refine CT ?_) | (first | (refine DSK ?_; clear hA a; intro a hA) | (first | (refine DLT ?_; clear hA hH; rintro _ w ⟨oN, rfl, hH⟩; refine ⟨STT, ?_⟩; intro a hA) | (refine DAT ?_; clear hA; rintro _ w ⟨oN, cN, rfl, hH2⟩; clear hH; have hH := (hH2 _ (by (repeat constructor))).tail; clear hH2; refine ⟨STT, ?_⟩; intro a hA))) )
    have hbq := (hs.b.2.2.2 b hbm : RdQ _ _ _ _).keep hH.kp
    (refine st_op hA rfl rfl (by decide) (op_call rfl rfl rfl (get_spec _ x g.ap b.o b.c b.q (hx.keep hH.kp) hbq (by omega) hgx)) ?_; clear hA; rintro _ w ⟨rfl, hyR, hk⟩ a hA; replace hH := hH.keep hk; clear hk)
    repeat' (first | (first | (refine GT ?_ ?_ <;> intro hg <;> clear hA a <;> intro a hA <;> (first | exact FA | replace hg := of_decide_eq_true hg | replace hg := of_decide_eq_false hg | skip)) | (refine QT ?_; clear hA a; intro a hA) | (first | (refine BT ?_; clear hA hH; rintro _ w ⟨bN, rfl, hH⟩ a hA) | (refine LT ?_; clear hA hH; rintro _ w ⟨oN, rfl, hH⟩ a hA) | (refine AT ?_; clear hA; rintro _ w ⟨oN, cN, rfl, hH2⟩ a hA; clear hH; have hH := (hH2 _ (by (repeat constructor))).tail; clear hH2) | (refine S0T ?_; clear hH; rintro _ w hH) | (apply st_op0 hA rfl rfl; apply op_store_agg (vs := [.int .i64 g.ap.k, .int .i64 g.ap.v, .int .i64 g.ap.n, .string g.ap.s, .slice g.ap.ol g.ap.ls.length g.ap.cl, .slice g.ap.oa g.ap.ps.length g.ap.ca]); rfl; rfl; exact hH; (repeat constructor); (repeat rfl); clear hH; rintro _ w hH))) | ((first | refine CT ?_ | (refine DT ?_ ?_ <;> intro hc <;> try (exfalso; omega))) <;> repeat' refine CT ?_) | (first | (refine DSK ?_; clear hA a; intro a hA) | (first | (refine DLT ?_; clear hA hH; rintro _ w ⟨oN, rfl, hH⟩; refine ⟨STT, ?_⟩; intro a hA) | (refine DAT ?_; clear hA; rintro _ w ⟨oN, cN, rfl, hH2⟩; clear hH; have hH := (hH2 _ (by (repeat constructor))).tail; clear hH2; refine ⟨STT, ?_⟩; intro a hA))) )
    (refine st_op hA rfl rfl (by decide) (op_call rfl rfl rfl (copied_spec _ g)) ?_; clear hA; rintro _ w ⟨y, rfl, hyg, hk⟩ a hA; replace hH := hH.keep hk; clear hk)
    (apply st_op hA rfl rfl (by decide); apply op_sliceLit (xs := [.int .i64 y.k, .int .i64 y.v, .int .i64 y.n, .string y.s, .slice y.ol y.ls.length y.cl, .slice y.oa y.ps.length y.ca]) (vs := [.agg #[.int .i64 y.k, .int .i64 y.v, .int .i64 y.n, .string y.s, .slice y.ol y.ls.length y.cl, .slice y.oa y.ps.length y.ca]]); rfl; rfl; exact (Cats.cn (cs := [.int .i64 y.k, .int .i64 y.v, .int .i64 y.n, .string y.s, .slice y.ol y.ls.length y.cl, .slice y.oa y.ps.length y.ca]) Cats.nil); rfl; rfl; rfl; exact hH; clear hA hH; rintro _ w ⟨oN, rfl, hH⟩ a hA)
    repeat' (first | (first | (refine GT ?_ ?_ <;> intro hg <;> clear hA a <;> intro a hA <;> (first | exact FA | replace hg := of_decide_eq_true hg | replace hg := of_decide_eq_false hg | skip)) | (refine QT ?_; clear hA a; intro a hA) | (first | (refine BT ?_; clear hA hH; rintro _ w ⟨bN, rfl, hH⟩ a hA) | (refine LT ?_; clear hA hH; rintro _ w ⟨oN, rfl, hH⟩ a hA) | (refine AT ?_; clear hA; rintro _ w ⟨oN, cN, rfl, hH2⟩ a hA; clear hH; have hH := (hH2 _ (by (repeat constructor))).tail; clear hH2) | (refine S0T ?_; clear hH; rintro _ w hH) )) | ((first | refine CT ?_ | (refine DT ?_ ?_ <;> intro hc <;> try (exfalso; omega))) <;> repeat' refine CT ?_) | (first | (refine DSK ?_; clear hA a; intro a hA) | (first | (refine DLT ?_; clear hA hH; rintro _ w ⟨oN, rfl, hH⟩; refine ⟨STT, ?_⟩; intro a hA) | (refine DAT ?_; clear hA; rintro _ w ⟨oN, cN, rfl, hH2⟩; clear hH; have hH := (hH2 _ (by (repeat constructor))).tail; clear hH2; refine ⟨STT, ?_⟩; intro a hA))) )
    rw [← encA_eq y, ← flat_snoc, ← len_snoc ys y] at hH
    rw [← len_snoc ys y] at hA
    exact ⟨i + 1, ⟨ys ++ [y], oN, cN, ⟨hlt, by rw [take_next hgi, List.map_append, hys, ← hyg]; rfl, by rw [len_snoc, hyl]⟩, (hH.er 0).er 0, (hA.sub (by (repeat (first | exact trivial | refine ⟨rfl, ?_⟩))))⟩, by omega⟩
  clear hA hH
  rintro a w ⟨ys, oo, co, hys, hH, hA⟩
  repeat' (first | (first | (refine GT ?_ ?_ <;> intro hg <;> clear hA a <;> intro a hA <;> (first | exact FA | replace hg := of_decide_eq_true hg | replace hg := of_decide_eq_false hg | skip)) | (refine QT ?_; clear hA a; intro a hA) | (first | (refine BT ?_; clear hA hH; rintro _ w ⟨bN, rfl, hH⟩ a hA) | (refine LT ?_; clear hA hH; rintro _ w ⟨oN, rfl, hH⟩ a hA) | (refine AT ?_; clear hA; rintro _ w ⟨oN, cN, rfl, hH2⟩ a hA; clear hH; have hH := (hH2 _ (by (repeat constructor))).tail; clear hH2) | (refine S0T ?_; clear hH; rintro _ w hH) )) | ((first | refine CT ?_ | (refine DT ?_ ?_ <;> intro hc <;> try (exfalso; omega))) <;> repeat' refine CT ?_) | (first | (refine DSK ?_; clear hA a; intro a hA) | (first | (refine DLT ?_; clear hA hH; rintro _ w ⟨oN, rfl, hH⟩; refine ⟨STT, ?_⟩; intro a hA) | (refine DAT ?_; clear hA; rintro _ w ⟨oN, cN, rfl, hH2⟩; clear hH; have hH := (hH2 _ (by (repeat constructor))).tail; clear hH2; refine ⟨STT, ?_⟩; intro a hA))) )
  rw [← a3] at hA
  exact rt2 (.inl rfl) rfl hA rfl rfl ⟨oo, co, ys, rfl, hys, hH.head⟩
end Go.Proofs.Ytcododdkjppmjaa
namespace Go.Proofs.Ytcododdkjppmjaa
open Go Go.Fw
set_option linter.unusedVariables false
def sA : ByteArray := ⟨#[65]⟩
def sB : ByteArray := ⟨#[66]⟩
def apN (n : Int) : AP := .mk 3 0 n emp none 0 [] none 0 []
def apV : AP := .mk 2 7 0 emp none 0 [] none 0 []
def apAny : AP := .mk 1 0 0 emp none 0 [] none 0 []
def tagA (s : ByteArray) (o : Option Addr) (p : AP) : AP := .mk 8 0 0 s none 0 [] o 1 [p]
def l3 (oA oB : Option Addr) : List AP := [tagA sA oA (apN 1), tagA sB oB apV, apAny]
def hA_ : Hd := ⟨8, 0, sA⟩
def hB_ : Hd := ⟨8, 0, sB⟩
def h1_ : Hd := ⟨3, 1, emp⟩
def lf (h : Hd) (n : Int) : Tr := .mk h 2 n [] [] [] []
def tAw : Tr := .mk hd0 3 0 [] [] [.mk hA_ 3 0 [] [emp] [lf h1_ 0] [lf hd0 2], .mk hB_ 2 1 [(7, [emp])] [] [] []] [lf hd0 2]
theorem com_aw (oA oB : Option Addr) : comP (l3 oA oB) = (0, tAw) := by
  rfl
theorem com_zero : comP [ap0] = (5, z0) := by rfl
theorem dec_a (o : Option Addr) : decF 5 tAw (tagA sA o (apN 1)) = some (lf h1_ 0) := by rfl
theorem dec_b (o : Option Addr) : decF 5 tAw (tagA sB o (apN 5)) = some (.mk hB_ 2 1 [(7, [emp])] [] [] []) := by rfl
theorem dec_c (o : Option Addr) : decF 5 tAw (tagA sA o (apN 2)) = some (lf hd0 2) := by rfl
theorem get_b (o : Option Addr) : ([(7, [emp])] : List Bnd).map (fun b => getF (tagA sB o (apN 5)) b.2) = [(⟨3, 5, emp⟩ : Hd)].map fun g => some g.ap := by rfl
theorem trS_lf (h : Hd) (n : Int) : TrS (lf h n) := .mk (Nat.zero_le _) (Nat.zero_le _) (fun b hb => absurd hb List.not_mem_nil) (fun b hb => absurd hb List.not_mem_nil) (fun b hb => absurd hb List.not_mem_nil)
theorem trS_aw : TrS tAw := by
  refine .mk (Nat.zero_le _) (Nat.zero_le _) (fun b hb => absurd hb List.not_mem_nil) (fun t ht => ?_) (fun t ht => ?_)
  · rcases List.mem_cons.1 ht with rfl | ht
    · refine .mk (Nat.zero_le _) (by decide) (fun b hb => absurd hb List.not_mem_nil) (fun t ht => ?_) (fun t ht => ?_)
      · rw [List.mem_singleton] at ht; subst ht; exact trS_lf ..
      · rw [List.mem_singleton] at ht; subst ht; exact trS_lf ..
    · rw [List.mem_singleton] at ht
      subst ht
      refine .mk (by decide) (by decide) (fun b hb => ?_) (fun t ht => absurd ht List.not_mem_nil) (fun t ht => absurd ht List.not_mem_nil)
      rw [List.mem_singleton] at hb; subst hb; decide
  · rw [List.mem_singleton] at ht; subst ht; exact trS_lf ..
theorem flat_cons {α : Type} (enc : α → List Value) (x : α) (l : List α) : flat enc (x :: l) = enc x ++ flat enc l := rfl
theorem RdA_n {w : World} (h : Hd) : RdA w h.ap := .mk (RdQ_nil w).1 (Rd_none w) ⟨Nat.zero_le _, Nat.zero_le _, Nat.zero_le _, Nat.zero_le _⟩ fun a ha => absurd ha List.not_mem_nil
theorem RdA_v {w : World} : RdA w apV := .mk (RdQ_nil w).1 (Rd_none w) ⟨Nat.zero_le _, Nat.zero_le _, Nat.zero_le _, Nat.zero_le _⟩ fun a ha => absurd ha List.not_mem_nil
theorem RdA_any {w : World} : RdA w apAny := .mk (RdQ_nil w).1 (Rd_none w) ⟨Nat.zero_le _, Nat.zero_le _, Nat.zero_le _, Nat.zero_le _⟩ fun a ha => absurd ha List.not_mem_nil
theorem RdA_0 {w : World} : RdA w ap0 := .mk (RdQ_nil w).1 (Rd_none w) ⟨Nat.zero_le _, Nat.zero_le _, Nat.zero_le _, Nat.zero_le _⟩ fun a ha => absurd ha List.not_mem_nil
theorem RdA_tag {w : World} {s : ByteArray} {o : Option Addr} {p : AP} (h : Rd w o (encA p)) (hp : RdA w p) : RdA w (tagA s o p) :=
  .mk (RdQ_nil w).1 (by rw [flat_one]; exact h) ⟨Nat.zero_le _, Nat.zero_le _, Nat.le_refl _, by decide⟩ fun a ha => by rw [List.mem_singleton] at ha; subst ha; exact hp
theorem l3_rd {w : World} {oL oA oB : Option Addr} (hL : Rd w oL (flat encA (l3 oA oB))) (h1 : Rd w oA (encA (apN 1))) (h2 : Rd w oB (encA apV)) : RdAs w oL 3 (l3 oA oB) := by
  refine ⟨hL, Nat.le_refl _, by decide, fun a ha => ?_⟩
  rcases List.mem_cons.1 (show a ∈ [tagA sA oA (apN 1), tagA sB oB apV, apAny] from ha) with rfl | ha
  · exact RdA_tag h1 (RdA_n ⟨3, 1, emp⟩)
  · rcases List.mem_cons.1 ha with rfl | ha
    · exact RdA_tag h2 RdA_v
    · rw [List.mem_singleton] at ha; subst ha; exact RdA_any
theorem l1_rd {w : World} {o : Option Addr} (hL : Rd w o (encA ap0)) : RdAs w o 1 [ap0] := by
  refine ⟨by rw [flat_one]; exact hL, Nat.le_refl _, by decide, fun a ha => ?_⟩
  rw [List.mem_singleton] at ha; subst ha; exact RdA_0
theorem aw_k {t : MT} (h : t.un = tAw) : t.k = 3 ∧ t.ts.length = 2 := by
  obtain ⟨a1, a2, a3, a4, a5, a6, a7⟩ := un_acc t
  rw [h] at a2 a6
  refine ⟨a2.symm, ?_⟩
  have := congrArg List.length a6
  rw [List.length_map] at this
  exact this.symm
set_option maxRecDepth 10000 attribute [local irreducible] Code.wp wpList Calls Ex Op1 sat bat blk cb own Go.Fw.mp Go.Fw.mpO Go.Fw.mpI Go.Fw.mpE Go.Fw.itr HS Rd Ret wkD Hp Cl Cls Exit.then Exit.inBlock Exit.noGoto bodyPost Go.Fw.flat wk2 Go.Fw.all Go.Fw.owns wpOp
attribute [local irreducible] encA encC encB encL itF comP

theorem num_spec (w0 : World) (n : Int) : Ret Try.prog 13 #[.int .i64 n] w0 (fun v w => v = .agg #[.int .i64 (apN n).k, .int .i64 (apN n).v, .int .i64 (apN n).n, .string (apN n).s, .slice (apN n).ol (apN n).ls.length (apN n).cl, .slice (apN n).oa (apN n).ps.length (apN n).ca] ∧ Kp w0 noM w) := by
  have hH : HS w0 noM [] w0 := HS.init w0 noM
  (refine enter (N := 5) Try.func13 rfl Try.ntmps13 rfl ?_; intro a hA; dsimp only [sl0, Nat.reduceAdd] at hA)
  repeat' (first | (first | (refine GT ?_ ?_ <;> intro hg <;> clear hA a <;> intro a hA <;> (first | exact FA | replace hg := of_decide_eq_true hg | replace hg := of_decide_eq_false hg | skip)) | ((first | apply st_ex hA hH rfl rfl (by decide) | apply dr_ex hA rfl rfl rfl (by decide) | apply dr_exp hA rfl rfl rfl (by decide) | apply dr_ex3 hA hH rfl rfl rfl (by decide)); (first | (apply ex_build_p #[.int .i64 (apN n).k, .int .i64 (apN n).v, .int .i64 (apN n).n, .string (apN n).s, .slice (apN n).ol (apN n).ls.length (apN n).cl, .slice (apN n).oa (apN n).ps.length (apN n).ca]; rfl; (repeat (first | (intro _ h; exact absurd h (List.not_mem_nil)) | (refine List.forall_mem_cons.2 ⟨one_cell_of _ _, ?_⟩))); rfl)); clear hA a; intro a hA) | (refine QT ?_; clear hA a; intro a hA) | (first | (refine BT ?_; clear hA hH; rintro _ w ⟨bN, rfl, hH⟩ a hA) | (refine LT ?_; clear hA hH; rintro _ w ⟨oN, rfl, hH⟩ a hA) | (refine AT ?_; clear hA; rintro _ w ⟨oN, cN, rfl, hH2⟩ a hA; clear hH; have hH := (hH2 _ (by (repeat constructor))).tail; clear hH2) | (refine S0T ?_; clear hH; rintro _ w hH) | (apply st_op0 hA rfl rfl; apply op_store_agg (vs := [.int .i64 (apN n).k, .int .i64 (apN n).v, .int .i64 (apN n).n, .string (apN n).s, .slice (apN n).ol (apN n).ls.length (apN n).cl, .slice (apN n).oa (apN n).ps.length (apN n).ca]); rfl; rfl; exact hH; (repeat constructor); (repeat rfl); clear hH; rintro _ w hH))) | ((first | refine CT ?_ | (refine DT ?_ ?_ <;> intro hc <;> try (exfalso; omega))) <;> repeat' refine CT ?_) | (first | (refine DSK ?_; clear hA a; intro a hA) | (first | (refine DLT ?_; clear hA hH; rintro _ w ⟨oN, rfl, hH⟩; refine ⟨STT, ?_⟩; intro a hA) | (refine DAT ?_; clear hA; rintro _ w ⟨oN, cN, rfl, hH2⟩; clear hH; have hH := (hH2 _ (by (repeat constructor))).tail; clear hH2; refine ⟨STT, ?_⟩; intro a hA))) )
  exact rt1c (vs := [.int .i64 (apN n).k, .int .i64 (apN n).v, .int .i64 (apN n).n, .string (apN n).s, .slice (apN n).ol (apN n).ls.length (apN n).cl, .slice (apN n).oa (apN n).ps.length (apN n).ca]) (.inl rfl) rfl hA rfl rfl hH (cls_cb_all (by exact MEMT)) ⟨rfl, hH.kp⟩
theorem tag_spec (w0 : World) (s : ByteArray) (p : AP) : Ret Try.prog 12 #[.string s, .agg #[.int .i64 p.k, .int .i64 p.v, .int .i64 p.n, .string p.s, .slice p.ol p.ls.length p.cl, .slice p.oa p.ps.length p.ca]] w0 (fun v w => ∃ o, v = .agg #[.int .i64 (tagA s o p).k, .int .i64 (tagA s o p).v, .int .i64 (tagA s o p).n, .string (tagA s o p).s, .slice (tagA s o p).ol (tagA s o p).ls.length (tagA s o p).cl, .slice (tagA s o p).oa (tagA s o p).ps.length (tagA s o p).ca] ∧ HS w0 noM [own 38 6 o 1 1 (encA p)] w) := by
  have hH : HS w0 noM [] w0 := HS.init w0 noM
  (refine enter (N := 9) Try.func12 rfl Try.ntmps12 rfl ?_; intro a hA; dsimp only [sl0, Nat.reduceAdd] at hA)
  repeat' (first | (first | (refine GT ?_ ?_ <;> intro hg <;> clear hA a <;> intro a hA <;> (first | exact FA | replace hg := of_decide_eq_true hg | replace hg := of_decide_eq_false hg | skip)) | (refine QT ?_; clear hA a; intro a hA) | (first | (refine BT ?_; clear hA hH; rintro _ w ⟨bN, rfl, hH⟩ a hA) | (refine LT ?_; clear hA hH; rintro _ w ⟨oN, rfl, hH⟩ a hA) | (refine AT ?_; clear hA; rintro _ w ⟨oN, cN, rfl, hH2⟩ a hA; clear hH; have hH := (hH2 _ (by (repeat constructor))).tail; clear hH2) | (refine S0T ?_; clear hH; rintro _ w hH) )) | ((first | refine CT ?_ | (refine DT ?_ ?_ <;> intro hc <;> try (exfalso; omega))) <;> repeat' refine CT ?_) | (first | (refine DSK ?_; clear hA a; intro a hA) | (first | (refine DLT ?_; clear hA hH; rintro _ w ⟨oN, rfl, hH⟩; refine ⟨STT, ?_⟩; intro a hA) | (refine DAT ?_; clear hA; rintro _ w ⟨oN, cN, rfl, hH2⟩; clear hH; have hH := (hH2 _ (by (repeat constructor))).tail; clear hH2; refine ⟨STT, ?_⟩; intro a hA))) )
  (apply st_op hA rfl rfl (by decide); apply op_sliceLit (xs := [.int .i64 p.k, .int .i64 p.v, .int .i64 p.n, .string p.s, .slice p.ol p.ls.length p.cl, .slice p.oa p.ps.length p.ca]) (vs := [.agg #[.int .i64 p.k, .int .i64 p.v, .int .i64 p.n, .string p.s, .slice p.ol p.ls.length p.cl, .slice p.oa p.ps.length p.ca]]); rfl; rfl; exact (Cats.cn (cs := [.int .i64 p.k, .int .i64 p.v, .int .i64 p.n, .string p.s, .slice p.ol p.ls.length p.cl, .slice p.oa p.ps.length p.ca]) Cats.nil); rfl; rfl; rfl; exact hH; clear hA hH; rintro _ w ⟨oN, rfl, hH⟩ a hA)
  repeat' (first | (first | (refine GT ?_ ?_ <;> intro hg <;> clear hA a <;> intro a hA <;> (first | exact FA | replace hg := of_decide_eq_true hg | replace hg := of_decide_eq_false hg | skip)) | ((first | apply st_ex hA hH rfl rfl (by decide) | apply dr_ex hA rfl rfl rfl (by decide) | apply dr_exp hA rfl rfl rfl (by decide) | apply dr_ex3 hA hH rfl rfl rfl (by decide)); (first | (apply ex_build_p #[.int .i64 (tagA s oN p).k, .int .i64 (tagA s oN p).v, .int .i64 (tagA s oN p).n, .string (tagA s oN p).s, .slice (tagA s oN p).ol (tagA s oN p).ls.length (tagA s oN p).cl, .slice (tagA s oN p).oa (tagA s oN p).ps.length (tagA s oN p).ca]; rfl; (repeat (first | (intro _ h; exact absurd h (List.not_mem_nil)) | (refine List.forall_mem_cons.2 ⟨one_cell_of _ _, ?_⟩))); rfl)); clear hA a; intro a hA) | (refine QT ?_; clear hA a; intro a hA) | (first | (refine BT ?_; clear hA hH; rintro _ w ⟨bN, rfl, hH⟩ a hA) | (refine LT ?_; clear hA hH; rintro _ w ⟨oN, rfl, hH⟩ a hA) | (refine AT ?_; clear hA; rintro _ w ⟨oN, cN, rfl, hH2⟩ a hA; clear hH; have hH := (hH2 _ (by (repeat constructor))).tail; clear hH2) | (refine S0T ?_; clear hH; rintro _ w hH) | (apply st_op0 hA rfl rfl; apply op_store_agg (vs := [.int .i64 (tagA s oN p).k, .int .i64 (tagA s oN p).v, .int .i64 (tagA s oN p).n, .string (tagA s oN p).s, .slice (tagA s oN p).ol (tagA s oN p).ls.length (tagA s oN p).cl, .slice (tagA s oN p).oa (tagA s oN p).ps.length (tagA s oN p).ca]); rfl; rfl; exact hH; (repeat constructor); (repeat rfl); clear hH; rintro _ w hH))) | ((first | refine CT ?_ | (refine DT ?_ ?_ <;> intro hc <;> try (exfalso; omega))) <;> repeat' refine CT ?_) | (first | (refine DSK ?_; clear hA a; intro a hA) | (first | (refine DLT ?_; clear hA hH; rintro _ w ⟨oN, rfl, hH⟩; refine ⟨STT, ?_⟩; intro a hA) | (refine DAT ?_; clear hA; rintro _ w ⟨oN, cN, rfl, hH2⟩; clear hH; have hH := (hH2 _ (by (repeat constructor))).tail; clear hH2; refine ⟨STT, ?_⟩; intro a hA))) )
  rw [← encA_eq p] at hH
  exact rt1c (vs := [.int .i64 (tagA s oN p).k, .int .i64 (tagA s oN p).v, .int .i64 (tagA s oN p).n, .string (tagA s oN p).s, .slice (tagA s oN p).ol (tagA s oN p).ls.length (tagA s oN p).cl, .slice (tagA s oN p).oa (tagA s oN p).ps.length (tagA s oN p).ca]) (.inl rfl) rfl hA rfl rfl hH (cls_cb_all (by exact MEMT)) ⟨oN, rfl, hH.head⟩
set_option maxHeartbeats 8000000 in
theorem awake_spec (w0 : World) : Ret Try.prog 5 #[] w0 (fun v w => v = .bool true ∧ Kp w0 noM w) := by
  have hH : HS w0 noM [] w0 := HS.init w0 noM
  (refine enter (N := 103) Try.func5 rfl Try.ntmps5 rfl ?_; intro a hA; dsimp only [sl0, Nat.reduceAdd] at hA)
  repeat' (first | (first | (refine GT ?_ ?_ <;> intro hg <;> clear hA a <;> intro a hA <;> (first | exact FA | replace hg := of_decide_eq_true hg | replace hg := of_decide_eq_false hg | skip)) | (refine QT ?_; clear hA a; intro a hA) | (first | (refine BT ?_; clear hA hH; rintro _ w ⟨bN, rfl, hH⟩ a hA) | (refine LT ?_; clear hA hH; rintro _ w ⟨oN, rfl, hH⟩ a hA) | (refine AT ?_; clear hA; rintro _ w ⟨oN, cN, rfl, hH2⟩ a hA; clear hH; have hH := (hH2 _ (by (repeat constructor))).tail; clear hH2) | (refine S0T ?_; clear hH; rintro _ w hH) )) | ((first | refine CT ?_ | (refine DT ?_ ?_ <;> intro hc <;> try (exfalso; omega))) <;> repeat' refine CT ?_) | (first | (refine DSK ?_; clear hA a; intro a hA) | (first | (refine DLT ?_; clear hA hH; rintro _ w ⟨oN, rfl, hH⟩; refine ⟨STT, ?_⟩; intro a hA) | (refine DAT ?_; clear hA; rintro _ w ⟨oN, cN, rfl, hH2⟩; clear hH; have hH := (hH2 _ (by (repeat constructor))).tail; clear hH2; refine ⟨STT, ?_⟩; intro a hA))) )
  (refine st_op hA rfl rfl (by decide) (op_call rfl rfl rfl (num_spec _ 1)) ?_; clear hA; rintro _ w ⟨rfl, hk⟩ a hA; replace hH := hH.keep hk; clear hk)
  (refine st_op hA rfl rfl (by decide) (op_call rfl rfl rfl (tag_spec _ sA (apN 1))) ?_; clear hA; rintro _ w ⟨oA, rfl, hj⟩ a hA; replace hH := hH.join hj; clear hj)
  repeat' (first | (first | (refine GT ?_ ?_ <;> intro hg <;> clear hA a <;> intro a hA <;> (first | exact FA | replace hg := of_decide_eq_true hg | replace hg := of_decide_eq_false hg | skip)) | ((first | apply st_ex hA hH rfl rfl (by decide) | apply dr_ex hA rfl rfl rfl (by decide) | apply dr_exp hA rfl rfl rfl (by decide) | apply dr_ex3 hA hH rfl rfl rfl (by decide)); (first | (apply ex_build_p #[.int .i64 apV.k, .int .i64 apV.v, .int .i64 apV.n, .string apV.s, .slice apV.ol apV.ls.length apV.cl, .slice apV.oa apV.ps.length apV.ca]; rfl; (repeat (first | (intro _ h; exact absurd h (List.not_mem_nil)) | (refine List.forall_mem_cons.2 ⟨one_cell_of _ _, ?_⟩))); rfl)); clear hA a; intro a hA) | (refine QT ?_; clear hA a; intro a hA) | (first | (refine BT ?_; clear hA hH; rintro _ w ⟨bN, rfl, hH⟩ a hA) | (refine LT ?_; clear hA hH; rintro _ w ⟨oN, rfl, hH⟩ a hA) | (refine AT ?_; clear hA; rintro _ w ⟨oN, cN, rfl, hH2⟩ a hA; clear hH; have hH := (hH2 _ (by (repeat constructor))).tail; clear hH2) | (refine S0T ?_; clear hH; rintro _ w hH) )) | ((first | refine CT ?_ | (refine DT ?_ ?_ <;> intro hc <;> try (exfalso; omega))) <;> repeat' refine CT ?_) | (first | (refine DSK ?_; clear hA a; intro a hA) | (first | (refine DLT ?_; clear hA hH; rintro _ w ⟨oN, rfl, hH⟩; refine ⟨STT, ?_⟩; intro a hA) | (refine DAT ?_; clear hA; rintro _ w ⟨oN, cN, rfl, hH2⟩; clear hH; have hH := (hH2 _ (by (repeat constructor))).tail; clear hH2; refine ⟨STT, ?_⟩; intro a hA))) )
  (refine st_op hA rfl rfl (by decide) (op_call rfl rfl rfl (tag_spec _ sB apV)) ?_; clear hA; rintro _ w ⟨oB, rfl, hj⟩ a hA; replace hH := hH.join hj; clear hj)
  repeat' (first | (first | (refine GT ?_ ?_ <;> intro hg <;> clear hA a <;> intro a hA <;> (first | exact FA | replace hg := of_decide_eq_true hg | replace hg := of_decide_eq_false hg | skip)) | ((first | apply st_ex hA hH rfl rfl (by decide) | apply dr_ex hA rfl rfl rfl (by decide) | apply dr_exp hA rfl rfl rfl (by decide) | apply dr_ex3 hA hH rfl rfl rfl (by decide)); (first | (apply ex_build_p #[.int .i64 apAny.k, .int .i64 apAny.v, .int .i64 apAny.n, .string apAny.s, .slice apAny.ol apAny.ls.length apAny.cl, .slice apAny.oa apAny.ps.length apAny.ca]; rfl; (repeat (first | (intro _ h; exact absurd h (List.not_mem_nil)) | (refine List.forall_mem_cons.2 ⟨one_cell_of _ _, ?_⟩))); rfl)); clear hA a; intro a hA) | (refine QT ?_; clear hA a; intro a hA) | (first | (refine BT ?_; clear hA hH; rintro _ w ⟨bN, rfl, hH⟩ a hA) | (refine LT ?_; clear hA hH; rintro _ w ⟨oN, rfl, hH⟩ a hA) | (refine AT ?_; clear hA; rintro _ w ⟨oN, cN, rfl, hH2⟩ a hA; clear hH; have hH := (hH2 _ (by (repeat constructor))).tail; clear hH2) | (refine S0T ?_; clear hH; rintro _ w hH) )) | ((first | refine CT ?_ | (refine DT ?_ ?_ <;> intro hc <;> try (exfalso; omega))) <;> repeat' refine CT ?_) | (first | (refine DSK ?_; clear hA a; intro a hA) | (first | (refine DLT ?_; clear hA hH; rintro _ w ⟨oN, rfl, hH⟩; refine ⟨STT, ?_⟩; intro a hA) | (refine DAT ?_; clear hA; rintro _ w ⟨oN, cN, rfl, hH2⟩; clear hH; have hH := (hH2 _ (by (repeat constructor))).tail; clear hH2; refine ⟨STT, ?_⟩; intro a hA))) )
  (apply st_op hA rfl rfl (by decide); apply op_sliceLit (xs := [.int .i64 (tagA sA oA (apN 1)).k, .int .i64 (tagA sA oA (apN 1)).v, .int .i64 (tagA sA oA (apN 1)).n, .string (tagA sA oA (apN 1)).s, .slice (tagA sA oA (apN 1)).ol (tagA sA oA (apN 1)).ls.length (tagA sA oA (apN 1)).cl, .slice (tagA sA oA (apN 1)).oa (tagA sA oA (apN 1)).ps.length (tagA sA oA (apN 1)).ca] ++ ([.int .i64 (tagA sB oB apV).k, .int .i64 (tagA sB oB apV).v, .int .i64 (tagA sB oB apV).n, .string (tagA sB oB apV).s, .slice (tagA sB oB apV).ol (tagA sB oB apV).ls.length (tagA sB oB apV).cl, .slice (tagA sB oB apV).oa (tagA sB oB apV).ps.length (tagA sB oB apV).ca] ++ [.int .i64 apAny.k, .int .i64 apAny.v, .int .i64 apAny.n, .string apAny.s, .slice apAny.ol apAny.ls.length apAny.cl, .slice apAny.oa apAny.ps.length apAny.ca])) (vs := [.agg #[.int .i64 (tagA sA oA (apN 1)).k, .int .i64 (tagA sA oA (apN 1)).v, .int .i64 (tagA sA oA (apN 1)).n, .string (tagA sA oA (apN 1)).s, .slice (tagA sA oA (apN 1)).ol (tagA sA oA (apN 1)).ls.length (tagA sA oA (apN 1)).cl, .slice (tagA sA oA (apN 1)).oa (tagA sA oA (apN 1)).ps.length (tagA sA oA (apN 1)).ca], .agg #[.int .i64 (tagA sB oB apV).k, .int .i64 (tagA sB oB apV).v, .int .i64 (tagA sB oB apV).n, .string (tagA sB oB apV).s, .slice (tagA sB oB apV).ol (tagA sB oB apV).ls.length (tagA sB oB apV).cl, .slice (tagA sB oB apV).oa (tagA sB oB apV).ps.length (tagA sB oB apV).ca], .agg #[.int .i64 apAny.k, .int .i64 apAny.v, .int .i64 apAny.n, .string apAny.s, .slice apAny.ol apAny.ls.length apAny.cl, .slice apAny.oa apAny.ps.length apAny.ca]]); rfl; rfl; exact (Cats.cn (cs := [.int .i64 (tagA sA oA (apN 1)).k, .int .i64 (tagA sA oA (apN 1)).v, .int .i64 (tagA sA oA (apN 1)).n, .string (tagA sA oA (apN 1)).s, .slice (tagA sA oA (apN 1)).ol (tagA sA oA (apN 1)).ls.length (tagA sA oA (apN 1)).cl, .slice (tagA sA oA (apN 1)).oa (tagA sA oA (apN 1)).ps.length (tagA sA oA (apN 1)).ca]) (Cats.cn (cs := [.int .i64 (tagA sB oB apV).k, .int .i64 (tagA sB oB apV).v, .int .i64 (tagA sB oB apV).n, .string (tagA sB oB apV).s, .slice (tagA sB oB apV).ol (tagA sB oB apV).ls.length (tagA sB oB apV).cl, .slice (tagA sB oB apV).oa (tagA sB oB apV).ps.length (tagA sB oB apV).ca]) (Cats.cn (cs := [.int .i64 apAny.k, .int .i64 apAny.v, .int .i64 apAny.n, .string apAny.s, .slice apAny.ol apAny.ls.length apAny.cl, .slice apAny.oa apAny.ps.length apAny.ca]) Cats.nil))); rfl; rfl; rfl; exact hH; clear hA hH; rintro _ w ⟨oL, rfl, hH⟩ a hA)
  have efl : flat encA (l3 oA oB) = [.int .i64 (tagA sA oA (apN 1)).k, .int .i64 (tagA sA oA (apN 1)).v, .int .i64 (tagA sA oA (apN 1)).n, .string (tagA sA oA (apN 1)).s, .slice (tagA sA oA (apN 1)).ol (tagA sA oA (apN 1)).ls.length (tagA sA oA (apN 1)).cl, .slice (tagA sA oA (apN 1)).oa (tagA sA oA (apN 1)).ps.length (tagA sA oA (apN 1)).ca] ++ ([.int .i64 (tagA sB oB apV).k, .int .i64 (tagA sB oB apV).v, .int .i64 (tagA sB oB apV).n, .string (tagA sB oB apV).s, .slice (tagA sB oB apV).ol (tagA sB oB apV).ls.length (tagA sB oB apV).cl, .slice (tagA sB oB apV).oa (tagA sB oB apV).ps.length (tagA sB oB apV).ca] ++ [.int .i64 apAny.k, .int .i64 apAny.v, .int .i64 apAny.n, .string apAny.s, .slice apAny.ol apAny.ls.length apAny.cl, .slice apAny.oa apAny.ps.length apAny.ca]) := by
    show flat encA [tagA sA oA (apN 1), tagA sB oB apV, apAny] = _
    rw [flat_cons, flat_cons, flat_one, encA_eq, encA_eq (tagA sB oB apV), encA_eq apAny]
  rw [← efl] at hH
  repeat' (first | (first | (refine GT ?_ ?_ <;> intro hg <;> clear hA a <;> intro a hA <;> (first | exact FA | replace hg := of_decide_eq_true hg | replace hg := of_decide_eq_false hg | skip)) | (refine QT ?_; clear hA a; intro a hA) | (first | (refine BT ?_; clear hA hH; rintro _ w ⟨bN, rfl, hH⟩ a hA) | (refine LT ?_; clear hA hH; rintro _ w ⟨oN, rfl, hH⟩ a hA) | (refine AT ?_; clear hA; rintro _ w ⟨oN, cN, rfl, hH2⟩ a hA; clear hH; have hH := (hH2 _ (by (repeat constructor))).tail; clear hH2) | (refine S0T ?_; clear hH; rintro _ w hH) )) | ((first | refine CT ?_ | (refine DT ?_ ?_ <;> intro hc <;> try (exfalso; omega))) <;> repeat' refine CT ?_) | (first | (refine DSK ?_; clear hA a; intro a hA) | (first | (refine DLT ?_; clear hA hH; rintro _ w ⟨oN, rfl, hH⟩; refine ⟨STT, ?_⟩; intro a hA) | (refine DAT ?_; clear hA; rintro _ w ⟨oN, cN, rfl, hH2⟩; clear hH; have hH := (hH2 _ (by (repeat constructor))).tail; clear hH2; refine ⟨STT, ?_⟩; intro a hA))) )
  (refine st_op hA rfl rfl (by decide) (op_call rfl rfl rfl (compile_spec _ oL 3 (l3 oA oB) (l3_rd (hH.own_rd (by exact MEMT)) (hH.own_rd (by exact MEMT)) (hH.own_rd (by exact MEMT))))) ?_; clear hA; rintro _ w ⟨t, rfl, htu, hj⟩ a hA; replace hH := hH.join hj; clear hj)
  rw [com_aw] at htu hA
  repeat' (first | (first | (refine GT ?_ ?_ <;> intro hg <;> clear hA a <;> intro a hA <;> (first | exact FA | replace hg := of_decide_eq_true hg | replace hg := of_decide_eq_false hg | skip)) | ((first | apply st_ex hA hH rfl rfl (by decide) | apply dr_ex hA rfl rfl rfl (by decide) | apply dr_exp hA rfl rfl rfl (by decide) | apply dr_ex3 hA hH rfl rfl rfl (by decide)); (first | (apply ex_build_p #[.int .i64 ap0.k, .int .i64 ap0.v, .int .i64 ap0.n, .string ap0.s, .slice ap0.ol ap0.ls.length ap0.cl, .slice ap0.oa ap0.ps.length ap0.ca]; rfl; (repeat (first | (intro _ h; exact absurd h (List.not_mem_nil)) | (refine List.forall_mem_cons.2 ⟨one_cell_of _ _, ?_⟩))); rfl)); clear hA a; intro a hA) | (refine QT ?_; clear hA a; intro a hA) | (first | (refine BT ?_; clear hA hH; rintro _ w ⟨bN, rfl, hH⟩ a hA) | (refine LT ?_; clear hA hH; rintro _ w ⟨oN, rfl, hH⟩ a hA) | (refine AT ?_; clear hA; rintro _ w ⟨oN, cN, rfl, hH2⟩ a hA; clear hH; have hH := (hH2 _ (by (repeat constructor))).tail; clear hH2) | (refine S0T ?_; clear hH; rintro _ w hH) | (apply st_op0 hA rfl rfl; apply op_store_agg (vs := encT t); rfl; rfl; exact hH; (repeat constructor); (repeat rfl); clear hH; rintro _ w hH))) | ((first | refine CT ?_ | (refine DT ?_ ?_ <;> intro hc <;> try (exfalso; omega))) <;> repeat' refine CT ?_) | (first | (refine DSK ?_; clear hA a; intro a hA) | (first | (refine DLT ?_; clear hA hH; rintro _ w ⟨oN, rfl, hH⟩; refine ⟨STT, ?_⟩; intro a hA) | (refine DAT ?_; clear hA; rintro _ w ⟨oN, cN, rfl, hH2⟩; clear hH; have hH := (hH2 _ (by (repeat constructor))).tail; clear hH2; refine ⟨STT, ?_⟩; intro a hA))) )
  (apply st_op hA rfl rfl (by decide); apply op_sliceLit (xs := [.int .i64 ap0.k, .int .i64 ap0.v, .int .i64 ap0.n, .string ap0.s, .slice ap0.ol ap0.ls.length ap0.cl, .slice ap0.oa ap0.ps.length ap0.ca]) (vs := [.agg #[.int .i64 ap0.k, .int .i64 ap0.v, .int .i64 ap0.n, .string ap0.s, .slice ap0.ol ap0.ls.length ap0.cl, .slice ap0.oa ap0.ps.length ap0.ca]]); rfl; rfl; exact (Cats.cn (cs := [.int .i64 ap0.k, .int .i64 ap0.v, .int .i64 ap0.n, .string ap0.s, .slice ap0.ol ap0.ls.length ap0.cl, .slice ap0.oa ap0.ps.length ap0.ca]) Cats.nil); rfl; rfl; rfl; exact hH; clear hA hH; rintro _ w ⟨oN, rfl, hH⟩ a hA)
  rw [← encA_eq ap0] at hH
  (refine st_op hA rfl rfl (by decide) (op_call rfl rfl rfl (compile_spec _ oN 1 [ap0] (l1_rd (hH.own_rd (.head _))))) ?_; clear hA; rintro _ w ⟨tz, rfl, htz, hj⟩ a hA; replace hH := hH.join hj; clear hj)
  rw [com_zero] at htz hA
  repeat' (first | (first | (refine GT ?_ ?_ <;> intro hg <;> clear hA a <;> intro a hA <;> (first | exact FA | replace hg := of_decide_eq_true hg | replace hg := of_decide_eq_false hg | skip)) | (refine QT ?_; clear hA a; intro a hA) | (first | (refine BT ?_; clear hA hH; rintro _ w ⟨bN, rfl, hH⟩ a hA) | (refine LT ?_; clear hA hH; rintro _ w ⟨oN, rfl, hH⟩ a hA) | (refine AT ?_; clear hA; rintro _ w ⟨oN, cN, rfl, hH2⟩ a hA; clear hH; have hH := (hH2 _ (by (repeat constructor))).tail; clear hH2) | (refine S0T ?_; clear hH; rintro _ w hH) | (apply st_op0 hA rfl rfl; apply op_store_agg (vs := encT tz); rfl; rfl; exact hH; (repeat constructor); (repeat rfl); clear hH; rintro _ w hH))) | ((first | refine CT ?_ | (refine DT ?_ ?_ <;> intro hc <;> try (exfalso; omega))) <;> repeat' refine CT ?_) | (first | (refine DSK ?_; clear hA a; intro a hA) | (first | (refine DLT ?_; clear hA hH; rintro _ w ⟨oN, rfl, hH⟩; refine ⟨STT, ?_⟩; intro a hA) | (refine DAT ?_; clear hA; rintro _ w ⟨oN, cN, rfl, hH2⟩; clear hH; have hH := (hH2 _ (by (repeat constructor))).tail; clear hH2; refine ⟨STT, ?_⟩; intro a hA))) )
  have hS : TrS t.un := by rw [htu]; exact trS_aw
  obtain ⟨hk3, htl2⟩ := aw_k htu
  replace hH := HS.dropH (L := [_, _]) (((hH.er 0).er 0).er 0)
  (refine wp_draw_HS [(0, 1), (1, 0), (2, 0), (3, 0), (4, 2), (5, 2), (6, 2), (7, 2), (8, 2)] mixed (by decide +kernel) hH ?_; replace hH := hH.drew)
  repeat' (first | (first | (refine GT ?_ ?_ <;> intro hg <;> clear hA a <;> intro a hA <;> (first | exact FA | replace hg := of_decide_eq_true hg | replace hg := of_decide_eq_false hg | skip)) | (refine QT ?_; clear hA a; intro a hA) | (first | (refine BT ?_; clear hA hH; rintro _ w ⟨bN, rfl, hH⟩ a hA) | (refine LT ?_; clear hA hH; rintro _ w ⟨oN, rfl, hH⟩ a hA) | (refine AT ?_; clear hA; rintro _ w ⟨oN, cN, rfl, hH2⟩ a hA; clear hH; have hH := (hH2 _ (by (repeat constructor))).tail; clear hH2) | (refine S0T ?_; clear hH; rintro _ w hH) )) | ((first | refine CT ?_ | (refine DT ?_ ?_ <;> intro hc <;> try (exfalso; omega))) <;> repeat' refine CT ?_) | (first | (refine DSK ?_; clear hA a; intro a hA) | (first | (refine DLT ?_; clear hA hH; rintro _ w ⟨oN, rfl, hH⟩; refine ⟨STT, ?_⟩; intro a hA) | (refine DAT ?_; clear hA; rintro _ w ⟨oN, cN, rfl, hH2⟩; clear hH; have hH := (hH2 _ (by (repeat constructor))).tail; clear hH2; refine ⟨STT, ?_⟩; intro a hA))) )
  (refine dr_op hA rfl rfl rfl (by decide) (op_call rfl rfl rfl (num_spec _ 1)) ?_; clear hA; rintro _ w ⟨rfl, hk⟩; refine ⟨hH.keep hk, ?_⟩; intro a hA)
  replace hH := hH.keep hk
  clear hk
  (refine dr_op hA rfl rfl rfl (by decide) (op_call rfl rfl rfl (tag_spec _ sA (apN 1))) ?_; clear hA; rintro _ w ⟨oa, rfl, hj⟩; refine ⟨(hH.join hj).tail, ?_⟩; intro a hA)
  replace hH := hH.join hj
  clear hj
  (refine dr_op hA rfl rfl rfl (by decide) (op_call rfl rfl rfl (decide_spec _ 5 t (tagA sA oa (apN 1)) _ [] (HS.rdT hH (by exact MEMT)) (RdA_tag (hH.own_rd (.head _)) (RdA_n ⟨3, 1, emp⟩)) (by rw [htu]; exact dec_a _) rfl hS rfl)) ?_; clear hA; rintro _ w ⟨oa2, ca, ysa, rfl, hysa, hj⟩; refine ⟨(hH.join hj).tail.tail, ?_⟩; intro a hA)
  replace hH := hH.join hj
  clear hj
  repeat' (first | (first | (refine GT ?_ ?_ <;> intro hg <;> clear hA a <;> intro a hA <;> (first | exact FA | replace hg := of_decide_eq_true hg | replace hg := of_decide_eq_false hg | skip)) | (refine QT ?_; clear hA a; intro a hA) | (first | (refine BT ?_; clear hA hH; rintro _ w ⟨bN, rfl, hH⟩ a hA) | (refine LT ?_; clear hA hH; rintro _ w ⟨oN, rfl, hH⟩ a hA) | (refine AT ?_; clear hA; rintro _ w ⟨oN, cN, rfl, hH2⟩ a hA; clear hH; have hH := (hH2 _ (by (repeat constructor))).tail; clear hH2) | (refine S0T ?_; clear hH; rintro _ w hH) )) | ((first | refine CT ?_ | (refine DT ?_ ?_ <;> intro hc <;> try (exfalso; omega))) <;> repeat' refine CT ?_) | (first | (refine DSK ?_; clear hA a; intro a hA) | (first | (refine DLT ?_; clear hA hH; rintro _ w ⟨oN, rfl, hH⟩; refine ⟨STT, ?_⟩; intro a hA) | (refine DAT ?_; clear hA; rintro _ w ⟨oN, cN, rfl, hH2⟩; clear hH; have hH := (hH2 _ (by (repeat constructor))).tail; clear hH2; refine ⟨STT, ?_⟩; intro a hA))) )
  replace hH := HS.dropH (L := [_, _]) ((hH.er 0).er 0)
  (refine wp_draw_HS [(0, 1), (1, 0), (2, 0), (3, 0), (4, 2), (5, 2), (6, 2), (7, 2), (8, 2)] mixed (by decide +kernel) hH ?_; replace hH := hH.drew)
  repeat' (first | (first | (refine GT ?_ ?_ <;> intro hg <;> clear hA a <;> intro a hA <;> (first | exact FA | replace hg := of_decide_eq_true hg | replace hg := of_decide_eq_false hg | skip)) | (refine QT ?_; clear hA a; intro a hA) | (first | (refine BT ?_; clear hA hH; rintro _ w ⟨bN, rfl, hH⟩ a hA) | (refine LT ?_; clear hA hH; rintro _ w ⟨oN, rfl, hH⟩ a hA) | (refine AT ?_; clear hA; rintro _ w ⟨oN, cN, rfl, hH2⟩ a hA; clear hH; have hH := (hH2 _ (by (repeat constructor))).tail; clear hH2) | (refine S0T ?_; clear hH; rintro _ w hH) )) | ((first | refine CT ?_ | (refine DT ?_ ?_ <;> intro hc <;> try (exfalso; omega))) <;> repeat' refine CT ?_) | (first | (refine DSK ?_; clear hA a; intro a hA) | (first | (refine DLT ?_; clear hA hH; rintro _ w ⟨oN, rfl, hH⟩; refine ⟨STT, ?_⟩; intro a hA) | (refine DAT ?_; clear hA; rintro _ w ⟨oN, cN, rfl, hH2⟩; clear hH; have hH := (hH2 _ (by (repeat constructor))).tail; clear hH2; refine ⟨STT, ?_⟩; intro a hA))) )
  (refine dr_op hA rfl rfl rfl (by decide) (op_call rfl rfl rfl (num_spec _ 5)) ?_; clear hA; rintro _ w ⟨rfl, hk⟩; refine ⟨hH.keep hk, ?_⟩; intro a hA)
  replace hH := hH.keep hk
  clear hk
  (refine dr_op hA rfl rfl rfl (by decide) (op_call rfl rfl rfl (tag_spec _ sB (apN 5))) ?_; clear hA; rintro _ w ⟨ob, rfl, hj⟩; refine ⟨(hH.join hj).tail, ?_⟩; intro a hA)
  replace hH := hH.join hj
  clear hj
  (refine dr_op hA rfl rfl rfl (by decide) (op_call rfl rfl rfl (decide_spec _ 5 t (tagA sB ob (apN 5)) _ [⟨3, 5, emp⟩] (HS.rdT hH (by exact MEMT)) (RdA_tag (hH.own_rd (.head _)) (RdA_n ⟨3, 5, emp⟩)) (by rw [htu]; exact dec_b _) rfl hS (get_b _))) ?_; clear hA; rintro _ w ⟨ob2, cb, ysb, rfl, hysb, hj⟩; refine ⟨(hH.join hj).tail.tail, ?_⟩; intro a hA)
  replace hH := hH.join hj
  clear hj
  repeat' (first | (first | (refine GT ?_ ?_ <;> intro hg <;> clear hA a <;> intro a hA <;> (first | exact FA | replace hg := of_decide_eq_true hg | replace hg := of_decide_eq_false hg | skip)) | (refine QT ?_; clear hA a; intro a hA) | (first | (refine BT ?_; clear hA hH; rintro _ w ⟨bN, rfl, hH⟩ a hA) | (refine LT ?_; clear hA hH; rintro _ w ⟨oN, rfl, hH⟩ a hA) | (refine AT ?_; clear hA; rintro _ w ⟨oN, cN, rfl, hH2⟩ a hA; clear hH; have hH := (hH2 _ (by (repeat constructor))).tail; clear hH2) | (refine S0T ?_; clear hH; rintro _ w hH) )) | ((first | refine CT ?_ | (refine DT ?_ ?_ <;> intro hc <;> try (exfalso; omega))) <;> repeat' refine CT ?_) | (first | (refine DSK ?_; clear hA a; intro a hA) | (first | (refine DLT ?_; clear hA hH; rintro _ w ⟨oN, rfl, hH⟩; refine ⟨STT, ?_⟩; intro a hA) | (refine DAT ?_; clear hA; rintro _ w ⟨oN, cN, rfl, hH2⟩; clear hH; have hH := (hH2 _ (by (repeat constructor))).tail; clear hH2; refine ⟨STT, ?_⟩; intro a hA))) )
  replace hH := HS.dropH (L := [_, _, _]) (hH.er 1)
  (refine wp_draw_HS [(0, 1), (1, 0), (2, 0), (3, 0), (4, 2), (5, 2), (6, 2), (7, 2), (8, 2)] mixed (by decide +kernel) hH ?_; replace hH := hH.drew)
  repeat' (first | (first | (refine GT ?_ ?_ <;> intro hg <;> clear hA a <;> intro a hA <;> (first | exact FA | replace hg := of_decide_eq_true hg | replace hg := of_decide_eq_false hg | skip)) | (refine QT ?_; clear hA a; intro a hA) | (first | (refine BT ?_; clear hA hH; rintro _ w ⟨bN, rfl, hH⟩ a hA) | (refine LT ?_; clear hA hH; rintro _ w ⟨oN, rfl, hH⟩ a hA) | (refine AT ?_; clear hA; rintro _ w ⟨oN, cN, rfl, hH2⟩ a hA; clear hH; have hH := (hH2 _ (by (repeat constructor))).tail; clear hH2) | (refine S0T ?_; clear hH; rintro _ w hH) )) | ((first | refine CT ?_ | (refine DT ?_ ?_ <;> intro hc <;> try (exfalso; omega))) <;> repeat' refine CT ?_) | (first | (refine DSK ?_; clear hA a; intro a hA) | (first | (refine DLT ?_; clear hA hH; rintro _ w ⟨oN, rfl, hH⟩; refine ⟨STT, ?_⟩; intro a hA) | (refine DAT ?_; clear hA; rintro _ w ⟨oN, cN, rfl, hH2⟩; clear hH; have hH := (hH2 _ (by (repeat constructor))).tail; clear hH2; refine ⟨STT, ?_⟩; intro a hA))) )
  (refine dr_op hA rfl rfl rfl (by decide) (op_call rfl rfl rfl (num_spec _ 2)) ?_; clear hA; rintro _ w ⟨rfl, hk⟩; refine ⟨hH.keep hk, ?_⟩; intro a hA)
  replace hH := hH.keep hk
  clear hk
  (refine dr_op hA rfl rfl rfl (by decide) (op_call rfl rfl rfl (tag_spec _ sA (apN 2))) ?_; clear hA; rintro _ w ⟨oc, rfl, hj⟩; refine ⟨(hH.join hj).tail, ?_⟩; intro a hA)
  replace hH := hH.join hj
  clear hj
  (refine dr_op hA rfl rfl rfl (by decide) (op_call rfl rfl rfl (decide_spec _ 5 t (tagA sA oc (apN 2)) _ [] (HS.rdT hH (by exact MEMT)) (RdA_tag (hH.own_rd (.head _)) (RdA_n ⟨3, 2, emp⟩)) (by rw [htu]; exact dec_c _) rfl hS rfl)) ?_; clear hA; rintro _ w ⟨oc2, cc, ysc, rfl, hysc, hj⟩; refine ⟨(hH.join hj).tail.tail, ?_⟩; intro a hA)
  replace hH := hH.join hj
  clear hj
  repeat' (first | (first | (refine GT ?_ ?_ <;> intro hg <;> clear hA a <;> intro a hA <;> (first | exact FA | replace hg := of_decide_eq_true hg | replace hg := of_decide_eq_false hg | skip)) | (refine QT ?_; clear hA a; intro a hA) | (first | (refine BT ?_; clear hA hH; rintro _ w ⟨bN, rfl, hH⟩ a hA) | (refine LT ?_; clear hA hH; rintro _ w ⟨oN, rfl, hH⟩ a hA) | (refine AT ?_; clear hA; rintro _ w ⟨oN, cN, rfl, hH2⟩ a hA; clear hH; have hH := (hH2 _ (by (repeat constructor))).tail; clear hH2) | (refine S0T ?_; clear hH; rintro _ w hH) )) | ((first | refine CT ?_ | (refine DT ?_ ?_ <;> intro hc <;> try (exfalso; omega))) <;> repeat' refine CT ?_) | (first | (refine DSK ?_; clear hA a; intro a hA) | (first | (refine DLT ?_; clear hA hH; rintro _ w ⟨oN, rfl, hH⟩; refine ⟨STT, ?_⟩; intro a hA) | (refine DAT ?_; clear hA; rintro _ w ⟨oN, cN, rfl, hH2⟩; clear hH; have hH := (hH2 _ (by (repeat constructor))).tail; clear hH2; refine ⟨STT, ?_⟩; intro a hA))) )
  replace hH := HS.dropH (L := [_, _, _]) ((hH.er 0).er 0)
  repeat' (first | (first | (refine GT ?_ ?_ <;> intro hg <;> clear hA a <;> intro a hA <;> (first | exact FA | replace hg := of_decide_eq_true hg | replace hg := of_decide_eq_false hg | skip)) | ((first | apply st_ex hA hH rfl rfl (by decide) | apply dr_ex hA rfl rfl rfl (by decide) | apply dr_exp hA rfl rfl rfl (by decide) | apply dr_ex3 hA hH rfl rfl rfl (by decide)); (first | (apply ex_build_p (encT (zT hd0)).toArray; rfl; (repeat (first | (intro _ h; exact absurd h (List.not_mem_nil)) | (refine List.forall_mem_cons.2 ⟨one_cell_of _ _, ?_⟩))); rfl)); clear hA a; intro a hA) | (refine QT ?_; clear hA a; intro a hA) | (first | (refine BT ?_; clear hA hH; rintro _ w ⟨bN, rfl, hH⟩ a hA) | (refine LT ?_; clear hA hH; rintro _ w ⟨oN, rfl, hH⟩ a hA) | (refine AT ?_; clear hA; rintro _ w ⟨oN, cN, rfl, hH2⟩ a hA; clear hH; have hH := (hH2 _ (by (repeat constructor))).tail; clear hH2) | (refine S0T ?_; clear hH; rintro _ w hH) )) | ((first | refine CT ?_ | (refine DT ?_ ?_ <;> intro hc <;> try (exfalso; omega))) <;> repeat' refine CT ?_) | (first | (refine DSK ?_; clear hA a; intro a hA) | (first | (refine DLT ?_; clear hA hH; rintro _ w ⟨oN, rfl, hH⟩; refine ⟨STT, ?_⟩; intro a hA) | (refine DAT ?_; clear hA; rintro _ w ⟨oN, cN, rfl, hH2⟩; clear hH; have hH := (hH2 _ (by (repeat constructor))).tail; clear hH2; refine ⟨STT, ?_⟩; intro a hA))) )
  (refine st_op hA rfl rfl (by decide) (op_call rfl rfl rfl (num_spec _ 1)) ?_; clear hA; rintro _ w ⟨rfl, hk⟩ a hA; replace hH := hH.keep hk; clear hk)
  repeat' (first | (first | (refine GT ?_ ?_ <;> intro hg <;> clear hA a <;> intro a hA <;> (first | exact FA | replace hg := of_decide_eq_true hg | replace hg := of_decide_eq_false hg | skip)) | (refine QT ?_; clear hA a; intro a hA) | (first | (refine BT ?_; clear hA hH; rintro _ w ⟨bN, rfl, hH⟩ a hA) | (refine LT ?_; clear hA hH; rintro _ w ⟨oN, rfl, hH⟩ a hA) | (refine AT ?_; clear hA; rintro _ w ⟨oN, cN, rfl, hH2⟩ a hA; clear hH; have hH := (hH2 _ (by (repeat constructor))).tail; clear hH2) | (refine S0T ?_; clear hH; rintro _ w hH) )) | ((first | refine CT ?_ | (refine DT ?_ ?_ <;> intro hc <;> try (exfalso; omega))) <;> repeat' refine CT ?_) | (first | (refine DSK ?_; clear hA a; intro a hA) | (first | (refine DLT ?_; clear hA hH; rintro _ w ⟨oN, rfl, hH⟩; refine ⟨STT, ?_⟩; intro a hA) | (refine DAT ?_; clear hA; rintro _ w ⟨oN, cN, rfl, hH2⟩; clear hH; have hH := (hH2 _ (by (repeat constructor))).tail; clear hH2; refine ⟨STT, ?_⟩; intro a hA))) )
  (refine st_op hA rfl rfl (by decide) (op_call rfl rfl rfl (decide_zero _ (apN 1))) ?_; clear hA; rintro _ w ⟨rfl, hk⟩ a hA; replace hH := hH.keep hk; clear hk)
  obtain ⟨y, rfl, hyn⟩ : ∃ y, ysb = [y] ∧ y.n = 5 := by
    match ysb, hysb with
    | [y], h => exact ⟨y, rfl, congrArg Hd.n (List.cons.inj h).1⟩
    | [], h => exact absurd (congrArg List.length h) (by simp)
    | _ :: _ :: _, h => exact absurd (congrArg List.length h) (by simp)
  rw [flat_one, encA_eq y] at hH
  have hspy := hH.own_sp (T := 38) (.head _)
  have hcy : ([.int .i64 y.k, .int .i64 y.v, .int .i64 y.n, .string y.s, .slice y.ol y.ls.length y.cl, .slice y.oa y.ps.length y.ca] : List Value)[Int.toNat 0 * 6 + 2]? = some (.int .i64 y.n) := rfl
  have e1 : ((5, z0) : Int × Tr).1 = 5 := rfl
  have e2 : ((0, tAw) : Int × Tr).1 = 0 := rfl
  have e3 : (lf h1_ 0).n = 0 := rfl
  have e4 : (Tr.mk hB_ 2 1 [(7, [emp])] [] [] []).n = 1 := rfl
  have e5 : (lf hd0 2).n = 2 := rfl
  have e6 : [y].length = 1 := rfl
  rw [e1, e2, e3, e4, e5, e6] at hA
  rw [e6] at hH hspy
  repeat' (first | (first | (refine GT ?_ ?_ <;> intro hg <;> clear hA a <;> intro a hA <;> (first | exact FA | replace hg := of_decide_eq_true hg | replace hg := of_decide_eq_false hg | skip)) | ((first | apply st_ex hA hH rfl rfl (by decide) | apply dr_ex hA rfl rfl rfl (by decide) | apply dr_exp hA rfl rfl rfl (by decide) | apply dr_ex3 hA hH rfl rfl rfl (by decide)); (first | (apply ex_load; rfl; apply cl_own; exact MEMT; exact hcy)); clear hA a; intro a hA) | (refine QT ?_; clear hA a; intro a hA) | (first | (refine BT ?_; clear hA hH; rintro _ w ⟨bN, rfl, hH⟩ a hA) | (refine LT ?_; clear hA hH; rintro _ w ⟨oN, rfl, hH⟩ a hA) | (refine AT ?_; clear hA; rintro _ w ⟨oN, cN, rfl, hH2⟩ a hA; clear hH; have hH := (hH2 _ (by (repeat constructor))).tail; clear hH2) | (refine S0T ?_; clear hH; rintro _ w hH) )) | ((first | refine CT ?_ | (refine DT ?_ ?_ <;> intro hc <;> try (exfalso; omega))) <;> repeat' refine CT ?_) | (first | (refine DSK ?_; clear hA a; intro a hA) | (first | (refine DLT ?_; clear hA hH; rintro _ w ⟨oN, rfl, hH⟩; refine ⟨STT, ?_⟩; intro a hA) | (refine DAT ?_; clear hA; rintro _ w ⟨oN, cN, rfl, hH2⟩; clear hH; have hH := (hH2 _ (by (repeat constructor))).tail; clear hH2; refine ⟨STT, ?_⟩; intro a hA))) )
  exact rt1 (.inl rfl) rfl hA rfl ⟨rfl, hH.kp⟩
end Go.Proofs.Ytcododdkjppmjaa
namespace Go.Proofs.Ytcododdkjppmjaa
open Go Go.Fw Go.ChangeShapes Go.WideShapes Go.ChangeAt Go.RowKit Go.Deep
set_option linter.unusedVariables false
theorem own_ : ownKnob Try.checked.prog.godebug = none := by kernel_rfl
theorem laidOut : laidOutB Try.checked.prog = true := by kernel_rfl
section
variable {H : Type} {enc : TypeId × Value → H} {w : World} {held : Bool}
theorem one_field {fuel t off : Nat} {cs' : List Value} {y : Option (DataW H × List MemPlace)} (hc : Try.prog.cellsOf t = 1) (hl : off < cs'.length) (h : DataW.trod enc Try.prog w 0 (fun _ => true) held fuel t ((cs'.drop off).take (Try.prog.cellsOf t)) = y) (hy : y.isSome = true) :
    ∃ (v : Value) (x : DataW H × List MemPlace), cs'[off]? = some v ∧ DataW.trod enc Try.prog w 0 (fun _ => true) held fuel t [v] = some x := by
  rw [hc, List.drop_eq_getElem_cons hl] at h
  obtain ⟨x, hx⟩ := Option.isSome_iff_exists.1 hy
  exact ⟨cs'[off], x, List.getElem?_eq_getElem hl, by rw [← hx, ← h]; rfl⟩
theorem six_cells {cs : List Value} {v0 v1 v2 v3 v4 v5 : Value} (h : cs.length = 6) (g0 : cs[0]? = some v0) (g1 : cs[1]? = some v1) (g2 : cs[2]? = some v2) (g3 : cs[3]? = some v3) (g4 : cs[4]? = some v4) (g5 : cs[5]? = some v5) : cs = [v0, v1, v2, v3, v4, v5] := by
  match cs, h, g0, g1, g2, g3, g4, g5 with
  | [b0, b1, b2, b3, b4, b5], _, g0, g1, g2, g3, g4, g5 =>
    simp only [List.getElem?_cons_zero, List.getElem?_cons_succ, Option.some.injEq] at g0 g1 g2 g3 g4 g5
    rw [g0, g1, g2, g3, g4, g5]
theorem rd_of {a : Addr} {vs : List Value} (h : ∀ j v, vs[j]? = some v → w.cell? (a.add j) = some v) : vs = [] ∨ a.spot = none := by
  cases vs with
  | nil => exact .inl rfl
  | cons v vs =>
    refine .inr ?_
    have := World.cell?_spot (h 0 v rfl)
    simpa [Addr.add] using this
theorem rd_of2 {a : Addr} {vs : List Value} (h : ∀ j v, vs[j]? = some v → w.cell? (a.add j) = some v) : Rd w (some a) vs := by
  rcases rd_of h with rfl | hs
  · exact ⟨fun h => absurd h (by decide), fun j u h => by simp at h⟩
  · refine ⟨fun _ => ⟨a.block, a.off, by rw [← hs]⟩, fun j u hj => ?_⟩
    rw [← add_sat a hs]
    exact h j u hj
theorem open_tpats : ∀ (fuel : Nat) (cs : List Value) (x : DataW H × List MemPlace), DataW.trod enc Try.prog w 0 (fun _ => true) held fuel 22 cs = some x →
    ∃ (o : Option Addr) (c : Nat) (l : List AP), cs = [.slice o l.length c] ∧ RdAs w o c l := by
  intro fuel
  induction fuel using Nat.strongRecOn with
  | _ fuel ih =>
    intro cs x h
    rcases DataW.trod_slice Try.underlying22 h with ⟨rfl, _⟩ | ⟨a, len, cap, elems, rest, n, rfl, rfl, _, hb, hl, hm, hlen, hel, _, _⟩
    · exact ⟨none, 0, [], rfl, Rd_none w, Nat.le_refl _, Nat.zero_le _, fun a ha => absurd ha List.not_mem_nil⟩
    · have hC : Try.prog.cellsOf 38 = 6 := by kernel_rfl
      obtain ⟨l, hll, hp⟩ := choose_list (fun i (p : AP) => (∀ j v, (encA p)[j]? = some v → w.cell? (a.add (i * 6 + j)) = some v) ∧ RdA w p) len (fun i hi => by
        have h1 := hel i hi
        have h2 : elems[i]? = some (elems[i]'(by omega)) := List.getElem?_eq_getElem (by omega)
        rw [h2, hC] at h1
        obtain ⟨cs', hcs, ht⟩ := Option.bind_eq_some_iff.1 h1
        obtain ⟨_, hcl6, hat⟩ := World.cells?_some hcs
        have hcl6 : cs'.length = 6 := hcl6
        obtain ⟨ys, n', rfl, _, _, hyl, hf⟩ := DataW.trod_struct Try.underlying38 ht
        have hys : ys.length = 6 := hyl
        have hsome : ∀ i, i < 6 → (ys[i]?).isSome = true := fun i hi => by rw [List.getElem?_eq_getElem (by omega)]; rfl
        obtain ⟨v0, x0, g0, k0⟩ := one_field (off := 0) (cs' := cs') (by kernel_rfl) (by omega) (hf 0 _ rfl) (hsome 0 (by omega))
        obtain ⟨v1, x1, g1, k1⟩ := one_field (off := 1) (cs' := cs') (by kernel_rfl) (by omega) (hf 1 _ rfl) (hsome 1 (by omega))
        obtain ⟨v2, x2, g2, k2⟩ := one_field (off := 2) (cs' := cs') (by kernel_rfl) (by omega) (hf 2 _ rfl) (hsome 2 (by omega))
        obtain ⟨v3, x3, g3, k3⟩ := one_field (off := 3) (cs' := cs') (by kernel_rfl) (by omega) (hf 3 _ rfl) (hsome 3 (by omega))
        obtain ⟨v4, x4, g4, k4⟩ := one_field (off := 4) (cs' := cs') (by kernel_rfl) (by omega) (hf 4 _ rfl) (hsome 4 (by omega))
        obtain ⟨v5, x5, g5, k5⟩ := one_field (off := 5) (cs' := cs') (by kernel_rfl) (by omega) (hf 5 _ rfl) (hsome 5 (by omega))
        obtain ⟨z0, e0, _⟩ := DataW.trod_int Try.underlying3 k0
        obtain ⟨z1, e1, _⟩ := DataW.trod_int Try.underlying3 k1
        obtain ⟨z2, e2, _⟩ := DataW.trod_int Try.underlying2 k2
        obtain ⟨s3, e3, _⟩ := DataW.trod_string Try.underlying9 k3
        have hv0 : v0 = .int .i64 z0 := by simpa using e0
        have hv1 : v1 = .int .i64 z1 := by simpa using e1
        have hv2 : v2 = .int .i64 z2 := by simpa using e2
        have hv3 : v3 = .string s3 := by simpa using e3
        subst hv0; subst hv1; subst hv2; subst hv3
        obtain ⟨ol, cl, ls, hv4, hls, hlc⟩ : ∃ ol cl ls, v4 = .slice ol ls.length cl ∧ Rd w ol (flat encX ls) ∧ ls.length ≤ cl ∧ cl ≤ maxLen := by
          rcases open_strings Try.underlying25 Try.underlying9 (by kernel_rfl) k4 with ⟨e4, _⟩ | ⟨a4, len4, cap4, ss, e4, _, hl4, hm4, hsl, _, hss, _⟩
          · exact ⟨none, 0, [], by simpa using e4, (RdQ_nil w).1, Nat.zero_le _, Nat.zero_le _⟩
          · have hsl2 : ss.length = cap4 := hsl
            have htl : (ss.take len4).length = len4 := by rw [List.length_take]; omega
            refine ⟨some a4, cap4, ss.take len4, by rw [htl]; simpa using e4, rd_of2 fun j v hj => ?_, by rw [htl]; exact hl4, hm4⟩
            have hjl := (List.getElem?_eq_some_iff.1 hj).1
            rw [flat_length encX_len, htl, Nat.mul_one] at hjl
            obtain ⟨s, hs⟩ : ∃ s, (ss.take len4)[j]? = some s := ⟨_, List.getElem?_eq_getElem (by omega)⟩
            have h5 := encX_at hs
            rw [Nat.mul_one, hj] at h5
            obtain rfl := Option.some.inj h5
            rw [hss j (by omega)]
            rw [List.getElem?_take_of_lt (by omega)] at hs
            rw [List.getD, hs]
            rfl
        obtain ⟨oa, ca, ps, e5, hps⟩ := ih n' (by omega) _ _ k5
        have hv5 : v5 = .slice oa ps.length ca := by simpa using e5
        subst hv4; subst hv5
        refine ⟨.mk z0 z1 z2 s3 ol cl ls oa ca ps, fun j v hj => ?_, .mk hls hps.1 ⟨hlc.1, hlc.2, hps.2.1, hps.2.2.1⟩ hps.2.2.2⟩
        have hjl := (List.getElem?_eq_some_iff.1 hj).1
        rw [encA_len] at hjl
        rw [← Go.Deep.add_add, hat j hjl, ← hj]
        have hcs6 := six_cells hcl6 g0 g1 g2 g3 g4 g5
        rw [hcs6]
        rfl)
      subst hll
      refine ⟨some a, cap, l, rfl, rd_of2 fun j v hj => ?_, hl, hm, fun p hp' => ?_⟩
      · have hjl := (List.getElem?_eq_some_iff.1 hj).1
        rw [flat_length encA_len] at hjl
        obtain ⟨p, hpp⟩ : ∃ p, l[j / 6]? = some p := ⟨_, List.getElem?_eq_getElem (by omega)⟩
        have h6 := (hp _ _ hpp).1 (j % 6)
        have ej : j / 6 * 6 + j % 6 = j := by omega
        obtain ⟨u, hu⟩ : ∃ u, (encA p)[j % 6]? = some u := ⟨_, List.getElem?_eq_getElem (by rw [encA_len]; omega)⟩
        have h7 := flat_get encA_len hpp hu
        rw [ej, hj] at h7
        have h8 := h6 u hu
        rw [ej] at h8
        rw [h8, ← Option.some.inj h7]
      · obtain ⟨i, hi⟩ := List.getElem?_of_mem hp'
        exact (hp i p hi).2
theorem argP {W : World} {base : Nat} {v : Value} {d : DataW H} {p : List MemPlace} {held : Bool} (hv : Value.okWide Try.prog W .any base 22 v) (h : DataW.Trod enc Try.prog W 0 (fun _ => true) held 22 v d p) :
    ∃ (o : Option Addr) (c : Nat) (l : List AP), v = .slice o l.length c ∧ RdAs W o c l := by
  obtain ⟨a0, len0, cap0, rfl⟩ := okWide_slice Try.underlying22 hv
  obtain ⟨fuel, hf⟩ := h
  obtain ⟨o, c, l, hcs, hR⟩ := open_tpats fuel _ _ hf
  simp [Value.cells] at hcs
  obtain ⟨rfl, rfl, rfl⟩ := hcs
  exact ⟨_, _, l, rfl, hR⟩
end
set_option maxRecDepth 10000 attribute [local irreducible] Code.wp wpList Calls Ex Op1 sat bat blk cb own Go.Fw.mp Go.Fw.mpO Go.Fw.mpI Go.Fw.mpE Go.Fw.itr HS Rd Ret wkD Hp Cl Cls Exit.then Exit.inBlock Exit.noGoto bodyPost Go.Fw.flat wk2 Go.Fw.all Go.Fw.owns wpOp
attribute [local irreducible] encA encC encB encL itF comP

end Go.Proofs.Ytcododdkjppmjaa
namespace Go.Proofs.Ytcododdkjppmjaa
open Go Go.Fw
set_option linter.unusedVariables false
theorem brsP_dec {T : Hd → List Ln → Int → Tr × Int} (hT : ∀ h s x, (T h s x).2 ≤ x - 1) {q : Pth} {l : List Ln} : ∀ (hs : List Hd) (x : Int), (brsP T q l hs x).2 ≤ x
  | [], x => Int.le_refl _
  | h :: hs, x => by
    rw [brsP]
    have h1 := hT h (left q h l) x
    have h2 := brsP_dec hT (q := q) (l := l) hs (T h (left q h l) x).2
    dsimp only
    omega
theorem treeP_dec : ∀ (f : Nat) (h : Hd) (l : List Ln) (x : Int), (treeP f h l x).2 ≤ x - 1
  | 0, h, l, x => by rw [treeP_0]; exact Int.le_refl _
  | f + 1, h, l, x => by
    rw [treeP_s]
    by_cases hx : x - 1 < 0
    · rw [treeB_neg hx]; exact Int.le_refl _
    · match l with
      | [] => rw [treeB_nil]; exact Int.le_refl _
      | r :: l =>
        match hc : r.cs with
        | [] => rw [treeB_leaf hx hc]; exact Int.le_refl _
        | c :: _ =>
          rw [treeB_test hx hc]
          dsimp only
          have hb := brsP_dec (treeP_dec f) (q := c.1) (l := r :: l) (heads c.1 (r :: l)) (x - 1)
          have hr := treeP_dec f hd0 (restL c.1 (r :: l)) (brsP (treeP f) c.1 (r :: l) (heads c.1 (r :: l)) (x - 1)).2
          omega
theorem brsP_nodes {T : Hd → List Ln → Int → Tr × Int} (hT : ∀ h s x, (nodes (T h s x).1 : Int) = x - (T h s x).2) {q : Pth} {l : List Ln} : ∀ (hs : List Hd) (x : Int), (nodesL (brsP T q l hs x).1 : Int) = x - (brsP T q l hs x).2
  | [], x => by rw [brsP]; show ((nodesL [] : Nat) : Int) = x - x; rw [nodesL]; omega
  | h :: hs, x => by
    rw [brsP]
    have h1 := hT h (left q h l) x
    have h2 := brsP_nodes hT (q := q) (l := l) hs (T h (left q h l) x).2
    dsimp only
    rw [nodesL]
    omega
theorem nodes_one (h : Hd) (k n : Int) (bs : List Bnd) (q : Pth) : nodes (.mk h k n bs q [] []) = 1 := by rw [nodes, nodesL]
theorem nodes_two (h : Hd) (k n : Int) (bs : List Bnd) (q : Pth) (ts : List Tr) (t : Tr) : nodes (.mk h k n bs q ts [t]) = nodesL ts + nodes t + 1 := by rw [nodes, nodesL, nodesL]; omega
theorem treeP_nodes : ∀ (f : Nat) (h : Hd) (l : List Ln) (x : Int), (nodes (treeP f h l x).1 : Int) = x - (treeP f h l x).2
  | 0, h, l, x => by rw [treeP_0]; dsimp only; rw [nodes_one]; omega
  | f + 1, h, l, x => by
    rw [treeP_s]
    by_cases hx : x - 1 < 0
    · rw [treeB_neg hx]; dsimp only; rw [nodes_one]; omega
    · match l with
      | [] => rw [treeB_nil]; dsimp only; rw [nodes_one]; omega
      | r :: l =>
        match hc : r.cs with
        | [] => rw [treeB_leaf hx hc]; dsimp only; rw [nodes_one]; omega
        | c :: _ =>
          rw [treeB_test hx hc]
          dsimp only
          rw [nodes_two]
          have hb := brsP_nodes (treeP_nodes f) (q := c.1) (l := r :: l) (heads c.1 (r :: l)) (x - 1)
          have hr := treeP_nodes f hd0 (restL c.1 (r :: l)) (brsP (treeP f) c.1 (r :: l) (heads c.1 (r :: l)) (x - 1)).2
          omega
/-- an empty row, of a number, among rows by their numbers -/
def Emp (m : Int) (l : List Ln) : Prop := ∃ r ∈ l, r.cs = [] ∧ r.n ≤ m
theorem Emp.left {m : Int} {l : List Ln} (h : Emp m l) (q : Pth) (hd : Hd) : Emp m (left q hd l) := by
  obtain ⟨r, hr, h1, h2⟩ := h
  refine ⟨r, List.mem_flatMap.2 ⟨r, hr, ?_⟩, h1, h2⟩
  unfold leftL
  rw [h1]
  exact List.mem_singleton.2 rfl
theorem Emp.rest {m : Int} {l : List Ln} (h : Emp m l) (q : Pth) : Emp m (restL q l) := by
  obtain ⟨r, hr, h1, h2⟩ := h
  exact ⟨r, List.mem_filter.2 ⟨hr, by rw [h1]; rfl⟩, h1, h2⟩
def Srt (l : List Ln) : Prop := l.Pairwise fun a b => a.n ≤ b.n
theorem leftL_n {q : Pth} {h : Hd} {r s : Ln} (hs : s ∈ leftL q h r) : s.n = r.n := by
  unfold leftL at hs
  split at hs
  · rw [List.mem_singleton] at hs; rw [hs]
  · split at hs
    · rw [List.mem_singleton] at hs; rw [hs]; rfl
    · exact absurd hs List.not_mem_nil
theorem Srt.left {l : List Ln} (h : Srt l) (q : Pth) (hd : Hd) : Srt (left q hd l) := by
  induction l with
  | nil => exact List.Pairwise.nil
  | cons r l ih =>
    have e : Proofs.Ytcododdkjppmjaa.left q hd (r :: l) = leftL q hd r ++ Proofs.Ytcododdkjppmjaa.left q hd l := rfl
    rw [e]
    have h1 := List.pairwise_cons.1 h
    refine List.pairwise_append.2 ⟨?_, ih h1.2, fun a ha b hb => ?_⟩
    · have hl := leftL_len q hd r
      match hs : leftL q hd r with
      | [] => exact List.Pairwise.nil
      | [d] => exact List.pairwise_singleton _ _
      | _ :: _ :: _ => rw [hs] at hl; simp at hl
    · obtain ⟨s, hs, hb⟩ := List.mem_flatMap.1 hb
      rw [leftL_n ha, leftL_n hb]
      exact h1.1 s hs
theorem Srt.rest {l : List Ln} (h : Srt l) (q : Pth) : Srt (restL q l) := List.Pairwise.filter _ h
theorem brsP_lv {m : Int} {T : Hd → List Ln → Int → Tr × Int} (hd : ∀ h s x, (T h s x).2 ≤ x - 1) {f : Int} {q : Pth} {l : List Ln} (hT : ∀ h x, x ≤ f → 0 ≤ (T h (left q h l) x).2 → Lv m (T h (left q h l) x).1) :
    ∀ (hs : List Hd) (x : Int), x ≤ f → 0 ≤ (brsP T q l hs x).2 → ∀ t ∈ (brsP T q l hs x).1, Lv m t
  | [], x, _, _, t, ht => absurd ht List.not_mem_nil
  | h :: hs, x, hx, h0, t, ht => by
    rw [brsP] at ht h0
    dsimp only at ht h0
    have h1 := brsP_dec hd (q := q) (l := l) hs (T h (left q h l) x).2
    have h2 := hd h (left q h l) x
    rcases List.mem_cons.1 ht with rfl | ht
    · exact hT h x hx (by omega)
    · exact brsP_lv hd hT hs _ (by omega) h0 t ht
theorem treeP_lv {m : Int} : ∀ (f : Nat) (h : Hd) (l : List Ln) (x : Int), x ≤ f → 0 ≤ (treeP f h l x).2 → Emp m l → Srt l → Lv m (treeP f h l x).1
  | 0, h, l, x, hx, h0, _, _ => by rw [treeP_0] at h0; dsimp only at h0; omega
  | f + 1, h, l, x, hxf, h0, he, hs => by
    have hd := treeP_dec (f + 1) h l x
    have hx : ¬ x - 1 < 0 := by omega
    rw [treeP_s] at h0 ⊢
    match l, he, hs with
    | [], he, _ => obtain ⟨r, hr, _⟩ := he; exact absurd hr List.not_mem_nil
    | r :: l, he, hs =>
      match hc : r.cs with
      | [] =>
        rw [treeB_leaf hx hc]
        refine .mk (by decide) (fun _ => ?_) (fun t ht => absurd ht List.not_mem_nil) (fun t ht => absurd ht List.not_mem_nil)
        obtain ⟨s, hsm, _, h2⟩ := he
        rcases List.mem_cons.1 hsm with rfl | hsm
        · exact h2
        · exact Int.le_trans ((List.pairwise_cons.1 hs).1 s hsm) h2
      | c :: cs =>
        rw [treeB_test hx hc] at h0 ⊢
        dsimp only at h0 ⊢
        have hr := treeP_dec f hd0 (restL c.1 (r :: l)) (brsP (treeP f) c.1 (r :: l) (heads c.1 (r :: l)) (x - 1)).2
        have hb := brsP_dec (treeP_dec f) (q := c.1) (l := r :: l) (heads c.1 (r :: l)) (x - 1)
        refine .mk (by decide) (fun h => absurd h (by decide)) (brsP_lv (f := f) (treeP_dec f) (fun h x h1 h2 => treeP_lv f h _ x h1 h2 (he.left ..) (hs.left ..)) _ _ (by omega) (by omega)) fun t ht => ?_
        rw [List.mem_singleton] at ht
        subst ht
        exact treeP_lv f _ _ _ (by omega) h0 (he.rest _) (hs.rest _)
theorem left_app (q : Pth) (h : Hd) (l m : List Ln) : left q h (l ++ m) = left q h l ++ left q h m := by unfold left; rw [List.flatMap_append]
theorem restL_app (q : Pth) (l m : List Ln) : restL q (l ++ m) = restL q l ++ restL q m := by unfold restL; rw [List.filter_append]
theorem heads_app (q : Pth) (l m : List Ln) : ∃ ex, heads q (l ++ m) = heads q l ++ ex := by
  have key : ∀ (m : List Ln) (acc : List Hd), ∃ ex, m.foldl (headS q) acc = acc ++ ex := by
    intro m
    induction m with
    | nil => intro acc; exact ⟨[], (List.append_nil _).symm⟩
    | cons r m ih =>
      intro acc
      obtain ⟨ex, h⟩ := ih (headS q acc r)
      rw [List.foldl_cons, h]
      unfold headS
      split
      · exact ⟨ex, rfl⟩
      · split
        · exact ⟨ex, rfl⟩
        · exact ⟨_ :: ex, by rw [List.append_assoc]; rfl⟩
  obtain ⟨ex, h⟩ := key m (heads q l)
  exact ⟨ex, by rw [← h]; unfold heads; rw [List.foldl_append]⟩
theorem brsP_more {T : Hd → List Ln → Int → Tr × Int} (hd : ∀ h s x, (T h s x).2 ≤ x - 1) {f : Int} {q : Pth} {l l2 : List Ln}
    (hT : ∀ h x y, x ≤ f → y ≤ f → 0 ≤ (T h (left q h l) x).2 → 0 ≤ (T h (left q h l2) y).2 → nodes (T h (left q h l) x).1 ≤ nodes (T h (left q h l2) y).1) :
    ∀ (hs ex : List Hd) (x y : Int), x ≤ f → y ≤ f → 0 ≤ (brsP T q l hs x).2 → 0 ≤ (brsP T q l2 (hs ++ ex) y).2 → nodesL (brsP T q l hs x).1 ≤ nodesL (brsP T q l2 (hs ++ ex) y).1
  | [], ex, x, y, _, _, _, _ => by rw [brsP]; show nodesL [] ≤ _; rw [nodesL]; exact Nat.zero_le _
  | h :: hs, ex, x, y, hx, hy, h0, h1 => by
    rw [List.cons_append, brsP] at h1
    rw [brsP] at h0
    dsimp only at h0 h1
    rw [List.cons_append, brsP, brsP]
    dsimp only
    have a1 := brsP_dec hd (q := q) (l := l) hs (T h (left q h l) x).2
    have a2 := hd h (left q h l) x
    have b1 := brsP_dec hd (q := q) (l := l2) (hs ++ ex) (T h (left q h l2) y).2
    have b2 := hd h (left q h l2) y
    have c1 := hT h x y hx hy (by omega) (by omega)
    have c2 := brsP_more hd hT hs ex (T h (left q h l) x).2 (T h (left q h l2) y).2 (by omega) (by omega) h0 h1
    rw [nodesL, nodesL]
    omega
/-- more rows, more nodes -/
theorem treeP_more {m : Int} : ∀ (f : Nat) (h h' : Hd) (l l2 : List Ln) (x y : Int), x ≤ f → y ≤ f → 0 ≤ (treeP f h l x).2 → 0 ≤ (treeP f h' (l ++ l2) y).2 → Emp m l → nodes (treeP f h l x).1 ≤ nodes (treeP f h' (l ++ l2) y).1
  | 0, h, h', l, l2, x, y, hx, _, h0, _, _ => by rw [treeP_0] at h0; dsimp only at h0; omega
  | f + 1, h, h', l, l2, x, y, hxf, hyf, h0, h1, he => by
    have dx := treeP_dec (f + 1) h l x
    have dy := treeP_dec (f + 1) h' (l ++ l2) y
    have hx : ¬ x - 1 < 0 := by omega
    have hy : ¬ y - 1 < 0 := by omega
    rw [treeP_s] at h0 h1 ⊢
    rw [treeP_s]
    match l, he with
    | [], he => obtain ⟨r, hr, _⟩ := he; exact absurd hr List.not_mem_nil
    | r :: l, he =>
      match hc : r.cs with
      | [] =>
        rw [treeB_leaf hx hc]
        dsimp only
        rw [nodes_one]
        exact nodes_pos _
      | c :: cs =>
        rw [List.cons_append, treeB_test hy hc, ← List.cons_append] at h1
        rw [treeB_test hx hc] at h0 ⊢
        rw [List.cons_append, treeB_test hy hc, ← List.cons_append]
        dsimp only at h0 h1 ⊢
        obtain ⟨ex, hex⟩ := heads_app c.1 (r :: l) l2
        rw [hex, restL_app] at h1
        rw [hex, restL_app, nodes_two, nodes_two]
        have ra := treeP_dec f hd0 (restL c.1 (r :: l)) (brsP (treeP f) c.1 (r :: l) (heads c.1 (r :: l)) (x - 1)).2
        have ba := brsP_dec (treeP_dec f) (q := c.1) (l := r :: l) (heads c.1 (r :: l)) (x - 1)
        have rb := treeP_dec f hd0 (restL c.1 (r :: l) ++ restL c.1 l2) (brsP (treeP f) c.1 (r :: l ++ l2) (heads c.1 (r :: l) ++ ex) (y - 1)).2
        have bb := brsP_dec (treeP_dec f) (q := c.1) (l := r :: l ++ l2) (heads c.1 (r :: l) ++ ex) (y - 1)
        have k1 := brsP_more (f := f) (q := c.1) (l := r :: l) (l2 := r :: l ++ l2) (treeP_dec f) (fun g x y h1 h2 h3 h4 => by
          rw [left_app] at h4 ⊢
          exact treeP_more f g g _ _ x y h1 h2 h3 h4 (he.left ..)) (heads c.1 (r :: l)) ex (x - 1) (y - 1) (by omega) (by omega) (by omega) (by omega)
        have k2 := treeP_more f hd0 hd0 (restL c.1 (r :: l)) (restL c.1 l2) _ _ (by omega) (by omega) h0 h1 (he.rest _)
        omega
def anyP : AP := .mk 1 0 0 emp none 0 [] none 0 []
theorem rowsP_app : ∀ (a b : List AP) (i : Nat), rowsP (a ++ b) i = rowsP a i ++ rowsP b (i + a.length)
  | [], b, i => rfl
  | p :: a, b, i => by
    rw [List.cons_append, rowsP, rowsP, rowsP_app a b, List.length_cons, Nat.add_assoc, Nat.add_comm 1]
    rfl
theorem rowsP_n : ∀ (l : List AP) (i : Nat), ∀ r ∈ rowsP l i, (i : Int) ≤ r.n
  | [], i, r, hr => absurd hr List.not_mem_nil
  | p :: l, i, r, hr => by
    rw [rowsP] at hr
    rcases List.mem_cons.1 hr with rfl | hr
    · exact Int.le_refl _
    · have := rowsP_n l (i + 1) r hr
      omega
theorem rowsP_srt : ∀ (l : List AP) (i : Nat), Srt (rowsP l i)
  | [], i => List.Pairwise.nil
  | p :: l, i => by
    rw [rowsP]
    refine List.pairwise_cons.2 ⟨fun r hr => ?_, rowsP_srt l (i + 1)⟩
    have := rowsP_n l (i + 1) r hr
    show (i : Int) ≤ _
    omega
theorem emp_rows (l b : List AP) : Emp (l.length : Int) (rowsP (l ++ [anyP] ++ b) 0) := by
  rw [rowsP_app, rowsP_snoc]
  refine ⟨_, List.mem_append_left _ (List.mem_append_right _ (List.mem_singleton.2 rfl)), ?_, ?_⟩
  · rfl
  · show ((0 + l.length : Nat) : Int) ≤ _
    omega
theorem comP_zero {l : List AP} (h : (comP l).1 = 0) : 0 ≤ (treeP 1024 hd0 (rowsP l 0) 1024).2 ∧ (comP l).2 = (treeP 1024 hd0 (rowsP l 0) 1024).1 := by
  by_cases h1 : 64 < l.length ∨ l.any (fun p => decide (256 < partsP p 256)) = true
  · rw [comP_many h1] at h; exact absurd h (by decide)
  by_cases h2 : l.any (fun p => !formP p) = true
  · rw [comP_form h1 h2] at h; exact absurd h (by decide)
  by_cases h3 : (treeP 1024 hd0 (rowsP l 0) 1024).2 < 0
  · rw [comP_great h1 h2 h3] at h; exact absurd h (by decide)
  rw [comP_ok h1 h2 h3]
  exact ⟨by omega, rfl⟩
/-- what the law says of the two trees -/
theorem last_law (l b : List AP) (h1 : (comP (l ++ [anyP])).1 = 0) (h2 : (comP (l ++ [anyP] ++ b)).1 = 0) :
    Lv (l.length : Int) (comP (l ++ [anyP])).2 ∧ Lv (l.length : Int) (comP (l ++ [anyP] ++ b)).2 ∧ nodes (comP (l ++ [anyP])).2 ≤ nodes (comP (l ++ [anyP] ++ b)).2 ∧ nodes (comP (l ++ [anyP] ++ b)).2 ≤ 1024 ∧ nodes (comP (l ++ [anyP])).2 ≤ 1024 := by
  obtain ⟨a1, a2⟩ := comP_zero h1
  obtain ⟨b1, b2⟩ := comP_zero h2
  have e1 : Emp (l.length : Int) (rowsP (l ++ [anyP]) 0) := by have := emp_rows l []; rwa [List.append_nil] at this
  have n1 := treeP_nodes 1024 hd0 (rowsP (l ++ [anyP]) 0) 1024
  have n2 := treeP_nodes 1024 hd0 (rowsP (l ++ [anyP] ++ b) 0) 1024
  rw [a2, b2]
  refine ⟨treeP_lv 1024 _ _ _ (by decide) a1 e1 (rowsP_srt _ _), treeP_lv 1024 _ _ _ (by decide) b1 (emp_rows l b) (rowsP_srt _ _), ?_, by omega, by omega⟩
  have e := rowsP_app (l ++ [anyP]) b 0
  rw [e] at b1 ⊢
  exact treeP_more 1024 _ _ _ _ _ _ (by decide) (by decide) a1 b1 e1
end Go.Proofs.Ytcododdkjppmjaa
