/-
  More of the frame: what a row of trials does, named once. Each of these takes a goal, does one step by trial, and hands on the goal that is left. Conditions: none.
  Walks over what Go's library gives the heap: slices.Clone, IndexFunc, Delete, BinarySearchFunc, Insert. Conditions: none.
  Walks over what Go's library gives the heap, second part: slices.BinarySearchFunc, Insert. Conditions: none.
  The walk over slices.Insert of one run. Conditions: none.
  Walks over the heap's methods that only look. Conditions: none.
  Walks over the heap's methods that look at all: Next, Room, Longest. Conditions: none.
  Walks over New, Set, Copy. Conditions: none.
  Walks over Set and Copy. Conditions: none.
-/
import Derived.Test.YtdfhajdejlhamaaRowSameMg2
import Derived.Test.YtdfhajdejlhamaaRows
import Derived.Test.YtdfhajdejlhamaaRowSameMg0
namespace Go.Fw
open Go Go.RowKit
set_option linter.unusedVariables false
/-- what is handed on, so that no trial takes it for its own -/
structure Wr (p : Prop) : Prop where
  out : p
/-- what an operation yields that turns nothing, with what is known of the world by hypotheses: found by trial -/
theorem EXT2 {P : Program} {N : Nat} {l : List (Nat × Value)} {C : World → Prop} {o : Oper} {v : Value} (h : Ex P N l C o v := by
  first
  | (apply ex_load; rfl; exact cl_w (by assumption) id)
  | (apply ex_load; rfl; exact cl_rd (by assumption) id (by assumption))
  | (apply ex_load; rfl; apply cl_own; exact MEMT; assumption)
  | (apply ex_load_st; rfl; rotate_left; exact cls_rd (by assumption) id (by assumption); rfl)
  | (apply ex_eqlPf; rfl; rfl)
  | (apply ex_eqlPt; rfl; rfl)
  | (apply ex_neqPt; rfl; rfl)
  | (apply ex_neqPf; rfl; rfl)
  | (apply ex_eqlNil; rfl; rfl)
  | (apply ex_max; rfl; rfl)
  | (apply ex_rem; rfl; rfl; first | decide | omega)
  | (apply ex_quo; rfl; rfl; first | decide | omega)) : Ex P N l C o v := h
/-- what stays -/
theorem STT {p : Prop} (h : p := by first | exact hH.drop_ | exact hH.pick MEMT | exact hH) : p := h
/-- a way that can't be -/
theorem FA {G : Prop} (h : G := by
  first
  | (exfalso; have h1 := of_decide_eq_true hg; omega)
  | (exfalso; have h1 := of_decide_eq_false hg; omega)
  | exact absurd hg (by decide)) : G := h
/-- a quiet operation -/
theorem QT {G G' : Prop} (k : G') (h : Wr G' → G := by
  intro k
  first
  | (apply st_ex hA hH rfl rfl (by decide); (first | exact EXT | exact EXT2); exact k.out)
  | (apply st_skip hA rfl rfl (by decide); exact k.out)
  | ((first | apply dr_ex hA rfl rfl rfl (by decide) | apply dr_exp hA rfl rfl rfl (by decide) | apply dr_ex3 hA hH rfl rfl rfl (by decide)); (first | exact EXT | exact EXT2); exact k.out)
  | ((first | apply dr_skip hA rfl rfl rfl (by decide) | apply dr_skip3 hA rfl rfl rfl (by decide)); exact k.out)) : G := h ⟨k⟩
/-- a quiet operation -/
theorem QT0 {G G' : Prop} (k : G') (h : Wr G' → G := by
  intro k
  first
  | (apply st_ex hA hH rfl rfl (by decide); exact EXT; exact k.out)
  | (apply st_skip hA rfl rfl (by decide); exact k.out)
  | ((first | apply dr_ex hA rfl rfl rfl (by decide) | apply dr_exp hA rfl rfl rfl (by decide) | apply dr_ex3 hA hH rfl rfl rfl (by decide)); exact EXT; exact k.out)
  | ((first | apply dr_skip hA rfl rfl rfl (by decide) | apply dr_skip3 hA rfl rfl rfl (by decide)); exact k.out)) : G := h ⟨k⟩
/-- a guard's bool -/
theorem GT {G G1 G2 : Prop} (k1 : G1) (k2 : G2) (h : Wr G1 → Wr G2 → G := by
  intro k1 k2
  first
  | (apply st_exb hA hH rfl rfl (by decide) rfl (ex_move rfl); exact k1.out; exact k2.out)
  | (apply dr_exb hA rfl rfl rfl (by decide) rfl (ex_move rfl); exact k1.out; exact k2.out)) : G := h ⟨k1⟩ ⟨k2⟩
/-- one more step in the code -/
theorem CT {G G' : Prop} (k : G') (h : Wr G' → G := by
  intro k
  first
  | (apply wp_seq; exact k.out)
  | (apply wp_region_lit; exact k.out)
  | (apply st_nil; exact k.out)
  | (apply then_normal; exact k.out)
  | (apply wp_block; exact k.out)
  | (apply st_cond_t hA rfl; exact k.out)
  | (apply st_cond_f hA rfl; exact k.out)
  | (apply wp_ret; exact k.out)
  | (apply wp_skip; exact k.out)
  | (apply wp_exit; exact k.out)
  | (apply then_ret; exact k.out)
  | (apply then_exit; exact k.out)
  | (apply inB_normal; exact k.out)
  | (apply inB_ret; exact k.out)
  | (apply inB_eq; exact k.out)
  | (apply inB_ne rfl; exact k.out)
  | (apply dr_nil; exact k.out)
  | (apply dr_late; exact k.out)
  | (apply dr_nil2; exact k.out)
  | (apply wp_scope_straight; exact k.out)
  | (apply wp_label; exact k.out)
  | (apply ng_normal; exact k.out)
  | (apply ng_ret; exact k.out)) : G := h ⟨k⟩
/-- a choice -/
theorem DT {G G1 G2 : Prop} (k1 : G1) (k2 : G2) (h : Wr G1 → Wr G2 → G := by
  intro k1 k2
  first
  | (apply st_cond_d hA rfl; exact k1.out; exact k2.out)
  | (apply st_cond_nd hA rfl; exact k1.out; exact k2.out)
  | (apply st_cond hA rfl; exact k1.out; exact k2.out)) : G := h ⟨k1⟩ ⟨k2⟩
/-- a new block -/
theorem BT {G G' : Prop} (k : G') (h : Wr G' → G := by
  intro k
  apply st_op hA rfl rfl (by decide)
  (first | apply op_alloc | (apply op_box_agg; rfl) | (apply op_box1; rfl; rfl))
  exact hH
  exact k.out) : G := h ⟨k⟩
/-- a slice's literal -/
theorem LT {G G' : Prop} (k : G') (h : Wr G' → G := by
  intro k
  apply st_op hA rfl rfl (by decide)
  apply op_sliceLit
  rfl
  rfl
  exact CATST
  rfl
  rfl
  rfl
  exact hH
  exact k.out) : G := h ⟨k⟩
/-- append -/
theorem AT {G G' : Prop} (k : G') (h : Wr G' → G := by
  intro k
  apply st_op hA rfl rfl (by decide)
  apply op_append
  rfl
  rfl
  exact hH
  exact MEMT
  exact hH.own_rd (List.Mem.head _)
  rfl
  rfl
  decide
  rfl
  (unfold maxLen; omega)
  omega
  exact k.out) : G := h ⟨k⟩
/-- stores -/
theorem S0T {G G' : Prop} (k : G') (h : Wr G' → G := by
  intro k
  apply st_op0 hA rfl rfl
  (first | (apply op_store1; rfl; rfl; rfl; exact hH; (repeat constructor)) | (apply op_store_agg; rfl; rfl; exact hH; (repeat constructor); rfl; rfl; rfl))
  exact k.out) : G := h ⟨k⟩
/-- the same in a region that draws -/
theorem DSK {G G' : Prop} (k : G') (h : Wr G' → G := by
  intro k
  apply dr_opskip hA rfl rfl rfl (by decide) STT
  exact k.out) : G := h ⟨k⟩
theorem DLT {G G' : Prop} (k : G') (h : Wr G' → G := by
  intro k
  apply dr_op hA rfl rfl rfl (by decide)
  apply op_sliceLit
  rfl
  rfl
  exact CATST
  rfl
  rfl
  rfl
  exact hH
  exact k.out) : G := h ⟨k⟩
theorem DAT {G G' : Prop} (k : G') (h : Wr G' → G := by
  intro k
  apply dr_op hA rfl rfl rfl (by decide)
  apply op_append
  rfl
  rfl
  exact hH
  exact MEMT
  exact hH.own_rd (List.Mem.head _)
  rfl
  rfl
  decide
  rfl
  (unfold maxLen; omega)
  omega
  exact k.out) : G := h ⟨k⟩
end Go.Fw
namespace Go.Proofs.Ytdfhajdejlhamaa
open Go Go.Fw
set_option linter.unusedVariables false
theorem encP0 {fr : List (Int × Int)} {i : Nat} {a n : Int} (h : fr[i]? = some (a, n)) : (flat encP fr)[i * 2 + 0]? = some (.int .i64 a) := flat_get encP_len (off := 0) h rfl
theorem encP1 {fr : List (Int × Int)} {i : Nat} {a n : Int} (h : fr[i]? = some (a, n)) : (flat encP fr)[i * 2 + 1]? = some (.int .i64 n) := flat_get encP_len (off := 1) h rfl
theorem encPa {fr : List (Int × Int)} {i : Nat} {a n : Int} (h : fr[i]? = some (a, n)) : ∀ k v, ([.int .i64 a, .int .i64 n] : List Value)[k]? = some v → (flat encP fr)[i * 2 + k]? = some v := flat_all encP_len h
/-- the first run with more than so many cells -/
def FirstFit (fr : List (Int × Int)) (size : Int) (z : Int) : Prop :=
  (z = -1 ∧ ∀ r ∈ fr, ¬ size < r.2) ∨ ∃ (i : Nat) (r : Int × Int), z = i ∧ fr[i]? = some r ∧ size < r.2 ∧ ∀ k r', k < i → fr[k]? = some r' → ¬ size < r'.2
set_option maxRecDepth 10000 attribute [local irreducible] Code.wp wpList Calls Ex Op1 sat bat blk cb own Go.Fw.mp Go.Fw.mpO Go.Fw.mpI Go.Fw.mpE Go.Fw.itr HS Rd Ret wkD Hp Cl Cls Exit.then Exit.inBlock Exit.noGoto bodyPost Go.Fw.flat wk2 Go.Fw.all Go.Fw.owns wpOp

theorem fits1_spec (w0 : World) (b : Nat) (a n size : Int) (hcz : w0.cell? (bat b 0) = some (.int .i64 size)) :
    Ret Try.prog 89 #[.agg #[.int .i64 a, .int .i64 n], .pointer (some (bat b 0))] w0 (fun v w => v = .bool (decide (size < n)) ∧ Kp w0 noM w) := by
  have hH : HS w0 noM [] w0 := HS.init w0 noM
  (refine enter (N := 8) Try.func89 rfl Try.ntmps89 rfl ?_; intro a hA; dsimp only [sl0, Nat.reduceAdd] at hA)
  repeat' (first | (first | (refine GT ?_ ?_ <;> intro hg <;> clear hA a <;> intro a hA <;> (first | exact FA | replace hg := of_decide_eq_true hg | replace hg := of_decide_eq_false hg | skip)) | ((first | apply st_ex hA hH rfl rfl (by decide) | apply dr_ex hA rfl rfl rfl (by decide) | apply dr_exp hA rfl rfl rfl (by decide) | apply dr_ex3 hA hH rfl rfl rfl (by decide)); (first | (apply ex_load; rfl; exact cl_w hcz id)); clear hA a; intro a hA) | (refine QT0 ?_; clear hA a; intro a hA) | (first | (refine BT ?_; clear hA hH; rintro _ w ⟨bN, rfl, hH⟩ a hA) | (refine LT ?_; clear hA hH; rintro _ w ⟨oN, rfl, hH⟩ a hA) | (refine AT ?_; clear hA; rintro _ w ⟨oN, cN, rfl, hH2⟩ a hA; clear hH; have hH := (hH2 _ (by (repeat constructor))).tail; clear hH2) | (refine S0T ?_; clear hH; rintro _ w hH) )) | ((first | refine CT ?_ | (refine DT ?_ ?_ <;> intro hc <;> try (exfalso; omega))) <;> repeat' refine CT ?_) | (first | (refine DSK ?_; clear hA a; intro a hA) | (first | (refine DLT ?_; clear hA hH; rintro _ w ⟨oN, rfl, hH⟩; refine ⟨STT, ?_⟩; intro a hA) | (refine DAT ?_; clear hA; rintro _ w ⟨oN, cN, rfl, hH2⟩; clear hH; have hH := (hH2 _ (by (repeat constructor))).tail; clear hH2; refine ⟨STT, ?_⟩; intro a hA))) )
  exact rt1 (.inl rfl) rfl hA rfl ⟨rfl, hH.kp⟩

theorem index_spec (w0 : World) (b : Nat) (o : Option Addr) (c : Nat) (fr : List (Int × Int)) (size : Int) (hcz : w0.cell? (bat b 0) = some (.int .i64 size)) (hr : Rd w0 o (flat encP fr)) (hl : fr.length ≤ 1048576) :
    Ret Try.prog 88 #[.slice o fr.length c, .func (.func 89) #[] #[.pointer (some (bat b 0))]] w0
      (fun v w => (∃ z, v = .int .i64 z ∧ FirstFit fr size z) ∧ Kp w0 noM w) := by
  have hH : HS w0 noM [] w0 := HS.init w0 noM
  have hsp : Sp o fr.length := hr.sp (sz := 2) (flat_length encP_len fr) (by omega)
  (refine enter (N := 19) Try.func88 rfl Try.ntmps88 rfl ?_; intro a hA; dsimp only [sl0, Nat.reduceAdd] at hA)
  repeat' (first | (first | (refine GT ?_ ?_ <;> intro hg <;> clear hA a <;> intro a hA <;> (first | exact FA | replace hg := of_decide_eq_true hg | replace hg := of_decide_eq_false hg | skip)) | (refine QT0 ?_; clear hA a; intro a hA) | (first | (refine BT ?_; clear hA hH; rintro _ w ⟨bN, rfl, hH⟩ a hA) | (refine LT ?_; clear hA hH; rintro _ w ⟨oN, rfl, hH⟩ a hA) | (refine AT ?_; clear hA; rintro _ w ⟨oN, cN, rfl, hH2⟩ a hA; clear hH; have hH := (hH2 _ (by (repeat constructor))).tail; clear hH2) | (refine S0T ?_; clear hH; rintro _ w hH) )) | ((first | refine CT ?_ | (refine DT ?_ ?_ <;> intro hc <;> try (exfalso; omega))) <;> repeat' refine CT ?_) | (first | (refine DSK ?_; clear hA a; intro a hA) | (first | (refine DLT ?_; clear hA hH; rintro _ w ⟨oN, rfl, hH⟩; refine ⟨STT, ?_⟩; intro a hA) | (refine DAT ?_; clear hA; rintro _ w ⟨oN, cN, rfl, hH2⟩; clear hH; have hH := (hH2 _ (by (repeat constructor))).tail; clear hH2; refine ⟨STT, ?_⟩; intro a hA))) )
  refine wp_lp (S := Nat) (fun i a w => (i ≤ fr.length ∧ ∀ k r', k < i → fr[k]? = some r' → ¬ size < r'.2) ∧ HS w0 noM [] w ∧ Sl 19 [(0, .slice o fr.length c), (1, .func (.func 89) #[] #[.pointer (some (bat b 0))]), (7, .int .i64 fr.length), (8, .int .i64 i)] a)
    (fun i => fr.length - i) 0 ⟨⟨Nat.zero_le _, fun k x hk => absurd hk (Nat.not_lt_zero _)⟩, hH, (hA.sub (by (repeat (first | exact trivial | refine ⟨rfl, ?_⟩))))⟩ ?_
  clear hA hH
  rintro i a w ⟨⟨hi, hik⟩, hH, hA⟩
  by_cases hlt : i < fr.length
  · obtain ⟨⟨ra, rn⟩, hx⟩ : ∃ x, fr[i]? = some x := ⟨_, List.getElem?_eq_getElem hlt⟩
    repeat' (first | (first | (refine GT ?_ ?_ <;> intro hg <;> clear hA a <;> intro a hA <;> (first | exact FA | replace hg := of_decide_eq_true hg | replace hg := of_decide_eq_false hg | skip)) | ((first | apply st_ex hA hH rfl rfl (by decide) | apply dr_ex hA rfl rfl rfl (by decide) | apply dr_exp hA rfl rfl rfl (by decide) | apply dr_ex3 hA hH rfl rfl rfl (by decide)); (first | (apply ex_load_st (vs := [.int .i64 ra, .int .i64 rn]); rfl; rfl; exact cls_rd hr id (encPa hx))); clear hA a; intro a hA) | (refine QT0 ?_; clear hA a; intro a hA) | (first | (refine BT ?_; clear hA hH; rintro _ w ⟨bN, rfl, hH⟩ a hA) | (refine LT ?_; clear hA hH; rintro _ w ⟨oN, rfl, hH⟩ a hA) | (refine AT ?_; clear hA; rintro _ w ⟨oN, cN, rfl, hH2⟩ a hA; clear hH; have hH := (hH2 _ (by (repeat constructor))).tail; clear hH2) | (refine S0T ?_; clear hH; rintro _ w hH) )) | ((first | refine CT ?_ | (refine DT ?_ ?_ <;> intro hc <;> try (exfalso; omega))) <;> repeat' refine CT ?_) | (first | (refine DSK ?_; clear hA a; intro a hA) | (first | (refine DLT ?_; clear hA hH; rintro _ w ⟨oN, rfl, hH⟩; refine ⟨STT, ?_⟩; intro a hA) | (refine DAT ?_; clear hA; rintro _ w ⟨oN, cN, rfl, hH2⟩; clear hH; have hH := (hH2 _ (by (repeat constructor))).tail; clear hH2; refine ⟨STT, ?_⟩; intro a hA))) )
    (refine st_op hA rfl rfl (by decide) (op_call rfl rfl rfl (fits1_spec _ b ra rn size (hH.cellw hcz id))) ?_; clear hA; rintro _ w ⟨rfl, hk⟩ a hA)
    replace hH := hH.keep hk
    repeat' (first | (first | (refine GT ?_ ?_ <;> intro hg <;> clear hA a <;> intro a hA <;> (first | exact FA | replace hg := of_decide_eq_true hg | replace hg := of_decide_eq_false hg | skip)) | (refine QT0 ?_; clear hA a; intro a hA) | (first | (refine BT ?_; clear hA hH; rintro _ w ⟨bN, rfl, hH⟩ a hA) | (refine LT ?_; clear hA hH; rintro _ w ⟨oN, rfl, hH⟩ a hA) | (refine AT ?_; clear hA; rintro _ w ⟨oN, cN, rfl, hH2⟩ a hA; clear hH; have hH := (hH2 _ (by (repeat constructor))).tail; clear hH2) | (refine S0T ?_; clear hH; rintro _ w hH) )) | ((first | refine CT ?_ | (refine DT ?_ ?_ <;> intro hc <;> try (exfalso; omega))) <;> repeat' refine CT ?_) | (first | (refine DSK ?_; clear hA a; intro a hA) | (first | (refine DLT ?_; clear hA hH; rintro _ w ⟨oN, rfl, hH⟩; refine ⟨STT, ?_⟩; intro a hA) | (refine DAT ?_; clear hA; rintro _ w ⟨oN, cN, rfl, hH2⟩; clear hH; have hH := (hH2 _ (by (repeat constructor))).tail; clear hH2; refine ⟨STT, ?_⟩; intro a hA))) )
    · exact rt1 (.inl rfl) rfl hA rfl ⟨⟨_, rfl, .inr ⟨i, _, rfl, hx, by assumption, hik⟩⟩, hH.kp⟩
    · refine ⟨i + 1, ⟨⟨hlt, fun k y hk hy => ?_⟩, hH, (hA.sub (by (repeat (first | exact trivial | refine ⟨rfl, ?_⟩))))⟩, by omega⟩
      rcases Nat.lt_or_ge k i with h | h
      · exact hik k y h hy
      · obtain rfl : k = i := by omega
        rw [hx] at hy
        obtain rfl := Option.some.inj hy
        assumption
  repeat' (first | (first | (refine GT ?_ ?_ <;> intro hg <;> clear hA a <;> intro a hA <;> (first | exact FA | replace hg := of_decide_eq_true hg | replace hg := of_decide_eq_false hg | skip)) | (refine QT0 ?_; clear hA a; intro a hA) | (first | (refine BT ?_; clear hA hH; rintro _ w ⟨bN, rfl, hH⟩ a hA) | (refine LT ?_; clear hA hH; rintro _ w ⟨oN, rfl, hH⟩ a hA) | (refine AT ?_; clear hA; rintro _ w ⟨oN, cN, rfl, hH2⟩ a hA; clear hH; have hH := (hH2 _ (by (repeat constructor))).tail; clear hH2) | (refine S0T ?_; clear hH; rintro _ w hH) )) | ((first | refine CT ?_ | (refine DT ?_ ?_ <;> intro hc <;> try (exfalso; omega))) <;> repeat' refine CT ?_) | (first | (refine DSK ?_; clear hA a; intro a hA) | (first | (refine DLT ?_; clear hA hH; rintro _ w ⟨oN, rfl, hH⟩; refine ⟨STT, ?_⟩; intro a hA) | (refine DAT ?_; clear hA; rintro _ w ⟨oN, cN, rfl, hH2⟩; clear hH; have hH := (hH2 _ (by (repeat constructor))).tail; clear hH2; refine ⟨STT, ?_⟩; intro a hA))) )
  refine rt1 (.inl rfl) rfl hA rfl ⟨⟨_, rfl, .inl ⟨rfl, fun r hr => ?_⟩⟩, hH.kp⟩
  obtain ⟨k, hk⟩ := List.getElem?_of_mem hr
  have := (List.getElem?_eq_some_iff.1 hk).1
  exact hik k r (by omega) hk

/-- slices.Delete of one run -/
theorem delete_spec (w0 : World) (M : Nat → Prop) (o : Option Addr) (c i : Nat) (fr : List (Int × Int)) (hH : HS w0 M [own 104 2 o fr.length c (flat encP fr)] w0) (hi : i < fr.length) (hl : fr.length ≤ 1048576) :
    Ret Try.prog 90 #[.slice o fr.length c, .int .i64 i, .int .i64 ((i + 1 : Nat) : Int)] w0
      (fun v w => ∃ o' c', v = .slice o' (fr.length - 1) c' ∧ HS w0 M [own 104 2 o' (fr.length - 1) c' (flat encP (fr.eraseIdx i))] w) := by
  have hle := hH.own_le (o := o) (by exact MEMT)
  obtain ⟨b, spare, rfl, h1, h2, h3, h4, hH⟩ := hH.own_block (by omega)
  (refine enter (N := 33) Try.func90 rfl Try.ntmps90 rfl ?_; intro a hA; dsimp only [sl0, Nat.reduceAdd] at hA)
  repeat' (first | (first | (refine GT ?_ ?_ <;> intro hg <;> clear hA a <;> intro a hA <;> (first | exact FA | replace hg := of_decide_eq_true hg | replace hg := of_decide_eq_false hg | skip)) | ((first | apply st_ex hA hH rfl rfl (by decide) | apply dr_ex hA rfl rfl rfl (by decide) | apply dr_exp hA rfl rfl rfl (by decide) | apply dr_ex3 hA hH rfl rfl rfl (by decide)); (first | (apply ex_slice_3 (i := i) (j := i + 1) (k := fr.length); rfl; rfl; rfl; rfl; rfl; rfl; rfl; omega; omega; omega)); clear hA a; intro a hA) | (refine QT0 ?_; clear hA a; intro a hA) | (first | (refine BT ?_; clear hA hH; rintro _ w ⟨bN, rfl, hH⟩ a hA) | (refine LT ?_; clear hA hH; rintro _ w ⟨oN, rfl, hH⟩ a hA) | (refine AT ?_; clear hA; rintro _ w ⟨oN, cN, rfl, hH2⟩ a hA; clear hH; have hH := (hH2 _ (by (repeat constructor))).tail; clear hH2) | (refine S0T ?_; clear hH; rintro _ w hH) )) | ((first | refine CT ?_ | (refine DT ?_ ?_ <;> intro hc <;> try (exfalso; omega))) <;> repeat' refine CT ?_) | (first | (refine DSK ?_; clear hA a; intro a hA) | (first | (refine DLT ?_; clear hA hH; rintro _ w ⟨oN, rfl, hH⟩; refine ⟨STT, ?_⟩; intro a hA) | (refine DAT ?_; clear hA; rintro _ w ⟨oN, cN, rfl, hH2⟩; clear hH; have hH := (hH2 _ (by (repeat constructor))).tail; clear hH2; refine ⟨STT, ?_⟩; intro a hA))) )
  have hn1 : fr.length - 1 + 1 = fr.length := by omega
  have hA_ : (flat encP (fr.take i)).length = i * 2 := by rw [flat_length encP_len, List.length_take]; omega
  have hB_ : (flat encP (fr.drop (i + 1))).length = (fr.length - (i + 1)) * 2 := by rw [flat_length encP_len, List.length_drop]
  obtain ⟨x, hx⟩ : ∃ x, fr[i]? = some x := ⟨_, List.getElem?_eq_getElem hi⟩
  have hsplit : flat encP fr ++ spare = flat encP (fr.take i) ++ (encP x ++ (flat encP (fr.drop (i + 1)) ++ spare)) := by
    conv => lhs; rw [← List.take_append_drop i fr, List.drop_eq_getElem_cons hi, (List.getElem?_eq_some_iff.1 hx).2]
    rw [flat_append, show flat encP (x :: fr.drop (i + 1)) = encP x ++ flat encP (fr.drop (i + 1)) by simp [flat]]
    simp
  have hlen : (flat encP fr ++ spare).length = c * 2 := by rw [List.length_append]; exact h4
  obtain ⟨q, hq, hqn⟩ : ∃ q, (if c = i + 1 then 0 else 0 + (i + 1) * 2) = q ∧ (i + 1 < fr.length → q = (i + 1) * 2) := ⟨_, rfl, fun h => by rw [if_neg (by omega), Nat.zero_add]⟩
  have hnews : ∀ j u, (flat encP (fr.drop (i + 1)))[j]? = some u → w0.cell? ((bat b q).add j) = some u := by
    intro j u hj
    have hjl := (List.getElem?_eq_some_iff.1 hj).1
    have hq2 := hqn (by omega)
    have h5 := hH.cb_news (b := b) (k := q) (m := (flat encP (fr.drop (i + 1))).length) (List.mem_cons_self ..) j u
    have e5 : ((flat encP fr ++ spare).drop q).take (flat encP (fr.drop (i + 1))).length = flat encP (fr.drop (i + 1)) := by
      rw [hsplit, show q = (flat encP (fr.take i)).length + (encP x).length by rw [hA_, encP_len]; omega]
      exact mid_take
    rw [e5] at h5
    exact h5 hj
  have h1n : (flat encP (fr.drop (i + 1))).all (·.oneCell') = true := flat_one_cell (fun _ => rfl) _
  have hfit : i * 2 + (flat encP (fr.drop (i + 1))).length ≤ (flat encP fr ++ spare).length := by rw [hB_, hlen]; omega
  have hroom : i + (fr.length - (i + 1)) ≤ c := by omega
  have hw : HS w0 M [] w0 := hH.drop_
  (refine wp_draw_HS [(0, 2), (1, 2), (2, 2), (3, 2), (4, 2), (5, 2), (6, 0), (7, 2)] mixed (by decide +kernel) hH.drop_ ?_; replace hH := hH.drew)
  have hnews' : ∀ j u, (flat encP (fr.drop (i + 1)))[j]? = some u → w0.drew.cell? ((bat b q).add j) = some u := hnews
  repeat' (first | (first | (refine GT ?_ ?_ <;> intro hg <;> clear hA a <;> intro a hA <;> (first | exact FA | replace hg := of_decide_eq_true hg | replace hg := of_decide_eq_false hg | skip)) | ((first | apply st_ex hA hH rfl rfl (by decide) | apply dr_ex hA rfl rfl rfl (by decide) | apply dr_exp hA rfl rfl rfl (by decide) | apply dr_ex3 hA hH rfl rfl rfl (by decide)); (first | (apply ex_slice_hi (k := i); rfl; rfl; rfl; omega) | (apply ex_slice_lo_b (k := i + 1) (q := q); rfl; rfl; rfl; omega; exact hq)); clear hA a; intro a hA) | (refine QT0 ?_; clear hA a; intro a hA) | (first | (refine BT ?_; clear hA hH; rintro _ w ⟨bN, rfl, hH⟩ a hA) | (refine LT ?_; clear hA hH; rintro _ w ⟨oN, rfl, hH⟩ a hA) | (refine AT ?_; clear hA; rintro _ w ⟨oN, cN, rfl, hH2⟩ a hA; clear hH; have hH := (hH2 _ (by (repeat constructor))).tail; clear hH2) | (refine S0T ?_; clear hH; rintro _ w hH) )) | ((first | refine CT ?_ | (refine DT ?_ ?_ <;> intro hc <;> try (exfalso; omega))) <;> repeat' refine CT ?_) | (first | (refine DSK ?_; clear hA a; intro a hA) | (first | (refine DLT ?_; clear hA hH; rintro _ w ⟨oN, rfl, hH⟩; refine ⟨STT, ?_⟩; intro a hA) | (refine DAT ?_; clear hA; rintro _ w ⟨oN, cN, rfl, hH2⟩; clear hH; have hH := (hH2 _ (by (repeat constructor))).tail; clear hH2; refine ⟨STT, ?_⟩; intro a hA))) | (apply dr_op hA rfl rfl rfl (by decide); apply op_append_in; rfl; rfl; exact hH; exact hnews'; exact hB_; exact h1n; exact hroom; exact hfit; (repeat constructor); clear hA hH; rintro _ w ⟨rfl, hH⟩; refine ⟨STT, ?_⟩; intro a hA))
  have en : i + (fr.length - (i + 1)) = fr.length - 1 := by omega
  rw [en] at hA
  have hq2 : (if c = fr.length - 1 then 0 else 0 + (fr.length - 1) * 2) = (fr.length - 1) * 2 := by rw [if_neg (by omega), Nat.zero_add]
  have hpl : (put (flat encP fr ++ spare) (i * 2) (flat encP (fr.drop (i + 1)))).length = c * 2 := by rw [put_length hfit, hlen]
  have hfit2 : (fr.length - 1) * 2 + (fr.length - (fr.length - 1)) * 2 ≤ (put (flat encP fr ++ spare) (i * 2) (flat encP (fr.drop (i + 1)))).length := by rw [hpl]; omega
  repeat' (first | (first | (refine GT ?_ ?_ <;> intro hg <;> clear hA a <;> intro a hA <;> (first | exact FA | replace hg := of_decide_eq_true hg | replace hg := of_decide_eq_false hg | skip)) | ((first | apply st_ex hA hH rfl rfl (by decide) | apply dr_ex hA rfl rfl rfl (by decide) | apply dr_exp hA rfl rfl rfl (by decide) | apply dr_ex3 hA hH rfl rfl rfl (by decide)); (first | (apply ex_slice_lh_b (i := fr.length - 1) (j := fr.length); rfl; rfl; rfl; rfl; rfl; omega; omega; exact hq2)); clear hA a; intro a hA) | (refine QT0 ?_; clear hA a; intro a hA) | (first | (refine BT ?_; clear hA hH; rintro _ w ⟨bN, rfl, hH⟩ a hA) | (refine LT ?_; clear hA hH; rintro _ w ⟨oN, rfl, hH⟩ a hA) | (refine AT ?_; clear hA; rintro _ w ⟨oN, cN, rfl, hH2⟩ a hA; clear hH; have hH := (hH2 _ (by (repeat constructor))).tail; clear hH2) | (refine S0T ?_; clear hH; rintro _ w hH) | (apply st_op0 hA rfl rfl; apply op_clear_cb; rfl; omega; exact hH; rfl; rfl; exact hfit2; clear hH; rintro _ w ⟨zz, hzz, hH⟩))) | ((first | refine CT ?_ | (refine DT ?_ ?_ <;> intro hc <;> try (exfalso; omega))) <;> repeat' refine CT ?_) | (first | (refine DSK ?_; clear hA a; intro a hA) | (first | (refine DLT ?_; clear hA hH; rintro _ w ⟨oN, rfl, hH⟩; refine ⟨STT, ?_⟩; intro a hA) | (refine DAT ?_; clear hA; rintro _ w ⟨oN, cN, rfl, hH2⟩; clear hH; have hH := (hH2 _ (by (repeat constructor))).tail; clear hH2; refine ⟨STT, ?_⟩; intro a hA))) )
  have hzz2 : zz.length = (encP x).length := by rw [hzz, encP_len]; omega
  have e6 : put (put (flat encP fr ++ spare) (i * 2) (flat encP (fr.drop (i + 1)))) ((fr.length - 1) * 2) zz = flat encP (fr.eraseIdx i) ++ (zz ++ spare) := by
    rw [hsplit, List.eraseIdx_eq_take_drop_succ, flat_append, ← del_cells hzz2, hA_, hB_]
    congr 1
    omega
  rw [e6] at hH
  have hel : (flat encP (fr.eraseIdx i)).length = (fr.length - 1) * 2 := by rw [flat_length encP_len, List.length_eraseIdx_of_lt hi]
  refine rt1 (.inl rfl) rfl hA rfl ⟨_, _, rfl, hH.block_own hel (by omega) h2 ?_⟩
  rw [hel, List.length_append, hzz]
  rw [List.length_append] at hlen
  omega
end Go.Proofs.Ytdfhajdejlhamaa
namespace Go.Proofs.Ytdfhajdejlhamaa
open Go Go.Fw
set_option linter.unusedVariables false
/-- rising runs, within a heap -/
def Rising (fr : List (Int × Int)) : Prop := (∀ r ∈ fr, 0 ≤ r.1 ∧ r.1 ≤ 65536) ∧ ∀ (k k' : Nat) (r r' : Int × Int), k < k' → fr[k]? = some r → fr[k']? = some r' → r.1 < r'.1
/-- where a run would stand -/
def Pos (fr : List (Int × Int)) (t : Int) (i : Nat) : Prop := i ≤ fr.length ∧ (∀ (k : Nat) (r : Int × Int), k < i → fr[k]? = some r → r.1 < t) ∧ ∀ (k : Nat) (r : Int × Int), i ≤ k → fr[k]? = some r → t ≤ r.1
theorem u64_i {m : Int} (h0 : 0 ≤ m) (h : m < 18446744073709551616) : IntKind.u64.wrap m = m := by
  have e : IntKind.u64.wrap m = m % (2 ^ 64 : Int) := rfl
  rw [e]; omega
theorem shr1 (n : Nat) : shrK .u64 (n : Int) 1 = ((n / 2 : Nat) : Int) := by
  have e : shrK .u64 (n : Int) 1 = (n : Int).fdiv 2 := rfl
  rw [e, Int.fdiv_eq_ediv_of_nonneg _ (by decide)]
  omega
set_option maxRecDepth 10000 attribute [local irreducible] Code.wp wpList Calls Ex Op1 sat bat blk cb own Go.Fw.mp Go.Fw.mpO Go.Fw.mpI Go.Fw.mpE Go.Fw.itr HS Rd Ret wkD Hp Cl Cls Exit.then Exit.inBlock Exit.noGoto bodyPost Go.Fw.flat wk2 Go.Fw.all Go.Fw.owns wpOp
attribute [local irreducible] shrK

theorem cmp_spec (w0 : World) (a n t : Int) (h : -100000 ≤ a ∧ a ≤ 100000) (h' : -100000 ≤ t ∧ t ≤ 100000) :
    Ret Try.prog 96 #[.agg #[.int .i64 a, .int .i64 n], .int .i64 t] w0 (fun v w => v = .int .i64 (a - t) ∧ Kp w0 noM w) := by
  have hH : HS w0 noM [] w0 := HS.init w0 noM
  (refine enter (N := 9) Try.func96 rfl Try.ntmps96 rfl ?_; intro a hA; dsimp only [sl0, Nat.reduceAdd] at hA)
  repeat' (first | (first | (refine GT ?_ ?_ <;> intro hg <;> clear hA a <;> intro a hA <;> (first | exact FA | replace hg := of_decide_eq_true hg | replace hg := of_decide_eq_false hg | skip)) | (refine QT0 ?_; clear hA a; intro a hA) | (first | (refine BT ?_; clear hA hH; rintro _ w ⟨bN, rfl, hH⟩ a hA) | (refine LT ?_; clear hA hH; rintro _ w ⟨oN, rfl, hH⟩ a hA) | (refine AT ?_; clear hA; rintro _ w ⟨oN, cN, rfl, hH2⟩ a hA; clear hH; have hH := (hH2 _ (by (repeat constructor))).tail; clear hH2) | (refine S0T ?_; clear hH; rintro _ w hH) )) | ((first | refine CT ?_ | (refine DT ?_ ?_ <;> intro hc <;> try (exfalso; omega))) <;> repeat' refine CT ?_) | (first | (refine DSK ?_; clear hA a; intro a hA) | (first | (refine DLT ?_; clear hA hH; rintro _ w ⟨oN, rfl, hH⟩; refine ⟨STT, ?_⟩; intro a hA) | (refine DAT ?_; clear hA; rintro _ w ⟨oN, cN, rfl, hH2⟩; clear hH; have hH := (hH2 _ (by (repeat constructor))).tail; clear hH2; refine ⟨STT, ?_⟩; intro a hA))) )
  exact rt1 (.inl rfl) rfl hA rfl ⟨rfl, hH.kp⟩

theorem search_spec (w0 : World) (o : Option Addr) (c : Nat) (fr : List (Int × Int)) (t : Int) (hr : Rd w0 o (flat encP fr)) (hl : fr.length ≤ 1048576) (hs : Rising fr) (ht : -1 ≤ t ∧ t ≤ 65536) :
    Ret Try.prog 95 #[.slice o fr.length c, .int .i64 t, .func (.func 96) #[] #[]] w0
      (fun v w => (∃ (i : Nat) (b : Bool), v = .tuple #[.int .i64 i, .bool b] ∧ Pos fr t i) ∧ Kp w0 noM w) := by
  have hH : HS w0 noM [] w0 := HS.init w0 noM
  have hsp : Sp o fr.length := hr.sp (sz := 2) (flat_length encP_len fr) (by omega)
  (refine enter (N := 49) Try.func95 rfl Try.ntmps95 rfl ?_; intro a hA; dsimp only [sl0, Nat.reduceAdd] at hA)
  repeat' (first | (first | (refine GT ?_ ?_ <;> intro hg <;> clear hA a <;> intro a hA <;> (first | exact FA | replace hg := of_decide_eq_true hg | replace hg := of_decide_eq_false hg | skip)) | (refine QT0 ?_; clear hA a; intro a hA) | (first | (refine BT ?_; clear hA hH; rintro _ w ⟨bN, rfl, hH⟩ a hA) | (refine LT ?_; clear hA hH; rintro _ w ⟨oN, rfl, hH⟩ a hA) | (refine AT ?_; clear hA; rintro _ w ⟨oN, cN, rfl, hH2⟩ a hA; clear hH; have hH := (hH2 _ (by (repeat constructor))).tail; clear hH2) | (refine S0T ?_; clear hH; rintro _ w hH) )) | ((first | refine CT ?_ | (refine DT ?_ ?_ <;> intro hc <;> try (exfalso; omega))) <;> repeat' refine CT ?_) | (first | (refine DSK ?_; clear hA a; intro a hA) | (first | (refine DLT ?_; clear hA hH; rintro _ w ⟨oN, rfl, hH⟩; refine ⟨STT, ?_⟩; intro a hA) | (refine DAT ?_; clear hA; rintro _ w ⟨oN, cN, rfl, hH2⟩; clear hH; have hH := (hH2 _ (by (repeat constructor))).tail; clear hH2; refine ⟨STT, ?_⟩; intro a hA))) )
  refine wp_lp (S := Nat × Nat) (fun s a w => (s.1 ≤ s.2 ∧ s.2 ≤ fr.length ∧ (∀ (k : Nat) (r : Int × Int), k < s.1 → fr[k]? = some r → r.1 < t) ∧ ∀ (k : Nat) (r : Int × Int), s.2 ≤ k → fr[k]? = some r → t ≤ r.1) ∧ HS w0 noM [] w ∧
      Sl 49 [(0, .slice o fr.length c), (1, .int .i64 t), (2, .func (.func 96) #[] #[]), (8, .int .i64 fr.length), (9, .int .i64 s.1), (10, .int .i64 s.2)] a)
    (fun s => s.2 - s.1) (0, fr.length) ⟨⟨Nat.zero_le _, Nat.le_refl _, fun k r h => absurd h (Nat.not_lt_zero _), fun k r h hk => by have := (List.getElem?_eq_some_iff.1 hk).1; dsimp only at h; omega⟩, hH, (hA.sub (by (repeat (first | exact trivial | refine ⟨rfl, ?_⟩))))⟩ ?_
  clear hA hH
  rintro ⟨i, j⟩ a w ⟨⟨h1, h2, h3, h4⟩, hH, hA⟩
  dsimp only at h1 h2 h3 h4 hH hA
  by_cases hlt : i < j
  · obtain ⟨m, hm⟩ : ∃ m, (i + j) / 2 = m := ⟨_, rfl⟩
    have hmi : i ≤ m ∧ m < j := by omega
    obtain ⟨⟨ra, rn⟩, hx⟩ : ∃ x, fr[m]? = some x := ⟨_, List.getElem?_eq_getElem (by omega)⟩
    have hb := hs.1 _ (List.mem_of_getElem? hx)
    have hc1 : IntKind.u64.wrap ((i : Int) + j) = ((i + j : Nat) : Int) := by rw [u64_i (by omega) (by omega)]; omega
    have hc2 : shrK .u64 ((i + j : Nat) : Int) 1 = (m : Int) := by rw [shr1, hm]
    have hc3 : IntKind.i64.wrap (m : Int) = m := wrap_i64 ⟨by omega, by omega⟩
    repeat' (first | (first | (refine GT ?_ ?_ <;> intro hg <;> clear hA a <;> intro a hA <;> (first | exact FA | replace hg := of_decide_eq_true hg | replace hg := of_decide_eq_false hg | skip)) | ((first | apply st_ex hA hH rfl rfl (by decide) | apply dr_ex hA rfl rfl rfl (by decide) | apply dr_exp hA rfl rfl rfl (by decide) | apply dr_ex3 hA hH rfl rfl rfl (by decide)); (first | (apply ex_convert (v := ((i + j : Nat) : Int)); rfl; exact hc1) | (apply ex_convert (v := (m : Int)); rfl; exact hc3) | (apply ex_shr (v := (m : Int)); rfl; rfl; decide; exact hc2) | (apply ex_load_st (vs := [.int .i64 ra, .int .i64 rn]); rfl; rfl; exact cls_rd hr id (encPa hx))); clear hA a; intro a hA) | (refine QT0 ?_; clear hA a; intro a hA) | (first | (refine BT ?_; clear hA hH; rintro _ w ⟨bN, rfl, hH⟩ a hA) | (refine LT ?_; clear hA hH; rintro _ w ⟨oN, rfl, hH⟩ a hA) | (refine AT ?_; clear hA; rintro _ w ⟨oN, cN, rfl, hH2⟩ a hA; clear hH; have hH := (hH2 _ (by (repeat constructor))).tail; clear hH2) | (refine S0T ?_; clear hH; rintro _ w hH) )) | ((first | refine CT ?_ | (refine DT ?_ ?_ <;> intro hc <;> try (exfalso; omega))) <;> repeat' refine CT ?_) | (first | (refine DSK ?_; clear hA a; intro a hA) | (first | (refine DLT ?_; clear hA hH; rintro _ w ⟨oN, rfl, hH⟩; refine ⟨STT, ?_⟩; intro a hA) | (refine DAT ?_; clear hA; rintro _ w ⟨oN, cN, rfl, hH2⟩; clear hH; have hH := (hH2 _ (by (repeat constructor))).tail; clear hH2; refine ⟨STT, ?_⟩; intro a hA))) )
    (refine st_op hA rfl rfl (by decide) (op_call rfl rfl rfl (cmp_spec _ ra rn t (by dsimp only at hb; omega) (by omega))) ?_; clear hA; rintro _ w ⟨rfl, hk⟩ a hA)
    replace hH := hH.keep hk
    repeat' (first | (first | (refine GT ?_ ?_ <;> intro hg <;> clear hA a <;> intro a hA <;> (first | exact FA | replace hg := of_decide_eq_true hg | replace hg := of_decide_eq_false hg | skip)) | (refine QT0 ?_; clear hA a; intro a hA) | (first | (refine BT ?_; clear hA hH; rintro _ w ⟨bN, rfl, hH⟩ a hA) | (refine LT ?_; clear hA hH; rintro _ w ⟨oN, rfl, hH⟩ a hA) | (refine AT ?_; clear hA; rintro _ w ⟨oN, cN, rfl, hH2⟩ a hA; clear hH; have hH := (hH2 _ (by (repeat constructor))).tail; clear hH2) | (refine S0T ?_; clear hH; rintro _ w hH) )) | ((first | refine CT ?_ | (refine DT ?_ ?_ <;> intro hc <;> try (exfalso; omega))) <;> repeat' refine CT ?_) | (first | (refine DSK ?_; clear hA a; intro a hA) | (first | (refine DLT ?_; clear hA hH; rintro _ w ⟨oN, rfl, hH⟩; refine ⟨STT, ?_⟩; intro a hA) | (refine DAT ?_; clear hA; rintro _ w ⟨oN, cN, rfl, hH2⟩; clear hH; have hH := (hH2 _ (by (repeat constructor))).tail; clear hH2; refine ⟨STT, ?_⟩; intro a hA))) )
    · refine ⟨(m + 1, j), ⟨⟨by show m + 1 ≤ j; omega, h2, fun k r hk' hkr => ?_, h4⟩, hH, (hA.sub (by (repeat (first | exact trivial | refine ⟨rfl, ?_⟩))))⟩, by show j - (m + 1) < j - i; omega⟩
      rcases Nat.lt_or_ge k m with h | h
      · have := hs.2 k m r _ h hkr hx
        dsimp only at this
        omega
      · obtain rfl : k = m := by have : k < m + 1 := hk'; omega
        rw [hx] at hkr
        obtain rfl := Option.some.inj hkr
        dsimp only
        omega
    · refine ⟨(i, m), ⟨⟨hmi.1, by show m ≤ fr.length; omega, h3, fun k r hk' hkr => ?_⟩, hH, (hA.sub (by (repeat (first | exact trivial | refine ⟨rfl, ?_⟩))))⟩, by show m - i < j - i; omega⟩
      rcases Nat.lt_or_ge m k with h | h
      · have := hs.2 m k _ r h hx hkr
        dsimp only at this
        omega
      · obtain rfl : k = m := by have : m ≤ k := hk'; omega
        rw [hx] at hkr
        obtain rfl := Option.some.inj hkr
        dsimp only
        omega
  obtain rfl : i = j := by omega
  by_cases hil : i < fr.length
  · obtain ⟨⟨ra, rn⟩, hx⟩ : ∃ x, fr[i]? = some x := ⟨_, List.getElem?_eq_getElem hil⟩
    have hb := hs.1 _ (List.mem_of_getElem? hx)
    repeat' (first | (first | (refine GT ?_ ?_ <;> intro hg <;> clear hA a <;> intro a hA <;> (first | exact FA | replace hg := of_decide_eq_true hg | replace hg := of_decide_eq_false hg | skip)) | ((first | apply st_ex hA hH rfl rfl (by decide) | apply dr_ex hA rfl rfl rfl (by decide) | apply dr_exp hA rfl rfl rfl (by decide) | apply dr_ex3 hA hH rfl rfl rfl (by decide)); (first | (apply ex_load_st (vs := [.int .i64 ra, .int .i64 rn]); rfl; rfl; exact cls_rd hr id (encPa hx))); clear hA a; intro a hA) | (refine QT0 ?_; clear hA a; intro a hA) | (first | (refine BT ?_; clear hA hH; rintro _ w ⟨bN, rfl, hH⟩ a hA) | (refine LT ?_; clear hA hH; rintro _ w ⟨oN, rfl, hH⟩ a hA) | (refine AT ?_; clear hA; rintro _ w ⟨oN, cN, rfl, hH2⟩ a hA; clear hH; have hH := (hH2 _ (by (repeat constructor))).tail; clear hH2) | (refine S0T ?_; clear hH; rintro _ w hH) )) | ((first | refine CT ?_ | (refine DT ?_ ?_ <;> intro hc <;> try (exfalso; omega))) <;> repeat' refine CT ?_) | (first | (refine DSK ?_; clear hA a; intro a hA) | (first | (refine DLT ?_; clear hA hH; rintro _ w ⟨oN, rfl, hH⟩; refine ⟨STT, ?_⟩; intro a hA) | (refine DAT ?_; clear hA; rintro _ w ⟨oN, cN, rfl, hH2⟩; clear hH; have hH := (hH2 _ (by (repeat constructor))).tail; clear hH2; refine ⟨STT, ?_⟩; intro a hA))) )
    (refine st_op hA rfl rfl (by decide) (op_call rfl rfl rfl (cmp_spec _ ra rn t (by dsimp only at hb; omega) (by omega))) ?_; clear hA; rintro _ w ⟨rfl, hk⟩ a hA)
    replace hH := hH.keep hk
    repeat' (first | (first | (refine GT ?_ ?_ <;> intro hg <;> clear hA a <;> intro a hA <;> (first | exact FA | replace hg := of_decide_eq_true hg | replace hg := of_decide_eq_false hg | skip)) | (refine QT0 ?_; clear hA a; intro a hA) | (first | (refine BT ?_; clear hA hH; rintro _ w ⟨bN, rfl, hH⟩ a hA) | (refine LT ?_; clear hA hH; rintro _ w ⟨oN, rfl, hH⟩ a hA) | (refine AT ?_; clear hA; rintro _ w ⟨oN, cN, rfl, hH2⟩ a hA; clear hH; have hH := (hH2 _ (by (repeat constructor))).tail; clear hH2) | (refine S0T ?_; clear hH; rintro _ w hH) )) | ((first | refine CT ?_ | (refine DT ?_ ?_ <;> intro hc <;> try (exfalso; omega))) <;> repeat' refine CT ?_) | (first | (refine DSK ?_; clear hA a; intro a hA) | (first | (refine DLT ?_; clear hA hH; rintro _ w ⟨oN, rfl, hH⟩; refine ⟨STT, ?_⟩; intro a hA) | (refine DAT ?_; clear hA; rintro _ w ⟨oN, cN, rfl, hH2⟩; clear hH; have hH := (hH2 _ (by (repeat constructor))).tail; clear hH2; refine ⟨STT, ?_⟩; intro a hA))) )
    exact rt2 (.inl rfl) rfl hA rfl rfl ⟨⟨i, _, rfl, h2, h3, h4⟩, hH.kp⟩
  · repeat' (first | (first | (refine GT ?_ ?_ <;> intro hg <;> clear hA a <;> intro a hA <;> (first | exact FA | replace hg := of_decide_eq_true hg | replace hg := of_decide_eq_false hg | skip)) | (refine QT0 ?_; clear hA a; intro a hA) | (first | (refine BT ?_; clear hA hH; rintro _ w ⟨bN, rfl, hH⟩ a hA) | (refine LT ?_; clear hA hH; rintro _ w ⟨oN, rfl, hH⟩ a hA) | (refine AT ?_; clear hA; rintro _ w ⟨oN, cN, rfl, hH2⟩ a hA; clear hH; have hH := (hH2 _ (by (repeat constructor))).tail; clear hH2) | (refine S0T ?_; clear hH; rintro _ w hH) )) | ((first | refine CT ?_ | (refine DT ?_ ?_ <;> intro hc <;> try (exfalso; omega))) <;> repeat' refine CT ?_) | (first | (refine DSK ?_; clear hA a; intro a hA) | (first | (refine DLT ?_; clear hA hH; rintro _ w ⟨oN, rfl, hH⟩; refine ⟨STT, ?_⟩; intro a hA) | (refine DAT ?_; clear hA; rintro _ w ⟨oN, cN, rfl, hH2⟩; clear hH; have hH := (hH2 _ (by (repeat constructor))).tail; clear hH2; refine ⟨STT, ?_⟩; intro a hA))) )
    exact rt2 (.inl rfl) rfl hA rfl rfl ⟨⟨i, _, rfl, h2, h3, h4⟩, hH.kp⟩
end Go.Proofs.Ytdfhajdejlhamaa
namespace Go.Proofs.Ytdfhajdejlhamaa
open Go Go.Fw
set_option linter.unusedVariables false
def insR (fr : List (Int × Int)) (i : Nat) (r : Int × Int) : List (Int × Int) := fr.take i ++ r :: fr.drop i
theorem flat_cons {α : Type} (enc : α → List Value) (x : α) (l : List α) : flat enc (x :: l) = enc x ++ flat enc l := by simp [flat]
theorem insR_len {fr : List (Int × Int)} {i : Nat} {r : Int × Int} (hi : i ≤ fr.length) : (insR fr i r).length = fr.length + 1 := by simp [insR]; omega
set_option maxRecDepth 10000 attribute [local irreducible] Code.wp wpList Calls Ex Op1 sat bat blk cb own Go.Fw.mp Go.Fw.mpO Go.Fw.mpI Go.Fw.mpE Go.Fw.itr HS Rd Ret wkD Hp Cl Cls Exit.then Exit.inBlock Exit.noGoto bodyPost Go.Fw.flat wk2 Go.Fw.all Go.Fw.owns wpOp

set_option maxHeartbeats 4000000 in
theorem insert_spec (w0 : World) (M : Nat → Prop) (o ov : Option Addr) (c i : Nat) (fr : List (Int × Int)) (r : Int × Int) (hH : HS w0 M [own 104 2 o fr.length c (flat encP fr), own 104 2 ov 1 1 (encP r)] w0) (hi : i ≤ fr.length) (hl : fr.length ≤ 1048576) :
    Ret Try.prog 97 #[.slice o fr.length c, .int .i64 i, .slice ov 1 1] w0
      (fun v w => ∃ o' c', v = .slice o' (fr.length + 1) c' ∧ HS w0 M [own 104 2 o' (fr.length + 1) c' (flat encP (insR fr i r))] w) := by
  have hle := hH.own_le (o := o) (by exact MEMT)
  obtain ⟨bv, spv, rfl, -, -, hv3, hv4, hHv⟩ := (hH.perm (.swap _ _ _)).own_block (by omega)
  have hspv : spv = [] := List.length_eq_zero_iff.1 (by rw [encP_len] at hv4; omega)
  subst hspv
  rw [List.append_nil] at hHv
  replace hH := hHv.perm (.swap _ _ _)
  clear hHv
  by_cases hin : i = fr.length
  · subst hin
    have hrv : Rd w0 (some (bat bv 0)) (encP r) := by
      have := hH.cb_rd (b := bv) (by exact MEMT) 0
      rwa [List.drop_zero] at this
    (refine enter (N := 95) Try.func97 rfl Try.ntmps97 rfl ?_; intro a hA; dsimp only [sl0, Nat.reduceAdd] at hA)
    repeat' (first | (first | (refine GT ?_ ?_ <;> intro hg <;> clear hA a <;> intro a hA <;> (first | exact FA | replace hg := of_decide_eq_true hg | replace hg := of_decide_eq_false hg | skip)) | ((first | apply st_ex hA hH rfl rfl (by decide) | apply dr_ex hA rfl rfl rfl (by decide) | apply dr_exp hA rfl rfl rfl (by decide) | apply dr_ex3 hA hH rfl rfl rfl (by decide)); (first | (apply ex_slice_lo (k := fr.length); rfl; rfl; rfl; omega)); clear hA a; intro a hA) | (refine QT0 ?_; clear hA a; intro a hA) | (first | (refine BT ?_; clear hA hH; rintro _ w ⟨bN, rfl, hH⟩ a hA) | (refine LT ?_; clear hA hH; rintro _ w ⟨oN, rfl, hH⟩ a hA) | (refine AT ?_; clear hA; rintro _ w ⟨oN, cN, rfl, hH2⟩ a hA; clear hH; have hH := (hH2 _ (by (repeat constructor))).tail; clear hH2) | (refine S0T ?_; clear hH; rintro _ w hH) | (apply st_op hA rfl rfl (by decide); apply op_append; rfl; rfl; exact hH; exact MEMT; exact hrv; exact encP_len r; rfl; decide; exact rfl; (unfold maxLen; omega); omega; clear hA; rintro _ w ⟨oN, cN, rfl, hH2⟩ a hA; clear hH; have hH := hH2 _ (by (repeat constructor)); clear hH2))) | ((first | refine CT ?_ | (refine DT ?_ ?_ <;> intro hc <;> try (exfalso; omega))) <;> repeat' refine CT ?_) | (first | (refine DSK ?_; clear hA a; intro a hA) | (first | (refine DLT ?_; clear hA hH; rintro _ w ⟨oN, rfl, hH⟩; refine ⟨STT, ?_⟩; intro a hA) | (refine DAT ?_; clear hA; rintro _ w ⟨oN, cN, rfl, hH2⟩; clear hH; have hH := (hH2 _ (by (repeat constructor))).tail; clear hH2; refine ⟨STT, ?_⟩; intro a hA))) )
    have e : flat encP fr ++ encP r = flat encP (insR fr fr.length r) := by
      unfold insR
      rw [List.take_length, List.drop_length, ← flat_snoc]
    rw [e] at hH
    exact rt1 (.inl rfl) rfl hA rfl ⟨_, _, rfl, hH.head⟩
  have hlt : i < fr.length := by omega
  obtain ⟨b, spare, rfl, h1, h2, h3, h4, hH⟩ := hH.own_block (by omega)
  have hne := hH.cb_ne
  have hlen : (flat encP fr ++ spare).length = c * 2 := by rw [List.length_append]; exact h4
  have hA_ : (flat encP (fr.take i)).length = i * 2 := by rw [flat_length encP_len, List.length_take]; omega
  have hB_ : (flat encP (fr.drop i)).length = (fr.length - i) * 2 := by rw [flat_length encP_len, List.length_drop]
  have hsplit : flat encP fr = flat encP (fr.take i) ++ flat encP (fr.drop i) := by rw [← flat_append, List.take_append_drop]
  have hins : flat encP (insR fr i r) = flat encP (fr.take i) ++ (encP r ++ flat encP (fr.drop i)) := by
    unfold insR
    rw [flat_append, flat_cons]
  have hq1 : (if c = i then 0 else 0 + i * 2) = i * 2 := by rw [if_neg (by omega), Nat.zero_add]
  by_cases hroom : fr.length + 1 ≤ c
  rotate_left
  · -- into a new block
    (refine enter (N := 95) Try.func97 rfl Try.ntmps97 rfl ?_; intro a hA; dsimp only [sl0, Nat.reduceAdd] at hA)
    repeat' (first | (first | (refine GT ?_ ?_ <;> intro hg <;> clear hA a <;> intro a hA <;> (first | exact FA | replace hg := of_decide_eq_true hg | replace hg := of_decide_eq_false hg | skip)) | ((first | apply st_ex hA hH rfl rfl (by decide) | apply dr_ex hA rfl rfl rfl (by decide) | apply dr_exp hA rfl rfl rfl (by decide) | apply dr_ex3 hA hH rfl rfl rfl (by decide)); (first | (apply ex_slice_lo_b (k := i) (q := i * 2); rfl; rfl; rfl; omega; exact hq1) | (apply ex_slice_hi (k := i); rfl; rfl; rfl; omega) | (apply ex_cap_slice; rfl)); clear hA a; intro a hA) | (refine QT0 ?_; clear hA a; intro a hA) | (first | (refine BT ?_; clear hA hH; rintro _ w ⟨bN, rfl, hH⟩ a hA) | (refine LT ?_; clear hA hH; rintro _ w ⟨oN, rfl, hH⟩ a hA) | (refine AT ?_; clear hA; rintro _ w ⟨oN, cN, rfl, hH2⟩ a hA; clear hH; have hH := (hH2 _ (by (repeat constructor))).tail; clear hH2) | (refine S0T ?_; clear hH; rintro _ w hH) )) | ((first | refine CT ?_ | (refine DT ?_ ?_ <;> intro hc <;> try (exfalso; omega))) <;> repeat' refine CT ?_) | (first | (refine DSK ?_; clear hA a; intro a hA) | (first | (refine DLT ?_; clear hA hH; rintro _ w ⟨oN, rfl, hH⟩; refine ⟨STT, ?_⟩; intro a hA) | (refine DAT ?_; clear hA; rintro _ w ⟨oN, cN, rfl, hH2⟩; clear hH; have hH := (hH2 _ (by (repeat constructor))).tail; clear hH2; refine ⟨STT, ?_⟩; intro a hA))) )
    have holds : ∀ j u, (flat encP (fr.take i))[j]? = some u → w0.cell? ((bat b 0).add j) = some u := by
      intro j u hj
      have := hH.cb_news (b := b) (k := 0) (m := (flat encP (fr.take i)).length) (List.mem_cons_self ..) j u
      have e5 : ((flat encP fr ++ spare).drop 0).take (flat encP (fr.take i)).length = flat encP (fr.take i) := by
        rw [List.drop_zero, hsplit, List.append_assoc, List.take_append_of_le_length (Nat.le_refl _), List.take_length]
      rw [e5] at this
      exact this hj
    repeat' (first | (first | (refine GT ?_ ?_ <;> intro hg <;> clear hA a <;> intro a hA <;> (first | exact FA | replace hg := of_decide_eq_true hg | replace hg := of_decide_eq_false hg | skip)) | (refine QT0 ?_; clear hA a; intro a hA) | (first | (refine BT ?_; clear hA hH; rintro _ w ⟨bN, rfl, hH⟩ a hA) | (refine LT ?_; clear hA hH; rintro _ w ⟨oN, rfl, hH⟩ a hA) | (refine AT ?_; clear hA; rintro _ w ⟨oN, cN, rfl, hH2⟩ a hA; clear hH; have hH := (hH2 _ (by (repeat constructor))).tail; clear hH2) | (refine S0T ?_; clear hH; rintro _ w hH) | (apply st_op hA rfl rfl (by decide); apply op_append_mk (k := fr.length + 1 - i); rfl; rfl; omega; exact hH; exact holds; exact hA_; rfl; omega; omega; (unfold maxLen; omega); omega; omega; clear hA; rintro _ w ⟨o2, c2, rest, rfl, hrest, hH2⟩ a hA))) | ((first | refine CT ?_ | (refine DT ?_ ?_ <;> intro hc <;> try (exfalso; omega))) <;> repeat' refine CT ?_) | (first | (refine DSK ?_; clear hA a; intro a hA) | (first | (refine DLT ?_; clear hA hH; rintro _ w ⟨oN, rfl, hH⟩; refine ⟨STT, ?_⟩; intro a hA) | (refine DAT ?_; clear hA; rintro _ w ⟨oN, cN, rfl, hH2⟩; clear hH; have hH := (hH2 _ (by (repeat constructor))).tail; clear hH2; refine ⟨STT, ?_⟩; intro a hA))) )
    have en : i + (fr.length + 1 - i) = fr.length + 1 := by omega
    rw [en] at hA hH2
    have hle2 := hH2.own_le (o := o2) (by exact MEMT)
    obtain ⟨b2, sp2, rfl, k1, k2, k3, k4, hH3⟩ := hH2.own_block (by omega)
    clear hH hH2
    have hH := hH3
    clear hH3
    have hq3 : (if c2 = i then 0 else 0 + i * 2) = i * 2 := by rw [if_neg (by omega), Nat.zero_add]
    have hq4 : (if c2 = i + 1 then 0 else 0 + (i + 1) * 2) = (i + 1) * 2 := by rw [if_neg (by omega), Nat.zero_add]
    have hrv : ∀ j u, (encP r)[j]? = some u → w.cell? ((bat bv 0).add j) = some u := by
      intro j u hj
      have := hH.cb_news (b := bv) (k := 0) (m := (encP r).length) (by exact MEMT) j u
      rw [List.drop_zero, List.take_length] at this
      exact this hj
    have hl1 : (encP r).length = Nat.min 1 (fr.length + 1 - i) * 2 := by rw [show Nat.min 1 (fr.length + 1 - i) = 1 by show min 1 (fr.length + 1 - i) = 1; omega]; rfl
    have hf1 : i * 2 + (encP r).length ≤ (flat encP (fr.take i) ++ rest ++ sp2).length := by
      rw [List.length_append, List.length_append, hA_, hrest, encP_len]; omega
    repeat' (first | (first | (refine GT ?_ ?_ <;> intro hg <;> clear hA a <;> intro a hA <;> (first | exact FA | replace hg := of_decide_eq_true hg | replace hg := of_decide_eq_false hg | skip)) | ((first | apply st_ex hA hH rfl rfl (by decide) | apply dr_ex hA rfl rfl rfl (by decide) | apply dr_exp hA rfl rfl rfl (by decide) | apply dr_ex3 hA hH rfl rfl rfl (by decide)); (first | (apply ex_slice_lo_b (k := i) (q := i * 2); rfl; rfl; rfl; omega; exact hq3)); clear hA a; intro a hA) | (refine QT0 ?_; clear hA a; intro a hA) | (first | (refine BT ?_; clear hA hH; rintro _ w ⟨bN, rfl, hH⟩ a hA) | (refine LT ?_; clear hA hH; rintro _ w ⟨oN, rfl, hH⟩ a hA) | (refine AT ?_; clear hA; rintro _ w ⟨oN, cN, rfl, hH2⟩ a hA; clear hH; have hH := (hH2 _ (by (repeat constructor))).tail; clear hH2) | (refine S0T ?_; clear hH; rintro _ w hH) | (apply st_op hA rfl rfl (by decide); apply op_copy_cb; rfl; rfl; exact hH; exact hrv; exact hl1; rfl; exact hf1; (repeat constructor); clear hA hH; rintro _ w ⟨rfl, hH⟩ a hA))) | ((first | refine CT ?_ | (refine DT ?_ ?_ <;> intro hc <;> try (exfalso; omega))) <;> repeat' refine CT ?_) | (first | (refine DSK ?_; clear hA a; intro a hA) | (first | (refine DLT ?_; clear hA hH; rintro _ w ⟨oN, rfl, hH⟩; refine ⟨STT, ?_⟩; intro a hA) | (refine DAT ?_; clear hA; rintro _ w ⟨oN, cN, rfl, hH2⟩; clear hH; have hH := (hH2 _ (by (repeat constructor))).tail; clear hH2; refine ⟨STT, ?_⟩; intro a hA))) )
    have hB5 : ((flat encP fr ++ spare).drop (i * 2)).take (flat encP (fr.drop i)).length = flat encP (fr.drop i) := by
      have := @mid_take (flat encP (fr.take i)) [] (flat encP (fr.drop i)) spare
      rw [List.length_nil, Nat.add_zero, hA_, List.nil_append, ← List.append_assoc, ← hsplit] at this
      exact this
    have hl2 : (flat encP (fr.drop i)).length = Nat.min (fr.length - i) (fr.length + 1 - (i + 1)) * 2 := by
      rw [hB_, show Nat.min (fr.length - i) (fr.length + 1 - (i + 1)) = fr.length - i by show min (fr.length - i) (fr.length + 1 - (i + 1)) = _; omega]
    have hpl : (put (flat encP (fr.take i) ++ rest ++ sp2) (i * 2) (encP r)).length = c2 * 2 := by rw [put_length hf1, List.length_append]; exact k4
    have hf2 : (i + 1) * 2 + (flat encP (fr.drop i)).length ≤ (put (flat encP (fr.take i) ++ rest ++ sp2) (i * 2) (encP r)).length := by rw [hpl, hB_]; omega
    have hone : (flat encP (fr.drop i)).all (·.oneCell') = true := flat_one_cell (fun _ => rfl) _
    (refine wp_draw_HS [(0, 2), (1, 2), (2, 2), (3, 2), (4, 2), (5, 2), (6, 2), (7, 2), (8, 0)] mixed (by decide +kernel) hH.drop_ ?_; replace hH := hH.drew)
    have hrB : ∀ j u, (flat encP (fr.drop i))[j]? = some u → w.drew.cell? ((bat b (i * 2)).add j) = some u := by
      intro j u hj
      have := hH.cb_news (b := b) (k := i * 2) (m := (flat encP (fr.drop i)).length) (by exact MEMT) j u
      rw [hB5] at this
      exact this hj
    repeat' (first | (first | (refine GT ?_ ?_ <;> intro hg <;> clear hA a <;> intro a hA <;> (first | exact FA | replace hg := of_decide_eq_true hg | replace hg := of_decide_eq_false hg | skip)) | ((first | apply st_ex hA hH rfl rfl (by decide) | apply dr_ex hA rfl rfl rfl (by decide) | apply dr_exp hA rfl rfl rfl (by decide) | apply dr_ex3 hA hH rfl rfl rfl (by decide)); (first | (apply ex_slice_lo_b (k := i + 1) (q := (i + 1) * 2); rfl; rfl; rfl; omega; exact hq4) | (apply ex_slice_lo_b (k := i) (q := i * 2); rfl; rfl; rfl; omega; exact hq1)); clear hA a; intro a hA) | (refine QT0 ?_; clear hA a; intro a hA) | (first | (refine BT ?_; clear hA hH; rintro _ w ⟨bN, rfl, hH⟩ a hA) | (refine LT ?_; clear hA hH; rintro _ w ⟨oN, rfl, hH⟩ a hA) | (refine AT ?_; clear hA; rintro _ w ⟨oN, cN, rfl, hH2⟩ a hA; clear hH; have hH := (hH2 _ (by (repeat constructor))).tail; clear hH2) | (refine S0T ?_; clear hH; rintro _ w hH) )) | ((first | refine CT ?_ | (refine DT ?_ ?_ <;> intro hc <;> try (exfalso; omega))) <;> repeat' refine CT ?_) | (first | (refine DSK ?_; clear hA a; intro a hA) | (first | (refine DLT ?_; clear hA hH; rintro _ w ⟨oN, rfl, hH⟩; refine ⟨STT, ?_⟩; intro a hA) | (refine DAT ?_; clear hA; rintro _ w ⟨oN, cN, rfl, hH2⟩; clear hH; have hH := (hH2 _ (by (repeat constructor))).tail; clear hH2; refine ⟨STT, ?_⟩; intro a hA))) | (apply dr_op hA rfl rfl rfl (by decide); apply op_copy_cb; rfl; rfl; exact hH; exact hrB; exact hl2; exact hone; exact hf2; (repeat constructor); clear hA hH; rintro _ w ⟨rfl, hH⟩; refine ⟨STT, ?_⟩; intro a hA))
    have hrest2 : rest.length = 2 + (fr.length - i) * 2 := by rw [hrest]; omega
    have e7 : put (put (flat encP (fr.take i) ++ rest ++ sp2) (i * 2) (encP r)) ((i + 1) * 2) (flat encP (fr.drop i)) = flat encP (insR fr i r) ++ sp2 := by
      have e8 : flat encP (fr.take i) ++ rest ++ sp2 = flat encP (fr.take i) ++ (rest.take 2 ++ (rest.drop 2 ++ sp2)) := by
        rw [← List.append_assoc (rest.take 2), List.take_append_drop, List.append_assoc]
      rw [e8, put_seg hA_.symm (by rw [encP_len, List.length_take]; omega), ← List.append_assoc (flat encP (fr.take i)), put_seg (by rw [List.length_append, hA_, encP_len]; omega) (by rw [hB_, List.length_drop]; omega), hins]
      simp
    rw [e7] at hH
    have hil : (flat encP (insR fr i r)).length = (fr.length + 1) * 2 := by rw [flat_length encP_len, insR_len hi]
    refine rt1 (.inl rfl) rfl hA rfl ⟨_, _, rfl, (hH.head).block_own hil k1 k2 ?_⟩
    rw [hil, ← k3]
    exact k4
  · (refine enter (N := 95) Try.func97 rfl Try.ntmps97 rfl ?_; intro a hA; dsimp only [sl0, Nat.reduceAdd] at hA)
    repeat' (first | (first | (refine GT ?_ ?_ <;> intro hg <;> clear hA a <;> intro a hA <;> (first | exact FA | replace hg := of_decide_eq_true hg | replace hg := of_decide_eq_false hg | skip)) | ((first | apply st_ex hA hH rfl rfl (by decide) | apply dr_ex hA rfl rfl rfl (by decide) | apply dr_exp hA rfl rfl rfl (by decide) | apply dr_ex3 hA hH rfl rfl rfl (by decide)); (first | (apply ex_slice_lo_b (k := i) (q := i * 2); rfl; rfl; rfl; omega; exact hq1) | (apply ex_slice_hi (k := fr.length + 1); rfl; rfl; rfl; omega) | (apply ex_cap_slice; rfl)); clear hA a; intro a hA) | (refine QT0 ?_; clear hA a; intro a hA) | (first | (refine BT ?_; clear hA hH; rintro _ w ⟨bN, rfl, hH⟩ a hA) | (refine LT ?_; clear hA hH; rintro _ w ⟨oN, rfl, hH⟩ a hA) | (refine AT ?_; clear hA; rintro _ w ⟨oN, cN, rfl, hH2⟩ a hA; clear hH; have hH := (hH2 _ (by (repeat constructor))).tail; clear hH2) | (refine S0T ?_; clear hH; rintro _ w hH) )) | ((first | refine CT ?_ | (refine DT ?_ ?_ <;> intro hc <;> try (exfalso; omega))) <;> repeat' refine CT ?_) | (first | (refine DSK ?_; clear hA a; intro a hA) | (first | (refine DLT ?_; clear hA hH; rintro _ w ⟨oN, rfl, hH⟩; refine ⟨STT, ?_⟩; intro a hA) | (refine DAT ?_; clear hA; rintro _ w ⟨oN, cN, rfl, hH2⟩; clear hH; have hH := (hH2 _ (by (repeat constructor))).tail; clear hH2; refine ⟨STT, ?_⟩; intro a hA))) )
    have hsp2 : 2 ≤ spare.length := by rw [List.length_append, h3] at hlen; omega
    have hq2 : (if c = i + 1 then 0 else 0 + (i + 1) * 2) = (i + 1) * 2 := by rw [if_neg (by omega), Nat.zero_add]
    have hc2 : (flat encP fr ++ spare).length ≠ 0 := by rw [hlen]; omega
    repeat' (first | (first | (refine GT ?_ ?_ <;> intro hg <;> clear hA a <;> intro a hA <;> (first | exact FA | replace hg := of_decide_eq_true hg | replace hg := of_decide_eq_false hg | skip)) | ((first | apply st_ex hA hH rfl rfl (by decide) | apply dr_ex hA rfl rfl rfl (by decide) | apply dr_exp hA rfl rfl rfl (by decide) | apply dr_ex3 hA hH rfl rfl rfl (by decide)); (first | (apply ex_slice_lo_b (k := i + 1) (q := (i + 1) * 2); rfl; rfl; rfl; omega; exact hq2)); clear hA a; intro a hA) | (refine QT0 ?_; clear hA a; intro a hA) | (first | (refine BT ?_; clear hA hH; rintro _ w ⟨bN, rfl, hH⟩ a hA) | (refine LT ?_; clear hA hH; rintro _ w ⟨oN, rfl, hH⟩ a hA) | (refine AT ?_; clear hA; rintro _ w ⟨oN, cN, rfl, hH2⟩ a hA; clear hH; have hH := (hH2 _ (by (repeat constructor))).tail; clear hH2) | (refine S0T ?_; clear hH; rintro _ w hH) | (apply st_op hA rfl rfl (by decide); apply op_overlaps (t := 105) (tR := 4) Try.func102 (by kernel_rfl) (by kernel_rfl) (by kernel_rfl) (by kernel_rfl); rfl; rfl; exact hH; exact MEMT; exact MEMT; exact Ne.symm hne; exact hc2; clear hA; rintro _ w2 ⟨rfl, hw2⟩ a hA; rw [hw2]; clear hw2 w2))) | ((first | refine CT ?_ | (refine DT ?_ ?_ <;> intro hc <;> try (exfalso; omega))) <;> repeat' refine CT ?_) | (first | (refine DSK ?_; clear hA a; intro a hA) | (first | (refine DLT ?_; clear hA hH; rintro _ w ⟨oN, rfl, hH⟩; refine ⟨STT, ?_⟩; intro a hA) | (refine DAT ?_; clear hA; rintro _ w ⟨oN, cN, rfl, hH2⟩; clear hH; have hH := (hH2 _ (by (repeat constructor))).tail; clear hH2; refine ⟨STT, ?_⟩; intro a hA))) )
    have hB5 : ((flat encP fr ++ spare).drop (i * 2)).take (flat encP (fr.drop i)).length = flat encP (fr.drop i) := by
      have := @mid_take (flat encP (fr.take i)) [] (flat encP (fr.drop i)) spare
      rw [List.length_nil, Nat.add_zero, hA_, List.nil_append, ← List.append_assoc, ← hsplit] at this
      exact this
    have hl2 : (flat encP (fr.drop i)).length = Nat.min (fr.length + 1 - i) (fr.length + 1 - (i + 1)) * 2 := by
      rw [hB_, show Nat.min (fr.length + 1 - i) (fr.length + 1 - (i + 1)) = fr.length - i by show min (fr.length + 1 - i) (fr.length + 1 - (i + 1)) = _; omega]
    have hf2 : (i + 1) * 2 + (flat encP (fr.drop i)).length ≤ (flat encP fr ++ spare).length := by rw [hlen, hB_]; omega
    have hone : (flat encP (fr.drop i)).all (·.oneCell') = true := flat_one_cell (fun _ => rfl) _
    (refine wp_draw_HS [(0, 2), (1, 2), (2, 2), (3, 2), (4, 2), (5, 2), (6, 2), (7, 2), (8, 0)] mixed (by decide +kernel) hH.drop_ ?_; replace hH := hH.drew)
    have hrB : ∀ j u, (flat encP (fr.drop i))[j]? = some u → w0.drew.cell? ((bat b (i * 2)).add j) = some u := by
      intro j u hj
      have := hH.cb_news (b := b) (k := i * 2) (m := (flat encP (fr.drop i)).length) (by exact MEMT) j u
      rw [hB5] at this
      exact this hj
    repeat' (first | (first | (refine GT ?_ ?_ <;> intro hg <;> clear hA a <;> intro a hA <;> (first | exact FA | replace hg := of_decide_eq_true hg | replace hg := of_decide_eq_false hg | skip)) | ((first | apply st_ex hA hH rfl rfl (by decide) | apply dr_ex hA rfl rfl rfl (by decide) | apply dr_exp hA rfl rfl rfl (by decide) | apply dr_ex3 hA hH rfl rfl rfl (by decide)); (first | (apply ex_slice_lo_b (k := i + 1) (q := (i + 1) * 2); rfl; rfl; rfl; omega; exact hq2) | (apply ex_slice_lo_b (k := i) (q := i * 2); rfl; rfl; rfl; omega; exact hq1)); clear hA a; intro a hA) | (refine QT0 ?_; clear hA a; intro a hA) | (first | (refine BT ?_; clear hA hH; rintro _ w ⟨bN, rfl, hH⟩ a hA) | (refine LT ?_; clear hA hH; rintro _ w ⟨oN, rfl, hH⟩ a hA) | (refine AT ?_; clear hA; rintro _ w ⟨oN, cN, rfl, hH2⟩ a hA; clear hH; have hH := (hH2 _ (by (repeat constructor))).tail; clear hH2) | (refine S0T ?_; clear hH; rintro _ w hH) )) | ((first | refine CT ?_ | (refine DT ?_ ?_ <;> intro hc <;> try (exfalso; omega))) <;> repeat' refine CT ?_) | (first | (refine DSK ?_; clear hA a; intro a hA) | (first | (refine DLT ?_; clear hA hH; rintro _ w ⟨oN, rfl, hH⟩; refine ⟨STT, ?_⟩; intro a hA) | (refine DAT ?_; clear hA; rintro _ w ⟨oN, cN, rfl, hH2⟩; clear hH; have hH := (hH2 _ (by (repeat constructor))).tail; clear hH2; refine ⟨STT, ?_⟩; intro a hA))) | (apply dr_op hA rfl rfl rfl (by decide); apply op_copy_cb; rfl; rfl; exact hH; exact hrB; exact hl2; exact hone; exact hf2; (repeat constructor); clear hA hH; rintro _ w ⟨rfl, hH⟩; refine ⟨STT, ?_⟩; intro a hA))
    have hrv : ∀ j u, (encP r)[j]? = some u → w.cell? ((bat bv 0).add j) = some u := by
      intro j u hj
      have := hH.cb_news (b := bv) (k := 0) (m := (encP r).length) (by exact MEMT) j u
      rw [List.drop_zero, List.take_length] at this
      exact this hj
    have hl1 : (encP r).length = Nat.min 1 (fr.length + 1 - i) * 2 := by rw [show Nat.min 1 (fr.length + 1 - i) = 1 by show min 1 (fr.length + 1 - i) = 1; omega]; rfl
    have hf1 : i * 2 + (encP r).length ≤ (put (flat encP fr ++ spare) ((i + 1) * 2) (flat encP (fr.drop i))).length := by
      rw [put_length hf2, hlen, encP_len]; omega
    repeat' (first | (first | (refine GT ?_ ?_ <;> intro hg <;> clear hA a <;> intro a hA <;> (first | exact FA | replace hg := of_decide_eq_true hg | replace hg := of_decide_eq_false hg | skip)) | ((first | apply st_ex hA hH rfl rfl (by decide) | apply dr_ex hA rfl rfl rfl (by decide) | apply dr_exp hA rfl rfl rfl (by decide) | apply dr_ex3 hA hH rfl rfl rfl (by decide)); (first | (apply ex_slice_lo_b (k := i) (q := i * 2); rfl; rfl; rfl; omega; exact hq1)); clear hA a; intro a hA) | (refine QT0 ?_; clear hA a; intro a hA) | (first | (refine BT ?_; clear hA hH; rintro _ w ⟨bN, rfl, hH⟩ a hA) | (refine LT ?_; clear hA hH; rintro _ w ⟨oN, rfl, hH⟩ a hA) | (refine AT ?_; clear hA; rintro _ w ⟨oN, cN, rfl, hH2⟩ a hA; clear hH; have hH := (hH2 _ (by (repeat constructor))).tail; clear hH2) | (refine S0T ?_; clear hH; rintro _ w hH) | (apply st_op hA rfl rfl (by decide); apply op_copy_cb; rfl; rfl; exact hH; exact hrv; exact hl1; rfl; exact hf1; (repeat constructor); clear hA hH; rintro _ w ⟨rfl, hH⟩ a hA))) | ((first | refine CT ?_ | (refine DT ?_ ?_ <;> intro hc <;> try (exfalso; omega))) <;> repeat' refine CT ?_) | (first | (refine DSK ?_; clear hA a; intro a hA) | (first | (refine DLT ?_; clear hA hH; rintro _ w ⟨oN, rfl, hH⟩; refine ⟨STT, ?_⟩; intro a hA) | (refine DAT ?_; clear hA; rintro _ w ⟨oN, cN, rfl, hH2⟩; clear hH; have hH := (hH2 _ (by (repeat constructor))).tail; clear hH2; refine ⟨STT, ?_⟩; intro a hA))) )
    have e7 : put (put (flat encP fr ++ spare) ((i + 1) * 2) (flat encP (fr.drop i))) (i * 2) (encP r) = flat encP (insR fr i r) ++ spare.drop 2 := by
      have e8 : flat encP fr ++ spare = flat encP (fr.take i) ++ (flat encP (fr.drop i) ++ (spare.take 2 ++ spare.drop 2)) := by
        rw [List.take_append_drop, ← List.append_assoc, ← hsplit]
      have e9 := @ins_cells (flat encP (fr.take i)) (encP r) (flat encP (fr.drop i)) (spare.take 2) (spare.drop 2) (by rw [encP_len, List.length_take]; omega)
      rw [hA_, encP_len, show i * 2 + 2 = (i + 1) * 2 by omega] at e9
      rw [e8, e9, hins]
    rw [e7] at hH
    have hil : (flat encP (insR fr i r)).length = (fr.length + 1) * 2 := by rw [flat_length encP_len, insR_len hi]
    refine rt1 (.inl rfl) rfl hA rfl ⟨_, _, rfl, (hH.head).block_own hil hroom h2 ?_⟩
    rw [hil, List.length_drop]
    omega
end Go.Proofs.Ytdfhajdejlhamaa
namespace Go.Proofs.Ytdfhajdejlhamaa
open Go Go.Fw
set_option linter.unusedVariables false
def encW (x : Int) : List Value := [.int .u64 x]
theorem encW_len (x : Int) : (encW x).length = 1 := rfl
structure HQ where
  oC : Option Addr
  cC : Nat
  oH : Option Addr
  cH : Nat
  oF : Option Addr
  cF : Nat
  cs : List Int
  hs : List (Int × Int)
def hpQ (b N : Nat) (fr : List (Int × Int)) (q : HQ) : List It :=
  [cb b 107 [.slice q.oC N q.cC, .slice q.oH N q.cH, .slice q.oF fr.length q.cF], own 33 1 q.oC N q.cC (flat encW q.cs), own 113 2 q.oH N q.cH (flat encP q.hs), own 104 2 q.oF fr.length q.cF (flat encP fr)]
/-- a heap: of so many cells, with these objects -/
def hpI (b N : Nat) (L : List Ob) : It := exI fun q => facI (Rep N L q.cs q.hs) (all (hpQ b N (gaps N 1 L) q))
/-- a heap that can be read -/
structure HpQ (w : World) (b N : Nat) (L : List Ob) (q : HQ) : Prop where
  rep : Rep N L q.cs q.hs
  c0 : w.cell? (bat b 0) = some (.slice q.oC N q.cC)
  c1 : w.cell? (bat b 1) = some (.slice q.oH N q.cH)
  c2 : w.cell? (bat b 2) = some (.slice q.oF (gaps N 1 L).length q.cF)
  rC : Rd w q.oC (flat encW q.cs)
  rH : Rd w q.oH (flat encP q.hs)
  rF : Rd w q.oF (flat encP (gaps N 1 L))
  nC : N ≤ q.cC
  nH : N ≤ q.cH
  nF : (gaps N 1 L).length ≤ q.cF
def HpR (w : World) (b N : Nat) (L : List Ob) : Prop := ∃ q, HpQ w b N L q
theorem gaps_len {N : Nat} : ∀ (L : List Ob) (p : Nat), (gaps N p L).length ≤ L.length + 1
  | [], p => by unfold gaps gap1; split <;> simp
  | o :: L, p => by
    have := gaps_len (N := N) L o.fin
    rw [gaps_cons, List.length_append, List.length_cons]
    unfold gap1
    split <;> simp <;> omega
theorem Lay.len {N : Nat} : ∀ {L : List Ob} {p : Nat}, Lay N p L → L.length + p ≤ N
  | [], p, h => by have : p ≤ N := h; simpa using this
  | o :: L, p, h => by
    have h1 := h.1
    have h2 := Lay.len h.2
    unfold Ob.fin at h2
    rw [List.length_cons]
    omega
theorem Rep.frl {N : Nat} {L : List Ob} {cs : List Int} {hs : List (Int × Int)} (h : Rep N L cs hs) : (gaps N 1 L).length ≤ 65536 := by
  have h1 := gaps_len (N := N) L 1
  have h2 := h.lay.len
  have h3 := h.n2
  omega
theorem hp_open {w0 w : World} {M : Nat → Prop} {H : List It} {b N : Nat} {L : List Ob} (h : HS w0 M (hpI b N L :: H) w) : ∃ q, Rep N L q.cs q.hs ∧ HS w0 M (hpQ b N (gaps N 1 L) q ++ H) w := by
  obtain ⟨q, h1⟩ := h.exI_open
  obtain ⟨hp, h2⟩ := h1.facI_open
  exact ⟨q, hp, h2.open_⟩
theorem hp_shut {w0 w : World} {M : Nat → Prop} {H : List It} {b N : Nat} {L : List Ob} (q : HQ) (hp : Rep N L q.cs q.hs) (h : HS w0 M (hpQ b N (gaps N 1 L) q ++ H) w) : HS w0 M (hpI b N L :: H) w :=
  HS.exI_shut q (HS.facI_shut hp h.shut)
theorem hp_read {w0 w : World} {M : Nat → Prop} {H : List It} {b N : Nat} {L : List Ob} (h : HS w0 M (hpI b N L :: H) w) : HpR w b N L := by
  obtain ⟨q, hp, h1⟩ := hp_open h
  exact ⟨q, hp, h1.cell (b := b) (j := 0) (List.mem_cons_self ..) rfl, h1.cell (b := b) (j := 1) (List.mem_cons_self ..) rfl, h1.cell (b := b) (j := 2) (List.mem_cons_self ..) rfl, h1.own_rd (o := q.oC) MEMT, h1.own_rd (o := q.oH) (xs := flat encP q.hs) (by exact .tail _ (.tail _ (.head _))), h1.own_rd (o := q.oF) (xs := flat encP (gaps N 1 L)) (by exact .tail _ (.tail _ (.tail _ (.head _)))),
    (h1.own_le (o := q.oC) (xs := flat encW q.cs) (by exact .tail _ (.head _))).1, (h1.own_le (o := q.oH) (xs := flat encP q.hs) (by exact .tail _ (.tail _ (.head _)))).1, (h1.own_le (o := q.oF) (xs := flat encP (gaps N 1 L)) (by exact .tail _ (.tail _ (.tail _ (.head _))))).1⟩
theorem HpQ.keep {w w' : World} {b N : Nat} {L : List Ob} {q : HQ} (h : HpQ w b N L q) (hk : Kp w noM w') : HpQ w' b N L q := by
  have hH : HS w noM [] w' := (HS.init w noM).keep hk
  exact ⟨h.rep, hH.cellw h.c0 id, hH.cellw h.c1 id, hH.cellw h.c2 id, hH.rd h.rC id, hH.rd h.rH id, hH.rd h.rF id, h.nC, h.nH, h.nF⟩
theorem HpR.keep {w w' : World} {b N : Nat} {L : List Ob} (h : HpR w b N L) (hk : Kp w noM w') : HpR w' b N L :=
  let ⟨q, hq⟩ := h
  ⟨q, hq.keep hk⟩
theorem sat_sub {o : Option Addr} {bb off c k j : Nat} (ho : o = some ⟨bb, off, none⟩) (hc : c ≠ k) : sat (subO o c k 1) j = sat o (k + j) := by
  subst ho
  simp [subO, hc, sat, blkO, offO, Addr.add]
  split <;> simp_all [Nat.add_assoc]
theorem HpQ.oC_some {w : World} {b N : Nat} {L : List Ob} {q : HQ} (h : HpQ w b N L q) : ∃ bb off, q.oC = some ⟨bb, off, none⟩ := h.rC.1 (by rw [flat_length encW_len, h.rep.cl]; have := h.rep.n2; omega)
theorem cell_head {w : World} {b N : Nat} {L : List Ob} {q : HQ} (h : HpQ w b N L q) {i : Nat} (hi : i < N) : (flat encP q.hs)[i * 2 + 0]? = some (.int .i64 (hdA L i).1) ∧ (flat encP q.hs)[i * 2 + 1]? = some (.int .i64 (hdA L i).2) :=
  ⟨encP0 (h.rep.hd i hi), encP1 (h.rep.hd i hi)⟩
set_option maxRecDepth 10000 attribute [local irreducible] Code.wp wpList Calls Ex Op1 sat bat blk cb own Go.Fw.mp Go.Fw.mpO Go.Fw.mpI Go.Fw.mpE Go.Fw.itr HS Rd Ret wkD Hp Cl Cls Exit.then Exit.inBlock Exit.noGoto bodyPost Go.Fw.flat wk2 Go.Fw.all Go.Fw.owns wpOp
attribute [local irreducible] hdA gaps isA

theorem is_spec (w0 : World) (b N : Nat) (L : List Ob) (z : Int) (hR : HpR w0 b N L) :
    Ret Try.prog 78 #[.pointer (some (bat b 0)), .int .i64 z] w0 (fun v w => v = .bool (isA L z) ∧ Kp w0 noM w) := by
  have hH : HS w0 noM [] w0 := HS.init w0 noM
  obtain ⟨q, hq⟩ := hR
  have hn2 := hq.rep.n2
  have hspH : Sp q.oH N := hq.rH.sp (sz := 2) (by rw [flat_length encP_len, hq.rep.hl]) (by omega)
  (refine enter (N := 27) Try.func78 rfl Try.ntmps78 rfl ?_; intro a hA; dsimp only [sl0, Nat.reduceAdd] at hA)
  by_cases hz : 0 ≤ z ∧ z < (N : Int)
  · obtain ⟨i, rfl⟩ : ∃ i : Nat, z = i := ⟨z.toNat, by omega⟩
    have his := hq.rep.is_ (i := i) (by omega)
    obtain ⟨hc1, hc2⟩ := cell_head hq (i := i) (by omega)
    repeat' (first | (first | (refine GT ?_ ?_ <;> intro hg <;> clear hA a <;> intro a hA <;> (first | exact FA | replace hg := of_decide_eq_true hg | replace hg := of_decide_eq_false hg | skip)) | ((first | apply st_ex hA hH rfl rfl (by decide) | apply dr_ex hA rfl rfl rfl (by decide) | apply dr_exp hA rfl rfl rfl (by decide) | apply dr_ex3 hA hH rfl rfl rfl (by decide)); (first | (apply ex_load; rfl; exact cl_w hq.c1 id) | (apply ex_load; rfl; exact cl_rd hq.rH id hc1)); clear hA a; intro a hA) | (refine QT0 ?_; clear hA a; intro a hA) | (first | (refine BT ?_; clear hA hH; rintro _ w ⟨bN, rfl, hH⟩ a hA) | (refine LT ?_; clear hA hH; rintro _ w ⟨oN, rfl, hH⟩ a hA) | (refine AT ?_; clear hA; rintro _ w ⟨oN, cN, rfl, hH2⟩ a hA; clear hH; have hH := (hH2 _ (by (repeat constructor))).tail; clear hH2) | (refine S0T ?_; clear hH; rintro _ w hH) )) | ((first | refine CT ?_ | (refine DT ?_ ?_ <;> intro hc <;> try (exfalso; omega))) <;> repeat' refine CT ?_) | (first | (refine DSK ?_; clear hA a; intro a hA) | (first | (refine DLT ?_; clear hA hH; rintro _ w ⟨oN, rfl, hH⟩; refine ⟨STT, ?_⟩; intro a hA) | (refine DAT ?_; clear hA; rintro _ w ⟨oN, cN, rfl, hH2⟩; clear hH; have hH := (hH2 _ (by (repeat constructor))).tail; clear hH2; refine ⟨STT, ?_⟩; intro a hA))) )
    · exact rt1 (.inl rfl) rfl hA rfl ⟨by rw [his], hH.kp⟩
    · exact rt1 (.inl rfl) rfl hA rfl ⟨by rw [hq.rep.out (by omega)], hH.kp⟩
  · have hout := hq.rep.out (z := z) (by omega)
    repeat' (first | (first | (refine GT ?_ ?_ <;> intro hg <;> clear hA a <;> intro a hA <;> (first | exact FA | replace hg := of_decide_eq_true hg | replace hg := of_decide_eq_false hg | skip)) | ((first | apply st_ex hA hH rfl rfl (by decide) | apply dr_ex hA rfl rfl rfl (by decide) | apply dr_exp hA rfl rfl rfl (by decide) | apply dr_ex3 hA hH rfl rfl rfl (by decide)); (first | (apply ex_load; rfl; exact cl_w hq.c1 id)); clear hA a; intro a hA) | (refine QT0 ?_; clear hA a; intro a hA) | (first | (refine BT ?_; clear hA hH; rintro _ w ⟨bN, rfl, hH⟩ a hA) | (refine LT ?_; clear hA hH; rintro _ w ⟨oN, rfl, hH⟩ a hA) | (refine AT ?_; clear hA; rintro _ w ⟨oN, cN, rfl, hH2⟩ a hA; clear hH; have hH := (hH2 _ (by (repeat constructor))).tail; clear hH2) | (refine S0T ?_; clear hH; rintro _ w hH) )) | ((first | refine CT ?_ | (refine DT ?_ ?_ <;> intro hc <;> try (exfalso; omega))) <;> repeat' refine CT ?_) | (first | (refine DSK ?_; clear hA a; intro a hA) | (first | (refine DLT ?_; clear hA hH; rintro _ w ⟨oN, rfl, hH⟩; refine ⟨STT, ?_⟩; intro a hA) | (refine DAT ?_; clear hA; rintro _ w ⟨oN, cN, rfl, hH2⟩; clear hH; have hH := (hH2 _ (by (repeat constructor))).tail; clear hH2; refine ⟨STT, ?_⟩; intro a hA))) )
    all_goals exact rt1 (.inl rfl) rfl hA rfl ⟨by rw [hout]; try (first | rfl | (congr 1; (first | (rw [decide_eq_decide]; omega) | (rw [eq_comm, decide_eq_true_iff]; omega) | (rw [eq_comm, decide_eq_false_iff_not]; omega) | (rw [decide_eq_true_iff]; omega) | (rw [decide_eq_false_iff_not]; omega)))), hH.kp⟩

theorem words_spec (w0 : World) (b N : Nat) (L : List Ob) (hR : HpR w0 b N L) :
    Ret Try.prog 69 #[.pointer (some (bat b 0))] w0 (fun v w => v = .int .i64 N ∧ Kp w0 noM w) := by
  have hH : HS w0 noM [] w0 := HS.init w0 noM
  obtain ⟨q, hq⟩ := hR
  (refine enter (N := 8) Try.func69 rfl Try.ntmps69 rfl ?_; intro a hA; dsimp only [sl0, Nat.reduceAdd] at hA)
  repeat' (first | (first | (refine GT ?_ ?_ <;> intro hg <;> clear hA a <;> intro a hA <;> (first | exact FA | replace hg := of_decide_eq_true hg | replace hg := of_decide_eq_false hg | skip)) | ((first | apply st_ex hA hH rfl rfl (by decide) | apply dr_ex hA rfl rfl rfl (by decide) | apply dr_exp hA rfl rfl rfl (by decide) | apply dr_ex3 hA hH rfl rfl rfl (by decide)); (first | (apply ex_load; rfl; exact cl_w hq.c0 id)); clear hA a; intro a hA) | (refine QT0 ?_; clear hA a; intro a hA) | (first | (refine BT ?_; clear hA hH; rintro _ w ⟨bN, rfl, hH⟩ a hA) | (refine LT ?_; clear hA hH; rintro _ w ⟨oN, rfl, hH⟩ a hA) | (refine AT ?_; clear hA; rintro _ w ⟨oN, cN, rfl, hH2⟩ a hA; clear hH; have hH := (hH2 _ (by (repeat constructor))).tail; clear hH2) | (refine S0T ?_; clear hH; rintro _ w hH) )) | ((first | refine CT ?_ | (refine DT ?_ ?_ <;> intro hc <;> try (exfalso; omega))) <;> repeat' refine CT ?_) | (first | (refine DSK ?_; clear hA a; intro a hA) | (first | (refine DLT ?_; clear hA hH; rintro _ w ⟨oN, rfl, hH⟩; refine ⟨STT, ?_⟩; intro a hA) | (refine DAT ?_; clear hA; rintro _ w ⟨oN, cN, rfl, hH2⟩; clear hH; have hH := (hH2 _ (by (repeat constructor))).tail; clear hH2; refine ⟨STT, ?_⟩; intro a hA))) )
  exact rt1 (.inl rfl) rfl hA rfl ⟨rfl, hH.kp⟩

theorem kind_spec (w0 : World) (b N : Nat) (L : List Ob) (z : Int) (hR : HpR w0 b N L) :
    Ret Try.prog 67 #[.pointer (some (bat b 0)), .int .i64 z] w0 (fun v w => v = (if isA L z then .tuple #[.int .i64 (hdA L z.toNat).1, .int .i64 0] else .tuple #[.int .i64 0, .int .i64 7]) ∧ Kp w0 noM w) := by
  have hH : HS w0 noM [] w0 := HS.init w0 noM
  obtain ⟨q, hq⟩ := hR
  have hn2 := hq.rep.n2
  have hspH : Sp q.oH N := hq.rH.sp (sz := 2) (by rw [flat_length encP_len, hq.rep.hl]) (by omega)
  (refine enter (N := 18) Try.func67 rfl Try.ntmps67 rfl ?_; intro a hA; dsimp only [sl0, Nat.reduceAdd] at hA)
  repeat' (first | (first | (refine GT ?_ ?_ <;> intro hg <;> clear hA a <;> intro a hA <;> (first | exact FA | replace hg := of_decide_eq_true hg | replace hg := of_decide_eq_false hg | skip)) | (refine QT0 ?_; clear hA a; intro a hA) | (first | (refine BT ?_; clear hA hH; rintro _ w ⟨bN, rfl, hH⟩ a hA) | (refine LT ?_; clear hA hH; rintro _ w ⟨oN, rfl, hH⟩ a hA) | (refine AT ?_; clear hA; rintro _ w ⟨oN, cN, rfl, hH2⟩ a hA; clear hH; have hH := (hH2 _ (by (repeat constructor))).tail; clear hH2) | (refine S0T ?_; clear hH; rintro _ w hH) )) | ((first | refine CT ?_ | (refine DT ?_ ?_ <;> intro hc <;> try (exfalso; omega))) <;> repeat' refine CT ?_) | (first | (refine DSK ?_; clear hA a; intro a hA) | (first | (refine DLT ?_; clear hA hH; rintro _ w ⟨oN, rfl, hH⟩; refine ⟨STT, ?_⟩; intro a hA) | (refine DAT ?_; clear hA; rintro _ w ⟨oN, cN, rfl, hH2⟩; clear hH; have hH := (hH2 _ (by (repeat constructor))).tail; clear hH2; refine ⟨STT, ?_⟩; intro a hA))) )
  (refine st_op hA rfl rfl (by decide) (op_call rfl rfl rfl (is_spec _ b N L z ⟨q, hq⟩)) ?_; clear hA; rintro _ w ⟨rfl, hk⟩ a hA)
  replace hH := hH.keep hk
  cases hi : isA L z with
  | false =>
    rw [hi] at hA
    repeat' (first | (first | (refine GT ?_ ?_ <;> intro hg <;> clear hA a <;> intro a hA <;> (first | exact FA | replace hg := of_decide_eq_true hg | replace hg := of_decide_eq_false hg | skip)) | (refine QT0 ?_; clear hA a; intro a hA) | (first | (refine BT ?_; clear hA hH; rintro _ w ⟨bN, rfl, hH⟩ a hA) | (refine LT ?_; clear hA hH; rintro _ w ⟨oN, rfl, hH⟩ a hA) | (refine AT ?_; clear hA; rintro _ w ⟨oN, cN, rfl, hH2⟩ a hA; clear hH; have hH := (hH2 _ (by (repeat constructor))).tail; clear hH2) | (refine S0T ?_; clear hH; rintro _ w hH) )) | ((first | refine CT ?_ | (refine DT ?_ ?_ <;> intro hc <;> try (exfalso; omega))) <;> repeat' refine CT ?_) | (first | (refine DSK ?_; clear hA a; intro a hA) | (first | (refine DLT ?_; clear hA hH; rintro _ w ⟨oN, rfl, hH⟩; refine ⟨STT, ?_⟩; intro a hA) | (refine DAT ?_; clear hA; rintro _ w ⟨oN, cN, rfl, hH2⟩; clear hH; have hH := (hH2 _ (by (repeat constructor))).tail; clear hH2; refine ⟨STT, ?_⟩; intro a hA))) )
    exact rt2 (.inl rfl) rfl hA rfl rfl ⟨rfl, hH.kp⟩
  | true =>
    obtain ⟨i, rfl, hiN⟩ : ∃ i : Nat, z = i ∧ i < N := by
      have h1 := hq.rep.out (z := z)
      refine ⟨z.toNat, ?_, ?_⟩ <;>
      · rcases (by omega : (z ≤ 0 ∨ (N : Int) ≤ z) ∨ (0 < z ∧ z < (N : Int))) with h | h
        · rw [h1 h] at hi; cases hi
        · omega
    obtain ⟨hc1, hc2⟩ := cell_head hq hiN
    rw [hi] at hA
    repeat' (first | (first | (refine GT ?_ ?_ <;> intro hg <;> clear hA a <;> intro a hA <;> (first | exact FA | replace hg := of_decide_eq_true hg | replace hg := of_decide_eq_false hg | skip)) | ((first | apply st_ex hA hH rfl rfl (by decide) | apply dr_ex hA rfl rfl rfl (by decide) | apply dr_exp hA rfl rfl rfl (by decide) | apply dr_ex3 hA hH rfl rfl rfl (by decide)); (first | (apply ex_load; rfl; exact cl_w hq.c1 id) | (apply ex_load; rfl; exact cl_rd hq.rH id hc1)); clear hA a; intro a hA) | (refine QT0 ?_; clear hA a; intro a hA) | (first | (refine BT ?_; clear hA hH; rintro _ w ⟨bN, rfl, hH⟩ a hA) | (refine LT ?_; clear hA hH; rintro _ w ⟨oN, rfl, hH⟩ a hA) | (refine AT ?_; clear hA; rintro _ w ⟨oN, cN, rfl, hH2⟩ a hA; clear hH; have hH := (hH2 _ (by (repeat constructor))).tail; clear hH2) | (refine S0T ?_; clear hH; rintro _ w hH) )) | ((first | refine CT ?_ | (refine DT ?_ ?_ <;> intro hc <;> try (exfalso; omega))) <;> repeat' refine CT ?_) | (first | (refine DSK ?_; clear hA a; intro a hA) | (first | (refine DLT ?_; clear hA hH; rintro _ w ⟨oN, rfl, hH⟩; refine ⟨STT, ?_⟩; intro a hA) | (refine DAT ?_; clear hA; rintro _ w ⟨oN, cN, rfl, hH2⟩; clear hH; have hH := (hH2 _ (by (repeat constructor))).tail; clear hH2; refine ⟨STT, ?_⟩; intro a hA))) )
    exact rt2 (.inl rfl) rfl hA rfl rfl ⟨by simp, hH.kp⟩

theorem size_spec (w0 : World) (b N : Nat) (L : List Ob) (z : Int) (hR : HpR w0 b N L) :
    Ret Try.prog 68 #[.pointer (some (bat b 0)), .int .i64 z] w0 (fun v w => v = (if isA L z then .tuple #[.int .i64 (hdA L z.toNat).2, .int .i64 0] else .tuple #[.int .i64 0, .int .i64 7]) ∧ Kp w0 noM w) := by
  have hH : HS w0 noM [] w0 := HS.init w0 noM
  obtain ⟨q, hq⟩ := hR
  have hn2 := hq.rep.n2
  have hspH : Sp q.oH N := hq.rH.sp (sz := 2) (by rw [flat_length encP_len, hq.rep.hl]) (by omega)
  (refine enter (N := 18) Try.func68 rfl Try.ntmps68 rfl ?_; intro a hA; dsimp only [sl0, Nat.reduceAdd] at hA)
  repeat' (first | (first | (refine GT ?_ ?_ <;> intro hg <;> clear hA a <;> intro a hA <;> (first | exact FA | replace hg := of_decide_eq_true hg | replace hg := of_decide_eq_false hg | skip)) | (refine QT0 ?_; clear hA a; intro a hA) | (first | (refine BT ?_; clear hA hH; rintro _ w ⟨bN, rfl, hH⟩ a hA) | (refine LT ?_; clear hA hH; rintro _ w ⟨oN, rfl, hH⟩ a hA) | (refine AT ?_; clear hA; rintro _ w ⟨oN, cN, rfl, hH2⟩ a hA; clear hH; have hH := (hH2 _ (by (repeat constructor))).tail; clear hH2) | (refine S0T ?_; clear hH; rintro _ w hH) )) | ((first | refine CT ?_ | (refine DT ?_ ?_ <;> intro hc <;> try (exfalso; omega))) <;> repeat' refine CT ?_) | (first | (refine DSK ?_; clear hA a; intro a hA) | (first | (refine DLT ?_; clear hA hH; rintro _ w ⟨oN, rfl, hH⟩; refine ⟨STT, ?_⟩; intro a hA) | (refine DAT ?_; clear hA; rintro _ w ⟨oN, cN, rfl, hH2⟩; clear hH; have hH := (hH2 _ (by (repeat constructor))).tail; clear hH2; refine ⟨STT, ?_⟩; intro a hA))) )
  (refine st_op hA rfl rfl (by decide) (op_call rfl rfl rfl (is_spec _ b N L z ⟨q, hq⟩)) ?_; clear hA; rintro _ w ⟨rfl, hk⟩ a hA)
  replace hH := hH.keep hk
  cases hi : isA L z with
  | false =>
    rw [hi] at hA
    repeat' (first | (first | (refine GT ?_ ?_ <;> intro hg <;> clear hA a <;> intro a hA <;> (first | exact FA | replace hg := of_decide_eq_true hg | replace hg := of_decide_eq_false hg | skip)) | (refine QT0 ?_; clear hA a; intro a hA) | (first | (refine BT ?_; clear hA hH; rintro _ w ⟨bN, rfl, hH⟩ a hA) | (refine LT ?_; clear hA hH; rintro _ w ⟨oN, rfl, hH⟩ a hA) | (refine AT ?_; clear hA; rintro _ w ⟨oN, cN, rfl, hH2⟩ a hA; clear hH; have hH := (hH2 _ (by (repeat constructor))).tail; clear hH2) | (refine S0T ?_; clear hH; rintro _ w hH) )) | ((first | refine CT ?_ | (refine DT ?_ ?_ <;> intro hc <;> try (exfalso; omega))) <;> repeat' refine CT ?_) | (first | (refine DSK ?_; clear hA a; intro a hA) | (first | (refine DLT ?_; clear hA hH; rintro _ w ⟨oN, rfl, hH⟩; refine ⟨STT, ?_⟩; intro a hA) | (refine DAT ?_; clear hA; rintro _ w ⟨oN, cN, rfl, hH2⟩; clear hH; have hH := (hH2 _ (by (repeat constructor))).tail; clear hH2; refine ⟨STT, ?_⟩; intro a hA))) )
    exact rt2 (.inl rfl) rfl hA rfl rfl ⟨rfl, hH.kp⟩
  | true =>
    obtain ⟨i, rfl, hiN⟩ : ∃ i : Nat, z = i ∧ i < N := by
      have h1 := hq.rep.out (z := z)
      refine ⟨z.toNat, ?_, ?_⟩ <;>
      · rcases (by omega : (z ≤ 0 ∨ (N : Int) ≤ z) ∨ (0 < z ∧ z < (N : Int))) with h | h
        · rw [h1 h] at hi; cases hi
        · omega
    obtain ⟨hc1, hc2⟩ := cell_head hq hiN
    rw [hi] at hA
    repeat' (first | (first | (refine GT ?_ ?_ <;> intro hg <;> clear hA a <;> intro a hA <;> (first | exact FA | replace hg := of_decide_eq_true hg | replace hg := of_decide_eq_false hg | skip)) | ((first | apply st_ex hA hH rfl rfl (by decide) | apply dr_ex hA rfl rfl rfl (by decide) | apply dr_exp hA rfl rfl rfl (by decide) | apply dr_ex3 hA hH rfl rfl rfl (by decide)); (first | (apply ex_load; rfl; exact cl_w hq.c1 id) | (apply ex_load; rfl; exact cl_rd hq.rH id hc2)); clear hA a; intro a hA) | (refine QT0 ?_; clear hA a; intro a hA) | (first | (refine BT ?_; clear hA hH; rintro _ w ⟨bN, rfl, hH⟩ a hA) | (refine LT ?_; clear hA hH; rintro _ w ⟨oN, rfl, hH⟩ a hA) | (refine AT ?_; clear hA; rintro _ w ⟨oN, cN, rfl, hH2⟩ a hA; clear hH; have hH := (hH2 _ (by (repeat constructor))).tail; clear hH2) | (refine S0T ?_; clear hH; rintro _ w hH) )) | ((first | refine CT ?_ | (refine DT ?_ ?_ <;> intro hc <;> try (exfalso; omega))) <;> repeat' refine CT ?_) | (first | (refine DSK ?_; clear hA a; intro a hA) | (first | (refine DLT ?_; clear hA hH; rintro _ w ⟨oN, rfl, hH⟩; refine ⟨STT, ?_⟩; intro a hA) | (refine DAT ?_; clear hA; rintro _ w ⟨oN, cN, rfl, hH2⟩; clear hH; have hH := (hH2 _ (by (repeat constructor))).tail; clear hH2; refine ⟨STT, ?_⟩; intro a hA))) )
    exact rt2 (.inl rfl) rfl hA rfl rfl ⟨by simp, hH.kp⟩

/-- an object's fields, as a part of the cells -/
theorem fields_spec (w0 : World) (b N : Nat) (L : List Ob) (q : HQ) (o : Ob) (hq : HpQ w0 b N L q) (ho : o ∈ L) :
    Ret Try.prog 79 #[.pointer (some (bat b 0)), .int .i64 (o.a : Int)] w0 (fun v w => v = .slice (subO q.oC o.fin (o.a + 1) 1) o.fs.length o.fs.length ∧ Kp w0 noM w) := by
  have hH : HS w0 noM [] w0 := HS.init w0 noM
  have hn2 := hq.rep.n2
  have hspH : Sp q.oH N := hq.rH.sp (sz := 2) (by rw [flat_length encP_len, hq.rep.hl]) (by omega)
  have hm := hq.rep.lay.mem o ho
  have hfin : o.fin = o.a + 1 + o.fs.length := rfl
  have hoN : o.a < N := by omega
  obtain ⟨hc1, hc2⟩ := cell_head hq hoN
  have hd2 : (hdA L o.a).2 = (o.fs.length : Int) := by unfold hdA; rw [findA_mem hq.rep.lay ho]
  rw [hd2] at hc2
  have hnC := hq.nC
  have hk := (hq.rep.kd o ho).2
  (refine enter (N := 26) Try.func79 rfl Try.ntmps79 rfl ?_; intro a hA; dsimp only [sl0, Nat.reduceAdd] at hA)
  repeat' (first | (first | (refine GT ?_ ?_ <;> intro hg <;> clear hA a <;> intro a hA <;> (first | exact FA | replace hg := of_decide_eq_true hg | replace hg := of_decide_eq_false hg | skip)) | ((first | apply st_ex hA hH rfl rfl (by decide) | apply dr_ex hA rfl rfl rfl (by decide) | apply dr_exp hA rfl rfl rfl (by decide) | apply dr_ex3 hA hH rfl rfl rfl (by decide)); (first | (apply ex_load; rfl; exact cl_w hq.c1 id) | (apply ex_load; rfl; exact cl_w hq.c0 id) | (apply ex_load; rfl; exact cl_rd hq.rH id hc2) | (apply ex_slice_3 (i := o.a + 1) (j := o.fin) (k := o.fin); rfl; rfl; rfl; rfl; omega; omega; omega; omega; omega; omega)); clear hA a; intro a hA) | (refine QT0 ?_; clear hA a; intro a hA) | (first | (refine BT ?_; clear hA hH; rintro _ w ⟨bN, rfl, hH⟩ a hA) | (refine LT ?_; clear hA hH; rintro _ w ⟨oN, rfl, hH⟩ a hA) | (refine AT ?_; clear hA; rintro _ w ⟨oN, cN, rfl, hH2⟩ a hA; clear hH; have hH := (hH2 _ (by (repeat constructor))).tail; clear hH2) | (refine S0T ?_; clear hH; rintro _ w hH) )) | ((first | refine CT ?_ | (refine DT ?_ ?_ <;> intro hc <;> try (exfalso; omega))) <;> repeat' refine CT ?_) | (first | (refine DSK ?_; clear hA a; intro a hA) | (first | (refine DLT ?_; clear hA hH; rintro _ w ⟨oN, rfl, hH⟩; refine ⟨STT, ?_⟩; intro a hA) | (refine DAT ?_; clear hA; rintro _ w ⟨oN, cN, rfl, hH2⟩; clear hH; have hH := (hH2 _ (by (repeat constructor))).tail; clear hH2; refine ⟨STT, ?_⟩; intro a hA))) )
  rw [show o.fin - (o.a + 1) = o.fs.length by omega] at hA
  exact rt1 (.inl rfl) rfl hA rfl ⟨rfl, hH.kp⟩

theorem get_spec (w0 : World) (b N : Nat) (L : List Ob) (z i : Int) (hR : HpR w0 b N L) :
    Ret Try.prog 54 #[.pointer (some (bat b 0)), .int .i64 z, .int .i64 i] w0 (fun v w => v = .tuple #[.int .u64 (getA L z i).1, .int .i64 (getA L z i).2] ∧ Kp w0 noM w) := by
  have hH : HS w0 noM [] w0 := HS.init w0 noM
  obtain ⟨q, hq⟩ := hR
  have hn2 := hq.rep.n2
  have hspH : Sp q.oH N := hq.rH.sp (sz := 2) (by rw [flat_length encP_len, hq.rep.hl]) (by omega)
  (refine enter (N := 34) Try.func54 rfl Try.ntmps54 rfl ?_; intro a hA; dsimp only [sl0, Nat.reduceAdd] at hA)
  repeat' (first | (first | (refine GT ?_ ?_ <;> intro hg <;> clear hA a <;> intro a hA <;> (first | exact FA | replace hg := of_decide_eq_true hg | replace hg := of_decide_eq_false hg | skip)) | (refine QT0 ?_; clear hA a; intro a hA) | (first | (refine BT ?_; clear hA hH; rintro _ w ⟨bN, rfl, hH⟩ a hA) | (refine LT ?_; clear hA hH; rintro _ w ⟨oN, rfl, hH⟩ a hA) | (refine AT ?_; clear hA; rintro _ w ⟨oN, cN, rfl, hH2⟩ a hA; clear hH; have hH := (hH2 _ (by (repeat constructor))).tail; clear hH2) | (refine S0T ?_; clear hH; rintro _ w hH) )) | ((first | refine CT ?_ | (refine DT ?_ ?_ <;> intro hc <;> try (exfalso; omega))) <;> repeat' refine CT ?_) | (first | (refine DSK ?_; clear hA a; intro a hA) | (first | (refine DLT ?_; clear hA hH; rintro _ w ⟨oN, rfl, hH⟩; refine ⟨STT, ?_⟩; intro a hA) | (refine DAT ?_; clear hA; rintro _ w ⟨oN, cN, rfl, hH2⟩; clear hH; have hH := (hH2 _ (by (repeat constructor))).tail; clear hH2; refine ⟨STT, ?_⟩; intro a hA))) )
  (refine st_op hA rfl rfl (by decide) (op_call rfl rfl rfl (is_spec _ b N L z ⟨q, hq⟩)) ?_; clear hA; rintro _ w ⟨rfl, hk⟩ a hA)
  replace hH := hH.keep hk
  clear hk
  cases ho : objA L z with
  | none =>
    rw [objA_none ho] at hA
    repeat' (first | (first | (refine GT ?_ ?_ <;> intro hg <;> clear hA a <;> intro a hA <;> (first | exact FA | replace hg := of_decide_eq_true hg | replace hg := of_decide_eq_false hg | skip)) | (refine QT0 ?_; clear hA a; intro a hA) | (first | (refine BT ?_; clear hA hH; rintro _ w ⟨bN, rfl, hH⟩ a hA) | (refine LT ?_; clear hA hH; rintro _ w ⟨oN, rfl, hH⟩ a hA) | (refine AT ?_; clear hA; rintro _ w ⟨oN, cN, rfl, hH2⟩ a hA; clear hH; have hH := (hH2 _ (by (repeat constructor))).tail; clear hH2) | (refine S0T ?_; clear hH; rintro _ w hH) )) | ((first | refine CT ?_ | (refine DT ?_ ?_ <;> intro hc <;> try (exfalso; omega))) <;> repeat' refine CT ?_) | (first | (refine DSK ?_; clear hA a; intro a hA) | (first | (refine DLT ?_; clear hA hH; rintro _ w ⟨oN, rfl, hH⟩; refine ⟨STT, ?_⟩; intro a hA) | (refine DAT ?_; clear hA; rintro _ w ⟨oN, cN, rfl, hH2⟩; clear hH; have hH := (hH2 _ (by (repeat constructor))).tail; clear hH2; refine ⟨STT, ?_⟩; intro a hA))) )
    exact rt2 (.inl rfl) rfl hA rfl rfl ⟨by simp [getA, ho], hH.kp⟩
  | some x =>
  obtain ⟨hx, hxz⟩ := objA_some ho
  rw [objA_is ho] at hA
  subst hxz
  have hm := hq.rep.lay.mem x hx
  have hfin : x.fin = x.a + 1 + x.fs.length := rfl
  have hxN : x.a < N := by omega
  obtain ⟨hc1, hc2⟩ := cell_head hq hxN
  have hd2 : (hdA L x.a).2 = (x.fs.length : Int) := by unfold hdA; rw [findA_mem hq.rep.lay hx]
  rw [hd2] at hc2
  have hkd := (hq.rep.kd x hx).2
  by_cases hir : 0 ≤ i ∧ i < (x.fs.length : Int)
  rotate_left
  · have hgA : getA L (x.a : Int) i = (0, 2) := by simp only [getA, ho]; rw [if_neg hir]
    repeat' (first | (first | (refine GT ?_ ?_ <;> intro hg <;> clear hA a <;> intro a hA <;> (first | exact FA | replace hg := of_decide_eq_true hg | replace hg := of_decide_eq_false hg | skip)) | ((first | apply st_ex hA hH rfl rfl (by decide) | apply dr_ex hA rfl rfl rfl (by decide) | apply dr_exp hA rfl rfl rfl (by decide) | apply dr_ex3 hA hH rfl rfl rfl (by decide)); (first | (apply ex_load; rfl; exact cl_w hq.c1 id) | (apply ex_load; rfl; exact cl_rd hq.rH id hc2)); clear hA a; intro a hA) | (refine QT0 ?_; clear hA a; intro a hA) | (first | (refine BT ?_; clear hA hH; rintro _ w ⟨bN, rfl, hH⟩ a hA) | (refine LT ?_; clear hA hH; rintro _ w ⟨oN, rfl, hH⟩ a hA) | (refine AT ?_; clear hA; rintro _ w ⟨oN, cN, rfl, hH2⟩ a hA; clear hH; have hH := (hH2 _ (by (repeat constructor))).tail; clear hH2) | (refine S0T ?_; clear hH; rintro _ w hH) )) | ((first | refine CT ?_ | (refine DT ?_ ?_ <;> intro hc <;> try (exfalso; omega))) <;> repeat' refine CT ?_) | (first | (refine DSK ?_; clear hA a; intro a hA) | (first | (refine DLT ?_; clear hA hH; rintro _ w ⟨oN, rfl, hH⟩; refine ⟨STT, ?_⟩; intro a hA) | (refine DAT ?_; clear hA; rintro _ w ⟨oN, cN, rfl, hH2⟩; clear hH; have hH := (hH2 _ (by (repeat constructor))).tail; clear hH2; refine ⟨STT, ?_⟩; intro a hA))) )
    all_goals exact rt2 (.inl rfl) rfl hA rfl rfl ⟨by rw [hgA], hH.kp⟩
  obtain ⟨j, rfl⟩ : ∃ j : Nat, i = j := ⟨i.toNat, by omega⟩
  obtain ⟨y, hy⟩ : ∃ y, x.fs[j]? = some y := ⟨_, List.getElem?_eq_getElem (by omega)⟩
  have hgA : getA L (x.a : Int) j = (y, 0) := by simp only [getA, ho]; rw [if_pos hir]; simp [List.getD, hy]
  have hcy := hq.rep.fd x hx j y hy
  obtain ⟨bb, off, hoC⟩ := hq.oC_some
  have hcW : (flat encW q.cs)[x.a + 1 + j * 1]? = some (.int .u64 y) := by
    have := flat_get0 encW_len (v := .int .u64 y) hcy rfl
    rw [Nat.mul_one] at this
    rw [Nat.mul_one]
    exact this
  have hsat : sat (subO q.oC x.fin (x.a + 1) 1) (j * 1) = sat q.oC (x.a + 1 + j * 1) := sat_sub hoC (by omega)
  have hspF : Sp (subO q.oC x.fin (x.a + 1) 1) x.fs.length := fun _ => by
    rw [hoC]
    unfold subO
    rw [if_neg (by omega)]
    simp only [Option.map_some, Addr.add]
    split
    · exact ⟨bb, off, rfl⟩
    · exact ⟨bb, _, rfl⟩
  repeat' (first | (first | (refine GT ?_ ?_ <;> intro hg <;> clear hA a <;> intro a hA <;> (first | exact FA | replace hg := of_decide_eq_true hg | replace hg := of_decide_eq_false hg | skip)) | ((first | apply st_ex hA hH rfl rfl (by decide) | apply dr_ex hA rfl rfl rfl (by decide) | apply dr_exp hA rfl rfl rfl (by decide) | apply dr_ex3 hA hH rfl rfl rfl (by decide)); (first | (apply ex_load; rfl; exact cl_w hq.c1 id) | (apply ex_load; rfl; exact cl_rd hq.rH id hc2)); clear hA a; intro a hA) | (refine QT0 ?_; clear hA a; intro a hA) | (first | (refine BT ?_; clear hA hH; rintro _ w ⟨bN, rfl, hH⟩ a hA) | (refine LT ?_; clear hA hH; rintro _ w ⟨oN, rfl, hH⟩ a hA) | (refine AT ?_; clear hA; rintro _ w ⟨oN, cN, rfl, hH2⟩ a hA; clear hH; have hH := (hH2 _ (by (repeat constructor))).tail; clear hH2) | (refine S0T ?_; clear hH; rintro _ w hH) )) | ((first | refine CT ?_ | (refine DT ?_ ?_ <;> intro hc <;> try (exfalso; omega))) <;> repeat' refine CT ?_) | (first | (refine DSK ?_; clear hA a; intro a hA) | (first | (refine DLT ?_; clear hA hH; rintro _ w ⟨oN, rfl, hH⟩; refine ⟨STT, ?_⟩; intro a hA) | (refine DAT ?_; clear hA; rintro _ w ⟨oN, cN, rfl, hH2⟩; clear hH; have hH := (hH2 _ (by (repeat constructor))).tail; clear hH2; refine ⟨STT, ?_⟩; intro a hA))) )
  (refine st_op hA rfl rfl (by decide) (op_call rfl rfl rfl (fields_spec _ b N L q x (hq.keep hH.kp) hx)) ?_; clear hA; rintro _ w ⟨rfl, hk⟩ a hA)
  replace hH := hH.keep hk
  repeat' (first | (first | (refine GT ?_ ?_ <;> intro hg <;> clear hA a <;> intro a hA <;> (first | exact FA | replace hg := of_decide_eq_true hg | replace hg := of_decide_eq_false hg | skip)) | ((first | apply st_ex hA hH rfl rfl (by decide) | apply dr_ex hA rfl rfl rfl (by decide) | apply dr_exp hA rfl rfl rfl (by decide) | apply dr_ex3 hA hH rfl rfl rfl (by decide)); (first | (apply ex_load; rfl; rw [hsat]; exact cl_rd hq.rC id hcW)); clear hA a; intro a hA) | (refine QT0 ?_; clear hA a; intro a hA) | (first | (refine BT ?_; clear hA hH; rintro _ w ⟨bN, rfl, hH⟩ a hA) | (refine LT ?_; clear hA hH; rintro _ w ⟨oN, rfl, hH⟩ a hA) | (refine AT ?_; clear hA; rintro _ w ⟨oN, cN, rfl, hH2⟩ a hA; clear hH; have hH := (hH2 _ (by (repeat constructor))).tail; clear hH2) | (refine S0T ?_; clear hH; rintro _ w hH) )) | ((first | refine CT ?_ | (refine DT ?_ ?_ <;> intro hc <;> try (exfalso; omega))) <;> repeat' refine CT ?_) | (first | (refine DSK ?_; clear hA a; intro a hA) | (first | (refine DLT ?_; clear hA hH; rintro _ w ⟨oN, rfl, hH⟩; refine ⟨STT, ?_⟩; intro a hA) | (refine DAT ?_; clear hA; rintro _ w ⟨oN, cN, rfl, hH2⟩; clear hH; have hH := (hH2 _ (by (repeat constructor))).tail; clear hH2; refine ⟨STT, ?_⟩; intro a hA))) )
  exact rt2 (.inl rfl) rfl hA rfl rfl ⟨by rw [hgA], hH.kp⟩
end Go.Proofs.Ytdfhajdejlhamaa
namespace Go.Proofs.Ytdfhajdejlhamaa
open Go Go.Fw
set_option linter.unusedVariables false
set_option maxRecDepth 10000 attribute [local irreducible] Code.wp wpList Calls Ex Op1 sat bat blk cb own Go.Fw.mp Go.Fw.mpO Go.Fw.mpI Go.Fw.mpE Go.Fw.itr HS Rd Ret wkD Hp Cl Cls Exit.then Exit.inBlock Exit.noGoto bodyPost Go.Fw.flat wk2 Go.Fw.all Go.Fw.owns wpOp
attribute [local irreducible] hdA gaps isA roomA nextA

theorem next_spec (w0 : World) (b N : Nat) (L : List Ob) (z : Int) (hR : HpR w0 b N L) :
    Ret Try.prog 80 #[.pointer (some (bat b 0)), .int .i64 z] w0 (fun v w => v = .int .i64 (nextA L z) ∧ Kp w0 noM w) := by
  have hH : HS w0 noM [] w0 := HS.init w0 noM
  obtain ⟨q, hq⟩ := hR
  have hn2 := hq.rep.n2
  have hspH : Sp q.oH N := hq.rH.sp (sz := 2) (by rw [flat_length encP_len, hq.rep.hl]) (by omega)
  (refine enter (N := 27) Try.func80 rfl Try.ntmps80 rfl ?_; intro a hA; dsimp only [sl0, Nat.reduceAdd] at hA)
  repeat' (first | (first | (refine GT ?_ ?_ <;> intro hg <;> clear hA a <;> intro a hA <;> (first | exact FA | replace hg := of_decide_eq_true hg | replace hg := of_decide_eq_false hg | skip)) | ((first | apply st_ex hA hH rfl rfl (by decide) | apply dr_ex hA rfl rfl rfl (by decide) | apply dr_exp hA rfl rfl rfl (by decide) | apply dr_ex3 hA hH rfl rfl rfl (by decide)); (first | (apply ex_max; rfl; rfl)); clear hA a; intro a hA) | (refine QT0 ?_; clear hA a; intro a hA) | (first | (refine BT ?_; clear hA hH; rintro _ w ⟨bN, rfl, hH⟩ a hA) | (refine LT ?_; clear hA hH; rintro _ w ⟨oN, rfl, hH⟩ a hA) | (refine AT ?_; clear hA; rintro _ w ⟨oN, cN, rfl, hH2⟩ a hA; clear hH; have hH := (hH2 _ (by (repeat constructor))).tail; clear hH2) | (refine S0T ?_; clear hH; rintro _ w hH) )) | ((first | refine CT ?_ | (refine DT ?_ ?_ <;> intro hc <;> try (exfalso; omega))) <;> repeat' refine CT ?_) | (first | (refine DSK ?_; clear hA a; intro a hA) | (first | (refine DLT ?_; clear hA hH; rintro _ w ⟨oN, rfl, hH⟩; refine ⟨STT, ?_⟩; intro a hA) | (refine DAT ?_; clear hA; rintro _ w ⟨oN, cN, rfl, hH2⟩; clear hH; have hH := (hH2 _ (by (repeat constructor))).tail; clear hH2; refine ⟨STT, ?_⟩; intro a hA))) )
  by_cases hz : (N : Int) ≤ z
  · have e : (if (1 : Int) > z then (1 : Int) else z) = z := if_neg (by omega)
    rw [e] at hA
    have hnx : nextA L z = 0 := next_none fun o ho h => by
      have := (hq.rep.lay.mem o ho).2
      unfold Ob.fin at this
      omega
    refine wp_lp (S := Unit) (fun s a w => HS w0 noM [] w ∧ Sl 27 [(0, .pointer (some (bat b 0))), (5, .int .i64 z)] a) (fun _ => 0) () ⟨hH, (hA.sub (by (repeat (first | exact trivial | refine ⟨rfl, ?_⟩))))⟩ ?_
    clear hA hH
    rintro _ a w ⟨hH, hA⟩
    repeat' (first | (first | (refine GT ?_ ?_ <;> intro hg <;> clear hA a <;> intro a hA <;> (first | exact FA | replace hg := of_decide_eq_true hg | replace hg := of_decide_eq_false hg | skip)) | ((first | apply st_ex hA hH rfl rfl (by decide) | apply dr_ex hA rfl rfl rfl (by decide) | apply dr_exp hA rfl rfl rfl (by decide) | apply dr_ex3 hA hH rfl rfl rfl (by decide)); (first | (apply ex_load; rfl; exact cl_w hq.c1 id)); clear hA a; intro a hA) | (refine QT0 ?_; clear hA a; intro a hA) | (first | (refine BT ?_; clear hA hH; rintro _ w ⟨bN, rfl, hH⟩ a hA) | (refine LT ?_; clear hA hH; rintro _ w ⟨oN, rfl, hH⟩ a hA) | (refine AT ?_; clear hA; rintro _ w ⟨oN, cN, rfl, hH2⟩ a hA; clear hH; have hH := (hH2 _ (by (repeat constructor))).tail; clear hH2) | (refine S0T ?_; clear hH; rintro _ w hH) )) | ((first | refine CT ?_ | (refine DT ?_ ?_ <;> intro hc <;> try (exfalso; omega))) <;> repeat' refine CT ?_) | (first | (refine DSK ?_; clear hA a; intro a hA) | (first | (refine DLT ?_; clear hA hH; rintro _ w ⟨oN, rfl, hH⟩; refine ⟨STT, ?_⟩; intro a hA) | (refine DAT ?_; clear hA; rintro _ w ⟨oN, cN, rfl, hH2⟩; clear hH; have hH := (hH2 _ (by (repeat constructor))).tail; clear hH2; refine ⟨STT, ?_⟩; intro a hA))) )
    exact rt1 (.inl rfl) rfl hA rfl ⟨by rw [hnx], hH.kp⟩
  obtain ⟨i0, hi0, h01, h0z, h0N, h0m⟩ : ∃ i0 : Nat, (if (1 : Int) > z then (1 : Int) else z) = (i0 : Int) ∧ 1 ≤ i0 ∧ z ≤ (i0 : Int) ∧ i0 ≤ N ∧ (i0 = 1 ∨ (i0 : Int) = z) := by
    by_cases h1 : (1 : Int) > z
    · exact ⟨1, if_pos h1, by omega, by omega, by omega, .inl rfl⟩
    · exact ⟨z.toNat, by rw [if_neg h1]; omega, by omega, by omega, by omega, .inr (by omega)⟩
  rw [hi0] at hA
  refine wp_lp (S := Nat) (fun i a w => (i0 ≤ i ∧ i ≤ N ∧ ∀ k : Nat, i0 ≤ k → k < i → isA L (k : Int) = false) ∧ HS w0 noM [] w ∧ Sl 27 [(0, .pointer (some (bat b 0))), (5, .int .i64 i)] a)
    (fun i => N - i) i0 ⟨⟨Nat.le_refl _, h0N, fun k h h' => by omega⟩, hH, (hA.sub (by (repeat (first | exact trivial | refine ⟨rfl, ?_⟩))))⟩ ?_
  clear hA hH
  rintro i a w ⟨⟨hi1, hi2, hno⟩, hH, hA⟩
  have hno2 : ∀ k : Nat, z ≤ (k : Int) → k < i → isA L (k : Int) = false := fun k h h' => by
    rcases Nat.lt_or_ge k i0 with h3 | h3
    · exact hq.rep.out (by omega)
    · exact hno k h3 h'
  by_cases hlt : i < N
  · obtain ⟨hc1, hc2⟩ := cell_head hq hlt
    have his := hq.rep.is_ hlt
    repeat' (first | (first | (refine GT ?_ ?_ <;> intro hg <;> clear hA a <;> intro a hA <;> (first | exact FA | replace hg := of_decide_eq_true hg | replace hg := of_decide_eq_false hg | skip)) | ((first | apply st_ex hA hH rfl rfl (by decide) | apply dr_ex hA rfl rfl rfl (by decide) | apply dr_exp hA rfl rfl rfl (by decide) | apply dr_ex3 hA hH rfl rfl rfl (by decide)); (first | (apply ex_load; rfl; exact cl_w hq.c1 id) | (apply ex_load; rfl; exact cl_rd hq.rH id hc1)); clear hA a; intro a hA) | (refine QT0 ?_; clear hA a; intro a hA) | (first | (refine BT ?_; clear hA hH; rintro _ w ⟨bN, rfl, hH⟩ a hA) | (refine LT ?_; clear hA hH; rintro _ w ⟨oN, rfl, hH⟩ a hA) | (refine AT ?_; clear hA; rintro _ w ⟨oN, cN, rfl, hH2⟩ a hA; clear hH; have hH := (hH2 _ (by (repeat constructor))).tail; clear hH2) | (refine S0T ?_; clear hH; rintro _ w hH) )) | ((first | refine CT ?_ | (refine DT ?_ ?_ <;> intro hc <;> try (exfalso; omega))) <;> repeat' refine CT ?_) | (first | (refine DSK ?_; clear hA a; intro a hA) | (first | (refine DLT ?_; clear hA hH; rintro _ w ⟨oN, rfl, hH⟩; refine ⟨STT, ?_⟩; intro a hA) | (refine DAT ?_; clear hA; rintro _ w ⟨oN, cN, rfl, hH2⟩; clear hH; have hH := (hH2 _ (by (repeat constructor))).tail; clear hH2; refine ⟨STT, ?_⟩; intro a hA))) )
    · have hnx : nextA L z = i := next_at hq.rep.lay (by omega) (by rw [his]; exact decide_eq_true (by assumption)) hno2
      exact rt1 (.inl rfl) rfl hA rfl ⟨by rw [hnx], hH.kp⟩
    · refine ⟨i + 1, ⟨⟨by omega, hlt, fun k h h' => ?_⟩, hH, (hA.sub (by (repeat (first | exact trivial | refine ⟨rfl, ?_⟩))))⟩, by omega⟩
      rcases Nat.lt_or_ge k i with h3 | h3
      · exact hno k h h3
      · obtain rfl : k = i := by omega
        rw [his]
        exact decide_eq_false (by assumption)
  have hnx : nextA L z = 0 := next_none fun o ho h => by
    have h1 := (hq.rep.lay.mem o ho).2
    unfold Ob.fin at h1
    have := hno2 o.a h (by omega)
    rw [isA_iff.2 ⟨o, ho, rfl⟩] at this
    cases this
  repeat' (first | (first | (refine GT ?_ ?_ <;> intro hg <;> clear hA a <;> intro a hA <;> (first | exact FA | replace hg := of_decide_eq_true hg | replace hg := of_decide_eq_false hg | skip)) | ((first | apply st_ex hA hH rfl rfl (by decide) | apply dr_ex hA rfl rfl rfl (by decide) | apply dr_exp hA rfl rfl rfl (by decide) | apply dr_ex3 hA hH rfl rfl rfl (by decide)); (first | (apply ex_load; rfl; exact cl_w hq.c1 id)); clear hA a; intro a hA) | (refine QT0 ?_; clear hA a; intro a hA) | (first | (refine BT ?_; clear hA hH; rintro _ w ⟨bN, rfl, hH⟩ a hA) | (refine LT ?_; clear hA hH; rintro _ w ⟨oN, rfl, hH⟩ a hA) | (refine AT ?_; clear hA; rintro _ w ⟨oN, cN, rfl, hH2⟩ a hA; clear hH; have hH := (hH2 _ (by (repeat constructor))).tail; clear hH2) | (refine S0T ?_; clear hH; rintro _ w hH) )) | ((first | refine CT ?_ | (refine DT ?_ ?_ <;> intro hc <;> try (exfalso; omega))) <;> repeat' refine CT ?_) | (first | (refine DSK ?_; clear hA a; intro a hA) | (first | (refine DLT ?_; clear hA hH; rintro _ w ⟨oN, rfl, hH⟩; refine ⟨STT, ?_⟩; intro a hA) | (refine DAT ?_; clear hA; rintro _ w ⟨oN, cN, rfl, hH2⟩; clear hH; have hH := (hH2 _ (by (repeat constructor))).tail; clear hH2; refine ⟨STT, ?_⟩; intro a hA))) )
  exact rt1 (.inl rfl) rfl hA rfl ⟨by rw [hnx], hH.kp⟩

theorem room_spec (w0 : World) (b N : Nat) (L : List Ob) (hR : HpR w0 b N L) :
    Ret Try.prog 65 #[.pointer (some (bat b 0))] w0 (fun v w => v = .int .i64 (roomA (gaps N 1 L)) ∧ Kp w0 noM w) := by
  have hH : HS w0 noM [] w0 := HS.init w0 noM
  obtain ⟨q, hq⟩ := hR
  have hn2 := hq.rep.n2
  have hfl := hq.rep.frl
  have hpos : ∀ r ∈ gaps N 1 L, 0 < r.2 := fun r hr => (gaps_mem hq.rep.lay r hr).2.1
  have hpart := room_part hpos
  have hused := room_used hq.rep.lay
  have c2 := hq.c2
  have rF := hq.rF
  generalize gaps N 1 L = fr at *
  have hspF : Sp q.oF fr.length := rF.sp (sz := 2) (flat_length encP_len fr) (by omega)
  (refine enter (N := 21) Try.func65 rfl Try.ntmps65 rfl ?_; intro a hA; dsimp only [sl0, Nat.reduceAdd] at hA)
  repeat' (first | (first | (refine GT ?_ ?_ <;> intro hg <;> clear hA a <;> intro a hA <;> (first | exact FA | replace hg := of_decide_eq_true hg | replace hg := of_decide_eq_false hg | skip)) | ((first | apply st_ex hA hH rfl rfl (by decide) | apply dr_ex hA rfl rfl rfl (by decide) | apply dr_exp hA rfl rfl rfl (by decide) | apply dr_ex3 hA hH rfl rfl rfl (by decide)); (first | (apply ex_load; rfl; exact cl_w c2 id)); clear hA a; intro a hA) | (refine QT0 ?_; clear hA a; intro a hA) | (first | (refine BT ?_; clear hA hH; rintro _ w ⟨bN, rfl, hH⟩ a hA) | (refine LT ?_; clear hA hH; rintro _ w ⟨oN, rfl, hH⟩ a hA) | (refine AT ?_; clear hA; rintro _ w ⟨oN, cN, rfl, hH2⟩ a hA; clear hH; have hH := (hH2 _ (by (repeat constructor))).tail; clear hH2) | (refine S0T ?_; clear hH; rintro _ w hH) )) | ((first | refine CT ?_ | (refine DT ?_ ?_ <;> intro hc <;> try (exfalso; omega))) <;> repeat' refine CT ?_) | (first | (refine DSK ?_; clear hA a; intro a hA) | (first | (refine DLT ?_; clear hA hH; rintro _ w ⟨oN, rfl, hH⟩; refine ⟨STT, ?_⟩; intro a hA) | (refine DAT ?_; clear hA; rintro _ w ⟨oN, cN, rfl, hH2⟩; clear hH; have hH := (hH2 _ (by (repeat constructor))).tail; clear hH2; refine ⟨STT, ?_⟩; intro a hA))) )
  refine wp_lp (S := Nat) (fun i a w => i ≤ fr.length ∧ HS w0 noM [] w ∧ Sl 21 [(3, .int .i64 (roomA (fr.take i))), (9, .slice q.oF fr.length q.cF), (10, .int .i64 fr.length), (11, .int .i64 i)] a)
    (fun i => fr.length - i) 0 ⟨Nat.zero_le _, hH, (by rw [List.take_zero, show roomA [] = 0 by unfold roomA; rfl]; exact (hA.sub (by (repeat (first | exact trivial | refine ⟨rfl, ?_⟩)))))⟩ ?_
  clear hA hH
  rintro i a w ⟨hi, hH, hA⟩
  by_cases hlt : i < fr.length
  · obtain ⟨⟨ra, rn⟩, hx⟩ : ∃ x, fr[i]? = some x := ⟨_, List.getElem?_eq_getElem hlt⟩
    have hst : roomA (fr.take (i + 1)) = roomA (fr.take i) + rn := by rw [List.take_add_one, hx]; exact roomA_snoc _ _
    have h1 := hpart i
    have h2 := hpart (i + 1)
    rw [hst] at h2
    generalize roomA (fr.take i) = n at *
    repeat' (first | (first | (refine GT ?_ ?_ <;> intro hg <;> clear hA a <;> intro a hA <;> (first | exact FA | replace hg := of_decide_eq_true hg | replace hg := of_decide_eq_false hg | skip)) | ((first | apply st_ex hA hH rfl rfl (by decide) | apply dr_ex hA rfl rfl rfl (by decide) | apply dr_exp hA rfl rfl rfl (by decide) | apply dr_ex3 hA hH rfl rfl rfl (by decide)); (first | (apply ex_load_st (vs := [.int .i64 ra, .int .i64 rn]); rfl; rfl; exact cls_rd rF id (encPa hx))); clear hA a; intro a hA) | (refine QT0 ?_; clear hA a; intro a hA) | (first | (refine BT ?_; clear hA hH; rintro _ w ⟨bN, rfl, hH⟩ a hA) | (refine LT ?_; clear hA hH; rintro _ w ⟨oN, rfl, hH⟩ a hA) | (refine AT ?_; clear hA; rintro _ w ⟨oN, cN, rfl, hH2⟩ a hA; clear hH; have hH := (hH2 _ (by (repeat constructor))).tail; clear hH2) | (refine S0T ?_; clear hH; rintro _ w hH) | (apply st_op0 hA rfl rfl; apply op_store_agg (vs := [.int .i64 ra, .int .i64 rn]); rfl; rfl; exact hH; (repeat constructor); (repeat rfl); clear hH; rintro _ w hH))) | ((first | refine CT ?_ | (refine DT ?_ ?_ <;> intro hc <;> try (exfalso; omega))) <;> repeat' refine CT ?_) | (first | (refine DSK ?_; clear hA a; intro a hA) | (first | (refine DLT ?_; clear hA hH; rintro _ w ⟨oN, rfl, hH⟩; refine ⟨STT, ?_⟩; intro a hA) | (refine DAT ?_; clear hA; rintro _ w ⟨oN, cN, rfl, hH2⟩; clear hH; have hH := (hH2 _ (by (repeat constructor))).tail; clear hH2; refine ⟨STT, ?_⟩; intro a hA))) )
    rw [← hst] at hA
    exact ⟨i + 1, ⟨hlt, hH.drop_, (hA.sub (by (repeat (first | exact trivial | refine ⟨rfl, ?_⟩))))⟩, by omega⟩
  rw [List.take_of_length_le (by omega)] at hA
  repeat' (first | (first | (refine GT ?_ ?_ <;> intro hg <;> clear hA a <;> intro a hA <;> (first | exact FA | replace hg := of_decide_eq_true hg | replace hg := of_decide_eq_false hg | skip)) | (refine QT0 ?_; clear hA a; intro a hA) | (first | (refine BT ?_; clear hA hH; rintro _ w ⟨bN, rfl, hH⟩ a hA) | (refine LT ?_; clear hA hH; rintro _ w ⟨oN, rfl, hH⟩ a hA) | (refine AT ?_; clear hA; rintro _ w ⟨oN, cN, rfl, hH2⟩ a hA; clear hH; have hH := (hH2 _ (by (repeat constructor))).tail; clear hH2) | (refine S0T ?_; clear hH; rintro _ w hH) )) | ((first | refine CT ?_ | (refine DT ?_ ?_ <;> intro hc <;> try (exfalso; omega))) <;> repeat' refine CT ?_) | (first | (refine DSK ?_; clear hA a; intro a hA) | (first | (refine DLT ?_; clear hA hH; rintro _ w ⟨oN, rfl, hH⟩; refine ⟨STT, ?_⟩; intro a hA) | (refine DAT ?_; clear hA; rintro _ w ⟨oN, cN, rfl, hH2⟩; clear hH; have hH := (hH2 _ (by (repeat constructor))).tail; clear hH2; refine ⟨STT, ?_⟩; intro a hA))) )
  exact rt1 (.inl rfl) rfl hA rfl ⟨rfl, hH.kp⟩
end Go.Proofs.Ytdfhajdejlhamaa
namespace Go.Proofs.Ytdfhajdejlhamaa
open Go Go.Fw
set_option linter.unusedVariables false
theorem rep_new {N : Nat} (h : 2 ≤ N ∧ N ≤ 65536) : Rep N [] (List.replicate N 0) (List.replicate N (0, 0)) where
  n2 := h
  cl := List.length_replicate
  hl := List.length_replicate
  lay := by show 1 ≤ N; omega
  hd := fun i hi => by rw [List.getElem?_replicate, if_pos hi]; rfl
  fd := fun o ho => absurd ho (List.not_mem_nil)
  kd := fun o ho => absurd ho (List.not_mem_nil)
theorem gaps_new {N : Nat} (h : 2 ≤ N) : gaps N 1 [] = [((1 : Int), (N : Int) - 1)] := by
  show gap1 1 N = _
  rw [gap1_pos (by omega)]
  congr 2
  omega
set_option maxRecDepth 10000 attribute [local irreducible] Code.wp wpList Calls Ex Op1 sat bat blk cb own Go.Fw.mp Go.Fw.mpO Go.Fw.mpI Go.Fw.mpE Go.Fw.itr HS Rd Ret wkD Hp Cl Cls Exit.then Exit.inBlock Exit.noGoto bodyPost Go.Fw.flat wk2 Go.Fw.all Go.Fw.owns wpOp
attribute [local irreducible] hdA gaps isA

theorem of_spec (w0 : World) : Ret Try.prog 35 #[.int .i64 0] w0 (fun v w => v = .int .u64 1 ∧ Kp w0 noM w) := by
  have hH : HS w0 noM [] w0 := HS.init w0 noM
  (refine enter (N := 7) Try.func35 rfl Try.ntmps35 rfl ?_; intro a hA; dsimp only [sl0, Nat.reduceAdd] at hA)
  repeat' (first | (first | (refine GT ?_ ?_ <;> intro hg <;> clear hA a <;> intro a hA <;> (first | exact FA | replace hg := of_decide_eq_true hg | replace hg := of_decide_eq_false hg | skip)) | ((first | apply st_ex hA hH rfl rfl (by decide) | apply dr_ex hA rfl rfl rfl (by decide) | apply dr_exp hA rfl rfl rfl (by decide) | apply dr_ex3 hA hH rfl rfl rfl (by decide)); (first | (apply ex_convert (v := 0); rfl; decide) | (apply ex_shl (v := 0); rfl; rfl; decide; decide) | (apply ex_or (v := 1); rfl; rfl; decide)); clear hA a; intro a hA) | (refine QT0 ?_; clear hA a; intro a hA) | (first | (refine BT ?_; clear hA hH; rintro _ w ⟨bN, rfl, hH⟩ a hA) | (refine LT ?_; clear hA hH; rintro _ w ⟨oN, rfl, hH⟩ a hA) | (refine AT ?_; clear hA; rintro _ w ⟨oN, cN, rfl, hH2⟩ a hA; clear hH; have hH := (hH2 _ (by (repeat constructor))).tail; clear hH2) | (refine S0T ?_; clear hH; rintro _ w hH) )) | ((first | refine CT ?_ | (refine DT ?_ ?_ <;> intro hc <;> try (exfalso; omega))) <;> repeat' refine CT ?_) | (first | (refine DSK ?_; clear hA a; intro a hA) | (first | (refine DLT ?_; clear hA hH; rintro _ w ⟨oN, rfl, hH⟩; refine ⟨STT, ?_⟩; intro a hA) | (refine DAT ?_; clear hA; rintro _ w ⟨oN, cN, rfl, hH2⟩; clear hH; have hH := (hH2 _ (by (repeat constructor))).tail; clear hH2; refine ⟨STT, ?_⟩; intro a hA))) )
  exact rt1 (.inl rfl) rfl hA rfl ⟨rfl, hH.kp⟩

theorem new_spec (w0 : World) (z : Int) :
    Ret Try.prog 40 #[.int .i64 z] w0 (fun v w => (v = .pointer none ∧ ¬ (2 ≤ z ∧ z ≤ 65536) ∧ Kp w0 noM w) ∨ ((2 ≤ z ∧ z ≤ 65536) ∧ ∃ b, v = .pointer (some (bat b 0)) ∧ HS w0 noM [hpI b z.toNat []] w)) := by
  have hH : HS w0 noM [] w0 := HS.init w0 noM
  (refine enter (N := 19) Try.func40 rfl Try.ntmps40 rfl ?_; intro a hA; dsimp only [sl0, Nat.reduceAdd] at hA)
  by_cases hz : 2 ≤ z ∧ z ≤ 65536
  · obtain ⟨N, rfl⟩ : ∃ N : Nat, z = N := ⟨z.toNat, by omega⟩
    repeat' (first | (first | (refine GT ?_ ?_ <;> intro hg <;> clear hA a <;> intro a hA <;> (first | exact FA | replace hg := of_decide_eq_true hg | replace hg := of_decide_eq_false hg | skip)) | (refine QT0 ?_; clear hA a; intro a hA) | (first | (refine BT ?_; clear hA hH; rintro _ w ⟨bN, rfl, hH⟩ a hA) | (refine LT ?_; clear hA hH; rintro _ w ⟨oN, rfl, hH⟩ a hA) | (refine AT ?_; clear hA; rintro _ w ⟨oN, cN, rfl, hH2⟩ a hA; clear hH; have hH := (hH2 _ (by (repeat constructor))).tail; clear hH2) | (refine S0T ?_; clear hH; rintro _ w hH) )) | ((first | refine CT ?_ | (refine DT ?_ ?_ <;> intro hc <;> try (exfalso; omega))) <;> repeat' refine CT ?_) | (first | (refine DSK ?_; clear hA a; intro a hA) | (first | (refine DLT ?_; clear hA hH; rintro _ w ⟨oN, rfl, hH⟩; refine ⟨STT, ?_⟩; intro a hA) | (refine DAT ?_; clear hA; rintro _ w ⟨oN, cN, rfl, hH2⟩; clear hH; have hH := (hH2 _ (by (repeat constructor))).tail; clear hH2; refine ⟨STT, ?_⟩; intro a hA))) )
    have h2 := hz.1
    have h3 := hz.2
    (refine wp_drawG [(0, 1), (2, 1), (4, 1), (5, 1), (6, 1)] [1,3,7] [(8, 2), (9, 0), (10, 2)] mixed (by decide +kernel) hH.drop_ ?_; replace hH := hH.drew)
    repeat' (first | (apply de_ex hA rfl rfl rfl (by decide); (first | (apply ex_move; rfl) | (apply ex_assign; rfl)  | exact EXT); clear hA a; intro a hA) | apply de_nil)
    refine wkO_three (e1 := ⟨1, 10, fun v it => ∃ o, v = .slice o N N ∧ it = own 33 1 o N N (flat encW (List.replicate N 0))⟩) (e2 := ⟨3, 12, fun v it => ∃ o, v = .slice o N N ∧ it = own 113 2 o N N (flat encP (List.replicate N (0, 0)))⟩)
      (e3 := ⟨7, 16, fun v it => ∃ o, v = .slice o 1 1 ∧ it = own 104 2 o 1 1 [.int .i64 1, .int .i64 ((N : Int) - 1)]⟩) hA hH ?_ ?_ ?_ (by show [10, 12, 16].Nodup; decide) (by show [1, 3, 7].Nodup; decide) ?_
    · refine ⟨rfl, by dsimp only; decide, _, rfl, rfl, rfl, fun He w hH => (op_make encW 0 (n := N) rfl rfl rfl rfl ?_ ?_ encW_len rfl (by decide) hH).mono ?_⟩
      · unfold maxLen; omega
      · omega
      · rintro v w' ⟨o, rfl, h⟩
        exact ⟨_, ⟨o, rfl, rfl⟩, h⟩
    · refine ⟨rfl, by dsimp only; decide, _, rfl, rfl, rfl, fun He w hH => (op_make encP (0, 0) (n := N) rfl rfl rfl rfl ?_ ?_ encP_len rfl (by decide) hH).mono ?_⟩
      · unfold maxLen; omega
      · omega
      · rintro v w' ⟨o, rfl, h⟩
        exact ⟨_, ⟨o, rfl, rfl⟩, h⟩
    · refine ⟨rfl, by dsimp only; decide, _, rfl, rfl, rfl, fun He w hH => (op_sliceLit rfl rfl (.c2 .nil) rfl rfl rfl hH).mono ?_⟩
      rintro v w' ⟨o, rfl, h⟩
      exact ⟨_, ⟨o, rfl, rfl⟩, h⟩
    clear hA hH a
    rintro v1 it1 v2 it2 v3 it3 w a ⟨o1, rfl, rfl⟩ ⟨o2, rfl, rfl⟩ ⟨o3, rfl, rfl⟩ hH hA
    dsimp only at hA
    repeat' (first | (first | (refine GT ?_ ?_ <;> intro hg <;> clear hA a <;> intro a hA <;> (first | exact FA | replace hg := of_decide_eq_true hg | replace hg := of_decide_eq_false hg | skip)) | (refine QT0 ?_; clear hA a; intro a hA) | (first | (refine BT ?_; clear hA hH; rintro _ w ⟨bN, rfl, hH⟩ a hA) | (refine LT ?_; clear hA hH; rintro _ w ⟨oN, rfl, hH⟩ a hA) | (refine AT ?_; clear hA; rintro _ w ⟨oN, cN, rfl, hH2⟩ a hA; clear hH; have hH := (hH2 _ (by (repeat constructor))).tail; clear hH2) | (refine S0T ?_; clear hH; rintro _ w hH) )) | ((first | refine CT ?_ | (refine DT ?_ ?_ <;> intro hc <;> try (exfalso; omega))) <;> repeat' refine CT ?_) | (first | (refine DSK ?_; clear hA a; intro a hA) | (first | (refine DLT ?_; clear hA hH; rintro _ w ⟨oN, rfl, hH⟩; refine ⟨STT, ?_⟩; intro a hA) | (refine DAT ?_; clear hA; rintro _ w ⟨oN, cN, rfl, hH2⟩; clear hH; have hH := (hH2 _ (by (repeat constructor))).tail; clear hH2; refine ⟨STT, ?_⟩; intro a hA))) | (apply dr_op hA rfl rfl rfl (by decide); apply op_box_agg; rfl; exact hH; clear hA hH; rintro _ w ⟨bN, rfl, hH⟩; refine ⟨STT, ?_⟩; intro a hA))
    have e : ([.int .i64 1, .int .i64 ((N : Int) - 1)] : List Value) = flat encP (gaps N 1 []) := by rw [gaps_new (by omega)]; simp [flat, encP]
    have e1 : (gaps N 1 []).length = 1 := by rw [gaps_new (by omega)]; rfl
    rw [e] at hH
    refine rt1 (.inl rfl) rfl hA rfl (Or.inr ⟨hz, bN, rfl, ?_⟩)
    show HS w0 noM [hpI bN N []] w
    exact hp_shut ⟨o1, N, o2, N, o3, 1, _, _⟩ (rep_new ⟨by omega, by omega⟩) (by unfold hpQ; rw [e1]; exact hH)
  · repeat' (first | (first | (refine GT ?_ ?_ <;> intro hg <;> clear hA a <;> intro a hA <;> (first | exact FA | replace hg := of_decide_eq_true hg | replace hg := of_decide_eq_false hg | skip)) | (refine QT0 ?_; clear hA a; intro a hA) | (first | (refine BT ?_; clear hA hH; rintro _ w ⟨bN, rfl, hH⟩ a hA) | (refine LT ?_; clear hA hH; rintro _ w ⟨oN, rfl, hH⟩ a hA) | (refine AT ?_; clear hA; rintro _ w ⟨oN, cN, rfl, hH2⟩ a hA; clear hH; have hH := (hH2 _ (by (repeat constructor))).tail; clear hH2) | (refine S0T ?_; clear hH; rintro _ w hH) )) | ((first | refine CT ?_ | (refine DT ?_ ?_ <;> intro hc <;> try (exfalso; omega))) <;> repeat' refine CT ?_) | (first | (refine DSK ?_; clear hA a; intro a hA) | (first | (refine DLT ?_; clear hA hH; rintro _ w ⟨oN, rfl, hH⟩; refine ⟨STT, ?_⟩; intro a hA) | (refine DAT ?_; clear hA; rintro _ w ⟨oN, cN, rfl, hH2⟩; clear hH; have hH := (hH2 _ (by (repeat constructor))).tail; clear hH2; refine ⟨STT, ?_⟩; intro a hA))) )
    all_goals exact rt1 (.inl rfl) rfl hA rfl (Or.inl ⟨rfl, hz, hH.kp⟩)
end Go.Proofs.Ytdfhajdejlhamaa
namespace Go.Proofs.Ytdfhajdejlhamaa
open Go Go.Fw
set_option linter.unusedVariables false
theorem hpQ_read {w0 w : World} {M : Nat → Prop} {H : List It} {b N : Nat} {L : List Ob} {q : HQ} (hp : Rep N L q.cs q.hs) (h1 : HS w0 M (hpQ b N (gaps N 1 L) q ++ H) w) : HpQ w b N L q :=
  ⟨hp, h1.cell (b := b) (j := 0) (List.mem_cons_self ..) rfl, h1.cell (b := b) (j := 1) (List.mem_cons_self ..) rfl, h1.cell (b := b) (j := 2) (List.mem_cons_self ..) rfl, h1.own_rd (o := q.oC) MEMT, h1.own_rd (o := q.oH) (xs := flat encP q.hs) (by exact .tail _ (.tail _ (.head _))), h1.own_rd (o := q.oF) (xs := flat encP (gaps N 1 L)) (by exact .tail _ (.tail _ (.tail _ (.head _)))),
    (h1.own_le (o := q.oC) (xs := flat encW q.cs) (by exact .tail _ (.head _))).1, (h1.own_le (o := q.oH) (xs := flat encP q.hs) (by exact .tail _ (.tail _ (.head _)))).1, (h1.own_le (o := q.oF) (xs := flat encP (gaps N 1 L)) (by exact .tail _ (.tail _ (.tail _ (.head _))))).1⟩
theorem sub_sp {w : World} {b N : Nat} {L : List Ob} {q : HQ} (h : HpQ w b N L q) (i j n : Nat) (hij : i ≠ j) : Sp (subO q.oC i j 1) n := fun _ => by
  obtain ⟨bb, off, hoC⟩ := h.oC_some
  rw [hoC]
  unfold subO
  rw [if_neg hij]
  simp only [Option.map_some, Addr.add]
  split
  · exact ⟨bb, off, rfl⟩
  · exact ⟨bb, _, rfl⟩
set_option maxRecDepth 10000 attribute [local irreducible] Code.wp wpList Calls Ex Op1 sat bat blk cb own Go.Fw.mp Go.Fw.mpO Go.Fw.mpI Go.Fw.mpE Go.Fw.itr HS Rd Ret wkD Hp Cl Cls Exit.then Exit.inBlock Exit.noGoto bodyPost Go.Fw.flat wk2 Go.Fw.all Go.Fw.owns wpOp
attribute [local irreducible] hdA gaps isA

theorem set_spec (w0 : World) (M : Nat → Prop) (b N : Nat) (L : List Ob) (z i x : Int) (hH : HS w0 M [hpI b N L] w0) :
    Ret Try.prog 75 #[.pointer (some (bat b 0)), .int .i64 z, .int .i64 i, .int .u64 x] w0 (fun v w => v = .int .i64 (setA L z i x).1 ∧ HS w0 M [hpI b N (setA L z i x).2] w) := by
  (refine enter (N := 27) Try.func75 rfl Try.ntmps75 rfl ?_; intro a hA; dsimp only [sl0, Nat.reduceAdd] at hA)
  repeat' (first | (first | (refine GT ?_ ?_ <;> intro hg <;> clear hA a <;> intro a hA <;> (first | exact FA | replace hg := of_decide_eq_true hg | replace hg := of_decide_eq_false hg | skip)) | (refine QT0 ?_; clear hA a; intro a hA) | (first | (refine BT ?_; clear hA hH; rintro _ w ⟨bN, rfl, hH⟩ a hA) | (refine LT ?_; clear hA hH; rintro _ w ⟨oN, rfl, hH⟩ a hA) | (refine AT ?_; clear hA; rintro _ w ⟨oN, cN, rfl, hH2⟩ a hA; clear hH; have hH := (hH2 _ (by (repeat constructor))).tail; clear hH2) | (refine S0T ?_; clear hH; rintro _ w hH) )) | ((first | refine CT ?_ | (refine DT ?_ ?_ <;> intro hc <;> try (exfalso; omega))) <;> repeat' refine CT ?_) | (first | (refine DSK ?_; clear hA a; intro a hA) | (first | (refine DLT ?_; clear hA hH; rintro _ w ⟨oN, rfl, hH⟩; refine ⟨STT, ?_⟩; intro a hA) | (refine DAT ?_; clear hA; rintro _ w ⟨oN, cN, rfl, hH2⟩; clear hH; have hH := (hH2 _ (by (repeat constructor))).tail; clear hH2; refine ⟨STT, ?_⟩; intro a hA))) )
  (refine st_op hA rfl rfl (by decide) (op_call rfl rfl rfl (get_spec _ b N L z i (hp_read hH))) ?_; clear hA; rintro _ w ⟨rfl, hk⟩ a hA)
  replace hH := hH.keep hk
  clear hk
  cases ho : objA L z with
  | none =>
    have hgA : getA L z i = (0, 7) := by simp only [getA, ho]
    have hsA : setA L z i x = (7, L) := by simp only [setA, ho]
    rw [hgA] at hA
    rw [hsA]
    repeat' (first | (first | (refine GT ?_ ?_ <;> intro hg <;> clear hA a <;> intro a hA <;> (first | exact FA | replace hg := of_decide_eq_true hg | replace hg := of_decide_eq_false hg | skip)) | (refine QT0 ?_; clear hA a; intro a hA) | (first | (refine BT ?_; clear hA hH; rintro _ w ⟨bN, rfl, hH⟩ a hA) | (refine LT ?_; clear hA hH; rintro _ w ⟨oN, rfl, hH⟩ a hA) | (refine AT ?_; clear hA; rintro _ w ⟨oN, cN, rfl, hH2⟩ a hA; clear hH; have hH := (hH2 _ (by (repeat constructor))).tail; clear hH2) | (refine S0T ?_; clear hH; rintro _ w hH) )) | ((first | refine CT ?_ | (refine DT ?_ ?_ <;> intro hc <;> try (exfalso; omega))) <;> repeat' refine CT ?_) | (first | (refine DSK ?_; clear hA a; intro a hA) | (first | (refine DLT ?_; clear hA hH; rintro _ w ⟨oN, rfl, hH⟩; refine ⟨STT, ?_⟩; intro a hA) | (refine DAT ?_; clear hA; rintro _ w ⟨oN, cN, rfl, hH2⟩; clear hH; have hH := (hH2 _ (by (repeat constructor))).tail; clear hH2; refine ⟨STT, ?_⟩; intro a hA))) )
    exact rt1 (.inl rfl) rfl hA rfl ⟨rfl, hH⟩
  | some o =>
  obtain ⟨hx, hxz⟩ := objA_some ho
  subst hxz
  by_cases hir : 0 ≤ i ∧ i < (o.fs.length : Int)
  rotate_left
  · have hgA : getA L (o.a : Int) i = (0, 2) := by simp only [getA, ho]; rw [if_neg hir]
    have hsA : setA L (o.a : Int) i x = (2, L) := by simp only [setA, ho]; rw [if_neg hir]
    rw [hgA] at hA
    rw [hsA]
    repeat' (first | (first | (refine GT ?_ ?_ <;> intro hg <;> clear hA a <;> intro a hA <;> (first | exact FA | replace hg := of_decide_eq_true hg | replace hg := of_decide_eq_false hg | skip)) | (refine QT0 ?_; clear hA a; intro a hA) | (first | (refine BT ?_; clear hA hH; rintro _ w ⟨bN, rfl, hH⟩ a hA) | (refine LT ?_; clear hA hH; rintro _ w ⟨oN, rfl, hH⟩ a hA) | (refine AT ?_; clear hA; rintro _ w ⟨oN, cN, rfl, hH2⟩ a hA; clear hH; have hH := (hH2 _ (by (repeat constructor))).tail; clear hH2) | (refine S0T ?_; clear hH; rintro _ w hH) )) | ((first | refine CT ?_ | (refine DT ?_ ?_ <;> intro hc <;> try (exfalso; omega))) <;> repeat' refine CT ?_) | (first | (refine DSK ?_; clear hA a; intro a hA) | (first | (refine DLT ?_; clear hA hH; rintro _ w ⟨oN, rfl, hH⟩; refine ⟨STT, ?_⟩; intro a hA) | (refine DAT ?_; clear hA; rintro _ w ⟨oN, cN, rfl, hH2⟩; clear hH; have hH := (hH2 _ (by (repeat constructor))).tail; clear hH2; refine ⟨STT, ?_⟩; intro a hA))) )
    exact rt1 (.inl rfl) rfl hA rfl ⟨rfl, hH⟩
  obtain ⟨j, rfl⟩ : ∃ j : Nat, i = j := ⟨i.toNat, by omega⟩
  have hj : j < o.fs.length := by omega
  have hgA : getA L (o.a : Int) j = (o.fs.getD j 0, 0) := by simp only [getA, ho]; rw [if_pos hir]; rfl
  have hsA : setA L (o.a : Int) j x = (0, setL L o.a j x) := by simp only [setA, ho]; rw [if_pos hir]; rfl
  rw [hgA] at hA
  rw [hsA]
  obtain ⟨q, hp, hH2⟩ := hp_open hH
  clear hH
  have hH := hH2
  clear hH2
  have hq := hpQ_read hp hH
  unfold hpQ at hH
  have hm := hp.lay.mem o hx
  have hfin : o.fin = o.a + 1 + o.fs.length := rfl
  obtain ⟨bb, off, hoC⟩ := hq.oC_some
  have hsat : sat (subO q.oC o.fin (o.a + 1) 1) (j * 1) = sat q.oC (o.a + 1 + j) := by rw [sat_sub hoC (by omega), Nat.mul_one]
  have hspF := sub_sp hq o.fin (o.a + 1) o.fs.length (by omega)
  have hcl := hp.cl
  have hlt : o.a + 1 + j < q.cs.length := by omega
  repeat' (first | (first | (refine GT ?_ ?_ <;> intro hg <;> clear hA a <;> intro a hA <;> (first | exact FA | replace hg := of_decide_eq_true hg | replace hg := of_decide_eq_false hg | skip)) | (refine QT0 ?_; clear hA a; intro a hA) | (first | (refine BT ?_; clear hA hH; rintro _ w ⟨bN, rfl, hH⟩ a hA) | (refine LT ?_; clear hA hH; rintro _ w ⟨oN, rfl, hH⟩ a hA) | (refine AT ?_; clear hA; rintro _ w ⟨oN, cN, rfl, hH2⟩ a hA; clear hH; have hH := (hH2 _ (by (repeat constructor))).tail; clear hH2) | (refine S0T ?_; clear hH; rintro _ w hH) )) | ((first | refine CT ?_ | (refine DT ?_ ?_ <;> intro hc <;> try (exfalso; omega))) <;> repeat' refine CT ?_) | (first | (refine DSK ?_; clear hA a; intro a hA) | (first | (refine DLT ?_; clear hA hH; rintro _ w ⟨oN, rfl, hH⟩; refine ⟨STT, ?_⟩; intro a hA) | (refine DAT ?_; clear hA; rintro _ w ⟨oN, cN, rfl, hH2⟩; clear hH; have hH := (hH2 _ (by (repeat constructor))).tail; clear hH2; refine ⟨STT, ?_⟩; intro a hA))) )
  (refine st_op hA rfl rfl (by decide) (op_call rfl rfl rfl (fields_spec _ b N L q o hq hx)) ?_; clear hA; rintro _ w ⟨rfl, hk⟩ a hA)
  replace hH := hH.keep hk
  clear hk
  repeat' (first | (first | (refine GT ?_ ?_ <;> intro hg <;> clear hA a <;> intro a hA <;> (first | exact FA | replace hg := of_decide_eq_true hg | replace hg := of_decide_eq_false hg | skip)) | (refine QT0 ?_; clear hA a; intro a hA) | (first | (refine BT ?_; clear hA hH; rintro _ w ⟨bN, rfl, hH⟩ a hA) | (refine LT ?_; clear hA hH; rintro _ w ⟨oN, rfl, hH⟩ a hA) | (refine AT ?_; clear hA; rintro _ w ⟨oN, cN, rfl, hH2⟩ a hA; clear hH; have hH := (hH2 _ (by (repeat constructor))).tail; clear hH2) | (refine S0T ?_; clear hH; rintro _ w hH) | (apply st_op0 hA rfl rfl; apply op_set1 (enc := encW) (y0 := x) (j := o.a + 1 + j); rw [← hsat]; rfl; rfl; rfl; rfl; exact encW_len; exact hH; (repeat constructor); exact hlt; clear hH; rintro _ w hH))) | ((first | refine CT ?_ | (refine DT ?_ ?_ <;> intro hc <;> try (exfalso; omega))) <;> repeat' refine CT ?_) | (first | (refine DSK ?_; clear hA a; intro a hA) | (first | (refine DLT ?_; clear hA hH; rintro _ w ⟨oN, rfl, hH⟩; refine ⟨STT, ?_⟩; intro a hA) | (refine DAT ?_; clear hA; rintro _ w ⟨oN, cN, rfl, hH2⟩; clear hH; have hH := (hH2 _ (by (repeat constructor))).tail; clear hH2; refine ⟨STT, ?_⟩; intro a hA))) )
  refine rt1 (.inl rfl) rfl hA rfl ⟨rfl, ?_⟩
  refine hp_shut ⟨q.oC, q.cC, q.oH, q.cH, q.oF, q.cF, _, q.hs⟩ (rep_set hp hx hj) ?_
  rw [gaps_set]
  exact hH

end Go.Proofs.Ytdfhajdejlhamaa
