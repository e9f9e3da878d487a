/-
  More of the frame: what a row of trials does, named once. Each of these takes a goal, does one step by trial, and hands on the goal that is left. Conditions: none.
-/
import Derived.Test.YtejpcidfigmnkaaFw13
namespace Go.Fw
open Go Go.RowKit
set_option linter.unusedVariables false
/-- what is handed on, so that no trial takes it for its own -/
structure Wr (p : Prop) : Prop where
  out : p
/-- what an operation yields that turns nothing, with what is known of the world by hypotheses: found by trial -/
theorem EXT2 {P : Program} {N : Nat} {l : List (Nat × Value)} {C : World → Prop} {o : Oper} {v : Value} (h : Ex P N l C o v := by
  first
  | (apply ex_load; rfl; exact cl_w (by assumption) id)
  | (apply ex_load; rfl; exact cl_rd (by assumption) id (by assumption))
  | (apply ex_load; rfl; apply cl_own; exact MEMT; assumption)
  | (apply ex_load_st; rfl; rotate_left; exact cls_rd (by assumption) id (by assumption); rfl)
  | (apply ex_eqlPf; rfl; rfl)
  | (apply ex_eqlPt; rfl; rfl)
  | (apply ex_neqPt; rfl; rfl)
  | (apply ex_neqPf; rfl; rfl)
  | (apply ex_eqlNil; rfl; rfl)
  | (apply ex_max; rfl; rfl)
  | (apply ex_rem; rfl; rfl; first | decide | omega)
  | (apply ex_quo; rfl; rfl; first | decide | omega)) : Ex P N l C o v := h
/-- what stays -/
theorem STT {p : Prop} (h : p := by first | exact hH.drop_ | exact hH.pick MEMT | exact hH) : p := h
/-- a way that can't be -/
theorem FA {G : Prop} (h : G := by
  first
  | (exfalso; have h1 := of_decide_eq_true hg; omega)
  | (exfalso; have h1 := of_decide_eq_false hg; omega)
  | exact absurd hg (by decide)) : G := h
/-- a quiet operation -/
theorem QT {G G' : Prop} (k : G') (h : Wr G' → G := by
  intro k
  first
  | (apply st_ex hA hH rfl rfl (by decide); (first | exact EXT | exact EXT2); exact k.out)
  | (apply st_skip hA rfl rfl (by decide); exact k.out)
  | ((first | apply dr_ex hA rfl rfl rfl (by decide) | apply dr_exp hA rfl rfl rfl (by decide) | apply dr_ex3 hA hH rfl rfl rfl (by decide)); (first | exact EXT | exact EXT2); exact k.out)
  | ((first | apply dr_skip hA rfl rfl rfl (by decide) | apply dr_skip3 hA rfl rfl rfl (by decide)); exact k.out)) : G := h ⟨k⟩
/-- a quiet operation -/
theorem QT0 {G G' : Prop} (k : G') (h : Wr G' → G := by
  intro k
  first
  | (apply st_ex hA hH rfl rfl (by decide); exact EXT; exact k.out)
  | (apply st_skip hA rfl rfl (by decide); exact k.out)
  | ((first | apply dr_ex hA rfl rfl rfl (by decide) | apply dr_exp hA rfl rfl rfl (by decide) | apply dr_ex3 hA hH rfl rfl rfl (by decide)); exact EXT; exact k.out)
  | ((first | apply dr_skip hA rfl rfl rfl (by decide) | apply dr_skip3 hA rfl rfl rfl (by decide)); exact k.out)) : G := h ⟨k⟩
/-- a guard's bool -/
theorem GT {G G1 G2 : Prop} (k1 : G1) (k2 : G2) (h : Wr G1 → Wr G2 → G := by
  intro k1 k2
  first
  | (apply st_exb hA hH rfl rfl (by decide) rfl (ex_move rfl); exact k1.out; exact k2.out)
  | (apply dr_exb hA rfl rfl rfl (by decide) rfl (ex_move rfl); exact k1.out; exact k2.out)) : G := h ⟨k1⟩ ⟨k2⟩
/-- one more step in the code -/
theorem CT {G G' : Prop} (k : G') (h : Wr G' → G := by
  intro k
  first
  | (apply wp_seq; exact k.out)
  | (apply wp_region_lit; exact k.out)
  | (apply st_nil; exact k.out)
  | (apply then_normal; exact k.out)
  | (apply wp_block; exact k.out)
  | (apply st_cond_t hA rfl; exact k.out)
  | (apply st_cond_f hA rfl; exact k.out)
  | (apply wp_ret; exact k.out)
  | (apply wp_skip; exact k.out)
  | (apply wp_exit; exact k.out)
  | (apply then_ret; exact k.out)
  | (apply then_exit; exact k.out)
  | (apply inB_normal; exact k.out)
  | (apply inB_ret; exact k.out)
  | (apply inB_eq; exact k.out)
  | (apply inB_ne rfl; exact k.out)
  | (apply dr_nil; exact k.out)
  | (apply dr_late; exact k.out)
  | (apply dr_nil2; exact k.out)
  | (apply wp_scope_straight; exact k.out)
  | (apply wp_label; exact k.out)
  | (apply ng_normal; exact k.out)
  | (apply ng_ret; exact k.out)) : G := h ⟨k⟩
/-- a choice -/
theorem DT {G G1 G2 : Prop} (k1 : G1) (k2 : G2) (h : Wr G1 → Wr G2 → G := by
  intro k1 k2
  first
  | (apply st_cond_d hA rfl; exact k1.out; exact k2.out)
  | (apply st_cond_nd hA rfl; exact k1.out; exact k2.out)
  | (apply st_cond hA rfl; exact k1.out; exact k2.out)) : G := h ⟨k1⟩ ⟨k2⟩
/-- a new block -/
theorem BT {G G' : Prop} (k : G') (h : Wr G' → G := by
  intro k
  apply st_op hA rfl rfl (by decide)
  (first | apply op_alloc | (apply op_box_agg; rfl) | (apply op_box1; rfl; rfl))
  exact hH
  exact k.out) : G := h ⟨k⟩
/-- a slice's literal -/
theorem LT {G G' : Prop} (k : G') (h : Wr G' → G := by
  intro k
  apply st_op hA rfl rfl (by decide)
  apply op_sliceLit
  rfl
  rfl
  exact CATST
  rfl
  rfl
  rfl
  exact hH
  exact k.out) : G := h ⟨k⟩
/-- append -/
theorem AT {G G' : Prop} (k : G') (h : Wr G' → G := by
  intro k
  apply st_op hA rfl rfl (by decide)
  apply op_append
  rfl
  rfl
  exact hH
  exact MEMT
  exact hH.own_rd (List.Mem.head _)
  rfl
  rfl
  decide
  rfl
  (unfold maxLen; omega)
  omega
  exact k.out) : G := h ⟨k⟩
/-- stores -/
theorem S0T {G G' : Prop} (k : G') (h : Wr G' → G := by
  intro k
  apply st_op0 hA rfl rfl
  (first | (apply op_store1; rfl; rfl; rfl; exact hH; (repeat constructor)) | (apply op_store_agg; rfl; rfl; exact hH; (repeat constructor); rfl; rfl; rfl))
  exact k.out) : G := h ⟨k⟩
/-- the same in a region that draws -/
theorem DSK {G G' : Prop} (k : G') (h : Wr G' → G := by
  intro k
  apply dr_opskip hA rfl rfl rfl (by decide) STT
  exact k.out) : G := h ⟨k⟩
theorem DLT {G G' : Prop} (k : G') (h : Wr G' → G := by
  intro k
  apply dr_op hA rfl rfl rfl (by decide)
  apply op_sliceLit
  rfl
  rfl
  exact CATST
  rfl
  rfl
  rfl
  exact hH
  exact k.out) : G := h ⟨k⟩
theorem DAT {G G' : Prop} (k : G') (h : Wr G' → G := by
  intro k
  apply dr_op hA rfl rfl rfl (by decide)
  apply op_append
  rfl
  rfl
  exact hH
  exact MEMT
  exact hH.own_rd (List.Mem.head _)
  rfl
  rfl
  decide
  rfl
  (unfold maxLen; omega)
  omega
  exact k.out) : G := h ⟨k⟩
end Go.Fw
