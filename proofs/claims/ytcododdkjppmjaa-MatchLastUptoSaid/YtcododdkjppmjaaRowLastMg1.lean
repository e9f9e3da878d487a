/-
  More of the frame: slices of slices; many parts as one; copy; bits; bools. Conditions: none.
  The frame of a law's proof, where the size of what is handed in is asked; slices of slices, read. Conditions: none.
  More of the frame: a slice of one's own as a block in plain sight; append in place and into a new block; clear; parts that are there, whichever they be. Conditions: none.
  More of the frame: make of what has many cells; shift and or; pairs set in what is ours. Conditions: none.
  A region in which several operations that bring something of their own come up in any order. Conditions: none.
  More of the frame: pointers against nil. Conditions: none.
  More of the frame: what a row of trials does, named once. Each of these takes a goal, does one step by trial, and hands on the goal that is left. Conditions: none.
  A region whose operations come up in one of several orders: a plan, with ways. Conditions: none.
  Strings: their length, a byte, a part; as bytes and back. Conditions: none.
  A region of which some come last, told from further off. Conditions: none.
  What is made and never turned again: known by what is known of it. Conditions: none.
  Patterns as they lie in memory; how many parts, and which form (plain). Conditions: none.
  What is known of this seat's types and functions, for the frame. Printed by a program. Conditions: none.
  Walks over how many parts a pattern has. Conditions: none.
  Strings alike; walks over the document's count of parts, over slices.Index and Contains of strings. Conditions: none.
  Walks over slices.ContainsFunc of patterns, and over a pattern's form. Conditions: none.
-/
import Derived.Test.YtcododdkjppmjaaRowLastMg0
import Derived.Laws.CopyRow
import Derived.Laws.Small
import Derived.Scope
import Derived.SizedLaws
import Derived.Deep.Matrix
import Derived.Lib.Overlaps
import Derived.Laws.Cover3
import Derived.Laws.Pointers
import Derived.Lib.ConvBytes
import Derived.Laws.BytesString
import Derived.Laws.Strings
import Derived.Laws.Slices
import Derived.Laws.ResultCell
import Derived.Test.YtcododdkjppmjaaRows
namespace Go.Fw
open Go Go.RowKit
set_option linter.unusedVariables false

def encB (b : Bool) : List Value := [.bool b]
theorem encB_len (b : Bool) : (encB b).length = 1 := rfl
/-- a slice as a value: its head, its length, its room -/
abbrev Sd := Option Addr × Nat × Nat
def Sd.v (d : Sd) : Value := .slice d.1 d.2.1 d.2.2
/-- the slices of a slice, as they can be read -/
def RdR {α : Type} (enc : α → List Value) (w : World) (ds : List Sd) (rows : List (List α)) : Prop :=
  ds.length = rows.length ∧ ∀ (i : Nat) (d : Sd) (r : List α), ds[i]? = some d → rows[i]? = some r → d.2.1 = r.length ∧ Rd w d.1 (flat enc r)
theorem RdR.at {α : Type} {enc : α → List Value} {w : World} {ds : List Sd} {rows : List (List α)} (h : RdR enc w ds rows) {i : Nat} {r : List α} (hr : rows[i]? = some r) :
    ∃ o c, ds[i]? = some (o, r.length, c) ∧ Rd w o (flat enc r) := by
  have hlt := (List.getElem?_eq_some_iff.1 hr).1
  obtain ⟨d, hd⟩ : ∃ d, ds[i]? = some d := ⟨_, List.getElem?_eq_getElem (by rw [h.1]; exact hlt)⟩
  obtain ⟨h1, h2⟩ := h.2 i d r hd hr
  obtain ⟨o, n, c⟩ := d
  dsimp only at h1 h2
  subst h1
  exact ⟨o, c, hd, h2⟩

theorem HS.moreM {w0 w : World} {M M' : Nat → Prop} {H : List It} (h : HS w0 M H w) (hM : ∀ b, M b → M' b) : HS w0 M' H w := by
  obtain ⟨hk, F, hF, ho⟩ := h
  exact ⟨⟨hk.os, hk.tape, hk.output, hk.size, fun b hb hn => hk.block b hb fun h => hn (hM b h)⟩, F, hF, fun b hb => (ho b hb).imp id (hM b)⟩
/-- what a call makes that leaves all as it was -/
theorem HS.join {w0 w w' : World} {M : Nat → Prop} {H H' : List It} (h : HS w0 M H w) (h' : HS w noM H' w') : HS w0 M (H' ++ H) w' := by
  obtain ⟨Mc, h1, h2, h3⟩ := HS.frame (Hc := []) (Hf := H) h
  exact h3 w' H' (h'.moreM fun b hb => hb.elim)

/-! ## many parts as one -/
def all (L : List It) : It where
  sat w F := Hp w L F
  loc := fun h he => h.loc he
  lt := fun h b hb => h.lt b hb
  ext := fun h he => h.ext he
theorem HS.open_ {w0 w : World} {M : Nat → Prop} {L H : List It} (h : HS w0 M (all L :: H) w) : HS w0 M (L ++ H) w := by
  obtain ⟨hk, F, ⟨F1, F2, hF, hd, h1, h2⟩, ho⟩ := h
  exact ⟨hk, _, Hp.mk_append hd h1 h2, fun b hb => ho b ((hF b).2 hb)⟩
theorem HS.shut {w0 w : World} {M : Nat → Prop} {L H : List It} (h : HS w0 M (L ++ H) w) : HS w0 M (all L :: H) w := by
  obtain ⟨hk, F, hF, ho⟩ := h
  obtain ⟨F1, F2, hG, hd, h1, h2⟩ := hF.append
  exact ⟨hk, F, ⟨F1, F2, hG, hd, h1, h2⟩, ho⟩
theorem HS.openAt {w0 w : World} {M : Nat → Prop} {L H : List It} {i : Nat} {x : It} (h : HS w0 M (all L :: H) w) (hi : L[i]? = some x) : HS w0 M (x :: all (L.eraseIdx i) :: H) w := by
  have h1 := h.open_.perm ((perm_pick0 i hi).append_right H)
  have h2 : HS w0 M (L.eraseIdx i ++ (x :: H)) w := h1.perm List.perm_middle.symm
  exact h2.shut.perm (.swap _ _ _)
theorem HS.nil_all {w0 w : World} {M : Nat → Prop} {H : List It} (h : HS w0 M H w) : HS w0 M (all [] :: H) w := HS.shut (L := []) h

theorem HS.pushA {w0 w : World} {M : Nat → Prop} {L H : List It} {x : It} (h : HS w0 M (x :: all L :: H) w) : HS w0 M (all (L ++ [x]) :: H) w := by
  have h1 : HS w0 M (all L :: x :: H) w := h.perm (.swap _ _ _)
  have h2 : HS w0 M (L ++ [x] ++ H) w := by simpa using h1.open_
  exact h2.shut

/-- slices of one's own, one beside the other -/
def owns {α : Type} (T sz : Nat) (enc : α → List Value) (ds : List Sd) (rows : List (List α)) : List It := List.zipWith (fun (d : Sd) r => own T sz d.1 d.2.1 d.2.2 (flat enc r)) ds rows
section
variable {P : Program} {N : Nat} {l : List (Nat × Value)} {C : World → Prop} {d : Option Tmp} {T : TypeId} {pos : String} {af : Array Edge} {g : Option (Nat × Bool)}
theorem run_eqlB {t : TypeId} [h : TBo P t] (m n : Bool) (w : World) : (Op.equal t (.bool m) (.bool n)).run P w = .ok (m == n) w := by
  exact run_equal_bool w t m n h.eq
theorem ex_eqlB {t ty : TypeId} {x y : Operand} {m n : Bool} [h : TBo P t] (hx : ev l x = some (.bool m)) (hy : ev l y = some (.bool n)) : Ex P N l C ⟨d, .binOp .eql t x y ty, T, pos, af, g⟩ (.bool (m == n)) := by
  intro a w hA _
  simp [execOp, hA.ev hx, hA.ev hy, eqGuard_at_bool, binOp, run_eqlB]
theorem ex_neqB {t ty : TypeId} {x y : Operand} {m n : Bool} [h : TBo P t] (hx : ev l x = some (.bool m)) (hy : ev l y = some (.bool n)) : Ex P N l C ⟨d, .binOp .neq t x y ty, T, pos, af, g⟩ (.bool (m != n)) := by
  intro a w hA _
  simp [execOp, hA.ev hx, hA.ev hy, eqGuard_at_bool, binOp, run_eqlB]
  cases m <;> cases n <;> rfl

theorem cl_w {w0 : World} {M : Nat → Prop} {H : List It} {b j : Nat} {v : Value} (h : w0.cell? (bat b j) = some v) (hM : ¬ M b) : Cl (HS w0 M H) (bat b j) v := fun w hH => by
  have hb : b < w0.heap.size := World.block_lt_of_cell? w0 (bat b j) h
  rw [World.cell?_of_block (w := w0) (hH.1.block b hb hM)]
  exact h
theorem ng_normal {Q : Exit → Act → World → Prop} {a : Act} {w : World} (h : Q .normal a w) : Exit.noGoto Q .normal a w := h
theorem ng_ret {Q : Exit → Act → World → Prop} {a : Act} {w : World} (h : Q .ret a w) : Exit.noGoto Q .ret a w := h
end
/-- found by trial -/
theorem MEMT {α : Type _} {x : α} {l : List α} (h : x ∈ l := by repeat (first | exact List.Mem.head _ | apply List.Mem.tail)) : x ∈ l := h
theorem CATST {n : Nat} {vs xs : List Value} (h : Cats n vs xs := by repeat (first | exact Cats.nil | (apply Cats.c1; rfl) | apply Cats.c2 | apply Cats.c3 | apply Cats.c4)) : Cats n vs xs := h
/-- what an operation yields that turns nothing: found by trial -/
theorem EXT {P : Program} {N : Nat} {l : List (Nat × Value)} {C : World → Prop} {o : Oper} {v : Value} (h : Ex P N l C o v := by (first | (apply ex_move; rfl) | (apply ex_assign; rfl) | (apply ex_eql; rfl; rfl) | (apply ex_eqlB; rfl; rfl) | (apply ex_neq; rfl; rfl) | (apply ex_neqB; rfl; rfl) | (apply ex_lss; rfl; rfl) | (apply ex_leq; rfl; rfl) | (apply ex_gtr; rfl; rfl) | (apply ex_geq; rfl; rfl) | (apply ex_len_slice; rfl) | (apply ex_fieldAddr_sat; rfl; rfl) | (apply ex_fieldAddr_bat; rfl; rfl) | (apply ex_nilCheck; rfl) | (apply ex_extract; rfl; rfl) | (apply ex_not; rfl) | (apply ex_pick_t; rfl; rfl) | (apply ex_pick_f; rfl; rfl) | (apply ex_succ; rfl; rfl; omega) | (apply ex_add; rfl; rfl; unfold i64ok; omega) | (apply ex_pred; rfl; rfl; omega) | (apply ex_sub; rfl; rfl; unfold i64ok; omega) | (apply ex_indexAddr_nat; rfl; rfl; omega; first | assumption | exact hH.own_sp MEMT) | (apply ex_indexAddr; rfl; rfl; omega; omega; first | assumption | exact hH.own_sp MEMT) | (apply ex_load; rfl; apply cl_cb; exact MEMT; rfl) | (apply ex_load_st; rfl; rotate_left; apply cls_cb_all; exact MEMT; rfl) | (apply ex_lookupI_ok; rfl; rfl; exact MEMT) | (apply ex_lookupI; rfl; rfl; exact MEMT) | (apply ex_makeFunc; rfl; rfl) | (apply ex_build_full; rfl; rfl; rfl; rfl; rfl; (repeat (first | (intro _ h; exact absurd h (List.not_mem_nil)) | (refine List.forall_mem_cons.2 ⟨one_cell_of _ _, ?_⟩)))))) : Ex P N l C o v := h
end Go.Fw
namespace Go.Fw
open Go Go.ChangeShapes Go.WideShapes Go.ChangeAt Go.RowKit Go.Deep
set_option linter.unusedVariables false
/-- all parts are of a size that a machine can have -/
def Szd {H : Type} (P : Program) (t : TypeId) (d : DataW H) : Prop := (d.weights P t).all (· ≤ reachBytes) = true
section
variable {H : Type} {enc : TypeId × Value → H} {P : Program}
theorem szd_all {e : TypeId} : ∀ {l : List (DataW H)}, (DataW.weightsAll P e l).all (· ≤ reachBytes) = true → ∀ d ∈ l, Szd P e d
  | [], _, d, hd => by simp at hd
  | x :: r, h, d, hd => by
    simp only [DataW.weightsAll, List.all_append, Bool.and_eq_true] at h
    rcases List.mem_cons.1 hd with rfl | hd
    · exact h.1
    · exact szd_all h.2 d hd
theorem Szd.slice {t e : TypeId} {elems spare : List (DataW H)} (h : Szd P t (.slice elems spare)) (ht : P.underlying t = some (.slice e)) :
    (elems.length + spare.length) * P.bytesOf e ≤ reachBytes ∧ ∀ d, d ∈ elems → Szd P e d := by
  simp only [Szd, DataW.weights, ht, List.all_cons, List.all_append, Bool.and_eq_true, decide_eq_true_eq] at h
  exact ⟨h.1, szd_all h.2.1⟩
end

section
variable {H : Type} {enc : TypeId × Value → H} {P : Program} {w : World} {base : Nat} {held : Bool}
theorem add_sat (a : Addr) (h : a.spot = none) (k : Nat) : a.add k = sat (some a) k := by
  obtain ⟨b, off, spot⟩ := a
  obtain rfl : spot = none := h
  simp only [sat, blkO, offO, Addr.add]
  split <;> simp_all
end
end Go.Fw
namespace Go.Fw
open Go Go.RowKit
set_option linter.unusedVariables false

/-! ## a part with something open, a part with a fact -/
/-! ## one's own slice as a block -/
theorem Rd.news {w : World} {a : Addr} {xs : List Value} (h : Rd w (some a) xs) : ∀ j u, xs[j]? = some u → w.cell? (a.add j) = some u := by
  intro j u hj
  obtain ⟨b, off, hb⟩ := h.1 (by have := (List.getElem?_eq_some_iff.1 hj).1; omega)
  obtain rfl : a = ⟨b, off, none⟩ := by simpa using hb
  rw [add_eq_sat]
  exact h.2 j u hj

section
variable {P : Program} {N : Nat} {l : List (Nat × Value)} {C : World → Prop} {d : Option Tmp} {T : TypeId} {pos : String} {af : Array Edge} {g : Option (Nat × Bool)}
theorem ex_eqlNil {t e ty : TypeId} {x y : Operand} {o : Option Addr} {n c : Nat} [ht : TSl P t e] (hx : ev l x = some (.slice o n c)) (hy : ev l y = some (.slice none 0 0)) : Ex P N l C ⟨d, .binOp .eql t x y ty, T, pos, af, g⟩ (.bool o.isNone) := by
  intro a w hA _
  simp [execOp, hA.ev hx, hA.ev hy, eqGuard_at_slice, binOp, run_equal_slice_nil w t e o n c ht.eq]
theorem ex_max {ats : Array TypeId} {x y : Operand} {k k' : IntKind} {m n : Int} (hx : ev l x = some (.int k m)) (hy : ev l y = some (.int k' n)) : Ex P N l C ⟨d, .call ⟨.builtin .max, #[x, y], ats⟩, T, pos, af, g⟩ (.int k (if n > m then n else m)) := by
  intro a w hA _
  simp [execOp, resolve, invoke, builtin, hA.ev hx, hA.ev hy, run_max_int2]

/-- append into a new block: what was there stays -/
theorem op_append_new {t e sz by_ n cap m c : Nat} {z : Value} {zs : List Value} {a0 ad : Addr} {x y : Operand} {xs news : List Value} {w0 w : World} {M : Nat → Prop} {H : List It} [ht : TSl P t e] [hi : TIf P e z zs sz by_]
    (hx : ev l x = some (.slice (some a0) n cap)) (hy : ev l y = some (.slice (some ad) m c)) (hH : HS w0 M H w) (holds : ∀ j u, xs[j]? = some u → w.cell? (a0.add j) = some u) (hlo : xs.length = n * sz)
    (hnews : ∀ j u, news[j]? = some u → w.cell? (ad.add j) = some u) (hl : news.length = m * sz) (hzs0 : zs.length = sz) (hgrow : cap < n + m) (h63 : n + m ≤ maxLen) (hby : (n + m) * by_ ≤ 140737488355328) (hnc : n ≤ cap) :
    Op1 P N l ⟨d, .call ⟨.builtin .append, #[x, y], #[t, t]⟩, T, pos, af, g⟩ w (fun v w' => ∃ o' cap', v = .slice o' (n + m) cap' ∧ HS w0 M (own e sz o' (n + m) cap' (xs ++ news) :: H) w') := by
  intro a hA K Q hK
  obtain ⟨ti, h3, h4, h5, h6⟩ := hi.eq
  have hzs : z.cells.size = sz := by rw [← hzs0, ← hi.zc]; simp
  subst h5; subst h6
  have hm63 : n + m ≤ 9223372036854775807 := by simp only [maxLen] at h63; omega
  have hrun := run_append_grow (P := P) w t T e ti z ht.eq h3 h4 a0 n cap xs hlo holds ad m c news hl hnews hgrow (by omega) (growslice_fits (by omega) hby)
  have hge := grownCap_ge w (n + m) cap e
  have hcm : grownCap w (n + m) cap e ≤ maxLen := grownCap_le_maxLen w (n + m) cap e h63
  unfold Oper.wp
  simp only [execOp, resolve, invoke, builtin, Sem.run_bind, Sem.run_pure, Result.andThen_ok, List.map_toArray, List.map_cons, List.map_nil, hA.ev hx, hA.ev hy, hrun, Oper.upon]
  have hc := hH.drew.come_own e ti.size (n + m) (grownCap w (n + m) cap e) (xs ++ news) (Builtin.zeroCells z.cells (grownCap w (n + m) cap e - (n + m))).toList (by rw [List.length_append, hlo, hl, Nat.add_mul]) hge hcm (by
    rw [List.length_append, hlo, hl, ← Nat.add_mul, Array.length_toList, size_zeroCells, hzs, ← Nat.add_mul]
    congr 1
    omega)
  refine hK _ _ ⟨_, _, rfl, ?_⟩
  have e1 : (xs ++ news ++ (Builtin.zeroCells z.cells (grownCap w (n + m) cap e - (n + m))).toList).toArray = xs.toArray ++ news.toArray ++ Builtin.zeroCells z.cells (grownCap w (n + m) cap e - (n + m)) := by
    apply Array.ext'
    simp
  rw [e1] at hc
  exact hc

end
end Go.Fw
namespace Go.Fw
open Go Go.RowKit
set_option linter.unusedVariables false
section
variable {P : Program} {N : Nat} {l : List (Nat × Value)} {C : World → Prop} {d : Option Tmp} {T : TypeId} {pos : String} {af : Array Edge} {g : Option (Nat × Bool)}
/-- a struct literal with some of its fields, each of one cell -/
theorem ex_build_p {t sz by_ : Nat} {z : Value} {zs : List Value} {fl : List (Nat × Nat)} {ps : Array (Nat × Operand)} {vs : List Value} (cs : Array Value) [h : TSt P t fl] [hi : TIf P t z zs sz by_]
    (hv : evL l (ps.toList.map (·.2)) = some vs) (hsz : ∀ p ∈ fl, ∃ i, P.info? p.1 = some i ∧ i.size = 1) (hf : Instr.fill ((fl.map (fun p => (p.2, 1)))[·]?) zs.toArray ((ps.toList.map (·.1)).zip vs) = some cs) :
    Ex P N l C ⟨d, .build t ps, T, pos, af, g⟩ (.agg cs) := by
  have hrun : ∀ (fl : List (Nat × Nat)) (w : World), (∀ p ∈ fl, ∃ i, P.info? p.1 = some i ∧ i.size = 1) → (fl.mapM (fun p => do pure (p.2, ← sizeOf p.1)) : Sem (List (Nat × Nat))).run P w = .ok (fl.map (fun p => (p.2, 1))) w := by
    intro fl w
    induction fl with
    | nil => intro _; simp
    | cons p fl ih =>
      intro hp
      obtain ⟨i, hi1, hi2⟩ := hp p (by simp)
      have := ih fun q hq => hp q (by simp [hq])
      simp only [List.mapM_cons, Sem.run_bind, sizeOf, typeInfo, run_program, Result.andThen_ok, hi1, Sem.run_pure, hi2] at this ⊢
      rw [this]
      simp
  have hzc : z.cells = zs.toArray := by apply Array.ext'; simpa using hi.zc
  exact ex_build (szs := fl.map (fun p => (p.2, 1))) (fun w => hrun fl w hsz) hv (by rw [hzc]; exact hf)
end
end Go.Fw
namespace Go.Fw
open Go Go.RowKit
set_option linter.unusedVariables false
section
variable {P : Program} {ops : Array Oper} {S : World → Prop} {Q : Exit → Act → World → Prop} {K : Act → World → Prop} {k : Array Bool → Bool} {m : Nat}
end
theorem Op1.mono {P : Program} {N : Nat} {l : List (Nat × Value)} {o : Oper} {w : World} {R R' : Value → World → Prop} (h : Op1 P N l o w R) (hr : ∀ v w', R v w' → R' v w') : Op1 P N l o w R' :=
  fun a hA K Q hK => h a hA K Q fun v w' h' => hK v w' (hr v w' h')

/-! ## what comes, in whichever order -/
section
variable {P : Program} {N : Nat} {l : List (Nat × Value)} {ops : Array Oper} {Q : Exit → Act → World → Prop} {K : Act → World → Prop} {w0 : World} {M : Nat → Prop} {H : List It}
end
section
variable {P : Program} {N : Nat} {l : List (Nat × Value)} {a : Act} {w : World} {ops : Array Oper} {S : World → Prop} {Q : Exit → Act → World → Prop} {K : Act → World → Prop} {i : Nat} {π : List (Nat × Nat)}
end
theorem then_mono {K R : Act → World → Prop} {Q : Exit → Act → World → Prop} (k : ∀ a w, R a w → K a w) : ∀ e a w, Exit.then R Q e a w → Exit.then K Q e a w := by
  intro e a w h
  cases e with
  | normal => exact k _ _ h
  | _ => exact h
end Go.Fw
namespace Go.Fw
open Go Go.RowKit
set_option linter.unusedVariables false
section
variable {P : Program} {N : Nat} {l : List (Nat × Value)} {C : World → Prop} {d : Option Tmp} {T : TypeId} {pos : String} {af : Array Edge} {g : Option (Nat × Bool)}
theorem ex_eqlPn {t ty : TypeId} {x y : Operand} {p : Option Addr} [h : TPt P t] (hx : ev l x = some (.pointer p)) (hy : ev l y = some (.pointer none)) : Ex P N l C ⟨d, .binOp .eql t x y ty, T, pos, af, g⟩ (.bool p.isNone) := by
  intro a w hA _
  simp [execOp, hA.ev hx, hA.ev hy, eqGuard_at_pointer, run_eql_pointer_nil w t p h.eq]
theorem ex_neqPn {t ty : TypeId} {x y : Operand} {p : Option Addr} [h : TPt P t] (hx : ev l x = some (.pointer p)) (hy : ev l y = some (.pointer none)) : Ex P N l C ⟨d, .binOp .neq t x y ty, T, pos, af, g⟩ (.bool (!p.isNone)) := by
  intro a w hA _
  simp [execOp, hA.ev hx, hA.ev hy, eqGuard_at_pointer, run_neq_pointer_nil w t p h.eq]
theorem ex_eqlPt {t ty : TypeId} {x y : Operand} [h : TPt P t] (hx : ev l x = some (.pointer none)) (hy : ev l y = some (.pointer none)) : Ex P N l C ⟨d, .binOp .eql t x y ty, T, pos, af, g⟩ (.bool true) := ex_eqlPn (h := h) hx hy
theorem ex_eqlPf {t ty : TypeId} {x y : Operand} {p : Addr} [h : TPt P t] (hx : ev l x = some (.pointer (some p))) (hy : ev l y = some (.pointer none)) : Ex P N l C ⟨d, .binOp .eql t x y ty, T, pos, af, g⟩ (.bool false) := ex_eqlPn (h := h) hx hy
theorem ex_neqPf {t ty : TypeId} {x y : Operand} [h : TPt P t] (hx : ev l x = some (.pointer none)) (hy : ev l y = some (.pointer none)) : Ex P N l C ⟨d, .binOp .neq t x y ty, T, pos, af, g⟩ (.bool false) := ex_neqPn (h := h) hx hy
theorem ex_neqPt {t ty : TypeId} {x y : Operand} {p : Addr} [h : TPt P t] (hx : ev l x = some (.pointer (some p))) (hy : ev l y = some (.pointer none)) : Ex P N l C ⟨d, .binOp .neq t x y ty, T, pos, af, g⟩ (.bool true) := ex_neqPn (h := h) hx hy
end
theorem inB_mono {id : Nat} {Q Q' : Exit → Act → World → Prop} (h : ∀ e a w, Q e a w → Q' e a w) : ∀ e a w, Exit.inBlock id Q e a w → Exit.inBlock id Q' e a w := by
  intro e a w he
  cases e <;> simp only [Exit.inBlock] at he ⊢ <;> first | exact h _ _ _ he | (split at he <;> rename_i hc <;> simp only [hc] <;> exact h _ _ _ he)
/-- a loop in a block, behind which R holds; then the rest -/
theorem wp_lpj {P : Program} {a : Act} {w : World} {id : Nat} {K : Act → World → Prop} {Q : Exit → Act → World → Prop} {c : Code} {S : Type} (I : S → Act → World → Prop) (μ : S → Nat) (R : Act → World → Prop) (s : S) (h₀ : I s a w)
    (round : ∀ s a w, I s a w → c.wp P (Exit.then (fun a' w' => ∃ s', I s' a' w' ∧ μ s' < μ s) (Exit.inBlock id (Exit.then R Q))) a w) (k : ∀ a w, R a w → K a w) : (Code.loop c).wp P (Exit.inBlock id (Exit.then K Q)) a w :=
  Code.wp_mono (inB_mono (then_mono k)) (wp_lp I μ s h₀ round)
/-- in a region ahead of a choice: both ways come to R; then the rest -/
theorem st_join {P : Program} {ops : Array Oper} {ls : List Oper} {a : Act} {w : World} {c2 : Code} {K : Act → World → Prop} {Q : Exit → Act → World → Prop} (R : Act → World → Prop)
    (h : wpList P ops (Exit.then (c2.wp P (Exit.then R Q)) (Exit.then R Q)) ls a w) (k : ∀ a w, R a w → K a w) : wpList P ops (Exit.then (c2.wp P (Exit.then K Q)) (Exit.then K Q)) ls a w := by
  induction ls generalizing a w with
  | nil => exact Code.wp_mono (then_mono k) (show c2.wp P (Exit.then R Q) a w from h)
  | cons o rest ih =>
    unfold wpList at h ⊢
    split
    · rename_i hw
      rw [if_pos hw] at h
      rcases h with h | ⟨h1, h2⟩
      · refine .inl (Oper.wp_mono (K := wpList P ops (Exit.then (c2.wp P (Exit.then R Q)) (Exit.then R Q)) rest) (fun a w h => ih h) ?_)
        unfold Oper.wp at *
        generalize (execOp a.eval o).run P w = r at *
        cases r with
        | ok n w' => cases n <;> simp only [Oper.upon] at h ⊢ <;> exact h
        | halt x w' => cases x <;> simp only [Oper.upon] at h ⊢ <;> exact h
      · exact .inr ⟨h1, by obtain ⟨a', w3, h3⟩ := h2; exact ⟨a', w3, h3⟩⟩
    · rename_i hw
      rw [if_neg hw] at h
      exact ih h
section
variable {w0 w : World} {M : Nat → Prop} {p q r : It}
end
/-- a loop in a block, whatever stands behind -/
theorem wp_lpk {P : Program} {a : Act} {w : World} {id : Nat} {Q0 : Exit → Act → World → Prop} {c : Code} {S : Type} (I : S → Act → World → Prop) (μ : S → Nat) (R : Act → World → Prop) (s : S) (h₀ : I s a w)
    (round : ∀ s a w, I s a w → c.wp P (Exit.then (fun a' w' => ∃ s', I s' a' w' ∧ μ s' < μ s) (Exit.inBlock id (Exit.then R Q0))) a w) (k : ∀ a w, R a w → Q0 .normal a w) : (Code.loop c).wp P (Exit.inBlock id Q0) a w :=
  Code.wp_mono (inB_mono (fun e a w he => by
    cases e with
    | normal => exact k _ _ he
    | _ => exact he)) (wp_lp I μ s h₀ round)
end Go.Fw
namespace Go.Fw
open Go Go.RowKit
set_option linter.unusedVariables false
/-- what is handed on, so that no trial takes it for its own -/
structure Wr (p : Prop) : Prop where
  out : p
/-- what an operation yields that turns nothing, with what is known of the world by hypotheses: found by trial -/
theorem EXT2 {P : Program} {N : Nat} {l : List (Nat × Value)} {C : World → Prop} {o : Oper} {v : Value} (h : Ex P N l C o v := by
  first
  | (apply ex_load; rfl; exact cl_w (by assumption) id)
  | (apply ex_load; rfl; exact cl_rd (by assumption) id (by assumption))
  | (apply ex_load; rfl; apply cl_own; exact MEMT; assumption)
  | (apply ex_load_st; rfl; rotate_left; exact cls_rd (by assumption) id (by assumption); rfl)
  | (apply ex_eqlPf; rfl; rfl)
  | (apply ex_eqlPt; rfl; rfl)
  | (apply ex_neqPt; rfl; rfl)
  | (apply ex_neqPf; rfl; rfl)
  | (apply ex_eqlNil; rfl; rfl)
  | (apply ex_max; rfl; rfl)
  | (apply ex_rem; rfl; rfl; first | decide | omega)
  | (apply ex_quo; rfl; rfl; first | decide | omega)) : Ex P N l C o v := h
/-- what stays -/
theorem STT {p : Prop} (h : p := by first | exact hH.drop_ | exact hH.pick MEMT | exact hH) : p := h
/-- a way that can't be -/
theorem FA {G : Prop} (h : G := by
  first
  | (exfalso; have h1 := of_decide_eq_true hg; omega)
  | (exfalso; have h1 := of_decide_eq_false hg; omega)
  | exact absurd hg (by decide)) : G := h
/-- a quiet operation -/
theorem QT {G G' : Prop} (k : G') (h : Wr G' → G := by
  intro k
  first
  | (apply st_ex hA hH rfl rfl (by decide); (first | exact EXT | exact EXT2); exact k.out)
  | (apply st_skip hA rfl rfl (by decide); exact k.out)
  | ((first | apply dr_ex hA rfl rfl rfl (by decide) | apply dr_exp hA rfl rfl rfl (by decide) | apply dr_ex3 hA hH rfl rfl rfl (by decide)); (first | exact EXT | exact EXT2); exact k.out)
  | ((first | apply dr_skip hA rfl rfl rfl (by decide) | apply dr_skip3 hA rfl rfl rfl (by decide)); exact k.out)) : G := h ⟨k⟩
/-- a guard's bool -/
theorem GT {G G1 G2 : Prop} (k1 : G1) (k2 : G2) (h : Wr G1 → Wr G2 → G := by
  intro k1 k2
  first
  | (apply st_exb hA hH rfl rfl (by decide) rfl (ex_move rfl); exact k1.out; exact k2.out)
  | (apply dr_exb hA rfl rfl rfl (by decide) rfl (ex_move rfl); exact k1.out; exact k2.out)) : G := h ⟨k1⟩ ⟨k2⟩
/-- one more step in the code -/
theorem CT {G G' : Prop} (k : G') (h : Wr G' → G := by
  intro k
  first
  | (apply wp_seq; exact k.out)
  | (apply wp_region_lit; exact k.out)
  | (apply st_nil; exact k.out)
  | (apply then_normal; exact k.out)
  | (apply wp_block; exact k.out)
  | (apply st_cond_t hA rfl; exact k.out)
  | (apply st_cond_f hA rfl; exact k.out)
  | (apply wp_ret; exact k.out)
  | (apply wp_skip; exact k.out)
  | (apply wp_exit; exact k.out)
  | (apply then_ret; exact k.out)
  | (apply then_exit; exact k.out)
  | (apply inB_normal; exact k.out)
  | (apply inB_ret; exact k.out)
  | (apply inB_eq; exact k.out)
  | (apply inB_ne rfl; exact k.out)
  | (apply dr_nil; exact k.out)
  | (apply dr_late; exact k.out)
  | (apply dr_nil2; exact k.out)
  | (apply wp_scope_straight; exact k.out)
  | (apply wp_label; exact k.out)
  | (apply ng_normal; exact k.out)
  | (apply ng_ret; exact k.out)) : G := h ⟨k⟩
/-- a choice -/
theorem DT {G G1 G2 : Prop} (k1 : G1) (k2 : G2) (h : Wr G1 → Wr G2 → G := by
  intro k1 k2
  first
  | (apply st_cond_d hA rfl; exact k1.out; exact k2.out)
  | (apply st_cond_nd hA rfl; exact k1.out; exact k2.out)
  | (apply st_cond hA rfl; exact k1.out; exact k2.out)) : G := h ⟨k1⟩ ⟨k2⟩
/-- a new block -/
theorem BT {G G' : Prop} (k : G') (h : Wr G' → G := by
  intro k
  apply st_op hA rfl rfl (by decide)
  (first | apply op_alloc | (apply op_box_agg; rfl) | (apply op_box1; rfl; rfl))
  exact hH
  exact k.out) : G := h ⟨k⟩
/-- a slice's literal -/
theorem LT {G G' : Prop} (k : G') (h : Wr G' → G := by
  intro k
  apply st_op hA rfl rfl (by decide)
  apply op_sliceLit
  rfl
  rfl
  exact CATST
  rfl
  rfl
  rfl
  exact hH
  exact k.out) : G := h ⟨k⟩
/-- append -/
theorem AT {G G' : Prop} (k : G') (h : Wr G' → G := by
  intro k
  apply st_op hA rfl rfl (by decide)
  apply op_append
  rfl
  rfl
  exact hH
  exact MEMT
  exact hH.own_rd (List.Mem.head _)
  rfl
  rfl
  decide
  rfl
  (unfold maxLen; omega)
  omega
  exact k.out) : G := h ⟨k⟩
/-- stores -/
theorem S0T {G G' : Prop} (k : G') (h : Wr G' → G := by
  intro k
  apply st_op0 hA rfl rfl
  (first | (apply op_store1; rfl; rfl; rfl; exact hH; (repeat constructor)) | (apply op_store_agg; rfl; rfl; exact hH; (repeat constructor); rfl; rfl; rfl))
  exact k.out) : G := h ⟨k⟩
/-- the same in a region that draws -/
theorem DSK {G G' : Prop} (k : G') (h : Wr G' → G := by
  intro k
  apply dr_opskip hA rfl rfl rfl (by decide) STT
  exact k.out) : G := h ⟨k⟩
theorem DLT {G G' : Prop} (k : G') (h : Wr G' → G := by
  intro k
  apply dr_op hA rfl rfl rfl (by decide)
  apply op_sliceLit
  rfl
  rfl
  exact CATST
  rfl
  rfl
  rfl
  exact hH
  exact k.out) : G := h ⟨k⟩
theorem DAT {G G' : Prop} (k : G') (h : Wr G' → G := by
  intro k
  apply dr_op hA rfl rfl rfl (by decide)
  apply op_append
  rfl
  rfl
  exact hH
  exact MEMT
  exact hH.own_rd (List.Mem.head _)
  rfl
  rfl
  decide
  rfl
  (unfold maxLen; omega)
  omega
  exact k.out) : G := h ⟨k⟩
end Go.Fw
namespace Go.Fw
open Go Go.RowKit
set_option linter.unusedVariables false
/-- a plan: one that may come first whatever else may come; the only one that may come; one of two -/
inductive Pl where
  | nil
  | q (i : Nat) (t : Pl)
  | one (i : Nat) (t : Pl)
  | two (i j : Nat) (t u : Pl)
def Pl.len : Pl → Nat
  | .nil => 0
  | .q _ t => t.len + 1
  | .one _ t => t.len + 1
  | .two _ _ t _ => t.len + 1
def qs : List Nat → Pl → Pl
  | [], t => t
  | i :: l, t => .q i (qs l t)
def okT (ops : Array Oper) : Pl → Array Bool → Bool
  | .nil, listed => decide (Region.ready .any ops listed = [])
  | .q i t, listed => (Region.ready .any ops listed).contains i && Region.free .any ops listed i && okT ops t (listed.setIfInBounds i true)
  | .one i t, listed => decide (Region.ready .any ops listed = [i]) && okT ops t (listed.setIfInBounds i true)
  | .two i j t u, listed => Nat.beq t.len u.len && decide (Region.ready .any ops listed = [i, j]) && okT ops t (listed.setIfInBounds i true) && okT ops u (listed.setIfInBounds j true)
def wkT (P : Program) (ops : Array Oper) (S : World → Prop) (Q : Exit → Act → World → Prop) (K : Act → World → Prop) : Pl → Act → World → Prop
  | .nil, a, w => K a w
  | .q i t, a, w => ∃ o v, ops[i]? = some o ∧ YieldsIf P ops S o v a ∧ wkT P ops S Q K t (a.put o.dst v) w
  | .one i t, a, w => wpOp P ops (NoPanic Q) i (fun a' w' => S w' ∧ wkT P ops S Q K t a' w') a w
  | .two i j t u, a, w => wpOp P ops (NoPanic Q) i (fun a' w' => S w' ∧ wkT P ops S Q K t a' w') a w ∧ wpOp P ops (NoPanic Q) j (fun a' w' => S w' ∧ wkT P ops S Q K u a' w') a w
section
variable {P : Program} {ops : Array Oper} {S : World → Prop} {Q : Exit → Act → World → Prop} {K : Act → World → Prop}
theorem wkT_any (hs : Region.noSelect ops = true) (hK : ∀ a w, K a w → Q .normal a w) : ∀ (t : Pl) (listed : Array Bool) (a : Act) (w : World),
    okT ops t listed = true → S w → wkT P ops S Q K t a w → wpAnyK P .any ops (NoPanic Q) S (fun _ => true) t.len listed a w
  | .nil, listed, a, w, hok, hS, h => ⟨of_decide_eq_true hok, hK a w h⟩
  | .q i t, listed, a, w, hok, hS, h => by
    simp only [okT, Bool.and_eq_true] at hok
    obtain ⟨⟨hr, hf⟩, hok'⟩ := hok
    obtain ⟨o, v, hi, hy, hk⟩ := h
    exact wpAnyK.first hi (Region.noSelect_spec hs) (fun c a w h => h) _ listed a w (fun j hF => by cases hF) (Region.free_spec hi hf) (by simpa using hr) hy hS (wkT_any hs hK t _ _ w hok' hS hk)
  | .one i t, listed, a, w, hok, hS, h => by
    simp only [okT, Bool.and_eq_true, decide_eq_true_eq] at hok
    refine ⟨fun h0 => (by rw [hok.1] at h0; cases h0), fun j hj => ?_⟩
    rw [hok.1] at hj
    obtain rfl : j = i := by simpa using hj
    exact wpOp_mono (fun a' w' ⟨hS', h'⟩ => ⟨fun _ _ => hS', wkT_any hs hK t _ a' w' hok.2 hS' h'⟩) h
  | .two i k t u, listed, a, w, hok, hS, h => by
    simp only [okT, Bool.and_eq_true, decide_eq_true_eq] at hok
    obtain ⟨⟨⟨hl, hr⟩, ht⟩, hu⟩ := hok
    have hl := Nat.eq_of_beq_eq_true hl
    refine ⟨fun h0 => (by rw [hr] at h0; cases h0), fun j hj => ?_⟩
    rw [hr] at hj
    rcases (by simpa using hj : j = i ∨ j = k) with rfl | rfl
    · exact wpOp_mono (fun a' w' ⟨hS', h'⟩ => ⟨fun _ _ => hS', wkT_any hs hK t _ a' w' ht hS' h'⟩) h.1
    · exact wpOp_mono (fun a' w' ⟨hS', h'⟩ => ⟨fun _ _ => hS', by rw [hl]; exact wkT_any hs hK u _ a' w' hu hS' h'⟩) h.2
end
/-- a region that draws, by a plan; behind it R holds -/
theorem wp_drawT {P : Program} {id : Nat} {ops : List Oper} {Q : Exit → Act → World → Prop} {a : Act} {w0 w : World} {M : Nat → Prop} {H : List It} (t : Pl) (R : Act → World → Prop) (hm : P.follows .mixedOrders = true)
    (hok : (Region.noSelect ops.toArray && Nat.beq t.len ops.length && okT ops.toArray t (Array.replicate ops.length false)) = true) (hH : HS w0 M H w)
    (h : wkT P ops.toArray (HS w0 M H) Q R t a w.drew) (k : ∀ a w, R a w → Q .normal a w) : (Code.region id ops.toArray true).wp P Q a w := by
  simp only [Bool.and_eq_true] at hok
  obtain ⟨⟨hs, hl⟩, hok⟩ := hok
  have hl' : t.len = ops.toArray.size := by simpa using Nat.eq_of_beq_eq_true hl
  have := wkT_any (P := P) (Q := Q) hs k t _ a w.drew hok hH.drew h
  rw [hl'] at this
  refine wp_region_noPanic (wp_region_any hm (wpAnyK.any (S := HS w0 M H) (F := fun _ => true) _ _ _ _ ?_))
  simpa using this
section
variable {P : Program} {N : Nat} {l : List (Nat × Value)} {a : Act} {w : World} {ops : Array Oper} {S : World → Prop} {Q : Exit → Act → World → Prop} {K : Act → World → Prop} {i j : Nat} {t u : Pl}
theorem dt_nil (h : K a w) : wkT P ops S Q K .nil a w := h
theorem dt_ex {o : Oper} {d : Nat} {v : Value} (hA : Sl N l a) (hi : ops[i]? = some o) (hg : gd ops l o.guard = some true) (hd : o.dst = some d) (hdN : d < N)
    (h : Ex P N l S o v) (k' : ∀ a', Sl N ((d, v) :: l) a' → wkT P ops S Q K t a' w) : wkT P ops S Q K (.q i t) a w := by
  refine ⟨o, v, hi, .inl ⟨hA.gd hg, fun w' hS => h a w' hA hS⟩, ?_⟩
  rw [hd]
  exact k' _ (hA.put hdN v)
theorem dt_op {o : Oper} {d : Nat} {R : Value → World → Prop} (hA : Sl N l a) (hi : ops[i]? = some o) (hg : gd ops l o.guard = some true) (hd : o.dst = some d) (hdN : d < N)
    (h : Op1 P N l o w R) (k : ∀ v w', R v w' → S w' ∧ ∀ a', Sl N ((d, v) :: l) a' → wkT P ops S Q K t a' w') : wkT P ops S Q K (.one i t) a w := by
  unfold wkT wpOp
  simp only [hi, hA.gd hg, if_true]
  refine .inl (h a hA _ _ fun v w' hR => ?_)
  rw [hd]
  exact ⟨(k v w' hR).1, (k v w' hR).2 _ (hA.put hdN v)⟩
theorem dt_op0 {o : Oper} {R : Value → World → Prop} (hA : Sl N l a) (hi : ops[i]? = some o) (hg : gd ops l o.guard = some true) (hd : o.dst = none)
    (h : Op1 P N l o w R) (k : ∀ v w', R v w' → S w' ∧ wkT P ops S Q K t a w') : wkT P ops S Q K (.one i t) a w := by
  unfold wkT wpOp
  simp only [hi, hA.gd hg, if_true]
  refine .inl (h a hA _ _ fun v w' hR => ?_)
  rw [hd]
  exact k v w' hR
/-- one of two: each as if it were the only one -/
theorem dt_two (h1 : wkT P ops S Q K (.one i t) a w) (h2 : wkT P ops S Q K (.one j u) a w) : wkT P ops S Q K (.two i j t u) a w := ⟨h1, h2⟩
end
end Go.Fw
namespace Go.Fw
open Go Go.RowKit
set_option linter.unusedVariables false
def bts (s : ByteArray) : List Nat := s.data.toList.map (·.toNat)
theorem bts_len (s : ByteArray) : (bts s).length = s.size := by simp [bts]
section
variable {P : Program} {N : Nat} {l : List (Nat × Value)} {C : World → Prop} {d : Option Tmp} {T : TypeId} {pos : String} {af : Array Edge} {g : Option (Nat × Bool)}
theorem ex_len_string {t : TypeId} {x : Operand} {s : ByteArray} [ht : TSr P t] (hx : ev l x = some (.string s)) :
    Ex P N l C ⟨d, .call ⟨.builtin .len, #[x], #[t]⟩, T, pos, af, g⟩ (.int .i64 (bts s).length) := by
  intro a w hA _
  rw [bts_len]
  simp [execOp, resolve, invoke, builtin, Builtin.len_, hA.ev hx, run_underlying ht.eq, goInt]
theorem ex_neqS {t ty : TypeId} {x y : Operand} {m n : ByteArray} [h : TSr P t] (hx : ev l x = some (.string m)) (hy : ev l y = some (.string n)) : Ex P N l C ⟨d, .binOp .neq t x y ty, T, pos, af, g⟩ (.bool (!(m.toList == n.toList))) := by
  intro a w hA _
  simp [execOp, hA.ev hx, hA.ev hy, eqGuard_at_string, binOp, Op.stringOp]
theorem ex_eqlS {t ty : TypeId} {x y : Operand} {m n : ByteArray} [h : TSr P t] (hx : ev l x = some (.string m)) (hy : ev l y = some (.string n)) : Ex P N l C ⟨d, .binOp .eql t x y ty, T, pos, af, g⟩ (.bool (m.toList == n.toList)) := by
  intro a w hA _
  simp [execOp, hA.ev hx, hA.ev hy, eqGuard_at_string, binOp, Op.stringOp]
end
end Go.Fw
namespace Go.Fw
open Go Go.RowKit
set_option linter.unusedVariables false
/-- a struct that is handed back out of its cell, and one value more -/
theorem rt2c {P : Program} {N : Nat} {l : List (Nat × Value)} {a : Act} {w : World} {C : World → Prop} {fn : Func} {R : Value → World → Prop} {p u : Tmp} {ty sz by_ : Nat} {z : Value} {zs : List Value} {fl : List (Nat × Nat)} {q : Addr} {vs : List Value} {v2 : Value} {e : Exit} [h0 : TSt P ty fl] [hi : TIf P ty z zs sz by_] (he : e = .ret ∨ e = .normal) (hr : fn.results = #[.cell p ty, .tmp u]) (hA : Sl N l a)
    (hp : lk l p = some (.pointer (some q))) (hv2 : lk l u = some v2) (hl : vs.length = sz) (hC : C w) (hc : Cls C q vs) (h : R (.tuple #[.agg vs.toArray, v2]) w) : bodyPost P fn (fun e w' => ∃ v, e = .returned v ∧ R v w') e a w := by
  have hg : a.tmps.getD p undef = .pointer (some q) := by simp [Array.getD_eq_getD_getElem?, hA.get p _ hp]
  have hg2 : a.tmps.getD u undef = v2 := by simp [Array.getD_eq_getD_getElem?, hA.get u v2 hv2]
  obtain ⟨ti, h3, h4, h5, h6⟩ := hi.eq
  have hrun : (results fn a.tmps).run P w = .ok (.tuple #[.agg vs.toArray, v2]) w := by
    rw [results_cell_tmp hr, hg, hg2]
    simp [asAddr, loadVar, run_isAgg_st, sizeOf, typeInfo, h3, h5, ← hl, run_loadCells_list w q vs (hc w hC), Result.andThen]
  rcases he with rfl | rfl
  · exact bodyPost_ret hrun hA.defers ⟨_, rfl, h⟩
  · exact bodyPost_end hrun hA.defers ⟨_, rfl, h⟩
end Go.Fw
namespace Go.Fw
open Go Go.RowKit
set_option linter.unusedVariables false
/-- blocks of which so much is known, whatever stands elsewhere -/
def fzI (K : World → Prop) : It where
  sat w F := (∀ b, F b → b < w.heap.size) ∧ ∀ w' : World, (∀ b, F b → w'.heap[b]? = w.heap[b]?) → K w'
  loc := fun {w w' F} ⟨h1, h2⟩ he => ⟨fun b hb => by
    have h3 := he b hb
    rw [Array.getElem?_eq_getElem (h1 b hb)] at h3
    exact lt_of_heap h3, fun w2 h3 => h2 w2 fun b hb => (h3 b hb).trans (he b hb)⟩
  lt := fun ⟨h1, _⟩ b hb => h1 b hb
  ext := fun ⟨h1, h2⟩ he => ⟨fun b hb => h1 b ((he b).2 hb), fun w' h3 => h2 w' fun b hb => h3 b ((he b).1 hb)⟩
section
variable {w0 w w' : World} {M : Nat → Prop} {H L : List It} {K K1 K2 : World → Prop}
theorem fz_sat {F : Nat → Prop} (h : (fzI K).sat w F) : K w := h.2 w fun _ _ => rfl
theorem HS.fz (h : HS w0 M H w) (hm : fzI K ∈ H) : K w :=
  let ⟨_, hF⟩ := h.sat hm
  fz_sat hF
end
end Go.Fw
namespace Go.Proofs.Ytcododdkjppmjaa
open Go Go.Fw
set_option linter.unusedVariables false
/-- a pattern, with where its labels and its parts lie -/
inductive AP where
  | mk (k v n : Int) (s : ByteArray) (ol : Option Addr) (cl : Nat) (ls : List ByteArray) (oa : Option Addr) (ca : Nat) (ps : List AP)
namespace AP
def k : AP → Int | mk k _ _ _ _ _ _ _ _ _ => k
def v : AP → Int | mk _ v _ _ _ _ _ _ _ _ => v
def n : AP → Int | mk _ _ n _ _ _ _ _ _ _ => n
def s : AP → ByteArray | mk _ _ _ s _ _ _ _ _ _ => s
def ls : AP → List ByteArray | mk _ _ _ _ _ _ ls _ _ _ => ls
def ps : AP → List AP | mk _ _ _ _ _ _ _ _ _ ps => ps
end AP
def encX (s : ByteArray) : List Value := [.string s]
theorem encX_len (s : ByteArray) : (encX s).length = 1 := rfl
def encA : AP → List Value
  | .mk k v n s ol cl ls oa ca ps => [.int .i64 k, .int .i64 v, .int .i64 n, .string s, .slice ol ls.length cl, .slice oa ps.length ca]
theorem encA_len : ∀ p : AP, (encA p).length = 6
  | .mk .. => rfl
/-- a pattern that can be read -/
inductive RdA (w : World) : AP → Prop
  | mk {k v n : Int} {s : ByteArray} {ol : Option Addr} {cl : Nat} {ls : List ByteArray} {oa : Option Addr} {ca : Nat} {ps : List AP} (h1 : Rd w ol (flat encX ls)) (h2 : Rd w oa (flat encA ps)) (h3 : ls.length ≤ cl ∧ cl ≤ maxLen ∧ ps.length ≤ ca ∧ ca ≤ maxLen) (h4 : ∀ a ∈ ps, RdA w a) : RdA w (.mk k v n s ol cl ls oa ca ps)
theorem RdA.keep {w w' : World} {p : AP} (h : RdA w p) (hk : Kp w noM w') : RdA w' p := by
  have hH : HS w noM [] w' := (HS.init w noM).keep hk
  induction h with
  | mk h1 h2 h3 h4 ih => exact .mk (hH.rd h1 id) (hH.rd h2 id) h3 ih
mutual
/-- how many parts, up to a bound -/
def partsP : AP → Int → Int
  | .mk _ _ _ _ _ _ _ _ _ ps, most => partsL ps most 1
def partsL : List AP → Int → Int → Int
  | [], _, n => n
  | a :: ps, most, n => partsL ps most (if n ≤ most then n + partsP a (most - n) else n)
end
def hasX (l : List ByteArray) (x : ByteArray) : Bool := l.any fun y => decide (y = x)
/-- are labels such as they may be: ahead of these those -/
def labsP : List ByteArray → List ByteArray → Bool
  | _, [] => true
  | pre, x :: ls => !(x.size == 0) && !hasX pre x && labsP (pre ++ [x]) ls
/-- a pattern's form, but for its labels and its parts -/
def Shape (k v n : Int) (sz nl na : Nat) : Prop :=
  1 ≤ k ∧ k ≤ 9 ∧ (k = 8 → na = 1) ∧ (k = 9 → na = nl) ∧ (k ≠ 8 ∧ k ≠ 9 → na = 0) ∧ (k ≠ 9 → nl = 0) ∧ (v = 0 ∨ k = 2) ∧ (k = 7 ∨ k = 8 → sz ≠ 0) ∧ (k = 4 → sz ≤ 4096) ∧ (k ≠ 4 ∧ k ≠ 7 ∧ k ≠ 8 → sz = 0) ∧
    (k = 3 → -4611686018427387904 ≤ n ∧ n ≤ 4611686018427387903) ∧ (k = 5 → n = 0 ∨ n = 1) ∧ (k ≠ 3 ∧ k ≠ 5 → n = 0)
instance (k v n : Int) (sz nl na : Nat) : Decidable (Shape k v n sz nl na) := by unfold Shape; infer_instance
mutual
def formP : AP → Bool
  | .mk k v n s _ _ ls _ _ ps => decide (Shape k v n s.size ls.length ps.length) && labsP [] ls && formL ps
def formL : List AP → Bool
  | [] => true
  | a :: ps => formP a && formL ps
end
theorem partsL_le : ∀ (ps : List AP) (most n : Int), most < n → partsL ps most n = n
  | [], _, _, _ => rfl
  | a :: ps, most, n, h => by
    rw [partsL, if_neg (by omega)]
    exact partsL_le ps most n h
mutual
theorem partsP_pos : ∀ (p : AP) (most : Int), 1 ≤ partsP p most
  | .mk _ _ _ _ _ _ _ _ _ ps, most => by rw [partsP]; exact partsL_pos ps most 1
theorem partsL_pos : ∀ (ps : List AP) (most n : Int), n ≤ partsL ps most n
  | [], _, _ => Int.le_refl _
  | a :: ps, most, n => by
    rw [partsL]
    split
    · have h1 := partsP_pos a (most - n)
      have h2 := partsL_pos ps most (n + partsP a (most - n))
      omega
    · exact partsL_pos ps most n
end
end Go.Proofs.Ytcododdkjppmjaa
namespace Go.Proofs.Ytcododdkjppmjaa
open Go Go.Fw
set_option maxRecDepth 100000
instance : TSc Try.prog 1 := ⟨_, Try.underlying1, rfl⟩
instance : TIf Try.prog 1 .nilFunc [.nilFunc] 1 8 := ⟨⟨Try.t1, rfl, rfl, rfl, rfl⟩, rfl⟩
instance : TSc Try.prog 2 := ⟨_, Try.underlying2, rfl⟩
instance : TIn Try.prog 2 .i64 := ⟨Try.underlying2⟩
instance : TIf Try.prog 2 (.int .i64 0) [(.int .i64 0)] 1 8 := ⟨⟨Try.t2, rfl, rfl, rfl, rfl⟩, rfl⟩
instance : TSc Try.prog 3 := ⟨_, Try.underlying3, rfl⟩
instance : TIn Try.prog 3 .i64 := ⟨Try.underlying3⟩
instance : TIf Try.prog 3 (.int .i64 0) [(.int .i64 0)] 1 8 := ⟨⟨Try.t3, rfl, rfl, rfl, rfl⟩, rfl⟩
instance : TSc Try.prog 4 := ⟨_, Try.underlying4, rfl⟩
instance : TBo Try.prog 4 := ⟨Try.underlying4⟩
instance : TIf Try.prog 4 (.bool false) [(.bool false)] 1 1 := ⟨⟨Try.t4, rfl, rfl, rfl, rfl⟩, rfl⟩
instance : TSc Try.prog 5 := ⟨_, Try.underlying5, rfl⟩
instance : TIn Try.prog 5 .u8 := ⟨Try.underlying5⟩
instance : TIf Try.prog 5 (.int .u8 0) [(.int .u8 0)] 1 1 := ⟨⟨Try.t5, rfl, rfl, rfl, rfl⟩, rfl⟩
instance : TSc Try.prog 6 := ⟨_, Try.underlying6, rfl⟩
instance : TIn Try.prog 6 .u8 := ⟨Try.underlying6⟩
instance : TIf Try.prog 6 (.int .u8 0) [(.int .u8 0)] 1 1 := ⟨⟨Try.t6, rfl, rfl, rfl, rfl⟩, rfl⟩
instance : TSt Try.prog 7 [(2, 0), (3, 1), (4, 2), (6, 3)] := ⟨⟨_, Try.underlying7, rfl⟩, List.forall_mem_cons.2 ⟨⟨Try.t2, rfl, by decide⟩, List.forall_mem_cons.2 ⟨⟨Try.t3, rfl, by decide⟩, List.forall_mem_cons.2 ⟨⟨Try.t4, rfl, by decide⟩, List.forall_mem_cons.2 ⟨⟨Try.t6, rfl, by decide⟩, nofun⟩⟩⟩⟩⟩
instance : TIf Try.prog 7 (.agg #[(.int .i64 0), (.int .i64 0), (.bool false), (.int .u8 0)]) [(.int .i64 0), (.int .i64 0), (.bool false), (.int .u8 0)] 4 24 := ⟨⟨Try.t7, rfl, rfl, rfl, rfl⟩, rfl⟩
instance : TSt Try.prog 8 [(2, 0), (3, 1), (4, 2), (6, 3)] := ⟨⟨_, Try.underlying8, rfl⟩, List.forall_mem_cons.2 ⟨⟨Try.t2, rfl, by decide⟩, List.forall_mem_cons.2 ⟨⟨Try.t3, rfl, by decide⟩, List.forall_mem_cons.2 ⟨⟨Try.t4, rfl, by decide⟩, List.forall_mem_cons.2 ⟨⟨Try.t6, rfl, by decide⟩, nofun⟩⟩⟩⟩⟩
instance : TIf Try.prog 8 (.agg #[(.int .i64 0), (.int .i64 0), (.bool false), (.int .u8 0)]) [(.int .i64 0), (.int .i64 0), (.bool false), (.int .u8 0)] 4 24 := ⟨⟨Try.t8, rfl, rfl, rfl, rfl⟩, rfl⟩
instance : TSc Try.prog 9 := ⟨_, Try.underlying9, rfl⟩
instance : TSr Try.prog 9 := ⟨Try.underlying9⟩
instance : TIf Try.prog 9 (.string ByteArray.empty) [(.string ByteArray.empty)] 1 16 := ⟨⟨Try.t9, rfl, rfl, rfl, rfl⟩, rfl⟩
instance : TSc Try.prog 10 := ⟨_, Try.underlying10, rfl⟩
instance : TSr Try.prog 10 := ⟨Try.underlying10⟩
instance : TIf Try.prog 10 (.string ByteArray.empty) [(.string ByteArray.empty)] 1 16 := ⟨⟨Try.t10, rfl, rfl, rfl, rfl⟩, rfl⟩
instance : TSc Try.prog 11 := ⟨_, Try.underlying11, rfl⟩
instance : TSr Try.prog 11 := ⟨Try.underlying11⟩
instance : TIf Try.prog 11 (.string ByteArray.empty) [(.string ByteArray.empty)] 1 16 := ⟨⟨Try.t11, rfl, rfl, rfl, rfl⟩, rfl⟩
instance : TSc Try.prog 12 := ⟨_, Try.underlying12, rfl⟩
instance : TIn Try.prog 12 .u64 := ⟨Try.underlying12⟩
instance : TIf Try.prog 12 (.int .u64 0) [(.int .u64 0)] 1 8 := ⟨⟨Try.t12, rfl, rfl, rfl, rfl⟩, rfl⟩
instance : TSt Try.prog 13 [(9, 0), (12, 1)] := ⟨⟨_, Try.underlying13, rfl⟩, List.forall_mem_cons.2 ⟨⟨Try.t9, rfl, by decide⟩, List.forall_mem_cons.2 ⟨⟨Try.t12, rfl, by decide⟩, nofun⟩⟩⟩
instance : TIf Try.prog 13 (.agg #[(.string ByteArray.empty), (.int .u64 0)]) [(.string ByteArray.empty), (.int .u64 0)] 2 24 := ⟨⟨Try.t13, rfl, rfl, rfl, rfl⟩, rfl⟩
instance : TSt Try.prog 14 [(9, 0), (12, 1)] := ⟨⟨_, Try.underlying14, rfl⟩, List.forall_mem_cons.2 ⟨⟨Try.t9, rfl, by decide⟩, List.forall_mem_cons.2 ⟨⟨Try.t12, rfl, by decide⟩, nofun⟩⟩⟩
instance : TIf Try.prog 14 (.agg #[(.string ByteArray.empty), (.int .u64 0)]) [(.string ByteArray.empty), (.int .u64 0)] 2 24 := ⟨⟨Try.t14, rfl, rfl, rfl, rfl⟩, rfl⟩
instance : TSc Try.prog 15 := ⟨_, Try.underlying15, rfl⟩
instance : TPt Try.prog 15 := ⟨by unfold Program.pointee; rw [Try.underlying15]⟩
instance : TIf Try.prog 15 (.pointer none) [(.pointer none)] 1 8 := ⟨⟨Try.t15, rfl, rfl, rfl, rfl⟩, rfl⟩
instance : TSc Try.prog 16 := ⟨_, Try.underlying16, rfl⟩
instance : TPt Try.prog 16 := ⟨by unfold Program.pointee; rw [Try.underlying16]⟩
instance : TIf Try.prog 16 (.pointer none) [(.pointer none)] 1 8 := ⟨⟨Try.t16, rfl, rfl, rfl, rfl⟩, rfl⟩
instance : TSc Try.prog 17 := ⟨_, Try.underlying17, rfl⟩
instance : TPt Try.prog 17 := ⟨by unfold Program.pointee; rw [Try.underlying17]⟩
instance : TIf Try.prog 17 (.pointer none) [(.pointer none)] 1 8 := ⟨⟨Try.t17, rfl, rfl, rfl, rfl⟩, rfl⟩
instance : TSt Try.prog 18 [(17, 0)] := ⟨⟨_, Try.underlying18, rfl⟩, List.forall_mem_cons.2 ⟨⟨Try.t17, rfl, by decide⟩, nofun⟩⟩
instance : TIf Try.prog 18 (.agg #[(.pointer none)]) [(.pointer none)] 1 8 := ⟨⟨Try.t18, rfl, rfl, rfl, rfl⟩, rfl⟩
instance : TSt Try.prog 19 [(17, 0)] := ⟨⟨_, Try.underlying19, rfl⟩, List.forall_mem_cons.2 ⟨⟨Try.t17, rfl, by decide⟩, nofun⟩⟩
instance : TIf Try.prog 19 (.agg #[(.pointer none)]) [(.pointer none)] 1 8 := ⟨⟨Try.t19, rfl, rfl, rfl, rfl⟩, rfl⟩
instance : TSc Try.prog 20 := ⟨_, Try.underlying20, rfl⟩
instance : TIf Try.prog 20 .nilIface [.nilIface] 1 16 := ⟨⟨Try.t20, rfl, rfl, rfl, rfl⟩, rfl⟩
instance : TSc Try.prog 21 := ⟨_, Try.underlying21, rfl⟩
instance : TIn Try.prog 21 .i32 := ⟨Try.underlying21⟩
instance : TIf Try.prog 21 (.int .i32 0) [(.int .i32 0)] 1 4 := ⟨⟨Try.t21, rfl, rfl, rfl, rfl⟩, rfl⟩
instance : TSc Try.prog 22 := ⟨_, Try.underlying22, rfl⟩
instance : TSl Try.prog 22 38 := ⟨Try.underlying22⟩
instance : TIf Try.prog 22 (.slice none 0 0) [(.slice none 0 0)] 1 24 := ⟨⟨Try.t22, rfl, rfl, rfl, rfl⟩, rfl⟩
instance : TSc Try.prog 23 := ⟨_, Try.underlying23, rfl⟩
instance : TIf Try.prog 23 .nilFunc [.nilFunc] 1 8 := ⟨⟨Try.t23, rfl, rfl, rfl, rfl⟩, rfl⟩
instance : TSc Try.prog 24 := ⟨_, Try.underlying24, rfl⟩
instance : TSl Try.prog 24 72 := ⟨Try.underlying24⟩
instance : TIf Try.prog 24 (.slice none 0 0) [(.slice none 0 0)] 1 24 := ⟨⟨Try.t24, rfl, rfl, rfl, rfl⟩, rfl⟩
instance : TSc Try.prog 25 := ⟨_, Try.underlying25, rfl⟩
instance : TSl Try.prog 25 9 := ⟨Try.underlying25⟩
instance : TIf Try.prog 25 (.slice none 0 0) [(.slice none 0 0)] 1 24 := ⟨⟨Try.t25, rfl, rfl, rfl, rfl⟩, rfl⟩
instance : TSc Try.prog 26 := ⟨_, Try.underlying26, rfl⟩
instance : TSl Try.prog 26 75 := ⟨Try.underlying26⟩
instance : TIf Try.prog 26 (.slice none 0 0) [(.slice none 0 0)] 1 24 := ⟨⟨Try.t26, rfl, rfl, rfl, rfl⟩, rfl⟩
instance : TSc Try.prog 27 := ⟨_, Try.underlying27, rfl⟩
instance : TSl Try.prog 27 29 := ⟨Try.underlying27⟩
instance : TIf Try.prog 27 (.slice none 0 0) [(.slice none 0 0)] 1 24 := ⟨⟨Try.t27, rfl, rfl, rfl, rfl⟩, rfl⟩
instance : TSt Try.prog 28 [(3, 0), (3, 1), (24, 2), (25, 3), (26, 4), (27, 5)] := ⟨⟨_, Try.underlying28, rfl⟩, List.forall_mem_cons.2 ⟨⟨Try.t3, rfl, by decide⟩, List.forall_mem_cons.2 ⟨⟨Try.t3, rfl, by decide⟩, List.forall_mem_cons.2 ⟨⟨Try.t24, rfl, by decide⟩, List.forall_mem_cons.2 ⟨⟨Try.t25, rfl, by decide⟩, List.forall_mem_cons.2 ⟨⟨Try.t26, rfl, by decide⟩, List.forall_mem_cons.2 ⟨⟨Try.t27, rfl, by decide⟩, nofun⟩⟩⟩⟩⟩⟩⟩
instance : TIf Try.prog 28 (.agg #[(.int .i64 0), (.int .i64 0), (.slice none 0 0), (.slice none 0 0), (.slice none 0 0), (.slice none 0 0)]) [(.int .i64 0), (.int .i64 0), (.slice none 0 0), (.slice none 0 0), (.slice none 0 0), (.slice none 0 0)] 6 112 := ⟨⟨Try.t28, rfl, rfl, rfl, rfl⟩, rfl⟩
instance : TSt Try.prog 29 [(3, 0), (3, 1), (24, 2), (25, 3), (26, 4), (27, 5)] := ⟨⟨_, Try.underlying29, rfl⟩, List.forall_mem_cons.2 ⟨⟨Try.t3, rfl, by decide⟩, List.forall_mem_cons.2 ⟨⟨Try.t3, rfl, by decide⟩, List.forall_mem_cons.2 ⟨⟨Try.t24, rfl, by decide⟩, List.forall_mem_cons.2 ⟨⟨Try.t25, rfl, by decide⟩, List.forall_mem_cons.2 ⟨⟨Try.t26, rfl, by decide⟩, List.forall_mem_cons.2 ⟨⟨Try.t27, rfl, by decide⟩, nofun⟩⟩⟩⟩⟩⟩⟩
instance : TIf Try.prog 29 (.agg #[(.int .i64 0), (.int .i64 0), (.slice none 0 0), (.slice none 0 0), (.slice none 0 0), (.slice none 0 0)]) [(.int .i64 0), (.int .i64 0), (.slice none 0 0), (.slice none 0 0), (.slice none 0 0), (.slice none 0 0)] 6 112 := ⟨⟨Try.t29, rfl, rfl, rfl, rfl⟩, rfl⟩
instance : TSc Try.prog 30 := ⟨_, Try.underlying30, rfl⟩
instance : TIn Try.prog 30 .i64 := ⟨Try.underlying30⟩
instance : TIf Try.prog 30 (.int .i64 0) [(.int .i64 0)] 1 8 := ⟨⟨Try.t30, rfl, rfl, rfl, rfl⟩, rfl⟩
instance : TSc Try.prog 32 := ⟨_, Try.underlying32, rfl⟩
instance : TIf Try.prog 32 .nilFunc [.nilFunc] 1 8 := ⟨⟨Try.t32, rfl, rfl, rfl, rfl⟩, rfl⟩
instance : TSc Try.prog 33 := ⟨_, Try.underlying33, rfl⟩
instance : TIf Try.prog 33 .nilFunc [.nilFunc] 1 8 := ⟨⟨Try.t33, rfl, rfl, rfl, rfl⟩, rfl⟩
instance : TSc Try.prog 34 := ⟨_, Try.underlying34, rfl⟩
instance : TIf Try.prog 34 .nilFunc [.nilFunc] 1 8 := ⟨⟨Try.t34, rfl, rfl, rfl, rfl⟩, rfl⟩
instance : TSc Try.prog 35 := ⟨_, Try.underlying35, rfl⟩
instance : TPt Try.prog 35 := ⟨by unfold Program.pointee; rw [Try.underlying35]⟩
instance : TIf Try.prog 35 (.pointer none) [(.pointer none)] 1 8 := ⟨⟨Try.t35, rfl, rfl, rfl, rfl⟩, rfl⟩
instance : TSc Try.prog 36 := ⟨_, Try.underlying36, rfl⟩
instance : TIf Try.prog 36 .nilFunc [.nilFunc] 1 8 := ⟨⟨Try.t36, rfl, rfl, rfl, rfl⟩, rfl⟩
instance : TSt Try.prog 37 [(3, 0), (3, 1), (2, 2), (9, 3), (25, 4), (22, 5)] := ⟨⟨_, Try.underlying37, rfl⟩, List.forall_mem_cons.2 ⟨⟨Try.t3, rfl, by decide⟩, List.forall_mem_cons.2 ⟨⟨Try.t3, rfl, by decide⟩, List.forall_mem_cons.2 ⟨⟨Try.t2, rfl, by decide⟩, List.forall_mem_cons.2 ⟨⟨Try.t9, rfl, by decide⟩, List.forall_mem_cons.2 ⟨⟨Try.t25, rfl, by decide⟩, List.forall_mem_cons.2 ⟨⟨Try.t22, rfl, by decide⟩, nofun⟩⟩⟩⟩⟩⟩⟩
instance : TIf Try.prog 37 (.agg #[(.int .i64 0), (.int .i64 0), (.int .i64 0), (.string ByteArray.empty), (.slice none 0 0), (.slice none 0 0)]) [(.int .i64 0), (.int .i64 0), (.int .i64 0), (.string ByteArray.empty), (.slice none 0 0), (.slice none 0 0)] 6 88 := ⟨⟨Try.t37, rfl, rfl, rfl, rfl⟩, rfl⟩
instance : TSt Try.prog 38 [(3, 0), (3, 1), (2, 2), (9, 3), (25, 4), (22, 5)] := ⟨⟨_, Try.underlying38, rfl⟩, List.forall_mem_cons.2 ⟨⟨Try.t3, rfl, by decide⟩, List.forall_mem_cons.2 ⟨⟨Try.t3, rfl, by decide⟩, List.forall_mem_cons.2 ⟨⟨Try.t2, rfl, by decide⟩, List.forall_mem_cons.2 ⟨⟨Try.t9, rfl, by decide⟩, List.forall_mem_cons.2 ⟨⟨Try.t25, rfl, by decide⟩, List.forall_mem_cons.2 ⟨⟨Try.t22, rfl, by decide⟩, nofun⟩⟩⟩⟩⟩⟩⟩
instance : TIf Try.prog 38 (.agg #[(.int .i64 0), (.int .i64 0), (.int .i64 0), (.string ByteArray.empty), (.slice none 0 0), (.slice none 0 0)]) [(.int .i64 0), (.int .i64 0), (.int .i64 0), (.string ByteArray.empty), (.slice none 0 0), (.slice none 0 0)] 6 88 := ⟨⟨Try.t38, rfl, rfl, rfl, rfl⟩, rfl⟩
instance : TSc Try.prog 39 := ⟨_, Try.underlying39, rfl⟩
instance : TIf Try.prog 39 .nilFunc [.nilFunc] 1 8 := ⟨⟨Try.t39, rfl, rfl, rfl, rfl⟩, rfl⟩
instance : TSc Try.prog 40 := ⟨_, Try.underlying40, rfl⟩
instance : TIf Try.prog 40 .nilFunc [.nilFunc] 1 8 := ⟨⟨Try.t40, rfl, rfl, rfl, rfl⟩, rfl⟩
instance : TSc Try.prog 41 := ⟨_, Try.underlying41, rfl⟩
instance : TIf Try.prog 41 .nilFunc [.nilFunc] 1 8 := ⟨⟨Try.t41, rfl, rfl, rfl, rfl⟩, rfl⟩
instance : TSc Try.prog 42 := ⟨_, Try.underlying42, rfl⟩
instance : TIf Try.prog 42 .nilFunc [.nilFunc] 1 8 := ⟨⟨Try.t42, rfl, rfl, rfl, rfl⟩, rfl⟩
instance : TSc Try.prog 43 := ⟨_, Try.underlying43, rfl⟩
instance : TIf Try.prog 43 .nilFunc [.nilFunc] 1 8 := ⟨⟨Try.t43, rfl, rfl, rfl, rfl⟩, rfl⟩
instance : TSc Try.prog 45 := ⟨_, Try.underlying45, rfl⟩
instance : TIf Try.prog 45 .nilFunc [.nilFunc] 1 8 := ⟨⟨Try.t45, rfl, rfl, rfl, rfl⟩, rfl⟩
instance : TSc Try.prog 46 := ⟨_, Try.underlying46, rfl⟩
instance : TIf Try.prog 46 .nilFunc [.nilFunc] 1 8 := ⟨⟨Try.t46, rfl, rfl, rfl, rfl⟩, rfl⟩
instance : TSc Try.prog 47 := ⟨_, Try.underlying47, rfl⟩
instance : TIf Try.prog 47 .nilFunc [.nilFunc] 1 8 := ⟨⟨Try.t47, rfl, rfl, rfl, rfl⟩, rfl⟩
instance : TSc Try.prog 48 := ⟨_, Try.underlying48, rfl⟩
instance : TIf Try.prog 48 .nilFunc [.nilFunc] 1 8 := ⟨⟨Try.t48, rfl, rfl, rfl, rfl⟩, rfl⟩
instance : TSc Try.prog 49 := ⟨_, Try.underlying49, rfl⟩
instance : TSl Try.prog 49 52 := ⟨Try.underlying49⟩
instance : TIf Try.prog 49 (.slice none 0 0) [(.slice none 0 0)] 1 24 := ⟨⟨Try.t49, rfl, rfl, rfl, rfl⟩, rfl⟩
instance : TSc Try.prog 50 := ⟨_, Try.underlying50, rfl⟩
instance : TSl Try.prog 50 55 := ⟨Try.underlying50⟩
instance : TIf Try.prog 50 (.slice none 0 0) [(.slice none 0 0)] 1 24 := ⟨⟨Try.t50, rfl, rfl, rfl, rfl⟩, rfl⟩
instance : TSt Try.prog 51 [(3, 0), (50, 1), (24, 2)] := ⟨⟨_, Try.underlying51, rfl⟩, List.forall_mem_cons.2 ⟨⟨Try.t3, rfl, by decide⟩, List.forall_mem_cons.2 ⟨⟨Try.t50, rfl, by decide⟩, List.forall_mem_cons.2 ⟨⟨Try.t24, rfl, by decide⟩, nofun⟩⟩⟩⟩
instance : TIf Try.prog 51 (.agg #[(.int .i64 0), (.slice none 0 0), (.slice none 0 0)]) [(.int .i64 0), (.slice none 0 0), (.slice none 0 0)] 3 56 := ⟨⟨Try.t51, rfl, rfl, rfl, rfl⟩, rfl⟩
instance : TSt Try.prog 52 [(3, 0), (50, 1), (24, 2)] := ⟨⟨_, Try.underlying52, rfl⟩, List.forall_mem_cons.2 ⟨⟨Try.t3, rfl, by decide⟩, List.forall_mem_cons.2 ⟨⟨Try.t50, rfl, by decide⟩, List.forall_mem_cons.2 ⟨⟨Try.t24, rfl, by decide⟩, nofun⟩⟩⟩⟩
instance : TIf Try.prog 52 (.agg #[(.int .i64 0), (.slice none 0 0), (.slice none 0 0)]) [(.int .i64 0), (.slice none 0 0), (.slice none 0 0)] 3 56 := ⟨⟨Try.t52, rfl, rfl, rfl, rfl⟩, rfl⟩
instance : TSc Try.prog 53 := ⟨_, Try.underlying53, rfl⟩
instance : TIf Try.prog 53 .nilFunc [.nilFunc] 1 8 := ⟨⟨Try.t53, rfl, rfl, rfl, rfl⟩, rfl⟩
instance : TSt Try.prog 54 [(25, 0), (38, 1)] := ⟨⟨_, Try.underlying54, rfl⟩, List.forall_mem_cons.2 ⟨⟨Try.t25, rfl, by decide⟩, List.forall_mem_cons.2 ⟨⟨Try.t38, rfl, by decide⟩, nofun⟩⟩⟩
instance : TIf Try.prog 54 (.agg #[(.slice none 0 0), (.int .i64 0), (.int .i64 0), (.int .i64 0), (.string ByteArray.empty), (.slice none 0 0), (.slice none 0 0)]) [(.slice none 0 0), (.int .i64 0), (.int .i64 0), (.int .i64 0), (.string ByteArray.empty), (.slice none 0 0), (.slice none 0 0)] 7 112 := ⟨⟨Try.t54, rfl, rfl, rfl, rfl⟩, rfl⟩
instance : TSt Try.prog 55 [(25, 0), (38, 1)] := ⟨⟨_, Try.underlying55, rfl⟩, List.forall_mem_cons.2 ⟨⟨Try.t25, rfl, by decide⟩, List.forall_mem_cons.2 ⟨⟨Try.t38, rfl, by decide⟩, nofun⟩⟩⟩
instance : TIf Try.prog 55 (.agg #[(.slice none 0 0), (.int .i64 0), (.int .i64 0), (.int .i64 0), (.string ByteArray.empty), (.slice none 0 0), (.slice none 0 0)]) [(.slice none 0 0), (.int .i64 0), (.int .i64 0), (.int .i64 0), (.string ByteArray.empty), (.slice none 0 0), (.slice none 0 0)] 7 112 := ⟨⟨Try.t55, rfl, rfl, rfl, rfl⟩, rfl⟩
instance : TSc Try.prog 56 := ⟨_, Try.underlying56, rfl⟩
instance : TPt Try.prog 56 := ⟨by unfold Program.pointee; rw [Try.underlying56]⟩
instance : TIf Try.prog 56 (.pointer none) [(.pointer none)] 1 8 := ⟨⟨Try.t56, rfl, rfl, rfl, rfl⟩, rfl⟩
instance : TSt Try.prog 57 [(3, 0)] := ⟨⟨_, Try.underlying57, rfl⟩, List.forall_mem_cons.2 ⟨⟨Try.t3, rfl, by decide⟩, nofun⟩⟩
instance : TIf Try.prog 57 (.agg #[(.int .i64 0)]) [(.int .i64 0)] 1 8 := ⟨⟨Try.t57, rfl, rfl, rfl, rfl⟩, rfl⟩
instance : TSt Try.prog 58 [(3, 0)] := ⟨⟨_, Try.underlying58, rfl⟩, List.forall_mem_cons.2 ⟨⟨Try.t3, rfl, by decide⟩, nofun⟩⟩
instance : TIf Try.prog 58 (.agg #[(.int .i64 0)]) [(.int .i64 0)] 1 8 := ⟨⟨Try.t58, rfl, rfl, rfl, rfl⟩, rfl⟩
instance : TSc Try.prog 59 := ⟨_, Try.underlying59, rfl⟩
instance : TIf Try.prog 59 .nilFunc [.nilFunc] 1 8 := ⟨⟨Try.t59, rfl, rfl, rfl, rfl⟩, rfl⟩
instance : TSc Try.prog 60 := ⟨_, Try.underlying60, rfl⟩
instance : TIf Try.prog 60 .nilFunc [.nilFunc] 1 8 := ⟨⟨Try.t60, rfl, rfl, rfl, rfl⟩, rfl⟩
instance : TSc Try.prog 61 := ⟨_, Try.underlying61, rfl⟩
instance : TSl Try.prog 61 64 := ⟨Try.underlying61⟩
instance : TIf Try.prog 61 (.slice none 0 0) [(.slice none 0 0)] 1 24 := ⟨⟨Try.t61, rfl, rfl, rfl, rfl⟩, rfl⟩
instance : TSc Try.prog 62 := ⟨_, Try.underlying62, rfl⟩
instance : TSl Try.prog 62 67 := ⟨Try.underlying62⟩
instance : TIf Try.prog 62 (.slice none 0 0) [(.slice none 0 0)] 1 24 := ⟨⟨Try.t62, rfl, rfl, rfl, rfl⟩, rfl⟩
instance : TSt Try.prog 63 [(3, 0), (62, 1), (24, 2)] := ⟨⟨_, Try.underlying63, rfl⟩, List.forall_mem_cons.2 ⟨⟨Try.t3, rfl, by decide⟩, List.forall_mem_cons.2 ⟨⟨Try.t62, rfl, by decide⟩, List.forall_mem_cons.2 ⟨⟨Try.t24, rfl, by decide⟩, nofun⟩⟩⟩⟩
instance : TIf Try.prog 63 (.agg #[(.int .i64 0), (.slice none 0 0), (.slice none 0 0)]) [(.int .i64 0), (.slice none 0 0), (.slice none 0 0)] 3 56 := ⟨⟨Try.t63, rfl, rfl, rfl, rfl⟩, rfl⟩
instance : TSt Try.prog 64 [(3, 0), (62, 1), (24, 2)] := ⟨⟨_, Try.underlying64, rfl⟩, List.forall_mem_cons.2 ⟨⟨Try.t3, rfl, by decide⟩, List.forall_mem_cons.2 ⟨⟨Try.t62, rfl, by decide⟩, List.forall_mem_cons.2 ⟨⟨Try.t24, rfl, by decide⟩, nofun⟩⟩⟩⟩
instance : TIf Try.prog 64 (.agg #[(.int .i64 0), (.slice none 0 0), (.slice none 0 0)]) [(.int .i64 0), (.slice none 0 0), (.slice none 0 0)] 3 56 := ⟨⟨Try.t64, rfl, rfl, rfl, rfl⟩, rfl⟩
instance : TSc Try.prog 65 := ⟨_, Try.underlying65, rfl⟩
instance : TIf Try.prog 65 .nilFunc [.nilFunc] 1 8 := ⟨⟨Try.t65, rfl, rfl, rfl, rfl⟩, rfl⟩
instance : TSt Try.prog 66 [(25, 0), (38, 1)] := ⟨⟨_, Try.underlying66, rfl⟩, List.forall_mem_cons.2 ⟨⟨Try.t25, rfl, by decide⟩, List.forall_mem_cons.2 ⟨⟨Try.t38, rfl, by decide⟩, nofun⟩⟩⟩
instance : TIf Try.prog 66 (.agg #[(.slice none 0 0), (.int .i64 0), (.int .i64 0), (.int .i64 0), (.string ByteArray.empty), (.slice none 0 0), (.slice none 0 0)]) [(.slice none 0 0), (.int .i64 0), (.int .i64 0), (.int .i64 0), (.string ByteArray.empty), (.slice none 0 0), (.slice none 0 0)] 7 112 := ⟨⟨Try.t66, rfl, rfl, rfl, rfl⟩, rfl⟩
instance : TSt Try.prog 67 [(25, 0), (38, 1)] := ⟨⟨_, Try.underlying67, rfl⟩, List.forall_mem_cons.2 ⟨⟨Try.t25, rfl, by decide⟩, List.forall_mem_cons.2 ⟨⟨Try.t38, rfl, by decide⟩, nofun⟩⟩⟩
instance : TIf Try.prog 67 (.agg #[(.slice none 0 0), (.int .i64 0), (.int .i64 0), (.int .i64 0), (.string ByteArray.empty), (.slice none 0 0), (.slice none 0 0)]) [(.slice none 0 0), (.int .i64 0), (.int .i64 0), (.int .i64 0), (.string ByteArray.empty), (.slice none 0 0), (.slice none 0 0)] 7 112 := ⟨⟨Try.t67, rfl, rfl, rfl, rfl⟩, rfl⟩
instance : TSc Try.prog 69 := ⟨_, Try.underlying69, rfl⟩
instance : TIf Try.prog 69 .nilFunc [.nilFunc] 1 8 := ⟨⟨Try.t69, rfl, rfl, rfl, rfl⟩, rfl⟩
instance : TSc Try.prog 70 := ⟨_, Try.underlying70, rfl⟩
instance : TIf Try.prog 70 .nilFunc [.nilFunc] 1 8 := ⟨⟨Try.t70, rfl, rfl, rfl, rfl⟩, rfl⟩
instance : TSt Try.prog 71 [(3, 0), (25, 1)] := ⟨⟨_, Try.underlying71, rfl⟩, List.forall_mem_cons.2 ⟨⟨Try.t3, rfl, by decide⟩, List.forall_mem_cons.2 ⟨⟨Try.t25, rfl, by decide⟩, nofun⟩⟩⟩
instance : TIf Try.prog 71 (.agg #[(.int .i64 0), (.slice none 0 0)]) [(.int .i64 0), (.slice none 0 0)] 2 32 := ⟨⟨Try.t71, rfl, rfl, rfl, rfl⟩, rfl⟩
instance : TSt Try.prog 72 [(3, 0), (25, 1)] := ⟨⟨_, Try.underlying72, rfl⟩, List.forall_mem_cons.2 ⟨⟨Try.t3, rfl, by decide⟩, List.forall_mem_cons.2 ⟨⟨Try.t25, rfl, by decide⟩, nofun⟩⟩⟩
instance : TIf Try.prog 72 (.agg #[(.int .i64 0), (.slice none 0 0)]) [(.int .i64 0), (.slice none 0 0)] 2 32 := ⟨⟨Try.t72, rfl, rfl, rfl, rfl⟩, rfl⟩
instance : TSc Try.prog 73 := ⟨_, Try.underlying73, rfl⟩
instance : TIf Try.prog 73 .nilFunc [.nilFunc] 1 8 := ⟨⟨Try.t73, rfl, rfl, rfl, rfl⟩, rfl⟩
instance : TSt Try.prog 74 [(38, 0), (29, 6)] := ⟨⟨_, Try.underlying74, rfl⟩, List.forall_mem_cons.2 ⟨⟨Try.t38, rfl, by decide⟩, List.forall_mem_cons.2 ⟨⟨Try.t29, rfl, by decide⟩, nofun⟩⟩⟩
instance : TIf Try.prog 74 (.agg #[(.int .i64 0), (.int .i64 0), (.int .i64 0), (.string ByteArray.empty), (.slice none 0 0), (.slice none 0 0), (.int .i64 0), (.int .i64 0), (.slice none 0 0), (.slice none 0 0), (.slice none 0 0), (.slice none 0 0)]) [(.int .i64 0), (.int .i64 0), (.int .i64 0), (.string ByteArray.empty), (.slice none 0 0), (.slice none 0 0), (.int .i64 0), (.int .i64 0), (.slice none 0 0), (.slice none 0 0), (.slice none 0 0), (.slice none 0 0)] 12 200 := ⟨⟨Try.t74, rfl, rfl, rfl, rfl⟩, rfl⟩
instance : TSt Try.prog 75 [(38, 0), (29, 6)] := ⟨⟨_, Try.underlying75, rfl⟩, List.forall_mem_cons.2 ⟨⟨Try.t38, rfl, by decide⟩, List.forall_mem_cons.2 ⟨⟨Try.t29, rfl, by decide⟩, nofun⟩⟩⟩
instance : TIf Try.prog 75 (.agg #[(.int .i64 0), (.int .i64 0), (.int .i64 0), (.string ByteArray.empty), (.slice none 0 0), (.slice none 0 0), (.int .i64 0), (.int .i64 0), (.slice none 0 0), (.slice none 0 0), (.slice none 0 0), (.slice none 0 0)]) [(.int .i64 0), (.int .i64 0), (.int .i64 0), (.string ByteArray.empty), (.slice none 0 0), (.slice none 0 0), (.int .i64 0), (.int .i64 0), (.slice none 0 0), (.slice none 0 0), (.slice none 0 0), (.slice none 0 0)] 12 200 := ⟨⟨Try.t75, rfl, rfl, rfl, rfl⟩, rfl⟩
instance : TSc Try.prog 77 := ⟨_, Try.underlying77, rfl⟩
instance : TIf Try.prog 77 .nilFunc [.nilFunc] 1 8 := ⟨⟨Try.t77, rfl, rfl, rfl, rfl⟩, rfl⟩
instance : TSc Try.prog 78 := ⟨_, Try.underlying78, rfl⟩
instance : TIf Try.prog 78 .nilFunc [.nilFunc] 1 8 := ⟨⟨Try.t78, rfl, rfl, rfl, rfl⟩, rfl⟩
instance : TSc Try.prog 79 := ⟨_, Try.underlying79, rfl⟩
instance : TIf Try.prog 79 .nilFunc [.nilFunc] 1 8 := ⟨⟨Try.t79, rfl, rfl, rfl, rfl⟩, rfl⟩
instance : TSc Try.prog 80 := ⟨_, Try.underlying80, rfl⟩
instance : TIf Try.prog 80 .nilFunc [.nilFunc] 1 8 := ⟨⟨Try.t80, rfl, rfl, rfl, rfl⟩, rfl⟩
instance : TSc Try.prog 81 := ⟨_, Try.underlying81, rfl⟩
instance : TIf Try.prog 81 .nilFunc [.nilFunc] 1 8 := ⟨⟨Try.t81, rfl, rfl, rfl, rfl⟩, rfl⟩
instance : TSc Try.prog 82 := ⟨_, Try.underlying82, rfl⟩
instance : TIf Try.prog 82 .nilFunc [.nilFunc] 1 8 := ⟨⟨Try.t82, rfl, rfl, rfl, rfl⟩, rfl⟩
instance : TSc Try.prog 83 := ⟨_, Try.underlying83, rfl⟩
instance : TIf Try.prog 83 .nilFunc [.nilFunc] 1 8 := ⟨⟨Try.t83, rfl, rfl, rfl, rfl⟩, rfl⟩
instance : TSc Try.prog 84 := ⟨_, Try.underlying84, rfl⟩
instance : TIf Try.prog 84 .nilFunc [.nilFunc] 1 8 := ⟨⟨Try.t84, rfl, rfl, rfl, rfl⟩, rfl⟩
instance : TSc Try.prog 85 := ⟨_, Try.underlying85, rfl⟩
instance : TIf Try.prog 85 .nilFunc [.nilFunc] 1 8 := ⟨⟨Try.t85, rfl, rfl, rfl, rfl⟩, rfl⟩
instance : TSc Try.prog 86 := ⟨_, Try.underlying86, rfl⟩
instance : TIf Try.prog 86 .nilFunc [.nilFunc] 1 8 := ⟨⟨Try.t86, rfl, rfl, rfl, rfl⟩, rfl⟩
instance : TSc Try.prog 87 := ⟨_, Try.underlying87, rfl⟩
instance : TIf Try.prog 87 .nilFunc [.nilFunc] 1 8 := ⟨⟨Try.t87, rfl, rfl, rfl, rfl⟩, rfl⟩
instance : TSc Try.prog 88 := ⟨_, Try.underlying88, rfl⟩
instance : TIf Try.prog 88 .nilFunc [.nilFunc] 1 8 := ⟨⟨Try.t88, rfl, rfl, rfl, rfl⟩, rfl⟩
instance : TSc Try.prog 89 := ⟨_, Try.underlying89, rfl⟩
instance : TIf Try.prog 89 .nilFunc [.nilFunc] 1 8 := ⟨⟨Try.t89, rfl, rfl, rfl, rfl⟩, rfl⟩
instance : TSc Try.prog 91 := ⟨_, Try.underlying91, rfl⟩
instance : TIf Try.prog 91 .nilFunc [.nilFunc] 1 8 := ⟨⟨Try.t91, rfl, rfl, rfl, rfl⟩, rfl⟩
instance : TSc Try.prog 92 := ⟨_, Try.underlying92, rfl⟩
instance : TIf Try.prog 92 .nilFunc [.nilFunc] 1 8 := ⟨⟨Try.t92, rfl, rfl, rfl, rfl⟩, rfl⟩
instance : TSc Try.prog 93 := ⟨_, Try.underlying93, rfl⟩
instance : TIf Try.prog 93 .nilFunc [.nilFunc] 1 8 := ⟨⟨Try.t93, rfl, rfl, rfl, rfl⟩, rfl⟩
instance : TSc Try.prog 94 := ⟨_, Try.underlying94, rfl⟩
instance : TIf Try.prog 94 .nilFunc [.nilFunc] 1 8 := ⟨⟨Try.t94, rfl, rfl, rfl, rfl⟩, rfl⟩
instance : TSc Try.prog 95 := ⟨_, Try.underlying95, rfl⟩
instance : TIf Try.prog 95 .nilFunc [.nilFunc] 1 8 := ⟨⟨Try.t95, rfl, rfl, rfl, rfl⟩, rfl⟩
instance : TSc Try.prog 96 := ⟨_, Try.underlying96, rfl⟩
instance : TIf Try.prog 96 .nilFunc [.nilFunc] 1 8 := ⟨⟨Try.t96, rfl, rfl, rfl, rfl⟩, rfl⟩
instance : TSc Try.prog 97 := ⟨_, Try.underlying97, rfl⟩
instance : TIf Try.prog 97 .nilFunc [.nilFunc] 1 8 := ⟨⟨Try.t97, rfl, rfl, rfl, rfl⟩, rfl⟩
instance : TSc Try.prog 98 := ⟨_, Try.underlying98, rfl⟩
instance : TIf Try.prog 98 .nilFunc [.nilFunc] 1 8 := ⟨⟨Try.t98, rfl, rfl, rfl, rfl⟩, rfl⟩
instance : TSt Try.prog 99 [(17, 0), (17, 1), (17, 2), (9, 3)] := ⟨⟨_, Try.underlying99, rfl⟩, List.forall_mem_cons.2 ⟨⟨Try.t17, rfl, by decide⟩, List.forall_mem_cons.2 ⟨⟨Try.t17, rfl, by decide⟩, List.forall_mem_cons.2 ⟨⟨Try.t17, rfl, by decide⟩, List.forall_mem_cons.2 ⟨⟨Try.t9, rfl, by decide⟩, nofun⟩⟩⟩⟩⟩
instance : TIf Try.prog 99 (.agg #[(.pointer none), (.pointer none), (.pointer none), (.string ByteArray.empty)]) [(.pointer none), (.pointer none), (.pointer none), (.string ByteArray.empty)] 4 40 := ⟨⟨Try.t99, rfl, rfl, rfl, rfl⟩, rfl⟩
instance : TSt Try.prog 100 [(17, 0), (17, 1), (17, 2), (9, 3)] := ⟨⟨_, Try.underlying100, rfl⟩, List.forall_mem_cons.2 ⟨⟨Try.t17, rfl, by decide⟩, List.forall_mem_cons.2 ⟨⟨Try.t17, rfl, by decide⟩, List.forall_mem_cons.2 ⟨⟨Try.t17, rfl, by decide⟩, List.forall_mem_cons.2 ⟨⟨Try.t9, rfl, by decide⟩, nofun⟩⟩⟩⟩⟩
instance : TIf Try.prog 100 (.agg #[(.pointer none), (.pointer none), (.pointer none), (.string ByteArray.empty)]) [(.pointer none), (.pointer none), (.pointer none), (.string ByteArray.empty)] 4 40 := ⟨⟨Try.t100, rfl, rfl, rfl, rfl⟩, rfl⟩
instance : TIf Try.prog 101 (.agg #[]) [] 0 0 := ⟨⟨Try.t101, rfl, rfl, rfl, rfl⟩, rfl⟩
instance : TIf Try.prog 102 (.agg #[]) [] 0 0 := ⟨⟨Try.t102, rfl, rfl, rfl, rfl⟩, rfl⟩
instance : TIf Try.prog 103 (.agg #[]) [] 0 0 := ⟨⟨Try.t103, rfl, rfl, rfl, rfl⟩, rfl⟩
instance : TSc Try.prog 104 := ⟨_, Try.underlying104, rfl⟩
instance : TIf Try.prog 104 .nilFunc [.nilFunc] 1 8 := ⟨⟨Try.t104, rfl, rfl, rfl, rfl⟩, rfl⟩
instance : TSc Try.prog 105 := ⟨_, Try.underlying105, rfl⟩
instance : TIn Try.prog 105 .u32 := ⟨Try.underlying105⟩
instance : TIf Try.prog 105 (.int .u32 0) [(.int .u32 0)] 1 4 := ⟨⟨Try.t105, rfl, rfl, rfl, rfl⟩, rfl⟩
instance : TSc Try.prog 106 := ⟨_, Try.underlying106, rfl⟩
instance : TIn Try.prog 106 .u8 := ⟨Try.underlying106⟩
instance : TIf Try.prog 106 (.int .u8 0) [(.int .u8 0)] 1 1 := ⟨⟨Try.t106, rfl, rfl, rfl, rfl⟩, rfl⟩
instance : TSc Try.prog 107 := ⟨_, Try.underlying107, rfl⟩
instance : TIn Try.prog 107 .u8 := ⟨Try.underlying107⟩
instance : TIf Try.prog 107 (.int .u8 0) [(.int .u8 0)] 1 1 := ⟨⟨Try.t107, rfl, rfl, rfl, rfl⟩, rfl⟩
instance : TSc Try.prog 108 := ⟨_, Try.underlying108, rfl⟩
instance : TIf Try.prog 108 .nilFunc [.nilFunc] 1 8 := ⟨⟨Try.t108, rfl, rfl, rfl, rfl⟩, rfl⟩
instance : TSc Try.prog 109 := ⟨_, Try.underlying109, rfl⟩
instance : TPt Try.prog 109 := ⟨by unfold Program.pointee; rw [Try.underlying109]⟩
instance : TIf Try.prog 109 (.pointer none) [(.pointer none)] 1 8 := ⟨⟨Try.t109, rfl, rfl, rfl, rfl⟩, rfl⟩
instance : TSc Try.prog 110 := ⟨_, Try.underlying110, rfl⟩
instance : TIn Try.prog 110 .i32 := ⟨Try.underlying110⟩
instance : TIf Try.prog 110 (.int .i32 0) [(.int .i32 0)] 1 4 := ⟨⟨Try.t110, rfl, rfl, rfl, rfl⟩, rfl⟩
instance : TSc Try.prog 111 := ⟨_, Try.underlying111, rfl⟩
instance : TIn Try.prog 111 .i32 := ⟨Try.underlying111⟩
instance : TIf Try.prog 111 (.int .i32 0) [(.int .i32 0)] 1 4 := ⟨⟨Try.t111, rfl, rfl, rfl, rfl⟩, rfl⟩
instance : TSt Try.prog 112 [(12, 0), (12, 1), (105, 2), (106, 3), (5, 4), (5, 5), (107, 6), (108, 7), (109, 8), (110, 9), (111, 10)] := ⟨⟨_, Try.underlying112, rfl⟩, List.forall_mem_cons.2 ⟨⟨Try.t12, rfl, by decide⟩, List.forall_mem_cons.2 ⟨⟨Try.t12, rfl, by decide⟩, List.forall_mem_cons.2 ⟨⟨Try.t105, rfl, by decide⟩, List.forall_mem_cons.2 ⟨⟨Try.t106, rfl, by decide⟩, List.forall_mem_cons.2 ⟨⟨Try.t5, rfl, by decide⟩, List.forall_mem_cons.2 ⟨⟨Try.t5, rfl, by decide⟩, List.forall_mem_cons.2 ⟨⟨Try.t107, rfl, by decide⟩, List.forall_mem_cons.2 ⟨⟨Try.t108, rfl, by decide⟩, List.forall_mem_cons.2 ⟨⟨Try.t109, rfl, by decide⟩, List.forall_mem_cons.2 ⟨⟨Try.t110, rfl, by decide⟩, List.forall_mem_cons.2 ⟨⟨Try.t111, rfl, by decide⟩, nofun⟩⟩⟩⟩⟩⟩⟩⟩⟩⟩⟩⟩
instance : TIf Try.prog 112 (.agg #[(.int .u64 0), (.int .u64 0), (.int .u32 0), (.int .u8 0), (.int .u8 0), (.int .u8 0), (.int .u8 0), .nilFunc, (.pointer none), (.int .i32 0), (.int .i32 0)]) [(.int .u64 0), (.int .u64 0), (.int .u32 0), (.int .u8 0), (.int .u8 0), (.int .u8 0), (.int .u8 0), .nilFunc, (.pointer none), (.int .i32 0), (.int .i32 0)] 11 48 := ⟨⟨Try.t112, rfl, rfl, rfl, rfl⟩, rfl⟩
instance : TSt Try.prog 113 [(12, 0), (12, 1), (105, 2), (106, 3), (5, 4), (5, 5), (107, 6), (108, 7), (109, 8), (110, 9), (111, 10)] := ⟨⟨_, Try.underlying113, rfl⟩, List.forall_mem_cons.2 ⟨⟨Try.t12, rfl, by decide⟩, List.forall_mem_cons.2 ⟨⟨Try.t12, rfl, by decide⟩, List.forall_mem_cons.2 ⟨⟨Try.t105, rfl, by decide⟩, List.forall_mem_cons.2 ⟨⟨Try.t106, rfl, by decide⟩, List.forall_mem_cons.2 ⟨⟨Try.t5, rfl, by decide⟩, List.forall_mem_cons.2 ⟨⟨Try.t5, rfl, by decide⟩, List.forall_mem_cons.2 ⟨⟨Try.t107, rfl, by decide⟩, List.forall_mem_cons.2 ⟨⟨Try.t108, rfl, by decide⟩, List.forall_mem_cons.2 ⟨⟨Try.t109, rfl, by decide⟩, List.forall_mem_cons.2 ⟨⟨Try.t110, rfl, by decide⟩, List.forall_mem_cons.2 ⟨⟨Try.t111, rfl, by decide⟩, nofun⟩⟩⟩⟩⟩⟩⟩⟩⟩⟩⟩⟩
instance : TIf Try.prog 113 (.agg #[(.int .u64 0), (.int .u64 0), (.int .u32 0), (.int .u8 0), (.int .u8 0), (.int .u8 0), (.int .u8 0), .nilFunc, (.pointer none), (.int .i32 0), (.int .i32 0)]) [(.int .u64 0), (.int .u64 0), (.int .u32 0), (.int .u8 0), (.int .u8 0), (.int .u8 0), (.int .u8 0), .nilFunc, (.pointer none), (.int .i32 0), (.int .i32 0)] 11 48 := ⟨⟨Try.t113, rfl, rfl, rfl, rfl⟩, rfl⟩
instance : FnB Try.prog 2 := ⟨_, Try.func2, rfl, by kernel_rfl⟩
instance : FnB Try.prog 3 := ⟨_, Try.func3, rfl, by kernel_rfl⟩
instance : FnB Try.prog 4 := ⟨_, Try.func4, rfl, by kernel_rfl⟩
instance : FnB Try.prog 5 := ⟨_, Try.func5, rfl, by kernel_rfl⟩
instance : FnB Try.prog 6 := ⟨_, Try.func6, rfl, by kernel_rfl⟩
instance : FnB Try.prog 7 := ⟨_, Try.func7, rfl, by kernel_rfl⟩
instance : FnB Try.prog 8 := ⟨_, Try.func8, rfl, by kernel_rfl⟩
instance : FnB Try.prog 9 := ⟨_, Try.func9, rfl, by kernel_rfl⟩
instance : FnB Try.prog 10 := ⟨_, Try.func10, rfl, by kernel_rfl⟩
instance : FnB Try.prog 11 := ⟨_, Try.func11, rfl, by kernel_rfl⟩
instance : FnB Try.prog 12 := ⟨_, Try.func12, rfl, by kernel_rfl⟩
instance : FnB Try.prog 13 := ⟨_, Try.func13, rfl, by kernel_rfl⟩
instance : FnB Try.prog 14 := ⟨_, Try.func14, rfl, by kernel_rfl⟩
instance : FnB Try.prog 15 := ⟨_, Try.func15, rfl, by kernel_rfl⟩
instance : FnB Try.prog 16 := ⟨_, Try.func16, rfl, by kernel_rfl⟩
instance : FnB Try.prog 17 := ⟨_, Try.func17, rfl, by kernel_rfl⟩
instance : FnB Try.prog 18 := ⟨_, Try.func18, rfl, by kernel_rfl⟩
instance : FnB Try.prog 19 := ⟨_, Try.func19, rfl, by kernel_rfl⟩
instance : FnB Try.prog 20 := ⟨_, Try.func20, rfl, by kernel_rfl⟩
instance : FnB Try.prog 21 := ⟨_, Try.func21, rfl, by kernel_rfl⟩
instance : FnB Try.prog 22 := ⟨_, Try.func22, rfl, by kernel_rfl⟩
instance : FnB Try.prog 23 := ⟨_, Try.func23, rfl, by kernel_rfl⟩
instance : FnB Try.prog 24 := ⟨_, Try.func24, rfl, by kernel_rfl⟩
instance : FnB Try.prog 25 := ⟨_, Try.func25, rfl, by kernel_rfl⟩
instance : FnB Try.prog 26 := ⟨_, Try.func26, rfl, by kernel_rfl⟩
instance : FnB Try.prog 27 := ⟨_, Try.func27, rfl, by kernel_rfl⟩
instance : FnB Try.prog 28 := ⟨_, Try.func28, rfl, by kernel_rfl⟩
instance : FnB Try.prog 29 := ⟨_, Try.func29, rfl, by kernel_rfl⟩
instance : FnB Try.prog 30 := ⟨_, Try.func30, rfl, by kernel_rfl⟩
instance : FnB Try.prog 31 := ⟨_, Try.func31, rfl, by kernel_rfl⟩
instance : FnB Try.prog 32 := ⟨_, Try.func32, rfl, by kernel_rfl⟩
instance : FnB Try.prog 33 := ⟨_, Try.func33, rfl, by kernel_rfl⟩
instance : FnB Try.prog 34 := ⟨_, Try.func34, rfl, by kernel_rfl⟩
instance : FnB Try.prog 35 := ⟨_, Try.func35, rfl, by kernel_rfl⟩
instance : FnB Try.prog 36 := ⟨_, Try.func36, rfl, by kernel_rfl⟩
instance : FnB Try.prog 37 := ⟨_, Try.func37, rfl, by kernel_rfl⟩
instance : FnB Try.prog 38 := ⟨_, Try.func38, rfl, by kernel_rfl⟩
instance : FnB Try.prog 39 := ⟨_, Try.func39, rfl, by kernel_rfl⟩
instance : FnB Try.prog 40 := ⟨_, Try.func40, rfl, by kernel_rfl⟩
instance : FnB Try.prog 41 := ⟨_, Try.func41, rfl, by kernel_rfl⟩
instance : FnB Try.prog 42 := ⟨_, Try.func42, rfl, by kernel_rfl⟩
instance : FnB Try.prog 43 := ⟨_, Try.func43, rfl, by kernel_rfl⟩
instance : FnB Try.prog 44 := ⟨_, Try.func44, rfl, by kernel_rfl⟩
instance : FnB Try.prog 45 := ⟨_, Try.func45, rfl, by kernel_rfl⟩
instance : FnB Try.prog 46 := ⟨_, Try.func46, rfl, by kernel_rfl⟩
instance : FnB Try.prog 47 := ⟨_, Try.func47, rfl, by kernel_rfl⟩
instance : FnB Try.prog 48 := ⟨_, Try.func48, rfl, by kernel_rfl⟩
instance : FnB Try.prog 49 := ⟨_, Try.func49, rfl, by kernel_rfl⟩
instance : FnB Try.prog 50 := ⟨_, Try.func50, rfl, by kernel_rfl⟩
instance : FnB Try.prog 51 := ⟨_, Try.func51, rfl, by kernel_rfl⟩
instance : FnB Try.prog 52 := ⟨_, Try.func52, rfl, by kernel_rfl⟩
instance : FnB Try.prog 53 := ⟨_, Try.func53, rfl, by kernel_rfl⟩
instance : FnB Try.prog 54 := ⟨_, Try.func54, rfl, by kernel_rfl⟩
instance : FnB Try.prog 55 := ⟨_, Try.func55, rfl, by kernel_rfl⟩
instance : FnB Try.prog 56 := ⟨_, Try.func56, rfl, by kernel_rfl⟩
theorem mixed : Try.prog.follows .mixedOrders = true := by kernel_rfl
end Go.Proofs.Ytcododdkjppmjaa
namespace Go.Proofs.Ytcododdkjppmjaa
open Go Go.Fw
set_option linter.unusedVariables false
def AP.ol : AP → Option Addr | mk _ _ _ _ ol _ _ _ _ _ => ol
def AP.cl : AP → Nat | mk _ _ _ _ _ cl _ _ _ _ => cl
def AP.oa : AP → Option Addr | mk _ _ _ _ _ _ _ oa _ _ => oa
def AP.ca : AP → Nat | mk _ _ _ _ _ _ _ _ ca _ => ca
theorem encA_eq (p : AP) : encA p = [.int .i64 p.k, .int .i64 p.v, .int .i64 p.n, .string p.s, .slice p.ol p.ls.length p.cl, .slice p.oa p.ps.length p.ca] := by cases p; rfl
theorem RdA.l {w : World} {p : AP} (h : RdA w p) : Rd w p.ol (flat encX p.ls) := by cases h; assumption
theorem RdA.a {w : World} {p : AP} (h : RdA w p) : Rd w p.oa (flat encA p.ps) := by cases h; assumption
theorem RdA.c {w : World} {p : AP} (h : RdA w p) : p.ls.length ≤ p.cl ∧ p.cl ≤ maxLen ∧ p.ps.length ≤ p.ca ∧ p.ca ≤ maxLen := by cases h; assumption
theorem RdA.s {w : World} {p : AP} (h : RdA w p) : ∀ a ∈ p.ps, RdA w a := by cases h; assumption
theorem as_lt {p a : AP} (h : a ∈ p.ps) : SizeOf.sizeOf a < SizeOf.sizeOf p := by
  cases p with
  | mk k v n s ol cl ls oa ca ps =>
    have := List.sizeOf_lt_of_mem (show a ∈ ps from h)
    simp
    omega
theorem partsP_eq (p : AP) (most : Int) : partsP p most = partsL p.ps most 1 := by cases p; rw [partsP]; rfl
theorem partsL_snoc : ∀ (ps : List AP) (a : AP) (most n : Int), partsL (ps ++ [a]) most n = if partsL ps most n ≤ most then partsL ps most n + partsP a (most - partsL ps most n) else partsL ps most n
  | [], a, most, n => by
    show partsL [a] most n = _
    rw [partsL, partsL, partsL]
  | b :: ps, a, most, n => by
    rw [List.cons_append, partsL, partsL_snoc ps a most _, partsL]
/-- parts are few: at most ps many ps asked, and the last one's -/
theorem take_next {α : Type} {l : List α} {i : Nat} {x : α} (h : l[i]? = some x) : l.take (i + 1) = l.take i ++ [x] := by rw [List.take_add_one, h]; rfl
mutual
theorem partsP_le : ∀ (p : AP) (most : Int), 0 ≤ most → partsP p most ≤ most + 1
  | .mk _ _ _ _ _ _ _ _ _ ps, most, h => by
    rw [partsP]
    exact partsL_le2 ps most 1 (by omega)
theorem partsL_le2 : ∀ (ps : List AP) (most n : Int), n ≤ most + 1 → partsL ps most n ≤ most + 1
  | [], _, _, h => h
  | a :: ps, most, n, h => by
    rw [partsL]
    split
    · have h1 := partsP_le a (most - n) (by omega)
      exact partsL_le2 ps most _ (by omega)
    · exact partsL_le2 ps most n h
end
theorem partsL_0 (ps : List AP) (most : Int) : partsL (ps.take 0) most 1 = 1 := rfl
set_option maxRecDepth 10000 attribute [local irreducible] Code.wp wpList Calls Ex Op1 sat bat blk cb own Go.Fw.mp Go.Fw.mpO Go.Fw.mpI Go.Fw.mpE Go.Fw.itr HS Rd Ret wkD Hp Cl Cls Exit.then Exit.inBlock Exit.noGoto bodyPost Go.Fw.flat wk2 Go.Fw.all Go.Fw.owns wpOp
attribute [local irreducible] encA partsP partsL

set_option maxHeartbeats 4000000 in
theorem parts_spec : ∀ (z : Nat) (p : AP), SizeOf.sizeOf p < z → ∀ (w0 : World) (most : Int), 0 ≤ most ∧ most ≤ 1000000 → RdA w0 p →
    Ret Try.prog 17 #[.agg #[.int .i64 p.k, .int .i64 p.v, .int .i64 p.n, .string p.s, .slice p.ol p.ls.length p.cl, .slice p.oa p.ps.length p.ca], .int .i64 most] w0 (fun v w => v = .int .i64 (partsP p most) ∧ Kp w0 noM w)
  | 0, p, hz, _, _, _, _ => absurd hz (Nat.not_lt_zero _)
  | z + 1, p, hz, w0, most, hm, hR => by
    have hH : HS w0 noM [] w0 := HS.init w0 noM
    have hra := hR.a
    have hc := hR.c
    unfold maxLen at hc
    have hsp : Sp p.oa p.ps.length := hra.sp (sz := 6) (flat_length encA_len p.ps) (by omega)
    (refine enter (N := 27) Try.func17 rfl Try.ntmps17 rfl ?_; intro a hA; dsimp only [sl0, Nat.reduceAdd] at hA)
    repeat' (first | (first | (refine GT ?_ ?_ <;> intro hg <;> clear hA a <;> intro a hA <;> (first | exact FA | replace hg := of_decide_eq_true hg | replace hg := of_decide_eq_false hg | skip)) | (refine QT ?_; clear hA a; intro a hA) | (first | (refine BT ?_; clear hA hH; rintro _ w ⟨bN, rfl, hH⟩ a hA) | (refine LT ?_; clear hA hH; rintro _ w ⟨oN, rfl, hH⟩ a hA) | (refine AT ?_; clear hA; rintro _ w ⟨oN, cN, rfl, hH2⟩ a hA; clear hH; have hH := (hH2 _ (by (repeat constructor))).tail; clear hH2) | (refine S0T ?_; clear hH; rintro _ w hH) )) | ((first | refine CT ?_ | (refine DT ?_ ?_ <;> intro hc <;> try (exfalso; omega))) <;> repeat' refine CT ?_) | (first | (refine DSK ?_; clear hA a; intro a hA) | (first | (refine DLT ?_; clear hA hH; rintro _ w ⟨oN, rfl, hH⟩; refine ⟨STT, ?_⟩; intro a hA) | (refine DAT ?_; clear hA; rintro _ w ⟨oN, cN, rfl, hH2⟩; clear hH; have hH := (hH2 _ (by (repeat constructor))).tail; clear hH2; refine ⟨STT, ?_⟩; intro a hA))) )
    refine wp_lpj (S := Nat) (fun i a w => i ≤ p.ps.length ∧ HS w0 noM [] w ∧ Sl 27 [(1, .int .i64 most), (5, .int .i64 (partsL (p.ps.take i) most 1)), (9, .slice p.oa p.ps.length p.ca), (10, .int .i64 p.ps.length), (11, .int .i64 i)] a) (fun i => p.ps.length - i)
      (fun a w => HS w0 noM [] w ∧ Sl 27 [(5, .int .i64 (partsL p.ps most 1))] a) 0 ⟨Nat.zero_le _, hH.drop_, by rw [partsL_0]; exact (hA.sub (by (repeat (first | exact trivial | refine ⟨rfl, ?_⟩))))⟩ ?_ ?_
    rotate_left
    · clear hA hH
      rintro a w ⟨hH, hA⟩
      repeat' (first | (first | (refine GT ?_ ?_ <;> intro hg <;> clear hA a <;> intro a hA <;> (first | exact FA | replace hg := of_decide_eq_true hg | replace hg := of_decide_eq_false hg | skip)) | (refine QT ?_; clear hA a; intro a hA) | (first | (refine BT ?_; clear hA hH; rintro _ w ⟨bN, rfl, hH⟩ a hA) | (refine LT ?_; clear hA hH; rintro _ w ⟨oN, rfl, hH⟩ a hA) | (refine AT ?_; clear hA; rintro _ w ⟨oN, cN, rfl, hH2⟩ a hA; clear hH; have hH := (hH2 _ (by (repeat constructor))).tail; clear hH2) | (refine S0T ?_; clear hH; rintro _ w hH) )) | ((first | refine CT ?_ | (refine DT ?_ ?_ <;> intro hc <;> try (exfalso; omega))) <;> repeat' refine CT ?_) | (first | (refine DSK ?_; clear hA a; intro a hA) | (first | (refine DLT ?_; clear hA hH; rintro _ w ⟨oN, rfl, hH⟩; refine ⟨STT, ?_⟩; intro a hA) | (refine DAT ?_; clear hA; rintro _ w ⟨oN, cN, rfl, hH2⟩; clear hH; have hH := (hH2 _ (by (repeat constructor))).tail; clear hH2; refine ⟨STT, ?_⟩; intro a hA))) )
      exact rt1 (.inl rfl) rfl hA rfl ⟨by rw [partsP_eq], hH.kp⟩
    clear hA hH
    rintro i a w ⟨hi, hH, hA⟩
    by_cases hlt : i < p.ps.length
    rotate_left
    · obtain rfl : i = p.ps.length := by omega
      rw [List.take_length] at hA
      repeat' (first | (first | (refine GT ?_ ?_ <;> intro hg <;> clear hA a <;> intro a hA <;> (first | exact FA | replace hg := of_decide_eq_true hg | replace hg := of_decide_eq_false hg | skip)) | (refine QT ?_; clear hA a; intro a hA) | (first | (refine BT ?_; clear hA hH; rintro _ w ⟨bN, rfl, hH⟩ a hA) | (refine LT ?_; clear hA hH; rintro _ w ⟨oN, rfl, hH⟩ a hA) | (refine AT ?_; clear hA; rintro _ w ⟨oN, cN, rfl, hH2⟩ a hA; clear hH; have hH := (hH2 _ (by (repeat constructor))).tail; clear hH2) | (refine S0T ?_; clear hH; rintro _ w hH) )) | ((first | refine CT ?_ | (refine DT ?_ ?_ <;> intro hc <;> try (exfalso; omega))) <;> repeat' refine CT ?_) | (first | (refine DSK ?_; clear hA a; intro a hA) | (first | (refine DLT ?_; clear hA hH; rintro _ w ⟨oN, rfl, hH⟩; refine ⟨STT, ?_⟩; intro a hA) | (refine DAT ?_; clear hA; rintro _ w ⟨oN, cN, rfl, hH2⟩; clear hH; have hH := (hH2 _ (by (repeat constructor))).tail; clear hH2; refine ⟨STT, ?_⟩; intro a hA))) )
      exact ⟨hH, (hA.sub (by (repeat (first | exact trivial | refine ⟨rfl, ?_⟩))))⟩
    obtain ⟨x, hx⟩ : ∃ x, p.ps[i]? = some x := ⟨_, List.getElem?_eq_getElem hlt⟩
    have hxm := List.mem_of_getElem? hx
    have hvs := flat_all encA_len hx
    rw [encA_eq] at hvs
    have hsn := partsL_snoc (p.ps.take i) x most 1
    rw [← take_next hx] at hsn
    have hb := partsL_le2 (p.ps.take i) most 1 (by omega)
    have hb2 := partsL_pos (p.ps.take i) most 1
    generalize hg : partsL (p.ps.take i) most 1 = g at *
    repeat' (first | (first | (refine GT ?_ ?_ <;> intro hg <;> clear hA a <;> intro a hA <;> (first | exact FA | replace hg := of_decide_eq_true hg | replace hg := of_decide_eq_false hg | skip)) | ((first | apply st_ex hA hH rfl rfl (by decide) | apply dr_ex hA rfl rfl rfl (by decide) | apply dr_exp hA rfl rfl rfl (by decide) | apply dr_ex3 hA hH rfl rfl rfl (by decide)); (first | (apply ex_load_st (vs := [.int .i64 x.k, .int .i64 x.v, .int .i64 x.n, .string x.s, .slice x.ol x.ls.length x.cl, .slice x.oa x.ps.length x.ca]); rfl; rfl; exact cls_rd hra id hvs)); clear hA a; intro a hA) | (refine QT ?_; clear hA a; intro a hA) | (first | (refine BT ?_; clear hA hH; rintro _ w ⟨bN, rfl, hH⟩ a hA) | (refine LT ?_; clear hA hH; rintro _ w ⟨oN, rfl, hH⟩ a hA) | (refine AT ?_; clear hA; rintro _ w ⟨oN, cN, rfl, hH2⟩ a hA; clear hH; have hH := (hH2 _ (by (repeat constructor))).tail; clear hH2) | (refine S0T ?_; clear hH; rintro _ w hH) | (apply st_op0 hA rfl rfl; apply op_store_agg (vs := [.int .i64 x.k, .int .i64 x.v, .int .i64 x.n, .string x.s, .slice x.ol x.ls.length x.cl, .slice x.oa x.ps.length x.ca]); rfl; rfl; exact hH; (repeat constructor); (repeat rfl); clear hH; rintro _ w hH))) | ((first | refine CT ?_ | (refine DT ?_ ?_ <;> intro hc <;> try (exfalso; omega))) <;> repeat' refine CT ?_) | (first | (refine DSK ?_; clear hA a; intro a hA) | (first | (refine DLT ?_; clear hA hH; rintro _ w ⟨oN, rfl, hH⟩; refine ⟨STT, ?_⟩; intro a hA) | (refine DAT ?_; clear hA; rintro _ w ⟨oN, cN, rfl, hH2⟩; clear hH; have hH := (hH2 _ (by (repeat constructor))).tail; clear hH2; refine ⟨STT, ?_⟩; intro a hA))) )
    · (refine st_op hA rfl rfl (by decide) (op_call rfl rfl rfl (parts_spec z x (by have := as_lt hxm; omega) _ (most - g) (by omega) ((hR.s x hxm).keep hH.kp))) ?_; clear hA; rintro _ w ⟨rfl, hk⟩ a hA; replace hH := hH.keep hk; clear hk)
      rw [if_pos (by assumption)] at hsn
      have hpb := partsP_le x (most - g) (by omega)
      have hpc := partsP_pos x (most - g)
      repeat' (first | (first | (refine GT ?_ ?_ <;> intro hg <;> clear hA a <;> intro a hA <;> (first | exact FA | replace hg := of_decide_eq_true hg | replace hg := of_decide_eq_false hg | skip)) | (refine QT ?_; clear hA a; intro a hA) | (first | (refine BT ?_; clear hA hH; rintro _ w ⟨bN, rfl, hH⟩ a hA) | (refine LT ?_; clear hA hH; rintro _ w ⟨oN, rfl, hH⟩ a hA) | (refine AT ?_; clear hA; rintro _ w ⟨oN, cN, rfl, hH2⟩ a hA; clear hH; have hH := (hH2 _ (by (repeat constructor))).tail; clear hH2) | (refine S0T ?_; clear hH; rintro _ w hH) )) | ((first | refine CT ?_ | (refine DT ?_ ?_ <;> intro hc <;> try (exfalso; omega))) <;> repeat' refine CT ?_) | (first | (refine DSK ?_; clear hA a; intro a hA) | (first | (refine DLT ?_; clear hA hH; rintro _ w ⟨oN, rfl, hH⟩; refine ⟨STT, ?_⟩; intro a hA) | (refine DAT ?_; clear hA; rintro _ w ⟨oN, cN, rfl, hH2⟩; clear hH; have hH := (hH2 _ (by (repeat constructor))).tail; clear hH2; refine ⟨STT, ?_⟩; intro a hA))) )
      rw [← hsn] at hA
      exact ⟨i + 1, ⟨hlt, hH.drop_, (hA.sub (by (repeat (first | exact trivial | refine ⟨rfl, ?_⟩))))⟩, by omega⟩
    · rw [if_neg (by omega)] at hsn
      rw [← hsn] at hA
      repeat' (first | (first | (refine GT ?_ ?_ <;> intro hg <;> clear hA a <;> intro a hA <;> (first | exact FA | replace hg := of_decide_eq_true hg | replace hg := of_decide_eq_false hg | skip)) | (refine QT ?_; clear hA a; intro a hA) | (first | (refine BT ?_; clear hA hH; rintro _ w ⟨bN, rfl, hH⟩ a hA) | (refine LT ?_; clear hA hH; rintro _ w ⟨oN, rfl, hH⟩ a hA) | (refine AT ?_; clear hA; rintro _ w ⟨oN, cN, rfl, hH2⟩ a hA; clear hH; have hH := (hH2 _ (by (repeat constructor))).tail; clear hH2) | (refine S0T ?_; clear hH; rintro _ w hH) )) | ((first | refine CT ?_ | (refine DT ?_ ?_ <;> intro hc <;> try (exfalso; omega))) <;> repeat' refine CT ?_) | (first | (refine DSK ?_; clear hA a; intro a hA) | (first | (refine DLT ?_; clear hA hH; rintro _ w ⟨oN, rfl, hH⟩; refine ⟨STT, ?_⟩; intro a hA) | (refine DAT ?_; clear hA; rintro _ w ⟨oN, cN, rfl, hH2⟩; clear hH; have hH := (hH2 _ (by (repeat constructor))).tail; clear hH2; refine ⟨STT, ?_⟩; intro a hA))) )
      exact ⟨i + 1, ⟨hlt, hH.drop_, (hA.sub (by (repeat (first | exact trivial | refine ⟨rfl, ?_⟩))))⟩, by omega⟩
end Go.Proofs.Ytcododdkjppmjaa
namespace Go.Fw
open Go Go.RowKit
theorem toList_iff {m n : ByteArray} : m.toList = n.toList ↔ m = n := by
  rw [ByteArray.toList_eq, ByteArray.toList_eq]
  constructor
  · intro h
    cases m; cases n
    congr 1
    exact Array.toList_inj.1 h
  · intro h; rw [h]
section
variable {P : Program} {N : Nat} {l : List (Nat × Value)} {C : World → Prop} {d : Option Tmp} {T : TypeId} {pos : String} {af : Array Edge} {g : Option (Nat × Bool)}
theorem ex_eqlX {t ty : TypeId} {x y : Operand} {m n : ByteArray} [h : TSr P t] (hx : ev l x = some (.string m)) (hy : ev l y = some (.string n)) : Ex P N l C ⟨d, .binOp .eql t x y ty, T, pos, af, g⟩ (.bool (decide (m = n))) := by
  have h1 := ex_eqlS (N := N) (C := C) (d := d) (T := T) (pos := pos) (af := af) (g := g) (ty := ty) (h := h) hx hy
  have e : (m.toList == n.toList) = decide (m = n) := by rw [Bool.eq_iff_iff, beq_iff_eq, decide_eq_true_iff]; exact toList_iff
  rwa [e] at h1
theorem ex_neqX {t ty : TypeId} {x y : Operand} {m n : ByteArray} [h : TSr P t] (hx : ev l x = some (.string m)) (hy : ev l y = some (.string n)) : Ex P N l C ⟨d, .binOp .neq t x y ty, T, pos, af, g⟩ (.bool (decide (m ≠ n))) := by
  have h1 := ex_neqS (N := N) (C := C) (d := d) (T := T) (pos := pos) (af := af) (g := g) (ty := ty) (h := h) hx hy
  have e : (!(m.toList == n.toList)) = decide (m ≠ n) := by
    have : (m.toList == n.toList) = decide (m = n) := by rw [Bool.eq_iff_iff, beq_iff_eq, decide_eq_true_iff]; exact toList_iff
    rw [this]
    simp
  rwa [e] at h1
end
end Go.Fw
namespace Go.Proofs.Ytcododdkjppmjaa
open Go Go.Fw
set_option linter.unusedVariables false
theorem encX_at {l : List ByteArray} {i : Nat} {x : ByteArray} (h : l[i]? = some x) : (flat encX l)[i * 1]? = some (.string x) := flat_get0 encX_len h rfl
def idxX (l : List ByteArray) (v : ByteArray) : Int := match l.findIdx? fun x => decide (v = x) with
  | some i => (i : Int)
  | none => -1
theorem idxX_at {l : List ByteArray} {v : ByteArray} {i : Nat} (h : l[i]? = some v) (hn : ∀ (k : Nat) (x : ByteArray), k < i → l[k]? = some x → v ≠ x) : idxX l v = (i : Int) := by
  unfold idxX
  have : l.findIdx? (fun x => decide (v = x)) = some i := by
    rw [List.findIdx?_eq_some_iff_getElem]
    obtain ⟨h1, h2⟩ := List.getElem?_eq_some_iff.1 h
    exact ⟨h1, by simp [h2], fun j hj => by have := hn j _ hj (List.getElem?_eq_getElem (by omega)); simpa using this⟩
  rw [this]
theorem idxX_no {l : List ByteArray} {v : ByteArray} (hn : ∀ (k : Nat) (x : ByteArray), l[k]? = some x → v ≠ x) : idxX l v = -1 := by
  unfold idxX
  have : l.findIdx? (fun x => decide (v = x)) = none := by
    rw [List.findIdx?_eq_none_iff]
    intro x hx
    obtain ⟨k, hk⟩ := List.getElem?_of_mem hx
    simpa using hn k x hk
  rw [this]
theorem hasX_iff {l : List ByteArray} {v : ByteArray} : hasX l v = true ↔ v ∈ l := by
  unfold hasX
  rw [List.any_eq_true]
  exact ⟨fun ⟨x, h1, h2⟩ => (of_decide_eq_true h2) ▸ h1, fun h => ⟨v, h, decide_eq_true rfl⟩⟩
theorem idxX_mem {l : List ByteArray} {v : ByteArray} : decide (0 ≤ idxX l v) = hasX l v := by
  rw [Bool.eq_iff_iff, decide_eq_true_iff, hasX_iff]
  unfold idxX
  constructor
  · intro h
    split at h
    · rename_i i hi
      rw [List.findIdx?_eq_some_iff_getElem] at hi
      obtain ⟨h1, h2, _⟩ := hi
      have h2 := of_decide_eq_true h2
      rw [h2]
      exact List.getElem_mem h1
    · omega
  · intro h
    split
    · omega
    · rename_i hi
      rw [List.findIdx?_eq_none_iff] at hi
      have := hi v h
      simp at this
set_option maxRecDepth 10000 attribute [local irreducible] Code.wp wpList Calls Ex Op1 sat bat blk cb own Go.Fw.mp Go.Fw.mpO Go.Fw.mpI Go.Fw.mpE Go.Fw.itr HS Rd Ret wkD Hp Cl Cls Exit.then Exit.inBlock Exit.noGoto bodyPost Go.Fw.flat wk2 Go.Fw.all Go.Fw.owns wpOp
attribute [local irreducible] encA partsP partsL idxX

theorem indexX_spec (w0 : World) (o : Option Addr) (c : Nat) (l : List ByteArray) (v : ByteArray) (hr : Rd w0 o (flat encX l)) (hl : l.length ≤ maxLen) : Ret Try.prog 50 #[.slice o l.length c, .string v] w0 (fun u w => u = .int .i64 (idxX l v) ∧ Kp w0 noM w) := by
  have hH : HS w0 noM [] w0 := HS.init w0 noM
  unfold maxLen at hl
  have hsp : Sp o l.length := hr.sp (sz := 1) (flat_length encX_len l) (by omega)
  (refine enter (N := 19) Try.func50 rfl Try.ntmps50 rfl ?_; intro a hA; dsimp only [sl0, Nat.reduceAdd] at hA)
  repeat' (first | (first | (refine GT ?_ ?_ <;> intro hg <;> clear hA a <;> intro a hA <;> (first | exact FA | replace hg := of_decide_eq_true hg | replace hg := of_decide_eq_false hg | skip)) | (refine QT ?_; clear hA a; intro a hA) | (first | (refine BT ?_; clear hA hH; rintro _ w ⟨bN, rfl, hH⟩ a hA) | (refine LT ?_; clear hA hH; rintro _ w ⟨oN, rfl, hH⟩ a hA) | (refine AT ?_; clear hA; rintro _ w ⟨oN, cN, rfl, hH2⟩ a hA; clear hH; have hH := (hH2 _ (by (repeat constructor))).tail; clear hH2) | (refine S0T ?_; clear hH; rintro _ w hH) )) | ((first | refine CT ?_ | (refine DT ?_ ?_ <;> intro hc <;> try (exfalso; omega))) <;> repeat' refine CT ?_) | (first | (refine DSK ?_; clear hA a; intro a hA) | (first | (refine DLT ?_; clear hA hH; rintro _ w ⟨oN, rfl, hH⟩; refine ⟨STT, ?_⟩; intro a hA) | (refine DAT ?_; clear hA; rintro _ w ⟨oN, cN, rfl, hH2⟩; clear hH; have hH := (hH2 _ (by (repeat constructor))).tail; clear hH2; refine ⟨STT, ?_⟩; intro a hA))) )
  refine wp_lpj (S := Nat) (fun i a w => (i ≤ l.length ∧ ∀ (k : Nat) (x : ByteArray), k < i → l[k]? = some x → v ≠ x) ∧ HS w0 noM [] w ∧ Sl 19 [(0, .slice o l.length c), (1, .string v), (7, .int .i64 l.length), (8, .int .i64 i)] a) (fun i => l.length - i)
    (fun a w => (∀ (k : Nat) (x : ByteArray), l[k]? = some x → v ≠ x) ∧ HS w0 noM [] w ∧ Sl 19 [] a) 0 ⟨⟨Nat.zero_le _, fun k x hk => absurd hk (Nat.not_lt_zero _)⟩, hH, (hA.sub (by (repeat (first | exact trivial | refine ⟨rfl, ?_⟩))))⟩ ?_ ?_
  rotate_left
  · clear hA hH
    rintro a w ⟨hn, hH, hA⟩
    repeat' (first | (first | (refine GT ?_ ?_ <;> intro hg <;> clear hA a <;> intro a hA <;> (first | exact FA | replace hg := of_decide_eq_true hg | replace hg := of_decide_eq_false hg | skip)) | (refine QT ?_; clear hA a; intro a hA) | (first | (refine BT ?_; clear hA hH; rintro _ w ⟨bN, rfl, hH⟩ a hA) | (refine LT ?_; clear hA hH; rintro _ w ⟨oN, rfl, hH⟩ a hA) | (refine AT ?_; clear hA; rintro _ w ⟨oN, cN, rfl, hH2⟩ a hA; clear hH; have hH := (hH2 _ (by (repeat constructor))).tail; clear hH2) | (refine S0T ?_; clear hH; rintro _ w hH) )) | ((first | refine CT ?_ | (refine DT ?_ ?_ <;> intro hc <;> try (exfalso; omega))) <;> repeat' refine CT ?_) | (first | (refine DSK ?_; clear hA a; intro a hA) | (first | (refine DLT ?_; clear hA hH; rintro _ w ⟨oN, rfl, hH⟩; refine ⟨STT, ?_⟩; intro a hA) | (refine DAT ?_; clear hA; rintro _ w ⟨oN, cN, rfl, hH2⟩; clear hH; have hH := (hH2 _ (by (repeat constructor))).tail; clear hH2; refine ⟨STT, ?_⟩; intro a hA))) )
    exact rt1 (.inl rfl) rfl hA rfl ⟨by rw [idxX_no hn], hH.kp⟩
  clear hA hH
  rintro i a w ⟨⟨hi, hn⟩, hH, hA⟩
  by_cases hlt : i < l.length
  rotate_left
  · repeat' (first | (first | (refine GT ?_ ?_ <;> intro hg <;> clear hA a <;> intro a hA <;> (first | exact FA | replace hg := of_decide_eq_true hg | replace hg := of_decide_eq_false hg | skip)) | (refine QT ?_; clear hA a; intro a hA) | (first | (refine BT ?_; clear hA hH; rintro _ w ⟨bN, rfl, hH⟩ a hA) | (refine LT ?_; clear hA hH; rintro _ w ⟨oN, rfl, hH⟩ a hA) | (refine AT ?_; clear hA; rintro _ w ⟨oN, cN, rfl, hH2⟩ a hA; clear hH; have hH := (hH2 _ (by (repeat constructor))).tail; clear hH2) | (refine S0T ?_; clear hH; rintro _ w hH) )) | ((first | refine CT ?_ | (refine DT ?_ ?_ <;> intro hc <;> try (exfalso; omega))) <;> repeat' refine CT ?_) | (first | (refine DSK ?_; clear hA a; intro a hA) | (first | (refine DLT ?_; clear hA hH; rintro _ w ⟨oN, rfl, hH⟩; refine ⟨STT, ?_⟩; intro a hA) | (refine DAT ?_; clear hA; rintro _ w ⟨oN, cN, rfl, hH2⟩; clear hH; have hH := (hH2 _ (by (repeat constructor))).tail; clear hH2; refine ⟨STT, ?_⟩; intro a hA))) )
    exact ⟨fun k x hk => hn k x (by have := (List.getElem?_eq_some_iff.1 hk).1; omega) hk, hH, (hA.sub (by (repeat (first | exact trivial | refine ⟨rfl, ?_⟩))))⟩
  obtain ⟨x, hx⟩ : ∃ x, l[i]? = some x := ⟨_, List.getElem?_eq_getElem hlt⟩
  have hcx := encX_at hx
  by_cases hvx : v = x
  · subst hvx
    repeat' (first | (first | (refine GT ?_ ?_ <;> intro hg <;> clear hA a <;> intro a hA <;> (first | exact FA | replace hg := of_decide_eq_true hg | replace hg := of_decide_eq_false hg | skip)) | ((first | apply st_ex hA hH rfl rfl (by decide) | apply dr_ex hA rfl rfl rfl (by decide) | apply dr_exp hA rfl rfl rfl (by decide) | apply dr_ex3 hA hH rfl rfl rfl (by decide)); (first | (apply ex_eqlX; rfl; rfl) | (apply ex_neqX; rfl; rfl)); clear hA a; intro a hA) | (refine QT ?_; clear hA a; intro a hA) | (first | (refine BT ?_; clear hA hH; rintro _ w ⟨bN, rfl, hH⟩ a hA) | (refine LT ?_; clear hA hH; rintro _ w ⟨oN, rfl, hH⟩ a hA) | (refine AT ?_; clear hA; rintro _ w ⟨oN, cN, rfl, hH2⟩ a hA; clear hH; have hH := (hH2 _ (by (repeat constructor))).tail; clear hH2) | (refine S0T ?_; clear hH; rintro _ w hH) )) | ((first | refine CT ?_ | (refine DT ?_ ?_ <;> intro hc <;> try (exfalso; omega))) <;> repeat' refine CT ?_) | (first | (refine DSK ?_; clear hA a; intro a hA) | (first | (refine DLT ?_; clear hA hH; rintro _ w ⟨oN, rfl, hH⟩; refine ⟨STT, ?_⟩; intro a hA) | (refine DAT ?_; clear hA; rintro _ w ⟨oN, cN, rfl, hH2⟩; clear hH; have hH := (hH2 _ (by (repeat constructor))).tail; clear hH2; refine ⟨STT, ?_⟩; intro a hA))) )
    all_goals (first | exact rt1 (.inl rfl) rfl hA rfl ⟨by rw [idxX_at hx hn], hH.kp⟩ | exact absurd rfl (by assumption))
  · repeat' (first | (first | (refine GT ?_ ?_ <;> intro hg <;> clear hA a <;> intro a hA <;> (first | exact FA | replace hg := of_decide_eq_true hg | replace hg := of_decide_eq_false hg | skip)) | ((first | apply st_ex hA hH rfl rfl (by decide) | apply dr_ex hA rfl rfl rfl (by decide) | apply dr_exp hA rfl rfl rfl (by decide) | apply dr_ex3 hA hH rfl rfl rfl (by decide)); (first | (apply ex_eqlX; rfl; rfl) | (apply ex_neqX; rfl; rfl)); clear hA a; intro a hA) | (refine QT ?_; clear hA a; intro a hA) | (first | (refine BT ?_; clear hA hH; rintro _ w ⟨bN, rfl, hH⟩ a hA) | (refine LT ?_; clear hA hH; rintro _ w ⟨oN, rfl, hH⟩ a hA) | (refine AT ?_; clear hA; rintro _ w ⟨oN, cN, rfl, hH2⟩ a hA; clear hH; have hH := (hH2 _ (by (repeat constructor))).tail; clear hH2) | (refine S0T ?_; clear hH; rintro _ w hH) )) | ((first | refine CT ?_ | (refine DT ?_ ?_ <;> intro hc <;> try (exfalso; omega))) <;> repeat' refine CT ?_) | (first | (refine DSK ?_; clear hA a; intro a hA) | (first | (refine DLT ?_; clear hA hH; rintro _ w ⟨oN, rfl, hH⟩; refine ⟨STT, ?_⟩; intro a hA) | (refine DAT ?_; clear hA; rintro _ w ⟨oN, cN, rfl, hH2⟩; clear hH; have hH := (hH2 _ (by (repeat constructor))).tail; clear hH2; refine ⟨STT, ?_⟩; intro a hA))) )
    all_goals (first | exact ⟨i + 1, ⟨⟨hlt, fun k y hk hy => by
      by_cases hki : k = i
      · subst hki
        rw [hx] at hy
        obtain rfl := Option.some.inj hy
        exact hvx
      · exact hn k y (by omega) hy⟩, hH, (hA.sub (by (repeat (first | exact trivial | refine ⟨rfl, ?_⟩))))⟩, by omega⟩ | exact absurd (by assumption) hvx)
theorem containsX_spec (w0 : World) (o : Option Addr) (c : Nat) (l : List ByteArray) (v : ByteArray) (hr : Rd w0 o (flat encX l)) (hl : l.length ≤ maxLen) : Ret Try.prog 35 #[.slice o l.length c, .string v] w0 (fun u w => u = .bool (hasX l v) ∧ Kp w0 noM w) := by
  have hH : HS w0 noM [] w0 := HS.init w0 noM
  (refine enter (N := 9) Try.func35 rfl Try.ntmps35 rfl ?_; intro a hA; dsimp only [sl0, Nat.reduceAdd] at hA)
  repeat' (first | (first | (refine GT ?_ ?_ <;> intro hg <;> clear hA a <;> intro a hA <;> (first | exact FA | replace hg := of_decide_eq_true hg | replace hg := of_decide_eq_false hg | skip)) | (refine QT ?_; clear hA a; intro a hA) | (first | (refine BT ?_; clear hA hH; rintro _ w ⟨bN, rfl, hH⟩ a hA) | (refine LT ?_; clear hA hH; rintro _ w ⟨oN, rfl, hH⟩ a hA) | (refine AT ?_; clear hA; rintro _ w ⟨oN, cN, rfl, hH2⟩ a hA; clear hH; have hH := (hH2 _ (by (repeat constructor))).tail; clear hH2) | (refine S0T ?_; clear hH; rintro _ w hH) )) | ((first | refine CT ?_ | (refine DT ?_ ?_ <;> intro hc <;> try (exfalso; omega))) <;> repeat' refine CT ?_) | (first | (refine DSK ?_; clear hA a; intro a hA) | (first | (refine DLT ?_; clear hA hH; rintro _ w ⟨oN, rfl, hH⟩; refine ⟨STT, ?_⟩; intro a hA) | (refine DAT ?_; clear hA; rintro _ w ⟨oN, cN, rfl, hH2⟩; clear hH; have hH := (hH2 _ (by (repeat constructor))).tail; clear hH2; refine ⟨STT, ?_⟩; intro a hA))) )
  (refine st_op hA rfl rfl (by decide) (op_call rfl rfl rfl (indexX_spec _ o c l v (hH.rd hr id) hl)) ?_; clear hA; rintro _ w ⟨rfl, hk⟩ a hA; replace hH := hH.keep hk; clear hk)
  repeat' (first | (first | (refine GT ?_ ?_ <;> intro hg <;> clear hA a <;> intro a hA <;> (first | exact FA | replace hg := of_decide_eq_true hg | replace hg := of_decide_eq_false hg | skip)) | (refine QT ?_; clear hA a; intro a hA) | (first | (refine BT ?_; clear hA hH; rintro _ w ⟨bN, rfl, hH⟩ a hA) | (refine LT ?_; clear hA hH; rintro _ w ⟨oN, rfl, hH⟩ a hA) | (refine AT ?_; clear hA; rintro _ w ⟨oN, cN, rfl, hH2⟩ a hA; clear hH; have hH := (hH2 _ (by (repeat constructor))).tail; clear hH2) | (refine S0T ?_; clear hH; rintro _ w hH) )) | ((first | refine CT ?_ | (refine DT ?_ ?_ <;> intro hc <;> try (exfalso; omega))) <;> repeat' refine CT ?_) | (first | (refine DSK ?_; clear hA a; intro a hA) | (first | (refine DLT ?_; clear hA hH; rintro _ w ⟨oN, rfl, hH⟩; refine ⟨STT, ?_⟩; intro a hA) | (refine DAT ?_; clear hA; rintro _ w ⟨oN, cN, rfl, hH2⟩; clear hH; have hH := (hH2 _ (by (repeat constructor))).tail; clear hH2; refine ⟨STT, ?_⟩; intro a hA))) )
  exact rt1 (.inl rfl) rfl hA rfl ⟨by rw [idxX_mem], hH.kp⟩
end Go.Proofs.Ytcododdkjppmjaa
namespace Go.Fw
open Go Go.RowKit
theorem size0 {m : ByteArray} : m = ⟨#[]⟩ ↔ m.size = 0 := by
  constructor
  · intro h; rw [h]; rfl
  · intro h
    cases m with
    | mk d =>
      congr 1
      exact Array.eq_empty_of_size_eq_zero h
section
variable {P : Program} {N : Nat} {l : List (Nat × Value)} {C : World → Prop} {d : Option Tmp} {T : TypeId} {pos : String} {af : Array Edge} {g : Option (Nat × Bool)}
theorem ex_eql0 {t ty : TypeId} {x y : Operand} {m : ByteArray} [h : TSr P t] (hx : ev l x = some (.string m)) (hy : ev l y = some (.string ⟨#[]⟩)) : Ex P N l C ⟨d, .binOp .eql t x y ty, T, pos, af, g⟩ (.bool (decide ((m.size : Int) = 0))) := by
  have h1 := ex_eqlX (N := N) (C := C) (d := d) (T := T) (pos := pos) (af := af) (g := g) (ty := ty) (h := h) hx hy
  have e : decide (m = ⟨#[]⟩) = decide ((m.size : Int) = 0) := by rw [decide_eq_decide, size0]; omega
  rwa [e] at h1
theorem ex_neq0 {t ty : TypeId} {x y : Operand} {m : ByteArray} [h : TSr P t] (hx : ev l x = some (.string m)) (hy : ev l y = some (.string ⟨#[]⟩)) : Ex P N l C ⟨d, .binOp .neq t x y ty, T, pos, af, g⟩ (.bool (decide ((m.size : Int) ≠ 0))) := by
  have h1 := ex_neqX (N := N) (C := C) (d := d) (T := T) (pos := pos) (af := af) (g := g) (ty := ty) (h := h) hx hy
  have e : decide (m ≠ ⟨#[]⟩) = decide ((m.size : Int) ≠ 0) := by rw [decide_eq_decide, ne_eq, size0]; omega
  rwa [e] at h1
theorem ex_len_sz {t : TypeId} {x : Operand} {s : ByteArray} [ht : TSr P t] (hx : ev l x = some (.string s)) :
    Ex P N l C ⟨d, .call ⟨.builtin .len, #[x], #[t]⟩, T, pos, af, g⟩ (.int .i64 s.size) := by
  have := ex_len_string (N := N) (C := C) (d := d) (T := T) (pos := pos) (af := af) (g := g) (ht := ht) hx
  rwa [bts_len] at this
end
/-- in a region: what holds behind it; then the rest -/
theorem st_cutR {P : Program} {ops : Array Oper} {ls : List Oper} {a : Act} {w : World} {K : Act → World → Prop} {Q : Exit → Act → World → Prop} (R : Act → World → Prop)
    (h : wpList P ops (Exit.then R Q) ls a w) (k : ∀ a w, R a w → K a w) : wpList P ops (Exit.then K Q) ls a w := by
  induction ls generalizing a w with
  | nil => exact then_mono k .normal a w h
  | cons o rest ih =>
    unfold wpList at h ⊢
    split
    · rename_i hw
      rw [if_pos hw] at h
      rcases h with h | ⟨h1, h2⟩
      · refine .inl (Oper.wp_mono (K := wpList P ops (Exit.then R Q) rest) (fun a w h => ih h) ?_)
        unfold Oper.wp at *
        generalize (execOp a.eval o).run P w = r at *
        cases r with
        | ok n w' => cases n <;> simp only [Oper.upon] at h ⊢ <;> exact h
        | halt x w' => cases x <;> simp only [Oper.upon] at h ⊢ <;> exact h
      · exact .inr ⟨h1, by obtain ⟨a', w3, h3⟩ := h2; exact ⟨a', w3, h3⟩⟩
    · rename_i hw
      rw [if_neg hw] at h
      exact ih h
end Go.Fw
namespace Go.Proofs.Ytcododdkjppmjaa
open Go Go.Fw
set_option linter.unusedVariables false
theorem formP_eq (p : AP) : formP p = (decide (Shape p.k p.v p.n p.s.size p.ls.length p.ps.length) && labsP [] p.ls && formL p.ps) := by cases p; rw [formP]; rfl
theorem form_no {p : AP} (h : ¬ Shape p.k p.v p.n p.s.size p.ls.length p.ps.length) : formP p = false := by rw [formP_eq, decide_eq_false h]; rfl
theorem formL_all : ∀ (ps : List AP), formL ps = ps.all formP
  | [] => rfl
  | a :: ps => by rw [formL, List.all_cons, formL_all ps]
theorem form_yes {p : AP} (h : Shape p.k p.v p.n p.s.size p.ls.length p.ps.length) (h2 : labsP [] p.ls = true) : formP p = !(p.ps.any fun x => !formP x) := by
  rw [formP_eq, decide_eq_true h, h2, formL_all]
  simp [List.all_eq_not_any_not]
theorem labs_snoc : ∀ (ls pre : List ByteArray) (x : ByteArray) (rest : List ByteArray), labsP pre (ls ++ x :: rest) = (labsP pre ls && (!(x.size == 0) && !hasX (pre ++ ls) x) && labsP (pre ++ ls ++ [x]) rest)
  | [], pre, x, rest => by simp [labsP]
  | y :: ls, pre, x, rest => by
    rw [List.cons_append, labsP, labsP, labs_snoc ls (pre ++ [y]) x rest]
    simp [Bool.and_assoc]
theorem labs_bad {ls : List ByteArray} {i : Nat} {x : ByteArray} (hx : ls[i]? = some x) (h : x.size = 0 ∨ hasX (ls.take i) x = true) : labsP [] ls = false := by
  have h1 := labs_snoc (ls.take i) [] x (ls.drop (i + 1))
  obtain ⟨hi, he⟩ := List.getElem?_eq_some_iff.1 hx
  have e : ls.take i ++ x :: ls.drop (i + 1) = ls := by rw [← he, ← List.drop_eq_getElem_cons hi, List.take_append_drop]
  rw [e] at h1
  rw [h1, List.nil_append]
  rcases h with h | h <;> simp [h]
theorem labs_next {ls : List ByteArray} {i : Nat} {x : ByteArray} (hx : ls[i]? = some x) (h0 : labsP [] (ls.take i) = true) (h1 : x.size ≠ 0) (h2 : hasX (ls.take i) x = false) : labsP [] (ls.take (i + 1)) = true := by
  rw [take_next hx, labs_snoc]
  simp [h0, h1, h2, labsP]
set_option maxRecDepth 10000 attribute [local irreducible] Code.wp wpList Calls Ex Op1 sat bat blk cb own Go.Fw.mp Go.Fw.mpO Go.Fw.mpI Go.Fw.mpE Go.Fw.itr HS Rd Ret wkD Hp Cl Cls Exit.then Exit.inBlock Exit.noGoto bodyPost Go.Fw.flat wk2 Go.Fw.all Go.Fw.owns wpOp
attribute [local irreducible] encA partsP partsL idxX formP formL labsP Shape hasX

set_option maxHeartbeats 4000000 in
theorem indexA_spec (w0 : World) (o : Option Addr) (c : Nat) (l : List AP) (fk : FuncId) (first cap : Array Value) [hk : FnB Try.prog fk] (f : AP → Bool) (hr : Rd w0 o (flat encA l)) (hl : l.length ≤ maxLen)
    (hf : ∀ x ∈ l, ∀ w, Kp w0 noM w → Ret Try.prog fk (first ++ #[.agg #[.int .i64 x.k, .int .i64 x.v, .int .i64 x.n, .string x.s, .slice x.ol x.ls.length x.cl, .slice x.oa x.ps.length x.ca]] ++ cap) w (fun v w' => v = .bool (f x) ∧ Kp w noM w')) :
    Ret Try.prog 34 #[.slice o l.length c, .func (.func fk) first cap] w0 (fun v w => ∃ i : Int, v = .int .i64 i ∧ decide (0 ≤ i) = l.any f ∧ Kp w0 noM w) := by
  have hH : HS w0 noM [] w0 := HS.init w0 noM
  unfold maxLen at hl
  have hsp : Sp o l.length := hr.sp (sz := 6) (flat_length encA_len l) (by omega)
  (refine enter (N := 19) Try.func34 rfl Try.ntmps34 rfl ?_; intro a hA; dsimp only [sl0, Nat.reduceAdd] at hA)
  repeat' (first | (first | (refine GT ?_ ?_ <;> intro hg <;> clear hA a <;> intro a hA <;> (first | exact FA | replace hg := of_decide_eq_true hg | replace hg := of_decide_eq_false hg | skip)) | (refine QT ?_; clear hA a; intro a hA) | (first | (refine BT ?_; clear hA hH; rintro _ w ⟨bN, rfl, hH⟩ a hA) | (refine LT ?_; clear hA hH; rintro _ w ⟨oN, rfl, hH⟩ a hA) | (refine AT ?_; clear hA; rintro _ w ⟨oN, cN, rfl, hH2⟩ a hA; clear hH; have hH := (hH2 _ (by (repeat constructor))).tail; clear hH2) | (refine S0T ?_; clear hH; rintro _ w hH) )) | ((first | refine CT ?_ | (refine DT ?_ ?_ <;> intro hc <;> try (exfalso; omega))) <;> repeat' refine CT ?_) | (first | (refine DSK ?_; clear hA a; intro a hA) | (first | (refine DLT ?_; clear hA hH; rintro _ w ⟨oN, rfl, hH⟩; refine ⟨STT, ?_⟩; intro a hA) | (refine DAT ?_; clear hA; rintro _ w ⟨oN, cN, rfl, hH2⟩; clear hH; have hH := (hH2 _ (by (repeat constructor))).tail; clear hH2; refine ⟨STT, ?_⟩; intro a hA))) )
  refine wp_lpj (S := Nat) (fun i a w => (i ≤ l.length ∧ (l.take i).any f = false) ∧ HS w0 noM [] w ∧ Sl 19 [(0, .slice o l.length c), (1, .func (.func fk) first cap), (7, .int .i64 l.length), (8, .int .i64 i)] a) (fun i => l.length - i)
    (fun a w => l.any f = false ∧ HS w0 noM [] w ∧ Sl 19 [] a) 0 ⟨⟨Nat.zero_le _, rfl⟩, hH, (hA.sub (by (repeat (first | exact trivial | refine ⟨rfl, ?_⟩))))⟩ ?_ ?_
  rotate_left
  · clear hA hH
    rintro a w ⟨hn, hH, hA⟩
    repeat' (first | (first | (refine GT ?_ ?_ <;> intro hg <;> clear hA a <;> intro a hA <;> (first | exact FA | replace hg := of_decide_eq_true hg | replace hg := of_decide_eq_false hg | skip)) | (refine QT ?_; clear hA a; intro a hA) | (first | (refine BT ?_; clear hA hH; rintro _ w ⟨bN, rfl, hH⟩ a hA) | (refine LT ?_; clear hA hH; rintro _ w ⟨oN, rfl, hH⟩ a hA) | (refine AT ?_; clear hA; rintro _ w ⟨oN, cN, rfl, hH2⟩ a hA; clear hH; have hH := (hH2 _ (by (repeat constructor))).tail; clear hH2) | (refine S0T ?_; clear hH; rintro _ w hH) )) | ((first | refine CT ?_ | (refine DT ?_ ?_ <;> intro hc <;> try (exfalso; omega))) <;> repeat' refine CT ?_) | (first | (refine DSK ?_; clear hA a; intro a hA) | (first | (refine DLT ?_; clear hA hH; rintro _ w ⟨oN, rfl, hH⟩; refine ⟨STT, ?_⟩; intro a hA) | (refine DAT ?_; clear hA; rintro _ w ⟨oN, cN, rfl, hH2⟩; clear hH; have hH := (hH2 _ (by (repeat constructor))).tail; clear hH2; refine ⟨STT, ?_⟩; intro a hA))) )
    exact rt1 (.inl rfl) rfl hA rfl ⟨-1, rfl, by rw [hn]; rfl, hH.kp⟩
  clear hA hH
  rintro i a w ⟨⟨hi, hn⟩, hH, hA⟩
  by_cases hlt : i < l.length
  rotate_left
  · obtain rfl : i = l.length := by omega
    rw [List.take_length] at hn
    repeat' (first | (first | (refine GT ?_ ?_ <;> intro hg <;> clear hA a <;> intro a hA <;> (first | exact FA | replace hg := of_decide_eq_true hg | replace hg := of_decide_eq_false hg | skip)) | (refine QT ?_; clear hA a; intro a hA) | (first | (refine BT ?_; clear hA hH; rintro _ w ⟨bN, rfl, hH⟩ a hA) | (refine LT ?_; clear hA hH; rintro _ w ⟨oN, rfl, hH⟩ a hA) | (refine AT ?_; clear hA; rintro _ w ⟨oN, cN, rfl, hH2⟩ a hA; clear hH; have hH := (hH2 _ (by (repeat constructor))).tail; clear hH2) | (refine S0T ?_; clear hH; rintro _ w hH) )) | ((first | refine CT ?_ | (refine DT ?_ ?_ <;> intro hc <;> try (exfalso; omega))) <;> repeat' refine CT ?_) | (first | (refine DSK ?_; clear hA a; intro a hA) | (first | (refine DLT ?_; clear hA hH; rintro _ w ⟨oN, rfl, hH⟩; refine ⟨STT, ?_⟩; intro a hA) | (refine DAT ?_; clear hA; rintro _ w ⟨oN, cN, rfl, hH2⟩; clear hH; have hH := (hH2 _ (by (repeat constructor))).tail; clear hH2; refine ⟨STT, ?_⟩; intro a hA))) )
    exact ⟨hn, hH, (hA.sub (by (repeat (first | exact trivial | refine ⟨rfl, ?_⟩))))⟩
  obtain ⟨x, hx⟩ : ∃ x, l[i]? = some x := ⟨_, List.getElem?_eq_getElem hlt⟩
  have hxm := List.mem_of_getElem? hx
  have hvs := flat_all encA_len hx
  rw [encA_eq] at hvs
  repeat' (first | (first | (refine GT ?_ ?_ <;> intro hg <;> clear hA a <;> intro a hA <;> (first | exact FA | replace hg := of_decide_eq_true hg | replace hg := of_decide_eq_false hg | skip)) | ((first | apply st_ex hA hH rfl rfl (by decide) | apply dr_ex hA rfl rfl rfl (by decide) | apply dr_exp hA rfl rfl rfl (by decide) | apply dr_ex3 hA hH rfl rfl rfl (by decide)); (first | (apply ex_load_st (vs := [.int .i64 x.k, .int .i64 x.v, .int .i64 x.n, .string x.s, .slice x.ol x.ls.length x.cl, .slice x.oa x.ps.length x.ca]); rfl; rfl; exact cls_rd hr id hvs)); clear hA a; intro a hA) | (refine QT ?_; clear hA a; intro a hA) | (first | (refine BT ?_; clear hA hH; rintro _ w ⟨bN, rfl, hH⟩ a hA) | (refine LT ?_; clear hA hH; rintro _ w ⟨oN, rfl, hH⟩ a hA) | (refine AT ?_; clear hA; rintro _ w ⟨oN, cN, rfl, hH2⟩ a hA; clear hH; have hH := (hH2 _ (by (repeat constructor))).tail; clear hH2) | (refine S0T ?_; clear hH; rintro _ w hH) )) | ((first | refine CT ?_ | (refine DT ?_ ?_ <;> intro hc <;> try (exfalso; omega))) <;> repeat' refine CT ?_) | (first | (refine DSK ?_; clear hA a; intro a hA) | (first | (refine DLT ?_; clear hA hH; rintro _ w ⟨oN, rfl, hH⟩; refine ⟨STT, ?_⟩; intro a hA) | (refine DAT ?_; clear hA; rintro _ w ⟨oN, cN, rfl, hH2⟩; clear hH; have hH := (hH2 _ (by (repeat constructor))).tail; clear hH2; refine ⟨STT, ?_⟩; intro a hA))) )
  (refine st_op hA rfl rfl (by decide) (op_call rfl rfl rfl (hf x hxm _ hH.kp)) ?_; clear hA; rintro _ w ⟨rfl, hk⟩ a hA; replace hH := hH.keep hk; clear hk)
  cases hfx : f x with
  | true =>
    rw [hfx] at hA
    repeat' (first | (first | (refine GT ?_ ?_ <;> intro hg <;> clear hA a <;> intro a hA <;> (first | exact FA | replace hg := of_decide_eq_true hg | replace hg := of_decide_eq_false hg | skip)) | (refine QT ?_; clear hA a; intro a hA) | (first | (refine BT ?_; clear hA hH; rintro _ w ⟨bN, rfl, hH⟩ a hA) | (refine LT ?_; clear hA hH; rintro _ w ⟨oN, rfl, hH⟩ a hA) | (refine AT ?_; clear hA; rintro _ w ⟨oN, cN, rfl, hH2⟩ a hA; clear hH; have hH := (hH2 _ (by (repeat constructor))).tail; clear hH2) | (refine S0T ?_; clear hH; rintro _ w hH) )) | ((first | refine CT ?_ | (refine DT ?_ ?_ <;> intro hc <;> try (exfalso; omega))) <;> repeat' refine CT ?_) | (first | (refine DSK ?_; clear hA a; intro a hA) | (first | (refine DLT ?_; clear hA hH; rintro _ w ⟨oN, rfl, hH⟩; refine ⟨STT, ?_⟩; intro a hA) | (refine DAT ?_; clear hA; rintro _ w ⟨oN, cN, rfl, hH2⟩; clear hH; have hH := (hH2 _ (by (repeat constructor))).tail; clear hH2; refine ⟨STT, ?_⟩; intro a hA))) )
    exact rt1 (.inl rfl) rfl hA rfl ⟨(i : Int), rfl, by rw [decide_eq_true (by omega)]; exact (List.any_eq_true.2 ⟨x, hxm, hfx⟩).symm, hH.kp⟩
  | false =>
    rw [hfx] at hA
    repeat' (first | (first | (refine GT ?_ ?_ <;> intro hg <;> clear hA a <;> intro a hA <;> (first | exact FA | replace hg := of_decide_eq_true hg | replace hg := of_decide_eq_false hg | skip)) | (refine QT ?_; clear hA a; intro a hA) | (first | (refine BT ?_; clear hA hH; rintro _ w ⟨bN, rfl, hH⟩ a hA) | (refine LT ?_; clear hA hH; rintro _ w ⟨oN, rfl, hH⟩ a hA) | (refine AT ?_; clear hA; rintro _ w ⟨oN, cN, rfl, hH2⟩ a hA; clear hH; have hH := (hH2 _ (by (repeat constructor))).tail; clear hH2) | (refine S0T ?_; clear hH; rintro _ w hH) )) | ((first | refine CT ?_ | (refine DT ?_ ?_ <;> intro hc <;> try (exfalso; omega))) <;> repeat' refine CT ?_) | (first | (refine DSK ?_; clear hA a; intro a hA) | (first | (refine DLT ?_; clear hA hH; rintro _ w ⟨oN, rfl, hH⟩; refine ⟨STT, ?_⟩; intro a hA) | (refine DAT ?_; clear hA; rintro _ w ⟨oN, cN, rfl, hH2⟩; clear hH; have hH := (hH2 _ (by (repeat constructor))).tail; clear hH2; refine ⟨STT, ?_⟩; intro a hA))) )
    exact ⟨i + 1, ⟨⟨hlt, by rw [take_next hx, List.any_append, hn]; simp [hfx]⟩, hH, (hA.sub (by (repeat (first | exact trivial | refine ⟨rfl, ?_⟩))))⟩, by omega⟩
theorem containsA_spec (w0 : World) (o : Option Addr) (c : Nat) (l : List AP) (fk : FuncId) (first cap : Array Value) [hk : FnB Try.prog fk] (f : AP → Bool) (hr : Rd w0 o (flat encA l)) (hl : l.length ≤ maxLen)
    (hf : ∀ x ∈ l, ∀ w, Kp w0 noM w → Ret Try.prog fk (first ++ #[.agg #[.int .i64 x.k, .int .i64 x.v, .int .i64 x.n, .string x.s, .slice x.ol x.ls.length x.cl, .slice x.oa x.ps.length x.ca]] ++ cap) w (fun v w' => v = .bool (f x) ∧ Kp w noM w')) :
    Ret Try.prog 15 #[.slice o l.length c, .func (.func fk) first cap] w0 (fun v w => v = .bool (l.any f) ∧ Kp w0 noM w) := by
  have hH : HS w0 noM [] w0 := HS.init w0 noM
  (refine enter (N := 9) Try.func15 rfl Try.ntmps15 rfl ?_; intro a hA; dsimp only [sl0, Nat.reduceAdd] at hA)
  repeat' (first | (first | (refine GT ?_ ?_ <;> intro hg <;> clear hA a <;> intro a hA <;> (first | exact FA | replace hg := of_decide_eq_true hg | replace hg := of_decide_eq_false hg | skip)) | (refine QT ?_; clear hA a; intro a hA) | (first | (refine BT ?_; clear hA hH; rintro _ w ⟨bN, rfl, hH⟩ a hA) | (refine LT ?_; clear hA hH; rintro _ w ⟨oN, rfl, hH⟩ a hA) | (refine AT ?_; clear hA; rintro _ w ⟨oN, cN, rfl, hH2⟩ a hA; clear hH; have hH := (hH2 _ (by (repeat constructor))).tail; clear hH2) | (refine S0T ?_; clear hH; rintro _ w hH) )) | ((first | refine CT ?_ | (refine DT ?_ ?_ <;> intro hc <;> try (exfalso; omega))) <;> repeat' refine CT ?_) | (first | (refine DSK ?_; clear hA a; intro a hA) | (first | (refine DLT ?_; clear hA hH; rintro _ w ⟨oN, rfl, hH⟩; refine ⟨STT, ?_⟩; intro a hA) | (refine DAT ?_; clear hA; rintro _ w ⟨oN, cN, rfl, hH2⟩; clear hH; have hH := (hH2 _ (by (repeat constructor))).tail; clear hH2; refine ⟨STT, ?_⟩; intro a hA))) )
  (refine st_op hA rfl rfl (by decide) (op_call rfl rfl rfl (indexA_spec _ o c l fk first cap f (hH.rd hr id) hl (fun x hx w hw => hf x hx w (hH.kp.trans hw (fun b hb => hb.elim))))) ?_; clear hA; rintro _ w ⟨i, rfl, hi, hk⟩ a hA; replace hH := hH.keep hk; clear hk)
  repeat' (first | (first | (refine GT ?_ ?_ <;> intro hg <;> clear hA a <;> intro a hA <;> (first | exact FA | replace hg := of_decide_eq_true hg | replace hg := of_decide_eq_false hg | skip)) | (refine QT ?_; clear hA a; intro a hA) | (first | (refine BT ?_; clear hA hH; rintro _ w ⟨bN, rfl, hH⟩ a hA) | (refine LT ?_; clear hA hH; rintro _ w ⟨oN, rfl, hH⟩ a hA) | (refine AT ?_; clear hA; rintro _ w ⟨oN, cN, rfl, hH2⟩ a hA; clear hH; have hH := (hH2 _ (by (repeat constructor))).tail; clear hH2) | (refine S0T ?_; clear hH; rintro _ w hH) )) | ((first | refine CT ?_ | (refine DT ?_ ?_ <;> intro hc <;> try (exfalso; omega))) <;> repeat' refine CT ?_) | (first | (refine DSK ?_; clear hA a; intro a hA) | (first | (refine DLT ?_; clear hA hH; rintro _ w ⟨oN, rfl, hH⟩; refine ⟨STT, ?_⟩; intro a hA) | (refine DAT ?_; clear hA; rintro _ w ⟨oN, cN, rfl, hH2⟩; clear hH; have hH := (hH2 _ (by (repeat constructor))).tail; clear hH2; refine ⟨STT, ?_⟩; intro a hA))) )
  exact rt1 (.inl rfl) rfl hA rfl ⟨by rw [hi], hH.kp⟩
end Go.Proofs.Ytcododdkjppmjaa
