/-
  More of the frame: pointers against nil. Conditions: none.
-/
import Derived.Test.YtejpcidfigmnkaaFw12
import Derived.Laws.Pointers
namespace Go.Fw
open Go Go.RowKit
set_option linter.unusedVariables false
section
variable {P : Program} {N : Nat} {l : List (Nat × Value)} {C : World → Prop} {d : Option Tmp} {T : TypeId} {pos : String} {af : Array Edge} {g : Option (Nat × Bool)}
theorem ex_eqlPn {t ty : TypeId} {x y : Operand} {p : Option Addr} [h : TPt P t] (hx : ev l x = some (.pointer p)) (hy : ev l y = some (.pointer none)) : Ex P N l C ⟨d, .binOp .eql t x y ty, T, pos, af, g⟩ (.bool p.isNone) := by
  intro a w hA _
  simp [execOp, hA.ev hx, hA.ev hy, eqGuard_at_pointer, run_eql_pointer_nil w t p h.eq]
theorem ex_neqPn {t ty : TypeId} {x y : Operand} {p : Option Addr} [h : TPt P t] (hx : ev l x = some (.pointer p)) (hy : ev l y = some (.pointer none)) : Ex P N l C ⟨d, .binOp .neq t x y ty, T, pos, af, g⟩ (.bool (!p.isNone)) := by
  intro a w hA _
  simp [execOp, hA.ev hx, hA.ev hy, eqGuard_at_pointer, run_neq_pointer_nil w t p h.eq]
theorem ex_eqlPt {t ty : TypeId} {x y : Operand} [h : TPt P t] (hx : ev l x = some (.pointer none)) (hy : ev l y = some (.pointer none)) : Ex P N l C ⟨d, .binOp .eql t x y ty, T, pos, af, g⟩ (.bool true) := ex_eqlPn (h := h) hx hy
theorem ex_eqlPf {t ty : TypeId} {x y : Operand} {p : Addr} [h : TPt P t] (hx : ev l x = some (.pointer (some p))) (hy : ev l y = some (.pointer none)) : Ex P N l C ⟨d, .binOp .eql t x y ty, T, pos, af, g⟩ (.bool false) := ex_eqlPn (h := h) hx hy
theorem ex_neqPf {t ty : TypeId} {x y : Operand} [h : TPt P t] (hx : ev l x = some (.pointer none)) (hy : ev l y = some (.pointer none)) : Ex P N l C ⟨d, .binOp .neq t x y ty, T, pos, af, g⟩ (.bool false) := ex_neqPn (h := h) hx hy
theorem ex_neqPt {t ty : TypeId} {x y : Operand} {p : Addr} [h : TPt P t] (hx : ev l x = some (.pointer (some p))) (hy : ev l y = some (.pointer none)) : Ex P N l C ⟨d, .binOp .neq t x y ty, T, pos, af, g⟩ (.bool true) := ex_neqPn (h := h) hx hy
end
theorem inB_mono {id : Nat} {Q Q' : Exit → Act → World → Prop} (h : ∀ e a w, Q e a w → Q' e a w) : ∀ e a w, Exit.inBlock id Q e a w → Exit.inBlock id Q' e a w := by
  intro e a w he
  cases e <;> simp only [Exit.inBlock] at he ⊢ <;> first | exact h _ _ _ he | (split at he <;> rename_i hc <;> simp only [hc] <;> exact h _ _ _ he)
/-- a loop in a block, behind which R holds; then the rest -/
theorem wp_lpj {P : Program} {a : Act} {w : World} {id : Nat} {K : Act → World → Prop} {Q : Exit → Act → World → Prop} {c : Code} {S : Type} (I : S → Act → World → Prop) (μ : S → Nat) (R : Act → World → Prop) (s : S) (h₀ : I s a w)
    (round : ∀ s a w, I s a w → c.wp P (Exit.then (fun a' w' => ∃ s', I s' a' w' ∧ μ s' < μ s) (Exit.inBlock id (Exit.then R Q))) a w) (k : ∀ a w, R a w → K a w) : (Code.loop c).wp P (Exit.inBlock id (Exit.then K Q)) a w :=
  Code.wp_mono (inB_mono (then_mono k)) (wp_lp I μ s h₀ round)
/-- in a region ahead of a choice: both ways come to R; then the rest -/
theorem st_join {P : Program} {ops : Array Oper} {ls : List Oper} {a : Act} {w : World} {c2 : Code} {K : Act → World → Prop} {Q : Exit → Act → World → Prop} (R : Act → World → Prop)
    (h : wpList P ops (Exit.then (c2.wp P (Exit.then R Q)) (Exit.then R Q)) ls a w) (k : ∀ a w, R a w → K a w) : wpList P ops (Exit.then (c2.wp P (Exit.then K Q)) (Exit.then K Q)) ls a w := by
  induction ls generalizing a w with
  | nil => exact Code.wp_mono (then_mono k) (show c2.wp P (Exit.then R Q) a w from h)
  | cons o rest ih =>
    unfold wpList at h ⊢
    split
    · rename_i hw
      rw [if_pos hw] at h
      rcases h with h | ⟨h1, h2⟩
      · refine .inl (Oper.wp_mono (K := wpList P ops (Exit.then (c2.wp P (Exit.then R Q)) (Exit.then R Q)) rest) (fun a w h => ih h) ?_)
        unfold Oper.wp at *
        generalize (execOp a.eval o).run P w = r at *
        cases r with
        | ok n w' => cases n <;> simp only [Oper.upon] at h ⊢ <;> exact h
        | halt x w' => cases x <;> simp only [Oper.upon] at h ⊢ <;> exact h
      · exact .inr ⟨h1, by obtain ⟨a', w3, h3⟩ := h2; exact ⟨a', w3, h3⟩⟩
    · rename_i hw
      rw [if_neg hw] at h
      exact ih h
theorem HS.all_out {w0 w : World} {M : Nat → Prop} {A B H : List It} {x : It} (h : HS w0 M (all (A ++ x :: B) :: H) w) : HS w0 M (x :: all (A ++ B) :: H) w := by
  have h1 : HS w0 M ((A ++ x :: B) ++ H) w := h.open_
  have h2 : HS w0 M ((A ++ B) ++ x :: H) w := h1.perm (by
    have e1 : (A ++ x :: B ++ H).Perm (x :: (A ++ B) ++ H) := (List.perm_middle).append_right H
    have e2 : (x :: (A ++ B) ++ H).Perm ((A ++ B) ++ x :: H) := (List.perm_middle (l₁ := A ++ B)).symm
    exact e1.trans e2)
  exact h2.shut.perm (.swap _ _ _)
theorem HS.all_in {w0 w : World} {M : Nat → Prop} {A B H : List It} {x : It} (h : HS w0 M (x :: all (A ++ B) :: H) w) : HS w0 M (all (A ++ x :: B) :: H) w := by
  have h1 : HS w0 M (all (A ++ B) :: x :: H) w := h.perm (.swap _ _ _)
  have h2 : HS w0 M ((A ++ B) ++ x :: H) w := h1.open_
  refine HS.shut (h2.perm ?_)
  have e1 : ((A ++ B) ++ x :: H).Perm (x :: (A ++ B) ++ H) := List.perm_middle (l₁ := A ++ B)
  have e2 : (x :: (A ++ B) ++ H).Perm (A ++ x :: B ++ H) := (List.perm_middle.symm).append_right H
  exact e1.trans e2
theorem owns_split {α : Type} {T sz : Nat} {enc : α → List Value} {d1 d2 : List Sd} {r1 r2 : List (List α)} (h : d1.length = r1.length) : owns T sz enc (d1 ++ d2) (r1 ++ r2) = owns T sz enc d1 r1 ++ owns T sz enc d2 r2 := by
  simp [owns, List.zipWith_append h]
theorem owns_cons {α : Type} {T sz : Nat} {enc : α → List Value} (d : Sd) (ds : List Sd) (r : List α) (rs : List (List α)) : owns T sz enc (d :: ds) (r :: rs) = own T sz d.1 d.2.1 d.2.2 (flat enc r) :: owns T sz enc ds rs := rfl
theorem split_at {α : Type} {L : List α} {i : Nat} {o : α} (h : L[i]? = some o) : L = L.take i ++ o :: L.drop (i + 1) ∧ (L.take i).length = i := by
  obtain ⟨hi, he⟩ := List.getElem?_eq_some_iff.1 h
  exact ⟨by rw [← he, ← List.drop_eq_getElem_cons hi, List.take_append_drop], by rw [List.length_take]; omega⟩
section
variable {w0 w : World} {M : Nat → Prop} {p q r : It}
theorem HS.p3a (h : HS w0 M [p, q, r] w) : HS w0 M [r, p, q] w := h.perm (by (repeat (first | exact List.Perm.nil | refine perm_pick 0 rfl ?_ | refine perm_pick 1 rfl ?_ | refine perm_pick 2 rfl ?_ | refine perm_pick 3 rfl ?_ | refine perm_pick 4 rfl ?_ | refine perm_pick 5 rfl ?_ | refine perm_pick 6 rfl ?_ | refine perm_pick 7 rfl ?_ | refine perm_pick 8 rfl ?_ | refine perm_pick 9 rfl ?_ | refine perm_pick 10 rfl ?_ | refine perm_pick 11 rfl ?_)))
theorem HS.p3b (h : HS w0 M [p, q, r] w) : HS w0 M [q, p] w := (h.perm (H' := [r, q, p]) (by (repeat (first | exact List.Perm.nil | refine perm_pick 0 rfl ?_ | refine perm_pick 1 rfl ?_ | refine perm_pick 2 rfl ?_ | refine perm_pick 3 rfl ?_ | refine perm_pick 4 rfl ?_ | refine perm_pick 5 rfl ?_ | refine perm_pick 6 rfl ?_ | refine perm_pick 7 rfl ?_ | refine perm_pick 8 rfl ?_ | refine perm_pick 9 rfl ?_ | refine perm_pick 10 rfl ?_ | refine perm_pick 11 rfl ?_)))).tail
theorem HS.p3c (h : HS w0 M [p, q, r] w) : HS w0 M [p, r] w := (h.perm (H' := [q, p, r]) (by (repeat (first | exact List.Perm.nil | refine perm_pick 0 rfl ?_ | refine perm_pick 1 rfl ?_ | refine perm_pick 2 rfl ?_ | refine perm_pick 3 rfl ?_ | refine perm_pick 4 rfl ?_ | refine perm_pick 5 rfl ?_ | refine perm_pick 6 rfl ?_ | refine perm_pick 7 rfl ?_ | refine perm_pick 8 rfl ?_ | refine perm_pick 9 rfl ?_ | refine perm_pick 10 rfl ?_ | refine perm_pick 11 rfl ?_)))).tail
end
/-- a loop in a block, whatever stands behind -/
theorem wp_lpk {P : Program} {a : Act} {w : World} {id : Nat} {Q0 : Exit → Act → World → Prop} {c : Code} {S : Type} (I : S → Act → World → Prop) (μ : S → Nat) (R : Act → World → Prop) (s : S) (h₀ : I s a w)
    (round : ∀ s a w, I s a w → c.wp P (Exit.then (fun a' w' => ∃ s', I s' a' w' ∧ μ s' < μ s) (Exit.inBlock id (Exit.then R Q0))) a w) (k : ∀ a w, R a w → Q0 .normal a w) : (Code.loop c).wp P (Exit.inBlock id Q0) a w :=
  Code.wp_mono (inB_mono (fun e a w he => by
    cases e with
    | normal => exact k _ _ he
    | _ => exact he)) (wp_lp I μ s h₀ round)
end Go.Fw
