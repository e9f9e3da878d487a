/-
  More of the frame: whole numbers of other kinds; a part of what can be read. Conditions: none.
-/
import Derived.Test.YtejpcidfigmnkaaFw6
namespace Go.Fw
open Go Go.ChangeShapes Go.WideShapes Go.ChangeAt Go.RowKit Go.Deep
set_option linter.unusedVariables false
section
variable {P : Program} {N : Nat} {l : List (Nat × Value)} {C : World → Prop} {d : Option Tmp} {T : TypeId} {pos : String} {af : Array Edge} {g : Option (Nat × Bool)}
theorem ex_rem {t ty : TypeId} {x y : Operand} {k : IntKind} {m n : Int} (hx : ev l x = some (.int k m)) (hy : ev l y = some (.int k n)) (h : n ≠ 0) : Ex P N l C ⟨d, .binOp .rem t x y ty, T, pos, af, g⟩ (.int k (m.tmod n)) := by
  intro a w hA _
  simp only [execOp, hA.ev hx, hA.ev hy, eqGuard_at_int, binOp_rem]
  simp [Op.intDiv, h]
theorem ex_quo {t ty : TypeId} {x y : Operand} {k : IntKind} {m n : Int} (hx : ev l x = some (.int k m)) (hy : ev l y = some (.int k n)) (h : n ≠ 0) : Ex P N l C ⟨d, .binOp .quo t x y ty, T, pos, af, g⟩ (.int k (k.wrap (m.tdiv n))) := by
  intro a w hA _
  simp only [execOp, hA.ev hx, hA.ev hy, eqGuard_at_int, binOp_quo]
  simp [Op.intDiv, h]
theorem ex_convert {s t : TypeId} {x : Operand} {k kd ks : IntKind} {m v : Int} [hs : TIn P s ks] [ht : TIn P t kd] (hx : ev l x = some (.int k m)) (hv : kd.wrap m = v) : Ex P N l C ⟨d, .convert s t x, T, pos, af, g⟩ (.int kd v) := by
  intro a w hA _
  subst hv
  simp only [execOp, hA.ev hx, convert, Sem.run_bind, run_underlying hs.eq, run_underlying ht.eq, Result.andThen_ok, Conv.intToInt, Sem.run_pure]
end
theorem Rd.take {w : World} {o : Option Addr} {xs : List Value} (h : Rd w o xs) (k : Nat) : Rd w o (xs.take k) := by
  refine ⟨fun hp => h.1 (by rw [List.length_take] at hp; omega), fun j u hj => h.2 j u ?_⟩
  have hjk : j < k := by
    have := (List.getElem?_eq_some_iff.1 hj).1
    rw [List.length_take] at this; omega
  rwa [List.getElem?_take_of_lt hjk] at hj
section
variable {H : Type} {enc : TypeId × Value → H} {P : Program} {w : World} {base : Nat} {spare : Nat → Bool} {held : Bool}
theorem slice_cap {t e : TypeId} {d : DataW H} {p : List MemPlace} {o : Option Addr} {n c : Nat} (ht : P.underlying t = some (.slice e)) (h : DataW.Trod enc P w base spare held t (.slice o n c) d p) : n ≤ c := by
  obtain ⟨fuel, hf⟩ := h
  rcases open_slice ht hf with h0 | ⟨a, len, cap, m, n', D, Pl, hcs, hb, hl, hm, hmm, hx, hi⟩
  · have := h0.1
    simp [Value.cells] at this
    omega
  · simp [Value.cells] at hcs
    omega
end
end Go.Fw
