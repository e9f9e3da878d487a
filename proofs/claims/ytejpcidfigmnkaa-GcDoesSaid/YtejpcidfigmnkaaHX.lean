/-
  More of a heap, for all that use one. Conditions: none.
-/
import Derived.Test.YtejpcidfigmnkaaHK
import Derived.Test.YtejpcidfigmnkaaPD
namespace Go.Proofs.Ytejpcidfigmnkaa
open Go Go.Fw
set_option linter.unusedVariables false
theorem ones_zero : flat encW (List.replicate 0 (1 : Int)) = [] := rfl
theorem ones_snoc (k : Nat) : flat encW (List.replicate k (1 : Int)) ++ [.int .u64 1] = flat encW (List.replicate (k + 1) 1) := by rw [List.replicate_succ', flat_append]; rfl
theorem hp_rep {w0 w : World} {M : Nat → Prop} {H : List It} {b N : Nat} {L : List Ob} (h : HS w0 M H w) (hm : hpI b N L ∈ H) : ∃ cs hs, Rep N L cs hs :=
  let ⟨q, hq⟩ := hp_readM h hm
  ⟨_, _, hq.rep⟩
theorem size_at {N p : Nat} {A B : List Ob} {o : Ob} (h : Lay N p (A ++ o :: B)) : sizeA (A ++ o :: B) (o.a : Int) = ((o.fs.length : Int), 0) := by
  have hm : o ∈ A ++ o :: B := List.mem_append_right _ (List.mem_cons_self ..)
  unfold sizeA
  rw [isA_iff.2 ⟨o, hm, rfl⟩, Int.toNat_natCast, hdA_at h hm]
  rfl
theorem kind_at {N p : Nat} {A B : List Ob} {o : Ob} (h : Lay N p (A ++ o :: B)) : kindA (A ++ o :: B) (o.a : Int) = ((o.kind : Int), 0) := by
  have hm : o ∈ A ++ o :: B := List.mem_append_right _ (List.mem_cons_self ..)
  unfold kindA
  rw [isA_iff.2 ⟨o, hm, rfl⟩, Int.toNat_natCast, hdA_at h hm]
  rfl
section
variable {w : World} {b N : Nat} {L : List Ob}
theorem kind_r {z : Int} (hR : HpR w b N L) : Ret Try.prog 28 #[.pointer (some (bat b 0)), .int .i64 z] w (fun v w' => v = .tuple #[.int .i64 (kindA L z).1, .int .i64 (kindA L z).2] ∧ Kp w noM w') :=
  (kind_spec w b N L z hR).mono fun v w' ⟨h1, h2⟩ => ⟨by rw [h1]; unfold kindA; split <;> rfl, h2⟩
theorem size_r {z : Int} (hR : HpR w b N L) : Ret Try.prog 35 #[.pointer (some (bat b 0)), .int .i64 z] w (fun v w' => v = .tuple #[.int .i64 (sizeA L z).1, .int .i64 (sizeA L z).2] ∧ Kp w noM w') :=
  (size_spec w b N L z hR).mono fun v w' ⟨h1, h2⟩ => ⟨by rw [h1]; unfold sizeA; split <;> rfl, h2⟩
end
theorem kind_obj {N : Nat} {L : List Ob} {z : Int} {o : Ob} (hl : Lay N 1 L) (h : objA L z = some o) : kindA L z = ((o.kind : Int), 0) ∧ sizeA L z = ((o.fs.length : Int), 0) := by
  obtain ⟨h1, h2⟩ := objA_some h
  subst h2
  unfold kindA sizeA
  rw [objA_is h, Int.toNat_natCast, hdA_at hl h1]
  exact ⟨rfl, rfl⟩
theorem kind_none {L : List Ob} {z : Int} (h : objA L z = none) : kindA L z = (0, 7) ∧ sizeA L z = (0, 7) := by
  unfold kindA sizeA
  rw [objA_none h]
  exact ⟨rfl, rfl⟩
theorem get_obj {N : Nat} {L : List Ob} {o : Ob} (hl : Lay N 1 L) (hm : o ∈ L) {j : Nat} {y : Int} (hy : o.fs[j]? = some y) : getA L (o.a : Int) j = (y, 0) := by
  have hj := (List.getElem?_eq_some_iff.1 hy).1
  simp only [getA, objA_mem hl hm]
  rw [if_pos (by omega)]
  simp [List.getD, hy]
theorem hd0_at {L : List Ob} {i : Nat} {x : Ob} (h : L[i]? = some x) : hd0 (L.drop i) = x.a := by
  rw [List.drop_eq_getElem_cons (List.getElem?_eq_some_iff.1 h).1, (List.getElem?_eq_some_iff.1 h).2]
  rfl
theorem hd0_end {L : List Ob} : hd0 (L.drop L.length) = 0 := by rw [List.drop_length]; rfl
theorem next_idx {N : Nat} {L : List Ob} {i : Nat} {x : Ob} (hl : Lay N 1 L) (h : L[i]? = some x) : nextA L ((x.a : Int) + 1) = hd0 (L.drop (i + 1)) := by
  obtain ⟨e1, e2⟩ := split_at h
  have h2 := hl
  rw [e1] at h2
  conv => lhs; rw [e1]
  exact next_succ h2
end Go.Proofs.Ytejpcidfigmnkaa
