/-
  The heap's methods as they are called: some of one's own standing by. Conditions: none.
-/
import Derived.Test.YtejpcidfigmnkaaHJ
namespace Go.Proofs.Ytejpcidfigmnkaa
open Go Go.Fw
set_option linter.unusedVariables false
section
variable {w0 w : World} {M : Nat → Prop} {H : List It} {b N : Nat} {L : List Ob}
theorem hp_readM (hH : HS w0 M H w) (hm : hpI b N L ∈ H) : HpR w b N L := hp_read (hH.pick hm)
theorem next_f {z : Int} (hH : HS w0 M H w) (hm : hpI b N L ∈ H) : Ret Try.prog 31 #[.pointer (some (bat b 0)), .int .i64 z] w (fun v w' => v = .int .i64 (nextA L z) ∧ HS w0 M H w') :=
  (next_spec w b N L z (hp_readM hH hm)).mono fun v w' ⟨h1, h2⟩ => ⟨h1, hH.keep h2⟩
theorem words_f (hH : HS w0 M H w) (hm : hpI b N L ∈ H) : Ret Try.prog 44 #[.pointer (some (bat b 0))] w (fun v w' => v = .int .i64 N ∧ HS w0 M H w') :=
  (words_spec w b N L (hp_readM hH hm)).mono fun v w' ⟨h1, h2⟩ => ⟨h1, hH.keep h2⟩
/-- the kind or size, and what is wrong -/
def kindA (L : List Ob) (z : Int) : Int × Int := if isA L z then ((hdA L z.toNat).1, 0) else (0, 7)
def sizeA (L : List Ob) (z : Int) : Int × Int := if isA L z then ((hdA L z.toNat).2, 0) else (0, 7)
theorem kind_f {z : Int} (hH : HS w0 M H w) (hm : hpI b N L ∈ H) : Ret Try.prog 28 #[.pointer (some (bat b 0)), .int .i64 z] w (fun v w' => v = .tuple #[.int .i64 (kindA L z).1, .int .i64 (kindA L z).2] ∧ HS w0 M H w') :=
  (kind_spec w b N L z (hp_readM hH hm)).mono fun v w' ⟨h1, h2⟩ => ⟨by rw [h1]; unfold kindA; split <;> rfl, hH.keep h2⟩
theorem size_f {z : Int} (hH : HS w0 M H w) (hm : hpI b N L ∈ H) : Ret Try.prog 35 #[.pointer (some (bat b 0)), .int .i64 z] w (fun v w' => v = .tuple #[.int .i64 (sizeA L z).1, .int .i64 (sizeA L z).2] ∧ HS w0 M H w') :=
  (size_spec w b N L z (hp_readM hH hm)).mono fun v w' ⟨h1, h2⟩ => ⟨by rw [h1]; unfold sizeA; split <;> rfl, hH.keep h2⟩
theorem get_f {z i : Int} (hH : HS w0 M H w) (hm : hpI b N L ∈ H) : Ret Try.prog 37 #[.pointer (some (bat b 0)), .int .i64 z, .int .i64 i] w (fun v w' => v = .tuple #[.int .u64 (getA L z i).1, .int .i64 (getA L z i).2] ∧ HS w0 M H w') :=
  (get_spec w b N L z i (hp_readM hH hm)).mono fun v w' ⟨h1, h2⟩ => ⟨h1, hH.keep h2⟩
theorem set_f {z i x : Int} (hH : HS w0 M (hpI b N L :: H) w) : Ret Try.prog 39 #[.pointer (some (bat b 0)), .int .i64 z, .int .i64 i, .int .u64 x] w (fun v w' => v = .int .i64 (setA L z i x).1 ∧ HS w0 M (hpI b N (setA L z i x).2 :: H) w') := by
  obtain ⟨Mc, h1, -, h2⟩ := HS.frame (Hc := [hpI b N L]) (Hf := H) hH
  exact (set_spec w Mc b N L z i x h1).mono fun v w' ⟨h3, h4⟩ => ⟨h3, h2 _ _ h4⟩
theorem alloc_f {k s : Int} (hH : HS w0 M (hpI b N L :: H) w) : Ret Try.prog 38 #[.pointer (some (bat b 0)), .int .i64 k, .int .i64 s] w (fun v w' => v = .tuple #[.int .i64 (allocA N L k s).1, .int .i64 (allocA N L k s).2.1] ∧ HS w0 M (hpI b N (allocA N L k s).2.2 :: H) w') := by
  obtain ⟨Mc, h1, -, h2⟩ := HS.frame (Hc := [hpI b N L]) (Hf := H) hH
  exact (alloc_spec w Mc b N L k s h1).mono fun v w' ⟨h3, h4⟩ => ⟨h3, h2 _ _ h4⟩
theorem free_f {z : Int} (hH : HS w0 M (hpI b N L :: H) w) : Ret Try.prog 49 #[.pointer (some (bat b 0)), .int .i64 z] w (fun v w' => v = .int .i64 (freeA L z).1 ∧ HS w0 M (hpI b N (freeA L z).2 :: H) w') := by
  obtain ⟨Mc, h1, -, h2⟩ := HS.frame (Hc := [hpI b N L]) (Hf := H) hH
  exact (free_spec w Mc b N L z h1).mono fun v w' ⟨h3, h4⟩ => ⟨h3, h2 _ _ h4⟩
theorem new_f {z : Int} (hH : HS w0 M H w) : Ret Try.prog 32 #[.int .i64 z] w (fun v w' => (v = .pointer none ∧ ¬ (2 ≤ z ∧ z ≤ 65536) ∧ HS w0 M H w') ∨ ((2 ≤ z ∧ z ≤ 65536) ∧ ∃ b, v = .pointer (some (bat b 0)) ∧ HS w0 M (hpI b z.toNat [] :: H) w')) :=
  (new_spec w z).mono fun v w' h => by
    rcases h with ⟨h1, h2, h3⟩ | ⟨h1, b', h2, h3⟩
    · exact .inl ⟨h1, h2, hH.keep h3⟩
    · exact .inr ⟨h1, b', h2, hH.join h3⟩
end
end Go.Proofs.Ytejpcidfigmnkaa
