/-
  The document's heap as it is called. Conditions: none.
-/
import Derived.Test.YtejpcidfigmnkaaRB
namespace Go.Proofs.Ytejpcidfigmnkaa
open Go Go.Fw
set_option linter.unusedVariables false
section
variable {w0 w : World} {M : Nat → Prop} {H : List It} {b N : Nat} {L : List Ob}
theorem rf_readM (hH : HS w0 M H w) (hm : rfI b N L ∈ H) : RfR w b N L := rf_read (hH.pick hm)
theorem rget_f {z i : Int} (hH : HS w0 M H w) (hm : rfI b N L ∈ H) (hok : Ok N L) : Ret Try.prog 46 #[.pointer (some (bat b 0)), .int .i64 z, .int .i64 i] w (fun v w' => v = .tuple #[.int .u64 (getA L z i).1, .int .i64 (getA L z i).2] ∧ HS w0 M H w') :=
  (rget_spec w b N L z i hok (rf_readM hH hm)).mono fun v w' ⟨h1, h2⟩ => ⟨h1, hH.keep h2⟩
theorem rnext_f {z : Int} (hH : HS w0 M H w) (hm : rfI b N L ∈ H) (hok : Ok N L) : Ret Try.prog 51 #[.pointer (some (bat b 0)), .int .i64 z] w (fun v w' => v = .int .i64 (nextA L z) ∧ HS w0 M H w') :=
  (rnext_spec w b N L z hok.len (rf_readM hH hm)).mono fun v w' ⟨h1, h2⟩ => ⟨h1, hH.keep h2⟩
theorem rfind_f {z : Int} (hH : HS w0 M H w) (hm : rfI b N L ∈ H) (hok : Ok N L) : Ret Try.prog 47 #[.pointer (some (bat b 0)), .int .i64 z] w (fun v w' => v = .int .i64 (findI L z) ∧ HS w0 M H w') :=
  (rfind_spec w b N L z hok.len (rf_readM hH hm)).mono fun v w' ⟨h1, h2⟩ => ⟨h1, hH.keep h2⟩
theorem rset_f {z i x : Int} (hH : HS w0 M (rfI b N L :: H) w) (hok : Ok N L) : Ret Try.prog 43 #[.pointer (some (bat b 0)), .int .i64 z, .int .i64 i, .int .u64 x] w (fun v w' => v = .int .i64 (setA L z i x).1 ∧ HS w0 M (rfI b N (setA L z i x).2 :: H) w') := by
  obtain ⟨Mc, h1, -, h2⟩ := HS.frame (Hc := [rfI b N L]) (Hf := H) hH
  exact (rset_spec w Mc b N L z i x hok h1).mono fun v w' ⟨h3, h4⟩ => ⟨h3, h2 _ _ h4⟩
theorem ralloc_f {k s : Int} (hH : HS w0 M (rfI b N L :: H) w) (hok : Ok N L) : Ret Try.prog 42 #[.pointer (some (bat b 0)), .int .i64 k, .int .i64 s] w (fun v w' => v = .tuple #[.int .i64 (allocA N L k s).1, .int .i64 (allocA N L k s).2.1] ∧ HS w0 M (rfI b N (allocA N L k s).2.2 :: H) w') := by
  obtain ⟨Mc, h1, -, h2⟩ := HS.frame (Hc := [rfI b N L]) (Hf := H) hH
  exact (ralloc_spec w Mc b N L k s hok h1).mono fun v w' ⟨h3, h4⟩ => ⟨h3, h2 _ _ h4⟩
theorem rfree_f {z : Int} (hH : HS w0 M (rfI b N L :: H) w) (hok : Ok N L) : Ret Try.prog 52 #[.pointer (some (bat b 0)), .int .i64 z] w (fun v w' => v = .int .i64 (freeA L z).1 ∧ HS w0 M (rfI b N (freeA L z).2 :: H) w') := by
  obtain ⟨Mc, h1, -, h2⟩ := HS.frame (Hc := [rfI b N L]) (Hf := H) hH
  exact (rfree_spec w Mc b N L z hok h1).mono fun v w' ⟨h3, h4⟩ => ⟨h3, h2 _ _ h4⟩
end
set_option maxRecDepth 10000 attribute [local irreducible] Code.wp wpList Calls Ex Op1 sat bat blk cb own Go.Fw.mp Go.Fw.mpO Go.Fw.mpI Go.Fw.mpE Go.Fw.itr HS Rd Ret wkD Hp Cl Cls Exit.then Exit.inBlock Exit.noGoto bodyPost Go.Fw.flat wk2 Go.Fw.all Go.Fw.owns wpOp
attribute [local irreducible] hdA gaps isA roomA longA nextA allocA freeA sizeA kindA usedA hd0 setA getA findI objA

theorem rnew_spec (w0 : World) (z : Int) :
    Ret Try.prog 41 #[.int .i64 z] w0 (fun v w => (v = .pointer none ∧ ¬ (2 ≤ z ∧ z ≤ 65536) ∧ Kp w0 noM w) ∨ ((2 ≤ z ∧ z ≤ 65536) ∧ ∃ b, v = .pointer (some (bat b 0)) ∧ HS w0 noM [rfI b z.toNat []] w)) := by
  have hH : HS w0 noM [] w0 := HS.init w0 noM
  (refine enter (N := 12) Try.func41 rfl Try.ntmps41 rfl ?_; intro a hA; dsimp only [sl0, Nat.reduceAdd] at hA)
  by_cases hz : 2 ≤ z ∧ z ≤ 65536
  · obtain ⟨N, rfl⟩ : ∃ N : Nat, z = N := ⟨z.toNat, by omega⟩
    repeat' (first | (first | (refine GT ?_ ?_ <;> intro hg <;> clear hA a <;> intro a hA <;> (first | exact FA | replace hg := of_decide_eq_true hg | replace hg := of_decide_eq_false hg | skip)) | ((first | apply st_ex hA hH rfl rfl (by decide) | apply dr_ex hA rfl rfl rfl (by decide) | apply dr_exp hA rfl rfl rfl (by decide) | apply dr_ex3 hA hH rfl rfl rfl (by decide)); (first | (apply ex_build_p #[.int .i64 (N : Int), .slice none 0 0]; rfl; (repeat (first | (intro _ h; exact absurd h (List.not_mem_nil)) | (refine List.forall_mem_cons.2 ⟨one_cell_of _ _, ?_⟩))); rfl)); clear hA a; intro a hA) | (refine QT0 ?_; clear hA a; intro a hA) | (first | (refine BT ?_; clear hA hH; rintro _ w ⟨bN, rfl, hH⟩ a hA) | (refine LT ?_; clear hA hH; rintro _ w ⟨oN, rfl, hH⟩ a hA) | (refine AT ?_; clear hA; rintro _ w ⟨oN, cN, rfl, hH2⟩ a hA; clear hH; have hH := (hH2 _ (by (repeat constructor))).tail; clear hH2) | (refine S0T ?_; clear hH; rintro _ w hH) )) | ((first | refine CT ?_ | (refine DT ?_ ?_ <;> intro hc <;> try (exfalso; omega))) <;> repeat' refine CT ?_) | (first | (refine DSK ?_; clear hA a; intro a hA) | (first | (refine DLT ?_; clear hA hH; rintro _ w ⟨oN, rfl, hH⟩; refine ⟨STT, ?_⟩; intro a hA) | (refine DAT ?_; clear hA; rintro _ w ⟨oN, cN, rfl, hH2⟩; clear hH; have hH := (hH2 _ (by (repeat constructor))).tail; clear hH2; refine ⟨STT, ?_⟩; intro a hA))) )
    replace hH := ((hH.nil_all).nil_own 70 3).perm (H' := [cb bN 73 [.int .i64 (N : Int), .slice none 0 0], own 70 3 none 0 0 [], all []]) (by (repeat (first | exact List.Perm.nil | refine perm_pick 0 rfl ?_ | refine perm_pick 1 rfl ?_ | refine perm_pick 2 rfl ?_ | refine perm_pick 3 rfl ?_ | refine perm_pick 4 rfl ?_ | refine perm_pick 5 rfl ?_ | refine perm_pick 6 rfl ?_ | refine perm_pick 7 rfl ?_ | refine perm_pick 8 rfl ?_ | refine perm_pick 9 rfl ?_ | refine perm_pick 10 rfl ?_ | refine perm_pick 11 rfl ?_)))
    refine rt1 (.inl rfl) rfl hA rfl (Or.inr ⟨hz, bN, rfl, ?_⟩)
    rw [Int.toNat_natCast]
    exact rf_close0 hH
  · repeat' (first | (first | (refine GT ?_ ?_ <;> intro hg <;> clear hA a <;> intro a hA <;> (first | exact FA | replace hg := of_decide_eq_true hg | replace hg := of_decide_eq_false hg | skip)) | (refine QT0 ?_; clear hA a; intro a hA) | (first | (refine BT ?_; clear hA hH; rintro _ w ⟨bN, rfl, hH⟩ a hA) | (refine LT ?_; clear hA hH; rintro _ w ⟨oN, rfl, hH⟩ a hA) | (refine AT ?_; clear hA; rintro _ w ⟨oN, cN, rfl, hH2⟩ a hA; clear hH; have hH := (hH2 _ (by (repeat constructor))).tail; clear hH2) | (refine S0T ?_; clear hH; rintro _ w hH) )) | ((first | refine CT ?_ | (refine DT ?_ ?_ <;> intro hc <;> try (exfalso; omega))) <;> repeat' refine CT ?_) | (first | (refine DSK ?_; clear hA a; intro a hA) | (first | (refine DLT ?_; clear hA hH; rintro _ w ⟨oN, rfl, hH⟩; refine ⟨STT, ?_⟩; intro a hA) | (refine DAT ?_; clear hA; rintro _ w ⟨oN, cN, rfl, hH2⟩; clear hH; have hH := (hH2 _ (by (repeat constructor))).tail; clear hH2; refine ⟨STT, ?_⟩; intro a hA))) )
    all_goals exact rt1 (.inl rfl) rfl hA rfl (Or.inl ⟨rfl, hz, hH.kp⟩)
theorem rnew_f {w0 w : World} {M : Nat → Prop} {H : List It} {z : Int} (hH : HS w0 M H w) : Ret Try.prog 41 #[.int .i64 z] w (fun v w' => (v = .pointer none ∧ ¬ (2 ≤ z ∧ z ≤ 65536) ∧ HS w0 M H w') ∨ ((2 ≤ z ∧ z ≤ 65536) ∧ ∃ b, v = .pointer (some (bat b 0)) ∧ HS w0 M (rfI b z.toNat [] :: H) w')) :=
  (rnew_spec w z).mono fun v w' h => by
    rcases h with ⟨h1, h2, h3⟩ | ⟨h1, b', h2, h3⟩
    · exact .inl ⟨h1, h2, hH.keep h3⟩
    · exact .inr ⟨h1, b', h2, hH.join h3⟩

end Go.Proofs.Ytejpcidfigmnkaa
