/-
  SsaMayUpto: the tied card, proved. Conditions: none.
-/
import Derived.Test.YtenlcdokaadobaaGreatDoorRowMayMg10
import Derived.Test.YtenlcdokaadobaaGreatDoorCards
import Derived.Test.YtenlcdokaadobaaGreatDoorTie
import Derived.SevenTiedAt
namespace Go.Proofs.YtenlcdokaadobaaGreatDoor
open Go Go.Fw Go.ChangeShapes Go.WideShapes Go.ChangeAt Go.RowKit
set_option linter.unusedVariables false

set_option maxRecDepth 100000 in
theorem may_lifted (os : Os) (started : os.Started) (H : Type) (enc : TypeId × Value → H) (F : Stop.Interp) :
    ReturnsInHanded {} Tryz.checked os 4 .any (preL enc Tryz.prog Tryz.f4 (Rows.OpenSpec.upto Rows.ssaMaySpec) Rows.ssaMayUptoRow.domain Rows.ssaMayUptoRow.laid) (((Rows.OpenSpec.upto Rows.ssaMaySpec).at F).post enc Tryz.prog Tryz.f4 false true false false) := by
  refine law_lifted_uptoL (C := Tryz.checked) (s := Rows.ssaMaySpec) (k := Rows.uptoSmall) own_ started (by kernel_rfl) Tryz.func4
    (witnessL (enc := enc) (C := Tryz.checked) (s := Rows.OpenSpec.upto Rows.ssaMaySpec) (k := Rows.uptoSmall) rfl (World.doorLaid Tryz.prog 400 os) #[.agg #[.slice none 0 0, .slice none 0 0, .slice none 0 0, .slice none 0 0, .slice none 0 0]] 8 rfl (door_shaped os _) (by kernel_rfl)
      (x := ([.agg [.nil, .nil, .nil, .nil, .nil]], [], [])) (by kernel_rfl) rfl (by kernel_rfl) (by kernel_rfl) (door_met os _))
    laidOut (by kernel_rfl) rfl (fun ds hds => ?_) rfl Tryz.underlying4 ?_
  · match ds, hds with
    | [d0], _ => exact ⟨rfl, rfl, rfl⟩
  · intro W base args ds p hval hA hk hL
    rw [Tryz.params4] at hval hA
    obtain ⟨v0, vs0, d0, ds0, p0, q0, hargs, rfl, rfl, h0, r0⟩ := trodAll_cons hA
    obtain ⟨rfl, rfl, rfl⟩ := trodAll_nil r0
    obtain rfl : args = #[v0] := by cases args; simp_all
    obtain ⟨g, rfl, hg, hb⟩ := argG (hval 0 _ v0 rfl rfl) h0 (.head _) hk
    have hFI := fi_of_laid hL
    exact may_law W g hg hb hFI

set_option maxRecDepth 100000 in
theorem may_row : Rows.SsaMayUptoSaid :=
  OpenClaim.holds_of_cond 4 Tryz.f4 rfl rfl rfl rfl rfl rfl rfl ⟨rfl, rfl, rfl, rfl, rfl⟩ rfl rfl rfl rfl rfl (by kernel_rfl) Tryz.func4 (by kernel_rfl)
    (of_decide_eq_true (by kernel_rfl)) (by unfold Func.isWrapper; first | (rw [if_pos (by decide +kernel)]; kernel_rfl) | (rw [if_neg (by decide +kernel)]; exact ⟨rfl, rfl⟩))
    (fun os started H enc _ F => may_lifted os started H enc F)
set_option maxRecDepth 100000 in
theorem may_holds : Rows.SsaMayUptoCardSaid :=
  Claim7.holds_tied_plain_at .later [] [.data, .data, .data] true (true, "2046ed8f2e3c50a74101c90d1b5159da7190812eebbbfde0a28890951ed67f68") true
    may_row (fun _ h => by cases h) (by kernel_rfl) (fun _ h => by cases h) ssaMayUpto_row_tie rfl ⟨rfl, rfl⟩ (by kernel_rfl) rfl
    (fun f fn hf hfn => by
      obtain rfl : f = 4 := Option.some.inj ((show Tryz.prog.funcNamed "marquetry/marquetrylaw15.SsaMay" = some 4 by kernel_rfl).symm.trans hf) |>.symm
      obtain rfl : fn = Tryz.f4 := (Option.some.inj (Tryz.func4.symm.trans hfn)).symm
      exact ⟨by kernel_rfl, fun j t ht => by
        rw [Tryz.params4] at ht
        have hm : t ∈ [25] := by simpa using Array.mem_of_getElem? ht
        have hall : ([25].all fun u => !Tryz.prog.wantsStandIn u) = true := by kernel_rfl
        exact (show Tryz.prog.wantsStandIn t = false by simpa using List.all_eq_true.1 hall t hm)⟩)
    (by kernel_rfl)
end Go.Proofs.YtenlcdokaadobaaGreatDoor
