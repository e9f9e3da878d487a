/-
  SsaMakes: the tied card, proved. Conditions: none.
-/
import Derived.Test.YtenlcdokaadobaaGreatDoorRowMakesMg13
import Derived.Test.YtenlcdokaadobaaGreatDoorCards
import Derived.Test.YtenlcdokaadobaaGreatDoorTie
import Derived.SevenTiedAt
namespace Go.Proofs.YtenlcdokaadobaaGreatDoor
open Go Go.Fw Go.ChangeShapes Go.WideShapes Go.ChangeAt Go.RowKit
set_option linter.unusedVariables false
set_option maxRecDepth 100000 in
theorem makes_lifted (os:Os) (started:os.Started) (H:Type) (enc:TypeId × Value→H) :
    ReturnsInHanded {} Tryz.checked os 5 .any (preZ enc Tryz.prog Tryz.f5 Rows.ssaMakesSpec Rows.ssaMakesRow.domain Rows.ssaMakesRow.laid) (Rows.ssaMakesSpec.post enc Tryz.prog Tryz.f5 false true false false):=by
  refine law_liftedZ (C:=Tryz.checked) (s:=Rows.ssaMakesSpec) ownN_ started (by kernel_rfl) Tryz.func5
    (witnessZ (enc:=enc) (C:=Tryz.checked) (s:=Rows.ssaMakesSpec) (World.doorLaid Tryz.prog 400 os) #[.agg #[.slice none 0 0,.slice none 0 0,.slice none 0 0,.slice none 0 0,.slice none 0 0]] 8 rfl (doorN_shaped os _) (by kernel_rfl) (by kernel_rfl) (by kernel_rfl) (doorN_met os _))
    laidOutN (by kernel_rfl) rfl (fun ds hds=>?_) rfl Tryz.underlying4 ?_
  · match ds,hds with
    | [d0],_=>exact ⟨rfl,rfl,rfl⟩
  · intro W base args ds p hval hA hz hL
    rw [Tryz.params5] at hval hA hz
    obtain ⟨v0,vs0,d0,ds0,p0,q0,hargs,rfl,rfl,h0,r0⟩:=trodAll_cons hA
    obtain ⟨rfl,rfl,rfl⟩:=trodAll_nil r0
    obtain rfl:args=#[v0]:=by cases args;simp_all
    obtain ⟨oF,cF,fl,g,rfl,hp⟩:=argPr (hval 0 _ v0 rfl rfl) h0 (hz 0 _ d0 rfl rfl)
    exact makes_law W oF cF fl g hp

set_option maxRecDepth 100000 in
theorem makes_row:Rows.SsaMakesSaid:=
  OpenClaim.holds_of_wide 5 Tryz.f5 rfl rfl rfl rfl rfl rfl rfl ⟨rfl,rfl,rfl,rfl,rfl⟩ rfl rfl rfl rfl rfl (by kernel_rfl) Tryz.func5 (by kernel_rfl)
    (dTr (by kernel_rfl)) (by unfold Func.isWrapper;first|(rw [if_pos (by decide +kernel)];kernel_rfl)|(rw [if_neg (by decide +kernel)];exact ⟨rfl,rfl⟩))
    (fun os started H enc _=>makes_lifted os started H enc)
set_option maxRecDepth 100000 in
theorem makes_holds:Rows.SsaMakesCardSaid:=
  Claim7.holds_tied_plain_at .later [] [.data,.data,.data] true (true, "2046ed8f2e3c50a74101c90d1b5159da7190812eebbbfde0a28890951ed67f68") true
    makes_row (fun _ h=>by cases h) (by kernel_rfl) (fun _ h=>by cases h) ssaMakes_row_tie rfl ⟨rfl,rfl⟩ (by kernel_rfl) rfl
    (fun f fn hf hfn=>by
      obtain rfl:f=5:=Option.some.inj ((show Tryz.prog.funcNamed "marquetry/marquetrylaw15.SsaMakes"=some 5 by kernel_rfl).symm.trans hf) |>.symm
      obtain rfl:fn=Tryz.f5:=(Option.some.inj (Tryz.func5.symm.trans hfn)).symm
      exact ⟨by kernel_rfl,fun j t ht=>by
        rw [Tryz.params5] at ht
        have hm:t∈[34]:=by simpa using Array.mem_of_getElem? ht
        have hall:([34].all fun u=>!Tryz.prog.wantsStandIn u)=true:=by kernel_rfl
        exact (show Tryz.prog.wantsStandIn t=false by simpa using List.all_eq_true.1 hall t hm)⟩)
    (by kernel_rfl)
end Go.Proofs.YtenlcdokaadobaaGreatDoor
