/-
  SsaMeans: the tied card, proved. Conditions: none.
-/
import Derived.Test.YtenlcdokaadobaaGreatDoorRowMeansMg12
import Derived.Test.YtenlcdokaadobaaGreatDoorCards
import Derived.Test.YtenlcdokaadobaaGreatDoorTie
import Derived.SevenTiedAt
namespace Go.Proofs.YtenlcdokaadobaaGreatDoor
open Go Go.Fw Go.ChangeShapes Go.WideShapes Go.ChangeAt Go.RowKit
set_option linter.unusedVariables false
set_option maxRecDepth 100000 in
theorem means_lifted (os:Os) (started:os.Started) (H:Type) (enc:TypeId × Value→H) :
    ReturnsInHanded {} Tryz.checked os 9 .any (preZ enc Tryz.prog Tryz.f9 Rows.ssaMeansSpec Rows.ssaMeansRow.domain Rows.ssaMeansRow.laid) (Rows.ssaMeansSpec.post enc Tryz.prog Tryz.f9 false true false false):=by
  refine law_liftedZ (C:=Tryz.checked) (s:=Rows.ssaMeansSpec) ownN_ started (by kernel_rfl) Tryz.func9
    (witnessZ (enc:=enc) (C:=Tryz.checked) (s:=Rows.ssaMeansSpec) (World.doorLaid Tryz.prog 400 os) #[.agg #[.slice none 0 0,.slice none 0 0,.slice none 0 0,.slice none 0 0,.slice none 0 0],.int .i64 0,.string ⟨#[]⟩,.int .i64 0] 8 rfl (aW os _) (by kernel_rfl) (by kernel_rfl) (by kernel_rfl) (doorN_met os _))
    laidOutN (by kernel_rfl) rfl (fun ds hds=>?_) rfl Tryz.underlying4 ?_
  · match ds,hds with
    | [d0,d1,d2,d3],_=>exact ⟨rfl,rfl,rfl⟩
  · intro W base args ds p hval hA hz hL
    rw [Tryz.params9] at hval hA hz
    obtain ⟨v0,vs0,d0,ds0,p0,q0,hargs,rfl,rfl,h0,r0⟩:=trodAll_cons hA
    obtain ⟨v1,vs1,d1,ds1,p1,q1,rfl,rfl,rfl,h1,r1⟩:=trodAll_cons r0
    obtain ⟨v2,vs2,d2,ds2,p2,q2,rfl,rfl,rfl,h2,r2⟩:=trodAll_cons r1
    obtain ⟨v3,vs3,d3,ds3,p3,q3,rfl,rfl,rfl,h3,r3⟩:=trodAll_cons r2
    obtain ⟨rfl,rfl,rfl⟩:=trodAll_nil r3
    obtain rfl:args=#[v0,v1,v2,v3]:=by cases args;simp_all
    obtain ⟨oF,cF,fl,g,rfl,hp⟩:=argPr (hval 0 _ v0 rfl rfl) h0 (hz 0 _ d0 rfl rfl)
    have hFI:=fi_of_laid hL
    obtain ⟨k1,rfl⟩:=okWide_int Tryz.underlying3 (hval 1 _ v1 rfl rfl)
    obtain ⟨s2,rfl⟩:=okWide_string Tryz.underlying9 (hval 2 _ v2 rfl rfl)
    obtain ⟨k3,rfl⟩:=okWide_int Tryz.underlying2 (hval 3 _ v3 rfl rfl)
    exact means_law W oF cF fl g k1 k3 s2 hp hFI

set_option maxRecDepth 100000 in
theorem means_row:Rows.SsaMeansSaid:=
  OpenClaim.holds_of_wide 9 Tryz.f9 rfl rfl rfl rfl rfl rfl rfl ⟨rfl,rfl,rfl,rfl,rfl⟩ rfl rfl rfl rfl rfl (by kernel_rfl) Tryz.func9 (by kernel_rfl)
    (dTr (by kernel_rfl)) (by unfold Func.isWrapper;first|(rw [if_pos (by decide +kernel)];kernel_rfl)|(rw [if_neg (by decide +kernel)];exact ⟨rfl,rfl⟩))
    (fun os started H enc _=>means_lifted os started H enc)
set_option maxRecDepth 100000 in
theorem means_holds:Rows.SsaMeansCardSaid:=
  Claim7.holds_tied_plain_at .later [] [.data,.data,.data] true (true, "2046ed8f2e3c50a74101c90d1b5159da7190812eebbbfde0a28890951ed67f68") true
    means_row (fun _ h=>by cases h) (by kernel_rfl) (fun _ h=>by cases h) ssaMeans_row_tie rfl ⟨rfl,rfl⟩ (by kernel_rfl) rfl
    (fun f fn hf hfn=>by
      obtain rfl:f=9:=Option.some.inj ((show Tryz.prog.funcNamed "marquetry/marquetrylaw15.SsaMeans"=some 9 by kernel_rfl).symm.trans hf) |>.symm
      obtain rfl:fn=Tryz.f9:=(Option.some.inj (Tryz.func9.symm.trans hfn)).symm
      exact ⟨by kernel_rfl,fun j t ht=>by
        rw [Tryz.params9] at ht
        have hm:t∈[34,3,9,2]:=by simpa using Array.mem_of_getElem? ht
        have hall:([34,3,9,2].all fun u=>!Tryz.prog.wantsStandIn u)=true:=by kernel_rfl
        exact (show Tryz.prog.wantsStandIn t=false by simpa using List.all_eq_true.1 hall t hm)⟩)
    (by kernel_rfl)
end Go.Proofs.YtenlcdokaadobaaGreatDoor
