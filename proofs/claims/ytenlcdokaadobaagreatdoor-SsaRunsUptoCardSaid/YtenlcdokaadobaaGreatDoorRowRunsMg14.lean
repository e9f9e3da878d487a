/-
  SsaRunsUpto: the tied card, proved. Conditions: none.
-/
import Derived.Test.YtenlcdokaadobaaGreatDoorRowRunsMg13
import Derived.Test.YtenlcdokaadobaaGreatDoorCards
import Derived.Test.YtenlcdokaadobaaGreatDoorTie
import Derived.SevenTiedAt
namespace Go.Proofs.YtenlcdokaadobaaGreatDoor
open Go Go.Fw Go.ChangeShapes Go.WideShapes Go.ChangeAt Go.RowKit
set_option linter.unusedVariables false
set_option maxRecDepth 100000 in
theorem runs_lifted (os:Os) (started:os.Started) (H:Type) (enc:TypeId × Value→H) (F:Stop.Interp) :
    ReturnsInHanded {} Tryz.checked os 3 .any (preL enc Tryz.prog Tryz.f3 (Rows.OpenSpec.upto Rows.ssaRunsSpec) Rows.ssaRunsUptoRow.domain Rows.ssaRunsUptoRow.laid) (((Rows.OpenSpec.upto Rows.ssaRunsSpec).at F).post enc Tryz.prog Tryz.f3 false true false false):=by
  refine mO (C:=Tryz.checked) (s:=Rows.ssaRunsSpec) (k:=Rows.uptoSmall) own_ started (by kernel_rfl) Tryz.func3
    (witnessL (enc:=enc) (C:=Tryz.checked) (s:=Rows.OpenSpec.upto Rows.ssaRunsSpec) (k:=Rows.uptoSmall) rfl (World.doorLaid Tryz.prog 400 os) #[.agg #[.slice none 0 0,.slice none 0 0,.slice none 0 0,.slice none 0 0,.slice none 0 0],.int .i64 0,.string ⟨#[]⟩,.int .i64 0] 8 rfl (door_shaped os _) (by kernel_rfl)
      (x:=([.agg [.nil,.nil,.nil,.nil,.nil],.lit (.int .i64 0),.lit (.string []),.lit (.int .i64 0)],[],[])) (by kernel_rfl) rfl (by kernel_rfl) (by kernel_rfl) (door_met os _))
    laidOut (by kernel_rfl) rfl (fun ds hds=>?_) rfl Tryz.underlying4 ?_
  · match ds,hds with
    | [d0,d1,d2,d3],_=>exact ⟨rfl,rfl,rfl⟩
  · intro W base args ds p hval hA hk hL
    rw [Tryz.params3] at hval hA
    obtain ⟨v0,vs0,d0,ds0,p0,q0,hargs,rfl,rfl,h0,r0⟩:=trodAll_cons hA
    obtain ⟨v1,vs1,d1,ds1,p1,q1,rfl,rfl,rfl,h1,r1⟩:=trodAll_cons r0
    obtain ⟨v2,vs2,d2,ds2,p2,q2,rfl,rfl,rfl,h2,r2⟩:=trodAll_cons r1
    obtain ⟨v3,vs3,d3,ds3,p3,q3,rfl,rfl,rfl,h3,r3⟩:=trodAll_cons r2
    obtain ⟨rfl,rfl,rfl⟩:=trodAll_nil r3
    obtain rfl:args=#[v0,v1,v2,v3]:=by cases args;simp_all
    obtain ⟨g,rfl,hg,hb⟩:=argG (hval 0 _ v0 rfl rfl) h0 (.head _) hk
    have hFI:=fi_of_laid hL
    obtain ⟨k1,rfl⟩:=okWide_int Tryz.underlying3 (hval 1 _ v1 rfl rfl)
    obtain ⟨s2,rfl,hs2⟩:=argS (hval 2 _ v2 rfl rfl) h2 (.tail _ (.tail _ (.head _))) hk
    obtain ⟨k3,rfl⟩:=okWide_int Tryz.underlying2 (hval 3 _ v3 rfl rfl)
    exact runs_law W g k1 k3 s2 hg hb hFI

set_option maxRecDepth 100000 in
theorem runs_row:Rows.SsaRunsUptoSaid:=
  OpenClaim.holds_of_cond 3 Tryz.f3 rfl rfl rfl rfl rfl rfl rfl ⟨rfl,rfl,rfl,rfl,rfl⟩ rfl rfl rfl rfl rfl (by kernel_rfl) Tryz.func3 (by kernel_rfl)
    (dTr (by kernel_rfl)) (by unfold Func.isWrapper;first|(rw [if_pos (by decide +kernel)];kernel_rfl)|(rw [if_neg (by decide +kernel)];exact ⟨rfl,rfl⟩))
    (fun os started H enc _ F=>runs_lifted os started H enc F)
set_option maxRecDepth 100000 in
theorem runs_holds:Rows.SsaRunsUptoCardSaid:=
  Claim7.holds_tied_plain_at .later [] [.data,.data,.data] true (true, "2046ed8f2e3c50a74101c90d1b5159da7190812eebbbfde0a28890951ed67f68") true
    runs_row (fun _ h=>by cases h) (by kernel_rfl) (fun _ h=>by cases h) ssaRunsUpto_row_tie rfl ⟨rfl,rfl⟩ (by kernel_rfl) rfl
    (fun f fn hf hfn=>by
      obtain rfl:f=3:=Option.some.inj ((show Tryz.prog.funcNamed "marquetry/marquetrylaw15.SsaRuns"=some 3 by kernel_rfl).symm.trans hf) |>.symm
      obtain rfl:fn=Tryz.f3:=(Option.some.inj (Tryz.func3.symm.trans hfn)).symm
      exact ⟨by kernel_rfl,fun j t ht=>by
        rw [Tryz.params3] at ht
        have hm:t∈[25,3,9,2]:=by simpa using Array.mem_of_getElem? ht
        have hall:([25,3,9,2].all fun u=>!Tryz.prog.wantsStandIn u)=true:=by kernel_rfl
        exact (show Tryz.prog.wantsStandIn t=false by simpa using List.all_eq_true.1 hall t hm)⟩)
    (by kernel_rfl)
end Go.Proofs.YtenlcdokaadobaaGreatDoor
