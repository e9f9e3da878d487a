/-
  TierJoinsUpto: the tied card, proved. Conditions: none.
-/
import Derived.Test.YtbapejgbjpcadaaGreatDoorRowJoinsMg2
import Derived.Test.YtbapejgbjpcadaaGreatDoorRowJoinsMg5
import Derived.Test.YtbapejgbjpcadaaGreatDoorRowJoinsMg6
import Derived.Test.YtbapejgbjpcadaaGreatDoorCards
import Derived.Test.YtbapejgbjpcadaaGreatDoorTie
import Derived.SevenTiedAt
namespace Go.Proofs.YtbapejgbjpcadaaGreatDoor
open Go Go.Fw Go.ChangeShapes Go.WideShapes Go.ChangeAt Go.RowKit
set_option linter.unusedVariables false
set_option maxRecDepth 100000 in
theorem joins_lifted (os:Os) (started:os.Started) (H:Type) (enc:TypeId × Value→H) (F:Stop.Interp) :
    ReturnsInHanded {} Tryz.checked os 3 .any (preL enc Tryz.prog Tryz.f3 (Rows.OpenSpec.upto Rows.tierJoinsSpec) Rows.tierJoinsUptoRow.domain Rows.tierJoinsUptoRow.laid) (((Rows.OpenSpec.upto Rows.tierJoinsSpec).at F).post enc Tryz.prog Tryz.f3 false true false false):=by
  refine law_lifted_uptoL (C:=Tryz.checked) (s:=Rows.tierJoinsSpec) (k:=Rows.uptoSmall) own_ started (by kernel_rfl) Tryz.func3
    (witnessL (enc:=enc) (C:=Tryz.checked) (s:=Rows.OpenSpec.upto Rows.tierJoinsSpec) (k:=Rows.uptoSmall) rfl (World.doorLaid Tryz.prog 400 os) #[.agg #[.int .i64 0,.int .i64 0,.slice none 0 0]] 8 rfl (door_shaped os _) (by kernel_rfl)
      (x:=([.agg [.lit (.int .i64 0),.lit (.int .i64 0),.nil]],[],[])) (by kernel_rfl) rfl (by kernel_rfl) (by kernel_rfl) (door_met os _))
    laidOut (by kernel_rfl) rfl (fun ds hds=>?_) rfl Tryz.underlying4 ?_
  · match ds,hds with
    | [d0],_=>exact ⟨rfl,rfl,rfl⟩
  · intro W base args ds p hval hA hk hL
    rw [Tryz.params3] at hval hA
    obtain ⟨v0,vs0,d0,ds0,p0,q0,hargs,rfl,rfl,h0,r0⟩:=trodAll_cons hA
    obtain ⟨rfl,rfl,rfl⟩:=trodAll_nil r0
    obtain rfl:args=#[v0]:=by cases args;simp_all
    obtain ⟨f,rfl,hf⟩:=argF (hval 0 _ v0 rfl rfl) h0 (.head _) hk
    exact joins_law W f hf xc_awake

set_option maxRecDepth 100000 in
theorem joins_row:Rows.TierJoinsUptoSaid:=
  OpenClaim.holds_of_cond 3 Tryz.f3 rfl rfl rfl rfl rfl rfl rfl ⟨rfl,rfl,rfl,rfl,rfl⟩ rfl rfl rfl rfl rfl (by kernel_rfl) Tryz.func3 (by kernel_rfl)
    (dTr (by kernel_rfl)) (by unfold Func.isWrapper;first|(rw [if_pos (by decide +kernel)];kernel_rfl)|(rw [if_neg (by decide +kernel)];exact ⟨rfl,rfl⟩))
    (fun os started H enc _ F=>joins_lifted os started H enc F)
set_option maxRecDepth 100000 in
theorem joins_holds:Rows.TierJoinsUptoCardSaid:=
  Claim7.holds_tied_plain_at .later [] [.data,.data,.data] true (true, "e64ccb9a9279679718619022d745ec806dde7f484be6e4f576e3086f7b8d201f") false
    joins_row (fun _ h=>by cases h) (by kernel_rfl) (fun _ h=>by cases h) tierJoinsUpto_row_tie rfl ⟨rfl,rfl⟩ (by kernel_rfl) rfl
    (fun f fn hf hfn=>by
      obtain rfl:f=3:=Option.some.inj ((show Tryz.prog.funcNamed "marquetry/marquetrylaw23.TierJoins"=some 3 by kernel_rfl).symm.trans hf) |>.symm
      obtain rfl:fn=Tryz.f3:=(Option.some.inj (Tryz.func3.symm.trans hfn)).symm
      exact ⟨by kernel_rfl,fun j t ht=>by
        rw [Tryz.params3] at ht
        have hm:t∈[24]:=by simpa using Array.mem_of_getElem? ht
        have hall:([24].all fun u=>!Tryz.prog.wantsStandIn u)=true:=by kernel_rfl
        exact (show Tryz.prog.wantsStandIn t=false by simpa using List.all_eq_true.1 hall t hm)⟩)
    (by kernel_rfl)
end Go.Proofs.YtbapejgbjpcadaaGreatDoor
