/-
  Which instructions are joined: the program's answer. Conditions: none.
  Where the instructions are in tier 1: the program's answer. Conditions: none.
  Which instructions are joined: the document's answer. Conditions: none.
  How great an image is: some number. Conditions: none.
  The walk over the law TierJoins, where the law's own check comes to true. Conditions: none.
  An executor for runs on known data: values, tries, what memory holds. It names no program. Conditions: none.
  An executor for runs on known data: what memory holds, what has been touched. It names no program. Conditions: none.
  An executor for runs on known data: slots, operands, types. It names no program. Conditions: none.
-/
import Derived.Test.YtbapejgbjpcadaaGreatDoorRowJoinsMg1
set_option maxHeartbeats 64000000
set_option maxRecDepth 10000
namespace Go.Proofs.YtbapejgbjpcadaaGreatDoor
open Go Go.Fw
set_option linter.unusedVariables false
theorem isJ_of {l:List Cod}:∀{n:Nat},behind l n=false→isJ l n=canJ l n
  |0,_=>rfl
  | n+1,h=>by
    rw [isJ,show isJ l n=false from h]
    simp
theorem behind_2 {l:List Cod} {n:Nat} (h:isJ l n=true):behind l (n+2)=false:=by
  show isJ l (n+1)=false
  rw [isJ,h]
  simp
theorem joins_2 {l:List Cod} {n:Nat} (h:isJ l n=true):joins l (n+2)=joins l n++[(n:Int)]:=by
  have:isJ l (n+1)=false:=behind_2 h
  rw [joins,this,joins,h]
  simp
theorem behind_s (l:List Cod) (n:Nat):behind l (n+1)=isJ l n:=rfl
theorem joins_no {l:List Cod} {n:Nat} (h:isJ l n=false):joins l (n+1)=joins l n:=by rw [joins,h];simp
theorem can_eq {l:List Cod} {n:Nat} {c:Cod} (hc:l[n]?=some c) (h1:n+1<l.length):canJ l n=(simP c && !decide ((((n+1:Nat):Int))∈goalsOf l)):=by
  unfold canJ
  rw [List.getD_eq_getElem?_getD,hc]
  simp [h1]
theorem joins_flat {l:List Cod} {n:Nat} (h:isJ l n=true):flat Fw.encI (joins l (n+2))=flat Fw.encI (joins l n)++[.int .i64 n]:=by rw [joins_2 h,flat_append];rfl
theorem snoc_set {ks l:List Int} {j:Nat} {x:Int} {P:Int→Prop} (hx:l[j]?=some x) (h:∀y,y∈ks↔P y∨y∈l.take j) (y:Int):y∈sadd ks x↔P y∨y∈l.take (j+1):=by
  rw [mem_sadd,h,take_snoc hx,List.mem_append,List.mem_singleton,or_assoc]
section
attribute [local irreducible] Code.wp wpList Calls Ex Op1 sat bat blk cb own Go.Fw.mp Go.Fw.mpO Go.Fw.mpI Go.Fw.mpE Go.Fw.itr HS Rd Ret wkD Hp Cl Cls Exit.then Exit.inBlock Exit.noGoto bodyPost Go.Fw.flat wk2 Go.Fw.all Go.Fw.owns wpOp
attribute [local irreducible] goalsOf sk joins isJ canJ simP behind

theorem joined_spec (w0:World) (f:CF) (hR:RdF w0 f):Ret Tryz.prog 7 #[.agg (encF f).toArray] w0 (fun r w=>∃o c,r= .slice o (joins f.cs.l f.cs.l.length).length c∧HS w0 noM [own 3 1 o (joins f.cs.l f.cs.l.length).length c (flat Fw.encI (joins f.cs.l f.cs.l.length))] w):=by
  have hH:HS w0 noM [] w0:=HS.init w0 noM
  have hle:=hR.2.2
  have hsp:Sp f.cs.o f.cs.l.length:=hR.1.1.sp (sz:=9) (flat_length encCo_len _) (by omega)
  (refine ENT (N:=57) Tryz.func7 Tryz.ntmps7 ?_;intro a hA)
  repeat' (first|(first|(refine GT ?_ ?_<;>intro hg<;>clear hA a<;>intro a hA<;>(first|exact FA|replace hg:=dTr hg|replace hg:=dFa hg|skip))|(refine QT ?_;clear hA a;intro a hA)|(first|(refine BT ?_;clear hA hH;rintro _ w ⟨bN,rfl,hH⟩ a hA)|(refine LT ?_;clear hA hH;rintro _ w ⟨oN,rfl,hH⟩ a hA)|(refine AT ?_;clear hA;rintro _ w ⟨oN,cN,rfl,hH2⟩ a hA;clear hH;have hH:=(hH2 _ (by (repeat constructor))).tail;clear hH2)|(refine S0T ?_;clear hH;rintro _ w hH)))|refine CT ?_|(refine DT ?_ ?_<;>intro hc<;>try (exfalso;omega))|(first|(refine DSK ?_;clear hA a;intro a hA)|(first|(refine DLT ?_;clear hA hH;rintro _ w ⟨oN,rfl,hH⟩;refine ⟨STT,?_⟩;intro a hA)|(refine DAT ?_;clear hA;rintro _ w ⟨oN,cN,rfl,hH2⟩;clear hH;have hH:=(hH2 _ (by (repeat constructor))).tail;clear hH2;refine ⟨STT,?_⟩;intro a hA))))
  obtain ⟨bF,hbF⟩:∃x,x=bN:=⟨_,rfl⟩
  rw [←hbF] at hA hH
  clear hbF bN
  repeat' (first|(first|(refine GT ?_ ?_<;>intro hg<;>clear hA a<;>intro a hA<;>(first|exact FA|replace hg:=dTr hg|replace hg:=dFa hg|skip))|(refine QT ?_;clear hA a;intro a hA)|(first|(refine BT ?_;clear hA hH;rintro _ w ⟨bN,rfl,hH⟩ a hA)|(refine LT ?_;clear hA hH;rintro _ w ⟨oN,rfl,hH⟩ a hA)|(refine AT ?_;clear hA;rintro _ w ⟨oN,cN,rfl,hH2⟩ a hA;clear hH;have hH:=(hH2 _ (by (repeat constructor))).tail;clear hH2)|(refine S0T ?_;clear hH;rintro _ w hH)|(apply st_op hA rfl rfl (by decide);apply op_makeMapK;exact hH;clear hA hH;rintro _ w ⟨bK,rfl,hH⟩ a hA)))|refine CT ?_|(refine DT ?_ ?_<;>intro hc<;>try (exfalso;omega))|(first|(refine DSK ?_;clear hA a;intro a hA)|(first|(refine DLT ?_;clear hA hH;rintro _ w ⟨oN,rfl,hH⟩;refine ⟨STT,?_⟩;intro a hA)|(refine DAT ?_;clear hA;rintro _ w ⟨oN,cN,rfl,hH2⟩;clear hH;have hH:=(hH2 _ (by (repeat constructor))).tail;clear hH2;refine ⟨STT,?_⟩;intro a hA))))
  refine wp_lpk (S:=Nat) (fun i a w=>∃ks,(i≤f.cs.l.length∧∀x,x∈ks↔x∈goalsOf (f.cs.l.take i))∧HS w0 noM [sk bK ks,cb bF 24 (encF f)] w∧Sl 57 [(1,.pointer (some (bat bF 0))),(3,.map (some bK)),(12,.slice f.cs.o f.cs.l.length f.cs.c),(13,.int .i64 f.cs.l.length),(14,.int .i64 i)] a) (fun i=>f.cs.l.length - i)
    (fun a w=>∃ks,(∀x,x∈ks↔x∈goalsOf f.cs.l)∧HS w0 noM [sk bK ks,cb bF 24 (encF f)] w∧Sl 57 [(1,.pointer (some (bat bF 0))),(3,.map (some bK))] a) 0 ⟨[],⟨Nat.zero_le _,fun x=>by rw [List.take_zero];unfold goalsOf;exact Iff.rfl⟩,hH,(hA.sub SBT)⟩ ?_ ?_
  · clear hA hH
    rintro i a w ⟨ks,⟨hi,hks⟩,hH,hA⟩
    by_cases hlt:i<f.cs.l.length
    rotate_left
    · obtain rfl:i=f.cs.l.length:=by omega
      rw [List.take_length] at hks
      repeat' (first|(first|(refine GT ?_ ?_<;>intro hg<;>clear hA a<;>intro a hA<;>(first|exact FA|replace hg:=dTr hg|replace hg:=dFa hg|skip))|(refine QT ?_;clear hA a;intro a hA)|(first|(refine BT ?_;clear hA hH;rintro _ w ⟨bN,rfl,hH⟩ a hA)|(refine LT ?_;clear hA hH;rintro _ w ⟨oN,rfl,hH⟩ a hA)|(refine AT ?_;clear hA;rintro _ w ⟨oN,cN,rfl,hH2⟩ a hA;clear hH;have hH:=(hH2 _ (by (repeat constructor))).tail;clear hH2)|(refine S0T ?_;clear hH;rintro _ w hH)))|refine CT ?_|(refine DT ?_ ?_<;>intro hc<;>try (exfalso;omega))|(first|(refine DSK ?_;clear hA a;intro a hA)|(first|(refine DLT ?_;clear hA hH;rintro _ w ⟨oN,rfl,hH⟩;refine ⟨STT,?_⟩;intro a hA)|(refine DAT ?_;clear hA;rintro _ w ⟨oN,cN,rfl,hH2⟩;clear hH;have hH:=(hH2 _ (by (repeat constructor))).tail;clear hH2;refine ⟨STT,?_⟩;intro a hA))))
      exact ⟨ks,hks,hH,(hA.sub SBT)⟩
    obtain ⟨c,hci⟩:∃c,f.cs.l[i]?=some c:=⟨_,List.getElem?_eq_getElem hlt⟩
    have hcR:=(hR.2.1 c (List.mem_of_getElem? hci)).1
    have hvs:=flat_all encCo_len hci
    have hleT:=hcR.le
    have hspT:Sp c.to.o c.to.l.length:=hcR.1.sp (sz:=1) (flat_length Fw.encI_len _) (by omega)
    repeat' (first|(first|(refine GT ?_ ?_<;>intro hg<;>clear hA a<;>intro a hA<;>(first|exact FA|replace hg:=dTr hg|replace hg:=dFa hg|skip))|(refine XT ?_;apply XE;(first|(apply ex_load_st (vs:=encCo c);rfl;rfl;exact cls_rd hR.1.1 id hvs));clear hA a;intro a hA)|(refine QT ?_;clear hA a;intro a hA)|(first|(refine BT ?_;clear hA hH;rintro _ w ⟨bN,rfl,hH⟩ a hA)|(refine LT ?_;clear hA hH;rintro _ w ⟨oN,rfl,hH⟩ a hA)|(refine AT ?_;clear hA;rintro _ w ⟨oN,cN,rfl,hH2⟩ a hA;clear hH;have hH:=(hH2 _ (by (repeat constructor))).tail;clear hH2)|(refine S0T ?_;clear hH;rintro _ w hH)|(refine SAT (encCo c) hA hH ?_;clear hH;intro w hH)))|refine CT ?_|(refine DT ?_ ?_<;>intro hc<;>try (exfalso;omega))|(first|(refine DSK ?_;clear hA a;intro a hA)|(first|(refine DLT ?_;clear hA hH;rintro _ w ⟨oN,rfl,hH⟩;refine ⟨STT,?_⟩;intro a hA)|(refine DAT ?_;clear hA;rintro _ w ⟨oN,cN,rfl,hH2⟩;clear hH;have hH:=(hH2 _ (by (repeat constructor))).tail;clear hH2;refine ⟨STT,?_⟩;intro a hA))))
    obtain ⟨bC,hbC⟩:∃x,x=bN:=⟨_,rfl⟩
    rw [←hbC] at hA hH
    clear hbC bN
    refine wp_lpk (S:=Nat) (fun j a w=>∃ks,(j≤c.to.l.length∧∀x,x∈ks↔x∈goalsOf (f.cs.l.take i)∨x∈c.to.l.take j)∧HS w0 noM [sk bK ks,cb bF 24 (encF f)] w∧Sl 57 [(1,.pointer (some (bat bF 0))),(3,.map (some bK)),(12,.slice f.cs.o f.cs.l.length f.cs.c),(13,.int .i64 f.cs.l.length),(14,.int .i64 i),(19,.slice c.to.o c.to.l.length c.to.c),(20,.int .i64 c.to.l.length),(21,.int .i64 j)] a) (fun j=>c.to.l.length - j)
      (fun a w=>∃ks,(∀x,x∈ks↔x∈goalsOf (f.cs.l.take (i+1)))∧HS w0 noM [sk bK ks,cb bF 24 (encF f)] w∧Sl 57 [(1,.pointer (some (bat bF 0))),(3,.map (some bK)),(12,.slice f.cs.o f.cs.l.length f.cs.c),(13,.int .i64 f.cs.l.length),(14,.int .i64 i)] a) 0 ⟨ks,⟨Nat.zero_le _,fun x=>by rw [hks,List.take_zero];simp⟩,hH.tail,(hA.sub SBT)⟩ ?_ ?_
    · clear hA hH hks ks
      rintro j a w ⟨ks,⟨hj,hks⟩,hH,hA⟩
      by_cases hlj:j<c.to.l.length
      rotate_left
      · obtain rfl:j=c.to.l.length:=by omega
        rw [List.take_length] at hks
        repeat' (first|(first|(refine GT ?_ ?_<;>intro hg<;>clear hA a<;>intro a hA<;>(first|exact FA|replace hg:=dTr hg|replace hg:=dFa hg|skip))|(refine QT ?_;clear hA a;intro a hA)|(first|(refine BT ?_;clear hA hH;rintro _ w ⟨bN,rfl,hH⟩ a hA)|(refine LT ?_;clear hA hH;rintro _ w ⟨oN,rfl,hH⟩ a hA)|(refine AT ?_;clear hA;rintro _ w ⟨oN,cN,rfl,hH2⟩ a hA;clear hH;have hH:=(hH2 _ (by (repeat constructor))).tail;clear hH2)|(refine S0T ?_;clear hH;rintro _ w hH)))|refine CT ?_|(refine DT ?_ ?_<;>intro hc<;>try (exfalso;omega))|(first|(refine DSK ?_;clear hA a;intro a hA)|(first|(refine DLT ?_;clear hA hH;rintro _ w ⟨oN,rfl,hH⟩;refine ⟨STT,?_⟩;intro a hA)|(refine DAT ?_;clear hA;rintro _ w ⟨oN,cN,rfl,hH2⟩;clear hH;have hH:=(hH2 _ (by (repeat constructor))).tail;clear hH2;refine ⟨STT,?_⟩;intro a hA))))
        exact ⟨ks,fun x=>by rw [hks,goals_next hci,List.mem_append],hH,(hA.sub SBT)⟩
      obtain ⟨x,hx⟩:∃x,c.to.l[j]?=some x:=⟨_,List.getElem?_eq_getElem hlj⟩
      have hv:(flat Fw.encI c.to.l)[j*1]?=some (.int .i64 x):=flat_get (off:=0) Fw.encI_len hx rfl
      repeat' (first|(first|(refine GT ?_ ?_<;>intro hg<;>clear hA a<;>intro a hA<;>(first|exact FA|replace hg:=dTr hg|replace hg:=dFa hg|skip))|(refine XT ?_;apply XE;(first|(apply ex_load;rfl;exact cl_rd hcR.1 id hv));clear hA a;intro a hA)|(refine QT ?_;clear hA a;intro a hA)|(first|(refine BT ?_;clear hA hH;rintro _ w ⟨bN,rfl,hH⟩ a hA)|(refine LT ?_;clear hA hH;rintro _ w ⟨oN,rfl,hH⟩ a hA)|(refine AT ?_;clear hA;rintro _ w ⟨oN,cN,rfl,hH2⟩ a hA;clear hH;have hH:=(hH2 _ (by (repeat constructor))).tail;clear hH2)|(refine S0T ?_;clear hH;rintro _ w hH)|(apply st_op0 hA rfl rfl;apply op_addK;rfl;rfl;rfl;exact hH;(repeat constructor);clear hH;rintro _ w hH)))|refine CT ?_|(refine DT ?_ ?_<;>intro hc<;>try (exfalso;omega))|(first|(refine DSK ?_;clear hA a;intro a hA)|(first|(refine DLT ?_;clear hA hH;rintro _ w ⟨oN,rfl,hH⟩;refine ⟨STT,?_⟩;intro a hA)|(refine DAT ?_;clear hA;rintro _ w ⟨oN,cN,rfl,hH2⟩;clear hH;have hH:=(hH2 _ (by (repeat constructor))).tail;clear hH2;refine ⟨STT,?_⟩;intro a hA))))
      exact ⟨j+1,⟨sadd ks x,⟨hlj,snoc_set hx hks⟩,hH,(hA.sub SBT)⟩,by omega⟩
    clear hA hH hks ks
    rintro a w ⟨ks,hks,hH,hA⟩
    repeat' (first|(first|(refine GT ?_ ?_<;>intro hg<;>clear hA a<;>intro a hA<;>(first|exact FA|replace hg:=dTr hg|replace hg:=dFa hg|skip))|(refine QT ?_;clear hA a;intro a hA)|(first|(refine BT ?_;clear hA hH;rintro _ w ⟨bN,rfl,hH⟩ a hA)|(refine LT ?_;clear hA hH;rintro _ w ⟨oN,rfl,hH⟩ a hA)|(refine AT ?_;clear hA;rintro _ w ⟨oN,cN,rfl,hH2⟩ a hA;clear hH;have hH:=(hH2 _ (by (repeat constructor))).tail;clear hH2)|(refine S0T ?_;clear hH;rintro _ w hH)))|refine CT ?_|(refine DT ?_ ?_<;>intro hc<;>try (exfalso;omega))|(first|(refine DSK ?_;clear hA a;intro a hA)|(first|(refine DLT ?_;clear hA hH;rintro _ w ⟨oN,rfl,hH⟩;refine ⟨STT,?_⟩;intro a hA)|(refine DAT ?_;clear hA;rintro _ w ⟨oN,cN,rfl,hH2⟩;clear hH;have hH:=(hH2 _ (by (repeat constructor))).tail;clear hH2;refine ⟨STT,?_⟩;intro a hA))))
    exact ⟨i+1,⟨ks,⟨hlt,hks⟩,hH,(hA.sub SBT)⟩,by omega⟩
  clear hA hH
  rintro a w ⟨ks,hks,hH,hA⟩
  repeat' (first|(first|(refine GT ?_ ?_<;>intro hg<;>clear hA a<;>intro a hA<;>(first|exact FA|replace hg:=dTr hg|replace hg:=dFa hg|skip))|(refine QT ?_;clear hA a;intro a hA)|(first|(refine BT ?_;clear hA hH;rintro _ w ⟨bN,rfl,hH⟩ a hA)|(refine LT ?_;clear hA hH;rintro _ w ⟨oN,rfl,hH⟩ a hA)|(refine AT ?_;clear hA;rintro _ w ⟨oN,cN,rfl,hH2⟩ a hA;clear hH;have hH:=(hH2 _ (by (repeat constructor))).tail;clear hH2)|(refine S0T ?_;clear hH;rintro _ w hH)))|refine CT ?_|(refine DT ?_ ?_<;>intro hc<;>try (exfalso;omega))|(first|(refine DSK ?_;clear hA a;intro a hA)|(first|(refine DLT ?_;clear hA hH;rintro _ w ⟨oN,rfl,hH⟩;refine ⟨STT,?_⟩;intro a hA)|(refine DAT ?_;clear hA;rintro _ w ⟨oN,cN,rfl,hH2⟩;clear hH;have hH:=(hH2 _ (by (repeat constructor))).tail;clear hH2;refine ⟨STT,?_⟩;intro a hA))))
  refine wp_lpk (S:=Nat) (fun n a w=>∃o cp,(n≤f.cs.l.length∧behind f.cs.l n=false)∧HS w0 noM [own 3 1 o (joins f.cs.l n).length cp (flat Fw.encI (joins f.cs.l n)),sk bK ks,cb bF 24 (encF f)] w∧Sl 57 [(1,.pointer (some (bat bF 0))),(3,.map (some bK)),(8,.slice o (joins f.cs.l n).length cp),(9,.int .i64 n)] a) (fun n=>f.cs.l.length+1 - n)
    (fun a w=>∃o cp,HS w0 noM [own 3 1 o (joins f.cs.l f.cs.l.length).length cp (flat Fw.encI (joins f.cs.l f.cs.l.length))] w∧Sl 57 [(8,.slice o (joins f.cs.l f.cs.l.length).length cp)] a) 0 ⟨none,0,⟨Nat.zero_le _,by unfold behind;rfl⟩,(by unfold joins;exact hH.nil_flat Fw.encI _ 1),(by unfold joins;exact (hA.sub SBT))⟩ ?_ ?_
  · clear hA hH
    rintro n a w ⟨o,cp,⟨hn,hbn⟩,hH,hA⟩
    have hjl:=joins_len f.cs.l n
    by_cases hlt:n+1<f.cs.l.length
    rotate_left
    · repeat' (first|(first|(refine GT ?_ ?_<;>intro hg<;>clear hA a<;>intro a hA<;>(first|exact FA|replace hg:=dTr hg|replace hg:=dFa hg|skip))|(refine QT ?_;clear hA a;intro a hA)|(first|(refine BT ?_;clear hA hH;rintro _ w ⟨bN,rfl,hH⟩ a hA)|(refine LT ?_;clear hA hH;rintro _ w ⟨oN,rfl,hH⟩ a hA)|(refine AT ?_;clear hA;rintro _ w ⟨oN,cN,rfl,hH2⟩ a hA;clear hH;have hH:=(hH2 _ (by (repeat constructor))).tail;clear hH2)|(refine S0T ?_;clear hH;rintro _ w hH)))|refine CT ?_|(refine DT ?_ ?_<;>intro hc<;>try (exfalso;omega))|(first|(refine DSK ?_;clear hA a;intro a hA)|(first|(refine DLT ?_;clear hA hH;rintro _ w ⟨oN,rfl,hH⟩;refine ⟨STT,?_⟩;intro a hA)|(refine DAT ?_;clear hA;rintro _ w ⟨oN,cN,rfl,hH2⟩;clear hH;have hH:=(hH2 _ (by (repeat constructor))).tail;clear hH2;refine ⟨STT,?_⟩;intro a hA))))
      have he:joins f.cs.l f.cs.l.length=joins f.cs.l n:=joins_end hn fun k h1 h2=>by
        cases hJ:isJ f.cs.l k with
        |false=>rfl
        |true=>have:=isJ_lt hJ;omega
      rw [←he] at hA hH
      exact ⟨o,cp,hH.head,(hA.sub SBT)⟩
    obtain ⟨c,hci⟩:∃c,f.cs.l[n]?=some c:=⟨_,List.getElem?_eq_getElem (by omega)⟩
    have hvs:=flat_all encCo_len hci
    have hcan:=can_eq hci hlt
    have hJ:=isJ_of hbn
    rw [hcan] at hJ
    repeat' (first|(first|(refine GT ?_ ?_<;>intro hg<;>clear hA a<;>intro a hA<;>(first|exact FA|replace hg:=dTr hg|replace hg:=dFa hg|skip))|(refine XT ?_;apply XE;(first|(apply ex_load_st (vs:=encCo c);rfl;rfl;exact cls_rd hR.1.1 id hvs));clear hA a;intro a hA)|(refine QT ?_;clear hA a;intro a hA)|(first|(refine BT ?_;clear hA hH;rintro _ w ⟨bN,rfl,hH⟩ a hA)|(refine LT ?_;clear hA hH;rintro _ w ⟨oN,rfl,hH⟩ a hA)|(refine AT ?_;clear hA;rintro _ w ⟨oN,cN,rfl,hH2⟩ a hA;clear hH;have hH:=(hH2 _ (by (repeat constructor))).tail;clear hH2)|(refine S0T ?_;clear hH;rintro _ w hH)))|refine CT ?_|(refine DT ?_ ?_<;>intro hc<;>try (exfalso;omega))|(first|(refine DSK ?_;clear hA a;intro a hA)|(first|(refine DLT ?_;clear hA hH;rintro _ w ⟨oN,rfl,hH⟩;refine ⟨STT,?_⟩;intro a hA)|(refine DAT ?_;clear hA;rintro _ w ⟨oN,cN,rfl,hH2⟩;clear hH;have hH:=(hH2 _ (by (repeat constructor))).tail;clear hH2;refine ⟨STT,?_⟩;intro a hA))))
    (refine st_op hA rfl rfl (by decide) (op_call rfl rfl rfl (simple_spec _ _)) ?_;clear hA;rintro _ w ⟨rfl,hk⟩ a hA;replace hH:=hH.keep hk;clear hk)
    repeat' (first|(first|(refine GT ?_ ?_<;>intro hg<;>clear hA a<;>intro a hA<;>(first|exact FA|replace hg:=dTr hg|replace hg:=dFa hg|skip))|(refine XT ?_;apply XE;(first|(apply ex_hasK;rfl;rfl;exact .tail _ (.head _)));clear hA a;intro a hA)|(refine QT ?_;clear hA a;intro a hA)|(first|(refine BT ?_;clear hA hH;rintro _ w ⟨bN,rfl,hH⟩ a hA)|(refine LT ?_;clear hA hH;rintro _ w ⟨oN,rfl,hH⟩ a hA)|(refine AT ?_;clear hA;rintro _ w ⟨oN,cN,rfl,hH2⟩ a hA;clear hH;have hH:=(hH2 _ (by (repeat constructor))).tail;clear hH2)|(refine S0T ?_;clear hH;rintro _ w hH)))|refine CT ?_|(refine DT ?_ ?_<;>intro hc<;>try (exfalso;omega))|(first|(refine DSK ?_;clear hA a;intro a hA)|(first|(refine DLT ?_;clear hA hH;rintro _ w ⟨oN,rfl,hH⟩;refine ⟨STT,?_⟩;intro a hA)|(refine DAT ?_;clear hA;rintro _ w ⟨oN,cN,rfl,hH2⟩;clear hH;have hH:=(hH2 _ (by (repeat constructor))).tail;clear hH2;refine ⟨STT,?_⟩;intro a hA))))
    · have e:isJ f.cs.l n=true:=by
        rw [hJ,hg,Bool.true_and,decide_eq_false fun h=>hc ((hks _).2 h)];rfl
      have e3:(joins f.cs.l (n+2)).length=(joins f.cs.l n).length+1:=by rw [joins_2 e,List.length_append];rfl
      have e4:flat Fw.encI (joins f.cs.l (n+2))=flat Fw.encI (joins f.cs.l n)++[.int .i64 n]:=joins_flat e
      rw [←e3,←e4] at hH
      rw [←e3] at hA
      exact ⟨n+2,⟨oN,cN,⟨by omega,behind_2 e⟩,hH,(hA.sub SBT)⟩,by omega⟩
    · have e:isJ f.cs.l n=false:=by
        rw [hJ,hg,Bool.true_and,decide_eq_true ((hks _).1 hc)];rfl
      rw [←joins_no e] at hH hA
      exact ⟨n+1,⟨o,cp,⟨by omega,by rw [behind_s];exact e⟩,hH,(hA.sub SBT)⟩,by omega⟩
    · have e:isJ f.cs.l n=false:=by rw [hJ,hg];rfl
      rw [←joins_no e] at hH hA
      exact ⟨n+1,⟨o,cp,⟨by omega,by rw [behind_s];exact e⟩,hH,(hA.sub SBT)⟩,by omega⟩
  clear hA hH
  rintro a w ⟨o,cp,hH,hA⟩
  repeat' (first|(first|(refine GT ?_ ?_<;>intro hg<;>clear hA a<;>intro a hA<;>(first|exact FA|replace hg:=dTr hg|replace hg:=dFa hg|skip))|(refine QT ?_;clear hA a;intro a hA)|(first|(refine BT ?_;clear hA hH;rintro _ w ⟨bN,rfl,hH⟩ a hA)|(refine LT ?_;clear hA hH;rintro _ w ⟨oN,rfl,hH⟩ a hA)|(refine AT ?_;clear hA;rintro _ w ⟨oN,cN,rfl,hH2⟩ a hA;clear hH;have hH:=(hH2 _ (by (repeat constructor))).tail;clear hH2)|(refine S0T ?_;clear hH;rintro _ w hH)))|refine CT ?_|(refine DT ?_ ?_<;>intro hc<;>try (exfalso;omega))|(first|(refine DSK ?_;clear hA a;intro a hA)|(first|(refine DLT ?_;clear hA hH;rintro _ w ⟨oN,rfl,hH⟩;refine ⟨STT,?_⟩;intro a hA)|(refine DAT ?_;clear hA;rintro _ w ⟨oN,cN,rfl,hH2⟩;clear hH;have hH:=(hH2 _ (by (repeat constructor))).tail;clear hH2;refine ⟨STT,?_⟩;intro a hA))))
  exact rt1 (.inl rfl) rfl hA rfl ⟨o,cp,rfl,hH⟩
end
theorem mem_behind (l:List Cod) {n:Nat} (hn:n≤l.length):decide (((n:Int) - 1)∈joins l l.length)=behind l n:=by
  cases n with
  | zero=>
    refine decide_eq_false fun h=>?_
    obtain ⟨k,_,h2,_⟩:=(joins_mem l _ _).1 h
    omega
  | succ n=>
    rw [behind_s]
    cases hJ:isJ l n with
    |true=>exact decide_eq_true ((joins_mem l _ _).2 ⟨n,by omega,by omega,hJ⟩)
    | false=>
      refine decide_eq_false fun h=>?_
      obtain ⟨k,_,h2,h3⟩:=(joins_mem l _ _).1 h
      obtain rfl:k=n:=by omega
      rw [hJ] at h3
      cases h3
theorem places_next (l:List Cod) (n:Nat):flat Fw.encI (places l (n+1))=flat Fw.encI (places l n)++[.int .i64 (if behind l n then -1 else (nexts l n:Int))]:=by
  rw [places,flat_append];rfl
theorem nexts_s (l:List Cod) (n:Nat):nexts l (n+1)=if behind l n then nexts l n else nexts l n+1:=rfl
section
attribute [local irreducible] Code.wp wpList Calls Ex Op1 sat bat blk cb own Go.Fw.mp Go.Fw.mpO Go.Fw.mpI Go.Fw.mpE Go.Fw.itr HS Rd Ret wkD Hp Cl Cls Exit.then Exit.inBlock Exit.noGoto bodyPost Go.Fw.flat wk2 Go.Fw.all Go.Fw.owns wpOp
attribute [local irreducible] goalsOf sk joins isJ canJ simP behind places nexts

theorem places_spec (w0:World) (f:CF) (hR:RdF w0 f):Ret Tryz.prog 8 #[.agg (encF f).toArray] w0 (fun r w=>∃o c,r= .slice o f.cs.l.length c∧HS w0 noM [own 3 1 o f.cs.l.length c (flat Fw.encI (places f.cs.l f.cs.l.length))] w):=by
  have hH:HS w0 noM [] w0:=HS.init w0 noM
  have hle:=hR.2.2
  have hsp:Sp f.cs.o f.cs.l.length:=hR.1.1.sp (sz:=9) (flat_length encCo_len _) (by omega)
  (refine ENT (N:=36) Tryz.func8 Tryz.ntmps8 ?_;intro a hA)
  repeat' (first|(first|(refine GT ?_ ?_<;>intro hg<;>clear hA a<;>intro a hA<;>(first|exact FA|replace hg:=dTr hg|replace hg:=dFa hg|skip))|(refine QT ?_;clear hA a;intro a hA)|(first|(refine BT ?_;clear hA hH;rintro _ w ⟨bN,rfl,hH⟩ a hA)|(refine LT ?_;clear hA hH;rintro _ w ⟨oN,rfl,hH⟩ a hA)|(refine AT ?_;clear hA;rintro _ w ⟨oN,cN,rfl,hH2⟩ a hA;clear hH;have hH:=(hH2 _ (by (repeat constructor))).tail;clear hH2)|(refine S0T ?_;clear hH;rintro _ w hH)))|refine CT ?_|(refine DT ?_ ?_<;>intro hc<;>try (exfalso;omega))|(first|(refine DSK ?_;clear hA a;intro a hA)|(first|(refine DLT ?_;clear hA hH;rintro _ w ⟨oN,rfl,hH⟩;refine ⟨STT,?_⟩;intro a hA)|(refine DAT ?_;clear hA;rintro _ w ⟨oN,cN,rfl,hH2⟩;clear hH;have hH:=(hH2 _ (by (repeat constructor))).tail;clear hH2;refine ⟨STT,?_⟩;intro a hA))))
  obtain ⟨bF,hbF⟩:∃x,x=bN:=⟨_,rfl⟩
  rw [←hbF] at hA hH
  clear hbF bN
  (refine st_op hA rfl rfl (by decide) (op_call rfl rfl rfl (joined_spec _ f (hR.keep hH.kp))) ?_;clear hA;rintro _ w ⟨oJ,cJ,rfl,hj⟩ a hA;replace hH:=hH.join hj;clear hj)
  obtain ⟨J,hJ⟩:∃J,J=joins f.cs.l f.cs.l.length:=⟨_,rfl⟩
  have hJl:J.length≤1048576:=by rw [hJ];exact Nat.le_trans (joins_len _ _) hle
  have hJs:J.Pairwise (·< ·):=by rw [hJ];exact joins_sorted _ _
  rw [←hJ] at hA hH
  repeat' (first|(first|(refine GT ?_ ?_<;>intro hg<;>clear hA a<;>intro a hA<;>(first|exact FA|replace hg:=dTr hg|replace hg:=dFa hg|skip))|(refine QT ?_;clear hA a;intro a hA)|(first|(refine BT ?_;clear hA hH;rintro _ w ⟨bN,rfl,hH⟩ a hA)|(refine LT ?_;clear hA hH;rintro _ w ⟨oN,rfl,hH⟩ a hA)|(refine AT ?_;clear hA;rintro _ w ⟨oN,cN,rfl,hH2⟩ a hA;clear hH;have hH:=(hH2 _ (by (repeat constructor))).tail;clear hH2)|(refine S0T ?_;clear hH;rintro _ w hH)))|refine CT ?_|(refine DT ?_ ?_<;>intro hc<;>try (exfalso;omega))|(first|(refine DSK ?_;clear hA a;intro a hA)|(first|(refine DLT ?_;clear hA hH;rintro _ w ⟨oN,rfl,hH⟩;refine ⟨STT,?_⟩;intro a hA)|(refine DAT ?_;clear hA;rintro _ w ⟨oN,cN,rfl,hH2⟩;clear hH;have hH:=(hH2 _ (by (repeat constructor))).tail;clear hH2;refine ⟨STT,?_⟩;intro a hA))))
  refine wp_lpk (S:=Nat) (fun n a w=>∃o cp,n≤f.cs.l.length∧HS w0 noM [own 3 1 o n cp (flat Fw.encI (places f.cs.l n)),own 3 1 oJ J.length cJ (flat Fw.encI J),cb bF 24 (encF f)] w∧Sl 36 [(1,.pointer (some (bat bF 0))),(3,.slice oJ J.length cJ),(4,.slice o n cp),(5,.int .i64 (nexts f.cs.l n)),(13,.int .i64 f.cs.l.length),(14,.int .i64 n)] a) (fun n=>f.cs.l.length - n)
    (fun a w=>∃o cp,HS w0 noM [own 3 1 o f.cs.l.length cp (flat Fw.encI (places f.cs.l f.cs.l.length))] w∧Sl 36 [(4,.slice o f.cs.l.length cp)] a) 0 ⟨none,0,Nat.zero_le _,(by unfold places;exact hH.nil_flat Fw.encI _ 1),(by unfold nexts;exact (hA.sub SBT))⟩ ?_ ?_
  · clear hA hH
    rintro n a w ⟨o,cp,hn,hH,hA⟩
    by_cases hlt:n<f.cs.l.length
    rotate_left
    · obtain rfl:n=f.cs.l.length:=by omega
      repeat' (first|(first|(refine GT ?_ ?_<;>intro hg<;>clear hA a<;>intro a hA<;>(first|exact FA|replace hg:=dTr hg|replace hg:=dFa hg|skip))|(refine QT ?_;clear hA a;intro a hA)|(first|(refine BT ?_;clear hA hH;rintro _ w ⟨bN,rfl,hH⟩ a hA)|(refine LT ?_;clear hA hH;rintro _ w ⟨oN,rfl,hH⟩ a hA)|(refine AT ?_;clear hA;rintro _ w ⟨oN,cN,rfl,hH2⟩ a hA;clear hH;have hH:=(hH2 _ (by (repeat constructor))).tail;clear hH2)|(refine S0T ?_;clear hH;rintro _ w hH)))|refine CT ?_|(refine DT ?_ ?_<;>intro hc<;>try (exfalso;omega))|(first|(refine DSK ?_;clear hA a;intro a hA)|(first|(refine DLT ?_;clear hA hH;rintro _ w ⟨oN,rfl,hH⟩;refine ⟨STT,?_⟩;intro a hA)|(refine DAT ?_;clear hA;rintro _ w ⟨oN,cN,rfl,hH2⟩;clear hH;have hH:=(hH2 _ (by (repeat constructor))).tail;clear hH2;refine ⟨STT,?_⟩;intro a hA))))
      exact ⟨o,cp,hH.head,(hA.sub SBT)⟩
    have hmb:=mem_behind f.cs.l (n:=n) (by omega)
    rw [←hJ] at hmb
    have hnx:=nexts_le f.cs.l n
    have hns:=nexts_s f.cs.l n
    have hpl:=places_next f.cs.l n
    repeat' (first|(first|(refine GT ?_ ?_<;>intro hg<;>clear hA a<;>intro a hA<;>(first|exact FA|replace hg:=dTr hg|replace hg:=dFa hg|skip))|(refine QT ?_;clear hA a;intro a hA)|(first|(refine BT ?_;clear hA hH;rintro _ w ⟨bN,rfl,hH⟩ a hA)|(refine LT ?_;clear hA hH;rintro _ w ⟨oN,rfl,hH⟩ a hA)|(refine AT ?_;clear hA;rintro _ w ⟨oN,cN,rfl,hH2⟩ a hA;clear hH;have hH:=(hH2 _ (by (repeat constructor))).tail;clear hH2)|(refine S0T ?_;clear hH;rintro _ w hH)))|refine CT ?_|(refine DT ?_ ?_<;>intro hc<;>try (exfalso;omega))|(first|(refine DSK ?_;clear hA a;intro a hA)|(first|(refine DLT ?_;clear hA hH;rintro _ w ⟨oN,rfl,hH⟩;refine ⟨STT,?_⟩;intro a hA)|(refine DAT ?_;clear hA;rintro _ w ⟨oN,cN,rfl,hH2⟩;clear hH;have hH:=(hH2 _ (by (repeat constructor))).tail;clear hH2;refine ⟨STT,?_⟩;intro a hA))))
    (refine st_op hA rfl rfl (by decide) (op_call rfl rfl rfl (bin_spec _ oJ cJ J _ (hH.own_rd (.tail _ (.head _))) hJl hJs)) ?_;clear hA;rintro _ w ⟨q,rfl,hk⟩ a hA;replace hH:=hH.keep hk;clear hk)
    rw [hmb] at hA
    repeat' (first|(first|(refine GT ?_ ?_<;>intro hg<;>clear hA a<;>intro a hA<;>(first|exact FA|replace hg:=dTr hg|replace hg:=dFa hg|skip))|(refine QT ?_;clear hA a;intro a hA)|(first|(refine BT ?_;clear hA hH;rintro _ w ⟨bN,rfl,hH⟩ a hA)|(refine LT ?_;clear hA hH;rintro _ w ⟨oN,rfl,hH⟩ a hA)|(refine AT ?_;clear hA;rintro _ w ⟨oN,cN,rfl,hH2⟩ a hA;clear hH;have hH:=(hH2 _ (by (repeat constructor))).tail;clear hH2)|(refine S0T ?_;clear hH;rintro _ w hH)))|refine CT ?_|(refine DT ?_ ?_<;>intro hc<;>try (exfalso;omega))|(first|(refine DSK ?_;clear hA a;intro a hA)|(first|(refine DLT ?_;clear hA hH;rintro _ w ⟨oN,rfl,hH⟩;refine ⟨STT,?_⟩;intro a hA)|(refine DAT ?_;clear hA;rintro _ w ⟨oN,cN,rfl,hH2⟩;clear hH;have hH:=(hH2 _ (by (repeat constructor))).tail;clear hH2;refine ⟨STT,?_⟩;intro a hA))))
    · rw [if_pos hc] at hpl hns
      rw [←hpl] at hH
      exact ⟨n+1,⟨oN,cN,hlt,hH,by rw [hns];exact (hA.sub SBT)⟩,by omega⟩
    · have hcn:¬behind f.cs.l n=true:=by rw [hc];exact Bool.false_ne_true
      rw [if_neg hcn] at hpl hns
      rw [←hpl] at hH
      exact ⟨n+1,⟨oN,cN,hlt,hH,by rw [hns];exact (hA.sub SBT)⟩,by omega⟩
  clear hA hH
  rintro a w ⟨o,cp,hH,hA⟩
  repeat' (first|(first|(refine GT ?_ ?_<;>intro hg<;>clear hA a<;>intro a hA<;>(first|exact FA|replace hg:=dTr hg|replace hg:=dFa hg|skip))|(refine QT ?_;clear hA a;intro a hA)|(first|(refine BT ?_;clear hA hH;rintro _ w ⟨bN,rfl,hH⟩ a hA)|(refine LT ?_;clear hA hH;rintro _ w ⟨oN,rfl,hH⟩ a hA)|(refine AT ?_;clear hA;rintro _ w ⟨oN,cN,rfl,hH2⟩ a hA;clear hH;have hH:=(hH2 _ (by (repeat constructor))).tail;clear hH2)|(refine S0T ?_;clear hH;rintro _ w hH)))|refine CT ?_|(refine DT ?_ ?_<;>intro hc<;>try (exfalso;omega))|(first|(refine DSK ?_;clear hA a;intro a hA)|(first|(refine DLT ?_;clear hA hH;rintro _ w ⟨oN,rfl,hH⟩;refine ⟨STT,?_⟩;intro a hA)|(refine DAT ?_;clear hA;rintro _ w ⟨oN,cN,rfl,hH2⟩;clear hH;have hH:=(hH2 _ (by (repeat constructor))).tail;clear hH2;refine ⟨STT,?_⟩;intro a hA))))
  exact rt1 (.inl rfl) rfl hA rfl ⟨o,cp,rfl,hH⟩
end
theorem ahead_s (l:List Cod) (n:Nat):ahead l (n+1)=if canJ l n then ahead l n+1 else 0:=rfl
theorem ahead_le (l:List Cod):∀n,ahead l n≤n
  |0=>Nat.le_refl 0
  |n+1=>by rw [ahead_s];have:=ahead_le l n;split<;>omega
theorem can_no {l:List Cod} {n:Nat} {c:Cod} (hc:l[n]?=some c) (h:simP c=false∨((n+1:Nat):Int)∈goalsOf l):canJ l n=false:=by
  cases hJ:canJ l n with
  |false=>rfl
  | true=>
    have h1:n+1<l.length:=by
      unfold canJ at hJ
      simp at hJ
      exact hJ.1.1
    rw [can_eq hc h1] at hJ
    rcases h with h|h
    · rw [h] at hJ;cases hJ
    · rw [decide_eq_true h] at hJ;simp at hJ
theorem can_yes {l:List Cod} {n:Nat} {c:Cod} (hc:l[n]?=some c) (h1:n+1<l.length) (h:simP c=true) (h2:¬((n+1:Nat):Int)∈goalsOf l):canJ l n=true:=by
  rw [can_eq hc h1,h,decide_eq_false h2];rfl
theorem isJ_no {l:List Cod} {n:Nat} (h:canJ l n=false):isJ l n=false:=by rw [isJ_ahead,h];rfl
theorem isJ_yes {l:List Cod} {n:Nat} (h:canJ l n=true):isJ l n=decide (ahead l n % 2=0):=by rw [isJ_ahead,h];rfl
theorem simP_iff (c:Cod):simP c=true↔c.k=1∧(c.rk=1∨(c.rk=2∧1≤c.rn∧c.rn≤9)):=by
  simp [simP,and_assoc]
theorem simP_no (c:Cod):simP c=false↔¬(c.k=1∧(c.rk=1∨(c.rk=2∧1≤c.rn∧c.rn≤9))):=by
  rw [←simP_iff];simp
theorem tmod2 (a:Nat):decide (((a:Int)).tmod 2=0)=decide (a % 2=0):=by
  refine decide_eq_decide.2 ?_
  rw [Int.tmod_eq_emod_of_nonneg (by omega)]
  omega
section
attribute [local irreducible] Code.wp wpList Calls Ex Op1 sat bat blk cb own Go.Fw.mp Go.Fw.mpO Go.Fw.mpI Go.Fw.mpE Go.Fw.itr HS Rd Ret wkD Hp Cl Cls Exit.then Exit.inBlock Exit.noGoto bodyPost Go.Fw.flat wk2 Go.Fw.all Go.Fw.owns wpOp
attribute [local irreducible] goalsOf sk joins isJ canJ simP behind places nexts ahead

theorem isj_spec (w0:World) (f:CF) (n:Nat) (hn:n<f.cs.l.length) (hR:RdF w0 f):Ret Tryz.prog 9 #[.agg (encF f).toArray,.int .i64 n] w0 (fun r w=>r= .bool (isJ f.cs.l n)∧Kp w0 noM w):=by
  have hH:HS w0 noM [] w0:=HS.init w0 noM
  have hle:=hR.2.2
  have hsp:Sp f.cs.o f.cs.l.length:=hR.1.1.sp (sz:=9) (flat_length encCo_len _) (by omega)
  obtain ⟨c,hci⟩:∃c,f.cs.l[n]?=some c:=⟨_,List.getElem?_eq_getElem hn⟩
  have hvs:=flat_all encCo_len hci
  (refine ENT (N:=106) Tryz.func9 Tryz.ntmps9 ?_;intro a hA)
  repeat' (first|(first|(refine GT ?_ ?_<;>intro hg<;>clear hA a<;>intro a hA<;>(first|exact FA|replace hg:=dTr hg|replace hg:=dFa hg|skip))|(refine QT ?_;clear hA a;intro a hA)|(first|(refine BT ?_;clear hA hH;rintro _ w ⟨bN,rfl,hH⟩ a hA)|(refine LT ?_;clear hA hH;rintro _ w ⟨oN,rfl,hH⟩ a hA)|(refine AT ?_;clear hA;rintro _ w ⟨oN,cN,rfl,hH2⟩ a hA;clear hH;have hH:=(hH2 _ (by (repeat constructor))).tail;clear hH2)|(refine S0T ?_;clear hH;rintro _ w hH)))|refine CT ?_|(refine DT ?_ ?_<;>intro hc<;>try (exfalso;omega))|(first|(refine DSK ?_;clear hA a;intro a hA)|(first|(refine DLT ?_;clear hA hH;rintro _ w ⟨oN,rfl,hH⟩;refine ⟨STT,?_⟩;intro a hA)|(refine DAT ?_;clear hA;rintro _ w ⟨oN,cN,rfl,hH2⟩;clear hH;have hH:=(hH2 _ (by (repeat constructor))).tail;clear hH2;refine ⟨STT,?_⟩;intro a hA))))
  · have e:isJ f.cs.l n=false:=by
      cases hJ:isJ f.cs.l n with
      |false=>rfl
      |true=>have:=isJ_lt hJ;omega
    exact rt1 (.inl rfl) rfl hA rfl ⟨by rw [e],hH.kp⟩
  have hlt:n+1<f.cs.l.length:=by omega
  obtain ⟨bF,hbF⟩:∃x,x=bN:=⟨_,rfl⟩
  rw [←hbF] at hA hH
  clear hbF bN
  (refine st_op hA rfl rfl (by decide) (op_call rfl rfl rfl (goal_spec _ f _ (hR.keep hH.kp))) ?_;clear hA;rintro _ w ⟨rfl,hk⟩ a hA;replace hH:=hH.keep hk;clear hk)
  by_cases hgo:((n+1:Nat):Int)∈goalsOf f.cs.l
  · rw [decide_eq_true hgo] at hA
    repeat' (first|(first|(refine GT ?_ ?_<;>intro hg<;>clear hA a<;>intro a hA<;>(first|exact FA|replace hg:=dTr hg|replace hg:=dFa hg|skip))|(refine QT ?_;clear hA a;intro a hA)|(first|(refine BT ?_;clear hA hH;rintro _ w ⟨bN,rfl,hH⟩ a hA)|(refine LT ?_;clear hA hH;rintro _ w ⟨oN,rfl,hH⟩ a hA)|(refine AT ?_;clear hA;rintro _ w ⟨oN,cN,rfl,hH2⟩ a hA;clear hH;have hH:=(hH2 _ (by (repeat constructor))).tail;clear hH2)|(refine S0T ?_;clear hH;rintro _ w hH)))|refine CT ?_|(refine DT ?_ ?_<;>intro hc<;>try (exfalso;omega))|(first|(refine DSK ?_;clear hA a;intro a hA)|(first|(refine DLT ?_;clear hA hH;rintro _ w ⟨oN,rfl,hH⟩;refine ⟨STT,?_⟩;intro a hA)|(refine DAT ?_;clear hA;rintro _ w ⟨oN,cN,rfl,hH2⟩;clear hH;have hH:=(hH2 _ (by (repeat constructor))).tail;clear hH2;refine ⟨STT,?_⟩;intro a hA))))
    exact rt1 (.inl rfl) rfl hA rfl ⟨by rw [isJ_no (can_no hci (.inr hgo))],hH.kp⟩
  rw [decide_eq_false hgo] at hA
  repeat' (first|(first|(refine GT ?_ ?_<;>intro hg<;>clear hA a<;>intro a hA<;>(first|exact FA|replace hg:=dTr hg|replace hg:=dFa hg|skip))|(refine XT ?_;apply XE;(first|(apply ex_load_st (vs:=encCo c);rfl;rfl;exact cls_rd hR.1.1 id hvs));clear hA a;intro a hA)|(refine QT ?_;clear hA a;intro a hA)|(first|(refine BT ?_;clear hA hH;rintro _ w ⟨bN,rfl,hH⟩ a hA)|(refine LT ?_;clear hA hH;rintro _ w ⟨oN,rfl,hH⟩ a hA)|(refine AT ?_;clear hA;rintro _ w ⟨oN,cN,rfl,hH2⟩ a hA;clear hH;have hH:=(hH2 _ (by (repeat constructor))).tail;clear hH2)|(refine S0T ?_;clear hH;rintro _ w hH)|(refine SAT (encCo c) hA hH ?_;clear hH;intro w hH)))|refine CT ?_|(refine DT ?_ ?_<;>intro hc<;>try (exfalso;omega))|(first|(refine DSK ?_;clear hA a;intro a hA)|(first|(refine DLT ?_;clear hA hH;rintro _ w ⟨oN,rfl,hH⟩;refine ⟨STT,?_⟩;intro a hA)|(refine DAT ?_;clear hA;rintro _ w ⟨oN,cN,rfl,hH2⟩;clear hH;have hH:=(hH2 _ (by (repeat constructor))).tail;clear hH2;refine ⟨STT,?_⟩;intro a hA))))
  all_goals first|exact rt1 (.inl rfl) rfl hA rfl ⟨by rw [isJ_no (can_no hci (.inl ((simP_no c).2 (by omega))))],hH.kp⟩|skip
  all_goals (
    have hs:simP c=true:=(simP_iff c).2 (by omega)
    have hca:=can_yes hci hlt hs hgo
    have hH1:=hH.tail
    clear hH
    have hH:=hH1
    clear hH1
    refine wp_lpk (S:=Nat) (fun k a w=>(k≤n∧ahead f.cs.l n=(n - k)+ahead f.cs.l k)∧HS w0 noM [cb bF 24 (encF f)] w∧Sl 106 [(2,.pointer (some (bat bF 0))),(6,.int .i64 ((n - k:Nat))),(7,.int .i64 ((k:Int) - 1))] a) (fun k=>k)
      (fun a w=>HS w0 noM [cb bF 24 (encF f)] w∧Sl 106 [(6,.int .i64 (ahead f.cs.l n))] a) n ⟨⟨Nat.le_refl n,by omega⟩,hH,by rw [Nat.sub_self];exact (hA.sub SBT)⟩ ?_ ?_
    · clear hA hH
      rintro k a w ⟨⟨hk,hah⟩,hH,hA⟩
      rcases k with _|k
      · have e0:ahead f.cs.l 0=0:=by unfold ahead;rfl
        rw [e0] at hah
        repeat' (first|(first|(refine GT ?_ ?_<;>intro hg<;>clear hA a<;>intro a hA<;>(first|exact FA|replace hg:=dTr hg|replace hg:=dFa hg|skip))|(refine QT ?_;clear hA a;intro a hA)|(first|(refine BT ?_;clear hA hH;rintro _ w ⟨bN,rfl,hH⟩ a hA)|(refine LT ?_;clear hA hH;rintro _ w ⟨oN,rfl,hH⟩ a hA)|(refine AT ?_;clear hA;rintro _ w ⟨oN,cN,rfl,hH2⟩ a hA;clear hH;have hH:=(hH2 _ (by (repeat constructor))).tail;clear hH2)|(refine S0T ?_;clear hH;rintro _ w hH)))|refine CT ?_|(refine DT ?_ ?_<;>intro hc<;>try (exfalso;omega))|(first|(refine DSK ?_;clear hA a;intro a hA)|(first|(refine DLT ?_;clear hA hH;rintro _ w ⟨oN,rfl,hH⟩;refine ⟨STT,?_⟩;intro a hA)|(refine DAT ?_;clear hA;rintro _ w ⟨oN,cN,rfl,hH2⟩;clear hH;have hH:=(hH2 _ (by (repeat constructor))).tail;clear hH2;refine ⟨STT,?_⟩;intro a hA))))
        rw [hah]
        exact ⟨hH,(hA.sub SBT)⟩
      have e1:((k+1:Nat):Int) - 1=k:=by omega
      rw [e1] at hA
      obtain ⟨x,hxi⟩:∃x,f.cs.l[k]?=some x:=⟨_,List.getElem?_eq_getElem (by omega)⟩
      have hxs:=flat_all encCo_len hxi
      rw [ahead_s] at hah
      repeat' (first|(first|(refine GT ?_ ?_<;>intro hg<;>clear hA a<;>intro a hA<;>(first|exact FA|replace hg:=dTr hg|replace hg:=dFa hg|skip))|(refine XT ?_;apply XE;(first|(apply ex_load_st (vs:=encCo x);rfl;rfl;exact cls_rd hR.1.1 id hxs));clear hA a;intro a hA)|(refine QT ?_;clear hA a;intro a hA)|(first|(refine BT ?_;clear hA hH;rintro _ w ⟨bN,rfl,hH⟩ a hA)|(refine LT ?_;clear hA hH;rintro _ w ⟨oN,rfl,hH⟩ a hA)|(refine AT ?_;clear hA;rintro _ w ⟨oN,cN,rfl,hH2⟩ a hA;clear hH;have hH:=(hH2 _ (by (repeat constructor))).tail;clear hH2)|(refine S0T ?_;clear hH;rintro _ w hH)|(refine SAT (encCo x) hA hH ?_;clear hH;intro w hH)))|refine CT ?_|(refine DT ?_ ?_<;>intro hc<;>try (exfalso;omega))|(first|(refine DSK ?_;clear hA a;intro a hA)|(first|(refine DLT ?_;clear hA hH;rintro _ w ⟨oN,rfl,hH⟩;refine ⟨STT,?_⟩;intro a hA)|(refine DAT ?_;clear hA;rintro _ w ⟨oN,cN,rfl,hH2⟩;clear hH;have hH:=(hH2 _ (by (repeat constructor))).tail;clear hH2;refine ⟨STT,?_⟩;intro a hA))))
      obtain ⟨bX,hbX⟩:∃x,x=bN:=⟨_,rfl⟩
      rw [←hbX] at hA hH
      clear hbX bN
      (refine st_op hA rfl rfl (by decide) (op_call rfl rfl rfl (goal_spec _ f _ (hR.keep hH.kp))) ?_;clear hA;rintro _ w ⟨rfl,hk⟩ a hA;replace hH:=hH.keep hk;clear hk)
      by_cases hgx:((k+1:Nat):Int)∈goalsOf f.cs.l
      · rw [decide_eq_true hgx] at hA
        rw [can_no hxi (.inr hgx)] at hah
        simp only [Bool.false_eq_true,if_false,Nat.add_zero] at hah
        repeat' (first|(first|(refine GT ?_ ?_<;>intro hg<;>clear hA a<;>intro a hA<;>(first|exact FA|replace hg:=dTr hg|replace hg:=dFa hg|skip))|(refine QT ?_;clear hA a;intro a hA)|(first|(refine BT ?_;clear hA hH;rintro _ w ⟨bN,rfl,hH⟩ a hA)|(refine LT ?_;clear hA hH;rintro _ w ⟨oN,rfl,hH⟩ a hA)|(refine AT ?_;clear hA;rintro _ w ⟨oN,cN,rfl,hH2⟩ a hA;clear hH;have hH:=(hH2 _ (by (repeat constructor))).tail;clear hH2)|(refine S0T ?_;clear hH;rintro _ w hH)))|refine CT ?_|(refine DT ?_ ?_<;>intro hc<;>try (exfalso;omega))|(first|(refine DSK ?_;clear hA a;intro a hA)|(first|(refine DLT ?_;clear hA hH;rintro _ w ⟨oN,rfl,hH⟩;refine ⟨STT,?_⟩;intro a hA)|(refine DAT ?_;clear hA;rintro _ w ⟨oN,cN,rfl,hH2⟩;clear hH;have hH:=(hH2 _ (by (repeat constructor))).tail;clear hH2;refine ⟨STT,?_⟩;intro a hA))))
        rw [hah]
        exact ⟨hH.tail,(hA.sub SBT)⟩
      rw [decide_eq_false hgx] at hA
      repeat' (first|(first|(refine GT ?_ ?_<;>intro hg<;>clear hA a<;>intro a hA<;>(first|exact FA|replace hg:=dTr hg|replace hg:=dFa hg|skip))|(refine QT ?_;clear hA a;intro a hA)|(first|(refine BT ?_;clear hA hH;rintro _ w ⟨bN,rfl,hH⟩ a hA)|(refine LT ?_;clear hA hH;rintro _ w ⟨oN,rfl,hH⟩ a hA)|(refine AT ?_;clear hA;rintro _ w ⟨oN,cN,rfl,hH2⟩ a hA;clear hH;have hH:=(hH2 _ (by (repeat constructor))).tail;clear hH2)|(refine S0T ?_;clear hH;rintro _ w hH)))|refine CT ?_|(refine DT ?_ ?_<;>intro hc<;>try (exfalso;omega))|(first|(refine DSK ?_;clear hA a;intro a hA)|(first|(refine DLT ?_;clear hA hH;rintro _ w ⟨oN,rfl,hH⟩;refine ⟨STT,?_⟩;intro a hA)|(refine DAT ?_;clear hA;rintro _ w ⟨oN,cN,rfl,hH2⟩;clear hH;have hH:=(hH2 _ (by (repeat constructor))).tail;clear hH2;refine ⟨STT,?_⟩;intro a hA))))
      all_goals first
        |(rw [can_no hxi (.inl ((simP_no x).2 (by omega)))] at hah;simp only [Bool.false_eq_true,if_false,Nat.add_zero] at hah;rw [hah];exact ⟨hH.tail,(hA.sub SBT)⟩)
        | (rw [can_yes hxi (by omega) ((simP_iff x).2 (by omega)) hgx] at hah
           simp only [if_true] at hah
           exact ⟨k,⟨⟨by omega,by omega⟩,hH.tail,by rw [show n - k=n - (k+1)+1 by omega];exact (hA.sub SBT)⟩,by omega⟩)
    clear hA hH
    rintro a w ⟨hH,hA⟩
    have hal:=ahead_le f.cs.l n
    repeat' (first|(first|(refine GT ?_ ?_<;>intro hg<;>clear hA a<;>intro a hA<;>(first|exact FA|replace hg:=dTr hg|replace hg:=dFa hg|skip))|(refine QT ?_;clear hA a;intro a hA)|(first|(refine BT ?_;clear hA hH;rintro _ w ⟨bN,rfl,hH⟩ a hA)|(refine LT ?_;clear hA hH;rintro _ w ⟨oN,rfl,hH⟩ a hA)|(refine AT ?_;clear hA;rintro _ w ⟨oN,cN,rfl,hH2⟩ a hA;clear hH;have hH:=(hH2 _ (by (repeat constructor))).tail;clear hH2)|(refine S0T ?_;clear hH;rintro _ w hH)))|refine CT ?_|(refine DT ?_ ?_<;>intro hc<;>try (exfalso;omega))|(first|(refine DSK ?_;clear hA a;intro a hA)|(first|(refine DLT ?_;clear hA hH;rintro _ w ⟨oN,rfl,hH⟩;refine ⟨STT,?_⟩;intro a hA)|(refine DAT ?_;clear hA;rintro _ w ⟨oN,cN,rfl,hH2⟩;clear hH;have hH:=(hH2 _ (by (repeat constructor))).tail;clear hH2;refine ⟨STT,?_⟩;intro a hA))))
    exact rt1 (.inl rfl) rfl hA rfl ⟨by rw [isJ_yes hca,tmod2],hH.kp⟩)
theorem isjm_spec (w0:World) (f:CF) (n:Nat) (hn:n<f.cs.l.length) (hR:RdF w0 f):Ret Tryz.prog 9 #[.agg (encF f).toArray,.int .i64 ((n:Int) - 1)] w0 (fun r w=>r= .bool (behind f.cs.l n)∧Kp w0 noM w):=by
  cases n with
  | zero=>
    have hH:HS w0 noM [] w0:=HS.init w0 noM
    have hle:=hR.2.2
    have hsp:Sp f.cs.o f.cs.l.length:=hR.1.1.sp (sz:=9) (flat_length encCo_len _) (by omega)
    have e:behind f.cs.l 0=false:=by unfold behind;rfl
    (refine ENT (N:=106) Tryz.func9 Tryz.ntmps9 ?_;intro a hA)
    repeat' (first|(first|(refine GT ?_ ?_<;>intro hg<;>clear hA a<;>intro a hA<;>(first|exact FA|replace hg:=dTr hg|replace hg:=dFa hg|skip))|(refine QT ?_;clear hA a;intro a hA)|(first|(refine BT ?_;clear hA hH;rintro _ w ⟨bN,rfl,hH⟩ a hA)|(refine LT ?_;clear hA hH;rintro _ w ⟨oN,rfl,hH⟩ a hA)|(refine AT ?_;clear hA;rintro _ w ⟨oN,cN,rfl,hH2⟩ a hA;clear hH;have hH:=(hH2 _ (by (repeat constructor))).tail;clear hH2)|(refine S0T ?_;clear hH;rintro _ w hH)))|refine CT ?_|(refine DT ?_ ?_<;>intro hc<;>try (exfalso;omega))|(first|(refine DSK ?_;clear hA a;intro a hA)|(first|(refine DLT ?_;clear hA hH;rintro _ w ⟨oN,rfl,hH⟩;refine ⟨STT,?_⟩;intro a hA)|(refine DAT ?_;clear hA;rintro _ w ⟨oN,cN,rfl,hH2⟩;clear hH;have hH:=(hH2 _ (by (repeat constructor))).tail;clear hH2;refine ⟨STT,?_⟩;intro a hA))))
    exact rt1 (.inl rfl) rfl hA rfl ⟨by rw [e],hH.kp⟩
  | succ n=>
    rw [show ((n+1:Nat):Int) - 1=n by omega,behind_s]
    exact isj_spec w0 f n (by omega) hR
end
section
attribute [local irreducible] Code.wp wpList Calls Ex Op1 sat bat blk cb own Go.Fw.mp Go.Fw.mpO Go.Fw.mpI Go.Fw.mpE Go.Fw.itr HS Rd Ret wkD Hp Cl Cls Exit.then Exit.inBlock Exit.noGoto bodyPost Go.Fw.flat wk2 Go.Fw.all Go.Fw.owns wpOp

theorem size_spec (w0:World) (f:CF) (o:Option Addr) (cp:Nat) (hI:Rd w0 o (encF f)) (hR:RdF w0 f) :
    Ret Tryz.prog 6 #[.agg #[.slice o 1 cp,.slice none 0 0,.slice none 0 0,.slice none 0 0,.slice none 0 0],.int .i64 500] w0 (fun r w=>(∃z:Nat,r= .int .i64 z)∧Kp w0 noM w):=by
  have hH:HS w0 noM [] w0:=HS.init w0 noM
  have hle:=hR.2.2
  have hsp:Sp f.cs.o f.cs.l.length:=hR.1.1.sp (sz:=9) (flat_length encCo_len _) (by omega)
  have hsp1:Sp o 1:=hI.sp (sz:=3) rfl (by omega)
  have hcs:(encF f)[0*3+2]?=some (.slice f.cs.o f.cs.l.length f.cs.c):=rfl
  (refine ENT (N:=74) Tryz.func6 Tryz.ntmps6 ?_;intro a hA)
  repeat' (first|(first|(refine GT ?_ ?_<;>intro hg<;>clear hA a<;>intro a hA<;>(first|exact FA|replace hg:=dTr hg|replace hg:=dFa hg|skip))|(refine QT ?_;clear hA a;intro a hA)|(first|(refine BT ?_;clear hA hH;rintro _ w ⟨bN,rfl,hH⟩ a hA)|(refine LT ?_;clear hA hH;rintro _ w ⟨oN,rfl,hH⟩ a hA)|(refine AT ?_;clear hA;rintro _ w ⟨oN,cN,rfl,hH2⟩ a hA;clear hH;have hH:=(hH2 _ (by (repeat constructor))).tail;clear hH2)|(refine S0T ?_;clear hH;rintro _ w hH)))|refine CT ?_|(refine DT ?_ ?_<;>intro hc<;>try (exfalso;omega))|(first|(refine DSK ?_;clear hA a;intro a hA)|(first|(refine DLT ?_;clear hA hH;rintro _ w ⟨oN,rfl,hH⟩;refine ⟨STT,?_⟩;intro a hA)|(refine DAT ?_;clear hA;rintro _ w ⟨oN,cN,rfl,hH2⟩;clear hH;have hH:=(hH2 _ (by (repeat constructor))).tail;clear hH2;refine ⟨STT,?_⟩;intro a hA))))
  obtain ⟨bI,hbI⟩:∃x,x=bN:=⟨_,rfl⟩
  rw [←hbI] at hA hH
  clear hbI bN
  obtain ⟨vI,hvI⟩:∃x,x=[Value.slice o 1 cp,Value.slice none 0 0,Value.slice none 0 0,Value.slice none 0 0,Value.slice none 0 0]:=⟨_,rfl⟩
  have hv0:Go.Fw.nth vI 0=some (.slice o 1 cp):=by rw [hvI];rfl
  rw [←hvI] at hH
  refine wp_lpk (S:=Nat) (fun i a w=>∃z:Nat,(i≤1∧z≤1+i*5497563553792)∧HS w0 noM [cb bI 30 vI] w∧Sl 74 [(1,.int .i64 500),(2,.pointer (some (bat bI 0))),(5,.int .i64 z),(6,.int .i64 i)] a) (fun i=>1 - i)
    (fun a w=>∃z:Nat,HS w0 noM [cb bI 30 vI] w∧Sl 74 [(5,.int .i64 z)] a) 0 ⟨1,⟨by omega,by omega⟩,hH,(hA.sub SBT)⟩ ?_ ?_
  · clear hA hH
    rintro i a w ⟨z,⟨hi,hz⟩,hH,hA⟩
    rcases i with _|i
    rotate_left
    · obtain rfl:i=0:=by omega
      repeat' (first|(first|(refine GT ?_ ?_<;>intro hg<;>clear hA a<;>intro a hA<;>(first|exact FA|replace hg:=dTr hg|replace hg:=dFa hg|skip))|(refine XT ?_;apply XE;(first|(apply ex_load;rfl;apply cl_cb;exact .head _;exact hv0));clear hA a;intro a hA)|(refine QT ?_;clear hA a;intro a hA)|(first|(refine BT ?_;clear hA hH;rintro _ w ⟨bN,rfl,hH⟩ a hA)|(refine LT ?_;clear hA hH;rintro _ w ⟨oN,rfl,hH⟩ a hA)|(refine AT ?_;clear hA;rintro _ w ⟨oN,cN,rfl,hH2⟩ a hA;clear hH;have hH:=(hH2 _ (by (repeat constructor))).tail;clear hH2)|(refine S0T ?_;clear hH;rintro _ w hH)))|refine CT ?_|(refine DT ?_ ?_<;>intro hc<;>try (exfalso;omega))|(first|(refine DSK ?_;clear hA a;intro a hA)|(first|(refine DLT ?_;clear hA hH;rintro _ w ⟨oN,rfl,hH⟩;refine ⟨STT,?_⟩;intro a hA)|(refine DAT ?_;clear hA;rintro _ w ⟨oN,cN,rfl,hH2⟩;clear hH;have hH:=(hH2 _ (by (repeat constructor))).tail;clear hH2;refine ⟨STT,?_⟩;intro a hA))))
      exact ⟨z,hH,(hA.sub SBT)⟩
    repeat' (first|(first|(refine GT ?_ ?_<;>intro hg<;>clear hA a<;>intro a hA<;>(first|exact FA|replace hg:=dTr hg|replace hg:=dFa hg|skip))|(refine XT ?_;apply XE;(first|(apply ex_load;rfl;apply cl_cb;exact .head _;exact hv0));clear hA a;intro a hA)|(refine QT ?_;clear hA a;intro a hA)|(first|(refine BT ?_;clear hA hH;rintro _ w ⟨bN,rfl,hH⟩ a hA)|(refine LT ?_;clear hA hH;rintro _ w ⟨oN,rfl,hH⟩ a hA)|(refine AT ?_;clear hA;rintro _ w ⟨oN,cN,rfl,hH2⟩ a hA;clear hH;have hH:=(hH2 _ (by (repeat constructor))).tail;clear hH2)|(refine S0T ?_;clear hH;rintro _ w hH)))|refine CT ?_|(refine DT ?_ ?_<;>intro hc<;>try (exfalso;omega))|(first|(refine DSK ?_;clear hA a;intro a hA)|(first|(refine DLT ?_;clear hA hH;rintro _ w ⟨oN,rfl,hH⟩;refine ⟨STT,?_⟩;intro a hA)|(refine DAT ?_;clear hA;rintro _ w ⟨oN,cN,rfl,hH2⟩;clear hH;have hH:=(hH2 _ (by (repeat constructor))).tail;clear hH2;refine ⟨STT,?_⟩;intro a hA))))
    rotate_left
    refine wp_lpk (S:=Nat) (fun k a w=>∃z:Nat,(k≤f.cs.l.length∧z≤1+k*5242881)∧HS w0 noM [cb bI 30 vI] w∧Sl 74 [(1,.int .i64 500),(2,.pointer (some (bat bI 0))),(5,.int .i64 z),(6,.int .i64 ((0:Nat))),(7,.int .i64 k)] a) (fun k=>f.cs.l.length - k)
      (fun a w=>∃z:Nat,z≤5497563553793∧HS w0 noM [cb bI 30 vI] w∧Sl 74 [(1,.int .i64 500),(2,.pointer (some (bat bI 0))),(5,.int .i64 z),(6,.int .i64 ((0:Nat)))] a) 0 ⟨z,⟨Nat.zero_le _,by omega⟩,hH,(hA.sub SBT)⟩ ?_ ?_
    · clear hA hH
      rintro k a w ⟨z,⟨hk,hz⟩,hH,hA⟩
      by_cases hlk:k<f.cs.l.length
      rotate_left
      · obtain rfl:k=f.cs.l.length:=by omega
        repeat' (first|(first|(refine GT ?_ ?_<;>intro hg<;>clear hA a<;>intro a hA<;>(first|exact FA|replace hg:=dTr hg|replace hg:=dFa hg|skip))|(refine XT ?_;apply XE;(first|(apply ex_load;rfl;apply cl_cb;exact .head _;exact hv0)|(apply ex_load;rfl;exact cl_rd hI id hcs));clear hA a;intro a hA)|(refine QT ?_;clear hA a;intro a hA)|(first|(refine BT ?_;clear hA hH;rintro _ w ⟨bN,rfl,hH⟩ a hA)|(refine LT ?_;clear hA hH;rintro _ w ⟨oN,rfl,hH⟩ a hA)|(refine AT ?_;clear hA;rintro _ w ⟨oN,cN,rfl,hH2⟩ a hA;clear hH;have hH:=(hH2 _ (by (repeat constructor))).tail;clear hH2)|(refine S0T ?_;clear hH;rintro _ w hH)))|refine CT ?_|(refine DT ?_ ?_<;>intro hc<;>try (exfalso;omega))|(first|(refine DSK ?_;clear hA a;intro a hA)|(first|(refine DLT ?_;clear hA hH;rintro _ w ⟨oN,rfl,hH⟩;refine ⟨STT,?_⟩;intro a hA)|(refine DAT ?_;clear hA;rintro _ w ⟨oN,cN,rfl,hH2⟩;clear hH;have hH:=(hH2 _ (by (repeat constructor))).tail;clear hH2;refine ⟨STT,?_⟩;intro a hA))))
        exact ⟨z,by omega,hH,(hA.sub SBT)⟩
      obtain ⟨c,hci⟩:∃c,f.cs.l[k]?=some c:=⟨_,List.getElem?_eq_getElem hlk⟩
      have hvs:=flat_all encCo_len hci
      have hfew:=(hR.2.1 c (List.mem_of_getElem? hci)).2
      unfold Few at hfew
      repeat' (first|(first|(refine GT ?_ ?_<;>intro hg<;>clear hA a<;>intro a hA<;>(first|exact FA|replace hg:=dTr hg|replace hg:=dFa hg|skip))|(refine XT ?_;apply XE;(first|(apply ex_load;rfl;apply cl_cb;exact .head _;exact hv0)|(apply ex_load;rfl;apply cl_cb;exact .tail _ (.head _);exact hv0)|(apply ex_load;rfl;exact cl_rd hI id hcs)|(apply ex_load_st (vs:=encCo c);rfl;rfl;exact cls_rd hR.1.1 id hvs));clear hA a;intro a hA)|(refine QT ?_;clear hA a;intro a hA)|(first|(refine BT ?_;clear hA hH;rintro _ w ⟨bN,rfl,hH⟩ a hA)|(refine LT ?_;clear hA hH;rintro _ w ⟨oN,rfl,hH⟩ a hA)|(refine AT ?_;clear hA;rintro _ w ⟨oN,cN,rfl,hH2⟩ a hA;clear hH;have hH:=(hH2 _ (by (repeat constructor))).tail;clear hH2)|(refine S0T ?_;clear hH;rintro _ w hH)|(refine SAT (encCo c) hA hH ?_;clear hH;intro w hH)))|refine CT ?_|(refine DT ?_ ?_<;>intro hc<;>try (exfalso;omega))|(first|(refine DSK ?_;clear hA a;intro a hA)|(first|(refine DLT ?_;clear hA hH;rintro _ w ⟨oN,rfl,hH⟩;refine ⟨STT,?_⟩;intro a hA)|(refine DAT ?_;clear hA;rintro _ w ⟨oN,cN,rfl,hH2⟩;clear hH;have hH:=(hH2 _ (by (repeat constructor))).tail;clear hH2;refine ⟨STT,?_⟩;intro a hA))))
      · have e:(z:Int)+(1+(c.al.2.1:Int)+c.ra.2.1+c.to.l.length+c.ns.2.1+c.rs.2.1)=((z+(1+c.al.2.1+c.ra.2.1+c.to.l.length+c.ns.2.1+c.rs.2.1):Nat):Int):=by omega
        obtain ⟨z2,hz2⟩:∃z2,z2=z+(1+c.al.2.1+c.ra.2.1+c.to.l.length+c.ns.2.1+c.rs.2.1):=⟨_,rfl⟩
        rw [e,←hz2] at hA
        exact ⟨k+1,⟨z2,⟨hlk,by omega⟩,hH.tail,(hA.sub SBT)⟩,by omega⟩
      · exact ⟨z,by omega,hH,(hA.sub SBT)⟩
    · clear hA hH
      rintro a w ⟨z,hz,hH,hA⟩
      repeat' (first|(first|(refine GT ?_ ?_<;>intro hg<;>clear hA a<;>intro a hA<;>(first|exact FA|replace hg:=dTr hg|replace hg:=dFa hg|skip))|(refine QT ?_;clear hA a;intro a hA)|(first|(refine BT ?_;clear hA hH;rintro _ w ⟨bN,rfl,hH⟩ a hA)|(refine LT ?_;clear hA hH;rintro _ w ⟨oN,rfl,hH⟩ a hA)|(refine AT ?_;clear hA;rintro _ w ⟨oN,cN,rfl,hH2⟩ a hA;clear hH;have hH:=(hH2 _ (by (repeat constructor))).tail;clear hH2)|(refine S0T ?_;clear hH;rintro _ w hH)))|refine CT ?_|(refine DT ?_ ?_<;>intro hc<;>try (exfalso;omega))|(first|(refine DSK ?_;clear hA a;intro a hA)|(first|(refine DLT ?_;clear hA hH;rintro _ w ⟨oN,rfl,hH⟩;refine ⟨STT,?_⟩;intro a hA)|(refine DAT ?_;clear hA;rintro _ w ⟨oN,cN,rfl,hH2⟩;clear hH;have hH:=(hH2 _ (by (repeat constructor))).tail;clear hH2;refine ⟨STT,?_⟩;intro a hA))))
      exact ⟨1,⟨z,⟨by omega,by omega⟩,hH,(hA.sub SBT)⟩,by omega⟩
  clear hA hH
  rintro a w ⟨z,hH,hA⟩
  repeat' (first|(first|(refine GT ?_ ?_<;>intro hg<;>clear hA a<;>intro a hA<;>(first|exact FA|replace hg:=dTr hg|replace hg:=dFa hg|skip))|(refine QT ?_;clear hA a;intro a hA)|(first|(refine BT ?_;clear hA hH;rintro _ w ⟨bN,rfl,hH⟩ a hA)|(refine LT ?_;clear hA hH;rintro _ w ⟨oN,rfl,hH⟩ a hA)|(refine AT ?_;clear hA;rintro _ w ⟨oN,cN,rfl,hH2⟩ a hA;clear hH;have hH:=(hH2 _ (by (repeat constructor))).tail;clear hH2)|(refine S0T ?_;clear hH;rintro _ w hH)))|refine CT ?_|(refine DT ?_ ?_<;>intro hc<;>try (exfalso;omega))|(first|(refine DSK ?_;clear hA a;intro a hA)|(first|(refine DLT ?_;clear hA hH;rintro _ w ⟨oN,rfl,hH⟩;refine ⟨STT,?_⟩;intro a hA)|(refine DAT ?_;clear hA;rintro _ w ⟨oN,cN,rfl,hH2⟩;clear hH;have hH:=(hH2 _ (by (repeat constructor))).tail;clear hH2;refine ⟨STT,?_⟩;intro a hA))))
  exact rt1 (.inl rfl) rfl hA rfl ⟨⟨z,rfl⟩,hH.kp⟩
end
theorem joins_s (l:List Cod) (n:Nat):(joins l (n+1)).length=if isJ l n then (joins l n).length+1 else (joins l n).length:=by
  rw [joins]
  split
  · rw [List.length_append];rfl
  · rfl
theorem joins_le (l:List Cod) {n m:Nat} (h:n≤m):(joins l n).length≤(joins l m).length:=by
  obtain ⟨t,ht⟩:=joins_at l n m h
  rw [ht,List.length_append]
  omega
theorem nexts_s2 (l:List Cod) (n:Nat):nexts l (n+1)=if behind l n then nexts l n else nexts l n+1:=rfl
section
attribute [local irreducible] Code.wp wpList Calls Ex Op1 sat bat blk cb own Go.Fw.mp Go.Fw.mpO Go.Fw.mpI Go.Fw.mpE Go.Fw.itr HS Rd Ret wkD Hp Cl Cls Exit.then Exit.inBlock Exit.noGoto bodyPost Go.Fw.flat wk2 Go.Fw.all Go.Fw.owns wpOp
attribute [local irreducible] goalsOf sk joins isJ canJ simP behind places nexts ahead

theorem joins_law (w0:World) (f:CF) (hR:RdF w0 f) (hw:∀w,Ret Tryz.prog 5 #[] w (fun r w'=>r= .bool true∧Kp w noM w')):Ret Tryz.prog 3 #[.agg (encF f).toArray] w0 (LawR w0):=by
  have hH:HS w0 noM [] w0:=HS.init w0 noM
  have hle:=hR.2.2
  have hsp:Sp f.cs.o f.cs.l.length:=hR.1.1.sp (sz:=9) (flat_length encCo_len _) (by omega)
  (refine ENT (N:=68) Tryz.func3 Tryz.ntmps3 ?_;intro a hA)
  repeat' (first|(first|(refine GT ?_ ?_<;>intro hg<;>clear hA a<;>intro a hA<;>(first|exact FA|replace hg:=dTr hg|replace hg:=dFa hg|skip))|(refine QT ?_;clear hA a;intro a hA)|(first|(refine BT ?_;clear hA hH;rintro _ w ⟨bN,rfl,hH⟩ a hA)|(refine LT ?_;clear hA hH;rintro _ w ⟨oN,rfl,hH⟩ a hA)|(refine AT ?_;clear hA;rintro _ w ⟨oN,cN,rfl,hH2⟩ a hA;clear hH;have hH:=(hH2 _ (by (repeat constructor))).tail;clear hH2)|(refine S0T ?_;clear hH;rintro _ w hH)))|refine CT ?_|(refine DT ?_ ?_<;>intro hc<;>try (exfalso;omega))|(first|(refine DSK ?_;clear hA a;intro a hA)|(first|(refine DLT ?_;clear hA hH;rintro _ w ⟨oN,rfl,hH⟩;refine ⟨STT,?_⟩;intro a hA)|(refine DAT ?_;clear hA;rintro _ w ⟨oN,cN,rfl,hH2⟩;clear hH;have hH:=(hH2 _ (by (repeat constructor))).tail;clear hH2;refine ⟨STT,?_⟩;intro a hA))))
  obtain ⟨bF,hbF⟩:∃x,x=bN:=⟨_,rfl⟩
  rw [←hbF] at hA hH
  clear hbF bN
  (refine st_op hA rfl rfl (by decide) (op_call rfl rfl rfl (hw _)) ?_;clear hA;rintro _ w ⟨rfl,hk⟩ a hA;replace hH:=hH.keep hk;clear hk)
  repeat' (first|(first|(refine GT ?_ ?_<;>intro hg<;>clear hA a<;>intro a hA<;>(first|exact FA|replace hg:=dTr hg|replace hg:=dFa hg|skip))|(refine XT ?_;apply XE;(first|(apply ex_build_p #[.slice oN 1 1,.slice none 0 0,.slice none 0 0,.slice none 0 0,.slice none 0 0];rfl;exact FLT;rfl));clear hA a;intro a hA)|(refine QT ?_;clear hA a;intro a hA)|(first|(refine BT ?_;clear hA hH;rintro _ w ⟨bN,rfl,hH⟩ a hA)|(refine LT ?_;clear hA hH;rintro _ w ⟨oN,rfl,hH⟩ a hA)|(refine AT ?_;clear hA;rintro _ w ⟨oN,cN,rfl,hH2⟩ a hA;clear hH;have hH:=(hH2 _ (by (repeat constructor))).tail;clear hH2)|(refine S0T ?_;clear hH;rintro _ w hH)))|refine CT ?_|(refine DT ?_ ?_<;>intro hc<;>try (exfalso;omega))|(first|(refine DSK ?_;clear hA a;intro a hA)|(first|(refine DLT ?_;clear hA hH;rintro _ w ⟨oN,rfl,hH⟩;refine ⟨STT,?_⟩;intro a hA)|(refine DAT ?_;clear hA;rintro _ w ⟨oN,cN,rfl,hH2⟩;clear hH;have hH:=(hH2 _ (by (repeat constructor))).tail;clear hH2;refine ⟨STT,?_⟩;intro a hA))))
  (refine st_op hA rfl rfl (by decide) (op_call rfl rfl rfl (size_spec _ f oN 1 (hH.own_rd (.head _)) (hR.keep hH.kp))) ?_;clear hA;rintro _ w ⟨⟨z,rfl⟩,hk⟩ a hA;replace hH:=hH.keep hk;clear hk)
  replace hH:=hH.tail
  repeat' (first|(first|(refine GT ?_ ?_<;>intro hg<;>clear hA a<;>intro a hA<;>(first|exact FA|replace hg:=dTr hg|replace hg:=dFa hg|skip))|(refine QT ?_;clear hA a;intro a hA)|(first|(refine BT ?_;clear hA hH;rintro _ w ⟨bN,rfl,hH⟩ a hA)|(refine LT ?_;clear hA hH;rintro _ w ⟨oN,rfl,hH⟩ a hA)|(refine AT ?_;clear hA;rintro _ w ⟨oN,cN,rfl,hH2⟩ a hA;clear hH;have hH:=(hH2 _ (by (repeat constructor))).tail;clear hH2)|(refine S0T ?_;clear hH;rintro _ w hH)))|refine CT ?_|(refine DT ?_ ?_<;>intro hc<;>try (exfalso;omega))|(first|(refine DSK ?_;clear hA a;intro a hA)|(first|(refine DLT ?_;clear hA hH;rintro _ w ⟨oN,rfl,hH⟩;refine ⟨STT,?_⟩;intro a hA)|(refine DAT ?_;clear hA;rintro _ w ⟨oN,cN,rfl,hH2⟩;clear hH;have hH:=(hH2 _ (by (repeat constructor))).tail;clear hH2;refine ⟨STT,?_⟩;intro a hA))))
  · exact rt1 (.inl rfl) rfl hA rfl ⟨rfl,hH.kp⟩
  (refine st_op hA rfl rfl (by decide) (op_call rfl rfl rfl (joined_spec _ f (hR.keep hH.kp))) ?_;clear hA;rintro _ w ⟨oJ,cJ,rfl,hj⟩ a hA;replace hH:=hH.join hj;clear hj)
  repeat' (first|(first|(refine GT ?_ ?_<;>intro hg<;>clear hA a<;>intro a hA<;>(first|exact FA|replace hg:=dTr hg|replace hg:=dFa hg|skip))|(refine QT ?_;clear hA a;intro a hA)|(first|(refine BT ?_;clear hA hH;rintro _ w ⟨bN,rfl,hH⟩ a hA)|(refine LT ?_;clear hA hH;rintro _ w ⟨oN,rfl,hH⟩ a hA)|(refine AT ?_;clear hA;rintro _ w ⟨oN,cN,rfl,hH2⟩ a hA;clear hH;have hH:=(hH2 _ (by (repeat constructor))).tail;clear hH2)|(refine S0T ?_;clear hH;rintro _ w hH)))|refine CT ?_|(refine DT ?_ ?_<;>intro hc<;>try (exfalso;omega))|(first|(refine DSK ?_;clear hA a;intro a hA)|(first|(refine DLT ?_;clear hA hH;rintro _ w ⟨oN,rfl,hH⟩;refine ⟨STT,?_⟩;intro a hA)|(refine DAT ?_;clear hA;rintro _ w ⟨oN,cN,rfl,hH2⟩;clear hH;have hH:=(hH2 _ (by (repeat constructor))).tail;clear hH2;refine ⟨STT,?_⟩;intro a hA))))
  (refine st_op hA rfl rfl (by decide) (op_call rfl rfl rfl (places_spec _ f (hR.keep hH.kp))) ?_;clear hA;rintro _ w ⟨oP,cP,rfl,hj⟩ a hA;replace hH:=hH.join hj;clear hj)
  repeat' (first|(first|(refine GT ?_ ?_<;>intro hg<;>clear hA a<;>intro a hA<;>(first|exact FA|replace hg:=dTr hg|replace hg:=dFa hg|skip))|(refine QT ?_;clear hA a;intro a hA)|(first|(refine BT ?_;clear hA hH;rintro _ w ⟨bN,rfl,hH⟩ a hA)|(refine LT ?_;clear hA hH;rintro _ w ⟨oN,rfl,hH⟩ a hA)|(refine AT ?_;clear hA;rintro _ w ⟨oN,cN,rfl,hH2⟩ a hA;clear hH;have hH:=(hH2 _ (by (repeat constructor))).tail;clear hH2)|(refine S0T ?_;clear hH;rintro _ w hH)))|refine CT ?_|(refine DT ?_ ?_<;>intro hc<;>try (exfalso;omega))|(first|(refine DSK ?_;clear hA a;intro a hA)|(first|(refine DLT ?_;clear hA hH;rintro _ w ⟨oN,rfl,hH⟩;refine ⟨STT,?_⟩;intro a hA)|(refine DAT ?_;clear hA;rintro _ w ⟨oN,cN,rfl,hH2⟩;clear hH;have hH:=(hH2 _ (by (repeat constructor))).tail;clear hH2;refine ⟨STT,?_⟩;intro a hA))))
  obtain ⟨J,hJ⟩:∃J,J=joins f.cs.l f.cs.l.length:=⟨_,rfl⟩
  obtain ⟨Pl,hP⟩:∃Pl,Pl=places f.cs.l f.cs.l.length:=⟨_,rfl⟩
  have hJl:J.length≤1048576:=by rw [hJ];exact Nat.le_trans (joins_len _ _) hle
  have hPl:Pl.length=f.cs.l.length:=by rw [hP];exact places_len _ _
  rw [←hJ] at hA hH
  rw [←hP] at hH
  refine wp_lpk (S:=Nat) (fun n a w=>n≤f.cs.l.length∧HS w0 noM [own 3 1 oP f.cs.l.length cP (flat Fw.encI Pl),own 3 1 oJ J.length cJ (flat Fw.encI J),cb bF 24 (encF f)] w∧Sl 68 [(1,.pointer (some (bat bF 0))),(3,.slice oJ J.length cJ),(4,.slice oP f.cs.l.length cP),(5,.int .i64 (joins f.cs.l n).length),(6,.int .i64 (nexts f.cs.l n)),(28,.int .i64 f.cs.l.length),(29,.int .i64 n)] a) (fun n=>f.cs.l.length - n)
    (fun a w=>Kp w0 noM w∧Sl 68 [(3,.slice oJ J.length cJ),(5,.int .i64 J.length)] a) 0 ⟨Nat.zero_le _,hH,by unfold joins nexts;exact (hA.sub SBT)⟩ ?_ ?_
  · clear hA hH
    rintro n a w ⟨hn,hH,hA⟩
    by_cases hlt:n<f.cs.l.length
    rotate_left
    · obtain rfl:n=f.cs.l.length:=by omega
      rw [←hJ] at hA
      repeat' (first|(first|(refine GT ?_ ?_<;>intro hg<;>clear hA a<;>intro a hA<;>(first|exact FA|replace hg:=dTr hg|replace hg:=dFa hg|skip))|(refine QT ?_;clear hA a;intro a hA)|(first|(refine BT ?_;clear hA hH;rintro _ w ⟨bN,rfl,hH⟩ a hA)|(refine LT ?_;clear hA hH;rintro _ w ⟨oN,rfl,hH⟩ a hA)|(refine AT ?_;clear hA;rintro _ w ⟨oN,cN,rfl,hH2⟩ a hA;clear hH;have hH:=(hH2 _ (by (repeat constructor))).tail;clear hH2)|(refine S0T ?_;clear hH;rintro _ w hH)))|refine CT ?_|(refine DT ?_ ?_<;>intro hc<;>try (exfalso;omega))|(first|(refine DSK ?_;clear hA a;intro a hA)|(first|(refine DLT ?_;clear hA hH;rintro _ w ⟨oN,rfl,hH⟩;refine ⟨STT,?_⟩;intro a hA)|(refine DAT ?_;clear hA;rintro _ w ⟨oN,cN,rfl,hH2⟩;clear hH;have hH:=(hH2 _ (by (repeat constructor))).tail;clear hH2;refine ⟨STT,?_⟩;intro a hA))))
      exact ⟨hH.kp,(hA.sub SBT)⟩
    have hjs:=joins_s f.cs.l n
    have hjn:(joins f.cs.l (n+1)).length≤J.length:=by rw [hJ];exact joins_le _ hlt
    have hns:=nexts_s2 f.cs.l n
    have hnl:=nexts_le f.cs.l n
    have hpg:=places_get f.cs.l n f.cs.l.length hlt
    rw [←hP] at hpg
    have hRP:=hH.own_rd (.head _)
    have hRJ:=hH.own_rd (.tail _ (.head _))
    have hspP:Sp oP f.cs.l.length:=hRP.sp (sz:=1) (by rw [flat_length Fw.encI_len,hPl]) (by omega)
    have hspJ:Sp oJ J.length:=hRJ.sp (sz:=1) (flat_length Fw.encI_len _) (by omega)
    have hpv:(flat Fw.encI Pl)[n*1]?=some (.int .i64 (if behind f.cs.l n then -1 else (nexts f.cs.l n:Int))):=flat_get (off:=0) Fw.encI_len hpg rfl
    repeat' (first|(first|(refine GT ?_ ?_<;>intro hg<;>clear hA a<;>intro a hA<;>(first|exact FA|replace hg:=dTr hg|replace hg:=dFa hg|skip))|(refine QT ?_;clear hA a;intro a hA)|(first|(refine BT ?_;clear hA hH;rintro _ w ⟨bN,rfl,hH⟩ a hA)|(refine LT ?_;clear hA hH;rintro _ w ⟨oN,rfl,hH⟩ a hA)|(refine AT ?_;clear hA;rintro _ w ⟨oN,cN,rfl,hH2⟩ a hA;clear hH;have hH:=(hH2 _ (by (repeat constructor))).tail;clear hH2)|(refine S0T ?_;clear hH;rintro _ w hH)))|refine CT ?_|(refine DT ?_ ?_<;>intro hc<;>try (exfalso;omega))|(first|(refine DSK ?_;clear hA a;intro a hA)|(first|(refine DLT ?_;clear hA hH;rintro _ w ⟨oN,rfl,hH⟩;refine ⟨STT,?_⟩;intro a hA)|(refine DAT ?_;clear hA;rintro _ w ⟨oN,cN,rfl,hH2⟩;clear hH;have hH:=(hH2 _ (by (repeat constructor))).tail;clear hH2;refine ⟨STT,?_⟩;intro a hA))))
    (refine st_op hA rfl rfl (by decide) (op_call rfl rfl rfl (isj_spec _ f n hlt (hR.keep hH.kp))) ?_;clear hA;rintro _ w ⟨rfl,hk⟩ a hA;replace hH:=hH.keep hk;clear hk)
    refine st_join (fun a w=>HS w0 noM [own 3 1 oP f.cs.l.length cP (flat Fw.encI Pl),own 3 1 oJ J.length cJ (flat Fw.encI J),cb bF 24 (encF f)] w∧Sl 68 [(1,.pointer (some (bat bF 0))),(3,.slice oJ J.length cJ),(4,.slice oP f.cs.l.length cP),(5,.int .i64 (joins f.cs.l (n+1)).length),(6,.int .i64 (nexts f.cs.l n)),(28,.int .i64 f.cs.l.length),(29,.int .i64 n),(7,.int .i64 n)] a) ?_ ?_
    · cases hJn:isJ f.cs.l n with
      | false=>
        rw [hJn] at hA hjs
        simp only [Bool.false_eq_true,if_false] at hjs
        repeat' (first|(first|(refine GT ?_ ?_<;>intro hg<;>clear hA a<;>intro a hA<;>(first|exact FA|replace hg:=dTr hg|replace hg:=dFa hg|skip))|(refine QT ?_;clear hA a;intro a hA)|(first|(refine BT ?_;clear hA hH;rintro _ w ⟨bN,rfl,hH⟩ a hA)|(refine LT ?_;clear hA hH;rintro _ w ⟨oN,rfl,hH⟩ a hA)|(refine AT ?_;clear hA;rintro _ w ⟨oN,cN,rfl,hH2⟩ a hA;clear hH;have hH:=(hH2 _ (by (repeat constructor))).tail;clear hH2)|(refine S0T ?_;clear hH;rintro _ w hH)))|refine CT ?_|(refine DT ?_ ?_<;>intro hc<;>try (exfalso;omega))|(first|(refine DSK ?_;clear hA a;intro a hA)|(first|(refine DLT ?_;clear hA hH;rintro _ w ⟨oN,rfl,hH⟩;refine ⟨STT,?_⟩;intro a hA)|(refine DAT ?_;clear hA;rintro _ w ⟨oN,cN,rfl,hH2⟩;clear hH;have hH:=(hH2 _ (by (repeat constructor))).tail;clear hH2;refine ⟨STT,?_⟩;intro a hA))))
        rw [hjs]
        exact ⟨hH,(hA.sub SBT)⟩
      | true=>
        rw [hJn] at hA hjs
        simp only [if_true] at hjs
        have hjg:=joins_get hlt hJn
        rw [←hJ] at hjg
        have hjv:(flat Fw.encI J)[(joins f.cs.l n).length*1]?=some (.int .i64 n):=flat_get (off:=0) Fw.encI_len hjg rfl
        repeat' (first|(first|(refine GT ?_ ?_<;>intro hg<;>clear hA a<;>intro a hA<;>(first|exact FA|replace hg:=dTr hg|replace hg:=dFa hg|skip))|(refine XT ?_;apply XE;(first|(apply ex_load;rfl;exact cl_rd (hH.own_rd (.tail _ (.head _))) id hjv));clear hA a;intro a hA)|(refine QT ?_;clear hA a;intro a hA)|(first|(refine BT ?_;clear hA hH;rintro _ w ⟨bN,rfl,hH⟩ a hA)|(refine LT ?_;clear hA hH;rintro _ w ⟨oN,rfl,hH⟩ a hA)|(refine AT ?_;clear hA;rintro _ w ⟨oN,cN,rfl,hH2⟩ a hA;clear hH;have hH:=(hH2 _ (by (repeat constructor))).tail;clear hH2)|(refine S0T ?_;clear hH;rintro _ w hH)))|refine CT ?_|(refine DT ?_ ?_<;>intro hc<;>try (exfalso;omega))|(first|(refine DSK ?_;clear hA a;intro a hA)|(first|(refine DLT ?_;clear hA hH;rintro _ w ⟨oN,rfl,hH⟩;refine ⟨STT,?_⟩;intro a hA)|(refine DAT ?_;clear hA;rintro _ w ⟨oN,cN,rfl,hH2⟩;clear hH;have hH:=(hH2 _ (by (repeat constructor))).tail;clear hH2;refine ⟨STT,?_⟩;intro a hA))))
        rw [hjs]
        exact ⟨hH,(hA.sub SBT)⟩
    clear hA hH
    rintro a w ⟨hH,hA⟩
    repeat' (first|(first|(refine GT ?_ ?_<;>intro hg<;>clear hA a<;>intro a hA<;>(first|exact FA|replace hg:=dTr hg|replace hg:=dFa hg|skip))|(refine QT ?_;clear hA a;intro a hA)|(first|(refine BT ?_;clear hA hH;rintro _ w ⟨bN,rfl,hH⟩ a hA)|(refine LT ?_;clear hA hH;rintro _ w ⟨oN,rfl,hH⟩ a hA)|(refine AT ?_;clear hA;rintro _ w ⟨oN,cN,rfl,hH2⟩ a hA;clear hH;have hH:=(hH2 _ (by (repeat constructor))).tail;clear hH2)|(refine S0T ?_;clear hH;rintro _ w hH)))|refine CT ?_|(refine DT ?_ ?_<;>intro hc<;>try (exfalso;omega))|(first|(refine DSK ?_;clear hA a;intro a hA)|(first|(refine DLT ?_;clear hA hH;rintro _ w ⟨oN,rfl,hH⟩;refine ⟨STT,?_⟩;intro a hA)|(refine DAT ?_;clear hA;rintro _ w ⟨oN,cN,rfl,hH2⟩;clear hH;have hH:=(hH2 _ (by (repeat constructor))).tail;clear hH2;refine ⟨STT,?_⟩;intro a hA))))
    (refine st_op hA rfl rfl (by decide) (op_call rfl rfl rfl (isjm_spec _ f n hlt (hR.keep hH.kp))) ?_;clear hA;rintro _ w ⟨rfl,hk⟩ a hA;replace hH:=hH.keep hk;clear hk)
    cases hb:behind f.cs.l n with
    | false=>
      rw [hb] at hA hpv hns
      simp only [Bool.false_eq_true,if_false] at hpv hns
      repeat' (first|(first|(refine GT ?_ ?_<;>intro hg<;>clear hA a<;>intro a hA<;>(first|exact FA|replace hg:=dTr hg|replace hg:=dFa hg|skip))|(refine XT ?_;apply XE;(first|(apply ex_load;rfl;exact cl_rd (hH.own_rd (.head _)) id hpv));clear hA a;intro a hA)|(refine QT ?_;clear hA a;intro a hA)|(first|(refine BT ?_;clear hA hH;rintro _ w ⟨bN,rfl,hH⟩ a hA)|(refine LT ?_;clear hA hH;rintro _ w ⟨oN,rfl,hH⟩ a hA)|(refine AT ?_;clear hA;rintro _ w ⟨oN,cN,rfl,hH2⟩ a hA;clear hH;have hH:=(hH2 _ (by (repeat constructor))).tail;clear hH2)|(refine S0T ?_;clear hH;rintro _ w hH)))|refine CT ?_|(refine DT ?_ ?_<;>intro hc<;>try (exfalso;omega))|(first|(refine DSK ?_;clear hA a;intro a hA)|(first|(refine DLT ?_;clear hA hH;rintro _ w ⟨oN,rfl,hH⟩;refine ⟨STT,?_⟩;intro a hA)|(refine DAT ?_;clear hA;rintro _ w ⟨oN,cN,rfl,hH2⟩;clear hH;have hH:=(hH2 _ (by (repeat constructor))).tail;clear hH2;refine ⟨STT,?_⟩;intro a hA))))
      exact ⟨n+1,⟨hlt,hH,by rw [hns];exact (hA.sub SBT)⟩,by omega⟩
    | true=>
      rw [hb] at hA hpv hns
      simp only [if_true] at hpv hns
      repeat' (first|(first|(refine GT ?_ ?_<;>intro hg<;>clear hA a<;>intro a hA<;>(first|exact FA|replace hg:=dTr hg|replace hg:=dFa hg|skip))|(refine XT ?_;apply XE;(first|(apply ex_load;rfl;exact cl_rd (hH.own_rd (.head _)) id hpv));clear hA a;intro a hA)|(refine QT ?_;clear hA a;intro a hA)|(first|(refine BT ?_;clear hA hH;rintro _ w ⟨bN,rfl,hH⟩ a hA)|(refine LT ?_;clear hA hH;rintro _ w ⟨oN,rfl,hH⟩ a hA)|(refine AT ?_;clear hA;rintro _ w ⟨oN,cN,rfl,hH2⟩ a hA;clear hH;have hH:=(hH2 _ (by (repeat constructor))).tail;clear hH2)|(refine S0T ?_;clear hH;rintro _ w hH)))|refine CT ?_|(refine DT ?_ ?_<;>intro hc<;>try (exfalso;omega))|(first|(refine DSK ?_;clear hA a;intro a hA)|(first|(refine DLT ?_;clear hA hH;rintro _ w ⟨oN,rfl,hH⟩;refine ⟨STT,?_⟩;intro a hA)|(refine DAT ?_;clear hA;rintro _ w ⟨oN,cN,rfl,hH2⟩;clear hH;have hH:=(hH2 _ (by (repeat constructor))).tail;clear hH2;refine ⟨STT,?_⟩;intro a hA))))
      exact ⟨n+1,⟨hlt,hH,by rw [hns];exact (hA.sub SBT)⟩,by omega⟩
  clear hA hH
  rintro a w ⟨hk,hA⟩
  have hH:HS w0 noM [] w:=(HS.init w0 noM).keep hk
  repeat' (first|(first|(refine GT ?_ ?_<;>intro hg<;>clear hA a<;>intro a hA<;>(first|exact FA|replace hg:=dTr hg|replace hg:=dFa hg|skip))|(refine QT ?_;clear hA a;intro a hA)|(first|(refine BT ?_;clear hA hH;rintro _ w ⟨bN,rfl,hH⟩ a hA)|(refine LT ?_;clear hA hH;rintro _ w ⟨oN,rfl,hH⟩ a hA)|(refine AT ?_;clear hA;rintro _ w ⟨oN,cN,rfl,hH2⟩ a hA;clear hH;have hH:=(hH2 _ (by (repeat constructor))).tail;clear hH2)|(refine S0T ?_;clear hH;rintro _ w hH)))|refine CT ?_|(refine DT ?_ ?_<;>intro hc<;>try (exfalso;omega))|(first|(refine DSK ?_;clear hA a;intro a hA)|(first|(refine DLT ?_;clear hA hH;rintro _ w ⟨oN,rfl,hH⟩;refine ⟨STT,?_⟩;intro a hA)|(refine DAT ?_;clear hA;rintro _ w ⟨oN,cN,rfl,hH2⟩;clear hH;have hH:=(hH2 _ (by (repeat constructor))).tail;clear hH2;refine ⟨STT,?_⟩;intro a hA))))
  exact rt1 (.inl rfl) rfl hA rfl ⟨by rw [decide_eq_true rfl],hH.kp⟩
end
end Go.Proofs.YtbapejgbjpcadaaGreatDoor
namespace Go.Xc
open Go Go.RowKit Go.Fw
set_option linter.unusedVariables false
inductive Cp where
  |K (n:Nat)
  |U (d:Nat)
inductive LV where
  |B (x:Bool)
  |I (k:IntKind) (n:Int)
  |S (x:List UInt8)
  |P (b o:Nat)
  |G (b o:Nat)
  |P0
  |L (b o n:Nat) (c:Cp)
  |L0
  |Z (b o p d:Nat)
  |M (b:Nat)
  |M0
  |F (fn:Fn) (x y:List LV)
  |F0
  |C (t:TypeId) (v:LV)
  |C0
  |A (l:List LV)
  |T (l:List LV)
structure En where
  ρ:Nat→Nat
  κ:Nat→Nat
def Cp.val (e:En) (b:Nat):Cp→Nat
  | .K n=>n
  | .U d=>e.κ b - d
mutual
def LV.val (e:En):LV→Value
  | .B x=>.bool x
  | .I k n=>.int k n
  | .S x=>.string ⟨x.toArray⟩
  | .P b o=>.pointer (some ⟨e.ρ b,o,none⟩)
  | .G b o=>.pointer (some ⟨b,o,none⟩)
  | .P0=>.pointer none
  | .L b o n c=>.slice (some ⟨e.ρ b,o,none⟩) n (c.val e b)
  | .L0=>.slice none 0 0
  | .Z b o p d=>.slice (some ⟨e.ρ b,if e.κ b=d then o else p,none⟩) 0 (e.κ b - d)
  | .M b=>.map (some (e.ρ b))
  | .M0=>.map none
  | .F fn x y=>.func fn (LV.vals e x).toArray (LV.vals e y).toArray
  | .F0=>.nilFunc
  | .C t v=>.iface t (v.val e)
  | .C0=>.nilIface
  | .A l=>.agg (LV.vals e l).toArray
  | .T l=>.tuple (LV.vals e l).toArray
def LV.vals (e:En):List LV→List Value
  | []=>[]
  |x::l=>x.val e::LV.vals e l
end
mutual
def LV.bd (n:Nat):LV→Prop
  | .P b _=>b<n
  | .L b _ _ _=>b<n
  | .Z b _ _ _=>b<n
  | .M b=>b<n
  | .F _ x y=>LV.bds n x∧LV.bds n y
  | .C _ v=>v.bd n
  | .A l=>LV.bds n l
  | .T l=>LV.bds n l
  | .B _| .I _ _| .S _| .G _ _| .P0| .L0| .M0| .F0| .C0=>True
def LV.bds (n:Nat):List LV→Prop
  | []=>True
  |x::l=>x.bd n∧LV.bds n l
end
theorem vals_map (e:En):∀l:List LV,LV.vals e l=l.map (LV.val e)
  | []=>rfl
  |x::l=>by rw [LV.vals,vals_map e l];rfl
theorem bds_iff {n:Nat}:∀{l:List LV},LV.bds n l↔∀x∈l,x.bd n
  | []=>⟨fun _ x h=>absurd h List.not_mem_nil,fun _=>by simp only [LV.bds]⟩
  | x::l=>by
    rw [LV.bds,bds_iff]
    exact ⟨fun h y hy=>(List.mem_cons.1 hy).elim (fun e=>e▸h.1) (h.2 y),fun h=>⟨h x (.head _),fun y hy=>h y (.tail _ hy)⟩⟩
structure Ag (n:Nat) (e e':En):Prop where
  ρ:∀i,i<n→e'.ρ i=e.ρ i
  κ:∀i,i<n→e'.κ i=e.κ i
theorem Ag.refl (n:Nat) (e:En):Ag n e e:=⟨fun _ _=>rfl,fun _ _=>rfl⟩
theorem Ag.trans {n m:Nat} {a b c:En} (h:Ag n a b) (h':Ag m b c) (hn:n≤m):Ag n a c:=
  ⟨fun i hi=>(h'.ρ i (Nat.lt_of_lt_of_le hi hn)).trans (h.ρ i hi),fun i hi=>(h'.κ i (Nat.lt_of_lt_of_le hi hn)).trans (h.κ i hi)⟩
mutual
theorem LV.val_ag {n:Nat} {e e':En} (h:Ag n e e'):∀v:LV,v.bd n→v.val e'=v.val e
  | .B _,_| .I _ _,_| .S _,_| .G _ _,_| .P0,_| .L0,_| .M0,_| .F0,_| .C0,_=>by simp only [LV.val]
  | .P b o,hb=>by rw [LV.bd] at hb;simp only [LV.val,h.ρ b hb]
  | .L b o k c,hb=>by
    rw [LV.bd] at hb
    simp only [LV.val,h.ρ b hb]
    cases c<;>simp only [Cp.val,h.κ b hb]
  | .Z b o p d,hb=>by rw [LV.bd] at hb;simp only [LV.val,h.ρ b hb,h.κ b hb]
  | .M b,hb=>by rw [LV.bd] at hb;simp only [LV.val,h.ρ b hb]
  | .F fn x y,hb=>by rw [LV.bd] at hb;simp only [LV.val,LV.vals_ag h x hb.1,LV.vals_ag h y hb.2]
  | .C t v,hb=>by rw [LV.bd] at hb;simp only [LV.val,LV.val_ag h v hb]
  | .A l,hb=>by rw [LV.bd] at hb;simp only [LV.val,LV.vals_ag h l hb]
  | .T l,hb=>by rw [LV.bd] at hb;simp only [LV.val,LV.vals_ag h l hb]
theorem LV.vals_ag {n:Nat} {e e':En} (h:Ag n e e'):∀l:List LV,LV.bds n l→LV.vals e' l=LV.vals e l
  | [],_=>rfl
  |x::l,hb=>by rw [LV.bds] at hb;simp only [LV.vals,LV.val_ag h x hb.1,LV.vals_ag h l hb.2]
end
mutual
theorem LV.bd_mono {n m:Nat} (h:n≤m):∀v:LV,v.bd n→v.bd m
  | .B _,_| .I _ _,_| .S _,_| .G _ _,_| .P0,_| .L0,_| .M0,_| .F0,_| .C0,_=>by simp only [LV.bd]
  | .P b o,hb=>by rw [LV.bd] at hb ⊢;omega
  | .L b o k c,hb=>by rw [LV.bd] at hb ⊢;omega
  | .Z b o p d,hb=>by rw [LV.bd] at hb ⊢;omega
  | .M b,hb=>by rw [LV.bd] at hb ⊢;omega
  | .F fn x y,hb=>by rw [LV.bd] at hb ⊢;exact ⟨LV.bds_mono h x hb.1,LV.bds_mono h y hb.2⟩
  | .C t v,hb=>by rw [LV.bd] at hb ⊢;exact LV.bd_mono h v hb
  | .A l,hb=>by rw [LV.bd] at hb ⊢;exact LV.bds_mono h l hb
  | .T l,hb=>by rw [LV.bd] at hb ⊢;exact LV.bds_mono h l hb
theorem LV.bds_mono {n m:Nat} (h:n≤m):∀l:List LV,LV.bds n l→LV.bds m l
  | [],_=>by simp only [LV.bds]
  |x::l,hb=>by rw [LV.bds] at hb ⊢;exact ⟨LV.bd_mono h x hb.1,LV.bds_mono h l hb.2⟩
end
inductive Tr (α:Type) where
  |e
  |n (v:Option α) (l r:Tr α)
def Tr.get {α:Type}:Tr α→Nat→Option α
  | .e,_=>none
  | .n v _ _,0=>v
  | .n _ l r,i+1=>bif Nat.beq (i % 2) 0 then l.get (i / 2) else r.get (i / 2)
def Tr.set {α:Type}:Nat→Tr α→Nat→Option α→Tr α
  |0,t,_,_=>t
  |_+1,.e,0,v=>.n v .e .e
  |d+1,.e,i+1,v=>bif Nat.beq (i % 2) 0 then .n none (Tr.set d .e (i / 2) v) .e else .n none .e (Tr.set d .e (i / 2) v)
  |_+1,.n _ l r,0,v=>.n v l r
  |d+1,.n u l r,i+1,v=>bif Nat.beq (i % 2) 0 then .n u (Tr.set d l (i / 2) v) r else .n u l (Tr.set d r (i / 2) v)
theorem beq_mod (i:Nat):Nat.beq (i % 2) 0=decide (i % 2=0):=by
  by_cases h:i % 2=0
  · rw [h];rfl
  · rw [decide_eq_false h]
    cases hb:Nat.beq (i % 2) 0 with
    |false=>rfl
    |true=>exact absurd (Nat.eq_of_beq_eq_true hb) h
theorem Tr.get_succ {α:Type} (v:Option α) (l r:Tr α) (i:Nat):(Tr.n v l r).get (i+1)=bif Nat.beq (i % 2) 0 then l.get (i / 2) else r.get (i / 2):=rfl
theorem Tr.get_set {α:Type}:∀(d:Nat) (t:Tr α) (i j:Nat) (v:Option α),i+1<2 ^ d→(t.set d i v).get j=if j=i then v else t.get j
  |0,t,i,j,v,h=>by simp at h
  | d+1,.e,0,j,v,h=>by
    rw [Tr.set]
    cases j with
    |zero=>simp [Tr.get]
    |succ j=>simp [Tr.get]
  | d+1,.n u l r,0,j,v,h=>by
    rw [Tr.set]
    cases j with
    |zero=>simp [Tr.get]
    |succ j=>simp [Tr.get]
  | d + 1,.e,i+1,j,v,h=>by
    have hi:i / 2+1<2 ^ d:=by rw [Nat.pow_succ] at h;omega
    rw [Tr.set,beq_mod]
    by_cases hp:i % 2=0
    · rw [decide_eq_true hp,cond_true]
      cases j with
      |zero=>simp [Tr.get]
      | succ j=>
        rw [Tr.get_succ,beq_mod]
        by_cases hq:j % 2=0
        · rw [decide_eq_true hq,cond_true,Tr.get_set d _ _ _ _ hi]
          by_cases e:j=i
          · subst e;simp
          · rw [if_neg (by omega),if_neg (by omega)];simp [Tr.get]
        · rw [decide_eq_false hq,cond_false,if_neg (by omega)];simp [Tr.get]
    · rw [decide_eq_false hp,cond_false]
      cases j with
      |zero=>simp [Tr.get]
      | succ j=>
        rw [Tr.get_succ,beq_mod]
        by_cases hq:j % 2=0
        · rw [decide_eq_true hq,cond_true,if_neg (by omega)];simp [Tr.get]
        · rw [decide_eq_false hq,cond_false,Tr.get_set d _ _ _ _ hi]
          by_cases e:j=i
          · subst e;simp
          · rw [if_neg (by omega),if_neg (by omega)];simp [Tr.get]
  | d + 1,.n u l r,i+1,j,v,h=>by
    have hi:i / 2+1<2 ^ d:=by rw [Nat.pow_succ] at h;omega
    rw [Tr.set,beq_mod]
    by_cases hp:i % 2=0
    · rw [decide_eq_true hp,cond_true]
      cases j with
      |zero=>simp [Tr.get]
      | succ j=>
        rw [Tr.get_succ,Tr.get_succ,beq_mod]
        by_cases hq:j % 2=0
        · rw [decide_eq_true hq,cond_true,cond_true,Tr.get_set d _ _ _ _ hi]
          by_cases e:j=i
          · subst e;simp
          · rw [if_neg (by omega),if_neg (by omega)]
        · rw [decide_eq_false hq,cond_false,cond_false,if_neg (by omega)]
    · rw [decide_eq_false hp,cond_false]
      cases j with
      |zero=>simp [Tr.get]
      | succ j=>
        rw [Tr.get_succ,Tr.get_succ,beq_mod]
        by_cases hq:j % 2=0
        · rw [decide_eq_true hq,cond_true,cond_true,if_neg (by omega)]
        · rw [decide_eq_false hq,cond_false,cond_false,Tr.get_set d _ _ _ _ hi]
          by_cases e:j=i
          · subst e;simp
          · rw [if_neg (by omega),if_neg (by omega)]
def top:Nat:=1048576
theorem Tr.get_put {α:Type} (t:Tr α) {i:Nat} (j:Nat) (v:Option α) (h:i<top):(t.set 21 i v).get j=if j=i then v else t.get j:=
  t.get_set 21 i j v (by unfold top at h;omega)
inductive LB where
  |C (T:TypeId) (cs:List LV)
  |G (T sz:Nat) (cs:List LV)
  |W (T:Nat) (cs:List LV)
  |M (es:List (LV × LV × Nat)) (clock:Nat)
  |N (es:List (LV × LV))
  |S (s:List UInt8) (pos:Nat)
  |R (m:Option Nat) (since:Nat) (seen:List Nat) (last:Nat)
def LB.bd (n:Nat):LB→Prop
  | .C _ cs=>LV.bds n cs
  | .G _ _ cs=>LV.bds n cs
  | .W _ cs=>LV.bds n cs
  | .M es _=>∀x∈es,x.1.bd n∧x.2.1.bd n
  | .N es=>∀x∈es,x.1.bd n∧x.2.bd n
  | .S _ _=>True
  | .R m _ _ _=>∀b,m=some b→b<n
def ent (e:En) (x:LV × LV × Nat):MapEntry:=⟨x.1.val e,x.2.1.val e,x.2.2⟩
def LB.sat (e:En) (w:World) (i:Nat):LB→Prop
  | .C T cs=>w.heap[e.ρ i]?=some (.cells (LV.vals e cs).toArray T (0,0))
  | .G T sz cs=>∃sp,w.heap[e.ρ i]?=some (.cells (LV.vals e cs++sp).toArray T (0,0))∧(LV.vals e cs).length+sp.length=e.κ i*sz∧e.κ i≤maxLen∧∃k,cs.length=k*sz∧k≤e.κ i
  | .W T cs=>∃sp fr,w.heap[e.ρ i]?=some (.cells (LV.vals e cs++sp).toArray T fr)∧cs.length≤e.κ i
  | .M es clock=>w.heap[e.ρ i]?=some (.map (es.map (ent e)).toArray clock)
  | .N es=>∃ents clock,w.heap[e.ρ i]?=some (.map ents clock)∧(ents.toList.map (fun x=>(x.key,x.val))).Perm (es.map (fun x=>(x.1.val e,x.2.val e)))
  | .S s pos=>w.heap[e.ρ i]?=some (.stringIter ⟨s.toArray⟩ pos)
  | .R m since seen last=>w.heap[e.ρ i]?=some (.mapIter (m.map e.ρ) since seen.toArray last)
theorem LB.sat_lt {e:En} {w:World} {i:Nat}:∀{B:LB},B.sat e w i→e.ρ i<w.heap.size
  | .C _ _,h=>lt_of_heap h
  | .G _ _ _,⟨_,h,_⟩=>lt_of_heap h
  | .W _ _,⟨_,_,h,_⟩=>lt_of_heap h
  | .M _ _,h=>lt_of_heap h
  | .N _,⟨_,_,h,_⟩=>lt_of_heap h
  | .S _ _,h=>lt_of_heap h
  | .R _ _ _ _,h=>lt_of_heap h
theorem LB.sat_ag {n:Nat} {e e':En} {w w':World} {i:Nat} (h:Ag n e e') (hi:i<n) (hw:w'.heap[e.ρ i]?=w.heap[e.ρ i]?):∀{B:LB},B.bd n→B.sat e w i→B.sat e' w' i
  | .C T cs,hb,hs=>by
    simp only [LB.sat] at *
    rw [h.ρ i hi,LV.vals_ag h cs hb,hw];exact hs
  | .G T sz cs,hb,hs=>by
    simp only [LB.sat] at *
    obtain ⟨sp,h1,h2⟩:=hs
    exact ⟨sp,by rw [h.ρ i hi,LV.vals_ag h cs hb,hw];exact h1,by rw [LV.vals_ag h cs hb,h.κ i hi];exact h2⟩
  | .W T cs,hb,hs=>by
    simp only [LB.sat] at *
    obtain ⟨sp,fr,h1,h2⟩:=hs
    exact ⟨sp,fr,by rw [h.ρ i hi,LV.vals_ag h cs hb,hw];exact h1,by rw [h.κ i hi];exact h2⟩
  | .M es clock,hb,hs=>by
    simp only [LB.sat] at *
    rw [h.ρ i hi,hw,hs]
    have:es.map (ent e')=es.map (ent e):=List.map_congr_left fun x hx=>by unfold ent;rw [LV.val_ag h _ (hb x hx).1,LV.val_ag h _ (hb x hx).2]
    rw [this]
  | .N es,hb,hs=>by
    simp only [LB.sat] at *
    obtain ⟨ents,clock,h1,h2⟩:=hs
    refine ⟨ents,clock,by rw [h.ρ i hi,hw];exact h1,?_⟩
    rwa [List.map_congr_left (l:=es) (g:=fun x=>(x.1.val e,x.2.val e)) fun x hx=>by rw [LV.val_ag h _ (hb x hx).1,LV.val_ag h _ (hb x hx).2]]
  | .S s pos,hb,hs=>by
    simp only [LB.sat] at *
    rw [h.ρ i hi,hw,hs]
  | .R m since seen last,hb,hs=>by
    simp only [LB.sat] at *
    rw [h.ρ i hi,hw,hs]
    cases m with
    |none=>rfl
    |some b=>rw [Option.map_some,Option.map_some,h.ρ b (hb b rfl)]
structure Gd (e:En) (S:Nat→Prop) (h:Tr LB) (w:World):Prop where
  sat:∀i B,S i→h.get i=some B→B.sat e w i
  inj:∀i j B C,S i→S j→h.get i=some B→h.get j=some C→e.ρ i=e.ρ j→i=j
theorem Gd.sub {e:En} {S S':Nat→Prop} {h:Tr LB} {w:World} (g:Gd e S h w) (hs:∀i,S' i→S i):Gd e S' h w:=
  ⟨fun i B hi=>g.sat i B (hs i hi),fun i j B C hi hj=>g.inj i j B C (hs i hi) (hs j hj)⟩
structure HB (n:Nat) (h:Tr LB):Prop where
  top:n≤top
  get:∀i B,h.get i=some B→i<n∧B.bd n
abbrev bt (m i:Nat):Prop:=m.testBit i=true
structure Dd (h:Tr LB) (n fp wm:Nat) (h':Tr LB) (n':Nat):Prop where
  nn:n≤n'
  hb:HB n h→HB n' h'
  sm:∀i,i<n→¬bt wm i→h'.get i=h.get i
  dom:∀i,i<n→h.get i=none→h'.get i=none
  sub:∀i,i<n→bt wm i→bt fp i
structure Tk (h:Tr LB) (n fp wm:Nat) (h':Tr LB) (n':Nat) (e:En) (w:World) (e':En) (w':World):Prop where
  ag:Ag n e e'
  gd:Gd e' (fun i=>i<n∧bt fp i∨n≤i∧i<n') h' w'
  kp:Kp w (fun b=>∃i,i<n∧bt wm i∧(h.get i).isSome∧e.ρ i=b) w'
  nw:∀i,n≤i→(h'.get i).isSome→w.heap.size≤e'.ρ i∨∃j,j<n∧bt wm j∧(h.get j).isSome∧e.ρ j=e'.ρ i
theorem bt_or (a b i:Nat):bt (a ||| b) i↔bt a i∨bt b i:=by
  unfold bt
  rw [Nat.testBit_or,Bool.or_eq_true]
theorem Dd.refl (h:Tr LB) (n:Nat):Dd h n 0 0 h n:=⟨Nat.le_refl n,fun h=>h,fun _ _ _=>rfl,fun _ _ h=>h,fun i _ hi=>by unfold bt at hi;rw [Nat.zero_testBit] at hi;cases hi⟩
theorem Dd.trans {h h1 h2:Tr LB} {n n1 n2 f1 f2 m1 m2:Nat} (a:Dd h n f1 m1 h1 n1) (b:Dd h1 n1 f2 m2 h2 n2):Dd h n (f1 ||| f2) (m1 ||| m2) h2 n2:=
  ⟨Nat.le_trans a.nn b.nn,fun hh=>b.hb (a.hb hh),fun i hi hm=>by
    have:=fun x=>hm ((bt_or m1 m2 i).2 x)
    rw [b.sm i (Nat.lt_of_lt_of_le hi a.nn) (fun x=>this (.inr x)),a.sm i hi (fun x=>this (.inl x))],
   fun i hi h0=>b.dom i (Nat.lt_of_lt_of_le hi a.nn) (a.dom i hi h0),fun i hi hm=>by
    rcases (bt_or m1 m2 i).1 hm with h1|h1
    · exact (bt_or f1 f2 i).2 (.inl (a.sub i hi h1))
    · exact (bt_or f1 f2 i).2 (.inr (b.sub i (Nat.lt_of_lt_of_le hi a.nn) h1))⟩
theorem Dd.some {h h':Tr LB} {n f m n' i:Nat} {B:LB} (d:Dd h n f m h' n') (hi:i<n) (hg:h'.get i=some B):∃B0,h.get i=some B0:=by
  cases h0:h.get i with
  |some B0=>exact ⟨B0,rfl⟩
  |none=>rw [d.dom i hi h0] at hg;cases hg
theorem Tk.frame {S:Nat→Prop} {h h':Tr LB} {n f m n':Nat} {e e':En} {w w':World} (hB:HB n h) (d:Dd h n f m h' n') (g:Gd e S h w) (hS:∀i,i<n→bt f i→S i) (hn:∀i,S i→i<n) (t:Tk h n f m h' n' e w e' w') :
    Gd e' (fun i=>S i∨n≤i∧i<n') h' w':=by
  have keep:∀i B,S i→¬bt f i→h'.get i=some B→B.sat e' w' i∧h.get i=some B∧e'.ρ i=e.ρ i∧e.ρ i<w.heap.size:=by
    intro i B hi h1f hg
    have hm:¬bt m i:=fun x=>h1f (d.sub i (hn i hi) x)
    have hg0:h.get i=some B:=by rw [←d.sm i (hn i hi) hm];exact hg
    have hs:=g.sat i B hi hg0
    refine ⟨LB.sat_ag t.ag (hn i hi) ?_ (hB.get i B hg0).2 hs,hg0,t.ag.ρ i (hn i hi),LB.sat_lt hs⟩
    refine t.kp.block _ (LB.sat_lt hs) ?_
    rintro ⟨j,hj,hjm,hjs,he⟩
    obtain ⟨C,hC⟩:=Option.isSome_iff_exists.1 hjs
    obtain rfl:j=i:=g.inj j i C B (hS j hj (d.sub j hj hjm)) hi hC hg0 he
    exact hm hjm
  have cls:∀i,(S i∨n≤i∧i<n')→(i<n∧bt f i∨n≤i∧i<n')∨(S i∧¬bt f i):=by
    rintro i (hi|hi)
    · by_cases h1:bt f i
      · exact .inl (.inl ⟨hn i hi,h1⟩)
      · exact .inr ⟨hi,h1⟩
    · exact .inl (.inr hi)
  have mix:∀i j B C,(i<n∧bt f i∨n≤i∧i<n')→S j→¬bt f j→h'.get i=some B→h'.get j=some C→e'.ρ i=e'.ρ j→i=j:=by
    intro i j B C hi hj hjf hg hk he
    obtain ⟨_,k2,k3,k4⟩:=keep j C hj hjf hk
    rcases hi with ⟨hi1,hi2⟩| ⟨hi1,hi2⟩
    · obtain ⟨B0,hg0⟩:=d.some hi1 hg
      exact g.inj i j B0 C (hS i hi1 hi2) hj hg0 k2 (by rw [←t.ag.ρ i hi1,he,k3])
    · rcases t.nw i hi1 (by rw [hg];rfl) with h1| ⟨l,l1,l2,l3,l4⟩
      · rw [he,k3] at h1
        omega
      · obtain ⟨D,hD⟩:=Option.isSome_iff_exists.1 l3
        obtain rfl:l=j:=g.inj l j D C (hS l l1 (d.sub l l1 l2)) hj hD k2 (by rw [l4,he,k3])
        exact absurd (d.sub l l1 l2) hjf
  refine ⟨fun i B hi hg=>?_,fun i j B C hi hj hg hk he=>?_⟩
  · rcases cls i hi with h1| ⟨h1,h2⟩
    · exact t.gd.sat i B h1 hg
    · exact (keep i B h1 h2 hg).1
  · rcases cls i hi with hi1| ⟨hi1,hi2⟩<;>rcases cls j hj with hj1| ⟨hj1,hj2⟩
    · exact t.gd.inj i j B C hi1 hj1 hg hk he
    · exact mix i j B C hi1 hj1 hj2 hg hk he
    · exact (mix j i C B hj1 hi1 hi2 hk hg he.symm).symm
    · obtain ⟨_,k2,k3,k4⟩:=keep i B hi1 hi2 hg
      obtain ⟨_,q2,q3,q4⟩:=keep j C hj1 hj2 hk
      exact g.inj i j B C hi1 hj1 k2 q2 (by rw [←k3,he,q3])
theorem Tk.trans {h h1 h2:Tr LB} {n n1 n2 f1 f2 m1 m2:Nat} {e e1:En} {w w1:World} (hB:HB n h) (a:Dd h n f1 m1 h1 n1) (b:Dd h1 n1 f2 m2 h2 n2)
    (g:Gd e (fun i=>i<n∧bt (f1 ||| f2) i) h w) (t:Tk h n f1 m1 h1 n1 e w e1 w1) :
    Gd e1 (fun i=>i<n1∧bt f2 i) h1 w1∧∀e2 w2,Tk h1 n1 f2 m2 h2 n2 e1 w1 e2 w2→Tk h n (f1 ||| f2) (m1 ||| m2) h2 n2 e w e2 w2:=by
  have all:=t.frame hB a g (fun i hi hf=>⟨hi,(bt_or f1 f2 i).2 (.inl hf)⟩) (fun i hi=>hi.1)
  have up:∀i,i<n1→bt f2 i→(i<n∧bt (f1 ||| f2) i)∨n≤i∧i<n1:=fun i hi hf=>by
    by_cases h1:i<n
    · exact .inl ⟨h1,(bt_or f1 f2 i).2 (.inr hf)⟩
    · exact .inr ⟨by omega,hi⟩
  refine ⟨all.sub fun i hi=>up i hi.1 hi.2,fun e2 w2 t2=>⟨t.ag.trans t2.ag a.nn,(t2.frame (a.hb hB) b all up (fun i hi=>?_)).sub ?_,⟨t2.kp.os.trans t.kp.os,t2.kp.tape.trans t.kp.tape,t2.kp.output.trans t.kp.output,Nat.le_trans t.kp.size t2.kp.size,fun c hc hM=>?_⟩,fun i hi hs=>?_⟩⟩
  · have:=a.nn
    rcases hi with hi|hi
    · omega
    · exact hi.2
  · rintro i (hi|hi)
    · exact .inl (.inl hi)
    · by_cases h1:i<n1
      · exact .inl (.inr ⟨hi.1,h1⟩)
      · exact .inr ⟨by omega,hi.2⟩
  · rw [t2.kp.block c (Nat.lt_of_lt_of_le hc t.kp.size) ?_,t.kp.block c hc ?_]
    · rintro ⟨i,hi,hm,hs,he⟩
      exact hM ⟨i,hi,(bt_or m1 m2 i).2 (.inl hm),hs,he⟩
    · rintro ⟨i,hi,hm,hs,he⟩
      obtain ⟨B,hB1⟩:=Option.isSome_iff_exists.1 hs
      by_cases h1:i<n
      · obtain ⟨B0,hB0⟩:=a.some h1 hB1
        exact hM ⟨i,h1,(bt_or m1 m2 i).2 (.inr hm),by rw [hB0];rfl,by rw [←t.ag.ρ i h1];exact he⟩
      · rcases t.nw i (by omega) hs with h2| ⟨j,j1,j2,j3,j4⟩
        · omega
        · exact hM ⟨j,j1,(bt_or m1 m2 j).2 (.inl j2),j3,j4.trans he⟩
  · obtain ⟨B,hB1⟩:=Option.isSome_iff_exists.1 hs
    have one:∀j,n≤j→(h1.get j).isSome→e1.ρ j=e2.ρ i→w.heap.size≤e2.ρ i∨∃j,j<n∧bt (m1 ||| m2) j∧(h.get j).isSome∧e.ρ j=e2.ρ i:=by
      intro j hj hs1 he
      rcases t.nw j hj hs1 with h2| ⟨l,l1,l2,l3,l4⟩
      · exact .inl (he▸h2)
      · exact .inr ⟨l,l1,(bt_or m1 m2 l).2 (.inl l2),l3,l4.trans he⟩
    by_cases h1:i<n1
    · obtain ⟨B0,hB0⟩:=b.some h1 hB1
      exact one i hi (by rw [hB0];rfl) (t2.ag.ρ i h1).symm
    · rcases t2.nw i (by omega) hs with h2| ⟨j,j1,j2,j3,j4⟩
      · exact .inl (Nat.le_trans t.kp.size h2)
      · by_cases hj:j<n
        · obtain ⟨C,hC⟩:=Option.isSome_iff_exists.1 j3
          obtain ⟨C0,hC0⟩:=a.some hj hC
          exact .inr ⟨j,hj,(bt_or m1 m2 j).2 (.inr j2),by rw [hC0];rfl,by rw [←t.ag.ρ j hj];exact j4⟩
        · exact one j (by omega) j3 j4
theorem bt_zero (i:Nat):¬bt 0 i:=fun h=>by unfold bt at h;rw [Nat.zero_testBit] at h;cases h
theorem Tk.refl {h:Tr LB} {n:Nat} {e:En} {w:World} (hB:HB n h):Tk h n 0 0 h n e w e w:=
  ⟨Ag.refl n e,⟨fun i B hi hg=>by
    rcases hi with ⟨_,hi⟩|hi
    · exact absurd hi (bt_zero i)
    · omega,fun i j B C hi=>by
    rcases hi with ⟨_,hi⟩|hi
    · exact absurd hi (bt_zero i)
    · omega⟩,Kp.refl w _,fun i hi hs=>by
    obtain ⟨B,hg⟩:=Option.isSome_iff_exists.1 hs
    have:=(hB.get i B hg).1
    omega⟩
theorem Tk.look {h:Tr LB} {n f:Nat} {e:En} {w:World} (hB:HB n h) (g:Gd e (fun i=>i<n∧bt f i) h w):Tk h n f 0 h n e w e w:=
  ⟨Ag.refl n e,g.sub (fun i hi=>by
    rcases hi with hi|hi
    · exact hi
    · omega),Kp.refl w _,fun i hi hs=>by
    obtain ⟨B,hg⟩:=Option.isSome_iff_exists.1 hs
    have:=(hB.get i B hg).1
    omega⟩
theorem Dd.look (h:Tr LB) (n f:Nat):Dd h n f 0 h n:=⟨Nat.le_refl n,fun h=>h,fun _ _ _=>rfl,fun _ _ h=>h,fun i _ hi=>absurd hi (bt_zero i)⟩
structure SlT (N:Nat) (e:En) (sl:Tr LV) (a:Act):Prop where
  size:a.tmps.size=N
  get:∀i v,sl.get i=some v→a.tmps[i]?=some (v.val e)
def SB (n:Nat) (sl:Tr LV):Prop:=∀i v,sl.get i=some v→v.bd n
theorem SB.mono {n m:Nat} (h:n≤m) {sl:Tr LV} (hs:SB n sl):SB m sl:=fun i v hi=>LV.bd_mono h v (hs i v hi)
theorem SlT.ag {N n:Nat} {e e':En} {sl:Tr LV} {a:Act} (h:SlT N e sl a) (hb:SB n sl) (ha:Ag n e e'):SlT N e' sl a:=
  ⟨h.size,fun i v hi=>by rw [LV.val_ag ha v (hb i v hi)];exact h.get i v hi⟩
theorem SlT.put {N:Nat} {e:En} {sl:Tr LV} {a:Act} (h:SlT N e sl a) {d:Nat} (hd:d<N) (ht:d<top) (v:LV):SlT N e (sl.set 21 d (some v)) (a.put (some d) (v.val e)):=by
  refine ⟨by simp [Act.put,h.size],fun i u hi=>?_⟩
  rw [Tr.get_put sl i _ ht] at hi
  simp only [Act.put]
  by_cases hdi:i=d
  · rw [if_pos hdi] at hi
    cases hi
    subst hdi
    simp [h.size,hd]
  · rw [if_neg hdi] at hi
    rw [Array.getElem?_setIfInBounds_ne (fun x=>hdi x.symm)]
    exact h.get i u hi
theorem SlT.forget {N:Nat} {e:En} {sl:Tr LV} {a:Act} (h:SlT N e sl a) {d:Nat} (ht:d<top) (u:Value):SlT N e (sl.set 21 d none) (a.put (some d) u):=by
  refine ⟨by simp [Act.put,h.size],fun i v hi=>?_⟩
  rw [Tr.get_put sl i _ ht] at hi
  simp only [Act.put]
  by_cases hdi:i=d
  · rw [if_pos hdi] at hi;cases hi
  · rw [if_neg hdi] at hi
    rw [Array.getElem?_setIfInBounds_ne (fun x=>hdi x.symm)]
    exact h.get i v hi
theorem SB.put {n:Nat} {sl:Tr LV} (h:SB n sl) {d:Nat} (ht:d<top) {v:LV} (hv:v.bd n):SB n (sl.set 21 d (some v)):=fun i u hi=>by
  rw [Tr.get_put sl i _ ht] at hi
  by_cases hdi:i=d
  · rw [if_pos hdi] at hi;cases hi;exact hv
  · rw [if_neg hdi] at hi;exact h i u hi
theorem SB.forget {n:Nat} {sl:Tr LV} (h:SB n sl) {d:Nat} (ht:d<top):SB n (sl.set 21 d none):=fun i u hi=>by
  rw [Tr.get_put sl i _ ht] at hi
  by_cases hdi:i=d
  · rw [if_pos hdi] at hi;cases hi
  · rw [if_neg hdi] at hi;exact h i u hi
def lvC:Value→Option LV
  | .bool b=>some (.B b)
  | .int k n=>some (.I k n)
  | .string s=>some (.S s.data.toList)
  | .pointer none=>some .P0
  | .slice none 0 0=>some .L0
  | .map none=>some .M0
  | .nilFunc=>some .F0
  | .nilIface=>some .C0
  |_=>none
theorem lvC_val {c:Value} {v:LV} {n:Nat} (e:En) (h:lvC c=some v):v.val e=c∧v.bd n:=by
  unfold lvC at h
  split at h
  all_goals first|(cases h;exact ⟨by simp only [LV.val],by simp only [LV.bd]⟩)|(cases h)
def opd (sl:Tr LV):Operand→Option LV
  | .tmp t=>sl.get t
  | .const v=>lvC v
  | .global g=>some (.G g 0)
  | .func f=>some (.F (.func f) [] [])
def opds (sl:Tr LV):List Operand→Option (List LV)
  | []=>some []
  | x::xs=>match opd sl x,opds sl xs with
    |some v,some vs=>some (v::vs)
    |_,_=>none
theorem opd_bd {n:Nat} {sl:Tr LV} (h:SB n sl) {x:Operand} {v:LV} (hx:opd sl x=some v):v.bd n:=by
  cases x with
  |tmp t=>exact h t v hx
  |const c=>exact (lvC_val ⟨id,id⟩ hx).2
  |global g=>cases hx;simp only [LV.bd]
  |func f=>cases hx;simp only [LV.bd,LV.bds,and_self]
theorem opds_bd {n:Nat} {sl:Tr LV} (h:SB n sl):∀{xs:List Operand} {vs:List LV},opds sl xs=some vs→LV.bds n vs
  | [],vs,hx=>by cases hx;simp only [LV.bds]
  | x ::xs,vs,hx=>by
    simp only [opds] at hx
    split at hx
    · rename_i v us h1 h2
      cases hx
      simp only [LV.bds]
      exact ⟨opd_bd h h1,opds_bd h h2⟩
    · cases hx
theorem SlT.ev {N:Nat} {e:En} {sl:Tr LV} {a:Act} (h:SlT N e sl a) {x:Operand} {v:LV} (hx:opd sl x=some v):a.eval x=v.val e:=by
  cases x with
  | tmp t=>
    have:=h.get t v hx
    simp [Act.eval,this,Array.getD_eq_getD_getElem?]
  |const c=>simp only [Act.eval];exact ((lvC_val (n:=0) e hx).1).symm
  |global g=>cases hx;simp only [Act.eval,LV.val]
  |func f=>cases hx;simp only [Act.eval,LV.val,LV.vals]
theorem SlT.evs {N:Nat} {e:En} {sl:Tr LV} {a:Act} (h:SlT N e sl a):∀{xs:List Operand} {vs:List LV},opds sl xs=some vs→xs.map a.eval=LV.vals e vs
  | [],vs,hx=>by cases hx;rfl
  | x ::xs,vs,hx=>by
    simp only [opds] at hx
    split at hx
    · rename_i v us h1 h2
      cases hx
      rw [List.map_cons,LV.vals,h.ev h1,h.evs h2]
    · cases hx
inductive TK where
  |int (k:IntKind)
  |sl (e:Nat)
  |st (fs:List (Nat × Nat))
  |mp (k e:Nat)
  |ar (n e:Nat)
  |str
  |bo
  |pt
  |ifc
  |oth
def TK.code:TK→Nat
  | .int _=>0
  | .sl _=>1
  | .st _=>2
  | .mp _ _=>3
  | .ar _ _=>4
  | .str=>5
  | .bo=>6
  | .pt=>7
  | .ifc=>8
  | .oth=>9
def TK.int?:TK→Option IntKind
  | .int k=>some k
  | .sl _=>none
  | .st _=>none
  | .mp _ _=>none
  | .ar _ _=>none
  | .str=>none
  | .bo=>none
  | .pt=>none
  | .ifc=>none
  | .oth=>none
def TK.sl?:TK→Option Nat
  | .sl e=>some e
  | .int _=>none
  | .st _=>none
  | .mp _ _=>none
  | .ar _ _=>none
  | .str=>none
  | .bo=>none
  | .pt=>none
  | .ifc=>none
  | .oth=>none
def TK.st?:TK→Option (List (Nat × Nat))
  | .st fs=>some fs
  | .int _=>none
  | .sl _=>none
  | .mp _ _=>none
  | .ar _ _=>none
  | .str=>none
  | .bo=>none
  | .pt=>none
  | .ifc=>none
  | .oth=>none
def TK.mp?:TK→Option Nat
  | .mp _ e=>some e
  | .int _=>none
  | .sl _=>none
  | .st _=>none
  | .ar _ _=>none
  | .str=>none
  | .bo=>none
  | .pt=>none
  | .ifc=>none
  | .oth=>none
def TK.mk?:TK→Option Nat
  | .mp k _=>some k
  | .int _=>none
  | .sl _=>none
  | .st _=>none
  | .ar _ _=>none
  | .str=>none
  | .bo=>none
  | .pt=>none
  | .ifc=>none
  | .oth=>none
def TK.ar?:TK→Option (Nat × Nat)
  | .ar n e=>some (n,e)
  | .int _=>none
  | .sl _=>none
  | .st _=>none
  | .mp _ _=>none
  | .str=>none
  | .bo=>none
  | .pt=>none
  | .ifc=>none
  | .oth=>none
theorem TK.int_some {y:TK} {k:IntKind} (h:y.int?=some k):y= .int k:=by cases y<;>simp [TK.int?] at h;rw [h]
theorem TK.sl_some {y:TK} {e:Nat} (h:y.sl?=some e):y= .sl e:=by cases y<;>simp [TK.sl?] at h;rw [h]
theorem TK.st_some {y:TK} {fs:List (Nat × Nat)} (h:y.st?=some fs):y= .st fs:=by cases y<;>simp [TK.st?] at h;rw [h]
theorem TK.ar_some {y:TK} {p:Nat × Nat} (h:y.ar?=some p):y= .ar p.1 p.2:=by cases y<;>simp [TK.ar?] at h;rw [←h]
theorem TK.str_of {y:TK} (h:Nat.beq y.code 5=true):y= .str:=by cases y<;>first|rfl|exact absurd (Nat.eq_of_beq_eq_true h) (by simp only [TK.code];decide)
theorem TK.bo_of {y:TK} (h:Nat.beq y.code 6=true):y= .bo:=by cases y<;>first|rfl|exact absurd (Nat.eq_of_beq_eq_true h) (by simp only [TK.code];decide)
theorem TK.pt_of {y:TK} (h:Nat.beq y.code 7=true):y= .pt:=by cases y<;>first|rfl|exact absurd (Nat.eq_of_beq_eq_true h) (by simp only [TK.code];decide)
theorem TK.ifc_of {y:TK} (h:Nat.beq y.code 8=true):y= .ifc:=by cases y<;>first|rfl|exact absurd (Nat.eq_of_beq_eq_true h) (by simp only [TK.code];decide)
theorem TK.sl_of {y:TK} (h:Nat.beq y.code 1=true):∃e,y= .sl e:=by cases y<;>first|exact ⟨_,rfl⟩|exact absurd (Nat.eq_of_beq_eq_true h) (by simp only [TK.code];decide)
theorem TK.mp_of {y:TK} (h:Nat.beq y.code 3=true):∃k e,y= .mp k e:=by cases y<;>first|exact ⟨_,_,rfl⟩|exact absurd (Nat.eq_of_beq_eq_true h) (by simp only [TK.code];decide)
structure Ty where
  ag:Bool
  zs:List LV
  by_:Nat
  k:TK
def Ty.zero (y:Ty):LV:=match y.ag,y.zs with
  |false,[v]=>v
  |_,l=>.A l
structure TyOk (P:Program) (t:Nat) (y:Ty):Prop where
  inf:∃i,P.info? t=some i∧(∀e,i.zero=some (y.zero.val e))∧i.size=y.zs.length∧i.bytes=y.by_
  zbd:LV.bds 0 y.zs
  one:y.ag=false→∃v,y.zs=[v]∧∀l,v≠.A l
  agg:∃d,P.underlying t=some d∧(match d with| .struct _| .array _ _=>true|_=>false)=y.ag
  k :match y.k with
    | .int k=>P.underlying t=some (.int k)
    | .sl e=>P.underlying t=some (.slice e)
    | .st fs=>(∃s,P.underlying t=some (.struct s)∧s.toList.map (fun f=>(f.type,f.offset))=fs)∧∀p∈fs,∃i,P.info? p.1=some i∧i.size≠0
    | .mp k e=>P.underlying t=some (.map k e)
    | .ar n e=>P.underlying t=some (.array n e)
    | .str=>P.underlying t=some .string
    | .bo=>P.underlying t=some .bool
    | .pt=>P.underlying t=some (.pointer (P.pointee t))
    | .ifc=>∃ms,P.underlying t=some (.interface ms)
    | .oth=>True
end Go.Xc
