/-
  The machine: a step. Conditions: none.
  The machine: an end. Conditions: none.
  The machine (plain): where a step comes to. Conditions: none.
  The machine: how it begins; what comes of graphs. Conditions: none.
  The document's world: numbers, exceptions' numbers, places. Conditions: none.
  The document's operations on numbers. Conditions: none.
  The document's numbers and texts as they are told. Conditions: none.
  The document's result, told. Conditions: none.
  What the document's operations ask of their arguments (plain); how they end. Conditions: none.
-/
import Derived.Test.YtenlcdokaadobaaGreatDoorRowRunsMg6
import Derived.Test.YtenlcdokaadobaaGreatDoorRowRunsMg3
import Derived.Test.YtenlcdokaadobaaGreatDoorRowRunsMg5
set_option maxHeartbeats 64000000
set_option maxRecDepth 10000
namespace Go.Proofs.YtenlcdokaadobaaGreatDoor
open Go Go.Fw
set_option linter.unusedVariables false
theorem SrW.le {w0 w:World} {c d:Cx} {bM:Nat} {g:Grs} {kd fuel:Int} {H:List It} {r:Sr} (hle:c.le d) (hb:d.bd=c.bd) (h:SrW w0 d bM g kd fuel H r w):SrW w0 c bM g kd fuel H r w:=by
  cases r with
  | go m=>
    obtain ⟨e,⟨h1,h2⟩,h3⟩:=h
    exact ⟨e,⟨hle.trans h1,by omega⟩,h3⟩
  |stop k s wd=>exact h
theorem in_3 {g:Grs} {fm:Fm} {i:Ins} {wd:Wd} {sk:List Fm} (h:i.r.k=3):tW g fm i wd sk=rF (zS (xZ g fm i.r.a.l) 0) (zS (xZ g fm i.r.a.l) 1) none wd sk fm:=by unfold tW;rw [if_pos h]
theorem in_14 {g:Grs} {fm:Fm} {i:Ins} {wd:Wd} {sk:List Fm} (h:i.r.k=14):tW g fm i wd sk=(match asFn (zS (xZ g fm i.r.a.l) 0) with
    |some c=>if c.1=i.r.n then rF (zS (xZ g fm i.r.a.l) 0) (zS (xZ g fm i.r.a.l) 1) none wd sk fm else wZ wd
    |none=>wZ wd):=by unfold tW;rw [if_neg (by omega),if_pos h]<;>rfl
theorem in_13 {g:Grs} {fm:Fm} {i:Ins} {wd:Wd} {sk:List Fm} (h:i.r.k=13):tW g fm i wd sk=(match asFn (zS (xZ g fm i.r.a.l) 1) with
    |some h=>rF (zS (xZ g fm i.r.a.l) 0) (.num 0) (some h) wd sk fm
    |none=>wZ wd):=by unfold tW;rw [if_neg (by omega),if_neg (by omega),if_pos h]<;>rfl
theorem in_p {g:Grs} {fm:Fm} {i:Ins} {wd:Wd} {sk:List Fm} (h:i.r.k≠3∧i.r.k≠14∧i.r.k≠13):tW g fm i wd sk=(match yD i.r (xZ g fm i.r.a.l) fm.c.2 wd with
    | .exn s=>vH g (xC g.xs.l s) wd sk
    | .val v wd'=>if isNil v then wZ wd' else .go ⟨wd',sk,{fm with vs:=qD fm.vs i.x v,i:=fm.i+1}⟩):=by unfold tW;rw [if_neg h.1,if_neg h.2.1,if_neg h.2.2]<;>rfl
theorem want2 {g:Grs} {caps:List Int} {mine:Int} {r:Stp} (h:FormP g caps mine r) (hk:r.k=3∨r.k=13∨r.k=14):r.a.l.length=2:=by
  have hw:=h.want
  unfold vO at hw
  rcases hk with e|e|e<;>rw [e] at hw<;>simp at hw<;>omega
theorem sM {g:Grs} {fm:Fm} {l:List Atm}:(xZ g fm l).length=l.length:=by unfold xZ;rw [List.length_map]
theorem RV.isNil {c:Cx} {x:Vl} {v:Value} (h:RV c x v):(isNil x=true∧v= .nilIface)∨(isNil x=false∧∃s u,v= .iface s u):=by
  cases x<;>rw [RV] at h
  · exact .inl ⟨rfl,h⟩
  · exact .inr ⟨rfl,_,_,h.1⟩
  · exact .inr ⟨rfl,_,_,h.1⟩
  · obtain ⟨p,o,k,vs,h1,_⟩:=h;exact .inr ⟨rfl,_,_,h1⟩
  · obtain ⟨p,on,cn,ol,cl,vs,h1,_⟩:=h;exact .inr ⟨rfl,_,_,h1⟩
  · obtain ⟨p,u,h1,_⟩:=h;exact .inr ⟨rfl,_,_,h1⟩
  · obtain ⟨p,h1,_⟩:=h;exact .inr ⟨rfl,_,_,h1⟩
  · obtain ⟨p,h1,_⟩:=h;exact .inr ⟨rfl,_,_,h1⟩
def isExn (s:ByteArray):Prop:=s=uX∨s=rX∨s=pW
theorem texts_exn {op:Int} {l:List Vl} {wd:Wd} {s:ByteArray} (h:wG op l wd= .exn s):isExn s:=by
  unfold wG stk at h
  repeat' split at h
  all_goals first|(cases h;done)|(cases h;exact .inl rfl)|(cases h;exact .inr (.inl rfl))|(cases h;exact .inr (.inr rfl))
theorem arrays_exn {op:Int} {l:List Vl} {wd:Wd} {s:ByteArray} (h:vV op l wd= .exn s):isExn s:=by
  unfold vV stk at h
  repeat' split at h
  all_goals first|(cases h;done)|(cases h;exact .inl rfl)|(cases h;exact .inr (.inl rfl))|(cases h;exact .inr (.inr rfl))
theorem op_exn {op:Int} {l:List Vl} {wd:Wd} {s:ByteArray} (h:opF op l wd= .exn s):isExn s:=by
  unfold opF stk at h
  repeat' split at h
  all_goals first|(cases h;done)|exact texts_exn h|exact arrays_exn h|(cases h;exact .inl rfl)|(cases h;exact .inr (.inl rfl))|(cases h;exact .inr (.inr rfl))
theorem gU {r:Stp} {l cs:List Vl} {wd:Wd} {s:ByteArray} (h:yD r l cs wd= .exn s):isExn s:=by
  by_cases h1:r.k=1
  · rw [pl_1 h1] at h;cases h
  by_cases h2:r.k=2
  · rw [pl_2 h2] at h;exact op_exn h
  by_cases h4:r.k=4
  · rw [pl_4 h4] at h;cases h
  by_cases h5:r.k=5
  · rw [pl_5 h5] at h;cases h
  by_cases h6:r.k=6
  · rw [pl_6 h6] at h;cases h
  by_cases h7:r.k=7
  · rw [pl_7 h7] at h;unfold stk at h;repeat' split at h
    all_goals cases h
  by_cases h8:r.k=8
  · rw [pl_8 h8] at h;unfold stk at h;repeat' split at h
    all_goals cases h
  by_cases h9:r.k=9
  · unfold yD at h;rw [h9] at h;cases h
  by_cases h10:r.k=10
  · rw [pl_10 h10] at h;unfold stk at h;repeat' split at h
    all_goals cases h
  by_cases h11:r.k=11
  · rw [pl_11 h11] at h;unfold stk at h;repeat' split at h
    all_goals cases h
  by_cases h12:r.k=12
  · rw [pl_12 h12] at h;unfold stk at h;repeat' split at h
    all_goals cases h
  unfold yD at h
  rw [if_neg h1,if_neg h2,if_neg h4,if_neg h5,if_neg h6,if_neg h7,if_neg h8,if_neg h9,if_neg h10,if_neg h11,if_neg h12] at h
  cases h
theorem isExn.ne {s:ByteArray} (h:isExn s):(!(s.toList == empS.toList))=true:=by
  rcases h with rfl|rfl|rfl<;>decide +kernel
theorem qJ (x:Ins) (i:Nat) (v:Value) (h:(zX x.r)[i]?=some v):(wV x)[1+i]?=some v:=by
  match i,h with
  |0,h=>exact h
  |1,h=>exact h
  |2,h=>exact h
  |3,h=>exact h
theorem Cls.ex4 {A B C D:Type} {F:A→B→C→D→World→Prop} {p:Addr} {vs:List Value} (h:∀a b c d,Cls (F a b c d) p vs):Cls (fun w=>∃a b c d,F a b c d w) p vs:=fun w ⟨a,b,c,d,hw⟩=>h a b c d w hw
theorem Cl.ex4 {A B C D:Type} {F:A→B→C→D→World→Prop} {p:Addr} {v:Value} (h:∀a b c d,Cl (F a b c d) p v):Cl (fun w=>∃a b c d,F a b c d w) p v:=fun w ⟨a,b,c,d,hw⟩=>h a b c d w hw
theorem idx_iok {l:List ByteArray} {s:ByteArray} (h:l.length≤9223372036854775807):iok (xC l s):=by
  unfold xC
  cases hf:l.findIdx? (fun x=>eqS s x) with
  |none=>exact ⟨by decide,by decide⟩
  | some i=>
    obtain ⟨hi,_⟩:=List.findIdx?_eq_some_iff_getElem.1 hf
    exact ⟨by show (_:Int)≤(i:Int);omega,by show (i:Int)≤_;omega⟩
section
attribute [local irreducible] Code.wp wpList Calls Ex Op1 sat bat blk cb own Go.Fw.mp Go.Fw.mpO Go.Fw.mpI Go.Fw.mpE Go.Fw.itr HS Rd Ret wkD Hp Cl Cls Exit.then Exit.inBlock Exit.noGoto bodyPost Go.Fw.flat wk2 Go.Fw.all Go.Fw.owns wpOp
attribute [local irreducible] sk mpK sko mvO xM opM Go.Fw.mset Go.Fw.mv opK w63 frz obI RV xC vA xX uQ

theorem SrW.drop1 {w0 w:World} {c:Cx} {bM:Nat} {g:Grs} {kd fuel:Int} {H:List It} {x:It} {r:Sr} (h:SrW w0 c bM g kd fuel (x::H) r w):SrW w0 c bM g kd fuel H r w:=by
  cases r with
  | go m=>
    obtain ⟨e,h1,oO,cO,oS,cS,pc,bv,mm,fms,sx,ph,h2,h3⟩:=h
    exact ⟨e,h1,oO,cO,oS,cS,pc,bv,mm,fms,sx,ph,h2.rm 7,h3⟩
  | stop k s wd=>
    obtain ⟨oO,cO,oS,nS,cS,pc,bv,pb,pi,ph,b,h2⟩:=h
    exact ⟨oO,cO,oS,nS,cS,pc,bv,pb,pi,ph,b,h2.rm 3⟩
theorem MEnd.drop1 {w0 w:World} {bM:Nat} {g:Grs} {kd fuel:Int} {H:List It} {x:It} {k:Int} {s:ByteArray} {wd:Wd} (h:MEnd w0 bM g kd fuel (x::H) k s wd w):MEnd w0 bM g kd fuel H k s wd w:=by
  obtain ⟨oO,cO,oS,nS,cS,pc,bv,pb,pi,ph,b,h2⟩:=h
  exact ⟨oO,cO,oS,nS,cS,pc,bv,pb,pi,ph,b,h2.rm 3⟩
theorem ins_spec {w0 w:World} {H:List It} {c:Cx} {bM:Nat} {g:Grs} {kd fuel:Int} {m:Mc} {oO oS ph:Option Addr} {cO cS pc bv:Nat} {mm:List (Int × Value)} {fms:List FmM} {sx:Sx} (hH:HS w0 noM (cb bM 86 (yA g kd m.wd.inp oO m.wd.out.length cO++xA g fuel oS fms.length cS pc bv (xV g m.fm.c.1 m.fm.b) m.fm.i ph none)::own 5 1 oO m.wd.out.length cO (flat zY m.wd.out)::frz w0 c.K::all (sx.map obI)::own 83 5 oS fms.length cS (flat yH fms)::all (fms.map mpF)::mp bv mm::H) w) (hpc:FnR c m.fm.c.1 m.fm.c.2 pc) (hmm:MapR c m.fm.vs mm) (hfs:FsR g c m.sk fms) (hst:StR c sx m.wd.st) (x:Ins) (hR:RdGs w0 g) (hnf:c.nf=g.fs.l.length) (hne:∀f∈g.fs.l,0<f.bs.l.length) (hsz:∀s∈g.ss.l,s.size≤4096) (hxs:∀s∈g.xs.l,s.size≤4611686018427387904) (hfl:m.sk.length≤1000000)
    (hK0:∀w,c.K w→Kp w0 noM w) (mine:Int) (hF:FormP g (g.fs.l.map Gr.caps) mine x.r) (ha:∀a∈x.r.a.l,atW g a) (hRi:RdIn w0 x) (hla:x.r.a.l.length≤1048576) (hbn:x.r.ns.l.length≤c.bd) (hbd:c.bd≤1000000) (hout:m.wd.out.length≤1000000) (hil:m.fm.i≤1000000000000) :
    Ret Tryz.prog 28 #[.pointer (some (bat bM 0)),.agg (wV x).toArray] w (fun r w'=>SrW w0 c bM g kd fuel H (tW g m.fm x m.wd m.sk) w'):=by
  (refine ENT (N:=127) Tryz.func28 Tryz.ntmps28 ?_;intro a hA)
  repeat' (first|(refine QT ?_;clear hA a;intro a hA)|(refine BT ?_;clear hA hH;rintro _ w ⟨bN,rfl,hH⟩ a hA)|refine CT ?_|fail)
  obtain ⟨b3,hb3⟩:∃x,x=bN:=⟨_,rfl⟩
  rw [←hb3] at hA hH
  clear hb3 bN
  (refine zJ hA rfl rfl (by decide) (zE rfl rfl rfl (all_spec w0 w (own 5 1 oO m.wd.out.length cO (flat zY m.wd.out)::frz w0 c.K::all (sx.map obI)::own 83 5 oS fms.length cS (flat yH fms)::all (fms.map mpF)::cb b3 59 (wV x)::H) c bM g kd m.wd.inp oO oS m.wd.out.length cO fms.length cS pc bv fuel m.fm.i _ ph none m.fm mm x.r.a (hH.perm PMT) hmm ha hR.2.2.2.2.2 hsz hRi.2 hla)) ?_;clear hA hH;rintro _ w ⟨oL,cL,vs,rfl,hV0,hH⟩ a hA)
  have hvl:=hV0.len
  rw [sM] at hvl
  have hlc:vs.length≤cL∧cL≤maxLen:=hH.own_le (T:=137) (o:=oL) (by exact MEMT)
  have hle:=c.more (fun w=>Rd w oL vs)
  replace hH:=(hH.perm (H':=own 137 1 oL vs.length cL vs::frz w0 c.K::cb bM 86 (yA g kd m.wd.inp oO m.wd.out.length cO++xA g fuel oS fms.length cS pc bv (xV g m.fm.c.1 m.fm.b) m.fm.i ph none)::own 5 1 oO m.wd.out.length cO (flat zY m.wd.out)::all (sx.map obI)::own 83 5 oS fms.length cS (flat yH fms)::all (fms.map mpF)::mp bv mm::cb b3 59 (wV x)::H) PMT).frz_own
  obtain ⟨c1,hc1⟩:∃c1:Cx,c1={c with K:=fun w=>Rd w oL vs∧c.K w}:=⟨_,rfl⟩
  have hL:∀w,c1.K w→Rd w oL vs:=fun w h=>by rw [hc1] at h;exact h.1
  have hK1:∀w,c1.K w→Kp w0 noM w:=fun w h=>by rw [hc1] at h;exact hK0 w h.2
  have hKe:c1.K=fun w=>Rd w oL vs∧c.K w:=by rw [hc1]
  have hbe:c1.bd=c.bd:=by rw [hc1]
  have hne1:c1.nf=c.nf:=by rw [hc1]
  rw [←hKe] at hH
  replace hH:=hH.perm (H':=cb bM 86 (yA g kd m.wd.inp oO m.wd.out.length cO++xA g fuel oS fms.length cS pc bv (xV g m.fm.c.1 m.fm.b) m.fm.i ph none)::own 5 1 oO m.wd.out.length cO (flat zY m.wd.out)::frz w0 c1.K::all (sx.map obI)::own 83 5 oS fms.length cS (flat yH fms)::all (fms.map mpF)::mp bv mm::cb b3 59 (wV x)::H) PMT
  rw [←hc1] at hle
  have hst1:=hst.more (fun w=>Rd w oL vs)
  rw [←hc1] at hst1
  clear hc1 hKe
  have hV:=RVs.mono hle _ _ hV0
  replace hpc:=hpc.mono hle
  replace hmm:=hmm.mono hle
  replace hfs:=hfs.mono hle
  have hnf1:c1.nf=g.fs.l.length:=by omega
  have hsp:Sp oL vs.length:=(hL w (hH.frz (by exact MEMT))).sp (sz:=1) (by omega) (by omega)
  have hkl:=hF.lo
  have hkh:=hF.hi
  obtain ⟨kk,hkk⟩:∃kk,kk=x.r.k:=⟨_,rfl⟩
  by_cases h3:x.r.k=3
  · have h2:=want2 hF (.inl h3)
    obtain ⟨v0,hv0,hx0⟩:=hV.get0 (i:=0) (by rw [sM];omega)
    obtain ⟨v1,hv1,hx1⟩:=hV.get0 (i:=1) (by rw [sM];omega)
    repeat' (first|(refine QT ?_;clear hA a;intro a hA)|refine CT ?_|(refine DT ?_ ?_<;>intro hc<;>try (exfalso;omega))|fail)
    (refine zN [(0,1),(1,1),(2,1),(3,1),(4,1),(5,1),(6,1)] [7] mixed (by decide +kernel) hH ?_;replace hH:=hH.drew)
    repeat' (first|(refine XT ?_;apply XE;(first|(apply zC;rfl;rfl;decide;omega;exact hsp)|(apply zF;rfl;exact zP MEMT hL hv0)|(apply zF;rfl;exact zP MEMT hL hv1));clear hA a;intro a hA)|(refine QT ?_;clear hA a;intro a hA)|refine CT ?_|fail)
    (refine pZ hA rfl rfl rfl (by decide) (zE rfl rfl rfl (callS (h:=none) (hd:=none) hH hpc hmm hfs hst1 hx0 hx1 rfl hR hnf1 hne hfl)) ?_;clear hA hH;rintro _ w hS a hA)
    repeat' (first|(refine QT ?_;clear hA a;intro a hA)|refine CT ?_|fail)
    exact rt0 (.inl rfl) rfl hA (by rw [in_3 h3];exact (SrW.le hle hbe hS).drop1)
  by_cases h14:x.r.k=14
  · have h2:=want2 hF (.inr (.inr h14))
    obtain ⟨v0,hv0,hx0⟩:=hV.get0 (i:=0) (by rw [sM];omega)
    obtain ⟨v1,hv1,hx1⟩:=hV.get0 (i:=1) (by rw [sM];omega)
    have e14:=in_14 (g:=g) (fm:=m.fm) (wd:=m.wd) (sk:=m.sk) h14
    rcases hx0.asFn with ⟨fi,fl,fp,hs,hv0e,hf⟩| ⟨hs,hn⟩
    · rw [hs] at e14
      dsimp only at e14
      unfold uT at hv0e
      subst hv0e
      obtain ⟨o9,k9,vs9,hfr9,hp9,_⟩:=id hf
      repeat' (first|(refine XT ?_;apply XE;(first|(apply zC;rfl;rfl;decide;omega;exact hsp)|(apply zF;rfl;exact zP MEMT hL hv0)|(apply zW;rfl));clear hA a;intro a hA)|(refine QT ?_;clear hA a;intro a hA)|refine CT ?_|(refine DT ?_ ?_<;>intro hc<;>try (exfalso;omega))|fail)
      (refine zO [(0,1),(1,1),(2,1),(3,1),(4,1),(5,1),(6,1),(7,1),(8,1),(9,1),(10,1),(11,1)] mixed (by decide +kernel) hH ?_;replace hH:=hH.drew)
      repeat' (first|(refine GT ?_ ?_<;>intro hg<;>clear hA a<;>intro a hA<;>(first|exact FA|replace hg:=dTr hg|replace hg:=dFa hg|skip))|(refine XT ?_;apply XE;(first|(apply zF;rfl;exact vE MEMT hp9 rfl));clear hA a;intro a hA)|(refine QT ?_;clear hA a;intro a hA)|refine CT ?_|(refine DT ?_ ?_<;>intro hc<;>try (exfalso;omega))|fail)
      · repeat' (first|(refine QT ?_;clear hA a;intro a hA)|(refine zJ hA rfl rfl (by decide) (zE rfl rfl rfl (gN hH hpc hmm hfs hst1 4 empS)) ?_;clear hA hH;rintro _ w hS a hA)|refine CT ?_|fail)
        exact rt0 (.inl rfl) rfl hA (SrW.stop (by rw [e14,if_neg (by assumption)];rfl) hS.drop1)
      (refine zN [(0,1),(1,1),(2,1),(3,1),(4,1),(5,1),(6,1)] [7] mixed (by decide +kernel) hH ?_;replace hH:=hH.drew)
      repeat' (first|(refine XT ?_;apply XE;(first|(apply zC;rfl;rfl;decide;omega;exact hsp)|(apply zF;rfl;exact zP MEMT hL hv0)|(apply zF;rfl;exact zP MEMT hL hv1));clear hA a;intro a hA)|(refine QT ?_;clear hA a;intro a hA)|refine CT ?_|fail)
      (refine pZ hA rfl rfl rfl (by decide) (zE rfl rfl rfl (callS (h:=none) (hd:=none) hH hpc hmm hfs hst1 hx0 hx1 rfl hR hnf1 hne hfl)) ?_;clear hA hH;rintro _ w hS a hA)
      repeat' (first|(refine QT ?_;clear hA a;intro a hA)|refine CT ?_|fail)
      exact rt0 (.inl rfl) rfl hA (by rw [e14,if_pos (by omega)];exact (SrW.le hle hbe hS).drop1)
    · rw [hs] at e14
      dsimp only at e14
      repeat' (first|(refine XT ?_;apply XE;(first|(apply zC;rfl;rfl;decide;omega;exact hsp)|(apply zF;rfl;exact zP MEMT hL hv0)|(apply yO;rfl;exact hn));clear hA a;intro a hA)|(refine QT ?_;clear hA a;intro a hA)|refine CT ?_|(refine DT ?_ ?_<;>intro hc<;>try (exfalso;omega))|fail)
      (refine zO [(0,1),(1,1),(2,1),(3,1),(4,1),(5,1),(6,1),(7,1),(8,1),(9,1),(10,1),(11,1)] mixed (by decide +kernel) hH ?_;replace hH:=hH.drew)
      repeat' (first|(refine GT ?_ ?_<;>intro hg<;>clear hA a<;>intro a hA<;>(first|exact FA|replace hg:=dTr hg|replace hg:=dFa hg|skip))|(refine QT ?_;clear hA a;intro a hA)|(refine zJ hA rfl rfl (by decide) (zE rfl rfl rfl (gN hH hpc hmm hfs hst1 4 empS)) ?_;clear hA hH;rintro _ w hS a hA)|refine CT ?_|fail)
      exact rt0 (.inl rfl) rfl hA (SrW.stop (by rw [e14];rfl) hS.drop1)
  by_cases h13:x.r.k=13
  · have h2:=want2 hF (.inr (.inl h13))
    obtain ⟨v0,hv0,hx0⟩:=hV.get0 (i:=0) (by rw [sM];omega)
    obtain ⟨v1,hv1,hx1⟩:=hV.get0 (i:=1) (by rw [sM];omega)
    have e13:=in_13 (g:=g) (fm:=m.fm) (wd:=m.wd) (sk:=m.sk) h13
    rcases hx1.asFn with ⟨fi,fl,fp,hs,hv1e,hf⟩| ⟨hs,hn⟩
    · rw [hs] at e13
      dsimp only at e13
      unfold uT at hv1e
      subst hv1e
      repeat' (first|(refine XT ?_;apply XE;(first|(apply zC;rfl;rfl;decide;omega;exact hsp)|(apply zF;rfl;exact zP MEMT hL hv0)|(apply zF;rfl;exact zP MEMT hL hv1)|(apply yJ;rfl)|(apply zW;rfl));clear hA a;intro a hA)|(refine QT ?_;clear hA a;intro a hA)|refine CT ?_|(refine DT ?_ ?_<;>intro hc<;>try (exfalso;omega))|fail)
      (refine zJ hA rfl rfl (by decide) (zE rfl rfl rfl (callS (h:=some (fi,fl)) (hd:=some (bat fp 0)) hH hpc hmm hfs hst1 hx0 (RV_num (c:=c1) (n:=0) ⟨by decide,by decide⟩) ⟨fp,rfl,hf⟩ hR hnf1 hne hfl)) ?_;clear hA hH;rintro _ w hS a hA)
      repeat' (first|(refine QT ?_;clear hA a;intro a hA)|refine CT ?_|fail)
      exact rt0 (.inl rfl) rfl hA (by rw [e13];exact (SrW.le hle hbe hS).drop1)
    · rw [hs] at e13
      dsimp only at e13
      repeat' (first|(refine XT ?_;apply XE;(first|(apply zC;rfl;rfl;decide;omega;exact hsp)|(apply zF;rfl;exact zP MEMT hL hv1)|(apply yO;rfl;exact hn));clear hA a;intro a hA)|(refine QT ?_;clear hA a;intro a hA)|(refine zJ hA rfl rfl (by decide) (zE rfl rfl rfl (gN hH hpc hmm hfs hst1 4 empS)) ?_;clear hA hH;rintro _ w hS a hA)|refine CT ?_|(refine DT ?_ ?_<;>intro hc<;>try (exfalso;omega))|fail)
      exact rt0 (.inl rfl) rfl hA (SrW.stop (by rw [e13];rfl) hS.drop1)
  have ep:=in_p (g:=g) (fm:=m.fm) (i:=x) (wd:=m.wd) (sk:=m.sk) ⟨h3,h14,h13⟩
  repeat' (first|(refine QT ?_;clear hA a;intro a hA)|refine CT ?_|(refine DT ?_ ?_<;>intro hc<;>try (exfalso;omega))|fail)
  have hS0:(fun w=>∃s oO nO cO,HS w0 noM [cb bM 86 (yA g kd s oO nO cO++xA g fuel oS fms.length cS pc bv (xV g m.fm.c.1 m.fm.b) m.fm.i ph none),cb b3 59 (wV x)] w) w:=⟨_,_,_,_,((((((HS.left (H1:=[_,_,_,_,_,_,_,_]) hH).rm 1).rm 1).rm 1).rm 1).rm 1).rm 1⟩
  have hS1:Cls (fun w=>∃s oO nO cO,HS w0 noM [cb bM 86 (yA g kd s oO nO cO++xA g fuel oS fms.length cS pc bv (xV g m.fm.c.1 m.fm.b) m.fm.i ph none),cb b3 59 (wV x)] w) (bat b3 1) (zX x.r):=Cls.ex4 (F:=fun s oO nO cO w=>HS w0 noM [cb bM 86 (yA g kd s oO nO cO++xA g fuel oS fms.length cS pc bv (xV g m.fm.c.1 m.fm.b) m.fm.i ph none),cb b3 59 (wV x)] w) fun s oO nO cO=>qW (by exact MEMT) (qJ x)
  have hS2:Cl (fun w=>∃s oO nO cO,HS w0 noM [cb bM 86 (yA g kd s oO nO cO++xA g fuel oS fms.length cS pc bv (xV g m.fm.c.1 m.fm.b) m.fm.i ph none),cb b3 59 (wV x)] w) (bat bM 12) (.pointer (some (bat pc 0))):=Cl.ex4 (F:=fun s oO nO cO w=>HS w0 noM [cb bM 86 (yA g kd s oO nO cO++xA g fuel oS fms.length cS pc bv (xV g m.fm.c.1 m.fm.b) m.fm.i ph none),cb b3 59 (wV x)] w) fun s oO nO cO=>rT (by exact MEMT) rfl
  refine fU [(0,1),(1,1),(2,1),(3,1),(4,1),(5,1),(6,1),(7,1),(8,1),(9,1),(10,1),(11,0),(12,1),(13,1),(14,1),(15,1),(16,1)] [] (fun w=>∃s oO nO cO,HS w0 noM [cb bM 86 (yA g kd s oO nO cO++xA g fuel oS fms.length cS pc bv (xV g m.fm.c.1 m.fm.b) m.fm.i ph none),cb b3 59 (wV x)] w) mixed (by decide +kernel) (by obtain ⟨s1,o1,n1,c2,h9⟩:=hS0;exact ⟨s1,o1,n1,c2,h9.drew⟩) ?_
  clear hS0
  replace hH:=hH.drew
  repeat' (first|(refine XT ?_;apply XE;(first|(apply zA (vs:=zX x.r);rfl;rfl;exact hS1)|(apply zF;rfl;exact hS2));clear hA a;intro a hA)|(refine QT ?_;clear hA a;intro a hA)|fail)
  have hpl:=Plain_spec w0 _ (own 83 5 oS fms.length cS (flat yH fms)::all (fms.map mpF)::mp bv mm::cb b3 59 (wV x)::H) c1 86 bM g kd (xA g fuel oS fms.length cS pc bv (xV g m.fm.c.1 m.fm.b) m.fm.i ph none) (g.fs.l.map Gr.caps) mine x.r (xZ g m.fm x.r.a.l) vs oL oO cL cO m.wd sx m.fm.c.1 m.fm.c.2 pc hH hL hlc hV hst1 hF sM (by rw [List.length_map];exact hnf1) hpc hK1 hRi.1 (by omega) (by omega) hout hR.2.2.2.1.le ⟨h3,h13,h14⟩
  (refine yC hA rfl rfl rfl (by decide) (zE rfl rfl rfl hpl) ?_;clear hA hH hpl)
  rintro u w ⟨d,sx2,oO2,cO2,⟨hle2,hb2⟩,hH,hr,hS2'⟩
  refine ⟨⟨_,_,_,_,((((((HS.left (H1:=[_,_,_,_,_,_,_,_]) hH).rm 1).rm 1).rm 1).rm 1).rm 1).rm 1⟩,?_⟩
  clear hS1 hS2
  intro a hA
  have hS2:=hS2'
  clear hS2'
  have hle3:=hle.trans hle2
  have hb3:d.bd≤c.bd+1:=by omega
  have hpc2:=hpc.mono hle2
  have hmm2:=hmm.mono hle2
  have hfs2:=hfs.mono hle2
  have hnf2:d.nf=g.fs.l.length:=by rw [←hle2.nf];exact hnf1
  cases hp:yD x.r (xZ g m.fm x.r.a.l) m.fm.c.2 m.wd with
  | exn s=>
    rw [hp] at hH hr hS2 ep
    obtain rfl:u= .tuple #[.nilIface,.string s]:=hr
    have hsn:=(gU hp).ne
    have hxR:=hR.2.2.2.2.1
    have hio:=idx_iok (l:=g.xs.l) (s:=s) hxR.le
    change HS w0 noM (cb bM 86 (yA g kd (m.wd).inp oO2 (m.wd).out.length cO2++xA g fuel oS fms.length cS pc bv (xV g m.fm.c.1 m.fm.b) m.fm.i ph none)::own 5 1 oO2 (m.wd).out.length cO2 (flat zY (m.wd).out)::frz w0 d.K::all (sx2.map obI)::own 83 5 oS fms.length cS (flat yH fms)::all (fms.map mpF)::mp bv mm::cb b3 59 (wV x)::H) w at hH
    repeat' (first|(refine XT ?_;apply XE;(first|(apply dA;rfl;rfl));clear hA a;intro a hA)|(refine QT ?_;clear hA a;intro a hA)|refine CT ?_|(refine DT ?_ ?_<;>intro hc<;>try (exfalso;omega))|fail)
    rotate_left
    · exact absurd (hsn.symm.trans (by assumption):true=false) (by decide)
    (refine zJ hA rfl rfl (by decide) (zE rfl rfl rfl (Exn_spec w0 w (own 5 1 oO2 (m.wd).out.length cO2 (flat zY (m.wd).out)::frz w0 d.K::all (sx2.map obI)::own 83 5 oS fms.length cS (flat yH fms)::all (fms.map mpF)::mp bv mm::cb b3 59 (wV x)::H) 86 bM [] _ g.xs s hH hxR)) ?_;clear hA hH;rintro _ w ⟨rfl,hH⟩ a hA)
    change HS w0 noM (cb bM 86 (yA g kd (m.wd).inp oO2 (m.wd).out.length cO2++xA g fuel oS fms.length cS pc bv (xV g m.fm.c.1 m.fm.b) m.fm.i ph none)::own 5 1 oO2 (m.wd).out.length cO2 (flat zY (m.wd).out)::frz w0 d.K::all (sx2.map obI)::own 83 5 oS fms.length cS (flat yH fms)::all (fms.map mpF)::mp bv mm::cb b3 59 (wV x)::H) w at hH
    (refine zJ hA rfl rfl (by decide) (zE rfl rfl rfl (raiseS hH hpc2 hmm2 hfs2 hS2 hle3 hb3 hio hR hnf2 hne hfl hxs)) ?_;clear hA hH;rintro _ w hS a hA)
    repeat' (first|(refine QT ?_;clear hA a;intro a hA)|refine CT ?_|fail)
    exact rt0 (.inr rfl) rfl hA (by rw [ep];exact hS.drop1)
  | val v wd'=>
    rw [hp] at hH hr hS2 ep
    obtain ⟨u',hu',rfl⟩:=hr
    change HS w0 noM (cb bM 86 (yA g kd (wd').inp oO2 (wd').out.length cO2++xA g fuel oS fms.length cS pc bv (xV g m.fm.c.1 m.fm.b) m.fm.i ph none)::own 5 1 oO2 (wd').out.length cO2 (flat zY (wd').out)::frz w0 d.K::all (sx2.map obI)::own 83 5 oS fms.length cS (flat yH fms)::all (fms.map mpF)::mp bv mm::cb b3 59 (wV x)::H) w at hH
    dsimp only at ep
    rcases hu'.isNil with ⟨hn0,rfl⟩| ⟨hn0,s9,u9,rfl⟩
    · rw [hn0,if_pos rfl] at ep
      repeat' (first|(refine XT ?_;apply XE;(first|(apply dA;rfl;rfl)|(apply ex_eqlI0;rfl));clear hA a;intro a hA)|(refine QT ?_;clear hA a;intro a hA)|refine CT ?_|(refine DT ?_ ?_<;>intro hc<;>try (exfalso;omega))|fail)
      · exact absurd (by assumption:(!(empS.toList == (⟨#[]⟩:ByteArray).toList))=true) (by decide +kernel)
      (refine zJ hA rfl rfl (by decide) (zE rfl rfl rfl (gN (m:=⟨wd',m.sk,m.fm⟩) hH hpc2 hmm2 hfs2 hS2 4 empS)) ?_;clear hA hH;rintro _ w hS a hA)
      repeat' (first|(refine QT ?_;clear hA a;intro a hA)|refine CT ?_|fail)
      exact rt0 (.inr rfl) rfl hA (SrW.stop ep hS.drop1)
    · rw [hn0,if_neg (by decide)] at ep
      repeat' (first|(refine XT ?_;apply XE;(first|(apply dA;rfl;rfl)|(apply ex_eqlI1;rfl));clear hA a;intro a hA)|(refine QT ?_;clear hA a;intro a hA)|refine CT ?_|(refine DT ?_ ?_<;>intro hc<;>try (exfalso;omega))|fail)
      · exact absurd (by assumption:(!(empS.toList == (⟨#[]⟩:ByteArray).toList))=true) (by decide +kernel)
      (refine zN [(0,1),(1,1),(2,1),(3,1),(4,1),(5,1),(6,1),(7,1)] [8] mixed (by decide +kernel) hH ?_;replace hH:=hH.drew)
      repeat' (first|(refine QT ?_;clear hA a;intro a hA)|(apply yB hA rfl rfl rfl;apply uF;rfl;rfl;rfl;exact hH;(repeat constructor);clear hH;rintro _ w hH)|(apply zT hA rfl rfl;apply zG (cs':=yA g kd wd'.inp oO2 wd'.out.length cO2++xA g fuel oS fms.length cS pc bv (xV g m.fm.c.1 m.fm.b) ((m.fm.i+1:Nat):Int) ph none);rfl;rfl;rfl;exact hH;(repeat constructor);clear hH;rintro _ w hH)|refine CT ?_|fail)
      refine rt0 (.inr rfl) rfl hA (SrW.go (m:=⟨wd',m.sk,{m.fm with vs:=qD m.fm.vs x.x v,i:=m.fm.i+1}⟩) ep hle3 hb3 ⟨oO2,cO2,oS,cS,pc,bv,mset mm x.x (.iface s9 u9),fms,sx2,ph,?_,hpc2,hmm2.set _ hu',hfs2,hS2⟩)
      exact hH.rm 7
end
theorem la_1 {g:Grs} {kd:Int} {fm:Fm} {e:En} {wd:Wd} {sk:List Fm} (h:e.k=1):vZ g kd fm e wd sk=pO g kd (rM g fm (e.a.l.getD 0 rY)) wd sk:=by unfold vZ;rw [if_pos h]
theorem la_2 {g:Grs} {kd:Int} {fm:Fm} {e:En} {wd:Wd} {sk:List Fm} (h:e.k=2):vZ g kd fm e wd sk=vN (rM g fm (e.a.l.getD 0 rY)) (rM g fm (e.a.l.getD 1 rY)) wd sk:=by unfold vZ;rw [if_neg (by omega),if_pos h]
theorem la_4 {g:Grs} {kd:Int} {fm:Fm} {e:En} {wd:Wd} {sk:List Fm} (h:e.k=4):vZ g kd fm e wd sk= .go ⟨wd,sk,wN g fm (e.to.l.getD 0 tZ)⟩:=by unfold vZ;rw [if_neg (by omega),if_neg (by omega),if_pos h]
theorem la_x {g:Grs} {kd:Int} {fm:Fm} {e:En} {wd:Wd} {sk:List Fm} (h:e.k≠1∧e.k≠2∧e.k≠4):vZ g kd fm e wd sk=(match asNum (rM g fm (e.a.l.getD 0 rY)) with
    |none=>wZ wd
    | some n=>
      if e.k=3 then vH g n wd sk
      else if e.k=5 then .go ⟨wd,sk,wN g fm (e.to.l.getD (if n=0 then 1 else 0) tZ)⟩
      else .go ⟨wd,sk,wN g fm (e.to.l.getD (if bsB e.ns.l n then bsI e.ns.l n else e.ns.l.length) tZ)⟩):=by unfold vZ;rw [if_neg h.1,if_neg h.2.1,if_neg h.2.2]<;>rfl
theorem qY {l:List Atm} {i:Nat} (h:i<l.length):l[i]?=some (l.getD i rY):=by rw [List.getD_eq_getElem?_getD,List.getElem?_eq_getElem h];rfl
theorem mY {l:List Edg} {i:Nat} (h:i<l.length):l[i]?=some (l.getD i tZ):=by rw [List.getD_eq_getElem?_getD,List.getElem?_eq_getElem h];rfl
theorem end_ns {e:En} (h:EndP e) (hn:e.ns.l.length≤9223372036854775807) (ht:e.to.l.length≤1000000000):e.ns.l.length≤2000000000:=by
  have h1:=h.to
  have h2:=h.ns
  unfold jQ at h1
  by_cases h6:e.k=6
  · rw [if_neg (by omega),if_neg (by omega),if_pos h6] at h1
    by_cases hb:(e.ns.l.length:Int)+1≤9223372036854775807
    · rw [wA (by unfold uA;omega)] at h1
      omega
    · have h3:e.ns.l.length=9223372036854775807:=by omega
      rw [h3,show IntKind.i64.wrap ((9223372036854775807:Nat)+1:Int)= -9223372036854775808 by decide] at h1
      omega
  · have:¬0<e.ns.l.length:=fun h=>h6 (h2.2 h)
    omega
structure EdgOk (g:Grs) (w0:World) (fm:Fm) (t:Edg):Prop where
  b0:0≤t.b
  b1:t.b<(g.fs.l.getD fm.c.1.toNat gr0).bs.l.length
  len:t.a.l.length=(xQ g fm.c.1 t.b.toNat).ps.l.length
  at_:∀a∈t.a.l,atW g a
  top:t.a.l.length≤1048576
section
attribute [local irreducible] Code.wp wpList Calls Ex Op1 sat bat blk cb own Go.Fw.mp Go.Fw.mpO Go.Fw.mpI Go.Fw.mpE Go.Fw.itr HS Rd Ret wkD Hp Cl Cls Exit.then Exit.inBlock Exit.noGoto bodyPost Go.Fw.flat wk2 Go.Fw.all Go.Fw.owns wpOp
attribute [local irreducible] sk mpK sko mvO xM opM Go.Fw.mset Go.Fw.mv opK w63 frz obI RV xC vA xX uQ

theorem last_spec {w0 w:World} {H:List It} {c:Cx} {bM:Nat} {g:Grs} {kd fuel:Int} {m:Mc} {oO oS ph:Option Addr} {cO cS pc bv:Nat} {mm:List (Int × Value)} {fms:List FmM} {sx:Sx} (hH:HS w0 noM (cb bM 86 (yA g kd m.wd.inp oO m.wd.out.length cO++xA g fuel oS fms.length cS pc bv (xV g m.fm.c.1 m.fm.b) m.fm.i ph none)::own 5 1 oO m.wd.out.length cO (flat zY m.wd.out)::frz w0 c.K::all (sx.map obI)::own 83 5 oS fms.length cS (flat yH fms)::all (fms.map mpF)::mp bv mm::H) w) (hpc:FnR c m.fm.c.1 m.fm.c.2 pc) (hmm:MapR c m.fm.vs mm) (hfs:FsR g c m.sk fms) (hst:StR c sx m.wd.st) (e:En) (hR:RdGs w0 g) (hnf:c.nf=g.fs.l.length) (hne:∀f∈g.fs.l,0<f.bs.l.length) (hsz:∀s∈g.ss.l,s.size≤4096) (hxs:∀s∈g.xs.l,s.size≤4611686018427387904) (hfl:m.sk.length≤1000000)
    (hE:EndP e) (hRe:RdEn w0 e) (ha:∀a∈e.a.l,atW g a) (hto:∀t∈e.to.l,EdgOk g w0 m.fm t) (hFI:FI w0) (htl:e.to.l.length≤1000000000) (hok:∀f∈m.sk,FmOk g f∧f.i<(uH g f).is.l.length) :
    Ret Tryz.prog 29 #[.pointer (some (bat bM 0)),.agg (vJ e).toArray] w (fun r w'=>SrW w0 c bM g kd fuel H (vZ g kd m.fm e m.wd m.sk) w'):=by
  have hel:=hE.lo
  have heh:=hE.hi
  have hea:=hE.a
  have het:=hE.to
  have hal:=hRe.1.le
  have hspA:Sp e.a.o e.a.l.length:=hRe.1.1.sp (sz:=2) (zH xN _) (by omega)
  have hspT:Sp e.to.o e.to.l.length:=hRe.2.2.1.1.sp (sz:=2) (zH xW _) (by omega)
  have hnl:=hRe.2.1.le
  have hns:e.ns.l.length≤2000000000:=end_ns hE hnl htl
  (refine ENT (N:=99) Tryz.func29 Tryz.ntmps29 ?_;intro a hA)
  by_cases h1:e.k=1
  · unfold mW at hea
    rw [if_neg (by omega),if_neg (by omega)] at hea
    repeat' (first|(refine XT ?_;apply XE;(first|(apply zC;rfl;rfl;decide;omega;exact hspA)|(apply zA (vs:=zV (e.a.l.getD 0 rY));rfl;rfl;exact yP hRe.1.1 id (yI xN (qY (by omega)))));clear hA a;intro a hA)|(refine QT ?_;clear hA a;intro a hA)|(refine BT ?_;clear hA hH;rintro _ w ⟨bN,rfl,hH⟩ a hA)|refine CT ?_|(refine DT ?_ ?_<;>intro hc<;>try (exfalso;omega))|fail)
    obtain ⟨b3,hb3⟩:∃x,x=bN:=⟨_,rfl⟩;rw [←hb3] at hA hH;clear hb3 bN;replace hH:=hH.perm (H':=cb bM 86 (yA g kd m.wd.inp oO m.wd.out.length cO++xA g fuel oS fms.length cS pc bv (xV g m.fm.c.1 m.fm.b) m.fm.i ph none)::mp bv mm::own 5 1 oO m.wd.out.length cO (flat zY m.wd.out)::frz w0 c.K::all (sx.map obI)::own 83 5 oS fms.length cS (flat yH fms)::all (fms.map mpF)::cb b3 51 (vJ e)::H) PMT
    (refine zJ hA rfl rfl (by decide) (zE rfl rfl rfl (qL w0 _ (own 5 1 oO m.wd.out.length cO (flat zY m.wd.out)::frz w0 c.K::all (sx.map obI)::own 83 5 oS fms.length cS (flat yH fms)::all (fms.map mpF)::cb b3 51 (vJ e)::H) c bM g kd m.wd.inp oO oS m.wd.out.length cO fms.length cS pc bv fuel m.fm.i _ ph none m.fm mm (e.a.l.getD 0 rY) hH hmm (ha _ (List.mem_of_getElem? (qY (by omega)))) hR.2.2.2.2.2 hsz)) ?_;clear hA hH;rintro u w ⟨hu,hH⟩ a hA)
    repeat' (first|(refine QT ?_;clear hA a;intro a hA)|fail)
    replace hH:=hH.perm (H':=cb bM 86 (yA g kd m.wd.inp oO m.wd.out.length cO++xA g fuel oS fms.length cS pc bv (xV g m.fm.c.1 m.fm.b) m.fm.i ph none)::own 5 1 oO m.wd.out.length cO (flat zY m.wd.out)::frz w0 c.K::all (sx.map obI)::own 83 5 oS fms.length cS (flat yH fms)::all (fms.map mpF)::mp bv mm::cb b3 51 (vJ e)::H) PMT
    (refine zJ hA rfl rfl (by decide) (zE rfl rfl rfl (backS hH hpc hmm hfs hst hu hR hFI hfl hok)) ?_;clear hA hH;rintro _ w hS a hA)
    repeat' (first|(refine QT ?_;clear hA a;intro a hA)|refine CT ?_|fail)
    exact rt0 (by first|exact .inl rfl|exact .inr rfl) rfl hA (by rw [la_1 h1];exact hS.drop1)
  by_cases h2:e.k=2
  · unfold mW at hea
    rw [if_pos h2] at hea
    repeat' (first|(refine QT ?_;clear hA a;intro a hA)|(refine BT ?_;clear hA hH;rintro _ w ⟨bN,rfl,hH⟩ a hA)|refine CT ?_|(refine DT ?_ ?_<;>intro hc<;>try (exfalso;omega))|fail)
    obtain ⟨b3,hb3⟩:∃x,x=bN:=⟨_,rfl⟩;rw [←hb3] at hA hH;clear hb3 bN;replace hH:=hH.perm (H':=cb bM 86 (yA g kd m.wd.inp oO m.wd.out.length cO++xA g fuel oS fms.length cS pc bv (xV g m.fm.c.1 m.fm.b) m.fm.i ph none)::mp bv mm::own 5 1 oO m.wd.out.length cO (flat zY m.wd.out)::frz w0 c.K::all (sx.map obI)::own 83 5 oS fms.length cS (flat yH fms)::all (fms.map mpF)::cb b3 51 (vJ e)::H) PMT
    (refine zN [(0,1),(1,1),(2,2),(3,1),(4,1),(5,1),(7,1),(8,2),(9,1),(10,1),(11,1),(6,0),(12,0)] [13] mixed (by decide +kernel) hH ?_;replace hH:=hH.drew)
    repeat' (first|(refine XT ?_;apply XE;(first|(apply zC;rfl;rfl;decide;omega;exact hspA)|(apply zA (vs:=zV (e.a.l.getD 0 rY));rfl;rfl;exact yP hRe.1.1 id (yI xN (qY (by omega))))|(apply zA (vs:=zV (e.a.l.getD 1 rY));rfl;rfl;exact yP hRe.1.1 id (yI xN (qY (by omega)))));clear hA a;intro a hA)|(refine QT ?_;clear hA a;intro a hA)|fail)
    (refine yC hA rfl rfl rfl (by decide) (zE rfl rfl rfl (qL w0 _ (own 5 1 oO m.wd.out.length cO (flat zY m.wd.out)::frz w0 c.K::all (sx.map obI)::own 83 5 oS fms.length cS (flat yH fms)::all (fms.map mpF)::cb b3 51 (vJ e)::H) c bM g kd m.wd.inp oO oS m.wd.out.length cO fms.length cS pc bv fuel m.fm.i _ ph none m.fm mm (e.a.l.getD 0 rY) hH hmm (ha _ (List.mem_of_getElem? (qY (by omega)))) hR.2.2.2.2.2 hsz)) ?_;clear hA hH;rintro u w ⟨hu,hH⟩;refine ⟨STT,?_⟩;intro a hA)
    (refine yC hA rfl rfl rfl (by decide) (zE rfl rfl rfl (qL w0 _ (own 5 1 oO m.wd.out.length cO (flat zY m.wd.out)::frz w0 c.K::all (sx.map obI)::own 83 5 oS fms.length cS (flat yH fms)::all (fms.map mpF)::cb b3 51 (vJ e)::H) c bM g kd m.wd.inp oO oS m.wd.out.length cO fms.length cS pc bv fuel m.fm.i _ ph none m.fm mm (e.a.l.getD 1 rY) hH hmm (ha _ (List.mem_of_getElem? (qY (by omega)))) hR.2.2.2.2.2 hsz)) ?_;clear hA hH;rintro v w ⟨hv,hH⟩;refine ⟨STT,?_⟩;intro a hA)
    trace_state
    repeat' (first|(refine QT ?_;clear hA a;intro a hA)|refine CT ?_|fail)
    replace hH:=hH.perm (H':=cb bM 86 (yA g kd m.wd.inp oO m.wd.out.length cO++xA g fuel oS fms.length cS pc bv (xV g m.fm.c.1 m.fm.b) m.fm.i ph none)::own 5 1 oO m.wd.out.length cO (flat zY m.wd.out)::frz w0 c.K::all (sx.map obI)::own 83 5 oS fms.length cS (flat yH fms)::all (fms.map mpF)::mp bv mm::cb b3 51 (vJ e)::H) PMT
    (refine pZ hA rfl rfl rfl (by decide) (zE rfl rfl rfl (enterS hH hpc hmm hfs hst hu hv hR hnf hne)) ?_;clear hA hH;rintro _ w hS a hA)
    repeat' (first|(refine QT ?_;clear hA a;intro a hA)|refine CT ?_|fail)
    exact rt0 (by first|exact .inl rfl|exact .inr rfl) rfl hA (by rw [la_2 h2];exact hS.drop1)
  by_cases h4:e.k=4
  · unfold jQ at het
    rw [if_pos h4] at het
    repeat' (first|(refine XT ?_;apply XE;(first|(apply zC;rfl;rfl;decide;omega;exact hspT)|(apply zA (vs:=uD (e.to.l.getD 0 tZ));rfl;rfl;exact yP hRe.2.2.1.1 id (yI xW (mY (by omega)))));clear hA a;intro a hA)|(refine QT ?_;clear hA a;intro a hA)|(refine BT ?_;clear hA hH;rintro _ w ⟨bN,rfl,hH⟩ a hA)|refine CT ?_|(refine DT ?_ ?_<;>intro hc<;>try (exfalso;omega))|fail)
    obtain ⟨b3,hb3⟩:∃x,x=bN:=⟨_,rfl⟩;rw [←hb3] at hA hH;clear hb3 bN;replace hH:=hH.perm (H':=cb bM 86 (yA g kd m.wd.inp oO m.wd.out.length cO++xA g fuel oS fms.length cS pc bv (xV g m.fm.c.1 m.fm.b) m.fm.i ph none)::mp bv mm::own 5 1 oO m.wd.out.length cO (flat zY m.wd.out)::frz w0 c.K::all (sx.map obI)::own 83 5 oS fms.length cS (flat yH fms)::all (fms.map mpF)::cb b3 51 (vJ e)::H) PMT
    replace hH:=hH.perm (H':=cb bM 86 (yA g kd m.wd.inp oO m.wd.out.length cO++xA g fuel oS fms.length cS pc bv (xV g m.fm.c.1 m.fm.b) m.fm.i ph none)::own 5 1 oO m.wd.out.length cO (flat zY m.wd.out)::frz w0 c.K::all (sx.map obI)::own 83 5 oS fms.length cS (flat yH fms)::all (fms.map mpF)::mp bv mm::cb b3 51 (vJ e)::H) PMT
    have hm0:e.to.l.getD 0 tZ∈e.to.l:=xP (by omega)
    have hEd:=hto _ hm0
    (refine zJ hA rfl rfl (by decide) (zE rfl rfl rfl (nQ hH hpc hmm hfs hst hEd.at_ hR hsz (hRe.2.2.2 _ hm0) hEd.top hnf hEd.b0 hEd.b1 hEd.len)) ?_;clear hA hH;rintro _ w hS a hA)
    repeat' (first|(refine QT ?_;clear hA a;intro a hA)|refine CT ?_|fail)
    exact rt0 (by first|exact .inl rfl|exact .inr rfl) rfl hA (by rw [la_4 h4];exact hS.drop1)
  have hk:e.k=3∨e.k=5∨e.k=6:=by omega
  have ex:=la_x (g:=g) (kd:=kd) (fm:=m.fm) (wd:=m.wd) (sk:=m.sk) ⟨h1,h2,h4⟩
  unfold mW at hea
  rw [if_neg h2,if_neg h4] at hea
  repeat' (first|(refine XT ?_;apply XE;(first|(apply zC;rfl;rfl;decide;omega;exact hspA)|(apply zA (vs:=zV (e.a.l.getD 0 rY));rfl;rfl;exact yP hRe.1.1 id (yI xN (qY (by omega)))));clear hA a;intro a hA)|(refine QT ?_;clear hA a;intro a hA)|(refine BT ?_;clear hA hH;rintro _ w ⟨bN,rfl,hH⟩ a hA)|refine CT ?_|(refine DT ?_ ?_<;>intro hc<;>try (exfalso;omega))|fail)
  obtain ⟨b3,hb3⟩:∃x,x=bN:=⟨_,rfl⟩;rw [←hb3] at hA hH;clear hb3 bN;replace hH:=hH.perm (H':=cb bM 86 (yA g kd m.wd.inp oO m.wd.out.length cO++xA g fuel oS fms.length cS pc bv (xV g m.fm.c.1 m.fm.b) m.fm.i ph none)::mp bv mm::own 5 1 oO m.wd.out.length cO (flat zY m.wd.out)::frz w0 c.K::all (sx.map obI)::own 83 5 oS fms.length cS (flat yH fms)::all (fms.map mpF)::cb b3 51 (vJ e)::H) PMT
  (refine zJ hA rfl rfl (by decide) (zE rfl rfl rfl (qL w0 _ (own 5 1 oO m.wd.out.length cO (flat zY m.wd.out)::frz w0 c.K::all (sx.map obI)::own 83 5 oS fms.length cS (flat yH fms)::all (fms.map mpF)::cb b3 51 (vJ e)::H) c bM g kd m.wd.inp oO oS m.wd.out.length cO fms.length cS pc bv fuel m.fm.i _ ph none m.fm mm (e.a.l.getD 0 rY) hH hmm (ha _ (List.mem_of_getElem? (qY (by omega)))) hR.2.2.2.2.2 hsz)) ?_;clear hA hH;rintro u w ⟨hu,hH⟩ a hA)
  rcases hu.asNum with ⟨n,hs,rfl,hn⟩| ⟨hs,hn⟩
  rotate_left
  · rw [hs] at ex
    dsimp only at ex
    replace hH:=hH.perm (H':=cb bM 86 (yA g kd m.wd.inp oO m.wd.out.length cO++xA g fuel oS fms.length cS pc bv (xV g m.fm.c.1 m.fm.b) m.fm.i ph none)::own 5 1 oO m.wd.out.length cO (flat zY m.wd.out)::frz w0 c.K::all (sx.map obI)::own 83 5 oS fms.length cS (flat yH fms)::all (fms.map mpF)::mp bv mm::cb b3 51 (vJ e)::H) PMT
    repeat' (first|(refine XT ?_;apply XE;(first|(apply yO;rfl;exact hn));clear hA a;intro a hA)|(refine QT ?_;clear hA a;intro a hA)|refine CT ?_|fail)
    (refine zJ hA rfl rfl (by decide) (zE rfl rfl rfl (gN hH hpc hmm hfs hst 4 empS)) ?_;clear hA hH;rintro _ w hS a hA)
    repeat' (first|(refine QT ?_;clear hA a;intro a hA)|refine CT ?_|fail)
    exact rt0 (by first|exact .inl rfl|exact .inr rfl) rfl hA (SrW.stop (by rw [ex];rfl) hS.drop1)
  rw [hs] at ex
  dsimp only at ex
  replace hH:=hH.perm (H':=cb bM 86 (yA g kd m.wd.inp oO m.wd.out.length cO++xA g fuel oS fms.length cS pc bv (xV g m.fm.c.1 m.fm.b) m.fm.i ph none)::own 5 1 oO m.wd.out.length cO (flat zY m.wd.out)::frz w0 c.K::all (sx.map obI)::own 83 5 oS fms.length cS (flat yH fms)::all (fms.map mpF)::mp bv mm::cb b3 51 (vJ e)::H) PMT
  by_cases h3:e.k=3
  · rw [if_pos h3] at ex
    repeat' (first|(refine XT ?_;apply XE;(first|(apply zW;rfl));clear hA a;intro a hA)|(refine QT ?_;clear hA a;intro a hA)|refine CT ?_|(refine DT ?_ ?_<;>intro hc<;>try (exfalso;omega))|fail)
    (refine zJ hA rfl rfl (by decide) (zE rfl rfl rfl (raiseS hH hpc hmm hfs hst c.le_refl (Nat.le_succ _) hn hR hnf hne hfl hxs)) ?_;clear hA hH;rintro _ w hS a hA)
    repeat' (first|(refine QT ?_;clear hA a;intro a hA)|refine CT ?_|fail)
    exact rt0 (by first|exact .inl rfl|exact .inr rfl) rfl hA (by rw [ex];exact hS.drop1)
  rw [if_neg h3] at ex
  unfold jQ at het
  rw [if_neg h4] at het
  by_cases h5:e.k=5
  · rw [if_pos h5] at ex
    rw [if_pos h5] at het
    repeat' (first|(refine XT ?_;apply XE;(first|(apply zW;rfl));clear hA a;intro a hA)|(refine QT ?_;clear hA a;intro a hA)|refine CT ?_|(refine DT ?_ ?_<;>intro hc<;>try (exfalso;omega))|fail)
    have hm1:e.to.l.getD 1 tZ∈e.to.l:=xP (by omega)
    have hm0:e.to.l.getD 0 tZ∈e.to.l:=xP (by omega)
    (refine zN [(0,1),(1,1),(2,1),(3,1),(4,1),(5,0),(6,1),(7,1),(8,1)] [9] mixed (by decide +kernel) hH ?_;replace hH:=hH.drew)
    by_cases h0:n=0
    · have htr:tru (decide (n≠0))=0:=by rw [decide_eq_false (by simpa using h0)];rfl
      rw [if_pos h0] at ex
      have hEd:=hto _ hm1
      repeat' (first|(refine XT ?_;apply XE;(first|(apply zC;rfl;rfl;decide;omega;exact hspT)|(apply zA (vs:=uD (e.to.l.getD 1 tZ));rfl;rfl;exact yP hRe.2.2.1.1 id (yI xW (mY (by omega)))));clear hA a;intro a hA)|(refine QT ?_;clear hA a;intro a hA)|(refine yC hA rfl rfl rfl (by decide) (zE rfl rfl rfl (Truth_spec _ _)) ?_;clear hA;rintro _ w ⟨rfl,hk2⟩;replace hH:=hH.keep hk2;refine ⟨STT,?_⟩;intro a hA;rw [htr] at hA)|refine CT ?_|fail)
      (refine pZ hA rfl rfl rfl (by decide) (zE rfl rfl rfl (nQ hH hpc hmm hfs hst hEd.at_ hR hsz (hRe.2.2.2 _ hm1) hEd.top hnf hEd.b0 hEd.b1 hEd.len)) ?_;clear hA hH;rintro _ w hS a hA)
      repeat' (first|(refine QT ?_;clear hA a;intro a hA)|refine CT ?_|fail)
      exact rt0 (by first|exact .inl rfl|exact .inr rfl) rfl hA (by rw [ex];exact hS.drop1)
    · have htr:tru (decide (n≠0))=1:=by rw [decide_eq_true h0];rfl
      rw [if_neg h0] at ex
      have hEd:=hto _ hm0
      repeat' (first|(refine XT ?_;apply XE;(first|(apply zC;rfl;rfl;decide;omega;exact hspT)|(apply zA (vs:=uD (e.to.l.getD 0 tZ));rfl;rfl;exact yP hRe.2.2.1.1 id (yI xW (mY (by omega)))));clear hA a;intro a hA)|(refine QT ?_;clear hA a;intro a hA)|(refine yC hA rfl rfl rfl (by decide) (zE rfl rfl rfl (Truth_spec _ _)) ?_;clear hA;rintro _ w ⟨rfl,hk2⟩;replace hH:=hH.keep hk2;refine ⟨STT,?_⟩;intro a hA;rw [htr] at hA)|refine CT ?_|fail)
      (refine pZ hA rfl rfl rfl (by decide) (zE rfl rfl rfl (nQ hH hpc hmm hfs hst hEd.at_ hR hsz (hRe.2.2.2 _ hm0) hEd.top hnf hEd.b0 hEd.b1 hEd.len)) ?_;clear hA hH;rintro _ w hS a hA)
      repeat' (first|(refine QT ?_;clear hA a;intro a hA)|refine CT ?_|fail)
      exact rt0 (by first|exact .inl rfl|exact .inr rfl) rfl hA (by rw [ex];exact hS.drop1)
  have h6:e.k=6:=by omega
  rw [if_neg h5] at ex
  rw [if_neg h5,if_pos h6] at het
  have hnl2:=hRe.2.1.le
  rw [wA (by unfold uA;omega)] at het
  have hbi:=jV e.ns.l n
  obtain ⟨i0,hi1⟩:∃i:Nat,i=if bsB e.ns.l n=true then bsI e.ns.l n else e.ns.l.length:=⟨_,rfl⟩
  rw [←hi1] at ex
  have hm0:e.to.l.getD i0 tZ∈e.to.l:=xP (by rw [hi1];split<;>omega)
  have hEd:=hto _ hm0
  repeat' (first|(refine XT ?_;apply XE;(first|(apply zW;rfl));clear hA a;intro a hA)|(refine QT ?_;clear hA a;intro a hA)|refine CT ?_|(refine DT ?_ ?_<;>intro hc<;>try (exfalso;omega))|fail)
  (refine zJ hA rfl rfl (by decide) (zE rfl rfl rfl (dN _ _ _ _ _ (hH.rd hRe.2.1.1 id) hns)) ?_;clear hA;rintro _ w ⟨rfl,hk2⟩ a hA;replace hH:=hH.keep hk2)
  cases hb:bsB e.ns.l n
  · rw [hb,if_neg (by decide)] at hi1
    subst hi1
    rw [hb] at hA
    repeat' (first|(refine XT ?_;apply XE;(first|(apply zB;rfl;rfl;omega;exact hspT)|(apply zA (vs:=uD (e.to.l.getD e.ns.l.length tZ));rfl;rfl;exact yP hRe.2.2.1.1 id (yI xW (mY (by omega)))));clear hA a;intro a hA)|(refine QT ?_;clear hA a;intro a hA)|refine CT ?_|fail)
    (refine zJ hA rfl rfl (by decide) (zE rfl rfl rfl (nQ hH hpc hmm hfs hst hEd.at_ hR hsz (hRe.2.2.2 _ hm0) hEd.top hnf hEd.b0 hEd.b1 hEd.len)) ?_;clear hA hH;rintro _ w hS a hA)
    repeat' (first|(refine QT ?_;clear hA a;intro a hA)|refine CT ?_|fail)
    exact rt0 (by first|exact .inl rfl|exact .inr rfl) rfl hA (by rw [ex];exact hS.drop1)
  · rw [hb,if_pos rfl] at hi1
    subst hi1
    rw [hb] at hA
    repeat' (first|(refine XT ?_;apply XE;(first|(apply zB;rfl;rfl;omega;exact hspT)|(apply zA (vs:=uD (e.to.l.getD (bsI e.ns.l n) tZ));rfl;rfl;exact yP hRe.2.2.1.1 id (yI xW (mY (by omega)))));clear hA a;intro a hA)|(refine QT ?_;clear hA a;intro a hA)|refine CT ?_|fail)
    (refine zJ hA rfl rfl (by decide) (zE rfl rfl rfl (nQ hH hpc hmm hfs hst hEd.at_ hR hsz (hRe.2.2.2 _ hm0) hEd.top hnf hEd.b0 hEd.b1 hEd.len)) ?_;clear hA hH;rintro _ w hS a hA)
    repeat' (first|(refine QT ?_;clear hA a;intro a hA)|refine CT ?_|fail)
    exact rt0 (by first|exact .inl rfl|exact .inr rfl) rfl hA (by rw [ex];exact hS.drop1)
end
theorem texts_out {op:Int} {l:List Vl} {wd wd':Wd} {v:Vl} (h:wG op l wd= .val v wd'):wd'.out.length≤wd.out.length+1:=by
  unfold wG stk at h
  repeat' split at h
  all_goals first|(cases h;done)|(cases h;exact Nat.le_succ _)
theorem arrays_out {op:Int} {l:List Vl} {wd wd':Wd} {v:Vl} (h:vV op l wd= .val v wd'):wd'.out.length≤wd.out.length+1:=by
  unfold vV stk at h
  repeat' split at h
  all_goals first|(cases h;done)|(cases h;exact Nat.le_succ _)
theorem op_out {op:Int} {l:List Vl} {wd wd':Wd} {v:Vl} (h:opF op l wd= .val v wd'):wd'.out.length≤wd.out.length+1:=by
  unfold opF stk at h
  repeat' split at h
  all_goals first|(cases h;done)|exact texts_out h|exact arrays_out h|(cases h;exact Nat.le_succ _)|(cases h;simp)
theorem gT {r:Stp} {l cs:List Vl} {wd wd':Wd} {v:Vl} (h:yD r l cs wd= .val v wd'):wd'.out.length≤wd.out.length+1:=by
  by_cases h2:r.k=2
  · rw [pl_2 h2] at h;exact op_out h
  unfold yD stk at h
  rw [if_neg h2] at h
  repeat' split at h
  all_goals first|(cases h;done)|(cases h;exact Nat.le_succ _)
theorem getD_or {α:Type} (l:List α) (i:Nat) (d:α):l.getD i d∈l∨l.getD i d=d:=by
  by_cases h:i<l.length
  · exact .inl (xP h)
  · exact .inr (by rw [List.getD_eq_getElem?_getD,List.getElem?_eq_none (by omega)];rfl)
theorem gR {g:Grs} {n:Int} {wd:Wd}:∀{sk sk':List Fm} {c:Clo},rJ n wd sk=some (sk',c)→(∀f∈sk,FmOk g f∧f.i<(uH g f).is.l.length)→(∀f∈sk',FmOk g f∧f.i<(uH g f).is.l.length)∧sk'.length≤sk.length
  | [],sk',c,h,_=>by cases h
  | f ::r,sk',c,h,hk=>by
    unfold rJ at h
    split at h
    · cases h
      refine ⟨fun f' hf'=>?_,Nat.le_refl _⟩
      rcases List.mem_cons.1 hf' with rfl|hf'
      · have:=hk f (List.mem_cons_self ..)
        exact ⟨⟨this.1.f0,this.1.f1,this.1.b⟩,this.2⟩
      · exact hk f' (List.mem_cons_of_mem _ hf')
    · have:=gR h (fun f' hf'=>hk f' (List.mem_cons_of_mem _ hf'))
      exact ⟨this.1,Nat.le_succ_of_le this.2⟩
theorem eL {g:Grs} {c:Clo} {x:Vl} (hne:∀f∈g.fs.l,0<f.bs.l.length) (h0:0≤c.1) (h1:c.1<g.fs.l.length):FmOk g (qH c x):=⟨h0,h1,hne _ (xP (show c.1.toNat<g.fs.l.length by omega))⟩
structure StOk (g:Grs) (m m':Mc):Prop where
  ok:McOk g m'
  sk:m'.sk.length≤m.sk.length+1
  out:m'.wd.out.length≤m.wd.out.length+1
theorem bG {g:Grs} {n:Int} {m m':Mc} (hs:vH g n m.wd m.sk= .go m') (h:McOk g m) (hne:∀f∈g.fs.l,0<f.bs.l.length) (h0:0≤m'.fm.c.1) (h1:m'.fm.c.1<g.fs.l.length):StOk g m m':=by
  unfold vH wZ at hs
  split at hs
  · cases hs
  split at hs
  · rename_i sk' c hr
    cases hs
    obtain ⟨hk,hl⟩:=gR (g:=g) hr h.sk
    exact ⟨⟨eL hne h0 h1,Nat.zero_le _,hk⟩,Nat.le_succ_of_le hl,Nat.le_succ _⟩
  · cases hs
theorem enter_ok {g:Grs} {f x:Vl} {m m':Mc} (hs:vN f x m.wd m.sk= .go m') (h:McOk g m) (hne:∀f∈g.fs.l,0<f.bs.l.length) (h0:0≤m'.fm.c.1) (h1:m'.fm.c.1<g.fs.l.length):StOk g m m':=by
  unfold vN wZ at hs
  split at hs
  · cases hs
    exact ⟨⟨eL hne h0 h1,Nat.zero_le _,h.sk⟩,Nat.le_succ _,Nat.le_succ _⟩
  · cases hs
theorem dL {g:Grs} {f x:Vl} {hd:Option Clo} {m m':Mc} (hs:rF f x hd m.wd m.sk m.fm= .go m') (h:McOk g m) (hi:m.fm.i<(uH g m.fm).is.l.length) (hne:∀f∈g.fs.l,0<f.bs.l.length) (h0:0≤m'.fm.c.1) (h1:m'.fm.c.1<g.fs.l.length):StOk g m m':=by
  unfold rF wZ at hs
  split at hs
  · cases hs
    refine ⟨⟨eL hne h0 h1,Nat.zero_le _,fun f hf=>?_⟩,Nat.le_refl _,Nat.le_succ _⟩
    rcases List.mem_cons.1 hf with rfl|hf
    · exact ⟨⟨h.fm.f0,h.fm.f1,h.fm.b⟩,hi⟩
    · exact h.sk f hf
  · cases hs
theorem ins_ok {g:Grs} {x:Ins} {m m':Mc} (hs:tW g m.fm x m.wd m.sk= .go m') (h:McOk g m) (hi:m.fm.i<(uH g m.fm).is.l.length) (hne:∀f∈g.fs.l,0<f.bs.l.length) (h0:0≤m'.fm.c.1) (h1:m'.fm.c.1<g.fs.l.length):StOk g m m':=by
  unfold tW at hs
  split at hs
  · exact dL hs h hi hne h0 h1
  split at hs
  · split at hs
    · split at hs
      · exact dL hs h hi hne h0 h1
      · cases hs
    · cases hs
  split at hs
  · split at hs
    · exact dL hs h hi hne h0 h1
    · cases hs
  split at hs
  · exact bG hs h hne h0 h1
  · rename_i v wd' hp
    split at hs
    · cases hs
    · cases hs
      exact ⟨⟨⟨h.fm.f0,h.fm.f1,h.fm.b⟩,hi,h.sk⟩,Nat.le_succ _,gT hp⟩
theorem mP {g:Grs} {e:Edg} {m:Mc} (h:McOk g m) (h0:0≤e.b) (h1:e.b<(g.fs.l.getD m.fm.c.1.toNat gr0).bs.l.length):StOk g m ⟨m.wd,m.sk,wN g m.fm e⟩:=
  ⟨⟨⟨h.fm.f0,h.fm.f1,by show e.b.toNat<(g.fs.l.getD m.fm.c.1.toNat gr0).bs.l.length;omega⟩,Nat.zero_le _,h.sk⟩,Nat.le_succ _,Nat.le_succ _⟩
theorem back_ok {g:Grs} {kd:Int} {x:Vl} {m m':Mc} (hs:pO g kd x m.wd m.sk= .go m') (h:McOk g m):StOk g m m':=by
  obtain ⟨wd,sk,fm⟩:=m
  dsimp only at hs
  unfold pO wZ at hs
  split at hs
  · split at hs<;>cases hs
  · rename_i f r
    cases hs
    have hf:=h.sk f (List.mem_cons_self ..)
    refine ⟨⟨⟨hf.1.f0,hf.1.f1,hf.1.b⟩,hf.2,fun f' hf'=>h.sk f' (List.mem_cons_of_mem _ hf')⟩,?_,Nat.le_succ _⟩
    show r.length≤(f::r).length+1
    rw [List.length_cons];omega
theorem last_ok {g:Grs} {kd:Int} {e:En} {m m':Mc} (hs:vZ g kd m.fm e m.wd m.sk= .go m') (h:McOk g m) (hne:∀f∈g.fs.l,0<f.bs.l.length) (hE:∀t∈e.to.l,0≤t.b∧t.b<(g.fs.l.getD m.fm.c.1.toNat gr0).bs.l.length) (h0:0≤m'.fm.c.1) (h1:m'.fm.c.1<g.fs.l.length):StOk g m m':=by
  have hb:=h.fm.b
  have hE2:∀i,0≤(e.to.l.getD i tZ).b∧(e.to.l.getD i tZ).b<(g.fs.l.getD m.fm.c.1.toNat gr0).bs.l.length:=fun i=>by
    rcases getD_or e.to.l i tZ with h|h
    · exact hE _ h
    · rw [h];exact ⟨Int.le_refl _,by show (0:Int)< _;omega⟩
  unfold vZ wZ at hs
  split at hs
  · exact back_ok hs h
  split at hs
  · exact enter_ok hs h hne h0 h1
  split at hs
  · cases hs;exact mP h (hE2 _).1 (hE2 _).2
  split at hs
  · cases hs
  split at hs
  · exact bG hs h hne h0 h1
  split at hs
  · cases hs;exact mP h (hE2 _).1 (hE2 _).2
  · cases hs;exact mP h (hE2 _).1 (hE2 _).2
theorem step_ok {g:Grs} {kd:Int} {m m':Mc} (hs:tT g kd m= .go m') (h:McOk g m) (hne:∀f∈g.fs.l,0<f.bs.l.length) (hE:∀t∈(uH g m.fm).e.to.l,0≤t.b∧t.b<(g.fs.l.getD m.fm.c.1.toNat gr0).bs.l.length) (h0:0≤m'.fm.c.1) (h1:m'.fm.c.1<g.fs.l.length):StOk g m m':=by
  unfold tT at hs
  split at hs
  · exact ins_ok hs h (by assumption) hne h0 h1
  · exact last_ok hs h hne hE h0 h1
theorem first_ok {g:Grs} {s:ByteArray} (hne:∀f∈g.fs.l,0<f.bs.l.length) (h:0<g.fs.l.length):McOk g (uI s):=⟨eL hne (by decide) (by show (0:Int)< _;omega),Nat.zero_le _,fun f hf=>absurd hf (List.not_mem_nil)⟩
theorem may_ne {g:Grs} (h:MayP g):∀f∈g.fs.l,0<f.bs.l.length:=fun f hf=>(h.gr f hf).ne
theorem atS_W {g:Grs} {S:Int→Prop} {a:Atm} (hs:g.ss.l.length≤9223372036854775807) (h:atS g S a):atW g a:=by
  rcases h with ⟨h1,h2,h3,_⟩| ⟨h1,h2,h3⟩| ⟨h1,h2,h3⟩
  · exact ⟨⟨by omega,by omega⟩,fun e=>by omega⟩
  · exact ⟨⟨by omega,by omega⟩,fun e=>by omega⟩
  · exact ⟨⟨by omega,by omega⟩,fun e=>⟨h2,h3⟩⟩
structure CurOk (g:Grs) (fm:Fm):Prop where
  gr:(g.fs.l.getD fm.c.1.toNat gr0)∈g.fs.l
  bl:(g.fs.l.getD fm.c.1.toNat gr0).bs.l[fm.b]?=some (uH g fm)
  blk:BlkP g (g.fs.l.getD fm.c.1.toNat gr0) (g.fs.l.map Gr.caps) fm.b (uH g fm) (BS (g.fs.l.getD fm.c.1.toNat gr0) fm.b)
theorem cur_ok {g:Grs} {fm:Fm} (h:MayP g) (hf:FmOk g fm):CurOk g fm:=by
  have hm:(g.fs.l.getD fm.c.1.toNat gr0)∈g.fs.l:=xP (show fm.c.1.toNat<g.fs.l.length by have:=hf.f0;have:=hf.f1;omega)
  have hb:(g.fs.l.getD fm.c.1.toNat gr0).bs.l[fm.b]?=some (uH g fm):=by
    unfold uH xQ
    rw [List.getD_eq_getElem?_getD (l:=(g.fs.l.getD fm.c.1.toNat gr0).bs.l),List.getElem?_eq_getElem hf.b];rfl
  exact ⟨hm,hb,((h.gr _ hm).blk _ _ hb).2⟩
theorem CurOk.edge {g:Grs} {fm:Fm} (hs:g.ss.l.length≤9223372036854775807) (h:CurOk g fm) {t:Edg} (ht:t∈(uH g fm).e.to.l):0≤t.b∧t.b<(g.fs.l.getD fm.c.1.toNat gr0).bs.l.length∧t.a.l.length=(xQ g fm.c.1 t.b.toNat).ps.l.length∧∀a∈t.a.l,atW g a:=by
  obtain ⟨h1,h2,h3,h4⟩:=h.blk.edges t ht
  exact ⟨by omega,h2,h3,fun a ha=>atS_W hs (h4 a ha)⟩
theorem sD {α:Type} (f:α→Nat):∀{l:List α} {x:α},x∈l→f x≤(l.map f).sum
  | y::l,x,h=>by
    rw [List.map_cons,List.sum_cons]
    rcases List.mem_cons.1 h with rfl|h
    · omega
    · have:=sD f h;omega
theorem CurOk.size {g:Grs} {fm:Fm} (h:CurOk g fm) (hs:rW g≤65536):uZ (uH g fm)≤65536:=by
  have h1:=sD grN h.gr
  have h2:=sD uZ (List.mem_of_getElem? h.bl)
  have h3:grN (g.fs.l.getD fm.c.1.toNat gr0)=((g.fs.l.getD fm.c.1.toNat gr0).bs.l.map uZ).sum:=rfl
  have h4:rW g=(g.fs.l.map grN).sum:=rfl
  omega
theorem eO {α:Type} (f:α→Nat):∀(l:List α),l.length≤(l.map fun x=>1+f x).sum
  | []=>Nat.le_refl _
  | x::l=>by
    have:=eO f l
    rw [List.map_cons,List.sum_cons,List.length_cons]
    omega
theorem fR {bl:Blc} (h:uZ bl≤65536):bl.ps.l.length≤65536∧bl.is.l.length≤65536∧(∀i∈bl.is.l,i.r.a.l.length≤65536)∧bl.e.a.l.length≤65536∧bl.e.to.l.length≤65536∧∀t∈bl.e.to.l,t.a.l.length≤65536:=by
  unfold uZ at h
  have h1:bl.is.l.length≤(bl.is.l.map fun i=>1+i.r.a.l.length).sum:=eO (fun i:Ins=>i.r.a.l.length) bl.is.l
  have h2:bl.e.to.l.length≤(bl.e.to.l.map fun t=>1+t.a.l.length).sum:=eO (fun t:Edg=>t.a.l.length) bl.e.to.l
  refine ⟨by omega,by omega,fun i hi=>?_,by omega,by omega,fun t ht=>?_⟩
  · have:=sD (fun i:Ins=>1+i.r.a.l.length) hi
    omega
  · have:=sD (fun t:Edg=>1+t.a.l.length) ht
    omega
end Go.Proofs.YtenlcdokaadobaaGreatDoor
namespace Go.Fw
open Go Go.RowKit
theorem rH {P:Program} {N:Nat} {l:List (Nat × Value)} {a:Act} {w:World} {C:World→Prop} {fn:Func} {R:Value→World→Prop} {p:Tmp} {ty sz by_:Nat} {z:Value} {zs:List Value} {fl:List (Nat × Nat)} {q:Addr} {vs:List Value} {e:Exit} [h0:TSt P ty fl] [hi:TIf P ty z zs sz by_] (he:e= .ret∨e= .normal) (hr:fn.results=#[.cell p ty]) (hA:Sl N l a)
    (hp:lk l p=some (.pointer (some q))) (hl:vs.length=sz) (hC:C w) (hc:Cls C q vs) (h:R (.agg vs.toArray) w):bodyPost P fn (fun e w'=>∃v,e= .returned v∧R v w') e a w:=by
  have hg:a.tmps.getD p undef= .pointer (some q):=by simp [Array.getD_eq_getD_getElem?,hA.get p _ hp]
  obtain ⟨ti,h3,h4,h5,h6⟩:=hi.eq
  have hrun:(results fn a.tmps).run P w= .ok (.agg vs.toArray) w:=by
    have e1:(results fn a.tmps).run P w=((asAddr (a.tmps.getD p undef)).run P w).andThen fun b w₁=>(loadVar ty b).run P w₁:=by
      simp only [results,hr]
      simp [Sem.run_bind,Result.andThen]
    rw [e1,hg]
    simp [asAddr,loadVar,tK,sizeOf,typeInfo,h3,h5,←hl,run_loadCells_list w q vs (hc w hC),Result.andThen]
  rcases he with rfl|rfl
  · exact bodyPost_ret hrun hA.defers ⟨_,rfl,h⟩
  · exact bodyPost_end hrun hA.defers ⟨_,rfl,h⟩
end Go.Fw
namespace Go.Proofs.YtenlcdokaadobaaGreatDoor
open Go Go.Fw
set_option linter.unusedVariables false
noncomputable def qA (g:Grs) (kd:Int) (s:ByteArray) (fuel:Int):Int × ByteArray × ByteArray:=
  open Classical in if MayP g then ((sX g kd fuel.toNat (uI s)).1,ofB (sX g kd fuel.toNat (uI s)).2.2.out,(sX g kd fuel.toNat (uI s)).2.1) else (4,empS,empS)
theorem kV {g:Grs} {kd:Int} {s:ByteArray} {fuel:Int} (h:MayP g):qA g kd s fuel=((sX g kd fuel.toNat (uI s)).1,ofB (sX g kd fuel.toNat (uI s)).2.2.out,(sX g kd fuel.toNat (uI s)).2.1):=by unfold qA;rw [if_pos h]
theorem runP_f {g:Grs} {kd:Int} {s:ByteArray} {fuel:Int} (h:¬MayP g):qA g kd s fuel=(4,empS,empS):=by unfold qA;rw [if_neg h]
def uC (r:Int × ByteArray × ByteArray):List Value:=xB r.1 r.2.1 r.2.2
def uG (g:Grs) (fuel:Int):List Value:=
  [.slice g.fs.o g.fs.l.length g.fs.c,.slice g.ls.o g.ls.l.length g.ls.c,.slice g.ts.o g.ts.l.length g.ts.c,.slice g.xs.o g.xs.l.length g.xs.c,.slice g.ss.o g.ss.l.length g.ss.c,
   .int .i64 fuel,.slice none 0 0,.pointer none,.map none,.pointer none,.int .i64 0,.pointer none,.pointer none]
structure RunOk (w0:World) (g:Grs) (kd:Int) (n0:Nat) (inp:ByteArray) (c:Cx) (m:Mc) (fu:Int):Prop where
  run:sX g kd n0 (uI inp)=sX g kd fu.toNat m
  mc:McOk g m
  nf:c.nf=g.fs.l.length
  K:∀w,c.K w→Kp w0 noM w
  top:fu≤3000
  b0:65536≤c.bd
  b1:c.bd+fu.toNat≤70000
  sk:m.sk.length+fu.toNat≤3000
  out:m.wd.out.length+fu.toNat≤3000
def RunG (w0:World) (g:Grs) (kd:Int) (n0:Nat) (inp:ByteArray) (bM:Nat) (H:List It) (i:Nat) (w:World):Prop:=
  ∃c m fu,(i=fu.toNat+1∧RunOk w0 g kd n0 inp c m fu)∧MSt w0 c bM g kd fu H m w
def RunE (w0:World) (g:Grs) (kd:Int) (n0:Nat) (inp:ByteArray) (bM:Nat) (H:List It) (w:World):Prop:=
  ∃k r wd fu,sX g kd n0 (uI inp)=(k,r,wd)∧MEnd w0 bM g kd fu H k r wd w
theorem run_next {w0 w:World} {g:Grs} (hss:g.ss.l.length≤9223372036854775807) {kd:Int} {n0:Nat} {inp:ByteArray} {c:Cx} {m:Mc} {fu:Int} {bM:Nat} {H:List It} (hM:MayP g) (h:RunOk w0 g kd n0 inp c m fu) (h0:0<fu) (hS:SrW w0 c bM g kd (fu - 1) H (tT g kd m) w) :
    RunG w0 g kd n0 inp bM H fu.toNat w∨RunE w0 g kd n0 inp bM H w:=by
  obtain ⟨n,hn⟩:∃n,fu.toNat=n+1:=⟨fu.toNat - 1,by omega⟩
  have hn1:(fu - 1).toNat=n:=by omega
  have hrun:=h.run
  have htop:=h.top
  have hb0:=h.b0
  have hb1:=h.b1
  have hsk:=h.sk
  have hout:=h.out
  rw [hn,sX] at hrun
  cases hs:tT g kd m with
  | go m'=>
    rw [hs] at hS hrun
    obtain ⟨d,⟨hle,hbd⟩,hm⟩:=hS
    have hm2:=hm
    obtain ⟨oO,cO,oS,cS,pc,bv,mm,fms,sx,ph,hH,hf,hrest⟩:=hm2
    obtain ⟨o,k,vs,hr,_⟩:=hf
    have hnf:d.nf=g.fs.l.length:=by rw [←hle.nf];exact h.nf
    have hcu:=cur_ok hM h.mc.fm
    have ho:=step_ok hs h.mc (may_ne hM) (fun t ht=>⟨(hcu.edge hss ht).1,(hcu.edge hss ht).2.1⟩) hr.1 (by omega)
    have h1:=ho.sk
    have h2:=ho.out
    have h3:=hle.bd
    refine .inl ⟨d,m',fu - 1,⟨by omega,⟨by rw [hn1];exact hrun,ho.ok,hnf,fun w hw=>h.K w (hle.K w hw),by omega,by omega,by omega,by omega,by omega⟩⟩,hm⟩
  | stop k r wd=>
    rw [hs] at hS hrun
    exact .inr ⟨k,r,wd,fu - 1,hrun,hS⟩
section
attribute [local irreducible] Code.wp wpList Calls Ex Op1 sat bat blk cb own Go.Fw.mp Go.Fw.mpO Go.Fw.mpI Go.Fw.mpE Go.Fw.itr HS Rd Ret wkD Hp Cl Cls Exit.then Exit.inBlock Exit.noGoto bodyPost Go.Fw.flat wk2 Go.Fw.all Go.Fw.owns wpOp
attribute [local irreducible] sk mpK sko mvO xM opM Go.Fw.mset Go.Fw.mv opK w63 frz obI RV xC vA xX uQ

theorem aX (w0 w:World) (H:List It) (c:Cx) (bM p:Nat) (g:Grs) (kd:Int) (s:ByteArray) (fuel:Int) (hH:HS w0 noM (cb bM 86 (yA g kd s none 0 0++uG g fuel)::frz w0 c.K::H) w) (hf:FnR c 0 [] p)
    (hR:RdGs w0 g) (hnf:c.nf=g.fs.l.length) (hne:∀f∈g.fs.l,0<f.bs.l.length) :
    Ret Tryz.prog 26 #[.pointer (some (bat bM 0)),uT 79 p,.iface 2 (.int .i64 0)] w (fun r w'=>
      ∃b m,MapR c (uI s).fm.vs m∧HS w0 noM (cb bM 86 (yA g kd s none 0 0++xA g fuel none 0 0 p b (xV g 0 0) 0 none none)::mp b m::frz w0 c.K::H) w'):=by
  have hspF:Sp g.fs.o g.fs.l.length:=hR.1.1.sp (sz:=2) (zH wM _) (by omega)
  have hv:RV c (.num 0) (.iface 2 (.int .i64 0)):=RV_num (c:=c) (n:=0) ⟨by decide,by decide⟩
  obtain ⟨o,k,vs,hfr,hp,hr2,hvs⟩:=id hf
  have hfl:0<g.fs.l.length:=by omega
  have hgm:g.fs.l.getD (Int.toNat 0) gr0∈g.fs.l:=xP hfl
  have hbl:=hne _ hgm
  have hspB:Sp (g.fs.l.getD (Int.toNat 0) gr0).bs.o (g.fs.l.getD (Int.toNat 0) gr0).bs.l.length:=(hR.2.1 _ hgm).1.1.sp (sz:=6) (zH yS _) (by omega)
  unfold uT
  (refine ENT (N:=41) Tryz.func26 Tryz.ntmps26 ?_;intro a hA)
  repeat' (first|(refine XT ?_;apply XE;(first|(apply zW;rfl));clear hA a;intro a hA)|(refine QT ?_;clear hA a;intro a hA)|refine CT ?_|fail)
  have hb0:(0:Int)<(g.fs.l.getD (Int.toNat 0) gr0).bs.l.length:=by omega
  refine mH (qs [0,1,3,4,6,9,10,11,12,13,14,15,16,17,18,19,20,21] (.one 2 (.two 5 7 (.one 7 (qs [8,22,23,24] .nil)) (.one 5 (qs [8,22,23,24] .nil))))) [25] [] (fun _ _=>False) mixed (by decide +kernel) hH ?_ (fun a w h=>h.elim)
  intro hQ
  replace hH:=hH.drew
  (repeat ((first|(apply oJ hA rfl rfl rfl (by decide) rfl;exact xT rfl)|(apply jT hA rfl rfl rfl (by decide) rfl;first|(apply zF;rfl;exact vE MEMT hp rfl)|(apply zC;rfl;rfl;omega;omega;first|exact hspF|exact hspB)|(apply zF;rfl;refine yG hR.1.1 id (pN ?_);omega)|(apply yJ;rfl)|(apply zK (cs:=#[.pointer (some (bat p 0)),.map (some bV),.pointer (xV g 0 0),.int .i64 0,.pointer none]);rfl;exact FLT;rfl)|exact EXT));clear hA a;intro a hA))
  (refine rE hA rfl rfl rfl (by decide) (vY hH) ?_;clear hA hH;rintro _ w ⟨bV,rfl,hH⟩;refine ⟨hH.tail,?_⟩;intro a hA)
  refine dJ ?_ ?_
  · (apply qT hA rfl rfl rfl;apply vC;rfl;rfl;rfl;exact hH;(repeat constructor);clear hH;rintro _ w hH;refine ⟨hH.tail,?_⟩)
    (apply qT hA rfl rfl rfl;apply vC;rfl;rfl;rfl;exact hH;(repeat constructor);clear hH;rintro _ w hH;refine ⟨hH.tail,?_⟩)
    (repeat ((first|(apply oJ hA rfl rfl rfl (by decide) rfl;exact xT rfl)|(apply jT hA rfl rfl rfl (by decide) rfl;first|(apply zF;rfl;exact vE MEMT hp rfl)|(apply zC;rfl;rfl;omega;omega;first|exact hspF|exact hspB)|(apply zF;rfl;refine yG hR.1.1 id (pN ?_);omega)|(apply yJ;rfl)|(apply zK (cs:=#[.pointer (some (bat p 0)),.map (some bV),.pointer (xV g 0 0),.int .i64 0,.pointer none]);rfl;exact FLT;rfl)|exact EXT));clear hA a;intro a hA))
    (apply oH;(apply yB hA rfl rfl rfl;apply wP (vs:=[.pointer (some (bat p 0)),.map (some bV),.pointer (xV g 0 0),.int .i64 0,.pointer none]) (cs':=yA g kd s none 0 0++xA g fuel none 0 0 p bV (xV g 0 0) 0 none none);rfl;rfl;exact hH;(repeat constructor);clear hH;rintro _ w hH);(repeat' (first|(refine QT ?_;clear hA a;intro a hA)|refine CT ?_|fail)))
    exact rt1 (.inl rfl) rfl hA rfl ⟨bV,_,MapR_new (cl:=(0,[])) hf hv,hH.perm PMT⟩
  · (apply qT hA rfl rfl rfl;apply vC;rfl;rfl;rfl;exact hH;(repeat constructor);clear hH;rintro _ w hH;refine ⟨hH.tail,?_⟩)
    (apply qT hA rfl rfl rfl;apply vC;rfl;rfl;rfl;exact hH;(repeat constructor);clear hH;rintro _ w hH;refine ⟨hH.tail,?_⟩)
    (repeat ((first|(apply oJ hA rfl rfl rfl (by decide) rfl;exact xT rfl)|(apply jT hA rfl rfl rfl (by decide) rfl;first|(apply zF;rfl;exact vE MEMT hp rfl)|(apply zC;rfl;rfl;omega;omega;first|exact hspF|exact hspB)|(apply zF;rfl;refine yG hR.1.1 id (pN ?_);omega)|(apply yJ;rfl)|(apply zK (cs:=#[.pointer (some (bat p 0)),.map (some bV),.pointer (xV g 0 0),.int .i64 0,.pointer none]);rfl;exact FLT;rfl)|exact EXT));clear hA a;intro a hA))
    (apply oH;(apply yB hA rfl rfl rfl;apply wP (vs:=[.pointer (some (bat p 0)),.map (some bV),.pointer (xV g 0 0),.int .i64 0,.pointer none]) (cs':=yA g kd s none 0 0++xA g fuel none 0 0 p bV (xV g 0 0) 0 none none);rfl;rfl;exact hH;(repeat constructor);clear hH;rintro _ w hH);(repeat' (first|(refine QT ?_;clear hA a;intro a hA)|refine CT ?_|fail)))
    exact rt1 (.inl rfl) rfl hA rfl ⟨bV,_,MapR_new2 (cl:=(0,[])) hf hv,hH.perm PMT⟩
end
def uM (op:Int):List Int:=
  if op=6∨op=21∨op=9∨op=20 then [1] else if op=10 then [0] else if op=11 then [6] else if op=12 then [6,0] else if op=13 then [1,0] else if op=14 then [7,1] else if op=15 then [7,1,0] else if op=16 then [7] else if op=17 then [2] else if op=18 then [2,1] else if op=19 then [2,2] else [1,1]
theorem eqSc (a b:ByteArray):eqS a b=eqS b a:=by
  unfold eqS
  rw [Bool.eq_iff_iff,beq_iff_eq,beq_iff_eq]
  exact eq_comm
theorem flatS_one (d:Sd) (l:List Sd):flat Fw.encS l++[.slice d.1 d.2.1 d.2.2]=flat Fw.encS (l++[d]):=by rw [vQ];rfl
theorem StQ.push {c d:Dx} {sds:List Sd} {st:List (List Vl)} {b:Bool} {e:Sd} {l:List Vl} {vs:List Value} (hs:StQ c sds st) (hle:c.le d) (hd:d.ad=c.ad++[b]) (he:e.2.1=l.length) (h2:l.length≤256) (hb:b=true→l.length=1) (hr:∀w,d.K w→Rd w e.1 vs) (hq:QVs d l vs):StQ d (sds++[e]) (st++[l]):=by
  refine ⟨by rw [List.length_append,List.length_append,hs.len];rfl,by rw [hd,List.length_append,List.length_append,hs.ad];rfl,fun i l' e' hl he'=>?_⟩
  rcases Nat.lt_or_ge i st.length with hi|hi
  · rw [List.getElem?_append_left hi] at hl
    rw [List.getElem?_append_left (by rw [hs.len];exact hi)] at he'
    obtain ⟨h1,h3,h4,us,h5,h6⟩:=hs.row i l' e' hl he'
    refine ⟨h1,h3,fun h=>h4 ?_,us,fun w hw=>h5 w (hle.K w hw),h6.mono hle l' us⟩
    rw [hd,List.getElem?_append_left (by rw [hs.ad];exact hi)] at h
    exact h
  · have hi2:i=st.length:=by
      have:=(List.getElem?_eq_some_iff.1 hl).1
      rw [List.length_append,List.length_singleton] at this
      omega
    subst hi2
    rw [List.getElem?_append_right (Nat.le_refl _),Nat.sub_self] at hl
    rw [List.getElem?_append_right (by rw [hs.len];exact Nat.le_refl _),hs.len,Nat.sub_self] at he'
    cases hl
    cases he'
    refine ⟨he,h2,fun h=>hb ?_,vs,hr,hq⟩
    rw [hd,List.getElem?_append_right (by rw [hs.ad];exact Nat.le_refl _),hs.ad,Nat.sub_self] at h
    simpa using h
section
attribute [local irreducible] Code.wp wpList Calls Ex Op1 sat bat blk cb own Go.Fw.mp Go.Fw.mpO Go.Fw.mpI Go.Fw.mpE Go.Fw.itr HS Rd Ret wkD Hp Cl Cls Exit.then Exit.inBlock Exit.noGoto bodyPost Go.Fw.flat wk2 Go.Fw.all Go.Fw.owns wpOp
attribute [local irreducible] sk mpK sko mvO xM xC frz

theorem wJ (w0:World) (n:Int):Ret Tryz.prog 139 #[.int .i64 n] w0 (fun r w=>r= .agg (qk 1 n).toArray∧Kp w0 noM w):=by
  have hH:HS w0 noM [] w0:=HS.init w0 noM
  (refine ENT (N:=5) Tryz.func139 Tryz.ntmps139 ?_;intro a hA)
  repeat' (first|(refine XT ?_;apply XE;(first|(apply zK (cs:=(qk 1 n).toArray);rfl;exact FLT;rfl));clear hA a;intro a hA)|(refine QT ?_;clear hA a;intro a hA)|(refine BT ?_;clear hA hH;rintro _ w ⟨bN,rfl,hH⟩ a hA)|(refine SAT (qk 1 n) hA hH ?_;clear hH;intro w hH)|refine CT ?_|fail)
  exact rH (.inl rfl) rfl hA rfl rfl hH (zD MEMT) ⟨rfl,hH.kp⟩
theorem cR (w0:World) (b:Bool):Ret Tryz.prog 140 #[.bool b] w0 (fun r w=>r= .agg (qk 1 (tru b)).toArray∧Kp w0 noM w):=by
  have hH:HS w0 noM [] w0:=HS.init w0 noM
  (refine ENT (N:=6) Tryz.func140 Tryz.ntmps140 ?_;intro a hA)
  cases b
  · repeat' (first|(refine QT ?_;clear hA a;intro a hA)|(refine BT ?_;clear hA hH;rintro _ w ⟨bN,rfl,hH⟩ a hA)|(refine zJ hA rfl rfl (by decide) (zE rfl rfl rfl (wJ _ _)) ?_;clear hA;rintro _ w ⟨rfl,hk⟩ a hA;replace hH:=hH.keep hk;clear hk)|refine CT ?_|fail)
    repeat' (first|(refine QT ?_;clear hA a;intro a hA)|(refine SAT (qk 1 0) hA hH ?_;clear hH;intro w hH)|refine CT ?_|fail)
    exact rH (.inl rfl) rfl hA rfl rfl hH (zD MEMT) ⟨rfl,hH.kp⟩
  · repeat' (first|(refine QT ?_;clear hA a;intro a hA)|(refine BT ?_;clear hA hH;rintro _ w ⟨bN,rfl,hH⟩ a hA)|(refine zJ hA rfl rfl (by decide) (zE rfl rfl rfl (wJ _ _)) ?_;clear hA;rintro _ w ⟨rfl,hk⟩ a hA;replace hH:=hH.keep hk;clear hk)|refine CT ?_|fail)
    repeat' (first|(refine QT ?_;clear hA a;intro a hA)|(refine SAT (qk 1 1) hA hH ?_;clear hH;intro w hH)|refine CT ?_|fail)
    exact rH (.inl rfl) rfl hA rfl rfl hH (zD MEMT) ⟨rfl,hH.kp⟩
theorem vG (w0 w:World) (H:List It) (g:Grs) (inp s:ByteArray) (oO oS:Option Addr) (nO cO nS cS bW:Nat) (hH:HS w0 noM (cb bW 98 (xE g inp oO nO cO oS nS cS)::H) w) (hx:RdV w0 yQ g.xs) :
    Ret Tryz.prog 158 #[.pointer (some (bat bW 0)),.string s] w (fun r w'=>r= .agg (qk 1 (xC g.xs.l s)).toArray∧HS w0 noM (cb bW 98 (xE g inp oO nO cO oS nS cS)::H) w'):=by
  have hsp:Sp g.xs.o g.xs.l.length:=hx.1.sp (sz:=1) (zH wC _) (by omega)
  have hlx:=hx.le
  (refine ENT (N:=27) Tryz.func158 Tryz.ntmps158 ?_;intro a hA)
  repeat' (first|(refine QT ?_;clear hA a;intro a hA)|(refine BT ?_;clear hA hH;rintro _ w ⟨bN,rfl,hH⟩ a hA)|refine CT ?_|fail)
  refine zU (S:=Nat) (fun i a w=>(i≤g.xs.l.length∧∀k,k<i→eqS s (g.xs.l.getD k default)=false)∧HS w0 noM (cb bN 103 qz::cb bW 98 (xE g inp oO nO cO oS nS cS)::H) w∧Sl 27 [(5,.int .i64 i),(4,.pointer (some (bat bN 0))),(0,.pointer (some (bat bW 0))),(1,.string s)] a) (fun i=>g.xs.l.length - i)
    (fun a w=>xC g.xs.l s= -1∧HS w0 noM (cb bN 103 qz::cb bW 98 (xE g inp oO nO cO oS nS cS)::H) w∧Sl 27 [(4,.pointer (some (bat bN 0))),(0,.pointer (some (bat bW 0))),(1,.string s)] a) 0 ⟨⟨Nat.zero_le _,fun k h=>absurd h (Nat.not_lt_zero _)⟩,hH,(hA.sub SBT)⟩ ?_ ?_
  · clear hA hH
    rintro i a w ⟨⟨hi,hno⟩,hH,hA⟩
    by_cases hlt:i<g.xs.l.length
    rotate_left
    · obtain rfl:i=g.xs.l.length:=by omega
      repeat' (first|(refine QT ?_;clear hA a;intro a hA)|refine CT ?_|(refine DT ?_ ?_<;>intro hc<;>try (exfalso;omega))|fail)
      exact ⟨jH hno,hH,(hA.sub SBT)⟩
    have hv:=vD hlt
    repeat' (first|(refine XT ?_;apply XE;(first|(apply uK;rfl;rfl)|(apply zB;rfl;rfl;omega;exact hsp)|(apply zF;rfl;exact yG hx.1 id hv));clear hA a;intro a hA)|(refine QT ?_;clear hA a;intro a hA)|refine CT ?_|(refine DT ?_ ?_<;>intro hc<;>try (exfalso;omega))|fail)
    · have he:eqS s (g.xs.l.getD i default)=true:=(eqSc _ _).trans (by assumption)
      (refine zJ hA rfl rfl (by decide) (zE rfl rfl rfl (wJ _ _)) ?_;clear hA;rintro _ w ⟨rfl,hk⟩ a hA;replace hH:=hH.keep hk;clear hk)
      repeat' (first|(refine QT ?_;clear hA a;intro a hA)|(refine SAT (qk 1 (i:Int)) hA hH ?_;clear hH;intro w hH)|refine CT ?_|fail)
      exact rH (vs:=qk 1 (i:Int)) (.inl rfl) rfl hA rfl rfl hH (zD MEMT) ⟨by rw [idx_at hno hlt he],hH.tail⟩
    · have he:eqS s (g.xs.l.getD i default)=false:=(eqSc _ _).trans (by assumption)
      exact ⟨i+1,⟨⟨hlt,wH (p:=fun k=>eqS s (g.xs.l.getD k default)=false) hno he⟩,hH,(hA.sub SBT)⟩,by omega⟩
  clear hA hH
  rintro a w ⟨he,hH,hA⟩
  repeat' (first|(refine QT ?_;clear hA a;intro a hA)|(refine zJ hA rfl rfl (by decide) (zE rfl rfl rfl (wJ _ _)) ?_;clear hA;rintro _ w ⟨rfl,hk⟩ a hA;replace hH:=hH.keep hk;clear hk)|refine CT ?_|fail)
  repeat' (first|(refine QT ?_;clear hA a;intro a hA)|(refine SAT (qk 1 (-1)) hA hH ?_;clear hH;intro w hH)|refine CT ?_|fail)
  exact rH (vs:=qk 1 (-1)) (.inl rfl) rfl hA rfl rfl hH (zD MEMT) ⟨by rw [he],hH.tail⟩
theorem Kinds_spec (w0:World) (op:Int):Ret Tryz.prog 156 #[.int .i64 op] w0 (fun r w=>∃o,r= .slice o (uM op).length (uM op).length∧HS w0 noM [own 3 1 o (uM op).length (uM op).length ((uM op).map (Value.int .i64))] w):=by
  have hH:HS w0 noM [] w0:=HS.init w0 noM
  (refine ENT (N:=41) Tryz.func156 Tryz.ntmps156 ?_;intro a hA)
  repeat' (first|(refine QT ?_;clear hA a;intro a hA)|(refine LT ?_;clear hA hH;rintro _ w ⟨oN,rfl,hH⟩ a hA)|refine CT ?_|(refine DT ?_ ?_<;>intro hc<;>try (exfalso;omega))|fail)
  all_goals
    refine rt1 (.inl rfl) rfl hA rfl ⟨oN,?_⟩
    unfold uM
    (repeat (first|rw [if_pos (by omega)]|rw [if_neg (by omega)]))
    exact ⟨rfl,hH⟩
theorem lK (w0 w:World) (H:List It) (c:Dx) (g:Grs) (wd:Wd) (bW:Nat) (b:Bool) (k:Int) (ol:Option Addr) (cl:Nat) (l:List Vl) (vs:List Value) (hS:WSt w0 c bW g wd H w) (hst:wd.st.length≤1000000) (hl:l.length≤256) (hb:b=true→l.length=1) (hr:∀w,c.K w→Rd w ol vs) (hq:QVs c l vs) :
    Ret Tryz.prog 157 #[.pointer (some (bat bW 0)),.int .i64 k,.slice ol l.length cl] w (fun r w'=>r= .agg (qk k wd.st.length).toArray∧WSt w0 {c with ad:=c.ad++[b]} bW g {wd with st:=wd.st++[l]} H w'):=by
  obtain ⟨oO,cO,oS,cS,sds,hH,hQ⟩:=hS
  have hle:c.le {c with ad:=c.ad++[b]}:=⟨fun _ h=>h,⟨[b],rfl⟩,Nat.le_refl _,rfl⟩
  (refine ENT (N:=25) Tryz.func157 Tryz.ntmps157 ?_;intro a hA)
  repeat' (first|(refine QT ?_;clear hA a;intro a hA)|(refine BT ?_;clear hA hH;rintro _ w ⟨bN,rfl,hH⟩ a hA)|(refine LT ?_;clear hA hH;rintro _ w ⟨oN,rfl,hH⟩ a hA)|(refine AT ?_;clear hA;rintro _ w ⟨oN,cN,rfl,hH2⟩ a hA;clear hH;have hH:=(hH2 _ (by (repeat constructor))).tail;clear hH2)|(apply zT hA rfl rfl;apply zG (cs':=xE g wd.inp oO wd.out.length cO oN (wd.st.length+1) cN);rfl;rfl;rfl;exact hH;(repeat constructor);clear hH;rintro _ w hH)|refine CT ?_|fail)
  have hlen:(wd.st++[l]).length=wd.st.length+1:=by rw [List.length_append];rfl
  repeat' (first|(refine XT ?_;apply XE;(first|(apply zK (cs:=(qk k wd.st.length).toArray);rfl;exact FLT;rfl));clear hA a;intro a hA)|(refine QT ?_;clear hA a;intro a hA)|(refine SAT (qk k wd.st.length) hA hH ?_;clear hH;intro w hH)|refine CT ?_|fail)
  refine rH (.inl rfl) rfl hA rfl rfl hH (zD MEMT) ⟨rfl,oO,cO,oN,cN,sds++[(ol,l.length,cl)],?_,hQ.push hle rfl rfl hl hb hr (hq.mono hle l vs)⟩
  rw [flatS_one (ol,l.length,cl) sds] at hH
  rw [hlen]
  exact hH.tail
end
theorem wrap64 (n:Int):IntKind.i64.wrap n=if 9223372036854775808≤n % 18446744073709551616 then n % 18446744073709551616 - 18446744073709551616 else n % 18446744073709551616:=by
  show (if (true && decide (n % 18446744073709551616≥9223372036854775808))=true then _ else _)=_
  simp only [Bool.true_and,decide_eq_true_eq,ge_iff_le]
  rfl
theorem mI (n:Int):w63 n=(n+4611686018427387904) % 9223372036854775808 - 4611686018427387904:=by
  have e:w63 n=(IntKind.i64.wrap (n*2)).fdiv 2:=rfl
  rw [e,Int.fdiv_eq_ediv_of_nonneg _ (by decide),wrap64]
  split<;>omega
theorem pP (n:Int):-4611686018427387904≤w63 n∧w63 n≤4611686018427387903:=by rw [mI];omega
theorem kC (n:Int):∃k,w63 n=n+k*9223372036854775808:=⟨-((n+4611686018427387904) / 9223372036854775808),by rw [mI];omega⟩
theorem w63_of {m n k:Int} (h:m=n+k*9223372036854775808):w63 m=w63 n:=by rw [mI,mI,h];omega
theorem kN {n:Int} (h:-4611686018427387904≤n∧n≤4611686018427387903):w63 n=n:=by rw [mI];omega
theorem w63_i64 (n:Int):w63 (pJ n)=w63 n:=by
  have e:∃k,pJ n=n+k*18446744073709551616:=⟨(pJ n - n) / 18446744073709551616,by unfold pJ;rw [wrap64];split<;>omega⟩
  obtain ⟨k,hk⟩:=e
  exact w63_of (k:=k*2) (by rw [hk];omega)
theorem mul_turn {n a h r x0:Int} (hr:w63 (n+a* (2*h+r))=x0):w63 (w63 (n+r*a)+w63 (w63 a+w63 a)*h)=x0:=by
  obtain ⟨k1,h1⟩:=kC (n+r*a)
  obtain ⟨k2,h2⟩:=kC (w63 a+w63 a)
  obtain ⟨k3,h3⟩:=kC a
  rw [←hr]
  refine w63_of (k:=k1+(k2+2*k3)*h) ?_
  rw [h1,h2,h3]
  have e1:a* (2*h+r)=2* (a*h)+r*a:=by rw [Int.mul_add,Int.mul_comm a r,Int.mul_left_comm]
  have e2:(a+k3*9223372036854775808+(a+k3*9223372036854775808)+k2*9223372036854775808)*h=2* (a*h)+(k2+2*k3)*h*9223372036854775808:=by
    have:a+k3*9223372036854775808+(a+k3*9223372036854775808)+k2*9223372036854775808=2*a+(k2+2*k3)*9223372036854775808:=by omega
    rw [this,Int.add_mul,Int.mul_assoc,Int.mul_right_comm]
  rw [e1,e2]
  omega
theorem half_abs (b:Int):(b.natAbs:Int)=2* ((b.tdiv 2).natAbs:Int)+(if b.tmod 2=0 then 0 else 1):=by
  have h:=Int.mul_tdiv_add_tmod b 2
  rcases Int.le_total 0 b with hb|hb
  · have h1:=Int.tdiv_nonneg hb (show (0:Int)≤2 by decide)
    have h2:=Int.tmod_nonneg 2 hb
    have h3:=Int.tmod_lt_of_pos b (show (0:Int)<2 by decide)
    split<;>omega
  · obtain ⟨c,rfl⟩:∃c,b= -c:=⟨-b,by omega⟩
    have hc:0≤c:=by omega
    rw [Int.neg_tdiv,Int.neg_tmod] at *
    have h1:=Int.tdiv_nonneg hc (show (0:Int)≤2 by decide)
    have h2:=Int.tmod_nonneg 2 hc
    have h3:=Int.tmod_lt_of_pos c (show (0:Int)<2 by decide)
    split<;>omega
theorem tmod_sub {a b:Int} (ha:-4611686018427387904≤a∧a≤4611686018427387903) (hb:b≠0):pJ (a - pJ (pJ (a.tdiv b)*b))=a.tmod b∧w63 (a.tmod b)=a.tmod b:=by
  have h1:=Int.mul_tdiv_add_tmod a b
  have hq:(a.tdiv b).natAbs≤a.natAbs:=by rw [Int.natAbs_tdiv];exact Nat.div_le_self _ _
  have hm:(a.tmod b).natAbs≤a.natAbs:=by rw [Int.natAbs_tmod];exact Nat.mod_le _ _
  have hs:(0≤a→0≤a.tmod b)∧(a≤0→a.tmod b≤0):=⟨fun h=>Int.tmod_nonneg b h,fun h=>by
    have h2:=Int.tmod_nonneg b (show 0≤-a by omega)
    rw [Int.neg_tmod] at h2;omega⟩
  have e:pJ (a.tdiv b)=a.tdiv b:=wA (by unfold uA;omega)
  have e2:a.tdiv b*b=a - a.tmod b:=by rw [Int.mul_comm];omega
  have e3:pJ (a - a.tmod b)=a - a.tmod b:=wA (by unfold uA;omega)
  refine ⟨?_,kN (by omega)⟩
  rw [e,e2,e3,show a - (a - a.tmod b)=a.tmod b by omega]
  exact wA (by unfold uA;omega)
section
attribute [local irreducible] Code.wp wpList Calls Ex Op1 sat bat blk cb own Go.Fw.mp Go.Fw.mpO Go.Fw.mpI Go.Fw.mpE Go.Fw.itr HS Rd Ret wkD Hp Cl Cls Exit.then Exit.inBlock Exit.noGoto bodyPost Go.Fw.flat wk2 Go.Fw.all Go.Fw.owns wpOp
attribute [local irreducible] sk mpK sko mvO xM w63

theorem Wrap1_spec (w0:World) (n:Int) (hn:iok n):Ret Tryz.prog 167 #[.int .i64 n] w0 (fun r w=>r= .int .i64 (w63 n)∧Kp w0 noM w):=by
  have hH:HS w0 noM [] w0:=HS.init w0 noM
  unfold iok at hn
  (refine ENT (N:=16) Tryz.func167 Tryz.ntmps167 ?_;intro a hA)
  repeat' (first|(refine QT ?_;clear hA a;intro a hA)|refine CT ?_|(refine DT ?_ ?_<;>intro hc<;>try (exfalso;omega))|fail)
  all_goals exact rt1 (.inl rfl) rfl hA rfl ⟨by rw [mI];congr 1;omega,hH.kp⟩
theorem dW (w0:World) (b:Bool):Ret Tryz.prog 169 #[.bool b] w0 (fun r w=>r= .int .i64 (tru b)∧Kp w0 noM w):=by
  have hH:HS w0 noM [] w0:=HS.init w0 noM
  (refine ENT (N:=4) Tryz.func169 Tryz.ntmps169 ?_;intro a hA)
  cases b
  all_goals
    repeat' (first|(refine QT ?_;clear hA a;intro a hA)|refine CT ?_|fail)
    exact rt1 (.inl rfl) rfl hA rfl ⟨rfl,hH.kp⟩
theorem mul1_spec (w0:World) (m0 n0:Int) (ha:-4611686018427387904≤m0∧m0≤4611686018427387903) (hb:-4611686018427387904≤n0∧n0≤4611686018427387903):Ret Tryz.prog 168 #[.int .i64 m0,.int .i64 n0] w0 (fun r w=>r= .int .i64 (w63 (m0*n0))∧Kp w0 noM w):=by
  have hH:HS w0 noM [] w0:=HS.init w0 noM
  (refine ENT (N:=31) Tryz.func168 Tryz.ntmps168 ?_;intro a hA)
  repeat' (first|(refine QT ?_;clear hA a;intro a hA)|refine CT ?_|fail)
  refine zU (S:=Int × Int × Int) (fun s a' w=>((-4611686018427387904≤s.1∧s.1≤4611686018427387903)∧(-4611686018427387904≤s.2.1∧s.2.1≤4611686018427387903)∧(-4611686018427387904≤s.2.2∧s.2.2≤4611686018427387903)∧w63 (s.1+s.2.1* (s.2.2.natAbs:Int))=w63 (m0* (n0.natAbs:Int)))∧HS w0 noM [] w∧Sl 31 [(5,.int .i64 s.1),(0,.int .i64 s.2.1),(1,.int .i64 s.2.2),(6,.bool (decide (n0<0)))] a') (fun s=>s.2.2.natAbs)
    (fun a' w=>HS w0 noM [] w∧Sl 31 [(5,.int .i64 (w63 (m0* (n0.natAbs:Int)))),(6,.bool (decide (n0<0)))] a') (0,m0,n0) ⟨⟨by dsimp only;omega,ha,hb,by rw [Int.zero_add]⟩,hH,(hA.sub SBT)⟩ ?_ ?_
  · clear hA hH
    rintro ⟨n,x,y⟩ a' w ⟨⟨hn,hx,hy,hinv⟩,hH,hA⟩
    dsimp only at hn hx hy hinv hA ⊢
    have hh:=half_abs y
    by_cases hy0:y=0
    · subst hy0
      repeat' (first|(refine QT ?_;clear hA a;intro a hA)|refine CT ?_|fail)
      rw [show ((0:Int).natAbs:Int)=0 from rfl,Int.mul_zero,Int.add_zero,kN hn] at hinv
      exact ⟨hH,by rw [←hinv];exact (hA.sub SBT)⟩
    have hlt:(y.tdiv 2).natAbs<y.natAbs:=by
      have:((if y.tmod 2=0 then 0 else 1:Int))≥0:=by split<;>decide
      omega
    have htd:pJ (y.tdiv 2)=y.tdiv 2:=wA (by unfold uA;omega)
    have hw1:=pP x
    have hw2:=pP (w63 x+w63 x)
    have e1:w63 x=x:=kN hx
    rw [hh] at hinv
    have ht:=mul_turn hinv
    by_cases hr:y.tmod 2=0
    · rw [if_pos hr,Int.zero_mul,Int.add_zero,kN hn] at ht
      repeat' (first|(refine XT ?_;apply XE;(first|(apply pX;rfl;rfl;decide)|(apply qN;rfl;rfl;decide));clear hA a;intro a hA)|(refine QT ?_;clear hA a;intro a hA)|(refine zJ hA rfl rfl (by decide) (zE rfl rfl rfl (Wrap1_spec _ _ (by unfold iok;omega))) ?_;clear hA;rintro _ w ⟨rfl,hk⟩ a hA;replace hH:=hH.keep hk;clear hk)|refine CT ?_|(refine DT ?_ ?_<;>intro hc<;>try (exfalso;omega))|fail)
      refine ⟨(n,w63 (w63 x+w63 x),y.tdiv 2),⟨⟨hn,hw2,?_,ht⟩,hH,?_⟩,hlt⟩
      · dsimp only;omega
      · dsimp only;rw [←htd];exact (hA.sub SBT)
    · rw [if_neg hr,Int.one_mul] at ht
      have hw3:=pP (n+x)
      repeat' (first|(refine XT ?_;apply XE;(first|(apply pX;rfl;rfl;decide)|(apply qN;rfl;rfl;decide));clear hA a;intro a hA)|(refine QT ?_;clear hA a;intro a hA)|(refine zJ hA rfl rfl (by decide) (zE rfl rfl rfl (Wrap1_spec _ _ (by unfold iok;omega))) ?_;clear hA;rintro _ w ⟨rfl,hk⟩ a hA;replace hH:=hH.keep hk;clear hk)|refine CT ?_|(refine DT ?_ ?_<;>intro hc<;>try (exfalso;omega))|fail)
      refine ⟨(w63 (n+x),w63 (w63 x+w63 x),y.tdiv 2),⟨⟨hw3,hw2,?_,ht⟩,hH,?_⟩,hlt⟩
      · dsimp only;omega
      · dsimp only;rw [←htd];exact (hA.sub SBT)
  clear hA hH
  rintro a' w ⟨hH,hA⟩
  have hw:=pP (m0* (n0.natAbs:Int))
  by_cases hb0:n0<0
  · have e:w63 (0 - w63 (m0* (n0.natAbs:Int)))=w63 (m0*n0):=by
      obtain ⟨k,hk⟩:=kC (m0* (n0.natAbs:Int))
      refine w63_of (k:=-k) ?_
      rw [hk,show (n0.natAbs:Int)= -n0 by omega,Int.mul_neg]
      omega
    repeat' (first|(refine QT ?_;clear hA a;intro a hA)|(refine zJ hA rfl rfl (by decide) (zE rfl rfl rfl (Wrap1_spec _ _ (by unfold iok;omega))) ?_;clear hA;rintro _ w ⟨rfl,hk⟩ a hA;replace hH:=hH.keep hk;clear hk)|refine CT ?_|(refine DT ?_ ?_<;>intro hc<;>try (exfalso;omega))|fail)
    exact rt1 (.inl rfl) rfl hA rfl ⟨by rw [e],hH.kp⟩
  · repeat' (first|(refine QT ?_;clear hA a;intro a hA)|refine CT ?_|(refine DT ?_ ?_<;>intro hc<;>try (exfalso;omega))|fail)
    exact rt1 (.inl rfl) rfl hA rfl ⟨by rw [show (n0.natAbs:Int)=n0 by omega],hH.kp⟩
theorem iok_i64 (n:Int):iok (IntKind.i64.wrap n):=by unfold iok;rw [wrap64];split<;>omega
theorem iok_63 (n:Int):iok (w63 n):=by have:=pP n;unfold iok;omega
theorem w63_tru (b:Bool):w63 (tru b)=tru b:=by cases b<;>exact kN (by decide)
theorem Do1_spec (w0:World) (op m n:Int) (hm:iok m) (hn:iok n):Ret Tryz.prog 159 #[.int .i64 op,.int .i64 m,.int .i64 n] w0 (fun v w=>Kp w0 noM w∧
    ((∃x,doF op m n=some x∧v= .tuple #[.int .i64 x,.int .i64 0])∨(∃e:Int,e≠0∧doF op m n=none∧v= .tuple #[.int .i64 0,.int .i64 e]))):=by
  have hH:HS w0 noM [] w0:=HS.init w0 noM
  have h1:=pP m
  have h2:=pP n
  (refine ENT (N:=70) Tryz.func159 Tryz.ntmps159 ?_;intro a hA)
  repeat' (first|(refine XT ?_;apply XE;(first|(apply dD;rfl;rfl;rfl)|(apply ex_subK;rfl;rfl;rfl)|(apply dB;rfl;rfl;rfl)|(apply qN;rfl;rfl;assumption));clear hA a;intro a hA)|(refine QT ?_;clear hA a;intro a hA)|(refine zJ hA rfl rfl (by decide) (zE rfl rfl rfl (Wrap1_spec _ _ (by first|exact hm|exact hn|exact iok_i64 _|exact iok_63 _))) ?_;clear hA;rintro _ w ⟨rfl,hk⟩ a hA;replace hH:=hH.keep hk;clear hk)|(refine zJ hA rfl rfl (by decide) (zE rfl rfl rfl (mul1_spec _ _ _ h1 h2)) ?_;clear hA;rintro _ w ⟨rfl,hk⟩ a hA;replace hH:=hH.keep hk;clear hk)|(refine zJ hA rfl rfl (by decide) (zE rfl rfl rfl (dW _ _)) ?_;clear hA;rintro _ w ⟨rfl,hk⟩ a hA;replace hH:=hH.keep hk;clear hk)|refine CT ?_|(refine DT ?_ ?_<;>intro hc<;>try (exfalso;omega))|fail)
  all_goals first
    |exact rt2 (.inl rfl) rfl hA rfl rfl ⟨hH.kp,.inr ⟨_,(by decide),(by unfold doF;(repeat (first|rw [if_pos (by omega)]|rw [if_neg (by omega)]))),rfl⟩⟩
    |exact rt2 (.inl rfl) rfl hA rfl rfl ⟨hH.kp,.inl ⟨_,(by unfold doF opG;(repeat (first|rw [if_pos (by omega)]|rw [if_neg (by omega)]));first|rfl|(rw [Int.zero_sub]<;>rfl)|rw [w63_tru]|rw [w63_i64]),rfl⟩⟩
    |skip
  all_goals
    have h5:=tmod_sub (b:=w63 n) h1 (by assumption)
    exact rt2 (.inl rfl) rfl hA rfl rfl ⟨hH.kp,.inl ⟨_,(by unfold doF opG;(repeat (first|rw [if_pos (by omega)]|rw [if_neg (by omega)]));rw [h5.2];exact congrArg some h5.1.symm),rfl⟩⟩
end
theorem dec_le (u:Nat):(Lib.decDigits u).length≤u+1:=by
  induction u using Nat.strongRecOn with
  | _ u ih=>
    rw [Lib.decDigits]
    split
    · show 1≤u+1;omega
    · rw [List.length_append]
      have:=ih (u / 10) (by omega)
      show _+1≤_
      omega
theorem pD (n:Int):(xX n).size≤n.natAbs+2:=by
  show (Lib.itoa n).toArray.size≤_
  rw [List.size_toArray]
  unfold Lib.itoa
  split
  · rw [List.length_cons];have:=dec_le n.natAbs;omega
  · have:=dec_le n.toNat;omega
theorem dR (a b:List UInt8):(⟨(a++b).toArray⟩:ByteArray)=⟨a.toArray⟩++⟨b.toArray⟩:=by
  apply ByteArray.ext
  rw [ByteArray.data_append]
  simp
theorem itoa_dig {n:Int} (h:0≤n∧n<10):xX n=ofB [(48+n).toNat]:=by
  unfold xX Lib.itoa ofB
  rw [if_neg (by omega),Lib.decDigits,dif_pos (by omega)]
  congr 3
  rw [show (48+n).toNat=48+n.toNat by omega]
theorem itoa_pos {n:Int} (h:10≤n):xX n=xX (n.tdiv 10)++xX (n.tmod 10):=by
  have e1:n.tdiv 10=((n.toNat / 10:Nat):Int):=by rw [Int.tdiv_eq_ediv_of_nonneg (by omega)];omega
  have e2:n.tmod 10=((n.toNat % 10:Nat):Int):=by rw [Int.tmod_eq_emod_of_nonneg (by omega)];omega
  unfold xX Lib.itoa
  rw [if_neg (by omega),if_neg (by omega),if_neg (by omega),e1,e2,←dR,Int.toNat_natCast,Int.toNat_natCast,Lib.decDigits,dif_neg (by omega),Lib.decDigits_one (i:=n.toNat % 10) (by omega)]
theorem itoa_neg {n:Int} (h:n≤-10):xX n=xX (n.tdiv 10)++xX (0 - n.tmod 10):=by
  obtain ⟨m,rfl⟩:∃m:Nat,n= -(m:Int):=⟨n.natAbs,by omega⟩
  have e1:(-(m:Int)).tdiv 10= -((m / 10:Nat):Int):=by rw [Int.neg_tdiv,Int.tdiv_eq_ediv_of_nonneg (by omega)];omega
  have e2:0 - (-(m:Int)).tmod 10=((m % 10:Nat):Int):=by rw [Int.neg_tmod,Int.tmod_eq_emod_of_nonneg (by omega)];omega
  unfold xX Lib.itoa
  rw [e1,e2,if_pos (by omega),if_pos (by omega),if_neg (by omega),←dR,Int.toNat_natCast,Int.natAbs_neg,Int.natAbs_neg,Int.natAbs_natCast,Int.natAbs_natCast,Lib.decDigits,dif_neg (by omega),Lib.decDigits_one (i:=m % 10) (by omega)]
  rfl
theorem itoa_one {n:Int} (h:-10<n∧n<0):xX n=⟨#[45]⟩++xX (0 - n):=by
  unfold xX Lib.itoa
  rw [if_pos (by omega),if_neg (by omega),show (⟨#[45]⟩:ByteArray)=⟨([45]:List UInt8).toArray⟩ from rfl,←dR,show (0 - n).toNat=n.natAbs by omega]
  rfl
theorem flatY1 (n:Nat):[Value.int .u8 n]=flat zY [n]:=rfl
theorem flatY2 (m n:Nat):[Value.int .u8 m,Value.int .u8 n]=flat zY [m,n]:=rfl
theorem u8_id {n:Int} (h:0≤n∧n<256):IntKind.u8.wrap n=(n.toNat:Int):=by
  show n % 256=_
  omega
theorem qF (l:List Nat):(ofB l).size=l.length:=by unfold ofB;show (l.map UInt8.ofNat).toArray.size=_;simp
theorem q34:ofB (vI 34)=⟨#[92,34]⟩:=by decide +kernel
theorem q92:ofB (vI 92)=⟨#[92,92]⟩:=by decide +kernel
theorem q10:ofB (vI 10)=⟨#[92,110]⟩:=by decide +kernel
theorem ofB_app (a b:List Nat):ofB (a++b)=ofB a++ofB b:=by unfold ofB;rw [List.map_append,dR]
theorem flatY34:[Value.int .u8 34]=flat zY [34]:=rfl
theorem bts_ofB {l:List Nat} (h:∀x∈l,x<256):bts (ofB l)=l:=by
  unfold bts ofB
  rw [List.map_map]
  conv=>rhs;rw [←List.map_id l]
  refine List.map_congr_left fun x hx=>?_
  exact UInt8.toNat_ofNat_of_lt' (h x hx)
theorem quo16 {c:Nat} (h:c<256):IntKind.u8.wrap ((c:Int).tdiv 16)=((c / 16:Nat):Int):=by
  rw [Int.tdiv_eq_ediv_of_nonneg (by omega),u8_id (by omega)];omega
theorem rem16 {c:Nat} (h:c<256):(c:Int).tmod 16=((c % 16:Nat):Int):=by rw [Int.tmod_eq_emod_of_nonneg (by omega)];omega
section
attribute [local irreducible] Code.wp wpList Calls Ex Op1 sat bat blk cb own Go.Fw.mp Go.Fw.mpO Go.Fw.mpI Go.Fw.mpE Go.Fw.itr HS Rd Ret wkD Hp Cl Cls Exit.then Exit.inBlock Exit.noGoto bodyPost Go.Fw.flat wk2 Go.Fw.all Go.Fw.owns wpOp
attribute [local irreducible] sk mpK sko mvO xM w63 xX ofB

theorem Text1_dig (w0:World) (n:Int) (hn:0≤n∧n<10):Ret Tryz.prog 103 #[.int .i64 n] w0 (fun r w=>r= .string (xX n)∧Kp w0 noM w):=by
  have hH:HS w0 noM [] w0:=HS.init w0 noM
  (refine ENT (N:=41) Tryz.func103 Tryz.ntmps103 ?_;intro a hA)
  repeat' (first|(refine GT ?_ ?_<;>intro hg<;>clear hA a<;>intro a hA<;>(first|exact FA|replace hg:=dTr hg|replace hg:=dFa hg|skip))|(refine XT ?_;apply XE;(first|(apply wL;rfl;exact u8_id (by omega)));clear hA a;intro a hA)|(refine QT ?_;clear hA a;intro a hA)|(refine LT ?_;clear hA hH;rintro _ w ⟨oN,rfl,hH⟩ a hA)|refine CT ?_|(refine DT ?_ ?_<;>intro hc<;>try (exfalso;omega))|fail)
  rw [flatY1] at hH
  repeat' (first|(refine XT ?_;apply XE;(first|(apply uY (l':=[(48+n).toNat]);rfl;rfl;exact fun w h=>h.own_rd (T:=5) MEMT));clear hA a;intro a hA)|(refine QT ?_;clear hA a;intro a hA)|refine CT ?_|fail)
  exact rt1 (.inl rfl) rfl hA rfl ⟨by rw [itoa_dig hn],hH.kp⟩
theorem Text1_spec (w0:World) (n:Int) (hn:iok n):Ret Tryz.prog 103 #[.int .i64 n] w0 (fun r w=>r= .string (xX n)∧Kp w0 noM w):=by
  obtain ⟨m,hm⟩:∃m,m=n.natAbs:=⟨_,rfl⟩
  induction m using Nat.strongRecOn generalizing w0 n with
  | _ m ih=>
    by_cases hd:0≤n∧n<10
    · exact Text1_dig w0 n hd
    have hH:HS w0 noM [] w0:=HS.init w0 noM
    unfold iok at hn
    by_cases h1:-10<n∧n<0
    · (refine ENT (N:=41) Tryz.func103 Tryz.ntmps103 ?_;intro a hA)
      repeat' (first|(refine GT ?_ ?_<;>intro hg<;>clear hA a<;>intro a hA<;>(first|exact FA|replace hg:=dTr hg|replace hg:=dFa hg|skip))|(refine QT ?_;clear hA a;intro a hA)|(refine zJ hA rfl rfl (by decide) (zE rfl rfl rfl (Text1_dig _ _ (by omega))) ?_;clear hA;rintro _ w ⟨rfl,hk⟩ a hA;replace hH:=hH.keep hk;clear hk)|refine CT ?_|(refine DT ?_ ?_<;>intro hc<;>try (exfalso;omega))|fail)
      repeat' (first|(refine XT ?_;apply XE;(first|(apply sI;rfl;rfl;have:=pD (0 - n);show 1+_≤_;omega));clear hA a;intro a hA)|(refine QT ?_;clear hA a;intro a hA)|refine CT ?_|fail)
      exact rt1 (.inl rfl) rfl hA rfl ⟨congrArg Value.string (itoa_one h1).symm,hH.kp⟩
    have hq:(n.tdiv 10).natAbs=n.natAbs / 10:=Int.natAbs_tdiv n 10
    have hr:(n.tmod 10).natAbs=n.natAbs % 10:=Int.natAbs_tmod n 10
    have hwq:IntKind.i64.wrap (n.tdiv 10)=n.tdiv 10:=wA (by unfold uA;omega)
    have hz:=pD (n.tdiv 10)
    by_cases h2:n<0
    · have hs:n.tmod 10≤0:=by
        have h3:=Int.tmod_nonneg 10 (show 0≤-n by omega)
        rw [Int.neg_tmod] at h3;omega
      have hz2:=pD (0 - n.tmod 10)
      (refine ENT (N:=41) Tryz.func103 Tryz.ntmps103 ?_;intro a hA)
      repeat' (first|(refine GT ?_ ?_<;>intro hg<;>clear hA a<;>intro a hA<;>(first|exact FA|replace hg:=dTr hg|replace hg:=dFa hg|skip))|(refine XT ?_;apply XE;(first|(apply qN;rfl;rfl;decide));clear hA a;intro a hA)|(refine QT ?_;clear hA a;intro a hA)|refine CT ?_|(refine DT ?_ ?_<;>intro hc<;>try (exfalso;omega))|fail)
      rw [hwq] at hA
      (refine zJ hA rfl rfl (by decide) (zE rfl rfl rfl (ih (n.tdiv 10).natAbs (by omega) _ _ (by unfold iok;omega) rfl)) ?_;clear hA;rintro _ w ⟨rfl,hk⟩ a hA;replace hH:=hH.keep hk;clear hk)
      repeat' (first|(refine XT ?_;apply XE;(first|(apply pX;rfl;rfl;decide));clear hA a;intro a hA)|(refine QT ?_;clear hA a;intro a hA)|(refine zJ hA rfl rfl (by decide) (zE rfl rfl rfl (Text1_dig _ _ (by omega))) ?_;clear hA;rintro _ w ⟨rfl,hk⟩ a hA;replace hH:=hH.keep hk;clear hk)|fail)
      repeat' (first|(refine XT ?_;apply XE;(first|(apply sI;rfl;rfl;omega));clear hA a;intro a hA)|(refine QT ?_;clear hA a;intro a hA)|refine CT ?_|fail)
      exact rt1 (.inl rfl) rfl hA rfl ⟨congrArg Value.string (itoa_neg (by omega)).symm,hH.kp⟩
    · have hs:0≤n.tmod 10:=Int.tmod_nonneg 10 (by omega)
      have hz2:=pD (n.tmod 10)
      (refine ENT (N:=41) Tryz.func103 Tryz.ntmps103 ?_;intro a hA)
      repeat' (first|(refine GT ?_ ?_<;>intro hg<;>clear hA a<;>intro a hA<;>(first|exact FA|replace hg:=dTr hg|replace hg:=dFa hg|skip))|(refine XT ?_;apply XE;(first|(apply qN;rfl;rfl;decide));clear hA a;intro a hA)|(refine QT ?_;clear hA a;intro a hA)|refine CT ?_|(refine DT ?_ ?_<;>intro hc<;>try (exfalso;omega))|fail)
      rw [hwq] at hA
      (refine zJ hA rfl rfl (by decide) (zE rfl rfl rfl (ih (n.tdiv 10).natAbs (by omega) _ _ (by unfold iok;omega) rfl)) ?_;clear hA;rintro _ w ⟨rfl,hk⟩ a hA;replace hH:=hH.keep hk;clear hk)
      repeat' (first|(refine XT ?_;apply XE;(first|(apply pX;rfl;rfl;decide));clear hA a;intro a hA)|(refine QT ?_;clear hA a;intro a hA)|(refine zJ hA rfl rfl (by decide) (zE rfl rfl rfl (Text1_dig _ _ (by omega))) ?_;clear hA;rintro _ w ⟨rfl,hk⟩ a hA;replace hH:=hH.keep hk;clear hk)|fail)
      repeat' (first|(refine XT ?_;apply XE;(first|(apply sI;rfl;rfl;omega));clear hA a;intro a hA)|(refine QT ?_;clear hA a;intro a hA)|refine CT ?_|fail)
      exact rt1 (.inl rfl) rfl hA rfl ⟨congrArg Value.string (itoa_pos (by omega)).symm,hH.kp⟩
theorem one_spec (w0:World) (c:Nat) (hc8:c<256):Ret Tryz.prog 126 #[.int .u8 (c:Int)] w0 (fun r w=>r= .string (ofB (vI c))∧Kp w0 noM w):=by
  have hH:HS w0 noM [] w0:=HS.init w0 noM
  (refine ENT (N:=34) Tryz.func126 Tryz.ntmps126 ?_;intro a hA)
  repeat' (first|(refine GT ?_ ?_<;>intro hg<;>clear hA a<;>intro a hA<;>(first|exact FA|replace hg:=dTr hg|replace hg:=dFa hg|skip))|(refine QT ?_;clear hA a;intro a hA)|(refine LT ?_;clear hA hH;rintro _ w ⟨oN,rfl,hH⟩ a hA)|refine CT ?_|(refine DT ?_ ?_<;>intro hc<;>try (exfalso;omega))|fail)
  · exact rt1 (.inl rfl) rfl hA rfl ⟨by rw [show c=34 by omega,q34],hH.kp⟩
  · exact rt1 (.inl rfl) rfl hA rfl ⟨by rw [show c=92 by omega,q92],hH.kp⟩
  · exact rt1 (.inl rfl) rfl hA rfl ⟨by rw [show c=10 by omega,q10],hH.kp⟩
  · rw [flatY1] at hH
    repeat' (first|(refine XT ?_;apply XE;(first|(apply uY (l':=[c]);rfl;rfl;exact fun w h=>h.own_rd (T:=5) MEMT));clear hA a;intro a hA)|(refine QT ?_;clear hA a;intro a hA)|refine CT ?_|fail)
    exact rt1 (.inl rfl) rfl hA rfl ⟨by rw [q3 ⟨by omega,by omega,by omega,by omega⟩],hH.kp⟩
  all_goals
    have hq:=quo16 hc8
    have hr:=rem16 hc8
    have hg1:=kI (k:=c / 16) (by omega)
    have hg2:=kI (k:=c % 16) (by omega)
    (refine zO [(0,1),(1,1),(2,1),(3,1),(4,1),(5,1),(6,1),(7,1),(8,0),(9,0),(10,1),(11,1)] mixed (by decide +kernel) hH ?_;replace hH:=hH.drew)
    repeat' (first|(refine XT ?_;apply XE;(first|(apply qN;rfl;rfl;decide)|(apply pX;rfl;rfl;decide)|(apply xL (s:=hexS) (j:=c / 16) (b:=lY (c / 16));rfl;rfl;exact hq;exact hg1)|(apply xL (s:=hexS) (j:=c % 16) (b:=lY (c % 16));rfl;rfl;exact hr;exact hg2));clear hA a;intro a hA)|(refine QT ?_;clear hA a;intro a hA)|(refine DLT ?_;clear hA hH;rintro _ w ⟨oN,rfl,hH⟩;refine ⟨STT,?_⟩;intro a hA)|fail)
    rw [flatY2] at hH
    (refine yC hA rfl rfl rfl (by decide) ((uY (l':=[lY (c / 16),lY (c % 16)]) rfl rfl (fun w h=>h.own_rd (T:=5) MEMT)).op1 hH) ?_;clear hA;rintro _ w ⟨rfl,rfl⟩;refine ⟨STT,?_⟩;intro a hA)
    repeat' (first|(refine XT ?_;apply XE;(first|(apply sI;rfl;rfl;rw [qF];show 2+2≤9223372036854775807;omega));clear hA a;intro a hA)|(refine QT ?_;clear hA a;intro a hA)|refine CT ?_|fail)
    exact rt1 (.inl rfl) rfl hA rfl ⟨by rw [q4 ⟨by omega,by omega,by omega⟩,ofB_app,ofB_bts];rfl,hH.kp⟩
theorem mK:∀l:List Nat,(tG l).length≤4*l.length
  | []=>Nat.le_refl _
  | c::l=>by
    have h1:=pU c
    have h2:=mK l
    unfold tG at h2 ⊢
    rw [List.flatMap_cons,List.length_append,List.length_cons]
    omega
theorem Quote1_spec (w0:World) (s:ByteArray) (hs:s.size≤100000000):Ret Tryz.prog 102 #[.string s] w0 (fun r w=>r= .string (vA s)∧Kp w0 noM w):=by
  have hH:HS w0 noM [] w0:=HS.init w0 noM
  have hsl:(bts s).length=s.size:=wI s
  (refine ENT (N:=23) Tryz.func102 Tryz.ntmps102 ?_;intro a hA)
  repeat' (first|(refine QT ?_;clear hA a;intro a hA)|(refine LT ?_;clear hA hH;rintro _ w ⟨oN,rfl,hH⟩ a hA)|refine CT ?_|fail)
  rw [flatY34] at hH
  refine zU (S:=Nat) (fun i a w=>∃o c bs,(i≤(bts s).length∧bs=[34]++tG ((bts s).take i))∧HS w0 noM [own 5 1 o bs.length c (flat zY bs)] w∧Sl 23 [(4,.int .i64 i),(3,.slice o bs.length c),(0,.string s)] a) (fun i=>(bts s).length - i)
    (fun a w=>∃o c bs,bs=[34]++tG (bts s)∧HS w0 noM [own 5 1 o bs.length c (flat zY bs)] w∧Sl 23 [(3,.slice o bs.length c)] a) 0 ⟨oN,1,[34],⟨Nat.zero_le _,rfl⟩,hH,(hA.sub SBT)⟩ ?_ ?_
  · clear hA hH
    rintro i a w ⟨o,c,bs,⟨hi,hbs⟩,hH,hA⟩
    by_cases hlt:i<(bts s).length
    rotate_left
    · obtain rfl:i=(bts s).length:=by omega
      rw [List.take_length] at hbs
      repeat' (first|(refine XT ?_;apply XE;(first|(apply xK;rfl));clear hA a;intro a hA)|(refine QT ?_;clear hA a;intro a hA)|refine CT ?_|(refine DT ?_ ?_<;>intro hc<;>try (exfalso;omega))|fail)
      exact ⟨o,c,bs,hbs,hH,(hA.sub SBT)⟩
    have hx:(bts s)[i]?=some ((bts s).getD i 0):=sL hlt
    have hx8:(bts s).getD i 0<256:=lC s _ (List.mem_of_getElem? hx)
    have hbl:bs.length≤1+4*i:=by
      have h1:=mK ((bts s).take i)
      rw [List.length_take] at h1
      rw [hbs,List.length_append]
      show 1+_≤_
      omega
    have hql:=pU ((bts s).getD i 0)
    have hq0:0<(vI ((bts s).getD i 0)).length:=by unfold vI;(repeat' split)<;>exact Nat.succ_pos _
    repeat' (first|(refine XT ?_;apply XE;(first|(apply xK;rfl)|(apply xL;rfl;rfl;rfl;exact hx));clear hA a;intro a hA)|(refine QT ?_;clear hA a;intro a hA)|(refine zJ hA rfl rfl (by decide) (zE rfl rfl rfl (one_spec _ _ hx8)) ?_;clear hA;rintro _ w ⟨rfl,hk⟩ a hA;replace hH:=hH.keep hk;clear hk)|refine CT ?_|(refine DT ?_ ?_<;>intro hc<;>try (exfalso;omega))|fail)
    (apply zJ hA rfl rfl (by decide);apply kZ;rfl;rfl;exact hH;exact MEMT;(rw [qF];exact hq0);(rw [qF];unfold maxLen;omega);(rw [qF];omega);clear hA;rintro _ w ⟨o2,c2,rfl,hH2⟩ a hA;clear hH;have hH:=hH2 _ (by (repeat constructor));clear hH2)
    rw [qF] at hA hH
    rw [bts_ofB (gS hx8),←wY,←List.length_append] at hH
    rw [←List.length_append] at hA
    repeat' (first|(refine QT ?_;clear hA a;intro a hA)|refine CT ?_|fail)
    exact ⟨i+1,⟨o2,c2,bs++vI ((bts s).getD i 0),⟨hlt,by rw [hbs,yK hx,qB,List.append_assoc]⟩,hH,(hA.sub SBT)⟩,by omega⟩
  clear hA hH
  rintro a w ⟨o,c,bs,hbs,hH,hA⟩
  have hbl:bs.length≤1+4*s.size:=by
    have h1:=mK (bts s)
    rw [hbs,List.length_append]
    show 1+_≤_
    omega
  repeat' (first|(refine QT ?_;clear hA a;intro a hA)|(refine LT ?_;clear hA hH;rintro _ w ⟨oN,rfl,hH⟩ a hA)|(refine AT ?_;clear hA;rintro _ w ⟨oN,cN,rfl,hH2⟩ a hA;clear hH;have hH:=(hH2 _ (by (repeat constructor))).tail;clear hH2)|refine CT ?_|fail)
  rw [flatY34,←wY] at hH
  repeat' (first|(refine XT ?_;apply XE;(first|(apply uY (l':=bs++[34]);rfl;(rw [List.length_append];rfl);exact fun w h=>h.own_rd (T:=5) MEMT));clear hA a;intro a hA)|(refine QT ?_;clear hA a;intro a hA)|refine CT ?_|fail)
  exact rt1 (.inl rfl) rfl hA rfl ⟨by rw [hbs];rfl,hH.kp⟩
end
inductive Ow
  |fine (x:Vl)
  |raised (n:Int)
  |fuel
  |stuck
def Ow.k:Ow→Int
  | .fine _=>0
  | .raised _=>1
  | .fuel=>2
  | .stuck=>3
def OwV (c:Dx) (g:Grs):Ow→List Value→Prop
  | .fine x,v=>QV c x v
  | .raised n,v=>v=qk 1 n∧0≤n∧n<g.xs.l.length
  |_,v=>v=qz
def sB (g:Grs) (kd:Int) (o:Ow) (wd:Wd):Int × ByteArray × ByteArray:=
  match o with
  | .fine x=>match uQ g kd x with
    |some s=>(1,ofB wd.out,s)
    |none=>(4,ofB wd.out,empS)
  | .raised n=>(1,ofB wd.out,raiseB++g.xs.l.getD n.toNat default)
  | .fuel=>(2,ofB wd.out,empS)
  | .stuck=>(4,ofB wd.out,empS)
theorem ow0:∀{o:Ow},o.k=0→∃x,o= .fine x
  | .fine x,_=>⟨x,rfl⟩
  | .raised _,h| .fuel,h| .stuck,h=>by unfold Ow.k at h;cases h
theorem ow1:∀{o:Ow},o.k=1→∃n,o= .raised n
  | .raised n,_=>⟨n,rfl⟩
  | .fine _,h| .fuel,h| .stuck,h=>by unfold Ow.k at h;cases h
theorem ow2:∀{o:Ow},o.k=2→o= .fuel
  | .fuel,_=>rfl
  | .fine _,h| .raised _,h| .stuck,h=>by unfold Ow.k at h;cases h
theorem ow3:∀{o:Ow},¬o.k=0→¬o.k=1→¬o.k=2→o= .stuck
  | .stuck,_,_,_=>rfl
  | .fine _,h,_,_=>absurd rfl h
  | .raised _,_,h,_=>absurd rfl h
  | .fuel,_,_,h=>absurd rfl h
theorem OwV.len {c:Dx} {g:Grs} {o:Ow} {v:List Value} (h:OwV c g o v):v.length=5:=by
  cases o with
  |fine x=>exact QV.len h
  |raised n=>rw [h.1];rfl
  |fuel=>rw [show v=qz from h];rfl
  |stuck=>rw [show v=qz from h];rfl
theorem OwV.one {c:Dx} {g:Grs} {o:Ow} {v:List Value} (h:OwV c g o v):v.all (·.oneCell')=true:=by
  cases o with
  |fine x=>exact QV.one h
  |raised n=>rw [h.1];rfl
  |fuel=>rw [show v=qz from h];rfl
  |stuck=>rw [show v=qz from h];rfl
section
attribute [local irreducible] Code.wp wpList Calls Ex Op1 sat bat blk cb own Go.Fw.mp Go.Fw.mpO Go.Fw.mpI Go.Fw.mpE Go.Fw.itr HS Rd Ret wkD Hp Cl Cls Exit.then Exit.inBlock Exit.noGoto bodyPost Go.Fw.flat wk2 Go.Fw.all Go.Fw.owns wpOp
attribute [local irreducible] sk mpK sko mvO xM xC frz w63 xX ofB vA

theorem Show_spec (w0:World) (c:Dx) (g:Grs) (kd:Int) (x:Vl) (v:List Value) (hx:QV c x v) (hxs:RdV w0 yQ g.xs) :
    Ret Tryz.prog 59 #[.agg v.toArray,.int .i64 kd,.slice g.xs.o g.xs.l.length g.xs.c] w0 (fun r w=>r=txV (uQ g kd x)∧Kp w0 noM w):=by
  have hH:HS w0 noM [] w0:=HS.init w0 noM
  have hsp:Sp g.xs.o g.xs.l.length:=hxs.1.sp (sz:=1) (zH wC _) (by omega)
  have hlx:=hxs.le
  (refine ENT (N:=53) Tryz.func59 Tryz.ntmps59 ?_;intro a hA)
  cases x<;>rw [QV] at hx
  · exact hx.elim
  · obtain ⟨rfl,hn⟩:=hx
    rename_i n
    repeat' (first|(refine GT ?_ ?_<;>intro hg<;>clear hA a<;>intro a hA<;>(first|exact FA|replace hg:=dTr hg|replace hg:=dFa hg|skip))|(refine XT ?_;apply XE;(first|(apply zC;rfl;rfl;omega;omega;exact hsp)|(apply zF;rfl;refine yG hxs.1 id (vD ?_);omega));clear hA a;intro a hA)|(refine QT ?_;clear hA a;intro a hA)|(refine BT ?_;clear hA hH;rintro _ w ⟨bN,rfl,hH⟩ a hA)|(refine zJ hA rfl rfl (by decide) (zE rfl rfl rfl (Text1_spec _ _ hn)) ?_;clear hA;rintro _ w ⟨rfl,hk⟩ a hA;replace hH:=hH.keep hk;clear hk)|refine CT ?_|(refine DT ?_ ?_<;>intro hc<;>try (exfalso;omega))|fail)
    · exact rt2 (.inl rfl) rfl hA rfl rfl ⟨by rw [tx_b1 (by assumption) (by assumption)];rfl,hH.kp⟩
    · exact rt2 (.inl rfl) rfl hA rfl rfl ⟨by rw [tx_b0 (by assumption) (Decidable.not_not.1 (by assumption:¬n≠0))];rfl,hH.kp⟩
    · exact rt2 (.inl rfl) rfl hA rfl rfl ⟨by rw [tx_u (by assumption)];rfl,hH.kp⟩
    · exact rt2 (.inl rfl) rfl hA rfl rfl ⟨by rw [tx_x0 (by assumption) (.inl (by assumption))];rfl,hH.kp⟩
    · exact rt2 (.inl rfl) rfl hA rfl rfl ⟨by rw [tx_x0 (by assumption) (.inr (by assumption))];rfl,hH.kp⟩
    · exact rt2 (.inl rfl) rfl hA rfl rfl ⟨by rw [tx_x1 (by assumption) (by omega)];rfl,hH.kp⟩
    · exact rt2 (.inl rfl) rfl hA rfl rfl ⟨by rw [tx_n ⟨by assumption,by assumption,by assumption⟩];rfl,hH.kp⟩
  · obtain ⟨rfl,hn⟩:=hx
    repeat' (first|(refine QT ?_;clear hA a;intro a hA)|(refine BT ?_;clear hA hH;rintro _ w ⟨bN,rfl,hH⟩ a hA)|(refine zJ hA rfl rfl (by decide) (zE rfl rfl rfl (Quote1_spec _ _ (by omega))) ?_;clear hA;rintro _ w ⟨rfl,hk⟩ a hA;replace hH:=hH.keep hk;clear hk)|refine CT ?_|fail)
    exact rt2 (.inl rfl) rfl hA rfl rfl ⟨rfl,hH.kp⟩
  · obtain ⟨o,k,vs,rfl,_⟩:=hx
    repeat' (first|(refine QT ?_;clear hA a;intro a hA)|(refine BT ?_;clear hA hH;rintro _ w ⟨bN,rfl,hH⟩ a hA)|refine CT ?_|fail)
    exact rt2 (.inl rfl) rfl hA rfl rfl ⟨rfl,hH.kp⟩
  · obtain ⟨on,cn,ol,cl,vs,rfl,_⟩:=hx
    repeat' (first|(refine QT ?_;clear hA a;intro a hA)|(refine BT ?_;clear hA hH;rintro _ w ⟨bN,rfl,hH⟩ a hA)|refine CT ?_|fail)
    exact rt2 (.inl rfl) rfl hA rfl rfl ⟨rfl,hH.kp⟩
  · obtain ⟨o,k,vs,rfl,_⟩:=hx
    repeat' (first|(refine QT ?_;clear hA a;intro a hA)|(refine BT ?_;clear hA hH;rintro _ w ⟨bN,rfl,hH⟩ a hA)|refine CT ?_|fail)
    exact rt2 (.inl rfl) rfl hA rfl rfl ⟨rfl,hH.kp⟩
  · obtain ⟨rfl,_⟩:=hx
    repeat' (first|(refine QT ?_;clear hA a;intro a hA)|(refine BT ?_;clear hA hH;rintro _ w ⟨bN,rfl,hH⟩ a hA)|refine CT ?_|fail)
    exact rt2 (.inl rfl) rfl hA rfl rfl ⟨rfl,hH.kp⟩
  · obtain ⟨rfl,_⟩:=hx
    repeat' (first|(refine QT ?_;clear hA a;intro a hA)|(refine BT ?_;clear hA hH;rintro _ w ⟨bN,rfl,hH⟩ a hA)|refine CT ?_|fail)
    exact rt2 (.inl rfl) rfl hA rfl rfl ⟨rfl,hH.kp⟩
end
theorem qI {x:Vl} (h:yW x=1):∃n,x= .num n:=by cases x<;>first|exact ⟨_,rfl⟩|(unfold yW at h;cases h)
theorem fD {x:Vl} (h:yW x=2):∃s,x= .txt s:=by cases x<;>first|exact ⟨_,rfl⟩|(unfold yW at h;cases h)
theorem k_cl {x:Vl} (h:yW x=6):∃s,x= .cl s:=by cases x<;>first|exact ⟨_,rfl⟩|(unfold yW at h;cases h)
theorem k_ar {x:Vl} (h:yW x=7):∃s,x= .ar s:=by cases x<;>first|exact ⟨_,rfl⟩|(unfold yW at h;cases h)
theorem pM {x:Vl} (h:yW x≠1):asNum x=none:=by cases x<;>first|rfl|exact absurd rfl h
theorem gX {x:Vl} (h:yW x≠2):asTxt x=none:=by cases x<;>first|rfl|exact absurd rfl h
theorem n_cl {x:Vl} (h:yW x≠6):asCl x=none:=by cases x<;>first|rfl|exact absurd rfl h
theorem n_ar {x:Vl} (h:yW x≠7):asAr x=none:=by cases x<;>first|rfl|exact absurd rfl h
theorem fC {op:Int} (h:1≤op∧op≤21) {n:Nat} (hl:(n:Int)=wO op):(uM op).length=n:=by
  have e:op=1∨op=2∨op=3∨op=4∨op=5∨op=6∨op=7∨op=8∨op=9∨op=10∨op=11∨op=12∨op=13∨op=14∨op=15∨op=16∨op=17∨op=18∨op=19∨op=20∨op=21:=by omega
  rcases e with rfl|rfl|rfl|rfl|rfl|rfl|rfl|rfl|rfl|rfl|rfl|rfl|rfl|rfl|rfl|rfl|rfl|rfl|rfl|rfl|rfl<;>
    (rw [show wO _=_ from rfl] at hl;exact (Int.ofNat.inj hl).symm)
theorem pC {op:Int} (h:op<10∨19<op):uM op=[1]∨uM op=[1,1]:=by
  unfold uM
  split
  · exact .inl rfl
  · (repeat rw [if_neg (by omega)]);exact .inr rfl
theorem op_bad {op:Int} (h:1≤op∧op≤21) {l:List Vl} (hl:(l.length:Int)=wO op) {wd:Wd} {k:Nat} (hk:k<(uM op).length) (h0:(uM op).getD k 0≠0) (hb:yW (zS l k)≠(uM op).getD k 0):opF op l wd=stk wd:=by
  have hlen:=fC h hl
  by_cases hn:op<10∨19<op
  · rw [mL hn]
    rcases pC hn with e|e<;>rw [e] at hk hb hlen
    · obtain rfl:k=0:=by simp at hk;omega
      rw [pM hb]
    · rcases (show k=0∨k=1 by simp at hk;omega) with rfl|rfl
      · rw [pM hb]
      · rw [if_pos (by rw [←hlen];decide),pM hb]
        cases asNum (zS l 0)<;>rfl
  have e:op=10∨op=11∨op=12∨op=13∨op=14∨op=15∨op=16∨op=17∨op=18∨op=19:=by omega
  rcases e with rfl|rfl|rfl|rfl|rfl|rfl|rfl|rfl|rfl|rfl
  · obtain rfl:k=0:=Nat.lt_one_iff.1 hk
    exact absurd rfl h0
  · obtain rfl:k=0:=Nat.lt_one_iff.1 hk
    rw [op_11 rfl,n_cl hb]
  · rcases (show k=0∨k=1 from by have:k<2:=hk;omega) with rfl|rfl
    · rw [op_12 rfl,n_cl hb]
    · exact absurd rfl h0
  · rcases (show k=0∨k=1 from by have:k<2:=hk;omega) with rfl|rfl
    · rw [tF (by decide),arr13 rfl,pM hb]
    · exact absurd rfl h0
  · rcases (show k=0∨k=1 from by have:k<2:=hk;omega) with rfl|rfl
    · rw [tF (by decide),lD (by decide),n_ar hb]
    · rw [tF (by decide),lD (by decide),pM hb]
      cases asAr (zS l 0)<;>rfl
  · rcases (show k=0∨k=1∨k=2 from by have:k<3:=hk;omega) with rfl|rfl|rfl
    · rw [tF (by decide),lD (by decide),n_ar hb]
    · rw [tF (by decide),lD (by decide),pM hb]
      cases asAr (zS l 0)<;>rfl
    · exact absurd rfl h0
  · obtain rfl:k=0:=Nat.lt_one_iff.1 hk
    rw [tF (by decide),lD (by decide),n_ar hb]
  · obtain rfl:k=0:=Nat.lt_one_iff.1 hk
    rw [rQ (by decide)];unfold wG;rw [gX hb]
  · rcases (show k=0∨k=1 from by have:k<2:=hk;omega) with rfl|rfl
    · rw [rQ (by decide)];unfold wG;rw [gX hb]
    · rw [rQ (by decide)];unfold wG;rw [pM hb]
      cases asTxt (zS l 0)<;>rfl
  · rcases (show k=0∨k=1 from by have:k<2:=hk;omega) with rfl|rfl
    · rw [rQ (by decide)];unfold wG;rw [gX hb]
    · rw [rQ (by decide)];unfold wG;rw [gX hb]
      cases asTxt (zS l 0)<;>rfl
theorem StQ.set {c d:Dx} {sds:List Sd} {st:List (List Vl)} {p:Nat} {b:Bool} {e:Sd} {l:List Vl} {vs:List Value} (hs:StQ c sds st) (hle:c.le d) (hd:d.ad=c.ad) (hp:c.ad[p]?=some b) (he:e.2.1=l.length) (h2:l.length≤256) (hb:b=true→l.length=1) (hr:∀w,d.K w→Rd w e.1 vs) (hq:QVs d l vs):StQ d (sds.set p e) (st.set p l):=by
  refine ⟨by rw [List.length_set,List.length_set,hs.len],by rw [hd,List.length_set,hs.ad],fun i l' e' hl he'=>?_⟩
  by_cases hi:p=i
  · subst hi
    rw [List.getElem?_set_self (by have:=(List.getElem?_eq_some_iff.1 hl).1;rw [List.length_set] at this;exact this)] at hl
    rw [List.getElem?_set_self (by have:=(List.getElem?_eq_some_iff.1 he').1;rw [List.length_set] at this;exact this)] at he'
    cases hl
    cases he'
    refine ⟨he,h2,fun h=>hb ?_,vs,hr,hq⟩
    rw [hd,hp] at h
    exact Option.some.inj h
  · rw [List.getElem?_set_ne hi] at hl he'
    obtain ⟨h1,h3,h4,us,h5,h6⟩:=hs.row i l' e' hl he'
    exact ⟨h1,h3,fun h=>h4 (by rw [←hd];exact h),us,fun w hw=>h5 w (hle.K w hw),h6.mono hle l' us⟩
theorem StQ.at {c:Dx} {sds:List Sd} {st:List (List Vl)} {p:Nat} {b:Bool} (hs:StQ c sds st) (hp:c.ad[p]?=some b):∃l o n vs,st[p]?=some l∧st.getD p []=l∧sds[p]?=some (o,l.length,n)∧l.length≤256∧(b=true→l.length=1)∧(∀w,c.K w→Rd w o vs)∧QVs c l vs:=by
  have hi:p<st.length:=by rw [←hs.ad];exact (List.getElem?_eq_some_iff.1 hp).1
  obtain ⟨l,hl⟩:∃l,st[p]?=some l:=⟨_,List.getElem?_eq_getElem hi⟩
  obtain ⟨⟨o,m,n⟩,hd⟩:∃d,sds[p]?=some d:=⟨_,List.getElem?_eq_getElem (by rw [hs.len];exact hi)⟩
  obtain ⟨h1,h2,h3,vs,h4,h5⟩:=hs.row p l _ hl hd
  obtain rfl:m=l.length:=h1
  exact ⟨l,o,n,vs,hl,by rw [List.getD_eq_getElem?_getD,hl];rfl,hd,h2,fun h=>h3 (h▸hp),h4,h5⟩
theorem WSt.drop1 {w0 w:World} {c:Dx} {bW:Nat} {g:Grs} {wd:Wd} {x:It} {H:List It} (h:WSt w0 c bW g wd (x::H) w):WSt w0 c bW g wd H w:=by
  obtain ⟨oO,cO,oS,cS,sds,hH,hQ⟩:=h
  exact ⟨oO,cO,oS,cS,sds,hH.rm 4,hQ⟩
def RsQ (w0:World) (c:Dx) (bW:Nat) (g:Grs) (wd:Wd) (H:List It) (r:Rs) (v:Value) (w:World):Prop:=
  match r with
  | .val y wd'=>(isNil y=true∧v= .tuple #[.agg qz.toArray,.int .i64 3]∧wd'=wd∧WSt w0 c bW g wd H w)∨(isNil y=false∧∃d vs,(c.le d∧d.bd≤c.bd+1)∧v= .tuple #[.agg vs.toArray,.int .i64 0]∧QV d y vs∧WSt w0 d bW g wd' H w)
  | .exn s=>v= .tuple #[.agg (qk 1 (xC g.xs.l s)).toArray,.int .i64 1]∧WSt w0 c bW g wd H w
section
variable {w0 w:World} {c d:Dx} {bW:Nat} {g:Grs} {wd wd':Wd} {H:List It} {r:Rs} {v:Value}
theorem RsQ.stk (hr:r=stk wd) (hv:v= .tuple #[.agg qz.toArray,.int .i64 3]) (h:WSt w0 c bW g wd H w):RsQ w0 c bW g wd H r v w:=by rw [hr];exact .inl ⟨rfl,hv,rfl,h⟩
theorem RsQ.exn {s:ByteArray} (hr:r= .exn s) (hv:v= .tuple #[.agg (qk 1 (xC g.xs.l s)).toArray,.int .i64 1]) (h:WSt w0 c bW g wd H w):RsQ w0 c bW g wd H r v w:=by rw [hr];exact ⟨hv,h⟩
theorem RsQ.val {y:Vl} {vs:List Value} (hr:r= .val y wd') (hle:c.le d) (hb:d.bd≤c.bd+1) (hv:v= .tuple #[.agg vs.toArray,.int .i64 0]) (hq:QV d y vs) (h:WSt w0 d bW g wd' H w):RsQ w0 c bW g wd H r v w:=by rw [hr];exact .inr ⟨hq.notnil,d,vs,⟨hle,hb⟩,hv,hq,h⟩
theorem RsQ.same {y:Vl} {vs:List Value} (hr:r= .val y wd') (hv:v= .tuple #[.agg vs.toArray,.int .i64 0]) (hq:QV c y vs) (h:WSt w0 c bW g wd' H w):RsQ w0 c bW g wd H r v w:=RsQ.val hr (Dx.le_refl c) (Nat.le_succ _) hv hq h
end
theorem QV_num {c:Dx} {n:Int} (h:iok n):QV c (.num n) (qk 1 n):=by rw [QV];exact ⟨rfl,h⟩
theorem QV_txt {c:Dx} {s:ByteArray} (h:s.size≤4096):QV c (.txt s) (qt s):=by rw [QV];exact ⟨rfl,h⟩
theorem QV_cl {c d:Dx} {st:List (List Vl)} (h:c.ad.length=st.length) (hd:d.ad=c.ad++[true]:=by rfl):QV d (.cl st.length) (qk 6 st.length):=by rw [QV,hd,List.getElem?_append_right (by omega),h,Nat.sub_self];exact ⟨rfl,rfl⟩
theorem QV_ar {c d:Dx} {st:List (List Vl)} (h:c.ad.length=st.length) (hd:d.ad=c.ad++[false]:=by rfl):QV d (.ar st.length) (qk 7 st.length):=by rw [QV,hd,List.getElem?_append_right (by omega),h,Nat.sub_self];exact ⟨rfl,rfl⟩
theorem QVs.le {c d:Dx} (h:c.le d) {l:List Vl} {vs:List Value} (hq:QVs c l vs):QVs d l vs:=QVs.mono h l vs hq
theorem bts_inj2 {s t:ByteArray} (h:s.toList=t.toList):s=t:=by
  apply ByteArray.ext
  apply Array.toList_inj.1
  rw [←ByteArray.toList_eq,←ByteArray.toList_eq,h]
def Dx.add (c:Dx) (o:Option Addr) (vs:List Value):Dx:={c with K:=fun w=>Rd w o vs∧c.K w}
theorem Dx.add_le (c:Dx) (o:Option Addr) (vs:List Value):c.le (c.add o vs):=⟨fun w h=>h.2,⟨[],by simp [Dx.add]⟩,Nat.le_refl _,rfl⟩
theorem WSt.add {w0 w:World} {c:Dx} {bW:Nat} {g:Grs} {wd:Wd} {H:List It} {T sz n cap:Nat} {o oO oS:Option Addr} {cO cS:Nat} {sds:List Sd} {xs:List Value} (hH:HS w0 noM (own T sz o n cap xs::cb bW 98 (xE g wd.inp oO wd.out.length cO oS wd.st.length cS)::own 5 1 oO wd.out.length cO (flat zY wd.out)::own 101 1 oS wd.st.length cS (flat Fw.encS sds)::frz w0 c.K::H) w) (hQ:StQ c sds wd.st):WSt w0 (c.add o xs) bW g wd H w:=by
  have h1:=(hH.perm (H':=own T sz o n cap xs::frz w0 c.K::cb bW 98 (xE g wd.inp oO wd.out.length cO oS wd.st.length cS)::own 5 1 oO wd.out.length cO (flat zY wd.out)::own 101 1 oS wd.st.length cS (flat Fw.encS sds)::H) PMT).frz_own
  exact ⟨oO,cO,oS,cS,sds,h1.perm PMT,hQ.mono (c.add_le o xs) rfl⟩
theorem WSt.put2 {w0 w:World} {c:Dx} {bW:Nat} {g:Grs} {wd:Wd} {st:List (List Vl)} {H:List It} {T sz n cap:Nat} {o oO oS:Option Addr} {cO cS:Nat} {sds:List Sd} {xs:List Value} (hH:HS w0 noM (own T sz o n cap xs::cb bW 98 (xE g wd.inp oO wd.out.length cO oS wd.st.length cS)::own 5 1 oO wd.out.length cO (flat zY wd.out)::own 101 1 oS wd.st.length cS (flat Fw.encS sds)::frz w0 c.K::H) w) (hl:st.length=wd.st.length) (hQ:StQ (c.add o xs) sds st):WSt w0 (c.add o xs) bW g {wd with st:=st} H w:=by
  have h1:=(hH.perm (H':=own T sz o n cap xs::frz w0 c.K::cb bW 98 (xE g wd.inp oO wd.out.length cO oS wd.st.length cS)::own 5 1 oO wd.out.length cO (flat zY wd.out)::own 101 1 oS wd.st.length cS (flat Fw.encS sds)::H) PMT).frz_own
  rw [←hl] at h1
  exact ⟨oO,cO,oS,cS,sds,h1.perm PMT,hQ⟩
end Go.Proofs.YtenlcdokaadobaaGreatDoor
