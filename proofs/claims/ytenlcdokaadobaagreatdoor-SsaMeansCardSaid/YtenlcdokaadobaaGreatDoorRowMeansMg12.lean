/-
  ssa.Run. Conditions: none.
  anf.Run. Conditions: none.
  Where a body lies in the blocks that ssa.Of makes of it (plain). Conditions: none.
  Graphs do what the program does (plain). Conditions: none.
  awake's graphs (plain). Conditions: none.
  What comes of awake's graphs (plain). Conditions: none.
  Two outcomes are alike. Conditions: none.
  SsaMeans: graphs mean what the program does (plain); the law's awake. Conditions: none.
  SsaMeans: the law. Conditions: none.
  The door's own heap meets the condition on what is laid. Conditions: none.
  What the laid table gives: strconv.FormatInt. Conditions: none.
-/
import Derived.Test.YtenlcdokaadobaaGreatDoorRowMeansMg11
import Derived.Test.YtenlcdokaadobaaGreatDoorRowMeansMg7
import Derived.ChangeKeysEq
import Derived.Laws.StructEq
import Derived.Test.YtenlcdokaadobaaGreatDoorRows
import Derived.Lib.LaidTab
import Derived.Test.YtenlcdokaadobaaGreatDoorRowMeansMg9
set_option maxHeartbeats 64000000
set_option maxRecDepth 10000
namespace Go.Proofs.YtenlcdokaadobaaGreatDoor
open Go Go.Fw
set_option linter.unusedVariables false
theorem bl_en {l:List Blc} {b:Nat} {bl:Blc} (h:l[b]?=some bl) (i:Nat) (v:Value) (hv:(wO bl.e)[i]?=some v):(flat yE l)[b*6+2+i]?=some v:=by
  rw [Nat.add_assoc]
  refine yZ (off:=2+i) uL h ?_
  match i,hv with
  |0,hv=>exact hv
  |1,hv=>exact hv
  |2,hv=>exact hv
  |3,hv=>exact hv
theorem form_ns {g:Grs} {cs:List Int} {mine:Int} {r:Stp} (h:FormP g cs mine r):r.ns.l.length≤r.a.l.length:=by
  rcases h.ns with h1|h1
  · rw [h1];exact Nat.zero_le _
  · have:=h.want
    unfold vI at this
    rw [h1] at this
    simp at this
    omega
theorem step_ins {g:Grs} {kd:Int} {m:Mc} (h:m.fm.i<(uO g m.fm).is.l.length):sY g kd m=nL g m.fm (vA g m.fm) m.wd m.sk:=by unfold sY;rw [if_pos h]
theorem step_last {g:Grs} {kd:Int} {m:Mc} (h:¬m.fm.i<(uO g m.fm).is.l.length):sY g kd m=sC g kd m.fm (uO g m.fm).e m.wd m.sk:=by unfold sY;rw [if_neg h]
def cx0 (w0:World) (n p:Nat):Cx:=⟨fun w=>RdB w p [.int .i64 0,.slice none 0 0]∧Kp w0 noM w,[],65536,n⟩
theorem cx0_fn (w0:World) (n p:Nat) (h:0<n):FnR (cx0 w0 n p) 0 [] p:=by
  refine ⟨none,0,[],⟨by decide,by show (0:Int)< _;exact Int.natCast_pos.2 h⟩,fun w hw=>hw.1,fun w hw=>⟨fun h=>absurd h (Nat.lt_irrefl _),fun i v hv=>by cases hv⟩,?_⟩
  rw [RVs]
def zM : Value:=Value.agg #[Value.slice none 0 0,Value.slice none 0 0,Value.int IntKind.i64 0,Value.string ByteArray.empty,
            Value.slice none 0 0,Value.slice none 0 0,Value.slice none 0 0,Value.slice none 0 0,
            Value.slice none 0 0,Value.slice none 0 0,Value.int IntKind.i64 0,Value.slice none 0 0,
            Value.pointer none,Value.map none,Value.pointer none,Value.int IntKind.i64 0,Value.pointer none,
            Value.pointer none]
theorem fill_M (g:Grs) (kd:Int) (s:ByteArray) (fuel:Int) :
    Instr.fill (fun x=>([(0,5),(5,5),(10,1),(11,1),(12,5),(17,1)]:List (Nat × Nat))[x]?) zM.cells [(0,.agg (zJ g kd s none 0 0).toArray),(1,.agg (yN g).toArray),(2,.int .i64 fuel)]=some (zJ g kd s none 0 0++rI g fuel).toArray:=by
  simp [Instr.fill,zM,zJ,yN,rI,Value.cells]
section
attribute [local irreducible] Code.wp wpList Calls Ex Op1 sat bat blk cb own Go.Fw.mp Go.Fw.mpO Go.Fw.mpI Go.Fw.mpE Go.Fw.itr HS Rd Ret wkD Hp Cl Cls Exit.then Exit.inBlock Exit.noGoto bodyPost Go.Fw.flat wk2 Go.Fw.all Go.Fw.owns wpOp
attribute [local irreducible] sk mpK sko mvO xI opM Go.Fw.mset Go.Fw.mv opK w63 frz obI RV wQ vR vT wT

theorem Run_spec (w0:World) (g:Grs) (kd:Int) (s:ByteArray) (fuel:Int) (hR:RdGs w0 g) (hl:g.fs.l.length≤100000) (hbs:∀f∈g.fs.l,f.bs.l.length≤1048576∧∀bl∈f.bs.l,bl.e.to.l.length≤1048576) (hxs:∀s∈g.xs.l,s.size≤4611686018427387904) (hfu:fuel≤3000) (hFI:FI w0) :
    Ret Tryz.prog 12 #[.agg (yN g).toArray,.int .i64 kd,.string s,.int .i64 fuel] w0 (fun v w=>v= .agg (qX (bB g kd s fuel)).toArray∧Kp w0 noM w):=by
  have hH:HS w0 noM [] w0:=HS.init w0 noM
  (refine ENT (N:=119) Tryz.func12 Tryz.ntmps12 ?_;intro a hA)
  repeat' (first|(refine XT ?_;apply XE;(first|(apply zG (vs:=yN g);rfl;rfl;exact zR MEMT));clear hA a;intro a hA)|(refine QT ?_;clear hA a;intro a hA)|(refine BT ?_;clear hA hH;rintro _ w ⟨bN,rfl,hH⟩ a hA)|refine CT ?_|fail)
  have key:∃b4 b8,HS w0 noM [cb b8 29 (xD 0 empS empS),cb b4 25 (yN g)] w∧Sl 119 [(10,.agg (yN g).toArray),(8,.pointer (some (bat b8 0))),(4,.pointer (some (bat b4 0))),(1,.int .i64 kd),(2,.string s),(3,.int .i64 fuel)] a:=⟨_,_,hH,(hA.sub SBT)⟩
  clear hA hH
  obtain ⟨b4,b8,hH,hA⟩:=key
  (refine zH hA rfl rfl (by decide) (zA rfl rfl rfl (May_spec _ g (hR.keep hH.kp) hl hbs)) ?_;clear hA;rintro _ w ⟨may,rfl,hk,hmay⟩ a hA;replace hH:=hH.keep hk;clear hk)
  cases may with
  | false=>
    have hno:¬MayP g:=fun h=>by cases hmay.2 h
    repeat' (first|(refine XT ?_;apply XE;(first|(apply zI (cs:=(xD 4 empS empS).toArray);rfl;exact FLT;rfl));clear hA a;intro a hA)|(refine QT ?_;clear hA a;intro a hA)|(refine SAT (xD 4 empS empS) hA hH ?_;clear hH;intro w hH)|refine CT ?_|fail)
    exact rt1c (vs:=xD 4 empS empS) (.inl rfl) rfl hA rfl rfl hH (zR (by exact MEMT)) ⟨by rw [runP_f hno];rfl,hH.kp⟩
  |true=>
  have hM:=hmay.1 rfl
  repeat' (first|(refine XT ?_;apply XE;(first|(apply zG (vs:=yN g);rfl;rfl;exact zR MEMT)|(apply zI (cs:=(zJ g kd s none 0 0).toArray);rfl;exact FLT;rfl));clear hA a;intro a hA)|(refine QT ?_;clear hA a;intro a hA)|refine CT ?_|fail)
  refine mM hA hH rfl rfl (by decide) (xJ (szs:=[(0,5),(5,5),(10,1),(11,1),(12,5),(17,1)]) (cs:=(zJ g kd s none 0 0++rI g fuel).toArray) (wP (by (repeat (first|exact SzL.nil|refine SzL.cons ⟨_,rfl,by decide⟩ ?_)))) rfl ?_) ?_
  · exact fill_M g kd s fuel
  clear hA a
  intro a hA
  repeat' (first|(refine QT ?_;clear hA a;intro a hA)|(refine BT ?_;clear hA hH;rintro _ w ⟨bN,rfl,hH⟩ a hA)|refine CT ?_|fail)
  obtain ⟨bM,hb3⟩:∃x,x=bN:=⟨_,rfl⟩;rw [←hb3] at hA hH;clear hb3 bN
  repeat' (first|(refine XT ?_;apply XE;(first|(apply zI (cs:=#[.int .i64 0,.slice none 0 0]);rfl;exact FLT;rfl)|(apply zY;rfl));clear hA a;intro a hA)|(refine QT ?_;clear hA a;intro a hA)|(refine BT ?_;clear hA hH;rintro _ w ⟨bN,rfl,hH⟩ a hA)|fail)
  obtain ⟨p,hb3⟩:∃x,x=bN:=⟨_,rfl⟩;rw [←hb3] at hA hH;clear hb3 bN
  obtain ⟨c,hc⟩:∃c,c=cx0 w0 g.fs.l.length p:=⟨_,rfl⟩
  have hfl:0<g.fs.l.length:=by have:=hM.anf.pos;rw [List.length_map] at this;exact this
  have hne:=may_ne hM
  have hfn:FnR c 0 [] p:=by rw [hc];exact cx0_fn w0 _ p hfl
  have hnf:c.nf=g.fs.l.length:=by rw [hc];rfl
  have hH1:=((hH.frz_nil (K:=fun w=>Kp w0 noM w) (fun w h=>h)).perm (H':=cb p 90 [.int .i64 0,.slice none 0 0]::frz w0 (fun w=>Kp w0 noM w)::cb bM 86 (zJ g kd s none 0 0++rI g fuel)::cb b8 29 (xD 0 empS empS)::cb b4 25 (yN g)::[]) PMT).frz_cb
  have hKe:c.K=fun w=>RdB w p [.int .i64 0,.slice none 0 0]∧Kp w0 noM w:=by rw [hc];rfl
  rw [←hKe] at hH1
  clear hH
  have hH:=hH1
  clear hH1
  (refine zH hA rfl rfl (by decide) (zA rfl rfl rfl (enter0_spec w0 w [cb b4 25 (yN g),cb b8 29 (xD 0 empS empS)] c bM p g kd s fuel (hH.perm PMT) hfn hR hnf hne)) ?_;clear hA hH;rintro _ w ⟨bv,mm,hmm,hH⟩ a hA)
  have hst:StR c [] (uM s).wd.st:=⟨by rw [hc];rfl,rfl,fun i e l h=>by cases h⟩
  have hMS:MSt w0 c bM g kd fuel (cb b8 29 (xD 0 empS empS)::cb b4 25 (yN g)::[]) (uM s) w:=by
    refine ⟨none,0,none,0,p,bv,mm,[],[],none,?_,hfn,hmm,rfl,hst⟩
    exact ((((hH.nil_flat zV 5 1).nil_all).nil_flat yF 83 5).nil_all).perm PMT
  have hok0:RunOk w0 g kd fuel.toNat s c (uM s) fuel:=⟨rfl,first_ok hne hfl,hnf,(fun w hw=>by rw [hKe] at hw;exact hw.2),hfu,(by rw [hc];exact Nat.le_refl _),(by rw [hc];show 65536+_≤_;omega),(by show 0+_≤_;omega),(by show 0+_≤_;omega)⟩
  clear hst hmm hH hfn hc hKe hnf
  have hA2:Sl 119 [(9,.pointer (some (bat bM 0))),(8,.pointer (some (bat b8 0)))] a:=(hA.sub SBT)
  clear hA
  have hss:=hR.2.2.2.2.2.le
  have hsz:=hM.anf.ss
  obtain ⟨HX,hHX⟩:∃HX:List It,HX=cb b8 29 (xD 0 empS empS)::cb b4 25 (yN g)::[]:=⟨_,rfl⟩
  rw [←hHX] at hMS
  replace hA:=hA2
  clear hA2
  repeat' (first|(refine QT ?_;clear hA a;intro a hA)|refine CT ?_|fail)
  refine yK (S:=Nat) (fun i a w=>(RunG w0 g kd fuel.toNat s bM HX i w∨(i=0∧RunE w0 g kd fuel.toNat s bM HX w))∧Sl 119 [(9,.pointer (some (bat bM 0))),(8,.pointer (some (bat b8 0)))] a) (fun i=>i)
    (fun a w=>RunE w0 g kd fuel.toNat s bM HX w∧Sl 119 [(9,.pointer (some (bat bM 0))),(8,.pointer (some (bat b8 0)))] a) (fuel.toNat+1) ⟨.inl ⟨c,uM s,fuel,⟨rfl,hok0⟩,hMS⟩,(hA.sub SBT)⟩ ?_ ?_
  · clear hA hMS hok0
    rintro i a w ⟨hS,hA⟩
    rcases hS with ⟨c,m,fu,⟨hi,hok⟩,oO,cO,oS,cS,pc,bv,mm,fms,sx,ph,hH,hpc,hmm,hfs,hst⟩| ⟨hi,hE⟩
    rotate_left
    · obtain ⟨k,r,wd,fu,hr,oO,cO,oS,nS,cS,pc,bv,pb,pi,ph,b,hH⟩:=hE
      repeat' (first|(refine QT ?_;clear hA a;intro a hA)|refine CT ?_|fail)
      exact ⟨⟨k,r,wd,fu,hr,oO,cO,oS,nS,cS,pc,bv,pb,pi,ph,b,hH⟩,(hA.sub SBT)⟩
    by_cases h0:fu≤0
    · repeat' (first|(refine QT ?_;clear hA a;intro a hA)|refine CT ?_|(refine DT ?_ ?_<;>intro hc<;>try (exfalso;omega))|fail)
      (refine zH hA rfl rfl (by decide) (zA rfl rfl rfl (eZ hH hpc hmm hfs hst 2 empS)) ?_;clear hA hH;rintro _ w hS a hA)
      repeat' (first|(refine QT ?_;clear hA a;intro a hA)|refine CT ?_|fail)
      refine ⟨0,⟨.inr ⟨rfl,2,empS,m.wd,fu,?_,hS⟩,(hA.sub SBT)⟩,by omega⟩
      rw [hok.run,show fu.toNat=0 by omega];rfl
    have hle:=hR.1.le
    have hcu:=cur_ok hM hok.mc.fm
    have hgR:=hR.2.1 _ hcu.gr
    have hbl:=hcu.bl
    have hbm:=List.mem_of_getElem? hbl
    have hbR:=hgR.2 _ hbm
    have hvI:=bl_is hbl
    have hsizes:=blk_sizes (hcu.size hM.size)
    have hspI:Sp (uO g m.fm).is.o (uO g m.fm).is.l.length:=hbR.2.1.1.sp (sz:=5) (zF sX _) (by omega)
    have htop:=hok.top
    have hb1:=hok.b1
    have hb0:=hok.b0
    have hsk:=hok.sk
    have hout:=hok.out
    have hwr:IntKind.i64.wrap (fu - 1)=fu - 1:=vB (by unfold sM;omega)
    have hnext:=fun w h=>run_next (bM:=bM) (H:=HX) (w:=w) hss hM hok (by omega) h
    have hblk:xG g m.fm.c.1 m.fm.b=some (sat (g.fs.l.getD m.fm.c.1.toNat gr0).bs.o (m.fm.b*6)):=rfl
    rw [hblk] at hH
    by_cases hlt:m.fm.i<(uO g m.fm).is.l.length
    · have hx:(uO g m.fm).is.l[m.fm.i]?=some (vA g m.fm):=by unfold vA;rw [List.getD_eq_getElem?_getD,List.getElem?_eq_getElem hlt];rfl
      have hxm:=List.mem_of_getElem? hx
      obtain ⟨hF,hat⟩:=hcu.blk.ins _ _ hx
      repeat' (first|(refine QT ?_;clear hA a;intro a hA)|refine CT ?_|(refine DT ?_ ?_<;>intro hc<;>try (exfalso;omega))|fail)
      (refine zQ [(0,1),(1,1),(2,1),(3,1),(4,1),(5,1),(6,1),(7,1),(8,1),(9,1),(10,1),(11,1),(12,1),(13,1),(14,1),(15,1)] mixed (by decide +kernel) hH ?_;replace hH:=hH.drew)
      repeat' (first|(refine XT ?_;apply XE;(first|(apply zC;rfl;exact xP hgR.1.1 id hvI));clear hA a;intro a hA)|(refine QT ?_;clear hA a;intro a hA)|(apply zO hA rfl rfl;apply zB (cs':=zJ g kd m.wd.inp oO m.wd.out.length cO++yS g (fu - 1) oS fms.length cS pc bv (some (sat (g.fs.l.getD m.fm.c.1.toNat gr0).bs.o (m.fm.b*6))) m.fm.i ph none);rfl;rfl;rfl;exact hH;(repeat constructor);clear hH;rintro _ w hH)|refine CT ?_|(refine DT ?_ ?_<;>intro hc<;>try (exfalso;omega))|fail)
      rw [←hblk] at hH
      (refine pB 10 [(0,1),(1,1),(2,1),(3,1),(4,1),(5,1),(6,1),(7,1),(8,1),(9,1),(10,1),(11,1),(12,1),(13,1),(14,1),(15,1)] [16] mixed (by decide +kernel) hH ?_;replace hH:=hH.drew)
      rw [hblk] at hH
      repeat' (first|(refine XT ?_;apply XE;(first|(apply zC;rfl;exact xP hgR.1.1 id hvI)|(apply zE;rfl;rfl;omega;exact hspI)|(apply zG (vs:=xK (vA g m.fm));rfl;rfl;exact yV hbR.2.1.1 id (yA sX hx)));clear hA a;intro a hA)|(refine QT ?_;clear hA a;intro a hA)|refine CT ?_|fail)
      rw [←hblk] at hH
      (refine rC hA rfl rfl rfl (by decide) (zA rfl rfl rfl (ins_spec hH hpc hmm hfs hst (vA g m.fm) hR hok.nf hne hsz hxs (by omega) hok.K (g.fs.l.getD m.fm.c.1.toNat gr0).caps hF (fun a ha=>atS_W hss (hat a ha)) (hbR.2.2.1 _ hxm) (by have:=hsizes.2.2.1 _ hxm;omega) (by have:=form_ns hF;have:=hsizes.2.2.1 _ hxm;omega) (by omega) (by omega) (by omega))) ?_;clear hA hH;rintro _ w hS a hA)
      rw [←step_ins (kd:=kd) hlt] at hS
      repeat' (first|(refine QT ?_;clear hA a;intro a hA)|refine CT ?_|fail)
      rcases hnext _ hS with h|h
      · exact ⟨fu.toNat,⟨.inl h,(hA.sub SBT)⟩,by omega⟩
      · exact ⟨0,⟨.inr ⟨rfl,h⟩,(hA.sub SBT)⟩,by omega⟩
    · repeat' (first|(refine QT ?_;clear hA a;intro a hA)|refine CT ?_|(refine DT ?_ ?_<;>intro hc<;>try (exfalso;omega))|fail)
      (refine zQ [(0,1),(1,1),(2,1),(3,1),(4,1),(5,1),(6,1),(7,1),(8,1),(9,1),(10,1),(11,1),(12,1),(13,1),(14,1),(15,1)] mixed (by decide +kernel) hH ?_;replace hH:=hH.drew)
      repeat' (first|(refine XT ?_;apply XE;(first|(apply zC;rfl;exact xP hgR.1.1 id hvI)|(apply zG (vs:=wO (uO g m.fm).e);rfl;rfl;exact yV hgR.1.1 id (bl_en hbl)));clear hA a;intro a hA)|(refine QT ?_;clear hA a;intro a hA)|(apply zO hA rfl rfl;apply zB (cs':=zJ g kd m.wd.inp oO m.wd.out.length cO++yS g (fu - 1) oS fms.length cS pc bv (some (sat (g.fs.l.getD m.fm.c.1.toNat gr0).bs.o (m.fm.b*6))) m.fm.i ph none);rfl;rfl;rfl;exact hH;(repeat constructor);clear hH;rintro _ w hH)|refine CT ?_|(refine DT ?_ ?_<;>intro hc<;>try (exfalso;omega))|fail)
      rw [←hblk] at hH
      have hto:∀t∈(uO g m.fm).e.to.l,EdgOk g w0 m.fm t:=fun t ht=>by
        obtain ⟨e1,e2,e3,e4⟩:=hcu.edge hss ht
        have e5:=hsizes.2.2.2.2.2 t ht
        exact ⟨e1,e2,e3,e4,by omega⟩
      (refine zH hA rfl rfl (by decide) (zA rfl rfl rfl (last_spec hH hpc hmm hfs hst (uO g m.fm).e hR hok.nf hne hsz hxs (by omega) hcu.blk.end_ hbR.2.2.2 (fun a ha=>atS_W hss (hcu.blk.ends a ha)) hto hFI (by have:=hsizes.2.2.2.2.1;omega) hok.mc.sk)) ?_;clear hA hH;rintro _ w hS a hA)
      rw [←step_last (kd:=kd) hlt] at hS
      repeat' (first|(refine QT ?_;clear hA a;intro a hA)|refine CT ?_|fail)
      rcases hnext _ hS with h|h
      · exact ⟨fu.toNat,⟨.inl h,(hA.sub SBT)⟩,by omega⟩
      · exact ⟨0,⟨.inr ⟨rfl,h⟩,(hA.sub SBT)⟩,by omega⟩
  clear hA hMS hok0
  rintro a w ⟨⟨k,r,wd,fu,hr,oO,cO,oS,nS,cS,pc,bv,pb,pi,ph,b,hH⟩,hA⟩
  subst hHX
  repeat' (first|(refine QT ?_;clear hA a;intro a hA)|refine CT ?_|fail)
  (refine zK [(0,1),(1,1),(2,1),(3,1),(4,1),(5,1),(6,1),(7,1),(8,1),(9,1),(10,1),(11,1)] [12] mixed (by decide +kernel) hH ?_;replace hH:=hH.drew)
  repeat' (first|(refine XT ?_;apply XE;(first|(apply fF (l':=wd.out);rfl;rfl;exact fun w h=>h.own_rd (by exact MEMT)));clear hA a;intro a hA)|(refine QT ?_;clear hA a;intro a hA)|(apply zX hA rfl rfl rfl;apply zB (cs':=xD k (ofB wd.out) r);rfl;rfl;rfl;exact hH;(repeat constructor);clear hH;rintro _ w hH)|refine CT ?_|fail)
  repeat' (first|(refine QT ?_;clear hA a;intro a hA)|(refine SAT (xD k (ofB wd.out) r) hA hH ?_;clear hH;intro w hH)|refine CT ?_|fail)
  refine rt1c (vs:=xD k (ofB wd.out) r) (.inl rfl) rfl hA rfl rfl hH (zR (by exact MEMT)) ⟨?_,hH.kp⟩
  rw [runP_t hM,hr]
  rfl
end
noncomputable def eP (fl:List FN) (g:Grs) (kd:Int) (s:ByteArray) (fuel:Int):Int × ByteArray × ByteArray:=
  open Classical in if MayN fl g then ((rT fl g kd fuel.toNat (uN fl s)).1,ofB (rT fl g kd fuel.toNat (uN fl s)).2.2.out,(rT fl g kd fuel.toNat (uN fl s)).2.1) else (4,empS,empS)
theorem runN_t {fl:List FN} {g:Grs} {kd:Int} {s:ByteArray} {fuel:Int} (h:MayN fl g):eP fl g kd s fuel=((rT fl g kd fuel.toNat (uN fl s)).1,ofB (rT fl g kd fuel.toNat (uN fl s)).2.2.out,(rT fl g kd fuel.toNat (uN fl s)).2.1):=by unfold eP;rw [if_pos h]
theorem runN_f {fl:List FN} {g:Grs} {kd:Int} {s:ByteArray} {fuel:Int} (h:¬MayN fl g):eP fl g kd s fuel=(4,empS,empS):=by unfold eP;rw [if_neg h]
structure RunAOk (w0:World) (fl:List FN) (g:Grs) (kd:Int) (n0:Nat) (inp:ByteArray) (c:Cx) (m:Am) (fu:Int):Prop where
  run:rT fl g kd n0 (uN fl inp)=rT fl g kd fu.toNat m
  mc:AmOk fl g (RdN w0) m
  nf:c.nf=fl.length
  K:∀w,c.K w→Kp w0 noM w
  top:fu≤3000
  b0:65536≤c.bd
  b1:c.bd+fu.toNat≤70000
  sk:m.sk.length+fu.toNat≤3000
  out:m.wd.out.length+fu.toNat≤3000
def RunAG (w0:World) (fl:List FN) (g:Grs) (oF:Option Addr) (cF:Nat) (kd:Int) (n0:Nat) (inp:ByteArray) (bM:Nat) (H:List It) (i:Nat) (w:World):Prop:=
  ∃c m fu,(i=fu.toNat+1∧RunAOk w0 fl g kd n0 inp c m fu)∧AMSt w0 c bM g fl oF cF kd fu H m w
def RunAE (w0:World) (fl:List FN) (g:Grs) (oF:Option Addr) (cF:Nat) (kd:Int) (n0:Nat) (inp:ByteArray) (bM:Nat) (H:List It) (w:World):Prop:=
  ∃k r wd fu,rT fl g kd n0 (uN fl inp)=(k,r,wd)∧AMEnd w0 bM g fl oF cF kd fu H k r wd w
theorem run_nextA {w0 w:World} {fl:List FN} {g:Grs} {oF:Option Addr} {cF:Nat} {kd:Int} {n0:Nat} {inp:ByteArray} {c:Cx} {m:Am} {fu:Int} {bM:Nat} {H:List It} (hF:FlOk fl g (RdN w0)) (h:RunAOk w0 fl g kd n0 inp c m fu) (h0:0<fu) (hS:ArW w0 c bM g fl oF cF kd (fu - 1) H (uP fl g kd m) w) :
    RunAG w0 fl g oF cF kd n0 inp bM H fu.toNat w∨RunAE w0 fl g oF cF kd n0 inp bM H w:=by
  obtain ⟨n,hn⟩:∃n,fu.toNat=n+1:=⟨fu.toNat - 1,by omega⟩
  have hn1:(fu - 1).toNat=n:=by omega
  have hrun:=h.run
  have htop:=h.top
  have hb0:=h.b0
  have hb1:=h.b1
  have hsk:=h.sk
  have hout:=h.out
  rw [hn,rT] at hrun
  cases hs:uP fl g kd m with
  | go m'=>
    rw [hs] at hS hrun
    obtain ⟨d,⟨hle,hbd⟩,hm⟩:=hS
    have hm2:=hm
    obtain ⟨oO,cO,oS,cS,pc,bv,bj,xx,kk,mm,jm,fms,sx,ph,pb,hH,hf,hrest⟩:=hm2
    obtain ⟨o,k,vs,hr,_⟩:=hf
    have hnf:d.nf=fl.length:=by rw [←hle.nf];exact h.nf
    have ho:=stepA_ok hF hs h.mc hr.1 (by omega)
    have h1:=ho.sk
    have h2:=ho.out
    have h3:=hle.bd
    refine .inl ⟨d,m',fu - 1,⟨by omega,⟨by rw [hn1];exact hrun,ho.ok,hnf,fun w hw=>h.K w (hle.K w hw),by omega,by omega,by omega,by omega,by omega⟩⟩,hm⟩
  | stop k r wd=>
    rw [hs] at hS hrun
    exact .inr ⟨k,r,wd,fu - 1,hrun,hS⟩
def zMA : Value:=Value.agg #[Value.slice none 0 0,Value.slice none 0 0,Value.int IntKind.i64 0,Value.string ByteArray.empty,
            Value.slice none 0 0,Value.slice none 0 0,Value.slice none 0 0,Value.slice none 0 0,
            Value.slice none 0 0,Value.slice none 0 0,Value.int IntKind.i64 0,Value.slice none 0 0,
            Value.pointer none,Value.map none,Value.map none,Value.int IntKind.i64 0,Value.pointer none,
            Value.pointer none,Value.pointer none,Value.pointer none]
theorem fill_MA (g:Grs) (kd:Int) (s:ByteArray) (fuel:Int) (oF:Option Addr) (nF cF:Nat) :
    Instr.fill (fun x=>([(0,5),(5,5),(10,1),(11,1),(12,6),(18,1),(19,1)]:List (Nat × Nat))[x]?) zMA.cells [(0,.agg (zJ g kd s none 0 0).toArray),(1,.agg (xA oF nF cF g).toArray),(2,.int .i64 fuel)]=some (zJ g kd s none 0 0++dX oF nF cF g fuel).toArray:=by
  simp [Instr.fill,zMA,zJ,xA,dX,Value.cells]
section
attribute [local irreducible] Code.wp wpList Calls Ex Op1 sat bat blk cb own Go.Fw.mp Go.Fw.mpO Go.Fw.mpI Go.Fw.mpE Go.Fw.itr HS Rd Ret wkD Hp Cl Cls Exit.then Exit.inBlock Exit.noGoto bodyPost Go.Fw.flat wk2 Go.Fw.all Go.Fw.owns wpOp
attribute [local irreducible] sk mpK sko mvO xI opM Go.Fw.mset Go.Fw.mv opK w63 frz obI RV wQ vR vT wT

theorem RunA_spec (w0:World) (oF:Option Addr) (cF:Nat) (fl:List FN) (g:Grs) (kd:Int) (s:ByteArray) (fuel:Int) (hFr:Rd w0 oF (flat xX fl)) (hr:∀f∈fl,RdN w0 f.body) (hcl:fl.length≤17592186044416) (hls:RdV w0 yY g.ls) (hts:RdV w0 yY g.ts) (hxs:RdV w0 yY g.xs) (hss:RdV w0 yY g.ss) (hxz:∀s∈g.xs.l,s.size≤4611686018427387904) (hfu:fuel≤3000) (hFI:FI w0) :
    Ret Tryz.prog 22 #[.agg (xA oF fl.length cF g).toArray,.int .i64 kd,.string s,.int .i64 fuel] w0 (fun v w=>v= .agg (qX (eP fl g kd s fuel)).toArray∧Kp w0 noM w):=by
  have hH:HS w0 noM [] w0:=HS.init w0 noM
  (refine ENT (N:=56) Tryz.func22 Tryz.ntmps22 ?_;intro a hA)
  repeat' (first|(refine XT ?_;apply XE;(first|(apply zG (vs:=xA oF fl.length cF g);rfl;rfl;exact zR MEMT));clear hA a;intro a hA)|(refine QT ?_;clear hA a;intro a hA)|(refine BT ?_;clear hA hH;rintro _ w ⟨bN,rfl,hH⟩ a hA)|refine CT ?_|fail)
  have key:∃b4 b8,HS w0 noM [cb b8 29 (xD 0 empS empS),cb b4 34 (xA oF fl.length cF g)] w∧Sl 56 [(10,.agg (xA oF fl.length cF g).toArray),(8,.pointer (some (bat b8 0))),(4,.pointer (some (bat b4 0))),(1,.int .i64 kd),(2,.string s),(3,.int .i64 fuel)] a:=⟨_,_,hH,(hA.sub SBT)⟩
  clear hA hH
  obtain ⟨b4,b8,hH,hA⟩:=key
  (refine zH hA rfl rfl (by decide) (zA rfl rfl rfl (qU _ oF cF fl g (hH.rd hFr id) (fun f hf=>(hr f hf).keep hH.kp) hcl (hls.keep hH.kp) (hts.keep hH.kp) (hxs.keep hH.kp) (hss.keep hH.kp))) ?_;clear hA;rintro _ w ⟨may,rfl,hmay,hk⟩ a hA;replace hH:=hH.keep hk;clear hk)
  cases may with
  | false=>
    have hno:¬MayN fl g:=fun h=>by cases hmay.2 h
    repeat' (first|(refine XT ?_;apply XE;(first|(apply zI (cs:=(xD 4 empS empS).toArray);rfl;exact FLT;rfl));clear hA a;intro a hA)|(refine QT ?_;clear hA a;intro a hA)|(refine SAT (xD 4 empS empS) hA hH ?_;clear hH;intro w hH)|refine CT ?_|fail)
    exact rt1c (vs:=xD 4 empS empS) (.inl rfl) rfl hA rfl rfl hH (zR (by exact MEMT)) ⟨by rw [runN_f hno];rfl,hH.kp⟩
  |true=>
  have hM:=hmay.1 rfl
  have hfl50:(yW fl).length≤1000000:=by have:=hM.1.top;omega
  have hfl:0<fl.length:=by have:=hM.1.pos;unfold yW at this;rw [List.length_map] at this;exact this
  have hP:PrR w0 oF fl g:=⟨hFr,hr,(by unfold yW at hfl50;rw [List.length_map] at hfl50;exact hfl50),hxs,hss⟩
  have hsl:=hss.le
  have hFl:FlOk fl g (RdN w0):=fl_ok (by omega) hM hP
  repeat' (first|(refine XT ?_;apply XE;(first|(apply zG (vs:=xA oF fl.length cF g);rfl;rfl;exact zR MEMT)|(apply zI (cs:=(zJ g kd s none 0 0).toArray);rfl;exact FLT;rfl));clear hA a;intro a hA)|(refine QT ?_;clear hA a;intro a hA)|refine CT ?_|fail)
  refine mM hA hH rfl rfl (by decide) (xJ (szs:=[(0,5),(5,5),(10,1),(11,1),(12,6),(18,1),(19,1)]) (cs:=(zJ g kd s none 0 0++dX oF fl.length cF g fuel).toArray) (wP (by (repeat (first|exact SzL.nil|refine SzL.cons ⟨_,rfl,by decide⟩ ?_)))) rfl ?_) ?_
  · exact fill_MA g kd s fuel oF fl.length cF
  clear hA a
  intro a hA
  repeat' (first|(refine QT ?_;clear hA a;intro a hA)|(refine BT ?_;clear hA hH;rintro _ w ⟨bN,rfl,hH⟩ a hA)|refine CT ?_|fail)
  obtain ⟨bM,hb3⟩:∃x,x=bN:=⟨_,rfl⟩;rw [←hb3] at hA hH;clear hb3 bN
  repeat' (first|(refine XT ?_;apply XE;(first|(apply zI (cs:=#[.int .i64 0,.slice none 0 0]);rfl;exact FLT;rfl)|(apply zY;rfl));clear hA a;intro a hA)|(refine QT ?_;clear hA a;intro a hA)|(refine BT ?_;clear hA hH;rintro _ w ⟨bN,rfl,hH⟩ a hA)|fail)
  obtain ⟨p,hb3⟩:∃x,x=bN:=⟨_,rfl⟩;rw [←hb3] at hA hH;clear hb3 bN
  obtain ⟨c,hc⟩:∃c,c=cx0 w0 fl.length p:=⟨_,rfl⟩
  have hfn:FnR c 0 [] p:=by rw [hc];exact cx0_fn w0 _ p hfl
  have hnf:c.nf=fl.length:=by rw [hc];rfl
  have hH1:=((hH.frz_nil (K:=fun w=>Kp w0 noM w) (fun w h=>h)).perm (H':=cb p 90 [.int .i64 0,.slice none 0 0]::frz w0 (fun w=>Kp w0 noM w)::cb bM 136 (zJ g kd s none 0 0++dX oF fl.length cF g fuel)::cb b8 29 (xD 0 empS empS)::cb b4 34 (xA oF fl.length cF g)::[]) PMT).frz_cb
  have hKe:c.K=fun w=>RdB w p [.int .i64 0,.slice none 0 0]∧Kp w0 noM w:=by rw [hc];rfl
  rw [←hKe] at hH1
  clear hH
  have hH:=hH1
  clear hH1
  have hK0:∀w,c.K w→Kp w0 noM w:=fun w hw=>by rw [hKe] at hw;exact hw.2
  (refine zH hA rfl rfl (by decide) (zA rfl rfl rfl (aT w0 w [cb b4 34 (xA oF fl.length cF g),cb b8 29 (xD 0 empS empS)] c bM p g fl oF cF kd s fuel (hH.perm PMT) hfn hP hnf)) ?_;clear hA hH;rintro _ w ⟨bv,bj,mm,hmm,hH⟩ a hA)
  have hst:StR c [] (uN fl s).wd.st:=⟨by rw [hc];rfl,rfl,fun i e l h=>by cases h⟩
  have hMS:AMSt w0 c bM g fl oF cF kd fuel (cb b8 29 (xD 0 empS empS)::cb b4 34 (xA oF fl.length cF g)::[]) (uN fl s) w:=by
    refine ⟨none,0,none,0,p,bv,bj,0,none,mm,[],[],[],none,_,?_,hfn,hmm,JmR.nil _,rfl,hst,jW (f:=0) hP hK0 (Int.le_refl _) (by omega)⟩
    exact ((((hH.nil_flat zV 5 1).nil_all).nil_flat yD 134 6).nil_all).perm PMT
  have hok0:RunAOk w0 fl g kd fuel.toNat s c (uN fl s) fuel:=⟨rfl,firstA_ok hFl hfl,hnf,hK0,hfu,(by rw [hc];exact Nat.le_refl _),(by rw [hc];show 65536+_≤_;omega),(by show 0+_≤_;omega),(by show 0+_≤_;omega)⟩
  clear hst hmm hH hfn hc hKe hnf
  have hA2:Sl 56 [(9,.pointer (some (bat bM 0))),(8,.pointer (some (bat b8 0)))] a:=(hA.sub SBT)
  clear hA
  have hsz:=hM.1.ss
  have htl:=hts.le
  obtain ⟨HX,hHX⟩:∃HX:List It,HX=cb b8 29 (xD 0 empS empS)::cb b4 34 (xA oF fl.length cF g)::[]:=⟨_,rfl⟩
  rw [←hHX] at hMS
  replace hA:=hA2
  clear hA2
  repeat' (first|(refine QT ?_;clear hA a;intro a hA)|refine CT ?_|fail)
  refine yK (S:=Nat) (fun i a w=>(RunAG w0 fl g oF cF kd fuel.toNat s bM HX i w∨(i=0∧RunAE w0 fl g oF cF kd fuel.toNat s bM HX w))∧Sl 56 [(9,.pointer (some (bat bM 0))),(8,.pointer (some (bat b8 0)))] a) (fun i=>i)
    (fun a w=>RunAE w0 fl g oF cF kd fuel.toNat s bM HX w∧Sl 56 [(9,.pointer (some (bat bM 0))),(8,.pointer (some (bat b8 0)))] a) (fuel.toNat+1) ⟨.inl ⟨c,uN fl s,fuel,⟨rfl,hok0⟩,hMS⟩,(hA.sub SBT)⟩ ?_ ?_
  · clear hA hMS hok0
    rintro i a w ⟨hS,hA⟩
    rcases hS with ⟨c,m,fu,⟨hi,hok⟩,oO,cO,oS,cS,pc,bv,bj,xx,kk,mm,jm,fms,sx,ph,pb,hH,hpc,hmm,hjm,hfs,hst,hpt⟩| ⟨hi,hE⟩
    rotate_left
    · obtain ⟨k,r,wd,fu,hr,oO,cO,oS,nS,cS,pc,bv,bj,xx,kk,ph,pb,b,hH⟩:=hE
      repeat' (first|(refine QT ?_;clear hA a;intro a hA)|refine CT ?_|fail)
      exact ⟨⟨k,r,wd,fu,hr,oO,cO,oS,nS,cS,pc,bv,bj,xx,kk,ph,pb,b,hH⟩,(hA.sub SBT)⟩
    have htop:=hok.top
    have hb1:=hok.b1
    have hb0:=hok.b0
    have hsk:=hok.sk
    have hout:=hok.out
    obtain ⟨ob,jb,rfl,hb3⟩:=hpt
    repeat' (first|(refine QT ?_;clear hA a;intro a hA)|refine CT ?_|fail)
    by_cases h0:fu≤0
    · (refine zH hA rfl rfl (by decide) (zA rfl rfl rfl (stepA0_spec hH hpc hmm hjm hfs hst h0)) ?_;clear hA hH;rintro _ w hS a hA)
      repeat' (first|(refine QT ?_;clear hA a;intro a hA)|refine CT ?_|fail)
      refine ⟨0,⟨.inr ⟨rfl,2,empS,m.wd,fu,?_,hS⟩,(hA.sub SBT)⟩,by omega⟩
      rw [hok.run,show fu.toNat=0 by omega];rfl
    have hnext:=fun w h=>run_nextA (oF:=oF) (cF:=cF) (bM:=bM) (H:=HX) (w:=w) hFl hok (by omega) h
    obtain ⟨js,hfm⟩:=hok.mc.fm
    have hbd:=hfm.bd
    have hrd:=hfm.rd
    rcases hmb:m.b with ⟨k0,x0,xs0,n0,ns0,r0,va0,ko,kc,kids⟩
    rw [hmb] at hb3 hbd hrd
    (refine zH hA rfl rfl (by decide) (zA rfl rfl rfl (stepA_spec hH hpc hmm hjm hfs hst k0 x0 n0 xs0 ns0 r0 va0 ko kc kids hmb hb3 hrd hP hok.nf (by omega) hsz hxz (by omega) hok.K _ hbd hok.mc.jmp (fun h8=>hok.mc.jr h8) hFI hb0 (by omega) (by omega) (by omega) (by omega))) ?_;clear hA hH;rintro _ w hS a hA)
    repeat' (first|(refine QT ?_;clear hA a;intro a hA)|refine CT ?_|fail)
    rcases hnext _ hS with h|h
    · exact ⟨fu.toNat,⟨.inl h,(hA.sub SBT)⟩,by omega⟩
    · exact ⟨0,⟨.inr ⟨rfl,h⟩,(hA.sub SBT)⟩,by omega⟩
  clear hA hMS hok0
  rintro a w ⟨⟨k,r,wd,fu,hr,oO,cO,oS,nS,cS,pc,bv,bj,xx,kk,ph,pb,b,hH⟩,hA⟩
  subst hHX
  repeat' (first|(refine QT ?_;clear hA a;intro a hA)|refine CT ?_|fail)
  (refine zK [(0,1),(1,1),(2,1),(3,1),(4,1),(5,1),(6,1),(7,1),(8,1),(9,1),(10,1),(11,1)] [12] mixed (by decide +kernel) hH ?_;replace hH:=hH.drew)
  repeat' (first|(refine XT ?_;apply XE;(first|(apply fF (l':=wd.out);rfl;rfl;exact fun w h=>h.own_rd (by exact MEMT)));clear hA a;intro a hA)|(refine QT ?_;clear hA a;intro a hA)|(apply zX hA rfl rfl rfl;apply zB (cs':=xD k (ofB wd.out) r);rfl;rfl;rfl;exact hH;(repeat constructor);clear hH;rintro _ w hH)|refine CT ?_|fail)
  repeat' (first|(refine QT ?_;clear hA a;intro a hA)|(refine SAT (xD k (ofB wd.out) r) hA hH ?_;clear hH;intro w hH)|refine CT ?_|fail)
  refine rt1c (vs:=xD k (ofB wd.out) r) (.inl rfl) rfl hA rfl rfl hH (zR (by exact MEMT)) ⟨?_,hH.kp⟩
  rw [runN_t hM,hr]
  rfl
end
inductive At (D:List Blc):List (Int × Nat)→Nat→Nat→AN→Prop
  |let_ {J:List (Int × Nat)} {q i:Nat} {b:AN} {bl:Blc} {y:Ins} (hk:b.k=1) (hb:D[q]?=some bl) (hy:bl.is.l[i]?=some y) (hx:y.x=b.x) (hr:y.r=stS b.r) (h:At D J q (i+1) (tA b 0)):At D J q i b
  |end_ {J:List (Int × Nat)} {q i:Nat} {b:AN} {bl:Blc} (hk:b.k=2∨b.k=3∨b.k=4) (hb:D[q]?=some bl) (hi:bl.is.l.length=i) (he:bl.e.k=b.k - 1) (ha:bl.e.a.l=b.a.l):At D J q i b
  | kids {J:List (Int × Nat)} {q i:Nat} {b:AN} {bl:Blc} (hk:b.k=5∨b.k=6) (hb:D[q]?=some bl) (hi:bl.is.l.length=i) (he:bl.e.k=b.k) (ha:bl.e.a.l=b.a.l) (hn:bl.e.ns.l=b.ns.l) (hl:(b.k=5→b.kids.length=2)∧(b.k=6→b.kids.length=b.ns.l.length+1))
      (h:∀m,m<b.kids.length→∃(T:Nat) (bt:Blc),bl.e.to.l[m]?=some ⟨(T:Int),lv []⟩∧D[T]?=some bt∧bt.ps.l=[]) (h2:∀m (T:Nat),m<b.kids.length→bl.e.to.l[m]?=some ⟨(T:Int),lv []⟩→At D J T 0 (tA b m)):At D J q i b
  |jump {J:List (Int × Nat)} {q i:Nat} {b:AN} {bl:Blc} {T:Nat} (hk:b.k=8) (hb:D[q]?=some bl) (hi:bl.is.l.length=i) (he:bl.e.k=4) (ht:bl.e.to.l=[⟨(T:Int),lv b.a.l⟩]) (hj:(b.n,T)∈J):At D J q i b
  |join {J:List (Int × Nat)} {q i:Nat} {b:AN} {bt:Blc} {T:Nat} (hk:b.k=7) (ht:D[T]?=some bt) (hp:bt.ps.l=b.xs.l) (hn:∀e∈J,e.1≠b.n) (h0:At D J T 0 (tA b 0)) (h1:At D ((b.n,T)::J) q i (tA b 1)):At D J q i b
structure Gr1 (p:Nat) (S S':FS):Prop where
  len:S.1.length≤S'.1.length
  old:∀i,i<S.1.length→i≠p→S'.1[i]?=S.1[i]?
  at_:∀bl,S.1[p]?=some bl→∃bl' t,S'.1[p]?=some bl'∧bl'.ps=bl.ps∧bl'.is.l=bl.is.l++t
def GrP1 (b:AN):Prop:=∀p S,p<S.1.length→Gr1 p S (xH b p S)
theorem jT:∀l:List AN,(∀b∈l,GrP1 b)→∀(S:FS) (es:List Edg),S.1.length≤(xW l S es).1.1.length∧∀i,i<S.1.length→(xW l S es).1.1[i]?=S.1[i]?
  | [],_,S,es=>by rw [xW];exact ⟨Nat.le_refl _,fun _ _=>rfl⟩
  | b::l,ih,S,es=>by
    rw [xW]
    have h:=ih b (List.mem_cons_self ..) S.1.length (S.1++[xS []],S.2) (by simp)
    obtain ⟨h1,h2⟩:=jT l (fun b hb=>ih b (List.mem_cons_of_mem _ hb)) (xH b S.1.length (S.1++[xS []],S.2)) (es++[⟨S.1.length,lv []⟩])
    have hl:=h.len
    dsimp only at hl
    rw [List.length_append,List.length_singleton] at hl
    refine ⟨by omega,fun i hi=>?_⟩
    rw [h2 i (by omega),h.old i (by dsimp only;rw [List.length_append];omega) (by omega)]
    exact List.getElem?_append_left hi
theorem kF:∀b:AN,GrP1 b:=oK fun k x xs n ns r a ko kc kids ih=>by
  intro p S hp
  have hend:∀(S2:FS) (e:En),S.1.length≤S2.1.length→(∀i,i<S.1.length→S2.1[i]?=S.1[i]?)→Gr1 p S (S2.1.modify p (wC e),S2.2):=fun S2 e hl ho=>
    ⟨by dsimp only;rw [List.length_modify];exact hl,fun i hi hn=>by dsimp only;rw [tS hn];exact ho i hi,fun bl hbl=>⟨wC e bl,[],xU ((ho p hp).trans hbl),rfl,(List.append_nil _).symm⟩⟩
  rw [xH]
  by_cases h1:k=1
  · rw [if_pos h1]
    have hm:∀S':FS,Gr1 p (S.1.modify p (tJ x r),S.2) S'→Gr1 p S S':=fun S' h=>by
      have hl:=h.len
      dsimp only at hl
      rw [List.length_modify] at hl
      refine ⟨hl,fun i hi hn=>?_,fun bl hbl=>?_⟩
      · rw [h.old i (by dsimp only;rw [List.length_modify];exact hi) hn]
        exact tS hn
      · obtain ⟨bl',t,e1,e2,e3⟩:=h.at_ (tJ x r bl) (xU hbl)
        exact ⟨bl',⟨x,stS r⟩::t,e1,e2,by rw [e3];show (bl.is.l++[_])++t=_;rw [List.append_assoc];rfl⟩
    cases kids with
    |nil=>rw [tK];exact hm _ ⟨Nat.le_refl _,fun _ _ _=>rfl,fun bl h=>⟨bl,[],h,rfl,(List.append_nil _).symm⟩⟩
    |cons b l=>rw [tK];exact hm _ (ih b (List.mem_cons_self ..) p _ (by dsimp only;rw [List.length_modify];exact hp))
  rw [if_neg h1]
  by_cases h7:k=7
  · rw [if_pos h7]
    cases kids with
    | nil=>
      rw [lB]
      exact ⟨by simp,fun i hi _=>List.getElem?_append_left hi,fun bl h=>⟨bl,[],(List.getElem?_append_left hp).trans h,rfl,(List.append_nil _).symm⟩⟩
    | cons b l=>
      rw [lB]
      have h:=ih b (List.mem_cons_self ..) S.1.length (S.1++[xS xs.l],wX S.2 n S.1.length) (by simp)
      obtain ⟨S2,hS2⟩:∃S2,S2=xH b S.1.length (S.1++[xS xs.l],wX S.2 n S.1.length):=⟨_,rfl⟩
      rw [←hS2] at h ⊢
      have hl:=h.len
      dsimp only at hl
      rw [List.length_append,List.length_singleton] at hl
      have ho:∀i,i<S.1.length→S2.1[i]?=S.1[i]?:=fun i hi=>by
        rw [h.old i (by dsimp only;rw [List.length_append];omega) (by omega)]
        exact List.getElem?_append_left hi
      have hm:∀S':FS,Gr1 p S2 S'→Gr1 p S S':=fun S' h'=>⟨by have:=h'.len;omega,fun i hi hn=>(h'.old i (by omega) hn).trans (ho i hi),fun bl hbl=>h'.at_ bl ((ho p hp).trans hbl)⟩
      cases l with
      |nil=>rw [tK];exact hm _ ⟨Nat.le_refl _,fun _ _ _=>rfl,fun bl h=>⟨bl,[],h,rfl,(List.append_nil _).symm⟩⟩
      |cons b1 l=>rw [tK];exact hm _ (ih b1 (List.mem_cons_of_mem _ (List.mem_cons_self ..)) p S2 (by omega))
  rw [if_neg h7]
  by_cases h8:k=8
  · rw [if_pos h8]
    exact hend S _ (Nat.le_refl _) fun _ _=>rfl
  rw [if_neg h8]
  by_cases h5:k=5∨k=6
  · rw [if_pos h5]
    obtain ⟨e1,e2⟩:=jT kids ih S []
    exact hend (xW kids S []).1 _ e1 e2
  · rw [if_neg h5]
    exact hend S _ (Nat.le_refl _) fun _ _=>rfl
def TbP (b:AN):Prop:=∀(sn:List Int) p S,Fr sn b→∀m∈sn,lkI (xH b p S).2 m=lkI S.2 m
theorem fillK_t:∀l:List AN,(∀b∈l,TbP b)→∀(sn:List Int) (S:FS) (es:List Edg),(∀b∈l,Fr sn b)→∀m∈sn,lkI (xW l S es).1.2 m=lkI S.2 m
  | [],_,sn,S,es,_,m,hm=>by rw [xW]
  | b::l,ih,sn,S,es,hf,m,hm=>by
    rw [xW,fillK_t l (fun b hb=>ih b (List.mem_cons_of_mem _ hb)) sn _ _ (fun b hb=>hf b (List.mem_cons_of_mem _ hb)) m hm]
    exact ih b (List.mem_cons_self ..) sn _ _ (hf b (List.mem_cons_self ..)) m hm
theorem fill_t:∀b:AN,TbP b:=oK fun k x xs n ns r a ko kc kids ih=>by
  intro sn p S hf m hm
  have hkid:∀b,b∈kids→k≠7→Fr sn b:=fun b hb hk=>by
    obtain ⟨i,hi⟩:=List.getElem?_of_mem hb
    cases hf with
    | mk h7 hkk=>
      have h2:Fr (if k=7 then n::sn else sn) b:=hkk i b hi
      rwa [if_neg hk] at h2
  rw [xH]
  by_cases h1:k=1
  · rw [if_pos h1]
    cases kids with
    |nil=>rw [tK]
    |cons b l=>rw [tK];exact ih b (List.mem_cons_self ..) sn _ _ (hkid b (List.mem_cons_self ..) (by omega)) m hm
  rw [if_neg h1]
  by_cases h7:k=7
  · rw [if_pos h7]
    have hn:n ∉ sn:=by cases hf with|mk e7 hkk=>exact e7 h7
    have hkid7:∀b,b∈kids→Fr (n::sn) b:=fun b hb=>by
      obtain ⟨i,hi⟩:=List.getElem?_of_mem hb
      cases hf with
      | mk e7 hkk=>
        have h2:Fr (if k=7 then n::sn else sn) b:=hkk i b hi
        rwa [if_pos h7] at h2
    have hset:lkI (wX S.2 n S.1.length) m=lkI S.2 m:=by rw [uX,if_neg (show ¬m=n from fun e=>hn (e▸hm))]
    cases kids with
    |nil=>rw [lB];exact hset
    | cons b l=>
      rw [lB]
      have e1:=ih b (List.mem_cons_self ..) (n::sn) S.1.length (S.1++[xS xs.l],wX S.2 n S.1.length) (hkid7 b (List.mem_cons_self ..)) m (List.mem_cons_of_mem _ hm)
      cases l with
      |nil=>rw [tK];exact e1.trans hset
      |cons b1 l=>rw [tK];exact ((ih b1 (List.mem_cons_of_mem _ (List.mem_cons_self ..)) (n::sn) _ _ (hkid7 b1 (List.mem_cons_of_mem _ (List.mem_cons_self ..))) m (List.mem_cons_of_mem _ hm)).trans e1).trans hset
  rw [if_neg h7]
  by_cases h8:k=8
  · rw [if_pos h8]
  rw [if_neg h8]
  by_cases h5:k=5∨k=6
  · rw [if_pos h5]
    exact fillK_t kids ih sn S [] (fun b hb=>hkid b hb h7) m hm
  · rw [if_neg h5]
section
variable {g:Grs} {la:List Int} {mine:Int}
def Tbl (S:FS) (sn:List Int) (J:List (Int × Nat)):Prop:=∀e∈J,lkI S.2 e.1=some (e.2:Int)∧e.1∈sn
def Cov (js J:List (Int × Nat)):Prop:=∀e∈js,∃T,(e.1,T)∈J
def FaP (g:Grs) (la:List Int) (mine:Int) (b:AN):Prop:=∀(sn:List Int) (js J:List (Int × Nat)) (p:Nat) (S:FS) (bl:Blc) (D:List Blc),Fr sn b→Wf g la mine js b→Cov js J→Tbl S sn J→S.1[p]?=some bl→
  (∀i,(i=p∨(S.1.length≤i∧i<(xH b p S).1.length))→D[i]?=(xH b p S).1[i]?)→At D J p bl.is.l.length b
theorem fillK_at:∀l:List AN,(∀b∈l,FaP g la mine b)→∀(sn:List Int) (js J:List (Int × Nat)) (S:FS) (es:List Edg) (D:List Blc),(∀b∈l,Fr sn b)→(∀b∈l,Wf g la mine js b)→Cov js J→Tbl S sn J→
    (∀i,S.1.length≤i→i<(xW l S es).1.1.length→D[i]?=(xW l S es).1.1[i]?)→∃es',(xW l S es).2=es++es'∧es'.length=l.length∧∀(m:Nat) (b:AN),l[m]?=some b→∃(T:Nat) (bt:Blc),es'[m]?=some ⟨(T:Int),lv []⟩∧D[T]?=some bt∧bt.ps.l=[]∧At D J T 0 b
  | [],_,sn,js,J,S,es,D,_,_,_,_,_=>⟨[],by rw [xW,List.append_nil],rfl,fun m b h=>by simp at h⟩
  | b ::l,ih,sn,js,J,S,es,D,hf,hw,hc,ht,hD=>by
    rw [xW] at hD ⊢
    obtain ⟨S2,hS2⟩:∃S2,S2=xH b S.1.length (S.1++[xS []],S.2):=⟨_,rfl⟩
    have hg:=kF b S.1.length (S.1++[xS []],S.2) (by simp)
    have htb:=fill_t b sn S.1.length (S.1++[xS []],S.2) (hf b (List.mem_cons_self ..))
    have hat:=ih b (List.mem_cons_self ..) sn js J S.1.length (S.1++[xS []],S.2) (xS []) D (hf b (List.mem_cons_self ..)) (hw b (List.mem_cons_self ..)) hc ht (by simp)
    rw [←hS2] at hD hg htb hat ⊢
    have hl:=hg.len
    dsimp only at hl
    rw [List.length_append,List.length_singleton] at hl
    obtain ⟨k1,k2⟩:=jT l (fun b _=>kF b) S2 (es++[⟨S.1.length,lv []⟩])
    obtain ⟨es',e1,e2,e3⟩:=fillK_at l (fun b hb=>ih b (List.mem_cons_of_mem _ hb)) sn js J S2 (es++[⟨S.1.length,lv []⟩]) D (fun b hb=>hf b (List.mem_cons_of_mem _ hb)) (fun b hb=>hw b (List.mem_cons_of_mem _ hb)) hc
      (fun e he=>⟨(htb e.1 (ht e he).2).trans (ht e he).1,(ht e he).2⟩) (fun i h1 h2=>hD i (by omega) h2)
    have hD2:∀i,S.1.length≤i→i<S2.1.length→D[i]?=S2.1[i]?:=fun i h1 h2=>(hD i h1 (by omega)).trans (k2 i h2)
    refine ⟨⟨S.1.length,lv []⟩::es',by rw [e1,List.append_assoc];rfl,by rw [List.length_cons,List.length_cons,e2],fun m b' hm=>?_⟩
    cases m with
    |succ m=>exact e3 m b' (by simpa using hm)
    | zero=>
      obtain rfl:b=b':=by simpa using hm
      obtain ⟨bl',t,q1,q2,q3⟩:=hg.at_ (xS []) (by simp)
      refine ⟨S.1.length,bl',rfl,(hD2 _ (Nat.le_refl _) (by omega)).trans q1,by rw [q2];rfl,hat fun i hi=>?_⟩
      rcases hi with rfl| ⟨h1,h2⟩
      · exact hD2 _ (Nat.le_refl _) (by omega)
      · dsimp only at h1
        rw [List.length_append] at h1
        exact hD2 i (by omega) h2
theorem fill_at:∀b:AN,FaP g la mine b:=oK fun k x xs n ns r a ko kc kids ih=>by
  intro sn js J p S bl D hf hw hc ht hbl hD
  have hp:p<S.1.length:=(List.getElem?_eq_some_iff.1 hbl).1
  have hwk:∀(i:Nat) (b:AN),kids[i]?=some b→Wf g la mine (if k=7∧i=1 then (n,xs.l.length)::js else js) b:=fun i b hi=>by cases hw with|mk hb h8 h7 hkk=>exact hkk i b hi
  have hfk:∀(i:Nat) (b:AN),kids[i]?=some b→Fr (if k=7 then n::sn else sn) b:=fun i b hi=>by cases hf with|mk h7 hkk=>exact hkk i b hi
  obtain ⟨hB,h8w⟩:BdW g la mine (.mk k x xs n ns r a ko kc kids)∧(k=8→(n,a.l.length)∈js):=by cases hw with|mk hb h8 h7 hkk=>exact ⟨hb,h8⟩
  have hk0:1≤k:=hB.k0
  have hk8:k≤8:=hB.k1
  have hkl:(k=1→kids.length=1)∧(k=5∨k=7→kids.length=2)∧(k=2∨k=3∨k=4∨k=8→kids.length=0):=hB.sh.kids
  have hDp:=hD p (.inl rfl)
  by_cases h1:k=1
  · obtain ⟨b0,rfl⟩:∃b0,kids=[b0]:=List.length_eq_one_iff.1 (hkl.1 h1)
    rw [xH,if_pos h1,tK] at hD hDp
    have hg:=kF b0 p (S.1.modify p (tJ x r),S.2) (by dsimp only;rw [List.length_modify];exact hp)
    obtain ⟨bl',t,q1,q2,q3⟩:=hg.at_ (tJ x r bl) (xU hbl)
    have hf0:=hfk 0 b0 rfl
    have hw0:=hwk 0 b0 rfl
    rw [if_neg (by omega)] at hf0
    rw [if_neg (by omega)] at hw0
    have h:=ih b0 (List.mem_cons_self ..) sn js J p (S.1.modify p (tJ x r),S.2) (tJ x r bl) D hf0 hw0 hc ht (xU hbl) (fun i hi=>hD i (hi.imp id fun h=>⟨by have:=h.1;dsimp only at this;rw [List.length_modify] at this;exact this,h.2⟩))
    have e:(tJ x r bl).is.l.length=bl.is.l.length+1:=by show (bl.is.l++[_]).length=_;rw [List.length_append];rfl
    rw [e] at h
    refine .let_ (y:=⟨x,stS r⟩) h1 (hDp.trans q1) ?_ rfl rfl h
    rw [q3]
    show ((bl.is.l++[_])++t)[bl.is.l.length]?=_
    rw [List.append_assoc,List.getElem?_append_right (Nat.le_refl _),Nat.sub_self]
    rfl
  by_cases h7:k=7
  · obtain ⟨b0,b1,rfl⟩:=lO (hkl.2.1 (.inr h7))
    rw [xH,if_neg h1,if_pos h7,lB,tK] at hD hDp
    obtain ⟨S2,hS2⟩:∃S2,S2=xH b0 S.1.length (S.1++[xS xs.l],wX S.2 n S.1.length):=⟨_,rfl⟩
    have hn:n ∉ sn:=by cases hf with|mk e7 hkk=>exact e7 h7
    have hf0:=hfk 0 b0 rfl
    have hw0:=hwk 0 b0 rfl
    have hf1:=hfk 1 b1 rfl
    have hw1:=hwk 1 b1 rfl
    rw [if_pos h7] at hf0 hf1
    rw [if_neg (by simp)] at hw0
    rw [if_pos ⟨h7,rfl⟩] at hw1
    have hg:=kF b0 S.1.length (S.1++[xS xs.l],wX S.2 n S.1.length) (by simp)
    have htb:=fill_t b0 (n::sn) S.1.length (S.1++[xS xs.l],wX S.2 n S.1.length) hf0
    have ht0:Tbl (S.1++[xS xs.l],wX S.2 n S.1.length) (n::sn) J:=fun e he=>by
      have h2:=ht e he
      refine ⟨?_,List.mem_cons_of_mem _ h2.2⟩
      show lkI (wX S.2 n S.1.length) e.1=_
      rw [uX,if_neg (show ¬e.1=n from fun h=>hn (h▸h2.2))]
      exact h2.1
    have hat:=ih b0 (List.mem_cons_self ..) (n::sn) js J S.1.length (S.1++[xS xs.l],wX S.2 n S.1.length) (xS xs.l) D hf0 hw0 hc ht0 (by simp)
    rw [←hS2] at hD hDp hg htb hat
    have hl:=hg.len
    dsimp only at hl
    rw [List.length_append,List.length_singleton] at hl
    have hold:∀i,i<S.1.length→S2.1[i]?=S.1[i]?:=fun i hi=>by
      rw [hg.old i (by dsimp only;rw [List.length_append];omega) (by omega)]
      exact List.getElem?_append_left hi
    have hg1:=kF b1 p S2 (by omega)
    have hl1:=hg1.len
    have hD2:∀i,S.1.length≤i→i<S2.1.length→D[i]?=S2.1[i]?:=fun i h1 h2=>(hD i (.inr ⟨h1,by omega⟩)).trans (hg1.old i h2 (by omega))
    obtain ⟨bl',t,q1,q2,q3⟩:=hg.at_ (xS xs.l) (by simp)
    have ht1:Tbl S2 (n::sn) ((n,S.1.length)::J):=fun e he=>by
      rcases List.mem_cons.1 he with rfl|he
      · refine ⟨(htb n (List.mem_cons_self ..)).trans ?_,List.mem_cons_self ..⟩
        show lkI (wX S.2 n S.1.length) n=_
        rw [uX,if_pos rfl]
      · have h2:=ht0 e he
        exact ⟨(htb e.1 h2.2).trans h2.1,h2.2⟩
    have hc1:Cov ((n,xs.l.length)::js) ((n,S.1.length)::J):=fun e he=>by
      rcases List.mem_cons.1 he with rfl|he
      · exact ⟨_,List.mem_cons_self ..⟩
      · obtain ⟨T,hT⟩:=hc e he
        exact ⟨T,List.mem_cons_of_mem _ hT⟩
    refine .join (T:=S.1.length) (bt:=bl') h7 ((hD2 _ (Nat.le_refl _) (by omega)).trans q1) (by rw [q2];rfl) (fun e he h=>hn ((show e.1=n from h)▸(ht e he).2)) (hat fun i hi=>?_) (ih b1 (List.mem_cons_of_mem _ (List.mem_cons_self ..)) (n::sn) _ ((n,S.1.length)::J) p S2 bl D hf1 hw1 hc1 ht1 ((hold p hp).trans hbl) fun i hi=>?_)
    · rcases hi with rfl| ⟨e1,e2⟩
      · exact hD2 _ (Nat.le_refl _) (by omega)
      · dsimp only at e1
        rw [List.length_append] at e1
        exact hD2 i (by omega) e2
    · exact hD i (hi.imp id fun h=>⟨by omega,h.2⟩)
  by_cases h8:k=8
  · rw [xH,if_neg h1,if_neg h7,if_pos h8] at hDp
    obtain ⟨T,hT⟩:=hc _ (h8w h8)
    have hlk:=(ht _ hT).1
    dsimp only at hlk
    rw [hlk] at hDp
    exact .jump (T:=T) h8 (hDp.trans (xU hbl)) rfl rfl rfl hT
  by_cases h5:k=5∨k=6
  · rw [xH,if_neg h1,if_neg h7,if_neg h8,if_pos h5] at hD hDp
    obtain ⟨k1,k2⟩:=jT kids (fun b _=>kF b) S []
    have hfK:∀b∈kids,Fr sn b:=fun b hb=>by
      obtain ⟨i,hi⟩:=List.getElem?_of_mem hb
      have:=hfk i b hi
      rwa [if_neg h7] at this
    have hwK:∀b∈kids,Wf g la mine js b:=fun b hb=>by
      obtain ⟨i,hi⟩:=List.getElem?_of_mem hb
      have:=hwk i b hi
      rwa [if_neg (fun e=>h7 e.1)] at this
    obtain ⟨es',e1,e2,e3⟩:=fillK_at kids ih sn js J S [] D hfK hwK hc ht (fun i q1 q2=>(hD i (.inr ⟨q1,by dsimp only;rw [List.length_modify];exact q2⟩)).trans (tS (by omega)))
    have hb:=hDp.trans (xU ((k2 p hp).trans hbl))
    have hto:(wC ⟨k,lv a.l,lv ns.l,lv (xW kids S []).2⟩ bl).e.to.l=es':=e1
    refine .kids h5 hb rfl rfl rfl rfl ⟨fun e=>hkl.2.1 (.inl e),hB.ks⟩ (fun m hm=>?_) (fun m T hm hT=>?_)
    · obtain ⟨T,bt,q1,q2,q3,_⟩:=e3 m _ (List.getElem?_eq_getElem hm)
      exact ⟨T,bt,by rw [hto];exact q1,q2,q3⟩
    · obtain ⟨T',bt,q1,q2,q3,q4⟩:=e3 m _ (qO hm)
      rw [hto,q1] at hT
      injection hT with hT
      injection hT with hT
      obtain rfl:T'=T:=by omega
      exact q4
  · rw [xH,if_neg h1,if_neg h7,if_neg h8,if_neg h5] at hDp
    exact .end_ (by show k=2∨k=3∨k=4;omega) (hDp.trans (xU hbl)) rfl rfl rfl
end
theorem nil_same (v:Vl):isNil v=isNilA v:=by cases v<;>rfl
theorem dC:∀(m:List (Int × Vl)) (ps:List Int) (vs:List Vl),pD m ps vs=rL m ps vs
  |m,[],vs=>by cases vs<;>rfl
  |m,p::ps,[]=>rfl
  |m,p::ps,v::vs=>by rw [pD,rL];exact dC _ ps vs
theorem qT {bl' bl:Blc} {pl:List (Int × Int)} (h:stB bl'=gH pl bl):bl'.ps.l=bl.ps.l∧bl'.is.l.map stI=bl.is.l∧bl'.e.k=bl.e.k∧bl'.e.a.l=bl.e.a.l∧bl'.e.ns.l=bl.e.ns.l∧bl'.e.to.l.map stE=bl.e.to.l.map (pF pl):=
  ⟨congrArg (·.ps.l) h,congrArg (·.is.l) h,congrArg (·.e.k) h,congrArg (·.e.a.l) h,congrArg (·.e.ns.l) h,congrArg (·.e.to.l) h⟩
structure Fk (D:List Blc) (b:AN):Prop where
  ord:OrdOk D (uR D)
  at_:At D [] 0 0 b
structure CtxS (fl:List FN) (g g':Grs):Prop where
  same:SameN g g'
  fs:g'.fs.l.map stG=fl.map fun f=>⟨f.caps,lv (gbF f.body)⟩
  fk:∀f∈fl,Fk (dF f.body) f.body
def Dof (fl:List FN) (c:Int):List Blc:=dF (tM fl c)
def JsS (D:List Blc) (js:List (Int × AN)):List (Int × Nat)→Prop
  | []=>True
  |e::J=>(∃j bt,alk js e.1=some j∧D[e.2]?=some bt∧bt.ps.l=j.xs.l∧At D J e.2 0 (tA j 0))∧JsS D js J
theorem JsS.mem {D:List Blc} {js:List (Int × AN)}:∀{J:List (Int × Nat)} {e:Int × Nat},JsS D js J→e∈J→∃J' j bt,alk js e.1=some j∧D[e.2]?=some bt∧bt.ps.l=j.xs.l∧At D J' e.2 0 (tA j 0)∧JsS D js J'
  | [],e,_,h=>absurd h (List.not_mem_nil)
  | e::J,e',⟨⟨j,bt,h1,h2,h3,h4⟩,h5⟩,h=>by
    rcases List.mem_cons.1 h with rfl|h
    · exact ⟨J,j,bt,h1,h2,h3,h4,h5⟩
    · exact JsS.mem h5 h
theorem JsS.set {D:List Blc} {js:List (Int × AN)} {n:Int} {b:AN}:∀{J:List (Int × Nat)},(∀e∈J,e.1≠n)→JsS D js J→JsS D (aset js n b) J
  | [],_,_=>trivial
  |e::J,hn,⟨⟨j,bt,h1,h2⟩,h3⟩=>⟨⟨j,bt,by rw [oM,if_neg (hn e (List.mem_cons_self ..))];exact h1,h2⟩,JsS.set (fun e he=>hn e (List.mem_cons_of_mem _ he)) h3⟩
structure FrS (fl:List FN) (f:Af) (f':Fm) (b:AN) (i:Nat):Prop where
  c:f'.c=f.c
  vs:f'.vs=f.vs
  rg:f.c.1.toNat<fl.length
  pl:∃(J:List (Int × Nat)) (q:Nat),(uR (Dof fl f.c.1))[f'.b]?=some (q:Int)∧At (Dof fl f.c.1) J q i b∧JsS (Dof fl f.c.1) f.js J
structure WtS (fl:List FN) (g':Grs) (f:Af) (f':Fm):Prop where
  fr:FrS fl f f' f.kid (f'.i+1)
  x:(vA g' f').x=f.x
  h:f'.h=f.h
def SkS (fl:List FN) (g':Grs):List Af→List Fm→Prop
  | [],l=>l=[]
  |f::r,l=>∃f' r',l=f'::r'∧WtS fl g' f f'∧SkS fl g' r r'
structure Sim (fl:List FN) (g':Grs) (m:Am) (m':Mc):Prop where
  wd:m'.wd=m.wd
  fm:FrS fl m.fm m'.fm m.b m'.fm.i
  sk:SkS fl g' m.sk m'.sk
def SimR (fl:List FN) (g':Grs):Ar→Sr→Prop
  | .go m,r'=>m.b=an0∨∃m',r'= .go m'∧Sim fl g' m m'
  | .stop k s w,r'=>r'= .stop k s w
section
variable {fl:List FN} {g g':Grs} {kd:Int}
theorem CtxS.fn (h:CtxS fl g g') {c:Int} (hc:c.toNat<fl.length):Fk (Dof fl c) (tM fl c)∧((g'.fs.l.getD c.toNat gr0).bs.l.map stB=bsF (Dof fl c) (uR (Dof fl c))):=by
  have hx:fl[c.toNat]?=some fl[c.toNat]:=List.getElem?_eq_getElem hc
  have hb:tM fl c=fl[c.toNat].body:=by unfold tM;rw [List.getD_eq_getElem?_getD,hx];rfl
  have h1:(g'.fs.l.map stG)[c.toNat]?=some ⟨fl[c.toNat].caps,lv (gbF fl[c.toNat].body)⟩:=by rw [h.fs,List.getElem?_map,hx];rfl
  rw [List.getElem?_map] at h1
  obtain ⟨gr,h2,h3⟩:=Option.map_eq_some_iff.1 h1
  have h4:g'.fs.l.getD c.toNat gr0=gr:=by rw [List.getD_eq_getElem?_getD,h2];rfl
  unfold Dof
  rw [hb,h4]
  exact ⟨h.fk _ (List.getElem_mem hc),congrArg (·.bs.l) h3⟩
theorem CtxS.blk (h:CtxS fl g g') {c:Int} (hc:c.toNat<fl.length) {kb q:Nat} (ho:(uR (Dof fl c))[kb]?=some (q:Int)) {bl:Blc} (hb:(Dof fl c)[q]?=some bl):stB (vG g' c kb)=gH (plF (uR (Dof fl c)) (uR (Dof fl c)).length) bl:=by
  obtain ⟨_,h1⟩:=h.fn hc
  have h2:=bsF_of (D:=Dof fl c) ho
  rw [←h1,List.getElem?_map] at h2
  obtain ⟨bl',h3,h4⟩:=Option.map_eq_some_iff.1 h2
  have h5:vG g' c kb=bl':=by unfold vG;rw [List.getD_eq_getElem?_getD,h3];rfl
  rw [h5,h4,Int.toNat_natCast,xQ hb]
theorem CtxS.edge (h:CtxS fl g g') {c:Int} (hc:c.toNat<fl.length) {kb q:Nat} (ho:(uR (Dof fl c))[kb]?=some (q:Int)) {bl bt:Blc} (hb:(Dof fl c)[q]?=some bl) {m T:Nat} {l:List Atm} (ht:bl.e.to.l[m]?=some ⟨(T:Int),lv l⟩) (hT:(Dof fl c)[T]?=some bt) :
    ∃K:Nat,((vG g' c kb).e.to.l.getD m sJ).b.toNat=K∧(uR (Dof fl c))[K]?=some (T:Int)∧((vG g' c kb).e.to.l.getD m sJ).a.l=l∧(vG g' c K).ps.l=bt.ps.l:=by
  obtain ⟨hf,_⟩:=h.fn hc
  obtain ⟨_,_,_,_,_,hto⟩:=qT (h.blk hc ho hb)
  have hm:(T:Int)∈edT (Dof fl c) (q:Int):=by
    unfold edT
    rw [Int.toNat_natCast,xQ hb]
    exact List.mem_map.2 ⟨_,List.mem_of_getElem? ht,rfl⟩
  obtain ⟨K,_,hK⟩:=hf.ord.up kb _ _ ho hm
  have hp:=hf.ord.pl hK
  have h1:((vG g' c kb).e.to.l.map stE)[m]?=some (pF (plF (uR (Dof fl c)) (uR (Dof fl c)).length) ⟨(T:Int),lv l⟩):=by rw [hto,List.getElem?_map,ht];rfl
  rw [List.getElem?_map] at h1
  obtain ⟨t',h2,h3⟩:=Option.map_eq_some_iff.1 h1
  have h4:(vG g' c kb).e.to.l.getD m sJ=t':=by rw [List.getD_eq_getElem?_getD,h2];rfl
  have h5:t'.b=(lkI (plF (uR (Dof fl c)) (uR (Dof fl c)).length) (T:Int)).getD 0:=congrArg (·.b) h3
  have h6:t'.a.l=l:=congrArg (·.a.l) h3
  rw [hp] at h5
  rw [h4]
  exact ⟨K,by rw [h5];exact Int.toNat_natCast K,hK,h6,(qT (h.blk hc hK hT)).1⟩
theorem qC (h:SameN g g') {f:Af} {f':Fm} (hv:f'.vs=f.vs) (a:Atm):uJ g' f' a=uJ g f.fm a:=by
  unfold uJ
  rw [hv,h.ss]
  rfl
theorem all_same (h:SameN g g') {f:Af} {f':Fm} (hv:f'.vs=f.vs) (l:List Atm):xB g' f' l=xB g f.fm l:=by
  unfold xB
  exact List.map_congr_left fun a _=>qC h hv a
theorem idx_same (h:SameN g g') (s:ByteArray):wQ g'.xs.l s=wQ g.xs.l s:=by rw [h.xs]
theorem text_same (h:SameN g g') (x:Vl):wT g' kd x=wT g kd x:=by
  unfold wT rJ
  rw [h.xs]
theorem bU (h:CtxS fl g g') (c:Clo) (x:Vl) (wd:Wd) {sk:List Af} {sk':List Fm} (hs:SkS fl g' sk sk'):SimR fl g' (.go ⟨wd,sk,mT c x,tM fl c.1⟩) (.go ⟨wd,sk',nY c x⟩):=by
  by_cases hc:c.1.toNat<fl.length
  · obtain ⟨hf,_⟩:=h.fn hc
    exact .inr ⟨_,rfl,rfl,⟨rfl,rfl,hc,[],0,hf.ord.zero,hf.at_,trivial⟩,hs⟩
  · refine .inl ?_
    show tM fl c.1=an0
    unfold tM
    rw [List.getD_eq_getElem?_getD,List.getElem?_eq_none (by omega)]
    rfl
theorem enter_sim (h:CtxS fl g g') (f x:Vl) (wd:Wd) {sk:List Af} {sk':List Fm} (hs:SkS fl g' sk sk'):SimR fl g' (qS fl f x wd sk) (qR f x wd sk'):=by
  unfold qS qR
  cases asFn f with
  |some c=>exact bU h c x wd hs
  |none=>exact rfl
theorem gI {n:Int} {wd:Wd}:∀{sk:List Af} {sk':List Fm},SkS fl g' sk sk'→(uW sk=none∧sH n wd sk'=none)∨∃s s' c,uW sk=some (s,c)∧sH n wd sk'=some (s',c)∧SkS fl g' s s'
  | [],sk',h=>by
    obtain rfl:sk'=[]:=h
    exact .inl ⟨rfl,rfl⟩
  | f::r,sk',h=>by
    obtain ⟨f',r',rfl,hw,hr⟩:=h
    rw [uW,sH,hw.h]
    cases hh:f.h with
    |some c=>exact .inr ⟨_,_,c,rfl,rfl,_,_,rfl,⟨⟨hw.fr.c,hw.fr.vs,hw.fr.rg,hw.fr.pl⟩,hw.x,rfl⟩,hr⟩
    |none=>exact gI hr
theorem dD (h:CtxS fl g g') (n:Int) (wd:Wd) {sk:List Af} {sk':List Fm} (hs:SkS fl g' sk sk'):SimR fl g' (uZ fl g n wd sk) (uY g' n wd sk'):=by
  unfold uZ uY
  rw [h.same.xs]
  split
  · exact rfl
  · rcases gI (n:=n) (wd:=wd) hs with ⟨h1,h2⟩| ⟨s,s',c,h1,h2,h3⟩
    · rw [h1,h2];exact rfl
    · rw [h1,h2];exact bU h c (.num n) wd h3
theorem eB (h:CtxS fl g g') (f x:Vl) (hd:Option Clo) (wd:Wd) {sk:List Af} {sk':List Fm} {fm:Af} {fm':Fm} {b:AN} (hs:SkS fl g' sk sk') (hfr:FrS fl fm fm' (tA b 0) (fm'.i+1)) (hx:(vA g' fm').x=b.x):SimR fl g' (qK fl f x hd wd sk fm b) (qJ f x hd wd sk' fm'):=by
  unfold qK qJ
  cases asFn f with
  |some c=>exact bU h c x wd ⟨_,_,rfl,⟨⟨hfr.c,hfr.vs,hfr.rg,hfr.pl⟩,hx,rfl⟩,hs⟩
  |none=>exact rfl
theorem back_sim (h:CtxS fl g g') (x:Vl) (wd:Wd) {sk:List Af} {sk':List Fm} (hs:SkS fl g' sk sk'):SimR fl g' (pZ g kd x wd sk) (pY g' kd x wd sk'):=by
  cases sk with
  | nil=>
    obtain rfl:sk'=[]:=hs
    unfold pZ pY
    rw [text_same h.same]
    cases wT g kd x<;>exact rfl
  | cons f r=>
    obtain ⟨f',r',rfl,hw,hr⟩:=hs
    unfold pZ pY
    refine .inr ⟨_,rfl,rfl,⟨hw.fr.c,?_,hw.fr.rg,hw.fr.pl⟩,hr⟩
    show tP f'.vs (vA g' f').x x=tP f.vs f.x x
    rw [hw.fr.vs,hw.x]
theorem let_sim (h:CtxS fl g g') (wd:Wd) {sk:List Af} {sk':List Fm} {fm:Af} {fm':Fm} {b:AN} (hs:SkS fl g' sk sk') (hfr:FrS fl fm fm' (tA b 0) (fm'.i+1)) (hx:(vA g' fm').x=b.x) (hr:stS (vA g' fm').r=stS b.r):SimR fl g' (mA fl g fm b wd sk) (nL g' fm' (vA g' fm') wd sk'):=by
  have ek:(vA g' fm').r.k=b.r.k:=show (stS (vA g' fm').r).k=(stS b.r).k from congrArg Stp.k hr
  have en:(vA g' fm').r.n=b.r.n:=show (stS (vA g' fm').r).n=(stS b.r).n from congrArg Stp.n hr
  have ea:(vA g' fm').r.a.l=b.r.a.l:=show (stS (vA g' fm').r).a.l=(stS b.r).a.l from congrArg (fun r:Stp=>r.a.l) hr
  have ep:∀l cs w,yH (vA g' fm').r l cs w=yH b.r l cs w:=fun l cs w=>by
    have:yH (stS (vA g' fm').r) l cs w=yH (stS b.r) l cs w:=by rw [hr]
    exact this
  unfold mA nL
  rw [ek,en,ea,ep,all_same h.same hfr.vs,hfr.c,hx]
  split
  · exact eB h _ _ _ wd hs hfr hx
  split
  · cases asFn (yI (xB g fm.fm b.r.a.l) 0) with
    |none=>exact rfl
    | some c=>
      dsimp only
      by_cases hc:c.1=b.r.n
      · rw [if_pos hc,if_pos hc];exact eB h _ _ _ wd hs hfr hx
      · rw [if_neg hc,if_neg hc];exact rfl
  split
  · cases asFn (yI (xB g fm.fm b.r.a.l) 1) with
    |none=>exact rfl
    |some c=>exact eB h _ _ _ wd hs hfr hx
  split
  · rename_i s hp
    rw [hp]
    dsimp only
    rw [idx_same h.same]
    exact dD h _ wd hs
  · rename_i v wd' hp
    rw [hp]
    dsimp only
    rw [nil_same]
    split
    · exact rfl
    · refine .inr ⟨_,rfl,rfl,⟨rfl,?_,hfr.rg,hfr.pl⟩,hs⟩
      show tP fm'.vs b.x v=tP fm.vs b.x v
      rw [hfr.vs]
theorem getD_len {α:Type} {l:List α} {i:Nat} {x:α} (h:l[i]?=some x):i<l.length:=(List.getElem?_eq_some_iff.1 h).1
theorem step_sim (h:CtxS fl g g') {m:Am} {m':Mc} (hs:Sim fl g' m m'):(m.b.k=7∧∃m1,uP fl g kd m= .go m1∧Sim fl g' m1 m')∨(m.b.k≠7∧SimR fl g' (uP fl g kd m) (sY g' kd m')):=by
  obtain ⟨wd,sk,fm,b⟩:=m
  obtain ⟨wd',sk',fm'⟩:=m'
  obtain ⟨hwd,hfr,hsk⟩:=hs
  dsimp only at hwd hfr hsk ⊢
  subst hwd
  obtain ⟨J,q,ho,hat,hjs⟩:=hfr.pl
  obtain ⟨i,hi⟩:∃i,i=fm'.i:=⟨_,rfl⟩
  rw [←hi] at hat
  have hcur:uO g' fm'=vG g' fm.c.1 fm'.b:=by unfold uO;rw [hfr.c]
  have hlast:∀(bl:Blc),(Dof fl fm.c.1)[q]?=some bl→bl.is.l.length=i→sY g' kd ⟨wd',sk',fm'⟩=sC g' kd fm' (vG g' fm.c.1 fm'.b).e wd' sk':=fun bl hb hl=>by
    obtain ⟨_,e2,_⟩:=qT (h.blk hfr.rg ho hb)
    have e3:=congrArg List.length e2
    rw [List.length_map] at e3
    unfold sY
    dsimp only
    rw [hcur,if_neg (by omega)]
  have hgo:∀(mm T:Nat) (l:List Atm) (bl bt:Blc) (js:List (Int × AN)) (vs:List (Int × Vl)) (J':List (Int × Nat)) (x:AN),(Dof fl fm.c.1)[q]?=some bl→bl.e.to.l[mm]?=some ⟨(T:Int),lv l⟩→(Dof fl fm.c.1)[T]?=some bt→vs=rL fm.vs bt.ps.l (xB g fm.fm l)→At (Dof fl fm.c.1) J' T 0 x→JsS (Dof fl fm.c.1) js J'→
      SimR fl g' (.go ⟨wd',sk,{fm with vs:=vs,js:=js},x⟩) (.go ⟨wd',sk',uK g' fm' ((vG g' fm.c.1 fm'.b).e.to.l.getD mm sJ)⟩):=fun mm T l bl bt js vs J' x hb ht hT hvs hx hj=>by
    obtain ⟨K,e1,e2,e3,e4⟩:=h.edge hfr.rg ho hb ht hT
    refine .inr ⟨_,rfl,rfl,⟨hfr.c,?_,hfr.rg,J',T,?_,hx,hj⟩,hsk⟩
    · show pD fm'.vs (vG g' fm'.c.1 _).ps.l (xB g' fm' _)=vs
      rw [hfr.c,e1,e4,e3,all_same h.same hfr.vs,hfr.vs,dC,hvs]
    · show (uR (Dof fl fm.c.1))[((vG g' fm.c.1 fm'.b).e.to.l.getD mm sJ).b.toNat]?=_
      rw [e1];exact e2
  cases hat with
  | let_ hk hb hy hx hr hn=>
    rename_i bl y
    refine .inr ⟨by omega,?_⟩
    obtain ⟨_,e2,_⟩:=qT (h.blk hfr.rg ho hb)
    have e3:((vG g' fm.c.1 fm'.b).is.l.map stI)[i]?=some y:=by rw [e2];exact hy
    rw [List.getElem?_map] at e3
    obtain ⟨y',h4,h5⟩:=Option.map_eq_some_iff.1 e3
    have hlt:=getD_len h4
    have hin:vA g' fm'=y':=by unfold vA;rw [hcur,←hi,List.getD_eq_getElem?_getD,h4];rfl
    have hst:sY g' kd ⟨wd',sk',fm'⟩=nL g' fm' (vA g' fm') wd' sk':=by
      unfold sY
      dsimp only
      rw [hcur,if_pos (by omega)]
    rw [hst,sa_1 hk]
    refine let_sim h wd' hsk ⟨hfr.c,hfr.vs,hfr.rg,J,q,ho,by rw [←hi];exact hn,hjs⟩ ?_ ?_
    · rw [hin];exact (congrArg Ins.x h5).trans hx
    · rw [hin];exact (congrArg Ins.r h5).trans hr
  | end_ hk hb hi2 he ha=>
    rename_i bl
    refine .inr ⟨by omega,?_⟩
    obtain ⟨_,_,ek,ea,_,_⟩:=qT (h.blk hfr.rg ho hb)
    rw [hlast bl hb hi2]
    rw [he] at ek
    rw [ha] at ea
    unfold sC
    rw [ek,ea]
    rcases hk with hk|hk|hk
    · rw [sa_2 hk,if_pos (by omega),qC h.same hfr.vs]
      exact back_sim h _ wd' hsk
    · rw [sa_3 hk,if_neg (by omega),if_pos (by omega),qC h.same hfr.vs,qC h.same hfr.vs]
      exact enter_sim h _ _ wd' hsk
    · rw [sa_x (by dsimp only;omega),if_neg (by omega),if_neg (by omega),if_neg (by omega),qC h.same hfr.vs]
      dsimp only
      show SimR fl g' (match asNum (uJ g fm.fm (b.a.l.getD 0 rG)) with|none=>_|some n=>_) (match asNum (uJ g fm.fm (b.a.l.getD 0 rG)) with|none=>_|some n=>_)
      cases asNum (uJ g fm.fm (b.a.l.getD 0 rG)) with
      |none=>exact rfl
      | some n=>
        dsimp only
        rw [if_pos hk,if_pos (by omega)]
        exact dD h n wd' hsk
  | kids hk hb hi2 he ha hn hl hT hA=>
    rename_i bl
    refine .inr ⟨by omega,?_⟩
    obtain ⟨_,_,ek,ea,en,_⟩:=qT (h.blk hfr.rg ho hb)
    rw [hlast bl hb hi2]
    rw [he] at ek
    rw [ha] at ea
    rw [hn] at en
    have hkid:∀mm,mm<b.kids.length→SimR fl g' (.go ⟨wd',sk,fm,tA b mm⟩) (.go ⟨wd',sk',uK g' fm' ((vG g' fm.c.1 fm'.b).e.to.l.getD mm sJ)⟩):=fun mm hmm=>by
      obtain ⟨T,bt,q1,q2,q3⟩:=hT mm hmm
      exact hgo mm T [] bl bt fm.js fm.vs J _ hb q1 q2 (by rw [q3,setsA_nil]) (hA mm T hmm q1) hjs
    unfold sC
    rw [ek,ea,en,sa_x (by dsimp only;omega),if_neg (by omega),if_neg (by omega),if_neg (by omega),qC h.same hfr.vs]
    dsimp only
    show SimR fl g' (match asNum (uJ g fm.fm (b.a.l.getD 0 rG)) with|none=>_|some n=>_) (match asNum (uJ g fm.fm (b.a.l.getD 0 rG)) with|none=>_|some n=>_)
    cases asNum (uJ g fm.fm (b.a.l.getD 0 rG)) with
    |none=>exact rfl
    | some n=>
      dsimp only
      rcases hk with hk|hk
      · have hl2:=hl.1 hk
        rw [if_neg (show ¬b.k=4 by omega),if_pos hk,if_neg (show ¬b.k=3 by omega),if_pos hk]
        exact hkid _ (by split<;>omega)
      · have hl2:=hl.2 hk
        have hbi:=eD b.ns.l n
        rw [if_neg (show ¬b.k=4 by omega),if_neg (show ¬b.k=5 by omega),if_neg (show ¬b.k=3 by omega),if_neg (show ¬b.k=5 by omega)]
        exact hkid _ (by split<;>omega)
  | jump hk hb hi2 he ht hj=>
    rename_i bl T
    refine .inr ⟨by omega,?_⟩
    obtain ⟨_,_,ek,_,_,_⟩:=qT (h.blk hfr.rg ho hb)
    rw [hlast bl hb hi2,sa_8 hk]
    rw [he] at ek
    unfold sC
    rw [ek,if_neg (by decide),if_neg (by decide),if_pos rfl]
    obtain ⟨J',j,bt,e1,e2,e3,e4,e5⟩:=hjs.mem hj
    dsimp only at e1 e2 e4 ⊢
    rw [e1]
    exact hgo 0 T b.a.l bl bt fm.js _ J' _ hb (by rw [ht];rfl) e2 (by rw [e3];rfl) e4 e5
  | join hk ht hp hn h0 h1=>
    rename_i bt T
    refine .inl ⟨hk,_,sa_7 hk,rfl,⟨hfr.c,hfr.vs,hfr.rg,(b.n,T)::J,q,ho,by rw [←hi];exact h1,⟨b,bt,?_,ht,hp,h0⟩,hjs.set hn⟩,hsk⟩
    show alk (aset fm.js b.n b) b.n=_
    rw [oM,if_pos rfl]
theorem dead_step {m:Am} (h:m.b=an0):∃m1,uP fl g kd m= .go m1∧m1.b=an0:=by
  have hk:m.b.k=0:=by rw [h];rfl
  rw [sa_x (by omega),h]
  refine ⟨⟨m.wd,m.sk,m.fm,an0⟩,?_,rfl⟩
  rfl
theorem dead_run:∀(n:Nat) {m:Am},m.b=an0→(rT fl g kd n m).1=2
  |0,m,h=>rfl
  | n+1,m,h=>by
    obtain ⟨m1,h1,h2⟩:=dead_step (fl:=fl) (g:=g) (kd:=kd) h
    rw [rT,h1]
    exact dead_run n h2
theorem cZ (h:CtxS fl g g'):∀(n:Nat) (m:Am) (m':Mc) (n':Nat),Sim fl g' m m'→(rT fl g kd n m).1≠2→n≤n'→pE g' kd n' m'=rT fl g kd n m
  |0,m,m',n',hs,hr,hn=>absurd rfl hr
  | n + 1,m,m',n',hs,hr,hn=>by
    rcases step_sim (kd:=kd) h hs with ⟨_,m1,e1,e2⟩| ⟨_,hR⟩
    · rw [rT,e1] at hr ⊢
      exact cZ h n m1 m' n' e2 hr (by omega)
    · obtain ⟨k,rfl⟩:∃k,n'=k+1:=⟨n' - 1,by omega⟩
      rw [rT] at hr ⊢
      rw [pE]
      cases hsA:uP fl g kd m with
      | go m1=>
        rw [hsA] at hR hr
        rcases hR with hd| ⟨m2,e1,e2⟩
        · exact absurd (dead_run n hd) hr
        · rw [e1]
          exact cZ h n m1 m2 k e2 hr (by omega)
      | stop kk s w=>
        rw [hsA] at hR
        have hR2:sY g' kd m'= .stop kk s w:=hR
        rw [hR2]
theorem first_sim (h:CtxS fl g g') (hp:0<fl.length) (s:ByteArray):Sim fl g' (uN fl s) (uM s):=by
  obtain ⟨hf,_⟩:=h.fn (c:=0) hp
  exact ⟨rfl,⟨rfl,rfl,hp,[],0,hf.ord.zero,hf.at_,trivial⟩,rfl⟩
end
def xs4:List ByteArray:=[eT,exnD,exnM,eS]
theorem ris_nil:risP []:=fun i h=>absurd h (Nat.not_lt_zero _)
theorem ris4:risP xs4:=fun i hi=>by
  match i,hi with
  |0,_=>exact ⟨by decide +kernel,fun h=>absurd h (Nat.lt_irrefl _)⟩
  |1,_=>exact ⟨by decide +kernel,fun _=>by decide +kernel⟩
  |2,_=>exact ⟨by decide +kernel,fun _=>by decide +kernel⟩
  |3,_=>exact ⟨by decide +kernel,fun _=>by decide +kernel⟩
theorem anf4 {g:Grs} (hx:g.xs.l=xs4) (hl:g.ls.l=[]) (ht:g.ts.l=[]) (hs:g.ss.l=[]):AnfP [0] g where
  pos:=by decide
  top:=by decide
  c0:=rfl
  ls:=by rw [hl];exact ris_nil
  ts:=by rw [ht];exact ris_nil
  xs:=by rw [hx];exact ris4
  has:=by rw [hx];unfold pM;decide +kernel
  ss:=by rw [hs];exact fun s h=>absurd h (List.not_mem_nil)
  caps:=by decide
theorem cQ:upP []:=fun i h=>absurd h (Nat.not_lt_zero _)
def blA (o0 o1:Option Addr) (c0 c1:Nat):Blc:=⟨zT,zT,⟨5,⟨o0,c0,[⟨1,1⟩]⟩,zT,⟨o1,c1,[⟨1,zT⟩,⟨2,zT⟩]⟩⟩⟩
def blJ (o0 o1:Option Addr) (c0 c1:Nat) (n:Int):Blc:=⟨zT,zT,⟨4,zT,zT,⟨o1,c1,[⟨3,⟨o0,c0,[⟨2,n⟩]⟩⟩]⟩⟩⟩
def blR (o0 o1:Option Addr) (c0 c1:Nat):Blc:=⟨⟨o0,c0,[2]⟩,zT,⟨1,⟨o1,c1,[⟨1,2⟩]⟩,zT,zT⟩⟩
theorem mayA {g:Grs} {a0 a1 b0 b1 d0 d1 e0 e1 oB:Option Addr} {x0 x1 y0 y1 z0 z1 v0 v1 cB:Nat} (hf:g.fs.l=[⟨0,⟨oB,cB,[blA a0 a1 x0 x1,blJ b0 b1 y0 y1 7,blJ d0 d1 z0 z1 8,blR e0 e1 v0 v1]⟩⟩]) (hx:g.xs.l=xs4) (hl:g.ls.l=[]) (ht:g.ts.l=[]) (hs:g.ss.l=[]):MayP g where
  anf:=by rw [hf];exact anf4 hx hl ht hs
  gr := fun f hm=>by
    rw [hf] at hm ⊢
    obtain rfl:=List.mem_singleton.1 hm
    refine ⟨Nat.zero_lt_succ _,fun k bl hk=>?_,⟨by show List.Nodup [2];decide,fun x h=>by
      have h:x∈[2]:=h
      rw [List.mem_singleton] at h
      subst h;decide⟩⟩
    match k,hk with
    | 0,hk=>
      obtain rfl:blA a0 a1 x0 x1=bl:=by simpa using hk
      refine ⟨.inl rfl,⟨fun _=>rfl,fun i x hx=>(by cases hx),⟨show (1:Int)≤5 by decide,show (5:Int)≤6 by decide,rfl,rfl,show ((5:Int)=6↔0<0) by decide,cQ⟩,fun a ha=>?_,fun t ht=>?_⟩⟩
      · obtain rfl:=List.mem_singleton.1 ha
        exact .inl ⟨rfl,by decide,by decide,.inl (by decide)⟩
      · have ht:t∈[(⟨1,zT⟩:Edg),⟨2,zT⟩]:=ht
        rcases List.mem_cons.1 ht with rfl|ht
        · exact ⟨by decide,by show (1:Int)<4;decide,rfl,fun a ha=>absurd ha (List.not_mem_nil)⟩
        obtain rfl:=List.mem_singleton.1 ht
        exact ⟨by decide,by show (2:Int)<4;decide,rfl,fun a ha=>absurd ha (List.not_mem_nil)⟩
    | 1,hk=>
      obtain rfl:blJ b0 b1 y0 y1 7=bl:=by simpa using hk
      refine ⟨.inr ⟨0,_,by decide,rfl,⟨⟨1,zT⟩,List.mem_cons_self ..,rfl⟩⟩,⟨fun h=>(by cases h),fun i x hx=>(by cases hx),⟨show (1:Int)≤4 by decide,show (4:Int)≤6 by decide,rfl,rfl,show ((4:Int)=6↔0<0) by decide,cQ⟩,fun a ha=>absurd ha (List.not_mem_nil),fun t ht=>?_⟩⟩
      obtain rfl:=List.mem_singleton.1 ht
      refine ⟨show (1:Int)<3 by decide,by show (3:Int)<4;decide,rfl,fun a ha=>?_⟩
      obtain rfl:=List.mem_singleton.1 ha
      exact .inr (.inl ⟨rfl,by decide,by decide⟩)
    | 2,hk=>
      obtain rfl:blJ d0 d1 z0 z1 8=bl:=by simpa using hk
      refine ⟨.inr ⟨0,_,by decide,rfl,⟨⟨2,zT⟩,List.mem_cons_of_mem _ (List.mem_cons_self ..),rfl⟩⟩,⟨fun h=>(by cases h),fun i x hx=>(by cases hx),⟨show (1:Int)≤4 by decide,show (4:Int)≤6 by decide,rfl,rfl,show ((4:Int)=6↔0<0) by decide,cQ⟩,fun a ha=>absurd ha (List.not_mem_nil),fun t ht=>?_⟩⟩
      obtain rfl:=List.mem_singleton.1 ht
      refine ⟨show (2:Int)<3 by decide,by show (3:Int)<4;decide,rfl,fun a ha=>?_⟩
      obtain rfl:=List.mem_singleton.1 ha
      exact .inr (.inl ⟨rfl,by decide,by decide⟩)
    | 3,hk=>
      obtain rfl:blR e0 e1 v0 v1=bl:=by simpa using hk
      refine ⟨.inr ⟨1,_,by decide,rfl,⟨_,List.mem_cons_self ..,rfl⟩⟩,⟨fun h=>(by cases h),fun i x hx=>(by cases hx),⟨show (1:Int)≤1 by decide,show (1:Int)≤6 by decide,rfl,rfl,show ((1:Int)=6↔0<0) by decide,cQ⟩,fun a ha=>?_,fun t ht=>absurd ht (List.not_mem_nil)⟩⟩
      obtain rfl:=List.mem_singleton.1 ha
      exact .inl ⟨rfl,by decide,by decide,.inr (.inr (.inl (List.mem_cons_self ..)))⟩
  size:=by unfold jD;rw [hf];simp [grN,sL,blA,blJ,blR,zT]
theorem may0 {g:Grs} (hf:g.fs.l=[]):¬MayP g:=fun h=>by
  have:=h.anf.pos
  rw [hf] at this
  exact absurd this (by decide)
def gA (oG oB oX p0 p1 p2 p3 p4 p5 p6 p7:Option Addr):Grs:=⟨⟨oG,1,[⟨0,⟨oB,4,[blA p0 p1 1 2,blJ p2 p3 1 1 7,blJ p4 p5 1 1 8,blR p6 p7 1 1]⟩⟩]⟩,zT,zT,⟨oX,4,xs4⟩,zT⟩
theorem itoa_8:vT 8=⟨#[56]⟩:=by decide +kernel
theorem itoa_5:vT 5=⟨#[53]⟩:=by decide +kernel
theorem gA_may (oG oB oX p0 p1 p2 p3 p4 p5 p6 p7:Option Addr):MayP (gA oG oB oX p0 p1 p2 p3 p4 p5 p6 p7):=mayA (a0:=p0) (a1:=p1) (b0:=p2) (b1:=p3) (d0:=p4) (d1:=p5) (e0:=p6) (e1:=p7) (oB:=oB) (cB:=4) rfl rfl rfl rfl rfl
theorem gA_run (oG oB oX p0 p1 p2 p3 p4 p5 p6 p7:Option Addr):pE (gA oG oB oX p0 p1 p2 p3 p4 p5 p6 p7) 2 9 (uM empS)=(1,vT 8,⟨empS,[],[]⟩):=rfl
theorem gA_runP (oG oB oX p0 p1 p2 p3 p4 p5 p6 p7:Option Addr):bB (gA oG oB oX p0 p1 p2 p3 p4 p5 p6 p7) 2 empS 9=(1,empS,⟨#[56]⟩):=by
  rw [runP_t (gA_may ..)]
  show ((pE _ 2 9 _).1,ofB (pE _ 2 9 _).2.2.out,(pE _ 2 9 _).2.1)=_
  rw [gA_run,itoa_8]
  rfl
end Go.Proofs.YtenlcdokaadobaaGreatDoor
namespace Go.Fw
open Go Go.RowKit
set_option linter.unusedVariables false
theorem run_eqF3 {P:Program} {w:World} {d:Nat} {fs:List Field} {t1 t2 t3:TypeId} {k1 k2:Int} {a1 b1 a2 b2:ByteArray} (h:fs.map (fun f=>(f.name != "_",f.type,f.offset))=[(true,t1,0),(true,t2,1),(true,t3,2)])
    (h1:P.underlying t1=some (.int .i64)) (h2:P.underlying t2=some .string) (h3:P.underlying t3=some .string) (p1:P.plainKey t1=true) (p2:P.plainKey t2=true) (p3:P.plainKey t3=true) :
    (Op.eqFields (d+1) #[.int .i64 k1,.string a1,.string b1] #[.int .i64 k2,.string a2,.string b2] fs).run P w= .ok (k1 == k2 && (a1.toList == a2.toList && b1.toList == b2.toList)) w:=by
  rcases fs with _| ⟨f1,_| ⟨f2,_| ⟨f3,_| ⟨f4,fs⟩⟩⟩⟩
  · cases h
  · exact absurd (congrArg List.length h) (by simp)
  · exact absurd (congrArg List.length h) (by simp)
  rotate_left
  · exact absurd (congrArg List.length h) (by simp)
  · simp only [List.map_cons,List.map_nil,List.cons.injEq,Prod.mk.injEq,and_true,bne_iff_ne,ne_eq] at h
    obtain ⟨⟨n1,rfl,o1⟩,⟨n2,rfl,o2⟩,⟨n3,rfl,o3⟩⟩:=h
    simp only [Op.eqFields,n1,n2,n3,ne_eq,not_false_eq_true,if_true,o1,o2,o3,Sem.run_bind]
    rw [run_part_plain w p1 (v:=.int .i64 k1) rfl]
    simp only [Result.andThen_ok]
    rw [run_part_plain w p1 (v:=.int .i64 k2) rfl]
    simp only [Result.andThen_ok,run_equalIn_int w d _ _ .i64 k1 k2 h1]
    cases hk:k1 == k2
    · simp
    simp only [Bool.not_true,Bool.false_eq_true,if_false,Bool.true_and,Sem.run_bind]
    rw [run_part_plain w p2 (v:=.string a1) rfl]
    simp only [Result.andThen_ok]
    rw [run_part_plain w p2 (v:=.string a2) rfl]
    simp only [Result.andThen_ok,run_equalIn_string w d _ a1 a2 h2]
    cases ha:a1.toList == a2.toList
    · simp
    simp only [Bool.not_true,Bool.false_eq_true,if_false,Bool.true_and,Sem.run_bind]
    rw [run_part_plain w p3 (v:=.string b1) rfl]
    simp only [Result.andThen_ok]
    rw [run_part_plain w p3 (v:=.string b2) rfl]
    simp only [Result.andThen_ok,run_equalIn_string w d _ b1 b2 h3]
    cases hb:b1.toList == b2.toList<;>simp
theorem ex_field {P:Program} {N:Nat} {l:List (Nat × Value)} {C:World→Prop} {d:Option Tmp} {T:TypeId} {pos:String} {af:Array Edge} {g:Option (Nat × Bool)} {s:TypeId} {x:Operand} {i ft off:Nat} {fl:List (Nat × Nat)} {cs:Array Value} {v:Value} [h:TSt P s fl] (hx:ev l x=some (.agg cs)) (hf0:nth fl i=some (ft,off)) (hp:P.plainKey ft=true) (hv:cs[off]?=some v) :
    Ex P N l C ⟨d,.field s x i,T,pos,af,g⟩ v:=by
  intro a w hA _
  have hf:=hf0
  rw [pJ] at hf
  obtain ⟨fs,h1,h2⟩:=h.eq
  have hl:fs.toList[i]?.map (fun f=>(f.type,f.offset))=some (ft,off):=by rw [←List.getElem?_map,h2,hf]
  obtain ⟨f,hfi,hfe⟩:=Option.map_eq_some_iff.1 hl
  have hfi':fs[i]?=some f:=by simpa using hfi
  simp only [Prod.mk.injEq] at hfe
  obtain ⟨rfl,rfl⟩:=hfe
  simp [execOp,hA.ev hx,Instr.field,run_underlying h1,hfi',asAgg,run_part_plain w hp hv]
theorem ex_eqlSs {P:Program} {N:Nat} {l:List (Nat × Value)} {C:World→Prop} {d:Option Tmp} {T:TypeId} {pos:String} {af:Array Edge} {gd:Option (Nat × Bool)} {t ty:TypeId} {x y:Operand} {m:ByteArray} [h:TSr P t] (hx:ev l x=some (.string m)) (hy:ev l y=some (.string m)):Ex P N l C ⟨d,.binOp .eql t x y ty,T,pos,af,gd⟩ (.bool true):=by
  have:=rP (N:=N) (C:=C) (d:=d) (T:=T) (pos:=pos) (af:=af) (g:=gd) (ty:=ty) (h:=h) hx hy
  rwa [beq_self_eq_true] at this
end Go.Fw
namespace Go.Proofs.YtenlcdokaadobaaGreatDoor
open Go Go.Fw
set_option linter.unusedVariables false
theorem fo_29:(Tryz.prog.fieldsOf 29).toList.map (fun f=>(f.name != "_",f.type,f.offset))=[(true,3,0),(true,9,1),(true,9,2)]:=by decide +kernel
theorem ge_29:Tryz.prog.eqGuardType Tryz.prog.depth 29=false:=by decide +kernel
theorem st_29:Tryz.prog.stoodInHeld 29=false:=by decide +kernel
theorem isSt_29:(match Tryz.prog.underlying 29 with|some (.struct _)=>true|_=>false)=true:=by decide +kernel
theorem un_29:Tryz.prog.underlying 29=some (.struct (Tryz.prog.fieldsOf 29)):=by
  have h:=isSt_29
  unfold Program.fieldsOf
  cases hu:Tryz.prog.underlying 29 with
  |none=>rw [hu] at h;cases h
  |some d=>cases d<;>rw [hu] at h<;>first|rfl|cases h
theorem pk_3:Tryz.prog.plainKey 3=true:=by decide +kernel
theorem pk_9:Tryz.prog.plainKey 9=true:=by decide +kernel
def eqO (a b:Int × ByteArray × ByteArray):Bool:=a.1 == b.1 && (a.2.1.toList == b.2.1.toList && a.2.2.toList == b.2.2.toList)
theorem ex_eqlO {N:Nat} {l:List (Nat × Value)} {C:World→Prop} {d:Option Tmp} {T:TypeId} {pos:String} {af:Array Edge} {gd:Option (Nat × Bool)} {ty:TypeId} {x y:Operand} {p q:Int × ByteArray × ByteArray} (hx:ev l x=some (.agg (qX p).toArray)) (hy:ev l y=some (.agg (qX q).toArray)) :
    Ex Tryz.prog N l C ⟨d,.binOp .eql 29 x y ty,T,pos,af,gd⟩ (.bool (eqO p q)):=by
  intro a w hA _
  simp only [execOp,hA.ev hx,hA.ev hy,Sem.run_bind,run_eqGuard_agg w .eql _ _ _ _ _ ge_29,Result.andThen_ok,run_eql_struct]
  rw [show (10000:Nat)=9999+1 from rfl,run_equalIn_agg w 9999 _ _ _ un_29 st_29]
  have h:=run_eqF3 (P:=Tryz.prog) (w:=w) (d:=9998) (k1:=p.1) (k2:=q.1) (a1:=p.2.1) (b1:=p.2.2) (a2:=q.2.1) (b2:=q.2.2) fo_29 (TIn.eq (t:=3)) (TSr.eq (t:=9)) (TSr.eq (t:=9)) pk_3 pk_9 pk_9
  have e1:(qX p).toArray=#[.int .i64 p.1,.string p.2.1,.string p.2.2]:=rfl
  have e2:(qX q).toArray=#[.int .i64 q.1,.string q.2.1,.string q.2.2]:=rfl
  rw [e1,e2,h]
  rfl
theorem eqO_refl (p:Int × ByteArray × ByteArray):eqO p p=true:=by simp [eqO]
theorem ex_eqlOs {N:Nat} {l:List (Nat × Value)} {C:World→Prop} {d:Option Tmp} {T:TypeId} {pos:String} {af:Array Edge} {gd:Option (Nat × Bool)} {ty:TypeId} {x y:Operand} {p:Int × ByteArray × ByteArray} (hx:ev l x=some (.agg (qX p).toArray)) (hy:ev l y=some (.agg (qX p).toArray)) :
    Ex Tryz.prog N l C ⟨d,.binOp .eql 29 x y ty,T,pos,af,gd⟩ (.bool true):=by
  have h:=ex_eqlO (N:=N) (C:=C) (d:=d) (T:=T) (pos:=pos) (af:=af) (gd:=gd) (ty:=ty) hx hy
  rwa [eqO_refl] at h
theorem xs4_sz:∀s∈xs4,s.size≤4611686018427387904:=by decide +kernel
theorem gA_bs (oG p8 oX p0 p1 p2 p3 p4 p5 p6 p7:Option Addr):∀f∈(gA oG p8 oX p0 p1 p2 p3 p4 p5 p6 p7).fs.l,f.bs.l.length≤1048576∧∀bl∈f.bs.l,bl.e.to.l.length≤1048576:=by
  intro f hf
  obtain rfl:=List.mem_singleton.1 hf
  refine ⟨(by decide:4≤1048576),fun b hb=>?_⟩
  simp only [List.mem_cons,List.not_mem_nil,or_false] at hb
  rcases hb with rfl|rfl|rfl|rfl
  · exact (by decide:2≤1048576)
  · exact (by decide:1≤1048576)
  · exact (by decide:1≤1048576)
  · exact (by decide:0≤1048576)
def zF5:Value:=.agg #[.int .i64 0,.int .i64 0,.int .i64 0,.slice none 0 0,.int .i64 0,.slice none 0 0,.int .i64 0,.int .i64 0,.slice none 0 0,.slice none 0 0,.slice none 0 0,.slice none 0 0]
theorem fill_F5 (o:Option Addr):Instr.fill (fun x=>([(0,1),(1,11)]:List (Nat × Nat))[x]?) zF5.cells [(1,.agg (nM o).toArray)]=some (uC o 0).toArray:=by
  simp [Instr.fill,zF5,uC,nM,Value.cells]
theorem ctx_of {fl:List FN} {g G:Grs} (hs:g.ss.l.length≤9223372036854775807) (hm:MayN fl g) (hz:vN fl 1000 0<1000) (hsame:SameN g G) (hfs:G.fs.l.map stG=fl.map fun f=>⟨f.caps,lv (gbF f.body)⟩):CtxS fl g G:=by
  refine ⟨hsame,hfs,fun f hf=>?_⟩
  have hsz:szN f.body≤1000000:=by
    have h1:=mO fl 1000 0 hz
    have h2:=jP hf
    omega
  obtain ⟨hA,p,hp⟩:=hm
  obtain ⟨p0,s,h0,h1,hb⟩:=qE hp (Int.le_refl _) (by decide) f hf
  obtain ⟨ho,_,_⟩:=aL hb h0 h1 hsz
  obtain ⟨hw,hfr⟩:=fun_wfr hs ⟨hA,p,hp⟩ f hf
  refine ⟨ho,?_⟩
  exact fill_at f.body [] [] [] 0 ([xS []],[]) (xS []) (dF f.body) hfr hw (fun e he=>absurd he List.not_mem_nil) (fun e he=>absurd he List.not_mem_nil) rfl fun i _=>rfl
theorem kT {fl:List FN} {g G:Grs} {kd fuel:Int} {s:ByteArray} (hs:g.ss.l.length≤9223372036854775807) (hm:MayN fl g) (hM:MayP G) (hz:vN fl 1000 0<1000) (hsame:SameN g G) (hfs:G.fs.l.map stG=fl.map fun f=>⟨f.caps,lv (gbF f.body)⟩) (hk:(eP fl g kd s fuel).1≠2):bB G kd s fuel=eP fl g kd s fuel:=by
  have hc:=ctx_of hs hm hz hsame hfs
  have hp:0<fl.length:=by have:=hm.1.pos;unfold yW at this;rw [List.length_map] at this;exact this
  rw [runN_t hm] at hk ⊢
  rw [runP_t hM,cZ hc fuel.toNat _ _ fuel.toNat (first_sim hc hp s) hk (Nat.le_refl _)]
abbrev OldC (w:World) (b:Nat) (vs:List Value):Prop:=∀j u,vs[j]?=some u→w.cell? ((bat b 0).add j)=some u
theorem aZ {w0:World} {H:List It} {b:Nat} {vs:List Value} (h:OldC w0 b vs):Cls (HS w0 noM H) (bat b 0) vs:=fun w hH i v hv=>by
  have h1:=(hH.rd (o:=some (bat b 0)) (xs:=vs) (rd_of0 fun j u hj=>h j u hj) id).2 i v hv
  have e:(bat b 0).add i=sat (some (bat b 0)) i:=by
    by_cases hi:i=0
    · simp [sat,bat,Addr.add,mF,gM,hi]
    · simp [sat,bat,Addr.add,mF,gM,hi]
  rw [e];exact h1
theorem old_of {w0 w:World} {H:List It} {b T:Nat} {vs:List Value} (hH:HS w0 noM (cb b T vs::H) w):OldC w b vs:=by
  have c:Cls (HS w0 noM (cb b T vs::H)) (bat b 0) vs:=zR (List.Mem.head _)
  exact fun j u h=>c w hH j u h
def gr0s:Grs:=⟨zT,zT,zT,zT,zT⟩
def b5 (o:Option Addr):AN:=.mk 2 0 zT 0 zT ⟨0,0,zT,zT⟩ ⟨o,1,[⟨2,5⟩]⟩ none 0 []
theorem b5_rd {w:World} {o:Option Addr} (h:Rd w o (zN ⟨2,5⟩)):RdN w (b5 o):=by
  have hn:∀{α:Type} (enc:α→List Value),RdV w enc zT∧(zT:Vec α).l.length≤17592186044416:=fun enc=>⟨zW _ _,by show 0≤17592186044416;decide⟩
  exact .mk (hn _) (hn _) (hn _) (hn _) ⟨⟨by show Rd w o (zN ⟨2,5⟩++[]);rw [List.append_nil];exact h,Nat.le_refl 1,by show 1≤maxLen;decide⟩,by show 1≤17592186044416;decide⟩ ⟨zW _ _,by show 0≤17592186044416;decide⟩ fun b hb=>absurd hb List.not_mem_nil
theorem b5_may {g:Grs} (o:Option Addr) (hx:g.xs.l=xs4) (hl:g.ls.l=[]) (ht:g.ts.l=[]) (hs:g.ss.l=[]):MayN [⟨0,b5 o⟩] g:=by
  refine ⟨anf4 hx hl ht hs,2,?_⟩
  have hat:jJ g [0,1] 1 [⟨2,5⟩]:=⟨fun a ha=>by obtain rfl:=List.mem_singleton.1 ha;exact .inr (.inl ⟨rfl,by decide,by decide⟩),.inr (by decide)⟩
  have hsh:ShpP 2 0 [] 0 [] ⟨0,0,zT,zT⟩ [⟨2,5⟩] 0:=⟨.inr rfl,.inr rfl,.inr (.inr rfl),.inr rfl,.inr ⟨rfl,rfl,rfl,rfl⟩,⟨fun _=>rfl,fun h=>absurd h (by decide),fun h=>absurd h (by decide)⟩,⟨fun h=>absurd h (by decide),fun h=>absurd h (by decide),fun _=>rfl⟩⟩
  have hpre:nW g (b5 o) 1 (cs0 0)=some ⟨[],[0,1],[],[],2⟩:=by
    unfold nW
    rw [if_pos ⟨⟨show (1:Int)≤2 by decide,show (2:Int)≤8 by decide⟩,show (0:Int)+1≤65536 by decide,show (1:Int)≤32768 by decide,hsh⟩]
    show jI g [⟨2,5⟩] ⟨[],[0,1],[],[],1⟩=_
    unfold jI
    rw [if_pos hat]
    rfl
  have hb:xL g (yW [⟨0,b5 o⟩]) 0 (b5 o) 1 (cs0 0)=some ⟨[],[0,1],[],[],2⟩:=by
    unfold b5 at hpre ⊢
    rw [xL,hpre]
    dsimp only [Option.bind]
    rw [if_neg (by decide),if_neg (by decide),if_neg (by decide),if_neg (by decide),wI]
  rw [qF,if_pos ⟨show (0:Int)≤0 by decide,show (0:Int)≤4096 by decide⟩,hb]
  rfl
theorem b5_run {g:Grs} (o:Option Addr):rT [⟨0,b5 o⟩] g 2 9 (uN [⟨0,b5 o⟩] empS)=(1,vT 5,⟨empS,[],[]⟩):=rfl
theorem b5_runN {g:Grs} (o:Option Addr) (h:MayN [⟨0,b5 o⟩] g):eP [⟨0,b5 o⟩] g 2 empS 9=(1,empS,⟨#[53]⟩):=by
  rw [runN_t h]
  show ((rT _ g 2 9 _).1,ofB (rT _ g 2 9 _).2.2.out,(rT _ g 2 9 _).2.1)=_
  rw [b5_run,itoa_5]
  rfl
theorem b5_enc (o:Option Addr):flat xX [⟨0,b5 o⟩]=uC o 0:=by first|rfl|simp [flat,xX,b5,xF,uC,nM,zT]
theorem may0N {g:Grs}:¬MayN [] g:=fun h=>absurd h.1.pos (by decide)
theorem gr0s_rd (w:World):RdGs w gr0s:=⟨zW _ _,fun x hx=>absurd hx (List.not_mem_nil),zW _ _,zW _ _,zW _ _,zW _ _⟩
theorem xs4_c:flat yY xs4=[.string ⟨#[66,111,117,110,100,115]⟩,.string ⟨#[68,105,118,105,100,101]⟩,.string ⟨#[77,97,116,99,104]⟩,.string ⟨#[83,105,122,101]⟩]:=rfl
theorem cats4 (a b c d:Blc):Cats 6 [.agg (yE a).toArray,.agg (yE b).toArray,.agg (yE c).toArray,.agg (yE d).toArray] (flat yE [a,b,c,d]):=Cats.cn (cs:=yE a) (Cats.cn (cs:=yE b) (Cats.cn (cs:=yE c) (Cats.cn (cs:=yE d) Cats.nil)))
theorem gA_rd {w0 w:World} {H:List It} {oG p8 oX p0 p1 p2 p3 p4 p5 p6 p7:Option Addr} (hH:HS w0 noM (own 9 1 oX 4 4 (flat yY xs4)::own 44 2 oG 1 1 (vL ⟨0,⟨p8,4,[blA p0 p1 1 2,blJ p2 p3 1 1 7,blJ p4 p5 1 1 8,blR p6 p7 1 1]⟩⟩)::own 53 6 p8 4 4 (flat yE [blA p0 p1 1 2,blJ p2 p3 1 1 7,blJ p4 p5 1 1 8,blR p6 p7 1 1])::own 65 2 p7 1 1 (zN ⟨1,2⟩)::own 3 1 p6 1 1 [.int .i64 2]::own 61 2 p5 1 1 [.int .i64 3,.slice p4 1 1]::own 65 2 p4 1 1 (zN ⟨2,8⟩)::own 61 2 p3 1 1 [.int .i64 3,.slice p2 1 1]::own 65 2 p2 1 1 (zN ⟨2,7⟩)::own 61 2 p1 2 2 [.int .i64 1,.slice none 0 0,.int .i64 2,.slice none 0 0]::own 65 2 p0 1 1 (zN ⟨1,1⟩)::H) w):RdGs w (gA oG p8 oX p0 p1 p2 p3 p4 p5 p6 p7):=by
  have hX:=hH.own_rd (T:=9) (o:=oX) (n:=4) (cap:=4) (xs:=flat yY xs4) (by repeat (first|exact List.Mem.head _|apply List.Mem.tail))
  have hG:=hH.own_rd (T:=44) (o:=oG) (n:=1) (cap:=1) (sz:=2) (xs:=vL ⟨0,⟨p8,4,[blA p0 p1 1 2,blJ p2 p3 1 1 7,blJ p4 p5 1 1 8,blR p6 p7 1 1]⟩⟩) (by repeat (first|exact List.Mem.head _|apply List.Mem.tail))
  have hB:=hH.own_rd (T:=53) (o:=p8) (n:=4) (cap:=4) (sz:=6) (xs:=flat yE [blA p0 p1 1 2,blJ p2 p3 1 1 7,blJ p4 p5 1 1 8,blR p6 p7 1 1]) (by repeat (first|exact List.Mem.head _|apply List.Mem.tail))
  have h0:=hH.own_rd (T:=65) (o:=p0) (n:=1) (cap:=1) (sz:=2) (xs:=zN ⟨1,1⟩) (by repeat (first|exact List.Mem.head _|apply List.Mem.tail))
  have h1:=hH.own_rd (T:=61) (o:=p1) (n:=2) (cap:=2) (sz:=2) (xs:=[.int .i64 1,.slice none 0 0,.int .i64 2,.slice none 0 0]) (by repeat (first|exact List.Mem.head _|apply List.Mem.tail))
  have h2:=hH.own_rd (T:=65) (o:=p2) (n:=1) (cap:=1) (sz:=2) (xs:=zN ⟨2,7⟩) (by repeat (first|exact List.Mem.head _|apply List.Mem.tail))
  have h3:=hH.own_rd (T:=61) (o:=p3) (n:=1) (cap:=1) (sz:=2) (xs:=[.int .i64 3,.slice p2 1 1]) (by repeat (first|exact List.Mem.head _|apply List.Mem.tail))
  have h4:=hH.own_rd (T:=65) (o:=p4) (n:=1) (cap:=1) (sz:=2) (xs:=zN ⟨2,8⟩) (by repeat (first|exact List.Mem.head _|apply List.Mem.tail))
  have h5:=hH.own_rd (T:=61) (o:=p5) (n:=1) (cap:=1) (sz:=2) (xs:=[.int .i64 3,.slice p4 1 1]) (by repeat (first|exact List.Mem.head _|apply List.Mem.tail))
  have h6:=hH.own_rd (T:=3) (o:=p6) (n:=1) (cap:=1) (sz:=1) (xs:=[.int .i64 2]) (by repeat (first|exact List.Mem.head _|apply List.Mem.tail))
  have h7:=hH.own_rd (T:=65) (o:=p7) (n:=1) (cap:=1) (sz:=2) (xs:=zN ⟨1,2⟩) (by repeat (first|exact List.Mem.head _|apply List.Mem.tail))
  have h11:1≤1∧1≤maxLen:=⟨Nat.le_refl _,by decide⟩
  refine ⟨⟨hG,h11⟩,fun x hx=>?_,zW _ _,zW _ _,⟨hX,Nat.le_refl 4,(by decide:4≤maxLen)⟩,zW _ _⟩
  obtain rfl:=List.mem_singleton.1 hx
  refine ⟨⟨hB,Nat.le_refl 4,(by decide:4≤maxLen)⟩,fun b hb=>?_⟩
  have hb:b∈[blA p0 p1 1 2,blJ p2 p3 1 1 7,blJ p4 p5 1 1 8,blR p6 p7 1 1]:=hb
  rcases List.mem_cons.1 hb with rfl|hb
  · refine ⟨zW _ _,zW _ _,fun i hi=>absurd hi (List.not_mem_nil),⟨h0,h11⟩,zW _ _,⟨h1,Nat.le_refl 2,by show 2≤maxLen;decide⟩,fun x hx=>?_⟩
    have hx:x∈[(⟨1,zT⟩:Edg),⟨2,zT⟩]:=hx
    rcases List.mem_cons.1 hx with rfl|hx
    · exact zW _ _
    · obtain rfl:=List.mem_singleton.1 hx
      exact zW _ _
  rcases List.mem_cons.1 hb with rfl|hb
  · refine ⟨zW _ _,zW _ _,fun i hi=>absurd hi (List.not_mem_nil),zW _ _,zW _ _,⟨h3,h11⟩,fun x hx=>?_⟩
    obtain rfl:=List.mem_singleton.1 hx
    exact ⟨h2,h11⟩
  rcases List.mem_cons.1 hb with rfl|hb
  · refine ⟨zW _ _,zW _ _,fun i hi=>absurd hi (List.not_mem_nil),zW _ _,zW _ _,⟨h5,h11⟩,fun x hx=>?_⟩
    obtain rfl:=List.mem_singleton.1 hx
    exact ⟨h4,h11⟩
  obtain rfl:=List.mem_singleton.1 hb
  exact ⟨⟨h6,h11⟩,zW _ _,fun i hi=>absurd hi (List.not_mem_nil),⟨h7,h11⟩,zW _ _,zW _ _,fun x hx=>absurd hx (List.not_mem_nil)⟩
section
attribute [local irreducible] Code.wp wpList Calls Ex Op1 sat bat blk cb own Go.Fw.mp Go.Fw.mpO Go.Fw.mpI Go.Fw.mpE Go.Fw.itr HS Rd Ret wkD Hp Cl Cls Exit.then Exit.inBlock Exit.noGoto bodyPost Go.Fw.flat wk2 Go.Fw.all Go.Fw.owns wpOp
attribute [local irreducible] sk mpK sko mvO xI opM Go.Fw.mset Go.Fw.mv opK

theorem mS (w0:World) (n:Int):Ret Tryz.prog 24 #[.int .i64 n] w0 (fun r w=>∃o,r= .slice o 1 1∧HS w0 noM [own 65 2 o 1 1 (zN ⟨2,n⟩)] w):=by
  have hH:HS w0 noM [] w0:=HS.init w0 noM
  (refine ENT (N:=6) Tryz.func24 Tryz.ntmps24 ?_;intro a hA)
  repeat' (first|(refine XT ?_;apply XE;(first|(apply zI (cs:=(zN ⟨2,n⟩).toArray);rfl;exact FLT;rfl));clear hA a;intro a hA)|(refine QT ?_;clear hA a;intro a hA)|(refine LT ?_;clear hA hH;rintro _ w ⟨oN,rfl,hH⟩ a hA)|refine CT ?_|fail)
  exact rt1 (.inl rfl) rfl hA rfl ⟨_,rfl,hH⟩
theorem names_spec (w0:World) (o:Option Addr) (c:Nat) (l:List Blc):Ret Tryz.prog 23 #[.slice o l.length c] w0 (fun r w=>∃oG oX,r= .agg ((yN ⟨⟨oG,1,[⟨0,⟨o,c,l⟩⟩]⟩,zT,zT,⟨oX,4,xs4⟩,zT⟩)).toArray∧HS w0 noM [own 9 1 oX 4 4 (flat yY xs4),own 44 2 oG 1 1 (vL ⟨0,⟨o,c,l⟩⟩)] w):=by
  have hH:HS w0 noM [] w0:=HS.init w0 noM
  (refine ENT (N:=8) Tryz.func23 Tryz.ntmps23 ?_;intro a hA)
  repeat' (first|(refine XT ?_;apply XE;(first|(apply zI (cs:=(vL ⟨0,⟨o,c,l⟩⟩).toArray);rfl;exact FLT;rfl));clear hA a;intro a hA)|(refine QT ?_;clear hA a;intro a hA)|(refine BT ?_;clear hA hH;rintro _ w ⟨bN,rfl,hH⟩ a hA)|(refine LT ?_;clear hA hH;rintro _ w ⟨oN,rfl,hH⟩ a hA)|refine CT ?_|fail)
  have key:∃oG oX b2,HS w0 noM (own 9 1 oX 4 4 (flat yY xs4)::own 44 2 oG 1 1 (vL ⟨0,⟨o,c,l⟩⟩)::cb b2 25 (yN gr0s)::[]) w∧Sl 8 [(6,.slice oX 4 4),(5,.slice oG 1 1),(2,.pointer (some (bat b2 0)))] a:=⟨_,_,_,by rw [xs4_c];exact hH,(hA.sub SBT)⟩
  clear hA hH
  obtain ⟨oG,oX,b2,hH,hA⟩:=key
  repeat' (first|(refine XT ?_;apply XE;(first|(apply zI (cs:=((yN ⟨⟨oG,1,[⟨0,⟨o,c,l⟩⟩]⟩,zT,zT,⟨oX,4,xs4⟩,zT⟩)).toArray);rfl;exact FLT;rfl));clear hA a;intro a hA)|(refine QT ?_;clear hA a;intro a hA)|(refine SAT ((yN ⟨⟨oG,1,[⟨0,⟨o,c,l⟩⟩]⟩,zT,zT,⟨oX,4,xs4⟩,zT⟩)) hA hH ?_;clear hH;intro w hH)|refine CT ?_|fail)
  exact rt1c (vs:=(yN ⟨⟨oG,1,[⟨0,⟨o,c,l⟩⟩]⟩,zT,zT,⟨oX,4,xs4⟩,zT⟩)) (.inl rfl) rfl hA rfl rfl hH (zR (by exact MEMT)) ⟨oG,oX,rfl,hH.rm 2⟩
theorem awakeM_spec (w0:World) (hFI:FI w0):Ret Tryz.prog 10 #[] w0 (fun r w=>r= .bool true∧Kp w0 noM w):=by
  have hH:HS w0 noM [] w0:=HS.init w0 noM
  (refine ENT (N:=79) Tryz.func10 Tryz.ntmps10 ?_;intro a hA)
  repeat' (first|(refine XT ?_;apply XE;(first|(apply zI (cs:=(zN ⟨1,1⟩).toArray);rfl;exact FLT;rfl));clear hA a;intro a hA)|(refine QT ?_;clear hA a;intro a hA)|(refine LT ?_;clear hA hH;rintro _ w ⟨oN,rfl,hH⟩ a hA)|refine CT ?_|fail)
  obtain ⟨p0,hb3⟩:∃x,x=oN:=⟨_,rfl⟩;rw [←hb3] at hA hH;clear hb3 oN
  repeat' (first|(refine XT ?_;apply XE;(first|(apply zI (cs:=([.int .i64 1,.slice none 0 0]).toArray);rfl;exact FLT;rfl)|(apply zI (cs:=([.int .i64 2,.slice none 0 0]).toArray);rfl;exact FLT;rfl));clear hA a;intro a hA)|(refine QT ?_;clear hA a;intro a hA)|(refine LT ?_;clear hA hH;rintro _ w ⟨oN,rfl,hH⟩ a hA)|fail)
  obtain ⟨p1,hb3⟩:∃x,x=oN:=⟨_,rfl⟩;rw [←hb3] at hA hH;clear hb3 oN
  repeat' (first|(refine XT ?_;apply XE;(first|(apply zI (cs:=([.int .i64 5,.slice p0 1 1,.slice none 0 0,.slice p1 2 2]).toArray);rfl;exact FLT;rfl)|(apply xJ (szs:=[(0,1),(1,1),(2,4)]) (cs:=(yE (blA p0 p1 1 2)).toArray);exact wP (by (repeat (first|exact SzL.nil|refine SzL.cons ⟨_,rfl,by decide⟩ ?_)));rfl;rfl));clear hA a;intro a hA)|(refine QT ?_;clear hA a;intro a hA)|fail)
  (refine zH hA rfl rfl (by decide) (zA rfl rfl rfl (mS _ 7)) ?_;clear hA;rintro _ w ⟨p2,rfl,hj⟩ a hA;replace hH:=hH.join hj;clear hj)
  repeat' (first|(refine XT ?_;apply XE;(first|(apply zI (cs:=([.int .i64 3,.slice p2 1 1]).toArray);rfl;exact FLT;rfl));clear hA a;intro a hA)|(refine QT ?_;clear hA a;intro a hA)|(refine LT ?_;clear hA hH;rintro _ w ⟨oN,rfl,hH⟩ a hA)|fail)
  obtain ⟨p3,hb3⟩:∃x,x=oN:=⟨_,rfl⟩;rw [←hb3] at hA hH;clear hb3 oN
  repeat' (first|(refine XT ?_;apply XE;(first|(apply zI (cs:=([.int .i64 4,.slice none 0 0,.slice none 0 0,.slice p3 1 1]).toArray);rfl;exact FLT;rfl)|(apply xJ (szs:=[(0,1),(1,1),(2,4)]) (cs:=(yE (blJ p2 p3 1 1 7)).toArray);exact wP (by (repeat (first|exact SzL.nil|refine SzL.cons ⟨_,rfl,by decide⟩ ?_)));rfl;rfl));clear hA a;intro a hA)|(refine QT ?_;clear hA a;intro a hA)|fail)
  (refine zH hA rfl rfl (by decide) (zA rfl rfl rfl (mS _ 8)) ?_;clear hA;rintro _ w ⟨p4,rfl,hj⟩ a hA;replace hH:=hH.join hj;clear hj)
  repeat' (first|(refine XT ?_;apply XE;(first|(apply zI (cs:=([.int .i64 3,.slice p4 1 1]).toArray);rfl;exact FLT;rfl));clear hA a;intro a hA)|(refine QT ?_;clear hA a;intro a hA)|(refine LT ?_;clear hA hH;rintro _ w ⟨oN,rfl,hH⟩ a hA)|fail)
  obtain ⟨p5,hb3⟩:∃x,x=oN:=⟨_,rfl⟩;rw [←hb3] at hA hH;clear hb3 oN
  repeat' (first|(refine XT ?_;apply XE;(first|(apply zI (cs:=([.int .i64 4,.slice none 0 0,.slice none 0 0,.slice p5 1 1]).toArray);rfl;exact FLT;rfl)|(apply xJ (szs:=[(0,1),(1,1),(2,4)]) (cs:=(yE (blJ p4 p5 1 1 8)).toArray);exact wP (by (repeat (first|exact SzL.nil|refine SzL.cons ⟨_,rfl,by decide⟩ ?_)));rfl;rfl));clear hA a;intro a hA)|(refine QT ?_;clear hA a;intro a hA)|(refine LT ?_;clear hA hH;rintro _ w ⟨oN,rfl,hH⟩ a hA)|fail)
  have key:∃p6 p7,HS w0 noM (own 65 2 p7 1 1 (zN ⟨1,2⟩)::own 3 1 p6 1 1 [.int .i64 2]::own 61 2 p5 1 1 [.int .i64 3,.slice p4 1 1]::own 65 2 p4 1 1 (zN ⟨2,8⟩)::own 61 2 p3 1 1 [.int .i64 3,.slice p2 1 1]::own 65 2 p2 1 1 (zN ⟨2,7⟩)::own 61 2 p1 2 2 [.int .i64 1,.slice none 0 0,.int .i64 2,.slice none 0 0]::own 65 2 p0 1 1 (zN ⟨1,1⟩)::[]) w∧Sl 79 [(29,.slice p7 1 1),(27,.slice p6 1 1),(26,.agg (yE (blJ p4 p5 1 1 8)).toArray),(21,.agg (yE (blJ p2 p3 1 1 7)).toArray),(16,.agg (yE (blA p0 p1 1 2)).toArray),(0,.bool false)] a:=⟨_,_,hH.perm PMT,(hA.sub SBT)⟩
  clear hA hH
  obtain ⟨p6,p7,hH,hA⟩:=key
  repeat' (first|(refine XT ?_;apply XE;(first|(apply zI (cs:=([.int .i64 1,.slice p7 1 1,.slice none 0 0,.slice none 0 0]).toArray);rfl;exact FLT;rfl)|(apply xJ (szs:=[(0,1),(1,1),(2,4)]) (cs:=(yE (blR p6 p7 1 1)).toArray);exact wP (by (repeat (first|exact SzL.nil|refine SzL.cons ⟨_,rfl,by decide⟩ ?_)));rfl;rfl));clear hA a;intro a hA)|(refine QT ?_;clear hA a;intro a hA)|(apply zH hA rfl rfl (by decide);apply zZ (xs:=flat yE [blA p0 p1 1 2,blJ p2 p3 1 1 7,blJ p4 p5 1 1 8,blR p6 p7 1 1]) (vs:=[.agg (yE (blA p0 p1 1 2)).toArray,.agg (yE (blJ p2 p3 1 1 7)).toArray,.agg (yE (blJ p4 p5 1 1 8)).toArray,.agg (yE (blR p6 p7 1 1)).toArray]);rfl;rfl;exact cats4 _ _ _ _;rfl;rfl;rfl;exact hH;clear hA hH;rintro _ w ⟨oN,rfl,hH⟩ a hA)|fail)
  obtain ⟨p8,hb3⟩:∃x,x=oN:=⟨_,rfl⟩;rw [←hb3] at hA hH;clear hb3 oN
  (refine zH hA rfl rfl (by decide) (zA rfl rfl rfl (names_spec _ p8 4 [blA p0 p1 1 2,blJ p2 p3 1 1 7,blJ p4 p5 1 1 8,blR p6 p7 1 1])) ?_;clear hA;rintro _ w ⟨oG,oX,rfl,hj⟩ a hA;replace hH:=hH.join hj;clear hj)
  obtain ⟨g,hg⟩:∃g,g=gA oG p8 oX p0 p1 p2 p3 p4 p5 p6 p7:=⟨_,rfl⟩
  have hGA:yN ⟨⟨oG,1,[⟨0,⟨p8,4,[blA p0 p1 1 2,blJ p2 p3 1 1 7,blJ p4 p5 1 1 8,blR p6 p7 1 1]⟩⟩]⟩,zT,zT,⟨oX,4,xs4⟩,zT⟩=yN g:=by rw [hg];rfl
  rw [hGA] at hA
  replace hH:=hH.perm (H':=own 9 1 oX 4 4 (flat yY xs4)::own 44 2 oG 1 1 (vL ⟨0,⟨p8,4,[blA p0 p1 1 2,blJ p2 p3 1 1 7,blJ p4 p5 1 1 8,blR p6 p7 1 1]⟩⟩)::own 53 6 p8 4 4 (flat yE [blA p0 p1 1 2,blJ p2 p3 1 1 7,blJ p4 p5 1 1 8,blR p6 p7 1 1])::own 65 2 p7 1 1 (zN ⟨1,2⟩)::own 3 1 p6 1 1 [.int .i64 2]::own 61 2 p5 1 1 [.int .i64 3,.slice p4 1 1]::own 65 2 p4 1 1 (zN ⟨2,8⟩)::own 61 2 p3 1 1 [.int .i64 3,.slice p2 1 1]::own 65 2 p2 1 1 (zN ⟨2,7⟩)::own 61 2 p1 2 2 [.int .i64 1,.slice none 0 0,.int .i64 2,.slice none 0 0]::own 65 2 p0 1 1 (zN ⟨1,1⟩)::[]) PMT
  have hRg:RdGs w g:=by rw [hg];exact gA_rd (H:=[]) hH
  have hMg:MayP g:=by rw [hg];exact gA_may ..
  repeat' (first|(refine QT ?_;clear hA a;intro a hA)|(refine BT ?_;clear hA hH;rintro _ w ⟨bN,rfl,hH⟩ a hA)|(refine SAT (yN g) hA hH ?_;clear hH;intro w hH)|refine CT ?_|fail)
  obtain ⟨b2,hb3⟩:∃x,x=bN:=⟨_,rfl⟩;rw [←hb3] at hA hH;clear hb3 bN
  have hxs:∀s∈g.xs.l,s.size≤4611686018427387904:=by rw [hg];exact xs4_sz
  have hfl:g.fs.l.length≤100000:=by rw [hg];exact (by decide:1≤100000)
  have hbs:∀f∈g.fs.l,f.bs.l.length≤1048576∧∀bl∈f.bs.l,bl.e.to.l.length≤1048576:=by rw [hg];exact fun f hf=>gA_bs _ _ _ _ _ _ _ _ _ _ _ f hf
  have hrun:qX (bB g 2 ⟨#[]⟩ 9)=xD 1 empS ⟨#[56]⟩:=by rw [hg];exact congrArg qX (gA_runP ..)
  have hR1:RdGs w g:=by rw [hg];exact gA_rd (H:=[]) hH.tail
  repeat' (first|(refine QT ?_;clear hA a;intro a hA)|fail)
  (refine zH hA rfl rfl (by decide) (zA rfl rfl rfl (Run_spec _ g 2 ⟨#[]⟩ 9 hR1 hfl hbs hxs (by decide) (hFI.keep hH.kp))) ?_;clear hA;rintro _ w ⟨rfl,hk⟩ a hA;replace hH:=hH.keep hk;clear hk hR1)
  rw [hrun] at hA
  repeat' (first|(refine QT ?_;clear hA a;intro a hA)|(refine BT ?_;clear hA hH;rintro _ w ⟨bN,rfl,hH⟩ a hA)|(refine SAT (xD 1 empS ⟨#[56]⟩) hA hH ?_;clear hH;intro w hH)|refine CT ?_|fail)
  obtain ⟨b3,hb3⟩:∃x,x=bN:=⟨_,rfl⟩;rw [←hb3] at hA hH;clear hb3 bN
  have hST:HS w0 noM [cb b2 25 (yN g)] w:=HS.left (H1:=[_]) hH.tail
  refine mH (qs [4,5] (.two 0 7 (qs [1,2] (.two 3 7 (.q 6 (.one 7 (.one 8 .nil))) (.one 3 (.q 6 (.one 8 .nil))))) (.one 0 (qs [1,2] (.one 3 (.q 6 (.one 8 .nil))))))) (fun a w=>∃b4 oA oF,HS w0 noM (cb b4 34 (xA oF 1 1 (⟨zT,zT,zT,g.xs,zT⟩:Grs))::own 72 12 oF 1 1 (uC oA 0)::own 65 2 oA 1 1 (zN ⟨2,5⟩)::cb b3 29 (xD 1 empS ⟨#[56]⟩)::cb b2 25 (yN g)::own 9 1 oX 4 4 (flat yY xs4)::own 44 2 oG 1 1 (vL ⟨0,⟨p8,4,[blA p0 p1 1 2,blJ p2 p3 1 1 7,blJ p4 p5 1 1 8,blR p6 p7 1 1]⟩⟩)::own 53 6 p8 4 4 (flat yE [blA p0 p1 1 2,blJ p2 p3 1 1 7,blJ p4 p5 1 1 8,blR p6 p7 1 1])::own 65 2 p7 1 1 (zN ⟨1,2⟩)::own 3 1 p6 1 1 [.int .i64 2]::own 61 2 p5 1 1 [.int .i64 3,.slice p4 1 1]::own 65 2 p4 1 1 (zN ⟨2,8⟩)::own 61 2 p3 1 1 [.int .i64 3,.slice p2 1 1]::own 65 2 p2 1 1 (zN ⟨2,7⟩)::own 61 2 p1 2 2 [.int .i64 1,.slice none 0 0,.int .i64 2,.slice none 0 0]::own 65 2 p0 1 1 (zN ⟨1,1⟩)::[]) w∧
    Sl 79 [(4,.pointer (some (bat b4 0))),(3,.pointer (some (bat b3 0))),(2,.pointer (some (bat b2 0))),(0,.bool false)] a) mixed (by decide +kernel) hST ?_ ?_
  · clear hST
    replace hH:=hH.drew
    (repeat (apply tI hA rfl rfl rfl (by decide);(first|exact EXT|exact EXT2);clear hA a;intro a hA))
    apply pT
    rotate_left
    · (apply xY hA rfl rfl rfl (by decide);apply wD;exact hH;clear hA hH;rintro _ w ⟨bN,rfl,hH⟩;refine ⟨hH.pick (by exact MEMT),?_⟩;intro a hA)
      (refine xY hA rfl rfl rfl (by decide) (zA rfl rfl rfl (mS _ 5)) ?_;clear hA;rintro _ w ⟨oA,rfl,hj⟩;replace hH:=hH.join hj;clear hj;refine ⟨hH.pick (by exact MEMT),?_⟩;intro a hA)
      (repeat (apply tI hA rfl rfl rfl (by decide);(first|exact EXT|exact EXT2|(apply xJ (szs:=[(0,1),(1,1),(2,1),(3,1),(4,1),(5,4),(9,1),(10,1)]) (cs:=(nM oA).toArray);exact wP (by (repeat (first|exact SzL.nil|refine SzL.cons ⟨_,rfl,by decide⟩ ?_)));rfl;rfl)|(apply xJ (szs:=[(0,1),(1,11)]) (cs:=(uC oA 0).toArray);exact wP (by (repeat (first|exact SzL.nil|refine SzL.cons ⟨_,rfl,by decide⟩ ?_)));rfl;exact fill_F5 oA));clear hA a;intro a hA))
      (apply xY hA rfl rfl rfl (by decide);apply zZ (xs:=uC oA 0) (vs:=[.agg (uC oA 0).toArray]);rfl;rfl;exact (Cats.cn (cs:=uC oA 0) Cats.nil);rfl;rfl;rfl;exact hH;clear hA hH;rintro _ w ⟨oN,rfl,hH⟩;refine ⟨hH.pick (by exact MEMT),?_⟩;intro a hA)
      (repeat (apply tI hA rfl rfl rfl (by decide);(first|exact EXT|exact EXT2|(apply zI (cs:=(xA oN 1 1 (⟨zT,zT,zT,g.xs,zT⟩:Grs)).toArray);rfl;exact FLT;rfl));clear hA a;intro a hA))
      (apply tH hA rfl rfl rfl;apply yP (vs:=xA oN 1 1 (⟨zT,zT,zT,g.xs,zT⟩:Grs));rfl;rfl;exact hH;(repeat constructor);(repeat rfl);clear hH;rintro _ w hH;refine ⟨hH.pick (by exact MEMT),?_⟩;apply sK)
      exact ⟨_,oA,_,hH.perm PMT,(hA.sub SBT)⟩
    (refine xY hA rfl rfl rfl (by decide) (zA rfl rfl rfl (mS _ 5)) ?_;clear hA;rintro _ w ⟨oA,rfl,hj⟩;replace hH:=hH.join hj;clear hj;refine ⟨hH.pick (by exact MEMT),?_⟩;intro a hA)
    (repeat (apply tI hA rfl rfl rfl (by decide);(first|exact EXT|exact EXT2|(apply xJ (szs:=[(0,1),(1,1),(2,1),(3,1),(4,1),(5,4),(9,1),(10,1)]) (cs:=(nM oA).toArray);exact wP (by (repeat (first|exact SzL.nil|refine SzL.cons ⟨_,rfl,by decide⟩ ?_)));rfl;rfl)|(apply xJ (szs:=[(0,1),(1,11)]) (cs:=(uC oA 0).toArray);exact wP (by (repeat (first|exact SzL.nil|refine SzL.cons ⟨_,rfl,by decide⟩ ?_)));rfl;exact fill_F5 oA));clear hA a;intro a hA))
    apply pT
    rotate_left
    · (apply xY hA rfl rfl rfl (by decide);apply wD;exact hH;clear hA hH;rintro _ w ⟨bN,rfl,hH⟩;refine ⟨hH.pick (by exact MEMT),?_⟩;intro a hA)
      (apply xY hA rfl rfl rfl (by decide);apply zZ (xs:=uC oA 0) (vs:=[.agg (uC oA 0).toArray]);rfl;rfl;exact (Cats.cn (cs:=uC oA 0) Cats.nil);rfl;rfl;rfl;exact hH;clear hA hH;rintro _ w ⟨oN,rfl,hH⟩;refine ⟨hH.pick (by exact MEMT),?_⟩;intro a hA)
      (repeat (apply tI hA rfl rfl rfl (by decide);(first|exact EXT|exact EXT2|(apply zI (cs:=(xA oN 1 1 (⟨zT,zT,zT,g.xs,zT⟩:Grs)).toArray);rfl;exact FLT;rfl));clear hA a;intro a hA))
      (apply tH hA rfl rfl rfl;apply yP (vs:=xA oN 1 1 (⟨zT,zT,zT,g.xs,zT⟩:Grs));rfl;rfl;exact hH;(repeat constructor);(repeat rfl);clear hH;rintro _ w hH;refine ⟨hH.pick (by exact MEMT),?_⟩;apply sK)
      exact ⟨_,oA,_,hH.perm PMT,(hA.sub SBT)⟩
    (apply xY hA rfl rfl rfl (by decide);apply zZ (xs:=uC oA 0) (vs:=[.agg (uC oA 0).toArray]);rfl;rfl;exact (Cats.cn (cs:=uC oA 0) Cats.nil);rfl;rfl;rfl;exact hH;clear hA hH;rintro _ w ⟨oN,rfl,hH⟩;refine ⟨hH.pick (by exact MEMT),?_⟩;intro a hA)
    (repeat (apply tI hA rfl rfl rfl (by decide);(first|exact EXT|exact EXT2|(apply zI (cs:=(xA oN 1 1 (⟨zT,zT,zT,g.xs,zT⟩:Grs)).toArray);rfl;exact FLT;rfl));clear hA a;intro a hA))
    (apply xY hA rfl rfl rfl (by decide);apply wD;exact hH;clear hA hH;rintro _ w ⟨bN,rfl,hH⟩;refine ⟨hH.pick (by exact MEMT),?_⟩;intro a hA)
    (apply tH hA rfl rfl rfl;apply yP (vs:=xA oN 1 1 (⟨zT,zT,zT,g.xs,zT⟩:Grs));rfl;rfl;exact hH;(repeat constructor);(repeat rfl);clear hH;rintro _ w hH;refine ⟨hH.pick (by exact MEMT),?_⟩;apply sK)
    exact ⟨_,oA,_,hH.perm PMT,(hA.sub SBT)⟩
  clear hA hH hST
  rintro a w ⟨b4,oA,oF,hH,hA⟩
  have hxl:g.xs.l=xs4:=by rw [hg];rfl
  have hRx:RdV w yY g.xs:=by rw [hg];exact (gA_rd (H:=[]) hH.tail.tail.tail.tail.tail).2.2.2.2.1
  have hF1:=hH.own_rd (T:=72) (.tail _ (.head _))
  have hA1:=hH.own_rd (T:=65) (o:=oA) (sz:=2) (.tail _ (.tail _ (.head _)))
  have hRg:RdGs w g:=by rw [hg];exact gA_rd (H:=[]) hH.tail.tail.tail.tail.tail
  have c2:OldC w b2 (yN g):=old_of (hH.pick (it:=cb b2 25 (yN g)) (by repeat (first|exact List.Mem.head _|apply List.Mem.tail)))
  have c3:OldC w b3 (xD 1 empS ⟨#[56]⟩):=old_of (hH.pick (it:=cb b3 29 (xD 1 empS ⟨#[56]⟩)) (by repeat (first|exact List.Mem.head _|apply List.Mem.tail)))
  have c4:OldC w b4 (xA oF 1 1 (⟨zT,zT,zT,g.xs,zT⟩:Grs)):=old_of (hH.pick (it:=cb b4 34 (xA oF 1 1 (⟨zT,zT,zT,g.xs,zT⟩:Grs))) (by repeat (first|exact List.Mem.head _|apply List.Mem.tail)))
  have hkp0:=hH.kp
  have hFI1:FI w:=hFI.keep hH.kp
  clear hH
  have hH:HS w noM [] w:=HS.init w noM
  repeat' (first|(refine XT ?_;apply XE;(first|(apply zG (vs:=xA oF 1 1 (⟨zT,zT,zT,g.xs,zT⟩:Grs));rfl;rfl;exact aZ c4));clear hA a;intro a hA)|(refine QT ?_;clear hA a;intro a hA)|refine CT ?_|fail)
  have hm5:MayN [⟨0,b5 oA⟩] (⟨zT,zT,zT,g.xs,zT⟩:Grs):=b5_may oA hxl rfl rfl rfl
  have hz5:vN [⟨0,b5 oA⟩] 1000 0<1000:=by
    have:vN [⟨0,b5 oA⟩] 1000 0=2:=rfl
    omega
  have hx8:g.xs.l.length≤8796093022208:=by rw [hxl];decide
  have hF5:Rd w oF (flat xX [⟨0,b5 oA⟩]):=by
    rw [b5_enc]
    exact hF1
  (refine zH hA rfl rfl (by decide) (zA rfl rfl rfl (gN _ _ [] hH oF 1 [⟨0,b5 oA⟩] (⟨zT,zT,zT,g.xs,zT⟩:Grs) hF5 (fun f hf=>by obtain rfl:=List.mem_singleton.1 hf;exact b5_rd hA1) (by show 1≤50;decide) hz5 (zW _ _) (zW _ _) hRx (zW _ _) ⟨by show 0≤8796093022208;decide,by show 0≤8796093022208;decide,hx8,by show 0≤8796093022208;decide⟩)) ?_;clear hA hH;rintro _ w (⟨hno,_⟩| ⟨hyes,h,K,rfl,hmay,hsame,hfs,hH,hK⟩) a hA)
  · exact absurd hm5 hno
  repeat' (first|(refine QT ?_;clear hA a;intro a hA)|(refine BT ?_;clear hA hH;rintro _ w ⟨bN,rfl,hH⟩ a hA)|(refine SAT (yN h) hA hH ?_;clear hH;intro w hH)|refine CT ?_|fail)
  obtain ⟨b5,hb3⟩:∃x,x=bN:=⟨_,rfl⟩;rw [←hb3] at hA hH;clear hb3 bN
  repeat' (first|(refine XT ?_;apply XE;(first|(apply zI (cs:=(xA none 0 0 gr0s).toArray);rfl;exact FLT;rfl));clear hA a;intro a hA)|(refine QT ?_;clear hA a;intro a hA)|fail)
  (refine zH hA rfl rfl (by decide) (zA rfl rfl rfl (gN _ _ _ hH none 0 [] gr0s (zW _ xX).1 (fun f hf=>absurd hf List.not_mem_nil) (by decide) (by decide) (zW _ _) (zW _ _) (zW _ _) (zW _ _) ⟨by decide,by decide,by decide,by decide⟩)) ?_;clear hA hH;rintro _ w (⟨_,rfl,hH⟩| ⟨hno,_⟩) a hA)
  rotate_left
  · exact absurd hno may0N
  repeat' (first|(refine QT ?_;clear hA a;intro a hA)|(refine BT ?_;clear hA hH;rintro _ w ⟨bN,rfl,hH⟩ a hA)|(refine SAT (yN gs0) hA hH ?_;clear hH;intro w hH)|refine CT ?_|fail)
  obtain ⟨b7,hb3⟩:∃x,x=bN:=⟨_,rfl⟩;rw [←hb3] at hA hH;clear hb3 bN
  repeat' (first|(refine XT ?_;apply XE;(first|(apply zG (vs:=yN g);rfl;rfl;exact aZ c2));clear hA a;intro a hA)|(refine QT ?_;clear hA a;intro a hA)|fail)
  (refine zH hA rfl rfl (by decide) (zA rfl rfl rfl (May_spec _ g (hRg.keep hH.kp) hfl hbs)) ?_;clear hA;rintro _ w ⟨b,rfl,hk,hb⟩ a hA;replace hH:=hH.keep hk;clear hk)
  obtain rfl:b=true:=hb.2 hMg
  repeat' (first|(refine GT ?_ ?_<;>intro hg<;>clear hA a<;>intro a hA<;>(first|exact FA|replace hg:=dTr hg|replace hg:=dFa hg|skip))|(refine XT ?_;apply XE;(first|(apply zI (cs:=(yN gr0s).toArray);rfl;exact FLT;rfl));clear hA a;intro a hA)|(refine QT ?_;clear hA a;intro a hA)|fail)
  (refine zH hA rfl rfl (by decide) (zA rfl rfl rfl (May_spec _ gr0s (gr0s_rd _) (by decide) (fun f hf=>absurd hf (List.not_mem_nil)))) ?_;clear hA;rintro _ w ⟨b,rfl,hk,hb0⟩ a hA;replace hH:=hH.keep hk;clear hk)
  obtain rfl:b=false:=by
    cases b with
    |false=>rfl
    |true=>exact absurd (hb0.1 rfl) (may0 rfl)
  repeat' (first|(refine GT ?_ ?_<;>intro hg<;>clear hA a<;>intro a hA<;>(first|exact FA|replace hg:=dTr hg|replace hg:=dFa hg|skip))|(refine XT ?_;apply XE;(first|(apply zG (vs:=xD 1 empS ⟨#[56]⟩);rfl;rfl;exact aZ c3)|(apply zG (vs:=yN h);rfl;rfl;exact zR MEMT)|(apply zI (cs:=(xD 1 empS ⟨#[56]⟩).toArray);rfl;exact FLT;rfl)|(apply ex_eqlOs (p:=(1,empS,⟨#[56]⟩));rfl;rfl));clear hA a;intro a hA)|(refine QT ?_;clear hA a;intro a hA)|fail)
  have hxh:∀s∈h.xs.l,s.size≤4611686018427387904:=by rw [hsame.xs];exact hxs
  have hfh:h.fs.l.length≤100000:=by
    have:=congrArg List.length hfs
    rw [List.length_map,List.length_map] at this
    rw [this];exact (by decide:1≤100000)
  have hbh:∀f∈h.fs.l,f.bs.l.length≤1048576∧∀bl∈f.bs.l,bl.e.to.l.length≤1048576:=fun f hf=>by
    have h1:=hmay.size
    unfold jD at h1
    have h2:=sum_le (f:=grN) hf
    exact gZ (by omega)
  have hn5:=b5_runN oA hm5
  have hr5:bB h 2 ⟨#[]⟩ 9=(1,empS,⟨#[53]⟩):=(kT (by show 0≤9223372036854775807;decide) hm5 hmay hz5 hsame hfs (by show (eP _ _ 2 empS 9).1≠2;rw [hn5];decide)).trans hn5
  (refine zH hA rfl rfl (by decide) (zA rfl rfl rfl (Run_spec _ h 2 ⟨#[]⟩ 9 (hK _ (hH.frz (by exact MEMT))) hfh hbh hxh (by decide) (hFI1.keep hH.kp))) ?_;clear hA;rintro _ w ⟨rfl,hk⟩ a hA;replace hH:=hH.keep hk;clear hk)
  rw [hr5] at hA
  repeat' (first|(refine GT ?_ ?_<;>intro hg<;>clear hA a<;>intro a hA<;>(first|exact FA|replace hg:=dTr hg|replace hg:=dFa hg|skip))|(refine XT ?_;apply XE;(first|(apply ex_eqlSs (m:=⟨#[53]⟩);rfl;rfl)|(apply ex_field (v:=.string ⟨#[53]⟩);rfl;rfl;exact pk_9;rfl));clear hA a;intro a hA)|(refine QT ?_;clear hA a;intro a hA)|refine CT ?_|fail)
  exact rt1 (.inl rfl) rfl hA rfl ⟨rfl,(((HS.init w0 noM).keep hkp0).keep hH.kp).kp⟩
end
section
attribute [local irreducible] Code.wp wpList Calls Ex Op1 sat bat blk cb own Go.Fw.mp Go.Fw.mpO Go.Fw.mpI Go.Fw.mpE Go.Fw.itr HS Rd Ret wkD Hp Cl Cls Exit.then Exit.inBlock Exit.noGoto bodyPost Go.Fw.flat wk2 Go.Fw.all Go.Fw.owns wpOp
attribute [local irreducible] sk mpK sko mvO xI opM Go.Fw.mset Go.Fw.mv opK

theorem means_law (W:World) (oF:Option Addr) (cF:Nat) (fl:List FN) (g:Grs) (kd fuel:Int) (s:ByteArray) (hp:PrB W oF cF fl g) (hFI:FI W):Ret Tryz.prog 9 #[.agg (xA oF fl.length cF g).toArray,.int .i64 kd,.string s,.int .i64 fuel] W (LawR W):=by
  have hH:HS W noM [] W:=HS.init W noM
  (refine ENT (N:=45) Tryz.func9 Tryz.ntmps9 ?_;intro a hA)
  repeat' (first|(refine QT ?_;clear hA a;intro a hA)|(refine BT ?_;clear hA hH;rintro _ w ⟨bN,rfl,hH⟩ a hA)|refine CT ?_|fail)
  obtain ⟨b4,hb3⟩:∃x,x=bN:=⟨_,rfl⟩;rw [←hb3] at hA hH;clear hb3 bN
  (refine zH hA rfl rfl (by decide) (zA rfl rfl rfl (awakeM_spec _ (hFI.keep hH.kp))) ?_;clear hA;rintro _ w ⟨rfl,hk⟩ a hA;replace hH:=hH.keep hk;clear hk)
  repeat' (first|(refine XT ?_;apply XE;(first|(apply zG (vs:=xA oF fl.length cF g);rfl;rfl;exact zR MEMT));clear hA a;intro a hA)|(refine QT ?_;clear hA a;intro a hA)|refine CT ?_|fail)
  have hpk:∀w,Kp W noM w→PrB w oF cF fl g:=fun w hk=>⟨((HS.init W noM).keep hk).rd hp.fs id,fun f hf=>(hp.rd f hf).keep hk,hp.len,hp.ls.keep hk,hp.ts.keep hk,hp.xs.keep hk,hp.ss.keep hk,hp.l4,hp.xz⟩
  (refine zH hA rfl rfl (by decide) (zA rfl rfl rfl (wide_spec _ oF cF fl g (hpk _ hH.kp))) ?_;clear hA;rintro _ w ⟨b,rfl,hb,hk⟩ a hA;replace hH:=hH.keep hk;clear hk)
  cases b with
  | true=>
    repeat' (first|(refine QT ?_;clear hA a;intro a hA)|refine CT ?_|fail)
    exact rt1 (.inl rfl) rfl hA rfl ⟨rfl,hH.kp⟩
  |false=>
  have hnw:¬WideP fl:=fun h=>Bool.noConfusion (hb.2 h)
  have h50:fl.length≤50:=by
    exact Nat.not_lt.1 fun h=>hnw (.inl h)
  have h1000:vN fl 1000 0<1000:=by
    exact Int.not_le.1 fun h=>hnw (.inr h)
  repeat' (first|(refine XT ?_;apply XE;(first|(apply zG (vs:=xA oF fl.length cF g);rfl;rfl;exact zR MEMT));clear hA a;intro a hA)|(refine QT ?_;clear hA a;intro a hA)|refine CT ?_|fail)
  (refine zH hA rfl rfl (by decide) (zA rfl rfl rfl (gN W _ _ hH oF cF fl g hp.fs hp.rd h50 h1000 hp.ls hp.ts hp.xs hp.ss hp.l4)) ?_;clear hA hH;rintro _ w (⟨hno,rfl,hH⟩| ⟨hyes,G,K,rfl,hmay,hsame,hfs,hH,hK⟩) a hA)
  · repeat' (first|(refine XT ?_;apply XE;(first|(apply zG (vs:=xA oF fl.length cF g);rfl;rfl;exact zR MEMT));clear hA a;intro a hA)|(refine QT ?_;clear hA a;intro a hA)|(refine BT ?_;clear hA hH;rintro _ w ⟨bN,rfl,hH⟩ a hA)|(refine SAT (yN gs0) hA hH ?_;clear hH;intro w hH)|refine CT ?_|fail)
    have hpw2:=hpk _ hH.kp
    (refine zH hA rfl rfl (by decide) (zA rfl rfl rfl (qU _ oF cF fl g hpw2.fs hpw2.rd hpw2.len hpw2.ls hpw2.ts hpw2.xs hpw2.ss)) ?_;clear hA;rintro _ w ⟨b,rfl,hb2,hk⟩ a hA;replace hH:=hH.keep hk;clear hk)
    obtain rfl:b=false:=by
      cases b with
      |false=>rfl
      |true=>exact absurd (hb2.1 rfl) hno
    repeat' (first|(refine QT ?_;clear hA a;intro a hA)|refine CT ?_|fail)
    exact rt1 (.inl rfl) rfl hA rfl ⟨rfl,hH.kp⟩
  have hlen:G.fs.l.length=fl.length:=by
    have:=congrArg List.length hfs
    rw [List.length_map,List.length_map] at this
    exact this
  have hgr:∀f∈G.fs.l,f.bs.l.length≤1048576∧∀bl∈f.bs.l,bl.e.to.l.length≤1048576:=fun f hf=>by
    have h1:=hmay.size
    unfold jD at h1
    have h2:=sum_le (f:=grN) hf
    exact gZ (by omega)
  have hGx:∀s∈G.xs.l,s.size≤4611686018427387904:=fun s hs=>hp.xz s (by rw [←hsame.xs];exact hs)
  have hsl:g.ss.l.length≤9223372036854775807:=by have:=hp.l4.2.2.2;omega
  repeat' (first|(refine XT ?_;apply XE;(first|(apply zG (vs:=xA oF fl.length cF g);rfl;rfl;exact zR MEMT)|(apply ex_min;rfl;rfl));clear hA a;intro a hA)|(refine QT ?_;clear hA a;intro a hA)|(refine BT ?_;clear hA hH;rintro _ w ⟨bN,rfl,hH⟩ a hA)|(refine SAT (yN G) hA hH ?_;clear hH;intro w hH)|refine CT ?_|fail)
  obtain ⟨fu,hfe⟩:∃x:Int,x=if 3000<fuel then 3000 else fuel:=⟨_,rfl⟩
  rw [←hfe] at hA
  have hfu:fu≤3000:=by rw [hfe];split<;>omega
  have hpw2:=hpk _ hH.kp
  (refine zH hA rfl rfl (by decide) (zA rfl rfl rfl (RunA_spec _ oF cF fl g kd s fu hpw2.fs hpw2.rd hpw2.len hpw2.ls hpw2.ts hpw2.xs hpw2.ss hpw2.xz hfu (hFI.keep hH.kp))) ?_;clear hA;rintro _ w ⟨rfl,hk⟩ a hA;replace hH:=hH.keep hk;clear hk)
  have hme:=kT (kd:=kd) (fuel:=fu) (s:=s) hsl hyes hmay h1000 hsame hfs
  obtain ⟨ra,hra⟩:∃x,x=eP fl g kd s fu:=⟨_,rfl⟩
  rw [←hra] at hA hme
  obtain ⟨b9,hb3⟩:∃x,x=bN:=⟨_,rfl⟩;rw [←hb3] at hA hH;clear hb3 bN
  repeat' (first|(refine QT ?_;clear hA a;intro a hA)|(refine BT ?_;clear hA hH;rintro _ w ⟨bN,rfl,hH⟩ a hA)|(refine SAT (qX ra) hA hH ?_;clear hH;intro w hH)|refine CT ?_|fail)
  obtain ⟨b11,hb3⟩:∃x,x=bN:=⟨_,rfl⟩;rw [←hb3] at hA hH;clear hb3 bN
  by_cases hk2:ra.1=2
  · (refine zQ [(0,1),(1,1),(2,1),(3,1),(4,1),(5,1),(6,1),(7,1),(8,1),(10,1),(9,0),(11,1),(12,1),(13,1)] mixed (by decide +kernel) hH ?_;replace hH:=hH.drew)
    repeat' (first|(refine GT ?_ ?_<;>intro hg<;>clear hA a<;>intro a hA<;>(first|exact FA|replace hg:=dTr hg|replace hg:=dFa hg|skip))|(refine QT ?_;clear hA a;intro a hA)|refine CT ?_|(refine DSK ?_;clear hA a;intro a hA)|fail)
    exact rt1 (.inl rfl) rfl hA rfl ⟨rfl,hH.kp⟩
  · have he:=hme hk2
    (refine zQ [(0,1),(1,1),(2,1),(3,1),(4,1),(5,1),(6,1),(7,1),(8,1),(10,1),(9,0),(11,1),(12,1),(13,1)] mixed (by decide +kernel) hH ?_;replace hH:=hH.drew)
    repeat' (first|(refine GT ?_ ?_<;>intro hg<;>clear hA a<;>intro a hA<;>(first|exact FA|replace hg:=dTr hg|replace hg:=dFa hg|skip))|(refine XT ?_;apply XE;(first|(apply zG (vs:=yN G);rfl;rfl;exact zR MEMT)|(apply zG (vs:=qX ra);rfl;rfl;exact zR MEMT)|(apply ex_min;rfl;rfl));clear hA a;intro a hA)|(refine QT ?_;clear hA a;intro a hA)|fail)
    rw [←hfe] at hA
    (refine yO hA rfl rfl rfl (by decide) (zA rfl rfl rfl (Run_spec _ G kd s fu (hK _ (hH.frz (by exact MEMT))) (by omega) hgr hGx hfu (hFI.keep hH.kp))) ?_;clear hA;rintro _ w ⟨rfl,hk⟩;replace hH:=hH.keep hk;refine ⟨STT,?_⟩;intro a hA;rw [he] at hA)
    repeat' (first|(refine XT ?_;apply XE;(first|(apply ex_eqlOs (p:=ra);rfl;rfl));clear hA a;intro a hA)|(refine QT ?_;clear hA a;intro a hA)|refine CT ?_|fail)
    exact rt1 (.inl rfl) rfl hA rfl ⟨rfl,hH.kp⟩
end
set_option maxRecDepth 100000 in
theorem doorN_met (os:Os) (args:Array Value):laidMetH Tryz.prog Rows.ssaMakesRow.laid ((World.doorLaid Tryz.prog 400 os).forCall (fun _ _=>0) ⟨#[],args,[]⟩).memory:=
  laidMetH_of_parts3 (fuel:=8) (laidMet_of_run' 8 (by kernel_rfl) (by kernel_rfl)) (by kernel_rfl) (by kernel_rfl)
theorem aW (os:Os) (args:Array Value):((World.doorLaid Tryz.prog 400 os).forCall (fun _ _=>0) ⟨#[],args,[]⟩).Shaped Tryz.prog:=World.shaped_of_RefB (by kernel_rfl) (by kernel_rfl)
open Go Go.Fw Go.Sort
theorem gPow:Tryz.prog.globalNamed "internal/strconv.uint64pow10"=some 0:=by kernel_rfl
theorem tPow:(Tryz.prog.globals[0]?).map (·.type)=some 288:=by kernel_rfl
theorem uPow:Tryz.prog.underlying 288=some (.array 20 276):=by kernel_rfl
theorem uU64:Tryz.prog.underlying 276=some (.int .u64):=by kernel_rfl
theorem dPow:(Rows.laid_internal_strconv_uint64pow10:DataW Unit)=Lib.tabData .u64 Lib.pow10Tab:=by kernel_rfl
theorem tab_of_laid {W:World} (h:laidMetH Tryz.prog Rows.ssaFuelUptoRow.laid W):Lib.TabIs Tryz.prog W "internal/strconv.uint64pow10" .u64 Lib.pow10Tab:=by
  rw [MakeChecks.laidMetH_plain _ _ _ (by kernel_rfl)] at h
  obtain ⟨ps,⟨g0,t0,cs0,f0,p0,q0,hg0,ht0,hv0,hd0,⟨g1,t1,cs1,f1,p1,q1,hg1,ht1,hv1,hd1,⟨g2,t2,cs2,f2,p2,q2,hg2,ht2,hv2,hd2,_,_⟩,_⟩,_⟩,_⟩:=h
  obtain rfl:=Option.some.inj (gPow.symm.trans hg2)
  obtain rfl:=Option.some.inj (tPow.symm.trans ht2)
  unfold Lib.TabIs
  rw [dPow] at hd2
  rw [hv2,←Lib.cells_of_tab uPow uU64 (by kernel_rfl) (by kernel_rfl) hd2]
theorem tab_keep {w w':World} {zs:List Int} (h:Lib.TabIs Tryz.prog w "internal/strconv.uint64pow10" .u64 zs) (hk:Kp w noM w'):Lib.TabIs Tryz.prog w' "internal/strconv.uint64pow10" .u64 zs:=by
  unfold Lib.TabIs World.var? at h ⊢
  rw [gPow] at h ⊢
  simp only [Option.bind_some] at h ⊢
  have hlt:0<w.heap.size:=by
    rcases Nat.lt_or_ge 0 w.heap.size with h'|h'
    · exact h'
    · rw [Array.getElem?_eq_none h'] at h;cases h
  rw [hk.block 0 hlt id]
  exact h
theorem Kp.grow (w:World) (k:Nat) (os:Array Obj):Kp w noM (grow (w.drewN k) os):=by
  refine ⟨rfl,rfl,rfl,?_,fun b hb _=>?_⟩
  · show _≤(w.heap++os).size
    rw [Array.size_append]
    omega
  · show (w.heap++os)[b]?=_
    rw [Array.getElem?_append_left hb]
theorem fi_of_tab {W:World} (h:Lib.TabIs Tryz.prog W "internal/strconv.uint64pow10" .u64 Lib.pow10Tab):FI W:=fun w hk n hn=>
  Calls.mono (Tryz.strconv_FormatInt_10 n hn.1 hn.2 w (tab_keep h hk)) fun e w' ⟨he,k,os,hw⟩=>⟨_,he,rfl,hw▸Kp.grow w k os⟩
theorem fi_of_laid {W:World} (h:laidMetH Tryz.prog Rows.ssaFuelUptoRow.laid W):FI W:=fi_of_tab (tab_of_laid h)
end Go.Proofs.YtenlcdokaadobaaGreatDoor
