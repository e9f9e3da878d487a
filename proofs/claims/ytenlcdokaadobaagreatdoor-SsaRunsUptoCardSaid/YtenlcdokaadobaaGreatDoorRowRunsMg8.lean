/-
  ssa.Run. Conditions: none.
  The document's operations. Conditions: none.
  A record's labels (plain): where one stands, a record with one. Conditions: none.
  The document's steps that call nothing. Conditions: none.
-/
import Derived.Test.YtenlcdokaadobaaGreatDoorRowRunsMg7
import Derived.Test.YtenlcdokaadobaaGreatDoorRowRunsMg5
set_option maxHeartbeats 64000000
set_option maxRecDepth 10000
namespace Go.Proofs.YtenlcdokaadobaaGreatDoor
open Go Go.Fw
set_option linter.unusedVariables false
theorem bl_en {l:List Blc} {b:Nat} {bl:Blc} (h:l[b]?=some bl) (i:Nat) (v:Value) (hv:(vJ bl.e)[i]?=some v):(flat zL l)[b*6+2+i]?=some v:=by
  rw [Nat.add_assoc]
  refine yL (off:=2+i) yS h ?_
  match i,hv with
  |0,hv=>exact hv
  |1,hv=>exact hv
  |2,hv=>exact hv
  |3,hv=>exact hv
theorem form_ns {g:Grs} {cs:List Int} {mine:Int} {r:Stp} (h:FormP g cs mine r):r.ns.l.length≤r.a.l.length:=by
  rcases h.ns with h1|h1
  · rw [h1];exact Nat.zero_le _
  · have:=h.want
    unfold vO at this
    rw [h1] at this
    simp at this
    omega
theorem step_ins {g:Grs} {kd:Int} {m:Mc} (h:m.fm.i<(uH g m.fm).is.l.length):tT g kd m=tW g m.fm (xD g m.fm) m.wd m.sk:=by unfold tT;rw [if_pos h]
theorem step_last {g:Grs} {kd:Int} {m:Mc} (h:¬m.fm.i<(uH g m.fm).is.l.length):tT g kd m=vZ g kd m.fm (uH g m.fm).e m.wd m.sk:=by unfold tT;rw [if_neg h]
def cx0 (w0:World) (n p:Nat):Cx:=⟨fun w=>RdB w p [.int .i64 0,.slice none 0 0]∧Kp w0 noM w,[],65536,n⟩
theorem cx0_fn (w0:World) (n p:Nat) (h:0<n):FnR (cx0 w0 n p) 0 [] p:=by
  refine ⟨none,0,[],⟨by decide,by show (0:Int)< _;exact Int.natCast_pos.2 h⟩,fun w hw=>hw.1,fun w hw=>⟨fun h=>absurd h (Nat.lt_irrefl _),fun i v hv=>by cases hv⟩,?_⟩
  rw [RVs]
def zM : Value:=Value.agg #[Value.slice none 0 0,Value.slice none 0 0,Value.int IntKind.i64 0,Value.string ByteArray.empty,
            Value.slice none 0 0,Value.slice none 0 0,Value.slice none 0 0,Value.slice none 0 0,
            Value.slice none 0 0,Value.slice none 0 0,Value.int IntKind.i64 0,Value.slice none 0 0,
            Value.pointer none,Value.map none,Value.pointer none,Value.int IntKind.i64 0,Value.pointer none,
            Value.pointer none]
theorem fill_M (g:Grs) (kd:Int) (s:ByteArray) (fuel:Int) :
    Instr.fill (fun x=>([(0,5),(5,5),(10,1),(11,1),(12,5),(17,1)]:List (Nat × Nat))[x]?) zM.cells [(0,.agg (yA g kd s none 0 0).toArray),(1,.agg (zZ g).toArray),(2,.int .i64 fuel)]=some (yA g kd s none 0 0++uG g fuel).toArray:=by
  simp [Instr.fill,zM,yA,zZ,uG,Value.cells]
section
attribute [local irreducible] Code.wp wpList Calls Ex Op1 sat bat blk cb own Go.Fw.mp Go.Fw.mpO Go.Fw.mpI Go.Fw.mpE Go.Fw.itr HS Rd Ret wkD Hp Cl Cls Exit.then Exit.inBlock Exit.noGoto bodyPost Go.Fw.flat wk2 Go.Fw.all Go.Fw.owns wpOp
attribute [local irreducible] sk mpK sko mvO xM opM Go.Fw.mset Go.Fw.mv opK w63 frz obI RV xC vA xX uQ

theorem Run_spec (w0:World) (g:Grs) (kd:Int) (s:ByteArray) (fuel:Int) (hR:RdGs w0 g) (hl:g.fs.l.length≤100000) (hbs:∀f∈g.fs.l,f.bs.l.length≤1048576∧∀bl∈f.bs.l,bl.e.to.l.length≤1048576) (hxs:∀s∈g.xs.l,s.size≤4611686018427387904) (hfu:fuel≤3000) (hFI:FI w0) :
    Ret Tryz.prog 12 #[.agg (zZ g).toArray,.int .i64 kd,.string s,.int .i64 fuel] w0 (fun v w=>v= .agg (uC (qA g kd s fuel)).toArray∧Kp w0 noM w):=by
  have hH:HS w0 noM [] w0:=HS.init w0 noM
  (refine ENT (N:=119) Tryz.func12 Tryz.ntmps12 ?_;intro a hA)
  repeat' (first|(refine XT ?_;apply XE;(first|(apply zA (vs:=zZ g);rfl;rfl;exact zD MEMT));clear hA a;intro a hA)|(refine QT ?_;clear hA a;intro a hA)|(refine BT ?_;clear hA hH;rintro _ w ⟨bN,rfl,hH⟩ a hA)|refine CT ?_|fail)
  have key:∃b4 b8,HS w0 noM [cb b8 29 (xB 0 empS empS),cb b4 25 (zZ g)] w∧Sl 119 [(10,.agg (zZ g).toArray),(8,.pointer (some (bat b8 0))),(4,.pointer (some (bat b4 0))),(1,.int .i64 kd),(2,.string s),(3,.int .i64 fuel)] a:=⟨_,_,hH,(hA.sub SBT)⟩
  clear hA hH
  obtain ⟨b4,b8,hH,hA⟩:=key
  (refine zJ hA rfl rfl (by decide) (zE rfl rfl rfl (May_spec _ g (hR.keep hH.kp) hl hbs)) ?_;clear hA;rintro _ w ⟨may,rfl,hk,hmay⟩ a hA;replace hH:=hH.keep hk;clear hk)
  cases may with
  | false=>
    have hno:¬MayP g:=fun h=>by cases hmay.2 h
    repeat' (first|(refine XT ?_;apply XE;(first|(apply zK (cs:=(xB 4 empS empS).toArray);rfl;exact FLT;rfl));clear hA a;intro a hA)|(refine QT ?_;clear hA a;intro a hA)|(refine SAT (xB 4 empS empS) hA hH ?_;clear hH;intro w hH)|refine CT ?_|fail)
    exact rH (vs:=xB 4 empS empS) (.inl rfl) rfl hA rfl rfl hH (zD (by exact MEMT)) ⟨by rw [runP_f hno];rfl,hH.kp⟩
  |true=>
  have hM:=hmay.1 rfl
  repeat' (first|(refine XT ?_;apply XE;(first|(apply zA (vs:=zZ g);rfl;rfl;exact zD MEMT)|(apply zK (cs:=(yA g kd s none 0 0).toArray);rfl;exact FLT;rfl));clear hA a;intro a hA)|(refine QT ?_;clear hA a;intro a hA)|refine CT ?_|fail)
  refine sU hA hH rfl rfl (by decide) (yZ (szs:=[(0,5),(5,5),(10,1),(11,1),(12,5),(17,1)]) (cs:=(yA g kd s none 0 0++uG g fuel).toArray) (xS (by (repeat (first|exact SzL.nil|refine SzL.cons ⟨_,rfl,by decide⟩ ?_)))) rfl ?_) ?_
  · exact fill_M g kd s fuel
  clear hA a
  intro a hA
  repeat' (first|(refine QT ?_;clear hA a;intro a hA)|(refine BT ?_;clear hA hH;rintro _ w ⟨bN,rfl,hH⟩ a hA)|refine CT ?_|fail)
  obtain ⟨bM,hb3⟩:∃x,x=bN:=⟨_,rfl⟩;rw [←hb3] at hA hH;clear hb3 bN
  repeat' (first|(refine XT ?_;apply XE;(first|(apply zK (cs:=#[.int .i64 0,.slice none 0 0]);rfl;exact FLT;rfl)|(apply yJ;rfl));clear hA a;intro a hA)|(refine QT ?_;clear hA a;intro a hA)|(refine BT ?_;clear hA hH;rintro _ w ⟨bN,rfl,hH⟩ a hA)|fail)
  obtain ⟨p,hb3⟩:∃x,x=bN:=⟨_,rfl⟩;rw [←hb3] at hA hH;clear hb3 bN
  obtain ⟨c,hc⟩:∃c,c=cx0 w0 g.fs.l.length p:=⟨_,rfl⟩
  have hfl:0<g.fs.l.length:=by have:=hM.anf.pos;rw [List.length_map] at this;exact this
  have hne:=may_ne hM
  have hfn:FnR c 0 [] p:=by rw [hc];exact cx0_fn w0 _ p hfl
  have hnf:c.nf=g.fs.l.length:=by rw [hc];rfl
  have hH1:=((hH.frz_nil (K:=fun w=>Kp w0 noM w) (fun w h=>h)).perm (H':=cb p 90 [.int .i64 0,.slice none 0 0]::frz w0 (fun w=>Kp w0 noM w)::cb bM 86 (yA g kd s none 0 0++uG g fuel)::cb b8 29 (xB 0 empS empS)::cb b4 25 (zZ g)::[]) PMT).frz_cb
  have hKe:c.K=fun w=>RdB w p [.int .i64 0,.slice none 0 0]∧Kp w0 noM w:=by rw [hc];rfl
  rw [←hKe] at hH1
  clear hH
  have hH:=hH1
  clear hH1
  (refine zJ hA rfl rfl (by decide) (zE rfl rfl rfl (aX w0 w [cb b4 25 (zZ g),cb b8 29 (xB 0 empS empS)] c bM p g kd s fuel (hH.perm PMT) hfn hR hnf hne)) ?_;clear hA hH;rintro _ w ⟨bv,mm,hmm,hH⟩ a hA)
  have hst:StR c [] (uI s).wd.st:=⟨by rw [hc];rfl,rfl,fun i e l h=>by cases h⟩
  have hMS:MSt w0 c bM g kd fuel (cb b8 29 (xB 0 empS empS)::cb b4 25 (zZ g)::[]) (uI s) w:=by
    refine ⟨none,0,none,0,p,bv,mm,[],[],none,?_,hfn,hmm,rfl,hst⟩
    exact ((((hH.nil_flat zY 5 1).nil_all).nil_flat yH 83 5).nil_all).perm PMT
  have hok0:RunOk w0 g kd fuel.toNat s c (uI s) fuel:=⟨rfl,first_ok hne hfl,hnf,(fun w hw=>by rw [hKe] at hw;exact hw.2),hfu,(by rw [hc];exact Nat.le_refl _),(by rw [hc];show 65536+_≤_;omega),(by show 0+_≤_;omega),(by show 0+_≤_;omega)⟩
  clear hst hmm hH hfn hc hKe hnf
  have hA2:Sl 119 [(9,.pointer (some (bat bM 0))),(8,.pointer (some (bat b8 0)))] a:=(hA.sub SBT)
  clear hA
  have hss:=hR.2.2.2.2.2.le
  have hsz:=hM.anf.ss
  obtain ⟨HX,hHX⟩:∃HX:List It,HX=cb b8 29 (xB 0 empS empS)::cb b4 25 (zZ g)::[]:=⟨_,rfl⟩
  rw [←hHX] at hMS
  replace hA:=hA2
  clear hA2
  repeat' (first|(refine QT ?_;clear hA a;intro a hA)|refine CT ?_|fail)
  refine zU (S:=Nat) (fun i a w=>(RunG w0 g kd fuel.toNat s bM HX i w∨(i=0∧RunE w0 g kd fuel.toNat s bM HX w))∧Sl 119 [(9,.pointer (some (bat bM 0))),(8,.pointer (some (bat b8 0)))] a) (fun i=>i)
    (fun a w=>RunE w0 g kd fuel.toNat s bM HX w∧Sl 119 [(9,.pointer (some (bat bM 0))),(8,.pointer (some (bat b8 0)))] a) (fuel.toNat+1) ⟨.inl ⟨c,uI s,fuel,⟨rfl,hok0⟩,hMS⟩,(hA.sub SBT)⟩ ?_ ?_
  · clear hA hMS hok0
    rintro i a w ⟨hS,hA⟩
    rcases hS with ⟨c,m,fu,⟨hi,hok⟩,oO,cO,oS,cS,pc,bv,mm,fms,sx,ph,hH,hpc,hmm,hfs,hst⟩| ⟨hi,hE⟩
    rotate_left
    · obtain ⟨k,r,wd,fu,hr,oO,cO,oS,nS,cS,pc,bv,pb,pi,ph,b,hH⟩:=hE
      repeat' (first|(refine QT ?_;clear hA a;intro a hA)|refine CT ?_|fail)
      exact ⟨⟨k,r,wd,fu,hr,oO,cO,oS,nS,cS,pc,bv,pb,pi,ph,b,hH⟩,(hA.sub SBT)⟩
    by_cases h0:fu≤0
    · repeat' (first|(refine QT ?_;clear hA a;intro a hA)|refine CT ?_|(refine DT ?_ ?_<;>intro hc<;>try (exfalso;omega))|fail)
      (refine zJ hA rfl rfl (by decide) (zE rfl rfl rfl (gN hH hpc hmm hfs hst 2 empS)) ?_;clear hA hH;rintro _ w hS a hA)
      repeat' (first|(refine QT ?_;clear hA a;intro a hA)|refine CT ?_|fail)
      refine ⟨0,⟨.inr ⟨rfl,2,empS,m.wd,fu,?_,hS⟩,(hA.sub SBT)⟩,by omega⟩
      rw [hok.run,show fu.toNat=0 by omega];rfl
    have hle:=hR.1.le
    have hcu:=cur_ok hM hok.mc.fm
    have hgR:=hR.2.1 _ hcu.gr
    have hbl:=hcu.bl
    have hbm:=List.mem_of_getElem? hbl
    have hbR:=hgR.2 _ hbm
    have hvI:=bl_is hbl
    have hsizes:=fR (hcu.size hM.size)
    have hspI:Sp (uH g m.fm).is.o (uH g m.fm).is.l.length:=hbR.2.1.1.sp (sz:=5) (zH xY _) (by omega)
    have htop:=hok.top
    have hb1:=hok.b1
    have hb0:=hok.b0
    have hsk:=hok.sk
    have hout:=hok.out
    have hwr:IntKind.i64.wrap (fu - 1)=fu - 1:=wA (by unfold uA;omega)
    have hnext:=fun w h=>run_next (bM:=bM) (H:=HX) (w:=w) hss hM hok (by omega) h
    have hblk:xV g m.fm.c.1 m.fm.b=some (sat (g.fs.l.getD m.fm.c.1.toNat gr0).bs.o (m.fm.b*6)):=rfl
    rw [hblk] at hH
    by_cases hlt:m.fm.i<(uH g m.fm).is.l.length
    · have hx:(uH g m.fm).is.l[m.fm.i]?=some (xD g m.fm):=by unfold xD;rw [List.getD_eq_getElem?_getD,List.getElem?_eq_getElem hlt];rfl
      have hxm:=List.mem_of_getElem? hx
      obtain ⟨hF,hat⟩:=hcu.blk.ins _ _ hx
      repeat' (first|(refine QT ?_;clear hA a;intro a hA)|refine CT ?_|(refine DT ?_ ?_<;>intro hc<;>try (exfalso;omega))|fail)
      (refine zO [(0,1),(1,1),(2,1),(3,1),(4,1),(5,1),(6,1),(7,1),(8,1),(9,1),(10,1),(11,1),(12,1),(13,1),(14,1),(15,1)] mixed (by decide +kernel) hH ?_;replace hH:=hH.drew)
      repeat' (first|(refine XT ?_;apply XE;(first|(apply zF;rfl;exact yG hgR.1.1 id hvI));clear hA a;intro a hA)|(refine QT ?_;clear hA a;intro a hA)|(apply zT hA rfl rfl;apply zG (cs':=yA g kd m.wd.inp oO m.wd.out.length cO++xA g (fu - 1) oS fms.length cS pc bv (some (sat (g.fs.l.getD m.fm.c.1.toNat gr0).bs.o (m.fm.b*6))) m.fm.i ph none);rfl;rfl;rfl;exact hH;(repeat constructor);clear hH;rintro _ w hH)|refine CT ?_|(refine DT ?_ ?_<;>intro hc<;>try (exfalso;omega))|fail)
      rw [←hblk] at hH
      (refine lF 10 [(0,1),(1,1),(2,1),(3,1),(4,1),(5,1),(6,1),(7,1),(8,1),(9,1),(10,1),(11,1),(12,1),(13,1),(14,1),(15,1)] [16] mixed (by decide +kernel) hH ?_;replace hH:=hH.drew)
      rw [hblk] at hH
      repeat' (first|(refine XT ?_;apply XE;(first|(apply zF;rfl;exact yG hgR.1.1 id hvI)|(apply zB;rfl;rfl;omega;exact hspI)|(apply zA (vs:=wV (xD g m.fm));rfl;rfl;exact yP hbR.2.1.1 id (yI xY hx)));clear hA a;intro a hA)|(refine QT ?_;clear hA a;intro a hA)|refine CT ?_|fail)
      rw [←hblk] at hH
      (refine pZ hA rfl rfl rfl (by decide) (zE rfl rfl rfl (ins_spec hH hpc hmm hfs hst (xD g m.fm) hR hok.nf hne hsz hxs (by omega) hok.K (g.fs.l.getD m.fm.c.1.toNat gr0).caps hF (fun a ha=>atS_W hss (hat a ha)) (hbR.2.2.1 _ hxm) (by have:=hsizes.2.2.1 _ hxm;omega) (by have:=form_ns hF;have:=hsizes.2.2.1 _ hxm;omega) (by omega) (by omega) (by omega))) ?_;clear hA hH;rintro _ w hS a hA)
      rw [←step_ins (kd:=kd) hlt] at hS
      repeat' (first|(refine QT ?_;clear hA a;intro a hA)|refine CT ?_|fail)
      rcases hnext _ hS with h|h
      · exact ⟨fu.toNat,⟨.inl h,(hA.sub SBT)⟩,by omega⟩
      · exact ⟨0,⟨.inr ⟨rfl,h⟩,(hA.sub SBT)⟩,by omega⟩
    · repeat' (first|(refine QT ?_;clear hA a;intro a hA)|refine CT ?_|(refine DT ?_ ?_<;>intro hc<;>try (exfalso;omega))|fail)
      (refine zO [(0,1),(1,1),(2,1),(3,1),(4,1),(5,1),(6,1),(7,1),(8,1),(9,1),(10,1),(11,1),(12,1),(13,1),(14,1),(15,1)] mixed (by decide +kernel) hH ?_;replace hH:=hH.drew)
      repeat' (first|(refine XT ?_;apply XE;(first|(apply zF;rfl;exact yG hgR.1.1 id hvI)|(apply zA (vs:=vJ (uH g m.fm).e);rfl;rfl;exact yP hgR.1.1 id (bl_en hbl)));clear hA a;intro a hA)|(refine QT ?_;clear hA a;intro a hA)|(apply zT hA rfl rfl;apply zG (cs':=yA g kd m.wd.inp oO m.wd.out.length cO++xA g (fu - 1) oS fms.length cS pc bv (some (sat (g.fs.l.getD m.fm.c.1.toNat gr0).bs.o (m.fm.b*6))) m.fm.i ph none);rfl;rfl;rfl;exact hH;(repeat constructor);clear hH;rintro _ w hH)|refine CT ?_|(refine DT ?_ ?_<;>intro hc<;>try (exfalso;omega))|fail)
      rw [←hblk] at hH
      have hto:∀t∈(uH g m.fm).e.to.l,EdgOk g w0 m.fm t:=fun t ht=>by
        obtain ⟨e1,e2,e3,e4⟩:=hcu.edge hss ht
        have e5:=hsizes.2.2.2.2.2 t ht
        exact ⟨e1,e2,e3,e4,by omega⟩
      (refine zJ hA rfl rfl (by decide) (zE rfl rfl rfl (last_spec hH hpc hmm hfs hst (uH g m.fm).e hR hok.nf hne hsz hxs (by omega) hcu.blk.end_ hbR.2.2.2 (fun a ha=>atS_W hss (hcu.blk.ends a ha)) hto hFI (by have:=hsizes.2.2.2.2.1;omega) hok.mc.sk)) ?_;clear hA hH;rintro _ w hS a hA)
      rw [←step_last (kd:=kd) hlt] at hS
      repeat' (first|(refine QT ?_;clear hA a;intro a hA)|refine CT ?_|fail)
      rcases hnext _ hS with h|h
      · exact ⟨fu.toNat,⟨.inl h,(hA.sub SBT)⟩,by omega⟩
      · exact ⟨0,⟨.inr ⟨rfl,h⟩,(hA.sub SBT)⟩,by omega⟩
  clear hA hMS hok0
  rintro a w ⟨⟨k,r,wd,fu,hr,oO,cO,oS,nS,cS,pc,bv,pb,pi,ph,b,hH⟩,hA⟩
  subst hHX
  repeat' (first|(refine QT ?_;clear hA a;intro a hA)|refine CT ?_|fail)
  (refine zN [(0,1),(1,1),(2,1),(3,1),(4,1),(5,1),(6,1),(7,1),(8,1),(9,1),(10,1),(11,1)] [12] mixed (by decide +kernel) hH ?_;replace hH:=hH.drew)
  repeat' (first|(refine XT ?_;apply XE;(first|(apply uY (l':=wd.out);rfl;rfl;exact fun w h=>h.own_rd (by exact MEMT)));clear hA a;intro a hA)|(refine QT ?_;clear hA a;intro a hA)|(apply yB hA rfl rfl rfl;apply zG (cs':=xB k (ofB wd.out) r);rfl;rfl;rfl;exact hH;(repeat constructor);clear hH;rintro _ w hH)|refine CT ?_|fail)
  repeat' (first|(refine QT ?_;clear hA a;intro a hA)|(refine SAT (xB k (ofB wd.out) r) hA hH ?_;clear hH;intro w hH)|refine CT ?_|fail)
  refine rH (vs:=xB k (ofB wd.out) r) (.inl rfl) rfl hA rfl rfl hH (zD (by exact MEMT)) ⟨?_,hH.kp⟩
  rw [kV hM,hr]
  rfl
end
theorem rU {v:List Value} (h:v.length=5):Cats 5 [.agg v.toArray] v:=by
  have h1:=Cats.cn (cs:=v) Cats.nil
  rw [h,List.append_nil] at h1
  exact h1
theorem kcell {ks:List Int} {i:Nat} (h:i<ks.length):(ks.map (Value.int .i64))[i*1]?=some (.int .i64 (ks.getD i 0)):=by
  rw [Nat.mul_one,List.getElem?_map,List.getD_eq_getElem?_getD,List.getElem?_eq_getElem h];rfl
theorem arity_le {op:Int} {n:Nat} (hl:(n:Int)=wO op):n≤3:=by
  unfold wO at hl
  repeat' split at hl
  all_goals omega
theorem QVs.one5 {c:Dx} {x:Vl} {v:List Value} (h:QV c x v):QVs c [x] v:=by rw [QVs];exact ⟨v,[],(List.append_nil v).symm,h,by rw [QVs]⟩
theorem qC {c:Dx} {x:Vl} {v vs:List Value} {i:Nat} (h:QV c x v) (hc:∀j u,v[j]?=some u→vs[i*5+j]?=some u):vs[i*5+0]?=some (.int .i64 (yW x)):=by
  obtain ⟨n,s,on,ln,cn,ol,ll,cl,rfl⟩:=h.shape
  exact hc 0 _ rfl
theorem rep_snoc (v:List Value) (i:Nat):flat (fun _:Unit=>v) (List.replicate i ())++v=flat (fun _:Unit=>v) (List.replicate (i+1) ()):=by
  rw [List.replicate_succ',vQ]
theorem emp_len {s:ByteArray} (h:(bts s).length=0):eqS s empS=true:=by
  cases he:eqS s empS with
  |true=>rfl
  |false=>have:=eS he;omega
theorem emp_ne {s:ByteArray} (h:¬(bts s).length=0):eqS s empS=false:=by
  cases he:eqS s empS with
  |false=>rfl
  | true=>
    have h1:s.toList=empS.toList:=by unfold eqS at he;exact beq_iff_eq.1 he
    exact absurd (by rw [bts_inj2 h1];rfl) h
section
attribute [local irreducible] Code.wp wpList Calls Ex Op1 sat bat blk cb own Go.Fw.mp Go.Fw.mpO Go.Fw.mpI Go.Fw.mpE Go.Fw.itr HS Rd Ret wkD Hp Cl Cls Exit.then Exit.inBlock Exit.noGoto bodyPost Go.Fw.flat wk2 Go.Fw.all Go.Fw.owns wpOp
attribute [local irreducible] sk mpK sko mvO xM xC frz w63 xX ofB vA QV QVs

-- the result's cell holds $1;$2:how it ended,what is told
theorem rop_spec (w0 w:World) (H:List It) (c:Dx) (g:Grs) (wd:Wd) (bW:Nat) (op:Int) (ol:Option Addr) (cl:Nat) (l:List Vl) (vs:List Value) (hS:WSt w0 c bW g wd H w) (hr:∀w,c.K w→Rd w ol vs) (hq:QVs c l vs) (hop:1≤op∧op≤21) (hl:(l.length:Int)=wO op) (hst:wd.st.length≤100000) (hout:wd.out.length≤100000) (hxs:RdV w0 yQ g.xs) :
    Ret Tryz.prog 138 #[.pointer (some (bat bW 0)),.int .i64 op,.slice ol l.length cl] w (fun v w'=>RsQ w0 c bW g wd H (opF op l wd) v w'):=by
  obtain ⟨oO,cO,oS,cS,sds,hH,hQ⟩:=hS
  have hlen:=fC hop hl
  have hl3:=arity_le hl
  have hspL:Sp ol l.length:=(hr w (hH.frz MEMT)).sp (sz:=5) hq.len (by omega)
  (refine ENT (N:=323) Tryz.func138 Tryz.ntmps138 ?_;intro a hA)
  repeat' (first|(refine QT ?_;clear hA a;intro a hA)|(refine BT ?_;clear hA hH;rintro _ w ⟨bN,rfl,hH⟩ a hA)|refine CT ?_|fail)
  obtain ⟨b6,hb6⟩:∃x,x=bN:=⟨_,rfl⟩
  subst hb6
  (refine zJ hA rfl rfl (by decide) (zE rfl rfl rfl (Kinds_spec _ op)) ?_;clear hA;rintro _ w ⟨oK,rfl,hj⟩ a hA;replace hH:=hH.join hj;clear hj)
  obtain ⟨ks,hks⟩:∃x,x=uM op:=⟨_,rfl⟩
  rw [←hks] at hA hH hlen
  repeat' (first|(refine QT ?_;clear hA a;intro a hA)|refine CT ?_|fail)
  refine zU (S:=Nat) (fun i a w=>(i≤ks.length∧∀k,k<i→ks.getD k 0≠0→yW (zS l k)=ks.getD k 0)∧HS w0 noM (own 3 1 oK ks.length ks.length (ks.map (Value.int .i64))::cb b6 103 qz::cb bW 98 (xE g wd.inp oO wd.out.length cO oS wd.st.length cS)::own 5 1 oO wd.out.length cO (flat zY wd.out)::own 101 1 oS wd.st.length cS (flat Fw.encS sds)::frz w0 c.K::H) w∧Sl 323 [(9,.int .i64 i),(8,.slice oK ks.length ks.length),(6,.pointer (some (bat b6 0))),(7,.int .i64 0),(0,.pointer (some (bat bW 0))),(1,.int .i64 op),(2,.slice ol l.length cl)] a) (fun i=>ks.length - i)
    (fun a w=>(∀k,k<ks.length→ks.getD k 0≠0→yW (zS l k)=ks.getD k 0)∧HS w0 noM (cb bW 98 (xE g wd.inp oO wd.out.length cO oS wd.st.length cS)::own 5 1 oO wd.out.length cO (flat zY wd.out)::own 101 1 oS wd.st.length cS (flat Fw.encS sds)::frz w0 c.K::cb b6 103 qz::H) w∧Sl 323 [(6,.pointer (some (bat b6 0))),(7,.int .i64 0),(0,.pointer (some (bat bW 0))),(1,.int .i64 op),(2,.slice ol l.length cl)] a) 0 ⟨⟨Nat.zero_le _,fun k h=>absurd h (Nat.not_lt_zero _)⟩,hH,(hA.sub SBT)⟩ ?_ ?_
  · clear hA hH
    rintro i a w ⟨⟨hi,hks2⟩,hH,hA⟩
    by_cases hlt:i<ks.length
    rotate_left
    · obtain rfl:i=ks.length:=by omega
      repeat' (first|(refine QT ?_;clear hA a;intro a hA)|refine CT ?_|(refine DT ?_ ?_<;>intro hc<;>try (exfalso;omega))|fail)
      exact ⟨hks2,hH.tail.perm PMT,(hA.sub SBT)⟩
    have hspK:=hH.own_sp (T:=3) (o:=oK) (.head _)
    have hv:=kcell hlt
    obtain ⟨v,hqv,hcv⟩:=hq.nth (i:=i) (by omega)
    have hvk:=qC hqv hcv
    repeat' (first|(refine QT ?_;clear hA a;intro a hA)|refine CT ?_|(refine DT ?_ ?_<;>intro hc<;>try (exfalso;omega))|fail)
    (refine zO [(0,1),(1,1),(2,1),(3,1),(4,1),(5,1),(6,1),(7,1),(8,1),(9,1),(10,1),(11,1),(12,1),(13,1),(14,1),(15,1),(16,1)] mixed (by decide +kernel) hH ?_;replace hH:=hH.drew)
    by_cases hz:ks.getD i 0=0
    · repeat' (first|(refine GT ?_ ?_<;>intro hg<;>clear hA a<;>intro a hA<;>(first|exact FA|replace hg:=dTr hg|replace hg:=dFa hg|skip))|(refine XT ?_;apply XE;(first|(apply zB;rfl;rfl;omega;exact hspK)|(apply zF;rfl;apply xJ (T:=3);exact MEMT;exact hv));clear hA a;intro a hA)|(refine QT ?_;clear hA a;intro a hA)|refine CT ?_|fail)
      exact ⟨i+1,⟨⟨hlt,wH (p:=fun k=>ks.getD k 0≠0→yW (zS l k)=ks.getD k 0) hks2 (fun h=>absurd hz h)⟩,hH,(hA.sub SBT)⟩,by omega⟩
    · repeat' (first|(refine GT ?_ ?_<;>intro hg<;>clear hA a<;>intro a hA<;>(first|exact FA|replace hg:=dTr hg|replace hg:=dFa hg|skip))|(refine XT ?_;apply XE;(first|(apply zB;rfl;rfl;omega;first|exact hspK|exact hspL)|(apply zF;rfl;apply xJ (T:=3);exact MEMT;exact hv)|(apply zF;rfl;exact zP MEMT hr (hvk))|(apply zK (cs:=qz.toArray);rfl;exact FLT;rfl));clear hA a;intro a hA)|(refine QT ?_;clear hA a;intro a hA)|(refine SAT (qz) hA hH ?_;clear hH;intro w hH)|refine CT ?_|(refine DT ?_ ?_<;>intro hc<;>try (exfalso;omega))|fail)
      · have hbad:=op_bad hop hl (wd:=wd) (k:=i) (hks▸hlt) (hks▸hz) (by rw [←hks];assumption)
        exact wB (vs:=qz) (.inl rfl) rfl hA rfl rfl rfl hH (zD MEMT) (RsQ.stk hbad rfl (WSt.drop1 (WSt.drop1 ⟨oO,cO,oS,cS,sds,hH.perm PMT,hQ⟩)))
      · exact ⟨i+1,⟨⟨hlt,wH (p:=fun k=>ks.getD k 0≠0→yW (zS l k)=ks.getD k 0) hks2 (fun _=>Decidable.not_not.1 (by assumption))⟩,hH,(hA.sub SBT)⟩,by omega⟩
  clear hA hH
  rintro a w ⟨hks2,hH,hA⟩
  have hK:∀k z,(uM op)[k]?=some z→z≠0→yW (zS l k)=z:=fun k z hz h0=>by
    have h1:=hks2 k (by rw [hks];exact (List.getElem?_eq_some_iff.1 hz).1)
    rw [hks,List.getD_eq_getElem?_getD,hz] at h1
    exact h1 h0
  rw [hks] at hlen
  clear hks2 hks ks
  have hQ0:=hQ
  rcases (show op=10∨op=11∨op=12∨op=13∨op=14∨op=15∨op=16∨op=17∨op=18∨op=19∨op=20∨op=21∨(op<10∨21<op) by omega) with rfl|rfl|rfl|rfl|rfl|rfl|rfl|rfl|rfl|rfl|rfl|rfl|hnum
  · replace hlen:1=l.length:=hlen
    obtain ⟨v0,hq0,hc0⟩:=hq.nth (i:=0) (by omega)
    repeat' (first|(refine XT ?_;apply XE;(first|(apply zC;rfl;rfl;decide;omega;exact hspL)|(apply zA (vs:=v0);rfl;exact hq0.len;exact yF MEMT hr (fun i v h=>hc0 i v h)));clear hA a;intro a hA)|(refine QT ?_;clear hA a;intro a hA)|(apply zJ hA rfl rfl (by decide);apply zQ (xs:=v0) (vs:=[.agg (v0).toArray]);rfl;rfl;exact rU hq0.len;rfl;rfl;rfl;exact hH;clear hA hH;rintro _ w ⟨oN,rfl,hH⟩ a hA)|refine CT ?_|fail)
    have hS2:=WSt.add hH hQ
    (refine zJ hA rfl rfl (by decide) (zE rfl rfl rfl (lK w0 w _ (c.add oN v0) g wd bW true 6 oN 1 [zS l 0] v0 hS2 (by omega) (show 1≤256 by decide) (fun _=>rfl) (fun w h=>h.1) ((QVs.one5 hq0).le (c.add_le oN v0)))) ?_;clear hA hH;rintro _ w ⟨rfl,hS3⟩ a hA)
    obtain ⟨oO,cO,oS,cS,sds,hH,hQ⟩:=hS3
    repeat' (first|(refine QT ?_;clear hA a;intro a hA)|(refine SAT (qk 6 wd.st.length) hA hH ?_;clear hH;intro w hH)|refine CT ?_|fail)
    exact wB (vs:=qk 6 wd.st.length) (.inl rfl) rfl hA rfl rfl rfl hH (zD MEMT) (RsQ.val (op_10 rfl) (d:={c.add oN v0 with ad:=c.ad++[true]}) ⟨fun w h=>h.2,⟨[true],rfl⟩,Nat.le_refl _,rfl⟩ (Nat.le_succ _) rfl (QV_cl hQ0.ad) (WSt.drop1 ⟨oO,cO,oS,cS,sds,hH,hQ⟩))
  · replace hlen:1=l.length:=hlen
    obtain ⟨p,hp⟩:=k_cl (hK 0 6 rfl (by decide))
    obtain ⟨v0,hq0,hc0⟩:=hq.nth (i:=0) (by omega)
    rw [hp,QV] at hq0
    obtain ⟨rfl,had⟩:=hq0
    have hc01:=hc0 1 _ rfl
    obtain ⟨row,oR,nR,rvs,hst1,hgd,hsd,h256,hone,hrd,hqr⟩:=hQ.at had
    have hl1:=hone rfl
    obtain ⟨v1,hq1,hc1⟩:=hqr.nth (i:=0) (by omega)
    have hp1:p<wd.st.length:=by rw [←hQ.ad];exact (List.getElem?_eq_some_iff.1 had).1
    have hspS:=hH.own_sp (T:=101) (o:=oS) (by exact MEMT)
    have hspR:Sp oR row.length:=(hrd w (hH.frz (K:=c.K) (by exact MEMT))).sp (sz:=5) hqr.len (by omega)
    have hsv:=rB hsd
    repeat' (first|(refine QT ?_;clear hA a;intro a hA)|refine CT ?_|fail)
    (refine zN [(0,1),(1,1),(2,1),(3,1),(4,1),(5,1),(6,1),(7,1),(8,1),(9,1),(10,1),(11,1)] [12,13] mixed (by decide +kernel) hH ?_;replace hH:=hH.drew)
    repeat' (first|(refine XT ?_;apply XE;(first|(apply zC;rfl;rfl;decide;omega;exact hspL)|(apply zF;rfl;exact zP MEMT hr (hc01))|(apply zB;rfl;rfl;omega;exact hspS)|(apply zF;rfl;apply xJ (T:=101);exact MEMT;exact hsv)|(apply zC;rfl;rfl;decide;omega;exact hspR)|(apply zA (vs:=v1);rfl;exact hq1.len;exact yF MEMT hrd (fun i v h=>hc1 i v h)));clear hA a;intro a hA)|(refine QT ?_;clear hA a;intro a hA)|(apply yB hA rfl rfl rfl;apply zI (vs:=v1);rfl;rfl;exact hH;(repeat constructor);exact hq1.len;rfl;exact hq1.one;clear hH;rintro _ w hH)|refine CT ?_|fail)
    exact wB (vs:=v1) (sz:=5) (.inl rfl) rfl hA rfl rfl hq1.len hH (zD MEMT) (RsQ.same (by rw [op_11 rfl,hp];show Rs.val (zS (wd.st.getD p []) 0) wd=_;rw [hgd]) rfl hq1 (WSt.drop1 ⟨oO,cO,oS,cS,sds,hH,hQ⟩))
  · replace hlen:2=l.length:=hlen
    obtain ⟨p,hp⟩:=k_cl (hK 0 6 rfl (by decide))
    obtain ⟨v0,hq0,hc0⟩:=hq.nth (i:=0) (by omega)
    rw [hp,QV] at hq0
    obtain ⟨rfl,had⟩:=hq0
    have hc01:=hc0 1 _ rfl
    obtain ⟨row,oR,nR,rvs,hst1,hgd,hsd,h256,hone,hrd,hqr⟩:=hQ.at had
    obtain ⟨v1,hq1,hc1⟩:=hq.nth (i:=1) (by omega)
    have hp1:p<wd.st.length:=by rw [←hQ.ad];exact (List.getElem?_eq_some_iff.1 had).1
    have hspS:=hH.own_sp (T:=101) (o:=oS) (by exact MEMT)
    have hspR:Sp oR row.length:=(hrd w (hH.frz (K:=c.K) (by exact MEMT))).sp (sz:=5) hqr.len (by omega)
    have hsv:=rB hsd
    repeat' (first|(refine QT ?_;clear hA a;intro a hA)|refine CT ?_|fail)
    (refine zN [(0,1),(1,1),(2,1),(3,1),(4,1),(5,1),(6,1),(7,1),(8,1),(9,1),(10,1),(11,0),(12,1)] [13] mixed (by decide +kernel) hH ?_;replace hH:=hH.drew)
    repeat' (first|(refine XT ?_;apply XE;(first|(apply zC;rfl;rfl;decide;omega;exact hspL)|(apply zF;rfl;exact zP MEMT hr (hc01))|(apply zA (vs:=v1);rfl;exact hq1.len;exact yF MEMT hr (fun i v h=>hc1 i v h))|(apply zB;rfl;rfl;omega;exact hspS));clear hA a;intro a hA)|(refine QT ?_;clear hA a;intro a hA)|(apply yC hA rfl rfl rfl (by decide);apply zQ (xs:=v1) (vs:=[.agg v1.toArray]);rfl;rfl;exact rU hq1.len;rfl;rfl;rfl;exact hH;clear hA hH;rintro _ w ⟨oN,rfl,hH⟩;refine ⟨hH.tail,?_⟩;intro a hA)|(apply yB hA rfl rfl rfl;apply op_setS;rfl;rfl;exact hH;(repeat constructor);(rw [hQ.len];omega);clear hH;rintro _ w hH)|(refine zJ hA rfl rfl (by decide) (zE rfl rfl rfl (wJ _ _)) ?_;clear hA;rintro _ w ⟨rfl,hk⟩ a hA;replace hH:=hH.keep hk;clear hk)|refine CT ?_|fail)
    rw [Nat.mul_one] at hH
    repeat' (first|(refine QT ?_;clear hA a;intro a hA)|(refine SAT (qk 1 0) hA hH ?_;clear hH;intro w hH)|refine CT ?_|fail)
    have hQ2:=hQ.set (c.add_le oN v1) rfl had (e:=(oN,1,1)) (l:=[zS l 1]) rfl (show 1≤256 by decide) (fun _=>rfl) (fun w h=>h.1) ((QVs.one5 hq1).le (c.add_le oN v1))
    have hS2:=WSt.put2 (wd:=wd) (st:=wd.st.set p [zS l 1]) hH (by rw [List.length_set]) hQ2
    exact wB (vs:=qk 1 0) (.inl rfl) rfl hA rfl rfl rfl hH (zD MEMT) (RsQ.val (by rw [op_12 rfl,hp]<;>rfl) (c.add_le oN v1) (Nat.le_succ _) rfl (QV_num (by unfold iok;omega)) (WSt.drop1 hS2))
  · replace hlen:2=l.length:=hlen
    obtain ⟨n,hp⟩:=qI (hK 0 1 rfl (by decide))
    obtain ⟨v0,hq0,hc0⟩:=hq.nth (i:=0) (by omega)
    rw [hp,QV] at hq0
    obtain ⟨rfl,hn⟩:=hq0
    have hc01:=hc0 1 _ rfl
    obtain ⟨v1,hq1,hc1⟩:=hq.nth (i:=1) (by omega)
    repeat' (first|(refine GT ?_ ?_<;>intro hg<;>clear hA a<;>intro a hA<;>(first|exact FA|replace hg:=dTr hg|replace hg:=dFa hg|skip))|(refine XT ?_;apply XE;(first|(apply zC;rfl;rfl;decide;omega;exact hspL)|(apply zF;rfl;exact zP MEMT hr (hc01)));clear hA a;intro a hA)|(refine QT ?_;clear hA a;intro a hA)|(refine LT ?_;clear hA hH;rintro _ w ⟨oN,rfl,hH⟩ a hA)|refine CT ?_|(refine DT ?_ ?_<;>intro hc<;>try (exfalso;omega))|fail)
    · (refine zJ hA rfl rfl (by decide) (zE rfl rfl rfl (vG w0 _ _ g wd.inp rX oO oS _ cO _ cS bW hH hxs)) ?_;clear hA hH;rintro _ w ⟨rfl,hH⟩ a hA)
      repeat' (first|(refine QT ?_;clear hA a;intro a hA)|(refine SAT (qk 1 (xC g.xs.l rX)) hA hH ?_;clear hH;intro w hH)|refine CT ?_|fail)
      exact wB (vs:=qk 1 (xC g.xs.l rX)) (.inl rfl) rfl hA rfl rfl rfl hH (zD MEMT) (RsQ.exn (by rw [tF (by decide),arr13 rfl,hp];dsimp only [asNum];rw [if_pos (by omega)]) rfl (WSt.drop1 ⟨oO,cO,oS,cS,sds,hH,hQ⟩))
    · (refine zJ hA rfl rfl (by decide) (zE rfl rfl rfl (vG w0 _ _ g wd.inp rX oO oS _ cO _ cS bW hH hxs)) ?_;clear hA hH;rintro _ w ⟨rfl,hH⟩ a hA)
      repeat' (first|(refine QT ?_;clear hA a;intro a hA)|(refine SAT (qk 1 (xC g.xs.l rX)) hA hH ?_;clear hH;intro w hH)|refine CT ?_|fail)
      exact wB (vs:=qk 1 (xC g.xs.l rX)) (.inl rfl) rfl hA rfl rfl rfl hH (zD MEMT) (RsQ.exn (by rw [tF (by decide),arr13 rfl,hp];dsimp only [asNum];rw [if_pos (by omega)]) rfl (WSt.drop1 ⟨oO,cO,oS,cS,sds,hH,hQ⟩))
    have hop13:opF 13 l wd= .val (.ar wd.st.length) {wd with st:=wd.st++[List.replicate n.toNat (zS l 1)]}:=by
      rw [tF (by decide),arr13 rfl,hp];dsimp only [asNum];rw [if_neg (by omega)]
    obtain ⟨oZ,hoZ⟩:∃x,x=oN:=⟨_,rfl⟩
    subst hoZ
    refine zU (S:=Nat) (fun i a w=>∃oA cA,i≤n.toNat∧HS w0 noM (own 103 5 oA i cA (flat (fun _:Unit=>v1) (List.replicate i ()))::cb bW 98 (xE g wd.inp oO wd.out.length cO oS wd.st.length cS)::own 5 1 oO wd.out.length cO (flat zY wd.out)::own 101 1 oS wd.st.length cS (flat Fw.encS sds)::frz w0 c.K::cb b6 103 qz::H) w∧Sl 323 [(11,.int .i64 i),(10,.slice oA i cA),(6,.pointer (some (bat b6 0))),(0,.pointer (some (bat bW 0))),(2,.slice ol l.length cl)] a) (fun i=>n.toNat - i)
      (fun a w=>∃i oA cA,i=n.toNat∧HS w0 noM (own 103 5 oA i cA (flat (fun _:Unit=>v1) (List.replicate i ()))::cb bW 98 (xE g wd.inp oO wd.out.length cO oS wd.st.length cS)::own 5 1 oO wd.out.length cO (flat zY wd.out)::own 101 1 oS wd.st.length cS (flat Fw.encS sds)::frz w0 c.K::cb b6 103 qz::H) w∧Sl 323 [(10,.slice oA i cA),(6,.pointer (some (bat b6 0))),(0,.pointer (some (bat bW 0)))] a) 0 ⟨oZ,0,Nat.zero_le _,(by rw [List.replicate_zero,flat_nil];exact hH),(hA.sub SBT)⟩ ?_ ?_
    · clear hA hH
      rintro i a w ⟨oA,cA,hi,hH,hA⟩
      by_cases hlt:(i:Int)<n
      rotate_left
      · repeat' (first|(refine XT ?_;apply XE;(first|(apply zC;rfl;rfl;decide;omega;exact hspL)|(apply zF;rfl;exact zP MEMT hr (hc01)));clear hA a;intro a hA)|(refine QT ?_;clear hA a;intro a hA)|refine CT ?_|(refine DT ?_ ?_<;>intro hc<;>try (exfalso;omega))|fail)
        exact ⟨i,oA,cA,by omega,hH,(hA.sub SBT)⟩
      repeat' (first|(refine XT ?_;apply XE;(first|(apply zC;rfl;rfl;decide;omega;exact hspL)|(apply zF;rfl;exact zP MEMT hr (hc01))|(apply zA (vs:=v1);rfl;exact hq1.len;exact yF MEMT hr (fun i v h=>hc1 i v h)));clear hA a;intro a hA)|(refine QT ?_;clear hA a;intro a hA)|(apply zJ hA rfl rfl (by decide);apply zQ (xs:=v1) (vs:=[.agg (v1).toArray]);rfl;rfl;exact rU hq1.len;rfl;rfl;rfl;exact hH;clear hA hH;rintro _ w ⟨oN,rfl,hH⟩ a hA)|refine CT ?_|(refine DT ?_ ?_<;>intro hc<;>try (exfalso;omega))|fail)
      (apply zJ hA rfl rfl (by decide);apply yE;rfl;rfl;exact hH;exact MEMT;exact (hH.own_rd (List.Mem.head _));exact hq1.len;rfl;decide;exact hq1.one;(unfold maxLen;omega);omega;clear hA;rintro _ w ⟨oN,cN,rfl,hH2⟩ a hA;clear hH;have hH:=hH2 _ (by (repeat constructor));clear hH2)
      rw [rep_snoc] at hH
      repeat' (first|(refine QT ?_;clear hA a;intro a hA)|refine CT ?_|fail)
      exact ⟨i+1,⟨oN,cN,by omega,hH.tail,(hA.sub SBT)⟩,by omega⟩
    clear hA hH
    rintro a w ⟨i,oA,cA,hin,hH,hA⟩
    have hlr:(List.replicate n.toNat (zS l 1)).length=i:=by rw [List.length_replicate,hin]
    have hS2:=WSt.add hH hQ
    repeat' (first|(refine QT ?_;clear hA a;intro a hA)|refine CT ?_|fail)
    have hfs:=lK w0 w _ (c.add oA (flat (fun _:Unit=>v1) (List.replicate i ()))) g wd bW false 7 oA cA (List.replicate n.toNat (zS l 1)) _ hS2 (by omega) (by rw [hlr];omega) (fun h=>by cases h) (fun w h=>h.1) (by rw [←hin];exact (QVs.rep hq1 i).le (c.add_le _ _))
    rw [hlr] at hfs
    (refine zJ hA rfl rfl (by decide) (zE rfl rfl rfl (hfs)) ?_;clear hA hH;rintro _ w ⟨rfl,hS3⟩ a hA)
    obtain ⟨oO,cO,oS,cS,sds,hH,hQ⟩:=hS3
    repeat' (first|(refine QT ?_;clear hA a;intro a hA)|(refine SAT (qk 7 wd.st.length) hA hH ?_;clear hH;intro w hH)|refine CT ?_|fail)
    exact wB (vs:=qk 7 wd.st.length) (.inl rfl) rfl hA rfl rfl rfl hH (zD MEMT) (RsQ.val hop13 (d:={c.add oA _ with ad:=c.ad++[false]}) ⟨fun w h=>h.2,⟨[false],rfl⟩,Nat.le_refl _,rfl⟩ (Nat.le_succ _) rfl (QV_ar hQ0.ad) (WSt.drop1 ⟨oO,cO,oS,cS,sds,hH,hQ⟩))
  · replace hlen:2=l.length:=hlen
    obtain ⟨p,hp⟩:=k_ar (hK 0 7 rfl (by decide))
    obtain ⟨n,hp2⟩:=qI (hK 1 1 rfl (by decide))
    obtain ⟨v0,hq0,hc0⟩:=hq.nth (i:=0) (by omega)
    rw [hp,QV] at hq0
    obtain ⟨rfl,had⟩:=hq0
    have hc01:=hc0 1 _ rfl
    obtain ⟨v1,hq1,hc1⟩:=hq.nth (i:=1) (by omega)
    rw [hp2,QV] at hq1
    obtain ⟨rfl,hn⟩:=hq1
    have hc11:=hc1 1 _ rfl
    obtain ⟨row,oR,nR,rvs,hst1,hgd,hsd,h256,hone,hrd,hqr⟩:=hQ.at had
    have hp1:p<wd.st.length:=by rw [←hQ.ad];exact (List.getElem?_eq_some_iff.1 had).1
    have hspS:=hH.own_sp (T:=101) (o:=oS) (by exact MEMT)
    have hspR:Sp oR row.length:=(hrd w (hH.frz (K:=c.K) (by exact MEMT))).sp (sz:=5) hqr.len (by omega)
    have hsv:=rB hsd
    repeat' (first|(refine QT ?_;clear hA a;intro a hA)|refine CT ?_|fail)
    (refine zO [(0,1),(1,1),(2,1),(3,1),(4,1),(5,1),(6,1),(7,1),(8,1),(9,1),(10,1)] mixed (by decide +kernel) hH ?_;replace hH:=hH.drew)
    repeat' (first|(refine GT ?_ ?_<;>intro hg<;>clear hA a<;>intro a hA<;>(first|exact FA|replace hg:=dTr hg|replace hg:=dFa hg|skip))|(refine XT ?_;apply XE;(first|(apply zC;rfl;rfl;decide;omega;exact hspL)|(apply zF;rfl;exact zP MEMT hr (hc01))|(apply zF;rfl;exact zP MEMT hr (hc11))|(apply zB;rfl;rfl;omega;exact hspS)|(apply zF;rfl;apply xJ (T:=101);exact MEMT;exact hsv));clear hA a;intro a hA)|(refine QT ?_;clear hA a;intro a hA)|refine CT ?_|(refine DT ?_ ?_<;>intro hc<;>try (exfalso;omega))|fail)
    · (refine zJ hA rfl rfl (by decide) (zE rfl rfl rfl (vG w0 _ _ g wd.inp uX oO oS _ cO _ cS bW hH hxs)) ?_;clear hA hH;rintro _ w ⟨rfl,hH⟩ a hA)
      repeat' (first|(refine QT ?_;clear hA a;intro a hA)|(refine SAT (qk 1 (xC g.xs.l uX)) hA hH ?_;clear hH;intro w hH)|refine CT ?_|fail)
      exact wB (vs:=qk 1 (xC g.xs.l uX)) (.inl rfl) rfl hA rfl rfl rfl hH (zD MEMT) (RsQ.exn (by rw [tF (by decide),lD (by decide),hp,hp2];dsimp only [asAr,asNum];rw [hgd,if_neg (by decide),if_pos (by omega)]) rfl (WSt.drop1 ⟨oO,cO,oS,cS,sds,hH,hQ⟩))
    · (refine zJ hA rfl rfl (by decide) (zE rfl rfl rfl (vG w0 _ _ g wd.inp uX oO oS _ cO _ cS bW hH hxs)) ?_;clear hA hH;rintro _ w ⟨rfl,hH⟩ a hA)
      repeat' (first|(refine QT ?_;clear hA a;intro a hA)|(refine SAT (qk 1 (xC g.xs.l uX)) hA hH ?_;clear hH;intro w hH)|refine CT ?_|fail)
      exact wB (vs:=qk 1 (xC g.xs.l uX)) (.inl rfl) rfl hA rfl rfl rfl hH (zD MEMT) (RsQ.exn (by rw [tF (by decide),lD (by decide),hp,hp2];dsimp only [asAr,asNum];rw [hgd,if_neg (by decide),if_pos (by omega)]) rfl (WSt.drop1 ⟨oO,cO,oS,cS,sds,hH,hQ⟩))
    obtain ⟨v2,hq2,hc2⟩:=hqr.nth (i:=n.toNat) (by omega)
    repeat' (first|(refine XT ?_;apply XE;(first|(apply zA (vs:=v2);rfl;exact hq2.len;exact yF MEMT hrd (fun i v h=>hc2 i v h)));clear hA a;intro a hA)|(refine QT ?_;clear hA a;intro a hA)|(apply zT hA rfl rfl;apply zI (vs:=v2);rfl;rfl;exact hH;(repeat constructor);exact hq2.len;rfl;exact hq2.one;clear hH;rintro _ w hH)|refine CT ?_|fail)
    exact wB (vs:=v2) (sz:=5) (.inl rfl) rfl hA rfl rfl hq2.len hH (zD MEMT) (RsQ.same (by rw [tF (by decide),lD (by decide),hp,hp2];dsimp only [asAr,asNum];rw [hgd,if_neg (by decide),if_neg (by omega),if_pos rfl]) rfl hq2 (WSt.drop1 ⟨oO,cO,oS,cS,sds,hH,hQ⟩))
  · replace hlen:3=l.length:=hlen
    obtain ⟨p,hp⟩:=k_ar (hK 0 7 rfl (by decide))
    obtain ⟨n,hp2⟩:=qI (hK 1 1 rfl (by decide))
    obtain ⟨v0,hq0,hc0⟩:=hq.nth (i:=0) (by omega)
    rw [hp,QV] at hq0
    obtain ⟨rfl,had⟩:=hq0
    have hc01:=hc0 1 _ rfl
    obtain ⟨v1,hq1,hc1⟩:=hq.nth (i:=1) (by omega)
    rw [hp2,QV] at hq1
    obtain ⟨rfl,hn⟩:=hq1
    have hc11:=hc1 1 _ rfl
    obtain ⟨row,oR,nR,rvs,hst1,hgd,hsd,h256,hone,hrd,hqr⟩:=hQ.at had
    have hp1:p<wd.st.length:=by rw [←hQ.ad];exact (List.getElem?_eq_some_iff.1 had).1
    have hspS:=hH.own_sp (T:=101) (o:=oS) (by exact MEMT)
    have hspR:Sp oR row.length:=(hrd w (hH.frz (K:=c.K) (by exact MEMT))).sp (sz:=5) hqr.len (by omega)
    have hsv:=rB hsd
    obtain ⟨v3,hq3,hc3⟩:=hq.nth (i:=2) (by omega)
    repeat' (first|(refine QT ?_;clear hA a;intro a hA)|refine CT ?_|fail)
    (refine zO [(0,1),(1,1),(2,1),(3,1),(4,1),(5,1),(6,1),(7,1),(8,1),(9,1),(10,1)] mixed (by decide +kernel) hH ?_;replace hH:=hH.drew)
    repeat' (first|(refine GT ?_ ?_<;>intro hg<;>clear hA a<;>intro a hA<;>(first|exact FA|replace hg:=dTr hg|replace hg:=dFa hg|skip))|(refine XT ?_;apply XE;(first|(apply zC;rfl;rfl;decide;omega;exact hspL)|(apply zF;rfl;exact zP MEMT hr (hc01))|(apply zF;rfl;exact zP MEMT hr (hc11))|(apply zB;rfl;rfl;omega;exact hspS)|(apply zF;rfl;apply xJ (T:=101);exact MEMT;exact hsv));clear hA a;intro a hA)|(refine QT ?_;clear hA a;intro a hA)|(refine LT ?_;clear hA hH;rintro _ w ⟨oN,rfl,hH⟩ a hA)|refine CT ?_|(refine DT ?_ ?_<;>intro hc<;>try (exfalso;omega))|fail)
    · (refine zJ hA rfl rfl (by decide) (zE rfl rfl rfl (vG w0 _ _ g wd.inp uX oO oS _ cO _ cS bW hH hxs)) ?_;clear hA hH;rintro _ w ⟨rfl,hH⟩ a hA)
      repeat' (first|(refine QT ?_;clear hA a;intro a hA)|(refine SAT (qk 1 (xC g.xs.l uX)) hA hH ?_;clear hH;intro w hH)|refine CT ?_|fail)
      exact wB (vs:=qk 1 (xC g.xs.l uX)) (.inl rfl) rfl hA rfl rfl rfl hH (zD MEMT) (RsQ.exn (by rw [tF (by decide),lD (by decide),hp,hp2];dsimp only [asAr,asNum];rw [hgd,if_neg (by decide),if_pos (by omega)]) rfl (WSt.drop1 ⟨oO,cO,oS,cS,sds,hH,hQ⟩))
    · (refine zJ hA rfl rfl (by decide) (zE rfl rfl rfl (vG w0 _ _ g wd.inp uX oO oS _ cO _ cS bW hH hxs)) ?_;clear hA hH;rintro _ w ⟨rfl,hH⟩ a hA)
      repeat' (first|(refine QT ?_;clear hA a;intro a hA)|(refine SAT (qk 1 (xC g.xs.l uX)) hA hH ?_;clear hH;intro w hH)|refine CT ?_|fail)
      exact wB (vs:=qk 1 (xC g.xs.l uX)) (.inl rfl) rfl hA rfl rfl rfl hH (zD MEMT) (RsQ.exn (by rw [tF (by decide),lD (by decide),hp,hp2];dsimp only [asAr,asNum];rw [hgd,if_neg (by decide),if_pos (by omega)]) rfl (WSt.drop1 ⟨oO,cO,oS,cS,sds,hH,hQ⟩))
    obtain ⟨v2,hq2,hc2,hset⟩:=hqr.at (i:=n.toNat) (List.getElem?_eq_getElem (by omega))
    have hsetq:=hset _ _ hq3
    have hrl:=hqr.len
    (apply zJ hA rfl rfl (by decide);apply yE;rfl;rfl;exact hH;exact MEMT;exact (hrd w (hH.frz (K:=c.K) (by exact MEMT)));exact hqr.len;rfl;decide;exact hqr.one;(unfold maxLen;omega);omega;clear hA;rintro _ w ⟨oN,cN,rfl,hH2⟩ a hA;clear hH;have hH:=hH2 _ (by (repeat constructor));clear hH2)
    rw [Nat.zero_add,List.nil_append] at hH
    rw [Nat.zero_add] at hA
    obtain ⟨oP,hoP⟩:∃x,x=oN:=⟨_,rfl⟩
    subst hoP
    repeat' (first|(refine QT ?_;clear hA a;intro a hA)|refine CT ?_|fail)
    (refine zN [(0,1),(1,1),(2,1),(3,1),(4,1),(5,1),(6,1),(7,1),(8,1)] [9] mixed (by decide +kernel) hH ?_;replace hH:=hH.drew)
    repeat' (first|(refine XT ?_;apply XE;(first|(apply zC;rfl;rfl;decide;omega;exact hspL)|(apply zF;rfl;exact zP MEMT hr (hc11))|(apply zA (vs:=v3);rfl;exact hq3.len;exact yF MEMT hr (fun i v h=>hc3 i v h))|(apply zC;rfl;rfl;omega;omega;exact hH.own_sp (T:=103) (o:=oP) MEMT));clear hA a;intro a hA)|(refine QT ?_;clear hA a;intro a hA)|(apply yB hA rfl rfl rfl;apply nF (vs:=v3) (sz:=5);rfl;rfl;exact hH;(repeat constructor);exact hq3.len;exact hq3.one;decide;omega;rfl;clear hH;rintro _ w hH)|refine CT ?_|fail)
    (refine zN [(0,1),(1,1),(2,1),(3,1),(4,1),(5,1),(6,1),(7,1),(8,1),(9,1)] [10] mixed (by decide +kernel) hH ?_;replace hH:=hH.drew)
    repeat' (first|(refine XT ?_;apply XE;(first|(apply zC;rfl;rfl;decide;omega;exact hspL)|(apply zF;rfl;exact zP MEMT hr (hc01))|(apply zB;rfl;rfl;omega;exact hspS));clear hA a;intro a hA)|(refine QT ?_;clear hA a;intro a hA)|(apply yB hA rfl rfl rfl;apply op_setS;rfl;rfl;exact hH;(repeat constructor);(rw [hQ.len];omega);clear hH;rintro _ w hH)|(refine zJ hA rfl rfl (by decide) (zE rfl rfl rfl (wJ _ _)) ?_;clear hA;rintro _ w ⟨rfl,hk⟩ a hA;replace hH:=hH.keep hk;clear hk)|refine CT ?_|fail)
    rw [Nat.mul_one] at hH
    repeat' (first|(refine QT ?_;clear hA a;intro a hA)|(refine SAT (qk 1 0) hA hH ?_;clear hH;intro w hH)|refine CT ?_|fail)
    have hQ2:=hQ.set (c.add_le oP (Fw.put rvs (n.toNat*5) v3)) rfl had (e:=(oP,row.length,cN)) (l:=row.set n.toNat (zS l 2)) (by rw [List.length_set]) (by rw [List.length_set];exact h256) (fun h=>by cases h) (fun w h=>h.1) (hsetq.le (c.add_le _ _))
    have hS2:=WSt.put2 (wd:=wd) (st:=wd.st.set p (row.set n.toNat (zS l 2))) hH (by rw [List.length_set]) hQ2
    exact wB (vs:=qk 1 0) (.inl rfl) rfl hA rfl rfl rfl hH (zD MEMT) (RsQ.val (by rw [tF (by decide),lD (by decide),hp,hp2];dsimp only [asAr,asNum];rw [hgd,if_neg (by decide),if_neg (by omega),if_neg (by decide)]) (c.add_le _ _) (Nat.le_succ _) rfl (QV_num (by unfold iok;omega)) (WSt.drop1 hS2))
  · replace hlen:1=l.length:=hlen
    obtain ⟨p,hp⟩:=k_ar (hK 0 7 rfl (by decide))
    obtain ⟨v0,hq0,hc0⟩:=hq.nth (i:=0) (by omega)
    rw [hp,QV] at hq0
    obtain ⟨rfl,had⟩:=hq0
    have hc01:=hc0 1 _ rfl
    obtain ⟨row,oR,nR,rvs,hst1,hgd,hsd,h256,hone,hrd,hqr⟩:=hQ.at had
    have hp1:p<wd.st.length:=by rw [←hQ.ad];exact (List.getElem?_eq_some_iff.1 had).1
    have hspS:=hH.own_sp (T:=101) (o:=oS) (by exact MEMT)
    have hspR:Sp oR row.length:=(hrd w (hH.frz (K:=c.K) (by exact MEMT))).sp (sz:=5) hqr.len (by omega)
    have hsv:=rB hsd
    repeat' (first|(refine QT ?_;clear hA a;intro a hA)|refine CT ?_|fail)
    (refine zN [(0,1),(1,1),(2,1),(3,1),(4,1),(5,1),(6,1),(7,1),(8,1),(9,1),(10,1),(11,0)] [12,13] mixed (by decide +kernel) hH ?_;replace hH:=hH.drew)
    repeat' (first|(refine XT ?_;apply XE;(first|(apply zC;rfl;rfl;decide;omega;exact hspL)|(apply zF;rfl;exact zP MEMT hr (hc01))|(apply zB;rfl;rfl;omega;exact hspS)|(apply zF;rfl;apply xJ (T:=101);exact MEMT;exact hsv));clear hA a;intro a hA)|(refine QT ?_;clear hA a;intro a hA)|fail)
    (refine yC hA rfl rfl rfl (by decide) (zE rfl rfl rfl (wJ _ _)) ?_;clear hA;rintro _ w ⟨rfl,hk⟩;replace hH:=hH.keep hk;clear hk;refine ⟨STT,?_⟩;intro a hA)
    repeat' (first|(refine QT ?_;clear hA a;intro a hA)|(apply yB hA rfl rfl rfl;apply zI (vs:=qk 1 (row.length:Int));rfl;rfl;exact hH;(repeat constructor);(repeat rfl);clear hH;rintro _ w hH)|refine CT ?_|fail)
    exact wB (vs:=qk 1 (row.length:Int)) (.inl rfl) rfl hA rfl rfl rfl hH (zD MEMT) (RsQ.same (by rw [tF (by decide),lD (by decide),hp];dsimp only [asAr];rw [if_pos rfl,hgd]) rfl (QV_num (by unfold iok;omega)) (WSt.drop1 ⟨oO,cO,oS,cS,sds,hH,hQ⟩))
  · replace hlen:1=l.length:=hlen
    obtain ⟨s,hp⟩:=fD (hK 0 2 rfl (by decide))
    obtain ⟨v0,hq0,hc0⟩:=hq.nth (i:=0) (by omega)
    rw [hp,QV] at hq0
    obtain ⟨rfl,hs4⟩:=hq0
    have hc02:=hc0 2 _ rfl
    have hbl:=wI s
    repeat' (first|(refine XT ?_;apply XE;(first|(apply zC;rfl;rfl;decide;omega;exact hspL)|(apply zF;rfl;exact zP MEMT hr (hc02))|(apply xK;rfl));clear hA a;intro a hA)|(refine QT ?_;clear hA a;intro a hA)|(refine zJ hA rfl rfl (by decide) (zE rfl rfl rfl (wJ _ _)) ?_;clear hA;rintro _ w ⟨rfl,hk⟩ a hA;replace hH:=hH.keep hk;clear hk)|refine CT ?_|fail)
    repeat' (first|(refine QT ?_;clear hA a;intro a hA)|(refine SAT (qk 1 ((bts s).length:Int)) hA hH ?_;clear hH;intro w hH)|refine CT ?_|fail)
    exact wB (vs:=qk 1 ((bts s).length:Int)) (.inl rfl) rfl hA rfl rfl rfl hH (zD MEMT) (RsQ.same (by rw [rQ (by decide)];unfold wG;rw [hp];rfl) rfl (QV_num (by unfold iok;omega)) (WSt.drop1 ⟨oO,cO,oS,cS,sds,hH,hQ⟩))
  · replace hlen:2=l.length:=hlen
    obtain ⟨s,hp⟩:=fD (hK 0 2 rfl (by decide))
    obtain ⟨n,hp2⟩:=qI (hK 1 1 rfl (by decide))
    obtain ⟨v0,hq0,hc0⟩:=hq.nth (i:=0) (by omega)
    rw [hp,QV] at hq0
    obtain ⟨rfl,hs4⟩:=hq0
    have hc02:=hc0 2 _ rfl
    have hbl:=wI s
    obtain ⟨v1,hq1,hc1⟩:=hq.nth (i:=1) (by omega)
    rw [hp2,QV] at hq1
    obtain ⟨rfl,hn⟩:=hq1
    have hc11:=hc1 1 _ rfl
    repeat' (first|(refine QT ?_;clear hA a;intro a hA)|refine CT ?_|fail)
    (refine zO [(0,1),(1,1),(2,1),(3,1),(4,1),(5,1),(6,1),(7,1),(8,1),(9,1),(10,1),(11,1),(12,1),(13,1),(14,1),(15,1),(16,1)] mixed (by decide +kernel) hH ?_;replace hH:=hH.drew)
    repeat' (first|(refine GT ?_ ?_<;>intro hg<;>clear hA a<;>intro a hA<;>(first|exact FA|replace hg:=dTr hg|replace hg:=dFa hg|skip))|(refine XT ?_;apply XE;(first|(apply zC;rfl;rfl;decide;omega;exact hspL)|(apply zF;rfl;exact zP MEMT hr (hc02))|(apply zF;rfl;exact zP MEMT hr (hc11))|(apply xK;rfl));clear hA a;intro a hA)|(refine QT ?_;clear hA a;intro a hA)|refine CT ?_|(refine DT ?_ ?_<;>intro hc<;>try (exfalso;omega))|fail)
    · (refine zJ hA rfl rfl (by decide) (zE rfl rfl rfl (vG w0 _ _ g wd.inp uX oO oS _ cO _ cS bW hH hxs)) ?_;clear hA hH;rintro _ w ⟨rfl,hH⟩ a hA)
      repeat' (first|(refine QT ?_;clear hA a;intro a hA)|(refine SAT (qk 1 (xC g.xs.l uX)) hA hH ?_;clear hH;intro w hH)|refine CT ?_|fail)
      exact wB (vs:=qk 1 (xC g.xs.l uX)) (.inl rfl) rfl hA rfl rfl rfl hH (zD MEMT) (RsQ.exn (by rw [rQ (by decide)];unfold wG;rw [hp,hp2];dsimp only [asTxt,asNum];rw [if_neg (by decide),if_neg (by decide),if_pos (by omega)]) rfl (WSt.drop1 ⟨oO,cO,oS,cS,sds,hH,hQ⟩))
    · (refine zJ hA rfl rfl (by decide) (zE rfl rfl rfl (vG w0 _ _ g wd.inp uX oO oS _ cO _ cS bW hH hxs)) ?_;clear hA hH;rintro _ w ⟨rfl,hH⟩ a hA)
      repeat' (first|(refine QT ?_;clear hA a;intro a hA)|(refine SAT (qk 1 (xC g.xs.l uX)) hA hH ?_;clear hH;intro w hH)|refine CT ?_|fail)
      exact wB (vs:=qk 1 (xC g.xs.l uX)) (.inl rfl) rfl hA rfl rfl rfl hH (zD MEMT) (RsQ.exn (by rw [rQ (by decide)];unfold wG;rw [hp,hp2];dsimp only [asTxt,asNum];rw [if_neg (by decide),if_neg (by decide),if_pos (by omega)]) rfl (WSt.drop1 ⟨oO,cO,oS,cS,sds,hH,hQ⟩))
    have hx:=sL (s:=s) (i:=n.toNat) (by omega)
    have hx8:(bts s).getD n.toNat 0<256:=lC s _ (List.mem_of_getElem? hx)
    have hcv:IntKind.i64.wrap (((bts s).getD n.toNat 0:Nat):Int)=(((bts s).getD n.toNat 0:Nat):Int):=wA (by unfold uA;omega)
    (refine zN [(0,1),(1,1),(2,1),(3,1),(4,1),(5,1),(6,1),(7,1),(8,1),(9,1),(10,0)] [11,12] mixed (by decide +kernel) hH ?_;replace hH:=hH.drew)
    repeat' (first|(refine XT ?_;apply XE;(first|(apply zC;rfl;rfl;decide;omega;exact hspL)|(apply zF;rfl;exact zP MEMT hr (hc02))|(apply zF;rfl;exact zP MEMT hr (hc11))|(apply xL (j:=n.toNat);rfl;rfl;omega;exact hx)|(apply wL;rfl;exact hcv));clear hA a;intro a hA)|(refine QT ?_;clear hA a;intro a hA)|fail)
    (refine yC hA rfl rfl rfl (by decide) (zE rfl rfl rfl (wJ _ _)) ?_;clear hA;rintro _ w ⟨rfl,hk⟩;replace hH:=hH.keep hk;clear hk;refine ⟨STT,?_⟩;intro a hA)
    repeat' (first|(refine QT ?_;clear hA a;intro a hA)|(apply yB hA rfl rfl rfl;apply zI (vs:=qk 1 (((bts s).getD n.toNat 0:Nat):Int));rfl;rfl;exact hH;(repeat constructor);(repeat rfl);clear hH;rintro _ w hH)|refine CT ?_|fail)
    exact wB (vs:=qk 1 (((bts s).getD n.toNat 0:Nat):Int)) (.inl rfl) rfl hA rfl rfl rfl hH (zD MEMT) (RsQ.same (by rw [rQ (by decide)];unfold wG;rw [hp,hp2];dsimp only [asTxt,asNum];rw [if_neg (by decide),if_neg (by decide),if_neg (by omega)]) rfl (QV_num (by unfold iok;omega)) (WSt.drop1 ⟨oO,cO,oS,cS,sds,hH,hQ⟩))
  · replace hlen:2=l.length:=hlen
    obtain ⟨s,hp⟩:=fD (hK 0 2 rfl (by decide))
    obtain ⟨u,hp2⟩:=fD (hK 1 2 rfl (by decide))
    obtain ⟨v0,hq0,hc0⟩:=hq.nth (i:=0) (by omega)
    rw [hp,QV] at hq0
    obtain ⟨rfl,hs4⟩:=hq0
    have hc02:=hc0 2 _ rfl
    have hbl:=wI s
    obtain ⟨v1,hq1,hc1⟩:=hq.nth (i:=1) (by omega)
    rw [hp2,QV] at hq1
    obtain ⟨rfl,hu4⟩:=hq1
    have hc12:=hc1 2 _ rfl
    have hbu:=wI u
    repeat' (first|(refine QT ?_;clear hA a;intro a hA)|refine CT ?_|fail)
    (refine zO [(0,1),(1,1),(2,1),(3,1),(4,1),(5,1),(6,1),(7,1),(8,1),(9,1),(10,1),(11,1)] mixed (by decide +kernel) hH ?_;replace hH:=hH.drew)
    repeat' (first|(refine XT ?_;apply XE;(first|(apply zC;rfl;rfl;decide;omega;exact hspL)|(apply zF;rfl;exact zP MEMT hr (hc02))|(apply zF;rfl;exact zP MEMT hr (hc12))|(apply xK;rfl));clear hA a;intro a hA)|(refine QT ?_;clear hA a;intro a hA)|refine CT ?_|(refine DT ?_ ?_<;>intro hc<;>try (exfalso;omega))|fail)
    · (refine zJ hA rfl rfl (by decide) (zE rfl rfl rfl (vG w0 _ _ g wd.inp rX oO oS _ cO _ cS bW hH hxs)) ?_;clear hA hH;rintro _ w ⟨rfl,hH⟩ a hA)
      repeat' (first|(refine QT ?_;clear hA a;intro a hA)|(refine SAT (qk 1 (xC g.xs.l rX)) hA hH ?_;clear hH;intro w hH)|refine CT ?_|fail)
      exact wB (vs:=qk 1 (xC g.xs.l rX)) (.inl rfl) rfl hA rfl rfl rfl hH (zD MEMT) (RsQ.exn (by rw [rQ (by decide)];unfold wG;rw [hp,hp2];dsimp only [asTxt];rw [if_neg (by decide),if_pos rfl,if_pos (by omega)]) rfl (WSt.drop1 ⟨oO,cO,oS,cS,sds,hH,hQ⟩))
    (refine zN [(0,1),(1,1),(2,1),(3,1),(4,1),(5,1),(6,1),(7,1),(8,1),(9,1)] [10,11] mixed (by decide +kernel) hH ?_;replace hH:=hH.drew)
    repeat' (first|(refine XT ?_;apply XE;(first|(apply zC;rfl;rfl;decide;omega;exact hspL)|(apply zF;rfl;exact zP MEMT hr (hc02))|(apply zF;rfl;exact zP MEMT hr (hc12))|(apply sI;rfl;rfl;omega)|(apply zK (cs:=(qt (s++u)).toArray);rfl;exact FLT;rfl));clear hA a;intro a hA)|(refine QT ?_;clear hA a;intro a hA)|(apply yB hA rfl rfl rfl;apply zI (vs:=qt (s++u));rfl;rfl;exact hH;(repeat constructor);(repeat rfl);clear hH;rintro _ w hH)|refine CT ?_|fail)
    exact wB (vs:=qt (s++u)) (.inl rfl) rfl hA rfl rfl rfl hH (zD MEMT) (RsQ.same (by rw [rQ (by decide)];unfold wG;rw [hp,hp2];dsimp only [asTxt];rw [if_neg (by decide),if_pos rfl,if_neg (by omega)]) rfl (QV_txt (by rw [cJ];omega)) (WSt.drop1 ⟨oO,cO,oS,cS,sds,hH,hQ⟩))
  · replace hlen:1=l.length:=hlen
    obtain ⟨n,hp⟩:=qI (hK 0 1 rfl (by decide))
    have hg:opF 20 l wd=(if eqS wd.inp empS=true then .val (.num (-1)) wd else .val (.num ((bts wd.inp).getD 0 0)) {wd with inp:=wd.inp.extract 1 wd.inp.size}):=by
      rw [mL (by decide),hp,if_neg (by omega)];rfl
    repeat' (first|(refine XT ?_;apply XE;(first|(apply xK;rfl));clear hA a;intro a hA)|(refine QT ?_;clear hA a;intro a hA)|refine CT ?_|(refine DT ?_ ?_<;>intro hc<;>try (exfalso;omega))|fail)
    · (refine zJ hA rfl rfl (by decide) (zE rfl rfl rfl (wJ _ _)) ?_;clear hA;rintro _ w ⟨rfl,hk⟩ a hA;replace hH:=hH.keep hk;clear hk)
      repeat' (first|(refine QT ?_;clear hA a;intro a hA)|(refine SAT (qk 1 (-1)) hA hH ?_;clear hH;intro w hH)|refine CT ?_|fail)
      exact wB (vs:=qk 1 (-1)) (.inl rfl) rfl hA rfl rfl rfl hH (zD MEMT) (RsQ.same (by rw [hg,if_pos (emp_len (by omega))]) rfl (QV_num (by unfold iok;omega)) (WSt.drop1 ⟨oO,cO,oS,cS,sds,hH,hQ⟩))
    have hx:=sL (s:=wd.inp) (i:=0) (by omega)
    have hbi:=wI wd.inp
    have hx8:(bts wd.inp).getD 0 0<256:=lC wd.inp _ (List.mem_of_getElem? hx)
    have hcv:IntKind.i64.wrap (((bts wd.inp).getD 0 0:Nat):Int)=(((bts wd.inp).getD 0 0:Nat):Int):=wA (by unfold uA;omega)
    repeat' (first|(refine XT ?_;apply XE;(first|(apply xL (j:=0);rfl;rfl;rfl;exact hx)|(apply wL;rfl;exact hcv)|(apply uN (i:=1);rfl;rfl;rfl;omega));clear hA a;intro a hA)|(refine QT ?_;clear hA a;intro a hA)|(apply zT hA rfl rfl;apply zG (cs':=xE g (wd.inp.extract 1 wd.inp.size) oO wd.out.length cO oS wd.st.length cS);rfl;rfl;rfl;exact hH;(repeat constructor);clear hH;rintro _ w hH)|(refine zJ hA rfl rfl (by decide) (zE rfl rfl rfl (wJ _ _)) ?_;clear hA;rintro _ w ⟨rfl,hk⟩ a hA;replace hH:=hH.keep hk;clear hk)|refine CT ?_|fail)
    repeat' (first|(refine QT ?_;clear hA a;intro a hA)|(apply zT hA rfl rfl;apply zI (vs:=qk 1 (((bts wd.inp).getD 0 0:Nat):Int));rfl;rfl;exact hH;(repeat constructor);(repeat rfl);clear hH;rintro _ w hH)|refine CT ?_|fail)
    exact wB (vs:=qk 1 (((bts wd.inp).getD 0 0:Nat):Int)) (.inl rfl) rfl hA rfl rfl rfl hH (zD MEMT) (RsQ.same (wd':={wd with inp:=wd.inp.extract 1 wd.inp.size}) (by rw [hg,if_neg (by rw [emp_ne (by omega)];decide)]) rfl (QV_num (by unfold iok;omega)) (WSt.drop1 ⟨oO,cO,oS,cS,sds,hH,hQ⟩))
  · replace hlen:1=l.length:=hlen
    obtain ⟨n,hp⟩:=qI (hK 0 1 rfl (by decide))
    obtain ⟨v0,hq0,hc0⟩:=hq.nth (i:=0) (by omega)
    rw [hp,QV] at hq0
    obtain ⟨rfl,hn⟩:=hq0
    have hc01:=hc0 1 _ rfl
    have hg:opF 21 l wd= .val (.num 0) {wd with out:=wd.out++[(IntKind.u8.wrap n).toNat]}:=by
      rw [mL (by decide),hp,if_neg (by omega)];rfl
    have hu8:=u8_nat n
    repeat' (first|(refine QT ?_;clear hA a;intro a hA)|refine CT ?_|fail)
    replace hH:=hH.perm (H':=cb bW 98 (xE g wd.inp oO wd.out.length cO oS wd.st.length cS)::frz w0 c.K::own 5 1 oO wd.out.length cO (flat zY wd.out)::own 101 1 oS wd.st.length cS (flat Fw.encS sds)::cb b6 103 qz::H) PMT
    have hST:HS w0 noM [cb bW 98 (xE g wd.inp oO wd.out.length cO oS wd.st.length cS),frz w0 c.K] w:=HS.left (H1:=[_,_]) hH
    (refine zN (H:=[_,_]) [(0,1),(1,1),(2,1),(3,1),(4,1),(5,1),(6,1),(7,1),(8,1),(9,1),(10,0),(11,0),(12,1),(13,1)] [14] mixed (by decide +kernel) (hST) ?_;replace hH:=hH.drew)
    clear hST
    repeat' (first|(refine XT ?_;apply XE;(first|(apply zC;rfl;rfl;decide;omega;exact hspL)|(apply zF;rfl;exact zP MEMT hr (hc01))|(apply wL;rfl;exact hu8.symm));clear hA a;intro a hA)|(refine QT ?_;clear hA a;intro a hA)|(refine DLT ?_;clear hA hH;rintro _ w ⟨oN,rfl,hH⟩;refine ⟨STT,?_⟩;intro a hA)|fail)
    (apply yC hA rfl rfl rfl (by decide);apply zQ;rfl;rfl;exact CATST;rfl;rfl;rfl;exact hH;clear hA hH;rintro _ w ⟨oN,rfl,hH⟩;refine ⟨HS.left (H1:=[_,_]) hH.tail,?_⟩;intro a hA)
    (apply yC hA rfl rfl rfl (by decide);apply yE;rfl;rfl;exact hH;exact MEMT;exact (hH.own_rd (List.Mem.head _));exact rfl;rfl;decide;exact rfl;(unfold maxLen;omega);omega;clear hA;rintro _ w ⟨oN,cN,rfl,hH2⟩;clear hH;have hH:=hH2 _ (by (repeat constructor));clear hH2;refine ⟨HS.left (H1:=[_,_]) hH.tail,?_⟩;intro a hA)
    rw [eX] at hH
    repeat' (first|(refine QT ?_;clear hA a;intro a hA)|(apply yB hA rfl rfl rfl;apply zG (cs':=xE g wd.inp oN (wd.out.length+1) cN oS wd.st.length cS);rfl;rfl;rfl;exact hH;(repeat constructor);clear hH;rintro _ w hH)|(refine zJ hA rfl rfl (by decide) (zE rfl rfl rfl (wJ _ _)) ?_;clear hA;rintro _ w ⟨rfl,hk⟩ a hA;replace hH:=hH.keep hk;clear hk)|refine CT ?_|fail)
    repeat' (first|(refine QT ?_;clear hA a;intro a hA)|(refine SAT (qk 1 0) hA hH ?_;clear hH;intro w hH)|refine CT ?_|fail)
    have hS2:WSt w0 c bW g {wd with out:=wd.out++[(IntKind.u8.wrap n).toNat]} H w:=WSt.drop1 (x:=cb b6 103 (qk 1 0)) ⟨oN,cN,oS,cS,sds,(by dsimp only;rw [lenY];exact hH.tail.perm PMT),hQ⟩
    exact wB (vs:=qk 1 0) (.inl rfl) rfl hA rfl rfl rfl hH (zD MEMT) (RsQ.same hg rfl (QV_num (by unfold iok;omega)) hS2)
  · obtain ⟨n,hp⟩:=qI (hK 0 1 (by rcases pC (show op<10∨19<op by omega) with e|e<;>rw [e]<;>rfl) (by decide))
    have hk1:1≤l.length:=by rcases pC (show op<10∨19<op by omega) with e|e<;>rw [e] at hlen<;>simp at hlen<;>omega
    obtain ⟨v0,hq0,hc0⟩:=hq.nth (i:=0) (by omega)
    rw [hp,QV] at hq0
    obtain ⟨rfl,hn⟩:=hq0
    have hc01:=hc0 1 _ rfl
    by_cases h2:1<l.length
    · obtain ⟨m,hp2⟩:=qI (hK 1 1 (by rcases pC (show op<10∨19<op by omega) with e|e<;>rw [e] at hlen ⊢<;>first|rfl|(simp at hlen;omega)) (by decide))
      obtain ⟨v1,hq1,hc1⟩:=hq.nth (i:=1) (by omega)
      rw [hp2,QV] at hq1
      obtain ⟨rfl,hm⟩:=hq1
      have hc11:=hc1 1 _ rfl
      have hg:opF op l wd=(match doF op n m with|some x=>Rs.val (.num x) wd|none=>.exn pW):=by
        rw [mL (by omega),hp,if_pos h2,hp2];dsimp only [asNum];rw [if_neg (by omega),if_neg (by omega)]<;>rfl
      repeat' (first|(refine XT ?_;apply XE;(first|(apply zC;rfl;rfl;decide;omega;exact hspL)|(apply zF;rfl;exact zP MEMT hr (hc01))|(apply zF;rfl;exact zP MEMT hr (hc11)));clear hA a;intro a hA)|(refine QT ?_;clear hA a;intro a hA)|(refine zJ hA rfl rfl (by decide) (zE rfl rfl rfl (Do1_spec _ op _ _ hn hm)) ?_;clear hA;rintro _ w ⟨hk,hdo⟩ a hA;replace hH:=hH.keep hk;clear hk)|refine CT ?_|(refine DT ?_ ?_<;>intro hc<;>try (exfalso;omega))|fail)
      rcases hdo with ⟨x,hx,rfl⟩| ⟨e,he,hx,rfl⟩
      · rw [hx] at hg
        repeat' (first|(refine QT ?_;clear hA a;intro a hA)|(refine zJ hA rfl rfl (by decide) (zE rfl rfl rfl (wJ _ _)) ?_;clear hA;rintro _ w ⟨rfl,hk⟩ a hA;replace hH:=hH.keep hk;clear hk)|refine CT ?_|fail)
        repeat' (first|(refine QT ?_;clear hA a;intro a hA)|(refine SAT (qk 1 x) hA hH ?_;clear hH;intro w hH)|refine CT ?_|fail)
        exact wB (vs:=qk 1 x) (.inl rfl) rfl hA rfl rfl rfl hH (zD MEMT) (RsQ.same hg rfl (QV_num (kL hx)) (WSt.drop1 ⟨oO,cO,oS,cS,sds,hH,hQ⟩))
      · rw [hx] at hg
        repeat' (first|(refine QT ?_;clear hA a;intro a hA)|refine CT ?_|(refine DT ?_ ?_<;>intro hc<;>try (exfalso;omega))|fail)
        (refine zJ hA rfl rfl (by decide) (zE rfl rfl rfl (vG w0 _ _ g wd.inp pW oO oS _ cO _ cS bW hH hxs)) ?_;clear hA hH;rintro _ w ⟨rfl,hH⟩ a hA)
        repeat' (first|(refine QT ?_;clear hA a;intro a hA)|(refine SAT (qk 1 (xC g.xs.l pW)) hA hH ?_;clear hH;intro w hH)|refine CT ?_|fail)
        exact wB (vs:=qk 1 (xC g.xs.l pW)) (.inl rfl) rfl hA rfl rfl rfl hH (zD MEMT) (RsQ.exn hg rfl (WSt.drop1 ⟨oO,cO,oS,cS,sds,hH,hQ⟩))
    · have hg:opF op l wd=(match doF op n 0 with|some x=>Rs.val (.num x) wd|none=>.exn pW):=by
        rw [mL (by omega),hp,if_neg h2];dsimp only [asNum];rw [if_neg (by omega),if_neg (by omega)]<;>rfl
      repeat' (first|(refine XT ?_;apply XE;(first|(apply zC;rfl;rfl;decide;omega;exact hspL)|(apply zF;rfl;exact zP MEMT hr (hc01)));clear hA a;intro a hA)|(refine QT ?_;clear hA a;intro a hA)|(refine zJ hA rfl rfl (by decide) (zE rfl rfl rfl (Do1_spec _ op _ _ hn (by unfold iok;omega))) ?_;clear hA;rintro _ w ⟨hk,hdo⟩ a hA;replace hH:=hH.keep hk;clear hk)|refine CT ?_|(refine DT ?_ ?_<;>intro hc<;>try (exfalso;omega))|fail)
      rcases hdo with ⟨x,hx,rfl⟩| ⟨e,he,hx,rfl⟩
      · rw [hx] at hg
        repeat' (first|(refine QT ?_;clear hA a;intro a hA)|(refine zJ hA rfl rfl (by decide) (zE rfl rfl rfl (wJ _ _)) ?_;clear hA;rintro _ w ⟨rfl,hk⟩ a hA;replace hH:=hH.keep hk;clear hk)|refine CT ?_|fail)
        repeat' (first|(refine QT ?_;clear hA a;intro a hA)|(refine SAT (qk 1 x) hA hH ?_;clear hH;intro w hH)|refine CT ?_|fail)
        exact wB (vs:=qk 1 x) (.inl rfl) rfl hA rfl rfl rfl hH (zD MEMT) (RsQ.same hg rfl (QV_num (kL hx)) (WSt.drop1 ⟨oO,cO,oS,cS,sds,hH,hQ⟩))
      · rw [hx] at hg
        repeat' (first|(refine QT ?_;clear hA a;intro a hA)|refine CT ?_|(refine DT ?_ ?_<;>intro hc<;>try (exfalso;omega))|fail)
        (refine zJ hA rfl rfl (by decide) (zE rfl rfl rfl (vG w0 _ _ g wd.inp pW oO oS _ cO _ cS bW hH hxs)) ?_;clear hA hH;rintro _ w ⟨rfl,hH⟩ a hA)
        repeat' (first|(refine QT ?_;clear hA a;intro a hA)|(refine SAT (qk 1 (xC g.xs.l pW)) hA hH ?_;clear hH;intro w hH)|refine CT ?_|fail)
        exact wB (vs:=qk 1 (xC g.xs.l pW)) (.inl rfl) rfl hA rfl rfl rfl hH (zD MEMT) (RsQ.exn hg rfl (WSt.drop1 ⟨oO,cO,oS,cS,sds,hH,hQ⟩))
end
theorem gL {l:List Int} (h:upP l):∀{j i:Nat},i<j→j<l.length→l.getD i 0<l.getD j 0
  | j+1,i,hij,hj=>by
    have h1:l.getD j 0<l.getD (j+1) 0:=h (j+1) hj (by omega)
    by_cases e:i=j
    · subst e;exact h1
    · exact Int.lt_trans (gL h (by omega) (by omega)) h1
theorem bsL_lo {l:List Int} (hu:upP l) (x:Int) (i j:Nat) (hj:j≤l.length) (h:∀k,k<i→l.getD k 0<x) (h2:∀k,j≤k→k<l.length→x≤l.getD k 0) (hij:i≤j) :
    (∀k,k<bsL l x i j→l.getD k 0<x)∧∀k,bsL l x i j≤k→k<l.length→x≤l.getD k 0:=by
  fun_induction bsL l x i j with
  | case1 i j h1 h3 ih=>
    exact ih hj (fun k hk=>by
      by_cases e:k=(i+j) / 2
      · subst e;exact h3
      · exact Int.lt_trans (gL hu (show k<(i+j) / 2 by omega) (by omega)) h3) h2 (by omega)
  | case2 i j h1 h3 ih=>
    exact ih (by omega) h (fun k hk hk2=>by
      by_cases e:k=(i+j) / 2
      · subst e;omega
      · have:=gL hu (show (i+j) / 2<k by omega) hk2;omega) (by omega)
  | case3 i j h1=>
    obtain rfl:i=j:=by omega
    exact ⟨h,h2⟩
theorem bs_lo {l:List Int} (hu:upP l) (x:Int):(∀k,k<bsI l x→l.getD k 0<x)∧∀k,bsI l x≤k→k<l.length→x≤l.getD k 0:=
  bsL_lo hu x 0 l.length (Nat.le_refl _) (fun k h=>absurd h (Nat.not_lt_zero _)) (fun k h h2=>absurd h2 (by omega)) (Nat.zero_le _)
theorem bsB_at {l:List Int} (hu:upP l) {x:Int} {i:Nat} (hi:i<l.length) (hx:l.getD i 0=x):bsI l x=i∧bsB l x=true:=by
  obtain ⟨h1,h2⟩:=bs_lo hu x
  have e:bsI l x=i:=by
    rcases Nat.lt_trichotomy (bsI l x) i with h|h|h
    · have h3:=h2 (bsI l x) (Nat.le_refl _) (by omega)
      have h4:=gL hu h hi
      omega
    · exact h
    · have:=h1 i h;omega
  refine ⟨e,?_⟩
  unfold bsB
  rw [e]
  exact decide_eq_true ⟨hi,hx⟩
theorem bsB_no {l:List Int} {x:Int} (h:∀i,i<l.length→l.getD i 0≠x):bsB l x=false:=by
  unfold bsB
  exact decide_eq_false fun ⟨h1,h2⟩=>h _ h1 h2
def wT (wt:Bool) (n:Int) (y:Vl) (s:List Int × List Vl × Bool) (e:Int × Vl):List Int × List Vl × Bool:=
  if e.1=n then s else if (wt=true∧s.2.2=false)∧n<e.1 then ((s.1++[n])++[e.1],(s.2.1++[y])++[e.2],true) else (s.1++[e.1],s.2.1++[e.2],s.2.2)
def wst (wt:Bool) (n:Int) (y:Vl) (es:List (Int × Vl)):List Int × List Vl × Bool:=es.foldl (wT wt n y) ([],[],false)
theorem wst_next {wt:Bool} {n:Int} {y:Vl} {es:List (Int × Vl)} {i:Nat} {e:Int × Vl} (h:es[i]?=some e):wst wt n y (es.take (i+1))=wT wt n y (wst wt n y (es.take i)) e:=by
  unfold wst
  rw [yK h,List.foldl_append]
  rfl
def wend (n:Int) (y:Vl) (s:List Int × List Vl × Bool):List Int × List Vl:=if s.2.2=true then (s.1,s.2.1) else (s.1++[n],s.2.1++[y])
theorem ws_len {wt:Bool} {n:Int} {y:Vl}:∀(es:List (Int × Vl)) (s:List Int × List Vl × Bool),s.1.length=s.2.1.length→(es.foldl (wT wt n y) s).1.length=(es.foldl (wT wt n y) s).2.1.length∧(es.foldl (wT wt n y) s).1.length≤s.1.length+es.length+(if s.2.2=true then 0 else 1)∧(wt=false→(es.foldl (wT wt n y) s).1.length≤s.1.length+es.length)
  | [],s,h=>⟨h,Nat.le_add_right _ _,fun _=>Nat.le_refl _⟩
  | e :: es,s,h=>by
    rw [List.foldl_cons]
    have key:(wT wt n y s e).1.length=(wT wt n y s e).2.1.length∧(wT wt n y s e).1.length+(if (wT wt n y s e).2.2=true then 0 else 1)≤s.1.length+1+(if s.2.2=true then 0 else 1)∧(wt=false→(wT wt n y s e).1.length≤s.1.length+1):=by
      unfold wT
      split
      · exact ⟨h,by omega,fun _=>Nat.le_succ _⟩
      · split
        · rename_i h1
          refine ⟨by simp [h],by simp [h1.1.2],fun hw=>absurd h1.1.1 (by rw [hw];decide)⟩
        · exact ⟨by simp [h],by simp,fun _=>by simp⟩
    obtain ⟨h1,h2,h3⟩:=ws_len es _ key.1
    refine ⟨h1,?_,fun hw=>?_⟩
    · rw [List.length_cons]
      have:=key.2.1
      omega
    · have:=h3 hw
      have:=key.2.2 hw
      rw [List.length_cons]
      omega
theorem ws_lt {wt:Bool} {n:Int} {y:Vl}:∀(es:List (Int × Vl)) (a:List Int) (b:List Vl) (d:Bool),(∀e∈es,e.1<n∨(n<e.1∧(wt=true→d=true)))→es.foldl (wT wt n y) (a,b,d)=(a++es.map Prod.fst,b++es.map Prod.snd,d)
  | [],a,b,d,h=>by simp
  | e ::es,a,b,d,h=>by
    have h1:=h e (.head _)
    have:wT wt n y (a,b,d) e=(a++[e.1],b++[e.2],d):=by
      unfold wT
      rw [if_neg (by omega),if_neg (fun h2=>by
        rcases h1 with h1|h1
        · have:=h2.2;omega
        · have h3:=h1.2 h2.1.1;subst h3;exact absurd (show true=false from h2.1.2) (by decide))]
    rw [List.foldl_cons,this,ws_lt es _ _ d (fun e he=>h e (.tail _ he))]
    simp
theorem ws_gt {n:Int} {y:Vl} {es:List (Int × Vl)} {a:List Int} {b:List Vl} (h:∀e∈es,n<e.1):wend n y (es.foldl (wT true n y) (a,b,false))=(a++n::es.map Prod.fst,b++y::es.map Prod.snd):=by
  cases es with
  |nil=>rfl
  | cons e es=>
    have h1:=h e (.head _)
    have:wT true n y (a,b,false) e=((a++[n])++[e.1],(b++[y])++[e.2],true):=by
      unfold wT
      rw [if_neg (by omega),if_pos ⟨⟨rfl,rfl⟩,h1⟩]
    rw [List.foldl_cons,this,ws_lt es _ _ true (fun e he=>.inr ⟨h e (.tail _ he),fun _=>rfl⟩)]
    simp [wend]
theorem up_pw {l:List Int}:upP l↔l.Pairwise (·< ·):=by
  rw [List.pairwise_iff_getElem]
  constructor
  · intro h i j hi hj hij
    have:=gL h hij hj
    rw [List.getD_eq_getElem?_getD,List.getD_eq_getElem?_getD,List.getElem?_eq_getElem hi,List.getElem?_eq_getElem hj] at this
    exact this
  · intro h i hi h0
    have:=h (i - 1) i (by omega) hi (by omega)
    rw [List.getD_eq_getElem?_getD,List.getD_eq_getElem?_getD,List.getElem?_eq_getElem hi,List.getElem?_eq_getElem (show i - 1<l.length by omega)]
    exact this
theorem zip_split {ns:List Int} {xs:List Vl} (h:ns.length=xs.length) (j:Nat):(ns.zip xs)=(ns.take j).zip (xs.take j)++(ns.drop j).zip (xs.drop j):=by
  rw [←List.zip_append (by rw [List.length_take,List.length_take,h]),List.take_append_drop,List.take_append_drop]
theorem jC {ns:List Int} {xs:List Vl} (h:ns.length=xs.length):(ns.zip xs).map Prod.fst=ns:=List.map_fst_zip (by omega)
theorem jB {ns:List Int} {xs:List Vl} (h:ns.length=xs.length):(ns.zip xs).map Prod.snd=xs:=List.map_snd_zip (by omega)
theorem bU {l:List Int} {j:Nat} {x:Int} (h:x∈l.take j):∃k,k<j∧k<l.length∧l.getD k 0=x:=by
  obtain ⟨k,hk,e⟩:=List.mem_iff_getElem.1 h
  rw [List.length_take] at hk
  refine ⟨k,by omega,by omega,?_⟩
  rw [List.getElem_take] at e
  rw [List.getD_eq_getElem?_getD,List.getElem?_eq_getElem (by omega)]
  exact e
theorem bX {l:List Int} {j:Nat} {x:Int} (h:x∈l.drop j):∃k,j≤k∧k<l.length∧l.getD k 0=x:=by
  obtain ⟨k,hk,e⟩:=List.mem_iff_getElem.1 h
  rw [List.length_drop] at hk
  refine ⟨j+k,by omega,by omega,?_⟩
  rw [List.getElem_drop] at e
  rw [List.getD_eq_getElem?_getD,List.getElem?_eq_getElem (by omega)]
  exact e
theorem wend_eq {ns:List Int} {xs:List Vl} (hu:upP ns) (hl:ns.length=xs.length) (n:Int) (y:Vl) :
    wend n y (wst true n y (ns.zip xs))=(if bsB ns n=true then (ns,xs.set (bsI ns n) y) else (ns.insertIdx (bsI ns n) n,xs.insertIdx (bsI ns n) y))∧upP (wend n y (wst true n y (ns.zip xs))).1:=by
  obtain ⟨h1,h2⟩:=bs_lo hu n
  have hle:=jV ns n
  obtain ⟨j,hj⟩:∃j,j=bsI ns n:=⟨_,rfl⟩
  rw [←hj] at h1 h2 hle
  have hlt:∀e∈(ns.take j).zip (xs.take j),e.1<n∨(n<e.1∧(true=true→false=true)):=fun e he=>by
    obtain ⟨k,hk,hk2,hx⟩:=bU (List.of_mem_zip he).1
    exact .inl (hx▸h1 k hk)
  have e0:wst true n y (ns.zip xs)=((ns.drop j).zip (xs.drop j)).foldl (wT true n y) (ns.take j,xs.take j,false):=by
    unfold wst
    rw [zip_split hl j,List.foldl_append,ws_lt _ _ _ _ hlt,jC (by rw [List.length_take,List.length_take,hl]),jB (by rw [List.length_take,List.length_take,hl])]
    rfl
  rw [e0,←hj]
  have hpw:=up_pw.1 hu
  by_cases hb:bsB ns n=true
  · rw [if_pos hb]
    unfold bsB at hb
    obtain ⟨hb1,hb2⟩:=dTr hb
    rw [←hj] at hb1 hb2
    have hx:j<xs.length:=by omega
    have hn:ns[j]=n:=by rw [List.getD_eq_getElem?_getD,List.getElem?_eq_getElem hb1] at hb2;exact hb2
    rw [List.drop_eq_getElem_cons hb1,List.drop_eq_getElem_cons hx,List.zip_cons_cons,List.foldl_cons,show wT true n y (ns.take j,xs.take j,false) (ns[j],xs[j])=(ns.take j,xs.take j,false) by unfold wT;rw [if_pos hn],
      ws_gt (fun e he=>by
        obtain ⟨k,hk,hk2,hx⟩:=bX (List.of_mem_zip he).1
        have:=gL hu (show j<k by omega) hk2
        rw [←hx];omega),jC (by rw [List.length_drop,List.length_drop,hl]),jB (by rw [List.length_drop,List.length_drop,hl])]
    have e1:ns.take j++n::ns.drop (j+1)=ns:=by rw [←hn,←List.drop_eq_getElem_cons hb1,List.take_append_drop]
    rw [e1]
    exact ⟨by rw [List.set_eq_take_append_cons_drop,if_pos hx],hu⟩
  · rw [if_neg hb]
    have hgt:∀x∈ns.drop j,n<x:=fun x he=>by
      obtain ⟨k,hk,hk2,hx⟩:=bX he
      have h3:=h2 k hk hk2
      rw [hx] at h3
      by_cases e:x=n
      · refine absurd ?_ hb
        exact (bsB_at hu hk2 (hx.trans e)).2
      · omega
    rw [ws_gt (fun e he=>hgt _ (List.of_mem_zip he).1),jC (by rw [List.length_drop,List.length_drop,hl]),jB (by rw [List.length_drop,List.length_drop,hl])]
    refine ⟨by rw [pE (by omega),pE (by omega)];unfold tH;simp,up_pw.2 ?_⟩
    rw [←List.take_append_drop j ns] at hpw
    obtain ⟨p1,p2,p3⟩:=List.pairwise_append.1 hpw
    refine List.pairwise_append.2 ⟨p1,List.pairwise_cons.2 ⟨hgt,p2⟩,fun a ha b hb2=>?_⟩
    obtain ⟨k,hk,hk2,hx⟩:=bU ha
    have h4:=h1 k hk
    rw [hx] at h4
    rcases List.mem_cons.1 hb2 with rfl|hb2
    · exact h4
    · exact p3 a ha b hb2
theorem zip_at {ns:List Int} {xs:List Vl} (h:ns.length=xs.length) {i:Nat} (hi:i<ns.length):(ns.zip xs)[i]?=some (ns.getD i 0,zS xs i):=by
  unfold zS
  rw [List.getElem?_eq_getElem (by rw [List.length_zip];omega),List.getElem_zip,List.getD_eq_getElem?_getD,List.getD_eq_getElem?_getD,List.getElem?_eq_getElem hi,List.getElem?_eq_getElem (by omega)]
  rfl
theorem WSt.dropL {w0 w:World} {c:Dx} {bW:Nat} {g:Grs} {wd:Wd} {H:List It}:∀{L:List It},WSt w0 c bW g wd (L++H) w→WSt w0 c bW g wd H w
  | [],h=>h
  |_::L,h=>WSt.dropL (L:=L) h.drop1
theorem k_tg {x:Vl} (h:yW x=5):∃n y,x= .tg n y:=by cases x<;>first|exact ⟨_,_,rfl⟩|(unfold yW at h;cases h)
theorem k_rc {x:Vl} (h:yW x=4):∃ns xs,x= .rc ns xs:=by cases x<;>first|exact ⟨_,_,rfl⟩|(unfold yW at h;cases h)
theorem n_tg {x:Vl} (h:yW x≠5):asTg x=none:=by cases x<;>first|rfl|exact absurd rfl h
theorem n_rc {x:Vl} (h:yW x≠4):asRc x=none:=by cases x<;>first|rfl|exact absurd rfl h
theorem QV_fn {c:Dx} {f:Int} {l:List Vl} {vs:List Value} {o:Option Addr} {k:Nat} (h:0≤f∧f<c.cp.length∧(l.length:Int)=c.cp.getD f.toNat 0) (hr:∀w,c.K w→Rd w o vs) (hq:QVs c l vs):QV c (.fn f l) (qc 3 f empS none 0 0 o l.length k):=by rw [QV];exact ⟨o,k,vs,rfl,h,hr,hq⟩
theorem QV_rc {c:Dx} {ns:List Int} {l:List Vl} {vs:List Value} {on o:Option Addr} {kn k:Nat} (h:ns.length=l.length∧ns.length≤c.bd∧upP ns) (hn:∀w,c.K w→Rd w on (flat Fw.encI ns)) (hr:∀w,c.K w→Rd w o vs) (hq:QVs c l vs):QV c (.rc ns l) (qc 4 0 empS on ns.length kn o l.length k):=by rw [QV];exact ⟨on,kn,o,k,vs,rfl,h,hn,hr,hq⟩
theorem QV_tg {c:Dx} {n:Int} {x:Vl} {vs:List Value} {o:Option Addr} {k:Nat} (h:iok n) (hr:∀w,c.K w→Rd w o vs) (hq:QV c x vs):QV c (.tg n x) (qc 5 n empS none 0 0 o 1 k):=by rw [QV];exact ⟨o,k,vs,rfl,h,hr,hq⟩
theorem QVs.of1 {c:Dx} {l:List Vl} {vs:List Value} (h:QVs c l vs) (h1:l.length=1):QV c (zS l 0) vs:=by
  match l,h1 with
  | [x],_=>
    rw [QVs] at h
    obtain ⟨v,r,rfl,hx,hr⟩:=h
    rw [QVs] at hr
    subst hr
    rw [List.append_nil]
    exact hx
theorem RsQ.out {w0 w:World} {c:Dx} {bW:Nat} {g:Grs} {wd:Wd} {H:List It} {r:Rs} {v:Value} (h:RsQ w0 c bW g wd H r v w) :
    ∃(cs:List Value) (k:Int) (d:Dx) (wd':Wd),v= .tuple #[.agg cs.toArray,.int .i64 k]∧(cs.length=5∧cs.all (·.oneCell')=true)∧WSt w0 d bW g wd' H w∧∀H2 w2,WSt w0 d bW g wd' H2 w2→RsQ w0 c bW g wd H2 r v w2:=by
  cases r with
  | val y wd'=>
    rcases h with ⟨h1,rfl,rfl,h2⟩| ⟨h1,d,vs,h2,rfl,h3,h4⟩
    · exact ⟨qz,3,c,_,rfl,⟨rfl,rfl⟩,h2,fun H2 w2 h=>.inl ⟨h1,rfl,rfl,h⟩⟩
    · exact ⟨vs,0,d,wd',rfl,⟨h3.len,h3.one⟩,h4,fun H2 w2 h=>.inr ⟨h1,d,vs,h2,rfl,h3,h⟩⟩
  | exn s=>
    obtain ⟨rfl,h2⟩:=h
    exact ⟨_,1,c,wd,rfl,⟨rfl,rfl⟩,h2,fun H2 w2 h=>⟨rfl,h⟩⟩
theorem xH {α:Type} (l:List α) (x:α):(l++[x]).length=l.length+1:=by rw [List.length_append];rfl
theorem RsQ.rc {w0 w:World} {c:Dx} {bW:Nat} {g:Grs} {wd:Wd} {H L:List It} {r:Rs} {oA oB oO oS:Option Addr} {cA cB cO cS k1 k2 Ta Tb sa sb:Nat} {sds:List Sd} {n1:List Int} {n2:List Vl} {cells:List Value}
    (hH:HS w0 noM (own Ta sa oA k1 cA (flat Fw.encI n1)::own Tb sb oB k2 cB cells::cb bW 98 (xE g wd.inp oO wd.out.length cO oS wd.st.length cS)::own 5 1 oO wd.out.length cO (flat zY wd.out)::own 101 1 oS wd.st.length cS (flat Fw.encS sds)::frz w0 c.K::(L++H)) w)
    (hQ:StQ c sds wd.st) (hr:r= .val (.rc n1 n2) wd) (hl:n1.length=n2.length) (hb:n1.length≤c.bd+1) (hu:upP n1) (hq:QVs c n2 cells):RsQ w0 c bW g wd H r (.tuple #[.agg (qc 4 0 empS oA n1.length cA oB n2.length cB).toArray,.int .i64 0]) w:=by
  obtain ⟨oO2,cO2,oS2,cS2,sds2,hH2,hQ2⟩:=WSt.add (c:=c) (o:=oA) (xs:=flat Fw.encI n1) (H:=own Tb sb oB k2 cB cells::(L++H)) (hH.perm PMT) hQ
  obtain ⟨oO3,cO3,oS3,cS3,sds3,hH3,hQ3⟩:=WSt.add (c:=c.add oA (flat Fw.encI n1)) (o:=oB) (xs:=cells) (H:=L++H) (hH2.perm PMT) hQ2
  have hle:c.le {(c.add oA (flat Fw.encI n1)).add oB cells with bd:=c.bd+1}:=⟨fun w h=>h.2.2,⟨[],(List.append_nil _).symm⟩,Nat.le_succ _,rfl⟩
  have hle2:((c.add oA (flat Fw.encI n1)).add oB cells).le {(c.add oA (flat Fw.encI n1)).add oB cells with bd:=c.bd+1}:=⟨fun w h=>h,⟨[],(List.append_nil _).symm⟩,Nat.le_succ _,rfl⟩
  exact RsQ.val hr (d:={(c.add oA (flat Fw.encI n1)).add oB cells with bd:=c.bd+1}) hle (Nat.le_refl _) rfl (QV_rc ⟨hl,hb,hu⟩ (fun w h=>h.2.1) (fun w h=>h.1) (hq.le hle)) (WSt.dropL (L:=L) ⟨oO3,cO3,oS3,cS3,sds3,hH3,hQ3.mono hle2 rfl⟩)
structure PlQ (w0:World) (c:Dx) (g:Grs) (wd:Wd) (r:Stp) (ol:Option Addr) (l:List Vl) (vs:List Value) (f:Int) (caps:List Vl) (sc:List Value):Prop where
  hr:∀w,c.K w→Rd w ol vs
  hq:QVs c l vs
  self:QV c (.fn f caps) sc
  form:FormP g c.cp (c.cp.getD f.toNat 0) r
  kind:r.k≠3∧r.k≠13∧r.k≠14
  hl:l.length=r.a.l.length
  st:wd.st.length≤100000
  out:wd.out.length≤100000
  xs:RdV w0 yQ g.xs
  K0:∀w,c.K w→Kp w0 noM w
  hN:RdV w0 Fw.encI r.ns
  bn:r.ns.l.length≤c.bd
  bd:c.bd≤1000000
  rn:iok r.n
  la:l.length≤1000000
section
attribute [local irreducible] Code.wp wpList Calls Ex Op1 sat bat blk cb own Go.Fw.mp Go.Fw.mpO Go.Fw.mpI Go.Fw.mpE Go.Fw.itr HS Rd Ret wkD Hp Cl Cls Exit.then Exit.inBlock Exit.noGoto bodyPost Go.Fw.flat wk2 Go.Fw.all Go.Fw.owns wpOp
attribute [local irreducible] sk mpK sko mvO xM xC frz w63 xX ofB vA QV QVs

theorem eE (w0 w:World) (H:List It) (c:Dx) (g:Grs) (wd:Wd) (bW:Nat) (r:Stp) (ol:Option Addr) (cl:Nat) (l:List Vl) (vs:List Value) (f:Int) (caps:List Vl) (sc:List Value) (hS:WSt w0 c bW g wd H w) (hP:PlQ w0 c g wd r ol l vs f caps sc) (h78:r.k≠7∧r.k≠8) :
    Ret Tryz.prog 125 #[.pointer (some (bat bW 0)),.agg (zX r).toArray,.slice ol l.length cl,.agg sc.toArray] w (fun v w'=>RsQ w0 c bW g wd H (yD r l caps wd) v w'):=by
  obtain ⟨oO,cO,oS,cS,sds,hH,hQ⟩:=hS
  obtain ⟨hr,hq,hself,hform,hkind,hl,hst,hout,hxs,hK0,hN,hbn,hbd,hrn,hla⟩:=hP
  have hwant:=hform.want
  rw [←hl] at hwant
  have hlo:=hform.lo
  have hhi:=hform.hi
  have hqn:=hq.len
  have hspL:Sp ol l.length:=(hr w (hH.frz MEMT)).sp (sz:=5) hq.len (by omega)
  rcases (show r.k=1∨r.k=2∨r.k=4∨r.k=5∨r.k=6∨r.k=9∨r.k=10∨r.k=11∨r.k=12 by omega) with hk|hk|hk|hk|hk|hk|hk|hk|hk
  · have hw:(l.length:Int)=1:=hwant.trans (w_1 (g:=g) (mine:=0) (.inl hk)).1
    obtain ⟨v0,hq0,hc0⟩:=hq.nth (i:=0) (by omega)
    (refine ENT (N:=224) Tryz.func125 Tryz.ntmps125 ?_;intro a hA)
    repeat' (first|(refine XT ?_;apply XE;(first|(apply zC;rfl;rfl;decide;omega;exact hspL)|(apply zA (vs:=v0);rfl;exact hq0.len;exact yF MEMT hr (fun i v h=>hc0 i v h)));clear hA a;intro a hA)|(refine QT ?_;clear hA a;intro a hA)|(refine BT ?_;clear hA hH;rintro _ w ⟨bN,rfl,hH⟩ a hA)|(apply zT hA rfl rfl;apply zI (vs:=v0);rfl;rfl;exact hH;(repeat constructor);exact hq0.len;rfl;exact hq0.one;clear hH;rintro _ w hH)|refine CT ?_|(refine DT ?_ ?_<;>intro hc<;>try (exfalso;omega))|fail)
    exact wB (vs:=v0) (sz:=5) (.inl rfl) rfl hA rfl rfl hq0.len hH (zD MEMT) (RsQ.same (pl_1 hk) rfl hq0 (WSt.drop1 (WSt.drop1 (WSt.drop1 ⟨oO,cO,oS,cS,sds,hH.perm PMT,hQ⟩))))
  · have hw:=hwant.trans (w_2 (g:=g) (mine:=0) hk).1
    have hop:1≤r.n∧r.n≤21:=by
      unfold wO at hw
      repeat' split at hw
      all_goals omega
    (refine ENT (N:=224) Tryz.func125 Tryz.ntmps125 ?_;intro a hA)
    repeat' (first|(refine QT ?_;clear hA a;intro a hA)|(refine BT ?_;clear hA hH;rintro _ w ⟨bN,rfl,hH⟩ a hA)|refine CT ?_|(refine DT ?_ ?_<;>intro hc<;>try (exfalso;omega))|fail)
    (refine zJ hA rfl rfl (by decide) (zE rfl rfl rfl (rop_spec w0 w (_::_::_::H) c g wd bW r.n ol cl l vs ⟨oO,cO,oS,cS,sds,hH.perm PMT,hQ⟩ hr hq hop hw hst hout hxs)) ?_;clear hA hH;rintro _ w hR a hA)
    obtain ⟨cs,k,d,wd',rfl,⟨h5,ho⟩,⟨oO,cO,oS,cS,sds,hH,hQ⟩,hback⟩:=hR.out
    repeat' (first|(refine XT ?_;apply XE;(first|(apply zA (vs:=cs);rfl;exact h5;exact zD MEMT));clear hA a;intro a hA)|(refine QT ?_;clear hA a;intro a hA)|(refine BT ?_;clear hA hH;rintro _ w ⟨bN,rfl,hH⟩ a hA)|(apply zT hA rfl rfl;apply zI (vs:=cs);rfl;rfl;exact hH;(repeat constructor);exact h5;rfl;exact ho;clear hH;rintro _ w hH)|refine CT ?_|fail)
    rw [pl_2 hk]
    exact wB (vs:=cs) (sz:=5) (.inl rfl) rfl hA rfl rfl h5 hH (zD MEMT) (hback _ _ (WSt.drop1 (WSt.drop1 (WSt.drop1 (WSt.drop1 ⟨oO,cO,oS,cS,sds,hH.perm PMT,hQ⟩)))))
  · obtain ⟨hw1,hw2⟩:=w_4 (g:=g) (cs:=c.cp) (mine:=c.cp.getD f.toNat 0) hk
    have hn:=hw2.1 hform.num
    (refine ENT (N:=224) Tryz.func125 Tryz.ntmps125 ?_;intro a hA)
    repeat' (first|(refine XT ?_;apply XE;(first|(apply zK (cs:=(qc 3 r.n empS none 0 0 ol l.length cl).toArray);rfl;exact FLT;rfl));clear hA a;intro a hA)|(refine QT ?_;clear hA a;intro a hA)|(refine BT ?_;clear hA hH;rintro _ w ⟨bN,rfl,hH⟩ a hA)|(refine SAT (qc 3 r.n empS none 0 0 ol l.length cl) hA hH ?_;clear hH;intro w hH)|refine CT ?_|(refine DT ?_ ?_<;>intro hc<;>try (exfalso;omega))|fail)
    exact wB (vs:=qc 3 r.n empS none 0 0 ol l.length cl) (.inl rfl) rfl hA rfl rfl rfl hH (zD MEMT) (RsQ.same (pl_4 hk) rfl (QV_fn ⟨hn.1,hn.2,hwant.trans hw1⟩ hr hq) (WSt.drop1 (WSt.drop1 (WSt.drop1 ⟨oO,cO,oS,cS,sds,hH.perm PMT,hQ⟩))))
  · obtain ⟨hw1,hw2⟩:=w_5 (g:=g) (cs:=c.cp) (mine:=c.cp.getD f.toNat 0) hk
    have hn:=hw2.1 hform.num
    rw [QV] at hself
    obtain ⟨oc,kc,cvs,rfl,⟨hf0,hf1,hfl⟩,hrc,hqc⟩:=hself
    unfold tA at hn
    obtain ⟨v1,hq1,hc1⟩:=hqc.nth (i:=r.n.toNat) (by omega)
    have hspC:Sp oc caps.length:=(hrc w (hH.frz MEMT)).sp (sz:=5) hqc.len (by omega)
    (refine ENT (N:=224) Tryz.func125 Tryz.ntmps125 ?_;intro a hA)
    repeat' (first|(refine XT ?_;apply XE;(first|(apply zC;rfl;rfl;omega;omega;exact hspC)|(apply zA (vs:=v1);rfl;exact hq1.len;exact yF MEMT hrc (fun i v h=>hc1 i v h)));clear hA a;intro a hA)|(refine QT ?_;clear hA a;intro a hA)|(refine BT ?_;clear hA hH;rintro _ w ⟨bN,rfl,hH⟩ a hA)|(apply zT hA rfl rfl;apply zI (vs:=v1);rfl;rfl;exact hH;(repeat constructor);exact hq1.len;rfl;exact hq1.one;clear hH;rintro _ w hH)|refine CT ?_|(refine DT ?_ ?_<;>intro hc<;>try (exfalso;omega))|fail)
    exact wB (vs:=v1) (sz:=5) (.inl rfl) rfl hA rfl rfl hq1.len hH (zD MEMT) (RsQ.same (pl_5 hk) rfl hq1 (WSt.drop1 (WSt.drop1 (WSt.drop1 ⟨oO,cO,oS,cS,sds,hH.perm PMT,hQ⟩))))
  · have hw:=hwant.trans (w_6 (g:=g) (mine:=0) hk).1
    have hlab:=hform.lab hk
    (refine ENT (N:=224) Tryz.func125 Tryz.ntmps125 ?_;intro a hA)
    repeat' (first|(refine XT ?_;apply XE;(first|(apply zK (cs:=(qc 4 0 empS r.ns.o r.ns.l.length r.ns.c ol l.length cl).toArray);rfl;exact FLT;rfl));clear hA a;intro a hA)|(refine QT ?_;clear hA a;intro a hA)|(refine BT ?_;clear hA hH;rintro _ w ⟨bN,rfl,hH⟩ a hA)|(refine SAT (qc 4 0 empS r.ns.o r.ns.l.length r.ns.c ol l.length cl) hA hH ?_;clear hH;intro w hH)|refine CT ?_|(refine DT ?_ ?_<;>intro hc<;>try (exfalso;omega))|fail)
    exact wB (vs:=qc 4 0 empS r.ns.o r.ns.l.length r.ns.c ol l.length cl) (.inl rfl) rfl hA rfl rfl rfl hH (zD MEMT) (RsQ.same (pl_6 hk) rfl (QV_rc ⟨by omega,hbn,fun i hi h0=>(hlab i hi).2 h0⟩ (fun w hw=>(hN.keep (hK0 w hw)).1) hr hq) (WSt.drop1 (WSt.drop1 (WSt.drop1 ⟨oO,cO,oS,cS,sds,hH.perm PMT,hQ⟩))))
  · have hw:=hwant.trans (w_9 (g:=g) (mine:=0) hk).1
    have hl1:l.length=1:=by omega
    (refine ENT (N:=224) Tryz.func125 Tryz.ntmps125 ?_;intro a hA)
    rw [hl1] at hA
    repeat' (first|(refine XT ?_;apply XE;(first|(apply zK (cs:=(qc 5 r.n empS none 0 0 ol 1 cl).toArray);rfl;exact FLT;rfl));clear hA a;intro a hA)|(refine QT ?_;clear hA a;intro a hA)|(refine BT ?_;clear hA hH;rintro _ w ⟨bN,rfl,hH⟩ a hA)|(refine SAT (qc 5 r.n empS none 0 0 ol 1 cl) hA hH ?_;clear hH;intro w hH)|refine CT ?_|(refine DT ?_ ?_<;>intro hc<;>try (exfalso;omega))|fail)
    exact wB (vs:=qc 5 r.n empS none 0 0 ol 1 cl) (.inl rfl) rfl hA rfl rfl rfl hH (zD MEMT) (RsQ.same (pl_9 hk) rfl (QV_tg hrn hr (hq.of1 hl1)) (WSt.drop1 (WSt.drop1 (WSt.drop1 ⟨oO,cO,oS,cS,sds,hH.perm PMT,hQ⟩))))
  · have hw:=hwant.trans (w_1 (g:=g) (mine:=0) (by omega)).1
    obtain ⟨v0,hq0,hc0⟩:=hq.nth (i:=0) (by omega)
    have hvk:=qC hq0 hc0
    by_cases hkd:yW (zS l 0)=5
    · obtain ⟨n,y,hp⟩:=k_tg hkd
      rw [hp,QV] at hq0
      obtain ⟨ot,kt,yvs,rfl,hn,hrt,hqy⟩:=hq0
      have hc01:=hc0 1 _ rfl
      (refine ENT (N:=224) Tryz.func125 Tryz.ntmps125 ?_;intro a hA)
      repeat' (first|(refine XT ?_;apply XE;(first|(apply zC;rfl;rfl;decide;omega;exact hspL)|(apply zF;rfl;exact zP MEMT hr (hvk))|(apply zF;rfl;exact zP MEMT hr (hc01)));clear hA a;intro a hA)|(refine QT ?_;clear hA a;intro a hA)|(refine BT ?_;clear hA hH;rintro _ w ⟨bN,rfl,hH⟩ a hA)|(refine zJ hA rfl rfl (by decide) (zE rfl rfl rfl (wJ _ _)) ?_;clear hA;rintro _ w ⟨rfl,hk⟩ a hA;replace hH:=hH.keep hk;clear hk)|refine CT ?_|(refine DT ?_ ?_<;>intro hc<;>try (exfalso;omega))|fail)
      repeat' (first|(refine QT ?_;clear hA a;intro a hA)|(refine SAT (qk 1 n) hA hH ?_;clear hH;intro w hH)|refine CT ?_|fail)
      exact wB (vs:=qk 1 n) (.inl rfl) rfl hA rfl rfl rfl hH (zD MEMT) (RsQ.same (by rw [pl_10 hk,hp]<;>rfl) rfl (QV_num hn) (WSt.drop1 (WSt.drop1 (WSt.drop1 ⟨oO,cO,oS,cS,sds,hH.perm PMT,hQ⟩))))
    · (refine ENT (N:=224) Tryz.func125 Tryz.ntmps125 ?_;intro a hA)
      repeat' (first|(refine XT ?_;apply XE;(first|(apply zC;rfl;rfl;decide;omega;exact hspL)|(apply zF;rfl;exact zP MEMT hr (hvk))|(apply zK (cs:=(qz).toArray);rfl;exact FLT;rfl));clear hA a;intro a hA)|(refine QT ?_;clear hA a;intro a hA)|(refine BT ?_;clear hA hH;rintro _ w ⟨bN,rfl,hH⟩ a hA)|(refine SAT (qz) hA hH ?_;clear hH;intro w hH)|refine CT ?_|(refine DT ?_ ?_<;>intro hc<;>try (exfalso;omega))|fail)
      exact wB (vs:=qz) (.inl rfl) rfl hA rfl rfl rfl hH (zD MEMT) (RsQ.stk (by rw [pl_10 hk,n_tg hkd]<;>rfl) rfl (WSt.drop1 (WSt.drop1 (WSt.drop1 ⟨oO,cO,oS,cS,sds,hH.perm PMT,hQ⟩))))
  · have hw:=hwant.trans (w_1 (g:=g) (mine:=0) (by omega)).1
    obtain ⟨v0,hq0,hc0⟩:=hq.nth (i:=0) (by omega)
    have hvk:=qC hq0 hc0
    by_cases hkd:yW (zS l 0)=5
    · obtain ⟨n,y,hp⟩:=k_tg hkd
      rw [hp,QV] at hq0
      obtain ⟨ot,kt,yvs,rfl,hn,hrt,hqy⟩:=hq0
      have hc04:=hc0 4 _ rfl
      have hspT:Sp ot 1:=(hrt w (hH.frz MEMT)).sp (sz:=5) hqy.len (by omega)
      (refine ENT (N:=224) Tryz.func125 Tryz.ntmps125 ?_;intro a hA)
      repeat' (first|(refine XT ?_;apply XE;(first|(apply zC;rfl;rfl;decide;omega;first|exact hspL|exact hspT)|(apply zF;rfl;exact zP MEMT hr (hvk))|(apply zF;rfl;exact zP MEMT hr (hc04))|(apply zA (vs:=yvs);rfl;exact hqy.len;exact yF MEMT hrt (fun i v h=>by rw [show Int.toNat 0*5+i=i from Nat.zero_add i];exact h)));clear hA a;intro a hA)|(refine QT ?_;clear hA a;intro a hA)|(refine BT ?_;clear hA hH;rintro _ w ⟨bN,rfl,hH⟩ a hA)|(apply zT hA rfl rfl;apply zI (vs:=yvs);rfl;rfl;exact hH;(repeat constructor);exact hqy.len;rfl;exact hqy.one;clear hH;rintro _ w hH)|refine CT ?_|(refine DT ?_ ?_<;>intro hc<;>try (exfalso;omega))|fail)
      exact wB (vs:=yvs) (sz:=5) (.inl rfl) rfl hA rfl rfl hqy.len hH (zD MEMT) (RsQ.same (by rw [pl_11 hk,hp]<;>rfl) rfl hqy (WSt.drop1 (WSt.drop1 (WSt.drop1 ⟨oO,cO,oS,cS,sds,hH.perm PMT,hQ⟩))))
    · (refine ENT (N:=224) Tryz.func125 Tryz.ntmps125 ?_;intro a hA)
      repeat' (first|(refine XT ?_;apply XE;(first|(apply zC;rfl;rfl;decide;omega;exact hspL)|(apply zF;rfl;exact zP MEMT hr (hvk))|(apply zK (cs:=(qz).toArray);rfl;exact FLT;rfl));clear hA a;intro a hA)|(refine QT ?_;clear hA a;intro a hA)|(refine BT ?_;clear hA hH;rintro _ w ⟨bN,rfl,hH⟩ a hA)|(refine SAT (qz) hA hH ?_;clear hH;intro w hH)|refine CT ?_|(refine DT ?_ ?_<;>intro hc<;>try (exfalso;omega))|fail)
      exact wB (vs:=qz) (.inl rfl) rfl hA rfl rfl rfl hH (zD MEMT) (RsQ.stk (by rw [pl_11 hk,n_tg hkd]<;>rfl) rfl (WSt.drop1 (WSt.drop1 (WSt.drop1 ⟨oO,cO,oS,cS,sds,hH.perm PMT,hQ⟩))))
  · have hw:=hwant.trans (w_3 (g:=g) (mine:=0) (by omega)).1
    obtain ⟨v0,hq0,hc0⟩:=hq.nth (i:=0) (by omega)
    obtain ⟨v1,hq1,hc1⟩:=hq.nth (i:=1) (by omega)
    have hvk:=qC hq0 hc0
    have hvk1:=qC hq1 hc1
    by_cases hkd:yW (zS l 0)=2∧yW (zS l 1)=2
    · obtain ⟨s,hp⟩:=fD hkd.1
      obtain ⟨u,hp2⟩:=fD hkd.2
      rw [hp] at hvk
      rw [hp2] at hvk1
      rw [hp,QV] at hq0
      rw [hp2,QV] at hq1
      obtain ⟨rfl,hs⟩:=hq0
      obtain ⟨rfl,hu⟩:=hq1
      have hc02:=hc0 2 _ rfl
      have hc12:=hc1 2 _ rfl
      (refine ENT (N:=224) Tryz.func125 Tryz.ntmps125 ?_;intro a hA)
      repeat' (first|(refine GT ?_ ?_<;>intro hg<;>clear hA a<;>intro a hA<;>(first|exact FA|replace hg:=dTr hg|replace hg:=dFa hg|skip))|(refine XT ?_;apply XE;(first|(apply zC;rfl;rfl;decide;omega;exact hspL)|(apply zF;rfl;exact zP MEMT hr (hvk))|(apply zF;rfl;exact zP MEMT hr (hvk1)));clear hA a;intro a hA)|(refine QT ?_;clear hA a;intro a hA)|(refine BT ?_;clear hA hH;rintro _ w ⟨bN,rfl,hH⟩ a hA)|refine CT ?_|(refine DT ?_ ?_<;>intro hc<;>try (exfalso;omega))|fail)
      · exact absurd rfl (by assumption:yW (Vl.txt s)≠2)
      (refine zN [(0,1),(1,1),(2,1),(3,1),(4,1),(5,1),(6,1),(7,1),(8,1),(9,0)] [10,11] mixed (by decide +kernel) hH ?_;replace hH:=hH.drew)
      repeat' (first|(refine XT ?_;apply XE;(first|(apply zC;rfl;rfl;decide;omega;exact hspL)|(apply zF;rfl;exact zP MEMT hr (hc02))|(apply zF;rfl;exact zP MEMT hr (hc12))|(apply uK;rfl;rfl));clear hA a;intro a hA)|(refine QT ?_;clear hA a;intro a hA)|fail)
      (refine yC hA rfl rfl rfl (by decide) (zE rfl rfl rfl (cR _ (eqS s u))) ?_;clear hA;rintro _ w ⟨rfl,hk⟩;replace hH:=hH.keep hk;clear hk;refine ⟨STT,?_⟩;intro a hA)
      repeat' (first|(refine QT ?_;clear hA a;intro a hA)|(apply yB hA rfl rfl rfl;apply zI (vs:=qk 1 (tru (eqS s u)));rfl;rfl;exact hH;(repeat constructor);(repeat rfl);clear hH;rintro _ w hH)|refine CT ?_|fail)
      exact wB (vs:=qk 1 (tru (eqS s u))) (.inl rfl) rfl hA rfl rfl rfl hH (zD MEMT) (RsQ.same (by rw [pl_12 hk,hp,hp2]<;>rfl) rfl (QV_num (by unfold tru iok;split<;>omega)) (WSt.drop1 (WSt.drop1 (WSt.drop1 ⟨oO,cO,oS,cS,sds,hH.perm PMT,hQ⟩))))
    · have hst2:yD r l caps wd=stk wd:=by
        rw [pl_12 hk]
        by_cases h0:yW (zS l 0)=2
        · rw [gX (x:=zS l 1) (fun h=>hkd ⟨h0,h⟩)]
          cases asTxt (zS l 0)<;>rfl
        · rw [gX h0]
      (refine ENT (N:=224) Tryz.func125 Tryz.ntmps125 ?_;intro a hA)
      repeat' (first|(refine GT ?_ ?_<;>intro hg<;>clear hA a<;>intro a hA<;>(first|exact FA|replace hg:=dTr hg|replace hg:=dFa hg|skip))|(refine XT ?_;apply XE;(first|(apply zC;rfl;rfl;decide;omega;exact hspL)|(apply zF;rfl;exact zP MEMT hr (hvk))|(apply zF;rfl;exact zP MEMT hr (hvk1))|(apply zK (cs:=(qz).toArray);rfl;exact FLT;rfl));clear hA a;intro a hA)|(refine QT ?_;clear hA a;intro a hA)|(refine BT ?_;clear hA hH;rintro _ w ⟨bN,rfl,hH⟩ a hA)|(refine SAT (qz) hA hH ?_;clear hH;intro w hH)|refine CT ?_|(refine DT ?_ ?_<;>intro hc<;>try (exfalso;omega))|fail)
      · exact wB (vs:=qz) (.inl rfl) rfl hA rfl rfl rfl hH (zD MEMT) (RsQ.stk hst2 rfl (WSt.drop1 (WSt.drop1 (WSt.drop1 ⟨oO,cO,oS,cS,sds,hH.perm PMT,hQ⟩))))
      · exact wB (vs:=qz) (.inl rfl) rfl hA rfl rfl rfl hH (zD MEMT) (RsQ.stk hst2 rfl (WSt.drop1 (WSt.drop1 (WSt.drop1 ⟨oO,cO,oS,cS,sds,hH.perm PMT,hQ⟩))))
end
end Go.Proofs.YtenlcdokaadobaaGreatDoor
