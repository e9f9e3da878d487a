/-
  The document's check of graphs, whole. Conditions: none.
  What comes of graphs by the document is what ssa.Run tells. Conditions: none.
  What the bound of '..UptoSaid' gives. Conditions: none.
  What is handed in, taken apart, with what the bound of '..UptoSaid' gives. Conditions: none.
  Graphs handed in. Conditions: none.
  SsaRuns: the law. Conditions: none.
  The frame of a law's proof, where what is handed in is not great and tables are laid ('..UptoCardSaid'). Conditions: none.
  What the laid table gives: strconv.FormatInt. Conditions: none.
-/
import Derived.Test.YtenlcdokaadobaaGreatDoorRowRunsMg11
import Derived.Test.YtenlcdokaadobaaGreatDoorRowRunsMg12
import Derived.Test.YtenlcdokaadobaaGreatDoorRowRunsMg4
import Derived.Test.YtenlcdokaadobaaGreatDoorRowRunsMg10
import Derived.Test.YtenlcdokaadobaaGreatDoorRows
import Derived.Test.YtenlcdokaadobaaGreatDoorRowRunsMg1
import Derived.Test.YtenlcdokaadobaaGreatDoorRowRunsMg2
import Derived.LaidLaws
import Derived.LaidMore
import Derived.Stop.Joined
import Derived.LaidHandle
import Derived.Test.YtenlcdokaadobaaGreatDoorRowRunsMg6
import Derived.Lib.LaidTab
set_option maxHeartbeats 64000000
set_option maxRecDepth 10000
namespace Go.Proofs.YtenlcdokaadobaaGreatDoor
open Go Go.Fw
set_option linter.unusedVariables false
structure BlQ (g:Grs) (f:Gr) (cs:List Int) (n:Nat) (bl:Blc):Prop where
  ins:∀(i:Nat) (x:Ins),bl.is.l[i]?=some x→FormP g cs f.caps x.r∧∀a∈x.r.a.l,atS g (vK (BS f n) bl i) a
  ends:∀a∈bl.e.a.l,atS g (vK (BS f n) bl bl.is.l.length) a
  edges:∀t∈bl.e.to.l,∀a∈t.a.l,atS g (vK (BS f n) bl bl.is.l.length) a
theorem gr_of {g:Grs} {cs:List Int} {f:Gr} (hs:ShP f) (hb:∀(n:Nat) (bl:Blc),f.bs.l[n]?=some bl→BlQ g f cs n bl):GrP g cs f:=
  ⟨hs.ne,fun n bl h=>⟨(hs.blk n bl h).c,⟨fun h0=>by
    subst h0
    have h1:=hs.first
    rw [List.getD_eq_getElem?_getD,h] at h1
    exact List.length_eq_zero_iff.1 h1,(hb n bl h).ins,(hs.blk n bl h).e,(hb n bl h).ends,fun t ht=>⟨((hs.blk n bl h).t t ht).1,((hs.blk n bl h).t t ht).2.1,((hs.blk n bl h).t t ht).2.2,(hb n bl h).edges t ht⟩⟩⟩,hs.ev⟩
theorem gr_sh {g:Grs} {cs:List Int} {f:Gr} (h:GrP g cs f):ShP f:=
  ⟨h.ne,by
    have h0:=List.getElem?_eq_getElem h.ne
    rw [List.getD_eq_getElem?_getD,h0]
    exact List.length_eq_zero_iff.2 ((h.blk 0 _ h0).2.first rfl),fun n bl hb=>⟨(h.blk n bl hb).2.end_,(h.blk n bl hb).1,fun t ht=>⟨((h.blk n bl hb).2.edges t ht).1,((h.blk n bl hb).2.edges t ht).2.1,((h.blk n bl hb).2.edges t ht).2.2.1⟩⟩,h.ev⟩
theorem gr_q {g:Grs} {cs:List Int} {f:Gr} (h:GrP g cs f) {n:Nat} {bl:Blc} (hb:f.bs.l[n]?=some bl):BlQ g f cs n bl:=
  ⟨(h.blk n bl hb).2.ins,(h.blk n bl hb).2.ends,fun t ht=>((h.blk n bl hb).2.edges t ht).2.2.2⟩
theorem grN_le {g:Grs} {f:Gr} (h:f∈g.fs.l):grN f≤rW g:=by
  unfold rW
  generalize g.fs.l=l at h
  induction l with
  |nil=>cases h
  | cons x l ih=>
    rw [List.map_cons,List.sum_cons]
    rcases List.mem_cons.1 h with rfl|h
    · omega
    · have:=ih h;omega
theorem sh_edgs {f:Gr} (h:ShP f):EdgS f:=fun m bl hb t ht=>⟨((h.blk m bl hb).t t ht).1,((h.blk m bl hb).t t ht).2.1⟩
theorem st_at {l:List Ins} {k:Nat} {x:Ins} (h:l[k]?=some x) (i:Nat) (v:Value) (hv:(zX x.r)[i]?=some v):(flat wV l)[k*5+1+i]?=some v:=by
  rw [Nat.add_assoc]
  refine yL (off:=1+i) xY h ?_
  rw [Nat.add_comm]
  exact hv
theorem all_f {l:List Gr} {p:Gr→Prop} (h:∀(k:Nat) f,l[k]?=some f→k<l.length→p f):∀f∈l,p f:=fun f hf=>by
  obtain ⟨k,hk⟩:=List.getElem?_of_mem hf
  exact h k f hk (List.getElem?_eq_some_iff.1 hk).1
theorem nx_k {α:Type} {l:List α} {p:Nat→α→Prop} {i:Nat} {x:α} (hx:l[i]?=some x) (h:∀k y,l[k]?=some y→k<i→p k y) (hp:p i x):∀k y,l[k]?=some y→k<i+1→p k y:=fun k y hy hk=>by
  by_cases e:k=i
  · subst e
    rw [hx] at hy
    cases hy
    exact hp
  · exact h k y hy (by omega)
section
attribute [local irreducible] Code.wp wpList Calls Ex Op1 sat bat blk cb own Go.Fw.mp Go.Fw.mpO Go.Fw.mpI Go.Fw.mpE Go.Fw.itr HS Rd Ret wkD Hp Cl Cls Exit.then Exit.inBlock Exit.noGoto bodyPost Go.Fw.flat wk2 Go.Fw.all Go.Fw.owns wpOp
attribute [local irreducible] sk mpK sko mvO xM geS xC cmS evs

theorem bB (w0:World) (g:Grs) (hR:RdGs w0 g) (hl:g.fs.l.length≤100000) (hs:SzG 1048576 g) :
    Ret Tryz.prog 15 #[.agg (zZ g).toArray] w0 (fun v w=>∃b,v= .bool b∧(b=true↔MayP g)∧Kp w0 noM w):=by
  have hH:HS w0 noM [] w0:=HS.init w0 noM
  have hspF:Sp g.fs.o g.fs.l.length:=hR.1.1.sp (sz:=2) (zH wM _) (by omega)
  (refine ENT (N:=160) Tryz.func15 Tryz.ntmps15 ?_;intro a hA)
  repeat' (first|(refine XT ?_;apply XE;(first|(apply zK (cs:=(xF none 0 0 g).toArray);rfl;exact FLT;rfl));clear hA a;intro a hA)|(refine QT ?_;clear hA a;intro a hA)|(refine BT ?_;clear hA hH;rintro _ w ⟨bN,rfl,hH⟩ a hA)|(refine LT ?_;clear hA hH;rintro _ w ⟨oN,rfl,hH⟩ a hA)|(refine SAT (xF none 0 0 g) hA hH ?_;clear hH;intro w hH)|refine CT ?_|fail)
  obtain ⟨b3,hb3⟩:∃x,x=bN:=⟨_,rfl⟩
  subst hb3
  obtain ⟨b1,oA0,hH,hA2⟩:∃b1 oA0,HS w0 noM [cb b3 34 (xF none 0 0 g),own 3 1 oA0 0 0 (flat Fw.encI ((g.fs.l.take 0).map Gr.caps)),cb b1 25 (zZ g)] w∧Sl 160 [(5,.int .i64 (0:Nat)),(4,.slice oA0 0 0),(3,.pointer (some (bat b3 0))),(1,.pointer (some (bat b1 0))),(2,.bool false)] a:=⟨bN,oN,(by rw [List.take_zero,List.map_nil,fK];exact hH.perm PMT),(hA.sub SBT)⟩
  clear hA
  refine zU (S:=Nat) (fun i a w=>∃oF cF oA cA fs,(i≤g.fs.l.length∧fs.length=i∧fs.map Prod.snd=((g.fs.l.take i).map Gr.caps))∧HS w0 noM [cb b3 34 (xF oF i cF g),cb b1 25 (zZ g),own 72 12 oF i cF (flat qQ fs),own 3 1 oA i cA (flat Fw.encI ((g.fs.l.take i).map Gr.caps)),fzI (fun w=>∀p∈fs,Rd w p.1 (zV at0))] w∧Sl 160 [(5,.int .i64 i),(4,.slice oA i cA),(3,.pointer (some (bat b3 0))),(1,.pointer (some (bat b1 0))),(2,.bool false)] a) (fun i=>g.fs.l.length - i)
    (fun a w=>∃oF cF oA cA fs,(fs.length=g.fs.l.length∧fs.map Prod.snd=g.fs.l.map Gr.caps)∧HS w0 noM [cb b3 34 (xF oF g.fs.l.length cF g),cb b1 25 (zZ g),own 72 12 oF g.fs.l.length cF (flat qQ fs),own 3 1 oA g.fs.l.length cA (flat Fw.encI (g.fs.l.map Gr.caps)),fzI (fun w=>∀p∈fs,Rd w p.1 (zV at0))] w∧Sl 160 [(4,.slice oA g.fs.l.length cA),(3,.pointer (some (bat b3 0))),(1,.pointer (some (bat b1 0))),(2,.bool false)] a) 0
    ⟨none,0,oA0,0,[],⟨Nat.zero_le _,rfl,rfl⟩,((HS.nil_flat qQ (HS.fz_nil (K:=fun w=>∀p∈([]:List (Option Addr × Int)),Rd w p.1 (zV at0)) hH (fun w p hp=>absurd hp List.not_mem_nil)) 72 12).perm PMT),hA2⟩ ?_ ?_
  · clear hA2 hH
    rintro i a w ⟨oF,cF,oA,cA,fs,⟨hi,hfl,hfc⟩,hH,hA⟩
    by_cases hlt:i<g.fs.l.length
    rotate_left
    · obtain rfl:i=g.fs.l.length:=by omega
      rw [List.take_length] at hfc hH
      repeat' (first|(refine QT ?_;clear hA a;intro a hA)|refine CT ?_|(refine DT ?_ ?_<;>intro hc<;>try (exfalso;omega))|fail)
      exact ⟨oF,cF,oA,cA,fs,⟨hfl,hfc⟩,hH,(hA.sub SBT)⟩
    obtain ⟨f,hf⟩:∃x,g.fs.l[i]?=some x:=⟨_,List.getElem?_eq_getElem hlt⟩
    have hvc:(flat wE g.fs.l)[i*2+0]?=some (.int .i64 f.caps):=yL (off:=0) wM hf rfl
    have hcl:=nL (l:=g.fs.l) hi
    repeat' (first|(refine QT ?_;clear hA a;intro a hA)|refine CT ?_|(refine DT ?_ ?_<;>intro hc<;>try (exfalso;omega))|fail)
    have hST:HS w0 noM [cb b3 34 (xF oF i cF g),cb b1 25 (zZ g)] w:=HS.left (H1:=[_,_]) hH
    (refine zN (H:=[_,_]) [(0,1),(1,1),(2,1),(3,1),(4,1),(5,1),(6,1),(7,1),(8,1),(9,0),(10,1),(11,1),(12,0),(13,0),(14,1)] [15] mixed (by decide +kernel) (hST) ?_;replace hH:=hH.drew)
    clear hST
    repeat' (first|(refine XT ?_;apply XE;(first|(apply zB;rfl;rfl;omega;exact hspF)|(apply zF;rfl;exact yG hR.1.1 id hvc)|(apply zK (cs:=(zV at0).toArray);rfl;exact FLT;rfl));clear hA a;intro a hA)|(refine QT ?_;clear hA a;intro a hA)|(refine DLT ?_;clear hA hH;rintro _ w ⟨oN,rfl,hH⟩;refine ⟨STT,?_⟩;intro a hA)|fail)
    (apply yC hA rfl rfl rfl (by decide);apply zQ (xs:=zV at0) (vs:=[.agg (zV at0).toArray]);rfl;rfl;exact (Cats.cn (cs:=zV at0) Cats.nil);rfl;rfl;rfl;exact hH;clear hA hH;rintro _ w ⟨oN,rfl,hH⟩;refine ⟨HS.left (H1:=[_,_]) hH.tail,?_⟩;intro a hA)
    obtain ⟨oB,hoB⟩:∃x,x=oN:=⟨_,rfl⟩
    subst hoB
    (refine qS hA rfl rfl rfl (by decide) (yZ (szs:=[(0,1),(1,1),(2,1),(3,1),(4,1),(5,4),(9,1),(10,1)]) (cs:=(encB oB).toArray) (xS (by (repeat (first|exact SzL.nil|refine SzL.cons ⟨_,rfl,by decide⟩ ?_)))) rfl rfl) ?_;clear hA a;intro a hA)
    (refine qS hA rfl rfl rfl (by decide) (yZ (szs:=[(0,1),(1,11)]) (cs:=(xR oB f.caps).toArray) (xS (.cons ⟨_,rfl,by decide⟩ (.cons ⟨_,rfl,by decide⟩ .nil))) rfl (fill_F oB f.caps _ rfl)) ?_;clear hA a;intro a hA)
    obtain ⟨fc,hfc2⟩:∃x,x=xR oB f.caps:=⟨_,rfl⟩
    have hfl2:fc.length=12:=by rw [hfc2];rfl
    have hfo:fc.all (·.oneCell')=true:=by rw [hfc2];rfl
    rw [←hfc2] at hA
    have hcats:Cats 12 [.agg fc.toArray] fc:=by
      have h:=Cats.cn (cs:=fc) Cats.nil
      rw [hfl2,List.append_nil] at h
      exact h
    (apply yC hA rfl rfl rfl (by decide);apply zQ (xs:=fc) (vs:=[.agg fc.toArray]);rfl;rfl;exact hcats;rfl;rfl;rfl;exact hH;clear hA hH;rintro _ w ⟨oL,rfl,hH⟩;refine ⟨HS.left (H1:=[_,_]) hH.tail.tail,?_⟩;intro a hA)
    (apply yC hA rfl rfl rfl (by decide);apply yE;rfl;rfl;exact hH;exact MEMT;exact (hH.own_rd (List.Mem.head _));exact hfl2;rfl;decide;exact hfo;(unfold maxLen;omega);omega;clear hA;rintro _ w ⟨oN,cN,rfl,hH2⟩;clear hH;have hH:=hH2 _ (by (repeat constructor));clear hH2;refine ⟨HS.left (H1:=[_,_]) hH.tail.tail,?_⟩;intro a hA)
    rw [hfc2,show xR oB f.caps=qQ (oB,f.caps) from rfl,←vQ] at hH
    obtain ⟨oF2,hoF2⟩:∃x,x=oN:=⟨_,rfl⟩
    subst hoF2
    obtain ⟨cF2,hcF2⟩:∃x,x=cN:=⟨_,rfl⟩
    subst hcF2
    repeat' (first|(refine QT ?_;clear hA a;intro a hA)|refine CT ?_|fail)
    (apply yB hA rfl rfl rfl;apply zG (cs':=xF oF2 (i+1) cF2 g);rfl;rfl;rfl;exact hH;(repeat constructor);clear hH;rintro _ w hH)
    replace hH:=hH.tail
    repeat' (first|(refine XT ?_;apply XE;(first|(apply zB;rfl;rfl;omega;exact hspF)|(apply zF;rfl;exact yG hR.1.1 id hvc));clear hA a;intro a hA)|(refine QT ?_;clear hA a;intro a hA)|(refine LT ?_;clear hA hH;rintro _ w ⟨oN,rfl,hH⟩ a hA)|(refine AT ?_;clear hA;rintro _ w ⟨oN,cN,rfl,hH2⟩ a hA;clear hH;have hH:=(hH2 _ (by (repeat constructor))).tail;clear hH2)|refine CT ?_|fail)
    rw [uJ,←tB hf] at hH
    have hH2:=(hH.perm (H':=own 65 2 oB 1 1 (zV at0)::fzI (fun w=>∀p∈fs,Rd w p.1 (zV at0))::cb b3 34 (xF oF2 (i+1) cF2 g)::cb b1 25 (zZ g)::own 72 12 oF2 (i+1) cF2 (flat qQ (fs++[(oB,f.caps)]))::own 3 1 oN (i+1) cN (flat Fw.encI ((g.fs.l.take (i+1)).map Gr.caps))::[]) PMT).fz_own.fz_and.fz_mono (K2:=fun w=>∀p∈fs++[(oB,f.caps)],Rd w p.1 (zV at0)) (fun w ⟨h1,h2⟩ p hp=>by
      rcases List.mem_append.1 hp with hp|hp
      · exact h2 p hp
      · rw [List.mem_singleton] at hp
        subst hp
        exact h1)
    exact ⟨i+1,⟨oF2,cF2,oN,cN,fs++[(oB,f.caps)],⟨hlt,by rw [List.length_append,hfl];rfl,by rw [List.map_append,hfc,tB hf];rfl⟩,hH2.perm PMT,(hA.sub SBT)⟩,by omega⟩
  clear hA2 hH
  rintro a w ⟨oF,cF,oA,cA,fs,⟨hfl,hfc⟩,hH,hA⟩
  have hk0:=hH.kp
  have hsp:=eB w oF cF fs g (hH.own_rd (T:=72) MEMT) (hH.fz (K:=fun w=>∀p∈fs,Rd w p.1 (zV at0)) MEMT) (by omega) (hR.2.2.1.keep hk0) (hR.2.2.2.1.keep hk0) (hR.2.2.2.2.1.keep hk0) (hR.2.2.2.2.2.keep hk0)
  rw [hfl,hfc] at hsp
  repeat' (first|(refine QT ?_;clear hA a;intro a hA)|refine CT ?_|fail)
  (refine zJ hA rfl rfl (by decide) (zE rfl rfl rfl hsp) ?_;clear hA;rintro _ w ⟨bm,rfl,hbm,hk⟩ a hA;replace hH:=hH.keep hk;clear hk hsp hk0)
  cases bm with
  | false=>
    repeat' (first|(refine GT ?_ ?_<;>intro hg<;>clear hA a<;>intro a hA<;>(first|exact FA|replace hg:=dTr hg|replace hg:=dFa hg|skip))|(refine QT ?_;clear hA a;intro a hA)|refine CT ?_|fail)
    exact rt1 (.inl rfl) rfl hA rfl ⟨_,rfl,sP (fun h=>(by cases hbm.2 h.anf)),hH.kp⟩
  |true=>
  have hanf:=hbm.1 rfl
  repeat' (first|(refine GT ?_ ?_<;>intro hg<;>clear hA a<;>intro a hA<;>(first|exact FA|replace hg:=dTr hg|replace hg:=dFa hg|skip))|(refine QT ?_;clear hA a;intro a hA)|refine CT ?_|fail)
  (refine zJ hA rfl rfl (by decide) (zE rfl rfl rfl (Parts_spec _ g 65536 (by decide) (hR.keep hH.kp) hs)) ?_;clear hA;rintro _ w ⟨np,rfl,hn,hk⟩ a hA;replace hH:=hH.keep hk;clear hk)
  repeat' (first|(refine QT ?_;clear hA a;intro a hA)|refine CT ?_|(refine DT ?_ ?_<;>intro hc<;>try (exfalso;omega))|fail)
  · exact rt1 (.inl rfl) rfl hA rfl ⟨_,rfl,sP (fun h=>(by have:=hn.2 h.size;omega)),hH.kp⟩
  have hsz:rW g≤65536:=hn.1 (by omega)
  obtain ⟨cl,hcl⟩:∃x,x=g.fs.l.map Gr.caps:=⟨_,rfl⟩
  have hcll:cl.length=g.fs.l.length:=by rw [hcl,List.length_map]
  obtain ⟨hH3,hA3⟩:HS w0 noM [cb b3 34 (xF oF cl.length cF g),own 3 1 oA cl.length cA (flat Fw.encI cl),cb b1 25 (zZ g)] w∧Sl 160 [(7,.int .i64 (0:Nat)),(4,.slice oA cl.length cA),(3,.pointer (some (bat b3 0))),(1,.pointer (some (bat b1 0))),(2,.bool false)] a:=by
    rw [hcll]
    refine ⟨?_,(hA.sub SBT)⟩
    rw [hcl]
    exact HS.left (H1:=[_,_,_]) (H2:=[_,_]) (hH.perm PMT)
  clear hA hH hbm hfl hfc fs
  refine zU (S:=Nat) (fun i a w=>(i≤g.fs.l.length∧∀k f,g.fs.l[k]?=some f→k<i→GrP g cl f)∧HS w0 noM [cb b3 34 (xF oF cl.length cF g),own 3 1 oA cl.length cA (flat Fw.encI cl),cb b1 25 (zZ g)] w∧Sl 160 [(7,.int .i64 i),(4,.slice oA cl.length cA),(3,.pointer (some (bat b3 0))),(1,.pointer (some (bat b1 0))),(2,.bool false)] a) (fun i=>g.fs.l.length - i)
    (fun a w=>(∀f∈g.fs.l,GrP g cl f)∧HS w0 noM [] w∧Sl 160 [] a) 0 ⟨⟨Nat.zero_le _,fun k f hk h=>absurd h (Nat.not_lt_zero _)⟩,hH3,hA3⟩ ?_ ?_
  · clear hA3 hH3
    rintro i a w ⟨⟨hi,hgr⟩,hH,hA⟩
    by_cases hlt:i<g.fs.l.length
    rotate_left
    · obtain rfl:i=g.fs.l.length:=by omega
      repeat' (first|(refine QT ?_;clear hA a;intro a hA)|refine CT ?_|(refine DT ?_ ?_<;>intro hc<;>try (exfalso;omega))|fail)
      exact ⟨all_f hgr,hH.drop_,(hA.sub SBT)⟩
    obtain ⟨f,hf⟩:∃x,g.fs.l[i]?=some x:=⟨_,List.getElem?_eq_getElem hlt⟩
    have hfm:=List.mem_of_getElem? hf
    have hRf:=hR.2.1 f hfm
    have hfb:=hs.bs f hfm
    have hto:∀bl∈f.bs.l,bl.e.to.l.length≤1048576:=fun bl h=>(hs.bl f hfm bl h).et
    have hvf:=yI wM hf
    repeat' (first|(refine XT ?_;apply XE;(first|(apply zA (vs:=wE f);rfl;rfl;exact yP hR.1.1 id hvf)|(apply zB;rfl;rfl;omega;exact hspF));clear hA a;intro a hA)|(refine QT ?_;clear hA a;intro a hA)|(refine BT ?_;clear hA hH;rintro _ w ⟨bN,rfl,hH⟩ a hA)|(refine SAT (wE f) hA hH ?_;clear hH;intro w hH)|refine CT ?_|(refine DT ?_ ?_<;>intro hc<;>try (exfalso;omega))|fail)
    obtain ⟨b8,hb8⟩:∃x,x=bN:=⟨_,rfl⟩
    subst hb8
    (refine zJ hA rfl rfl (by decide) (zE rfl rfl rfl (shape_spec _ f (hRf.keep hH.kp) hfb hto (Nat.le_trans (grN_le hfm) hsz))) ?_;clear hA;rintro _ w ⟨bs,rfl,hbs,hk⟩ a hA;replace hH:=hH.keep hk;clear hk)
    cases bs with
    | false=>
      repeat' (first|(refine QT ?_;clear hA a;intro a hA)|refine CT ?_|fail)
      exact rt1 (.inl rfl) rfl hA rfl ⟨_,rfl,sP (fun h=>(by cases hbs.2 (gr_sh (h.gr f hfm)))),hH.kp⟩
    |true=>
    have hsh:=hbs.1 rfl
    clear hbs
    have hE:=sh_edgs hsh
    have hspB:Sp f.bs.o f.bs.l.length:=hRf.1.1.sp (sz:=6) (zH yS _) (by omega)
    repeat' (first|(refine QT ?_;clear hA a;intro a hA)|refine CT ?_|fail)
    refine zU (S:=Nat) (fun n a w=>(n≤f.bs.l.length∧∀k bl,f.bs.l[k]?=some bl→k<n→BlQ g f cl k bl)∧HS w0 noM [cb b8 44 (wE f),cb b3 34 (xF oF cl.length cF g),own 3 1 oA cl.length cA (flat Fw.encI cl),cb b1 25 (zZ g)] w∧Sl 160 [(9,.int .i64 n),(8,.pointer (some (bat b8 0))),(7,.int .i64 i),(4,.slice oA cl.length cA),(3,.pointer (some (bat b3 0))),(1,.pointer (some (bat b1 0))),(2,.bool false)] a) (fun n=>f.bs.l.length - n)
      (fun a w=>GrP g cl f∧HS w0 noM [cb b3 34 (xF oF cl.length cF g),own 3 1 oA cl.length cA (flat Fw.encI cl),cb b1 25 (zZ g)] w∧Sl 160 [(7,.int .i64 i),(4,.slice oA cl.length cA),(3,.pointer (some (bat b3 0))),(1,.pointer (some (bat b1 0))),(2,.bool false)] a) 0 ⟨⟨Nat.zero_le _,fun k bl hk h=>absurd h (Nat.not_lt_zero _)⟩,hH.perm PMT,(hA.sub SBT)⟩ ?_ ?_
    · clear hA hH
      rintro n a w ⟨⟨hn,hbq⟩,hH,hA⟩
      by_cases hltn:n<f.bs.l.length
      rotate_left
      · obtain rfl:n=f.bs.l.length:=by omega
        repeat' (first|(refine QT ?_;clear hA a;intro a hA)|refine CT ?_|(refine DT ?_ ?_<;>intro hc<;>try (exfalso;omega))|fail)
        exact ⟨gr_of hsh (fun k bl hk=>hbq k bl hk (List.getElem?_eq_some_iff.1 hk).1),hH.tail,(hA.sub SBT)⟩
      obtain ⟨bl,hbl⟩:∃bl,f.bs.l[n]?=some bl:=⟨_,List.getElem?_eq_getElem hltn⟩
      have hbm:=List.mem_of_getElem? hbl
      have hRb:=hRf.2 bl hbm
      have hsb:=hs.bl f hfm bl hbm
      have hbi:=hsb.is
      have hbt:=hsb.et
      have hvb:=yI yS hbl
      have hspI:Sp bl.is.o bl.is.l.length:=hRb.2.1.1.sp (sz:=5) (zH xY _) (by omega)
      have hspE:Sp bl.e.to.o bl.e.to.l.length:=hRb.2.2.2.2.2.1.1.sp (sz:=2) (zH xW _) (by omega)
      repeat' (first|(refine XT ?_;apply XE;(first|(apply zA (vs:=zL bl);rfl;rfl;exact yP hRf.1.1 id hvb)|(apply zB;rfl;rfl;omega;exact hspB));clear hA a;intro a hA)|(refine QT ?_;clear hA a;intro a hA)|(refine BT ?_;clear hA hH;rintro _ w ⟨bN,rfl,hH⟩ a hA)|(refine SAT (zL bl) hA hH ?_;clear hH;intro w hH)|refine CT ?_|(refine DT ?_ ?_<;>intro hc<;>try (exfalso;omega))|fail)
      obtain ⟨b10,hb10⟩:∃x,x=bN:=⟨_,rfl⟩
      subst hb10
      refine zU (S:=Nat) (fun k a w=>(k≤bl.is.l.length∧∀j x,bl.is.l[j]?=some x→j<k→FormP g cl f.caps x.r∧∀a∈x.r.a.l,atS g (vK (BS f n) bl j) a)∧HS w0 noM [cb b10 53 (zL bl),cb b8 44 (wE f),cb b3 34 (xF oF cl.length cF g),own 3 1 oA cl.length cA (flat Fw.encI cl),cb b1 25 (zZ g)] w∧Sl 160 [(11,.int .i64 k),(10,.pointer (some (bat b10 0))),(9,.int .i64 n),(8,.pointer (some (bat b8 0))),(7,.int .i64 i),(4,.slice oA cl.length cA),(3,.pointer (some (bat b3 0))),(1,.pointer (some (bat b1 0))),(2,.bool false)] a) (fun k=>bl.is.l.length - k)
        (fun a w=>(∀(j:Nat) x,bl.is.l[j]?=some x→FormP g cl f.caps x.r∧∀a∈x.r.a.l,atS g (vK (BS f n) bl j) a)∧HS w0 noM [cb b10 53 (zL bl),cb b8 44 (wE f),cb b3 34 (xF oF cl.length cF g),own 3 1 oA cl.length cA (flat Fw.encI cl),cb b1 25 (zZ g)] w∧Sl 160 [(10,.pointer (some (bat b10 0))),(9,.int .i64 n),(8,.pointer (some (bat b8 0))),(7,.int .i64 i),(4,.slice oA cl.length cA),(3,.pointer (some (bat b3 0))),(1,.pointer (some (bat b1 0))),(2,.bool false)] a) 0 ⟨⟨Nat.zero_le _,fun k bl hk h=>absurd h (Nat.not_lt_zero _)⟩,hH,(hA.sub SBT)⟩ ?_ ?_
      · clear hA hH
        rintro k a w ⟨⟨hk,hins⟩,hH,hA⟩
        by_cases hltk:k<bl.is.l.length
        rotate_left
        · obtain rfl:k=bl.is.l.length:=by omega
          repeat' (first|(refine QT ?_;clear hA a;intro a hA)|refine CT ?_|(refine DT ?_ ?_<;>intro hc<;>try (exfalso;omega))|fail)
          exact ⟨fun j x hx=>hins j x hx (List.getElem?_eq_some_iff.1 hx).1,hH,(hA.sub SBT)⟩
        obtain ⟨x,hx⟩:∃x,bl.is.l[k]?=some x:=⟨_,List.getElem?_eq_getElem hltk⟩
        have hRi:=hRb.2.2.1 x (List.mem_of_getElem? hx)
        have hvs:=st_at hx
        have hva:=in_a hx
        repeat' (first|(refine QT ?_;clear hA a;intro a hA)|refine CT ?_|(refine DT ?_ ?_<;>intro hc<;>try (exfalso;omega))|fail)
        (refine zO [(0,1),(1,1),(2,1),(3,1),(4,1),(5,1),(6,1),(7,1),(8,1),(9,1),(10,0),(11,1)] mixed (by decide +kernel) hH ?_;replace hH:=hH.drew)
        repeat' (first|(refine XT ?_;apply XE;(first|(apply zA (vs:=zX x.r);rfl;rfl;exact yP hRb.2.1.1 id hvs)|(apply zB;rfl;rfl;omega;exact hspI));clear hA a;intro a hA)|(refine QT ?_;clear hA a;intro a hA)|fail)
        (refine yC hA rfl rfl rfl (by decide) (zE rfl rfl rfl (Form_spec _ oF cl.length cF g oA cA cl f.caps x.r (hH.own_rd (T:=3) MEMT) (by omega) (hRi.1.keep hH.kp))) ?_;clear hA;rintro _ w ⟨bf,rfl,hbf,hk2⟩;replace hH:=hH.keep hk2;clear hk2;refine ⟨STT,?_⟩;intro a hA)
        cases bf with
        | false=>
          repeat' (first|(refine QT ?_;clear hA a;intro a hA)|refine CT ?_|fail)
          (refine zO [(0,1),(1,1),(2,1),(3,1),(4,1),(5,1),(6,1),(7,1),(8,1),(9,1),(10,1),(11,1),(12,1),(13,1),(14,0),(15,1),(16,1)] mixed (by decide +kernel) hH ?_;replace hH:=hH.drew)
          repeat' (first|(refine GT ?_ ?_<;>intro hg<;>clear hA a<;>intro a hA<;>(first|exact FA|replace hg:=dTr hg|replace hg:=dFa hg|skip))|(refine QT ?_;clear hA a;intro a hA)|refine CT ?_|(refine DSK ?_;clear hA a;intro a hA)|fail)
          exact rt1 (.inl rfl) rfl hA rfl ⟨_,rfl,sP (fun h=>(by cases hbf.2 (((hcl▸gr_q (h.gr f hfm) hbl:BlQ g f cl n bl)).ins k x hx).1)),hH.kp⟩
        |true=>
        repeat' (first|(refine QT ?_;clear hA a;intro a hA)|refine CT ?_|fail)
        (refine zO [(0,1),(1,1),(2,1),(3,1),(4,1),(5,1),(6,1),(7,1),(8,1),(9,1),(10,1),(11,1),(12,1),(13,1),(14,0),(15,1),(16,1)] mixed (by decide +kernel) hH ?_;replace hH:=hH.drew)
        repeat' (first|(refine GT ?_ ?_<;>intro hg<;>clear hA a<;>intro a hA<;>(first|exact FA|replace hg:=dTr hg|replace hg:=dFa hg|skip))|(refine XT ?_;apply XE;(first|(apply zF;rfl;exact yG hRb.2.1.1 id hva)|(apply zB;rfl;rfl;omega;exact hspI));clear hA a;intro a hA)|(refine QT ?_;clear hA a;intro a hA)|fail)
        (refine yC hA rfl rfl rfl (by decide) (zE rfl rfl rfl (qX _ g f n k bl x.r.a (hRf.keep hH.kp) hE hbl hfb hto (hRi.2.keep hH.kp))) ?_;clear hA;rintro _ w ⟨b2,rfl,hb2,hk⟩;replace hH:=hH.keep hk;clear hk;refine ⟨STT,?_⟩;intro a hA)
        cases b2 with
        | false=>
          repeat' (first|(refine QT ?_;clear hA a;intro a hA)|refine CT ?_|fail)
          exact rt1 (.inl rfl) rfl hA rfl ⟨_,rfl,sP (fun h=>(by cases hb2.2 (((hcl▸gr_q (h.gr f hfm) hbl:BlQ g f cl n bl)).ins k x hx).2)),hH.kp⟩
        |true=>
        repeat' (first|(refine QT ?_;clear hA a;intro a hA)|refine CT ?_|fail)
        exact ⟨k+1,⟨⟨hltk,nx_k hx hins ⟨hbf.1 rfl,hb2.1 rfl⟩⟩,hH,(hA.sub SBT)⟩,by omega⟩
      clear hA hH
      rintro a w ⟨hins,hH,hA⟩
      repeat' (first|(refine QT ?_;clear hA a;intro a hA)|refine CT ?_|fail)
      (refine zJ hA rfl rfl (by decide) (zE rfl rfl rfl (qX _ g f n bl.is.l.length bl bl.e.a (hRf.keep hH.kp) hE hbl hfb hto (hRb.2.2.2.1.keep hH.kp))) ?_;clear hA;rintro _ w ⟨b2,rfl,hb2,hk⟩ a hA;replace hH:=hH.keep hk;clear hk)
      cases b2 with
      | false=>
        repeat' (first|(refine QT ?_;clear hA a;intro a hA)|refine CT ?_|fail)
        exact rt1 (.inl rfl) rfl hA rfl ⟨_,rfl,sP (fun h=>(by cases hb2.2 ((hcl▸gr_q (h.gr f hfm) hbl:BlQ g f cl n bl)).ends)),hH.kp⟩
      |true=>
      have hends:=hb2.1 rfl
      clear hb2
      repeat' (first|(refine QT ?_;clear hA a;intro a hA)|refine CT ?_|fail)
      refine zU (S:=Nat) (fun k a w=>(k≤bl.e.to.l.length∧∀j t,bl.e.to.l[j]?=some t→j<k→∀a∈t.a.l,atS g (vK (BS f n) bl bl.is.l.length) a)∧HS w0 noM [cb b10 53 (zL bl),cb b8 44 (wE f),cb b3 34 (xF oF cl.length cF g),own 3 1 oA cl.length cA (flat Fw.encI cl),cb b1 25 (zZ g)] w∧Sl 160 [(13,.int .i64 k),(10,.pointer (some (bat b10 0))),(9,.int .i64 n),(8,.pointer (some (bat b8 0))),(7,.int .i64 i),(4,.slice oA cl.length cA),(3,.pointer (some (bat b3 0))),(1,.pointer (some (bat b1 0))),(2,.bool false)] a) (fun k=>bl.e.to.l.length - k)
        (fun a w=>(∀t∈bl.e.to.l,∀a∈t.a.l,atS g (vK (BS f n) bl bl.is.l.length) a)∧HS w0 noM [cb b8 44 (wE f),cb b3 34 (xF oF cl.length cF g),own 3 1 oA cl.length cA (flat Fw.encI cl),cb b1 25 (zZ g)] w∧Sl 160 [(9,.int .i64 n),(8,.pointer (some (bat b8 0))),(7,.int .i64 i),(4,.slice oA cl.length cA),(3,.pointer (some (bat b3 0))),(1,.pointer (some (bat b1 0))),(2,.bool false)] a) 0 ⟨⟨Nat.zero_le _,fun k bl hk h=>absurd h (Nat.not_lt_zero _)⟩,hH,(hA.sub SBT)⟩ ?_ ?_
      · clear hA hH
        rintro k a w ⟨⟨hk,hto2⟩,hH,hA⟩
        by_cases hltk:k<bl.e.to.l.length
        rotate_left
        · obtain rfl:k=bl.e.to.l.length:=by omega
          repeat' (first|(refine QT ?_;clear hA a;intro a hA)|refine CT ?_|(refine DT ?_ ?_<;>intro hc<;>try (exfalso;omega))|fail)
          refine ⟨fun t ht=>?_,hH.tail,(hA.sub SBT)⟩
          obtain ⟨j,hj⟩:=List.getElem?_of_mem ht
          exact hto2 j t hj (List.getElem?_eq_some_iff.1 hj).1
        obtain ⟨x,hx⟩:∃x,bl.e.to.l[k]?=some x:=⟨_,List.getElem?_eq_getElem hltk⟩
        have hxm:=List.mem_of_getElem? hx
        have hRx:=hRb.2.2.2.2.2.2 x hxm
        have hva:=ed_a hx
        repeat' (first|(refine QT ?_;clear hA a;intro a hA)|refine CT ?_|(refine DT ?_ ?_<;>intro hc<;>try (exfalso;omega))|fail)
        (refine zO [(0,1),(1,1),(2,1),(3,1),(4,1),(5,1),(6,1),(7,1),(8,1),(9,1),(10,1),(11,1),(12,1),(13,0),(14,1)] mixed (by decide +kernel) hH ?_;replace hH:=hH.drew)
        repeat' (first|(refine XT ?_;apply XE;(first|(apply zF;rfl;exact yG hRb.2.2.2.2.2.1.1 id hva)|(apply zB;rfl;rfl;omega;exact hspE));clear hA a;intro a hA)|(refine QT ?_;clear hA a;intro a hA)|fail)
        (refine yC hA rfl rfl rfl (by decide) (zE rfl rfl rfl (qX _ g f n bl.is.l.length bl x.a (hRf.keep hH.kp) hE hbl hfb hto (hRx.keep hH.kp))) ?_;clear hA;rintro _ w ⟨b2,rfl,hb2,hk⟩;replace hH:=hH.keep hk;clear hk;refine ⟨STT,?_⟩;intro a hA)
        cases b2 with
        | false=>
          repeat' (first|(refine QT ?_;clear hA a;intro a hA)|refine CT ?_|fail)
          exact rt1 (.inl rfl) rfl hA rfl ⟨_,rfl,sP (fun h=>(by cases hb2.2 (((hcl▸gr_q (h.gr f hfm) hbl:BlQ g f cl n bl)).edges x hxm))),hH.kp⟩
        |true=>
        repeat' (first|(refine QT ?_;clear hA a;intro a hA)|refine CT ?_|fail)
        exact ⟨k+1,⟨⟨hltk,nx_k (p:=fun _ (t:Edg)=>∀a∈t.a.l,atS g (vK (BS f n) bl bl.is.l.length) a) hx hto2 (hb2.1 rfl)⟩,hH,(hA.sub SBT)⟩,by omega⟩
      clear hA hH
      rintro a w ⟨hto2,hH,hA⟩
      repeat' (first|(refine QT ?_;clear hA a;intro a hA)|refine CT ?_|fail)
      exact ⟨n+1,⟨⟨hltn,nx_k hbl hbq ⟨hins,hends,hto2⟩⟩,hH,(hA.sub SBT)⟩,by omega⟩
    clear hA hH
    rintro a w ⟨hg,hH,hA⟩
    repeat' (first|(refine QT ?_;clear hA a;intro a hA)|refine CT ?_|fail)
    exact ⟨i+1,⟨⟨hlt,nx_k (p:=fun _ f=>GrP g cl f) hf hgr hg⟩,hH,(hA.sub SBT)⟩,by omega⟩
  clear hA3 hH3
  rintro a w ⟨hall,hH,hA⟩
  repeat' (first|(refine QT ?_;clear hA a;intro a hA)|refine CT ?_|fail)
  exact rt1 (.inl rfl) rfl hA rfl ⟨_,rfl,iff_of_true rfl ⟨hanf,hcl▸hall,hsz⟩,hH.kp⟩
end
theorem fill_R (g:Grs) (fu:Int) (b:Nat) (z:Array Value) (hz:z.size=7):Instr.fill (([(0,5),(5,1),(6,1)]:List (Nat × Nat))[·]?) z [(0,.agg (zZ g).toArray),(1,.int .i64 fu),(2,.pointer (some (bat b 0)))]=some (xI g fu b).toArray:=by
  obtain ⟨l⟩:=z
  match l,hz with
  | [z0,z1,z2,z3,z4,z5,z6],_=>simp [Instr.fill,Value.cells,zZ,xI]
theorem rout_end {c:Dx} {g:Grs} {kd:Int} {n:Nat} {o:Ow} {wd:Wd} {ov:List Value} (h:OwV c g o ov):sB g kd o wd=((sN g kd n (aZ g kd o wd [])).1,ofB (sN g kd n (aZ g kd o wd [])).2.2.out,(sN g kd n (aZ g kd o wd [])).2.1):=by
  cases o with
  | fine y=>
    unfold sB aZ pO
    dsimp only
    cases uQ g kd y<;>rfl
  | raised k=>
    have h1:=h.rs
    unfold sB aZ vH
    dsimp only
    rw [if_neg (by omega)]
    rfl
  |fuel=>rfl
  |stuck=>rfl
theorem rrun_out {c:Dx} {g:Grs} {kd fuel:Int} {s:ByteArray} {n n':Nat} {o:Ow} {wd:Wd} {ov:List Value} (hM:MayP g) (hn:fuel.toNat=n) (h:OwV c g o ov) (hr:CRun g kd n (.fn 0 []) (.num 0) ⟨s,[],[]⟩ n' o wd):qA g kd s fuel=sB g kd o wd:=by
  rw [kV hM,hn,rout_end (n:=n') (kd:=kd) (wd:=wd) h,←hr []]
  rfl
theorem rrun_out0 {g:Grs} {kd fuel:Int} {s:ByteArray} (hM:MayP g) (hf:fuel.toNat=0):qA g kd s fuel=sB g kd .fuel ⟨s,[],[]⟩:=by rw [kV hM,hf];rfl
section
attribute [local irreducible] Code.wp wpList Calls Ex Op1 sat bat blk cb own Go.Fw.mp Go.Fw.mpO Go.Fw.mpI Go.Fw.mpE Go.Fw.itr HS Rd Ret wkD Hp Cl Cls Exit.then Exit.inBlock Exit.noGoto bodyPost Go.Fw.flat wk2 Go.Fw.all Go.Fw.owns wpOp
attribute [local irreducible] sk mpK sko mvO xM xC frz w63 xX ofB vA QV QVs EQ yD OwV qA sB

-- what is handed back:from the state (fuel $1,d,o,wd,ov) on
theorem bA (w0:World) (g:Grs) (kd:Int) (s:ByteArray) (fuel:Int) (hR:RdGs w0 g) (hl:g.fs.l.length≤100000) (hs:SzG 1048576 g) (hxs:∀s∈g.xs.l,s.size≤4611686018427387904) (hfu:fuel≤3000) :
    Ret Tryz.prog 13 #[.agg (zZ g).toArray,.int .i64 kd,.string s,.int .i64 fuel] w0 (fun v w=>v= .agg (uC (qA g kd s fuel)).toArray∧Kp w0 noM w):=by
  have hH:HS w0 noM [] w0:=HS.init w0 noM
  (refine ENT (N:=44) Tryz.func13 Tryz.ntmps13 ?_;intro a hA)
  repeat' (first|(refine XT ?_;apply XE;(first|(apply zA (vs:=zZ g);rfl;rfl;exact zD MEMT));clear hA a;intro a hA)|(refine QT ?_;clear hA a;intro a hA)|(refine BT ?_;clear hA hH;rintro _ w ⟨bN,rfl,hH⟩ a hA)|refine CT ?_|fail)
  have key:∃b4 b8,HS w0 noM [cb b8 29 (xB 0 empS empS),cb b4 25 (zZ g)] w∧Sl 44 [(13,.agg (zZ g).toArray),(8,.pointer (some (bat b8 0))),(4,.pointer (some (bat b4 0))),(1,.int .i64 kd),(2,.string s),(3,.int .i64 fuel)] a:=⟨_,_,hH,(hA.sub SBT)⟩
  clear hA hH
  obtain ⟨b4,b8,hH,hA⟩:=key
  (refine zJ hA rfl rfl (by decide) (zE rfl rfl rfl (bB _ g (hR.keep hH.kp) hl hs)) ?_;clear hA;rintro _ w ⟨may,rfl,hmay,hk⟩ a hA;replace hH:=hH.keep hk;clear hk)
  cases may with
  | false=>
    have hno:¬MayP g:=fun h=>by cases hmay.2 h
    repeat' (first|(refine XT ?_;apply XE;(first|(apply zK (cs:=(xB 4 empS empS).toArray);rfl;exact FLT;rfl));clear hA a;intro a hA)|(refine QT ?_;clear hA a;intro a hA)|(refine SAT (xB 4 empS empS) hA hH ?_;clear hH;intro w hH)|refine CT ?_|fail)
    exact rH (vs:=xB 4 empS empS) (.inl rfl) rfl hA rfl rfl hH (zD (by exact MEMT)) ⟨by rw [runP_f hno];rfl,hH.kp⟩
  |true=>
  have hM:=hmay.1 rfl
  repeat' (first|(refine XT ?_;apply XE;(first|(apply zA (vs:=zZ g);rfl;rfl;exact zD MEMT)|(apply zK (cs:=(xE g s none 0 0 none 0 0).toArray);rfl;exact FLT;rfl));clear hA a;intro a hA)|(refine QT ?_;clear hA a;intro a hA)|(refine BT ?_;clear hA hH;rintro _ w ⟨bN,rfl,hH⟩ a hA)|refine CT ?_|fail)
  obtain ⟨bW,hb3⟩:∃x,x=bN:=⟨_,rfl⟩;rw [←hb3] at hA hH;clear hb3 bN
  refine sU hA hH rfl rfl (by decide) (yZ (szs:=[(0,5),(5,1),(6,1)]) (cs:=(xI g fuel bW).toArray) (xS (by (repeat (first|exact SzL.nil|refine SzL.cons ⟨_,rfl,by decide⟩ ?_)))) rfl (fill_R g fuel bW _ rfl)) ?_
  clear hA a
  intro a hA
  repeat' (first|(refine XT ?_;apply XE;(first|(apply zK (cs:=(qk 3 0).toArray);rfl;exact FLT;rfl));clear hA a;intro a hA)|(refine QT ?_;clear hA a;intro a hA)|(refine BT ?_;clear hA hH;rintro _ w ⟨bN,rfl,hH⟩ a hA)|(refine zJ hA rfl rfl (by decide) (zE rfl rfl rfl (rI _ _)) ?_;clear hA;rintro _ w ⟨rfl,hk⟩ a hA;replace hH:=hH.keep hk;clear hk)|refine CT ?_|fail)
  obtain ⟨bR,hb3⟩:∃x,x=bN:=⟨_,rfl⟩;rw [←hb3] at hA hH;clear hb3 bN
  obtain ⟨c,hc⟩:∃c:Dx,c=⟨fun w=>Kp w0 noM w,[],65536,g.fs.l.map Gr.caps⟩:=⟨_,rfl⟩
  have hcp:c.cp=g.fs.l.map Gr.caps:=by rw [hc]
  have hS:RSt w0 c bR bW g fuel ⟨s,[],[]⟩ (cb b8 29 (xB 0 empS empS)::cb b4 25 (zZ g)::[]) w:=by
    refine ⟨none,0,none,0,[],(((hH.frz_nil (K:=c.K) (fun w h=>by rw [hc];exact h)).nil_flat zY 5 1).nil_flat Fw.encS 101 1).perm PMT,rfl,by rw [hc];rfl,fun i l d hl he=>?_⟩
    rw [List.getElem?_nil] at hl
    cases hl
  have hqf:QV c (.fn 0 []) (qk 3 0):=by
    unfold QV
    refine ⟨none,0,[],rfl,⟨Int.le_refl _,?_,?_⟩,fun w hw=>kW _ _,by unfold QVs;rfl⟩
    · rw [hcp];have:=hM.anf.pos;omega
    · rw [hcp];exact hM.anf.c0.symm
  have hqx:QV c (.num 0) (qk 1 0):=QV_num ⟨by decide,by decide⟩
  by_cases hf0:0≤fuel
  · obtain ⟨n,hn⟩:∃n,n=fuel.toNat:=⟨_,rfl⟩
    rw [show fuel=(n:Int) by omega] at hS
    have hok:Cok w0 g c n ⟨s,[],[]⟩:=⟨hcp,fun w h=>by rw [hc] at h;exact h,by rw [hc];exact Nat.le_refl _,(by rw [hc];show 65536+n≤100000;omega),(by show 0+n≤100000;omega),(by show 0+n≤100000;omega)⟩
    (refine zJ hA rfl rfl (by decide) (zE rfl rfl rfl (rcall_spec w0 g kd bR bW hM hR n w _ c ⟨s,[],[]⟩ (.fn 0 []) (.num 0) (qk 3 0) (qk 1 0) hS hok hqf hqx)) ?_;clear hA hS hH;rintro _ w ⟨o,d,n',wd,ov,rfl,hov,hB,⟨oO,cO,oS,cS,sds,hH,hQ⟩,hr⟩ a hA)
    rw [rrun_out hM hn.symm hov hr]
    have hovl:=hov.len
    have hovo:=hov.one
    repeat' (first|(refine QT ?_;clear hA a;intro a hA)|(refine BT ?_;clear hA hH;rintro _ w ⟨bN,rfl,hH⟩ a hA)|(apply zT hA rfl rfl;apply zI (vs:=ov);rfl;rfl;exact hH;(repeat constructor);exact hovl;rfl;exact hovo;clear hH;rintro _ w hH)|refine CT ?_|fail)
    obtain ⟨b10,hb3⟩:∃x,x=bN:=⟨_,rfl⟩;rw [←hb3] at hA hH;clear hb3 bN
    replace hH:=HS.left (H1:=[_,_,_,_,_,_,_]) (hH.perm (H':=cb b10 103 ov::cb bR 100 (xI g ((n':Int)) bW)::cb bW 98 (xE g wd.inp oO wd.out.length cO oS wd.st.length cS)::own 5 1 oO wd.out.length cO (flat zY wd.out)::own 101 1 oS wd.st.length cS (flat Fw.encS sds)::frz w0 d.K::cb b8 29 (xB 0 empS empS)::_) PMT)
    have hST:HS w0 noM (cb b10 103 ov::cb bR 100 (xI g ((n':Int)) bW)::[]) w:=HS.left (H1:=[_,_]) hH
    refine xO (qs [0,1,2,3,4,5,6] (.two 7 8 (.one 8 (.one 9 .nil)) (.one 7 (.one 9 .nil)))) (fun a w=>∃b12,HS w0 noM [cb b12 29 (uC (sB g kd o wd)),cb b8 29 (xB 0 empS empS)] w∧Sl 44 [(12,.pointer (some (bat b12 0))),(8,.pointer (some (bat b8 0)))] a) mixed (by decide +kernel) hST ?_ ?_
    · clear hST
      replace hH:=hH.drew
      (repeat (apply yN hA rfl rfl rfl (by decide);(first|exact EXT|(apply zA (vs:=ov);rfl;exact hovl;exact zD MEMT));clear hA a;intro a hA))
      apply uP
      rotate_left
      · (apply yT hA rfl rfl rfl (by decide);apply yV;exact hH;clear hA hH;rintro _ w ⟨bN,rfl,hH⟩;refine ⟨HS.left (H1:=[_,_]) (hH.perm (H':=cb b10 103 ov::cb bR 100 (xI g ((n':Int)) bW)::_) PMT),?_⟩;intro a hA)
        (refine yT hA rfl rfl rfl (by decide) (zE rfl rfl rfl (Outcome2_spec w0 _ (cb b10 103 ov::cb bR 100 (xI g ((n':Int)) bW)::cb bN 29 _ ::cb b8 29 (xB 0 empS empS)::[]) d g kd o ov wd bW ⟨oO,cO,oS,cS,sds,hH.perm PMT,hQ⟩ hov hR.2.2.2.2.1 hxs)) ?_;clear hA hH;rintro _ w ⟨rfl,hH⟩;refine ⟨HS.left (H1:=[_,_]) hH,?_⟩;intro a hA)
        (apply yR hA rfl rfl rfl;apply zI (vs:=uC (sB g kd o wd));rfl;rfl;exact hH;(repeat constructor);(repeat rfl);clear hH;rintro _ w hH;refine ⟨HS.left (H1:=[_,_]) (hH.perm (H':=cb b10 103 ov::cb bR 100 (xI g ((n':Int)) bW)::_) PMT),?_⟩;apply xG;exact ⟨_,HS.left (H1:=[_,_]) (hH.perm PMT),(hA.sub SBT)⟩)
      (refine yT hA rfl rfl rfl (by decide) (zE rfl rfl rfl (Outcome2_spec w0 _ (cb b10 103 ov::cb bR 100 (xI g ((n':Int)) bW)::cb b8 29 (xB 0 empS empS)::[]) d g kd o ov wd bW ⟨oO,cO,oS,cS,sds,hH.perm PMT,hQ⟩ hov hR.2.2.2.2.1 hxs)) ?_;clear hA hH;rintro _ w ⟨rfl,hH⟩;refine ⟨HS.left (H1:=[_,_]) hH,?_⟩;intro a hA)
      (apply yT hA rfl rfl rfl (by decide);apply yV;exact hH;clear hA hH;rintro _ w ⟨bN,rfl,hH⟩;refine ⟨HS.left (H1:=[_,_]) (hH.perm (H':=cb b10 103 ov::cb bR 100 (xI g ((n':Int)) bW)::_) PMT),?_⟩;intro a hA)
      (apply yR hA rfl rfl rfl;apply zI (vs:=uC (sB g kd o wd));rfl;rfl;exact hH;(repeat constructor);(repeat rfl);clear hH;rintro _ w hH;refine ⟨HS.left (H1:=[_,_]) (hH.perm (H':=cb b10 103 ov::cb bR 100 (xI g ((n':Int)) bW)::_) PMT),?_⟩;apply xG;exact ⟨_,HS.left (H1:=[_,_]) (hH.perm PMT),(hA.sub SBT)⟩)
    clear hA hH hST
    rintro a w ⟨b12,hH,hA⟩
    repeat' (first|(refine XT ?_;apply XE;(first|(apply zA (vs:=uC (sB g kd o wd));rfl;rfl;exact zD MEMT));clear hA a;intro a hA)|(refine QT ?_;clear hA a;intro a hA)|(refine SAT (uC (sB g kd o wd)) hA hH ?_;clear hH;intro w hH)|refine CT ?_|fail)
    exact rH (vs:=uC (sB g kd o wd)) (.inl rfl) rfl hA rfl rfl hH (zD MEMT) ⟨rfl,hH.kp⟩
  · obtain ⟨wd,hwd⟩:∃wd:Wd,wd=⟨s,[],[]⟩:=⟨_,rfl⟩
    obtain ⟨d,rfl⟩:∃d,d=c:=⟨_,rfl⟩
    have hout:qA g kd s fuel=sB g kd .fuel wd:=by
      rw [hwd]
      exact rrun_out0 hM (by omega)
    rw [←hwd] at hS
    rw [hout]
    obtain ⟨o,ho⟩:∃o:Ow,o= .fuel:=⟨_,rfl⟩
    have hov:OwV d g o qz:=by rw [ho];exact OwV.fl d g
    obtain ⟨ov,hovq⟩:∃ov,ov=qz:=⟨_,rfl⟩
    have hk2:o.k=2:=by rw [ho];rfl
    (refine zJ hA rfl rfl (by decide) (zE rfl rfl rfl (bD w0 w _ d g fuel wd bR bW 0 [] (.num 0) (qk 3 0) (qk 1 0) (by omega) hS hcp hM hR hqf hqx)) ?_;clear hA hS hH;rintro _ w ⟨rfl,⟨oO,cO,oS,cS,sds,hH,hQ⟩⟩ a hA)
    rw [←hk2,←hovq] at hA
    rw [←hovq] at hov
    rw [←ho]
    have hovl:=hov.len
    have hovo:=hov.one
    repeat' (first|(refine QT ?_;clear hA a;intro a hA)|(refine BT ?_;clear hA hH;rintro _ w ⟨bN,rfl,hH⟩ a hA)|(apply zT hA rfl rfl;apply zI (vs:=ov);rfl;rfl;exact hH;(repeat constructor);exact hovl;rfl;exact hovo;clear hH;rintro _ w hH)|refine CT ?_|fail)
    obtain ⟨b10,hb3⟩:∃x,x=bN:=⟨_,rfl⟩;rw [←hb3] at hA hH;clear hb3 bN
    replace hH:=HS.left (H1:=[_,_,_,_,_,_,_]) (hH.perm (H':=cb b10 103 ov::cb bR 100 (xI g (fuel) bW)::cb bW 98 (xE g wd.inp oO wd.out.length cO oS wd.st.length cS)::own 5 1 oO wd.out.length cO (flat zY wd.out)::own 101 1 oS wd.st.length cS (flat Fw.encS sds)::frz w0 d.K::cb b8 29 (xB 0 empS empS)::_) PMT)
    have hST:HS w0 noM (cb b10 103 ov::cb bR 100 (xI g (fuel) bW)::[]) w:=HS.left (H1:=[_,_]) hH
    refine xO (qs [0,1,2,3,4,5,6] (.two 7 8 (.one 8 (.one 9 .nil)) (.one 7 (.one 9 .nil)))) (fun a w=>∃b12,HS w0 noM [cb b12 29 (uC (sB g kd o wd)),cb b8 29 (xB 0 empS empS)] w∧Sl 44 [(12,.pointer (some (bat b12 0))),(8,.pointer (some (bat b8 0)))] a) mixed (by decide +kernel) hST ?_ ?_
    · clear hST
      replace hH:=hH.drew
      (repeat (apply yN hA rfl rfl rfl (by decide);(first|exact EXT|(apply zA (vs:=ov);rfl;exact hovl;exact zD MEMT));clear hA a;intro a hA))
      apply uP
      rotate_left
      · (apply yT hA rfl rfl rfl (by decide);apply yV;exact hH;clear hA hH;rintro _ w ⟨bN,rfl,hH⟩;refine ⟨HS.left (H1:=[_,_]) (hH.perm (H':=cb b10 103 ov::cb bR 100 (xI g (fuel) bW)::_) PMT),?_⟩;intro a hA)
        (refine yT hA rfl rfl rfl (by decide) (zE rfl rfl rfl (Outcome2_spec w0 _ (cb b10 103 ov::cb bR 100 (xI g (fuel) bW)::cb bN 29 _ ::cb b8 29 (xB 0 empS empS)::[]) d g kd o ov wd bW ⟨oO,cO,oS,cS,sds,hH.perm PMT,hQ⟩ hov hR.2.2.2.2.1 hxs)) ?_;clear hA hH;rintro _ w ⟨rfl,hH⟩;refine ⟨HS.left (H1:=[_,_]) hH,?_⟩;intro a hA)
        (apply yR hA rfl rfl rfl;apply zI (vs:=uC (sB g kd o wd));rfl;rfl;exact hH;(repeat constructor);(repeat rfl);clear hH;rintro _ w hH;refine ⟨HS.left (H1:=[_,_]) (hH.perm (H':=cb b10 103 ov::cb bR 100 (xI g (fuel) bW)::_) PMT),?_⟩;apply xG;exact ⟨_,HS.left (H1:=[_,_]) (hH.perm PMT),(hA.sub SBT)⟩)
      (refine yT hA rfl rfl rfl (by decide) (zE rfl rfl rfl (Outcome2_spec w0 _ (cb b10 103 ov::cb bR 100 (xI g (fuel) bW)::cb b8 29 (xB 0 empS empS)::[]) d g kd o ov wd bW ⟨oO,cO,oS,cS,sds,hH.perm PMT,hQ⟩ hov hR.2.2.2.2.1 hxs)) ?_;clear hA hH;rintro _ w ⟨rfl,hH⟩;refine ⟨HS.left (H1:=[_,_]) hH,?_⟩;intro a hA)
      (apply yT hA rfl rfl rfl (by decide);apply yV;exact hH;clear hA hH;rintro _ w ⟨bN,rfl,hH⟩;refine ⟨HS.left (H1:=[_,_]) (hH.perm (H':=cb b10 103 ov::cb bR 100 (xI g (fuel) bW)::_) PMT),?_⟩;intro a hA)
      (apply yR hA rfl rfl rfl;apply zI (vs:=uC (sB g kd o wd));rfl;rfl;exact hH;(repeat constructor);(repeat rfl);clear hH;rintro _ w hH;refine ⟨HS.left (H1:=[_,_]) (hH.perm (H':=cb b10 103 ov::cb bR 100 (xI g (fuel) bW)::_) PMT),?_⟩;apply xG;exact ⟨_,HS.left (H1:=[_,_]) (hH.perm PMT),(hA.sub SBT)⟩)
    clear hA hH hST
    rintro a w ⟨b12,hH,hA⟩
    repeat' (first|(refine XT ?_;apply XE;(first|(apply zA (vs:=uC (sB g kd o wd));rfl;rfl;exact zD MEMT));clear hA a;intro a hA)|(refine QT ?_;clear hA a;intro a hA)|(refine SAT (uC (sB g kd o wd)) hA hH ?_;clear hH;intro w hH)|refine CT ?_|fail)
    exact rH (vs:=uC (sB g kd o wd)) (.inl rfl) rfl hA rfl rfl hH (zD MEMT) ⟨rfl,hH.kp⟩
end
theorem bulk_pos {H:Type} (d:DataW H):1≤Rows.uptoBulk d:=by
  cases d with
  |lit l=>cases l<;>simp [Rows.uptoBulk]
  |_=>simp [Rows.uptoBulk]
theorem mC {H:Type} {d:DataW H}:∀{l:List (DataW H)},d∈l→Rows.uptoBulk d≤Rows.uptoBulkAll l
  | x::l,h=>by
    rw [Rows.uptoBulkAll]
    rcases List.mem_cons.1 h with rfl|h
    · omega
    · have:=mC h;omega
theorem bulk_len {H:Type}:∀(l:List (DataW H)),l.length≤Rows.uptoBulkAll l
  | []=>Nat.zero_le _
  | x::l=>by
    rw [Rows.uptoBulkAll,List.length_cons]
    have:=bulk_pos x
    have:=bulk_len l
    omega
theorem bulk_of {H:Type} {ds:List (DataW H)} {d:DataW H} (hk:∃gs,Rows.uptoSmall H (ds++gs)=true) (hd:d∈ds):Rows.uptoBulk d≤1048576:=by
  obtain ⟨gs,hk⟩:=hk
  have h:Rows.uptoBulkAll (ds++gs)≤1048576:=dTr hk
  have:=mC (List.mem_append_left gs hd)
  omega
theorem bulk_slice {H:Type} {elems rest:List (DataW H)}:elems.length≤Rows.uptoBulk (.slice elems rest):=by
  rw [Rows.uptoBulk]
  have:=bulk_len elems
  omega
open Go Go.Fw Go.ChangeShapes Go.WideShapes Go.ChangeAt Go.RowKit Go.Deep
section
variable {H:Type} {uG:TypeId × Value→H} {w:World} {held:Bool}
def Opn (uG:TypeId × Value→H) (w:World) (held:Bool) (t:TypeId) {α:Type} (enc:α→List Value) (K:α→Prop):Prop:=
  ∀(fuel:Nat) (cs:List Value) (x:DataW H × List MemPlace),DataW.trod uG Tryz.prog w 0 (fun _=>true) held fuel t cs=some x→∃a,cs=enc a∧(Rows.uptoBulk x.1≤1048576→K a)
theorem sG {t:TypeId} {k:IntKind} [h:TIn Tryz.prog t k]:Opn uG w held t (fun n:Int=>[.int k n]) (fun _=>True):=fun fuel cs x hx=>by
  obtain ⟨n,rfl,_⟩:=DataW.trod_int h.eq hx
  exact ⟨n,rfl,fun _=>trivial⟩
theorem rd_of0 {a:Addr} {vs:List Value} (h:∀j v,vs[j]?=some v→w.cell? (a.add j)=some v):Rd w (some a) vs:=by
  cases vs with
  |nil=>exact ⟨fun h=>absurd h (by decide),fun j u h=>by simp at h⟩
  | cons v vs=>
    have h1:=World.cell?_spot (h 0 v rfl)
    have hs:a.spot=none:=by simpa [Addr.add] using h1
    refine ⟨fun _=>⟨a.block,a.off,by rw [←hs]⟩,fun j u hj=>?_⟩
    rw [←add_sat a hs]
    exact h j u hj
theorem opn_slice {t e:TypeId} [ht:TSl Tryz.prog t e] {α:Type} {enc:α→List Value} {K:α→Prop} {sz:Nat} (he:Opn uG w held e enc K) (hc:Tryz.prog.cellsOf e=sz) (hsz:0<sz) (hl:∀a,(enc a).length=sz) :
    Opn uG w held t (fun v:Option Addr × Nat × List α=>[.slice v.1 v.2.2.length v.2.1]) (fun v=>(Rd w v.1 (flat enc v.2.2)∧v.2.2.length≤v.2.1∧v.2.1≤maxLen)∧v.2.2.length≤1048576∧∀a∈v.2.2,K a):=fun fuel cs x hx=>by
  rcases DataW.trod_slice ht.eq hx with ⟨rfl,rfl⟩| ⟨a,len,cap,elems,rest,n,rfl,rfl,rfl,hb,hle,hm,hlen,hel,_,_⟩
  · exact ⟨(none,0,[]),rfl,fun _=>⟨⟨⟨fun h=>absurd h (Nat.lt_irrefl 0),fun j u h=>by simp [flat] at h⟩,Nat.le_refl _,Nat.zero_le _⟩,Nat.zero_le _,fun a ha=>absurd ha List.not_mem_nil⟩⟩
  · obtain ⟨l,hll,hp⟩:=lS (fun i (p:α)=>(∀j v,(enc p)[j]?=some v→w.cell? (a.add (i*sz+j))=some v)∧∀y,elems[i]?=some y→Rows.uptoBulk y.1≤1048576→K p) len (fun i hi=>by
      have h1:=hel i hi
      have h2:elems[i]?=some (elems[i]'(by omega)):=List.getElem?_eq_getElem (by omega)
      rw [h2,hc] at h1
      obtain ⟨cs',hcs,ht'⟩:=Option.bind_eq_some_iff.1 h1
      obtain ⟨_,hcl,hat⟩:=World.cells?_some hcs
      obtain ⟨p,rfl,hK⟩:=he _ _ _ ht'
      refine ⟨p,fun j v hj=>?_,fun y hy hbk=>?_⟩
      · have hjl:=(List.getElem?_eq_some_iff.1 hj).1
        rw [hl] at hjl
        rw [←Go.Deep.add_add,hat j hjl,hj]
      · rw [h2] at hy
        cases hy
        exact hK hbk)
    subst hll
    refine ⟨(some a,cap,l),rfl,fun hbk=>⟨⟨rd_of0 fun j v hj=>?_,hle,hm⟩,?_,fun p hp'=>?_⟩⟩
    · dsimp only at hj
      have hjl:=(List.getElem?_eq_some_iff.1 hj).1
      rw [zH hl] at hjl
      have hjq:j / sz<l.length:=Nat.div_lt_of_lt_mul (by rw [Nat.mul_comm];exact hjl)
      obtain ⟨p,hpp⟩:∃p,l[j / sz]?=some p:=⟨_,List.getElem?_eq_getElem hjq⟩
      have h6:=(hp _ _ hpp).1 (j % sz)
      have ej:j / sz*sz+j % sz=j:=by rw [Nat.mul_comm];exact Nat.div_add_mod j sz
      obtain ⟨u,hu⟩:∃u,(enc p)[j % sz]?=some u:=⟨_,List.getElem?_eq_getElem (by rw [hl];exact Nat.mod_lt _ hsz)⟩
      have h7:=yL hl hpp hu
      rw [ej,hj] at h7
      have h8:=h6 u hu
      rw [ej] at h8
      rw [h8,←Option.some.inj h7]
    · have:=bulk_slice (elems:=elems.map (·.1)) (rest:=rest.map (·.1))
      rw [List.length_map] at this
      dsimp only at hbk ⊢
      omega
    · dsimp only at hp' hbk
      obtain ⟨i,hi⟩:=List.getElem?_of_mem hp'
      have hil:=(List.getElem?_eq_some_iff.1 hi).1
      obtain ⟨y,hy⟩:∃y,elems[i]?=some y:=⟨_,List.getElem?_eq_getElem (by omega)⟩
      refine (hp i p hi).2 y hy ?_
      have h9:=mC (List.mem_map_of_mem (f:=fun x=>x.1) (List.mem_of_getElem? hy))
      rw [Rows.uptoBulk] at hbk
      omega
theorem vX {t:TypeId} {fl:List (Nat × Nat)} [ht:TSt Tryz.prog t fl] {fuel:Nat} {cs:List Value} {x:DataW H × List MemPlace} (hx:DataW.trod uG Tryz.prog w 0 (fun _=>true) held fuel t cs=some x) :
    ∃n,cs.length=Tryz.prog.cellsOf t∧∀(i ft off:Nat),fl[i]?=some (ft,off)→∃y:DataW H × List MemPlace,DataW.trod uG Tryz.prog w 0 (fun _=>true) held n ft ((cs.drop off).take (Tryz.prog.cellsOf ft))=some y∧(Rows.uptoBulk x.1≤1048576→Rows.uptoBulk y.1≤1048576):=by
  obtain ⟨fs,hfs,hfl⟩:=ht.eq
  obtain ⟨ys,n,rfl,rfl,hcl,hyl,hf⟩:=DataW.trod_struct hfs hx
  refine ⟨n,hcl,fun i ft off hi=>?_⟩
  rw [←hfl,List.getElem?_map] at hi
  obtain ⟨fd,hfd,e⟩:=Option.map_eq_some_iff.1 hi
  cases e
  have hfd2:fs[i]?=some fd:=by rw [←Array.getElem?_toList];exact hfd
  have h1:=hf i fd hfd2
  have hil:i<ys.length:=by
    rw [hyl]
    exact (Array.getElem?_eq_some_iff.1 hfd2).1
  rw [List.getElem?_eq_getElem hil] at h1
  refine ⟨_,h1,fun hbk=>?_⟩
  have h9:=mC (List.mem_map_of_mem (f:=fun x=>x.1) (List.getElem_mem hil))
  rw [Rows.uptoBulk] at hbk
  omega
theorem cut_at (cs:List Value) (off s:Nat):cs.drop off=(cs.drop off).take s++cs.drop (off+s):=by
  rw [←List.drop_drop]
  exact (List.take_append_drop s (cs.drop off)).symm
theorem eG {t:TypeId} {α β:Type} {enc:α→List Value} {K:α→Prop} {enc2:β→List Value} {K2:β→Prop} (h:Opn uG w held t enc K) (f:α→β) (he:∀a,enc a=enc2 (f a)) (hK:∀a,K a→K2 (f a)):Opn uG w held t enc2 K2:=fun fuel cs x hx=>by
  obtain ⟨a,rfl,hk⟩:=h fuel cs x hx
  exact ⟨f a,he a,fun hb=>hK a (hk hb)⟩
theorem opn_arg {t:TypeId} {α:Type} {enc:α→List Value} {K:α→Prop} (h:Opn uG w held t enc K) {v:Value} {d:DataW H} {p:List MemPlace} {ds:List (DataW H)} (hT:DataW.Trod uG Tryz.prog w 0 (fun _=>true) held t v d p) (hd:d∈ds) (hk:∃gs,Rows.uptoSmall H (ds++gs)=true) :
    ∃a,v.cells.toList=enc a∧K a:=by
  obtain ⟨fuel,hf⟩:=hT
  obtain ⟨a,he,hK⟩:=h fuel _ _ hf
  exact ⟨a,he,hK (bulk_of hk hd)⟩
end
structure AtB (b:Blc):Prop where
  is:∀i∈b.is.l,∀a∈i.r.a.l,iok a.n
  e:∀a∈b.e.a.l,iok a.n
  to:∀t∈b.e.to.l,∀a∈t.a.l,iok a.n
section
variable {H:Type} {uG:TypeId × Value→H} {w:World} {held:Bool}
structure BigG (g:Grs):Prop where
  sz:SzG 1048576 g
  xs:∀s∈g.xs.l,s.size≤1048576
  at_:∀f∈g.fs.l,∀b∈f.bs.l,AtB b
theorem bI {t:TypeId} [h:TSr Tryz.prog t]:Opn uG w held t (fun s:ByteArray=>[.string s]) (fun s=>s.size≤1048576):=fun fuel cs x hx=>by
  obtain ⟨n,rfl,hx2,_⟩:=DataW.trod_string h.eq hx
  refine ⟨n,rfl,fun hb=>?_⟩
  rw [hx2] at hb
  have hb2:n.data.toList.length+1≤1048576:=hb
  have h9:n.size=n.data.toList.length:=rfl
  show n.size≤1048576
  omega
theorem tO {cs A B:List Value} {o s o2:Nat} (z:o2=o+s) (e:(cs.drop o).take s=A) (h:cs.drop o2=B):cs.drop o=A++B:=by
  subst z
  rw [cut_at cs o s,e,h]
theorem cutn {cs:List Value} {o n:Nat} (h:cs.length=n) (z:n=o):cs.drop o=[]:=List.drop_eq_nil_of_le (by omega)
theorem vR {t e:TypeId} [ht:TSl Tryz.prog t e] {α:Type} {enc:α→List Value} {K:α→Prop} {sz:Nat} (he:Opn uG w held e enc K) (hc:Tryz.prog.cellsOf e=sz) (hsz:0<sz) (hl:∀a,(enc a).length=sz) :
    Opn uG w held t (fun v:Vec α=>[.slice v.o v.l.length v.c]) (fun v=>RdV w enc v∧v.l.length≤1048576∧∀a∈v.l,K a):=
  eG (opn_slice he hc hsz hl) (fun v=>⟨v.1,v.2.1,v.2.2⟩) (fun v=>rfl) (fun v h=>h)
theorem opn_iok {t:TypeId} [h:TIn Tryz.prog t .i64]:Opn uG w held t (fun n:Int=>[.int .i64 n]) iok:=fun fuel cs x hx=>by
  obtain ⟨n,rfl,hw⟩:=DataW.trod_int h.eq hx
  have hw2:(decide (IntKind.i64.min≤n) && decide (n≤IntKind.i64.max))=true:=hw.2
  rw [Bool.and_eq_true,decide_eq_true_eq,decide_eq_true_eq] at hw2
  exact ⟨n,rfl,fun _=>hw2⟩
theorem kX {t:TypeId} [h:TIn Tryz.prog t .i64]:Opn uG w held t Fw.encI (fun _=>True):=eG sG id (fun _=>rfl) (fun _ _=>trivial)
theorem nD {t:TypeId} [h:TSr Tryz.prog t]:Opn uG w held t yQ (fun s=>s.size≤1048576):=eG bI id (fun _=>rfl) (fun _ h=>h)
theorem eH:Opn uG w held 65 zV (fun a=>iok a.n):=fun fuel cs x hx=>by
  obtain ⟨n,hcl,hf⟩:=vX hx
  obtain ⟨y0,h0,b0⟩:=hf 0 _ _ rfl
  obtain ⟨a0,e0,k0⟩:=(sG) n _ _ h0
  obtain ⟨y1,h1,b1⟩:=hf 1 _ _ rfl
  obtain ⟨a1,e1,k1⟩:=(opn_iok) n _ _ h1
  refine ⟨⟨a0,a1⟩,tO (o2:=1) (by kernel_rfl) e0 (tO (o2:=2) (by kernel_rfl) e1 (cutn (o:=2) hcl (by kernel_rfl))),fun hb=>?_⟩
  have g0:=k0 (b0 hb)
  have g1:=k1 (b1 hb)
  exact g1
theorem opn_stp:Opn uG w held 57 zX (fun s=>(RdV w Fw.encI s.ns∧RdV w zV s.a)∧s.a.l.length≤1048576∧∀a∈s.a.l,iok a.n):=fun fuel cs x hx=>by
  obtain ⟨n,hcl,hf⟩:=vX hx
  obtain ⟨y0,h0,b0⟩:=hf 0 _ _ rfl
  obtain ⟨a0,e0,k0⟩:=(sG) n _ _ h0
  obtain ⟨y1,h1,b1⟩:=hf 1 _ _ rfl
  obtain ⟨a1,e1,k1⟩:=(sG) n _ _ h1
  obtain ⟨y2,h2,b2⟩:=hf 2 _ _ rfl
  obtain ⟨a2,e2,k2⟩:=(vR (kX) (by kernel_rfl) (by decide) Fw.encI_len) n _ _ h2
  obtain ⟨y3,h3,b3⟩:=hf 3 _ _ rfl
  obtain ⟨a3,e3,k3⟩:=(vR (eH) (by kernel_rfl) (by decide) xN) n _ _ h3
  refine ⟨⟨a0,a1,a2,a3⟩,tO (o2:=1) (by kernel_rfl) e0 (tO (o2:=2) (by kernel_rfl) e1 (tO (o2:=3) (by kernel_rfl) e2 (tO (o2:=4) (by kernel_rfl) e3 (cutn (o:=4) hcl (by kernel_rfl))))),fun hb=>?_⟩
  have g0:=k0 (b0 hb)
  have g1:=k1 (b1 hb)
  have g2:=k2 (b2 hb)
  have g3:=k3 (b3 hb)
  exact ⟨⟨g2.1,g3.1⟩,g3.2⟩
theorem opn_ins:Opn uG w held 59 wV (fun i=>RdIn w i∧i.r.a.l.length≤1048576∧∀a∈i.r.a.l,iok a.n):=fun fuel cs x hx=>by
  obtain ⟨n,hcl,hf⟩:=vX hx
  obtain ⟨y0,h0,b0⟩:=hf 0 _ _ rfl
  obtain ⟨a0,e0,k0⟩:=(sG) n _ _ h0
  obtain ⟨y1,h1,b1⟩:=hf 1 _ _ rfl
  obtain ⟨a1,e1,k1⟩:=(opn_stp) n _ _ h1
  refine ⟨⟨a0,a1⟩,tO (o2:=1) (by kernel_rfl) e0 (tO (o2:=5) (by kernel_rfl) e1 (cutn (o:=5) hcl (by kernel_rfl))),fun hb=>?_⟩
  have g0:=k0 (b0 hb)
  have g1:=k1 (b1 hb)
  exact g1
theorem opn_edg:Opn uG w held 61 uD (fun e=>RdV w zV e.a∧e.a.l.length≤1048576∧∀a∈e.a.l,iok a.n):=fun fuel cs x hx=>by
  obtain ⟨n,hcl,hf⟩:=vX hx
  obtain ⟨y0,h0,b0⟩:=hf 0 _ _ rfl
  obtain ⟨a0,e0,k0⟩:=(sG) n _ _ h0
  obtain ⟨y1,h1,b1⟩:=hf 1 _ _ rfl
  obtain ⟨a1,e1,k1⟩:=(vR (eH) (by kernel_rfl) (by decide) xN) n _ _ h1
  refine ⟨⟨a0,a1⟩,tO (o2:=1) (by kernel_rfl) e0 (tO (o2:=2) (by kernel_rfl) e1 (cutn (o:=2) hcl (by kernel_rfl))),fun hb=>?_⟩
  have g0:=k0 (b0 hb)
  have g1:=k1 (b1 hb)
  exact g1
theorem opn_en:Opn uG w held 51 vJ (fun e=>RdEn w e∧e.a.l.length≤1048576∧e.to.l.length≤1048576∧(∀t∈e.to.l,t.a.l.length≤1048576)∧(∀a∈e.a.l,iok a.n)∧∀t∈e.to.l,∀a∈t.a.l,iok a.n):=fun fuel cs x hx=>by
  obtain ⟨n,hcl,hf⟩:=vX hx
  obtain ⟨y0,h0,b0⟩:=hf 0 _ _ rfl
  obtain ⟨a0,e0,k0⟩:=(sG) n _ _ h0
  obtain ⟨y1,h1,b1⟩:=hf 1 _ _ rfl
  obtain ⟨a1,e1,k1⟩:=(vR (eH) (by kernel_rfl) (by decide) xN) n _ _ h1
  obtain ⟨y2,h2,b2⟩:=hf 2 _ _ rfl
  obtain ⟨a2,e2,k2⟩:=(vR (kX) (by kernel_rfl) (by decide) Fw.encI_len) n _ _ h2
  obtain ⟨y3,h3,b3⟩:=hf 3 _ _ rfl
  obtain ⟨a3,e3,k3⟩:=(vR (opn_edg) (by kernel_rfl) (by decide) xW) n _ _ h3
  refine ⟨⟨a0,a1,a2,a3⟩,tO (o2:=1) (by kernel_rfl) e0 (tO (o2:=2) (by kernel_rfl) e1 (tO (o2:=3) (by kernel_rfl) e2 (tO (o2:=4) (by kernel_rfl) e3 (cutn (o:=4) hcl (by kernel_rfl))))),fun hb=>?_⟩
  have g0:=k0 (b0 hb)
  have g1:=k1 (b1 hb)
  have g2:=k2 (b2 hb)
  have g3:=k3 (b3 hb)
  exact ⟨⟨g1.1,g2.1,g3.1,fun t ht=>(g3.2.2 t ht).1⟩,g1.2.1,g3.2.1,fun t ht=>(g3.2.2 t ht).2.1,g1.2.2,fun t ht=>(g3.2.2 t ht).2.2⟩
theorem opn_blc:Opn uG w held 53 zL (fun b=>RdBl w b∧SzB 1048576 b∧AtB b):=fun fuel cs x hx=>by
  obtain ⟨n,hcl,hf⟩:=vX hx
  obtain ⟨y0,h0,b0⟩:=hf 0 _ _ rfl
  obtain ⟨a0,e0,k0⟩:=(vR (kX) (by kernel_rfl) (by decide) Fw.encI_len) n _ _ h0
  obtain ⟨y1,h1,b1⟩:=hf 1 _ _ rfl
  obtain ⟨a1,e1,k1⟩:=(vR (opn_ins) (by kernel_rfl) (by decide) xY) n _ _ h1
  obtain ⟨y2,h2,b2⟩:=hf 2 _ _ rfl
  obtain ⟨a2,e2,k2⟩:=(opn_en) n _ _ h2
  refine ⟨⟨a0,a1,a2⟩,tO (o2:=1) (by kernel_rfl) e0 (tO (o2:=2) (by kernel_rfl) e1 (tO (o2:=6) (by kernel_rfl) e2 (cutn (o:=6) hcl (by kernel_rfl)))),fun hb=>?_⟩
  have g0:=k0 (b0 hb)
  have g1:=k1 (b1 hb)
  have g2:=k2 (b2 hb)
  exact ⟨⟨g0.1,g1.1,fun i hi=>(g1.2.2 i hi).1,g2.1⟩,⟨g0.2.1,g1.2.1,fun i hi=>(g1.2.2 i hi).2.1,g2.2.1,g2.2.2.1,g2.2.2.2.1⟩,⟨fun i hi=>(g1.2.2 i hi).2.2,g2.2.2.2.2.1,g2.2.2.2.2.2⟩⟩
theorem opn_gr:Opn uG w held 44 wE (fun g=>RdG w g∧g.bs.l.length≤1048576∧∀bl∈g.bs.l,SzB 1048576 bl∧AtB bl):=fun fuel cs x hx=>by
  obtain ⟨n,hcl,hf⟩:=vX hx
  obtain ⟨y0,h0,b0⟩:=hf 0 _ _ rfl
  obtain ⟨a0,e0,k0⟩:=(sG) n _ _ h0
  obtain ⟨y1,h1,b1⟩:=hf 1 _ _ rfl
  obtain ⟨a1,e1,k1⟩:=(vR (opn_blc) (by kernel_rfl) (by decide) yS) n _ _ h1
  refine ⟨⟨a0,a1⟩,tO (o2:=1) (by kernel_rfl) e0 (tO (o2:=2) (by kernel_rfl) e1 (cutn (o:=2) hcl (by kernel_rfl))),fun hb=>?_⟩
  have g0:=k0 (b0 hb)
  have g1:=k1 (b1 hb)
  exact ⟨⟨g1.1,fun b hb=>(g1.2.2 b hb).1⟩,g1.2.1,fun b hb=>(g1.2.2 b hb).2⟩
theorem opn_grs:Opn uG w held 25 zZ (fun g=>RdGs w g∧BigG g):=fun fuel cs x hx=>by
  obtain ⟨n,hcl,hf⟩:=vX hx
  obtain ⟨y0,h0,b0⟩:=hf 0 _ _ rfl
  obtain ⟨a0,e0,k0⟩:=(vR (opn_gr) (by kernel_rfl) (by decide) wM) n _ _ h0
  obtain ⟨y1,h1,b1⟩:=hf 1 _ _ rfl
  obtain ⟨a1,e1,k1⟩:=(vR (nD) (by kernel_rfl) (by decide) wC) n _ _ h1
  obtain ⟨y2,h2,b2⟩:=hf 2 _ _ rfl
  obtain ⟨a2,e2,k2⟩:=(vR (nD) (by kernel_rfl) (by decide) wC) n _ _ h2
  obtain ⟨y3,h3,b3⟩:=hf 3 _ _ rfl
  obtain ⟨a3,e3,k3⟩:=(vR (nD) (by kernel_rfl) (by decide) wC) n _ _ h3
  obtain ⟨y4,h4,b4⟩:=hf 4 _ _ rfl
  obtain ⟨a4,e4,k4⟩:=(vR (nD) (by kernel_rfl) (by decide) wC) n _ _ h4
  refine ⟨⟨a0,a1,a2,a3,a4⟩,tO (o2:=1) (by kernel_rfl) e0 (tO (o2:=2) (by kernel_rfl) e1 (tO (o2:=3) (by kernel_rfl) e2 (tO (o2:=4) (by kernel_rfl) e3 (tO (o2:=5) (by kernel_rfl) e4 (cutn (o:=5) hcl (by kernel_rfl)))))),fun hb=>?_⟩
  have g0:=k0 (b0 hb)
  have g1:=k1 (b1 hb)
  have g2:=k2 (b2 hb)
  have g3:=k3 (b3 hb)
  have g4:=k4 (b4 hb)
  exact ⟨⟨g0.1,fun f hf=>(g0.2.2 f hf).1,g1.1,g2.1,g3.1,g4.1⟩,⟨⟨g0.2.1,fun f hf=>(g0.2.2 f hf).2.1,fun f hf b hb=>((g0.2.2 f hf).2.2 b hb).1⟩,g3.2.2,fun f hf b hb=>((g0.2.2 f hf).2.2 b hb).2⟩⟩
set_option maxRecDepth 100000 in
theorem argG {base:Nat} {v:Value} {d:DataW H} {p:List MemPlace} {ds:List (DataW H)} (hv:Value.okWide Tryz.prog w .any base 25 v) (h:DataW.Trod uG Tryz.prog w 0 (fun _=>true) held 25 v d p) (hd:d∈ds) (hk:∃gs,Rows.uptoSmall H (ds++gs)=true) :
    ∃g:Grs,v= .agg (zZ g).toArray∧RdGs w g∧BigG g:=by
  obtain ⟨cs,rfl,_⟩:=okWide_struct Tryz.underlying25 hv
  obtain ⟨g,he,hK⟩:=opn_arg opn_grs h hd hk
  have he:cs.toList=zZ g:=he
  exact ⟨g,by rw [←he],hK⟩
set_option maxRecDepth 100000 in
theorem argS {base:Nat} {v:Value} {d:DataW H} {p:List MemPlace} {ds:List (DataW H)} (hv:Value.okWide Tryz.prog w .any base 9 v) (h:DataW.Trod uG Tryz.prog w 0 (fun _=>true) held 9 v d p) (hd:d∈ds) (hk:∃gs,Rows.uptoSmall H (ds++gs)=true) :
    ∃s:ByteArray,v= .string s∧s.size≤1048576:=by
  obtain ⟨s0,rfl⟩:=okWide_string (TSr.eq (t:=9)) hv
  obtain ⟨s,he,hK⟩:=opn_arg bI h hd hk
  simp [Value.cells] at he
  subst he
  exact ⟨s0,rfl,hK⟩
end
theorem own_:ownKnob Tryz.checked.prog.godebug=none:=by kernel_rfl
theorem laidOut:laidOutB Tryz.checked.prog=true:=by kernel_rfl
theorem BigG.bs2 {g:Grs} (h:BigG g):∀f∈g.fs.l,f.bs.l.length≤1048576∧∀bl∈f.bs.l,bl.e.to.l.length≤1048576:=fun f hf=>⟨h.sz.bs f hf,fun bl hb=>(h.sz.bl f hf bl hb).et⟩
theorem BigG.ex2 {g:Grs} (h:BigG g):∀s∈g.xs.l,s.size≤4611686018427387904:=fun s hs=>Nat.le_trans (h.xs s hs) (by decide)
section
attribute [local irreducible] Code.wp wpList Calls Ex Op1 sat bat blk cb own Go.Fw.mp Go.Fw.mpO Go.Fw.mpI Go.Fw.mpE Go.Fw.itr HS Rd Ret wkD Hp Cl Cls Exit.then Exit.inBlock Exit.noGoto bodyPost Go.Fw.flat wk2 Go.Fw.all Go.Fw.owns wpOp
attribute [local irreducible] sk mpK sko mvO xM opM Go.Fw.mset Go.Fw.mv opK qA

theorem runs_law (W:World) (g:Grs) (kd fuel:Int) (s:ByteArray) (hR:RdGs W g) (hb:BigG g) (hFI:FI W):Ret Tryz.prog 3 #[.agg (zZ g).toArray,.int .i64 kd,.string s,.int .i64 fuel] W (LawR W):=by
  have hH:HS W noM [] W:=HS.init W noM
  (refine ENT (N:=28) Tryz.func3 Tryz.ntmps3 ?_;intro a hA)
  repeat' (first|(refine QT ?_;clear hA a;intro a hA)|(refine BT ?_;clear hA hH;rintro _ w ⟨bN,rfl,hH⟩ a hA)|refine CT ?_|fail)
  (refine zJ hA rfl rfl (by decide) (zE rfl rfl rfl (awake_spec _ (hFI.keep hH.kp))) ?_;clear hA;rintro _ w ⟨rfl,hk⟩ a hA;replace hH:=hH.keep hk;clear hk)
  repeat' (first|(refine QT ?_;clear hA a;intro a hA)|refine CT ?_|fail)
  (refine zO [(0,1),(1,0),(2,1),(3,1),(4,1),(5,1),(6,1),(7,1),(9,1),(10,1),(11,1),(12,1),(13,1),(8,0),(14,0),(15,1),(16,1),(17,1)] mixed (by decide +kernel) hH ?_;replace hH:=hH.drew)
  repeat' (first|(refine XT ?_;apply XE;(first|(apply zA (vs:=zZ g);rfl;rfl;exact zD MEMT));clear hA a;intro a hA)|(refine QT ?_;clear hA a;intro a hA)|fail)
  (refine yC hA rfl rfl rfl (by decide) (zE rfl rfl rfl (large_spec _ g (hR.keep hH.kp) hb.sz)) ?_;clear hA;rintro _ w ⟨b,rfl,hlg,hk⟩;replace hH:=hH.keep hk;clear hk;refine ⟨STT,?_⟩;intro a hA)
  cases b with
  | true=>
    repeat' (first|(refine GT ?_ ?_<;>intro hg<;>clear hA a<;>intro a hA<;>(first|exact FA|replace hg:=dTr hg|replace hg:=dFa hg|skip))|(refine QT ?_;clear hA a;intro a hA)|refine CT ?_|(refine DSK ?_;clear hA a;intro a hA)|fail)
    exact rt1 (.inl rfl) rfl hA rfl ⟨rfl,hH.kp⟩
  |false=>
  have hfl:g.fs.l.length≤100000:=by
    have:=hb.sz.fs
    have h2:¬(50<g.fs.l.length∨1000<rW g):=fun h=>by cases hlg.2 h
    omega
  repeat' (first|(refine GT ?_ ?_<;>intro hg<;>clear hA a<;>intro a hA<;>(first|exact FA|replace hg:=dTr hg|replace hg:=dFa hg|skip))|(refine XT ?_;apply XE;(first|(apply zA (vs:=zZ g);rfl;rfl;exact zD MEMT)|(apply ex_min;rfl;rfl));clear hA a;intro a hA)|(refine QT ?_;clear hA a;intro a hA)|fail)
  obtain ⟨n,hn⟩:∃x:Int,x=if 3000<fuel then 3000 else fuel:=⟨_,rfl⟩
  rw [←hn] at hA
  have hn1:n≤3000:=by rw [hn];split<;>omega
  (refine yC hA rfl rfl rfl (by decide) (zE rfl rfl rfl (Run_spec _ g kd s n (hR.keep hH.kp) hfl hb.bs2 hb.ex2 hn1 (hFI.keep hH.kp))) ?_;clear hA;rintro _ w ⟨rfl,hk⟩;replace hH:=hH.keep hk;clear hk;refine ⟨STT,?_⟩;intro a hA)
  (refine yC hA rfl rfl rfl (by decide) (zE rfl rfl rfl (bA _ g kd s n (hR.keep hH.kp) hfl hb.sz hb.ex2 hn1)) ?_;clear hA;rintro _ w ⟨rfl,hk⟩;replace hH:=hH.keep hk;clear hk;refine ⟨STT,?_⟩;intro a hA)
  repeat' (first|(refine XT ?_;apply XE;(first|(apply aU (p:=qA g kd s n);rfl;rfl));clear hA a;intro a hA)|(refine QT ?_;clear hA a;intro a hA)|refine CT ?_|fail)
  exact rt1 (.inl rfl) rfl hA rfl ⟨rfl,hH.kp⟩
end
end Go.Proofs.YtenlcdokaadobaaGreatDoor
namespace Go.Fw
open Go Go.ChangeShapes Go.WideShapes Go.ChangeAt Go.RowKit
set_option linter.unusedVariables false
section
variable {H:Type} {enc:TypeId × Value→H}
def preL (enc:TypeId × Value→H) (P:Program) (fn:Func) (s:OpenSpec) (conds:List PathCond) (laid:List (String × DataW Unit)) (w:World) (args:Array Value):Prop:=
  (s.pre enc P fn conds false w args∧laidMetH P laid w)∧sizedMet enc P fn s false w args
theorem mO {C:Checked} {os:Os} {f:FuncId} {fn:Func} {s:ChangeSpec} {k:(H:Type)→List (DataW H)→Bool} {F:Stop.Interp} {conds:List PathCond} {tb:TypeId} {laid:List (String × DataW Unit)}
    (own:ownKnob C.prog.godebug=none) (started:os.Started) (noInit:C.prog.inits.idxOf? f=none) (hfn:C.prog.funcs[f]?=some fn)
    (witness:∃(w:World) (tape:Tape) (i:Input),w.os=os∧(w.forCall tape i).Shaped C.prog∧i.vars=[]∧Input.okWide C.prog (w.forCall tape i) .any w.heap.size f i∧
      preL enc C.prog fn {OpenSpec.ofChange s with cond:=some k} conds laid (w.forCall tape i).memory i.args∧({}:Assume).holds C.prog (lone (Frame.enter C.prog f i.args .normal) [] (w.forCall tape i)))
    (hl:laidOutB C.prog=true) (hrd:fn.params.toList.all (fun t=>C.prog.readableRec t && decide (t<C.prog.types.size))=true) (hv:s.vars=[])
    (hs:∀ds:List (DataW H),ds.length=fn.params.size→(s.fn H (ds++[])).results=[.lit (.bool true)]∧(s.fn H (ds++[])).args=ds∧(s.fn H (ds++[])).vars=[])
    (hrt:fn.resultTypes=#[tb]) (hb:C.prog.underlying tb=some .bool)
    (walk:∀(W:World) (base:Nat) (args:Array Value) (ds:List (DataW H)) (p:List MemPlace),
      (∀(j:Nat) t v,fn.params[j]?=some t→args[j]?=some v→Value.okWide C.prog W .any base t v)→
      DataW.TrodAll enc C.prog W 0 (fun _=>true) true fn.params.toList args.toList ds p→(∃gs,k H (ds++gs)=true)→laidMetH C.prog laid W→Ret C.prog f args W (LawR W)) :
    ReturnsInHanded {} C os f .any (preL enc C.prog fn {OpenSpec.ofChange s with cond:=some k} conds laid) ((({OpenSpec.ofChange s with cond:=some k}:OpenSpec).at F).post enc C.prog fn false true false false):=by
  refine returnsInHanded_of_calls own started noInit witness ?_
  intro w tape i _ _ _ hok hpre hholds
  obtain ⟨_,_,_,fn',hfn',_,_,_,_,hval⟩:=hok
  have e:fn'=fn:=Option.some.inj (hfn'.symm.trans hfn)
  subst e
  obtain ⟨⟨hp0,hL⟩,hz⟩:=hpre
  obtain ⟨ds,gs,before,hw,hc,hkk⟩:=(OpenSpec.pre_some (s:={OpenSpec.ofChange s with cond:=some k}) (k:=k) rfl conds false _ _).1 hp0
  have hw':=DataW.Whole.of_heap (w':=w.forCall tape i) (by rfl) hw
  have hL':laidMetH C.prog laid (w.forCall tape i):=laidMetH.of_heap (by rfl) hL
  have hA:=hw'
  obtain ⟨p,q,hA,_⟩:=hA
  refine Calls.mono (walk (w.forCall tape i) w.heap.size i.args ds p hval hA ⟨gs,hkk⟩ hL') fun e W' ⟨v,he,hp⟩=>?_
  subst he
  obtain ⟨rfl,hkp⟩:=hp
  exact ChangeSpec.post_blind (law_post hl hrd hv hs hrt hb hw' hkp)
theorem witnessL {C:Checked} {os:Os} {f:FuncId} {fn:Func} {s:OpenSpec} {k:(H:Type)→List (DataW H)→Bool} (hk:s.cond=some k) {conds:List PathCond} {laid:List (String × DataW Unit)} (w0:World) (args:Array Value) (fuel:Nat) (hos:w0.os=os)
    (hsh:(w0.forCall (fun _ _=>0) ⟨#[],args,[]⟩).Shaped C.prog)
    (hok:Input.okWideB C.prog (w0.forCall (fun _ _=>0) ⟨#[],args,[]⟩) f ⟨#[],args,[]⟩=true)
    {x:List (DataW H) × List (DataW H) × List MemPlace} (hx:DataW.whole enc C.prog (w0.forCall (fun _ _=>0) ⟨#[],args,[]⟩).memory fn.params.toList s.vars false args.toList fuel=some x)
    (hconds:conds.all (PathCond.test C.prog ⟨fn.params.toList,x.1,s.bare.plain.varTypes C.prog,x.2.1⟩)=true) (hkk:k H (x.1++x.2.1)=true)
    (hsz:s.bare.sizedB enc C.prog fn false (w0.forCall (fun _ _=>0) ⟨#[],args,[]⟩).memory args fuel=true)
    (hX:laidMetH C.prog laid (w0.forCall (fun _ _=>0) ⟨#[],args,[]⟩).memory) :
    ∃ (w:World) (tape:Tape) (i:Input),w.os=os∧(w.forCall tape i).Shaped C.prog∧i.vars=[]∧Input.okWide C.prog (w.forCall tape i) .any w.heap.size f i∧
      preL enc C.prog fn s conds laid (w.forCall tape i).memory i.args∧({}:Assume).holds C.prog (lone (Frame.enter C.prog f i.args .normal) [] (w.forCall tape i)):=
  ⟨w0,fun _ _=>0,⟨#[],args,[]⟩,hos,hsh,(Input.okWide_of_okWideB (base:=0) hok).1,(Input.okWide_of_okWideB hok).2,
    ⟨⟨(OpenSpec.pre_some hk conds false _ _).2 ⟨x.1,x.2.1,x.2.2,DataW.Whole_of_whole hx,hconds,hkk⟩,hX⟩,sizedMet_of_sizedB hsz⟩,by
    simp only [Assume.holds]
    exact ⟨by simp,by simp,fun _=>Modest.zero,by simp,by simp⟩⟩
end
end Go.Fw
namespace Go.Proofs.YtenlcdokaadobaaGreatDoor
open Go Go.Fw Go.Sort
set_option linter.unusedVariables false
theorem gPow:Tryz.prog.globalNamed "internal/strconv.uint64pow10"=some 0:=by kernel_rfl
theorem tPow:(Tryz.prog.globals[0]?).map (·.type)=some 288:=by kernel_rfl
theorem uPow:Tryz.prog.underlying 288=some (.array 20 276):=by kernel_rfl
theorem uU64:Tryz.prog.underlying 276=some (.int .u64):=by kernel_rfl
theorem dPow:(Rows.laid_internal_strconv_uint64pow10:DataW Unit)=Lib.tabData .u64 Lib.pow10Tab:=by kernel_rfl
theorem dY {W:World} (h:laidMetH Tryz.prog Rows.ssaFuelUptoRow.laid W):Lib.TabIs Tryz.prog W "internal/strconv.uint64pow10" .u64 Lib.pow10Tab:=by
  rw [MakeChecks.laidMetH_plain _ _ _ (by kernel_rfl)] at h
  obtain ⟨ps,⟨g0,t0,cs0,f0,p0,q0,hg0,ht0,hv0,hd0,⟨g1,t1,cs1,f1,p1,q1,hg1,ht1,hv1,hd1,⟨g2,t2,cs2,f2,p2,q2,hg2,ht2,hv2,hd2,_,_⟩,_⟩,_⟩,_⟩:=h
  obtain rfl:=Option.some.inj (gPow.symm.trans hg2)
  obtain rfl:=Option.some.inj (tPow.symm.trans ht2)
  unfold Lib.TabIs
  rw [dPow] at hd2
  rw [hv2,←Lib.cells_of_tab uPow uU64 (by kernel_rfl) (by kernel_rfl) hd2]
theorem tab_keep {w w':World} {zs:List Int} (h:Lib.TabIs Tryz.prog w "internal/strconv.uint64pow10" .u64 zs) (hk:Kp w noM w'):Lib.TabIs Tryz.prog w' "internal/strconv.uint64pow10" .u64 zs:=by
  unfold Lib.TabIs World.var? at h ⊢
  rw [gPow] at h ⊢
  simp only [Option.bind_some] at h ⊢
  have hlt:0<w.heap.size:=by
    rcases Nat.lt_or_ge 0 w.heap.size with h'|h'
    · exact h'
    · rw [Array.getElem?_eq_none h'] at h;cases h
  rw [hk.block 0 hlt id]
  exact h
theorem Kp.grow (w:World) (k:Nat) (os:Array Obj):Kp w noM (grow (w.drewN k) os):=by
  refine ⟨rfl,rfl,rfl,?_,fun b hb _=>?_⟩
  · show _≤(w.heap++os).size
    rw [Array.size_append]
    omega
  · show (w.heap++os)[b]?=_
    rw [Array.getElem?_append_left hb]
theorem fi_of_tab {W:World} (h:Lib.TabIs Tryz.prog W "internal/strconv.uint64pow10" .u64 Lib.pow10Tab):FI W:=fun w hk n hn=>
  Calls.mono (Tryz.strconv_FormatInt_10 n hn.1 hn.2 w (tab_keep h hk)) fun e w' ⟨he,k,os,hw⟩=>⟨_,he,rfl,hw▸Kp.grow w k os⟩
theorem fi_of_laid {W:World} (h:laidMetH Tryz.prog Rows.ssaFuelUptoRow.laid W):FI W:=fi_of_tab (dY h)
set_option maxRecDepth 100000 in
theorem door_met (os:Os) (args:Array Value):laidMetH Tryz.prog Rows.ssaFuelUptoRow.laid ((World.doorLaid Tryz.prog 400 os).forCall (fun _ _=>0) ⟨#[],args,[]⟩).memory:=
  laidMetH_of_parts3 (fuel:=8) (laidMet_of_run' 8 (by kernel_rfl) (by kernel_rfl)) (by kernel_rfl) (by kernel_rfl)
theorem door_shaped (os:Os) (args:Array Value):((World.doorLaid Tryz.prog 400 os).forCall (fun _ _=>0) ⟨#[],args,[]⟩).Shaped Tryz.prog:=World.shaped_of_RefB (by kernel_rfl) (by kernel_rfl)
end Go.Proofs.YtenlcdokaadobaaGreatDoor
