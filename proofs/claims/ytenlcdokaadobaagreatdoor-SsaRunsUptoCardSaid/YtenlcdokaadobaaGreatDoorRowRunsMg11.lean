/-
  The document's check of a program whose functions return a number. Conditions: none.
  The document's May of a program whose functions return a number, exactly. Conditions: none.
  The document's check of graphs: ways that avoid what binds a variable. Conditions: none.
  How many parts graphs have. Conditions: none.
  awake's graphs (plain). Conditions: none.
  anf.May at functions that return five: exactly (printed by mkat5.py). Conditions: none.
  ssa.Of's parts: copies, blocks. Conditions: none.
  ssa.Of's parts at a function that returns a number: fill, order, graph. Conditions: none.
  ssa.Of's parts at a function that returns a number: order. Conditions: none.
  ssa.Of's parts at a function that returns a number: order, graph. Conditions: none.
  ssa.Of's parts at a function that returns a number: graph. Conditions: none.
-/
import Derived.Test.YtenlcdokaadobaaGreatDoorRowRunsMg4
import Derived.Test.YtenlcdokaadobaaGreatDoorRowRunsMg10
import Derived.Test.YtenlcdokaadobaaGreatDoorRowRunsMg7
set_option maxHeartbeats 64000000
set_option maxRecDepth 10000
namespace Go.Proofs.YtenlcdokaadobaaGreatDoor
open Go Go.Fw
set_option linter.unusedVariables false
structure Lk where
  oP:Option Addr
  nP:Nat
  cP:Nat
  g:Grs
  oA:Option Addr
  nA:Nat
  cA:Nat
  caps:Int
  oE:Option Addr
  nE:Nat
  cE:Nat
def vU (k:Lk) (p:Int) (bad:Bool):List Value:=[.slice k.oP k.nP k.cP,.slice k.g.ls.o k.g.ls.l.length k.g.ls.c,.slice k.g.ts.o k.g.ts.l.length k.g.ts.c,.slice k.g.xs.o k.g.xs.l.length k.g.xs.c,.slice k.g.ss.o k.g.ss.l.length k.g.ss.c,
  .slice k.oA k.nA k.cA,.int .i64 p,.int .i64 k.caps,.slice k.oE k.nE k.cE,.slice none 0 0,.bool bad]
section
attribute [local irreducible] Code.wp wpList Calls Ex Op1 sat bat blk cb own Go.Fw.mp Go.Fw.mpO Go.Fw.mpI Go.Fw.mpE Go.Fw.itr HS Rd Ret wkD Hp Cl Cls Exit.then Exit.inBlock Exit.noGoto bodyPost Go.Fw.flat wk2 Go.Fw.all Go.Fw.owns wpOp
attribute [local irreducible] sk mpK sko mvO xM geS xC

theorem form0_spec (w0:World) (o:Option Addr):Ret Tryz.prog 105 #[.agg (encB o).toArray] w0 (fun r w'=>r= .bool true∧Kp w0 noM w'):=by
  have hH:HS w0 noM [] w0:=HS.init w0 noM
  (refine ENT (N:=224) Tryz.func105 Tryz.ntmps105 ?_;intro a hA)
  repeat' (first|(refine GT ?_ ?_<;>intro hg<;>clear hA a<;>intro a hA<;>(first|exact FA|replace hg:=dTr hg|replace hg:=dFa hg|skip))|(refine QT ?_;clear hA a;intro a hA)|(refine BT ?_;clear hA hH;rintro _ w ⟨bN,rfl,hH⟩ a hA)|refine CT ?_|fail)
  exact rt1 (.inl rfl) rfl hA rfl ⟨rfl,hH.kp⟩
theorem atoms0_spec (w0 w:World) (H:List It) (c:Lk) (bK:Nat) (p:Int) (o oN:Option Addr) (nN cN:Nat) (hH:HS w0 noM (cb bK 163 (vU c (p) false)::H) w) (hr:Rd w0 o (zV at0)) (hp0:0≤p) (hp1:p≤60001) :
    Ret Tryz.prog 106 #[.pointer (some (bat bK 0)),.slice o 1 1,.slice oN nN cN] w (fun r w'=>r= .tuple #[]∧HS w0 noM (cb bK 163 (vU c (p+1) false)::H) w'):=by
  have hsp:Sp o 1:=hr.sp (sz:=2) rfl (by omega)
  (refine ENT (N:=90) Tryz.func106 Tryz.ntmps106 ?_;intro a hA)
  repeat' (first|(refine QT ?_;clear hA a;intro a hA)|refine CT ?_|fail)
  refine zU (S:=Nat) (fun i a w=>i≤1∧HS w0 noM (cb bK 163 (vU c (p+(i:Int)) false)::H) w∧Sl 90 [(6,.int .i64 i),(1,.slice o 1 1),(0,.pointer (some (bat bK 0)))] a) (fun i=>1 - i)
    (fun a w=>HS w0 noM (cb bK 163 (vU c (p+1) false)::H) w∧Sl 90 [] a) 0 ⟨by omega,(by rw [show p+((0:Nat):Int)=p by omega];exact hH),(hA.sub SBT)⟩ ?_ ?_
  · clear hA hH
    rintro i a w ⟨hi,hH,hA⟩
    by_cases hlt:i<1
    rotate_left
    · obtain rfl:i=1:=by omega
      repeat' (first|(refine GT ?_ ?_<;>intro hg<;>clear hA a<;>intro a hA<;>(first|exact FA|replace hg:=dTr hg|replace hg:=dFa hg|skip))|(refine QT ?_;clear hA a;intro a hA)|refine CT ?_|fail)
      exact ⟨hH,(hA.sub SBT)⟩
    obtain rfl:i=0:=by omega
    rw [show p+((0:Nat):Int)=p by omega] at hH
    repeat' (first|(refine GT ?_ ?_<;>intro hg<;>clear hA a<;>intro a hA<;>(first|exact FA|replace hg:=dTr hg|replace hg:=dFa hg|skip))|(refine XT ?_;apply XE;(first|(apply zA (vs:=zV at0);rfl;rfl;exact yP hr id (fun i v h=>(by rw [Nat.zero_mul,Nat.zero_add];exact h)))|(apply zB;rfl;rfl;omega;exact hsp));clear hA a;intro a hA)|(refine QT ?_;clear hA a;intro a hA)|(refine BT ?_;clear hA hH;rintro _ w ⟨bN,rfl,hH⟩ a hA)|(refine SAT (zV at0) hA hH ?_;clear hH;intro w hH)|(apply zT hA rfl rfl;apply zG (cs':=vU c (p+1) false);rfl;rfl;rfl;exact hH;(repeat constructor);clear hH;rintro _ w hH)|refine CT ?_|(refine DT ?_ ?_<;>intro hc<;>try (exfalso;omega))|fail)
    exact ⟨1,⟨by omega,hH.tail,(hA.sub SBT)⟩,by omega⟩
  clear hA hH
  rintro a w ⟨hH,hA⟩
  repeat' (first|(refine QT ?_;clear hA a;intro a hA)|fail)
  exact rt0 (.inr rfl) rfl hA ⟨rfl,hH⟩
theorem jW (w0 w:World) (H:List It) (c:Lk) (bK:Nat) (p:Int) (bad:Bool) (o oN:Option Addr) (nN cN:Nat) (hH:HS w0 noM (cb bK 163 (vU c (p) bad)::H) w) (hr:Rd w0 o (zV at0)) (hp0:0≤p) (hp1:p≤60000) :
    Ret Tryz.prog 66 #[.pointer (some (bat bK 0)),.agg (encB o).toArray,.slice oN nN cN,.slice none 0 0,.int .i64 1] w (fun r w'=>r= .tuple #[]∧∃p',(p≤p'∧p'≤p+2)∧HS w0 noM (cb bK 163 (vU c (p') bad)::H) w'):=by
  (refine ENT (N:=194) Tryz.func66 Tryz.ntmps66 ?_;intro a hA)
  cases bad with
  | true=>
    repeat' (first|(refine GT ?_ ?_<;>intro hg<;>clear hA a<;>intro a hA<;>(first|exact FA|replace hg:=dTr hg|replace hg:=dFa hg|skip))|(refine QT ?_;clear hA a;intro a hA)|(refine BT ?_;clear hA hH;rintro _ w ⟨bN,rfl,hH⟩ a hA)|(apply zT hA rfl rfl;apply zG (cs':=vU c (p+1) true);rfl;rfl;rfl;exact hH;(repeat constructor);clear hH;rintro _ w hH)|refine CT ?_|fail)
    exact rt0 (.inl rfl) rfl hA ⟨rfl,p+1,by omega,hH.tail⟩
  |false=>
  repeat' (first|(refine GT ?_ ?_<;>intro hg<;>clear hA a<;>intro a hA<;>(first|exact FA|replace hg:=dTr hg|replace hg:=dFa hg|skip))|(refine XT ?_;apply XE;(first|(apply zA (vs:=encB o);rfl;rfl;exact zD MEMT));clear hA a;intro a hA)|(refine QT ?_;clear hA a;intro a hA)|(refine BT ?_;clear hA hH;rintro _ w ⟨bN,rfl,hH⟩ a hA)|(apply zT hA rfl rfl;apply zG (cs':=vU c (p+1) false);rfl;rfl;rfl;exact hH;(repeat constructor);clear hH;rintro _ w hH)|(refine zJ hA rfl rfl (by decide) (zE rfl rfl rfl (form0_spec _ o)) ?_;clear hA;rintro _ w ⟨rfl,hk⟩ a hA;replace hH:=hH.keep hk;clear hk)|refine CT ?_|fail)
  replace hH:=hH.up 1 rfl
  dsimp only [List.eraseIdx_cons_succ,List.eraseIdx_cons_zero] at hH
  (refine zJ hA rfl rfl (by decide) (zE rfl rfl rfl (atoms0_spec w0 _ _ c bK (p+1) o oN nN cN hH hr (by omega) (by omega))) ?_;clear hA hH)
  rintro _ w ⟨rfl,hH⟩ a hA
  repeat' (first|(refine QT ?_;clear hA a;intro a hA)|refine CT ?_|fail)
  refine zU (S:=Unit) (fun _ a w=>HS w0 noM (cb bK 163 (vU c (p+1+1) false)::cb bN 70 (encB o)::H) w∧Sl 194 [(11,.int .i64 0),(6,.pointer (some (bat bN 0)))] a) (fun _=>0)
    (fun a w=>HS w0 noM (cb bK 163 (vU c (p+1+1) false)::cb bN 70 (encB o)::H) w∧Sl 194 [] a) () ⟨hH,(hA.sub SBT)⟩ ?_ ?_
  · clear hA hH
    rintro _ a w ⟨hH,hA⟩
    repeat' (first|(refine QT ?_;clear hA a;intro a hA)|refine CT ?_|fail)
    exact ⟨hH,(hA.sub SBT)⟩
  clear hA hH
  rintro a w ⟨hH,hA⟩
  repeat' (first|(refine QT ?_;clear hA a;intro a hA)|fail)
  exact rt0 (.inr rfl) rfl hA ⟨rfl,p+1+1,by omega,hH.rm 1⟩
end
def qQ (p:Option Addr × Int):List Value:=xR p.1 p.2
theorem mX (p:Option Addr × Int):(qQ p).length=12:=rfl
theorem aW (a b:ByteArray):eqS a b=eqS b a:=by
  unfold eqS
  rw [Bool.eq_iff_iff,beq_iff_eq,beq_iff_eq]
  exact eq_comm
theorem hasS_iff {l:List ByteArray} {s:ByteArray}:tX l s↔∃k,k<l.length∧eqS (l.getD k default) s=true:=by
  unfold tX
  constructor
  · intro h
    refine Classical.byContradiction fun hc=>?_
    rw [jH (fun k hk=>by
      cases he:eqS s (l.getD k default) with
      |false=>rfl
      |true=>exact absurd ⟨k,hk,by rw [aW];exact he⟩ hc)] at h
    omega
  · rintro ⟨k,hk,he⟩
    refine Classical.byContradiction fun hc=>?_
    have hn:∀n,n≤l.length→∀j,j<n→eqS s (l.getD j default)=false:=fun n=>by
      induction n with
      |zero=>exact fun _ j hj=>absurd hj (Nat.not_lt_zero _)
      | succ n ih=>
        intro hn j hj
        have ih2:=ih (by omega)
        by_cases e:j=n
        · subst e
          cases h2:eqS s (l.getD j default) with
          |false=>rfl
          |true=>exact absurd (by rw [idx_at ih2 (by omega) h2];omega) hc
        · exact ih2 j (by omega)
    have:=hn l.length (Nat.le_refl _) k hk
    rw [aW,he] at this
    cases this
theorem cap_at2 {l:List (Option Addr × Int)} {k:Nat} {p:Option Addr × Int} (h:l[k]?=some p):(flat qQ l)[k*12+0]?=some (.int .i64 p.2):=yL (off:=0) mX h rfl
theorem snd_at {l:List (Option Addr × Int)} {k:Nat} (h:k<l.length):(flat qQ l)[k*12+0]?=some (.int .i64 ((l.map Prod.snd).getD k 0)):=by
  rw [cap_at2 (List.getElem?_eq_getElem h),List.getD_eq_getElem?_getD,List.getElem?_map,List.getElem?_eq_getElem h]
  rfl
theorem body_at {l:List (Option Addr × Int)} {k:Nat} {p:Option Addr × Int} (h:l[k]?=some p) (i:Nat) (v:Value) (hv:(encB p.1)[i]?=some v):(flat qQ l)[k*12+1+i]?=some v:=by
  rw [Nat.add_assoc]
  refine yL (off:=1+i) mX h ?_
  rw [Nat.add_comm]
  exact hv
section
attribute [local irreducible] Code.wp wpList Calls Ex Op1 sat bat blk cb own Go.Fw.mp Go.Fw.mpO Go.Fw.mpI Go.Fw.mpE Go.Fw.itr HS Rd Ret wkD Hp Cl Cls Exit.then Exit.inBlock Exit.noGoto bodyPost Go.Fw.flat wk2 Go.Fw.all Go.Fw.owns wpOp
attribute [local irreducible] sk mpK sko mvO xM geS xC

theorem eB (w0:World) (oF:Option Addr) (cF:Nat) (fs:List (Option Addr × Int)) (g:Grs) (hF:Rd w0 oF (flat qQ fs)) (hr:∀p∈fs,Rd w0 p.1 (zV at0)) (hcl:fs.length≤100000) (hls:RdV w0 yQ g.ls) (hts:RdV w0 yQ g.ts) (hxs:RdV w0 yQ g.xs) (hss:RdV w0 yQ g.ss) :
    Ret Tryz.prog 34 #[.agg (xF oF fs.length cF g).toArray] w0 (fun v w=>∃b,v= .bool b∧(b=true↔AnfP (fs.map Prod.snd) g)∧Kp w0 noM w):=by
  have hH:HS w0 noM [] w0:=HS.init w0 noM
  have hspF:Sp oF fs.length:=hF.sp (sz:=12) (zH mX _) (by omega)
  obtain ⟨cs,hcs⟩:∃cs,cs=fs.map Prod.snd:=⟨_,rfl⟩
  have hcsl:cs.length=fs.length:=by rw [hcs,List.length_map]
  have hsnd:∀k,k<fs.length→(flat qQ fs)[k*12+0]?=some (.int .i64 (cs.getD k 0)):=fun k hk=>by rw [hcs];exact snd_at hk
  rw [←hcs]
  (refine ENT (N:=174) Tryz.func34 Tryz.ntmps34 ?_;intro a hA)
  repeat' (first|(refine GT ?_ ?_<;>intro hg<;>clear hA a<;>intro a hA<;>(first|exact FA|replace hg:=dTr hg|replace hg:=dFa hg|skip))|(refine XT ?_;apply XE;(first|(apply zF;rfl;refine yG hF id (hsnd _ ?_);(show 0< _);omega));clear hA a;intro a hA)|(refine QT ?_;clear hA a;intro a hA)|(refine BT ?_;clear hA hH;rintro _ w ⟨bN,rfl,hH⟩ a hA)|(refine LT ?_;clear hA hH;rintro _ w ⟨oN,rfl,hH⟩ a hA)|(refine zJ hA rfl rfl (by decide) (zE rfl rfl rfl (pT _ g.ls (hls.keep hH.kp))) ?_;clear hA;rintro _ w ⟨b,rfl,hb1,hk⟩ a hA;replace hH:=hH.keep hk;clear hk)|(refine zJ hA rfl rfl (by decide) (zE rfl rfl rfl (pT _ g.ts (hts.keep hH.kp))) ?_;clear hA;rintro _ w ⟨b,rfl,hb2,hk⟩ a hA;replace hH:=hH.keep hk;clear hk)|(refine zJ hA rfl rfl (by decide) (zE rfl rfl rfl (pT _ g.xs (hxs.keep hH.kp))) ?_;clear hA;rintro _ w ⟨b,rfl,hb3,hk⟩ a hA;replace hH:=hH.keep hk;clear hk)|refine CT ?_|(refine DT ?_ ?_<;>intro hc<;>try (exfalso;omega))|fail)
  · exact rt1 (.inl rfl) rfl hA rfl ⟨_,rfl,wD (fun h=>(by have:=h.pos;omega)),hH.kp⟩
  · exact rt1 (.inl rfl) rfl hA rfl ⟨_,rfl,wD (fun h=>(by have:=h.top;omega)),hH.kp⟩
  · exact rt1 (.inl rfl) rfl hA rfl ⟨_,rfl,wD (fun h=>(by assumption:cs.getD (Int.toNat 0) 0≠0) h.c0),hH.kp⟩
  · exact rt1 (.inl rfl) rfl hA rfl ⟨_,rfl,wD (fun h=>pL hb1 (by assumption) h.ls),hH.kp⟩
  · exact rt1 (.inl rfl) rfl hA rfl ⟨_,rfl,wD (fun h=>pL hb2 (by assumption) h.ts),hH.kp⟩
  · exact rt1 (.inl rfl) rfl hA rfl ⟨_,rfl,wD (fun h=>pL hb3 (by assumption) h.xs),hH.kp⟩
  have hp1:=sO hb1 (by assumption)
  have hp2:=sO hb2 (by assumption)
  have hp3:=sO hb3 (by assumption)
  have hc0:cs.getD 0 0=0:=Decidable.not_not.1 (by assumption:¬cs.getD (Int.toNat 0) 0≠0)
  clear hb1 hb2 hb3
  have hcl2:1≤cs.length:=by omega
  have hcl4:cs.length≤4096:=by omega
  obtain ⟨sl,hsl0,hsl,hH1⟩:=own4 hH
  have hsl4:sl=four:=hsl0.trans rfl
  clear hsl0 hH
  obtain ⟨b1,hH,hA2⟩:∃b1,HS w0 noM [own 9 1 oN sl.length sl.length (flat yQ sl),cb b1 34 (xF oF fs.length cF g)] w∧Sl 174 [(4,.int .i64 (0:Nat)),(3,.slice oN sl.length sl.length),(1,.pointer (some (bat b1 0))),(2,.bool false)] a:=⟨_,hH1,(by rw [hsl];exact (hA.sub SBT))⟩
  clear hA hH1
  have hspS:=hH.own_sp (T:=9) (o:=oN) (.head _)
  have hspX:Sp g.xs.o g.xs.l.length:=hxs.1.sp (sz:=1) (zH wC _) (by have:=hxs.le;omega)
  have hspT:Sp g.ss.o g.ss.l.length:=hss.1.sp (sz:=1) (zH wC _) (by have:=hss.le;omega)
  have hlx:=hxs.le
  have hlss:=hss.le
  refine zU (S:=Nat) (fun i a w=>(i≤sl.length∧∀k,k<i→tX g.xs.l (sl.getD k default))∧HS w0 noM [own 9 1 oN sl.length sl.length (flat yQ sl),cb b1 34 (xF oF fs.length cF g)] w∧Sl 174 [(4,.int .i64 i),(3,.slice oN sl.length sl.length),(1,.pointer (some (bat b1 0))),(2,.bool false)] a) (fun i=>sl.length - i)
    (fun a w=>(∀k,k<sl.length→tX g.xs.l (sl.getD k default))∧HS w0 noM [cb b1 34 (xF oF fs.length cF g)] w∧Sl 174 [(1,.pointer (some (bat b1 0))),(2,.bool false)] a) 0 ⟨⟨Nat.zero_le _,fun k h=>absurd h (Nat.not_lt_zero _)⟩,hH,hA2⟩ ?_ ?_
  · clear hA2 hH
    rintro i a w ⟨⟨hi,hhas⟩,hH,hA⟩
    by_cases hlt:i<sl.length
    rotate_left
    · obtain rfl:i=sl.length:=by omega
      repeat' (first|(refine QT ?_;clear hA a;intro a hA)|refine CT ?_|(refine DT ?_ ?_<;>intro hc<;>try (exfalso;omega))|fail)
      exact ⟨hhas,hH.tail,(hA.sub SBT)⟩
    have hv:=vD hlt
    repeat' (first|(refine QT ?_;clear hA a;intro a hA)|refine CT ?_|(refine DT ?_ ?_<;>intro hc<;>try (exfalso;omega))|fail)
    refine zU (S:=Nat) (fun j a w=>∃fd,(j≤g.xs.l.length∧(fd=true↔∃k,k<j∧eqS (g.xs.l.getD k default) (sl.getD i default)=true))∧HS w0 noM [own 9 1 oN sl.length sl.length (flat yQ sl),cb b1 34 (xF oF fs.length cF g)] w∧Sl 174 [(6,.int .i64 j),(5,.bool fd),(4,.int .i64 i),(3,.slice oN sl.length sl.length),(1,.pointer (some (bat b1 0))),(2,.bool false)] a) (fun j=>g.xs.l.length - j)
      (fun a w=>∃fd,(fd=true↔tX g.xs.l (sl.getD i default))∧HS w0 noM [own 9 1 oN sl.length sl.length (flat yQ sl),cb b1 34 (xF oF fs.length cF g)] w∧Sl 174 [(5,.bool fd),(4,.int .i64 i),(3,.slice oN sl.length sl.length),(1,.pointer (some (bat b1 0))),(2,.bool false)] a) 0 ⟨false,⟨Nat.zero_le _,⟨fun h=>(by cases h),fun ⟨k,hk,_⟩=>absurd hk (Nat.not_lt_zero _)⟩⟩,hH,(hA.sub SBT)⟩ ?_ ?_
    · clear hA hH
      rintro j a w ⟨fd,⟨hj,hfd⟩,hH,hA⟩
      by_cases hjl:j<g.xs.l.length
      rotate_left
      · obtain rfl:j=g.xs.l.length:=by omega
        repeat' (first|(refine QT ?_;clear hA a;intro a hA)|refine CT ?_|(refine DT ?_ ?_<;>intro hc<;>try (exfalso;omega))|fail)
        exact ⟨fd,hfd.trans hasS_iff.symm,hH,(hA.sub SBT)⟩
      have hvj:=vD hjl
      repeat' (first|(refine QT ?_;clear hA a;intro a hA)|refine CT ?_|(refine DT ?_ ?_<;>intro hc<;>try (exfalso;omega))|fail)
      (refine zO [(0,1),(1,1),(2,1),(3,1),(4,1),(5,1),(6,1),(7,1),(8,1),(9,1),(10,1),(11,1),(12,1),(13,1)] mixed (by decide +kernel) hH ?_;replace hH:=hH.drew)
      cases fd with
      | true=>
        repeat' (first|(refine GT ?_ ?_<;>intro hg<;>clear hA a<;>intro a hA<;>(first|exact FA|replace hg:=dTr hg|replace hg:=dFa hg|skip))|(refine QT ?_;clear hA a;intro a hA)|refine CT ?_|fail)
        exact ⟨j+1,⟨true,⟨hjl,iff_of_true rfl (by obtain ⟨k,hk,he⟩:=hfd.1 rfl;exact ⟨k,by omega,he⟩)⟩,hH,(hA.sub SBT)⟩,by omega⟩
      |false=>
      repeat' (first|(refine GT ?_ ?_<;>intro hg<;>clear hA a<;>intro a hA<;>(first|exact FA|replace hg:=dTr hg|replace hg:=dFa hg|skip))|(refine XT ?_;apply XE;(first|(apply uK;rfl;rfl)|(apply zB;rfl;rfl;omega;first|exact hspX|exact hspS)|(apply zF;rfl;exact yG hxs.1 id hvj)|(apply zF;rfl;apply xJ (T:=9);exact MEMT;exact hv));clear hA a;intro a hA)|(refine QT ?_;clear hA a;intro a hA)|refine CT ?_|fail)
      exact ⟨j+1,⟨_,⟨hjl,⟨fun h=>⟨j,by omega,h⟩,fun ⟨k,hk,he⟩=>(by
        by_cases e:k=j
        · exact e▸he
        · exact absurd (hfd.2 ⟨k,by omega,he⟩) (by decide))⟩⟩,hH,(hA.sub SBT)⟩,by omega⟩
    clear hA hH
    rintro a w ⟨fd,hfd,hH,hA⟩
    cases fd with
    | false=>
      repeat' (first|(refine QT ?_;clear hA a;intro a hA)|refine CT ?_|fail)
      exact rt1 (.inl rfl) rfl hA rfl ⟨_,rfl,wD (fun h=>(by cases hfd.2 (has4 h _ (hsl4▸xP hlt)))),hH.kp⟩
    |true=>
    repeat' (first|(refine QT ?_;clear hA a;intro a hA)|refine CT ?_|fail)
    exact ⟨i+1,⟨⟨hlt,wH (p:=fun k=>tX g.xs.l (sl.getD k default)) hhas (hfd.1 rfl)⟩,hH,(hA.sub SBT)⟩,by omega⟩
  clear hA2 hH
  rintro a w ⟨hhas,hH,hA⟩
  rw [hsl4] at hhas
  have hx4:=eV hhas
  clear hhas hsl hsl4 hspS
  repeat' (first|(refine QT ?_;clear hA a;intro a hA)|refine CT ?_|fail)
  refine zU (S:=Nat) (fun i a w=>(i≤g.ss.l.length∧∀k,k<i→¬4096<(g.ss.l.getD k default).size)∧HS w0 noM [cb b1 34 (xF oF fs.length cF g)] w∧Sl 174 [(7,.int .i64 i),(1,.pointer (some (bat b1 0))),(2,.bool false)] a) (fun i=>g.ss.l.length - i)
    (fun a w=>(∀s∈g.ss.l,s.size≤4096)∧HS w0 noM [cb b1 34 (xF oF fs.length cF g)] w∧Sl 174 [(1,.pointer (some (bat b1 0))),(2,.bool false)] a) 0 ⟨⟨Nat.zero_le _,fun k h=>absurd h (Nat.not_lt_zero _)⟩,hH,(hA.sub SBT)⟩ ?_ ?_
  · clear hA hH
    rintro i a w ⟨⟨hi,hss0⟩,hH,hA⟩
    by_cases hlt:i<g.ss.l.length
    rotate_left
    · obtain rfl:i=g.ss.l.length:=by omega
      repeat' (first|(refine QT ?_;clear hA a;intro a hA)|refine CT ?_|(refine DT ?_ ?_<;>intro hc<;>try (exfalso;omega))|fail)
      exact ⟨fA hss0,hH,(hA.sub SBT)⟩
    have hv:=vD hlt
    have hbl:=wI (g.ss.l.getD i default)
    repeat' (first|(refine XT ?_;apply XE;(first|(apply zB;rfl;rfl;omega;exact hspT)|(apply zF;rfl;exact yG hss.1 id hv)|(apply xK;rfl));clear hA a;intro a hA)|(refine QT ?_;clear hA a;intro a hA)|refine CT ?_|(refine DT ?_ ?_<;>intro hc<;>try (exfalso;omega))|fail)
    · exact rt1 (.inl rfl) rfl hA rfl ⟨_,rfl,wD (fun h=>bY hlt (by omega) h.ss),hH.kp⟩
    · exact ⟨i+1,⟨⟨hlt,wH hss0 (by omega)⟩,hH,(hA.sub SBT)⟩,by omega⟩
  clear hA hH
  rintro a w ⟨hss4,hH,hA⟩
  repeat' (first|(refine XT ?_;apply XE;(first|(apply zA (vs:=xF oF fs.length cF g);rfl;rfl;exact zD MEMT)|(apply yZ (szs:=[(0,5),(5,1),(6,1),(7,1),(8,1),(9,1),(10,1)]) (cs:=(vU ⟨oF,fs.length,cF,g,none,0,0,0,none,0,0⟩ 0 false).toArray);exact xS (by (repeat (first|exact SzL.nil|refine SzL.cons ⟨_,rfl,by decide⟩ ?_)));rfl;rfl));clear hA a;intro a hA)|(refine QT ?_;clear hA a;intro a hA)|(refine BT ?_;clear hA hH;rintro _ w ⟨bN,rfl,hH⟩ a hA)|refine CT ?_|fail)
  obtain ⟨bK,hbK⟩:∃x,x=bN:=⟨_,rfl⟩
  rw [←hbK] at hA hH
  clear hbK bN
  refine zU (S:=Nat) (fun i a w=>∃oA cA,i≤fs.length∧HS w0 noM [cb bK 163 (vU ⟨oF,fs.length,cF,g,oA,i,cA,0,none,0,0⟩ 0 false),own 3 1 oA i cA (flat Fw.encI (cs.take i)),cb b1 34 (xF oF fs.length cF g)] w∧Sl 174 [(9,.int .i64 i),(8,.pointer (some (bat bK 0))),(1,.pointer (some (bat b1 0))),(2,.bool false)] a) (fun i=>fs.length - i)
    (fun a w=>∃oA nA cA,HS w0 noM [cb bK 163 (vU ⟨oF,fs.length,cF,g,oA,nA,cA,0,none,0,0⟩ 0 false),cb b1 34 (xF oF fs.length cF g)] w∧Sl 174 [(8,.pointer (some (bat bK 0))),(1,.pointer (some (bat b1 0))),(2,.bool false)] a) 0 ⟨none,0,Nat.zero_le _,(by rw [List.take_zero];exact (hH.nil_flat Fw.encI 3 1).perm PMT),(hA.sub SBT)⟩ ?_ ?_
  · clear hA hH
    rintro i a w ⟨oA,cA,hi,hH,hA⟩
    by_cases hlt:i<fs.length
    rotate_left
    · repeat' (first|(refine QT ?_;clear hA a;intro a hA)|refine CT ?_|(refine DT ?_ ?_<;>intro hc<;>try (exfalso;omega))|fail)
      exact ⟨oA,i,cA,hH.rm 1,(hA.sub SBT)⟩
    obtain ⟨x,hx⟩:∃x,cs[i]?=some x:=⟨_,List.getElem?_eq_getElem (by omega)⟩
    have hxd:cs.getD i 0=x:=by rw [List.getD_eq_getElem?_getD,hx];rfl
    have hvx:=hsnd i hlt
    rw [hxd] at hvx
    have htl:(cs.take i).length=i:=by rw [List.length_take];omega
    repeat' (first|(refine QT ?_;clear hA a;intro a hA)|refine CT ?_|(refine DT ?_ ?_<;>intro hc<;>try (exfalso;omega))|fail)
    have hST:HS w0 noM [cb bK 163 (vU ⟨oF,fs.length,cF,g,oA,i,cA,0,none,0,0⟩ 0 false),cb b1 34 (xF oF fs.length cF g)] w:=HS.left (H1:=[_,_]) (hH.perm (H':=cb bK 163 (vU ⟨oF,fs.length,cF,g,oA,i,cA,0,none,0,0⟩ 0 false)::cb b1 34 (xF oF fs.length cF g)::own 3 1 oA i cA (flat Fw.encI (cs.take i))::[]) PMT)
    replace hH:=hH.perm (H':=cb bK 163 (vU ⟨oF,fs.length,cF,g,oA,i,cA,0,none,0,0⟩ 0 false)::cb b1 34 (xF oF fs.length cF g)::own 3 1 oA i cA (flat Fw.encI (cs.take i))::[]) PMT
    (refine zN (H:=[_,_]) [(0,1),(1,1),(2,1),(3,1),(4,1),(5,1),(6,1),(7,1),(8,1),(9,1),(10,1),(11,0),(12,0),(13,1),(14,1)] [15] mixed (by decide +kernel) (hST) ?_;replace hH:=hH.drew)
    clear hST
    repeat' (first|(refine XT ?_;apply XE;(first|(apply zB;rfl;rfl;omega;exact hspF)|(apply zF;rfl;exact yG hF id hvx));clear hA a;intro a hA)|(refine QT ?_;clear hA a;intro a hA)|(refine DLT ?_;clear hA hH;rintro _ w ⟨oN,rfl,hH⟩;refine ⟨STT,?_⟩;intro a hA)|fail)
    (apply yC hA rfl rfl rfl (by decide);apply zQ (xs:=[.int .i64 x]) (vs:=[.int .i64 x]);rfl;rfl;exact CATST;rfl;rfl;rfl;exact hH;clear hA hH;rintro _ w ⟨oN,rfl,hH⟩;refine ⟨HS.left (H1:=[_,_]) hH.tail,?_⟩;intro a hA)
    dsimp only at hA
    (apply yC hA rfl rfl rfl (by decide);apply yE;rfl;rfl;exact hH;exact MEMT;exact (hH.own_rd (List.Mem.head _));exact rfl;rfl;decide;exact rfl;(unfold maxLen;omega);omega;clear hA;rintro _ w ⟨oN,cN,rfl,hH2⟩;clear hH;have hH:=hH2 _ (by (repeat constructor));clear hH2;refine ⟨HS.left (H1:=[_,_]) hH.tail,?_⟩;intro a hA)
    rw [uJ,←yK hx] at hH
    repeat' (first|(refine QT ?_;clear hA a;intro a hA)|(apply yB hA rfl rfl rfl;apply zG (cs':=vU ⟨oF,fs.length,cF,g,oN,i+1,cN,0,none,0,0⟩ 0 false);rfl;rfl;rfl;exact hH;(repeat constructor);clear hH;rintro _ w hH)|refine CT ?_|fail)
    exact ⟨i+1,⟨oN,cN,hlt,((hH.tail).perm PMT),(hA.sub SBT)⟩,by omega⟩
  clear hA hH
  rintro a w ⟨oA,nA,cA,hH,hA⟩
  repeat' (first|(refine QT ?_;clear hA a;intro a hA)|refine CT ?_|fail)
  refine zU (S:=Nat) (fun i a w=>∃cc oE nE cE p bad,(i≤fs.length∧0≤p∧p≤2* (i:Int)∧(bad=false→∀c∈cs.take i,0≤c∧c≤4096)∧(bad=true→¬∀c∈cs,0≤c∧c≤4096))∧HS w0 noM [cb bK 163 (vU ⟨oF,fs.length,cF,g,oA,nA,cA,cc,oE,nE,cE⟩ p bad),cb b1 34 (xF oF fs.length cF g)] w∧Sl 174 [(10,.int .i64 i),(8,.pointer (some (bat bK 0))),(1,.pointer (some (bat b1 0))),(2,.bool false)] a) (fun i=>fs.length - i)
    (fun a w=>∃cc oE nE cE p bad,(bad=false↔∀c∈cs,0≤c∧c≤4096)∧HS w0 noM [cb bK 163 (vU ⟨oF,fs.length,cF,g,oA,nA,cA,cc,oE,nE,cE⟩ p bad)] w∧Sl 174 [(8,.pointer (some (bat bK 0))),(2,.bool false)] a) 0 ⟨0,none,0,0,0,false,⟨Nat.zero_le _,Int.le_refl _,by omega,fun _=>(by rw [List.take_zero];exact fun c h=>absurd h List.not_mem_nil),fun h=>(by cases h)⟩,hH,(hA.sub SBT)⟩ ?_ ?_
  · clear hA hH
    rintro i a w ⟨cc,oE,nE,cE,p,bad,⟨hi,hp0,hp1,hcap,hbad⟩,hH,hA⟩
    by_cases hlt:i<fs.length
    rotate_left
    · obtain rfl:i=fs.length:=by omega
      rw [←hcsl,List.take_length] at hcap
      repeat' (first|(refine GT ?_ ?_<;>intro hg<;>clear hA a<;>intro a hA<;>(first|exact FA|replace hg:=dTr hg|replace hg:=dFa hg|skip))|(refine QT ?_;clear hA a;intro a hA)|refine CT ?_|fail)
      exact ⟨cc,oE,nE,cE,p,bad,⟨hcap,fun h=>(by cases bad with|false=>rfl|true=>exact absurd h (hbad rfl))⟩,hH.rm 1,(hA.sub SBT)⟩
    cases bad with
    | true=>
      repeat' (first|(refine GT ?_ ?_<;>intro hg<;>clear hA a<;>intro a hA<;>(first|exact FA|replace hg:=dTr hg|replace hg:=dFa hg|skip))|(refine QT ?_;clear hA a;intro a hA)|refine CT ?_|fail)
      exact ⟨cc,oE,nE,cE,p,true,⟨fun h=>(by cases h),fun h=>absurd h (hbad rfl)⟩,hH.rm 1,(hA.sub SBT)⟩
    |false=>
    obtain ⟨q,hq⟩:∃x,fs[i]?=some x:=⟨_,List.getElem?_eq_getElem hlt⟩
    have hx:cs[i]?=some q.2:=by rw [hcs,List.getElem?_map,hq];rfl
    have hvx:=cap_at2 hq
    have hbd:=body_at hq
    have hro:=hr q (List.mem_of_getElem? hq)
    repeat' (first|(refine GT ?_ ?_<;>intro hg<;>clear hA a<;>intro a hA<;>(first|exact FA|replace hg:=dTr hg|replace hg:=dFa hg|skip))|(refine XT ?_;apply XE;(first|(apply zB;rfl;rfl;omega;exact hspF)|(apply zF;rfl;exact yG hF id hvx));clear hA a;intro a hA)|(refine QT ?_;clear hA a;intro a hA)|(refine LT ?_;clear hA hH;rintro _ w ⟨oN,rfl,hH⟩ a hA)|(apply zT hA rfl rfl;apply zG (cs':=vU ⟨oF,fs.length,cF,g,oA,nA,cA,q.2,oE,nE,cE⟩ p false);rfl;rfl;rfl;exact hH;(repeat constructor);clear hH;rintro _ w hH)|(apply zT hA rfl rfl;apply zG (cs':=vU ⟨oF,fs.length,cF,g,oA,nA,cA,q.2,oN,2,2⟩ p false);rfl;rfl;rfl;exact hH;(repeat constructor);clear hH;rintro _ w hH)|refine CT ?_|fail)
    all_goals
      obtain ⟨o3,ho3⟩:∃x,x=oN:=⟨_,rfl⟩
      subst ho3
    · have hq0:q.2<0:=by assumption
      repeat' (first|(refine XT ?_;apply XE;(first|(apply zB;rfl;rfl;omega;exact hspF)|(apply zA (vs:=encB q.1);rfl;rfl;exact yP hF id hbd));clear hA a;intro a hA)|(refine QT ?_;clear hA a;intro a hA)|(refine LT ?_;clear hA hH;rintro _ w ⟨oN,rfl,hH⟩ a hA)|(apply zT hA rfl rfl;apply zG (cs':=vU ⟨oF,fs.length,cF,g,oA,nA,cA,q.2,o3,2,2⟩ p true);rfl;rfl;rfl;exact hH;(repeat constructor);clear hH;rintro _ w hH)|refine CT ?_|fail)
      replace hH:=hH.up 2 rfl
      dsimp only [List.eraseIdx_cons_succ,List.eraseIdx_cons_zero] at hH
      (refine zJ hA rfl rfl (by decide) (zE rfl rfl rfl (jW w0 _ _ ⟨oF,fs.length,cF,g,oA,nA,cA,q.2,o3,2,2⟩ bK p true q.1 oN 2 2 hH hro hp0 (by omega))) ?_;clear hA hH)
      rintro _ w ⟨rfl,p',hpp,hH⟩ a hA
      repeat' (first|(refine QT ?_;clear hA a;intro a hA)|refine CT ?_|fail)
      exact ⟨i+1,⟨q.2,o3,2,2,p',true,⟨hlt,by omega,by omega,fun h=>(by cases h),fun _ h=>(by have:=h q.2 (List.mem_of_getElem? hx);omega)⟩,(hH.rm 1).rm 1,(hA.sub SBT)⟩,by omega⟩
    · have hq0:¬q.2<0:=by assumption
      repeat' (first|(refine XT ?_;apply XE;(first|(apply zB;rfl;rfl;omega;exact hspF)|(apply zA (vs:=encB q.1);rfl;rfl;exact yP hF id hbd));clear hA a;intro a hA)|(refine QT ?_;clear hA a;intro a hA)|(refine LT ?_;clear hA hH;rintro _ w ⟨oN,rfl,hH⟩ a hA)|(apply zT hA rfl rfl;apply zG (cs':=vU ⟨oF,fs.length,cF,g,oA,nA,cA,q.2,o3,2,2⟩ p (decide (4096<q.2)));rfl;rfl;rfl;exact hH;(repeat constructor);clear hH;rintro _ w hH)|refine CT ?_|fail)
      replace hH:=hH.up 2 rfl
      dsimp only [List.eraseIdx_cons_succ,List.eraseIdx_cons_zero] at hH
      (refine zJ hA rfl rfl (by decide) (zE rfl rfl rfl (jW w0 _ _ ⟨oF,fs.length,cF,g,oA,nA,cA,q.2,o3,2,2⟩ bK p (decide (4096<q.2)) q.1 oN 2 2 hH hro hp0 (by omega))) ?_;clear hA hH)
      rintro _ w ⟨rfl,p',hpp,hH⟩ a hA
      repeat' (first|(refine QT ?_;clear hA a;intro a hA)|refine CT ?_|fail)
      exact ⟨i+1,⟨q.2,o3,2,2,p',_,⟨hlt,by omega,by omega,fun h c hc=>(by
        rw [yK hx] at hc
        rcases List.mem_append.1 hc with hc|hc
        · exact hcap rfl c hc
        · rw [List.mem_singleton] at hc
          have:=dFa h
          subst hc
          constructor<;>omega),fun h h2=>(by have:=dTr h;have:=h2 q.2 (List.mem_of_getElem? hx);omega)⟩,(hH.rm 1).rm 1,(hA.sub SBT)⟩,by omega⟩
  clear hA hH
  rintro a w ⟨cc,oE,nE,cE,p,bad,hbad,hH,hA⟩
  repeat' (first|(refine QT ?_;clear hA a;intro a hA)|refine CT ?_|fail)
  refine rt1 (.inl rfl) rfl hA rfl ⟨_,rfl,?_,hH.kp⟩
  cases bad with
  |true=>exact wD (fun h=>(by cases hbad.2 h.caps))
  |false=>exact iff_of_true rfl ⟨hcl2,hcl4,hc0,hp1,hp2,hp3,hx4,hss4,hbad.1 rfl⟩
end
def EdgS (f:Gr):Prop:=∀(m:Nat) (bl:Blc),f.bs.l[m]?=some bl→∀t∈bl.e.to.l,(m:Int)<t.b∧t.b<f.bs.l.length
def avS (f:Gr) (x:Int) (i k:Nat):Prop:=k=0∨∃m bl,m<i∧f.bs.l[m]?=some bl∧goes bl k∧¬x∈bvs bl∧¬BS f m x
theorem av_bs {f:Gr} (hE:EdgS f) (x:Int) {i k:Nat} (h:k≤i):avS f x i k↔¬BS f k x:=by
  rw [BS]
  constructor
  · rintro (rfl| ⟨m,bl,hm,hbl,hg,hx,hb⟩) ⟨h0,hall⟩
    · exact absurd h0 (Nat.lt_irrefl _)
    · obtain ⟨t,ht,he⟩:=hg
      have:=(hE m bl hbl t ht).1
      rcases hall m (by omega) bl hbl ⟨t,ht,he⟩ with h1|h1
      · exact hx h1
      · exact hb h1
  · intro hn
    by_cases h0:k=0
    · exact .inl h0
    refine .inr (Classical.byContradiction fun hc=>hn ⟨by omega,fun m hm bl hbl hg=>?_⟩)
    refine Classical.byContradiction fun h2=>hc ⟨m,bl,by omega,hbl,hg,fun h=>h2 (.inl h),fun h=>h2 (.inr h)⟩
theorem av_skip {f:Gr} {x:Int} {i:Nat} {bl:Blc} (hbl:f.bs.l[i]?=some bl) (h:x∈bvs bl∨BS f i x) (k:Nat):avS f x (i+1) k↔avS f x i k:=by
  constructor
  · rintro (h0| ⟨m,b,hm,hb,hg,hx,hs⟩)
    · exact .inl h0
    · by_cases e:m=i
      · subst e
        rw [hbl] at hb;cases hb
        exact absurd h (fun h=>h.elim hx hs)
      · exact .inr ⟨m,b,by omega,hb,hg,hx,hs⟩
  · rintro (h0| ⟨m,b,hm,hb,hg,hx,hs⟩)
    · exact .inl h0
    · exact .inr ⟨m,b,by omega,hb,hg,hx,hs⟩
theorem av_go {f:Gr} {x:Int} {i:Nat} {bl:Blc} (hbl:f.bs.l[i]?=some bl) (hx:¬x∈bvs bl) (hb:¬BS f i x) (k:Nat):avS f x (i+1) k↔avS f x i k∨∃t∈bl.e.to.l.take bl.e.to.l.length,t.b=(k:Int):=by
  rw [List.take_length]
  constructor
  · rintro (h0| ⟨m,b,hm,hb1,hg,hx1,hs⟩)
    · exact .inl (.inl h0)
    · by_cases e:m=i
      · subst e
        rw [hbl] at hb1;cases hb1
        exact .inr hg
      · exact .inl (.inr ⟨m,b,by omega,hb1,hg,hx1,hs⟩)
  · rintro ((h0| ⟨m,b,hm,hb1,hg,hx1,hs⟩)|hg)
    · exact .inl h0
    · exact .inr ⟨m,b,by omega,hb1,hg,hx1,hs⟩
    · exact .inr ⟨i,bl,by omega,hbl,hg,hx,hb⟩
def ComeB (cs:List Bool) (p:Nat→Prop):Prop:=∀k,k<cs.length→(cs.getD k false=true↔p k)
theorem jU {cs:List Bool} {p:Nat→Prop} {j:Nat} (h:ComeB cs p):ComeB (cs.set j true) (fun k=>p k∨k=j):=fun k hk=>by
  rw [List.length_set] at hk
  rw [List.getD_eq_getElem?_getD,List.getElem?_set]
  by_cases e:j=k
  · rw [if_pos e,if_pos (e▸hk)]
    exact iff_of_true rfl (.inr e.symm)
  · rw [if_neg e,←List.getD_eq_getElem?_getD,h k hk]
    exact ⟨.inl,fun h=>h.resolve_right (fun h=>e h.symm)⟩
theorem uE {cs:List Bool} {p q:Nat→Prop} (h:ComeB cs p) (hpq:∀k,k<cs.length→(p k↔q k)):ComeB cs q:=fun k hk=>(h k hk).trans (hpq k hk)
theorem come_0 (n:Nat):ComeB ((List.replicate n false).set 0 true) (fun k=>k=0):=uE (jU (p:=fun _=>False) (fun k hk=>by
  rw [List.length_replicate] at hk
  rw [List.getD_eq_getElem?_getD,List.getElem?_replicate,if_pos hk]
  exact ⟨fun h=>(by cases h),False.elim⟩)) (fun k hk=>⟨fun h=>h.resolve_left id,.inr⟩)
theorem tS (b:Bool):(Fw.encB b).length=1:=rfl
theorem eY {cs:List Bool} {k:Nat} (h:k<cs.length):(flat Fw.encB cs)[k*1]?=some (.bool (cs.getD k false)):=by
  refine yL (off:=0) tS (List.getElem?_eq_getElem h) ?_
  rw [List.getD_eq_getElem?_getD,List.getElem?_eq_getElem h]
  rfl
theorem nV {cs:List Bool} {j:Nat} (h:j<cs.length):Fw.put (flat Fw.encB cs) (j*1) [.bool true]=flat Fw.encB (cs.set j true):=by
  rw [Nat.mul_one]
  exact fI tS h true
theorem mJ {l:List Edg} {i:Nat} {t:Edg} (h:l[i]?=some t) (k:Int):(∃s∈l.take (i+1),s.b=k)↔(∃s∈l.take i,s.b=k)∨k=t.b:=by
  rw [yK h]
  constructor
  · rintro ⟨s,hs,e⟩
    rcases List.mem_append.1 hs with h1|h1
    · exact .inl ⟨s,h1,e⟩
    · rw [List.mem_singleton.1 h1] at e;exact .inr e.symm
  · rintro (⟨s,hs,e⟩|e)
    · exact ⟨s,List.mem_append_left _ hs,e⟩
    · exact ⟨t,List.mem_append_right _ (List.mem_singleton.2 rfl),e.symm⟩
section
attribute [local irreducible] Code.wp wpList Calls Ex Op1 sat bat blk cb own Go.Fw.mp Go.Fw.mpO Go.Fw.mpI Go.Fw.mpE Go.Fw.itr HS Rd Ret wkD Hp Cl Cls Exit.then Exit.inBlock Exit.noGoto bodyPost Go.Fw.flat wk2 Go.Fw.all Go.Fw.owns wpOp
attribute [local irreducible] sk mpK sko mvO xM geS xC

theorem avoids_spec (w0:World) (f:Gr) (n:Nat) (x:Int) (hR:RdG w0 f) (hE:EdgS f) (hn:n<f.bs.l.length) (hl:f.bs.l.length≤1048576) (hlt:∀bl∈f.bs.l,bl.e.to.l.length≤1048576):Ret Tryz.prog 71 #[.agg (wE f).toArray,.int .i64 n,.int .i64 x] w0 (fun v w=>∃b,v= .bool b∧(b=true↔¬BS f n x)∧Kp w0 noM w):=by
  have hH:HS w0 noM [] w0:=HS.init w0 noM
  have hspB:Sp f.bs.o f.bs.l.length:=hR.1.1.sp (sz:=6) (zH yS _) (by omega)
  (refine ENT (N:=71) Tryz.func71 Tryz.ntmps71 ?_;intro a hA)
  repeat' (first|(refine QT ?_;clear hA a;intro a hA)|(refine BT ?_;clear hA hH;rintro _ w ⟨bN,rfl,hH⟩ a hA)|(apply zJ hA rfl rfl (by decide);apply nH Fw.encB false (n:=f.bs.l.length);rfl;rfl;omega;omega;(unfold maxLen;omega);omega;rfl;rfl;exact hH;clear hA hH;rintro _ w ⟨oC,rfl,hH⟩ a hA)|refine CT ?_|fail)
  obtain ⟨b3,hb3⟩:∃x,x=bN:=⟨_,rfl⟩
  rw [←hb3] at hA hH
  clear hb3 bN
  have hput0:Fw.put (flat Fw.encB (List.replicate f.bs.l.length false)) (Int.toNat 0*1) [.bool true]=flat Fw.encB ((List.replicate f.bs.l.length false).set 0 true):=nV (by rw [List.length_replicate];omega)
  repeat' (first|(refine QT ?_;clear hA a;intro a hA)|(apply zT hA rfl rfl;apply vB;rfl;rfl;rfl;exact hH;(repeat constructor);(rw [zH tS,List.length_replicate];show 0*1< _;omega);exact hput0;clear hH;rintro _ w hH)|refine CT ?_|fail)
  have hcome0:=come_0 f.bs.l.length
  obtain ⟨cs0,hcs0⟩:∃cs,cs=(List.replicate f.bs.l.length false).set 0 true:=⟨_,rfl⟩
  rw [←hcs0] at hH hcome0
  have hlen0:cs0.length=f.bs.l.length:=by rw [hcs0,List.length_set,List.length_replicate]
  clear hcs0
  refine zU (S:=Nat) (fun i a w=>∃cs,(i≤n∧cs.length=f.bs.l.length∧ComeB cs (avS f x i))∧HS w0 noM [own 4 1 oC f.bs.l.length f.bs.l.length (flat Fw.encB cs),cb b3 44 (wE f)] w∧Sl 71 [(8,.int .i64 i),(7,.slice oC f.bs.l.length f.bs.l.length),(3,.pointer (some (bat b3 0))),(1,.int .i64 n),(2,.int .i64 x),(6,.bool false)] a) (fun i=>n - i)
    (fun a w=>∃cs,(cs.length=f.bs.l.length∧ComeB cs (avS f x n))∧HS w0 noM [own 4 1 oC f.bs.l.length f.bs.l.length (flat Fw.encB cs)] w∧Sl 71 [(7,.slice oC f.bs.l.length f.bs.l.length),(1,.int .i64 n),(6,.bool false)] a) 0
    ⟨cs0,⟨Nat.zero_le _,hlen0,uE hcome0 (fun k hk=>⟨.inl,fun h=>h.elim id (fun ⟨m,bl,hm,_⟩=>absurd hm (Nat.not_lt_zero _))⟩)⟩,hH,(hA.sub SBT)⟩ ?_ ?_
  · clear hA hH hcome0 hlen0
    rintro i a w ⟨cs,⟨hi,hcl,hcs⟩,hH,hA⟩
    by_cases hlt2:i<n
    rotate_left
    · obtain rfl:i=n:=by omega
      repeat' (first|(refine QT ?_;clear hA a;intro a hA)|refine CT ?_|(refine DT ?_ ?_<;>intro hc<;>try (exfalso;omega))|fail)
      exact ⟨cs,⟨hcl,hcs⟩,hH.rm 1,(hA.sub SBT)⟩
    obtain ⟨bl,hbl⟩:∃x,f.bs.l[i]?=some x:=⟨_,List.getElem?_eq_getElem (by omega)⟩
    have hblm:=List.mem_of_getElem? hbl
    have hRb:=hR.2 bl hblm
    have hlt3:=hlt bl hblm
    have hvb:=yI yS hbl
    have hflag:=eY (cs:=cs) (k:=i) (by omega)
    have hii:=(hcs i (by omega)).trans (av_bs hE x (Nat.le_refl i))
    obtain ⟨fl,hfl⟩:∃b,b=cs.getD i false:=⟨_,rfl⟩
    rw [←hfl] at hflag hii
    clear hfl
    repeat' (first|(refine QT ?_;clear hA a;intro a hA)|refine CT ?_|(refine DT ?_ ?_<;>intro hc<;>try (exfalso;omega))|fail)
    (refine zO [(0,1),(1,1),(2,1),(3,1),(4,1),(5,1),(6,1),(7,1),(8,1),(9,1),(10,1),(11,1),(12,1),(13,1),(14,1),(15,1),(16,1),(17,1),(18,1),(19,0),(20,1)] mixed (by decide +kernel) hH ?_;replace hH:=hH.drew)
    cases fl with
    | false=>
      repeat' (first|(refine GT ?_ ?_<;>intro hg<;>clear hA a<;>intro a hA<;>(first|exact FA|replace hg:=dTr hg|replace hg:=dFa hg|skip))|(refine XT ?_;apply XE;(first|(apply zF;rfl;apply xJ;exact MEMT;exact hflag));clear hA a;intro a hA)|(refine QT ?_;clear hA a;intro a hA)|refine CT ?_|(refine DSK ?_;clear hA a;intro a hA)|fail)
      have hbs:BS f i x:=Classical.not_not.1 fun h=>(by cases hii.2 h)
      exact ⟨i+1,⟨cs,⟨hlt2,hcl,uE hcs fun k hk=>(av_skip hbl (.inr hbs) k).symm⟩,hH,(hA.sub SBT)⟩,by omega⟩
    |true=>
    have hbs:¬BS f i x:=hii.1 rfl
    have hvi:(flat zL f.bs.l)[i*6+1]?=some (.slice bl.is.o bl.is.l.length bl.is.c):=yL (off:=1) yS hbl rfl
    have hvt:(flat zL f.bs.l)[i*6+2+3]?=some (.slice bl.e.to.o bl.e.to.l.length bl.e.to.c):=yL (off:=5) yS hbl rfl
    have hspT:Sp bl.e.to.o bl.e.to.l.length:=hRb.2.2.2.2.2.1.1.sp (sz:=2) (zH xW _) (by omega)
    repeat' (first|(refine GT ?_ ?_<;>intro hg<;>clear hA a<;>intro a hA<;>(first|exact FA|replace hg:=dTr hg|replace hg:=dFa hg|skip))|(refine XT ?_;apply XE;(first|(apply zF;rfl;apply xJ;exact MEMT;exact hflag)|(apply zB;rfl;rfl;omega;exact hspB)|(apply zA (vs:=zL bl);rfl;rfl;exact yP hR.1.1 id hvb)|(apply zF;rfl;exact yG hR.1.1 id hvi));clear hA a;intro a hA)|(refine QT ?_;clear hA a;intro a hA)|fail)
    (refine yC hA rfl rfl rfl (by decide) (zE rfl rfl rfl (jX _ bl x bl.is.l.length (hRb.1.keep hH.kp) (hRb.2.1.keep hH.kp))) ?_;clear hA;rintro _ w ⟨bb,rfl,hbb,hk⟩;replace hH:=hH.keep hk;clear hk;refine ⟨STT,?_⟩;intro a hA)
    rw [List.take_length] at hbb
    have hbv:bb=true↔x∈bvs bl:=hbb.trans List.mem_append.symm
    clear hbb
    cases bb with
    | true=>
      repeat' (first|(refine QT ?_;clear hA a;intro a hA)|refine CT ?_|fail)
      exact ⟨i+1,⟨cs,⟨hlt2,hcl,uE hcs fun k hk=>(av_skip hbl (.inl (hbv.1 rfl)) k).symm⟩,hH,(hA.sub SBT)⟩,by omega⟩
    |false=>
    have hxb:¬x∈bvs bl:=fun h=>(by cases hbv.2 h)
    repeat' (first|(refine QT ?_;clear hA a;intro a hA)|refine CT ?_|fail)
    refine zU (S:=Nat) (fun j a w=>∃cs,(j≤bl.e.to.l.length∧cs.length=f.bs.l.length∧ComeB cs (fun k=>avS f x i k∨∃t∈bl.e.to.l.take j,t.b=(k:Int)))∧HS w0 noM [own 4 1 oC f.bs.l.length f.bs.l.length (flat Fw.encB cs),cb b3 44 (wE f)] w∧Sl 71 [(9,.int .i64 j),(8,.int .i64 i),(7,.slice oC f.bs.l.length f.bs.l.length),(3,.pointer (some (bat b3 0))),(1,.int .i64 n),(2,.int .i64 x),(6,.bool false)] a) (fun j=>bl.e.to.l.length - j)
      (fun a w=>∃cs,(cs.length=f.bs.l.length∧ComeB cs (avS f x (i+1)))∧HS w0 noM [own 4 1 oC f.bs.l.length f.bs.l.length (flat Fw.encB cs),cb b3 44 (wE f)] w∧Sl 71 [(8,.int .i64 i),(7,.slice oC f.bs.l.length f.bs.l.length),(3,.pointer (some (bat b3 0))),(1,.int .i64 n),(2,.int .i64 x),(6,.bool false)] a) 0
      ⟨cs,⟨Nat.zero_le _,hcl,uE hcs fun k hk=>⟨.inl,fun h=>h.elim id (fun ⟨t,ht,_⟩=>absurd ht (by rw [List.take_zero];exact List.not_mem_nil))⟩⟩,hH,(hA.sub SBT)⟩ ?_ ?_
    · clear hA hH hcs hcl
      rintro j a w ⟨cs,⟨hj,hcl,hcs⟩,hH,hA⟩
      by_cases hjl:j<bl.e.to.l.length
      rotate_left
      · obtain rfl:j=bl.e.to.l.length:=by omega
        repeat' (first|(refine XT ?_;apply XE;(first|(apply zB;rfl;rfl;omega;exact hspB)|(apply zF;rfl;exact yG hR.1.1 id hvt));clear hA a;intro a hA)|(refine QT ?_;clear hA a;intro a hA)|refine CT ?_|(refine DT ?_ ?_<;>intro hc<;>try (exfalso;omega))|fail)
        exact ⟨cs,⟨hcl,uE hcs fun k hk=>(av_go hbl hxb hbs k).symm⟩,hH,(hA.sub SBT)⟩
      obtain ⟨t,ht⟩:∃x,bl.e.to.l[j]?=some x:=⟨_,List.getElem?_eq_getElem hjl⟩
      obtain ⟨ht1,ht2⟩:=hE i bl hbl t (List.mem_of_getElem? ht)
      have hvb2:(flat uD bl.e.to.l)[j*2+0]?=some (.int .i64 t.b):=yL (off:=0) xW ht rfl
      have htn:t.b.toNat<cs.length:=by omega
      have hput:=nV htn
      repeat' (first|(refine XT ?_;apply XE;(first|(apply zB;rfl;rfl;omega;exact hspB)|(apply zB;rfl;rfl;omega;exact hspT)|(apply zF;rfl;exact yG hR.1.1 id hvt)|(apply zF;rfl;exact yG hRb.2.2.2.2.2.1.1 id hvb2));clear hA a;intro a hA)|(refine QT ?_;clear hA a;intro a hA)|(apply zT hA rfl rfl;apply vB;rfl;rfl;rfl;exact hH;(repeat constructor);(rw [zH tS];omega);exact hput;clear hH;rintro _ w hH)|refine CT ?_|(refine DT ?_ ?_<;>intro hc<;>try (exfalso;omega))|fail)
      exact ⟨j+1,⟨_,⟨hjl,by rw [List.length_set];exact hcl,uE (jU hcs) fun k hk=>⟨fun h=>h.elim (fun h=>h.elim .inl (fun h=>.inr ((mJ ht k).2 (.inl h)))) (fun h=>.inr ((mJ ht k).2 (.inr (by omega)))),fun h=>h.elim (fun h=>.inl (.inl h)) (fun h=>((mJ ht k).1 h).elim (fun h=>.inl (.inr h)) (fun h=>.inr (by omega)))⟩⟩,hH,(hA.sub SBT)⟩,by omega⟩
    clear hA hH hcs hcl
    rintro a w ⟨cs,⟨hcl,hcs⟩,hH,hA⟩
    repeat' (first|(refine QT ?_;clear hA a;intro a hA)|refine CT ?_|fail)
    exact ⟨i+1,⟨cs,⟨hlt2,hcl,hcs⟩,hH,(hA.sub SBT)⟩,by omega⟩
  clear hA hH
  rintro a w ⟨cs,⟨hcl,hcs⟩,hH,hA⟩
  have hflag:=eY (cs:=cs) (k:=n) (by omega)
  have hnn:=(hcs n (by omega)).trans (av_bs hE x (Nat.le_refl n))
  repeat' (first|(refine XT ?_;apply XE;(first|(apply zF;rfl;apply xJ;exact MEMT;exact hflag));clear hA a;intro a hA)|(refine QT ?_;clear hA a;intro a hA)|refine CT ?_|fail)
  exact rt1 (.inl rfl) rfl hA rfl ⟨_,rfl,hnn,hH.kp⟩
end
def rV {α:Type} (f:α→Nat) (l:List α) (i:Nat):Nat:=((l.take i).map f).sum
theorem eF {α:Type} (f:α→Nat) (l:List α):rV f l 0=0:=by unfold rV;rw [List.take_zero];rfl
theorem sZ {α:Type} {f:α→Nat} {l:List α} {i:Nat} {x:α} (h:l[i]?=some x):rV f l (i+1)=rV f l i+f x:=by
  unfold rV
  rw [yK h,List.map_append,List.sum_append]
  simp
theorem nC {α:Type} (f:α→Nat) (l:List α):rV f l l.length=(l.map f).sum:=by unfold rV;rw [List.take_length]
theorem kG {α:Type} (f:α→Nat) (l:List α) (i:Nat):rV f l i≤(l.map f).sum:=by
  unfold rV
  conv=>rhs;rw [←List.take_append_drop i l,List.map_append,List.sum_append]
  exact Nat.le_add_right _ _
def PR (most n S:Nat):Prop:=n=S∨(most<n∧n≤S)
theorem PR_0 (most:Nat):PR most 0 0:=.inl rfl
theorem PR_r (most n:Nat):PR most n (n+0):=.inl rfl
theorem PR_self (most n m:Nat) (h:n=m):PR most n m:=.inl h
theorem PR_val {m n:Int} (h:m=n):(some (Value.int .i64 m):Option Value)=some (.int .i64 n):=by rw [h]
theorem PR.up {most n S T:Nat} (h:PR most n S) (hn:most<n) (hT:S≤T):PR most n T:=by
  rcases h with h|h
  · exact .inr ⟨hn,by omega⟩
  · exact .inr ⟨h.1,by omega⟩
theorem PR.eq {most n S:Nat} (h:PR most n S) (hn:n≤most):n=S:=by
  rcases h with h|h
  · exact h
  · omega
theorem PR.iff {most n S:Nat} (h:PR most n S):n≤most↔S≤most:=by
  rcases h with h|h<;>omega
abbrev insM (i:Ins):Nat:=1+i.r.a.l.length
abbrev edgM (t:Edg):Nat:=1+t.a.l.length
theorem blkM_eq (bl:Blc):uZ bl=2+bl.ps.l.length+bl.e.a.l.length+(bl.is.l.map insM).sum+(bl.e.to.l.map edgM).sum:=by
  show 2+bl.ps.l.length+(bl.is.l.map insM).sum+bl.e.a.l.length+(bl.e.to.l.map edgM).sum=_
  omega
structure SzB (m:Nat) (bl:Blc):Prop where
  ps:bl.ps.l.length≤m
  is:bl.is.l.length≤m
  ia:∀i∈bl.is.l,i.r.a.l.length≤m
  ea:bl.e.a.l.length≤m
  et:bl.e.to.l.length≤m
  ta:∀t∈bl.e.to.l,t.a.l.length≤m
structure SzG (m:Nat) (g:Grs):Prop where
  fs:g.fs.l.length≤m
  bs:∀f∈g.fs.l,f.bs.l.length≤m
  bl:∀f∈g.fs.l,∀b∈f.bs.l,SzB m b
theorem gr_bs {l:List Gr} {i:Nat} {f:Gr} (h:l[i]?=some f):(flat wE l)[i*2+1]?=some (.slice f.bs.o f.bs.l.length f.bs.c):=yL (off:=1) wM h rfl
theorem in_a {l:List Ins} {i:Nat} {x:Ins} (h:l[i]?=some x):(flat wV l)[i*5+1+3]?=some (.slice x.r.a.o x.r.a.l.length x.r.a.c):=by rw [Nat.add_assoc];exact yL (off:=4) xY h rfl
theorem ed_a {l:List Edg} {i:Nat} {x:Edg} (h:l[i]?=some x):(flat uD l)[i*2+1]?=some (.slice x.a.o x.a.l.length x.a.c):=yL (off:=1) xW h rfl
section
attribute [local irreducible] Code.wp wpList Calls Ex Op1 sat bat blk cb own Go.Fw.mp Go.Fw.mpO Go.Fw.mpI Go.Fw.mpE Go.Fw.itr HS Rd Ret wkD Hp Cl Cls Exit.then Exit.inBlock Exit.noGoto bodyPost Go.Fw.flat wk2 Go.Fw.all Go.Fw.owns wpOp
attribute [local irreducible] sk mpK sko mvO xM opM Go.Fw.mset Go.Fw.mv opK rV PR

theorem Parts_spec (w0:World) (g:Grs) (most:Nat) (hm:most≤100000) (hR:RdGs w0 g) (hs:SzG 1048576 g) :
    Ret Tryz.prog 25 #[.agg (zZ g).toArray,.int .i64 most] w0 (fun r w=>∃n:Nat,r= .int .i64 n∧(n≤most↔rW g≤most)∧Kp w0 noM w):=by
  have hH:HS w0 noM [] w0:=HS.init w0 noM
  have hfs:=hs.fs
  have hspF:Sp g.fs.o g.fs.l.length:=hR.1.1.sp (sz:=2) (zH wM _) (by omega)
  (refine ENT (N:=107) Tryz.func25 Tryz.ntmps25 ?_;intro a hA)
  repeat' (first|(refine QT ?_;clear hA a;intro a hA)|(refine BT ?_;clear hA hH;rintro _ w ⟨bN,rfl,hH⟩ a hA)|refine CT ?_|fail)
  obtain ⟨b2,hb2⟩:∃x,x=bN:=⟨_,rfl⟩
  rw [←hb2] at hA hH
  clear hb2 bN
  refine zU (S:=Nat) (fun i a w=>∃n:Nat,(i≤g.fs.l.length∧PR most n (rV grN g.fs.l i)∧n≤5000000)∧HS w0 noM [cb b2 25 (zZ g)] w∧Sl 107 [(6,.int .i64 i),(5,.int .i64 n),(2,.pointer (some (bat b2 0))),(1,.int .i64 most)] a) (fun i=>g.fs.l.length - i)
    (fun a w=>∃n:Nat,PR most n (rW g)∧HS w0 noM [] w∧Sl 107 [(5,.int .i64 n)] a) 0 ⟨0,⟨Nat.zero_le _,by rw [eF];exact PR_0 most,Nat.zero_le _⟩,hH,(hA.sub SBT)⟩ ?_ ?_
  · clear hA hH
    rintro i a w ⟨n,⟨hi,hp,hn5⟩,hH,hA⟩
    by_cases hlt:i<g.fs.l.length
    rotate_left
    · obtain rfl:i=g.fs.l.length:=by omega
      repeat' (first|(refine GT ?_ ?_<;>intro hg<;>clear hA a<;>intro a hA<;>(first|exact FA|replace hg:=dTr hg|replace hg:=dFa hg|skip))|(refine QT ?_;clear hA a;intro a hA)|refine CT ?_|fail)
      exact ⟨n,by rw [nC] at hp;exact hp,hH.tail,(hA.sub SBT)⟩
    by_cases hle:n≤most
    rotate_left
    · repeat' (first|(refine GT ?_ ?_<;>intro hg<;>clear hA a<;>intro a hA<;>(first|exact FA|replace hg:=dTr hg|replace hg:=dFa hg|skip))|(refine QT ?_;clear hA a;intro a hA)|refine CT ?_|(refine DT ?_ ?_<;>intro hc<;>try (exfalso;omega))|fail)
      exact ⟨n,hp.up (by omega) (kG grN _ _),hH.tail,(hA.sub SBT)⟩
    obtain rfl:=hp.eq hle
    obtain ⟨f,hf⟩:∃x,g.fs.l[i]?=some x:=⟨_,List.getElem?_eq_getElem hlt⟩
    have hfm:=List.mem_of_getElem? hf
    have hRf:=hR.2.1 f hfm
    have hbs:=hs.bs f hfm
    have hvG:=gr_bs hf
    have hspB:Sp f.bs.o f.bs.l.length:=hRf.1.1.sp (sz:=6) (zH yS _) (by omega)
    repeat' (first|(refine GT ?_ ?_<;>intro hg<;>clear hA a<;>intro a hA<;>(first|exact FA|replace hg:=dTr hg|replace hg:=dFa hg|skip))|(refine QT ?_;clear hA a;intro a hA)|refine CT ?_|(refine DT ?_ ?_<;>intro hc<;>try (exfalso;omega))|fail)
    refine zU (S:=Nat) (fun k a w=>∃n:Nat,(k≤f.bs.l.length∧PR most n (rV grN g.fs.l i+rV uZ f.bs.l k)∧n≤5000000)∧HS w0 noM [cb b2 25 (zZ g)] w∧Sl 107 [(7,.int .i64 k),(6,.int .i64 i),(5,.int .i64 n),(2,.pointer (some (bat b2 0))),(1,.int .i64 most)] a) (fun k=>f.bs.l.length - k)
      (fun a w=>∃n:Nat,(PR most n (rV grN g.fs.l (i+1))∧n≤5000000)∧HS w0 noM [cb b2 25 (zZ g)] w∧Sl 107 [(6,.int .i64 i),(5,.int .i64 n),(2,.pointer (some (bat b2 0))),(1,.int .i64 most)] a) 0 ⟨_,⟨Nat.zero_le _,by rw [eF];exact PR_r most _,hn5⟩,hH,(hA.sub SBT)⟩ ?_ ?_
    · clear hA hH
      rintro k a w ⟨n,⟨hk,hp2,hn6⟩,hH,hA⟩
      by_cases hlk:k<f.bs.l.length
      rotate_left
      · obtain rfl:k=f.bs.l.length:=by omega
        repeat' (first|(refine GT ?_ ?_<;>intro hg<;>clear hA a<;>intro a hA<;>(first|exact FA|replace hg:=dTr hg|replace hg:=dFa hg|skip))|(refine XT ?_;apply XE;(first|(apply zB;rfl;rfl;omega;exact hspF)|(apply zF;rfl;exact yG hR.1.1 id hvG));clear hA a;intro a hA)|(refine QT ?_;clear hA a;intro a hA)|refine CT ?_|fail)
        refine ⟨n,⟨?_,hn6⟩,hH,(hA.sub SBT)⟩
        rw [sZ hf]
        rw [nC] at hp2
        exact hp2
      by_cases hl2:n≤most
      rotate_left
      · repeat' (first|(refine GT ?_ ?_<;>intro hg<;>clear hA a<;>intro a hA<;>(first|exact FA|replace hg:=dTr hg|replace hg:=dFa hg|skip))|(refine XT ?_;apply XE;(first|(apply zB;rfl;rfl;omega;exact hspF)|(apply zF;rfl;exact yG hR.1.1 id hvG));clear hA a;intro a hA)|(refine QT ?_;clear hA a;intro a hA)|refine CT ?_|(refine DT ?_ ?_<;>intro hc<;>try (exfalso;omega))|fail)
        refine ⟨n,⟨?_,hn6⟩,hH,(hA.sub SBT)⟩
        rw [sZ hf]
        exact hp2.up (by omega) (Nat.add_le_add_left (kG uZ _ _) _)
      obtain rfl:=hp2.eq hl2
      obtain ⟨bl,hbl⟩:∃x,f.bs.l[k]?=some x:=⟨_,List.getElem?_eq_getElem hlk⟩
      have hbm:=List.mem_of_getElem? hbl
      have hRb:=hRf.2 bl hbm
      have hsb:=hs.bl f hfm bl hbm
      have hs1:=hsb.ps
      have hs2:=hsb.is
      have hs3:=hsb.ea
      have hs4:=hsb.et
      have hspI:Sp bl.is.o bl.is.l.length:=hRb.2.1.1.sp (sz:=5) (zH xY _) (by omega)
      have hspT:Sp bl.e.to.o bl.e.to.l.length:=hRb.2.2.2.2.2.1.1.sp (sz:=2) (zH xW _) (by omega)
      repeat' (first|(refine GT ?_ ?_<;>intro hg<;>clear hA a<;>intro a hA<;>(first|exact FA|replace hg:=dTr hg|replace hg:=dFa hg|skip))|(refine XT ?_;apply XE;(first|(apply zB;rfl;rfl;omega;first|exact hspF|exact hspB)|(apply zF;rfl;exact yG hR.1.1 id hvG)|(apply zA (vs:=zL bl);rfl;rfl;exact yP hRf.1.1 id (yI yS hbl)));clear hA a;intro a hA)|(refine QT ?_;clear hA a;intro a hA)|(refine BT ?_;clear hA hH;rintro _ w ⟨bN,rfl,hH⟩ a hA)|(refine SAT (zL bl) hA hH ?_;clear hH;intro w hH)|refine CT ?_|(refine DT ?_ ?_<;>intro hc<;>try (exfalso;omega))|fail)
      obtain ⟨b8,hb8⟩:∃x,x=bN:=⟨_,rfl⟩
      rw [←hb8] at hA hH
      clear hb8 bN
      obtain ⟨S0,hS0⟩:∃S0,S0=rV grN g.fs.l i+rV uZ f.bs.l k:=⟨_,rfl⟩
      rw [←hS0] at hA hl2 hn6 hp2
      rw [show ((S0:Nat):Int)+(2+(bl.ps.l.length:Int)+(bl.e.a.l.length:Int))=((S0+(2+bl.ps.l.length+bl.e.a.l.length):Nat):Int) by omega] at hA
      obtain ⟨S1,hS1⟩:∃S1,S1=S0+(2+bl.ps.l.length+bl.e.a.l.length):=⟨_,rfl⟩
      rw [←hS1] at hA
      refine zU (S:=Nat) (fun j a w=>∃n:Nat,(j≤bl.is.l.length∧PR most n (S1+rV insM bl.is.l j)∧n≤4000000)∧HS w0 noM [cb b8 53 (zL bl),cb b2 25 (zZ g)] w∧Sl 107 [(9,.int .i64 j),(8,.pointer (some (bat b8 0))),(7,.int .i64 k),(6,.int .i64 i),(5,.int .i64 n),(2,.pointer (some (bat b2 0))),(1,.int .i64 most)] a) (fun j=>bl.is.l.length - j)
        (fun a w=>∃n:Nat,(PR most n (S1+(bl.is.l.map insM).sum)∧n≤4000000)∧HS w0 noM [cb b8 53 (zL bl),cb b2 25 (zZ g)] w∧Sl 107 [(8,.pointer (some (bat b8 0))),(7,.int .i64 k),(6,.int .i64 i),(5,.int .i64 n),(2,.pointer (some (bat b2 0))),(1,.int .i64 most)] a) 0 ⟨S1,⟨Nat.zero_le _,by rw [eF];exact PR_r most _,by omega⟩,hH,(hA.sub SBT)⟩ ?_ ?_
      · clear hA hH
        rintro j a w ⟨n,⟨hj,hp3,hn7⟩,hH,hA⟩
        by_cases hlj:j<bl.is.l.length
        rotate_left
        · obtain rfl:j=bl.is.l.length:=by omega
          repeat' (first|(refine GT ?_ ?_<;>intro hg<;>clear hA a<;>intro a hA<;>(first|exact FA|replace hg:=dTr hg|replace hg:=dFa hg|skip))|(refine QT ?_;clear hA a;intro a hA)|refine CT ?_|fail)
          rw [nC] at hp3
          exact ⟨n,⟨hp3,hn7⟩,hH,(hA.sub SBT)⟩
        by_cases hl3:n≤most
        rotate_left
        · repeat' (first|(refine GT ?_ ?_<;>intro hg<;>clear hA a<;>intro a hA<;>(first|exact FA|replace hg:=dTr hg|replace hg:=dFa hg|skip))|(refine QT ?_;clear hA a;intro a hA)|refine CT ?_|(refine DT ?_ ?_<;>intro hc<;>try (exfalso;omega))|fail)
          exact ⟨n,⟨hp3.up (by omega) (Nat.add_le_add_left (kG insM _ _) _),hn7⟩,hH,(hA.sub SBT)⟩
        obtain ⟨x,hx⟩:∃x,bl.is.l[j]?=some x:=⟨_,List.getElem?_eq_getElem hlj⟩
        have hxa:=hsb.ia x (List.mem_of_getElem? hx)
        have hvI:=in_a hx
        repeat' (first|(refine GT ?_ ?_<;>intro hg<;>clear hA a<;>intro a hA<;>(first|exact FA|replace hg:=dTr hg|replace hg:=dFa hg|skip))|(refine XT ?_;apply XE;(first|(apply zB;rfl;rfl;omega;exact hspI)|(apply zF;rfl;exact yG hRb.2.1.1 id hvI));clear hA a;intro a hA)|(refine QT ?_;clear hA a;intro a hA)|refine CT ?_|(refine DT ?_ ?_<;>intro hc<;>try (exfalso;omega))|fail)
        have hne:=hp3.eq hl3
        refine ⟨j+1,⟨n+insM x,⟨hlj,?_,by show n+(1+_)≤_;omega⟩,hH,(hA.sub (by refine ⟨rfl,rfl,rfl,rfl,?_,rfl,rfl,trivial⟩;exact PR_val (by show (n:Int)+(1+_)=((n+(1+_):Nat):Int);omega)))⟩,by omega⟩
        rw [sZ hx,hne]
        exact PR_self most _ _ (Nat.add_assoc ..)
      clear hA hH
      rintro a w ⟨n,⟨hp3,hn7⟩,hH,hA⟩
      obtain ⟨S2,hS2⟩:∃S2,S2=S1+(bl.is.l.map insM).sum:=⟨_,rfl⟩
      rw [←hS2] at hp3
      repeat' (first|(refine QT ?_;clear hA a;intro a hA)|refine CT ?_|fail)
      refine zU (S:=Nat) (fun j a w=>∃n:Nat,(j≤bl.e.to.l.length∧PR most n (S2+rV edgM bl.e.to.l j)∧n≤5000000)∧HS w0 noM [cb b8 53 (zL bl),cb b2 25 (zZ g)] w∧Sl 107 [(10,.int .i64 j),(8,.pointer (some (bat b8 0))),(7,.int .i64 k),(6,.int .i64 i),(5,.int .i64 n),(2,.pointer (some (bat b2 0))),(1,.int .i64 most)] a) (fun j=>bl.e.to.l.length - j)
        (fun a w=>∃n:Nat,(PR most n (S2+(bl.e.to.l.map edgM).sum)∧n≤5000000)∧HS w0 noM [cb b8 53 (zL bl),cb b2 25 (zZ g)] w∧Sl 107 [(7,.int .i64 k),(6,.int .i64 i),(5,.int .i64 n),(2,.pointer (some (bat b2 0))),(1,.int .i64 most)] a) 0 ⟨n,⟨Nat.zero_le _,by rw [eF];exact hp3,by omega⟩,hH,(hA.sub SBT)⟩ ?_ ?_
      · clear hA hH hp3 hn7 n
        rintro j a w ⟨n,⟨hj,hp3,hn7⟩,hH,hA⟩
        by_cases hlj:j<bl.e.to.l.length
        rotate_left
        · obtain rfl:j=bl.e.to.l.length:=by omega
          repeat' (first|(refine GT ?_ ?_<;>intro hg<;>clear hA a<;>intro a hA<;>(first|exact FA|replace hg:=dTr hg|replace hg:=dFa hg|skip))|(refine QT ?_;clear hA a;intro a hA)|refine CT ?_|fail)
          rw [nC] at hp3
          exact ⟨n,⟨hp3,hn7⟩,hH,(hA.sub SBT)⟩
        by_cases hl3:n≤most
        rotate_left
        · repeat' (first|(refine GT ?_ ?_<;>intro hg<;>clear hA a<;>intro a hA<;>(first|exact FA|replace hg:=dTr hg|replace hg:=dFa hg|skip))|(refine QT ?_;clear hA a;intro a hA)|refine CT ?_|(refine DT ?_ ?_<;>intro hc<;>try (exfalso;omega))|fail)
          exact ⟨n,⟨hp3.up (by omega) (Nat.add_le_add_left (kG edgM _ _) _),hn7⟩,hH,(hA.sub SBT)⟩
        obtain ⟨x,hx⟩:∃x,bl.e.to.l[j]?=some x:=⟨_,List.getElem?_eq_getElem hlj⟩
        have hxa:=hsb.ta x (List.mem_of_getElem? hx)
        have hvI:=ed_a hx
        repeat' (first|(refine GT ?_ ?_<;>intro hg<;>clear hA a<;>intro a hA<;>(first|exact FA|replace hg:=dTr hg|replace hg:=dFa hg|skip))|(refine XT ?_;apply XE;(first|(apply zB;rfl;rfl;omega;exact hspT)|(apply zF;rfl;exact yG hRb.2.2.2.2.2.1.1 id hvI));clear hA a;intro a hA)|(refine QT ?_;clear hA a;intro a hA)|refine CT ?_|(refine DT ?_ ?_<;>intro hc<;>try (exfalso;omega))|fail)
        have hne:=hp3.eq hl3
        refine ⟨j+1,⟨n+edgM x,⟨hlj,?_,by show n+(1+_)≤_;omega⟩,hH,(hA.sub (by refine ⟨rfl,rfl,rfl,rfl,?_,rfl,rfl,trivial⟩;exact PR_val (by show (n:Int)+(1+_)=((n+(1+_):Nat):Int);omega)))⟩,by omega⟩
        rw [sZ hx,hne]
        exact PR_self most _ _ (Nat.add_assoc ..)
      clear hA hH hp3 hn7 n
      rintro a w ⟨n,⟨hp3,hn7⟩,hH,hA⟩
      repeat' (first|(refine QT ?_;clear hA a;intro a hA)|refine CT ?_|fail)
      refine ⟨k+1,⟨n,⟨hlk,?_,hn7⟩,hH.tail,(hA.sub SBT)⟩,by omega⟩
      rw [sZ hbl,←Nat.add_assoc,←hS0]
      have e1:S0+uZ bl=S2+(bl.e.to.l.map edgM).sum:=by rw [blkM_eq,hS2,hS1];omega
      rw [e1]
      exact hp3
    clear hA hH
    rintro a w ⟨n,⟨hp2,hn6⟩,hH,hA⟩
    repeat' (first|(refine QT ?_;clear hA a;intro a hA)|refine CT ?_|fail)
    exact ⟨i+1,⟨n,⟨hlt,hp2,hn6⟩,hH,(hA.sub SBT)⟩,by omega⟩
  clear hA hH
  rintro a w ⟨n,hp,hH,hA⟩
  repeat' (first|(refine QT ?_;clear hA a;intro a hA)|refine CT ?_|fail)
  exact rt1 (.inl rfl) rfl hA rfl ⟨n,rfl,hp.iff,hH.kp⟩
end
def xs4:List ByteArray:=[uX,pW,exnM,rX]
theorem ris_nil:gG []:=fun i h=>absurd h (Nat.not_lt_zero _)
theorem ris4:gG xs4:=fun i hi=>by
  match i,hi with
  |0,_=>exact ⟨by decide +kernel,fun h=>absurd h (Nat.lt_irrefl _)⟩
  |1,_=>exact ⟨by decide +kernel,fun _=>by decide +kernel⟩
  |2,_=>exact ⟨by decide +kernel,fun _=>by decide +kernel⟩
  |3,_=>exact ⟨by decide +kernel,fun _=>by decide +kernel⟩
theorem anf4 {g:Grs} (hx:g.xs.l=xs4) (hl:g.ls.l=[]) (ht:g.ts.l=[]) (hs:g.ss.l=[]):AnfP [0] g where
  pos:=by decide
  top:=by decide
  c0:=rfl
  ls:=by rw [hl];exact ris_nil
  ts:=by rw [ht];exact ris_nil
  xs:=by rw [hx];exact ris4
  has:=by rw [hx];unfold tX;decide +kernel
  ss:=by rw [hs];exact fun s h=>absurd h (List.not_mem_nil)
  caps:=by decide
def bl5 (o:Option Addr) (c:Nat) (n:Int):Blc:=⟨yM,yM,⟨1,⟨o,c,[⟨2,n⟩]⟩,yM,yM⟩⟩
theorem kP:upP []:=fun i h=>absurd h (Nat.not_lt_zero _)
theorem end5 (o:Option Addr) (c:Nat) (n:Int):EndP (bl5 o c n).e where
  lo:=show (1:Int)≤1 by decide
  hi:=show (1:Int)≤6 by decide
  a:=rfl
  to:=rfl
  ns:=show ((1:Int)=6↔0<0) by decide
  up:=kP
theorem may5 {g:Grs} {o oB:Option Addr} {c cB oc:Nat} {n:Int} {of:Option Addr} (hn:-4611686018427387904≤n∧n<4611686018427387904) (hf:g.fs.l=[⟨0,⟨oB,cB,[bl5 o c n]⟩⟩]) (hx:g.xs.l=xs4) (hl:g.ls.l=[]) (ht:g.ts.l=[]) (hs:g.ss.l=[]):MayP g where
  anf:=by rw [hf];exact anf4 hx hl ht hs
  gr :=fun f hm=>by
    rw [hf] at hm ⊢
    obtain rfl:=List.mem_singleton.1 hm
    refine ⟨Nat.zero_lt_succ _,fun k bl hk=>?_,⟨List.nodup_nil,fun x h=>absurd h (List.not_mem_nil)⟩⟩
    match k,hk with
    | 0,hk=>
      obtain rfl:bl5 o c n=bl:=by simpa using hk
      refine ⟨.inl rfl,⟨fun _=>rfl,fun i x hx=>(by cases hx),end5 o c n,fun a ha=>?_,fun t ht=>absurd ht (List.not_mem_nil)⟩⟩
      obtain rfl:=List.mem_singleton.1 ha
      exact .inr (.inl ⟨rfl,hn⟩)
  size:=by unfold rW;rw [hf];simp [grN,uZ,bl5,yM]
def blA (o0 o1:Option Addr) (c0 c1:Nat):Blc:=⟨yM,yM,⟨5,⟨o0,c0,[⟨1,1⟩]⟩,yM,⟨o1,c1,[⟨1,yM⟩,⟨2,yM⟩]⟩⟩⟩
def blJ (o0 o1:Option Addr) (c0 c1:Nat) (n:Int):Blc:=⟨yM,yM,⟨4,yM,yM,⟨o1,c1,[⟨3,⟨o0,c0,[⟨2,n⟩]⟩⟩]⟩⟩⟩
def blR (o0 o1:Option Addr) (c0 c1:Nat):Blc:=⟨⟨o0,c0,[2]⟩,yM,⟨1,⟨o1,c1,[⟨1,2⟩]⟩,yM,yM⟩⟩
theorem mayA {g:Grs} {a0 a1 b0 b1 d0 d1 e0 e1 oB:Option Addr} {x0 x1 y0 y1 z0 z1 v0 v1 cB:Nat} (hf:g.fs.l=[⟨0,⟨oB,cB,[blA a0 a1 x0 x1,blJ b0 b1 y0 y1 7,blJ d0 d1 z0 z1 8,blR e0 e1 v0 v1]⟩⟩]) (hx:g.xs.l=xs4) (hl:g.ls.l=[]) (ht:g.ts.l=[]) (hs:g.ss.l=[]):MayP g where
  anf:=by rw [hf];exact anf4 hx hl ht hs
  gr := fun f hm=>by
    rw [hf] at hm ⊢
    obtain rfl:=List.mem_singleton.1 hm
    refine ⟨Nat.zero_lt_succ _,fun k bl hk=>?_,⟨by show List.Nodup [2];decide,fun x h=>by
      have h:x∈[2]:=h
      rw [List.mem_singleton] at h
      subst h;decide⟩⟩
    match k,hk with
    | 0,hk=>
      obtain rfl:blA a0 a1 x0 x1=bl:=by simpa using hk
      refine ⟨.inl rfl,⟨fun _=>rfl,fun i x hx=>(by cases hx),⟨show (1:Int)≤5 by decide,show (5:Int)≤6 by decide,rfl,rfl,show ((5:Int)=6↔0<0) by decide,kP⟩,fun a ha=>?_,fun t ht=>?_⟩⟩
      · obtain rfl:=List.mem_singleton.1 ha
        exact .inl ⟨rfl,by decide,by decide,.inl (by decide)⟩
      · have ht:t∈[(⟨1,yM⟩:Edg),⟨2,yM⟩]:=ht
        rcases List.mem_cons.1 ht with rfl|ht
        · exact ⟨by decide,by show (1:Int)<4;decide,rfl,fun a ha=>absurd ha (List.not_mem_nil)⟩
        obtain rfl:=List.mem_singleton.1 ht
        exact ⟨by decide,by show (2:Int)<4;decide,rfl,fun a ha=>absurd ha (List.not_mem_nil)⟩
    | 1,hk=>
      obtain rfl:blJ b0 b1 y0 y1 7=bl:=by simpa using hk
      refine ⟨.inr ⟨0,_,by decide,rfl,⟨⟨1,yM⟩,List.mem_cons_self ..,rfl⟩⟩,⟨fun h=>(by cases h),fun i x hx=>(by cases hx),⟨show (1:Int)≤4 by decide,show (4:Int)≤6 by decide,rfl,rfl,show ((4:Int)=6↔0<0) by decide,kP⟩,fun a ha=>absurd ha (List.not_mem_nil),fun t ht=>?_⟩⟩
      obtain rfl:=List.mem_singleton.1 ht
      refine ⟨show (1:Int)<3 by decide,by show (3:Int)<4;decide,rfl,fun a ha=>?_⟩
      obtain rfl:=List.mem_singleton.1 ha
      exact .inr (.inl ⟨rfl,by decide,by decide⟩)
    | 2,hk=>
      obtain rfl:blJ d0 d1 z0 z1 8=bl:=by simpa using hk
      refine ⟨.inr ⟨0,_,by decide,rfl,⟨⟨2,yM⟩,List.mem_cons_of_mem _ (List.mem_cons_self ..),rfl⟩⟩,⟨fun h=>(by cases h),fun i x hx=>(by cases hx),⟨show (1:Int)≤4 by decide,show (4:Int)≤6 by decide,rfl,rfl,show ((4:Int)=6↔0<0) by decide,kP⟩,fun a ha=>absurd ha (List.not_mem_nil),fun t ht=>?_⟩⟩
      obtain rfl:=List.mem_singleton.1 ht
      refine ⟨show (2:Int)<3 by decide,by show (3:Int)<4;decide,rfl,fun a ha=>?_⟩
      obtain rfl:=List.mem_singleton.1 ha
      exact .inr (.inl ⟨rfl,by decide,by decide⟩)
    | 3,hk=>
      obtain rfl:blR e0 e1 v0 v1=bl:=by simpa using hk
      refine ⟨.inr ⟨1,_,by decide,rfl,⟨_,List.mem_cons_self ..,rfl⟩⟩,⟨fun h=>(by cases h),fun i x hx=>(by cases hx),⟨show (1:Int)≤1 by decide,show (1:Int)≤6 by decide,rfl,rfl,show ((1:Int)=6↔0<0) by decide,kP⟩,fun a ha=>?_,fun t ht=>absurd ht (List.not_mem_nil)⟩⟩
      obtain rfl:=List.mem_singleton.1 ha
      exact .inl ⟨rfl,by decide,by decide,.inr (.inr (.inl (List.mem_cons_self ..)))⟩
  size:=by unfold rW;rw [hf];simp [grN,uZ,blA,blJ,blR,yM]
theorem may0 {g:Grs} (hf:g.fs.l=[]):¬MayP g:=fun h=>by
  have:=h.anf.pos
  rw [hf] at this
  exact absurd this (by decide)
def at5:Atm:=⟨2,5⟩
section
attribute [local irreducible] Code.wp wpList Calls Ex Op1 sat bat blk cb own Go.Fw.mp Go.Fw.mpO Go.Fw.mpI Go.Fw.mpE Go.Fw.itr HS Rd Ret wkD Hp Cl Cls Exit.then Exit.inBlock Exit.noGoto bodyPost Go.Fw.flat wk2 Go.Fw.all Go.Fw.owns wpOp
attribute [local irreducible] sk mpK sko mvO xM geS

theorem dS (w0 w:World) (H:List It) (c:Kk) (bK:Nat) (p:Int) (o:Option Addr) (hH:HS w0 noM (cb bK 127 (wF c (p))::H) w) (hr:Rd w0 o (zV at5)) (hp0:0≤p) (hp1:p≤60001) :
    Ret Tryz.prog 79 #[.pointer (some (bat bK 0)),.slice o 1 1] w (fun r w'=>r= .bool true∧HS w0 noM (cb bK 127 (wF c (p+1))::H) w'):=by
  have hsp:Sp o 1:=hr.sp (sz:=2) rfl (by omega)
  (refine ENT (N:=78) Tryz.func79 Tryz.ntmps79 ?_;intro a hA)
  repeat' (first|(refine QT ?_;clear hA a;intro a hA)|refine CT ?_|fail)
  refine zU (S:=Nat) (fun i a w=>i≤1∧HS w0 noM (cb bK 127 (wF c (p+(i:Int)))::H) w∧Sl 78 [(10,.int .i64 i),(9,.int .i64 (1:Nat)),(8,.slice o 1 1),(0,.pointer (some (bat bK 0)))] a) (fun i=>1 - i)
    (fun a w=>HS w0 noM (cb bK 127 (wF c (p+1))::H) w∧Sl 78 [] a) 0 ⟨by omega,(by rw [show p+((0:Nat):Int)=p by omega];exact hH),(hA.sub SBT)⟩ ?_ ?_
  · clear hA hH
    rintro i a w ⟨hi,hH,hA⟩
    by_cases hlt:i<1
    rotate_left
    · obtain rfl:i=1:=by omega
      repeat' (first|(refine QT ?_;clear hA a;intro a hA)|refine CT ?_|fail)
      exact ⟨hH,(hA.sub SBT)⟩
    obtain rfl:i=0:=by omega
    rw [show p+((0:Nat):Int)=p by omega] at hH
    repeat' (first|(refine GT ?_ ?_<;>intro hg<;>clear hA a<;>intro a hA<;>(first|exact FA|replace hg:=dTr hg|replace hg:=dFa hg|skip))|(refine XT ?_;apply XE;(first|(apply zA (vs:=zV at5);rfl;rfl;exact yP hr id (fun i v h=>(by rw [Nat.zero_mul,Nat.zero_add];exact h)))|(apply zB;rfl;rfl;omega;exact hsp));clear hA a;intro a hA)|(refine QT ?_;clear hA a;intro a hA)|(refine BT ?_;clear hA hH;rintro _ w ⟨bN,rfl,hH⟩ a hA)|(refine SAT (zV at5) hA hH ?_;clear hH;intro w hH)|(apply zT hA rfl rfl;apply zG (cs':=wF c (p+1));rfl;rfl;rfl;exact hH;(repeat constructor);clear hH;rintro _ w hH)|refine CT ?_|(refine DT ?_ ?_<;>intro hc<;>try (exfalso;omega))|fail)
    all_goals first|exact ⟨1,⟨by omega,hH.tail,(hA.sub SBT)⟩,by omega⟩|(exfalso;have h1:=nd_t (by assumption);omega)|skip
  clear hA hH
  rintro a w ⟨hH,hA⟩
  repeat' (first|(refine QT ?_;clear hA a;intro a hA)|refine CT ?_|fail)
  exact rt1 (.inl rfl) rfl hA rfl ⟨rfl,hH⟩
theorem body5_spec (w0 w:World) (H:List It) (c:Kk) (bK:Nat) (p:Int) (o:Option Addr) (hH:HS w0 noM (cb bK 127 (wF c (p))::H) w) (hr:Rd w0 o (zV at5)) (hp0:0≤p) (hp1:p≤60000) :
    Ret Tryz.prog 45 #[.pointer (some (bat bK 0)),.agg (encB o).toArray,.int .i64 1] w (fun r w'=>r= .bool true∧HS w0 noM (cb bK 127 (wF c (p+2))::H) w'):=by
  (refine ENT (N:=241) Tryz.func45 Tryz.ntmps45 ?_;intro a hA)
  repeat' (first|(refine QT ?_;clear hA a;intro a hA)|(refine BT ?_;clear hA hH;rintro _ w ⟨bN,rfl,hH⟩ a hA)|refine CT ?_|fail)
  (refine zJ hA rfl rfl (by decide) (zE rfl rfl rfl (lJ _)) ?_;clear hA;rintro _ w ⟨rfl,hk⟩ a hA;replace hH:=hH.keep hk;clear hk)
  repeat' (first|(refine GT ?_ ?_<;>intro hg<;>clear hA a<;>intro a hA<;>(first|exact FA|replace hg:=dTr hg|replace hg:=dFa hg|skip))|(refine QT ?_;clear hA a;intro a hA)|(refine BT ?_;clear hA hH;rintro _ w ⟨bN,rfl,hH⟩ a hA)|(refine SAT (shp2) hA hH ?_;clear hH;intro w hH)|(apply zT hA rfl rfl;apply zG (cs':=wF c (p+1));rfl;rfl;rfl;exact hH;(repeat constructor);clear hH;rintro _ w hH)|refine CT ?_|fail)
  replace hH:=hH.up 4 rfl
  dsimp only [List.eraseIdx_cons_succ,List.eraseIdx_cons_zero] at hH
  (refine zJ hA rfl rfl (by decide) (zE rfl rfl rfl (dS w0 _ _ c bK (p+1) o hH hr (by omega) (by omega))) ?_;clear hA hH)
  rintro _ w ⟨rfl,hH⟩ a hA
  repeat' (first|(refine QT ?_;clear hA a;intro a hA)|refine CT ?_|fail)
  (refine zJ hA rfl rfl (by decide) (zE rfl rfl rfl (rS _ _)) ?_;clear hA;rintro _ w ⟨rfl,hk⟩ a hA;replace hH:=hH.keep hk;clear hk)
  repeat' (first|(refine QT ?_;clear hA a;intro a hA)|refine CT ?_|fail)
  rw [show p+1+1=p+2 by omega] at hH
  exact rt1 (.inl rfl) rfl hA rfl ⟨rfl,hH.rm 1 |>.rm 1 |>.rm 1 |>.rm 1⟩
theorem mG (w0:World) (oF:Option Addr) (cF:Nat) (cs:List Int) (o:Option Addr) (g:Grs) (hF:Rd w0 oF (flat (xR o) cs)) (hr:Rd w0 o (zV at5)) (hcl:cs.length≤100000) (hls:RdV w0 yQ g.ls) (hts:RdV w0 yQ g.ts) (hxs:RdV w0 yQ g.xs) (hss:RdV w0 yQ g.ss) :
    Ret Tryz.prog 18 #[.agg (xF oF cs.length cF g).toArray] w0 (fun v w=>∃b,v= .bool b∧(b=true↔AnfP cs g)∧Kp w0 noM w):=by
  have hH:HS w0 noM [] w0:=HS.init w0 noM
  have hspF:Sp oF cs.length:=hF.sp (sz:=12) (zH (tY o) _) (by omega)
  (refine ENT (N:=126) Tryz.func18 Tryz.ntmps18 ?_;intro a hA)
  repeat' (first|(refine GT ?_ ?_<;>intro hg<;>clear hA a<;>intro a hA<;>(first|exact FA|replace hg:=dTr hg|replace hg:=dFa hg|skip))|(refine XT ?_;apply XE;(first|(apply zF;rfl;refine yG hF id (cap_at ?_);(show 0< _);omega));clear hA a;intro a hA)|(refine QT ?_;clear hA a;intro a hA)|(refine BT ?_;clear hA hH;rintro _ w ⟨bN,rfl,hH⟩ a hA)|(refine LT ?_;clear hA hH;rintro _ w ⟨oN,rfl,hH⟩ a hA)|(refine zJ hA rfl rfl (by decide) (zE rfl rfl rfl (uR _ g.ls (hls.keep hH.kp))) ?_;clear hA;rintro _ w ⟨b,rfl,hb1,hk⟩ a hA;replace hH:=hH.keep hk;clear hk)|(refine zJ hA rfl rfl (by decide) (zE rfl rfl rfl (uR _ g.ts (hts.keep hH.kp))) ?_;clear hA;rintro _ w ⟨b,rfl,hb2,hk⟩ a hA;replace hH:=hH.keep hk;clear hk)|(refine zJ hA rfl rfl (by decide) (zE rfl rfl rfl (uR _ g.xs (hxs.keep hH.kp))) ?_;clear hA;rintro _ w ⟨b,rfl,hb3,hk⟩ a hA;replace hH:=hH.keep hk;clear hk)|refine CT ?_|(refine DT ?_ ?_<;>intro hc<;>try (exfalso;omega))|fail)
  · exact rt1 (.inl rfl) rfl hA rfl ⟨_,rfl,wD (fun h=>(by have:=h.pos;omega)),hH.kp⟩
  · exact rt1 (.inl rfl) rfl hA rfl ⟨_,rfl,wD (fun h=>(by have:=h.top;omega)),hH.kp⟩
  · exact rt1 (.inl rfl) rfl hA rfl ⟨_,rfl,wD (fun h=>(by assumption:cs.getD (Int.toNat 0) 0≠0) h.c0),hH.kp⟩
  · exact rt1 (.inl rfl) rfl hA rfl ⟨_,rfl,wD (fun h=>pL hb1 (by assumption) h.ls),hH.kp⟩
  · exact rt1 (.inl rfl) rfl hA rfl ⟨_,rfl,wD (fun h=>pL hb2 (by assumption) h.ts),hH.kp⟩
  · exact rt1 (.inl rfl) rfl hA rfl ⟨_,rfl,wD (fun h=>pL hb3 (by assumption) h.xs),hH.kp⟩
  have hp1:=sO hb1 (by assumption)
  have hp2:=sO hb2 (by assumption)
  have hp3:=sO hb3 (by assumption)
  have hc0:cs.getD 0 0=0:=Decidable.not_not.1 (by assumption:¬cs.getD (Int.toNat 0) 0≠0)
  clear hb1 hb2 hb3
  obtain ⟨b1,hb1⟩:∃x,x=bN:=⟨_,rfl⟩
  rw [←hb1] at hA hH
  clear hb1 bN
  have hcl2:1≤cs.length:=by omega
  have hcl4:cs.length≤4096:=by omega
  obtain ⟨sl,hsl0,hsl,hH1⟩:=own4 hH
  have hsl4:sl=four:=hsl0.trans rfl
  clear hsl0
  clear hH
  have hH:=hH1
  clear hH1
  have hA2:Sl 126 [(48,.int .i64 (0:Nat)),(47,.int .i64 sl.length),(46,.slice oN sl.length sl.length),(1,.pointer (some (bat b1 0)))] a:=by rw [hsl];exact (hA.sub SBT)
  clear hA
  have hspS:=hH.own_sp (T:=9) (o:=oN) (.head _)
  refine zU (S:=Nat) (fun i a w=>(i≤sl.length∧∀k,k<i→tX g.xs.l (sl.getD k default))∧HS w0 noM [own 9 1 oN sl.length sl.length (flat yQ sl),cb b1 34 (xF oF cs.length cF g)] w∧Sl 126 [(48,.int .i64 i),(47,.int .i64 sl.length),(46,.slice oN sl.length sl.length),(1,.pointer (some (bat b1 0)))] a) (fun i=>sl.length - i)
    (fun a w=>(∀k,k<sl.length→tX g.xs.l (sl.getD k default))∧HS w0 noM [cb b1 34 (xF oF cs.length cF g)] w∧Sl 126 [(1,.pointer (some (bat b1 0)))] a) 0 ⟨⟨Nat.zero_le _,fun k h=>absurd h (Nat.not_lt_zero _)⟩,hH,hA2⟩ ?_ ?_
  · clear hA2 hH
    rintro i a w ⟨⟨hi,hhas⟩,hH,hA⟩
    by_cases hlt:i<sl.length
    rotate_left
    · obtain rfl:i=sl.length:=by omega
      repeat' (first|(refine QT ?_;clear hA a;intro a hA)|refine CT ?_|(refine DT ?_ ?_<;>intro hc<;>try (exfalso;omega))|fail)
      exact ⟨hhas,hH.tail,(hA.sub SBT)⟩
    have hv:=vD hlt
    repeat' (first|(refine XT ?_;apply XE;(first|(apply zB;rfl;rfl;omega;exact hspS)|(apply zF;rfl;apply xJ (T:=9);exact MEMT;exact hv));clear hA a;intro a hA)|(refine QT ?_;clear hA a;intro a hA)|refine CT ?_|(refine DT ?_ ?_<;>intro hc<;>try (exfalso;omega))|fail)
    (refine zJ hA rfl rfl (by decide) (zE rfl rfl rfl (qV _ g.xs _ (hxs.keep hH.kp))) ?_;clear hA;rintro _ w ⟨rfl,hk⟩ a hA;replace hH:=hH.keep hk;clear hk)
    repeat' (first|(refine QT ?_;clear hA a;intro a hA)|refine CT ?_|(refine DT ?_ ?_<;>intro hc<;>try (exfalso;omega))|fail)
    all_goals first|exact ⟨i+1,⟨⟨hlt,wH (p:=fun k=>tX g.xs.l (sl.getD k default)) hhas (by assumption)⟩,hH,(hA.sub SBT)⟩,by omega⟩|exact rt1 (.inl rfl) rfl hA rfl ⟨_,rfl,wD (fun h=>(by assumption:¬0≤xC g.xs.l (sl.getD i default)) (has4 h _ (hsl4▸xP hlt))),hH.kp⟩
  clear hA2 hH
  rintro a w ⟨hhas,hH,hA⟩
  rw [hsl4] at hhas
  have hx4:=eV hhas
  clear hhas hsl hsl4 hspS
  repeat' (first|(refine QT ?_;clear hA a;intro a hA)|refine CT ?_|fail)
  (refine zJ hA rfl rfl (by decide) (zE rfl rfl rfl (rR _ g.ss (hss.keep hH.kp))) ?_;clear hA;rintro _ w ⟨b,rfl,hbs,hk⟩ a hA;replace hH:=hH.keep hk;clear hk)
  repeat' (first|(refine XT ?_;apply XE;(first|(apply yZ (szs:=[(0,5),(5,1),(6,1),(7,1),(8,1),(9,1),(10,1),(11,1)]) (cs:=(wF (kk0 oF cs.length cF g) 0).toArray);exact xS (by (repeat (first|exact SzL.nil|refine SzL.cons ⟨_,rfl,by decide⟩ ?_)));rfl;rfl));clear hA a;intro a hA)|(refine QT ?_;clear hA a;intro a hA)|(refine BT ?_;clear hA hH;rintro _ w ⟨bN,rfl,hH⟩ a hA)|refine CT ?_|(refine DT ?_ ?_<;>intro hc<;>try (exfalso;omega))|fail)
  · exact rt1 (.inl rfl) rfl hA rfl ⟨_,rfl,wD (fun h=>hbs.1 (by assumption) h.ss),hH.kp⟩
  have hss4:∀s∈g.ss.l,s.size≤4096:=Classical.not_not.1 fun h=>absurd ((by assumption:b=false).symm.trans (hbs.2 h)) (by decide)
  clear hbs
  obtain ⟨bK,hbK⟩:∃x,x=bN:=⟨_,rfl⟩
  rw [←hbK] at hA hH
  clear hbK bN
  refine zU (S:=Nat) (fun i a w=>∃oA cA,i≤cs.length∧HS w0 noM [cb bK 127 (wF ⟨oF,cs.length,cF,g,oA,i,cA,0,none,none,none,none⟩ 0),own 3 1 oA i cA (flat Fw.encI (cs.take i)),cb b1 34 (xF oF cs.length cF g)] w∧Sl 126 [(67,.int .i64 i),(66,.int .i64 cs.length),(65,.slice oF cs.length cF),(5,.pointer (some (bat bK 0))),(1,.pointer (some (bat b1 0)))] a) (fun i=>cs.length - i)
    (fun a w=>∃oA nA cA,HS w0 noM [cb bK 127 (wF ⟨oF,cs.length,cF,g,oA,nA,cA,0,none,none,none,none⟩ 0),cb b1 34 (xF oF cs.length cF g)] w∧Sl 126 [(5,.pointer (some (bat bK 0))),(1,.pointer (some (bat b1 0)))] a) 0 ⟨none,0,Nat.zero_le _,(by rw [List.take_zero];exact (hH.nil_flat Fw.encI 3 1).perm PMT),(hA.sub SBT)⟩ ?_ ?_
  · clear hA hH
    rintro i a w ⟨oA,cA,hi,hH,hA⟩
    by_cases hlt:i<cs.length
    rotate_left
    · repeat' (first|(refine QT ?_;clear hA a;intro a hA)|refine CT ?_|(refine DT ?_ ?_<;>intro hc<;>try (exfalso;omega))|fail)
      exact ⟨oA,i,cA,hH.rm 1,(hA.sub SBT)⟩
    obtain ⟨x,hx⟩:∃x,cs[i]?=some x:=⟨_,List.getElem?_eq_getElem hlt⟩
    have hvx:=yI (tY o) hx
    repeat' (first|(refine XT ?_;apply XE;(first|(apply zA (vs:=xR o x);rfl;rfl;exact yP hF id hvx)|(apply zB;rfl;rfl;omega;exact hspF));clear hA a;intro a hA)|(refine QT ?_;clear hA a;intro a hA)|(refine BT ?_;clear hA hH;rintro _ w ⟨bN,rfl,hH⟩ a hA)|(refine SAT (xR o x) hA hH ?_;clear hH;intro w hH)|refine CT ?_|(refine DT ?_ ?_<;>intro hc<;>try (exfalso;omega))|fail)
    have hST:HS w0 noM [cb bN 72 (xR o x),cb bK 127 (wF ⟨oF,cs.length,cF,g,oA,i,cA,0,none,none,none,none⟩ 0)] w:=HS.left (H1:=[_,_]) hH
    (refine zN (H:=[_,_]) [(0,1),(1,1),(2,1),(3,1),(4,1),(5,1),(6,1),(7,0),(8,0),(9,1),(10,1)] [11] mixed (by decide +kernel) (hST) ?_;replace hH:=hH.drew)
    clear hST
    repeat' (first|(refine QT ?_;clear hA a;intro a hA)|(refine DLT ?_;clear hA hH;rintro _ w ⟨oN,rfl,hH⟩;refine ⟨STT,?_⟩;intro a hA)|fail)
    (apply yC hA rfl rfl rfl (by decide);apply zQ;rfl;rfl;exact CATST;rfl;rfl;rfl;exact hH;clear hA hH;rintro _ w ⟨oN,rfl,hH⟩;refine ⟨HS.left (H1:=[_,_]) hH.tail,?_⟩;intro a hA)
    dsimp only at hA
    (apply yC hA rfl rfl rfl (by decide);apply yE;rfl;rfl;exact hH;exact MEMT;exact (hH.own_rd (List.Mem.head _));exact rfl;rfl;decide;exact rfl;(unfold maxLen;omega);omega;clear hA;rintro _ w ⟨oN,cN,rfl,hH2⟩;clear hH;have hH:=hH2 _ (by (repeat constructor));clear hH2;refine ⟨HS.left (H1:=[_,_]) hH.tail,?_⟩;intro a hA)
    rw [uJ,←yK hx] at hH
    repeat' (first|(refine QT ?_;clear hA a;intro a hA)|refine CT ?_|fail)
    (apply yB hA rfl rfl rfl;apply zG (cs':=wF ⟨oF,cs.length,cF,g,oN,i+1,cN,0,none,none,none,none⟩ 0);rfl;rfl;rfl;exact hH;(repeat constructor);clear hH;rintro _ w hH)
    repeat' (first|(refine QT ?_;clear hA a;intro a hA)|refine CT ?_|fail)
    exact ⟨i+1,⟨oN,cN,hlt,(((hH.rm 0).rm 0).perm PMT),(hA.sub SBT)⟩,by omega⟩
  clear hA hH
  rintro a w ⟨oA,nA,cA,hH,hA⟩
  repeat' (first|(refine QT ?_;clear hA a;intro a hA)|refine CT ?_|fail)
  refine zU (S:=Nat) (fun i a w=>∃c p,(i≤cs.length∧0≤p∧p≤2* (i:Int)∧∀c∈cs.take i,0≤c∧c≤4096)∧HS w0 noM [cb bK 127 (wF c p),cb b1 34 (xF oF cs.length cF g)] w∧Sl 126 [(86,.int .i64 i),(85,.int .i64 cs.length),(84,.slice oF cs.length cF),(5,.pointer (some (bat bK 0)))] a) (fun i=>cs.length - i)
    (fun a w=>(∀c∈cs,0≤c∧c≤4096)∧HS w0 noM [] w∧Sl 126 [] a) 0 ⟨_,0,⟨Nat.zero_le _,Int.le_refl _,by omega,(by rw [List.take_zero];exact fun c h=>absurd h List.not_mem_nil)⟩,hH,(hA.sub SBT)⟩ ?_ ?_
  · clear hA hH
    rintro i a w ⟨c,p,⟨hi,hp0,hp1,hcap⟩,hH,hA⟩
    by_cases hlt:i<cs.length
    rotate_left
    · obtain rfl:i=cs.length:=by omega
      rw [List.take_length] at hcap
      repeat' (first|(refine QT ?_;clear hA a;intro a hA)|refine CT ?_|(refine DT ?_ ?_<;>intro hc<;>try (exfalso;omega))|fail)
      exact ⟨hcap,hH.tail.tail,(hA.sub SBT)⟩
    obtain ⟨x,hx⟩:∃x,cs[i]?=some x:=⟨_,List.getElem?_eq_getElem hlt⟩
    have hvx:=yI (tY o) hx
    repeat' (first|(refine GT ?_ ?_<;>intro hg<;>clear hA a<;>intro a hA<;>(first|exact FA|replace hg:=dTr hg|replace hg:=dFa hg|skip))|(refine XT ?_;apply XE;(first|(apply zA (vs:=xR o x);rfl;rfl;exact yP hF id hvx)|(apply zB;rfl;rfl;omega;exact hspF));clear hA a;intro a hA)|(refine QT ?_;clear hA a;intro a hA)|(refine BT ?_;clear hA hH;rintro _ w ⟨bN,rfl,hH⟩ a hA)|(refine SAT (xR o x) hA hH ?_;clear hH;intro w hH)|(apply zT hA rfl rfl;apply zG (cs':=wF {c with caps:=x} p);rfl;rfl;rfl;exact hH;(repeat constructor);clear hH;rintro _ w hH)|refine CT ?_|(refine DT ?_ ?_<;>intro hc<;>try (exfalso;omega))|fail)
    · exact rt1 (.inl rfl) rfl hA rfl ⟨_,rfl,wD (fun h=>(by have:=h.caps x (List.mem_of_getElem? hx);omega)),hH.kp⟩
    · exact rt1 (.inl rfl) rfl hA rfl ⟨_,rfl,wD (fun h=>(by have:=h.caps x (List.mem_of_getElem? hx);omega)),hH.kp⟩
    have hxx:0≤x∧x≤4096:=by omega
    (refine zJ hA rfl rfl (by decide) (wQ hH) ?_;clear hA hH;rintro _ w ⟨m1,rfl,hH⟩ a hA)
    (refine zJ hA rfl rfl (by decide) (wQ hH) ?_;clear hA hH;rintro _ w ⟨m2,rfl,hH⟩ a hA)
    repeat' (first|(refine QT ?_;clear hA a;intro a hA)|(apply zT hA rfl rfl;apply kY;rfl;rfl;rfl;exact hH;(repeat constructor);clear hH;rintro _ w hH)|fail)
    (refine zJ hA rfl rfl (by decide) (lN hH) ?_;clear hA hH;rintro _ w ⟨m3,rfl,hH⟩ a hA)
    (refine zJ hA rfl rfl (by decide) (wQ hH) ?_;clear hA hH;rintro _ w ⟨m4,rfl,hH⟩ a hA)
    obtain ⟨ca,hca⟩:∃y:Kk,y={c with caps:=x}:=⟨_,rfl⟩
    have hH5:=hH.rm 0 |>.rm 0 |>.rm 0 |>.rm 0
    clear hH
    dsimp only [List.eraseIdx_cons_succ,List.eraseIdx_cons_zero] at hH5
    have hH:=hH5
    clear hH5
    rw [←hca] at hH
    obtain ⟨oP,nP,cP,g',oA',nA',cA',caps',e',n',j',o'⟩:=ca
    repeat' (first|(refine QT ?_;clear hA a;intro a hA)|(apply zT hA rfl rfl;apply zG (cs':=wF ⟨oP,nP,cP,g',oA',nA',cA',caps',some m1,n',j',o'⟩ p);rfl;rfl;rfl;exact hH;(repeat constructor);clear hH;rintro _ w hH)|(apply zT hA rfl rfl;apply zG (cs':=wF ⟨oP,nP,cP,g',oA',nA',cA',caps',some m1,some m2,j',o'⟩ p);rfl;rfl;rfl;exact hH;(repeat constructor);clear hH;rintro _ w hH)|(apply zT hA rfl rfl;apply zG (cs':=wF ⟨oP,nP,cP,g',oA',nA',cA',caps',some m1,some m2,some m3,o'⟩ p);rfl;rfl;rfl;exact hH;(repeat constructor);clear hH;rintro _ w hH)|(apply zT hA rfl rfl;apply zG (cs':=wF ⟨oP,nP,cP,g',oA',nA',cA',caps',some m1,some m2,some m3,some m4⟩ p);rfl;rfl;rfl;exact hH;(repeat constructor);clear hH;rintro _ w hH)|refine CT ?_|fail)
    repeat' (first|(refine XT ?_;apply XE;(first|(apply zA (vs:=encB o);rfl;rfl;exact qW MEMT (sub_bd o x)));clear hA a;intro a hA)|(refine QT ?_;clear hA a;intro a hA)|fail)
    (refine zJ hA rfl rfl (by decide) (zE rfl rfl rfl (body5_spec w0 _ _ _ bK p o (hH.up 1 rfl) hr hp0 (by omega))) ?_;clear hA hH)
    rintro _ w ⟨rfl,hH⟩ a hA
    repeat' (first|(refine QT ?_;clear hA a;intro a hA)|refine CT ?_|fail)
    exact ⟨i+1,⟨_,p+2,⟨hlt,by omega,by omega,fQ hx hcap hxx⟩,hH.rm 1,(hA.sub SBT)⟩,by omega⟩
  clear hA hH
  rintro a w ⟨hcap,hH,hA⟩
  repeat' (first|(refine QT ?_;clear hA a;intro a hA)|refine CT ?_|fail)
  exact rt1 (.inl rfl) rfl hA rfl ⟨_,rfl,iff_of_true rfl ⟨hcl2,hcl4,hc0,hp1,hp2,hp3,hx4,hss4,hcap⟩,hH.kp⟩
end
theorem flatX_nil:flat yQ []=[]:=rfl
def vL (o:Option Addr) (n c bJ:Nat):List Value:=[.slice o n c,.map (some bJ)]
def dr0:List Value:=[.slice none 0 0,.slice none 0 0,.int .i64 0,.slice none 0 0,.slice none 0 0,.slice none 0 0,.int .i64 0]
theorem rd_cells {w:World} {b k:Nat} {xs:List Value} (h:Rd w (some ⟨b,k,none⟩) xs):∀j u,xs[j]?=some u→w.cell? ((⟨b,k,none⟩:Addr).add j)=some u:=fun j u hj=>by
  have h1:=h.2 j u hj
  have e:(⟨b,k,none⟩:Addr).add j=sat (some ⟨b,k,none⟩) j:=by
    by_cases h0:j=0<;>simp [sat,mE,gI,Addr.add,h0]
  rw [e];exact h1
theorem one_at:flat zV (List.replicate 1 (⟨0,0⟩:Atm))++[]=[.int .i64 0,.int .i64 0]:=rfl
theorem rd_some {w:World} {o:Option Addr} {xs:List Value} (h:Rd w o xs) (hl:0<xs.length):∃b k,o=some ⟨b,k,none⟩:=h.1 hl
section
attribute [local irreducible] Code.wp wpList Calls Ex Op1 sat bat blk cb own Go.Fw.mp Go.Fw.mpO Go.Fw.mpI Go.Fw.mpE Go.Fw.itr HS Rd Ret wkD Hp Cl Cls Exit.then Exit.inBlock Exit.noGoto bodyPost Go.Fw.flat wk2 Go.Fw.all Go.Fw.owns wpOp
attribute [local irreducible] sk mpK sko mvO xM opM Go.Fw.mset Go.Fw.mv opK

theorem xU (w0:World) (v:Vec ByteArray) (hR:RdV w0 yQ v) (hl:v.l.length≤1048576) :
    Ret Tryz.prog 39 #[.slice v.o v.l.length v.c] w0 (fun r w=>∃o' c',r= .slice o' v.l.length c'∧HS w0 noM [own 9 1 o' v.l.length c' (flat yQ v.l)] w):=by
  have hH:HS w0 noM [] w0:=HS.init w0 noM
  have hfl:(flat yQ v.l).length=v.l.length*1:=zH wC _
  have hon:(flat yQ v.l).all (·.oneCell')=true:=tC (fun _=>rfl) _
  (refine ENT (N:=8) Tryz.func39 Tryz.ntmps39 ?_;intro a hA)
  repeat' (first|(refine XT ?_;apply XE;(first|(apply rC;rfl;rfl));clear hA a;intro a hA)|(refine QT ?_;clear hA a;intro a hA)|(refine LT ?_;clear hA hH;rintro _ w ⟨oN,rfl,hH⟩ a hA)|refine CT ?_|(refine DT ?_ ?_<;>intro hc<;>try (exfalso;omega))|fail)
  · have hnil:=rd_nil hR.1 (by assumption)
    have hl0:v.l.length=0:=by rw [←Nat.mul_one v.l.length,←hfl,hnil];rfl
    obtain ⟨o,c,l⟩:=v
    obtain rfl:l=[]:=List.length_eq_zero_iff.1 hl0
    exact rt1 (.inl rfl) rfl hA rfl ⟨none,0,rfl,by show HS w0 noM [own _ 1 none 0 0 (flat yQ [])] _;rw [flatX_nil];exact hH.nil_own 9 1⟩
  · have hRw:=hH.rd hR.1 id
    (apply zJ hA rfl rfl (by decide);apply yE;rfl;rfl;exact hH;exact MEMT;exact hRw;exact hfl;rfl;decide;exact hon;(unfold maxLen;omega);omega;clear hA;rintro _ w ⟨oN,cN,rfl,hH2⟩ a hA;clear hH;have hH:=hH2 _ (by (repeat constructor));clear hH2)
    repeat' (first|(refine QT ?_;clear hA a;intro a hA)|refine CT ?_|fail)
    rw [Nat.zero_add] at hA hH
    exact rt1 (.inl rfl) rfl hA rfl ⟨_,_,rfl,hH⟩
theorem dK (w0:World):Ret Tryz.prog 110 #[.slice none 0 0] w0 (fun r w=>r= .slice none 0 0∧Kp w0 noM w):=by
  have hH:HS w0 noM [] w0:=HS.init w0 noM
  (refine ENT (N:=8) Tryz.func110 Tryz.ntmps110 ?_;intro a hA)
  repeat' (first|(refine XT ?_;apply XE;(first|(apply rC;rfl;rfl));clear hA a;intro a hA)|(refine QT ?_;clear hA a;intro a hA)|refine CT ?_|fail)
  exact rt1 (.inl rfl) rfl hA rfl ⟨rfl,hH.kp⟩
theorem atoms1_spec (w0:World) (o:Option Addr) (c:Nat) (x:Atm) (hR:Rd w0 o (zV x)) :
    Ret Tryz.prog 109 #[.slice o 1 c] w0 (fun r w=>∃o',r= .slice o' 1 1∧HS w0 noM [own 65 2 o' 1 1 (zV x)] w):=by
  have hH:HS w0 noM [] w0:=HS.init w0 noM
  obtain ⟨bO,kO,rfl⟩:=rd_some hR (Nat.zero_lt_succ _)
  (refine ENT (N:=11) Tryz.func109 Tryz.ntmps109 ?_;intro a hA)
  repeat' (first|(refine QT ?_;clear hA a;intro a hA)|(apply zJ hA rfl rfl (by decide);apply op_make zV (⟨0,0⟩:Atm) (n:=1);rfl;rfl;rfl;rfl;decide;decide;exact xN;rfl;decide;exact hH;clear hA hH;rintro _ w ⟨oN,rfl,hH⟩ a hA)|refine CT ?_|fail)
  obtain ⟨b,spare,rfl,q1,q2,q3,q4,hH2⟩:=hH.own_block (by decide)
  have hsp:spare=[]:=List.length_eq_zero_iff.1 (by rw [q3] at q4;omega)
  subst hsp
  clear hH
  have hH:=hH2
  clear hH2
  rw [one_at] at hH
  have hRw:=rd_cells (hH.rd hR id)
  repeat' (first|(refine QT ?_;clear hA a;intro a hA)|fail)
  (apply zJ hA rfl rfl (by decide);apply vM (cells:=[.int .i64 0,.int .i64 0]) (news:=zV x);rfl;rfl;exact hH;exact hRw;rfl;rfl;exact Nat.le_refl 2;(repeat constructor);clear hA hH;rintro _ w ⟨rfl,hH⟩ a hA)
  repeat' (first|(refine QT ?_;clear hA a;intro a hA)|refine CT ?_|fail)
  exact rt1 (.inl rfl) rfl hA rfl ⟨_,rfl,HS.block_own (sz:=2) (xs:=zV x) (spare:=[]) (by rw [List.append_nil];exact hH) rfl (Nat.le_refl _) (by decide) rfl⟩
theorem aG (w0 w:World) (H:List It) (bM bJ:Nat) (hH:HS w0 noM (cb bM 174 (vL none 0 0 bJ)::H) w) :
    Ret Tryz.prog 74 #[.pointer (some (bat bM 0)),.slice none 0 0] w (fun r w'=>∃oD cD,r= .int .i64 0∧HS w0 noM (cb bM 174 (vL oD 1 cD bJ)::own 179 7 oD 1 cD dr0::H) w'):=by
  (refine ENT (N:=24) Tryz.func74 Tryz.ntmps74 ?_;intro a hA)
  repeat' (first|(refine QT ?_;clear hA a;intro a hA)|refine CT ?_|fail)
  have hST:HS w0 noM [cb bM 174 (vL none 0 0 bJ)] w:=HS.left (H1:=[_]) hH
  (refine zN (H:=[_]) [(0,1),(1,1),(2,1),(3,1),(4,1),(5,1),(6,0),(7,1),(8,1),(9,0),(10,0),(11,1),(12,1)] [13] mixed (by decide +kernel) (hST) ?_;replace hH:=hH.drew)
  clear hST
  repeat' (first|(refine QT ?_;clear hA a;intro a hA)|(refine yC hA rfl rfl rfl (by decide) (zE rfl rfl rfl (dK _)) ?_;clear hA;rintro _ w ⟨rfl,hk⟩;replace hH:=hH.keep hk;refine ⟨HS.left (H1:=[_]) hH,?_⟩;intro a hA)|fail)
  repeat' (first|(refine XT ?_;apply XE;(first|(apply yZ (szs:=[(0,6),(6,1)]) (cs:=dr0.toArray);exact xS (by (repeat (first|exact SzL.nil|refine SzL.cons ⟨_,rfl,by decide⟩ ?_)));rfl;rfl)|(apply yZ (szs:=[(0,1),(1,1),(2,4)]) (cs:=#[.slice none 0 0,.slice none 0 0,.int .i64 0,.slice none 0 0,.slice none 0 0,.slice none 0 0]);exact xS (by (repeat (first|exact SzL.nil|refine SzL.cons ⟨_,rfl,by decide⟩ ?_)));rfl;rfl));clear hA a;intro a hA)|(refine QT ?_;clear hA a;intro a hA)|fail)
  (apply yC hA rfl rfl rfl (by decide);apply zQ (xs:=dr0) (vs:=[.agg dr0.toArray]);rfl;rfl;exact (Cats.cn (cs:=dr0) Cats.nil);rfl;rfl;rfl;exact hH;clear hA hH;rintro _ w ⟨oN,rfl,hH⟩;replace hH:=hH.nil_own 179 7;refine ⟨HS.left (H1:=[_]) hH.tail.tail,?_⟩;intro a hA)
  (apply yC hA rfl rfl rfl (by decide);apply yE;rfl;rfl;exact hH;exact MEMT;exact (hH.own_rd (List.Mem.tail _ (List.Mem.head _)));exact rfl;rfl;decide;exact rfl;(unfold maxLen;omega);omega;clear hA;rintro _ w ⟨oN,cN,rfl,hH2⟩;clear hH;have hH:=hH2 _ (by (repeat constructor));clear hH2;refine ⟨HS.left (H1:=[_]) hH.tail.tail,?_⟩;intro a hA)
  rw [List.nil_append] at hH
  repeat' (first|(refine QT ?_;clear hA a;intro a hA)|(apply yB hA rfl rfl rfl;apply zG (cs':=vL oN 1 cN bJ);rfl;rfl;rfl;exact hH;(repeat constructor);clear hH;rintro _ w hH)|refine CT ?_|fail)
  exact rt1 (.inl rfl) rfl hA rfl ⟨oN,cN,rfl,(hH.rm 1).perm PMT⟩
end
def dr1 (o:Option Addr) (k:Int):List Value:=[.slice none 0 0,.slice none 0 0,.int .i64 1,.slice o 1 1,.slice none 0 0,.slice none 0 0,.int .i64 k]
theorem put_dr (o:Option Addr) (spare:List Value):put (dr0++spare) 2 [.int .i64 1,.slice o 1 1,.slice none 0 0,.slice none 0 0]=dr1 o 0++spare:=rfl
theorem sp_bat (b:Nat):Sp (some (bat b 0)) 1:=fun _=>⟨b,0,rfl⟩
theorem sat_b2 (b:Nat):sat (some (bat b 0)) (Int.toNat 0*7+0+2)=bat b 2:=rfl
section
attribute [local irreducible] Code.wp wpList Calls Ex Op1 sat bat blk cb own Go.Fw.mp Go.Fw.mpO Go.Fw.mpI Go.Fw.mpE Go.Fw.itr HS Rd Ret wkD Hp Cl Cls Exit.then Exit.inBlock Exit.noGoto bodyPost Go.Fw.flat wk2 Go.Fw.all Go.Fw.owns wpOp
attribute [local irreducible] sk mpK sko mvO xM opM Go.Fw.mset Go.Fw.mv opK

theorem fill1_spec (w0 w:World) (H:List It) (bM bJ bF cD:Nat) (oD o:Option Addr) (x:Atm) (hH:HS w0 noM (cb bM 174 (vL oD 1 cD bJ)::own 179 7 oD 1 cD dr0::cb bF 72 (xR o 0)::H) w) (hR:Rd w0 o (zV x)) :
    Ret Tryz.prog 73 #[.pointer (some (bat bM 0)),.int .i64 0,.pointer (some (bat bF 1))] w (fun r w'=>∃o1,HS w0 noM (cb bM 174 (vL oD 1 cD bJ)::own 179 7 oD 1 cD (dr1 o1 0)::own 65 2 o1 1 1 (zV x)::cb bF 72 (xR o 0)::H) w'):=by
  have hcD:=hH.own_le (T:=179) (o:=oD) (by exact MEMT)
  obtain ⟨b,spare,rfl,q1,q2,q3,q4,hH2⟩:=(hH.perm (H':=own 179 7 oD 1 cD dr0::cb bM 174 (vL oD 1 cD bJ)::cb bF 72 (xR o 0)::H) PMT).own_block (by omega)
  clear hH
  have hH:=hH2
  clear hH2
  have hspD:Sp (some (bat b 0)) 1:=sp_bat b
  (refine ENT (N:=202) Tryz.func73 Tryz.ntmps73 ?_;intro a hA)
  repeat' (first|(refine QT ?_;clear hA a;intro a hA)|refine CT ?_|fail)
  refine zU (S:=Nat) (fun i a w=>i=0∧HS w0 noM (cb b 179 (dr0++spare)::cb bM 174 (vL (some (bat b 0)) 1 cD bJ)::cb bF 72 (xR o 0)::H) w∧Sl 202 [(0,.pointer (some (bat bM 0))),(1,.int .i64 0),(2,.pointer (some (bat bF 1)))] a) (fun i=>i) (fun a w=>False) 0 ⟨rfl,hH,(hA.sub SBT)⟩ ?_ (fun a w h=>h.elim)
  clear hA hH
  rintro i a w ⟨hi,hH,hA⟩
  repeat' (first|(refine XT ?_;apply XE;(first|(apply zC;rfl;rfl;decide;omega;exact hspD));clear hA a;intro a hA)|(refine QT ?_;clear hA a;intro a hA)|refine CT ?_|fail)
  rw [sat_b2] at hA
  (refine zJ hA rfl rfl (by decide) (zE rfl rfl rfl (atoms1_spec _ o 1 x (hH.rd hR id))) ?_;clear hA;rintro _ w ⟨o1,rfl,hj⟩ a hA;replace hH:=hH.join hj;clear hj)
  replace hH:=hH.perm (H':=cb b 179 (dr0++spare)::own 65 2 o1 1 1 (zV x)::cb bM 174 (vL (some (bat b 0)) 1 cD bJ)::cb bF 72 (xR o 0)::H) PMT
  repeat' (first|(refine XT ?_;apply XE;(first|(apply zK (cs:=#[.int .i64 1,.slice o1 1 1,.slice none 0 0,.slice none 0 0]);rfl;exact FLT;rfl));clear hA a;intro a hA)|(refine QT ?_;clear hA a;intro a hA)|fail)
  have hdl:2+4≤(dr0++spare).length:=by rw [List.length_append,q3];omega
  refine zT hA rfl rfl (wP (vs:=[.int .i64 1,.slice o1 1 1,.slice none 0 0,.slice none 0 0]) (cs':=dr1 o1 0++spare) rfl rfl hH (by repeat constructor) rfl rfl rfl hdl (put_dr o1 spare)) ?_
  clear hH
  rintro _ w hH
  repeat' (first|(refine QT ?_;clear hA a;intro a hA)|refine CT ?_|fail)
  refine rt0 (.inl rfl) rfl hA ⟨o1,?_⟩
  have hH3:=HS.block_own (sz:=7) (n:=1) (cap:=cD) (xs:=dr1 o1 0) (spare:=spare) (hH.perm (H':=cb b 179 (dr1 o1 0++spare)::own 65 2 o1 1 1 (zV x)::cb bM 174 (vL (some (bat b 0)) 1 cD bJ)::cb bF 72 (xR o 0)::H) PMT) rfl (by omega) hcD.2 (by rw [←q4,q3];rfl)
  exact hH3.perm PMT
end
section
attribute [local irreducible] Code.wp wpList Calls Ex Op1 sat bat blk cb own Go.Fw.mp Go.Fw.mpO Go.Fw.mpI Go.Fw.mpE Go.Fw.itr HS Rd Ret wkD Hp Cl Cls Exit.then Exit.inBlock Exit.noGoto bodyPost Go.Fw.flat wk2 Go.Fw.all Go.Fw.owns wpOp
attribute [local irreducible] sk mpK sko mvO xM opM Go.Fw.mset Go.Fw.mv opK

theorem dV (w0 w:World) (H:List It) (bS bm bMc bM bO bJ cD:Nat) (oD o1:Option Addr) (bV:Nat) (hD:Sp oD 1) (hH:HS w0 noM (cb bS 109 [.map (some bm)]::sk bm []::cb bMc 171 [.pointer (some (bat bM 0))]::cb bM 174 (vL oD 1 cD bJ)::own 179 7 oD 1 cD (dr1 o1 0)::cb bO 45 [.slice none 0 0]::H) w) :
    Ret Tryz.prog 111 #[.int .i64 0,.pointer (some (bat bS 0)),.pointer (some (bat bMc 0)),.pointer (some (bat bV 0)),.pointer (some (bat bO 0))] w (fun r w'=>
      ∃oL cL,HS w0 noM (cb bS 109 [.map (some bm)]::sk bm [0]::cb bMc 171 [.pointer (some (bat bM 0))]::cb bM 174 (vL oD 1 cD bJ)::own 179 7 oD 1 cD (dr1 o1 0)::cb bO 45 [.slice oL 1 cL]::own 3 1 oL 1 cL [.int .i64 0]::H) w'):=by
  (refine ENT (N:=37) Tryz.func111 Tryz.ntmps111 ?_;intro a hA)
  repeat' (first|(refine XT ?_;apply XE;(first|(apply kJ;rfl;rfl;exact MEMT)|(apply zC;rfl;rfl;decide;omega;exact hD));clear hA a;intro a hA)|(refine QT ?_;clear hA a;intro a hA)|(apply zT hA rfl rfl;apply kH;rfl;rfl;rfl;exact hH;(repeat constructor);clear hH;rintro _ w hH)|refine CT ?_|fail)
  have hv5:(dr1 o1 0)[Int.toNat 0*7+0+2+3]?=some (.slice none 0 0):=rfl
  repeat' (first|(refine XT ?_;apply XE;(first|(apply zF;rfl;exact xJ (T:=179) (o:=oD) MEMT hv5));clear hA a;intro a hA)|(refine QT ?_;clear hA a;intro a hA)|refine CT ?_|fail)
  refine zU (S:=Nat) (fun i a w=>i=0∧HS w0 noM (cb bS 109 [.map (some bm)]::sk bm (lU [] 0)::cb bMc 171 [.pointer (some (bat bM 0))]::cb bM 174 (vL oD 1 cD bJ)::own 179 7 oD 1 cD (dr1 o1 0)::cb bO 45 [.slice none 0 0]::H) w∧Sl 37 [(24,.int .i64 0),(23,.int .i64 (0:Nat)),(0,.int .i64 0),(4,.pointer (some (bat bO 0)))] a) (fun i=>i) (fun a w=>HS w0 noM (cb bS 109 [.map (some bm)]::sk bm (lU [] 0)::cb bMc 171 [.pointer (some (bat bM 0))]::cb bM 174 (vL oD 1 cD bJ)::own 179 7 oD 1 cD (dr1 o1 0)::cb bO 45 [.slice none 0 0]::H) w∧Sl 37 [(0,.int .i64 0),(4,.pointer (some (bat bO 0)))] a) 0 ⟨rfl,hH,(hA.sub SBT)⟩ ?_ ?_
  · clear hA hH
    rintro i a w ⟨hi,hH,hA⟩
    repeat' (first|(refine QT ?_;clear hA a;intro a hA)|refine CT ?_|fail)
    exact ⟨hH,(hA.sub SBT)⟩
  clear hA hH
  rintro a w ⟨hH,hA⟩
  repeat' (first|(refine QT ?_;clear hA a;intro a hA)|(refine LT ?_;clear hA hH;rintro _ w ⟨oN,rfl,hH⟩ a hA)|refine CT ?_|fail)
  have hRw:=hH.own_rd (T:=3) (List.Mem.head _)
  replace hH:=hH.nil_own 3 1
  (apply zJ hA rfl rfl (by decide);apply yE;rfl;rfl;exact hH;exact MEMT;exact hRw;exact rfl;rfl;decide;exact rfl;(unfold maxLen;omega);omega;clear hA;rintro _ w ⟨oN,cN,rfl,hH2⟩ a hA;clear hH;have hH:=hH2 _ (by (repeat constructor));clear hH2)
  repeat' (first|(refine QT ?_;clear hA a;intro a hA)|(refine S0T ?_;clear hH;rintro _ w hH)|refine CT ?_|fail)
  exact rt0 (.inr rfl) rfl hA ⟨oN,cN,(hH.rm 1).perm PMT⟩
end
section
attribute [local irreducible] Code.wp wpList Calls Ex Op1 sat bat blk cb own Go.Fw.mp Go.Fw.mpO Go.Fw.mpI Go.Fw.mpE Go.Fw.itr HS Rd Ret wkD Hp Cl Cls Exit.then Exit.inBlock Exit.noGoto bodyPost Go.Fw.flat wk2 Go.Fw.all Go.Fw.owns wpOp
attribute [local irreducible] sk mpK sko mvO xM opM Go.Fw.mset Go.Fw.mv opK

theorem rev1_spec (w0:World) (o:Option Addr) (c:Nat):Ret Tryz.prog 112 #[.slice o 1 c] w0 (fun r w=>Kp w0 noM w):=by
  have hH:HS w0 noM [] w0:=HS.init w0 noM
  (refine ENT (N:=28) Tryz.func112 Tryz.ntmps112 ?_;intro a hA)
  repeat' (first|(refine QT ?_;clear hA a;intro a hA)|refine CT ?_|fail)
  refine zU (S:=Nat) (fun i a w=>i=0∧HS w0 noM [] w∧Sl 28 [(2,.int .i64 0),(3,.int .i64 0)] a) (fun i=>i) (fun a w=>HS w0 noM [] w∧Sl 28 [] a) 0 ⟨rfl,hH,(hA.sub SBT)⟩ ?_ ?_
  · clear hA hH
    rintro i a w ⟨hi,hH,hA⟩
    repeat' (first|(refine QT ?_;clear hA a;intro a hA)|refine CT ?_|fail)
    exact ⟨hH,(hA.sub SBT)⟩
  clear hA hH
  rintro a w ⟨hH,hA⟩
  repeat' (first|(refine QT ?_;clear hA a;intro a hA)|fail)
  exact rt0 (.inr rfl) rfl hA hH.kp
theorem bH (w0 w:World) (H:List It) (bM bJ cD:Nat) (oD o1:Option Addr) (hD:Sp oD 1) (hH:HS w0 noM (cb bM 174 (vL oD 1 cD bJ)::own 179 7 oD 1 cD (dr1 o1 0)::H) w) :
    Ret Tryz.prog 75 #[.pointer (some (bat bM 0))] w (fun r w'=>
      ∃oL cL,r= .slice oL 1 cL∧HS w0 noM (cb bM 174 (vL oD 1 cD bJ)::own 179 7 oD 1 cD (dr1 o1 0)::own 3 1 oL 1 cL [.int .i64 0]::H) w'):=by
  (refine ENT (N:=13) Tryz.func75 Tryz.ntmps75 ?_;intro a hA)
  repeat' (first|(refine XT ?_;apply XE;(first|(apply lR;rfl;rfl));clear hA a;intro a hA)|(refine QT ?_;clear hA a;intro a hA)|(refine BT ?_;clear hA hH;rintro _ w ⟨bN,rfl,hH⟩ a hA)|(refine S0T ?_;clear hH;rintro _ w hH)|(refine zJ hA rfl rfl (by decide) (wQ hH) ?_;clear hA hH;rintro _ w ⟨bm,rfl,hH⟩ a hA)|refine CT ?_|fail)
  have key:∃bS bMc bV bO bm,HS w0 noM (cb bS 109 [.map (some bm)]::sk bm []::cb bMc 171 [.pointer (some (bat bM 0))]::cb bM 174 (vL oD 1 cD bJ)::own 179 7 oD 1 cD (dr1 o1 0)::cb bO 45 [.slice none 0 0]::cb bV 228 [.func (.func 111) #[] #[.pointer (some (bat bS 0)),.pointer (some (bat bMc 0)),.pointer (some (bat bV 0)),.pointer (some (bat bO 0))]]::H) w∧
      Sl 13 [(8,.func (.func 111) #[] #[.pointer (some (bat bS 0)),.pointer (some (bat bMc 0)),.pointer (some (bat bV 0)),.pointer (some (bat bO 0))]),(4,.pointer (some (bat bO 0))),(2,.slice none 0 0)] a:=⟨_,_,_,_,_,hH.perm PMT,(hA.sub SBT)⟩
  clear hA hH
  obtain ⟨bS,bMc,bV,bO,bm,hH,hA⟩:=key
  (refine zJ hA rfl rfl (by decide) (zE rfl rfl rfl (dV w0 w _ bS bm bMc bM bO bJ cD oD o1 bV hD hH)) ?_;clear hA hH;rintro _ w ⟨oL,cL,hH⟩ a hA)
  repeat' (first|(refine QT ?_;clear hA a;intro a hA)|refine CT ?_|fail)
  (refine zJ hA rfl rfl (by decide) (zE rfl rfl rfl (rev1_spec _ oL cL)) ?_;clear hA;rintro _ w hk a hA;replace hH:=hH.keep hk;clear hk)
  repeat' (first|(refine QT ?_;clear hA a;intro a hA)|refine CT ?_|fail)
  exact rt1 (.inl rfl) rfl hA rfl ⟨oL,cL,rfl,(((((hH.rm 0).rm 0).rm 0).rm 2).rm 3).perm PMT⟩
end
theorem dr_bl (o1:Option Addr) (n:Int) (i:Nat) (v:Value) (h:(zL (bl5 o1 1 n))[i]?=some v):(dr1 o1 0)[Int.toNat 0*7+0+i]?=some v:=by
  match i,h with
  |0,h=>exact h
  |1,h=>exact h
  |2,h=>exact h
  |3,h=>exact h
  |4,h=>exact h
  |5,h=>exact h
theorem aJ {α:Type} (X:List α):(List.replicate 1 X).flatten=X:=by simp
section
attribute [local irreducible] Code.wp wpList Calls Ex Op1 sat bat blk cb own Go.Fw.mp Go.Fw.mpO Go.Fw.mpI Go.Fw.mpE Go.Fw.itr HS Rd Ret wkD Hp Cl Cls Exit.then Exit.inBlock Exit.noGoto bodyPost Go.Fw.flat wk2 Go.Fw.all Go.Fw.owns wpOp
attribute [local irreducible] sk mpK sko mvO xM opM Go.Fw.mset Go.Fw.mv opK

theorem aD (w0:World) (o:Option Addr) (n:Int) (hR:Rd w0 o (zV ⟨2,n⟩)) :
    Ret Tryz.prog 40 #[.agg (xR o 0).toArray] w0 (fun r w=>
      ∃oB cB o1,r= .agg (wE ⟨0,⟨oB,cB,[bl5 o1 1 n]⟩⟩).toArray∧HS w0 noM [own 53 6 oB 1 cB (zL (bl5 o1 1 n)),own 65 2 o1 1 1 (zV ⟨2,n⟩)] w):=by
  have hH:HS w0 noM [] w0:=HS.init w0 noM
  (refine ENT (N:=83) Tryz.func40 Tryz.ntmps40 ?_;intro a hA)
  repeat' (first|(refine XT ?_;apply XE;(first|(apply zK (cs:=(vL none 0 0 bJ).toArray);rfl;exact FLT;rfl));clear hA a;intro a hA)|(refine QT ?_;clear hA a;intro a hA)|(refine BT ?_;clear hA hH;rintro _ w ⟨bN,rfl,hH⟩ a hA)|(refine zJ hA rfl rfl (by decide) (vY hH) ?_;clear hA hH;rintro _ w ⟨bJ,rfl,hH⟩ a hA)|refine CT ?_|fail)
  have key:∃bM b2 bF,HS w0 noM (cb bM 174 (vL none 0 0 bJ)::cb bF 72 (xR o 0)::cb b2 44 [.int .i64 0,.slice none 0 0]::mp bJ []::[]) w∧Sl 83 [(17,.pointer (some (bat bM 0))),(16,.pointer (some (bat bM 0))),(3,.pointer (some (bat bM 0))),(2,.pointer (some (bat b2 0))),(1,.pointer (some (bat bF 0)))] a:=⟨_,_,_,hH.perm PMT,(hA.sub SBT)⟩
  clear hA hH
  obtain ⟨bM,b2,bF,hH,hA⟩:=key
  (refine zJ hA rfl rfl (by decide) (zE rfl rfl rfl (aG w0 w _ bM bJ hH)) ?_;clear hA hH;rintro _ w ⟨oD,cD,rfl,hH⟩ a hA)
  repeat' (first|(refine QT ?_;clear hA a;intro a hA)|fail)
  (refine zJ hA rfl rfl (by decide) (zE rfl rfl rfl (fill1_spec w0 w _ bM bJ bF cD oD o ⟨2,n⟩ hH hR)) ?_;clear hA hH;rintro _ w ⟨o1,hH⟩ a hA)
  have hspD:Sp oD 1:=hH.own_sp (T:=179) (.tail _ (.head _))
  repeat' (first|(refine QT ?_;clear hA a;intro a hA)|refine CT ?_|fail)
  (refine zJ hA rfl rfl (by decide) (zE rfl rfl rfl (bH w0 w _ bM bJ cD oD o1 hspD hH)) ?_;clear hA hH;rintro _ w ⟨oL,cL,rfl,hH⟩ a hA)
  have hspL:Sp oL 1:=hH.own_sp (T:=3) (.tail _ (.tail _ (.head _)))
  replace hH:=(((hH.rm 6)).perm (H':=cb bM 174 (vL oD 1 cD bJ)::own 179 7 oD 1 cD (dr1 o1 0)::own 3 1 oL 1 cL [.int .i64 0]::own 65 2 o1 1 1 (zV ⟨2,n⟩)::cb bF 72 (xR o 0)::cb b2 44 [.int .i64 0,.slice none 0 0]::[]) PMT)
  repeat' (first|(refine QT ?_;clear hA a;intro a hA)|(refine zJ hA rfl rfl (by decide) (vY hH) ?_;clear hA hH;rintro _ w ⟨bP,rfl,hH⟩ a hA)|refine CT ?_|fail)
  refine zU (S:=Nat) (fun i a w=>∃m,i≤1∧HS w0 noM (mp bP m::cb bM 174 (vL oD 1 cD bJ)::own 179 7 oD 1 cD (dr1 o1 0)::own 3 1 oL 1 cL [.int .i64 0]::own 65 2 o1 1 1 (zV ⟨2,n⟩)::cb bF 72 (xR o 0)::cb b2 44 [.int .i64 0,.slice none 0 0]::[]) w∧Sl 83 [(26,.int .i64 i),(25,.int .i64 (1:Nat)),(24,.slice oL 1 cL),(5,.map (some bP)),(4,.slice oL 1 cL),(3,.pointer (some (bat bM 0))),(2,.pointer (some (bat b2 0))),(1,.pointer (some (bat bF 0)))] a) (fun i=>1 - i)
    (fun a w=>HS w0 noM (cb bM 174 (vL oD 1 cD bJ)::own 179 7 oD 1 cD (dr1 o1 0)::own 3 1 oL 1 cL [.int .i64 0]::own 65 2 o1 1 1 (zV ⟨2,n⟩)::cb bF 72 (xR o 0)::cb b2 44 [.int .i64 0,.slice none 0 0]::[]) w∧Sl 83 [(4,.slice oL 1 cL),(3,.pointer (some (bat bM 0))),(2,.pointer (some (bat b2 0))),(1,.pointer (some (bat bF 0)))] a) 0 ⟨[],Nat.zero_le _,hH,(hA.sub SBT)⟩ ?_ ?_
  · clear hA hH
    rintro i a w ⟨m,hi,hH,hA⟩
    by_cases hlt:i<1
    rotate_left
    · repeat' (first|(refine QT ?_;clear hA a;intro a hA)|refine CT ?_|(refine DT ?_ ?_<;>intro hc<;>try (exfalso;omega))|fail)
      exact ⟨hH.tail,(hA.sub SBT)⟩
    obtain rfl:i=0:=by omega
    have hv0:[Value.int .i64 0][0*1]?=some (.int .i64 0):=rfl
    repeat' (first|(refine XT ?_;apply XE;(first|(apply zB;rfl;rfl;omega;exact hspL)|(apply zF;rfl;exact xJ (T:=3) (o:=oL) MEMT hv0));clear hA a;intro a hA)|(refine QT ?_;clear hA a;intro a hA)|(apply zT hA rfl rfl;apply uF;rfl;rfl;rfl;exact hH;(repeat constructor);clear hH;rintro _ w hH)|refine CT ?_|fail)
    exact ⟨1,⟨_,Nat.le_refl _,hH,(hA.sub SBT)⟩,by omega⟩
  clear hA hH
  rintro a w ⟨hH,hA⟩
  repeat' (first|(refine XT ?_;apply XE;(first|(apply zK (cs:=#[.int .i64 0,.slice none 0 0]);rfl;exact FLT;rfl));clear hA a;intro a hA)|(refine QT ?_;clear hA a;intro a hA)|(refine BT ?_;clear hA hH;rintro _ w ⟨bN,rfl,hH⟩ a hA)|(refine SAT ([.int .i64 0,.slice none 0 0]) hA hH ?_;clear hH;intro w hH)|refine CT ?_|fail)
  obtain ⟨b8,hb3⟩:∃x,x=bN:=⟨_,rfl⟩;rw [←hb3] at hA hH;clear hb3 bN
  have hb8:=hH
  refine zU (S:=Nat) (fun i a w=>∃oB cB,i≤1∧(i=0→oB=none∧cB=0)∧HS w0 noM (own 53 6 oB i cB ((List.replicate i (zL (bl5 o1 1 n))).flatten)::cb b8 44 [.int .i64 0,.slice oB i cB]::cb bM 174 (vL oD 1 cD bJ)::own 179 7 oD 1 cD (dr1 o1 0)::own 3 1 oL 1 cL [.int .i64 0]::own 65 2 o1 1 1 (zV ⟨2,n⟩)::cb bF 72 (xR o 0)::cb b2 44 [.int .i64 0,.slice none 0 0]::[]) w∧Sl 83 [(40,.int .i64 i),(39,.int .i64 (1:Nat)),(38,.slice oL 1 cL),(8,.pointer (some (bat b8 0))),(3,.pointer (some (bat bM 0))),(2,.pointer (some (bat b2 0)))] a) (fun i=>1 - i)
    (fun a w=>∃oB cB,HS w0 noM (own 53 6 oB 1 cB (zL (bl5 o1 1 n))::cb b8 44 [.int .i64 0,.slice oB 1 cB]::cb bM 174 (vL oD 1 cD bJ)::own 179 7 oD 1 cD (dr1 o1 0)::own 3 1 oL 1 cL [.int .i64 0]::own 65 2 o1 1 1 (zV ⟨2,n⟩)::cb bF 72 (xR o 0)::cb b2 44 [.int .i64 0,.slice none 0 0]::[]) w∧Sl 83 [(8,.pointer (some (bat b8 0))),(2,.pointer (some (bat b2 0)))] a) 0 ⟨none,0,Nat.zero_le _,fun _=>⟨rfl,rfl⟩,hH.nil_own 53 6,(hA.sub SBT)⟩ ?_ ?_
  · clear hA hH hb8
    rintro i a w ⟨oB,cB,hi,hi0,hH,hA⟩
    by_cases hlt:i<1
    rotate_left
    · obtain rfl:i=1:=by omega
      repeat' (first|(refine QT ?_;clear hA a;intro a hA)|refine CT ?_|fail)
      exact ⟨oB,cB,hH,(hA.sub SBT)⟩
    obtain rfl:i=0:=by omega
    obtain ⟨rfl,rfl⟩:=hi0 rfl
    have hv0:[Value.int .i64 0][0*1]?=some (.int .i64 0):=rfl
    repeat' (first|(refine XT ?_;apply XE;(first|(apply zB;rfl;rfl;omega;exact hspL)|(apply zF;rfl;exact xJ (T:=3) (o:=oL) MEMT hv0)|(apply zC;rfl;rfl;decide;omega;exact hspD)|(apply zA (vs:=zL (bl5 o1 1 n));rfl;rfl;exact sK (T:=179) (o:=oD) MEMT (dr_bl o1 n)));clear hA a;intro a hA)|(refine QT ?_;clear hA a;intro a hA)|(refine BT ?_;clear hA hH;rintro _ w ⟨bN,rfl,hH⟩ a hA)|(refine SAT (zL (bl5 o1 1 n)) hA hH ?_;clear hH;intro w hH)|refine CT ?_|fail)
    obtain ⟨b11,hb3⟩:∃x,x=bN:=⟨_,rfl⟩;rw [←hb3] at hA hH;clear hb3 bN
    have hl0:(0:Nat)=(bl5 o1 1 n).e.to.l.length:=rfl
    refine zU (S:=Nat) (fun i a w=>i=0∧HS w0 noM (cb b11 53 (zL (bl5 o1 1 n))::own 53 6 none 0 0 []::cb b8 44 [.int .i64 0,.slice none 0 0]::cb bM 174 (vL oD 1 cD bJ)::own 179 7 oD 1 cD (dr1 o1 0)::own 3 1 oL 1 cL [.int .i64 0]::own 65 2 o1 1 1 (zV ⟨2,n⟩)::cb bF 72 (xR o 0)::cb b2 44 [.int .i64 0,.slice none 0 0]::[]) w∧Sl 83 [(56,.int .i64 0),(55,.int .i64 (0:Nat)),(11,.pointer (some (bat b11 0))),(40,.int .i64 (0:Nat)),(39,.int .i64 (1:Nat)),(38,.slice oL 1 cL),(8,.pointer (some (bat b8 0))),(3,.pointer (some (bat bM 0))),(2,.pointer (some (bat b2 0)))] a) (fun i=>i)
      (fun a w=>HS w0 noM (cb b11 53 (zL (bl5 o1 1 n))::own 53 6 none 0 0 []::cb b8 44 [.int .i64 0,.slice none 0 0]::cb bM 174 (vL oD 1 cD bJ)::own 179 7 oD 1 cD (dr1 o1 0)::own 3 1 oL 1 cL [.int .i64 0]::own 65 2 o1 1 1 (zV ⟨2,n⟩)::cb bF 72 (xR o 0)::cb b2 44 [.int .i64 0,.slice none 0 0]::[]) w∧Sl 83 [(11,.pointer (some (bat b11 0))),(40,.int .i64 (0:Nat)),(39,.int .i64 (1:Nat)),(38,.slice oL 1 cL),(8,.pointer (some (bat b8 0))),(3,.pointer (some (bat bM 0))),(2,.pointer (some (bat b2 0)))] a) 0 ⟨rfl,hH,(hA.sub SBT)⟩ ?_ ?_
    · clear hA hH
      rintro i a w ⟨hi,hH,hA⟩
      repeat' (first|(refine QT ?_;clear hA a;intro a hA)|refine CT ?_|fail)
      exact ⟨hH,(hA.sub SBT)⟩
    clear hA hH
    rintro a w ⟨hH,hA⟩
    repeat' (first|(refine XT ?_;apply XE;(first|(apply zA (vs:=zL (bl5 o1 1 n));rfl;rfl;exact zD MEMT));clear hA a;intro a hA)|(refine QT ?_;clear hA a;intro a hA)|(refine AT ?_;clear hA;rintro _ w ⟨oN,cN,rfl,hH2⟩ a hA;clear hH;have hH:=(hH2 _ (by (repeat constructor))).tail;clear hH2)|(apply zJ hA rfl rfl (by decide);apply zQ (xs:=zL (bl5 o1 1 n)) (vs:=[.agg (zL (bl5 o1 1 n)).toArray]);rfl;rfl;exact (Cats.cn (cs:=zL (bl5 o1 1 n)) Cats.nil);rfl;rfl;rfl;exact hH;clear hA hH;rintro _ w ⟨oN,rfl,hH⟩ a hA)|refine CT ?_|fail)
    repeat' (first|(refine QT ?_;clear hA a;intro a hA)|(apply zT hA rfl rfl;apply zG (cs':=[.int .i64 0,.slice oN (0+1) cN]);rfl;rfl;rfl;exact hH;(repeat constructor);clear hH;rintro _ w hH)|refine CT ?_|fail)
    refine ⟨1,⟨oN,cN,Nat.le_refl _,fun h=>absurd h (by decide),?_,(hA.sub SBT)⟩,by omega⟩
    rw [aJ]
    exact (hH.rm 0).perm PMT
  clear hA hH hb8
  rintro a w ⟨oB,cB,hH,hA⟩
  repeat' (first|(refine XT ?_;apply XE;(first|(apply zA (vs:=[.int .i64 0,.slice oB 1 cB]);rfl;rfl;exact zD MEMT));clear hA a;intro a hA)|(refine QT ?_;clear hA a;intro a hA)|(refine SAT ([.int .i64 0,.slice oB 1 cB]) hA hH ?_;clear hH;intro w hH)|refine CT ?_|fail)
  refine rH (vs:=[.int .i64 0,.slice oB 1 cB]) (.inl rfl) rfl hA rfl rfl hH (zD (by exact MEMT)) ⟨oB,cB,o1,rfl,?_⟩
  exact (((((hH.rm 1).rm 1).rm 1).rm 1).rm 2).rm 2
end
end Go.Proofs.YtenlcdokaadobaaGreatDoor
