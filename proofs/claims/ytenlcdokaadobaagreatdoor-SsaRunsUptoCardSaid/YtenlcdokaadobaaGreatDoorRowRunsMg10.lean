/-
  The document's graph: one function's run, if the calls in it are right. Conditions: none.
  The document's call. Conditions: none.
  The document's result, told; what else there is stays. Conditions: none.
  The document's check of graphs: names, ends, what a block binds. Conditions: none.
-/
import Derived.Test.YtenlcdokaadobaaGreatDoorRowRunsMg9
import Derived.Test.YtenlcdokaadobaaGreatDoorRowRunsMg8
import Derived.Test.YtenlcdokaadobaaGreatDoorRowRunsMg7
import Derived.Test.YtenlcdokaadobaaGreatDoorRowRunsMg3
set_option maxHeartbeats 64000000
set_option maxRecDepth 10000
namespace Go.Proofs.YtenlcdokaadobaaGreatDoor
open Go Go.Fw
set_option linter.unusedVariables false
theorem mS {i:Int} {v:List Value} (h:v.length=5) (z:Array Value) (hz:z.size=6):Instr.fill (([(0,1),(1,5)]:List (Nat × Nat))[·]?) z [(0,.int .i64 i),(1,.agg v.toArray)]=some (.int .i64 i::v).toArray:=by
  obtain ⟨l⟩:=z
  match l,hz,v,h with
  | [z0,z1,z2,z3,z4,z5],_,[a0,a1,a2,a3,a4],_=>simp [Instr.fill,Value.cells]
theorem cats6 {v:List Value} (h:v.length=6):Cats 6 [.agg v.toArray] v:=by
  have h1:=Cats.cn (cs:=v) Cats.nil
  rw [h,List.append_nil] at h1
  exact h1
theorem cats62 {v u:List Value} (h:v.length=6) (h2:u.length=6):Cats 6 [.agg v.toArray,.agg u.toArray] (v++u):=by
  have h1:=Cats.cn (cs:=v) (h.symm▸cats6 h2)
  rw [h] at h1
  exact h1
theorem aB {i:Int} {v:List Value} (h:v.length=5):(Value.int .i64 i::v).length=6:=by rw [List.length_cons,h]
theorem ione {i:Int} {v:List Value} (h:v.all (·.oneCell')=true):(Value.int .i64 i::v).all (·.oneCell')=true:=by rw [List.all_cons,h];rfl
theorem RSt.cells {w0 w:World} {d:Dx} {bR bW:Nat} {g:Grs} {n:Int} {wd:Wd} {H:List It} (h:RSt w0 d bR bW g n wd H w):w.cell? (bat bR 6)=some (.pointer (some (bat bW 0)))∧w.cell? (bat bW 1)=some (.slice g.ss.o g.ss.l.length g.ss.c):=by
  obtain ⟨oO,cO,oS,cS,sds,hH,hQ⟩:=h
  have get:∀{C:World→Prop} {p:Addr} {v:Value},Cl C p v→C w→w.cell? p=some v:=fun h hC=>h w hC
  exact ⟨get (rT (T:=100) (cs:=xI g n bW) (by exact MEMT) rfl) hH,get (rT (T:=98) (cs:=xE g wd.inp oO wd.out.length cO oS wd.st.length cS) (by exact MEMT) rfl) hH⟩
section
attribute [local irreducible] Code.wp wpList Calls Ex Op1 sat bat blk cb own Go.Fw.mp Go.Fw.mpO Go.Fw.mpI Go.Fw.mpE Go.Fw.itr HS Rd Ret wkD Hp Cl Cls Exit.then Exit.inBlock Exit.noGoto bodyPost Go.Fw.flat wk2 Go.Fw.all Go.Fw.owns wpOp
attribute [local irreducible] sk mpK sko mvO xM xC frz w63 xX ofB vA QV QVs EQ yD OwV

-- the cells of a graph under way:$1 the block,$2 and $3 the results
theorem form_iok {g:Grs} {cs:List Int} {mine:Int} {r:Stp} (h:FormP g cs mine r) (h1:cs.length≤4096) (h2:mine≤4096) (h3:g.ls.l.length≤9223372036854775807) (h4:g.ts.l.length≤9223372036854775807):iok r.n:=by
  unfold iok
  by_cases hk:r.k=2
  · have hw:=h.want.trans (w_2 (g:=g) (mine:=0) hk).1
    unfold wO at hw
    repeat' split at hw
    all_goals omega
  · have hn:=h.num
    unfold tM tA at hn
    rw [if_neg hk] at hn
    repeat' split at hn
    all_goals omega
theorem caps_at {l:List Gr} {i:Nat} (hi:i<l.length):(l.map Gr.caps).getD i 0=(l.getD i gr0).caps:=by
  rw [List.getD_eq_getElem?_getD,List.getElem?_map,List.getElem?_eq_getElem hi,List.getD_eq_getElem?_getD,List.getElem?_eq_getElem hi];rfl
theorem Cok.add {w0:World} {g:Grs} {d:Dx} {m:Nat} {wd:Wd} {o:Option Addr} {v:List Value} (h:Cok w0 g d (m+1) wd):Cok w0 g (d.add o v) m wd:=
  ⟨h.cp,fun w hw=>h.K w hw.2,h.b0,(by have:=h.bd;show d.bd+m≤_;omega),(by have:=h.st;omega),(by have:=h.out;omega)⟩
theorem OwV.fi {c:Dx} {g:Grs} {y:Vl} {v:List Value} (h:OwV c g (.fine y) v):QV c y v:=by unfold OwV at h;exact h
theorem OwV.mkf {c:Dx} {g:Grs} {y:Vl} {v:List Value} (h:QV c y v):OwV c g (.fine y) v:=by unfold OwV;exact h
theorem Bnd.dec {c d:Dx} {n m:Nat} {wd wd':Wd} (h:Bnd c d n (m+1) wd wd'):Bnd c d n m wd wd':=⟨h.le,by have:=h.bd;omega,by have:=h.st;omega,by have:=h.out;omega⟩
theorem OwV.stk2 (c:Dx) (g:Grs):OwV c g .stuck qz:=by unfold OwV;rfl
theorem QV.num {c:Dx} {z:Int} {v:List Value} (h:QV c (.num z) v):v=qk 1 z∧iok z:=by rw [QV] at h;exact h
theorem OwV.mkr {c:Dx} {g:Grs} {z:Int} {v:List Value} (h:v=qk 1 z) (h0:0≤z) (h1:z<g.xs.l.length):OwV c g (.raised z) v:=by unfold OwV;exact ⟨h,h0,h1⟩
theorem OwV.fl (c:Dx) (g:Grs):OwV c g .fuel qz:=by unfold OwV;rfl
-- the results are laid:$1 plan,$2 what is looked at,$3 how it is looked at,$4 $5 the two,$6 again,$7 how;$8 what else lies there;$9 the fuel
theorem cY (w0 w:World) (H:List It) (c:Dx) (g:Grs) (kd:Int) (n:Nat) (wd:Wd) (bR bW:Nat) (f1:Int) (l1:List Vl) (x:Vl) (fv xv:List Value) (hC:∀m,m<n→CallC w0 bR bW g kd m) (hS:RSt w0 c bR bW g n wd H w) (hok:Cok w0 g c n wd) (hM:MayP g) (hR:RdGs w0 g) (hqf:QV c (.fn f1 l1) fv) (hqx:QV c x xv) :
    Ret Tryz.prog 58 #[.pointer (some (bat bR 0)),.agg fv.toArray,.agg xv.toArray] w (GraphQ w0 c bR bW g kd n wd H (.fn f1 l1) x):=by
  obtain ⟨oO,cO,oS,cS,sds,hH,hQ⟩:=hS
  have hfl:=hqf.len
  have hxl:=hqx.len
  have hqf2:=hqf
  rw [QV] at hqf2
  obtain ⟨of,kf,fvs,hfv,⟨hf0,hf1,hfc⟩,_,_⟩:=hqf2
  rw [hok.cp,List.length_map] at hf1
  have hfv1:Fw.nth fv 1=some (.int .i64 f1):=by rw [hfv];rfl
  have hft:f1.toNat<g.fs.l.length:=by omega
  have hgm:g.fs.l.getD f1.toNat gr0∈g.fs.l:=xP hft
  have hRG:=hR.2.1 _ hgm
  have hGP:=hM.gr _ hgm
  have hspF:Sp g.fs.o g.fs.l.length:=hR.1.1.sp (sz:=2) (zH wM _) (by have:=hM.anf.top;rw [List.length_map] at this;omega)
  have hbz:(g.fs.l.getD f1.toNat gr0).bs.l.length≤65536:=by
    have h1:=sD grN hgm
    have h2:rW g=(g.fs.l.map grN).sum:=rfl
    have h3:=hM.size
    have h4:grN (g.fs.l.getD f1.toNat gr0)=((g.fs.l.getD f1.toNat gr0).bs.l.map uZ).sum:=rfl
    have h5:∀l:List Blc,l.length≤(l.map uZ).sum:=fun l=>by
      induction l with
      |nil=>exact Nat.le_refl _
      |cons y l ih=>rw [List.map_cons,List.sum_cons,List.length_cons];unfold uZ at *;omega
    have:=h5 (g.fs.l.getD f1.toNat gr0).bs.l
    omega
  have hspB:Sp (g.fs.l.getD f1.toNat gr0).bs.o (g.fs.l.getD f1.toNat gr0).bs.l.length:=hRG.1.1.sp (sz:=6) (zH yS _) (by omega)
  have hblk:∀b,b<(g.fs.l.getD f1.toNat gr0).bs.l.length→(g.fs.l.getD f1.toNat gr0).bs.l[b]?=some (xQ g f1 b):=fun b hb=>by
    unfold xQ
    rw [List.getD_eq_getElem?_getD (l:=(g.fs.l.getD f1.toNat gr0).bs.l),List.getElem?_eq_getElem hb];rfl
  have hb0:=hGP.ne
  have hssl:=hR.2.2.2.2.2.le
  have hlsl:=hR.2.2.1.le
  have htsl:=hR.2.2.2.1.le
  have hp0:=(hGP.blk 0 _ (hblk 0 hb0)).2.first rfl
  (refine ENT (N:=260) Tryz.func58 Tryz.ntmps58 ?_;intro a hA)
  repeat' (first|(refine XT ?_;apply XE;(first|(apply zA (vs:=fv);rfl;exact hfl;exact zD MEMT));clear hA a;intro a hA)|(refine QT ?_;clear hA a;intro a hA)|(refine BT ?_;clear hA hH;rintro _ w ⟨bN,rfl,hH⟩ a hA)|refine CT ?_|fail)
  (refine sU hA hH rfl rfl (by decide) (yZ (szs:=[(0,1),(1,5)]) (cs:=(Value.int .i64 0::fv).toArray) (xS (.cons ⟨_,rfl,by decide⟩ (.cons ⟨_,rfl,by decide⟩ .nil))) rfl (mS hfl _ rfl)) ?_;clear hA a;intro a hA)
  repeat' (first|(refine XT ?_;apply XE;(first|(apply zA (vs:=xv);rfl;exact hxl;exact zD MEMT));clear hA a;intro a hA)|(refine QT ?_;clear hA a;intro a hA)|fail)
  (refine sU hA hH rfl rfl (by decide) (yZ (szs:=[(0,1),(1,5)]) (cs:=(Value.int .i64 1::xv).toArray) (xS (.cons ⟨_,rfl,by decide⟩ (.cons ⟨_,rfl,by decide⟩ .nil))) rfl (mS hxl _ rfl)) ?_;clear hA a;intro a hA)
  (apply zJ hA rfl rfl (by decide);apply zQ (xs:=(Value.int .i64 0::fv)++(Value.int .i64 1::xv));rfl;rfl;exact cats62 (aB hfl) (aB hxl);rfl;rfl;rfl;exact hH;clear hA hH;rintro _ w ⟨oN,rfl,hH⟩ a hA)
  repeat' (first|(refine XT ?_;apply XE;(first|(apply zK (cs:=(qz).toArray);rfl;exact FLT;rfl));clear hA a;intro a hA)|(refine QT ?_;clear hA a;intro a hA)|(refine BT ?_;clear hA hH;rintro _ w ⟨bN,rfl,hH⟩ a hA)|(refine SAT (qz) hA hH ?_;clear hH;intro w hH)|refine CT ?_|fail)
  (refine zN [(0,1),(1,1),(2,1),(3,1),(4,1),(5,1),(6,1),(7,1),(8,1),(9,1),(10,1),(11,1),(12,0)] [13] mixed (by decide +kernel) hH ?_;replace hH:=hH.drew)
  repeat' (first|(refine XT ?_;apply XE;(first|(apply zF;rfl;exact rT MEMT hfv1)|(apply zC;rfl;rfl;omega;omega;first|exact hspF|exact hspB)|(apply zF;rfl;refine yG hR.1.1 id (pN ?_);omega)|(apply zA (vs:=zL (xQ g f1 0));rfl;rfl;exact yP hRG.1.1 id (yI yS (hblk 0 hb0))));clear hA a;intro a hA)|(refine QT ?_;clear hA a;intro a hA)|(apply yC hA rfl rfl rfl (by decide);apply yV;exact hH;clear hA hH;rintro _ w ⟨bN,rfl,hH⟩;refine ⟨hH.tail,?_⟩;intro a hA)|(apply yB hA rfl rfl rfl;apply zI (vs:=zL (xQ g f1 0));rfl;rfl;exact hH;(repeat constructor);(repeat rfl);clear hH;rintro _ w hH)|refine CT ?_|fail)
  have heq0:EQ c [(0,.fn f1 l1),(1,x)] ((Value.int .i64 0::fv)++(Value.int .i64 1::xv)):=by
    unfold EQ
    refine ⟨fv,_,rfl,hqf,?_⟩
    unfold EQ
    exact ⟨xv,[],by simp,hqx,by unfold EQ;rfl⟩
  have hI0:=GI.start (kd:=kd) (n:=n) (wd:=wd) hb0 hp0 heq0
  obtain ⟨b12,b11,b7,b6,b5,b4,oE,cE,es,ec,hes,hS,hA2⟩:∃b12 b11 b7 b6 b5 b4 oE cE es ec,GI g kd n f1 l1 x c wd n c wd es ec 0 0 (qH (f1,l1) x)∧RSt w0 c bR bW g n wd (cb b12 53 (zL (xQ g f1 0))::cb b11 103 qz::cb b7 103 qz::cb b6 103 qz::cb b5 103 xv::cb b4 103 fv::own 211 6 oE es.length cE ec::H) _∧Sl 260 [(12,.pointer (some (bat b12 0))),(11,.pointer (some (bat b11 0))),(10,.slice oE es.length cE),(9,.int .i64 0),(8,.bool false),(7,.pointer (some (bat b7 0))),(6,.pointer (some (bat b6 0))),(4,.pointer (some (bat b4 0))),(0,.pointer (some (bat bR 0)))] a:=⟨_,_,_,_,_,_,_,_,_,_,hI0,⟨oO,cO,oS,cS,sds,hH.perm PMT,hQ⟩,(hA.sub SBT)⟩
  clear hA hH hQ hI0 heq0
  have hA:=hA2
  clear hA2
  repeat' (first|(refine QT ?_;clear hA a;intro a hA)|fail)
  refine zU (S:=Nat) (fun m a w=>∃d wd' es ec oE cE b fm,GI g kd n f1 l1 x c wd m d wd' es ec b 0 fm∧RSt w0 d bR bW g m wd' (cb b12 53 (zL (xQ g f1 b))::cb b11 103 qz::cb b7 103 qz::cb b6 103 qz::cb b5 103 xv::cb b4 103 fv::own 211 6 oE es.length cE ec::H) w∧Sl 260 [(12,.pointer (some (bat b12 0))),(11,.pointer (some (bat b11 0))),(10,.slice oE es.length cE),(9,.int .i64 0),(8,.bool false),(7,.pointer (some (bat b7 0))),(6,.pointer (some (bat b6 0))),(4,.pointer (some (bat b4 0))),(0,.pointer (some (bat bR 0)))] a) (fun m=>m) (fun a w=>False) n ⟨c,wd,es,ec,oE,cE,0,_,hes,hS,(hA.sub SBT)⟩ ?_ (fun a w h=>h.elim)
  clear hA hS hes
  rintro m0 a w ⟨d,wd',es,ec,oE,cE,b,fm,hI,⟨oO,cO,oS,cS,sds,hH,hQ⟩,hA⟩
  have hlb:=hI.lb
  have hbl:=hblk b hlb
  have hRb:=hRG.2 _ (List.mem_of_getElem? hbl)
  have hBP:=(hGP.blk b _ hbl).2
  obtain ⟨bl,hble⟩:∃z,z=xQ g f1 b:=⟨_,rfl⟩
  have hsz:=fR (bl:=bl) (by
    have h1:=sD uZ (List.mem_of_getElem? hbl)
    have h2:=sD grN hgm
    have h3:grN (g.fs.l.getD f1.toNat gr0)=((g.fs.l.getD f1.toNat gr0).bs.l.map uZ).sum:=rfl
    have h4:rW g=(g.fs.l.map grN).sum:=rfl
    have:=hM.size
    rw [hble]
    omega)
  rw [←hble] at hH hbl hRb hBP
  have hspI:Sp bl.is.o bl.is.l.length:=hRb.2.1.1.sp (sz:=5) (zH xY _) (by omega)
  repeat' (first|(refine QT ?_;clear hA a;intro a hA)|refine CT ?_|fail)
  refine zU (S:=Nat) (fun i a w=>∃m d wd' es ec oE cE fm,(i≤bl.is.l.length∧m≤m0∧GI g kd n f1 l1 x c wd m d wd' es ec b i fm)∧RSt w0 d bR bW g m wd' (cb b12 53 (zL (bl))::cb b11 103 qz::cb b7 103 qz::cb b6 103 qz::cb b5 103 xv::cb b4 103 fv::own 211 6 oE es.length cE ec::H) w∧Sl 260 [(13,.int .i64 i),(12,.pointer (some (bat b12 0))),(11,.pointer (some (bat b11 0))),(10,.slice oE es.length cE),(9,.int .i64 0),(8,.bool false),(7,.pointer (some (bat b7 0))),(6,.pointer (some (bat b6 0))),(4,.pointer (some (bat b4 0))),(0,.pointer (some (bat bR 0)))] a) (fun i=>bl.is.l.length - i)
    (fun a w=>∃m d wd' es ec oE cE fm,(m≤m0∧GI g kd n f1 l1 x c wd m d wd' es ec b bl.is.l.length fm)∧RSt w0 d bR bW g m wd' (cb b12 53 (zL (bl))::cb b11 103 qz::cb b7 103 qz::cb b6 103 qz::cb b5 103 xv::cb b4 103 fv::own 211 6 oE es.length cE ec::H) w∧Sl 260 [(12,.pointer (some (bat b12 0))),(11,.pointer (some (bat b11 0))),(10,.slice oE es.length cE),(9,.int .i64 0),(8,.bool false),(7,.pointer (some (bat b7 0))),(6,.pointer (some (bat b6 0))),(4,.pointer (some (bat b4 0))),(0,.pointer (some (bat bR 0)))] a) 0 ⟨m0,d,wd',es,ec,oE,cE,fm,⟨Nat.zero_le _,Nat.le_refl _,hI⟩,⟨oO,cO,oS,cS,sds,hH,hQ⟩,(hA.sub SBT)⟩ ?_ ?_
  · clear hA hH hQ hI
    rintro i a w ⟨m,d,wd',es,ec,oE,cE,fm,⟨hi,hm0,hI⟩,⟨oO,cO,oS,cS,sds,hH,hQ⟩,hA⟩
    by_cases hlt:i<bl.is.l.length
    rotate_left
    · obtain rfl:i=bl.is.l.length:=by omega
      repeat' (first|(refine QT ?_;clear hA a;intro a hA)|refine CT ?_|(refine DT ?_ ?_<;>intro hc<;>try (exfalso;omega))|fail)
      exact ⟨m,d,wd',es,ec,oE,cE,fm,⟨hm0,hI⟩,⟨oO,cO,oS,cS,sds,hH,hQ⟩,(hA.sub SBT)⟩
    cases m with
    | zero=>
      repeat' (first|(refine QT ?_;clear hA a;intro a hA)|refine CT ?_|(refine DT ?_ ?_<;>intro hc<;>try (exfalso;omega))|fail)
      refine xO (qs [0,1] (.one 2 (.one 3 (qs [4,5] .nil)))) (fun a w=>HS w0 noM (cb bW 98 (xE g wd'.inp oO wd'.out.length cO oS wd'.st.length cS)::own 5 1 oO wd'.out.length cO (flat zY wd'.out)::own 101 1 oS wd'.st.length cS (flat Fw.encS sds)::frz w0 d.K::cb bR 100 (xI g ((0:Nat)) bW)::cb b12 53 (zL (bl))::cb b11 103 qz::cb b7 103 qz::cb b6 103 qz::cb b5 103 xv::cb b4 103 fv::own 211 6 oE es.length cE ec::H) w∧Sl 260 [(9,.int .i64 2),(8,.bool false),(7,.pointer (some (bat b7 0))),(6,.pointer (some (bat b6 0)))] a) mixed (by decide +kernel) (show HS w0 noM [cb b11 103 qz] _ from HS.left (H1:=[cb b11 103 qz]) (hH.perm PMT)) ?_ ?_
      · replace hH:=hH.drew
        (repeat (apply yN hA rfl rfl rfl (by decide);(first|exact EXT|(apply zA (vs:=qz);rfl;rfl;exact zD MEMT));clear hA a;intro a hA))
        (apply yR hA rfl rfl rfl;apply zI (vs:=qz);rfl;rfl;exact hH;(repeat constructor);(repeat (first|rfl|assumption));clear hH;rintro _ w hH;refine ⟨HS.left (H1:=[cb b11 103 qz]) (hH.perm PMT),?_⟩)
        (apply yR hA rfl rfl rfl;apply zI (vs:=qz);rfl;rfl;exact hH;(repeat constructor);(repeat (first|rfl|assumption));clear hH;rintro _ w hH;refine ⟨HS.left (H1:=[cb b11 103 qz]) (hH.perm PMT),?_⟩)
        (repeat (apply yN hA rfl rfl rfl (by decide);exact EXT;clear hA a;intro a hA))
        apply xG
        exact ⟨hH.perm PMT,(hA.sub SBT)⟩
      clear hA hH
      rintro a w ⟨hH,hA⟩
      repeat' (first|(refine QT ?_;clear hA a;intro a hA)|refine CT ?_|fail)
      refine sY (vs:=qz) (vs2:=qz) (sz:=5) (.inl rfl) rfl hA rfl rfl rfl rfl (by first|rfl|assumption) (by first|rfl|assumption) hH (zD MEMT) (zD MEMT) ?_
      exact .inl ⟨.fuel,d,0,wd',qz,rfl,OwV.fl d g,hI.bn,WSt.dropL (L:=cb b12 53 (zL (bl))::cb b11 103 qz::cb b7 103 qz::cb b6 103 qz::cb b5 103 xv::cb b4 103 fv::own 211 6 oE es.length cE ec::[]) ⟨oO,cO,oS,cS,sds,hH.perm PMT,hQ⟩,hI.fuel⟩
    | succ m=>
      --((
      obtain ⟨ins,hins⟩:∃z,bl.is.l[i]?=some z:=⟨_,List.getElem?_eq_getElem hlt⟩
      obtain ⟨hform,hats⟩:=hBP.ins i ins hins
      have hinm:=List.mem_of_getElem? hins
      have hRi:=hRb.2.2.1 ins hinm
      have hspA:Sp ins.r.a.o ins.r.a.l.length:=hRi.2.1.sp (sz:=2) (zH xN _) (by have:=hsz.2.2.1 ins hinm;omega)
      have hel:es.length≤10000000000:=by have:=hI.len;have:=hok.bd;omega
      have henv:EnvB (g.fs.l.getD f1.toNat gr0) bl b i es:=by rw [hble];exact hI.env
      have hav:∀a∈ins.r.a.l,atI g es a:=fun a ha=>henv.at hssl (hats a ha)
      have hall:=yI xY hins
      have hmn:=hI.bn.n
      have hmb:m≤100000:=by have:=hI.bn.bd;have:=hok.bd;omega
      repeat' (first|(refine QT ?_;clear hA a;intro a hA)|refine CT ?_|(refine DT ?_ ?_<;>intro hc<;>try (exfalso;omega))|fail)
      repeat' (first|(refine QT ?_;clear hA a;intro a hA)|(apply zT hA rfl rfl;apply zG (cs':=xI g m bW);rfl;rfl;rfl;exact hH;(repeat constructor);clear hH;rintro _ w hH)|refine CT ?_|fail)
      have hfi:=hI.fe.ins (hble▸hins)
      have hfr:(xD g fm).r=ins.r:=by rw [hfi]
      have hfa:=hI.fe.all (g:=g) ins.r.a.l
      have hok2:=hok.next hI.bn
      have hcp:FormP g d.cp (d.cp.getD fm.c.1.toNat 0) ins.r:=by rw [hok2.cp,hI.fe.c,caps_at hft];exact hform
      have hqf3:QV d (.fn fm.c.1 fm.c.2) fv:=by rw [hI.fe.c];exact QV.mono hI.bn.le _ _ hqf
      have hcap:=hM.anf.caps _ (List.mem_map_of_mem (f:=Gr.caps) hgm)
      have hrn:=form_iok hform hM.anf.top (by omega) hlsl htsl
      have hns:ins.r.ns.l.length≤65536:=Nat.le_trans (form_ns hform) (hsz.2.2.1 ins hinm)
      have hal:=hsz.2.2.1 ins hinm
      obtain ⟨L,hL⟩:∃z,z=ins.r.a.l.map (atE g es):=⟨_,rfl⟩
      have hLl:ins.r.a.l.length=L.length:=by rw [hL,List.length_map]
      rw [←hL] at hfa
      have hS:RSt w0 d bR bW g m wd' (cb b12 53 (zL (bl))::cb b11 103 qz::cb b7 103 qz::cb b6 103 qz::cb b5 103 xv::cb b4 103 fv::own 211 6 oE es.length cE ec::H) _:=⟨oO,cO,oS,cS,sds,hH.perm PMT,hQ⟩
      clear hH hQ
      have hST:HS w0 noM [cb b12 53 (zL bl),cb b4 103 fv] _:=(by obtain ⟨oO,cO,oS,cS,sds,hH,hQ⟩:=hS;exact HS.left (H1:=[_,_]) (hH.perm PMT))
      refine xO (qs [0,1,2,3,4,5,6,7,8,9,10,11,12,13,14,15,17] (.two 16 22 (.two 18 22 (qs [19,20,21] (.one 22 (.one 23 (.q 24 .nil)))) (.one 18 (qs [19,20,21] (.one 23 (.q 24 .nil))))) (.one 16 (.one 18 (qs [19,20,21] (.one 23 (.q 24 .nil)))))))
        (fun a w=>∃b14 o d2 n2 wd2 ov,(n2≤m∧OwV d2 g o ov∧Bnd d d2 (m+1) n2 wd' wd2∧SRun g kd m fm wd' n2 o wd2)∧RSt w0 d2 bR bW g n2 wd2 (cb b14 103 ov::cb b12 53 (zL (bl))::cb b11 103 qz::cb b7 103 qz::cb b6 103 qz::cb b5 103 xv::cb b4 103 fv::own 211 6 oE es.length cE ec::H) w∧Sl 260 [(15,.int .i64 o.k),(14,.pointer (some (bat b14 0))),(13,.int .i64 i),(12,.pointer (some (bat b12 0))),(11,.pointer (some (bat b11 0))),(10,.slice oE es.length cE),(9,.int .i64 0),(8,.bool false),(7,.pointer (some (bat b7 0))),(6,.pointer (some (bat b6 0))),(4,.pointer (some (bat b4 0))),(0,.pointer (some (bat bR 0)))] a) mixed (by decide +kernel) hST ?_ ?_
      · clear hST
        replace hS:=hS.drew
        (repeat (apply yN hA rfl rfl rfl (by decide);(first|exact EXT|exact EXT2|(apply zB;rfl;rfl;omega;exact hspI)|(apply zA (vs:=zX ins.r);rfl;rfl;exact yP hRb.2.1.1 id (fun j v hv=>(Nat.add_assoc _ _ _)▸hall (1+j) v (qJ ins j v hv)))|(apply zF;rfl;exact yG hRb.2.1.1 id (hall 4 _ rfl))|(apply zA (vs:=fv);rfl;exact hfl;exact zD MEMT));clear hA a;intro a hA))
        apply uP
        rotate_left
        · skip
          obtain ⟨oO,cO,oS,cS,sds,hH,hQ⟩:=hS
          skip
          (apply yT hA rfl rfl rfl (by decide);apply yV;exact hH;clear hA hH;rintro _ w ⟨bN,rfl,hH⟩;have hST:HS w0 noM [cb b12 53 (zL bl),cb b4 103 fv] _:=HS.left (H1:=[_,_]) (hH.perm PMT);refine ⟨hST,?_⟩;intro a hA)
          have hS:RSt w0 d bR bW g m wd' (cb bN 103 _::cb b12 53 (zL (bl))::cb b11 103 qz::cb b7 103 qz::cb b6 103 qz::cb b5 103 xv::cb b4 103 fv::own 211 6 oE es.length cE ec::H) _:=⟨oO,cO,oS,cS,sds,hH.perm PMT,hQ⟩
          clear hH hQ hST
          skip
          have hcl:=hS.cells
          obtain ⟨oO,cO,oS,cS,sds,hH,hQ⟩:=hS
          skip
          (refine yT hA rfl rfl rfl (by decide) (zE rfl rfl rfl (sF _ d g bR bW ins.r.a oE cE es ec hcl.1 hcl.2 (hH.own_rd (T:=211) (o:=oE) (by exact MEMT)) hI.eq hel (hRi.2.keep hH.kp) (hR.2.2.2.2.2.keep hH.kp) hM.anf.ss hav (by omega))) ?_;clear hA;rintro _ w ⟨oL,cL,cells,rfl,hqs,hj⟩;replace hH:=hH.join hj;clear hj)
          rw [hLl] at hH ⊢
          rw [←hL] at hqs
          have hS:=WSt.add (H:=cb bR 100 (xI g m bW)::cb bN 103 _ ::cb b12 53 (zL (bl))::cb b11 103 qz::cb b7 103 qz::cb b6 103 qz::cb b5 103 xv::cb b4 103 fv::own 211 6 oE es.length cE ec::H) (hH.perm PMT) hQ
          clear hH hQ
          have hST:HS w0 noM [cb b12 53 (zL bl),cb b4 103 fv] _:=(by obtain ⟨oO,cO,oS,cS,sds,hH,hQ⟩:=hS;exact HS.left (H1:=[_,_]) (hH.perm PMT))
          refine ⟨hST,?_⟩
          intro a hA
          (refine yT hA rfl rfl rfl (by decide) (zE rfl rfl rfl (pS w0 _ _ (d.add oL cells) g kd m wd' bR bW fm ins.r oL cL L cells fv (fun k hk=>hC k (by omega)) hS hok2.add hM hR.2.2.2.2.1 hfr hfa (fun w h=>h.1) (hqs.le (d.add_le _ _)) (QV.mono (d.add_le _ _) _ _ hqf3) hcp hRi.1 hns hrn (by omega))) ?_;clear hA hS;rintro _ w ⟨o,d2,n2,wd2,ov,hn2,rfl,hov,hB,hS,hsr⟩;have hST:HS w0 noM [cb b12 53 (zL bl),cb b4 103 fv] _:=(by obtain ⟨oO,cO,oS,cS,sds,hH,hQ⟩:=hS;exact HS.left (H1:=[_,_]) (hH.perm PMT));refine ⟨hST,?_⟩;intro a hA)
          (repeat (apply yN hA rfl rfl rfl (by decide);(first|exact EXT|exact EXT2|(apply zB;rfl;rfl;omega;exact hspI)|(apply zA (vs:=zX ins.r);rfl;rfl;exact yP hRb.2.1.1 id (fun j v hv=>(Nat.add_assoc _ _ _)▸hall (1+j) v (qJ ins j v hv)))|(apply zF;rfl;exact yG hRb.2.1.1 id (hall 4 _ rfl))|(apply zA (vs:=fv);rfl;exact hfl;exact zD MEMT));clear hA a;intro a hA))
          obtain ⟨oO,cO,oS,cS,sds,hH,hQ⟩:=hS
          skip
          (apply yR hA rfl rfl rfl;apply zI (vs:=ov);rfl;rfl;exact hH;(repeat constructor);exact hov.len;rfl;exact hov.one;clear hH;rintro _ w hH;refine ⟨HS.left (H1:=[_,_]) (hH.perm PMT),?_⟩)
          (repeat (apply yN hA rfl rfl rfl (by decide);(first|exact EXT|exact EXT2|(apply zB;rfl;rfl;omega;exact hspI)|(apply zA (vs:=zX ins.r);rfl;rfl;exact yP hRb.2.1.1 id (fun j v hv=>(Nat.add_assoc _ _ _)▸hall (1+j) v (qJ ins j v hv)))|(apply zF;rfl;exact yG hRb.2.1.1 id (hall 4 _ rfl))|(apply zA (vs:=fv);rfl;exact hfl;exact zD MEMT));clear hA a;intro a hA))
          apply xG
          exact ⟨_,o,d2,n2,wd2,ov,⟨hn2,hov,⟨(d.add_le _ _).trans hB.le,hB.bd,hB.st,hB.out⟩,hsr⟩,⟨oO,cO,oS,cS,sds,hH.perm PMT,hQ⟩,(hA.sub SBT)⟩
        have hcl:=hS.cells
        obtain ⟨oO,cO,oS,cS,sds,hH,hQ⟩:=hS
        skip
        (refine yT hA rfl rfl rfl (by decide) (zE rfl rfl rfl (sF _ d g bR bW ins.r.a oE cE es ec hcl.1 hcl.2 (hH.own_rd (T:=211) (o:=oE) (by exact MEMT)) hI.eq hel (hRi.2.keep hH.kp) (hR.2.2.2.2.2.keep hH.kp) hM.anf.ss hav (by omega))) ?_;clear hA;rintro _ w ⟨oL,cL,cells,rfl,hqs,hj⟩;replace hH:=hH.join hj;clear hj)
        rw [hLl] at hH ⊢
        rw [←hL] at hqs
        have hS:=WSt.add (H:=cb bR 100 (xI g m bW)::cb b12 53 (zL (bl))::cb b11 103 qz::cb b7 103 qz::cb b6 103 qz::cb b5 103 xv::cb b4 103 fv::own 211 6 oE es.length cE ec::H) (hH.perm PMT) hQ
        clear hH hQ
        have hST:HS w0 noM [cb b12 53 (zL bl),cb b4 103 fv] _:=(by obtain ⟨oO,cO,oS,cS,sds,hH,hQ⟩:=hS;exact HS.left (H1:=[_,_]) (hH.perm PMT))
        refine ⟨hST,?_⟩
        intro a hA
        apply uP
        rotate_left
        · skip
          obtain ⟨oO,cO,oS,cS,sds,hH,hQ⟩:=hS
          skip
          (apply yT hA rfl rfl rfl (by decide);apply yV;exact hH;clear hA hH;rintro _ w ⟨bN,rfl,hH⟩;have hST:HS w0 noM [cb b12 53 (zL bl),cb b4 103 fv] _:=HS.left (H1:=[_,_]) (hH.perm PMT);refine ⟨hST,?_⟩;intro a hA)
          have hS:RSt w0 (d.add oL cells) bR bW g m wd' (cb bN 103 _::cb b12 53 (zL (bl))::cb b11 103 qz::cb b7 103 qz::cb b6 103 qz::cb b5 103 xv::cb b4 103 fv::own 211 6 oE es.length cE ec::H) _:=⟨oO,cO,oS,cS,sds,hH.perm PMT,hQ⟩
          clear hH hQ hST
          skip
          (refine yT hA rfl rfl rfl (by decide) (zE rfl rfl rfl (pS w0 _ _ (d.add oL cells) g kd m wd' bR bW fm ins.r oL cL L cells fv (fun k hk=>hC k (by omega)) hS hok2.add hM hR.2.2.2.2.1 hfr hfa (fun w h=>h.1) (hqs.le (d.add_le _ _)) (QV.mono (d.add_le _ _) _ _ hqf3) hcp hRi.1 hns hrn (by omega))) ?_;clear hA hS;rintro _ w ⟨o,d2,n2,wd2,ov,hn2,rfl,hov,hB,hS,hsr⟩;have hST:HS w0 noM [cb b12 53 (zL bl),cb b4 103 fv] _:=(by obtain ⟨oO,cO,oS,cS,sds,hH,hQ⟩:=hS;exact HS.left (H1:=[_,_]) (hH.perm PMT));refine ⟨hST,?_⟩;intro a hA)
          (repeat (apply yN hA rfl rfl rfl (by decide);(first|exact EXT|exact EXT2|(apply zB;rfl;rfl;omega;exact hspI)|(apply zA (vs:=zX ins.r);rfl;rfl;exact yP hRb.2.1.1 id (fun j v hv=>(Nat.add_assoc _ _ _)▸hall (1+j) v (qJ ins j v hv)))|(apply zF;rfl;exact yG hRb.2.1.1 id (hall 4 _ rfl))|(apply zA (vs:=fv);rfl;exact hfl;exact zD MEMT));clear hA a;intro a hA))
          obtain ⟨oO,cO,oS,cS,sds,hH,hQ⟩:=hS
          skip
          (apply yR hA rfl rfl rfl;apply zI (vs:=ov);rfl;rfl;exact hH;(repeat constructor);exact hov.len;rfl;exact hov.one;clear hH;rintro _ w hH;refine ⟨HS.left (H1:=[_,_]) (hH.perm PMT),?_⟩)
          (repeat (apply yN hA rfl rfl rfl (by decide);(first|exact EXT|exact EXT2|(apply zB;rfl;rfl;omega;exact hspI)|(apply zA (vs:=zX ins.r);rfl;rfl;exact yP hRb.2.1.1 id (fun j v hv=>(Nat.add_assoc _ _ _)▸hall (1+j) v (qJ ins j v hv)))|(apply zF;rfl;exact yG hRb.2.1.1 id (hall 4 _ rfl))|(apply zA (vs:=fv);rfl;exact hfl;exact zD MEMT));clear hA a;intro a hA))
          apply xG
          exact ⟨_,o,d2,n2,wd2,ov,⟨hn2,hov,⟨(d.add_le _ _).trans hB.le,hB.bd,hB.st,hB.out⟩,hsr⟩,⟨oO,cO,oS,cS,sds,hH.perm PMT,hQ⟩,(hA.sub SBT)⟩
        (refine yT hA rfl rfl rfl (by decide) (zE rfl rfl rfl (pS w0 _ _ (d.add oL cells) g kd m wd' bR bW fm ins.r oL cL L cells fv (fun k hk=>hC k (by omega)) hS hok2.add hM hR.2.2.2.2.1 hfr hfa (fun w h=>h.1) (hqs.le (d.add_le _ _)) (QV.mono (d.add_le _ _) _ _ hqf3) hcp hRi.1 hns hrn (by omega))) ?_;clear hA hS;rintro _ w ⟨o,d2,n2,wd2,ov,hn2,rfl,hov,hB,hS,hsr⟩;have hST:HS w0 noM [cb b12 53 (zL bl),cb b4 103 fv] _:=(by obtain ⟨oO,cO,oS,cS,sds,hH,hQ⟩:=hS;exact HS.left (H1:=[_,_]) (hH.perm PMT));refine ⟨hST,?_⟩;intro a hA)
        (repeat (apply yN hA rfl rfl rfl (by decide);(first|exact EXT|exact EXT2|(apply zB;rfl;rfl;omega;exact hspI)|(apply zA (vs:=zX ins.r);rfl;rfl;exact yP hRb.2.1.1 id (fun j v hv=>(Nat.add_assoc _ _ _)▸hall (1+j) v (qJ ins j v hv)))|(apply zF;rfl;exact yG hRb.2.1.1 id (hall 4 _ rfl))|(apply zA (vs:=fv);rfl;exact hfl;exact zD MEMT));clear hA a;intro a hA))
        obtain ⟨oO,cO,oS,cS,sds,hH,hQ⟩:=hS
        skip
        (apply yT hA rfl rfl rfl (by decide);apply yV;exact hH;clear hA hH;rintro _ w ⟨bN,rfl,hH⟩;have hST:HS w0 noM [cb b12 53 (zL bl),cb b4 103 fv] _:=HS.left (H1:=[_,_]) (hH.perm PMT);refine ⟨hST,?_⟩;intro a hA)
        have hS:RSt w0 d2 bR bW g n2 wd2 (cb bN 103 _::cb b12 53 (zL (bl))::cb b11 103 qz::cb b7 103 qz::cb b6 103 qz::cb b5 103 xv::cb b4 103 fv::own 211 6 oE es.length cE ec::H) _:=⟨oO,cO,oS,cS,sds,hH.perm PMT,hQ⟩
        clear hH hQ hST
        skip
        obtain ⟨oO,cO,oS,cS,sds,hH,hQ⟩:=hS
        skip
        (apply yR hA rfl rfl rfl;apply zI (vs:=ov);rfl;rfl;exact hH;(repeat constructor);exact hov.len;rfl;exact hov.one;clear hH;rintro _ w hH;refine ⟨HS.left (H1:=[_,_]) (hH.perm PMT),?_⟩)
        (repeat (apply yN hA rfl rfl rfl (by decide);(first|exact EXT|exact EXT2|(apply zB;rfl;rfl;omega;exact hspI)|(apply zA (vs:=zX ins.r);rfl;rfl;exact yP hRb.2.1.1 id (fun j v hv=>(Nat.add_assoc _ _ _)▸hall (1+j) v (qJ ins j v hv)))|(apply zF;rfl;exact yG hRb.2.1.1 id (hall 4 _ rfl))|(apply zA (vs:=fv);rfl;exact hfl;exact zD MEMT));clear hA a;intro a hA))
        apply xG
        exact ⟨_,o,d2,n2,wd2,ov,⟨hn2,hov,⟨(d.add_le _ _).trans hB.le,hB.bd,hB.st,hB.out⟩,hsr⟩,⟨oO,cO,oS,cS,sds,hH.perm PMT,hQ⟩,(hA.sub SBT)⟩
      clear hA hS hST
      rintro a w ⟨b14,o,d,m2,wd',ov,⟨hn2,hov,hB,hsr⟩,⟨oO,cO,oS,cS,sds,hH,hQ⟩,hA⟩
      have hovl:=hov.len
      have hovo:=hov.one
      by_cases ho:∃y,o= .fine y
      rotate_left
      · have hok1:o.k≠0:=fun h=>ho (ow0 h)
        have hno:∀y,o≠.fine y:=fun y h=>ho ⟨y,h⟩
        repeat' (first|(refine QT ?_;clear hA a;intro a hA)|refine CT ?_|(refine DT ?_ ?_<;>intro hc<;>try (exfalso;omega))|fail)
        refine xO (qs [0,1,2] (.one 3 (.one 4 (qs [5,6] .nil)))) (fun a w=>HS w0 noM (cb bW 98 (xE g wd'.inp oO wd'.out.length cO oS wd'.st.length cS)::own 5 1 oO wd'.out.length cO (flat zY wd'.out)::own 101 1 oS wd'.st.length cS (flat Fw.encS sds)::frz w0 d.K::cb bR 100 (xI g (m2) bW)::cb b12 53 (zL (bl))::cb b11 103 qz::cb b7 103 qz::cb b6 103 ov::cb b5 103 xv::cb b4 103 fv::own 211 6 oE es.length cE ec::cb b14 103 ov ::H) w∧Sl 260 [(9,.int .i64 o.k),(8,.bool false),(7,.pointer (some (bat b7 0))),(6,.pointer (some (bat b6 0)))] a) mixed (by decide +kernel) (show HS w0 noM [cb b14 103 ov,cb b11 103 qz] _ from HS.left (H1:=[cb b14 103 ov,cb b11 103 qz]) (hH.perm PMT)) ?_ ?_
        · replace hH:=hH.drew
          (repeat (apply yN hA rfl rfl rfl (by decide);(first|exact EXT|(apply zA (vs:=qz);rfl;rfl;exact zD MEMT)|(apply zA (vs:=ov);rfl;exact hovl;exact zD MEMT));clear hA a;intro a hA))
          (apply yR hA rfl rfl rfl;apply zI (vs:=ov);rfl;rfl;exact hH;(repeat constructor);(repeat (first|rfl|assumption));clear hH;rintro _ w hH;refine ⟨HS.left (H1:=[cb b14 103 ov,cb b11 103 qz]) (hH.perm PMT),?_⟩)
          (apply yR hA rfl rfl rfl;apply zI (vs:=qz);rfl;rfl;exact hH;(repeat constructor);(repeat (first|rfl|assumption));clear hH;rintro _ w hH;refine ⟨HS.left (H1:=[cb b14 103 ov,cb b11 103 qz]) (hH.perm PMT),?_⟩)
          (repeat (apply yN hA rfl rfl rfl (by decide);exact EXT;clear hA a;intro a hA))
          apply xG
          exact ⟨hH.perm PMT,(hA.sub SBT)⟩
        clear hA hH
        rintro a w ⟨hH,hA⟩
        repeat' (first|(refine QT ?_;clear hA a;intro a hA)|refine CT ?_|fail)
        refine sY (vs:=ov) (vs2:=qz) (sz:=5) (.inl rfl) rfl hA rfl rfl rfl rfl (by first|rfl|assumption) (by first|rfl|assumption) hH (zD MEMT) (zD MEMT) ?_
        exact .inl ⟨o,d,m2,wd',ov,rfl,hov,hI.bn.trans hB,WSt.dropL (L:=cb b12 53 (zL (bl))::cb b11 103 qz::cb b7 103 qz::cb b6 103 ov::cb b5 103 xv::cb b4 103 fv::own 211 6 oE es.length cE ec::cb b14 103 ov::[]) ⟨oO,cO,oS,cS,sds,hH.perm PMT,hQ⟩,hI.out (by rw [←hble];exact hlt) hsr hno⟩
      obtain ⟨y,rfl⟩:=ho
      have hqy:=hov.fi
      obtain ⟨fm2,hI2⟩:=hI.one (hble▸hins) hn2 hB hqy hsr
      rw [show (Ow.fine y).k=0 from rfl] at hA
      repeat' (first|(refine QT ?_;clear hA a;intro a hA)|refine CT ?_|fail)
      have hST:HS w0 noM [cb b12 53 (zL bl),cb b14 103 ov] _:=HS.left (H1:=[_,_]) (hH.perm PMT)
      (refine zN (H:=[_,_]) [(0,1),(1,1),(2,1),(3,1),(4,1),(5,1),(6,1),(7,1),(8,1),(9,0),(10,0)] [11] mixed (by decide +kernel) (hST) ?_;replace hH:=hH.drew)
      clear hST
      repeat' (first|(refine XT ?_;apply XE;(first|(apply zB;rfl;rfl;omega;exact hspI)|(apply zF;rfl;exact yG hRb.2.1.1 id (hall 0 _ rfl))|(apply zA (vs:=ov);rfl;exact hovl;exact zD MEMT));clear hA a;intro a hA)|(refine QT ?_;clear hA a;intro a hA)|fail)
      (refine qS hA rfl rfl rfl (by decide) (yZ (szs:=[(0,1),(1,5)]) (cs:=(Value.int .i64 ins.x::ov).toArray) (xS (.cons ⟨_,rfl,by decide⟩ (.cons ⟨_,rfl,by decide⟩ .nil))) rfl (mS hovl _ rfl)) ?_;clear hA a;intro a hA)
      (apply yC hA rfl rfl rfl (by decide);apply zQ (xs:=Value.int .i64 ins.x::ov) (vs:=[.agg (Value.int .i64 ins.x::ov).toArray]);rfl;rfl;exact cats6 (aB hovl);rfl;rfl;rfl;exact hH;clear hA hH;rintro _ w ⟨oN,rfl,hH⟩;refine ⟨HS.left (H1:=[_,_]) (hH.perm PMT),?_⟩;intro a hA)
      obtain ⟨oT,hoT⟩:∃z,z=oN:=⟨_,rfl⟩
      subst hoT
      (apply yC hA rfl rfl rfl (by decide);apply yE;rfl;rfl;exact hH;exact MEMT;exact (hH.own_rd (List.Mem.head _));exact (aB hovl);rfl;decide;exact (ione hovo);(unfold maxLen;omega);omega;clear hA;rintro _ w ⟨oN,cN,rfl,hH2⟩;clear hH;have hH:=hH2 _ (by (repeat constructor));clear hH2;refine ⟨HS.left (H1:=[_,_]) (hH.perm PMT),?_⟩;intro a hA)
      rw [←xH es (ins.x,y)] at hA hH
      repeat' (first|(refine QT ?_;clear hA a;intro a hA)|refine CT ?_|fail)
      exact ⟨i+1,⟨m2,d,wd',es++[(ins.x,y)],_,oN,cN,fm2,⟨hlt,by omega,hI2⟩,WSt.dropL (L:=[own 211 6 oT 1 1 (Value.int .i64 ins.x::ov),cb b14 103 ov]) ⟨oO,cO,oS,cS,sds,hH.perm PMT,hQ⟩,(hA.sub SBT)⟩,by omega⟩
      --))
  clear hA hH hQ hI
  rintro a w ⟨m,d,wd',es,ec,oE,cE,fm,⟨hm0,hI⟩,⟨oO,cO,oS,cS,sds,hH,hQ⟩,hA⟩
  cases m with
  | zero=>
    repeat' (first|(refine QT ?_;clear hA a;intro a hA)|refine CT ?_|fail)
    refine xO (qs [0,1] (.one 2 (.one 3 (qs [4,5] .nil)))) (fun a w=>HS w0 noM (cb bW 98 (xE g wd'.inp oO wd'.out.length cO oS wd'.st.length cS)::own 5 1 oO wd'.out.length cO (flat zY wd'.out)::own 101 1 oS wd'.st.length cS (flat Fw.encS sds)::frz w0 d.K::cb bR 100 (xI g ((0:Nat)) bW)::cb b12 53 (zL (bl))::cb b11 103 qz::cb b7 103 qz::cb b6 103 qz::cb b5 103 xv::cb b4 103 fv::own 211 6 oE es.length cE ec::H) w∧Sl 260 [(9,.int .i64 2),(8,.bool false),(7,.pointer (some (bat b7 0))),(6,.pointer (some (bat b6 0)))] a) mixed (by decide +kernel) (show HS w0 noM [cb b11 103 qz] _ from HS.left (H1:=[cb b11 103 qz]) (hH.perm PMT)) ?_ ?_
    · replace hH:=hH.drew
      (repeat (apply yN hA rfl rfl rfl (by decide);(first|exact EXT|(apply zA (vs:=qz);rfl;rfl;exact zD MEMT));clear hA a;intro a hA))
      (apply yR hA rfl rfl rfl;apply zI (vs:=qz);rfl;rfl;exact hH;(repeat constructor);(repeat (first|rfl|assumption));clear hH;rintro _ w hH;refine ⟨HS.left (H1:=[cb b11 103 qz]) (hH.perm PMT),?_⟩)
      (apply yR hA rfl rfl rfl;apply zI (vs:=qz);rfl;rfl;exact hH;(repeat constructor);(repeat (first|rfl|assumption));clear hH;rintro _ w hH;refine ⟨HS.left (H1:=[cb b11 103 qz]) (hH.perm PMT),?_⟩)
      (repeat (apply yN hA rfl rfl rfl (by decide);exact EXT;clear hA a;intro a hA))
      apply xG
      exact ⟨hH.perm PMT,(hA.sub SBT)⟩
    clear hA hH
    rintro a w ⟨hH,hA⟩
    repeat' (first|(refine QT ?_;clear hA a;intro a hA)|refine CT ?_|fail)
    refine sY (vs:=qz) (vs2:=qz) (sz:=5) (.inl rfl) rfl hA rfl rfl rfl rfl (by first|rfl|assumption) (by first|rfl|assumption) hH (zD MEMT) (zD MEMT) ?_
    exact .inl ⟨.fuel,d,0,wd',qz,rfl,OwV.fl d g,hI.bn,WSt.dropL (L:=cb b12 53 (zL (bl))::cb b11 103 qz::cb b7 103 qz::cb b6 103 qz::cb b5 103 xv::cb b4 103 fv::own 211 6 oE es.length cE ec::[]) ⟨oO,cO,oS,cS,sds,hH.perm PMT,hQ⟩,hI.fuel⟩
  | succ m =>
    have hel:es.length≤10000000000:=by have:=hI.len;have:=hok.bd;omega
    have henv:EnvB (g.fs.l.getD f1.toNat gr0) bl b bl.is.l.length es:=by have:=hI.env;rw [←hble] at this;exact this
    have hav:∀a∈bl.e.a.l,atI g es a:=fun a ha=>henv.at hssl (hBP.ends a ha)
    have hEP:=hBP.end_
    have hRe:=hRb.2.2.2
    have hmn:=hI.bn.n
    have hmb:m≤100000:=by have:=hI.bn.bd;have:=hok.bd;omega
    repeat' (first|(refine QT ?_;clear hA a;intro a hA)|(apply zT hA rfl rfl;apply zG (cs':=xI g m bW);rfl;rfl;rfl;exact hH;(repeat constructor);clear hH;rintro _ w hH)|refine CT ?_|fail)
    have hS:RSt w0 d bR bW g m wd' (cb b12 53 (zL (bl))::cb b11 103 qz::cb b7 103 qz::cb b6 103 qz::cb b5 103 xv::cb b4 103 fv::own 211 6 oE es.length cE ec::H) w:=⟨oO,cO,oS,cS,sds,hH.perm PMT,hQ⟩
    have hcl:=hS.cells
    (refine zJ hA rfl rfl (by decide) (zE rfl rfl rfl (sF _ d g bR bW bl.e.a oE cE es ec hcl.1 hcl.2 (hH.own_rd (T:=211) (o:=oE) (by exact MEMT)) hI.eq hel (hRe.1.keep hH.kp) (hR.2.2.2.2.2.keep hH.kp) hM.anf.ss hav (by omega))) ?_;clear hA hS;rintro _ w ⟨oL,cL,cells,rfl,hqs,hj⟩ a hA;replace hH:=hH.join hj;clear hj hcl)
    have hspL:=hH.own_sp (T:=103) (o:=oL) (by exact MEMT)
    have hea:=hEP.a
    have hlk:=hEP.lo
    have hhk:=hEP.hi
    have hI1:GI g kd n f1 l1 x c wd (m+1) d wd' es ec b (xQ g f1 b).is.l.length fm:=by rw [←hble];exact hI
    have hlast:=fun sk=>hI1.last sk
    rw [←hble] at hlast
    have hbd:=hI.bn.dec
    obtain ⟨vl,hvl⟩:∃z,z=bl.e.a.l.map (atE g es):=⟨_,rfl⟩
    have hvll:bl.e.a.l.length=vl.length:=by rw [hvl,List.length_map]
    have hget:∀i,i<vl.length→rM g fm (bl.e.a.l.getD i rY)=zS vl i:=fun i hi=>by
      rw [hI.fe.get,hvl]
      unfold zS
      rw [List.getD_eq_getElem?_getD (l:=bl.e.a.l.map _),List.getElem?_map,List.getD_eq_getElem?_getD,List.getElem?_eq_getElem (by omega)];rfl
    rw [←hvl] at hqs
    rw [hvll] at hH hA hspL hea
    have hX:=hH
    replace hH:=hH.drop_
    repeat' (first|(refine QT ?_;clear hA a;intro a hA)|refine CT ?_|fail)
    clear hH
    have hH:=hX
    clear hX
    refine kE (fun a w=>∃way:Nat,(way<bl.e.to.l.length∧∀sk,vZ g kd fm bl.e wd' sk= .go ⟨wd',sk,wN g fm (bl.e.to.l.getD way tZ)⟩)∧RSt w0 d bR bW g m wd' (own 103 5 oL vl.length cL cells::cb b12 53 (zL (bl))::cb b11 103 qz::cb b7 103 qz::cb b6 103 qz::cb b5 103 xv::cb b4 103 fv::own 211 6 oE es.length cE ec::H) w∧Sl 260 [(17,.int .i64 way),(12,.pointer (some (bat b12 0))),(11,.pointer (some (bat b11 0))),(10,.slice oE es.length cE),(9,.int .i64 0),(8,.bool false),(7,.pointer (some (bat b7 0))),(6,.pointer (some (bat b6 0))),(4,.pointer (some (bat b4 0))),(0,.pointer (some (bat bR 0)))] a) ?_ ?_
    · skip
      --((
      repeat' (first|(refine QT ?_;clear hA a;intro a hA)|refine CT ?_|(refine DT ?_ ?_<;>intro hc<;>try (exfalso;omega))|fail)
      · have hk:bl.e.k=1:=by assumption
        have h1:vl.length=1:=by unfold mW at hea;rw [if_neg (by omega),if_neg (by omega)] at hea;omega
        obtain ⟨v0,hq0,hc0⟩:=hqs.nth (i:=0) (by omega)
        have hl0:=hq0.len
        have ho0:=hq0.one
        refine xO (qs [0,1,2,3] (.one 4 (.one 5 (qs [6,7] .nil)))) (fun a w=>HS w0 noM (cb bW 98 (xE g wd'.inp oO wd'.out.length cO oS wd'.st.length cS)::own 5 1 oO wd'.out.length cO (flat zY wd'.out)::own 101 1 oS wd'.st.length cS (flat Fw.encS sds)::frz w0 d.K::cb bR 100 (xI g (m) bW)::cb b12 53 (zL (bl))::cb b11 103 qz::cb b7 103 qz::cb b6 103 v0::cb b5 103 xv::cb b4 103 fv::own 211 6 oE es.length cE ec::own 103 5 oL vl.length cL cells ::H) w∧Sl 260 [(9,.int .i64 0),(8,.bool false),(7,.pointer (some (bat b7 0))),(6,.pointer (some (bat b6 0)))] a) mixed (by decide +kernel) (show HS w0 noM [own 103 5 oL vl.length cL cells,cb b11 103 qz] _ from HS.left (H1:=[own 103 5 oL vl.length cL cells,cb b11 103 qz]) (hH.perm PMT)) ?_ ?_
        · replace hH:=hH.drew
          (repeat (apply yN hA rfl rfl rfl (by decide);(first|exact EXT|(apply zA (vs:=qz);rfl;rfl;exact zD MEMT)|(apply zC;rfl;rfl;decide;omega;exact hspL)|(apply zA (vs:=v0);rfl;exact hl0;exact sK (T:=103) (o:=oL) MEMT (fun i v h=>hc0 i v h)));clear hA a;intro a hA))
          (apply yR hA rfl rfl rfl;apply zI (vs:=v0);rfl;rfl;exact hH;(repeat constructor);(repeat (first|rfl|assumption));clear hH;rintro _ w hH;refine ⟨HS.left (H1:=[own 103 5 oL vl.length cL cells,cb b11 103 qz]) (hH.perm PMT),?_⟩)
          (apply yR hA rfl rfl rfl;apply zI (vs:=qz);rfl;rfl;exact hH;(repeat constructor);(repeat (first|rfl|assumption));clear hH;rintro _ w hH;refine ⟨HS.left (H1:=[own 103 5 oL vl.length cL cells,cb b11 103 qz]) (hH.perm PMT),?_⟩)
          (repeat (apply yN hA rfl rfl rfl (by decide);exact EXT;clear hA a;intro a hA))
          apply xG
          exact ⟨hH.perm PMT,(hA.sub SBT)⟩
        clear hA hH
        rintro a w ⟨hH,hA⟩
        repeat' (first|(refine QT ?_;clear hA a;intro a hA)|refine CT ?_|fail)
        refine sY (vs:=v0) (vs2:=qz) (sz:=5) (.inl rfl) rfl hA rfl rfl rfl rfl (by first|rfl|assumption) (by first|rfl|assumption) hH (zD MEMT) (zD MEMT) ?_
        exact .inl ⟨.fine (zS vl 0),d,m,wd',v0,rfl,OwV.mkf hq0,hbd,WSt.dropL (L:=cb b12 53 (zL (bl))::cb b11 103 qz::cb b7 103 qz::cb b6 103 v0::cb b5 103 xv::cb b4 103 fv::own 211 6 oE es.length cE ec::own 103 5 oL vl.length cL cells::[]) ⟨oO,cO,oS,cS,sds,hH.perm PMT,hQ⟩,fun sk=>by rw [hlast];unfold vZ;rw [if_pos hk,hget 0 (by omega)];rfl⟩
      · have hk:bl.e.k=2:=by assumption
        have h1:vl.length=2:=by unfold mW at hea;rw [if_pos hk] at hea;omega
        obtain ⟨v0,hq0,hc0⟩:=hqs.nth (i:=0) (by omega)
        obtain ⟨v1,hq1,hc1⟩:=hqs.nth (i:=1) (by omega)
        have hl0:=hq0.len
        have ho0:=hq0.one
        have hl1:=hq1.len
        have ho1:=hq1.one
        refine xO (qs [0,1,2,3,4,5] (.one 6 (.one 7 (qs [8,9] .nil)))) (fun a w=>HS w0 noM (cb bW 98 (xE g wd'.inp oO wd'.out.length cO oS wd'.st.length cS)::own 5 1 oO wd'.out.length cO (flat zY wd'.out)::own 101 1 oS wd'.st.length cS (flat Fw.encS sds)::frz w0 d.K::cb bR 100 (xI g (m) bW)::cb b12 53 (zL (bl))::cb b11 103 qz::cb b7 103 v1::cb b6 103 v0::cb b5 103 xv::cb b4 103 fv::own 211 6 oE es.length cE ec::own 103 5 oL vl.length cL cells ::H) w∧Sl 260 [(9,.int .i64 0),(8,.bool true),(7,.pointer (some (bat b7 0))),(6,.pointer (some (bat b6 0)))] a) mixed (by decide +kernel) (show HS w0 noM [own 103 5 oL vl.length cL cells] _ from HS.left (H1:=[own 103 5 oL vl.length cL cells]) (hH.perm PMT)) ?_ ?_
        · replace hH:=hH.drew
          (repeat (apply yN hA rfl rfl rfl (by decide);(first|exact EXT|(apply zA (vs:=qz);rfl;rfl;exact zD MEMT)|(apply zC;rfl;rfl;decide;omega;exact hspL)|(apply zA (vs:=v0);rfl;exact hl0;exact sK (T:=103) (o:=oL) MEMT (fun i v h=>hc0 i v h))|(apply zA (vs:=v1);rfl;exact hl1;exact sK (T:=103) (o:=oL) MEMT (fun i v h=>hc1 i v h)));clear hA a;intro a hA))
          (apply yR hA rfl rfl rfl;apply zI (vs:=v0);rfl;rfl;exact hH;(repeat constructor);(repeat (first|rfl|assumption));clear hH;rintro _ w hH;refine ⟨HS.left (H1:=[own 103 5 oL vl.length cL cells]) (hH.perm PMT),?_⟩)
          (apply yR hA rfl rfl rfl;apply zI (vs:=v1);rfl;rfl;exact hH;(repeat constructor);(repeat (first|rfl|assumption));clear hH;rintro _ w hH;refine ⟨HS.left (H1:=[own 103 5 oL vl.length cL cells]) (hH.perm PMT),?_⟩)
          (repeat (apply yN hA rfl rfl rfl (by decide);exact EXT;clear hA a;intro a hA))
          apply xG
          exact ⟨hH.perm PMT,(hA.sub SBT)⟩
        clear hA hH
        rintro a w ⟨hH,hA⟩
        repeat' (first|(refine QT ?_;clear hA a;intro a hA)|refine CT ?_|fail)
        refine sY (vs:=v0) (vs2:=v1) (sz:=5) (.inl rfl) rfl hA rfl rfl rfl rfl (by first|rfl|assumption) (by first|rfl|assumption) hH (zD MEMT) (zD MEMT) ?_
        exact .inr ⟨zS vl 0,zS vl 1,d,m,wd',v0,v1,rfl,hq0,hq1,by omega,hbd,WSt.dropL (L:=cb b12 53 (zL (bl))::cb b11 103 qz::cb b7 103 v1::cb b6 103 v0::cb b5 103 xv::cb b4 103 fv::own 211 6 oE es.length cE ec::own 103 5 oL vl.length cL cells::[]) ⟨oO,cO,oS,cS,sds,hH.perm PMT,hQ⟩,fun sk=>by rw [hlast];unfold vZ;rw [if_neg (by omega),if_pos hk,hget 0 (by omega),hget 1 (by omega)]⟩
      · have hk:bl.e.k=3:=by assumption
        have h1:vl.length=1:=by unfold mW at hea;rw [if_neg (by omega),if_neg (by omega)] at hea;omega
        obtain ⟨v0,hq0,hc0⟩:=hqs.nth (i:=0) (by omega)
        have hl0:=hq0.len
        have ho0:=hq0.one
        have hvk:=qC hq0 hc0
        by_cases hnum:yW (zS vl 0)=1
        rotate_left
        · have hcr:CRun g kd n (.fn f1 l1) x wd m .stuck wd':=fun sk=>by rw [hlast];unfold vZ;rw [if_neg (by omega),if_neg (by omega),if_neg (by omega),hget 0 (by omega),pM hnum];rfl
          (refine zO [(0,1),(1,1),(2,1),(3,1),(4,1),(5,1),(6,1),(7,1),(8,1),(9,1),(10,1),(11,1),(12,1),(13,1),(14,1),(15,1),(16,1),(17,1),(18,1),(19,1),(20,1),(21,1),(22,1),(23,1),(24,1)] mixed (by decide +kernel) hH ?_;replace hH:=hH.drew)
          repeat' (first|(refine GT ?_ ?_<;>intro hg<;>clear hA a<;>intro a hA<;>(first|exact FA|replace hg:=dTr hg|replace hg:=dFa hg|skip))|(refine XT ?_;apply XE;(first|(apply zC;rfl;rfl;decide;omega;exact hspL)|(apply zF;rfl;exact xJ (T:=103) (o:=oL) MEMT (hvk)));clear hA a;intro a hA)|(refine QT ?_;clear hA a;intro a hA)|refine CT ?_|fail)
          refine xO (qs [0,1] (.one 2 (.one 3 (qs [4,5] .nil)))) (fun a w=>HS w0 noM (cb bW 98 (xE g wd'.inp oO wd'.out.length cO oS wd'.st.length cS)::own 5 1 oO wd'.out.length cO (flat zY wd'.out)::own 101 1 oS wd'.st.length cS (flat Fw.encS sds)::frz w0 d.K::cb bR 100 (xI g (m) bW)::cb b12 53 (zL (bl))::cb b11 103 qz::cb b7 103 qz::cb b6 103 qz::cb b5 103 xv::cb b4 103 fv::own 211 6 oE es.length cE ec::own 103 5 oL vl.length cL cells ::H) w∧Sl 260 [(9,.int .i64 3),(8,.bool false),(7,.pointer (some (bat b7 0))),(6,.pointer (some (bat b6 0)))] a) mixed (by decide +kernel) (show HS w0 noM [cb b11 103 qz] _ from HS.left (H1:=[cb b11 103 qz]) (hH.perm PMT)) ?_ ?_
          · replace hH:=hH.drew
            (repeat (apply yN hA rfl rfl rfl (by decide);(first|exact EXT|(apply zA (vs:=qz);rfl;rfl;exact zD MEMT));clear hA a;intro a hA))
            (apply yR hA rfl rfl rfl;apply zI (vs:=qz);rfl;rfl;exact hH;(repeat constructor);(repeat (first|rfl|assumption));clear hH;rintro _ w hH;refine ⟨HS.left (H1:=[cb b11 103 qz]) (hH.perm PMT),?_⟩)
            (apply yR hA rfl rfl rfl;apply zI (vs:=qz);rfl;rfl;exact hH;(repeat constructor);(repeat (first|rfl|assumption));clear hH;rintro _ w hH;refine ⟨HS.left (H1:=[cb b11 103 qz]) (hH.perm PMT),?_⟩)
            (repeat (apply yN hA rfl rfl rfl (by decide);exact EXT;clear hA a;intro a hA))
            apply xG
            exact ⟨hH.perm PMT,(hA.sub SBT)⟩
          clear hA hH
          rintro a w ⟨hH,hA⟩
          repeat' (first|(refine QT ?_;clear hA a;intro a hA)|refine CT ?_|fail)
          refine sY (vs:=qz) (vs2:=qz) (sz:=5) (.inl rfl) rfl hA rfl rfl rfl rfl (by first|rfl|assumption) (by first|rfl|assumption) hH (zD MEMT) (zD MEMT) ?_
          exact .inl ⟨.stuck,d,m,wd',qz,rfl,OwV.stk2 d g,hbd,WSt.dropL (L:=cb b12 53 (zL (bl))::cb b11 103 qz::cb b7 103 qz::cb b6 103 qz::cb b5 103 xv::cb b4 103 fv::own 211 6 oE es.length cE ec::own 103 5 oL vl.length cL cells::[]) ⟨oO,cO,oS,cS,sds,hH.perm PMT,hQ⟩,hcr⟩
        obtain ⟨z,hz⟩:=qI hnum
        rw [hz] at hvk hq0
        replace hvk:cells[0*5+0]?=some (.int .i64 1):=hvk
        have hq00:=hq0.num
        have hc01:=hc0 1 (.int .i64 z) (by rw [hq00.1];rfl)
        have hlr:∀sk,sN g kd n (vN (.fn f1 l1) x wd sk)=sN g kd m (vH g z wd' sk):=fun sk=>by rw [hlast];unfold vZ;rw [if_neg (by omega),if_neg (by omega),if_neg (by omega),hget 0 (by omega),hz];dsimp only [asNum];rw [if_pos hk]
        (refine zO [(0,1),(1,1),(2,1),(3,1),(4,1),(5,1),(6,1),(7,1),(8,1),(9,1),(10,1),(11,1),(12,1),(13,1),(14,1),(15,1),(16,1),(17,1),(18,1),(19,1),(20,1),(21,1),(22,1),(23,1),(24,1)] mixed (by decide +kernel) hH ?_;replace hH:=hH.drew)
        repeat' (first|(refine GT ?_ ?_<;>intro hg<;>clear hA a<;>intro a hA<;>(first|exact FA|replace hg:=dTr hg|replace hg:=dFa hg|skip))|(refine XT ?_;apply XE;(first|(apply zC;rfl;rfl;decide;omega;exact hspL)|(apply zF;rfl;exact xJ (T:=103) (o:=oL) MEMT (hvk))|(apply zF;rfl;exact xJ (T:=103) (o:=oL) MEMT (hc01)));clear hA a;intro a hA)|(refine QT ?_;clear hA a;intro a hA)|refine CT ?_|(refine DT ?_ ?_<;>intro hc<;>try (exfalso;omega))|fail)
        · have hcr:CRun g kd n (.fn f1 l1) x wd m .stuck wd':=fun sk=>by rw [hlr];unfold vH;rw [if_pos (by omega)];rfl
          refine xO (qs [0,1] (.one 2 (.one 3 (qs [4,5] .nil)))) (fun a w=>HS w0 noM (cb bW 98 (xE g wd'.inp oO wd'.out.length cO oS wd'.st.length cS)::own 5 1 oO wd'.out.length cO (flat zY wd'.out)::own 101 1 oS wd'.st.length cS (flat Fw.encS sds)::frz w0 d.K::cb bR 100 (xI g (m) bW)::cb b12 53 (zL (bl))::cb b11 103 qz::cb b7 103 qz::cb b6 103 qz::cb b5 103 xv::cb b4 103 fv::own 211 6 oE es.length cE ec::own 103 5 oL vl.length cL cells ::H) w∧Sl 260 [(9,.int .i64 3),(8,.bool false),(7,.pointer (some (bat b7 0))),(6,.pointer (some (bat b6 0)))] a) mixed (by decide +kernel) (show HS w0 noM [cb b11 103 qz] _ from HS.left (H1:=[cb b11 103 qz]) (hH.perm PMT)) ?_ ?_
          · replace hH:=hH.drew
            (repeat (apply yN hA rfl rfl rfl (by decide);(first|exact EXT|(apply zA (vs:=qz);rfl;rfl;exact zD MEMT));clear hA a;intro a hA))
            (apply yR hA rfl rfl rfl;apply zI (vs:=qz);rfl;rfl;exact hH;(repeat constructor);(repeat (first|rfl|assumption));clear hH;rintro _ w hH;refine ⟨HS.left (H1:=[cb b11 103 qz]) (hH.perm PMT),?_⟩)
            (apply yR hA rfl rfl rfl;apply zI (vs:=qz);rfl;rfl;exact hH;(repeat constructor);(repeat (first|rfl|assumption));clear hH;rintro _ w hH;refine ⟨HS.left (H1:=[cb b11 103 qz]) (hH.perm PMT),?_⟩)
            (repeat (apply yN hA rfl rfl rfl (by decide);exact EXT;clear hA a;intro a hA))
            apply xG
            exact ⟨hH.perm PMT,(hA.sub SBT)⟩
          clear hA hH
          rintro a w ⟨hH,hA⟩
          repeat' (first|(refine QT ?_;clear hA a;intro a hA)|refine CT ?_|fail)
          refine sY (vs:=qz) (vs2:=qz) (sz:=5) (.inl rfl) rfl hA rfl rfl rfl rfl (by first|rfl|assumption) (by first|rfl|assumption) hH (zD MEMT) (zD MEMT) ?_
          exact .inl ⟨.stuck,d,m,wd',qz,rfl,OwV.stk2 d g,hbd,WSt.dropL (L:=cb b12 53 (zL (bl))::cb b11 103 qz::cb b7 103 qz::cb b6 103 qz::cb b5 103 xv::cb b4 103 fv::own 211 6 oE es.length cE ec::own 103 5 oL vl.length cL cells::[]) ⟨oO,cO,oS,cS,sds,hH.perm PMT,hQ⟩,hcr⟩
        · have hcr:CRun g kd n (.fn f1 l1) x wd m .stuck wd':=fun sk=>by rw [hlr];unfold vH;rw [if_pos (by omega)];rfl
          refine xO (qs [0,1] (.one 2 (.one 3 (qs [4,5] .nil)))) (fun a w=>HS w0 noM (cb bW 98 (xE g wd'.inp oO wd'.out.length cO oS wd'.st.length cS)::own 5 1 oO wd'.out.length cO (flat zY wd'.out)::own 101 1 oS wd'.st.length cS (flat Fw.encS sds)::frz w0 d.K::cb bR 100 (xI g (m) bW)::cb b12 53 (zL (bl))::cb b11 103 qz::cb b7 103 qz::cb b6 103 qz::cb b5 103 xv::cb b4 103 fv::own 211 6 oE es.length cE ec::own 103 5 oL vl.length cL cells ::H) w∧Sl 260 [(9,.int .i64 3),(8,.bool false),(7,.pointer (some (bat b7 0))),(6,.pointer (some (bat b6 0)))] a) mixed (by decide +kernel) (show HS w0 noM [cb b11 103 qz] _ from HS.left (H1:=[cb b11 103 qz]) (hH.perm PMT)) ?_ ?_
          · replace hH:=hH.drew
            (repeat (apply yN hA rfl rfl rfl (by decide);(first|exact EXT|(apply zA (vs:=qz);rfl;rfl;exact zD MEMT));clear hA a;intro a hA))
            (apply yR hA rfl rfl rfl;apply zI (vs:=qz);rfl;rfl;exact hH;(repeat constructor);(repeat (first|rfl|assumption));clear hH;rintro _ w hH;refine ⟨HS.left (H1:=[cb b11 103 qz]) (hH.perm PMT),?_⟩)
            (apply yR hA rfl rfl rfl;apply zI (vs:=qz);rfl;rfl;exact hH;(repeat constructor);(repeat (first|rfl|assumption));clear hH;rintro _ w hH;refine ⟨HS.left (H1:=[cb b11 103 qz]) (hH.perm PMT),?_⟩)
            (repeat (apply yN hA rfl rfl rfl (by decide);exact EXT;clear hA a;intro a hA))
            apply xG
            exact ⟨hH.perm PMT,(hA.sub SBT)⟩
          clear hA hH
          rintro a w ⟨hH,hA⟩
          repeat' (first|(refine QT ?_;clear hA a;intro a hA)|refine CT ?_|fail)
          refine sY (vs:=qz) (vs2:=qz) (sz:=5) (.inl rfl) rfl hA rfl rfl rfl rfl (by first|rfl|assumption) (by first|rfl|assumption) hH (zD MEMT) (zD MEMT) ?_
          exact .inl ⟨.stuck,d,m,wd',qz,rfl,OwV.stk2 d g,hbd,WSt.dropL (L:=cb b12 53 (zL (bl))::cb b11 103 qz::cb b7 103 qz::cb b6 103 qz::cb b5 103 xv::cb b4 103 fv::own 211 6 oE es.length cE ec::own 103 5 oL vl.length cL cells::[]) ⟨oO,cO,oS,cS,sds,hH.perm PMT,hQ⟩,hcr⟩
        · refine xO (qs [0,1,2,3] (.one 4 (.one 5 (qs [6,7] .nil)))) (fun a w=>HS w0 noM (cb bW 98 (xE g wd'.inp oO wd'.out.length cO oS wd'.st.length cS)::own 5 1 oO wd'.out.length cO (flat zY wd'.out)::own 101 1 oS wd'.st.length cS (flat Fw.encS sds)::frz w0 d.K::cb bR 100 (xI g (m) bW)::cb b12 53 (zL (bl))::cb b11 103 qz::cb b7 103 qz::cb b6 103 v0::cb b5 103 xv::cb b4 103 fv::own 211 6 oE es.length cE ec::own 103 5 oL vl.length cL cells ::H) w∧Sl 260 [(9,.int .i64 1),(8,.bool false),(7,.pointer (some (bat b7 0))),(6,.pointer (some (bat b6 0)))] a) mixed (by decide +kernel) (show HS w0 noM [own 103 5 oL vl.length cL cells,cb b11 103 qz] _ from HS.left (H1:=[own 103 5 oL vl.length cL cells,cb b11 103 qz]) (hH.perm PMT)) ?_ ?_
          · replace hH:=hH.drew
            (repeat (apply yN hA rfl rfl rfl (by decide);(first|exact EXT|(apply zA (vs:=qz);rfl;rfl;exact zD MEMT)|(apply zC;rfl;rfl;decide;omega;exact hspL)|(apply zA (vs:=v0);rfl;exact hl0;exact sK (T:=103) (o:=oL) MEMT (fun i v h=>hc0 i v h)));clear hA a;intro a hA))
            (apply yR hA rfl rfl rfl;apply zI (vs:=v0);rfl;rfl;exact hH;(repeat constructor);(repeat (first|rfl|assumption));clear hH;rintro _ w hH;refine ⟨HS.left (H1:=[own 103 5 oL vl.length cL cells,cb b11 103 qz]) (hH.perm PMT),?_⟩)
            (apply yR hA rfl rfl rfl;apply zI (vs:=qz);rfl;rfl;exact hH;(repeat constructor);(repeat (first|rfl|assumption));clear hH;rintro _ w hH;refine ⟨HS.left (H1:=[own 103 5 oL vl.length cL cells,cb b11 103 qz]) (hH.perm PMT),?_⟩)
            (repeat (apply yN hA rfl rfl rfl (by decide);exact EXT;clear hA a;intro a hA))
            apply xG
            exact ⟨hH.perm PMT,(hA.sub SBT)⟩
          clear hA hH
          rintro a w ⟨hH,hA⟩
          repeat' (first|(refine QT ?_;clear hA a;intro a hA)|refine CT ?_|fail)
          refine sY (vs:=v0) (vs2:=qz) (sz:=5) (.inl rfl) rfl hA rfl rfl rfl rfl (by first|rfl|assumption) (by first|rfl|assumption) hH (zD MEMT) (zD MEMT) ?_
          exact .inl ⟨.raised z,d,m,wd',v0,rfl,OwV.mkr hq00.1 (by omega) (by omega),hbd,WSt.dropL (L:=cb b12 53 (zL (bl))::cb b11 103 qz::cb b7 103 qz::cb b6 103 v0::cb b5 103 xv::cb b4 103 fv::own 211 6 oE es.length cE ec::own 103 5 oL vl.length cL cells::[]) ⟨oO,cO,oS,cS,sds,hH.perm PMT,hQ⟩,hlr⟩
-- the loop that looks for a switch's way:$1 what it is without
      · have hk:bl.e.k=5:=by assumption
        have hto:=hEP.to
        have hns:=hEP.ns
        unfold jQ at hto
        rw [if_neg (by omega),if_pos hk] at hto
        have hns0:bl.e.ns.l.length=0:=by omega
        have h1:vl.length=1:=by unfold mW at hea;rw [if_neg (by omega),if_neg (by omega)] at hea;omega
        obtain ⟨v0,hq0,hc0⟩:=hqs.nth (i:=0) (by omega)
        have hvk:=qC hq0 hc0
        by_cases hnum:yW (zS vl 0)=1
        rotate_left
        · have hcr:CRun g kd n (.fn f1 l1) x wd m .stuck wd':=fun sk=>by rw [hlast,la_x ⟨by omega,by omega,by omega⟩,hget 0 (by omega),pM hnum];rfl
          repeat' (first|(refine XT ?_;apply XE;(first|(apply zC;rfl;rfl;decide;omega;exact hspL)|(apply zF;rfl;exact xJ (T:=103) (o:=oL) MEMT (hvk)));clear hA a;intro a hA)|(refine QT ?_;clear hA a;intro a hA)|refine CT ?_|(refine DT ?_ ?_<;>intro hc<;>try (exfalso;omega))|fail)
          refine xO (qs [0,1] (.one 2 (.one 3 (qs [4,5] .nil)))) (fun a w=>HS w0 noM (cb bW 98 (xE g wd'.inp oO wd'.out.length cO oS wd'.st.length cS)::own 5 1 oO wd'.out.length cO (flat zY wd'.out)::own 101 1 oS wd'.st.length cS (flat Fw.encS sds)::frz w0 d.K::cb bR 100 (xI g (m) bW)::cb b12 53 (zL (bl))::cb b11 103 qz::cb b7 103 qz::cb b6 103 qz::cb b5 103 xv::cb b4 103 fv::own 211 6 oE es.length cE ec::own 103 5 oL vl.length cL cells ::H) w∧Sl 260 [(9,.int .i64 3),(8,.bool false),(7,.pointer (some (bat b7 0))),(6,.pointer (some (bat b6 0)))] a) mixed (by decide +kernel) (show HS w0 noM [cb b11 103 qz] _ from HS.left (H1:=[cb b11 103 qz]) (hH.perm PMT)) ?_ ?_
          · replace hH:=hH.drew
            (repeat (apply yN hA rfl rfl rfl (by decide);(first|exact EXT|(apply zA (vs:=qz);rfl;rfl;exact zD MEMT));clear hA a;intro a hA))
            (apply yR hA rfl rfl rfl;apply zI (vs:=qz);rfl;rfl;exact hH;(repeat constructor);(repeat (first|rfl|assumption));clear hH;rintro _ w hH;refine ⟨HS.left (H1:=[cb b11 103 qz]) (hH.perm PMT),?_⟩)
            (apply yR hA rfl rfl rfl;apply zI (vs:=qz);rfl;rfl;exact hH;(repeat constructor);(repeat (first|rfl|assumption));clear hH;rintro _ w hH;refine ⟨HS.left (H1:=[cb b11 103 qz]) (hH.perm PMT),?_⟩)
            (repeat (apply yN hA rfl rfl rfl (by decide);exact EXT;clear hA a;intro a hA))
            apply xG
            exact ⟨hH.perm PMT,(hA.sub SBT)⟩
          clear hA hH
          rintro a w ⟨hH,hA⟩
          repeat' (first|(refine QT ?_;clear hA a;intro a hA)|refine CT ?_|fail)
          refine sY (vs:=qz) (vs2:=qz) (sz:=5) (.inl rfl) rfl hA rfl rfl rfl rfl (by first|rfl|assumption) (by first|rfl|assumption) hH (zD MEMT) (zD MEMT) ?_
          exact .inl ⟨.stuck,d,m,wd',qz,rfl,OwV.stk2 d g,hbd,WSt.dropL (L:=cb b12 53 (zL (bl))::cb b11 103 qz::cb b7 103 qz::cb b6 103 qz::cb b5 103 xv::cb b4 103 fv::own 211 6 oE es.length cE ec::own 103 5 oL vl.length cL cells::[]) ⟨oO,cO,oS,cS,sds,hH.perm PMT,hQ⟩,hcr⟩
        obtain ⟨z,hz⟩:=qI hnum
        rw [hz] at hvk hq0
        replace hvk:cells[0*5+0]?=some (.int .i64 1):=hvk
        have hq00:=hq0.num
        have hc01:=hc0 1 (.int .i64 z) (by rw [hq00.1];rfl)
        have hgo:∀sk,vZ g kd fm bl.e wd' sk= .go ⟨wd',sk,wN g fm (bl.e.to.l.getD (if z=0 then 1 else 0) tZ)⟩:=fun sk=>by rw [la_x ⟨by omega,by omega,by omega⟩,hget 0 (by omega),hz];dsimp only [asNum];rw [if_neg (by omega),if_pos hk]
        repeat' (first|(refine GT ?_ ?_<;>intro hg<;>clear hA a<;>intro a hA<;>(first|exact FA|replace hg:=dTr hg|replace hg:=dFa hg|skip))|(refine XT ?_;apply XE;(first|(apply zC;rfl;rfl;decide;omega;exact hspL)|(apply zF;rfl;exact xJ (T:=103) (o:=oL) MEMT (hvk))|(apply zF;rfl;exact xJ (T:=103) (o:=oL) MEMT (hc01)));clear hA a;intro a hA)|(refine QT ?_;clear hA a;intro a hA)|refine CT ?_|(refine DT ?_ ?_<;>intro hc<;>try (exfalso;omega))|fail)
        · have hz0:¬z=0:=by assumption
          rw [if_neg hz0] at hgo
          refine zU (S:=Nat) (fun i a w=>∃k:Int,(i≤bl.e.ns.l.length∧((k=(0:Int)∧∀j,j<i→bl.e.ns.l.getD j 0≠z)∨∃j:Nat,j<i∧k=j∧bl.e.ns.l.getD j 0=z))∧HS w0 noM (cb bW 98 (xE g wd'.inp oO wd'.out.length cO oS wd'.st.length cS)::own 5 1 oO wd'.out.length cO (flat zY wd'.out)::own 101 1 oS wd'.st.length cS (flat Fw.encS sds)::frz w0 d.K::cb bR 100 (xI g (m) bW)::own 103 5 oL vl.length cL cells::cb b12 53 (zL (bl))::cb b11 103 qz::cb b7 103 qz::cb b6 103 qz::cb b5 103 xv::cb b4 103 fv::own 211 6 oE es.length cE ec::H) w∧Sl 260 [(18,.int .i64 i),(17,.int .i64 k),(16,.slice oL vl.length cL),(12,.pointer (some (bat b12 0))),(11,.pointer (some (bat b11 0))),(10,.slice oE es.length cE),(9,.int .i64 0),(8,.bool false),(7,.pointer (some (bat b7 0))),(6,.pointer (some (bat b6 0))),(4,.pointer (some (bat b4 0))),(0,.pointer (some (bat bR 0)))] a) (fun i=>bl.e.ns.l.length - i) (fun a w=>∃k:Int,((k=(0:Int)∧∀j,j<bl.e.ns.l.length→bl.e.ns.l.getD j 0≠z)∨∃j:Nat,j<bl.e.ns.l.length∧k=j∧bl.e.ns.l.getD j 0=z)∧HS w0 noM (cb bW 98 (xE g wd'.inp oO wd'.out.length cO oS wd'.st.length cS)::own 5 1 oO wd'.out.length cO (flat zY wd'.out)::own 101 1 oS wd'.st.length cS (flat Fw.encS sds)::frz w0 d.K::cb bR 100 (xI g (m) bW)::own 103 5 oL vl.length cL cells::cb b12 53 (zL (bl))::cb b11 103 qz::cb b7 103 qz::cb b6 103 qz::cb b5 103 xv::cb b4 103 fv::own 211 6 oE es.length cE ec::H) w∧Sl 260 [(17,.int .i64 k),(16,.slice oL vl.length cL),(12,.pointer (some (bat b12 0))),(11,.pointer (some (bat b11 0))),(10,.slice oE es.length cE),(9,.int .i64 0),(8,.bool false),(7,.pointer (some (bat b7 0))),(6,.pointer (some (bat b6 0))),(4,.pointer (some (bat b4 0))),(0,.pointer (some (bat bR 0)))] a) 0 ⟨_,⟨Nat.zero_le _,.inl ⟨rfl,fun j h=>absurd h (Nat.not_lt_zero _)⟩⟩,hH.perm PMT,(hA.sub SBT)⟩ ?_ ?_
          · skip
            clear hA hH
            rintro i a w ⟨k,⟨hi,hkk⟩,hH,hA⟩
            by_cases hlt:i<bl.e.ns.l.length
            rotate_left
            · obtain rfl:i=bl.e.ns.l.length:=by omega
              repeat' (first|(refine QT ?_;clear hA a;intro a hA)|refine CT ?_|(refine DT ?_ ?_<;>intro hc<;>try (exfalso;omega))|fail)
              exact ⟨k,hkk,hH,(hA.sub SBT)⟩
            omega
          clear hA hH
          rintro a w ⟨k,hkk,hH,hA⟩
          repeat' (first|(refine QT ?_;clear hA a;intro a hA)|refine CT ?_|fail)
          rcases hkk with ⟨rfl,_⟩| ⟨j,hj,_⟩
          · exact ⟨0,⟨by omega,hgo⟩,⟨oO,cO,oS,cS,sds,hH.perm PMT,hQ⟩,(hA.sub SBT)⟩
          · omega
        · have hz0:z=0:=by omega
          rw [if_pos hz0] at hgo
          rw [show ((bl.e.to.l.length:Int) - 1)=1 by omega] at hA
          refine zU (S:=Nat) (fun i a w=>∃k:Int,(i≤bl.e.ns.l.length∧((k=(1:Int)∧∀j,j<i→bl.e.ns.l.getD j 0≠z)∨∃j:Nat,j<i∧k=j∧bl.e.ns.l.getD j 0=z))∧HS w0 noM (cb bW 98 (xE g wd'.inp oO wd'.out.length cO oS wd'.st.length cS)::own 5 1 oO wd'.out.length cO (flat zY wd'.out)::own 101 1 oS wd'.st.length cS (flat Fw.encS sds)::frz w0 d.K::cb bR 100 (xI g (m) bW)::own 103 5 oL vl.length cL cells::cb b12 53 (zL (bl))::cb b11 103 qz::cb b7 103 qz::cb b6 103 qz::cb b5 103 xv::cb b4 103 fv::own 211 6 oE es.length cE ec::H) w∧Sl 260 [(18,.int .i64 i),(17,.int .i64 k),(16,.slice oL vl.length cL),(12,.pointer (some (bat b12 0))),(11,.pointer (some (bat b11 0))),(10,.slice oE es.length cE),(9,.int .i64 0),(8,.bool false),(7,.pointer (some (bat b7 0))),(6,.pointer (some (bat b6 0))),(4,.pointer (some (bat b4 0))),(0,.pointer (some (bat bR 0)))] a) (fun i=>bl.e.ns.l.length - i) (fun a w=>∃k:Int,((k=(1:Int)∧∀j,j<bl.e.ns.l.length→bl.e.ns.l.getD j 0≠z)∨∃j:Nat,j<bl.e.ns.l.length∧k=j∧bl.e.ns.l.getD j 0=z)∧HS w0 noM (cb bW 98 (xE g wd'.inp oO wd'.out.length cO oS wd'.st.length cS)::own 5 1 oO wd'.out.length cO (flat zY wd'.out)::own 101 1 oS wd'.st.length cS (flat Fw.encS sds)::frz w0 d.K::cb bR 100 (xI g (m) bW)::own 103 5 oL vl.length cL cells::cb b12 53 (zL (bl))::cb b11 103 qz::cb b7 103 qz::cb b6 103 qz::cb b5 103 xv::cb b4 103 fv::own 211 6 oE es.length cE ec::H) w∧Sl 260 [(17,.int .i64 k),(16,.slice oL vl.length cL),(12,.pointer (some (bat b12 0))),(11,.pointer (some (bat b11 0))),(10,.slice oE es.length cE),(9,.int .i64 0),(8,.bool false),(7,.pointer (some (bat b7 0))),(6,.pointer (some (bat b6 0))),(4,.pointer (some (bat b4 0))),(0,.pointer (some (bat bR 0)))] a) 0 ⟨_,⟨Nat.zero_le _,.inl ⟨rfl,fun j h=>absurd h (Nat.not_lt_zero _)⟩⟩,hH.perm PMT,(hA.sub SBT)⟩ ?_ ?_
          · skip
            clear hA hH
            rintro i a w ⟨k,⟨hi,hkk⟩,hH,hA⟩
            by_cases hlt:i<bl.e.ns.l.length
            rotate_left
            · obtain rfl:i=bl.e.ns.l.length:=by omega
              repeat' (first|(refine QT ?_;clear hA a;intro a hA)|refine CT ?_|(refine DT ?_ ?_<;>intro hc<;>try (exfalso;omega))|fail)
              exact ⟨k,hkk,hH,(hA.sub SBT)⟩
            omega
          clear hA hH
          rintro a w ⟨k,hkk,hH,hA⟩
          repeat' (first|(refine QT ?_;clear hA a;intro a hA)|refine CT ?_|fail)
          rcases hkk with ⟨rfl,_⟩| ⟨j,hj,_⟩
          · exact ⟨1,⟨by omega,hgo⟩,⟨oO,cO,oS,cS,sds,hH.perm PMT,hQ⟩,(hA.sub SBT)⟩
          · omega
      · have hk:bl.e.k=6:=by assumption
        have hto:=hEP.to
        have hns:=hEP.ns
        have hnl:=hRe.2.1.le
        have hn20:bl.e.ns.l.length≤2000000000:=end_ns hEP hnl (by have:=hsz.2.2.2.2.1;omega)
        unfold jQ at hto
        rw [if_neg (by omega),if_neg (by omega),if_pos hk,wA (by unfold uA;omega)] at hto
        have hspN:Sp bl.e.ns.o bl.e.ns.l.length:=hRe.2.1.1.sp (sz:=1) (zH Fw.encI_len _) (by omega)
        have h1:vl.length=1:=by unfold mW at hea;rw [if_neg (by omega),if_neg (by omega)] at hea;omega
        obtain ⟨v0,hq0,hc0⟩:=hqs.nth (i:=0) (by omega)
        have hvk:=qC hq0 hc0
        by_cases hnum:yW (zS vl 0)=1
        rotate_left
        · have hcr:CRun g kd n (.fn f1 l1) x wd m .stuck wd':=fun sk=>by rw [hlast,la_x ⟨by omega,by omega,by omega⟩,hget 0 (by omega),pM hnum];rfl
          repeat' (first|(refine XT ?_;apply XE;(first|(apply zC;rfl;rfl;decide;omega;exact hspL)|(apply zF;rfl;exact xJ (T:=103) (o:=oL) MEMT (hvk)));clear hA a;intro a hA)|(refine QT ?_;clear hA a;intro a hA)|refine CT ?_|(refine DT ?_ ?_<;>intro hc<;>try (exfalso;omega))|fail)
          refine xO (qs [0,1] (.one 2 (.one 3 (qs [4,5] .nil)))) (fun a w=>HS w0 noM (cb bW 98 (xE g wd'.inp oO wd'.out.length cO oS wd'.st.length cS)::own 5 1 oO wd'.out.length cO (flat zY wd'.out)::own 101 1 oS wd'.st.length cS (flat Fw.encS sds)::frz w0 d.K::cb bR 100 (xI g (m) bW)::cb b12 53 (zL (bl))::cb b11 103 qz::cb b7 103 qz::cb b6 103 qz::cb b5 103 xv::cb b4 103 fv::own 211 6 oE es.length cE ec::own 103 5 oL vl.length cL cells ::H) w∧Sl 260 [(9,.int .i64 3),(8,.bool false),(7,.pointer (some (bat b7 0))),(6,.pointer (some (bat b6 0)))] a) mixed (by decide +kernel) (show HS w0 noM [cb b11 103 qz] _ from HS.left (H1:=[cb b11 103 qz]) (hH.perm PMT)) ?_ ?_
          · replace hH:=hH.drew
            (repeat (apply yN hA rfl rfl rfl (by decide);(first|exact EXT|(apply zA (vs:=qz);rfl;rfl;exact zD MEMT));clear hA a;intro a hA))
            (apply yR hA rfl rfl rfl;apply zI (vs:=qz);rfl;rfl;exact hH;(repeat constructor);(repeat (first|rfl|assumption));clear hH;rintro _ w hH;refine ⟨HS.left (H1:=[cb b11 103 qz]) (hH.perm PMT),?_⟩)
            (apply yR hA rfl rfl rfl;apply zI (vs:=qz);rfl;rfl;exact hH;(repeat constructor);(repeat (first|rfl|assumption));clear hH;rintro _ w hH;refine ⟨HS.left (H1:=[cb b11 103 qz]) (hH.perm PMT),?_⟩)
            (repeat (apply yN hA rfl rfl rfl (by decide);exact EXT;clear hA a;intro a hA))
            apply xG
            exact ⟨hH.perm PMT,(hA.sub SBT)⟩
          clear hA hH
          rintro a w ⟨hH,hA⟩
          repeat' (first|(refine QT ?_;clear hA a;intro a hA)|refine CT ?_|fail)
          refine sY (vs:=qz) (vs2:=qz) (sz:=5) (.inl rfl) rfl hA rfl rfl rfl rfl (by first|rfl|assumption) (by first|rfl|assumption) hH (zD MEMT) (zD MEMT) ?_
          exact .inl ⟨.stuck,d,m,wd',qz,rfl,OwV.stk2 d g,hbd,WSt.dropL (L:=cb b12 53 (zL (bl))::cb b11 103 qz::cb b7 103 qz::cb b6 103 qz::cb b5 103 xv::cb b4 103 fv::own 211 6 oE es.length cE ec::own 103 5 oL vl.length cL cells::[]) ⟨oO,cO,oS,cS,sds,hH.perm PMT,hQ⟩,hcr⟩
        obtain ⟨z,hz⟩:=qI hnum
        rw [hz] at hvk hq0
        replace hvk:cells[0*5+0]?=some (.int .i64 1):=hvk
        have hq00:=hq0.num
        have hc01:=hc0 1 (.int .i64 z) (by rw [hq00.1];rfl)
        have hgo:∀sk,vZ g kd fm bl.e wd' sk= .go ⟨wd',sk,wN g fm (bl.e.to.l.getD (if bsB bl.e.ns.l z then bsI bl.e.ns.l z else bl.e.ns.l.length) tZ)⟩:=fun sk=>by rw [la_x ⟨by omega,by omega,by omega⟩,hget 0 (by omega),hz];dsimp only [asNum];rw [if_neg (by omega),if_neg (by omega)]
        repeat' (first|(refine GT ?_ ?_<;>intro hg<;>clear hA a<;>intro a hA<;>(first|exact FA|replace hg:=dTr hg|replace hg:=dFa hg|skip))|(refine XT ?_;apply XE;(first|(apply zC;rfl;rfl;decide;omega;exact hspL)|(apply zF;rfl;exact xJ (T:=103) (o:=oL) MEMT (hvk)));clear hA a;intro a hA)|(refine QT ?_;clear hA a;intro a hA)|refine CT ?_|fail)
        rw [show ((bl.e.to.l.length:Int) - 1)=(bl.e.ns.l.length:Int) by omega] at hA
        refine zU (S:=Nat) (fun i a w=>∃k:Int,(i≤bl.e.ns.l.length∧((k=(bl.e.ns.l.length:Int)∧∀j,j<i→bl.e.ns.l.getD j 0≠z)∨∃j:Nat,j<i∧k=j∧bl.e.ns.l.getD j 0=z))∧HS w0 noM (cb bW 98 (xE g wd'.inp oO wd'.out.length cO oS wd'.st.length cS)::own 5 1 oO wd'.out.length cO (flat zY wd'.out)::own 101 1 oS wd'.st.length cS (flat Fw.encS sds)::frz w0 d.K::cb bR 100 (xI g (m) bW)::own 103 5 oL vl.length cL cells::cb b12 53 (zL (bl))::cb b11 103 qz::cb b7 103 qz::cb b6 103 qz::cb b5 103 xv::cb b4 103 fv::own 211 6 oE es.length cE ec::H) w∧Sl 260 [(18,.int .i64 i),(17,.int .i64 k),(16,.slice oL vl.length cL),(12,.pointer (some (bat b12 0))),(11,.pointer (some (bat b11 0))),(10,.slice oE es.length cE),(9,.int .i64 0),(8,.bool false),(7,.pointer (some (bat b7 0))),(6,.pointer (some (bat b6 0))),(4,.pointer (some (bat b4 0))),(0,.pointer (some (bat bR 0)))] a) (fun i=>bl.e.ns.l.length - i) (fun a w=>∃k:Int,((k=(bl.e.ns.l.length:Int)∧∀j,j<bl.e.ns.l.length→bl.e.ns.l.getD j 0≠z)∨∃j:Nat,j<bl.e.ns.l.length∧k=j∧bl.e.ns.l.getD j 0=z)∧HS w0 noM (cb bW 98 (xE g wd'.inp oO wd'.out.length cO oS wd'.st.length cS)::own 5 1 oO wd'.out.length cO (flat zY wd'.out)::own 101 1 oS wd'.st.length cS (flat Fw.encS sds)::frz w0 d.K::cb bR 100 (xI g (m) bW)::own 103 5 oL vl.length cL cells::cb b12 53 (zL (bl))::cb b11 103 qz::cb b7 103 qz::cb b6 103 qz::cb b5 103 xv::cb b4 103 fv::own 211 6 oE es.length cE ec::H) w∧Sl 260 [(17,.int .i64 k),(16,.slice oL vl.length cL),(12,.pointer (some (bat b12 0))),(11,.pointer (some (bat b11 0))),(10,.slice oE es.length cE),(9,.int .i64 0),(8,.bool false),(7,.pointer (some (bat b7 0))),(6,.pointer (some (bat b6 0))),(4,.pointer (some (bat b4 0))),(0,.pointer (some (bat bR 0)))] a) 0 ⟨_,⟨Nat.zero_le _,.inl ⟨rfl,fun j h=>absurd h (Nat.not_lt_zero _)⟩⟩,hH.perm PMT,(hA.sub SBT)⟩ ?_ ?_
        · skip
          clear hA hH
          rintro i a w ⟨k,⟨hi,hkk⟩,hH,hA⟩
          by_cases hlt:i<bl.e.ns.l.length
          rotate_left
          · obtain rfl:i=bl.e.ns.l.length:=by omega
            repeat' (first|(refine QT ?_;clear hA a;intro a hA)|refine CT ?_|(refine DT ?_ ?_<;>intro hc<;>try (exfalso;omega))|fail)
            exact ⟨k,hkk,hH,(hA.sub SBT)⟩
          repeat' (first|(refine QT ?_;clear hA a;intro a hA)|refine CT ?_|(refine DT ?_ ?_<;>intro hc<;>try (exfalso;omega))|fail)
          (refine zO [(0,1),(1,1),(2,1),(3,1),(4,1),(5,1),(6,1),(7,1),(8,1),(9,1),(10,1)] mixed (by decide +kernel) hH ?_;replace hH:=hH.drew)
          repeat' (first|(refine XT ?_;apply XE;(first|(apply zB;rfl;rfl;omega;exact hspN)|(apply zF;rfl;refine yG hRe.2.1.1 id (vS ?_);omega)|(apply zC;rfl;rfl;decide;omega;exact hspL)|(apply zF;rfl;exact xJ (T:=103) (o:=oL) MEMT (hc01)));clear hA a;intro a hA)|(refine QT ?_;clear hA a;intro a hA)|refine CT ?_|(refine DT ?_ ?_<;>intro hc<;>try (exfalso;omega))|fail)
          · have hie:bl.e.ns.l.getD i 0=z:=by assumption
            exact ⟨i+1,⟨i,⟨hlt,.inr ⟨i,Nat.lt_succ_self i,rfl,hie⟩⟩,hH,(hA.sub SBT)⟩,by omega⟩
          · have hie:¬bl.e.ns.l.getD i 0=z:=by assumption
            refine ⟨i+1,⟨k,⟨hlt,?_⟩,hH,(hA.sub SBT)⟩,by omega⟩
            rcases hkk with ⟨rfl,h⟩| ⟨j,hj,rfl,h⟩
            · exact .inl ⟨rfl,fun j hj=>if e:j=i then e▸hie else h j (by omega)⟩
            · exact .inr ⟨j,by omega,rfl,h⟩
        clear hA hH
        rintro a w ⟨k,hkk,hH,hA⟩
        repeat' (first|(refine QT ?_;clear hA a;intro a hA)|refine CT ?_|fail)
        rcases hkk with ⟨rfl,h⟩| ⟨j,hj,rfl,h⟩
        · rw [if_neg (by rw [bsB_no h];decide)] at hgo
          exact ⟨bl.e.ns.l.length,⟨by omega,hgo⟩,⟨oO,cO,oS,cS,sds,hH.perm PMT,hQ⟩,(hA.sub SBT)⟩
        · obtain ⟨e1,e2⟩:=bsB_at hEP.up hj h
          rw [if_pos e2,e1] at hgo
          exact ⟨j,⟨by omega,hgo⟩,⟨oO,cO,oS,cS,sds,hH.perm PMT,hQ⟩,(hA.sub SBT)⟩
      · have hk:bl.e.k=4:=by omega
        have hto:=hEP.to
        unfold jQ at hto
        rw [if_pos hk] at hto
        exact ⟨0,⟨by omega,fun sk=>la_4 hk⟩,⟨oO,cO,oS,cS,sds,hH.perm PMT,hQ⟩,(hA.sub SBT)⟩
      --))
    clear hA hH
    rintro a w ⟨way,⟨hway,hgo⟩,⟨oO,cO,oS,cS,sds,hH,hQ⟩,hA⟩
    obtain ⟨t,ht⟩:∃t,t=bl.e.to.l.getD way tZ:=⟨_,rfl⟩
    have htm:t∈bl.e.to.l:=ht▸xP hway
    rw [←ht] at hgo
    obtain ⟨htb0,htb1,htl,hta⟩:=hBP.edges t htm
    obtain ⟨b2,hb2⟩:∃z,z=xQ g f1 t.b.toNat:=⟨_,rfl⟩
    have htb:t.b.toNat<(g.fs.l.getD f1.toNat gr0).bs.l.length:=by omega
    have hbl2:=hblk t.b.toNat htb
    rw [←hb2] at hbl2
    have htl2:t.a.l.length=b2.ps.l.length:=by rw [hb2];exact htl
    have hRt:=hRe.2.2.2 t htm
    have hRb2:=hRG.2 _ (List.mem_of_getElem? hbl2)
    have htal:=hsz.2.2.2.2.2 t htm
    have hspT:Sp bl.e.to.o bl.e.to.l.length:=hRe.2.2.1.1.sp (sz:=2) (zH xW _) (by have:=hsz.2.2.2.2.1;omega)
    have hspP:Sp b2.ps.o b2.ps.l.length:=hRb2.1.1.sp (sz:=1) (zH Fw.encI_len _) (by omega)
    have hat2:∀a∈t.a.l,atI g es a:=fun a ha=>henv.at hssl (hta a ha)
    repeat' (first|(refine XT ?_;apply XE;(first|(apply zB;rfl;rfl;omega;exact hspT)|(apply zA (vs:=uD t);rfl;rfl;exact yP hRe.2.2.1.1 id (yI xW (ht▸mY hway))));clear hA a;intro a hA)|(refine QT ?_;clear hA a;intro a hA)|(refine BT ?_;clear hA hH;rintro _ w ⟨bN,rfl,hH⟩ a hA)|(refine SAT (uD t) hA hH ?_;clear hH;intro w hH)|refine CT ?_|fail)
    obtain ⟨b19,hb19⟩:∃x,x=bN:=⟨_,rfl⟩
    subst hb19
    have hS:RSt w0 d bR bW g m wd' (cb b19 61 (uD t)::own 103 5 oL vl.length cL cells::cb b12 53 (zL (bl))::cb b11 103 qz::cb b7 103 qz::cb b6 103 qz::cb b5 103 xv::cb b4 103 fv::own 211 6 oE es.length cE ec::H) _:=⟨oO,cO,oS,cS,sds,hH.perm PMT,hQ⟩
    have hcl:=hS.cells
    (refine zJ hA rfl rfl (by decide) (zE rfl rfl rfl (sF _ d g bR bW t.a oE cE es ec hcl.1 hcl.2 (hH.own_rd (T:=211) (o:=oE) (by exact MEMT)) hI.eq hel (hRt.keep hH.kp) (hR.2.2.2.2.2.keep hH.kp) hM.anf.ss hat2 (by omega))) ?_;clear hA hS;rintro _ w ⟨oA,cA,cells2,rfl,hqs2,hj⟩ a hA;replace hH:=hH.join hj;clear hj hcl)
    obtain ⟨al,hal⟩:∃z,z=t.a.l.map (atE g es):=⟨_,rfl⟩
    have hall:t.a.l.length=al.length:=by rw [hal,List.length_map]
    rw [←hal] at hqs2
    rw [hall] at hH hA
    have hspA:=hH.own_sp (T:=103) (o:=oA) (by exact MEMT)
    repeat' (first|(refine QT ?_;clear hA a;intro a hA)|refine CT ?_|fail)
    (refine zN [(0,1),(1,1),(2,1),(3,1),(4,1),(5,1),(6,1),(7,1),(8,1),(9,1),(10,1),(11,1),(12,1),(13,1)] [14] mixed (by decide +kernel) hH ?_;replace hH:=hH.drew)
    repeat' (first|(refine XT ?_;apply XE;(first|(apply zF;rfl;exact rT MEMT hfv1)|(apply zC;rfl;rfl;omega;omega;first|exact hspF|exact hspB)|(apply zF;rfl;refine yG hR.1.1 id (pN ?_);omega)|(apply zA (vs:=zL b2);rfl;rfl;exact yP hRG.1.1 id (yI yS hbl2)));clear hA a;intro a hA)|(refine QT ?_;clear hA a;intro a hA)|(apply yB hA rfl rfl rfl;apply zI (vs:=zL b2);rfl;rfl;exact hH;(repeat constructor);(repeat rfl);clear hH;rintro _ w hH)|refine CT ?_|fail)
    refine zU (S:=Nat) (fun i a w=>∃es' oE' cE' ec',(i≤b2.ps.l.length∧es'=es++(b2.ps.l.zip al).take i∧EQ d es' ec')∧HS w0 noM (own 103 5 oA al.length cA cells2::cb bW 98 (xE g wd'.inp oO wd'.out.length cO oS wd'.st.length cS)::own 5 1 oO wd'.out.length cO (flat zY wd'.out)::own 101 1 oS wd'.st.length cS (flat Fw.encS sds)::frz w0 d.K::cb bR 100 (xI g (m) bW)::cb b12 53 (zL (b2))::cb b11 103 qz::cb b7 103 qz::cb b6 103 qz::cb b5 103 xv::cb b4 103 fv::own 211 6 oE' es'.length cE' ec'::H) w∧Sl 260 [(21,.int .i64 i),(20,.slice oA al.length cA),(12,.pointer (some (bat b12 0))),(11,.pointer (some (bat b11 0))),(10,.slice oE' es'.length cE'),(9,.int .i64 0),(8,.bool false),(7,.pointer (some (bat b7 0))),(6,.pointer (some (bat b6 0))),(4,.pointer (some (bat b4 0))),(0,.pointer (some (bat bR 0)))] a) (fun i=>b2.ps.l.length - i)
      (fun a w=>∃es' oE' cE' ec',(es'=es++b2.ps.l.zip al∧EQ d es' ec')∧HS w0 noM (own 103 5 oA al.length cA cells2::cb bW 98 (xE g wd'.inp oO wd'.out.length cO oS wd'.st.length cS)::own 5 1 oO wd'.out.length cO (flat zY wd'.out)::own 101 1 oS wd'.st.length cS (flat Fw.encS sds)::frz w0 d.K::cb bR 100 (xI g (m) bW)::cb b12 53 (zL (b2))::cb b11 103 qz::cb b7 103 qz::cb b6 103 qz::cb b5 103 xv::cb b4 103 fv::own 211 6 oE' es'.length cE' ec'::H) w∧Sl 260 [(20,.slice oA al.length cA),(12,.pointer (some (bat b12 0))),(11,.pointer (some (bat b11 0))),(10,.slice oE' es'.length cE'),(9,.int .i64 0),(8,.bool false),(7,.pointer (some (bat b7 0))),(6,.pointer (some (bat b6 0))),(4,.pointer (some (bat b4 0))),(0,.pointer (some (bat bR 0)))] a) 0 ⟨es,oE,cE,ec,⟨Nat.zero_le _,by rw [List.take_zero,List.append_nil],hI.eq⟩,HS.right (H1:=[cb b19 61 (uD t),own 103 5 oL vl.length cL cells]) (hH.perm PMT),(hA.sub SBT)⟩ ?_ ?_
    · clear hA hH
      rintro i a w ⟨es',oE',cE',ec',⟨hi,hes',heq'⟩,hH,hA⟩
      by_cases hlt:i<b2.ps.l.length
      rotate_left
      · obtain rfl:i=b2.ps.l.length:=by omega
        rw [List.take_of_length_le (by rw [List.length_zip];omega)] at hes'
        repeat' (first|(refine QT ?_;clear hA a;intro a hA)|refine CT ?_|(refine DT ?_ ?_<;>intro hc<;>try (exfalso;omega))|fail)
        exact ⟨es',oE',cE',ec',⟨hes',heq'⟩,hH,(hA.sub SBT)⟩
      have hel2:es'.length≤20000000000:=by rw [hes',List.length_append,List.length_take];omega
      obtain ⟨av,hqa,hca⟩:=hqs2.nth (i:=i) (by omega)
      have hal0:=hqa.len
      have hao:=hqa.one
      repeat' (first|(refine QT ?_;clear hA a;intro a hA)|refine CT ?_|(refine DT ?_ ?_<;>intro hc<;>try (exfalso;omega))|fail)
      have hST:HS w0 noM [own 103 5 oA al.length cA cells2,cb b12 53 (zL b2)] _:=HS.left (H1:=[_,_]) (hH.perm PMT)
      (refine zN (H:=[_,_]) [(0,1),(1,1),(2,1),(3,1),(4,1),(5,1),(6,1),(7,1),(8,1),(9,1),(10,1),(11,0),(12,0)] [13] mixed (by decide +kernel) (hST) ?_;replace hH:=hH.drew)
      clear hST
      repeat' (first|(refine XT ?_;apply XE;(first|(apply zB;rfl;rfl;omega;first|exact hspP|exact hspA)|(apply zF;rfl;refine yG hRb2.1.1 id (vS ?_);omega)|(apply zA (vs:=av);rfl;exact hal0;exact sK (T:=103) (o:=oA) MEMT (fun i v h=>hca i v h)));clear hA a;intro a hA)|(refine QT ?_;clear hA a;intro a hA)|fail)
      (refine qS hA rfl rfl rfl (by decide) (yZ (szs:=[(0,1),(1,5)]) (cs:=(Value.int .i64 (b2.ps.l.getD i 0)::av).toArray) (xS (.cons ⟨_,rfl,by decide⟩ (.cons ⟨_,rfl,by decide⟩ .nil))) rfl (mS hal0 _ rfl)) ?_;clear hA a;intro a hA)
      (apply yC hA rfl rfl rfl (by decide);apply zQ (xs:=Value.int .i64 (b2.ps.l.getD i 0)::av) (vs:=[.agg (Value.int .i64 (b2.ps.l.getD i 0)::av).toArray]);rfl;rfl;exact cats6 (aB hal0);rfl;rfl;rfl;exact hH;clear hA hH;rintro _ w ⟨oN,rfl,hH⟩;refine ⟨HS.left (H1:=[_,_]) (hH.perm PMT),?_⟩;intro a hA)
      obtain ⟨oT,hoT⟩:∃z,z=oN:=⟨_,rfl⟩
      subst hoT
      (apply yC hA rfl rfl rfl (by decide);apply yE;rfl;rfl;exact hH;exact MEMT;exact (hH.own_rd (List.Mem.head _));exact (aB hal0);rfl;decide;exact (ione hao);(unfold maxLen;omega);omega;clear hA;rintro _ w ⟨oN,cN,rfl,hH2⟩;clear hH;have hH:=hH2 _ (by (repeat constructor));clear hH2;refine ⟨HS.left (H1:=[_,_]) (hH.perm PMT),?_⟩;intro a hA)
      rw [←xH es' (b2.ps.l.getD i 0,zS al i)] at hA hH
      repeat' (first|(refine QT ?_;clear hA a;intro a hA)|refine CT ?_|fail)
      exact ⟨i+1,⟨es'++[(b2.ps.l.getD i 0,zS al i)],oN,cN,_,⟨hlt,by rw [yK (zip_at (by omega) hlt),hes',List.append_assoc],heq'.snoc hqa⟩,HS.right (H1:=[own 211 6 oT 1 1 (Value.int .i64 (b2.ps.l.getD i 0)::av)]) (hH.perm PMT),(hA.sub SBT)⟩,by omega⟩
    clear hA hH
    rintro a w ⟨es',oE',cE',ec',⟨rfl,heq'⟩,hH,hA⟩
    repeat' (first|(refine QT ?_;clear hA a;intro a hA)|refine CT ?_|fail)
    rw [hb2] at hH heq' hA
    rw [hal] at hH heq' hA
    exact ⟨m,⟨d,wd',_,ec',oE',cE',t.b.toNat,wN g fm t,hI1.edge (hblk b hlb) (hble▸htm) htb0 htb1 (by rw [←hb2];exact htl2) (by rw [←hb2];omega) heq' (fun sk=>by rw [←hble];exact hgo sk),⟨oO,cO,oS,cS,sds,HS.right (H1:=[own 103 5 oA (t.a.l.map (atE g es)).length cA cells2]) (hH.perm PMT),hQ⟩,(hA.sub SBT)⟩,by omega⟩
theorem fZ (w0 w:World) (H:List It) (d:Dx) (g:Grs) (fu:Int) (wd':Wd) (bR bW:Nat) (f1:Int) (l1:List Vl) (x:Vl) (fv xv:List Value) (hfu:fu≤0) (hS:RSt w0 d bR bW g fu wd' H w) (hcp:d.cp=g.fs.l.map Gr.caps) (hM:MayP g) (hR:RdGs w0 g) (hqf:QV d (.fn f1 l1) fv) (hqx:QV d x xv) :
    Ret Tryz.prog 58 #[.pointer (some (bat bR 0)),.agg fv.toArray,.agg xv.toArray] w (fun v w'=>v= .tuple #[.agg qz.toArray,.agg qz.toArray,.bool false,.int .i64 2]∧RSt w0 d bR bW g fu wd' H w'):=by
  obtain ⟨oO,cO,oS,cS,sds,hH,hQ⟩:=hS
  have hfl:=hqf.len
  have hxl:=hqx.len
  have hqf2:=hqf
  rw [QV] at hqf2
  obtain ⟨of,kf,fvs,hfv,⟨hf0,hf1,hfc⟩,_,_⟩:=hqf2
  rw [hcp,List.length_map] at hf1
  have hfv1:Fw.nth fv 1=some (.int .i64 f1):=by rw [hfv];rfl
  have hft:f1.toNat<g.fs.l.length:=by omega
  have hgm:g.fs.l.getD f1.toNat gr0∈g.fs.l:=xP hft
  have hRG:=hR.2.1 _ hgm
  have hGP:=hM.gr _ hgm
  have hspF:Sp g.fs.o g.fs.l.length:=hR.1.1.sp (sz:=2) (zH wM _) (by have:=hM.anf.top;rw [List.length_map] at this;omega)
  have hspB:Sp (g.fs.l.getD f1.toNat gr0).bs.o (g.fs.l.getD f1.toNat gr0).bs.l.length:=hRG.1.1.sp (sz:=6) (zH yS _) (by have:=hRG.1.le;omega)
  have hb0:=hGP.ne
  have hblk:(g.fs.l.getD f1.toNat gr0).bs.l[0]?=some (xQ g f1 0):=by
    unfold xQ
    rw [List.getD_eq_getElem?_getD (l:=(g.fs.l.getD f1.toNat gr0).bs.l),List.getElem?_eq_getElem hb0];rfl
  (refine ENT (N:=260) Tryz.func58 Tryz.ntmps58 ?_;intro a hA)
  repeat' (first|(refine XT ?_;apply XE;(first|(apply zA (vs:=fv);rfl;exact hfl;exact zD MEMT));clear hA a;intro a hA)|(refine QT ?_;clear hA a;intro a hA)|(refine BT ?_;clear hA hH;rintro _ w ⟨bN,rfl,hH⟩ a hA)|refine CT ?_|fail)
  (refine sU hA hH rfl rfl (by decide) (yZ (szs:=[(0,1),(1,5)]) (cs:=(Value.int .i64 0::fv).toArray) (xS (.cons ⟨_,rfl,by decide⟩ (.cons ⟨_,rfl,by decide⟩ .nil))) rfl (mS hfl _ rfl)) ?_;clear hA a;intro a hA)
  repeat' (first|(refine XT ?_;apply XE;(first|(apply zA (vs:=xv);rfl;exact hxl;exact zD MEMT));clear hA a;intro a hA)|(refine QT ?_;clear hA a;intro a hA)|fail)
  (refine sU hA hH rfl rfl (by decide) (yZ (szs:=[(0,1),(1,5)]) (cs:=(Value.int .i64 1::xv).toArray) (xS (.cons ⟨_,rfl,by decide⟩ (.cons ⟨_,rfl,by decide⟩ .nil))) rfl (mS hxl _ rfl)) ?_;clear hA a;intro a hA)
  (apply zJ hA rfl rfl (by decide);apply zQ (xs:=(Value.int .i64 0::fv)++(Value.int .i64 1::xv));rfl;rfl;exact cats62 (aB hfl) (aB hxl);rfl;rfl;rfl;exact hH;clear hA hH;rintro _ w ⟨oN,rfl,hH⟩ a hA)
  repeat' (first|(refine XT ?_;apply XE;(first|(apply zK (cs:=(qz).toArray);rfl;exact FLT;rfl));clear hA a;intro a hA)|(refine QT ?_;clear hA a;intro a hA)|(refine BT ?_;clear hA hH;rintro _ w ⟨bN,rfl,hH⟩ a hA)|(refine SAT (qz) hA hH ?_;clear hH;intro w hH)|refine CT ?_|fail)
  (refine zN [(0,1),(1,1),(2,1),(3,1),(4,1),(5,1),(6,1),(7,1),(8,1),(9,1),(10,1),(11,1),(12,0)] [13] mixed (by decide +kernel) hH ?_;replace hH:=hH.drew)
  repeat' (first|(refine XT ?_;apply XE;(first|(apply zF;rfl;exact rT MEMT hfv1)|(apply zC;rfl;rfl;omega;omega;first|exact hspF|exact hspB)|(apply zF;rfl;refine yG hR.1.1 id (pN ?_);omega)|(apply zA (vs:=zL (xQ g f1 0));rfl;rfl;exact yP hRG.1.1 id (yI yS hblk)));clear hA a;intro a hA)|(refine QT ?_;clear hA a;intro a hA)|(apply yC hA rfl rfl rfl (by decide);apply yV;exact hH;clear hA hH;rintro _ w ⟨bN,rfl,hH⟩;refine ⟨hH.tail,?_⟩;intro a hA)|(apply yB hA rfl rfl rfl;apply zI (vs:=zL (xQ g f1 0));rfl;rfl;exact hH;(repeat constructor);(repeat rfl);clear hH;rintro _ w hH)|refine CT ?_|fail)
  obtain ⟨bl,b12,b11,b7,b6,b5,b4,oE,cE,es,ec,hS,hA2⟩:∃bl b12 b11 b7 b6 b5 b4 oE cE,∃es:List (Int × Vl),∃ec,RSt w0 d bR bW g fu wd' (cb b12 53 (zL (bl))::cb b11 103 qz::cb b7 103 qz::cb b6 103 qz::cb b5 103 xv::cb b4 103 fv::own 211 6 oE es.length cE ec::H) _∧Sl 260 [(12,.pointer (some (bat b12 0))),(11,.pointer (some (bat b11 0))),(9,.int .i64 0),(8,.bool false),(7,.pointer (some (bat b7 0))),(6,.pointer (some (bat b6 0))),(4,.pointer (some (bat b4 0))),(0,.pointer (some (bat bR 0)))] a:=⟨_,_,_,_,_,_,_,_,_,[(0,.fn f1 l1),(1,x)],_,⟨oO,cO,oS,cS,sds,hH.perm PMT,hQ⟩,(hA.sub SBT)⟩
  clear hA hH hQ
  have hA:=hA2
  clear hA2
  repeat' (first|(refine QT ?_;clear hA a;intro a hA)|fail)
  refine zU (S:=Nat) (fun m a w=>RSt w0 d bR bW g fu wd' (cb b12 53 (zL (bl))::cb b11 103 qz::cb b7 103 qz::cb b6 103 qz::cb b5 103 xv::cb b4 103 fv::own 211 6 oE es.length cE ec::H) w∧Sl 260 [(12,.pointer (some (bat b12 0))),(11,.pointer (some (bat b11 0))),(9,.int .i64 0),(8,.bool false),(7,.pointer (some (bat b7 0))),(6,.pointer (some (bat b6 0))),(4,.pointer (some (bat b4 0))),(0,.pointer (some (bat bR 0)))] a) (fun m=>m) (fun a w=>False) 0 ⟨hS,(hA.sub SBT)⟩ ?_ (fun a w h=>h.elim)
  clear hA hS
  rintro m a w ⟨⟨oO,cO,oS,cS,sds,hH,hQ⟩,hA⟩
  repeat' (first|(refine QT ?_;clear hA a;intro a hA)|refine CT ?_|fail)
  refine zU (S:=Nat) (fun i a w=>i=0∧RSt w0 d bR bW g fu wd' (cb b12 53 (zL (bl))::cb b11 103 qz::cb b7 103 qz::cb b6 103 qz::cb b5 103 xv::cb b4 103 fv::own 211 6 oE es.length cE ec::H) w∧Sl 260 [(13,.int .i64 i),(12,.pointer (some (bat b12 0))),(11,.pointer (some (bat b11 0))),(9,.int .i64 0),(8,.bool false),(7,.pointer (some (bat b7 0))),(6,.pointer (some (bat b6 0))),(4,.pointer (some (bat b4 0))),(0,.pointer (some (bat bR 0)))] a) (fun i=>i) (fun a w=>RSt w0 d bR bW g fu wd' (cb b12 53 (zL (bl))::cb b11 103 qz::cb b7 103 qz::cb b6 103 qz::cb b5 103 xv::cb b4 103 fv::own 211 6 oE es.length cE ec::H) w∧Sl 260 [(12,.pointer (some (bat b12 0))),(11,.pointer (some (bat b11 0))),(9,.int .i64 0),(8,.bool false),(7,.pointer (some (bat b7 0))),(6,.pointer (some (bat b6 0))),(4,.pointer (some (bat b4 0))),(0,.pointer (some (bat bR 0)))] a) 0 ⟨rfl,⟨oO,cO,oS,cS,sds,hH,hQ⟩,(hA.sub SBT)⟩ ?_ ?_
  · clear hA hH hQ
    rintro i a w ⟨rfl,⟨oO,cO,oS,cS,sds,hH,hQ⟩,hA⟩
    repeat' (first|(refine QT ?_;clear hA a;intro a hA)|refine CT ?_|(refine DT ?_ ?_<;>intro hc<;>try (exfalso;omega))|fail)
    · skip
      refine xO (qs [0,1] (.one 2 (.one 3 (qs [4,5] .nil)))) (fun a w=>HS w0 noM (cb bW 98 (xE g wd'.inp oO wd'.out.length cO oS wd'.st.length cS)::own 5 1 oO wd'.out.length cO (flat zY wd'.out)::own 101 1 oS wd'.st.length cS (flat Fw.encS sds)::frz w0 d.K::cb bR 100 (xI g (fu) bW)::cb b12 53 (zL (bl))::cb b11 103 qz::cb b7 103 qz::cb b6 103 qz::cb b5 103 xv::cb b4 103 fv::own 211 6 oE es.length cE ec::H) w∧Sl 260 [(9,.int .i64 2),(8,.bool false),(7,.pointer (some (bat b7 0))),(6,.pointer (some (bat b6 0)))] a) mixed (by decide +kernel) (show HS w0 noM [cb b11 103 qz] _ from HS.left (H1:=[cb b11 103 qz]) (hH.perm PMT)) ?_ ?_
      · replace hH:=hH.drew
        (repeat (apply yN hA rfl rfl rfl (by decide);(first|exact EXT|(apply zA (vs:=qz);rfl;rfl;exact zD MEMT));clear hA a;intro a hA))
        (apply yR hA rfl rfl rfl;apply zI (vs:=qz);rfl;rfl;exact hH;(repeat constructor);(repeat (first|rfl|assumption));clear hH;rintro _ w hH;refine ⟨HS.left (H1:=[cb b11 103 qz]) (hH.perm PMT),?_⟩)
        (apply yR hA rfl rfl rfl;apply zI (vs:=qz);rfl;rfl;exact hH;(repeat constructor);(repeat (first|rfl|assumption));clear hH;rintro _ w hH;refine ⟨HS.left (H1:=[cb b11 103 qz]) (hH.perm PMT),?_⟩)
        (repeat (apply yN hA rfl rfl rfl (by decide);exact EXT;clear hA a;intro a hA))
        apply xG
        exact ⟨hH.perm PMT,(hA.sub SBT)⟩
      clear hA hH
      rintro a w ⟨hH,hA⟩
      repeat' (first|(refine QT ?_;clear hA a;intro a hA)|refine CT ?_|fail)
      refine sY (vs:=qz) (vs2:=qz) (sz:=5) (.inl rfl) rfl hA rfl rfl rfl rfl (by first|rfl|assumption) (by first|rfl|assumption) hH (zD MEMT) (zD MEMT) ?_
      exact ⟨rfl,WSt.dropL (L:=cb b12 53 (zL (bl))::cb b11 103 qz::cb b7 103 qz::cb b6 103 qz::cb b5 103 xv::cb b4 103 fv::own 211 6 oE es.length cE ec::[]) ⟨oO,cO,oS,cS,sds,hH.perm PMT,hQ⟩⟩
    · exact ⟨⟨oO,cO,oS,cS,sds,hH,hQ⟩,(hA.sub SBT)⟩
  clear hA hH hQ
  rintro a w ⟨⟨oO,cO,oS,cS,sds,hH,hQ⟩,hA⟩
  repeat' (first|(refine QT ?_;clear hA a;intro a hA)|refine CT ?_|(refine DT ?_ ?_<;>intro hc<;>try (exfalso;omega))|fail)
  refine xO (qs [0,1] (.one 2 (.one 3 (qs [4,5] .nil)))) (fun a w=>HS w0 noM (cb bW 98 (xE g wd'.inp oO wd'.out.length cO oS wd'.st.length cS)::own 5 1 oO wd'.out.length cO (flat zY wd'.out)::own 101 1 oS wd'.st.length cS (flat Fw.encS sds)::frz w0 d.K::cb bR 100 (xI g (fu) bW)::cb b12 53 (zL (bl))::cb b11 103 qz::cb b7 103 qz::cb b6 103 qz::cb b5 103 xv::cb b4 103 fv::own 211 6 oE es.length cE ec::H) w∧Sl 260 [(9,.int .i64 2),(8,.bool false),(7,.pointer (some (bat b7 0))),(6,.pointer (some (bat b6 0)))] a) mixed (by decide +kernel) (show HS w0 noM [cb b11 103 qz] _ from HS.left (H1:=[cb b11 103 qz]) (hH.perm PMT)) ?_ ?_
  · replace hH:=hH.drew
    (repeat (apply yN hA rfl rfl rfl (by decide);(first|exact EXT|(apply zA (vs:=qz);rfl;rfl;exact zD MEMT));clear hA a;intro a hA))
    (apply yR hA rfl rfl rfl;apply zI (vs:=qz);rfl;rfl;exact hH;(repeat constructor);(repeat (first|rfl|assumption));clear hH;rintro _ w hH;refine ⟨HS.left (H1:=[cb b11 103 qz]) (hH.perm PMT),?_⟩)
    (apply yR hA rfl rfl rfl;apply zI (vs:=qz);rfl;rfl;exact hH;(repeat constructor);(repeat (first|rfl|assumption));clear hH;rintro _ w hH;refine ⟨HS.left (H1:=[cb b11 103 qz]) (hH.perm PMT),?_⟩)
    (repeat (apply yN hA rfl rfl rfl (by decide);exact EXT;clear hA a;intro a hA))
    apply xG
    exact ⟨hH.perm PMT,(hA.sub SBT)⟩
  clear hA hH
  rintro a w ⟨hH,hA⟩
  repeat' (first|(refine QT ?_;clear hA a;intro a hA)|refine CT ?_|fail)
  refine sY (vs:=qz) (vs2:=qz) (sz:=5) (.inl rfl) rfl hA rfl rfl rfl rfl (by first|rfl|assumption) (by first|rfl|assumption) hH (zD MEMT) (zD MEMT) ?_
  exact ⟨rfl,WSt.dropL (L:=cb b12 53 (zL (bl))::cb b11 103 qz::cb b7 103 qz::cb b6 103 qz::cb b5 103 xv::cb b4 103 fv::own 211 6 oE es.length cE ec::[]) ⟨oO,cO,oS,cS,sds,hH.perm PMT,hQ⟩⟩
end
theorem QV.hd {c:Dx} {x:Vl} {v:List Value} (h:QV c x v):Fw.nth v 0=some (.int .i64 (yW x)):=by
  obtain ⟨n,s,on,ln,cn,ol,ll,cl,rfl⟩:=h.shape
  rfl
section
attribute [local irreducible] Code.wp wpList Calls Ex Op1 sat bat blk cb own Go.Fw.mp Go.Fw.mpO Go.Fw.mpI Go.Fw.mpE Go.Fw.itr HS Rd Ret wkD Hp Cl Cls Exit.then Exit.inBlock Exit.noGoto bodyPost Go.Fw.flat wk2 Go.Fw.all Go.Fw.owns wpOp
attribute [local irreducible] sk mpK sko mvO xM xC frz w63 xX ofB vA QV QVs EQ yD OwV

theorem rcall_spec (w0:World) (g:Grs) (kd:Int) (bR bW:Nat) (hM:MayP g) (hR:RdGs w0 g) (n:Nat):CallC w0 bR bW g kd n:=by
  induction n using Nat.strongRecOn with
  |ind n ih=>
  intro w H c wd f x fv xv hS hok hqf hqx
  obtain ⟨oO,cO,oS,cS,sds,hH,hQ⟩:=hS
  have hfl:=hqf.len
  have hxl:=hqx.len
  (refine ENT (N:=31) Tryz.func30 Tryz.ntmps30 ?_;intro a hA)
  repeat' (first|(refine QT ?_;clear hA a;intro a hA)|(refine BT ?_;clear hA hH;rintro _ w ⟨bN,rfl,hH⟩ a hA)|refine CT ?_|fail)
  obtain ⟨b6,b5,b4,hS,hA2⟩:∃b6 b5 b4,RSt w0 c bR bW g n wd (cb b6 103 qz::cb b5 103 xv::cb b4 103 fv::H) _∧Sl 31 [(7,.int .i64 0),(6,.pointer (some (bat b6 0))),(5,.pointer (some (bat b5 0))),(4,.pointer (some (bat b4 0))),(0,.pointer (some (bat bR 0)))] a:=⟨_,_,_,⟨oO,cO,oS,cS,sds,hH.perm PMT,hQ⟩,(hA.sub SBT)⟩
  clear hA hH hQ
  have hA:=hA2
  clear hA2
  refine zU (S:=Nat) (fun m a w=>∃d wd' f' x' fv xv,(m≤n∧QV d f' fv∧QV d x' xv∧Bnd c d n m wd wd'∧∀sk,sN g kd n (vN f x wd sk)=sN g kd m (vN f' x' wd' sk))∧RSt w0 d bR bW g m wd' (cb b6 103 qz::cb b5 103 xv::cb b4 103 fv::H) w∧Sl 31 [(7,.int .i64 0),(6,.pointer (some (bat b6 0))),(5,.pointer (some (bat b5 0))),(4,.pointer (some (bat b4 0))),(0,.pointer (some (bat bR 0)))] a) (fun m=>m) (fun a w=>False) n ⟨c,wd,f,x,fv,xv,⟨Nat.le_refl n,hqf,hqx,Bnd.refl c n wd,fun sk=>rfl⟩,hS,(hA.sub SBT)⟩ ?_ (fun a w h=>h.elim)
  clear hA hS hqf hqx hfl hxl fv xv
  rintro m a w ⟨d,wd',f',x',fv,xv,⟨hm,hqf,hqx,hB,hrun⟩,⟨oO,cO,oS,cS,sds,hH,hQ⟩,hA⟩
  have hk0:=hqf.hd
  by_cases hk:yW f'=3
  rotate_left
  · repeat' (first|(refine XT ?_;apply XE;(first|(apply zF;rfl;exact rT MEMT hk0)|(apply zK (cs:=(qz).toArray);rfl;exact FLT;rfl));clear hA a;intro a hA)|(refine QT ?_;clear hA a;intro a hA)|(refine SAT (qz) hA hH ?_;clear hH;intro w hH)|refine CT ?_|(refine DT ?_ ?_<;>intro hc<;>try (exfalso;omega))|fail)
    exact wB (vs:=qz) (.inl rfl) rfl hA rfl rfl rfl hH (zD MEMT) ⟨.stuck,d,m,wd',qz,rfl,OwV.stk d g,hB,WSt.dropL (L:=cb b6 103 qz::cb b5 103 xv::cb b4 103 fv::[]) ⟨oO,cO,oS,cS,sds,hH.perm PMT,hQ⟩,fun sk=>by rw [hrun];unfold vN;rw [n_fn hk];rfl⟩
  obtain ⟨f1,l1,rfl⟩:=k_fn hk
  repeat' (first|(refine XT ?_;apply XE;(first|(apply zF;rfl;exact rT MEMT hk0)|(apply zA (vs:=fv);rfl;exact hqf.len;exact zD MEMT)|(apply zA (vs:=xv);rfl;exact hqx.len;exact zD MEMT));clear hA a;intro a hA)|(refine QT ?_;clear hA a;intro a hA)|refine CT ?_|fail)
  have hS:RSt w0 d bR bW g m wd' (cb b6 103 qz::cb b5 103 xv::cb b4 103 fv::H) _:=⟨oO,cO,oS,cS,sds,hH.perm PMT,hQ⟩
  (refine zJ hA rfl rfl (by decide) (zE rfl rfl rfl (cY w0 _ _ d g kd m wd' bR bW f1 l1 x' fv xv (fun k hk=>ih k (by omega)) hS (hok.next hB) hM hR hqf hqx)) ?_;clear hA hS hH hQ;rintro v w hG a hA)
  rcases hG with ⟨o,d2,n2,wd2,ov,rfl,hov,hB2,⟨oO,cO,oS,cS,sds,hH,hQ⟩,hr2⟩| ⟨f2,x2,d2,n2,wd2,fv2,xv2,rfl,hqf2,hqx2,hn2,hB2,⟨oO,cO,oS,cS,sds,hH,hQ⟩,hr2⟩
  · repeat' (first|(refine XT ?_;apply XE;(first|(apply zA (vs:=ov);rfl;exact hov.len;exact zD MEMT));clear hA a;intro a hA)|(refine QT ?_;clear hA a;intro a hA)|(refine BT ?_;clear hA hH;rintro _ w ⟨bN,rfl,hH⟩ a hA)|(apply zT hA rfl rfl;apply zI (vs:=ov);rfl;rfl;exact hH;(repeat constructor);exact hov.len;(first|rfl|exact hqf.len|exact hqx.len);exact hov.one;clear hH;rintro _ w hH)|(refine SAT (qz) hA hH ?_;clear hH;intro w hH)|refine CT ?_|fail)
    exact wB (vs:=ov) (sz:=5) (.inl rfl) rfl hA rfl rfl hov.len hH (zD MEMT) ⟨o,d2,n2,wd2,ov,rfl,hov,hB.trans hB2,WSt.dropL (L:=cb b6 103 ov::cb b5 103 xv::cb b4 103 fv::cb _ 103 ov::cb _ 103 qz::[]) ⟨oO,cO,oS,cS,sds,hH.perm PMT,hQ⟩,fun sk=>by rw [hrun,hr2]⟩
  · repeat' (first|(refine XT ?_;apply XE;(first|(apply zA (vs:=fv2);rfl;exact hqf2.len;exact zD MEMT)|(apply zA (vs:=xv2);rfl;exact hqx2.len;exact zD MEMT));clear hA a;intro a hA)|(refine QT ?_;clear hA a;intro a hA)|(refine BT ?_;clear hA hH;rintro _ w ⟨bN,rfl,hH⟩ a hA)|(apply zT hA rfl rfl;apply zI (vs:=fv2);rfl;rfl;exact hH;(repeat constructor);exact hqf2.len;(first|rfl|exact hqf.len|exact hqx.len);exact hqf2.one;clear hH;rintro _ w hH)|(apply zT hA rfl rfl;apply zI (vs:=xv2);rfl;rfl;exact hH;(repeat constructor);exact hqx2.len;(first|rfl|exact hqf.len|exact hqx.len);exact hqx2.one;clear hH;rintro _ w hH)|refine CT ?_|fail)
    exact ⟨n2,⟨d2,wd2,f2,x2,fv2,xv2,⟨by omega,hqf2,hqx2,hB.trans hB2,fun sk=>by rw [hrun,hr2]⟩,WSt.dropL (L:=cb _ 103 fv2::cb _ 103 xv2::[]) ⟨oO,cO,oS,cS,sds,hH.perm PMT,hQ⟩,(hA.sub SBT)⟩,hn2⟩
theorem bD (w0 w:World) (H:List It) (c:Dx) (g:Grs) (fu:Int) (wd:Wd) (bR bW:Nat) (f1:Int) (l1:List Vl) (x:Vl) (fv xv:List Value) (hfu:fu≤0) (hS:RSt w0 c bR bW g fu wd H w) (hcp:c.cp=g.fs.l.map Gr.caps) (hM:MayP g) (hR:RdGs w0 g) (hqf:QV c (.fn f1 l1) fv) (hqx:QV c x xv) :
    Ret Tryz.prog 30 #[.pointer (some (bat bR 0)),.agg fv.toArray,.agg xv.toArray] w (fun v w'=>v= .tuple #[.agg qz.toArray,.int .i64 2]∧RSt w0 c bR bW g fu wd H w'):=by
  obtain ⟨oO,cO,oS,cS,sds,hH,hQ⟩:=hS
  have hfl:=hqf.len
  have hxl:=hqx.len
  have hk0:=hqf.hd
  (refine ENT (N:=31) Tryz.func30 Tryz.ntmps30 ?_;intro a hA)
  repeat' (first|(refine QT ?_;clear hA a;intro a hA)|(refine BT ?_;clear hA hH;rintro _ w ⟨bN,rfl,hH⟩ a hA)|refine CT ?_|fail)
  obtain ⟨b6,b5,b4,hS,hA2⟩:∃b6 b5 b4,RSt w0 c bR bW g fu wd (cb b6 103 qz::cb b5 103 xv::cb b4 103 fv::H) _∧Sl 31 [(7,.int .i64 0),(6,.pointer (some (bat b6 0))),(5,.pointer (some (bat b5 0))),(4,.pointer (some (bat b4 0))),(0,.pointer (some (bat bR 0)))] a:=⟨_,_,_,⟨oO,cO,oS,cS,sds,hH.perm PMT,hQ⟩,(hA.sub SBT)⟩
  clear hA hH hQ
  have hA:=hA2
  clear hA2
  refine zU (S:=Nat) (fun m a w=>RSt w0 c bR bW g fu wd (cb b6 103 qz::cb b5 103 xv::cb b4 103 fv::H) w∧Sl 31 [(7,.int .i64 0),(6,.pointer (some (bat b6 0))),(5,.pointer (some (bat b5 0))),(4,.pointer (some (bat b4 0))),(0,.pointer (some (bat bR 0)))] a) (fun m=>m) (fun a w=>False) 0 ⟨hS,(hA.sub SBT)⟩ ?_ (fun a w h=>h.elim)
  clear hA hS
  rintro m a w ⟨⟨oO,cO,oS,cS,sds,hH,hQ⟩,hA⟩
  replace hk0:Fw.nth fv 0=some (.int .i64 3):=hk0
  repeat' (first|(refine XT ?_;apply XE;(first|(apply zF;rfl;exact rT MEMT hk0)|(apply zA (vs:=fv);rfl;exact hqf.len;exact zD MEMT)|(apply zA (vs:=xv);rfl;exact hqx.len;exact zD MEMT));clear hA a;intro a hA)|(refine QT ?_;clear hA a;intro a hA)|refine CT ?_|fail)
  have hS:RSt w0 c bR bW g fu wd (cb b6 103 qz::cb b5 103 xv::cb b4 103 fv::H) _:=⟨oO,cO,oS,cS,sds,hH.perm PMT,hQ⟩
  (refine zJ hA rfl rfl (by decide) (zE rfl rfl rfl (fZ w0 _ _ c g fu wd bR bW f1 l1 x fv xv hfu hS hcp hM hR hqf hqx)) ?_;clear hA hS hH hQ;rintro _ w ⟨rfl,⟨oO,cO,oS,cS,sds,hH,hQ⟩⟩ a hA)
  repeat' (first|(refine XT ?_;apply XE;(first|(apply zA (vs:=qz);rfl;rfl;exact zD MEMT));clear hA a;intro a hA)|(refine QT ?_;clear hA a;intro a hA)|(refine BT ?_;clear hA hH;rintro _ w ⟨bN,rfl,hH⟩ a hA)|(refine SAT (qz) hA hH ?_;clear hH;intro w hH)|refine CT ?_|fail)
  exact wB (vs:=qz) (sz:=5) (.inl rfl) rfl hA rfl rfl rfl hH (zD MEMT) ⟨rfl,WSt.dropL (L:=cb b6 103 qz::cb b5 103 xv::cb b4 103 fv::cb _ 103 qz::cb _ 103 qz::[]) ⟨oO,cO,oS,cS,sds,hH.perm PMT,hQ⟩⟩
end
section
attribute [local irreducible] Code.wp wpList Calls Ex Op1 sat bat blk cb own Go.Fw.mp Go.Fw.mpO Go.Fw.mpI Go.Fw.mpE Go.Fw.itr HS Rd Ret wkD Hp Cl Cls Exit.then Exit.inBlock Exit.noGoto bodyPost Go.Fw.flat wk2 Go.Fw.all Go.Fw.owns wpOp
attribute [local irreducible] sk mpK sko mvO xM xC frz w63 xX ofB vA

theorem Outcome2_spec (w0 w:World) (H:List It) (c:Dx) (g:Grs) (kd:Int) (o:Ow) (v:List Value) (wd:Wd) (bW:Nat) (hS:WSt w0 c bW g wd H w) (hv:OwV c g o v) (hxs:RdV w0 yQ g.xs) (hx1:∀s∈g.xs.l,s.size≤4611686018427387904) :
    Ret Tryz.prog 32 #[.pointer (some (bat bW 0)),.agg v.toArray,.int .i64 o.k,.int .i64 kd] w (fun r w'=>r= .agg (uC (sB g kd o wd)).toArray∧HS w0 noM H w'):=by
  obtain ⟨oO,cO,oS,cS,sds,hH,hQ⟩:=hS
  have hsp:Sp g.xs.o g.xs.l.length:=hxs.1.sp (sz:=1) (zH wC _) (by omega)
  have hlx:=hxs.le
  (refine ENT (N:=53) Tryz.func32 Tryz.ntmps32 ?_;intro a hA)
  repeat' (first|(refine XT ?_;apply XE;(first|(apply uY (l':=wd.out);rfl;rfl;exact fun w h=>h.own_rd (T:=5) MEMT)|(apply zK (cs:=(xB 1 (ofB wd.out) empS).toArray);rfl;exact FLT;rfl));clear hA a;intro a hA)|(refine QT ?_;clear hA a;intro a hA)|(refine BT ?_;clear hA hH;rintro _ w ⟨bN,rfl,hH⟩ a hA)|(refine SAT (xB 1 (ofB wd.out) empS) hA hH ?_;clear hH;intro w hH)|refine CT ?_|(refine DT ?_ ?_<;>intro hc<;>try (exfalso;omega))|fail)
  all_goals
    obtain ⟨b9,hb9⟩:∃x,x=bN:=⟨_,rfl⟩
    subst hb9
  · obtain ⟨x,rfl⟩:=ow0 (by assumption:o.k=0)
    have hl:=hv.len
    (refine zO [(0,1),(1,1),(2,1),(3,1),(4,1),(5,1),(6,0),(7,1),(8,1),(9,1),(10,1),(11,1)] mixed (by decide +kernel) hH ?_;replace hH:=hH.drew)
    repeat' (first|(refine XT ?_;apply XE;(first|(apply zA (vs:=v);rfl;exact hl;exact zD MEMT));clear hA a;intro a hA)|(refine QT ?_;clear hA a;intro a hA)|fail)
    (refine yC hA rfl rfl rfl (by decide) (zE rfl rfl rfl (Show_spec _ c g kd x v hv (hxs.keep hH.kp))) ?_;clear hA;rintro _ w ⟨rfl,hk⟩;replace hH:=hH.keep hk;clear hk;refine ⟨STT,?_⟩;intro a hA)
    cases ht:uQ g kd x with
    | some s=>
      rw [ht] at hA
      dsimp only [txV] at hA
      repeat' (first|(refine QT ?_;clear hA a;intro a hA)|(apply zT hA rfl rfl;apply zG (cs':=xB 1 (ofB wd.out) s);rfl;rfl;rfl;exact hH;(repeat constructor);clear hH;rintro _ w hH)|(refine SAT (xB 1 (ofB wd.out) s) hA hH ?_;clear hH;intro w hH)|refine CT ?_|fail)
      exact rH (vs:=xB 1 (ofB wd.out) s) (.inl rfl) rfl hA rfl rfl hH (zD MEMT) ⟨by unfold sB;dsimp only;rw [ht];rfl,by repeat (first|exact hH|replace hH:=hH.tail)⟩
    | none=>
      rw [ht] at hA
      dsimp only [txV] at hA
      repeat' (first|(refine QT ?_;clear hA a;intro a hA)|(apply zT hA rfl rfl;apply zG (cs':=xB 1 (ofB wd.out) empS);rfl;rfl;rfl;exact hH;(repeat constructor);clear hH;rintro _ w hH)|(apply zT hA rfl rfl;apply zG (cs':=xB 4 (ofB wd.out) empS);rfl;rfl;rfl;exact hH;(repeat constructor);clear hH;rintro _ w hH)|(refine SAT (xB 4 (ofB wd.out) empS) hA hH ?_;clear hH;intro w hH)|refine CT ?_|fail)
      exact rH (vs:=xB 4 (ofB wd.out) empS) (.inl rfl) rfl hA rfl rfl hH (zD MEMT) ⟨by unfold sB;dsimp only;rw [ht];rfl,by repeat (first|exact hH|replace hH:=hH.tail)⟩
  · obtain ⟨n,rfl⟩:=ow1 (by assumption:o.k=1)
    obtain ⟨rfl,hn0,hn1⟩:=hv
    have hz:(g.xs.l.getD n.toNat default).size≤4611686018427387904:=hx1 _ (xP (by omega))
    (refine zN [(0,1),(1,1),(2,1),(3,1),(4,1),(5,1),(6,1),(7,1),(8,1),(9,1)] [10] mixed (by decide +kernel) hH ?_;replace hH:=hH.drew)
    repeat' (first|(refine XT ?_;apply XE;(first|(apply zC;rfl;rfl;omega;omega;exact hsp)|(apply zF;rfl;refine yG hxs.1 id (vD ?_);omega)|(apply sI (m:=raiseB);rfl;rfl;show 6+_≤_;omega));clear hA a;intro a hA)|(refine QT ?_;clear hA a;intro a hA)|(apply yB hA rfl rfl rfl;apply zG (cs':=xB 1 (ofB wd.out) (raiseB++g.xs.l.getD n.toNat default));rfl;rfl;rfl;exact hH;(repeat constructor);clear hH;rintro _ w hH)|(refine SAT (xB 1 (ofB wd.out) (raiseB++g.xs.l.getD n.toNat default)) hA hH ?_;clear hH;intro w hH)|refine CT ?_|fail)
    exact rH (vs:=xB 1 (ofB wd.out) (raiseB++g.xs.l.getD n.toNat default)) (.inl rfl) rfl hA rfl rfl hH (zD MEMT) ⟨rfl,by repeat (first|exact hH|replace hH:=hH.tail)⟩
  · obtain rfl:=ow2 (by assumption:o.k=2)
    repeat' (first|(refine QT ?_;clear hA a;intro a hA)|(apply zT hA rfl rfl;apply zG (cs':=xB 2 (ofB wd.out) empS);rfl;rfl;rfl;exact hH;(repeat constructor);clear hH;rintro _ w hH)|(refine SAT (xB 2 (ofB wd.out) empS) hA hH ?_;clear hH;intro w hH)|refine CT ?_|fail)
    exact rH (vs:=xB 2 (ofB wd.out) empS) (.inl rfl) rfl hA rfl rfl hH (zD MEMT) ⟨rfl,by repeat (first|exact hH|replace hH:=hH.tail)⟩
  · obtain rfl:=ow3 (by assumption:¬o.k=0) (by assumption) (by assumption)
    repeat' (first|(refine QT ?_;clear hA a;intro a hA)|(apply zT hA rfl rfl;apply zG (cs':=xB 4 (ofB wd.out) empS);rfl;rfl;rfl;exact hH;(repeat constructor);clear hH;rintro _ w hH)|(refine SAT (xB 4 (ofB wd.out) empS) hA hH ?_;clear hH;intro w hH)|refine CT ?_|fail)
    exact rH (vs:=xB 4 (ofB wd.out) empS) (.inl rfl) rfl hA rfl rfl hH (zD MEMT) ⟨rfl,by repeat (first|exact hH|replace hH:=hH.tail)⟩
end
theorem dM {bl:Blc} {x:Int} {i:Nat}:(x∈bl.ps.l∨x∈(bl.is.l.take i).map Ins.x)↔(∃k,k<bl.ps.l.length∧bl.ps.l.getD k 0=x)∨∃k,k<i∧∃j,bl.is.l[k]?=some j∧j.x=x:=by
  constructor
  · rintro (h|h)
    · obtain ⟨k,hk,rfl⟩:=List.getElem_of_mem h
      exact .inl ⟨k,hk,by rw [List.getD_eq_getElem?_getD,List.getElem?_eq_getElem hk];rfl⟩
    · obtain ⟨j,hj,rfl⟩:=List.mem_map.1 h
      obtain ⟨k,hk,rfl⟩:=List.getElem_of_mem hj
      rw [List.length_take] at hk
      exact .inr ⟨k,by omega,_,by rw [List.getElem_take,List.getElem?_eq_getElem (by omega)],rfl⟩
  · rintro (⟨k,hk,rfl⟩| ⟨k,hk,j,hj,rfl⟩)
    · exact .inl (by rw [List.getD_eq_getElem?_getD,List.getElem?_eq_getElem hk];exact List.getElem_mem hk)
    · refine .inr (List.mem_map.2 ⟨j,?_,rfl⟩)
      exact List.mem_of_getElem? (i:=k) (by rw [List.getElem?_take,if_pos hk];exact hj)
section
attribute [local irreducible] Code.wp wpList Calls Ex Op1 sat bat blk cb own Go.Fw.mp Go.Fw.mpO Go.Fw.mpI Go.Fw.mpE Go.Fw.itr HS Rd Ret wkD Hp Cl Cls Exit.then Exit.inBlock Exit.noGoto bodyPost Go.Fw.flat wk2 Go.Fw.all Go.Fw.owns wpOp
attribute [local irreducible] sk mpK sko mvO xM geS xC

theorem pT (w0:World) (v:Vec ByteArray) (hR:RdV w0 yQ v):Ret Tryz.prog 65 #[.slice v.o v.l.length v.c] w0 (fun r w=>∃b,r= .bool b∧(b=true↔gG v.l)∧Kp w0 noM w):=by
  have hH:HS w0 noM [] w0:=HS.init w0 noM
  have hle:=hR.le
  have hsp:Sp v.o v.l.length:=hR.1.sp (sz:=1) (zH wC _) (by omega)
  (refine ENT (N:=31) Tryz.func65 Tryz.ntmps65 ?_;intro a hA)
  repeat' (first|(refine QT ?_;clear hA a;intro a hA)|refine CT ?_|fail)
  refine zU (S:=Nat) (fun i a w=>(i≤v.l.length∧∀k,k<i→risAt v.l k)∧HS w0 noM [] w∧Sl 31 [(3,.int .i64 i),(0,.slice v.o v.l.length v.c)] a) (fun i=>v.l.length - i)
    (fun a w=>gG v.l∧HS w0 noM [] w∧Sl 31 [] a) 0 ⟨⟨Nat.zero_le _,fun k h=>absurd h (Nat.not_lt_zero _)⟩,hH,(hA.sub SBT)⟩ ?_ ?_
  · clear hA hH
    rintro i a w ⟨⟨hi,hris⟩,hH,hA⟩
    by_cases hlt:i<v.l.length
    rotate_left
    · repeat' (first|(refine QT ?_;clear hA a;intro a hA)|refine CT ?_|(refine DT ?_ ?_<;>intro hc<;>try (exfalso;omega))|fail)
      obtain rfl:i=v.l.length:=by omega
      exact ⟨hris,hH,(hA.sub SBT)⟩
    have e1:((i:Int) - 1).toNat=i - 1:=by omega
    repeat' (first|(refine QT ?_;clear hA a;intro a hA)|refine CT ?_|(refine DT ?_ ?_<;>intro hc<;>try (exfalso;omega))|fail)
    (refine zO [(0,1),(1,1),(2,1),(3,1),(4,1),(5,1),(6,1),(7,1),(8,1),(9,1),(10,1),(11,1),(12,1),(13,1),(14,1),(15,1),(16,1),(17,1),(18,1),(19,1),(20,1)] mixed (by decide +kernel) hH ?_;replace hH:=hH.drew)
    repeat' (first|(refine GT ?_ ?_<;>intro hg<;>clear hA a<;>intro a hA<;>(first|exact FA|replace hg:=dTr hg|replace hg:=dFa hg|skip))|(refine XT ?_;apply XE;(first|(apply uK;rfl;rfl)|(apply ex_geqS;rfl;rfl)|(apply zB;rfl;rfl;omega;exact hsp)|(apply zC;rfl;rfl;omega;omega;exact hsp)|(apply zF;rfl;refine yG hR.1 id (vD ?_);omega));clear hA a;intro a hA)|(refine QT ?_;clear hA a;intro a hA)|refine CT ?_|(refine DT ?_ ?_<;>intro hc<;>try (exfalso;omega))|fail)
    all_goals first
      |exact ⟨i+1,⟨⟨hlt,wH hris ⟨by assumption,fun h0=>(by omega)⟩⟩,hH,(hA.sub SBT)⟩,by omega⟩
      |exact ⟨i+1,⟨⟨hlt,wH hris ⟨by assumption,fun h0=>(by rw [←e1];assumption)⟩⟩,hH,(hA.sub SBT)⟩,by omega⟩
      |exact rt1 (.inl rfl) rfl hA rfl ⟨_,rfl,fY hlt (fun h=>absurd ((by assumption:eqS (v.l.getD i default) empS=true).symm.trans h.1) (by decide)),hH.kp⟩
      |exact rt1 (.inl rfl) rfl hA rfl ⟨_,rfl,fY hlt (fun h=>(by have h1:=h.2 (by omega);rw [←e1] at h1;exact absurd ((by assumption:geS (v.l.getD ((i:Int) - 1).toNat default) (v.l.getD i default)=true).symm.trans h1) (by decide))),hH.kp⟩
  clear hA hH
  rintro a w ⟨hris,hH,hA⟩
  repeat' (first|(refine QT ?_;clear hA a;intro a hA)|refine CT ?_|fail)
  exact rt1 (.inl rfl) rfl hA rfl ⟨_,rfl,iff_of_true rfl hris,hH.kp⟩
theorem dI (w0:World) (e:En) (hN:RdV w0 Fw.encI e.ns):Ret Tryz.prog 67 #[.agg (vJ e).toArray] w0 (fun v w=>∃b,v= .bool b∧(b=true↔EndP e)∧Kp w0 noM w):=by
  have hH:HS w0 noM [] w0:=HS.init w0 noM
  have hle:=hN.le
  have hspN:Sp e.ns.o e.ns.l.length:=hN.1.sp (sz:=1) (zH Fw.encI_len _) (by omega)
  (refine ENT (N:=67) Tryz.func67 Tryz.ntmps67 ?_;intro a hA)
  (repeat refine CT ?_)
  (refine BT ?_;clear hA hH;rintro _ w ⟨b1,rfl,hH⟩ a hA)
  have hX:=hH;replace hH:=hH.drop_
  repeat' (first|(refine QT ?_;clear hA a;intro a hA)|refine CT ?_|fail)
  clear hH;have hH:=hX;clear hX
  refine kE (fun a w=>∃ka kt:Int,(1≤e.k∧e.k≤6∧ka=mW e.k∧kt=jQ (IntKind.i64.wrap ((e.ns.l.length:Int)+1)) e.k∧(e.k=6→0<e.ns.l.length))∧HS w0 noM [cb b1 51 (vJ e)] w∧Sl 67 [(3,.int .i64 ka),(4,.int .i64 kt),(1,.pointer (some (bat b1 0))),(2,.bool false)] a) ?_ ?_
  · repeat' (first|(refine XT ?_;apply XE;(first|(apply ex_addW;rfl;rfl));clear hA a;intro a hA)|(refine QT ?_;clear hA a;intro a hA)|refine CT ?_|(refine DT ?_ ?_<;>intro hc<;>try (exfalso;omega))|fail)
    all_goals first
      | (have hk:e.k=1:=by assumption
         exact ⟨1,0,⟨by omega,by omega,by rw [hk];rfl,by rw [hk];rfl,by omega⟩,hH,(hA.sub SBT)⟩)
      | (have hk:e.k=2:=by assumption
         exact ⟨2,0,⟨by omega,by omega,by rw [hk];rfl,by rw [hk];rfl,by omega⟩,hH,(hA.sub SBT)⟩)
      | (have hk:e.k=3:=by assumption
         exact ⟨1,0,⟨by omega,by omega,by rw [hk];rfl,by rw [hk];rfl,by omega⟩,hH,(hA.sub SBT)⟩)
      | (have hk:e.k=4:=by assumption
         exact ⟨0,1,⟨by omega,by omega,by rw [hk];rfl,by rw [hk];rfl,by omega⟩,hH,(hA.sub SBT)⟩)
      | (have hk:e.k=5:=by assumption
         exact ⟨1,2,⟨by omega,by omega,by rw [hk];rfl,by rw [hk];rfl,by omega⟩,hH,(hA.sub SBT)⟩)
      | (have hk:e.k=6:=by assumption
         exact ⟨1,IntKind.i64.wrap ((e.ns.l.length:Int)+1),⟨by omega,by omega,by rw [hk];rfl,by rw [hk];rfl,by omega⟩,hH,(hA.sub SBT)⟩)
      | (have hk:e.k=6:=by assumption
         exact rt1 (.inl rfl) rfl hA rfl ⟨_,rfl,sR (fun h=>by have:=h.ns.1 hk;omega),hH.kp⟩)
      |exact rt1 (.inl rfl) rfl hA rfl ⟨_,rfl,sR (fun h=>by have:=h.lo;have:=h.hi;omega),hH.kp⟩
  clear hA hH
  rintro a w ⟨ka,kt,⟨hk1,hk2,ha0,ht0,hs0⟩,hH,hA⟩
  repeat' (first|(refine QT ?_;clear hA a;intro a hA)|refine CT ?_|fail)
  refine zU (S:=Nat) (fun i a w=>(i≤e.ns.l.length∧(0<i→e.k=6)∧∀k,k<i→upAt e.ns.l k)∧HS w0 noM [cb b1 51 (vJ e)] w∧Sl 67 [(5,.int .i64 i),(3,.int .i64 ka),(4,.int .i64 kt),(1,.pointer (some (bat b1 0))),(2,.bool false)] a) (fun i=>e.ns.l.length - i)
    (fun a w=>((0<e.ns.l.length→e.k=6)∧upP e.ns.l)∧HS w0 noM [cb b1 51 (vJ e)] w∧Sl 67 [(3,.int .i64 ka),(4,.int .i64 kt),(1,.pointer (some (bat b1 0))),(2,.bool false)] a) 0 ⟨⟨Nat.zero_le _,fun h=>absurd h (Nat.lt_irrefl _),fun k h=>absurd h (Nat.not_lt_zero _)⟩,hH,(hA.sub SBT)⟩ ?_ ?_
  · clear hA hH
    rintro i a w ⟨⟨hi,hi6,hup⟩,hH,hA⟩
    by_cases hlt:i<e.ns.l.length
    rotate_left
    · obtain rfl:i=e.ns.l.length:=by omega
      repeat' (first|(refine QT ?_;clear hA a;intro a hA)|refine CT ?_|(refine DT ?_ ?_<;>intro hc<;>try (exfalso;omega))|fail)
      exact ⟨⟨hi6,hup⟩,hH,(hA.sub SBT)⟩
    have e1:((i:Int) - 1).toNat=i - 1:=by omega
    repeat' (first|(refine QT ?_;clear hA a;intro a hA)|refine CT ?_|(refine DT ?_ ?_<;>intro hc<;>try (exfalso;omega))|fail)
    (refine zO [(0,1),(1,1),(2,1),(3,1),(4,1),(5,1),(6,1),(7,1),(8,1),(9,1),(10,1),(11,1),(12,1),(13,1),(14,1),(15,1),(16,1),(17,1),(18,1),(19,1),(20,1)] mixed (by decide +kernel) hH ?_;replace hH:=hH.drew)
    repeat' (first|(refine GT ?_ ?_<;>intro hg<;>clear hA a<;>intro a hA<;>(first|exact FA|replace hg:=dTr hg|replace hg:=dFa hg|skip))|(refine XT ?_;apply XE;(first|(apply zB;rfl;rfl;omega;exact hspN)|(apply zC;rfl;rfl;omega;omega;exact hspN)|(apply zF;rfl;refine yG hN.1 id (vS ?_);omega));clear hA a;intro a hA)|(refine QT ?_;clear hA a;intro a hA)|refine CT ?_|(refine DT ?_ ?_<;>intro hc<;>try (exfalso;omega))|fail)
    all_goals first
      |exact ⟨i+1,⟨⟨hlt,fun _=>by omega,kD hup (fun h0=>(by omega))⟩,hH,(hA.sub SBT)⟩,by omega⟩
      |exact ⟨i+1,⟨⟨hlt,fun _=>by omega,kD hup (fun h0=>(by rw [←e1];omega))⟩,hH,(hA.sub SBT)⟩,by omega⟩
      |exact rt1 (.inl rfl) rfl hA rfl ⟨_,rfl,sR (fun h=>(by have h1:=h.ns.2 (by omega);omega)),hH.kp⟩
      |exact rt1 (.inl rfl) rfl hA rfl ⟨_,rfl,sR (fun h=>(by have h1:=h.up i hlt (by omega);rw [←e1] at h1;omega)),hH.kp⟩
  clear hA hH
  rintro a w ⟨⟨hn6,hup⟩,hH,hA⟩
  repeat' (first|(refine GT ?_ ?_<;>intro hg<;>clear hA a<;>intro a hA<;>(first|exact FA|replace hg:=dTr hg|replace hg:=dFa hg|skip))|(refine QT ?_;clear hA a;intro a hA)|refine CT ?_|fail)
  all_goals first
    |exact rt1 (.inl rfl) rfl hA rfl ⟨_,rfl,⟨fun h=>⟨hk1,hk2,by omega,by have:=dTr h;omega,⟨hs0,hn6⟩,hup⟩,fun h=>decide_eq_true (by have:=h.to;omega)⟩,hH.kp⟩
    |exact rt1 (.inl rfl) rfl hA rfl ⟨_,rfl,sR (fun h=>by have:=h.a;omega),hH.kp⟩
theorem jX (w0:World) (bl:Blc) (x:Int) (n:Nat) (hP:RdV w0 Fw.encI bl.ps) (hI:RdV w0 wV bl.is):Ret Tryz.prog 70 #[.agg (zL bl).toArray,.int .i64 x,.int .i64 n] w0 (fun v w=>∃b,v= .bool b∧(b=true↔x∈bl.ps.l∨x∈(bl.is.l.take n).map Ins.x)∧Kp w0 noM w):=by
  have hH:HS w0 noM [] w0:=HS.init w0 noM
  have hle:=hP.le
  have hle2:=hI.le
  have hspP:Sp bl.ps.o bl.ps.l.length:=hP.1.sp (sz:=1) (zH Fw.encI_len _) (by omega)
  have hspI:Sp bl.is.o bl.is.l.length:=hI.1.sp (sz:=5) (zH xY _) (by omega)
  (refine ENT (N:=43) Tryz.func70 Tryz.ntmps70 ?_;intro a hA)
  repeat' (first|(refine QT ?_;clear hA a;intro a hA)|(refine BT ?_;clear hA hH;rintro _ w ⟨bN,rfl,hH⟩ a hA)|refine CT ?_|fail)
  obtain ⟨b3,hb3⟩:∃x,x=bN:=⟨_,rfl⟩
  rw [←hb3] at hA hH
  clear hb3 bN
  refine zU (S:=Nat) (fun i a w=>(i≤bl.ps.l.length∧∀k,k<i→¬bl.ps.l.getD k 0=x)∧HS w0 noM [cb b3 53 (zL bl)] w∧Sl 43 [(7,.int .i64 i),(3,.pointer (some (bat b3 0))),(1,.int .i64 x),(2,.int .i64 n),(6,.bool false)] a) (fun i=>bl.ps.l.length - i)
    (fun a w=>(∀k,k<bl.ps.l.length→¬bl.ps.l.getD k 0=x)∧HS w0 noM [cb b3 53 (zL bl)] w∧Sl 43 [(3,.pointer (some (bat b3 0))),(1,.int .i64 x),(2,.int .i64 n),(6,.bool false)] a) 0 ⟨⟨Nat.zero_le _,fun k h=>absurd h (Nat.not_lt_zero _)⟩,hH,(hA.sub SBT)⟩ ?_ ?_
  · clear hA hH
    rintro i a w ⟨⟨hi,hno⟩,hH,hA⟩
    by_cases hlt:i<bl.ps.l.length
    rotate_left
    · repeat' (first|(refine QT ?_;clear hA a;intro a hA)|refine CT ?_|(refine DT ?_ ?_<;>intro hc<;>try (exfalso;omega))|fail)
      obtain rfl:i=bl.ps.l.length:=by omega
      exact ⟨hno,hH,(hA.sub SBT)⟩
    repeat' (first|(refine XT ?_;apply XE;(first|(apply zB;rfl;rfl;omega;exact hspP)|(apply zF;rfl;refine yG hP.1 id (vS ?_);omega));clear hA a;intro a hA)|(refine QT ?_;clear hA a;intro a hA)|refine CT ?_|(refine DT ?_ ?_<;>intro hc<;>try (exfalso;omega))|fail)
    · exact rt1 (.inl rfl) rfl hA rfl ⟨_,rfl,iff_of_true rfl (dM.2 (.inl ⟨i,hlt,by assumption⟩)),hH.kp⟩
    · exact ⟨i+1,⟨⟨hlt,wH hno (by assumption)⟩,hH,(hA.sub SBT)⟩,by omega⟩
  clear hA hH
  rintro a w ⟨hno,hH,hA⟩
  repeat' (first|(refine QT ?_;clear hA a;intro a hA)|refine CT ?_|fail)
  refine zU (S:=Nat) (fun i a w=>(i≤bl.is.l.length∧i≤n∧∀k,k<i→∀j,bl.is.l[k]?=some j→¬j.x=x)∧HS w0 noM [cb b3 53 (zL bl)] w∧Sl 43 [(8,.int .i64 i),(3,.pointer (some (bat b3 0))),(1,.int .i64 x),(2,.int .i64 n),(6,.bool false)] a) (fun i=>bl.is.l.length - i)
    (fun a w=>(∀k,k<n→∀j,bl.is.l[k]?=some j→¬j.x=x)∧HS w0 noM [cb b3 53 (zL bl)] w∧Sl 43 [] a) 0 ⟨⟨Nat.zero_le _,Nat.zero_le _,fun k h=>absurd h (Nat.not_lt_zero _)⟩,hH,(hA.sub SBT)⟩ ?_ ?_
  · clear hA hH
    rintro i a w ⟨⟨hi,hin,hno2⟩,hH,hA⟩
    by_cases hlt:i<bl.is.l.length
    rotate_left
    · repeat' (first|(refine GT ?_ ?_<;>intro hg<;>clear hA a<;>intro a hA<;>(first|exact FA|replace hg:=dTr hg|replace hg:=dFa hg|skip))|(refine QT ?_;clear hA a;intro a hA)|refine CT ?_|fail)
      obtain rfl:i=bl.is.l.length:=by omega
      exact ⟨fun k hk j hj=>hno2 k (List.getElem?_eq_some_iff.1 hj).1 j hj,hH,(hA.sub SBT)⟩
    obtain ⟨j,hj⟩:∃x,bl.is.l[i]?=some x:=⟨_,List.getElem?_eq_getElem hlt⟩
    have hvj:(flat wV bl.is.l)[i*5+0]?=some (.int .i64 j.x):=yL (off:=0) xY hj rfl
    repeat' (first|(refine GT ?_ ?_<;>intro hg<;>clear hA a<;>intro a hA<;>(first|exact FA|replace hg:=dTr hg|replace hg:=dFa hg|skip))|(refine XT ?_;apply XE;(first|(apply zB;rfl;rfl;omega;exact hspI)|(apply zF;rfl;exact yG hI.1 id hvj));clear hA a;intro a hA)|(refine QT ?_;clear hA a;intro a hA)|refine CT ?_|(refine DT ?_ ?_<;>intro hc<;>try (exfalso;omega))|fail)
    all_goals first
      |exact rt1 (.inl rfl) rfl hA rfl ⟨_,rfl,iff_of_true rfl (dM.2 (.inr ⟨i,by omega,j,hj,by assumption⟩)),hH.kp⟩
      |exact ⟨i+1,⟨⟨hlt,by omega,wH (p:=fun k=>∀j,bl.is.l[k]?=some j→¬j.x=x) hno2 (fun j' hj'=>by rw [hj] at hj';cases hj';assumption)⟩,hH,(hA.sub SBT)⟩,by omega⟩
      | (obtain rfl:i=n:=by omega
         exact ⟨hno2,hH,(hA.sub SBT)⟩)
  clear hA hH
  rintro a w ⟨hno2,hH,hA⟩
  repeat' (first|(refine QT ?_;clear hA a;intro a hA)|refine CT ?_|fail)
  exact rt1 (.inl rfl) rfl hA rfl ⟨_,rfl,⟨fun h=>(by cases h),fun h=>(by
    rcases dM.1 h with ⟨k,hk,e⟩| ⟨k,hk,j,hj,e⟩
    · exact absurd e (hno k hk)
    · exact absurd e (hno2 k hk j hj))⟩,hH.kp⟩
end
end Go.Proofs.YtenlcdokaadobaaGreatDoor
