/-
  The document's steps with a record's field; its steps that call nothing, all. Conditions: none.
  The document's run of graphs: what is bound, what atoms are. Conditions: none.
  The machine and the document's run (plain): where a step comes to, where a call; what is bound. Conditions: none.
  The document's step, if its call is right. Conditions: none.
  Four results, of which two lie in cells; what a graph of the document's tells. Conditions: none.
-/
import Derived.Test.YtenlcdokaadobaaGreatDoorRowRunsMg8
import Derived.Test.YtenlcdokaadobaaGreatDoorRowRunsMg7
set_option maxHeartbeats 64000000
set_option maxRecDepth 10000
namespace Go.Proofs.YtenlcdokaadobaaGreatDoor
open Go Go.Fw
set_option linter.unusedVariables false
section
attribute [local irreducible] Code.wp wpList Calls Ex Op1 sat bat blk cb own Go.Fw.mp Go.Fw.mpO Go.Fw.mpI Go.Fw.mpE Go.Fw.itr HS Rd Ret wkD Hp Cl Cls Exit.then Exit.inBlock Exit.noGoto bodyPost Go.Fw.flat wk2 Go.Fw.all Go.Fw.owns wpOp
attribute [local irreducible] sk mpK sko mvO xM xC frz w63 xX ofB vA QV QVs

theorem eD (w0 w:World) (H:List It) (c:Dx) (g:Grs) (wd:Wd) (bW:Nat) (r:Stp) (ol:Option Addr) (cl:Nat) (l:List Vl) (vs:List Value) (f:Int) (caps:List Vl) (sc:List Value) (hS:WSt w0 c bW g wd H w) (hP:PlQ w0 c g wd r ol l vs f caps sc) (hk:r.k=7∨r.k=8) :
    Ret Tryz.prog 125 #[.pointer (some (bat bW 0)),.agg (zX r).toArray,.slice ol l.length cl,.agg sc.toArray] w (fun v w'=>RsQ w0 c bW g wd H (yD r l caps wd) v w'):=by
  obtain ⟨oO,cO,oS,cS,sds,hH,hQ⟩:=hS
  obtain ⟨hr,hq,hself,hform,hkind,hl,hst,hout,hxs,hK0,hN,hbn,hbd,hrn,hla⟩:=hP
  have hwant:=hform.want
  rw [←hl] at hwant
  have hlo:=hform.lo
  have hhi:=hform.hi
  have hqn:=hq.len
  have hspL:Sp ol l.length:=(hr w (hH.frz MEMT)).sp (sz:=5) hq.len (by omega)
  have hl1:1≤l.length∧(r.k=7→l.length=2):=by
    rcases hk with hk|hk
    · have:=hwant.trans (w_7 (g:=g) (mine:=0) hk).1;omega
    · have:=hwant.trans (w_8 (g:=g) (mine:=0) hk).1;omega
  obtain ⟨v0,hq0,hc0⟩:=hq.nth (i:=0) (by omega)
  have hvk:=qC hq0 hc0
  by_cases hkd:yW (zS l 0)=4
  rotate_left
  · have hst2:yD r l caps wd=stk wd:=by
      rcases hk with hk|hk
      · rw [pl_7 hk,n_rc hkd]
      · rw [pl_8 hk,n_rc hkd]
    (refine ENT (N:=224) Tryz.func125 Tryz.ntmps125 ?_;intro a hA)
    repeat' (first|(refine XT ?_;apply XE;(first|(apply zC;rfl;rfl;decide;omega;exact hspL)|(apply zF;rfl;exact zP MEMT hr (hvk))|(apply zK (cs:=(qz).toArray);rfl;exact FLT;rfl));clear hA a;intro a hA)|(refine QT ?_;clear hA a;intro a hA)|(refine BT ?_;clear hA hH;rintro _ w ⟨bN,rfl,hH⟩ a hA)|(refine SAT (qz) hA hH ?_;clear hH;intro w hH)|refine CT ?_|(refine DT ?_ ?_<;>intro hc<;>try (exfalso;omega))|fail)
    exact wB (vs:=qz) (.inl rfl) rfl hA rfl rfl rfl hH (zD MEMT) (RsQ.stk hst2 rfl (WSt.drop1 (WSt.drop1 (WSt.drop1 ⟨oO,cO,oS,cS,sds,hH.perm PMT,hQ⟩))))
  obtain ⟨ns,xs,hp⟩:=k_rc hkd
  rw [hp,QV] at hq0
  obtain ⟨on,cn,ox,cx,xvs,rfl,⟨hnl,hnb,hup⟩,hrn2,hrx,hqx⟩:=hq0
  have hc03:=hc0 3 _ rfl
  have hc04:=hc0 4 _ rfl
  have hspN:Sp on ns.length:=(hrn2 w (hH.frz MEMT)).sp (sz:=1) (zH Fw.encI_len _) (by omega)
  have hspX:Sp ox xs.length:=(hrx w (hH.frz MEMT)).sp (sz:=5) hqx.len (by omega)
  (refine ENT (N:=224) Tryz.func125 Tryz.ntmps125 ?_;intro a hA)
  repeat' (first|(refine XT ?_;apply XE;(first|(apply zC;rfl;rfl;decide;omega;exact hspL)|(apply zF;rfl;exact zP MEMT hr (hvk))|(apply zK (cs:=(qk 4 0).toArray);rfl;exact FLT;rfl));clear hA a;intro a hA)|(refine QT ?_;clear hA a;intro a hA)|(refine BT ?_;clear hA hH;rintro _ w ⟨bN,rfl,hH⟩ a hA)|(refine SAT (qk 4 0) hA hH ?_;clear hH;intro w hH)|refine CT ?_|(refine DT ?_ ?_<;>intro hc<;>try (exfalso;omega))|fail)
  obtain ⟨b12,hb12⟩:∃x,x=bN:=⟨_,rfl⟩
  subst hb12
  obtain ⟨b8,b7,b5,hH,hA2⟩:∃b8 b7 b5,HS w0 noM (cb b12 103 (qk 4 0)::cb bW 98 (xE g wd.inp oO wd.out.length cO oS wd.st.length cS)::own 5 1 oO wd.out.length cO (flat zY wd.out)::own 101 1 oS wd.st.length cS (flat Fw.encS sds)::frz w0 c.K::cb b8 103 qz::cb b7 103 sc::cb b5 57 (zX r)::H) w∧Sl 224 [(14,.int .i64 (0:Nat)),(13,.bool false),(12,.pointer (some (bat b12 0))),(9,.int .i64 0),(8,.pointer (some (bat b8 0))),(5,.pointer (some (bat b5 0))),(2,.slice ol l.length cl)] a:=⟨_,_,_,hH.perm PMT,(hA.sub SBT)⟩
  clear hA
-- regions 40,41:a label and its value come behind $1 and $2;$3:whether the new one stands there;$4:cells;$5:that they are the values'
  refine zU (S:=Nat) (fun i a w=>∃oA cA oB cB r1 r2 d cells,(i≤ns.length∧wst (decide (r.k=7)) r.n (zS l 1) ((ns.zip xs).take i)=(r1,r2,d)∧r1.length=r2.length∧(r.k=8→∀k,k<i→ns.getD k 0≠r.n)∧QVs c r2 cells)∧HS w0 noM (cb b12 103 (qc 4 0 empS oA r1.length cA oB r2.length cB)::own 2 1 oA r1.length cA (flat Fw.encI r1)::own 103 5 oB r2.length cB cells::cb bW 98 (xE g wd.inp oO wd.out.length cO oS wd.st.length cS)::own 5 1 oO wd.out.length cO (flat zY wd.out)::own 101 1 oS wd.st.length cS (flat Fw.encS sds)::frz w0 c.K::cb b8 103 qz::cb b7 103 sc::cb b5 57 (zX r)::H) w∧Sl 224 [(14,.int .i64 i),(13,.bool d),(12,.pointer (some (bat b12 0))),(9,.int .i64 0),(8,.pointer (some (bat b8 0))),(5,.pointer (some (bat b5 0))),(2,.slice ol l.length cl)] a) (fun i=>ns.length - i)
    (fun a w=>∃oA cA oB cB r1 r2 d cells,(wst (decide (r.k=7)) r.n (zS l 1) (ns.zip xs)=(r1,r2,d)∧r1.length=r2.length∧r1.length≤ns.length+1∧(r.k=8→∀k,k<ns.length→ns.getD k 0≠r.n)∧QVs c r2 cells)∧HS w0 noM (cb b12 103 (qc 4 0 empS oA r1.length cA oB r2.length cB)::own 2 1 oA r1.length cA (flat Fw.encI r1)::own 103 5 oB r2.length cB cells::cb bW 98 (xE g wd.inp oO wd.out.length cO oS wd.st.length cS)::own 5 1 oO wd.out.length cO (flat zY wd.out)::own 101 1 oS wd.st.length cS (flat Fw.encS sds)::frz w0 c.K::cb b8 103 qz::cb b7 103 sc::cb b5 57 (zX r)::H) w∧Sl 224 [(13,.bool d),(12,.pointer (some (bat b12 0))),(9,.int .i64 0),(8,.pointer (some (bat b8 0))),(5,.pointer (some (bat b5 0))),(2,.slice ol l.length cl)] a) 0
    ⟨none,0,none,0,[],[],false,[],⟨Nat.zero_le _,rfl,rfl,fun _ k h=>absurd h (Nat.not_lt_zero _),by rw [QVs]⟩,((hH.nil_own 103 5).nil_flat Fw.encI 2 1).perm PMT,hA2⟩ ?_ ?_
  · clear hA2 hH
    rintro i a w ⟨oA,cA,oB,cB,r1,r2,d,cells,⟨hi,hws,hrl,h8n,hqs⟩,hH,hA⟩
    have hzl:(ns.zip xs).length=ns.length:=by rw [List.length_zip];omega
    have hwl:=(ws_len (wt:=decide (r.k=7)) (n:=r.n) (y:=zS l 1) ((ns.zip xs).take i) ([],[],false) rfl).2.1
    rw [show List.foldl _ _ _=wst (decide (r.k=7)) r.n (zS l 1) ((ns.zip xs).take i) from rfl,hws,List.length_take] at hwl
    replace hwl:r1.length≤i+1:=by simp at hwl;omega
    by_cases hlt:i<ns.length
    rotate_left
    · obtain rfl:i=ns.length:=by omega
      rw [←hzl,List.take_length] at hws
      repeat' (first|(refine XT ?_;apply XE;(first|(apply zC;rfl;rfl;decide;omega;exact hspL)|(apply zF;rfl;exact zP MEMT hr (hc03)));clear hA a;intro a hA)|(refine QT ?_;clear hA a;intro a hA)|refine CT ?_|(refine DT ?_ ?_<;>intro hc<;>try (exfalso;omega))|fail)
      exact ⟨oA,cA,oB,cB,r1,r2,d,cells,⟨hws,hrl,hwl,h8n,hqs⟩,hH,(hA.sub SBT)⟩
    have hz:=vS hlt
    obtain ⟨xv,hqv,hcv⟩:=hqx.nth (i:=i) (by omega)
    have hnx:=wst_next (wt:=decide (r.k=7)) (n:=r.n) (y:=zS l 1) (zip_at hnl hlt)
    rw [hws] at hnx
    repeat' (first|(refine XT ?_;apply XE;(first|(apply zC;rfl;rfl;decide;omega;exact hspL)|(apply zF;rfl;exact zP MEMT hr (hc03)));clear hA a;intro a hA)|(refine QT ?_;clear hA a;intro a hA)|refine CT ?_|(refine DT ?_ ?_<;>intro hc<;>try (exfalso;omega))|fail)
    (refine zO [(0,1),(1,1),(2,1),(3,1),(4,1),(5,1),(6,1),(7,1),(8,1),(9,1)] mixed (by decide +kernel) hH ?_;replace hH:=hH.drew)
    by_cases hzn:ns.getD i 0=r.n
    · rw [show wT (decide (r.k=7)) r.n (zS l 1) (r1,r2,d) (ns.getD i 0,zS xs i)=(r1,r2,d) by unfold wT;rw [if_pos hzn]] at hnx
      repeat' (first|(refine XT ?_;apply XE;(first|(apply zC;rfl;rfl;decide;omega;exact hspL)|(apply zF;rfl;exact zP MEMT hr (hc03))|(apply zF;rfl;exact zP MEMT hr (hc04))|(apply zB;rfl;rfl;omega;first|exact hspN|exact hspX)|(apply zF;rfl;exact zP MEMT hrn2 hz)|(apply zA (vs:=xv);rfl;exact hqv.len;exact yF MEMT hrx (fun i v h=>hcv i v h)));clear hA a;intro a hA)|(refine QT ?_;clear hA a;intro a hA)|(apply zT hA rfl rfl;apply zI (vs:=xv);rfl;rfl;exact hH;(repeat constructor);exact hqv.len;rfl;exact hqv.one;clear hH;rintro _ w hH)|refine CT ?_|(refine DT ?_ ?_<;>intro hc<;>try (exfalso;omega))|fail)
      · have hbs:=bsB_at hup hlt hzn
        exact wB (vs:=xv) (sz:=5) (.inl rfl) rfl hA rfl rfl hqv.len hH (zD MEMT) (RsQ.same (y:=zS xs i) (by rw [pl_8 (by assumption),hp];dsimp only [asRc];rw [if_pos hbs.2,hbs.1]) rfl hqv (WSt.dropL (L:=[_,_,_,_,_,_]) ⟨oO,cO,oS,cS,sds,hH.perm PMT,hQ⟩))
      · exact ⟨i+1,⟨oA,cA,oB,cB,r1,r2,d,cells,⟨hlt,hnx,hrl,fun h=>absurd h (by assumption),hqs⟩,hH,(hA.sub SBT)⟩,by omega⟩
    · repeat' (first|(refine XT ?_;apply XE;(first|(apply zC;rfl;rfl;decide;omega;exact hspL)|(apply zF;rfl;exact zP MEMT hr (hc03))|(apply zB;rfl;rfl;omega;first|exact hspN|exact hspX)|(apply zF;rfl;exact zP MEMT hrn2 hz));clear hA a;intro a hA)|(refine QT ?_;clear hA a;intro a hA)|refine CT ?_|(refine DT ?_ ?_<;>intro hc<;>try (exfalso;omega))|fail)
      (refine zO [(0,1),(1,1),(2,1),(3,1),(4,1),(5,1),(6,1),(7,1),(8,1),(9,1),(10,1),(11,1),(12,1),(13,1),(14,1),(15,1),(16,1),(17,1),(18,1)] mixed (by decide +kernel) hH ?_;replace hH:=hH.drew)
      have hrm:r1.length≤1000002:=by omega
      cases d with
      | true=>
        rw [show wT (decide (r.k=7)) r.n (zS l 1) (r1,r2,true) (ns.getD i 0,zS xs i)=(r1++[ns.getD i 0],r2++[zS xs i],true) by unfold wT;rw [if_neg hzn,if_neg (fun h=>by cases h.1.2)]] at hnx
        repeat' (first|(refine GT ?_ ?_<;>intro hg<;>clear hA a<;>intro a hA<;>(first|exact FA|replace hg:=dTr hg|replace hg:=dFa hg|skip))|(refine QT ?_;clear hA a;intro a hA)|refine CT ?_|fail)
        all_goals
          replace hH:=hH.perm (H':=cb b12 103 (qc 4 0 empS oA (r1).length cA oB (r2).length cB)::frz w0 c.K::own 2 1 oA (r1).length cA (flat Fw.encI (r1))::own 103 5 oB (r2).length cB (cells)::cb bW 98 (xE g wd.inp oO wd.out.length cO oS wd.st.length cS)::own 5 1 oO wd.out.length cO (flat zY wd.out)::own 101 1 oS wd.st.length cS (flat Fw.encS sds)::cb b8 103 qz::cb b7 103 sc::cb b5 57 (zX r)::H) PMT
          have hST:HS w0 noM [cb b12 103 (qc 4 0 empS oA (r1).length cA oB (r2).length cB),frz w0 c.K] _:=HS.left (H1:=[_,_]) hH
          (refine zN (H:=[_,_]) [(0,1),(1,1),(2,1),(3,1),(4,1),(5,1),(6,1),(7,1),(8,1),(9,0),(10,0),(11,1)] [12] mixed (by decide +kernel) (hST) ?_;replace hH:=hH.drew)
          clear hST
          repeat' (first|(refine XT ?_;apply XE;(first|(apply zC;rfl;rfl;decide;omega;exact hspL)|(apply zF;rfl;exact zP MEMT hr (hc03))|(apply zB;rfl;rfl;omega;first|exact hspN|exact hspX)|(apply zF;rfl;exact zP MEMT hrn2 hz));clear hA a;intro a hA)|(refine QT ?_;clear hA a;intro a hA)|(refine DLT ?_;clear hA hH;rintro _ w ⟨oN,rfl,hH⟩;refine ⟨STT,?_⟩;intro a hA)|fail)
          (apply yC hA rfl rfl rfl (by decide);apply zQ;rfl;rfl;exact CATST;rfl;rfl;rfl;exact hH;clear hA hH;rintro _ w ⟨oN,rfl,hH⟩;refine ⟨HS.left (H1:=[_,_]) hH.tail,?_⟩;intro a hA)
          (apply yC hA rfl rfl rfl (by decide);apply yE;rfl;rfl;exact hH;exact MEMT;exact (hH.own_rd (List.Mem.head _));exact rfl;rfl;decide;exact rfl;(unfold maxLen;omega);omega;clear hA;rintro _ w ⟨oN,cN,rfl,hH2⟩;clear hH;have hH:=hH2 _ (by (repeat constructor));clear hH2;refine ⟨HS.left (H1:=[_,_]) hH.tail,?_⟩;intro a hA)
          rw [uJ] at hH
          obtain ⟨oC,hoC⟩:∃x,x=oN:=⟨_,rfl⟩
          subst hoC
          obtain ⟨cC,hcC⟩:∃x,x=cN:=⟨_,rfl⟩
          subst hcC
          repeat' (first|(refine QT ?_;clear hA a;intro a hA)|(apply yB hA rfl rfl rfl;apply zG (cs':=qc 4 0 empS oC ((r1).length+1) cC oB (r2).length cB);rfl;rfl;rfl;exact hH;(repeat constructor);clear hH;rintro _ w hH)|refine CT ?_|fail)
          replace hH:=hH.tail
          have hST:HS w0 noM [cb b12 103 (qc 4 0 empS oC ((r1).length+1) cC oB (r2).length cB),frz w0 c.K] _:=HS.left (H1:=[_,_]) hH
          (refine zN (H:=[_,_]) [(0,1),(1,1),(2,1),(3,1),(4,1),(5,1),(6,1),(7,1),(8,1),(9,0),(10,0),(11,1)] [12] mixed (by decide +kernel) (hST) ?_;replace hH:=hH.drew)
          clear hST
          repeat' (first|(refine XT ?_;apply XE;(first|(apply zC;rfl;rfl;decide;omega;exact hspL)|(apply zF;rfl;exact zP MEMT hr (hc04))|(apply zB;rfl;rfl;omega;first|exact hspN|exact hspX)|(apply zA (vs:=xv);rfl;exact hqv.len;exact yF MEMT hrx (fun i v h=>hcv i v h)));clear hA a;intro a hA)|(refine QT ?_;clear hA a;intro a hA)|fail)
          (apply yC hA rfl rfl rfl (by decide);apply zQ (xs:=xv) (vs:=[.agg xv.toArray]);rfl;rfl;exact rU hqv.len;rfl;rfl;rfl;exact hH;clear hA hH;rintro _ w ⟨oN,rfl,hH⟩;refine ⟨HS.left (H1:=[_,_]) hH.tail,?_⟩;intro a hA)
          (apply yC hA rfl rfl rfl (by decide);apply yE;rfl;rfl;exact hH;exact MEMT;exact (hH.own_rd (List.Mem.head _));exact hqv.len;rfl;decide;exact hqv.one;(unfold maxLen;omega);omega;clear hA;rintro _ w ⟨oN,cN,rfl,hH2⟩;clear hH;have hH:=hH2 _ (by (repeat constructor));clear hH2;refine ⟨HS.left (H1:=[_,_]) hH.tail,?_⟩;intro a hA)
          repeat' (first|(refine QT ?_;clear hA a;intro a hA)|(apply yB hA rfl rfl rfl;apply zG (cs':=qc 4 0 empS oC ((r1).length+1) cC oN ((r2).length+1) cN);rfl;rfl;rfl;exact hH;(repeat constructor);clear hH;rintro _ w hH)|refine CT ?_|fail)
          replace hH:=hH.tail
          exact ⟨i+1,⟨oC,cC,oN,cN,(r1)++[ns.getD i 0],(r2)++[zS xs i],true,(cells)++xv,⟨hlt,hnx,by rw [xH (r1) (ns.getD i 0),xH (r2) (zS xs i)];omega,fun h8=>wH (p:=fun k=>ns.getD k 0≠r.n) (h8n h8) hzn,QVs.snoc hqv (hqs)⟩,(by rw [xH (r1) (ns.getD i 0),xH (r2) (zS xs i)];exact hH.perm PMT),(hA.sub SBT)⟩,by omega⟩
      | false=>
        repeat' (first|(refine GT ?_ ?_<;>intro hg<;>clear hA a<;>intro a hA<;>(first|exact FA|replace hg:=dTr hg|replace hg:=dFa hg|skip))|(refine XT ?_;apply XE;(first|(apply zC;rfl;rfl;decide;omega;exact hspL)|(apply zF;rfl;exact zP MEMT hr (hc03))|(apply zB;rfl;rfl;omega;first|exact hspN|exact hspX)|(apply zF;rfl;exact zP MEMT hrn2 hz));clear hA a;intro a hA)|(refine QT ?_;clear hA a;intro a hA)|(refine LT ?_;clear hA hH;rintro _ w ⟨oN,rfl,hH⟩ a hA)|(refine AT ?_;clear hA;rintro _ w ⟨oN,cN,rfl,hH2⟩ a hA;clear hH;have hH:=(hH2 _ (by (repeat constructor))).tail;clear hH2)|(apply zT hA rfl rfl;apply zG (cs':=qc 4 0 empS oN (r1.length+1) cN oB r2.length cB);rfl;rfl;rfl;exact hH;(repeat constructor);clear hH;rintro _ w hH)|refine CT ?_|(refine DT ?_ ?_<;>intro hc<;>try (exfalso;omega))|fail)
        rotate_left
        · rw [show wT (decide (r.k=7)) r.n (zS l 1) (r1,r2,false) (ns.getD i 0,zS xs i)=(r1++[ns.getD i 0],r2++[zS xs i],false) by unfold wT;rw [if_neg hzn,if_neg (fun h=>absurd h.2 (by assumption))]] at hnx
          replace hH:=hH.perm (H':=cb b12 103 (qc 4 0 empS oA (r1).length cA oB (r2).length cB)::frz w0 c.K::own 2 1 oA (r1).length cA (flat Fw.encI (r1))::own 103 5 oB (r2).length cB (cells)::cb bW 98 (xE g wd.inp oO wd.out.length cO oS wd.st.length cS)::own 5 1 oO wd.out.length cO (flat zY wd.out)::own 101 1 oS wd.st.length cS (flat Fw.encS sds)::cb b8 103 qz::cb b7 103 sc::cb b5 57 (zX r)::H) PMT
          have hST:HS w0 noM [cb b12 103 (qc 4 0 empS oA (r1).length cA oB (r2).length cB),frz w0 c.K] _:=HS.left (H1:=[_,_]) hH
          (refine zN (H:=[_,_]) [(0,1),(1,1),(2,1),(3,1),(4,1),(5,1),(6,1),(7,1),(8,1),(9,0),(10,0),(11,1)] [12] mixed (by decide +kernel) (hST) ?_;replace hH:=hH.drew)
          clear hST
          repeat' (first|(refine XT ?_;apply XE;(first|(apply zC;rfl;rfl;decide;omega;exact hspL)|(apply zF;rfl;exact zP MEMT hr (hc03))|(apply zB;rfl;rfl;omega;first|exact hspN|exact hspX)|(apply zF;rfl;exact zP MEMT hrn2 hz));clear hA a;intro a hA)|(refine QT ?_;clear hA a;intro a hA)|(refine DLT ?_;clear hA hH;rintro _ w ⟨oN,rfl,hH⟩;refine ⟨STT,?_⟩;intro a hA)|fail)
          (apply yC hA rfl rfl rfl (by decide);apply zQ;rfl;rfl;exact CATST;rfl;rfl;rfl;exact hH;clear hA hH;rintro _ w ⟨oN,rfl,hH⟩;refine ⟨HS.left (H1:=[_,_]) hH.tail,?_⟩;intro a hA)
          (apply yC hA rfl rfl rfl (by decide);apply yE;rfl;rfl;exact hH;exact MEMT;exact (hH.own_rd (List.Mem.head _));exact rfl;rfl;decide;exact rfl;(unfold maxLen;omega);omega;clear hA;rintro _ w ⟨oN,cN,rfl,hH2⟩;clear hH;have hH:=hH2 _ (by (repeat constructor));clear hH2;refine ⟨HS.left (H1:=[_,_]) hH.tail,?_⟩;intro a hA)
          rw [uJ] at hH
          obtain ⟨oC,hoC⟩:∃x,x=oN:=⟨_,rfl⟩
          subst hoC
          obtain ⟨cC,hcC⟩:∃x,x=cN:=⟨_,rfl⟩
          subst hcC
          repeat' (first|(refine QT ?_;clear hA a;intro a hA)|(apply yB hA rfl rfl rfl;apply zG (cs':=qc 4 0 empS oC ((r1).length+1) cC oB (r2).length cB);rfl;rfl;rfl;exact hH;(repeat constructor);clear hH;rintro _ w hH)|refine CT ?_|fail)
          replace hH:=hH.tail
          have hST:HS w0 noM [cb b12 103 (qc 4 0 empS oC ((r1).length+1) cC oB (r2).length cB),frz w0 c.K] _:=HS.left (H1:=[_,_]) hH
          (refine zN (H:=[_,_]) [(0,1),(1,1),(2,1),(3,1),(4,1),(5,1),(6,1),(7,1),(8,1),(9,0),(10,0),(11,1)] [12] mixed (by decide +kernel) (hST) ?_;replace hH:=hH.drew)
          clear hST
          repeat' (first|(refine XT ?_;apply XE;(first|(apply zC;rfl;rfl;decide;omega;exact hspL)|(apply zF;rfl;exact zP MEMT hr (hc04))|(apply zB;rfl;rfl;omega;first|exact hspN|exact hspX)|(apply zA (vs:=xv);rfl;exact hqv.len;exact yF MEMT hrx (fun i v h=>hcv i v h)));clear hA a;intro a hA)|(refine QT ?_;clear hA a;intro a hA)|fail)
          (apply yC hA rfl rfl rfl (by decide);apply zQ (xs:=xv) (vs:=[.agg xv.toArray]);rfl;rfl;exact rU hqv.len;rfl;rfl;rfl;exact hH;clear hA hH;rintro _ w ⟨oN,rfl,hH⟩;refine ⟨HS.left (H1:=[_,_]) hH.tail,?_⟩;intro a hA)
          (apply yC hA rfl rfl rfl (by decide);apply yE;rfl;rfl;exact hH;exact MEMT;exact (hH.own_rd (List.Mem.head _));exact hqv.len;rfl;decide;exact hqv.one;(unfold maxLen;omega);omega;clear hA;rintro _ w ⟨oN,cN,rfl,hH2⟩;clear hH;have hH:=hH2 _ (by (repeat constructor));clear hH2;refine ⟨HS.left (H1:=[_,_]) hH.tail,?_⟩;intro a hA)
          repeat' (first|(refine QT ?_;clear hA a;intro a hA)|(apply yB hA rfl rfl rfl;apply zG (cs':=qc 4 0 empS oC ((r1).length+1) cC oN ((r2).length+1) cN);rfl;rfl;rfl;exact hH;(repeat constructor);clear hH;rintro _ w hH)|refine CT ?_|fail)
          replace hH:=hH.tail
          exact ⟨i+1,⟨oC,cC,oN,cN,(r1)++[ns.getD i 0],(r2)++[zS xs i],false,(cells)++xv,⟨hlt,hnx,by rw [xH (r1) (ns.getD i 0),xH (r2) (zS xs i)];omega,fun h8=>wH (p:=fun k=>ns.getD k 0≠r.n) (h8n h8) hzn,QVs.snoc hqv (hqs)⟩,(by rw [xH (r1) (ns.getD i 0),xH (r2) (zS xs i)];exact hH.perm PMT),(hA.sub SBT)⟩,by omega⟩
        · rw [show wT (decide (r.k=7)) r.n (zS l 1) (r1,r2,false) (ns.getD i 0,zS xs i)=(r1++[ns.getD i 0],r2++[zS xs i],false) by unfold wT;rw [if_neg hzn,if_neg (fun h=>absurd (dTr h.1.1) (by assumption))]] at hnx
          replace hH:=hH.perm (H':=cb b12 103 (qc 4 0 empS oA (r1).length cA oB (r2).length cB)::frz w0 c.K::own 2 1 oA (r1).length cA (flat Fw.encI (r1))::own 103 5 oB (r2).length cB (cells)::cb bW 98 (xE g wd.inp oO wd.out.length cO oS wd.st.length cS)::own 5 1 oO wd.out.length cO (flat zY wd.out)::own 101 1 oS wd.st.length cS (flat Fw.encS sds)::cb b8 103 qz::cb b7 103 sc::cb b5 57 (zX r)::H) PMT
          have hST:HS w0 noM [cb b12 103 (qc 4 0 empS oA (r1).length cA oB (r2).length cB),frz w0 c.K] _:=HS.left (H1:=[_,_]) hH
          (refine zN (H:=[_,_]) [(0,1),(1,1),(2,1),(3,1),(4,1),(5,1),(6,1),(7,1),(8,1),(9,0),(10,0),(11,1)] [12] mixed (by decide +kernel) (hST) ?_;replace hH:=hH.drew)
          clear hST
          repeat' (first|(refine XT ?_;apply XE;(first|(apply zC;rfl;rfl;decide;omega;exact hspL)|(apply zF;rfl;exact zP MEMT hr (hc03))|(apply zB;rfl;rfl;omega;first|exact hspN|exact hspX)|(apply zF;rfl;exact zP MEMT hrn2 hz));clear hA a;intro a hA)|(refine QT ?_;clear hA a;intro a hA)|(refine DLT ?_;clear hA hH;rintro _ w ⟨oN,rfl,hH⟩;refine ⟨STT,?_⟩;intro a hA)|fail)
          (apply yC hA rfl rfl rfl (by decide);apply zQ;rfl;rfl;exact CATST;rfl;rfl;rfl;exact hH;clear hA hH;rintro _ w ⟨oN,rfl,hH⟩;refine ⟨HS.left (H1:=[_,_]) hH.tail,?_⟩;intro a hA)
          (apply yC hA rfl rfl rfl (by decide);apply yE;rfl;rfl;exact hH;exact MEMT;exact (hH.own_rd (List.Mem.head _));exact rfl;rfl;decide;exact rfl;(unfold maxLen;omega);omega;clear hA;rintro _ w ⟨oN,cN,rfl,hH2⟩;clear hH;have hH:=hH2 _ (by (repeat constructor));clear hH2;refine ⟨HS.left (H1:=[_,_]) hH.tail,?_⟩;intro a hA)
          rw [uJ] at hH
          obtain ⟨oC,hoC⟩:∃x,x=oN:=⟨_,rfl⟩
          subst hoC
          obtain ⟨cC,hcC⟩:∃x,x=cN:=⟨_,rfl⟩
          subst hcC
          repeat' (first|(refine QT ?_;clear hA a;intro a hA)|(apply yB hA rfl rfl rfl;apply zG (cs':=qc 4 0 empS oC ((r1).length+1) cC oB (r2).length cB);rfl;rfl;rfl;exact hH;(repeat constructor);clear hH;rintro _ w hH)|refine CT ?_|fail)
          replace hH:=hH.tail
          have hST:HS w0 noM [cb b12 103 (qc 4 0 empS oC ((r1).length+1) cC oB (r2).length cB),frz w0 c.K] _:=HS.left (H1:=[_,_]) hH
          (refine zN (H:=[_,_]) [(0,1),(1,1),(2,1),(3,1),(4,1),(5,1),(6,1),(7,1),(8,1),(9,0),(10,0),(11,1)] [12] mixed (by decide +kernel) (hST) ?_;replace hH:=hH.drew)
          clear hST
          repeat' (first|(refine XT ?_;apply XE;(first|(apply zC;rfl;rfl;decide;omega;exact hspL)|(apply zF;rfl;exact zP MEMT hr (hc04))|(apply zB;rfl;rfl;omega;first|exact hspN|exact hspX)|(apply zA (vs:=xv);rfl;exact hqv.len;exact yF MEMT hrx (fun i v h=>hcv i v h)));clear hA a;intro a hA)|(refine QT ?_;clear hA a;intro a hA)|fail)
          (apply yC hA rfl rfl rfl (by decide);apply zQ (xs:=xv) (vs:=[.agg xv.toArray]);rfl;rfl;exact rU hqv.len;rfl;rfl;rfl;exact hH;clear hA hH;rintro _ w ⟨oN,rfl,hH⟩;refine ⟨HS.left (H1:=[_,_]) hH.tail,?_⟩;intro a hA)
          (apply yC hA rfl rfl rfl (by decide);apply yE;rfl;rfl;exact hH;exact MEMT;exact (hH.own_rd (List.Mem.head _));exact hqv.len;rfl;decide;exact hqv.one;(unfold maxLen;omega);omega;clear hA;rintro _ w ⟨oN,cN,rfl,hH2⟩;clear hH;have hH:=hH2 _ (by (repeat constructor));clear hH2;refine ⟨HS.left (H1:=[_,_]) hH.tail,?_⟩;intro a hA)
          repeat' (first|(refine QT ?_;clear hA a;intro a hA)|(apply yB hA rfl rfl rfl;apply zG (cs':=qc 4 0 empS oC ((r1).length+1) cC oN ((r2).length+1) cN);rfl;rfl;rfl;exact hH;(repeat constructor);clear hH;rintro _ w hH)|refine CT ?_|fail)
          replace hH:=hH.tail
          exact ⟨i+1,⟨oC,cC,oN,cN,(r1)++[ns.getD i 0],(r2)++[zS xs i],false,(cells)++xv,⟨hlt,hnx,by rw [xH (r1) (ns.getD i 0),xH (r2) (zS xs i)];omega,fun h8=>wH (p:=fun k=>ns.getD k 0≠r.n) (h8n h8) hzn,QVs.snoc hqv (hqs)⟩,(by rw [xH (r1) (ns.getD i 0),xH (r2) (zS xs i)];exact hH.perm PMT),(hA.sub SBT)⟩,by omega⟩
        have hk7:r.k=7:=by assumption
        rw [show wT (decide (r.k=7)) r.n (zS l 1) (r1,r2,false) (ns.getD i 0,zS xs i)=((r1++[r.n])++[ns.getD i 0],(r2++[zS l 1])++[zS xs i],true) by unfold wT;rw [if_neg hzn,if_pos ⟨⟨decide_eq_true hk7,rfl⟩,(by assumption)⟩]] at hnx
        obtain ⟨yv,hqy,hcy⟩:=hq.nth (i:=1) (by have:=hl1.2 hk7;omega)
        have hl2:=hl1.2 hk7
        rw [uJ] at hH
        obtain ⟨oC,hoC⟩:∃x,x=oN:=⟨_,rfl⟩
        subst hoC
        obtain ⟨cC,hcC⟩:∃x,x=cN:=⟨_,rfl⟩
        subst hcC
        replace hH:=hH.perm (H':=cb b12 103 (qc 4 0 empS oC (r1.length+1) cC oB r2.length cB)::frz w0 c.K::own 2 1 oC (r1.length+1) cC (flat Fw.encI (r1++[r.n]))::own 103 5 oB r2.length cB cells::cb bW 98 (xE g wd.inp oO wd.out.length cO oS wd.st.length cS)::own 5 1 oO wd.out.length cO (flat zY wd.out)::own 101 1 oS wd.st.length cS (flat Fw.encS sds)::cb b8 103 qz::cb b7 103 sc::cb b5 57 (zX r)::H) PMT
        have hST:HS w0 noM [cb b12 103 (qc 4 0 empS oC (r1.length+1) cC oB r2.length cB),frz w0 c.K] _:=HS.left (H1:=[_,_]) hH
        (refine zN (H:=[_,_]) [(0,1),(1,1),(2,1),(3,1),(4,1),(5,0),(6,0),(7,1)] [8] mixed (by decide +kernel) (hST) ?_;replace hH:=hH.drew)
        clear hST
        repeat' (first|(refine XT ?_;apply XE;(first|(apply zC;rfl;rfl;decide;omega;exact hspL)|(apply zA (vs:=yv);rfl;exact hqy.len;exact yF MEMT hr (fun i v h=>hcy i v h)));clear hA a;intro a hA)|(refine QT ?_;clear hA a;intro a hA)|fail)
        (apply yC hA rfl rfl rfl (by decide);apply zQ (xs:=yv) (vs:=[.agg yv.toArray]);rfl;rfl;exact rU hqy.len;rfl;rfl;rfl;exact hH;clear hA hH;rintro _ w ⟨oN,rfl,hH⟩;refine ⟨HS.left (H1:=[_,_]) hH.tail,?_⟩;intro a hA)
        (apply yC hA rfl rfl rfl (by decide);apply yE;rfl;rfl;exact hH;exact MEMT;exact (hH.own_rd (List.Mem.head _));exact hqy.len;rfl;decide;exact hqy.one;(unfold maxLen;omega);omega;clear hA;rintro _ w ⟨oN,cN,rfl,hH2⟩;clear hH;have hH:=hH2 _ (by (repeat constructor));clear hH2;refine ⟨HS.left (H1:=[_,_]) hH.tail,?_⟩;intro a hA)
        repeat' (first|(refine QT ?_;clear hA a;intro a hA)|(apply yB hA rfl rfl rfl;apply zG (cs':=qc 4 0 empS oC (r1.length+1) cC oN (r2.length+1) cN);rfl;rfl;rfl;exact hH;(repeat constructor);clear hH;rintro _ w hH)|refine CT ?_|fail)
        replace hH:=hH.tail
        have e1:r1.length+1=(r1++[r.n]).length:=by rw [List.length_append];rfl
        have e2:r2.length+1=(r2++[zS l 1]).length:=by rw [List.length_append];rfl
        rw [e1,e2] at hH
        rw [e1,e2] at hA
        have key:∃oA cA oB cB,HS w0 noM (cb b12 103 (qc 4 0 empS oA (r1++[r.n]).length cA oB (r2++[zS l 1]).length cB)::own 2 1 oA (r1++[r.n]).length cA (flat Fw.encI (r1++[r.n]))::own 103 5 oB (r2++[zS l 1]).length cB (cells++yv)::cb bW 98 (xE g wd.inp oO wd.out.length cO oS wd.st.length cS)::own 5 1 oO wd.out.length cO (flat zY wd.out)::own 101 1 oS wd.st.length cS (flat Fw.encS sds)::frz w0 c.K::cb b8 103 qz::cb b7 103 sc::cb b5 57 (zX r)::H) w∧Sl 224 [(14,.int .i64 i),(13,.bool true),(12,.pointer (some (bat b12 0))),(9,.int .i64 0),(8,.pointer (some (bat b8 0))),(5,.pointer (some (bat b5 0))),(2,.slice ol l.length cl)] a:=⟨oC,cC,oN,cN,hH.perm PMT,(hA.sub SBT)⟩
        clear hA hH
        obtain ⟨oA,cA,oB,cB,hH,hA⟩:=key
        replace hH:=hH.perm (H':=cb b12 103 (qc 4 0 empS oA ((r1++[r.n])).length cA oB ((r2++[zS l 1])).length cB)::frz w0 c.K::own 2 1 oA ((r1++[r.n])).length cA (flat Fw.encI ((r1++[r.n])))::own 103 5 oB ((r2++[zS l 1])).length cB ((cells++yv))::cb bW 98 (xE g wd.inp oO wd.out.length cO oS wd.st.length cS)::own 5 1 oO wd.out.length cO (flat zY wd.out)::own 101 1 oS wd.st.length cS (flat Fw.encS sds)::cb b8 103 qz::cb b7 103 sc::cb b5 57 (zX r)::H) PMT
        have hST:HS w0 noM [cb b12 103 (qc 4 0 empS oA ((r1++[r.n])).length cA oB ((r2++[zS l 1])).length cB),frz w0 c.K] _:=HS.left (H1:=[_,_]) hH
        (refine zN (H:=[_,_]) [(0,1),(1,1),(2,1),(3,1),(4,1),(5,1),(6,1),(7,1),(8,1),(9,0),(10,0),(11,1)] [12] mixed (by decide +kernel) (hST) ?_;replace hH:=hH.drew)
        clear hST
        repeat' (first|(refine XT ?_;apply XE;(first|(apply zC;rfl;rfl;decide;omega;exact hspL)|(apply zF;rfl;exact zP MEMT hr (hc03))|(apply zB;rfl;rfl;omega;first|exact hspN|exact hspX)|(apply zF;rfl;exact zP MEMT hrn2 hz));clear hA a;intro a hA)|(refine QT ?_;clear hA a;intro a hA)|(refine DLT ?_;clear hA hH;rintro _ w ⟨oN,rfl,hH⟩;refine ⟨STT,?_⟩;intro a hA)|fail)
        (apply yC hA rfl rfl rfl (by decide);apply zQ;rfl;rfl;exact CATST;rfl;rfl;rfl;exact hH;clear hA hH;rintro _ w ⟨oN,rfl,hH⟩;refine ⟨HS.left (H1:=[_,_]) hH.tail,?_⟩;intro a hA)
        (apply yC hA rfl rfl rfl (by decide);apply yE;rfl;rfl;exact hH;exact MEMT;exact (hH.own_rd (List.Mem.head _));exact rfl;rfl;decide;exact rfl;(unfold maxLen;omega);omega;clear hA;rintro _ w ⟨oN,cN,rfl,hH2⟩;clear hH;have hH:=hH2 _ (by (repeat constructor));clear hH2;refine ⟨HS.left (H1:=[_,_]) hH.tail,?_⟩;intro a hA)
        rw [uJ] at hH
        obtain ⟨oC,hoC⟩:∃x,x=oN:=⟨_,rfl⟩
        subst hoC
        obtain ⟨cC,hcC⟩:∃x,x=cN:=⟨_,rfl⟩
        subst hcC
        repeat' (first|(refine QT ?_;clear hA a;intro a hA)|(apply yB hA rfl rfl rfl;apply zG (cs':=qc 4 0 empS oC (((r1++[r.n])).length+1) cC oB ((r2++[zS l 1])).length cB);rfl;rfl;rfl;exact hH;(repeat constructor);clear hH;rintro _ w hH)|refine CT ?_|fail)
        replace hH:=hH.tail
        have hST:HS w0 noM [cb b12 103 (qc 4 0 empS oC (((r1++[r.n])).length+1) cC oB ((r2++[zS l 1])).length cB),frz w0 c.K] _:=HS.left (H1:=[_,_]) hH
        (refine zN (H:=[_,_]) [(0,1),(1,1),(2,1),(3,1),(4,1),(5,1),(6,1),(7,1),(8,1),(9,0),(10,0),(11,1)] [12] mixed (by decide +kernel) (hST) ?_;replace hH:=hH.drew)
        clear hST
        repeat' (first|(refine XT ?_;apply XE;(first|(apply zC;rfl;rfl;decide;omega;exact hspL)|(apply zF;rfl;exact zP MEMT hr (hc04))|(apply zB;rfl;rfl;omega;first|exact hspN|exact hspX)|(apply zA (vs:=xv);rfl;exact hqv.len;exact yF MEMT hrx (fun i v h=>hcv i v h)));clear hA a;intro a hA)|(refine QT ?_;clear hA a;intro a hA)|fail)
        (apply yC hA rfl rfl rfl (by decide);apply zQ (xs:=xv) (vs:=[.agg xv.toArray]);rfl;rfl;exact rU hqv.len;rfl;rfl;rfl;exact hH;clear hA hH;rintro _ w ⟨oN,rfl,hH⟩;refine ⟨HS.left (H1:=[_,_]) hH.tail,?_⟩;intro a hA)
        (apply yC hA rfl rfl rfl (by decide);apply yE;rfl;rfl;exact hH;exact MEMT;exact (hH.own_rd (List.Mem.head _));exact hqv.len;rfl;decide;exact hqv.one;(unfold maxLen;omega);omega;clear hA;rintro _ w ⟨oN,cN,rfl,hH2⟩;clear hH;have hH:=hH2 _ (by (repeat constructor));clear hH2;refine ⟨HS.left (H1:=[_,_]) hH.tail,?_⟩;intro a hA)
        repeat' (first|(refine QT ?_;clear hA a;intro a hA)|(apply yB hA rfl rfl rfl;apply zG (cs':=qc 4 0 empS oC (((r1++[r.n])).length+1) cC oN (((r2++[zS l 1])).length+1) cN);rfl;rfl;rfl;exact hH;(repeat constructor);clear hH;rintro _ w hH)|refine CT ?_|fail)
        replace hH:=hH.tail
        exact ⟨i+1,⟨oC,cC,oN,cN,((r1++[r.n]))++[ns.getD i 0],((r2++[zS l 1]))++[zS xs i],true,((cells++yv))++xv,⟨hlt,hnx,by rw [xH ((r1++[r.n])) (ns.getD i 0),xH ((r2++[zS l 1])) (zS xs i)];omega,fun h8=>wH (p:=fun k=>ns.getD k 0≠r.n) (h8n h8) hzn,QVs.snoc hqv ((QVs.snoc hqy hqs))⟩,(by rw [xH ((r1++[r.n])) (ns.getD i 0),xH ((r2++[zS l 1])) (zS xs i)];exact hH.perm PMT),(hA.sub SBT)⟩,by omega⟩
  clear hA2 hH
  rintro a w ⟨oA,cA,oB,cB,r1,r2,d,cells,⟨hws,hrl,hwl,h8n,hqs⟩,hH,hA⟩
  have hrm:r1.length≤1000002:=by omega
  by_cases h8:r.k=8
  · repeat' (first|(refine XT ?_;apply XE;(first|(apply zK (cs:=(qz).toArray);rfl;exact FLT;rfl));clear hA a;intro a hA)|(refine QT ?_;clear hA a;intro a hA)|(refine SAT (qz) hA hH ?_;clear hH;intro w hH)|refine CT ?_|(refine DT ?_ ?_<;>intro hc<;>try (exfalso;omega))|fail)
    exact wB (vs:=qz) (.inl rfl) rfl hA rfl rfl rfl hH (zD MEMT) (RsQ.stk (by rw [pl_8 h8,hp];dsimp only [asRc];rw [if_neg (by rw [bsB_no (h8n h8)];decide)]) rfl (WSt.dropL (L:=[_,_,_,_,_,_]) ⟨oO,cO,oS,cS,sds,hH.perm PMT,hQ⟩))
  have hk7:r.k=7:=by omega
  have hl2:=hl1.2 hk7
  have hwe:=wend_eq hup hnl r.n (zS l 1)
  rw [decide_eq_true hk7] at hws
  rw [hws] at hwe
  obtain ⟨yv,hqy,hcy⟩:=hq.nth (i:=1) (by omega)
  have hpl:∀n1 n2,wend r.n (zS l 1) (r1,r2,d)=(n1,n2)→yD r l caps wd= .val (.rc n1 n2) wd:=fun n1 n2 hn=>by
    rw [pl_7 hk7,hp]
    dsimp only [asRc]
    have h1:=hwe.1
    rw [hn] at h1
    by_cases hb:bsB ns r.n=true
    · rw [if_pos hb] at h1 ⊢
      cases h1
      rfl
    · rw [if_neg hb] at h1 ⊢
      cases h1
      rfl
  cases d with
  | true=>
    have e:=hpl r1 r2 rfl
    have hu1:upP r1:=hwe.2
    repeat' (first|(refine QT ?_;clear hA a;intro a hA)|(refine SAT (qc 4 0 empS oA r1.length cA oB r2.length cB) hA hH ?_;clear hH;intro w hH)|refine CT ?_|(refine DT ?_ ?_<;>intro hc<;>try (exfalso;omega))|fail)
    exact wB (vs:=qc 4 0 empS oA r1.length cA oB r2.length cB) (.inl rfl) rfl hA rfl rfl rfl hH (zD MEMT) (RsQ.rc (L:=[cb b12 103 (qc 4 0 empS oA r1.length cA oB r2.length cB),cb b8 103 (qc 4 0 empS oA r1.length cA oB r2.length cB),cb b7 103 sc,cb b5 57 (zX r)]) (hH.perm PMT) hQ e hrl (by omega) hu1 hqs)
  | false=>
    have e:=hpl (r1++[r.n]) (r2++[zS l 1]) rfl
    have hu1:upP (r1++[r.n]):=hwe.2
    have hwl0:r1.length≤ns.length:=by
      have h1:=(ws_len (wt:=true) (n:=r.n) (y:=zS l 1) (ns.zip xs) ([],[],false) rfl).2.1
      rw [show List.foldl _ _ _=wst true r.n (zS l 1) (ns.zip xs) from rfl,hws,List.length_zip] at h1
      have h2:=congrArg List.length (show (wend r.n (zS l 1) (r1,r2,false)).1=r1++[r.n] from rfl)
      have h3:=congrArg (fun p:List Int × List Vl=>p.1.length) hwe.1
      rw [show (wend r.n (zS l 1) (r1,r2,false))=(r1++[r.n],r2++[zS l 1]) from rfl] at h3
      dsimp only at h3
      rw [xH] at h3
      split at h3
      · simp at h3;omega
      · dsimp only at h3;rw [pE (jV _ _)] at h3;rw [tV (jV _ _)] at h3;omega
    repeat' (first|(refine QT ?_;clear hA a;intro a hA)|(refine LT ?_;clear hA hH;rintro _ w ⟨oN,rfl,hH⟩ a hA)|(refine AT ?_;clear hA;rintro _ w ⟨oN,cN,rfl,hH2⟩ a hA;clear hH;have hH:=(hH2 _ (by (repeat constructor))).tail;clear hH2)|(apply zT hA rfl rfl;apply zG (cs':=qc 4 0 empS oN (r1.length+1) cN oB r2.length cB);rfl;rfl;rfl;exact hH;(repeat constructor);clear hH;rintro _ w hH)|refine CT ?_|(refine DT ?_ ?_<;>intro hc<;>try (exfalso;omega))|fail)
    rw [uJ] at hH
    obtain ⟨oC,hoC⟩:∃x,x=oN:=⟨_,rfl⟩
    subst hoC
    obtain ⟨cC,hcC⟩:∃x,x=cN:=⟨_,rfl⟩
    subst hcC
    replace hH:=hH.perm (H':=cb b12 103 (qc 4 0 empS oC (r1.length+1) cC oB r2.length cB)::frz w0 c.K::own 2 1 oC (r1.length+1) cC (flat Fw.encI (r1++[r.n]))::own 103 5 oB r2.length cB cells::cb bW 98 (xE g wd.inp oO wd.out.length cO oS wd.st.length cS)::own 5 1 oO wd.out.length cO (flat zY wd.out)::own 101 1 oS wd.st.length cS (flat Fw.encS sds)::cb b8 103 qz::cb b7 103 sc::cb b5 57 (zX r)::H) PMT
    have hST:HS w0 noM [cb b12 103 (qc 4 0 empS oC (r1.length+1) cC oB r2.length cB),frz w0 c.K] _:=HS.left (H1:=[_,_]) hH
    (refine zN (H:=[_,_]) [(0,1),(1,1),(2,1),(3,1),(4,1),(5,0),(6,0),(7,1)] [8] mixed (by decide +kernel) (hST) ?_;replace hH:=hH.drew)
    clear hST
    repeat' (first|(refine XT ?_;apply XE;(first|(apply zC;rfl;rfl;decide;omega;exact hspL)|(apply zA (vs:=yv);rfl;exact hqy.len;exact yF MEMT hr (fun i v h=>hcy i v h)));clear hA a;intro a hA)|(refine QT ?_;clear hA a;intro a hA)|fail)
    (apply yC hA rfl rfl rfl (by decide);apply zQ (xs:=yv) (vs:=[.agg yv.toArray]);rfl;rfl;exact rU hqy.len;rfl;rfl;rfl;exact hH;clear hA hH;rintro _ w ⟨oN,rfl,hH⟩;refine ⟨HS.left (H1:=[_,_]) hH.tail,?_⟩;intro a hA)
    (apply yC hA rfl rfl rfl (by decide);apply yE;rfl;rfl;exact hH;exact MEMT;exact (hH.own_rd (List.Mem.head _));exact hqy.len;rfl;decide;exact hqy.one;(unfold maxLen;omega);omega;clear hA;rintro _ w ⟨oN,cN,rfl,hH2⟩;clear hH;have hH:=hH2 _ (by (repeat constructor));clear hH2;refine ⟨HS.left (H1:=[_,_]) hH.tail,?_⟩;intro a hA)
    repeat' (first|(refine QT ?_;clear hA a;intro a hA)|(apply yB hA rfl rfl rfl;apply zG (cs':=qc 4 0 empS oC (r1.length+1) cC oN (r2.length+1) cN);rfl;rfl;rfl;exact hH;(repeat constructor);clear hH;rintro _ w hH)|refine CT ?_|fail)
    replace hH:=hH.tail
    have e1:r1.length+1=(r1++[r.n]).length:=by rw [List.length_append];rfl
    have e2:r2.length+1=(r2++[zS l 1]).length:=by rw [List.length_append];rfl
    rw [e1,e2] at hH
    rw [e1,e2] at hA
    rw [←e1,←e2] at hH
    rw [←e1,←e2] at hA
    repeat' (first|(refine QT ?_;clear hA a;intro a hA)|(refine SAT (qc 4 0 empS oC (r1.length+1) cC oN (r2.length+1) cN) hA hH ?_;clear hH;intro w hH)|refine CT ?_|fail)
    have hf:=RsQ.rc (L:=[cb b12 103 (qc 4 0 empS oC (r1.length+1) cC oN (r2.length+1) cN),cb b8 103 (qc 4 0 empS oC (r1.length+1) cC oN (r2.length+1) cN),cb b7 103 sc,cb b5 57 (zX r)]) (hH.perm PMT) hQ e (by rw [xH,xH,hrl]) (by rw [xH];omega) hu1 (QVs.snoc hqy hqs)
    rw [xH,xH] at hf
    exact wB (vs:=qc 4 0 empS oC (r1.length+1) cC oN (r2.length+1) cN) (.inl rfl) rfl hA rfl rfl rfl hH (zD MEMT) hf
theorem lL (w0 w:World) (H:List It) (c:Dx) (g:Grs) (wd:Wd) (bW:Nat) (r:Stp) (ol:Option Addr) (cl:Nat) (l:List Vl) (vs:List Value) (f:Int) (caps:List Vl) (sc:List Value) (hS:WSt w0 c bW g wd H w) (hP:PlQ w0 c g wd r ol l vs f caps sc) :
    Ret Tryz.prog 125 #[.pointer (some (bat bW 0)),.agg (zX r).toArray,.slice ol l.length cl,.agg sc.toArray] w (fun v w'=>RsQ w0 c bW g wd H (yD r l caps wd) v w'):=by
  by_cases hk:r.k=7∨r.k=8
  · exact eD w0 w H c g wd bW r ol cl l vs f caps sc hS hP hk
  · exact eE w0 w H c g wd bW r ol cl l vs f caps sc hS hP ⟨fun h=>hk (.inl h),fun h=>hk (.inr h)⟩
end
def EQ (c:Dx):List (Int × Vl)→List Value→Prop
  | [],vs=>vs=[]
  |e::l,vs=>∃v r,vs=(.int .i64 e.1::v)++r∧QV c e.2 v∧EQ c l r
theorem EQ.mono {c d:Dx} (h:c.le d):∀{l:List (Int × Vl)} {vs:List Value},EQ c l vs→EQ d l vs
  | [],vs,hv=>hv
  |e::l,vs,⟨v,r,h1,h2,h3⟩=>⟨v,r,h1,QV.mono h e.2 v h2,EQ.mono h h3⟩
theorem EQ.len {c:Dx}:∀{l:List (Int × Vl)} {vs:List Value},EQ c l vs→vs.length=l.length*6
  | [],vs,h=>by rw [show vs=[] from h];rfl
  |e::l,vs,⟨v,r,h1,h2,h3⟩=>by rw [h1,List.length_append,List.length_cons,h2.len,EQ.len h3,List.length_cons];omega
theorem EQ.one {c:Dx}:∀{l:List (Int × Vl)} {vs:List Value},EQ c l vs→vs.all (·.oneCell')=true
  | [],vs,h=>by rw [show vs=[] from h];rfl
  |e::l,vs,⟨v,r,h1,h2,h3⟩=>by rw [h1,List.all_append,List.all_cons,h2.one,EQ.one h3];rfl
theorem EQ.snoc {c:Dx} {x:Int} {y:Vl} {v:List Value} (hx:QV c y v):∀{l:List (Int × Vl)} {vs:List Value},EQ c l vs→EQ c (l++[(x,y)]) (vs++(.int .i64 x::v))
  | [],vs,h=>by rw [show vs=[] from h];exact ⟨v,[],by simp,hx,rfl⟩
  |e::l,vs,⟨u,r,h1,h2,h3⟩=>⟨u,r++(.int .i64 x::v),by rw [h1,List.append_assoc],h2,EQ.snoc hx h3⟩
theorem EQ.at {c:Dx}:∀{l:List (Int × Vl)} {vs:List Value} {i:Nat} {e:Int × Vl},EQ c l vs→l[i]?=some e→∃v,QV c e.2 v∧vs[i*6+0]?=some (.int .i64 e.1)∧∀j u,v[j]?=some u→vs[i*6+1+j]?=some u
  | [],vs,i,e,h,hi=>by simp at hi
  | x::l,vs,0,e,⟨v,r,h1,h2,h3⟩,hi=>by
    obtain rfl:x=e:=by simpa using hi
    refine ⟨v,h2,by rw [h1];rfl,fun j u hj=>?_⟩
    have hlt:=(List.getElem?_eq_some_iff.1 hj).1
    rw [h1,show 0*6+1+j=j+1 by omega,List.getElem?_append_left (by rw [List.length_cons];omega),List.getElem?_cons_succ]
    exact hj
  | x::l,vs,i+1,e,⟨v,r,h1,h2,h3⟩,hi=>by
    obtain ⟨u,h4,h5,h6⟩:=EQ.at h3 (by simpa using hi)
    have hl:(Value.int .i64 x.1::v).length=6:=by rw [List.length_cons,h2.len]
    refine ⟨u,h4,?_,fun j q hj=>?_⟩
    · rw [h1,List.getElem?_append_right (by omega),hl,show (i+1)*6+0 - 6=i*6+0 by omega];exact h5
    · rw [h1,List.getElem?_append_right (by omega),hl,show (i+1)*6+1+j - 6=i*6+1+j by omega];exact h6 j q hj
def tI (es:List (Int × Vl)) (x:Int):Option Vl:=(es.reverse.find? (fun e=>e.1 == x)).map (·.2)
theorem tU (es:List (Int × Vl)) (y:Int) (v:Vl) (x:Int):tI (es++[(y,v)]) x=if y=x then some v else tI es x:=by
  unfold tI
  rw [List.reverse_append,List.reverse_singleton,List.singleton_append,List.find?_cons]
  by_cases h:y=x
  · subst h;simp
  · rw [if_neg h,show (y == x)=false from beq_false_of_ne h]
theorem lastE_at {es:List (Int × Vl)} {x:Int} {i:Nat} {e:Int × Vl} (hi:es[i]?=some e) (he:e.1=x) (h:∀k,i<k→∀e,es[k]?=some e→e.1≠x):tI es x=some e.2:=by
  obtain ⟨n,hn⟩:∃n,n=es.length:=⟨_,rfl⟩
  induction n generalizing es with
  |zero=>rw [List.length_eq_zero_iff.1 hn.symm] at hi;simp at hi
  | succ n ih=>
    rcases List.eq_nil_or_concat es with rfl| ⟨es,⟨y1,y2⟩,rfl⟩
    · simp at hn
    rw [List.concat_eq_append] at hi hn h ⊢
    rw [tU]
    have hlt:=(List.getElem?_eq_some_iff.1 hi).1
    rw [List.length_append,List.length_singleton] at hlt
    by_cases hl:i=es.length
    · subst hl
      rw [List.getElem?_append_right (Nat.le_refl _),Nat.sub_self] at hi
      cases hi
      rw [if_pos he]
    · rw [List.getElem?_append_left (by omega)] at hi
      have h1:=h es.length (by omega) (y1,y2) (by rw [List.getElem?_append_right (Nat.le_refl _),Nat.sub_self];rfl)
      rw [if_neg h1]
      exact ih hi (fun k hk e hke=>h k hk e (by rw [List.getElem?_append_left (List.getElem?_eq_some_iff.1 hke).1];exact hke)) (by rw [List.length_append,List.length_singleton] at hn;omega)
theorem lastE_some {es:List (Int × Vl)} {x:Int} {v:Vl} (h:tI es x=some v):∃i:Nat,es[i]?=some (x,v):=by
  unfold tI at h
  obtain ⟨e,he,rfl⟩:=Option.map_eq_some_iff.1 h
  have h1:=List.find?_some he
  have h2:=List.mem_of_find?_eq_some he
  rw [List.mem_reverse] at h2
  obtain ⟨i,hi⟩:=List.getElem?_of_mem h2
  exact ⟨i,by rw [hi,←eq_of_beq h1]⟩
def xI (g:Grs) (fuel:Int) (bW:Nat):List Value:=zZ g++[.int .i64 fuel,.pointer (some (bat bW 0))]
def RSt (w0:World) (c:Dx) (bR bW:Nat) (g:Grs) (fuel:Int) (wd:Wd) (H:List It) (w:World):Prop:=WSt w0 c bW g wd (cb bR 100 (xI g fuel bW)::H) w
def atI (g:Grs) (es:List (Int × Vl)) (a:Atm):Prop:=iok a.n∧(a.k=3→0≤a.n∧a.n<g.ss.l.length)∧(a.k≠2→a.k≠3→a.k=1∧∃v,tI es a.n=some v)
def atE (g:Grs) (es:List (Int × Vl)) (a:Atm):Vl:=if a.k=1 then (tI es a.n).getD .nil else if a.k=3 then .txt (g.ss.l.getD a.n.toNat default) else .num a.n
section
attribute [local irreducible] Code.wp wpList Calls Ex Op1 sat bat blk cb own Go.Fw.mp Go.Fw.mpO Go.Fw.mpI Go.Fw.mpE Go.Fw.itr HS Rd Ret wkD Hp Cl Cls Exit.then Exit.inBlock Exit.noGoto bodyPost Go.Fw.flat wk2 Go.Fw.all Go.Fw.owns wpOp
attribute [local irreducible] sk mpK sko mvO xM xC frz w63 xX ofB vA QV QVs EQ

theorem rI (w0:World) (n:Int):Ret Tryz.prog 31 #[.int .i64 n] w0 (fun r w=>r= .agg (qk 1 n).toArray∧Kp w0 noM w):=by
  have hH:HS w0 noM [] w0:=HS.init w0 noM
  (refine ENT (N:=5) Tryz.func31 Tryz.ntmps31 ?_;intro a hA)
  repeat' (first|(refine XT ?_;apply XE;(first|(apply zK (cs:=(qk 1 n).toArray);rfl;exact FLT;rfl));clear hA a;intro a hA)|(refine QT ?_;clear hA a;intro a hA)|(refine BT ?_;clear hA hH;rintro _ w ⟨bN,rfl,hH⟩ a hA)|(refine SAT (qk 1 n) hA hH ?_;clear hH;intro w hH)|refine CT ?_|fail)
  exact rH (.inl rfl) rfl hA rfl rfl hH (zD MEMT) ⟨rfl,hH.kp⟩
theorem at_k {l:List Atm} {i:Nat} {a:Atm} (h:l[i]?=some a):(flat zV l)[i*2+0]?=some (.int .i64 a.k):=yL (off:=0) xN h rfl
theorem at_n {l:List Atm} {i:Nat} {a:Atm} (h:l[i]?=some a):(flat zV l)[i*2+1]?=some (.int .i64 a.n):=yL (off:=1) xN h rfl
theorem QVs.next {c:Dx} {g:Grs} {es:List (Int × Vl)} {l:List Atm} {i:Nat} {a:Atm} {cells v:List Value} (h:l[i]?=some a) (hq:QVs c ((l.take i).map (atE g es)) cells) (hv:QV c (atE g es a) v):QVs c ((l.take (i+1)).map (atE g es)) (cells++v):=by
  rw [yK h,List.map_append]
  exact hq.snoc hv
theorem sF (w0:World) (c:Dx) (g:Grs) (bR bW:Nat) (v:Vec Atm) (oE:Option Addr) (cE:Nat) (es:List (Int × Vl)) (ec:List Value) (hR:w0.cell? (bat bR 6)=some (.pointer (some (bat bW 0)))) (hW:w0.cell? (bat bW 1)=some (.slice g.ss.o g.ss.l.length g.ss.c)) (hE:Rd w0 oE ec) (hq:EQ c es ec) (hel:es.length≤10000000000)
    (hA0:RdV w0 zV v) (hss:RdV w0 yQ g.ss) (hs4:∀s∈g.ss.l,s.size≤4096) (hv:∀a∈v.l,atI g es a) (hvl:v.l.length≤1048576) :
    Ret Tryz.prog 101 #[.pointer (some (bat bR 0)),.slice v.o v.l.length v.c,.slice oE es.length cE] w0 (fun r w=>∃o k cells,r= .slice o v.l.length k∧QVs c (v.l.map (atE g es)) cells∧HS w0 noM [own 103 5 o v.l.length k cells] w):=by
  have hH:HS w0 noM [] w0:=HS.init w0 noM
  have hspV:Sp v.o v.l.length:=hA0.1.sp (sz:=2) (zH xN _) (by omega)
  have hspS:Sp g.ss.o g.ss.l.length:=hss.1.sp (sz:=1) (zH wC _) (by omega)
  have hspE:Sp oE es.length:=hE.sp (sz:=6) hq.len (by omega)
  have hlss:=hss.le
  (refine ENT (N:=83) Tryz.func101 Tryz.ntmps101 ?_;intro a hA)
  repeat' (first|(refine QT ?_;clear hA a;intro a hA)|(refine LT ?_;clear hA hH;rintro _ w ⟨oN,rfl,hH⟩ a hA)|refine CT ?_|fail)
  refine zU (S:=Nat) (fun i a w=>∃oA cA cells,(i≤v.l.length∧QVs c ((v.l.take i).map (atE g es)) cells)∧HS w0 noM [own 103 5 oA i cA cells] w∧Sl 83 [(8,.int .i64 i),(7,.slice oA i cA),(1,.slice v.o v.l.length v.c),(2,.slice oE es.length cE),(0,.pointer (some (bat bR 0)))] a) (fun i=>v.l.length - i)
    (fun a w=>∃oA cA cells,QVs c (v.l.map (atE g es)) cells∧HS w0 noM [own 103 5 oA v.l.length cA cells] w∧Sl 83 [(7,.slice oA v.l.length cA)] a) 0 ⟨oN,0,[],⟨Nat.zero_le _,by rw [List.take_zero,List.map_nil,QVs]⟩,hH,(hA.sub SBT)⟩ ?_ ?_
  · clear hA hH
    rintro i a w ⟨oA,cA,cells,⟨hi,hqs⟩,hH,hA⟩
    by_cases hlt:i<v.l.length
    rotate_left
    · obtain rfl:i=v.l.length:=by omega
      rw [List.take_length] at hqs
      repeat' (first|(refine QT ?_;clear hA a;intro a hA)|refine CT ?_|(refine DT ?_ ?_<;>intro hc<;>try (exfalso;omega))|fail)
      exact ⟨oA,cA,cells,hqs,hH,(hA.sub SBT)⟩
    obtain ⟨x,hx⟩:∃x,v.l[i]?=some x:=⟨_,List.getElem?_eq_getElem hlt⟩
    obtain ⟨hxn,hx3,hx1⟩:=hv x (List.mem_of_getElem? hx)
    have hvk:=at_k hx
    have hvn:=at_n hx
    repeat' (first|(refine XT ?_;apply XE;(first|(apply zB;rfl;rfl;omega;exact hspV)|(apply zF;rfl;first|exact yG hA0.1 id hvk|exact yG hA0.1 id hvn));clear hA a;intro a hA)|(refine QT ?_;clear hA a;intro a hA)|(refine zJ hA rfl rfl (by decide) (zE rfl rfl rfl (rI _ _)) ?_;clear hA;rintro _ w ⟨rfl,hk⟩ a hA;replace hH:=hH.keep hk;clear hk)|refine CT ?_|(refine DT ?_ ?_<;>intro hc<;>try (exfalso;omega))|fail)
    · have hk2:x.k=2:=by assumption
      have hqx:QV c (atE g es x) (qk 1 x.n):=by unfold atE;rw [if_neg (by omega),if_neg (by omega)];exact QV_num hxn
      (apply zJ hA rfl rfl (by decide);apply zQ (xs:=qk 1 x.n) (vs:=[.agg (qk 1 x.n).toArray]);rfl;rfl;exact rU rfl;rfl;rfl;rfl;exact hH;clear hA hH;rintro _ w ⟨oN,rfl,hH⟩ a hA)
      (apply zJ hA rfl rfl (by decide);apply yE;rfl;rfl;exact hH;exact MEMT;exact (hH.own_rd (List.Mem.head _));exact rfl;rfl;decide;exact rfl;(unfold maxLen;omega);omega;clear hA;rintro _ w ⟨oN,cN,rfl,hH2⟩ a hA;clear hH;have hH:=hH2 _ (by (repeat constructor));clear hH2)
      repeat' (first|(refine QT ?_;clear hA a;intro a hA)|refine CT ?_|fail)
      exact ⟨i+1,⟨oN,cN,_,⟨hlt,hqs.next hx hqx⟩,hH.tail,(hA.sub SBT)⟩,by omega⟩
    · have hk3:x.k=3:=by assumption
      obtain ⟨h30,h31⟩:=hx3 hk3
      have hsz:(g.ss.l.getD x.n.toNat default).size≤4096:=hs4 _ (xP (by omega))
      have hqx:QV c (atE g es x) (qt (g.ss.l.getD x.n.toNat default)):=by unfold atE;rw [if_neg (by omega),if_pos hk3];exact QV_txt hsz
      have hsv:=vD (l:=g.ss.l) (k:=x.n.toNat) (by omega)
      (refine zO [(0,1),(1,1),(2,1),(3,1),(4,1),(5,1),(6,1),(7,1),(8,1),(9,1),(10,1),(11,1),(12,1),(13,1),(14,1),(15,1),(16,0),(17,0),(18,1)] mixed (by decide +kernel) hH.drop_ ?_;replace hH:=hH.drew)
      repeat' (first|(refine XT ?_;apply XE;(first|(apply zB;rfl;rfl;omega;exact hspV)|(apply zC;rfl;rfl;omega;omega;exact hspS)|(apply zF;rfl;first|exact yG hA0.1 id hvn|exact yG hss.1 id hsv|exact cl_w hR id|exact cl_w hW id)|(apply zK (cs:=(qt (g.ss.l.getD x.n.toNat default)).toArray);rfl;exact FLT;rfl));clear hA a;intro a hA)|(refine QT ?_;clear hA a;intro a hA)|fail)
      (apply yC hA rfl rfl rfl (by decide);apply zQ (xs:=qt (g.ss.l.getD x.n.toNat default)) (vs:=[.agg (qt (g.ss.l.getD x.n.toNat default)).toArray]);rfl;rfl;exact rU rfl;rfl;rfl;rfl;exact hH;clear hA hH;rintro _ w ⟨oN,rfl,hH⟩;refine ⟨hH.drop_,?_⟩;intro a hA)
      (apply yC hA rfl rfl rfl (by decide);apply yE;rfl;rfl;exact hH;exact MEMT;exact (hH.own_rd (List.Mem.head _));exact rfl;rfl;decide;exact rfl;(unfold maxLen;omega);omega;clear hA;rintro _ w ⟨oN,cN,rfl,hH2⟩;clear hH;have hH:=hH2 _ (by (repeat constructor));clear hH2;refine ⟨hH.drop_,?_⟩;intro a hA)
      repeat' (first|(refine QT ?_;clear hA a;intro a hA)|refine CT ?_|fail)
      exact ⟨i+1,⟨oN,cN,_,⟨hlt,hqs.next hx hqx⟩,hH.tail,(hA.sub SBT)⟩,by omega⟩
    · have hx2:=hx1 (by assumption) (by assumption)
      obtain ⟨hk1,y,hy⟩:=hx2
      obtain ⟨m0,hm0⟩:=lastE_some hy
      have hm0l:=(List.getElem?_eq_some_iff.1 hm0).1
      have hax:atE g es x=y:=by unfold atE;rw [if_pos hk1,hy];rfl
      repeat' (first|(refine XT ?_;apply XE;(first|(apply zK (cs:=(qz).toArray);rfl;exact FLT;rfl));clear hA a;intro a hA)|(refine QT ?_;clear hA a;intro a hA)|(refine BT ?_;clear hA hH;rintro _ w ⟨bN,rfl,hH⟩ a hA)|(refine SAT (qz) hA hH ?_;clear hH;intro w hH)|refine CT ?_|fail)
      obtain ⟨b9,hb9⟩:∃x,x=bN:=⟨_,rfl⟩
      subst hb9
      rw [show ((es.length:Int) - 1)=((es.length - 1:Nat):Int) by omega] at hA
      refine zU (S:=Nat) (fun m a w=>(m<es.length∧∀k,m<k→∀e,es[k]?=some e→e.1≠x.n)∧HS w0 noM [cb b9 103 qz,own 103 5 oA i cA cells] w∧Sl 83 [(10,.int .i64 m),(9,.pointer (some (bat b9 0))),(8,.int .i64 i),(7,.slice oA i cA),(1,.slice v.o v.l.length v.c),(2,.slice oE es.length cE),(0,.pointer (some (bat bR 0)))] a) (fun m=>m)
        (fun a w=>∃yv,QV c y yv∧HS w0 noM [cb b9 103 yv,own 103 5 oA i cA cells] w∧Sl 83 [(9,.pointer (some (bat b9 0))),(8,.int .i64 i),(7,.slice oA i cA),(1,.slice v.o v.l.length v.c),(2,.slice oE es.length cE),(0,.pointer (some (bat bR 0)))] a) (es.length - 1) ⟨⟨by omega,fun k hk e he=>absurd (List.getElem?_eq_some_iff.1 he).1 (by omega)⟩,hH,(hA.sub SBT)⟩ ?_ ?_
      · clear hA hH
        rintro m a w ⟨⟨hm,hmn⟩,hH,hA⟩
        have hm0m:m0≤m:=Nat.le_of_not_lt fun h=>hmn m0 h _ hm0 rfl
        obtain ⟨e,he⟩:∃e,es[m]?=some e:=⟨_,List.getElem?_eq_getElem hm⟩
        obtain ⟨ev,hqe,he1,hev⟩:=hq.at he
        repeat' (first|(refine QT ?_;clear hA a;intro a hA)|refine CT ?_|fail)
        (refine zO [(0,1),(1,1),(2,1),(3,1),(4,1),(5,1),(6,1),(7,1),(8,1),(9,1),(10,1)] mixed (by decide +kernel) hH ?_;replace hH:=hH.drew)
        repeat' (first|(refine XT ?_;apply XE;(first|(apply zB;rfl;rfl;omega;first|exact hspE|exact hspV)|(apply zF;rfl;first|exact yG hE id he1|exact yG hA0.1 id hvn)|(apply zA (vs:=ev);rfl;exact hqe.len;exact yP hE id hev));clear hA a;intro a hA)|(refine QT ?_;clear hA a;intro a hA)|(apply zT hA rfl rfl;apply zI (vs:=ev);rfl;rfl;exact hH;(repeat constructor);exact hqe.len;rfl;exact hqe.one;clear hH;rintro _ w hH)|refine CT ?_|(refine DT ?_ ?_<;>intro hc<;>try (exfalso;omega))|fail)
        · have hex:e.1=x.n:=by assumption
          have h1:=lastE_at he hex hmn
          rw [hy] at h1
          cases h1
          exact ⟨ev,hqe,hH,(hA.sub SBT)⟩
        · have hex:¬e.1=x.n:=by assumption
          have hne:m0≠m:=fun h=>hex (by subst h;rw [hm0] at he;cases he;rfl)
          rw [show ((m:Int) - 1)=((m - 1:Nat):Int) by omega] at hA
          exact ⟨m - 1,⟨⟨by omega,fun k hk e' he'=>by
            by_cases hkm:k=m
            · subst hkm;rw [he] at he';cases he';exact hex
            · exact hmn k (by omega) e' he'⟩,hH,(hA.sub SBT)⟩,by omega⟩
      clear hA hH
      rintro a w ⟨yv,hqy,hH,hA⟩
      repeat' (first|(refine XT ?_;apply XE;(first|(apply zA (vs:=yv);rfl;exact hqy.len;exact zD MEMT));clear hA a;intro a hA)|(refine QT ?_;clear hA a;intro a hA)|(apply zJ hA rfl rfl (by decide);apply zQ (xs:=yv) (vs:=[.agg (yv).toArray]);rfl;rfl;exact rU hqy.len;rfl;rfl;rfl;exact hH;clear hA hH;rintro _ w ⟨oN,rfl,hH⟩ a hA)|refine CT ?_|fail)
      (apply zJ hA rfl rfl (by decide);apply yE;rfl;rfl;exact hH;exact MEMT;exact (hH.own_rd (List.Mem.head _));exact hqy.len;rfl;decide;exact hqy.one;(unfold maxLen;omega);omega;clear hA;rintro _ w ⟨oN,cN,rfl,hH2⟩ a hA;clear hH;have hH:=hH2 _ (by (repeat constructor));clear hH2)
      repeat' (first|(refine QT ?_;clear hA a;intro a hA)|refine CT ?_|fail)
      exact ⟨i+1,⟨oN,cN,_,⟨hlt,hqs.next hx (hax▸hqy)⟩,hH.tail.tail,(hA.sub SBT)⟩,by omega⟩
  clear hA hH
  rintro a w ⟨oA,cA,cells,hqs,hH,hA⟩
  repeat' (first|(refine QT ?_;clear hA a;intro a hA)|refine CT ?_|fail)
  exact rt1 (.inl rfl) rfl hA rfl ⟨oA,cA,cells,rfl,hqs,hH⟩
end
def sN (g:Grs) (kd:Int) (n:Nat):Sr→Int × ByteArray × Wd
  | .go m=>sX g kd n m
  | .stop k r wd=>(k,r,wd)
theorem runS_go {g:Grs} {kd:Int} {n:Nat} {m:Mc}:sN g kd (n+1) (.go m)=sN g kd n (tT g kd m):=by
  show sX g kd (n+1) m=_
  rw [sX]
  cases tT g kd m<;>rfl
def aZ (g:Grs) (kd:Int) (o:Ow) (wd:Wd) (sk:List Fm):Sr:=
  match o with
  | .fine y=>pO g kd y wd sk
  | .raised k=>vH g k wd sk
  | .fuel=>.stop 2 empS wd
  | .stuck=>wZ wd
def nxtF (g:Grs) (o:Ow) (wd:Wd) (sk:List Fm) (fm:Fm) (h:Option Clo):Sr:=
  match o with
  | .fine y=>.go ⟨wd,sk,{fm with h:=h,vs:=qD fm.vs (xD g fm).x y,i:=fm.i+1}⟩
  | .raised k=>vH g k wd sk
  | .fuel=>.stop 2 empS wd
  | .stuck=>wZ wd
def CRun (g:Grs) (kd:Int) (n:Nat) (f x:Vl) (wd:Wd) (n':Nat) (o:Ow) (wd':Wd):Prop:=∀sk,sN g kd n (vN f x wd sk)=sN g kd n' (aZ g kd o wd' sk)
def SRun (g:Grs) (kd:Int) (n:Nat) (fm:Fm) (wd:Wd) (n':Nat) (o:Ow) (wd':Wd):Prop:=∃h,∀sk,sN g kd n (tW g fm (xD g fm) wd sk)=sN g kd n' (nxtF g o wd' sk fm h)
theorem mB (f x:Vl) (h:Option Clo) (wd:Wd) (sk:List Fm) (fm:Fm):rF f x h wd sk fm=vN f x wd ({fm with h:=h}::sk):=by
  unfold rF vN
  cases asFn f<;>rfl
theorem kK {g:Grs} {kd:Int} {o:Ow} {wd:Wd} {sk:List Fm} {fm:Fm} {h:Option Clo} (hh:h=none∨∀k,o≠.raised k):aZ g kd o wd ({fm with h:=h}::sk)=nxtF g o wd sk fm h:=by
  cases o with
  |fine y=>rfl
  | raised k=>
    rcases hh with rfl|hh
    · rfl
    · exact absurd rfl (hh k)
  |fuel=>rfl
  |stuck=>rfl
section
variable {g:Grs} {kd:Int} {n n' n2:Nat} {fm:Fm} {wd wd' wd2:Wd} {o o2:Ow}
theorem s_call (hk:(xD g fm).r.k=3) (h:CRun g kd n (zS (xZ g fm (xD g fm).r.a.l) 0) (zS (xZ g fm (xD g fm).r.a.l) 1) wd n' o wd'):SRun g kd n fm wd n' o wd':=
  ⟨none,fun sk=>by unfold tW;rw [if_pos hk,mB,h,kK (.inl rfl)]⟩
theorem s_known {c:Int × List Vl} (hk:(xD g fm).r.k=14) (hc:asFn (zS (xZ g fm (xD g fm).r.a.l) 0)=some c) (he:c.1=(xD g fm).r.n) (h:CRun g kd n (zS (xZ g fm (xD g fm).r.a.l) 0) (zS (xZ g fm (xD g fm).r.a.l) 1) wd n' o wd'):SRun g kd n fm wd n' o wd':=
  ⟨none,fun sk=>by unfold tW;rw [if_neg (by omega),if_pos hk,hc];dsimp only;rw [if_pos he,mB,h,kK (.inl rfl)]⟩
theorem kT (hk:(xD g fm).r.k=14) (hc:∀c,asFn (zS (xZ g fm (xD g fm).r.a.l) 0)=some c→c.1≠(xD g fm).r.n):SRun g kd n fm wd n .stuck wd:=
  ⟨none,fun sk=>by
    unfold tW
    rw [if_neg (by omega),if_pos hk]
    cases h1:asFn (zS (xZ g fm (xD g fm).r.a.l) 0) with
    |none=>rfl
    |some c=>dsimp only;rw [if_neg (hc c h1)];rfl⟩
theorem s_try_no (hk:(xD g fm).r.k=13) (hc:asFn (zS (xZ g fm (xD g fm).r.a.l) 1)=none):SRun g kd n fm wd n .stuck wd:=
  ⟨none,fun sk=>by unfold tW;rw [if_neg (by omega),if_neg (by omega),if_pos hk,hc];rfl⟩
theorem s_try {c:Int × List Vl} (hk:(xD g fm).r.k=13) (hc:asFn (zS (xZ g fm (xD g fm).r.a.l) 1)=some c) (h:CRun g kd n (zS (xZ g fm (xD g fm).r.a.l) 0) (.num 0) wd n' o wd') (ho:∀k,o≠.raised k):SRun g kd n fm wd n' o wd':=
  ⟨some c,fun sk=>by unfold tW;rw [if_neg (by omega),if_neg (by omega),if_pos hk,hc];dsimp only;rw [mB,h,kK (.inr ho)]⟩
theorem s_try2 {c:Int × List Vl} {k:Int} (hk:(xD g fm).r.k=13) (hc:zS (xZ g fm (xD g fm).r.a.l) 1= .fn c.1 c.2) (h:CRun g kd n (zS (xZ g fm (xD g fm).r.a.l) 0) (.num 0) wd n' (.raised k) wd') (h0:0≤k∧k<g.xs.l.length) (h2:CRun g kd n' (zS (xZ g fm (xD g fm).r.a.l) 1) (.num k) wd' n2 o2 wd2):SRun g kd n fm wd n2 o2 wd2:=
  ⟨none,fun sk=>by
    have h3:=h2 ({fm with h:=none}::sk)
    rw [hc] at h3
    unfold tW
    rw [if_neg (by omega),if_neg (by omega),if_pos hk,hc]
    dsimp only [asFn]
    rw [mB,h]
    rw [kK (.inl rfl)] at h3
    rw [←h3]
    unfold aZ
    dsimp only
    unfold vH
    rw [if_neg (by omega)]
    rfl⟩
def owR (g:Grs):Rs→Ow
  | .exn s=>.raised (xC g.xs.l s)
  | .val v _=>if isNil v then .stuck else .fine v
def wdR (wd:Wd):Rs→Wd
  | .exn _=>wd
  | .val _ wd'=>wd'
theorem s_plain (hk:(xD g fm).r.k≠3∧(xD g fm).r.k≠13∧(xD g fm).r.k≠14):SRun g kd n fm wd n (owR g (yD (xD g fm).r (xZ g fm (xD g fm).r.a.l) fm.c.2 wd)) (wdR wd (yD (xD g fm).r (xZ g fm (xD g fm).r.a.l) fm.c.2 wd)):=
  ⟨fm.h,fun sk=>by
    unfold tW
    rw [if_neg hk.1,if_neg hk.2.2,if_neg hk.2.1]
    cases yD (xD g fm).r (xZ g fm (xD g fm).r.a.l) fm.c.2 wd with
    |exn s=>rfl
    | val v wd'=>
      unfold owR wdR
      dsimp only
      cases isNil v<;>rfl⟩
end
structure FmE (fm:Fm) (c:Clo) (b i:Nat) (es:List (Int × Vl)):Prop where
  c:fm.c=c
  b:fm.b=b
  i:fm.i=i
  vs:∀x,plk fm.vs x=tI es x
theorem FmE.get {g:Grs} {fm:Fm} {c:Clo} {b i:Nat} {es:List (Int × Vl)} (h:FmE fm c b i es) (a:Atm):rM g fm a=atE g es a:=by
  unfold rM atE pget
  rw [show (fm.vs.find? fun e=>e.1 == a.n).map (·.2)=tI es a.n from h.vs a.n]
theorem FmE.all {g:Grs} {fm:Fm} {c:Clo} {b i:Nat} {es:List (Int × Vl)} (h:FmE fm c b i es) (l:List Atm):xZ g fm l=l.map (atE g es):=List.map_congr_left fun a _=>h.get a
theorem FmE.cur {g:Grs} {fm:Fm} {c:Clo} {b i:Nat} {es:List (Int × Vl)} (h:FmE fm c b i es):uH g fm=xQ g c.1 b:=by unfold uH;rw [h.c,h.b]
theorem FmE.ins {g:Grs} {fm:Fm} {c:Clo} {b i:Nat} {es:List (Int × Vl)} {x:Ins} (h:FmE fm c b i es) (hx:(xQ g c.1 b).is.l[i]?=some x):xD g fm=x:=by
  unfold xD
  rw [h.cur,h.i,List.getD_eq_getElem?_getD,hx]
  rfl
theorem FmE.next {fm:Fm} {c:Clo} {b i:Nat} {es:List (Int × Vl)} (h:FmE fm c b i es) (hh:Option Clo) (x:Int) (y:Vl):FmE {fm with h:=hh,vs:=qD fm.vs x y,i:=fm.i+1} c b (i+1) (es++[(x,y)]):=
  ⟨h.c,h.b,congrArg (·+1) h.i,fun z=>by
    dsimp only
    rw [qE,tU,h.vs]
    by_cases hz:z=x
    · subst hz;rw [if_pos rfl]
    · rw [if_neg hz,if_neg (fun e=>hz e.symm)]⟩
theorem gQ:∀(ps:List Int) (vs:List Vl) (m:List (Int × Vl)) (es:List (Int × Vl)),(∀x,plk m x=tI es x)→∀x,plk (sV m ps vs) x=tI (es++ps.zip vs) x
  | [],vs,m,es,h,x=>by rw [show sV m [] vs=m by cases vs<;>rfl,List.zip_nil_left,List.append_nil];exact h x
  |p::ps,[],m,es,h,x=>by rw [show sV m (p::ps) []=m from rfl,List.zip_nil_right,List.append_nil];exact h x
  | p ::ps,v::vs,m,es,h,x=>by
    rw [show sV m (p::ps) (v::vs)=sV (qD m p v) ps vs from rfl,List.zip_cons_cons,List.append_cons]
    exact gQ ps vs _ _ (fun z=>by
      rw [qE,tU,h]
      by_cases hz:z=p
      · subst hz;rw [if_pos rfl]
      · rw [if_neg hz,if_neg (fun e=>hz e.symm)]) x
theorem FmE.follow {g:Grs} {fm:Fm} {c:Clo} {b i:Nat} {es:List (Int × Vl)} (h:FmE fm c b i es) (e:Edg):FmE (wN g fm e) c e.b.toNat 0 (es++(xQ g c.1 e.b.toNat).ps.l.zip (e.a.l.map (atE g es))):=
  ⟨h.c,rfl,rfl,fun x=>by
    unfold wN
    dsimp only
    rw [h.all,h.c]
    exact gQ _ _ _ _ h.vs x⟩
theorem uL {x:Int}:∀(l es:List (Int × Vl)),(∃v,tI es x=some v)∨x∈l.map (·.1)→∃v,tI (es++l) x=some v
  | [],es,h=>by
    rw [List.append_nil]
    rcases h with h|h
    · exact h
    · cases h
  | (y, v)::l,es,h=>by
    rw [List.append_cons]
    refine uL l _ ?_
    by_cases hy:y=x
    · exact .inl ⟨v,by rw [tU,if_pos hy]⟩
    · rcases h with ⟨u,hu⟩|h
      · exact .inl ⟨u,by rw [tU,if_neg hy];exact hu⟩
      · rcases List.mem_cons.1 h with h|h
        · exact absurd h.symm hy
        · exact .inr h
def EnvB (f:Gr) (bl:Blc) (b i:Nat) (es:List (Int × Vl)):Prop:=∀x,x=0∨x=1∨vK (BS f b) bl i x→∃v,tI es x=some v
theorem EnvB.start {f:Gr} {bl:Blc} {x y:Vl} (h:bl.ps.l=[]):EnvB f bl 0 0 [(0,x),(1,y)]:=fun z hz=>by
  rcases hz with rfl|rfl|hz
  · exact ⟨x,rfl⟩
  · exact ⟨y,rfl⟩
  · rcases hz with hz|hz|hz
    · rw [BS] at hz;exact absurd hz.1 (Nat.lt_irrefl _)
    · rw [h] at hz;cases hz
    · cases hz
theorem EnvB.next {f:Gr} {bl:Blc} {b i:Nat} {es:List (Int × Vl)} {x:Ins} {y:Vl} (h:EnvB f bl b i es) (hx:bl.is.l[i]?=some x):EnvB f bl b (i+1) (es++[(x.x,y)]):=fun z hz=>by
  by_cases h0:z=x.x
  · exact uL _ _ (.inr (by rw [h0];exact List.mem_singleton.2 rfl))
  refine uL _ _ (.inl (h z ?_))
  rcases hz with hz|hz|hz
  · exact .inl hz
  · exact .inr (.inl hz)
  · refine .inr (.inr ?_)
    rcases hz with hz|hz|hz
    · exact .inl hz
    · exact .inr (.inl hz)
    · rw [yK hx,List.map_append] at hz
      rcases List.mem_append.1 hz with hz|hz
      · exact .inr (.inr hz)
      · exact absurd (List.mem_singleton.1 hz) h0
theorem EnvB.edge {f:Gr} {bl bl':Blc} {b k:Nat} {es:List (Int × Vl)} {vs:List Vl} {t:Edg} (h:EnvB f bl b bl.is.l.length es) (hbl:f.bs.l[b]?=some bl) (ht:t∈bl.e.to.l) (hk:t.b=k) (hlt:b<k) (hl:vs.length=bl'.ps.l.length):EnvB f bl' k 0 (es++bl'.ps.l.zip vs):=fun z hz=>by
  rcases hz with hz|hz|hz
  · exact uL _ _ (.inl (h z (.inl hz)))
  · exact uL _ _ (.inl (h z (.inr (.inl hz))))
  rcases hz with hz|hz|hz
  · refine uL _ _ (.inl (h z (.inr (.inr ?_))))
    rw [BS] at hz
    unfold vK
    rw [List.take_length]
    rcases hz.2 b hlt bl hbl ⟨t,ht,hk⟩ with h1|h1
    · exact .inr (List.mem_append.1 h1)
    · exact .inl h1
  · refine uL _ _ (.inr ?_)
    rw [List.map_fst_zip (by omega)]
    exact hz
  · cases hz
theorem EnvB.at {g:Grs} {f:Gr} {bl:Blc} {b i:Nat} {es:List (Int × Vl)} {a:Atm} (hs:g.ss.l.length≤9223372036854775807) (h:EnvB f bl b i es) (ha:atS g (vK (BS f b) bl i) a):atI g es a:=by
  have hw:=atS_W hs ha
  refine ⟨hw.1,hw.2,fun h2 h3=>?_⟩
  rcases ha with ⟨h1,h4,h5,h6⟩| ⟨h1,_⟩| ⟨h1,_⟩
  · refine ⟨h1,h _ ?_⟩
    rcases h6 with h6|h6
    · omega
    · exact .inr (.inr h6)
  · exact absurd h1 h2
  · exact absurd h1 h3
theorem k_fn {x:Vl} (h:yW x=3):∃f l,x= .fn f l:=by cases x<;>first|exact ⟨_,_,rfl⟩|(unfold yW at h;cases h)
theorem n_fn {x:Vl} (h:yW x≠3):asFn x=none:=by cases x<;>first|rfl|exact absurd rfl h
theorem fn_k {x:Vl} {c:Int × List Vl} (h:asFn x=some c):yW x=3:=by cases x<;>first|rfl|cases h
theorem texts_st {op:Int} {l:List Vl} {wd wd':Wd} {v:Vl} (h:wG op l wd= .val v wd'):wd'.st.length≤wd.st.length+1:=by
  unfold wG stk at h
  repeat' split at h
  all_goals first|(cases h;done)|(cases h;exact Nat.le_succ _)
theorem arrays_st {op:Int} {l:List Vl} {wd wd':Wd} {v:Vl} (h:vV op l wd= .val v wd'):wd'.st.length≤wd.st.length+1:=by
  unfold vV stk at h
  repeat' split at h
  all_goals first|(cases h;done)|(cases h;exact Nat.le_succ _)|(cases h;simp)
theorem op_st {op:Int} {l:List Vl} {wd wd':Wd} {v:Vl} (h:opF op l wd= .val v wd'):wd'.st.length≤wd.st.length+1:=by
  unfold opF stk at h
  repeat' split at h
  all_goals first|(cases h;done)|exact texts_st h|exact arrays_st h|(cases h;exact Nat.le_succ _)|(cases h;simp)
theorem plain_st {r:Stp} {l cs:List Vl} {wd wd':Wd} {v:Vl} (h:yD r l cs wd= .val v wd'):wd'.st.length≤wd.st.length+1:=by
  by_cases h2:r.k=2
  · rw [pl_2 h2] at h;exact op_st h
  unfold yD stk at h
  rw [if_neg h2] at h
  repeat' split at h
  all_goals first|(cases h;done)|(cases h;exact Nat.le_succ _)
theorem idx_lt (l:List ByteArray) (s:ByteArray) (h:0<l.length):xC l s<l.length:=by
  unfold xC
  cases hf:l.findIdx? (fun x=>eqS s x) with
  |none=>show (-1:Int)< _;omega
  | some i=>
    obtain ⟨hi,_⟩:=List.findIdx?_eq_some_iff_getElem.1 hf
    exact Int.ofNat_lt.2 hi
theorem exn_in {g:Grs} {cs:List Int} (h:AnfP cs g) {s:ByteArray} (hs:isExn s):0≤xC g.xs.l s∧xC g.xs.l s<g.xs.l.length:=by
  have h0:0≤xC g.xs.l s:=by
    rcases hs with rfl|rfl|rfl
    · exact h.has.1
    · exact h.has.2.2.2
    · exact h.has.2.1
  refine ⟨h0,idx_lt _ _ ?_⟩
  cases hl:g.xs.l with
  |nil=>rw [hl] at h0;exact absurd (show (0:Int)≤-1 from h0) (by decide)
  |cons x l=>exact Nat.succ_pos _
structure Bnd (c d:Dx) (n n':Nat) (wd wd':Wd):Prop where
  le:c.le d
  bd:d.bd+n'≤c.bd+n
  st:wd'.st.length+n'≤wd.st.length+n
  out:wd'.out.length+n'≤wd.out.length+n
theorem Bnd.trans {c d e:Dx} {n n1 n2:Nat} {wd wd1 wd2:Wd} (h:Bnd c d n n1 wd wd1) (h2:Bnd d e n1 n2 wd1 wd2):Bnd c e n n2 wd wd2:=⟨h.le.trans h2.le,Nat.le_trans h2.bd h.bd,Nat.le_trans h2.st h.st,Nat.le_trans h2.out h.out⟩
theorem Bnd.refl (c:Dx) (n:Nat) (wd:Wd):Bnd c c n n wd wd:=⟨c.le_refl,Nat.le_refl _,Nat.le_refl _,Nat.le_refl _⟩
theorem Bnd.up {c d:Dx} {n n':Nat} {wd wd':Wd} (h:Bnd c d n n' wd wd'):Bnd c d (n+1) n' wd wd':=⟨h.le,Nat.le_succ_of_le h.bd,Nat.le_succ_of_le h.st,Nat.le_succ_of_le h.out⟩
structure Cok (w0:World) (g:Grs) (c:Dx) (n:Nat) (wd:Wd):Prop where
  cp:c.cp=g.fs.l.map Gr.caps
  K:∀w,c.K w→Kp w0 noM w
  b0:65536≤c.bd
  bd:c.bd+n≤100000
  st:wd.st.length+n≤100000
  out:wd.out.length+n≤100000
theorem Cok.next {w0:World} {g:Grs} {c d:Dx} {n n':Nat} {wd wd':Wd} (h:Cok w0 g c n wd) (hb:Bnd c d n n' wd wd'):Cok w0 g d n' wd':=
  ⟨hb.le.cp▸h.cp,fun w hw=>h.K w (hb.le.K w hw),Nat.le_trans h.b0 hb.le.bd,Nat.le_trans hb.bd h.bd,Nat.le_trans hb.st h.st,Nat.le_trans hb.out h.out⟩
def CallQ (w0:World) (c:Dx) (bR bW:Nat) (g:Grs) (kd:Int) (n:Nat) (wd:Wd) (H:List It) (f x:Vl) (v:Value) (w:World):Prop:=
  ∃(o:Ow) (d:Dx) (n':Nat) (wd':Wd) (ov:List Value),v= .tuple #[.agg ov.toArray,.int .i64 o.k]∧OwV d g o ov∧Bnd c d n n' wd wd'∧RSt w0 d bR bW g n' wd' H w∧CRun g kd n f x wd n' o wd'
def CallC (w0:World) (bR bW:Nat) (g:Grs) (kd:Int) (n:Nat):Prop:=
  ∀ (w:World) (H:List It) (c:Dx) (wd:Wd) (f x:Vl) (fv xv:List Value),RSt w0 c bR bW g n wd H w→Cok w0 g c n wd→QV c f fv→QV c x xv→
    Ret Tryz.prog 30 #[.pointer (some (bat bR 0)),.agg fv.toArray,.agg xv.toArray] w (CallQ w0 c bR bW g kd n wd H f x)
def StepQ (w0:World) (c:Dx) (bR bW:Nat) (g:Grs) (kd:Int) (n:Nat) (wd:Wd) (H:List It) (fm:Fm) (v:Value) (w:World):Prop:=
  ∃(o:Ow) (d:Dx) (n':Nat) (wd':Wd) (ov:List Value),n'≤n∧v= .tuple #[.agg ov.toArray,.int .i64 o.k]∧OwV d g o ov∧Bnd c d (n+1) n' wd wd'∧RSt w0 d bR bW g n' wd' H w∧SRun g kd n fm wd n' o wd'
theorem RSt.fz {w0 w:World} {c d:Dx} {bR bW:Nat} {g:Grs} {n:Nat} {wd:Wd} {H:List It} (h:RSt w0 d bR bW g n wd H w) (hle:c.le d):HS w0 noM [frz w0 c.K] w:=by
  obtain ⟨oO,cO,oS,cS,sds,hH,hQ⟩:=h
  exact HS.frz_mono (HS.left (H1:=[_]) (hH.perm (H':=frz w0 d.K::_) PMT)) hle.K
theorem RSt.drew {w0 w:World} {d:Dx} {bR bW:Nat} {g:Grs} {n:Nat} {wd:Wd} {H:List It} (h:RSt w0 d bR bW g n wd H w):RSt w0 d bR bW g n wd H w.drew:=by
  obtain ⟨oO,cO,oS,cS,sds,hH,hQ⟩:=h
  exact ⟨oO,cO,oS,cS,sds,hH.drew,hQ⟩
theorem RSt.keep {w0 w w':World} {d:Dx} {bR bW:Nat} {g:Grs} {n:Nat} {wd:Wd} {H:List It} (h:RSt w0 d bR bW g n wd H w) (hk:Kp w noM w'):RSt w0 d bR bW g n wd H w':=by
  obtain ⟨oO,cO,oS,cS,sds,hH,hQ⟩:=h
  exact ⟨oO,cO,oS,cS,sds,hH.keep hk,hQ⟩
theorem RSt.fz2 {w0 w:World} {c d:Dx} {bR bW:Nat} {g:Grs} {n:Nat} {wd:Wd} {x:It} {H:List It} (h:RSt w0 d bR bW g n wd (x::H) w) (hle:c.le d):HS w0 noM [frz w0 c.K,x] w:=by
  obtain ⟨oO,cO,oS,cS,sds,hH,hQ⟩:=h
  exact HS.frz_mono (HS.left (H1:=[_,_]) (hH.perm (H':=frz w0 d.K::x::_) PMT)) hle.K
theorem OwV.stk (c:Dx) (g:Grs):OwV c g .stuck qz:=rfl
theorem OwV.rs {c:Dx} {g:Grs} {k:Int} {ov:List Value} (h:OwV c g (.raised k) ov):ov=qk 1 k∧0≤k∧k<g.xs.l.length:=h
theorem Bnd.n {c d:Dx} {n n':Nat} {wd wd':Wd} (h:Bnd c d n n' wd wd'):n'≤n:=by have:=h.le.bd;have:=h.bd;omega
theorem RsQ.ow {w0 w:World} {c:Dx} {bW n:Nat} {g:Grs} {wd:Wd} {H:List It} {r:Stp} {l cs:List Vl} {v:Value} (h:RsQ w0 c bW g wd H (yD r l cs wd) v w) (hA:AnfP (g.fs.l.map Gr.caps) g) :
    ∃d ov,v= .tuple #[.agg ov.toArray,.int .i64 (owR g (yD r l cs wd)).k]∧OwV d g (owR g (yD r l cs wd)) ov∧Bnd c d (n+1) n wd (wdR wd (yD r l cs wd))∧WSt w0 d bW g (wdR wd (yD r l cs wd)) H w:=by
  cases hp:yD r l cs wd with
  | exn s=>
    rw [hp] at h
    obtain ⟨rfl,hw⟩:=h
    exact ⟨c,_,rfl,⟨rfl,exn_in hA (gU hp)⟩,(Bnd.refl c n wd).up,hw⟩
  | val y wd'=>
    rw [hp] at h
    unfold owR wdR
    rcases h with ⟨h1,rfl,rfl,hw⟩| ⟨h1,d,vs,⟨hle,hbd⟩,rfl,hq,hw⟩
    · dsimp only
      rw [if_pos h1]
      exact ⟨c,qz,rfl,rfl,(Bnd.refl c n _).up,hw⟩
    · dsimp only
      rw [if_neg (by rw [h1];decide)]
      exact ⟨d,vs,rfl,hq,⟨hle,by omega,by have:=plain_st hp;omega,by have:=gT hp;omega⟩,hw⟩
section
attribute [local irreducible] Code.wp wpList Calls Ex Op1 sat bat blk cb own Go.Fw.mp Go.Fw.mpO Go.Fw.mpI Go.Fw.mpE Go.Fw.itr HS Rd Ret wkD Hp Cl Cls Exit.then Exit.inBlock Exit.noGoto bodyPost Go.Fw.flat wk2 Go.Fw.all Go.Fw.owns wpOp
attribute [local irreducible] sk mpK sko mvO xM xC frz w63 xX ofB vA QV QVs EQ yD OwV

-- the state behind a call:$1,$2 the slots of its value and of how it ended;$3 the call's argument
-- alloc first,then the call ($1:its contract),or the call first ($2)
theorem cX (w0 w:World) (H:List It) (c:Dx) (g:Grs) (kd:Int) (n:Nat) (wd:Wd) (bR bW:Nat) (fm:Fm) (r:Stp) (ol:Option Addr) (cl:Nat) (l:List Vl) (vs:List Value) (sc:List Value) (hC:∀m,m≤n→CallC w0 bR bW g kd m) (hS:RSt w0 c bR bW g n wd H w) (hok:Cok w0 g c n wd) (hM:MayP g) (hxs:RdV w0 yQ g.xs) (hins:(xD g fm).r=r) (hal:xZ g fm r.a.l=l) (hr:∀w,c.K w→Rd w ol vs) (hq:QVs c l vs) (hself:QV c (.fn fm.c.1 fm.c.2) sc) (hform:FormP g c.cp (c.cp.getD fm.c.1.toNat 0) r) (hN:RdV w0 Fw.encI r.ns) (hbn:r.ns.l.length≤65536) (hrn:iok r.n) (hla:l.length≤65536) (hk:r.k=3∨r.k=14) :
    Ret Tryz.prog 100 #[.pointer (some (bat bR 0)),.agg (zX r).toArray,.slice ol l.length cl,.agg sc.toArray] w (StepQ w0 c bR bW g kd n wd H fm):=by
  obtain ⟨oO,cO,oS,cS,sds,hH,hQ⟩:=hS
  have hl:l.length=r.a.l.length:=by rw [←hal];unfold xZ;rw [List.length_map]
  have e:xZ g fm (xD g fm).r.a.l=l:=by rw [hins];exact hal
  have hwant:=hform.want
  rw [←hl] at hwant
  have hspL:Sp ol l.length:=(hr w (hH.frz MEMT)).sp (sz:=5) hq.len (by omega)
  have hw:(l.length:Int)=2:=by
    rcases hk with hk|hk
    · exact hwant.trans (w_3 (g:=g) (mine:=0) (.inl hk)).1
    · exact hwant.trans (w_14 (g:=g) (mine:=0) hk).1
  obtain ⟨v0,hq0,hc0⟩:=hq.nth (i:=0) (by omega)
  obtain ⟨v1,hq1,hc1⟩:=hq.nth (i:=1) (by omega)
  have hvk:=qC hq0 hc0
  rcases hk with hk|hk
  · (refine ENT (N:=108) Tryz.func100 Tryz.ntmps100 ?_;intro a hA)
    repeat' (first|(refine QT ?_;clear hA a;intro a hA)|(refine BT ?_;clear hA hH;rintro _ w ⟨bN,rfl,hH⟩ a hA)|refine CT ?_|(refine DT ?_ ?_<;>intro hc<;>try (exfalso;omega))|fail)
    obtain ⟨b8,b7,b5,hS,hA2⟩:∃b8 b7 b5,RSt w0 c bR bW g n wd (cb b8 103 qz::cb b7 103 sc::cb b5 57 (zX r)::H) _∧Sl 108 [(8,.pointer (some (bat b8 0))),(7,.pointer (some (bat b7 0))),(5,.pointer (some (bat b5 0))),(2,.slice ol l.length cl),(0,.pointer (some (bat bR 0)))] a:=⟨_,_,_,⟨oO,cO,oS,cS,sds,hH.perm PMT,hQ⟩,(hA.sub SBT)⟩
    clear hA hH hQ
    have hA:=hA2
    clear hA2
    have hST:=hS.fz c.le_refl
    refine xO (qs [0,1,2,3,4,5,6] (.two 7 11 (qs [8,9,10] (.one 11 (.one 12 (.q 13 .nil)))) (.one 7 (qs [8,9,10] (.one 12 (.q 13 .nil)))))) (fun a w=>∃b o d n' wd' ov,(OwV d g o ov∧Bnd c d n n' wd wd'∧CRun g kd n (zS l 0) (zS l 1) wd n' o wd')∧RSt w0 d bR bW g n' wd' (cb b 103 ov::cb b8 103 qz::cb b7 103 sc::cb b5 57 (zX r)::H) w∧Sl 108 [(11,.int .i64 o.k),(10,.pointer (some (bat b 0))),(8,.pointer (some (bat b8 0))),(7,.pointer (some (bat b7 0))),(5,.pointer (some (bat b5 0))),(2,.slice ol l.length cl),(0,.pointer (some (bat bR 0)))] a) mixed (by decide +kernel) hST ?_ ?_
    · clear hST
      replace hS:=hS.drew
      (repeat (apply yN hA rfl rfl rfl (by decide);(first|exact EXT|exact EXT2|(apply zC;rfl;rfl;decide;omega;exact hspL)|(apply zA (vs:=v0);rfl;exact hq0.len;exact yF MEMT hr (fun i v h=>hc0 i v h))|(apply zA (vs:=v1);rfl;exact hq1.len;exact yF MEMT hr (fun i v h=>hc1 i v h)));clear hA a;intro a hA))
      apply uP
      rotate_left
      · skip
        obtain ⟨oO,cO,oS,cS,sds,hH,hQ⟩:=hS
        skip
        (apply yT hA rfl rfl rfl (by decide);apply yV;exact hH;clear hA hH;rintro _ w ⟨bN,rfl,hH⟩;refine ⟨hH.pick (by exact MEMT),?_⟩;intro a hA)
        have hS:RSt w0 c bR bW g n wd (cb bN 103 _::cb b8 103 qz::cb b7 103 sc::cb b5 57 (zX r)::H) _:=⟨oO,cO,oS,cS,sds,hH.perm PMT,hQ⟩
        clear hH hQ
        skip
        (refine yT hA rfl rfl rfl (by decide) (zE rfl rfl rfl (hC n (Nat.le_refl _) w _ c wd _ _ v0 v1 hS hok hq0 hq1)) ?_;clear hA hS;rintro _ w ⟨o,d,n',wd',ov,rfl,hov,hB,hS,hrun⟩;refine ⟨hS.fz hB.le,?_⟩;intro a hA)
        (repeat (apply yN hA rfl rfl rfl (by decide);(first|exact EXT|exact EXT2|(apply zC;rfl;rfl;decide;omega;exact hspL)|(apply zA (vs:=v0);rfl;exact hq0.len;exact yF MEMT hr (fun i v h=>hc0 i v h))|(apply zA (vs:=v1);rfl;exact hq1.len;exact yF MEMT hr (fun i v h=>hc1 i v h)));clear hA a;intro a hA))
        obtain ⟨oO,cO,oS,cS,sds,hH,hQ⟩:=hS
        skip
        (apply yR hA rfl rfl rfl;apply zI (vs:=ov);rfl;rfl;exact hH;(repeat constructor);exact hov.len;rfl;exact hov.one;clear hH;rintro _ w hH;refine ⟨HS.frz_mono (hH.pick (it:=frz w0 d.K) (by exact MEMT)) hB.le.K,?_⟩)
        (repeat (apply yN hA rfl rfl rfl (by decide);(first|exact EXT|exact EXT2|(apply zC;rfl;rfl;decide;omega;exact hspL)|(apply zA (vs:=v0);rfl;exact hq0.len;exact yF MEMT hr (fun i v h=>hc0 i v h))|(apply zA (vs:=v1);rfl;exact hq1.len;exact yF MEMT hr (fun i v h=>hc1 i v h)));clear hA a;intro a hA))
        apply xG
        exact ⟨_,o,d,n',wd',ov,⟨hov,hB,hrun⟩,⟨oO,cO,oS,cS,sds,hH.perm PMT,hQ⟩,(hA.sub SBT)⟩
      (refine yT hA rfl rfl rfl (by decide) (zE rfl rfl rfl (hC n (Nat.le_refl _) _ _ c wd _ _ v0 v1 hS hok hq0 hq1)) ?_;clear hA hS;rintro _ w ⟨o,d,n',wd',ov,rfl,hov,hB,hS,hrun⟩;refine ⟨hS.fz hB.le,?_⟩;intro a hA)
      (repeat (apply yN hA rfl rfl rfl (by decide);(first|exact EXT|exact EXT2|(apply zC;rfl;rfl;decide;omega;exact hspL)|(apply zA (vs:=v0);rfl;exact hq0.len;exact yF MEMT hr (fun i v h=>hc0 i v h))|(apply zA (vs:=v1);rfl;exact hq1.len;exact yF MEMT hr (fun i v h=>hc1 i v h)));clear hA a;intro a hA))
      obtain ⟨oO,cO,oS,cS,sds,hH,hQ⟩:=hS
      skip
      (apply yT hA rfl rfl rfl (by decide);apply yV;exact hH;clear hA hH;rintro _ w ⟨bN,rfl,hH⟩;refine ⟨HS.frz_mono (hH.pick (it:=frz w0 d.K) (by exact MEMT)) hB.le.K,?_⟩;intro a hA)
      have hS:RSt w0 d bR bW g n' wd' (cb bN 103 _::cb b8 103 qz::cb b7 103 sc::cb b5 57 (zX r)::H) _:=⟨oO,cO,oS,cS,sds,hH.perm PMT,hQ⟩
      clear hH hQ
      skip
      obtain ⟨oO,cO,oS,cS,sds,hH,hQ⟩:=hS
      skip
      (apply yR hA rfl rfl rfl;apply zI (vs:=ov);rfl;rfl;exact hH;(repeat constructor);exact hov.len;rfl;exact hov.one;clear hH;rintro _ w hH;refine ⟨HS.frz_mono (hH.pick (it:=frz w0 d.K) (by exact MEMT)) hB.le.K,?_⟩)
      (repeat (apply yN hA rfl rfl rfl (by decide);(first|exact EXT|exact EXT2|(apply zC;rfl;rfl;decide;omega;exact hspL)|(apply zA (vs:=v0);rfl;exact hq0.len;exact yF MEMT hr (fun i v h=>hc0 i v h))|(apply zA (vs:=v1);rfl;exact hq1.len;exact yF MEMT hr (fun i v h=>hc1 i v h)));clear hA a;intro a hA))
      apply xG
      exact ⟨_,o,d,n',wd',ov,⟨hov,hB,hrun⟩,⟨oO,cO,oS,cS,sds,hH.perm PMT,hQ⟩,(hA.sub SBT)⟩
    clear hA hS hST
    rintro a w ⟨b10,o,d,n',wd',ov,⟨hov,hB,hrun⟩,⟨oO,cO,oS,cS,sds,hH,hQ⟩,hA⟩
    repeat' (first|(refine XT ?_;apply XE;(first|(apply zA (vs:=ov);rfl;exact hov.len;exact zD MEMT));clear hA a;intro a hA)|(refine QT ?_;clear hA a;intro a hA)|(apply zT hA rfl rfl;apply zI (vs:=ov);rfl;rfl;exact hH;(repeat constructor);exact hov.len;rfl;exact hov.one;clear hH;rintro _ w hH)|refine CT ?_|fail)
    exact wB (vs:=ov) (sz:=5) (.inl rfl) rfl hA rfl rfl hov.len hH (zD MEMT) ⟨o,d,n',wd',ov,hB.n,rfl,hov,hB.up,WSt.dropL (L:=[cb b10 103 ov,cb b8 103 ov,cb b7 103 sc,cb b5 57 (zX r)]) ⟨oO,cO,oS,cS,sds,hH.perm PMT,hQ⟩,s_call (by rw [hins];exact hk) (by rw [e];exact hrun)⟩
  by_cases hkd:yW (zS l 0)=3∧∀cc,asFn (zS l 0)=some cc→cc.1=r.n
  · obtain ⟨f1,l1,hp⟩:=k_fn hkd.1
    have hfn:=hkd.2 (f1,l1) (by rw [hp];rfl)
    dsimp only at hfn
    subst hfn
    have hq2:=hq0
    rw [hp,QV] at hq2
    obtain ⟨o1,k1,vs1,hv0,_⟩:=hq2
    have hc01:=hc0 1 (.int .i64 r.n) (by rw [hv0];rfl)
    have hk3:=hkd.1
    (refine ENT (N:=108) Tryz.func100 Tryz.ntmps100 ?_;intro a hA)
    repeat' (first|(refine QT ?_;clear hA a;intro a hA)|(refine BT ?_;clear hA hH;rintro _ w ⟨bN,rfl,hH⟩ a hA)|refine CT ?_|(refine DT ?_ ?_<;>intro hc<;>try (exfalso;omega))|fail)
    (refine zO [(0,1),(1,1),(2,1),(3,1),(4,1),(5,1),(6,1),(7,1),(8,1),(9,1),(10,1),(11,1),(12,1),(13,1)] mixed (by decide +kernel) hH ?_;replace hH:=hH.drew)
    repeat' (first|(refine GT ?_ ?_<;>intro hg<;>clear hA a<;>intro a hA<;>(first|exact FA|replace hg:=dTr hg|replace hg:=dFa hg|skip))|(refine XT ?_;apply XE;(first|(apply zC;rfl;rfl;decide;omega;exact hspL)|(apply zF;rfl;exact zP MEMT hr (hvk))|(apply zF;rfl;exact zP MEMT hr (hc01)));clear hA a;intro a hA)|(refine QT ?_;clear hA a;intro a hA)|refine CT ?_|(refine DT ?_ ?_<;>intro hc<;>try (exfalso;omega))|fail)
    obtain ⟨b8,b7,b5,hS,hA2⟩:∃b8 b7 b5,RSt w0 c bR bW g n wd (cb b8 103 qz::cb b7 103 sc::cb b5 57 (zX r)::H) _∧Sl 108 [(8,.pointer (some (bat b8 0))),(7,.pointer (some (bat b7 0))),(5,.pointer (some (bat b5 0))),(2,.slice ol l.length cl),(0,.pointer (some (bat bR 0)))] a:=⟨_,_,_,⟨oO,cO,oS,cS,sds,hH.perm PMT,hQ⟩,(hA.sub SBT)⟩
    clear hA hH hQ
    have hA:=hA2
    clear hA2
    have hST:=hS.fz c.le_refl
    refine xO (qs [0,1,2,3,4,5,6] (.two 7 11 (qs [8,9,10] (.one 11 (.one 12 (.q 13 .nil)))) (.one 7 (qs [8,9,10] (.one 12 (.q 13 .nil)))))) (fun a w=>∃b o d n' wd' ov,(OwV d g o ov∧Bnd c d n n' wd wd'∧CRun g kd n (zS l 0) (zS l 1) wd n' o wd')∧RSt w0 d bR bW g n' wd' (cb b 103 ov::cb b8 103 qz::cb b7 103 sc::cb b5 57 (zX r)::H) w∧Sl 108 [(13,.int .i64 o.k),(12,.pointer (some (bat b 0))),(8,.pointer (some (bat b8 0))),(7,.pointer (some (bat b7 0))),(5,.pointer (some (bat b5 0))),(2,.slice ol l.length cl),(0,.pointer (some (bat bR 0)))] a) mixed (by decide +kernel) hST ?_ ?_
    · clear hST
      replace hS:=hS.drew
      (repeat (apply yN hA rfl rfl rfl (by decide);(first|exact EXT|exact EXT2|(apply zC;rfl;rfl;decide;omega;exact hspL)|(apply zA (vs:=v0);rfl;exact hq0.len;exact yF MEMT hr (fun i v h=>hc0 i v h))|(apply zA (vs:=v1);rfl;exact hq1.len;exact yF MEMT hr (fun i v h=>hc1 i v h)));clear hA a;intro a hA))
      apply uP
      rotate_left
      · skip
        obtain ⟨oO,cO,oS,cS,sds,hH,hQ⟩:=hS
        skip
        (apply yT hA rfl rfl rfl (by decide);apply yV;exact hH;clear hA hH;rintro _ w ⟨bN,rfl,hH⟩;refine ⟨hH.pick (by exact MEMT),?_⟩;intro a hA)
        have hS:RSt w0 c bR bW g n wd (cb bN 103 _::cb b8 103 qz::cb b7 103 sc::cb b5 57 (zX r)::H) _:=⟨oO,cO,oS,cS,sds,hH.perm PMT,hQ⟩
        clear hH hQ
        skip
        (refine yT hA rfl rfl rfl (by decide) (zE rfl rfl rfl (hC n (Nat.le_refl _) w _ c wd _ _ v0 v1 hS hok hq0 hq1)) ?_;clear hA hS;rintro _ w ⟨o,d,n',wd',ov,rfl,hov,hB,hS,hrun⟩;refine ⟨hS.fz hB.le,?_⟩;intro a hA)
        (repeat (apply yN hA rfl rfl rfl (by decide);(first|exact EXT|exact EXT2|(apply zC;rfl;rfl;decide;omega;exact hspL)|(apply zA (vs:=v0);rfl;exact hq0.len;exact yF MEMT hr (fun i v h=>hc0 i v h))|(apply zA (vs:=v1);rfl;exact hq1.len;exact yF MEMT hr (fun i v h=>hc1 i v h)));clear hA a;intro a hA))
        obtain ⟨oO,cO,oS,cS,sds,hH,hQ⟩:=hS
        skip
        (apply yR hA rfl rfl rfl;apply zI (vs:=ov);rfl;rfl;exact hH;(repeat constructor);exact hov.len;rfl;exact hov.one;clear hH;rintro _ w hH;refine ⟨HS.frz_mono (hH.pick (it:=frz w0 d.K) (by exact MEMT)) hB.le.K,?_⟩)
        (repeat (apply yN hA rfl rfl rfl (by decide);(first|exact EXT|exact EXT2|(apply zC;rfl;rfl;decide;omega;exact hspL)|(apply zA (vs:=v0);rfl;exact hq0.len;exact yF MEMT hr (fun i v h=>hc0 i v h))|(apply zA (vs:=v1);rfl;exact hq1.len;exact yF MEMT hr (fun i v h=>hc1 i v h)));clear hA a;intro a hA))
        apply xG
        exact ⟨_,o,d,n',wd',ov,⟨hov,hB,hrun⟩,⟨oO,cO,oS,cS,sds,hH.perm PMT,hQ⟩,(hA.sub SBT)⟩
      (refine yT hA rfl rfl rfl (by decide) (zE rfl rfl rfl (hC n (Nat.le_refl _) _ _ c wd _ _ v0 v1 hS hok hq0 hq1)) ?_;clear hA hS;rintro _ w ⟨o,d,n',wd',ov,rfl,hov,hB,hS,hrun⟩;refine ⟨hS.fz hB.le,?_⟩;intro a hA)
      (repeat (apply yN hA rfl rfl rfl (by decide);(first|exact EXT|exact EXT2|(apply zC;rfl;rfl;decide;omega;exact hspL)|(apply zA (vs:=v0);rfl;exact hq0.len;exact yF MEMT hr (fun i v h=>hc0 i v h))|(apply zA (vs:=v1);rfl;exact hq1.len;exact yF MEMT hr (fun i v h=>hc1 i v h)));clear hA a;intro a hA))
      obtain ⟨oO,cO,oS,cS,sds,hH,hQ⟩:=hS
      skip
      (apply yT hA rfl rfl rfl (by decide);apply yV;exact hH;clear hA hH;rintro _ w ⟨bN,rfl,hH⟩;refine ⟨HS.frz_mono (hH.pick (it:=frz w0 d.K) (by exact MEMT)) hB.le.K,?_⟩;intro a hA)
      have hS:RSt w0 d bR bW g n' wd' (cb bN 103 _::cb b8 103 qz::cb b7 103 sc::cb b5 57 (zX r)::H) _:=⟨oO,cO,oS,cS,sds,hH.perm PMT,hQ⟩
      clear hH hQ
      skip
      obtain ⟨oO,cO,oS,cS,sds,hH,hQ⟩:=hS
      skip
      (apply yR hA rfl rfl rfl;apply zI (vs:=ov);rfl;rfl;exact hH;(repeat constructor);exact hov.len;rfl;exact hov.one;clear hH;rintro _ w hH;refine ⟨HS.frz_mono (hH.pick (it:=frz w0 d.K) (by exact MEMT)) hB.le.K,?_⟩)
      (repeat (apply yN hA rfl rfl rfl (by decide);(first|exact EXT|exact EXT2|(apply zC;rfl;rfl;decide;omega;exact hspL)|(apply zA (vs:=v0);rfl;exact hq0.len;exact yF MEMT hr (fun i v h=>hc0 i v h))|(apply zA (vs:=v1);rfl;exact hq1.len;exact yF MEMT hr (fun i v h=>hc1 i v h)));clear hA a;intro a hA))
      apply xG
      exact ⟨_,o,d,n',wd',ov,⟨hov,hB,hrun⟩,⟨oO,cO,oS,cS,sds,hH.perm PMT,hQ⟩,(hA.sub SBT)⟩
    clear hA hS hST
    rintro a w ⟨b10,o,d,n',wd',ov,⟨hov,hB,hrun⟩,⟨oO,cO,oS,cS,sds,hH,hQ⟩,hA⟩
    repeat' (first|(refine XT ?_;apply XE;(first|(apply zA (vs:=ov);rfl;exact hov.len;exact zD MEMT));clear hA a;intro a hA)|(refine QT ?_;clear hA a;intro a hA)|(apply zT hA rfl rfl;apply zI (vs:=ov);rfl;rfl;exact hH;(repeat constructor);exact hov.len;rfl;exact hov.one;clear hH;rintro _ w hH)|refine CT ?_|fail)
    exact wB (vs:=ov) (sz:=5) (.inl rfl) rfl hA rfl rfl hov.len hH (zD MEMT) ⟨o,d,n',wd',ov,hB.n,rfl,hov,hB.up,WSt.dropL (L:=[cb b10 103 ov,cb b8 103 ov,cb b7 103 sc,cb b5 57 (zX r)]) ⟨oO,cO,oS,cS,sds,hH.perm PMT,hQ⟩,s_known (c:=(r.n,l1)) (by rw [hins];exact hk) (by rw [e,hp];rfl) (by rw [hins]) (by rw [e];exact hrun)⟩
  have hno:∀cc,asFn (zS l 0)=some cc→cc.1≠r.n:=fun cc h h1=>hkd ⟨fn_k h,fun c2 h2=>by rw [h] at h2;cases h2;exact h1⟩
  by_cases hk3:yW (zS l 0)=3
  · obtain ⟨f1,l1,hp⟩:=k_fn hk3
    have hne:=hno (f1,l1) (by rw [hp];rfl)
    dsimp only at hne
    have hq2:=hq0
    rw [hp,QV] at hq2
    obtain ⟨o1,k1,vs1,hv0,_⟩:=hq2
    have hc01:=hc0 1 (.int .i64 f1) (by rw [hv0];rfl)
    (refine ENT (N:=108) Tryz.func100 Tryz.ntmps100 ?_;intro a hA)
    repeat' (first|(refine QT ?_;clear hA a;intro a hA)|(refine BT ?_;clear hA hH;rintro _ w ⟨bN,rfl,hH⟩ a hA)|refine CT ?_|(refine DT ?_ ?_<;>intro hc<;>try (exfalso;omega))|fail)
    (refine zO [(0,1),(1,1),(2,1),(3,1),(4,1),(5,1),(6,1),(7,1),(8,1),(9,1),(10,1),(11,1),(12,1),(13,1)] mixed (by decide +kernel) hH ?_;replace hH:=hH.drew)
    repeat' (first|(refine GT ?_ ?_<;>intro hg<;>clear hA a<;>intro a hA<;>(first|exact FA|replace hg:=dTr hg|replace hg:=dFa hg|skip))|(refine XT ?_;apply XE;(first|(apply zC;rfl;rfl;decide;omega;exact hspL)|(apply zF;rfl;exact zP MEMT hr (hvk))|(apply zF;rfl;exact zP MEMT hr (hc01))|(apply zK (cs:=(qz).toArray);rfl;exact FLT;rfl));clear hA a;intro a hA)|(refine QT ?_;clear hA a;intro a hA)|(refine SAT (qz) hA hH ?_;clear hH;intro w hH)|refine CT ?_|(refine DT ?_ ?_<;>intro hc<;>try (exfalso;omega))|fail)
    exact wB (vs:=qz) (.inl rfl) rfl hA rfl rfl rfl hH (zD MEMT) ⟨.stuck,c,n,wd,qz,Nat.le_refl n,rfl,OwV.stk c g,(Bnd.refl c n wd).up,WSt.dropL (L:=[cb _ 103 qz,cb _ 103 sc,cb _ 57 (zX r)]) ⟨oO,cO,oS,cS,sds,hH.perm PMT,hQ⟩,kT (by rw [hins];exact hk) (by rw [e,hins];exact hno)⟩
  · (refine ENT (N:=108) Tryz.func100 Tryz.ntmps100 ?_;intro a hA)
    repeat' (first|(refine QT ?_;clear hA a;intro a hA)|(refine BT ?_;clear hA hH;rintro _ w ⟨bN,rfl,hH⟩ a hA)|refine CT ?_|(refine DT ?_ ?_<;>intro hc<;>try (exfalso;omega))|fail)
    (refine zO [(0,1),(1,1),(2,1),(3,1),(4,1),(5,1),(6,1),(7,1),(8,1),(9,1),(10,1),(11,1),(12,1),(13,1)] mixed (by decide +kernel) hH ?_;replace hH:=hH.drew)
    repeat' (first|(refine GT ?_ ?_<;>intro hg<;>clear hA a<;>intro a hA<;>(first|exact FA|replace hg:=dTr hg|replace hg:=dFa hg|skip))|(refine XT ?_;apply XE;(first|(apply zC;rfl;rfl;decide;omega;exact hspL)|(apply zF;rfl;exact zP MEMT hr (hvk))|(apply zK (cs:=(qz).toArray);rfl;exact FLT;rfl));clear hA a;intro a hA)|(refine QT ?_;clear hA a;intro a hA)|(refine SAT (qz) hA hH ?_;clear hH;intro w hH)|refine CT ?_|fail)
    exact wB (vs:=qz) (.inl rfl) rfl hA rfl rfl rfl hH (zD MEMT) ⟨.stuck,c,n,wd,qz,Nat.le_refl n,rfl,OwV.stk c g,(Bnd.refl c n wd).up,WSt.dropL (L:=[cb _ 103 qz,cb _ 103 sc,cb _ 57 (zX r)]) ⟨oO,cO,oS,cS,sds,hH.perm PMT,hQ⟩,kT (by rw [hins];exact hk) (by rw [e,hins];exact hno)⟩
theorem cU (w0 w:World) (H:List It) (c:Dx) (g:Grs) (kd:Int) (n:Nat) (wd:Wd) (bR bW:Nat) (fm:Fm) (r:Stp) (ol:Option Addr) (cl:Nat) (l:List Vl) (vs:List Value) (sc:List Value) (hC:∀m,m≤n→CallC w0 bR bW g kd m) (hS:RSt w0 c bR bW g n wd H w) (hok:Cok w0 g c n wd) (hM:MayP g) (hxs:RdV w0 yQ g.xs) (hins:(xD g fm).r=r) (hal:xZ g fm r.a.l=l) (hr:∀w,c.K w→Rd w ol vs) (hq:QVs c l vs) (hself:QV c (.fn fm.c.1 fm.c.2) sc) (hform:FormP g c.cp (c.cp.getD fm.c.1.toNat 0) r) (hN:RdV w0 Fw.encI r.ns) (hbn:r.ns.l.length≤65536) (hrn:iok r.n) (hla:l.length≤65536) (hk:r.k=13) :
    Ret Tryz.prog 100 #[.pointer (some (bat bR 0)),.agg (zX r).toArray,.slice ol l.length cl,.agg sc.toArray] w (StepQ w0 c bR bW g kd n wd H fm):=by
  obtain ⟨oO,cO,oS,cS,sds,hH,hQ⟩:=hS
  have hl:l.length=r.a.l.length:=by rw [←hal];unfold xZ;rw [List.length_map]
  have e:xZ g fm (xD g fm).r.a.l=l:=by rw [hins];exact hal
  have hwant:=hform.want
  rw [←hl] at hwant
  have hspL:Sp ol l.length:=(hr w (hH.frz MEMT)).sp (sz:=5) hq.len (by omega)
  have hw:(l.length:Int)=2:=hwant.trans (w_3 (g:=g) (mine:=0) (.inr (.inr hk))).1
  obtain ⟨v0,hq0,hc0⟩:=hq.nth (i:=0) (by omega)
  obtain ⟨v1,hq1,hc1⟩:=hq.nth (i:=1) (by omega)
  have hvk:=qC hq1 hc1
  have hxle:=hxs.le
  by_cases hk3:yW (zS l 1)=3
  rotate_left
  · (refine ENT (N:=108) Tryz.func100 Tryz.ntmps100 ?_;intro a hA)
    repeat' (first|(refine XT ?_;apply XE;(first|(apply zC;rfl;rfl;decide;omega;exact hspL)|(apply zF;rfl;exact zP MEMT hr (hvk))|(apply zK (cs:=(qz).toArray);rfl;exact FLT;rfl));clear hA a;intro a hA)|(refine QT ?_;clear hA a;intro a hA)|(refine BT ?_;clear hA hH;rintro _ w ⟨bN,rfl,hH⟩ a hA)|(refine SAT (qz) hA hH ?_;clear hH;intro w hH)|refine CT ?_|(refine DT ?_ ?_<;>intro hc<;>try (exfalso;omega))|fail)
    exact wB (vs:=qz) (.inl rfl) rfl hA rfl rfl rfl hH (zD MEMT) ⟨.stuck,c,n,wd,qz,Nat.le_refl n,rfl,OwV.stk c g,(Bnd.refl c n wd).up,WSt.dropL (L:=[cb _ 103 qz,cb _ 103 sc,cb _ 57 (zX r)]) ⟨oO,cO,oS,cS,sds,hH.perm PMT,hQ⟩,s_try_no (by rw [hins];exact hk) (by rw [e];exact n_fn hk3)⟩
  obtain ⟨f1,l1,hp⟩:=k_fn hk3
  (refine ENT (N:=108) Tryz.func100 Tryz.ntmps100 ?_;intro a hA)
  repeat' (first|(refine XT ?_;apply XE;(first|(apply zC;rfl;rfl;decide;omega;exact hspL)|(apply zF;rfl;exact zP MEMT hr (hvk)));clear hA a;intro a hA)|(refine QT ?_;clear hA a;intro a hA)|(refine BT ?_;clear hA hH;rintro _ w ⟨bN,rfl,hH⟩ a hA)|refine CT ?_|(refine DT ?_ ?_<;>intro hc<;>try (exfalso;omega))|fail)
  obtain ⟨b8,b7,b5,hS,hA2⟩:∃b8 b7 b5,RSt w0 c bR bW g n wd (cb b8 103 qz::cb b7 103 sc::cb b5 57 (zX r)::H) _∧Sl 108 [(8,.pointer (some (bat b8 0))),(7,.pointer (some (bat b7 0))),(5,.pointer (some (bat b5 0))),(2,.slice ol l.length cl),(0,.pointer (some (bat bR 0)))] a:=⟨_,_,_,⟨oO,cO,oS,cS,sds,hH.perm PMT,hQ⟩,(hA.sub SBT)⟩
  clear hA hH hQ
  have hA:=hA2
  clear hA2
  have hST:=hS.fz c.le_refl
  have hq00:QV c (.num 0) (qk 1 0):=QV_num ⟨by decide,by decide⟩
  refine xO (qs [0,1,2,3] (.two 4 9 (.two 5 9 (qs [6,7,8] (.one 9 (.one 10 (.q 11 .nil)))) (.one 5 (qs [6,7,8] (.one 10 (.q 11 .nil))))) (.one 4 (.one 5 (qs [6,7,8] (.one 10 (.q 11 .nil))))))) (fun a w=>∃b o d n' wd' ov,(OwV d g o ov∧Bnd c d n n' wd wd'∧CRun g kd n (zS l 0) (.num 0) wd n' o wd')∧RSt w0 d bR bW g n' wd' (cb b 103 ov::cb b8 103 qz::cb b7 103 sc::cb b5 57 (zX r)::H) w∧Sl 108 [(15,.int .i64 o.k),(14,.pointer (some (bat b 0))),(8,.pointer (some (bat b8 0))),(7,.pointer (some (bat b7 0))),(5,.pointer (some (bat b5 0))),(2,.slice ol l.length cl),(0,.pointer (some (bat bR 0)))] a) mixed (by decide +kernel) hST ?_ ?_
  · clear hST
    replace hS:=hS.drew
    (repeat (apply yN hA rfl rfl rfl (by decide);(first|exact EXT|exact EXT2|(apply zC;rfl;rfl;decide;omega;exact hspL)|(apply zA (vs:=v0);rfl;exact hq0.len;exact yF MEMT hr (fun i v h=>hc0 i v h))|(apply zA (vs:=v1);rfl;exact hq1.len;exact yF MEMT hr (fun i v h=>hc1 i v h)));clear hA a;intro a hA))
    apply uP
    rotate_left
    · skip
      obtain ⟨oO,cO,oS,cS,sds,hH,hQ⟩:=hS
      skip
      (apply yT hA rfl rfl rfl (by decide);apply yV;exact hH;clear hA hH;rintro _ w ⟨bN,rfl,hH⟩;refine ⟨hH.pick (by exact MEMT),?_⟩;intro a hA)
      have hS:RSt w0 c bR bW g n wd (cb bN 103 _::cb b8 103 qz::cb b7 103 sc::cb b5 57 (zX r)::H) _:=⟨oO,cO,oS,cS,sds,hH.perm PMT,hQ⟩
      clear hH hQ
      skip
      (refine yT hA rfl rfl rfl (by decide) (zE rfl rfl rfl (rI _ _)) ?_;clear hA;rintro _ w ⟨rfl,hkn⟩;replace hS:=hS.keep hkn;clear hkn;refine ⟨hS.fz c.le_refl,?_⟩;intro a hA)
      (refine yT hA rfl rfl rfl (by decide) (zE rfl rfl rfl (hC n (Nat.le_refl _) w _ c wd _ _ v0 _ hS hok hq0 hq00)) ?_;clear hA hS;rintro _ w ⟨o,d,n',wd',ov,rfl,hov,hB,hS,hrun⟩;refine ⟨hS.fz hB.le,?_⟩;intro a hA)
      (repeat (apply yN hA rfl rfl rfl (by decide);(first|exact EXT|exact EXT2|(apply zC;rfl;rfl;decide;omega;exact hspL)|(apply zA (vs:=v0);rfl;exact hq0.len;exact yF MEMT hr (fun i v h=>hc0 i v h))|(apply zA (vs:=v1);rfl;exact hq1.len;exact yF MEMT hr (fun i v h=>hc1 i v h)));clear hA a;intro a hA))
      obtain ⟨oO,cO,oS,cS,sds,hH,hQ⟩:=hS
      skip
      (apply yR hA rfl rfl rfl;apply zI (vs:=ov);rfl;rfl;exact hH;(repeat constructor);exact hov.len;rfl;exact hov.one;clear hH;rintro _ w hH;refine ⟨HS.frz_mono (hH.pick (it:=frz w0 d.K) (by exact MEMT)) hB.le.K,?_⟩)
      (repeat (apply yN hA rfl rfl rfl (by decide);(first|exact EXT|exact EXT2|(apply zC;rfl;rfl;decide;omega;exact hspL)|(apply zA (vs:=v0);rfl;exact hq0.len;exact yF MEMT hr (fun i v h=>hc0 i v h))|(apply zA (vs:=v1);rfl;exact hq1.len;exact yF MEMT hr (fun i v h=>hc1 i v h)));clear hA a;intro a hA))
      apply xG
      exact ⟨_,o,d,n',wd',ov,⟨hov,hB,hrun⟩,⟨oO,cO,oS,cS,sds,hH.perm PMT,hQ⟩,(hA.sub SBT)⟩
    (refine yT hA rfl rfl rfl (by decide) (zE rfl rfl rfl (rI _ _)) ?_;clear hA;rintro _ w ⟨rfl,hkn⟩;replace hS:=hS.keep hkn;clear hkn;refine ⟨hS.fz c.le_refl,?_⟩;intro a hA)
    apply uP
    rotate_left
    · skip
      obtain ⟨oO,cO,oS,cS,sds,hH,hQ⟩:=hS
      skip
      (apply yT hA rfl rfl rfl (by decide);apply yV;exact hH;clear hA hH;rintro _ w ⟨bN,rfl,hH⟩;refine ⟨hH.pick (by exact MEMT),?_⟩;intro a hA)
      have hS:RSt w0 c bR bW g n wd (cb bN 103 _::cb b8 103 qz::cb b7 103 sc::cb b5 57 (zX r)::H) _:=⟨oO,cO,oS,cS,sds,hH.perm PMT,hQ⟩
      clear hH hQ
      skip
      (refine yT hA rfl rfl rfl (by decide) (zE rfl rfl rfl (hC n (Nat.le_refl _) w _ c wd _ _ v0 _ hS hok hq0 hq00)) ?_;clear hA hS;rintro _ w ⟨o,d,n',wd',ov,rfl,hov,hB,hS,hrun⟩;refine ⟨hS.fz hB.le,?_⟩;intro a hA)
      (repeat (apply yN hA rfl rfl rfl (by decide);(first|exact EXT|exact EXT2|(apply zC;rfl;rfl;decide;omega;exact hspL)|(apply zA (vs:=v0);rfl;exact hq0.len;exact yF MEMT hr (fun i v h=>hc0 i v h))|(apply zA (vs:=v1);rfl;exact hq1.len;exact yF MEMT hr (fun i v h=>hc1 i v h)));clear hA a;intro a hA))
      obtain ⟨oO,cO,oS,cS,sds,hH,hQ⟩:=hS
      skip
      (apply yR hA rfl rfl rfl;apply zI (vs:=ov);rfl;rfl;exact hH;(repeat constructor);exact hov.len;rfl;exact hov.one;clear hH;rintro _ w hH;refine ⟨HS.frz_mono (hH.pick (it:=frz w0 d.K) (by exact MEMT)) hB.le.K,?_⟩)
      (repeat (apply yN hA rfl rfl rfl (by decide);(first|exact EXT|exact EXT2|(apply zC;rfl;rfl;decide;omega;exact hspL)|(apply zA (vs:=v0);rfl;exact hq0.len;exact yF MEMT hr (fun i v h=>hc0 i v h))|(apply zA (vs:=v1);rfl;exact hq1.len;exact yF MEMT hr (fun i v h=>hc1 i v h)));clear hA a;intro a hA))
      apply xG
      exact ⟨_,o,d,n',wd',ov,⟨hov,hB,hrun⟩,⟨oO,cO,oS,cS,sds,hH.perm PMT,hQ⟩,(hA.sub SBT)⟩
    (refine yT hA rfl rfl rfl (by decide) (zE rfl rfl rfl (hC n (Nat.le_refl _) _ _ c wd _ _ v0 _ hS hok hq0 hq00)) ?_;clear hA hS;rintro _ w ⟨o,d,n',wd',ov,rfl,hov,hB,hS,hrun⟩;refine ⟨hS.fz hB.le,?_⟩;intro a hA)
    (repeat (apply yN hA rfl rfl rfl (by decide);(first|exact EXT|exact EXT2|(apply zC;rfl;rfl;decide;omega;exact hspL)|(apply zA (vs:=v0);rfl;exact hq0.len;exact yF MEMT hr (fun i v h=>hc0 i v h))|(apply zA (vs:=v1);rfl;exact hq1.len;exact yF MEMT hr (fun i v h=>hc1 i v h)));clear hA a;intro a hA))
    obtain ⟨oO,cO,oS,cS,sds,hH,hQ⟩:=hS
    skip
    (apply yT hA rfl rfl rfl (by decide);apply yV;exact hH;clear hA hH;rintro _ w ⟨bN,rfl,hH⟩;refine ⟨HS.frz_mono (hH.pick (it:=frz w0 d.K) (by exact MEMT)) hB.le.K,?_⟩;intro a hA)
    have hS:RSt w0 d bR bW g n' wd' (cb bN 103 _::cb b8 103 qz::cb b7 103 sc::cb b5 57 (zX r)::H) _:=⟨oO,cO,oS,cS,sds,hH.perm PMT,hQ⟩
    clear hH hQ
    skip
    obtain ⟨oO,cO,oS,cS,sds,hH,hQ⟩:=hS
    skip
    (apply yR hA rfl rfl rfl;apply zI (vs:=ov);rfl;rfl;exact hH;(repeat constructor);exact hov.len;rfl;exact hov.one;clear hH;rintro _ w hH;refine ⟨HS.frz_mono (hH.pick (it:=frz w0 d.K) (by exact MEMT)) hB.le.K,?_⟩)
    (repeat (apply yN hA rfl rfl rfl (by decide);(first|exact EXT|exact EXT2|(apply zC;rfl;rfl;decide;omega;exact hspL)|(apply zA (vs:=v0);rfl;exact hq0.len;exact yF MEMT hr (fun i v h=>hc0 i v h))|(apply zA (vs:=v1);rfl;exact hq1.len;exact yF MEMT hr (fun i v h=>hc1 i v h)));clear hA a;intro a hA))
    apply xG
    exact ⟨_,o,d,n',wd',ov,⟨hov,hB,hrun⟩,⟨oO,cO,oS,cS,sds,hH.perm PMT,hQ⟩,(hA.sub SBT)⟩
  clear hA hS hST
  rintro a w ⟨b10,o,d,n',wd',ov,⟨hov,hB,hrun⟩,hS,hA⟩
  have hn':=hB.n
  by_cases hor:∃k,o= .raised k
  rotate_left
  · have ho:∀k,o≠.raised k:=fun k h=>hor ⟨k,h⟩
    have hok1:o.k≠1:=fun h=>by obtain ⟨k,h1⟩:=ow1 h;exact ho k h1
    obtain ⟨oO,cO,oS,cS,sds,hH,hQ⟩:=hS
    repeat' (first|(refine XT ?_;apply XE;(first|(apply zA (vs:=ov);rfl;exact hov.len;exact zD MEMT));clear hA a;intro a hA)|(refine QT ?_;clear hA a;intro a hA)|(apply zT hA rfl rfl;apply zI (vs:=ov);rfl;rfl;exact hH;(repeat constructor);exact hov.len;rfl;exact hov.one;clear hH;rintro _ w hH)|refine CT ?_|(refine DT ?_ ?_<;>intro hc<;>try (exfalso;omega))|fail)
    exact wB (vs:=ov) (sz:=5) (.inl rfl) rfl hA rfl rfl hov.len hH (zD MEMT) ⟨o,d,n',wd',ov,hB.n,rfl,hov,hB.up,WSt.dropL (L:=[cb b10 103 ov,cb b8 103 ov,cb b7 103 sc,cb b5 57 (zX r)]) ⟨oO,cO,oS,cS,sds,hH.perm PMT,hQ⟩,s_try (c:=(f1,l1)) (by rw [hins];exact hk) (by rw [e,hp];rfl) (by rw [e];exact hrun) ho⟩
  obtain ⟨k,rfl⟩:=hor
  have hok2:=hok.next hB
  have hov0:=hov.rs
  have hqk:QV d (.num k) ov:=by rw [hov0.1];exact QV_num ⟨by omega,by omega⟩
  have hq1d:=QV.mono hB.le _ _ hq1
  have hrd:∀w,d.K w→Rd w ol vs:=fun w h=>hr w (hB.le.K w h)
  have hST:=hS.fz2 d.le_refl
  rw [show (Ow.raised k).k=1 from rfl] at hA
  obtain ⟨oO,cO,oS,cS,sds,hH,hQ⟩:=hS
  repeat' (first|(refine QT ?_;clear hA a;intro a hA)|refine CT ?_|fail)
  have hS:RSt w0 d bR bW g n' wd' (cb b10 103 ov::cb b8 103 qz::cb b7 103 sc::cb b5 57 (zX r)::H) _:=⟨oO,cO,oS,cS,sds,hH,hQ⟩
  (refine zN (H:=[_,_]) [(0,1),(1,1),(2,1),(3,1),(4,1),(5,0),(6,2),(7,2),(8,2)] [9,10] mixed (by decide +kernel) (hST) ?_;replace hH:=hH.drew)
  replace hS:=hS.drew
  clear hH hQ hST
  repeat' (first|(refine XT ?_;apply XE;(first|(apply zC;rfl;rfl;decide;omega;exact hspL)|(apply zA (vs:=v1);rfl;exact hq1.len;exact yF MEMT hrd (fun i v h=>hc1 i v h))|(apply zA (vs:=ov);rfl;exact hov.len;exact zD MEMT));clear hA a;intro a hA)|(refine QT ?_;clear hA a;intro a hA)|fail)
  (refine yC hA rfl rfl rfl (by decide) (zE rfl rfl rfl (hC n' hn' _ _ d wd' _ _ v1 ov hS hok2 hq1d hqk)) ?_;clear hA hS;rintro _ w ⟨o2,d2,n2,wd2,ov2,rfl,hov2,hB2,hS2,hrun2⟩;refine ⟨hS2.fz2 hB2.le,?_⟩;intro a hA)
  obtain ⟨oO,cO,oS,cS,sds,hH,hQ⟩:=hS2
  have hBB:=hB.trans hB2
  repeat' (first|(refine XT ?_;apply XE;(first|(apply zA (vs:=ov2);rfl;exact hov2.len;exact zD MEMT));clear hA a;intro a hA)|(refine QT ?_;clear hA a;intro a hA)|(apply yB hA rfl rfl rfl;apply zI (vs:=ov2);rfl;rfl;exact hH;(repeat constructor);exact hov2.len;exact hov.len;exact hov2.one;clear hH;rintro _ w hH)|(apply zT hA rfl rfl;apply zI (vs:=ov2);rfl;rfl;exact hH;(repeat constructor);exact hov2.len;rfl;exact hov2.one;clear hH;rintro _ w hH)|refine CT ?_|fail)
  exact wB (vs:=ov2) (sz:=5) (.inl rfl) rfl hA rfl rfl hov2.len hH (zD MEMT) ⟨o2,d2,n2,wd2,ov2,hBB.n,rfl,hov2,hBB.up,WSt.dropL (L:=[cb b10 103 ov2,cb b8 103 ov2,cb b7 103 sc,cb b5 57 (zX r)]) ⟨oO,cO,oS,cS,sds,hH.perm PMT,hQ⟩,s_try2 (c:=(f1,l1)) (by rw [hins];exact hk) (by rw [e,hp]) (by rw [e];exact hrun) hov0.2 (by rw [e];exact hrun2)⟩
theorem cW (w0 w:World) (H:List It) (c:Dx) (g:Grs) (kd:Int) (n:Nat) (wd:Wd) (bR bW:Nat) (fm:Fm) (r:Stp) (ol:Option Addr) (cl:Nat) (l:List Vl) (vs:List Value) (sc:List Value) (hC:∀m,m≤n→CallC w0 bR bW g kd m) (hS:RSt w0 c bR bW g n wd H w) (hok:Cok w0 g c n wd) (hM:MayP g) (hxs:RdV w0 yQ g.xs) (hins:(xD g fm).r=r) (hal:xZ g fm r.a.l=l) (hr:∀w,c.K w→Rd w ol vs) (hq:QVs c l vs) (hself:QV c (.fn fm.c.1 fm.c.2) sc) (hform:FormP g c.cp (c.cp.getD fm.c.1.toNat 0) r) (hN:RdV w0 Fw.encI r.ns) (hbn:r.ns.l.length≤65536) (hrn:iok r.n) (hla:l.length≤65536) (hk:r.k≠3∧r.k≠13∧r.k≠14) :
    Ret Tryz.prog 100 #[.pointer (some (bat bR 0)),.agg (zX r).toArray,.slice ol l.length cl,.agg sc.toArray] w (StepQ w0 c bR bW g kd n wd H fm):=by
  obtain ⟨oO,cO,oS,cS,sds,hH,hQ⟩:=hS
  have hl:l.length=r.a.l.length:=by rw [←hal];unfold xZ;rw [List.length_map]
  have hscl:=hself.len
  have hP:PlQ w0 c g wd r ol l vs fm.c.1 fm.c.2 sc:=⟨hr,hq,hself,hform,hk,hl,by have:=hok.st;omega,by have:=hok.out;omega,hxs,hok.K,hN,by have:=hok.b0;omega,by have:=hok.bd;omega,hrn,by omega⟩
  have hsr:=s_plain (kd:=kd) (n:=n) (wd:=wd) (g:=g) (fm:=fm) (by rw [hins];exact hk)
  rw [hins,hal] at hsr
  (refine ENT (N:=108) Tryz.func100 Tryz.ntmps100 ?_;intro a hA)
  repeat' (first|(refine QT ?_;clear hA a;intro a hA)|(refine BT ?_;clear hA hH;rintro _ w ⟨bN,rfl,hH⟩ a hA)|refine CT ?_|(refine DT ?_ ?_<;>intro hc<;>try (exfalso;omega))|fail)
  obtain ⟨b8,b7,b5,hS,hA2⟩:∃b8 b7 b5,RSt w0 c bR bW g n wd (cb b8 103 qz::cb b7 103 sc::cb b5 57 (zX r)::H) _∧Sl 108 [(8,.pointer (some (bat b8 0))),(7,.pointer (some (bat b7 0))),(5,.pointer (some (bat b5 0))),(2,.slice ol l.length cl),(0,.pointer (some (bat bR 0)))] a:=⟨_,_,_,⟨oO,cO,oS,cS,sds,hH.perm PMT,hQ⟩,(hA.sub SBT)⟩
  clear hA hH hQ
  have hA:=hA2
  clear hA2
  obtain ⟨oR,hoR⟩:∃x,x=owR g (yD r l fm.c.2 wd):=⟨_,rfl⟩
  obtain ⟨wR,hwR⟩:∃x,x=wdR wd (yD r l fm.c.2 wd):=⟨_,rfl⟩
  have hST:HS w0 noM [cb b7 103 sc,cb b5 57 (zX r),cb bR 100 (xI g n bW)] _:=(by obtain ⟨oO,cO,oS,cS,sds,hH,hQ⟩:=hS;exact HS.left (H1:=[_,_,_]) (hH.perm PMT))
  refine xO (qs [0,1,2,3,4,5,6] (.two 7 11 (qs [8,9,10] (.one 11 (.one 12 (.q 13 .nil)))) (.one 7 (qs [8,9,10] (.one 12 (.q 13 .nil)))))) (fun a w=>∃b d ov,(OwV d g oR ov∧Bnd c d (n+1) n wd wR)∧RSt w0 d bR bW g n wR (cb b 103 ov::cb b8 103 qz::cb b7 103 sc::cb b5 57 (zX r)::H) w∧Sl 108 [(17,.int .i64 oR.k),(16,.pointer (some (bat b 0))),(8,.pointer (some (bat b8 0))),(7,.pointer (some (bat b7 0))),(5,.pointer (some (bat b5 0))),(2,.slice ol l.length cl),(0,.pointer (some (bat bR 0)))] a) mixed (by decide +kernel) hST ?_ ?_
  · clear hST
    replace hS:=hS.drew
    (repeat (apply yN hA rfl rfl rfl (by decide);(first|exact EXT|exact EXT2|(apply zA (vs:=sc);rfl;exact hscl;exact zD MEMT)|(apply zA (vs:=zX r);rfl;rfl;exact zD MEMT));clear hA a;intro a hA))
    apply uP
    rotate_left
    · obtain ⟨oO,cO,oS,cS,sds,hH,hQ⟩:=hS
      skip
      (apply yT hA rfl rfl rfl (by decide);apply yV;exact hH;clear hA hH;rintro _ w ⟨bN,rfl,hH⟩;refine ⟨HS.left (H1:=[_,_,_]) (hH.perm PMT),?_⟩;intro a hA)
      have hS:RSt w0 c bR bW g n wd (cb bN 103 _::cb b8 103 qz::cb b7 103 sc::cb b5 57 (zX r)::H) w:=⟨oO,cO,oS,cS,sds,hH.perm PMT,hQ⟩
      clear hH hQ
      skip
      (refine yT hA rfl rfl rfl (by decide) (zE rfl rfl rfl (lL w0 _ _ c g wd bW r ol cl l vs fm.c.1 fm.c.2 sc hS hP)) ?_;clear hA hS;rintro _ w hR;obtain ⟨d,ov,rfl,hov,hB,hS⟩:=hR.ow hM.anf;have h3:HS w0 noM [cb b7 103 sc,cb b5 57 (zX r),cb bR 100 (xI g n bW)] w:=(by obtain ⟨oO,cO,oS,cS,sds,hH,hQ⟩:=hS;exact HS.left (H1:=[_,_,_]) (hH.perm PMT));refine ⟨h3,?_⟩;clear h3;intro a hA;rw [←hoR] at hov hA;rw [←hwR] at hB hS)
      (repeat (apply yN hA rfl rfl rfl (by decide);(first|exact EXT|exact EXT2|(apply zA (vs:=sc);rfl;exact hscl;exact zD MEMT)|(apply zA (vs:=zX r);rfl;rfl;exact zD MEMT));clear hA a;intro a hA))
      obtain ⟨oO,cO,oS,cS,sds,hH,hQ⟩:=hS
      skip
      (apply yR hA rfl rfl rfl;apply zI (vs:=ov);rfl;rfl;exact hH;(repeat constructor);exact hov.len;rfl;exact hov.one;clear hH;rintro _ w hH;refine ⟨HS.left (H1:=[_,_,_]) (hH.perm PMT),?_⟩)
      (repeat (apply yN hA rfl rfl rfl (by decide);(first|exact EXT|exact EXT2|(apply zA (vs:=sc);rfl;exact hscl;exact zD MEMT)|(apply zA (vs:=zX r);rfl;rfl;exact zD MEMT));clear hA a;intro a hA))
      apply xG
      exact ⟨_,d,ov,⟨hov,hB⟩,⟨oO,cO,oS,cS,sds,hH.perm PMT,hQ⟩,(hA.sub SBT)⟩
    (refine yT hA rfl rfl rfl (by decide) (zE rfl rfl rfl (lL w0 _ _ c g wd bW r ol cl l vs fm.c.1 fm.c.2 sc hS hP)) ?_;clear hA hS;rintro _ w hR;obtain ⟨d,ov,rfl,hov,hB,hS⟩:=hR.ow hM.anf;have h3:HS w0 noM [cb b7 103 sc,cb b5 57 (zX r),cb bR 100 (xI g n bW)] w:=(by obtain ⟨oO,cO,oS,cS,sds,hH,hQ⟩:=hS;exact HS.left (H1:=[_,_,_]) (hH.perm PMT));refine ⟨h3,?_⟩;clear h3;intro a hA;rw [←hoR] at hov hA;rw [←hwR] at hB hS)
    (repeat (apply yN hA rfl rfl rfl (by decide);(first|exact EXT|exact EXT2|(apply zA (vs:=sc);rfl;exact hscl;exact zD MEMT)|(apply zA (vs:=zX r);rfl;rfl;exact zD MEMT));clear hA a;intro a hA))
    obtain ⟨oO,cO,oS,cS,sds,hH,hQ⟩:=hS
    skip
    (apply yT hA rfl rfl rfl (by decide);apply yV;exact hH;clear hA hH;rintro _ w ⟨bN,rfl,hH⟩;refine ⟨HS.left (H1:=[_,_,_]) (hH.perm PMT),?_⟩;intro a hA)
    have hS:RSt w0 d bR bW g n wR (cb bN 103 _::cb b8 103 qz::cb b7 103 sc::cb b5 57 (zX r)::H) w:=⟨oO,cO,oS,cS,sds,hH.perm PMT,hQ⟩
    clear hH hQ
    skip
    obtain ⟨oO,cO,oS,cS,sds,hH,hQ⟩:=hS
    skip
    (apply yR hA rfl rfl rfl;apply zI (vs:=ov);rfl;rfl;exact hH;(repeat constructor);exact hov.len;rfl;exact hov.one;clear hH;rintro _ w hH;refine ⟨HS.left (H1:=[_,_,_]) (hH.perm PMT),?_⟩)
    (repeat (apply yN hA rfl rfl rfl (by decide);(first|exact EXT|exact EXT2|(apply zA (vs:=sc);rfl;exact hscl;exact zD MEMT)|(apply zA (vs:=zX r);rfl;rfl;exact zD MEMT));clear hA a;intro a hA))
    apply xG
    exact ⟨_,d,ov,⟨hov,hB⟩,⟨oO,cO,oS,cS,sds,hH.perm PMT,hQ⟩,(hA.sub SBT)⟩
  clear hA hS hST
  rintro a w ⟨b10,d,ov,⟨hov,hB⟩,⟨oO,cO,oS,cS,sds,hH,hQ⟩,hA⟩
  rw [←hoR,←hwR] at hsr
  repeat' (first|(refine XT ?_;apply XE;(first|(apply zA (vs:=ov);rfl;exact hov.len;exact zD MEMT));clear hA a;intro a hA)|(refine QT ?_;clear hA a;intro a hA)|(apply zT hA rfl rfl;apply zI (vs:=ov);rfl;rfl;exact hH;(repeat constructor);exact hov.len;rfl;exact hov.one;clear hH;rintro _ w hH)|refine CT ?_|fail)
  exact wB (vs:=ov) (sz:=5) (.inl rfl) rfl hA rfl rfl hov.len hH (zD MEMT) ⟨oR,d,n,wR,ov,Nat.le_refl n,rfl,hov,hB,WSt.dropL (L:=[cb b10 103 ov,cb b8 103 ov,cb b7 103 sc,cb b5 57 (zX r)]) ⟨oO,cO,oS,cS,sds,hH.perm PMT,hQ⟩,hsr⟩
theorem pS (w0 w:World) (H:List It) (c:Dx) (g:Grs) (kd:Int) (n:Nat) (wd:Wd) (bR bW:Nat) (fm:Fm) (r:Stp) (ol:Option Addr) (cl:Nat) (l:List Vl) (vs:List Value) (sc:List Value) (hC:∀m,m≤n→CallC w0 bR bW g kd m) (hS:RSt w0 c bR bW g n wd H w) (hok:Cok w0 g c n wd) (hM:MayP g) (hxs:RdV w0 yQ g.xs) (hins:(xD g fm).r=r) (hal:xZ g fm r.a.l=l) (hr:∀w,c.K w→Rd w ol vs) (hq:QVs c l vs) (hself:QV c (.fn fm.c.1 fm.c.2) sc) (hform:FormP g c.cp (c.cp.getD fm.c.1.toNat 0) r) (hN:RdV w0 Fw.encI r.ns) (hbn:r.ns.l.length≤65536) (hrn:iok r.n) (hla:l.length≤65536) :
    Ret Tryz.prog 100 #[.pointer (some (bat bR 0)),.agg (zX r).toArray,.slice ol l.length cl,.agg sc.toArray] w (StepQ w0 c bR bW g kd n wd H fm):=by
  by_cases h1:r.k=3∨r.k=14
  · exact cX w0 w H c g kd n wd bR bW fm r ol cl l vs sc hC hS hok hM hxs hins hal hr hq hself hform hN hbn hrn hla h1
  by_cases h2:r.k=13
  · exact cU w0 w H c g kd n wd bR bW fm r ol cl l vs sc hC hS hok hM hxs hins hal hr hq hself hform hN hbn hrn hla h2
  · exact cW w0 w H c g kd n wd bR bW fm r ol cl l vs sc hC hS hok hM hxs hins hal hr hq hself hform hN hbn hrn hla ⟨fun h=>h1 (.inl h),h2,fun h=>h1 (.inr h)⟩
end
end Go.Proofs.YtenlcdokaadobaaGreatDoor
namespace Go.Fw
open Go Go.RowKit
theorem eA {fn:Func} {p p2 u u2:Tmp} {ty:TypeId} (h:fn.results=#[.cell p ty,.cell p2 ty,.tmp u,.tmp u2]) (tmps:Array Value) (P:Program) (w:World) :
    (results fn tmps).run P w=((asAddr (tmps.getD p undef)).run P w).andThen fun a w1=>((loadVar ty a).run P w1).andThen fun v w2=>((asAddr (tmps.getD p2 undef)).run P w2).andThen fun b w3=>((loadVar ty b).run P w3).andThen fun v2 w4=>.ok (.tuple #[v,v2,tmps.getD u undef,tmps.getD u2 undef]) w4:=by
  simp only [results,h]
  simp [Sem.run_bind,Result.andThen]
theorem sY {P:Program} {N:Nat} {l:List (Nat × Value)} {a:Act} {w:World} {C:World→Prop} {fn:Func} {R:Value→World→Prop} {p p2 u u2:Tmp} {ty sz by_:Nat} {z:Value} {zs:List Value} {fl:List (Nat × Nat)} {q q2:Addr} {vs vs2:List Value} {v3 v4:Value} {e:Exit} [h0:TSt P ty fl] [hi:TIf P ty z zs sz by_] (he:e= .ret∨e= .normal) (hr:fn.results=#[.cell p ty,.cell p2 ty,.tmp u,.tmp u2]) (hA:Sl N l a)
    (hp:lk l p=some (.pointer (some q))) (hp2:lk l p2=some (.pointer (some q2))) (hu:lk l u=some v3) (hu2:lk l u2=some v4) (hl:vs.length=sz) (hl2:vs2.length=sz) (hC:C w) (hc:Cls C q vs) (hc2:Cls C q2 vs2) (h:R (.tuple #[.agg vs.toArray,.agg vs2.toArray,v3,v4]) w):bodyPost P fn (fun e w'=>∃v,e= .returned v∧R v w') e a w:=by
  have hg:a.tmps.getD p undef= .pointer (some q):=by simp [Array.getD_eq_getD_getElem?,hA.get p _ hp]
  have hg2:a.tmps.getD p2 undef= .pointer (some q2):=by simp [Array.getD_eq_getD_getElem?,hA.get p2 _ hp2]
  have hg3:a.tmps.getD u undef=v3:=by simp [Array.getD_eq_getD_getElem?,hA.get u _ hu]
  have hg4:a.tmps.getD u2 undef=v4:=by simp [Array.getD_eq_getD_getElem?,hA.get u2 _ hu2]
  obtain ⟨ti,h3,h4,h5,h6⟩:=hi.eq
  have hrun:(results fn a.tmps).run P w= .ok (.tuple #[.agg vs.toArray,.agg vs2.toArray,v3,v4]) w:=by
    have e1:=run_loadCells_list (P:=P) w q vs (hc w hC)
    have e2:=run_loadCells_list (P:=P) w q2 vs2 (hc2 w hC)
    rw [hl] at e1
    rw [hl2] at e2
    rw [eA hr,hg,hg2,hg3,hg4]
    simp [asAddr,loadVar,tK,sizeOf,typeInfo,h3,h5,e1,e2,Result.andThen]
  rcases he with rfl|rfl
  · exact bodyPost_ret hrun hA.defers ⟨_,rfl,h⟩
  · exact bodyPost_end hrun hA.defers ⟨_,rfl,h⟩
end Go.Fw
namespace Go.Proofs.YtenlcdokaadobaaGreatDoor
open Go Go.Fw
set_option linter.unusedVariables false
structure GI (g:Grs) (kd:Int) (n:Nat) (f1:Int) (l1:List Vl) (x:Vl) (c:Dx) (wd:Wd) (m:Nat) (d:Dx) (wd':Wd) (es:List (Int × Vl)) (ec:List Value) (b i:Nat) (fm:Fm):Prop where
  lb:b<(g.fs.l.getD f1.toNat gr0).bs.l.length
  fe:FmE fm (f1,l1) b i es
  env:EnvB (g.fs.l.getD f1.toNat gr0) (xQ g f1 b) b i es
  eq:EQ d es ec
  len:es.length+65536*m≤2+65536*n
  bn:Bnd c d n m wd wd'
  run:∀sk,sN g kd n (vN (.fn f1 l1) x wd sk)=sN g kd m (.go ⟨wd',sk,fm⟩)
section
variable {g:Grs} {kd:Int} {n:Nat} {f1:Int} {l1:List Vl} {x:Vl} {c:Dx} {wd:Wd} {m:Nat} {d:Dx} {wd':Wd} {es:List (Int × Vl)} {ec:List Value} {b i:Nat} {fm:Fm}
theorem GI.start (h0:0<(g.fs.l.getD f1.toNat gr0).bs.l.length) (hp:(xQ g f1 0).ps.l=[]) (he:EQ c [(0,.fn f1 l1),(1,x)] ec):GI g kd n f1 l1 x c wd n c wd [(0,.fn f1 l1),(1,x)] ec 0 0 (qH (f1,l1) x):=
  ⟨h0,⟨rfl,rfl,rfl,fun z=>by
    by_cases h0:z=0
    · subst h0;rfl
    by_cases h1:z=1
    · subst h1;rfl
    have b0:((0:Int) == z)=false:=beq_false_of_ne (fun e=>h0 e.symm)
    have b1:((1:Int) == z)=false:=beq_false_of_ne (fun e=>h1 e.symm)
    simp [plk,tI,qH,b0,b1]⟩,EnvB.start hp,he,(by show 2+_≤_;omega),Bnd.refl c n wd,fun sk=>rfl⟩
theorem GI.at_i (h:GI g kd n f1 l1 x c wd m d wd' es ec b i fm) (hi:i<(xQ g f1 b).is.l.length):fm.i<(uH g fm).is.l.length:=by rw [h.fe.i,h.fe.cur];exact hi
theorem GI.ins (h:GI g kd n f1 l1 x c wd (m+1) d wd' es ec b i fm) (hi:i<(xQ g f1 b).is.l.length) (sk:List Fm):sN g kd n (vN (.fn f1 l1) x wd sk)=sN g kd m (tW g fm (xD g fm) wd' sk):=by
  rw [h.run,runS_go,show tT g kd ⟨wd',sk,fm⟩=tW g fm (xD g fm) wd' sk by unfold tT;rw [if_pos (h.at_i hi)]]
theorem GI.last (h:GI g kd n f1 l1 x c wd (m+1) d wd' es ec b (xQ g f1 b).is.l.length fm) (sk:List Fm):sN g kd n (vN (.fn f1 l1) x wd sk)=sN g kd m (vZ g kd fm (xQ g f1 b).e wd' sk):=by
  rw [h.run,runS_go,show tT g kd ⟨wd',sk,fm⟩=vZ g kd fm (xQ g f1 b).e wd' sk by unfold tT;rw [if_neg (by rw [h.fe.i,h.fe.cur];exact Nat.lt_irrefl _)];dsimp only;rw [h.fe.cur]]
theorem GI.one {d2:Dx} {n2:Nat} {wd2:Wd} {ins:Ins} {y:Vl} {ov:List Value} (h:GI g kd n f1 l1 x c wd (m+1) d wd' es ec b i fm) (hx:(xQ g f1 b).is.l[i]?=some ins) (hn:n2≤m) (hB:Bnd d d2 (m+1) n2 wd' wd2) (hov:QV d2 y ov) (hs:SRun g kd m fm wd' n2 (.fine y) wd2) :
    ∃fm',GI g kd n f1 l1 x c wd n2 d2 wd2 (es++[(ins.x,y)]) (ec++(.int .i64 ins.x::ov)) b (i+1) fm':=by
  obtain ⟨hh,hs⟩:=hs
  have hi:=h.fe.ins hx
  refine ⟨_,h.lb,h.fe.next hh ins.x y,h.env.next hx,(h.eq.mono hB.le).snoc hov,?_,h.bn.trans hB,fun sk=>?_⟩
  · have:=h.len
    rw [List.length_append,List.length_singleton]
    omega
  · rw [h.ins (List.getElem?_eq_some_iff.1 hx).1 sk,hs sk]
    unfold nxtF
    dsimp only
    rw [hi]
theorem GI.out {n2:Nat} {wd2:Wd} {o:Ow} (h:GI g kd n f1 l1 x c wd (m+1) d wd' es ec b i fm) (hi:i<(xQ g f1 b).is.l.length) (hs:SRun g kd m fm wd' n2 o wd2) (ho:∀y,o≠.fine y):CRun g kd n (.fn f1 l1) x wd n2 o wd2:=fun sk=>by
  obtain ⟨hh,hs⟩:=hs
  rw [h.ins hi sk,hs sk]
  cases o with
  |fine y=>exact absurd rfl (ho y)
  |_=>rfl
theorem GI.fuel (h:GI g kd n f1 l1 x c wd 0 d wd' es ec b i fm):CRun g kd n (.fn f1 l1) x wd 0 .fuel wd':=fun sk=>by
  rw [h.run]
  rfl
theorem GI.edge {t:Edg} {vs:List Value} (h:GI g kd n f1 l1 x c wd (m+1) d wd' es ec b (xQ g f1 b).is.l.length fm) (hbl:(g.fs.l.getD f1.toNat gr0).bs.l[b]?=some (xQ g f1 b)) (ht:t∈(xQ g f1 b).e.to.l) (h0:(b:Int)<t.b) (h1:t.b<(g.fs.l.getD f1.toNat gr0).bs.l.length) (hl:t.a.l.length=(xQ g f1 t.b.toNat).ps.l.length) (hz:(xQ g f1 t.b.toNat).ps.l.length≤65536)
    (he:EQ d (es++(xQ g f1 t.b.toNat).ps.l.zip (t.a.l.map (atE g es))) vs) (hr:∀sk,vZ g kd fm (xQ g f1 b).e wd' sk= .go ⟨wd',sk,wN g fm t⟩) :
    GI g kd n f1 l1 x c wd m d wd' (es++(xQ g f1 t.b.toNat).ps.l.zip (t.a.l.map (atE g es))) vs t.b.toNat 0 (wN g fm t):=
  ⟨by omega,h.fe.follow t,h.env.edge hbl ht (by omega) (by omega) (by rw [List.length_map];exact hl),he,(by
    have:=h.len
    rw [List.length_append,List.length_zip,List.length_map]
    omega),⟨h.bn.le,by have:=h.bn.bd;omega,by have:=h.bn.st;omega,by have:=h.bn.out;omega⟩,fun sk=>by rw [h.last sk,hr sk]⟩
def GraphQ (w0:World) (c:Dx) (bR bW:Nat) (g:Grs) (kd:Int) (n:Nat) (wd:Wd) (H:List It) (f x:Vl) (v:Value) (w:World):Prop:=
  (∃(o:Ow) (d:Dx) (n':Nat) (wd':Wd) (ov:List Value),v= .tuple #[.agg ov.toArray,.agg qz.toArray,.bool false,.int .i64 o.k]∧OwV d g o ov∧Bnd c d n n' wd wd'∧RSt w0 d bR bW g n' wd' H w∧CRun g kd n f x wd n' o wd')∨
  ∃(f2 x2:Vl) (d:Dx) (n':Nat) (wd':Wd) (fv xv:List Value),v= .tuple #[.agg fv.toArray,.agg xv.toArray,.bool true,.int .i64 0]∧QV d f2 fv∧QV d x2 xv∧n'<n∧Bnd c d n n' wd wd'∧RSt w0 d bR bW g n' wd' H w∧∀sk,sN g kd n (vN f x wd sk)=sN g kd n' (vN f2 x2 wd' sk)
end
end Go.Proofs.YtenlcdokaadobaaGreatDoor
