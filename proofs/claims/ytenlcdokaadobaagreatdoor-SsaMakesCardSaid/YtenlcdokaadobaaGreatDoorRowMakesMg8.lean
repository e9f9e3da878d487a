/-
  ssa.Of: a body's blocks are filled. Conditions: none.
  ssa.Of: a row turned round; blocks are visited. Conditions: none.
  ssa.Of: blocks are visited. Conditions: none.
  ssa.Of: the order of blocks. Conditions: none.
-/
import Derived.Test.YtenlcdokaadobaaGreatDoorRowMakesMg7
set_option maxHeartbeats 64000000
set_option maxRecDepth 10000
namespace Go.Proofs.YtenlcdokaadobaaGreatDoor
open Go Go.Fw
set_option linter.unusedVariables false
def FillC (w0:World) (bM bJ:Nat) (b:AN):Prop:=∀(H:List It) (w:World) (p:Nat) (K:World→Prop) (oD:Option Addr) (cD:Nat) (ds:List Blc) (js:List (Int × Int)) (ob:Option Addr) (jb:Nat),(∀w,K w→AtN w ob jb b∧∀d∈ds,RdDr w d)→p<ds.length→Lim ds (szN b)→HS w0 noM (cb bM 174 (encMkr oD (ds).length cD bJ)::own 179 7 oD (ds).length cD (flat encDr (ds))::all ((ds).map insI)::all ((ds).map toI)::frz w0 K::mpI bJ js::H) w→
  Ret Tryz.prog 73 #[.pointer (some (bat bM 0)),.int .i64 p,.pointer (some (sat ob jb))] w (fun r w'=>∃(K':World→Prop) (oE:Option Addr) (cE:Nat) (ds':List Blc) (js':List (Int × Int)),HS w0 noM (cb bM 174 (encMkr oE (ds').length cE bJ)::own 179 7 oE (ds').length cE (flat encDr (ds'))::all ((ds').map insI)::all ((ds').map toI)::frz w0 K'::mpI bJ js'::H) w'∧(∀w,K' w→K w∧∀d∈ds',RdDr w d)∧(ds'.map stB,js')=fillF b p (ds.map stB,js))
structure FSt where
  b:AN
  o:Option Addr
  j:Nat
  K:World→Prop
  oD:Option Addr
  cD:Nat
  ds:List Blc
  js:List (Int × Int)
theorem kid_at {w:World} {k x n:Int} {xs ns:Vec Int} {r:Stp} {va:Vec Atm} {ko:Option Addr} {kc:Nat} {kids:List AN} {i:Nat} {c:AN} (h:RdN w (.mk k x xs n ns r va ko kc kids)) (hi:kids[i]?=some c):AtN w ko (i*11) c:=by
  cases h with
  |mk h1 h2 h3 h4 h5 h6 h7=>exact ⟨fun j u hu=>h6.1.1.2 _ u (flat_all encN_len hi j u hu),h7 c (List.mem_of_getElem? hi)⟩
theorem kid_sp {w:World} {k x n:Int} {xs ns:Vec Int} {r:Stp} {va:Vec Atm} {ko:Option Addr} {kc:Nat} {kids:List AN} (h:RdN w (.mk k x xs n ns r va ko kc kids)):Sp ko kids.length∧kids.length≤17592186044416:=by
  cases h with
  |mk h1 h2 h3 h4 h5 h6 h7=>exact ⟨h6.1.1.sp (sz:=11) (flat_length encN_len _) (by omega),h6.2⟩
theorem rd_set {w:World} {ds:List Blc} {p:Nat} {d':Blc} (h:∀d∈ds,RdDr w d) (h':RdDr w d'):∀d∈ds.set p d',RdDr w d:=fun d hd=>by
  rcases List.mem_or_eq_of_mem_set hd with h1|rfl
  · exact h d h1
  · exact h'
def addD (d:Blc) (o:Option Addr) (c:Nat) (i:Ins):Blc:=⟨d.ps,⟨o,c,d.is.l++[i]⟩,d.e⟩
theorem addD_st {d:Blc} {o oA oS:Option Addr} {c cA cS:Nat} {x:Int} {r:Stp}:stB (addD d o c ⟨x,⟨r.k,r.n,⟨oS,cS,r.ns.l⟩,⟨oA,cA,r.a.l⟩⟩⟩)=addI x r (stB d):=by
  unfold stB addD addI lv
  simp only [List.map_append]
  rfl
theorem addD_put {d:Blc} {o:Option Addr} {c:Nat} {i:Ins}:put (encDr d) 1 [.slice o (d.is.l.length+1) c]=encDr (addD d o c i):=by
  have:(d.is.l++[i]).length=d.is.l.length+1:=by rw [List.length_append];rfl
  unfold addD encDr encBl
  rw [←this]
  rfl
theorem addD_ins {d:Blc} {o:Option Addr} {c:Nat} {i:Ins}:insI (addD d o c i)=own 59 5 o (d.is.l.length+1) c (flat encIn (d.is.l++[i])):=by
  have:(d.is.l++[i]).length=d.is.l.length+1:=by rw [List.length_append];rfl
  rw [←this]
  rfl
theorem addD_to {d:Blc} {o:Option Addr} {c:Nat} {i:Ins}:toI (addD d o c i)=toI d:=rfl
theorem map_set_same {l:List Blc} {p:Nat} {x y:Blc} {f:Blc→It} (h:l[p]?=some x) (e:f y=f x):(l.set p y).map f=l.map f:=by
  rw [List.map_set,e]
  obtain ⟨hi,rfl⟩:=List.getElem?_eq_some_iff.1 h
  apply List.ext_getElem?
  intro i
  rw [List.getElem?_set,List.length_map]
  by_cases hc:p=i
  · subst hc
    rw [if_pos rfl,if_pos hi,List.getElem?_map,h]
    rfl
  · rw [if_neg hc]
theorem ins_rd {w:World} {x:Int} {r:Stp} {oA oS:Option Addr} {cA cS:Nat} (hA:Rd w oA (flat encAt r.a.l)) (hA2:r.a.l.length≤cA∧cA≤maxLen) (hS:Rd w oS (flat Fw.encI r.ns.l)) (hS2:r.ns.l.length≤cS∧cS≤maxLen):RdIn w ⟨x,⟨r.k,r.n,⟨oS,cS,r.ns.l⟩,⟨oA,cA,r.a.l⟩⟩⟩:=⟨⟨hS,hS2⟩,⟨hA,hA2⟩⟩
theorem addD_rd {w:World} {d:Blc} {o:Option Addr} {c:Nat} {i:Ins} (h:RdDr w d) (hi:RdIn w i):RdDr w (addD d o c i):=⟨h.ps,fun j hj=>by
  rcases List.mem_append.1 hj with h1|h1
  · exact h.is j h1
  · rw [List.mem_singleton] at h1;subst h1;exact hi,h.a,h.ns,h.to⟩
theorem nilTo:own 61 2 none 0 0 []=own 61 2 (nilV:Vec Edg).o (nilV:Vec Edg).l.length (nilV:Vec Edg).c (flat encEd (nilV:Vec Edg).l):=rfl
theorem end_put {d:Blc} {e:En}:put (encDr d) 2 (encEn e)=encDr (endB e d):=rfl
theorem end_to {w0 w:World} {ds:List Blc} {p:Nat} {d:Blc} {e:En} {X:List It} (h:HS w0 noM (own 61 2 e.to.o e.to.l.length e.to.c (flat encEd e.to.l)::all (ds.map toI)::X) w) (hd:ds[p]?=some d):HS w0 noM (all ((ds.set p (endB e d)).map toI)::X) w:=by
  have h1:=(h.perm (.swap _ _ _)).openAt (i:=p) (x:=toI d) (by rw [List.getElem?_map,hd];rfl)
  have h2:=(h1.tail.perm (.swap _ _ _)).shutAt (by rw [List.length_map];exact (List.getElem?_eq_some_iff.1 hd).1)
  rw [List.map_set]
  exact h2
theorem end_ins {ds:List Blc} {p:Nat} {d:Blc} {e:En} (hd:ds[p]?=some d):(ds.set p (endB e d)).map insI=ds.map insI:=map_set_same hd rfl
theorem end_rd {w:World} {d:Blc} {e:En} (h:RdDr w d) (ha:RdV w encAt e.a) (hn:RdV w Fw.encI e.ns) (ht:∀x∈e.to.l,RdV w encAt x.a):RdDr w (endB e d):=⟨h.ps,h.is,ha,hn,ht⟩
theorem end_st {d:Blc} {e:En}:stB (endB e d)=endB (stN e) (stB d):=rfl
theorem szNs_mem:∀{l:List AN} {c:AN},c∈l→szN c≤szNs l
  | [],c,h=>absurd h (List.not_mem_nil)
  | b::l,c,h=>by
    rw [szNs]
    rcases List.mem_cons.1 h with rfl|h
    · omega
    · have:=szNs_mem h;omega
theorem flatE_one (x:Edg):encEd x=flat encEd [x]:=by show encEd x=encEd x++[];rw [List.append_nil]
structure KSt where
  i:Nat
  K:World→Prop
  oD:Option Addr
  cD:Nat
  ds:List Blc
  js:List (Int × Int)
  oT:Option Addr
  cT:Nat
  es:List Edg
section
attribute [local irreducible] Code.wp wpList Calls Ex Op1 sat bat blk cb own Go.Fw.mp Go.Fw.mpO Go.Fw.mpI Go.Fw.mpE Go.Fw.itr HS Rd Ret wkD Hp Cl Cls Exit.then Exit.inBlock Exit.noGoto bodyPost Go.Fw.flat wk2 Go.Fw.all Go.Fw.owns wpOp
attribute [local irreducible] sk mpK sko mvO entK

theorem fillN_spec (w0:World) (bM bJ:Nat):∀(N:Nat) (b:AN),szN b≤N→ShN b→FillC w0 bM bJ b:=by
  intro N
  induction N with
  |zero=>intro b hz;have:=szN_pos b;omega
  |succ N ihN=>
  intro b0 hz0 hsh0 H w p K oD0 cD0 ds0 js0 ob0 jb0 hK0 hp0 hl0 hH
  (refine ENT (N:=202) Tryz.func73 Tryz.ntmps73 ?_;intro a hA)
  repeat' (first|(first|(refine GT ?_ ?_<;>intro hg<;>clear hA a<;>intro a hA<;>(first|exact FA|replace hg:=dTr hg|replace hg:=dFa hg|skip))|(refine QT ?_;clear hA a;intro a hA)|(first|(refine BT ?_;clear hA hH;rintro _ w ⟨bN,rfl,hH⟩ a hA)|(refine LT ?_;clear hA hH;rintro _ w ⟨oN,rfl,hH⟩ a hA)|(refine AT ?_;clear hA;rintro _ w ⟨oN,cN,rfl,hH2⟩ a hA;clear hH;have hH:=(hH2 _ (by (repeat constructor))).tail;clear hH2)|(refine S0T ?_;clear hH;rintro _ w hH)))|refine CT ?_|(refine DT ?_ ?_<;>intro hc<;>try (exfalso;omega))|(first|(refine DSK ?_;clear hA a;intro a hA)|(first|(refine DLT ?_;clear hA hH;rintro _ w ⟨oN,rfl,hH⟩;refine ⟨STT,?_⟩;intro a hA)|(refine DAT ?_;clear hA;rintro _ w ⟨oN,cN,rfl,hH2⟩;clear hH;have hH:=(hH2 _ (by (repeat constructor))).tail;clear hH2;refine ⟨STT,?_⟩;intro a hA))))
  refine wp_lpk (S:=FSt) (fun t a w=>((∀w,t.K w→K w∧AtN w t.o t.j t.b∧∀d∈t.ds,RdDr w d)∧p<t.ds.length∧Lim t.ds (szN t.b)∧szN t.b≤N+1∧ShN t.b∧fillF b0 p (ds0.map stB,js0)=fillF t.b p (t.ds.map stB,t.js))∧HS w0 noM (cb bM 174 (encMkr t.oD (t.ds).length t.cD bJ)::own 179 7 t.oD (t.ds).length t.cD (flat encDr (t.ds))::all ((t.ds).map insI)::all ((t.ds).map toI)::frz w0 t.K::mpI bJ t.js::H) w∧Sl 202 [(0,.pointer (some (bat bM 0))),(1,.int .i64 p),(2,.pointer (some (sat t.o t.j)))] a) (fun t=>szN t.b)
    (fun a w=>False) ⟨b0,ob0,jb0,K,oD0,cD0,ds0,js0⟩ ⟨⟨fun w h=>⟨h,hK0 w h⟩,hp0,hl0,hz0,hsh0,rfl⟩,hH,(hA.sub SBT)⟩ ?_ (fun a w h=>h.elim)
  clear hA hH hK0 hp0 hl0 hz0 hsh0
  rintro ⟨b,ob,jb,K1,oD,cD,ds,js⟩ a w ⟨⟨hK,hp,hl,hz,hsh,heq⟩,hH,hA⟩
  dsimp only at hK hp hl hz hsh heq hH hA ⊢
  obtain ⟨k,x,xs,n,ns,r,va,ko,kc,kids⟩:=b
  obtain ⟨d,hd⟩:∃d,ds[p]?=some d:=⟨_,List.getElem?_eq_getElem hp⟩
  have hspD:=hH.own_sp (T:=179) (o:=oD) MEMT
  rw [ShN] at hsh
  obtain ⟨⟨hk,hal,hral,hk1,hk7⟩,hks⟩:=hsh
  have hat:=fun w (h:K1 w)=>(hK w h).2.1.1
  have hrd:=fun w (h:K1 w)=>(hK w h).2.1.2
  have hk8:k=1∨k=7∨k=2∨k=3∨k=4∨k=8∨k=5∨k=6:=by omega
  rcases hk8 with rfl|hk8
  · --let
    --((
    repeat' (first|(first|(refine GT ?_ ?_<;>intro hg<;>clear hA a<;>intro a hA<;>(first|exact FA|replace hg:=dTr hg|replace hg:=dFa hg|skip))|(refine XT ?_;apply XE;(first|(apply ex_load;rfl;exact cl_fz MEMT (fun w h=>hat w h _ _ rfl)));clear hA a;intro a hA)|(refine QT ?_;clear hA a;intro a hA)|(first|(refine BT ?_;clear hA hH;rintro _ w ⟨bN,rfl,hH⟩ a hA)|(refine LT ?_;clear hA hH;rintro _ w ⟨oN,rfl,hH⟩ a hA)|(refine AT ?_;clear hA;rintro _ w ⟨oN,cN,rfl,hH2⟩ a hA;clear hH;have hH:=(hH2 _ (by (repeat constructor))).tail;clear hH2)|(refine S0T ?_;clear hH;rintro _ w hH)))|refine CT ?_|(refine DT ?_ ?_<;>intro hc<;>try (exfalso;omega))|(first|(refine DSK ?_;clear hA a;intro a hA)|(first|(refine DLT ?_;clear hA hH;rintro _ w ⟨oN,rfl,hH⟩;refine ⟨STT,?_⟩;intro a hA)|(refine DAT ?_;clear hA;rintro _ w ⟨oN,cN,rfl,hH2⟩;clear hH;have hH:=(hH2 _ (by (repeat constructor))).tail;clear hH2;refine ⟨STT,?_⟩;intro a hA))))
    have hatR:∀w,K1 w→∀i u,(encSt r)[i]?=some u→w.cell? ((sat ob (jb+5)).add i)=some u:=fun w h i u hu=>by
      rw [sat_add,Nat.add_assoc]
      exact hat w h _ _ (by have:=sub_R (k:=1) (x:=x) (n:=n) (xs:=xs) (ns:=ns) (va:=va) (ko:=ko) (kc:=kc) (kids:=kids) i u hu;rwa [Nat.zero_add] at this)
    repeat' (first|(first|(refine GT ?_ ?_<;>intro hg<;>clear hA a<;>intro a hA<;>(first|exact FA|replace hg:=dTr hg|replace hg:=dFa hg|skip))|(refine XT ?_;apply XE;(first|(apply ex_load_st (vs:=encSt r);rfl;rfl;exact cls_fz MEMT hatR));clear hA a;intro a hA)|(refine QT ?_;clear hA a;intro a hA)|(first|(refine BT ?_;clear hA hH;rintro _ w ⟨bN,rfl,hH⟩ a hA)|(refine LT ?_;clear hA hH;rintro _ w ⟨oN,rfl,hH⟩ a hA)|(refine AT ?_;clear hA;rintro _ w ⟨oN,cN,rfl,hH2⟩ a hA;clear hH;have hH:=(hH2 _ (by (repeat constructor))).tail;clear hH2)|(refine S0T ?_;clear hH;rintro _ w hH)|(refine SAT (encSt r) hA hH ?_;clear hH;intro w hH)))|refine CT ?_|(refine DT ?_ ?_<;>intro hc<;>try (exfalso;omega))|(first|(refine DSK ?_;clear hA a;intro a hA)|(first|(refine DLT ?_;clear hA hH;rintro _ w ⟨oN,rfl,hH⟩;refine ⟨STT,?_⟩;intro a hA)|(refine DAT ?_;clear hA;rintro _ w ⟨oN,cN,rfl,hH2⟩;clear hH;have hH:=(hH2 _ (by (repeat constructor))).tail;clear hH2;refine ⟨STT,?_⟩;intro a hA))))
    obtain ⟨b7,hq3⟩:∃x,x=bN:=⟨_,rfl⟩;rw [←hq3] at hA hH;clear hq3 bN
    have hrR:∀w,K1 w→RdV w Fw.encI r.ns∧RdV w encAt r.a∧r.ns.l.length≤17592186044416:=fun w h=>by
      have:=hrd w h
      cases this with
      |mk h1 h2 h3 h4 h5 h6 h7=>exact ⟨h3.1,h4.1,h3.2⟩
    have hST:HS w0 noM [cb b7 57 (encSt r)] w:=hH.pick MEMT
    (refine wp_draw2_HS (H:=[_]) [(0,1),(1,1),(3,1),(4,1),(2,0),(6,1),(5,0)] [7,8,9] mixed (by decide +kernel) (hST) ?_;replace hH:=hH.drew)
    clear hST
    repeat' (first|(first|(refine GT ?_ ?_<;>intro hg<;>clear hA a<;>intro a hA<;>(first|exact FA|replace hg:=dTr hg|replace hg:=dFa hg|skip))|(refine QT ?_;clear hA a;intro a hA)|(first|(refine BT ?_;clear hA hH;rintro _ w ⟨bN,rfl,hH⟩ a hA)|(refine LT ?_;clear hA hH;rintro _ w ⟨oN,rfl,hH⟩ a hA)|(refine AT ?_;clear hA;rintro _ w ⟨oN,cN,rfl,hH2⟩ a hA;clear hH;have hH:=(hH2 _ (by (repeat constructor))).tail;clear hH2)|(refine S0T ?_;clear hH;rintro _ w hH)))|refine CT ?_|(refine DT ?_ ?_<;>intro hc<;>try (exfalso;omega))|(first|(refine DSK ?_;clear hA a;intro a hA)|(first|(refine DLT ?_;clear hA hH;rintro _ w ⟨oN,rfl,hH⟩;refine ⟨STT,?_⟩;intro a hA)|(refine DAT ?_;clear hA;rintro _ w ⟨oN,cN,rfl,hH2⟩;clear hH;have hH:=(hH2 _ (by (repeat constructor))).tail;clear hH2;refine ⟨STT,?_⟩;intro a hA))))
    (refine dr_op hA rfl rfl rfl (by decide) (op_call rfl rfl rfl (atomsV_spec _ r.a (hrR _ (hH.frz MEMT)).2.1 (by omega))) ?_;clear hA;rintro _ w ⟨oA,cA,rfl,hj⟩;replace hH:=hH.join hj;clear hj;refine ⟨hH.pick MEMT,?_⟩;intro a hA)
    repeat' (first|(first|(refine GT ?_ ?_<;>intro hg<;>clear hA a<;>intro a hA<;>(first|exact FA|replace hg:=dTr hg|replace hg:=dFa hg|skip))|(refine QT ?_;clear hA a;intro a hA)|(first|(refine BT ?_;clear hA hH;rintro _ w ⟨bN,rfl,hH⟩ a hA)|(refine LT ?_;clear hA hH;rintro _ w ⟨oN,rfl,hH⟩ a hA)|(refine AT ?_;clear hA;rintro _ w ⟨oN,cN,rfl,hH2⟩ a hA;clear hH;have hH:=(hH2 _ (by (repeat constructor))).tail;clear hH2)|(refine S0T ?_;clear hH;rintro _ w hH)))|refine CT ?_|(refine DT ?_ ?_<;>intro hc<;>try (exfalso;omega))|(first|(refine DSK ?_;clear hA a;intro a hA)|(first|(refine DLT ?_;clear hA hH;rintro _ w ⟨oN,rfl,hH⟩;refine ⟨STT,?_⟩;intro a hA)|(refine DAT ?_;clear hA;rintro _ w ⟨oN,cN,rfl,hH2⟩;clear hH;have hH:=(hH2 _ (by (repeat constructor))).tail;clear hH2;refine ⟨STT,?_⟩;intro a hA))))
    (refine dr_op hA rfl rfl rfl (by decide) (op_call rfl rfl rfl (cloneL_spec _ r.ns (hrR _ (hH.frz MEMT)).1 (hrR _ (hH.frz MEMT)).2.2)) ?_;clear hA;rintro _ w ⟨oS,cS,rfl,hj⟩;replace hH:=hH.join hj;clear hj;refine ⟨hH.pick MEMT,?_⟩;intro a hA)
    repeat' (first|(first|(refine GT ?_ ?_<;>intro hg<;>clear hA a<;>intro a hA<;>(first|exact FA|replace hg:=dTr hg|replace hg:=dFa hg|skip))|(refine QT ?_;clear hA a;intro a hA)|(first|(refine BT ?_;clear hA hH;rintro _ w ⟨bN,rfl,hH⟩ a hA)|(refine LT ?_;clear hA hH;rintro _ w ⟨oN,rfl,hH⟩ a hA)|(refine AT ?_;clear hA;rintro _ w ⟨oN,cN,rfl,hH2⟩ a hA;clear hH;have hH:=(hH2 _ (by (repeat constructor))).tail;clear hH2)|(refine S0T ?_;clear hH;rintro _ w hH)|(apply dr_op03 hA rfl rfl rfl;apply op_store_fld (cs':=[.int .i64 r.k,.int .i64 r.n,.slice r.ns.o r.ns.l.length r.ns.c,.slice oA r.a.l.length cA]);rfl;rfl;rfl;exact hH;(repeat constructor);clear hH;rintro _ w hH)|(apply dr_op03 hA rfl rfl rfl;apply op_store_fld (cs':=[.int .i64 r.k,.int .i64 r.n,.slice oS r.ns.l.length cS,.slice oA r.a.l.length cA]);rfl;rfl;rfl;exact hH;(repeat constructor);clear hH;rintro _ w hH)))|refine CT ?_|(refine DT ?_ ?_<;>intro hc<;>try (exfalso;omega))|(first|(refine DSK ?_;clear hA a;intro a hA)|(first|(refine DLT ?_;clear hA hH;rintro _ w ⟨oN,rfl,hH⟩;refine ⟨STT,?_⟩;intro a hA)|(refine DAT ?_;clear hA;rintro _ w ⟨oN,cN,rfl,hH2⟩;clear hH;have hH:=(hH2 _ (by (repeat constructor))).tail;clear hH2;refine ⟨STT,?_⟩;intro a hA))))
    have hlS:=hH.own_le (T:=2) (o:=oS) MEMT
    have hlA:=hH.own_le (T:=65) (o:=oA) MEMT
    obtain ⟨K2,hK2⟩:∃K2:World→Prop,K2=(fun w=>Rd w oA (flat encAt r.a.l)∧Rd w oS (flat Fw.encI r.ns.l)∧K1 w):=⟨_,rfl⟩
    have hiL:(ds.map insI)[p]?=some (insI d):=by rw [List.getElem?_map,hd];rfl
    obtain ⟨r1,hr1⟩:∃r1:Stp,r1=⟨r.k,r.n,⟨oS,cS,r.ns.l⟩,⟨oA,cA,r.a.l⟩⟩:=⟨_,rfl⟩
    have hvR:(encSt r1)=[.int .i64 r.k,.int .i64 r.n,.slice oS r.ns.l.length cS,.slice oA r.a.l.length cA]:=by rw [hr1];rfl
    rw [←hvR] at hH
    replace hH:=(hH.perm (H':=own 2 1 oS r.ns.l.length cS (flat Fw.encI r.ns.l)::frz w0 K1::own 65 2 oA r.a.l.length cA (flat encAt r.a.l)::all (ds.map insI)::cb b7 57 (encSt r1)::cb bM 174 (encMkr oD ds.length cD bJ)::own 179 7 oD ds.length cD (flat encDr ds)::all (ds.map toI)::mpI bJ js::H) PMT).frz_own
    replace hH:=(hH.perm (H':=own 65 2 oA r.a.l.length cA (flat encAt r.a.l)::frz w0 (fun w=>Rd w oS (flat Fw.encI r.ns.l)∧K1 w)::all (ds.map insI)::cb b7 57 (encSt r1)::cb bM 174 (encMkr oD ds.length cD bJ)::own 179 7 oD ds.length cD (flat encDr ds)::all (ds.map toI)::mpI bJ js::H) PMT).frz_own
    rw [←hK2] at hH
    replace hH:=(hH.perm (H':=all (ds.map insI)::frz w0 K2::cb b7 57 (encSt r1)::cb bM 174 (encMkr oD ds.length cD bJ)::own 179 7 oD ds.length cD (flat encDr ds)::all (ds.map toI)::mpI bJ js::H) PMT).openAt hiL
    have hI:insI d=own 59 5 d.is.o d.is.l.length d.is.c (flat encIn d.is.l):=rfl
    rw [hI] at hH
    replace hH:=hH.perm (H':=frz w0 K2::cb b7 57 (encSt r1)::cb bM 174 (encMkr oD ds.length cD bJ)::own 179 7 oD ds.length cD (flat encDr ds)::own 59 5 d.is.o d.is.l.length d.is.c (flat encIn d.is.l)::all ((ds.map insI).eraseIdx p)::all (ds.map toI)::mpI bJ js::H) PMT
    have hvI:(encDr d)[1]?=some (.slice d.is.o d.is.l.length d.is.c):=rfl
    have hv1:=dr_at (off:=1) hd hvI
    have hat2:∀w,K2 w→∀i u,(encN (.mk 1 x xs n ns r va ko kc kids))[i]?=some u→w.cell? (sat ob (jb+i))=some u:=fun w h=>hat w (by rw [hK2] at h;exact h.2.2)
    have hdl:=hl.2 d (List.mem_of_getElem? hd)
    have hST:HS w0 noM [_,_,_,_] w:=HS.left (H1:=[_,_,_,_]) hH
    (refine wp_draw2_HS (H:=[_,_,_,_]) [(0,1),(1,1),(2,1),(3,1),(4,1),(5,1),(6,1),(7,1),(8,1),(9,1),(10,1),(11,1),(12,1),(13,1),(14,1),(15,1),(16,1),(17,1),(18,1),(19,1),(20,0),(21,0),(22,1),(23,1),(24,1)] [25] mixed (by decide +kernel) (hST) ?_;replace hH:=hH.drew)
    clear hST
    repeat' (first|(first|(refine GT ?_ ?_<;>intro hg<;>clear hA a<;>intro a hA<;>(first|exact FA|replace hg:=dTr hg|replace hg:=dFa hg|skip))|(refine XT ?_;apply XE;(first|(apply ex_load;rfl;exact cl_fz MEMT (fun w h=>hat2 w h _ _ rfl))|(apply ex_load;rfl;exact cl_own MEMT hv1)|(apply ex_load_st (vs:=encSt r1);rfl;rfl;exact cls_cb_all MEMT)|(apply ex_build (szs:=[(0,1),(1,4)]) (cs:=(encIn ⟨x,r1⟩).toArray);exact run_szl (by (repeat (first|exact SzL.nil|refine SzL.cons ⟨_,rfl,by decide⟩ ?_)));rfl;rfl));clear hA a;intro a hA)|(refine QT ?_;clear hA a;intro a hA)|(first|(refine BT ?_;clear hA hH;rintro _ w ⟨bN,rfl,hH⟩ a hA)|(refine LT ?_;clear hA hH;rintro _ w ⟨oN,rfl,hH⟩ a hA)|(refine AT ?_;clear hA;rintro _ w ⟨oN,cN,rfl,hH2⟩ a hA;clear hH;have hH:=(hH2 _ (by (repeat constructor))).tail;clear hH2)|(refine S0T ?_;clear hH;rintro _ w hH)))|refine CT ?_|(refine DT ?_ ?_<;>intro hc<;>try (exfalso;omega))|(first|(refine DSK ?_;clear hA a;intro a hA)|(first|(refine DLT ?_;clear hA hH;rintro _ w ⟨oN,rfl,hH⟩;refine ⟨STT,?_⟩;intro a hA)|(refine DAT ?_;clear hA;rintro _ w ⟨oN,cN,rfl,hH2⟩;clear hH;have hH:=(hH2 _ (by (repeat constructor))).tail;clear hH2;refine ⟨STT,?_⟩;intro a hA))))
    (apply dr_op hA rfl rfl rfl (by decide);apply op_sliceLit (xs:=encIn ⟨x,r1⟩) (vs:=[.agg (encIn ⟨x,r1⟩).toArray]);rfl;rfl;exact (Cats.cn (cs:=encIn ⟨x,r1⟩) Cats.nil);rfl;rfl;rfl;exact hH;clear hA hH;rintro _ w ⟨oN,rfl,hH⟩;refine ⟨HS.left (H1:=[_,_,_,_]) hH.tail,?_⟩;intro a hA)
    have hRw:=hH.own_rd (T:=59) (o:=oN) (.head _)
    have hfl:(encIn ⟨x,r1⟩).length=1*5:=rfl
    have hon:(encIn ⟨x,r1⟩).all (·.oneCell')=true:=rfl
    replace hH:=hH.perm (H':=frz w0 K2::cb b7 57 (encSt r1)::cb bM 174 (encMkr oD ds.length cD bJ)::own 179 7 oD ds.length cD (flat encDr ds)::own 59 5 d.is.o d.is.l.length d.is.c (flat encIn d.is.l)::own 59 5 oN 1 1 (encIn ⟨x,r1⟩)::all ((ds.map insI).eraseIdx p)::all (ds.map toI)::mpI bJ js::H) PMT
    (apply dr_op hA rfl rfl rfl (by decide);apply op_append;rfl;rfl;exact hH;exact MEMT;exact hRw;exact hfl;rfl;decide;exact hon;(unfold maxLen;omega);omega;clear hA;rintro _ w ⟨oN,cN,rfl,hH2⟩;clear hH;have hH:=hH2 _ (by (repeat constructor));clear hH2;refine ⟨HS.left (H1:=[_,_,_,_]) hH,?_⟩;intro a hA)
    rw [←flat_snoc] at hH
    have hput:put (flat encDr ds) (p*7+0+1) [.slice oN (d.is.l.length+1) cN]=flat encDr (ds.set p (addD d oN cN ⟨x,r1⟩)):=flat_put encDr_len (off:=1) hd addD_put (by show 1+1≤7;decide)
    have hdlen:(flat encDr ds).length=ds.length*7:=flat_length encDr_len _
    repeat' (first|(first|(refine GT ?_ ?_<;>intro hg<;>clear hA a<;>intro a hA<;>(first|exact FA|replace hg:=dTr hg|replace hg:=dFa hg|skip))|(refine QT ?_;clear hA a;intro a hA)|(first|(refine BT ?_;clear hA hH;rintro _ w ⟨bN,rfl,hH⟩ a hA)|(refine LT ?_;clear hA hH;rintro _ w ⟨oN,rfl,hH⟩ a hA)|(refine AT ?_;clear hA;rintro _ w ⟨oN,cN,rfl,hH2⟩ a hA;clear hH;have hH:=(hH2 _ (by (repeat constructor))).tail;clear hH2)|(refine S0T ?_;clear hH;rintro _ w hH)|(apply dr_op03 hA rfl rfl rfl;apply op_store_own1 (xs':=flat encDr (ds.set p (addD d oN cN ⟨x,r1⟩)));rfl;rfl;rfl;exact hH;(repeat constructor);omega;exact hput;clear hH;rintro _ w hH)))|refine CT ?_|(refine DT ?_ ?_<;>intro hc<;>try (exfalso;omega))|(first|(refine DSK ?_;clear hA a;intro a hA)|(first|(refine DLT ?_;clear hA hH;rintro _ w ⟨oN,rfl,hH⟩;refine ⟨STT,?_⟩;intro a hA)|(refine DAT ?_;clear hA;rintro _ w ⟨oN,cN,rfl,hH2⟩;clear hH;have hH:=(hH2 _ (by (repeat constructor))).tail;clear hH2;refine ⟨STT,?_⟩;intro a hA))))
    obtain ⟨c0,rfl⟩:∃c0,kids=[c0]:=List.length_eq_one_iff.1 (hk1 rfl)
    have hspK:=(kid_sp (hrd w (by have h:=hH.frz MEMT;rw [hK2] at h;exact h.2.2))).1
    repeat' (first|(first|(refine GT ?_ ?_<;>intro hg<;>clear hA a<;>intro a hA<;>(first|exact FA|replace hg:=dTr hg|replace hg:=dFa hg|skip))|(refine XT ?_;apply XE;(first|(apply ex_load;rfl;exact cl_fz MEMT (fun w h=>hat2 w h _ _ rfl))|(apply ex_indexAddr;rfl;rfl;decide;decide;exact hspK));clear hA a;intro a hA)|(refine QT ?_;clear hA a;intro a hA)|(first|(refine BT ?_;clear hA hH;rintro _ w ⟨bN,rfl,hH⟩ a hA)|(refine LT ?_;clear hA hH;rintro _ w ⟨oN,rfl,hH⟩ a hA)|(refine AT ?_;clear hA;rintro _ w ⟨oN,cN,rfl,hH2⟩ a hA;clear hH;have hH:=(hH2 _ (by (repeat constructor))).tail;clear hH2)|(refine S0T ?_;clear hH;rintro _ w hH)))|refine CT ?_|(refine DT ?_ ?_<;>intro hc<;>try (exfalso;omega))|(first|(refine DSK ?_;clear hA a;intro a hA)|(first|(refine DLT ?_;clear hA hH;rintro _ w ⟨oN,rfl,hH⟩;refine ⟨STT,?_⟩;intro a hA)|(refine DAT ?_;clear hA;rintro _ w ⟨oN,cN,rfl,hH2⟩;clear hH;have hH:=(hH2 _ (by (repeat constructor))).tail;clear hH2;refine ⟨STT,?_⟩;intro a hA))))
    have hlI:=hH.own_le (T:=59) (o:=oN) MEMT
    obtain ⟨d1,hd1⟩:∃d1,d1=addD d oN cN ⟨x,r1⟩:=⟨_,rfl⟩
    have hI1:insI d1=own 59 5 oN (d.is.l.length+1) cN (flat encIn (d.is.l++[⟨x,r1⟩])):=by rw [hd1];exact addD_ins
    have hT1:(ds.set p d1).map toI=ds.map toI:=map_set_same hd (by rw [hd1];exact addD_to)
    rw [←hd1,←hI1] at hH
    replace hH:=(hH.rm 1 |>.rm 4).perm (H':=insI d1::all ((ds.map insI).eraseIdx p)::frz w0 K2::cb bM 174 (encMkr oD ds.length cD bJ)::own 179 7 oD ds.length cD (flat encDr (ds.set p d1))::all (ds.map toI)::mpI bJ js::H) PMT
    replace hH:=hH.shutAt (by rw [List.length_map];exact hp)
    rw [←List.map_set,←hT1] at hH
    have hlen1:(ds.set p d1).length=ds.length:=List.length_set ..
    refine ⟨⟨c0,ko,Int.toNat 0*11,K2,oD,cD,ds.set p d1,js⟩,⟨⟨fun w h=>?_,?_,?_,?_,?_,?_⟩,?_,(hA.sub SBT)⟩,?_⟩
    · rw [hK2] at h
      obtain ⟨h1,h2,h3⟩:=h
      obtain ⟨h4,h5,h6⟩:=hK w h3
      exact ⟨h4,kid_at (i:=0) h5.2 rfl,rd_set h6 (by rw [hd1,hr1];exact addD_rd (h6 d (List.mem_of_getElem? hd)) (ins_rd h1 hlA h2 hlS))⟩
    · dsimp only;omega
    · have e:(ds.set p d1).map stB=(ds.map stB).modify p (addI x r):=set_st hd (by rw [hd1,hr1];exact addD_st)
      rw [←lim_st] at hl ⊢
      dsimp only
      rw [e]
      refine (hl.le (n:=szN c0+1) ?_).add
      rw [szN,szNs,szNs];omega
    · dsimp only
      rw [szN,szNs,szNs] at hz
      omega
    · exact shns_mem hks c0 (List.mem_singleton.2 rfl)
    · dsimp only
      rw [heq,fillF,if_pos rfl,fill1]
      congr 1
      rw [set_st hd (f:=addI x r) (by rw [hd1,hr1];exact addD_st)]
    · dsimp only
      rw [hlen1]
      exact hH.perm PMT
    · dsimp only
      rw [szN,szNs,szNs];omega
    --))
  rcases hk8 with rfl|hk8
  · --join
    --((
    have hrx:∀w,K1 w→RdV w Fw.encI xs∧xs.l.length≤17592186044416:=fun w h=>by
      have:=hrd w h
      cases this with
      |mk h1 h2 h3 h4 h5 h6 h7=>exact h1
    obtain ⟨c0,c1,rfl⟩:∃b0 b1,kids=[b0,b1]:=two_of (hk7 rfl)
    have hspK:=(kid_sp (hrd w (hH.frz MEMT))).1
    rw [szN,szNs,szNs,szNs] at hl hz
    have hl1:=hl.1
    repeat' (first|(first|(refine GT ?_ ?_<;>intro hg<;>clear hA a<;>intro a hA<;>(first|exact FA|replace hg:=dTr hg|replace hg:=dFa hg|skip))|(refine XT ?_;apply XE;(first|(apply ex_load;rfl;exact cl_fz MEMT (fun w h=>hat w h _ _ rfl)));clear hA a;intro a hA)|(refine QT ?_;clear hA a;intro a hA)|(first|(refine BT ?_;clear hA hH;rintro _ w ⟨bN,rfl,hH⟩ a hA)|(refine LT ?_;clear hA hH;rintro _ w ⟨oN,rfl,hH⟩ a hA)|(refine AT ?_;clear hA;rintro _ w ⟨oN,cN,rfl,hH2⟩ a hA;clear hH;have hH:=(hH2 _ (by (repeat constructor))).tail;clear hH2)|(refine S0T ?_;clear hH;rintro _ w hH)))|refine CT ?_|(refine DT ?_ ?_<;>intro hc<;>try (exfalso;omega))|(first|(refine DSK ?_;clear hA a;intro a hA)|(first|(refine DLT ?_;clear hA hH;rintro _ w ⟨oN,rfl,hH⟩;refine ⟨STT,?_⟩;intro a hA)|(refine DAT ?_;clear hA;rintro _ w ⟨oN,cN,rfl,hH2⟩;clear hH;have hH:=(hH2 _ (by (repeat constructor))).tail;clear hH2;refine ⟨STT,?_⟩;intro a hA))))
    (refine st_op hA rfl rfl (by decide) (op_call rfl rfl rfl (fresh_spec w0 w H bM bJ K1 oD cD ds js xs (fun w h=>(hrx w h).1) (hrx w (hH.frz MEMT)).2 (by omega) hH)) ?_;clear hA hH;rintro _ w ⟨oE,cE,K2,v',rfl,hv',hH,hK2⟩ a hA)
    have hat2:=fun w (h:K2 w)=>hat w (hK2 w h).1
    repeat' (first|(first|(refine GT ?_ ?_<;>intro hg<;>clear hA a<;>intro a hA<;>(first|exact FA|replace hg:=dTr hg|replace hg:=dFa hg|skip))|(refine QT ?_;clear hA a;intro a hA)|(first|(refine BT ?_;clear hA hH;rintro _ w ⟨bN,rfl,hH⟩ a hA)|(refine LT ?_;clear hA hH;rintro _ w ⟨oN,rfl,hH⟩ a hA)|(refine AT ?_;clear hA;rintro _ w ⟨oN,cN,rfl,hH2⟩ a hA;clear hH;have hH:=(hH2 _ (by (repeat constructor))).tail;clear hH2)|(refine S0T ?_;clear hH;rintro _ w hH)))|refine CT ?_|(refine DT ?_ ?_<;>intro hc<;>try (exfalso;omega))|(first|(refine DSK ?_;clear hA a;intro a hA)|(first|(refine DLT ?_;clear hA hH;rintro _ w ⟨oN,rfl,hH⟩;refine ⟨STT,?_⟩;intro a hA)|(refine DAT ?_;clear hA;rintro _ w ⟨oN,cN,rfl,hH2⟩;clear hH;have hH:=(hH2 _ (by (repeat constructor))).tail;clear hH2;refine ⟨STT,?_⟩;intro a hA))))
    (refine wp_draw2_HS [(0,1),(1,1),(2,1),(3,1),(4,1),(5,1),(6,1),(7,1),(8,1)] [9] mixed (by decide +kernel) hH ?_;replace hH:=hH.drew)
    repeat' (first|(first|(refine GT ?_ ?_<;>intro hg<;>clear hA a<;>intro a hA<;>(first|exact FA|replace hg:=dTr hg|replace hg:=dFa hg|skip))|(refine XT ?_;apply XE;(first|(apply ex_load;rfl;exact cl_fz MEMT (fun w h=>hat2 w h _ _ rfl)));clear hA a;intro a hA)|(refine QT ?_;clear hA a;intro a hA)|(first|(refine BT ?_;clear hA hH;rintro _ w ⟨bN,rfl,hH⟩ a hA)|(refine LT ?_;clear hA hH;rintro _ w ⟨oN,rfl,hH⟩ a hA)|(refine AT ?_;clear hA;rintro _ w ⟨oN,cN,rfl,hH2⟩ a hA;clear hH;have hH:=(hH2 _ (by (repeat constructor))).tail;clear hH2)|(refine S0T ?_;clear hH;rintro _ w hH)))|refine CT ?_|(refine DT ?_ ?_<;>intro hc<;>try (exfalso;omega))|(first|(refine DSK ?_;clear hA a;intro a hA)|(first|(refine DLT ?_;clear hA hH;rintro _ w ⟨oN,rfl,hH⟩;refine ⟨STT,?_⟩;intro a hA)|(refine DAT ?_;clear hA;rintro _ w ⟨oN,cN,rfl,hH2⟩;clear hH;have hH:=(hH2 _ (by (repeat constructor))).tail;clear hH2;refine ⟨STT,?_⟩;intro a hA))))
    (refine dr_op03 hA rfl rfl rfl (op_mapUpdateI rfl rfl rfl hH (by (repeat constructor))) ?_;clear hH;rintro _ w hH)
    repeat' (first|(first|(refine GT ?_ ?_<;>intro hg<;>clear hA a<;>intro a hA<;>(first|exact FA|replace hg:=dTr hg|replace hg:=dFa hg|skip))|(refine XT ?_;apply XE;(first|(apply ex_load;rfl;exact cl_fz MEMT (fun w h=>hat2 w h _ _ rfl))|(apply ex_indexAddr;rfl;rfl;decide;decide;exact hspK));clear hA a;intro a hA)|(refine QT ?_;clear hA a;intro a hA)|(first|(refine BT ?_;clear hA hH;rintro _ w ⟨bN,rfl,hH⟩ a hA)|(refine LT ?_;clear hA hH;rintro _ w ⟨oN,rfl,hH⟩ a hA)|(refine AT ?_;clear hA;rintro _ w ⟨oN,cN,rfl,hH2⟩ a hA;clear hH;have hH:=(hH2 _ (by (repeat constructor))).tail;clear hH2)|(refine S0T ?_;clear hH;rintro _ w hH)))|refine CT ?_|(refine DT ?_ ?_<;>intro hc<;>try (exfalso;omega))|(first|(refine DSK ?_;clear hA a;intro a hA)|(first|(refine DLT ?_;clear hA hH;rintro _ w ⟨oN,rfl,hH⟩;refine ⟨STT,?_⟩;intro a hA)|(refine DAT ?_;clear hA;rintro _ w ⟨oN,cN,rfl,hH2⟩;clear hH;have hH:=(hH2 _ (by (repeat constructor))).tail;clear hH2;refine ⟨STT,?_⟩;intro a hA))))
    have hst1:(ds++[nbl v']).map stB=ds.map stB++[newB xs.l]:=by rw [List.map_append,←hv'];rfl
    (refine st_op hA rfl rfl (by decide) (op_call rfl rfl rfl (ihN c0 (by omega) (shns_mem hks c0 (List.mem_cons_self ..)) H w ds.length K2 oE cE (ds++[nbl v']) (setI js n ds.length) ko (Int.toNat 0*11) (fun w h=>?_) (by rw [List.length_append,List.length_singleton];omega) ?_ hH)) ?_)
    · obtain ⟨h1,h2⟩:=hK2 w h
      obtain ⟨h4,h5,h6⟩:=hK w h1
      refine ⟨kid_at (i:=0) h5.2 rfl,fun d hd=>?_⟩
      rcases List.mem_append.1 hd with hd|hd
      · exact h6 d hd
      · rw [List.mem_singleton] at hd;subst hd;exact RdDr.nbl h2
    · rw [←lim_st,hst1]
      exact ((lim_st.2 hl).le (n:=szN c0+1) (by omega)).new _
    clear hA hH
    rintro _ w ⟨K3,oE3,cE3,ds3,js3,hH,hK3,heq3⟩ a hA
    have hat3:=fun w (h:K3 w)=>hat2 w (hK3 w h).1
    repeat' (first|(first|(refine GT ?_ ?_<;>intro hg<;>clear hA a<;>intro a hA<;>(first|exact FA|replace hg:=dTr hg|replace hg:=dFa hg|skip))|(refine XT ?_;apply XE;(first|(apply ex_load;rfl;exact cl_fz MEMT (fun w h=>hat3 w h _ _ rfl))|(apply ex_indexAddr;rfl;rfl;decide;decide;exact hspK));clear hA a;intro a hA)|(refine QT ?_;clear hA a;intro a hA)|(first|(refine BT ?_;clear hA hH;rintro _ w ⟨bN,rfl,hH⟩ a hA)|(refine LT ?_;clear hA hH;rintro _ w ⟨oN,rfl,hH⟩ a hA)|(refine AT ?_;clear hA;rintro _ w ⟨oN,cN,rfl,hH2⟩ a hA;clear hH;have hH:=(hH2 _ (by (repeat constructor))).tail;clear hH2)|(refine S0T ?_;clear hH;rintro _ w hH)))|refine CT ?_|(refine DT ?_ ?_<;>intro hc<;>try (exfalso;omega))|(first|(refine DSK ?_;clear hA a;intro a hA)|(first|(refine DLT ?_;clear hA hH;rintro _ w ⟨oN,rfl,hH⟩;refine ⟨STT,?_⟩;intro a hA)|(refine DAT ?_;clear hA;rintro _ w ⟨oN,cN,rfl,hH2⟩;clear hH;have hH:=(hH2 _ (by (repeat constructor))).tail;clear hH2;refine ⟨STT,?_⟩;intro a hA))))
    rw [hst1] at heq3
    have hp0:=szN_pos c0
    have hp1:=szN_pos c1
    have hlf:=lim_fill c0 (shns_mem hks c0 (List.mem_cons_self ..)) ds.length (ds.map stB++[newB xs.l],setI js n ds.length) (szN c1) (((lim_st.2 hl).le (n:=szN c0 - 1+szN c1+1) (by omega)).new _)
    rw [←heq3] at hlf
    dsimp only at hlf
    rw [List.length_append,List.length_map,List.length_singleton,List.length_map] at hlf
    refine ⟨⟨c1,ko,Int.toNat 1*11,K3,oE3,cE3,ds3,js3⟩,⟨⟨fun w h=>?_,?_,?_,?_,?_,?_⟩,hH,(hA.sub SBT)⟩,?_⟩
    · obtain ⟨h1,h2⟩:=hK3 w h
      obtain ⟨h4,h5,h6⟩:=hK w (hK2 w h1).1
      exact ⟨h4,kid_at (i:=1) h5.2 rfl,h2⟩
    · dsimp only;omega
    · exact lim_st.1 hlf.1
    · dsimp only;omega
    · exact shns_mem hks c1 (List.mem_cons_of_mem _ (List.mem_cons_self ..))
    · dsimp only
      rw [heq,fillF,if_neg (by decide),if_pos rfl,fillJ,fill1,heq3]
      dsimp only
      rw [List.length_map]
    · dsimp only
      rw [szN,szNs,szNs,szNs];omega
    --))
  rcases hk8 with rfl|hk8
  · skip
    --((
    have hra:∀w,K1 w→RdV w encAt va:=fun w h=>by
      have:=hrd w h
      cases this with
      |mk h1 h2 h3 h4 h5 h6 h7=>exact h5.1
    repeat' (first|(first|(refine GT ?_ ?_<;>intro hg<;>clear hA a<;>intro a hA<;>(first|exact FA|replace hg:=dTr hg|replace hg:=dFa hg|skip))|(refine XT ?_;apply XE;(first|(apply ex_load;rfl;exact cl_fz MEMT (fun w h=>hat w h _ _ rfl)));clear hA a;intro a hA)|(refine QT ?_;clear hA a;intro a hA)|(first|(refine BT ?_;clear hA hH;rintro _ w ⟨bN,rfl,hH⟩ a hA)|(refine LT ?_;clear hA hH;rintro _ w ⟨oN,rfl,hH⟩ a hA)|(refine AT ?_;clear hA;rintro _ w ⟨oN,cN,rfl,hH2⟩ a hA;clear hH;have hH:=(hH2 _ (by (repeat constructor))).tail;clear hH2)|(refine S0T ?_;clear hH;rintro _ w hH)))|refine CT ?_|(refine DT ?_ ?_<;>intro hc<;>try (exfalso;omega))|(first|(refine DSK ?_;clear hA a;intro a hA)|(first|(refine DLT ?_;clear hA hH;rintro _ w ⟨oN,rfl,hH⟩;refine ⟨STT,?_⟩;intro a hA)|(refine DAT ?_;clear hA;rintro _ w ⟨oN,cN,rfl,hH2⟩;clear hH;have hH:=(hH2 _ (by (repeat constructor))).tail;clear hH2;refine ⟨STT,?_⟩;intro a hA))))
    (refine st_op hA rfl rfl (by decide) (op_call rfl rfl rfl (atomsV_spec _ va (hra _ (hH.frz MEMT)) (by omega))) ?_;clear hA;rintro _ w ⟨oA,cA,rfl,hj⟩ a hA;replace hH:=hH.join hj;clear hj)
    have hlA:=hH.own_le (T:=65) (o:=oA) MEMT
    repeat' (first|(first|(refine GT ?_ ?_<;>intro hg<;>clear hA a<;>intro a hA<;>(first|exact FA|replace hg:=dTr hg|replace hg:=dFa hg|skip))|(refine XT ?_;apply XE;(first|(apply ex_build_p (cs:=#[.int .i64 1,.slice oA va.l.length cA,.slice none 0 0,.slice none 0 0]);rfl;exact FLT;rfl));clear hA a;intro a hA)|(refine QT ?_;clear hA a;intro a hA)|(first|(refine BT ?_;clear hA hH;rintro _ w ⟨bN,rfl,hH⟩ a hA)|(refine LT ?_;clear hA hH;rintro _ w ⟨oN,rfl,hH⟩ a hA)|(refine AT ?_;clear hA;rintro _ w ⟨oN,cN,rfl,hH2⟩ a hA;clear hH;have hH:=(hH2 _ (by (repeat constructor))).tail;clear hH2)|(refine S0T ?_;clear hH;rintro _ w hH)))|refine CT ?_|(refine DT ?_ ?_<;>intro hc<;>try (exfalso;omega))|(first|(refine DSK ?_;clear hA a;intro a hA)|(first|(refine DLT ?_;clear hA hH;rintro _ w ⟨oN,rfl,hH⟩;refine ⟨STT,?_⟩;intro a hA)|(refine DAT ?_;clear hA;rintro _ w ⟨oN,cN,rfl,hH2⟩;clear hH;have hH:=(hH2 _ (by (repeat constructor))).tail;clear hH2;refine ⟨STT,?_⟩;intro a hA))))
    obtain ⟨e,he⟩:∃e:En,e=⟨1,⟨oA,cA,va.l⟩,nilV,nilV⟩:=⟨_,rfl⟩
    have hve:[Value.int .i64 1,.slice oA va.l.length cA,.slice none 0 0,.slice none 0 0]=encEn e:=by rw [he];rfl
    have hput:put (flat encDr ds) (p*7+0+2) (encEn e)=flat encDr (ds.set p (endB e d)):=flat_put encDr_len (off:=2) hd end_put (by show 2+4≤7;decide)
    have hdlen:(flat encDr ds).length=ds.length*7:=flat_length encDr_len _
    rw [←hve] at hput
    (apply st_op0 hA rfl rfl;apply op_store_own (vs:=[.int .i64 1,.slice oA va.l.length cA,.slice none 0 0,.slice none 0 0]) (xs':=flat encDr (ds.set p (endB e d)))
     rfl;rfl;exact hH;(repeat constructor);(repeat rfl);omega;exact hput;clear hH;rintro _ w hH)
    repeat' (first|(first|(refine GT ?_ ?_<;>intro hg<;>clear hA a<;>intro a hA<;>(first|exact FA|replace hg:=dTr hg|replace hg:=dFa hg|skip))|(refine QT ?_;clear hA a;intro a hA)|(first|(refine BT ?_;clear hA hH;rintro _ w ⟨bN,rfl,hH⟩ a hA)|(refine LT ?_;clear hA hH;rintro _ w ⟨oN,rfl,hH⟩ a hA)|(refine AT ?_;clear hA;rintro _ w ⟨oN,cN,rfl,hH2⟩ a hA;clear hH;have hH:=(hH2 _ (by (repeat constructor))).tail;clear hH2)|(refine S0T ?_;clear hH;rintro _ w hH)))|refine CT ?_|(refine DT ?_ ?_<;>intro hc<;>try (exfalso;omega))|(first|(refine DSK ?_;clear hA a;intro a hA)|(first|(refine DLT ?_;clear hA hH;rintro _ w ⟨oN,rfl,hH⟩;refine ⟨STT,?_⟩;intro a hA)|(refine DAT ?_;clear hA;rintro _ w ⟨oN,cN,rfl,hH2⟩;clear hH;have hH:=(hH2 _ (by (repeat constructor))).tail;clear hH2;refine ⟨STT,?_⟩;intro a hA))))
    have hTo:own 61 2 none 0 0 []=own 61 2 e.to.o e.to.l.length e.to.c (flat encEd e.to.l):=by rw [he];exact nilTo
    have hH2:=(hH.perm (H':=own 65 2 oA va.l.length cA (flat encAt va.l)::frz w0 K1::cb bM 174 (encMkr oD ds.length cD bJ)::own 179 7 oD ds.length cD (flat encDr (ds.set p (endB e d)))::all (ds.map insI)::all (ds.map toI)::mpI bJ js::H) PMT).frz_own
    replace hH2:=hH2.nil_own 61 2
    rw [hTo] at hH2
    replace hH2:=end_to (hH2.perm (H':=own 61 2 e.to.o e.to.l.length e.to.c (flat encEd e.to.l)::all (ds.map toI)::frz w0 (fun w=>Rd w oA (flat encAt va.l)∧K1 w)::cb bM 174 (encMkr oD ds.length cD bJ)::own 179 7 oD ds.length cD (flat encDr (ds.set p (endB e d)))::all (ds.map insI)::mpI bJ js::H) PMT) hd
    rw [←end_ins hd (e:=e)] at hH2
    refine rt0 (.inl rfl) rfl hA ⟨fun w=>Rd w oA (flat encAt va.l)∧K1 w,oD,cD,ds.set p (endB e d),js,?_,fun w h=>?_,?_⟩
    · rw [List.length_set];exact hH2.perm PMT
    · obtain ⟨h4,h5,h6⟩:=hK w h.2
      refine ⟨h4,rd_set h6 (end_rd (h6 d (List.mem_of_getElem? hd)) (by rw [he];exact ⟨h.1,hlA⟩) (by rw [he];exact rdv_nilV _ _) (by rw [he];exact fun i hi=>absurd hi (List.not_mem_nil)))⟩
    · rw [heq,fillF,if_neg (by decide),if_neg (by decide),if_neg (by decide),if_neg (by decide),set_st hd (f:=endB ⟨1,lv va.l,lv [],lv []⟩) (by rw [he];exact end_st)]<;>rfl
    --))
  rcases hk8 with rfl|hk8
  · skip
    --((
    have hra:∀w,K1 w→RdV w encAt va:=fun w h=>by
      have:=hrd w h
      cases this with
      |mk h1 h2 h3 h4 h5 h6 h7=>exact h5.1
    repeat' (first|(first|(refine GT ?_ ?_<;>intro hg<;>clear hA a<;>intro a hA<;>(first|exact FA|replace hg:=dTr hg|replace hg:=dFa hg|skip))|(refine XT ?_;apply XE;(first|(apply ex_load;rfl;exact cl_fz MEMT (fun w h=>hat w h _ _ rfl)));clear hA a;intro a hA)|(refine QT ?_;clear hA a;intro a hA)|(first|(refine BT ?_;clear hA hH;rintro _ w ⟨bN,rfl,hH⟩ a hA)|(refine LT ?_;clear hA hH;rintro _ w ⟨oN,rfl,hH⟩ a hA)|(refine AT ?_;clear hA;rintro _ w ⟨oN,cN,rfl,hH2⟩ a hA;clear hH;have hH:=(hH2 _ (by (repeat constructor))).tail;clear hH2)|(refine S0T ?_;clear hH;rintro _ w hH)))|refine CT ?_|(refine DT ?_ ?_<;>intro hc<;>try (exfalso;omega))|(first|(refine DSK ?_;clear hA a;intro a hA)|(first|(refine DLT ?_;clear hA hH;rintro _ w ⟨oN,rfl,hH⟩;refine ⟨STT,?_⟩;intro a hA)|(refine DAT ?_;clear hA;rintro _ w ⟨oN,cN,rfl,hH2⟩;clear hH;have hH:=(hH2 _ (by (repeat constructor))).tail;clear hH2;refine ⟨STT,?_⟩;intro a hA))))
    (refine st_op hA rfl rfl (by decide) (op_call rfl rfl rfl (atomsV_spec _ va (hra _ (hH.frz MEMT)) (by omega))) ?_;clear hA;rintro _ w ⟨oA,cA,rfl,hj⟩ a hA;replace hH:=hH.join hj;clear hj)
    have hlA:=hH.own_le (T:=65) (o:=oA) MEMT
    repeat' (first|(first|(refine GT ?_ ?_<;>intro hg<;>clear hA a<;>intro a hA<;>(first|exact FA|replace hg:=dTr hg|replace hg:=dFa hg|skip))|(refine XT ?_;apply XE;(first|(apply ex_build_p (cs:=#[.int .i64 2,.slice oA va.l.length cA,.slice none 0 0,.slice none 0 0]);rfl;exact FLT;rfl));clear hA a;intro a hA)|(refine QT ?_;clear hA a;intro a hA)|(first|(refine BT ?_;clear hA hH;rintro _ w ⟨bN,rfl,hH⟩ a hA)|(refine LT ?_;clear hA hH;rintro _ w ⟨oN,rfl,hH⟩ a hA)|(refine AT ?_;clear hA;rintro _ w ⟨oN,cN,rfl,hH2⟩ a hA;clear hH;have hH:=(hH2 _ (by (repeat constructor))).tail;clear hH2)|(refine S0T ?_;clear hH;rintro _ w hH)))|refine CT ?_|(refine DT ?_ ?_<;>intro hc<;>try (exfalso;omega))|(first|(refine DSK ?_;clear hA a;intro a hA)|(first|(refine DLT ?_;clear hA hH;rintro _ w ⟨oN,rfl,hH⟩;refine ⟨STT,?_⟩;intro a hA)|(refine DAT ?_;clear hA;rintro _ w ⟨oN,cN,rfl,hH2⟩;clear hH;have hH:=(hH2 _ (by (repeat constructor))).tail;clear hH2;refine ⟨STT,?_⟩;intro a hA))))
    obtain ⟨e,he⟩:∃e:En,e=⟨2,⟨oA,cA,va.l⟩,nilV,nilV⟩:=⟨_,rfl⟩
    have hve:[Value.int .i64 2,.slice oA va.l.length cA,.slice none 0 0,.slice none 0 0]=encEn e:=by rw [he];rfl
    have hput:put (flat encDr ds) (p*7+0+2) (encEn e)=flat encDr (ds.set p (endB e d)):=flat_put encDr_len (off:=2) hd end_put (by show 2+4≤7;decide)
    have hdlen:(flat encDr ds).length=ds.length*7:=flat_length encDr_len _
    rw [←hve] at hput
    (apply st_op0 hA rfl rfl;apply op_store_own (vs:=[.int .i64 2,.slice oA va.l.length cA,.slice none 0 0,.slice none 0 0]) (xs':=flat encDr (ds.set p (endB e d)))
     rfl;rfl;exact hH;(repeat constructor);(repeat rfl);omega;exact hput;clear hH;rintro _ w hH)
    repeat' (first|(first|(refine GT ?_ ?_<;>intro hg<;>clear hA a<;>intro a hA<;>(first|exact FA|replace hg:=dTr hg|replace hg:=dFa hg|skip))|(refine QT ?_;clear hA a;intro a hA)|(first|(refine BT ?_;clear hA hH;rintro _ w ⟨bN,rfl,hH⟩ a hA)|(refine LT ?_;clear hA hH;rintro _ w ⟨oN,rfl,hH⟩ a hA)|(refine AT ?_;clear hA;rintro _ w ⟨oN,cN,rfl,hH2⟩ a hA;clear hH;have hH:=(hH2 _ (by (repeat constructor))).tail;clear hH2)|(refine S0T ?_;clear hH;rintro _ w hH)))|refine CT ?_|(refine DT ?_ ?_<;>intro hc<;>try (exfalso;omega))|(first|(refine DSK ?_;clear hA a;intro a hA)|(first|(refine DLT ?_;clear hA hH;rintro _ w ⟨oN,rfl,hH⟩;refine ⟨STT,?_⟩;intro a hA)|(refine DAT ?_;clear hA;rintro _ w ⟨oN,cN,rfl,hH2⟩;clear hH;have hH:=(hH2 _ (by (repeat constructor))).tail;clear hH2;refine ⟨STT,?_⟩;intro a hA))))
    have hTo:own 61 2 none 0 0 []=own 61 2 e.to.o e.to.l.length e.to.c (flat encEd e.to.l):=by rw [he];exact nilTo
    have hH2:=(hH.perm (H':=own 65 2 oA va.l.length cA (flat encAt va.l)::frz w0 K1::cb bM 174 (encMkr oD ds.length cD bJ)::own 179 7 oD ds.length cD (flat encDr (ds.set p (endB e d)))::all (ds.map insI)::all (ds.map toI)::mpI bJ js::H) PMT).frz_own
    replace hH2:=hH2.nil_own 61 2
    rw [hTo] at hH2
    replace hH2:=end_to (hH2.perm (H':=own 61 2 e.to.o e.to.l.length e.to.c (flat encEd e.to.l)::all (ds.map toI)::frz w0 (fun w=>Rd w oA (flat encAt va.l)∧K1 w)::cb bM 174 (encMkr oD ds.length cD bJ)::own 179 7 oD ds.length cD (flat encDr (ds.set p (endB e d)))::all (ds.map insI)::mpI bJ js::H) PMT) hd
    rw [←end_ins hd (e:=e)] at hH2
    refine rt0 (.inl rfl) rfl hA ⟨fun w=>Rd w oA (flat encAt va.l)∧K1 w,oD,cD,ds.set p (endB e d),js,?_,fun w h=>?_,?_⟩
    · rw [List.length_set];exact hH2.perm PMT
    · obtain ⟨h4,h5,h6⟩:=hK w h.2
      refine ⟨h4,rd_set h6 (end_rd (h6 d (List.mem_of_getElem? hd)) (by rw [he];exact ⟨h.1,hlA⟩) (by rw [he];exact rdv_nilV _ _) (by rw [he];exact fun i hi=>absurd hi (List.not_mem_nil)))⟩
    · rw [heq,fillF,if_neg (by decide),if_neg (by decide),if_neg (by decide),if_neg (by decide),set_st hd (f:=endB ⟨2,lv va.l,lv [],lv []⟩) (by rw [he];exact end_st)]<;>rfl
    --))
  rcases hk8 with rfl|hk8
  · skip
    --((
    have hra:∀w,K1 w→RdV w encAt va:=fun w h=>by
      have:=hrd w h
      cases this with
      |mk h1 h2 h3 h4 h5 h6 h7=>exact h5.1
    repeat' (first|(first|(refine GT ?_ ?_<;>intro hg<;>clear hA a<;>intro a hA<;>(first|exact FA|replace hg:=dTr hg|replace hg:=dFa hg|skip))|(refine XT ?_;apply XE;(first|(apply ex_load;rfl;exact cl_fz MEMT (fun w h=>hat w h _ _ rfl)));clear hA a;intro a hA)|(refine QT ?_;clear hA a;intro a hA)|(first|(refine BT ?_;clear hA hH;rintro _ w ⟨bN,rfl,hH⟩ a hA)|(refine LT ?_;clear hA hH;rintro _ w ⟨oN,rfl,hH⟩ a hA)|(refine AT ?_;clear hA;rintro _ w ⟨oN,cN,rfl,hH2⟩ a hA;clear hH;have hH:=(hH2 _ (by (repeat constructor))).tail;clear hH2)|(refine S0T ?_;clear hH;rintro _ w hH)))|refine CT ?_|(refine DT ?_ ?_<;>intro hc<;>try (exfalso;omega))|(first|(refine DSK ?_;clear hA a;intro a hA)|(first|(refine DLT ?_;clear hA hH;rintro _ w ⟨oN,rfl,hH⟩;refine ⟨STT,?_⟩;intro a hA)|(refine DAT ?_;clear hA;rintro _ w ⟨oN,cN,rfl,hH2⟩;clear hH;have hH:=(hH2 _ (by (repeat constructor))).tail;clear hH2;refine ⟨STT,?_⟩;intro a hA))))
    (refine st_op hA rfl rfl (by decide) (op_call rfl rfl rfl (atomsV_spec _ va (hra _ (hH.frz MEMT)) (by omega))) ?_;clear hA;rintro _ w ⟨oA,cA,rfl,hj⟩ a hA;replace hH:=hH.join hj;clear hj)
    have hlA:=hH.own_le (T:=65) (o:=oA) MEMT
    repeat' (first|(first|(refine GT ?_ ?_<;>intro hg<;>clear hA a<;>intro a hA<;>(first|exact FA|replace hg:=dTr hg|replace hg:=dFa hg|skip))|(refine XT ?_;apply XE;(first|(apply ex_build_p (cs:=#[.int .i64 3,.slice oA va.l.length cA,.slice none 0 0,.slice none 0 0]);rfl;exact FLT;rfl));clear hA a;intro a hA)|(refine QT ?_;clear hA a;intro a hA)|(first|(refine BT ?_;clear hA hH;rintro _ w ⟨bN,rfl,hH⟩ a hA)|(refine LT ?_;clear hA hH;rintro _ w ⟨oN,rfl,hH⟩ a hA)|(refine AT ?_;clear hA;rintro _ w ⟨oN,cN,rfl,hH2⟩ a hA;clear hH;have hH:=(hH2 _ (by (repeat constructor))).tail;clear hH2)|(refine S0T ?_;clear hH;rintro _ w hH)))|refine CT ?_|(refine DT ?_ ?_<;>intro hc<;>try (exfalso;omega))|(first|(refine DSK ?_;clear hA a;intro a hA)|(first|(refine DLT ?_;clear hA hH;rintro _ w ⟨oN,rfl,hH⟩;refine ⟨STT,?_⟩;intro a hA)|(refine DAT ?_;clear hA;rintro _ w ⟨oN,cN,rfl,hH2⟩;clear hH;have hH:=(hH2 _ (by (repeat constructor))).tail;clear hH2;refine ⟨STT,?_⟩;intro a hA))))
    obtain ⟨e,he⟩:∃e:En,e=⟨3,⟨oA,cA,va.l⟩,nilV,nilV⟩:=⟨_,rfl⟩
    have hve:[Value.int .i64 3,.slice oA va.l.length cA,.slice none 0 0,.slice none 0 0]=encEn e:=by rw [he];rfl
    have hput:put (flat encDr ds) (p*7+0+2) (encEn e)=flat encDr (ds.set p (endB e d)):=flat_put encDr_len (off:=2) hd end_put (by show 2+4≤7;decide)
    have hdlen:(flat encDr ds).length=ds.length*7:=flat_length encDr_len _
    rw [←hve] at hput
    (apply st_op0 hA rfl rfl;apply op_store_own (vs:=[.int .i64 3,.slice oA va.l.length cA,.slice none 0 0,.slice none 0 0]) (xs':=flat encDr (ds.set p (endB e d)))
     rfl;rfl;exact hH;(repeat constructor);(repeat rfl);omega;exact hput;clear hH;rintro _ w hH)
    repeat' (first|(first|(refine GT ?_ ?_<;>intro hg<;>clear hA a<;>intro a hA<;>(first|exact FA|replace hg:=dTr hg|replace hg:=dFa hg|skip))|(refine QT ?_;clear hA a;intro a hA)|(first|(refine BT ?_;clear hA hH;rintro _ w ⟨bN,rfl,hH⟩ a hA)|(refine LT ?_;clear hA hH;rintro _ w ⟨oN,rfl,hH⟩ a hA)|(refine AT ?_;clear hA;rintro _ w ⟨oN,cN,rfl,hH2⟩ a hA;clear hH;have hH:=(hH2 _ (by (repeat constructor))).tail;clear hH2)|(refine S0T ?_;clear hH;rintro _ w hH)))|refine CT ?_|(refine DT ?_ ?_<;>intro hc<;>try (exfalso;omega))|(first|(refine DSK ?_;clear hA a;intro a hA)|(first|(refine DLT ?_;clear hA hH;rintro _ w ⟨oN,rfl,hH⟩;refine ⟨STT,?_⟩;intro a hA)|(refine DAT ?_;clear hA;rintro _ w ⟨oN,cN,rfl,hH2⟩;clear hH;have hH:=(hH2 _ (by (repeat constructor))).tail;clear hH2;refine ⟨STT,?_⟩;intro a hA))))
    have hTo:own 61 2 none 0 0 []=own 61 2 e.to.o e.to.l.length e.to.c (flat encEd e.to.l):=by rw [he];exact nilTo
    have hH2:=(hH.perm (H':=own 65 2 oA va.l.length cA (flat encAt va.l)::frz w0 K1::cb bM 174 (encMkr oD ds.length cD bJ)::own 179 7 oD ds.length cD (flat encDr (ds.set p (endB e d)))::all (ds.map insI)::all (ds.map toI)::mpI bJ js::H) PMT).frz_own
    replace hH2:=hH2.nil_own 61 2
    rw [hTo] at hH2
    replace hH2:=end_to (hH2.perm (H':=own 61 2 e.to.o e.to.l.length e.to.c (flat encEd e.to.l)::all (ds.map toI)::frz w0 (fun w=>Rd w oA (flat encAt va.l)∧K1 w)::cb bM 174 (encMkr oD ds.length cD bJ)::own 179 7 oD ds.length cD (flat encDr (ds.set p (endB e d)))::all (ds.map insI)::mpI bJ js::H) PMT) hd
    rw [←end_ins hd (e:=e)] at hH2
    refine rt0 (.inl rfl) rfl hA ⟨fun w=>Rd w oA (flat encAt va.l)∧K1 w,oD,cD,ds.set p (endB e d),js,?_,fun w h=>?_,?_⟩
    · rw [List.length_set];exact hH2.perm PMT
    · obtain ⟨h4,h5,h6⟩:=hK w h.2
      refine ⟨h4,rd_set h6 (end_rd (h6 d (List.mem_of_getElem? hd)) (by rw [he];exact ⟨h.1,hlA⟩) (by rw [he];exact rdv_nilV _ _) (by rw [he];exact fun i hi=>absurd hi (List.not_mem_nil)))⟩
    · rw [heq,fillF,if_neg (by decide),if_neg (by decide),if_neg (by decide),if_neg (by decide),set_st hd (f:=endB ⟨3,lv va.l,lv [],lv []⟩) (by rw [he];exact end_st)]<;>rfl
    --))
  rcases hk8 with rfl|hk8
  · --jump
    --((
    have hra:∀w,K1 w→RdV w encAt va:=fun w h=>by
      have:=hrd w h
      cases this with
      |mk h1 h2 h3 h4 h5 h6 h7=>exact h5.1
    repeat' (first|(first|(refine GT ?_ ?_<;>intro hg<;>clear hA a<;>intro a hA<;>(first|exact FA|replace hg:=dTr hg|replace hg:=dFa hg|skip))|(refine XT ?_;apply XE;(first|(apply ex_load;rfl;exact cl_fz MEMT (fun w h=>hat w h _ _ rfl)));clear hA a;intro a hA)|(refine QT ?_;clear hA a;intro a hA)|(first|(refine BT ?_;clear hA hH;rintro _ w ⟨bN,rfl,hH⟩ a hA)|(refine LT ?_;clear hA hH;rintro _ w ⟨oN,rfl,hH⟩ a hA)|(refine AT ?_;clear hA;rintro _ w ⟨oN,cN,rfl,hH2⟩ a hA;clear hH;have hH:=(hH2 _ (by (repeat constructor))).tail;clear hH2)|(refine S0T ?_;clear hH;rintro _ w hH)))|refine CT ?_|(refine DT ?_ ?_<;>intro hc<;>try (exfalso;omega))|(first|(refine DSK ?_;clear hA a;intro a hA)|(first|(refine DLT ?_;clear hA hH;rintro _ w ⟨oN,rfl,hH⟩;refine ⟨STT,?_⟩;intro a hA)|(refine DAT ?_;clear hA;rintro _ w ⟨oN,cN,rfl,hH2⟩;clear hH;have hH:=(hH2 _ (by (repeat constructor))).tail;clear hH2;refine ⟨STT,?_⟩;intro a hA))))
    replace hH:=hH.perm (H':=frz w0 K1::cb bM 174 (encMkr oD ds.length cD bJ)::mpI bJ js::own 179 7 oD ds.length cD (flat encDr ds)::all (ds.map insI)::all (ds.map toI)::H) PMT
    have hST:HS w0 noM [_,_,_] w:=HS.left (H1:=[_,_,_]) hH
    (refine wp_draw2_HS (H:=[_,_,_]) [(0,1),(1,1),(2,1),(3,1),(4,1),(5,1),(6,1),(7,1),(8,1),(9,1),(10,1),(11,1),(12,1),(13,1),(14,0),(15,1),(16,0),(17,1),(18,1)] [19] mixed (by decide +kernel) (hST) ?_;replace hH:=hH.drew)
    clear hST
    repeat' (first|(first|(refine GT ?_ ?_<;>intro hg<;>clear hA a<;>intro a hA<;>(first|exact FA|replace hg:=dTr hg|replace hg:=dFa hg|skip))|(refine XT ?_;apply XE;(first|(apply ex_load;rfl;exact cl_fz MEMT (fun w h=>hat w h _ _ rfl)));clear hA a;intro a hA)|(refine QT ?_;clear hA a;intro a hA)|(first|(refine BT ?_;clear hA hH;rintro _ w ⟨bN,rfl,hH⟩ a hA)|(refine LT ?_;clear hA hH;rintro _ w ⟨oN,rfl,hH⟩ a hA)|(refine AT ?_;clear hA;rintro _ w ⟨oN,cN,rfl,hH2⟩ a hA;clear hH;have hH:=(hH2 _ (by (repeat constructor))).tail;clear hH2)|(refine S0T ?_;clear hH;rintro _ w hH)))|refine CT ?_|(refine DT ?_ ?_<;>intro hc<;>try (exfalso;omega))|(first|(refine DSK ?_;clear hA a;intro a hA)|(first|(refine DLT ?_;clear hA hH;rintro _ w ⟨oN,rfl,hH⟩;refine ⟨STT,?_⟩;intro a hA)|(refine DAT ?_;clear hA;rintro _ w ⟨oN,cN,rfl,hH2⟩;clear hH;have hH:=(hH2 _ (by (repeat constructor))).tail;clear hH2;refine ⟨STT,?_⟩;intro a hA))))
    (refine dr_op hA rfl rfl rfl (by decide) (op_call rfl rfl rfl (atomsV_spec _ va (hra _ (hH.frz MEMT)) (by omega))) ?_;clear hA;rintro _ w ⟨oA,cA,rfl,hj⟩;replace hH:=hH.join hj;clear hj;refine ⟨HS.left (H1:=[_,_,_]) hH.tail,?_⟩;intro a hA)
    have hlA:=hH.own_le (T:=65) (o:=oA) MEMT
    obtain ⟨jn,hjn⟩:∃jn,jn=(lkI js n).getD 0:=⟨_,rfl⟩
    rw [←hjn] at hA
    repeat' (first|(first|(refine GT ?_ ?_<;>intro hg<;>clear hA a<;>intro a hA<;>(first|exact FA|replace hg:=dTr hg|replace hg:=dFa hg|skip))|(refine XT ?_;apply XE;(first|(apply ex_build_p (cs:=#[.int .i64 jn,.slice oA va.l.length cA]);rfl;exact FLT;rfl));clear hA a;intro a hA)|(refine QT ?_;clear hA a;intro a hA)|(first|(refine BT ?_;clear hA hH;rintro _ w ⟨bN,rfl,hH⟩ a hA)|(refine LT ?_;clear hA hH;rintro _ w ⟨oN,rfl,hH⟩ a hA)|(refine AT ?_;clear hA;rintro _ w ⟨oN,cN,rfl,hH2⟩ a hA;clear hH;have hH:=(hH2 _ (by (repeat constructor))).tail;clear hH2)|(refine S0T ?_;clear hH;rintro _ w hH)))|refine CT ?_|(refine DT ?_ ?_<;>intro hc<;>try (exfalso;omega))|(first|(refine DSK ?_;clear hA a;intro a hA)|(first|(refine DLT ?_;clear hA hH;rintro _ w ⟨oN,rfl,hH⟩;refine ⟨STT,?_⟩;intro a hA)|(refine DAT ?_;clear hA;rintro _ w ⟨oN,cN,rfl,hH2⟩;clear hH;have hH:=(hH2 _ (by (repeat constructor))).tail;clear hH2;refine ⟨STT,?_⟩;intro a hA))))
    (apply dr_op hA rfl rfl rfl (by decide);apply op_sliceLit (xs:=encEd ⟨jn,⟨oA,cA,va.l⟩⟩) (vs:=[.agg (encEd ⟨jn,⟨oA,cA,va.l⟩⟩).toArray]);rfl;rfl;exact (Cats.cn (cs:=encEd ⟨jn,⟨oA,cA,va.l⟩⟩) Cats.nil);rfl;rfl;rfl;exact hH;clear hA hH;rintro _ w ⟨oN,rfl,hH⟩;refine ⟨HS.left (H1:=[_,_,_]) hH.tail.tail,?_⟩;intro a hA)
    repeat' (first|(first|(refine GT ?_ ?_<;>intro hg<;>clear hA a<;>intro a hA<;>(first|exact FA|replace hg:=dTr hg|replace hg:=dFa hg|skip))|(refine XT ?_;apply XE;(first|(apply ex_build_p (cs:=#[.int .i64 4,.slice none 0 0,.slice none 0 0,.slice oN 1 1]);rfl;exact FLT;rfl));clear hA a;intro a hA)|(refine QT ?_;clear hA a;intro a hA)|(first|(refine BT ?_;clear hA hH;rintro _ w ⟨bN,rfl,hH⟩ a hA)|(refine LT ?_;clear hA hH;rintro _ w ⟨oN,rfl,hH⟩ a hA)|(refine AT ?_;clear hA;rintro _ w ⟨oN,cN,rfl,hH2⟩ a hA;clear hH;have hH:=(hH2 _ (by (repeat constructor))).tail;clear hH2)|(refine S0T ?_;clear hH;rintro _ w hH)))|refine CT ?_|(refine DT ?_ ?_<;>intro hc<;>try (exfalso;omega))|(first|(refine DSK ?_;clear hA a;intro a hA)|(first|(refine DLT ?_;clear hA hH;rintro _ w ⟨oN,rfl,hH⟩;refine ⟨STT,?_⟩;intro a hA)|(refine DAT ?_;clear hA;rintro _ w ⟨oN,cN,rfl,hH2⟩;clear hH;have hH:=(hH2 _ (by (repeat constructor))).tail;clear hH2;refine ⟨STT,?_⟩;intro a hA))))
    obtain ⟨e,he⟩:∃e:En,e=⟨4,nilV,nilV,⟨oN,1,[⟨jn,⟨oA,cA,va.l⟩⟩]⟩⟩:=⟨_,rfl⟩
    have hve:[Value.int .i64 4,.slice none 0 0,.slice none 0 0,.slice oN 1 1]=encEn e:=by rw [he];rfl
    have hput:put (flat encDr ds) (p*7+0+2) (encEn e)=flat encDr (ds.set p (endB e d)):=flat_put encDr_len (off:=2) hd end_put (by show 2+4≤7;decide)
    have hdlen:(flat encDr ds).length=ds.length*7:=flat_length encDr_len _
    rw [←hve] at hput
    (apply dr_op03 hA rfl rfl rfl;apply op_store_own (vs:=[.int .i64 4,.slice none 0 0,.slice none 0 0,.slice oN 1 1]) (xs':=flat encDr (ds.set p (endB e d)));rfl;rfl;exact hH;(repeat constructor);(repeat rfl);omega;exact hput;clear hH;rintro _ w hH)
    repeat' (first|(first|(refine GT ?_ ?_<;>intro hg<;>clear hA a<;>intro a hA<;>(first|exact FA|replace hg:=dTr hg|replace hg:=dFa hg|skip))|(refine QT ?_;clear hA a;intro a hA)|(first|(refine BT ?_;clear hA hH;rintro _ w ⟨bN,rfl,hH⟩ a hA)|(refine LT ?_;clear hA hH;rintro _ w ⟨oN,rfl,hH⟩ a hA)|(refine AT ?_;clear hA;rintro _ w ⟨oN,cN,rfl,hH2⟩ a hA;clear hH;have hH:=(hH2 _ (by (repeat constructor))).tail;clear hH2)|(refine S0T ?_;clear hH;rintro _ w hH)))|refine CT ?_|(refine DT ?_ ?_<;>intro hc<;>try (exfalso;omega))|(first|(refine DSK ?_;clear hA a;intro a hA)|(first|(refine DLT ?_;clear hA hH;rintro _ w ⟨oN,rfl,hH⟩;refine ⟨STT,?_⟩;intro a hA)|(refine DAT ?_;clear hA;rintro _ w ⟨oN,cN,rfl,hH2⟩;clear hH;have hH:=(hH2 _ (by (repeat constructor))).tail;clear hH2;refine ⟨STT,?_⟩;intro a hA))))
    have hTo:own 61 2 oN 1 1 (encEd ⟨jn,⟨oA,cA,va.l⟩⟩)=own 61 2 e.to.o e.to.l.length e.to.c (flat encEd e.to.l):=by rw [he,flatE_one];rfl
    have hH2:=(hH.perm (H':=own 65 2 oA va.l.length cA (flat encAt va.l)::frz w0 K1::own 61 2 oN 1 1 (encEd ⟨jn,⟨oA,cA,va.l⟩⟩)::cb bM 174 (encMkr oD ds.length cD bJ)::own 179 7 oD ds.length cD (flat encDr (ds.set p (endB e d)))::all (ds.map insI)::all (ds.map toI)::mpI bJ js::H) PMT).frz_own
    rw [hTo] at hH2
    replace hH2:=end_to (hH2.perm (H':=own 61 2 e.to.o e.to.l.length e.to.c (flat encEd e.to.l)::all (ds.map toI)::frz w0 (fun w=>Rd w oA (flat encAt va.l)∧K1 w)::cb bM 174 (encMkr oD ds.length cD bJ)::own 179 7 oD ds.length cD (flat encDr (ds.set p (endB e d)))::all (ds.map insI)::mpI bJ js::H) PMT) hd
    rw [←end_ins hd (e:=e)] at hH2
    refine rt0 (.inl rfl) rfl hA ⟨fun w=>Rd w oA (flat encAt va.l)∧K1 w,oD,cD,ds.set p (endB e d),js,?_,fun w h=>?_,?_⟩
    · rw [List.length_set];exact hH2.perm PMT
    · obtain ⟨h4,h5,h6⟩:=hK w h.2
      refine ⟨h4,rd_set h6 (end_rd (h6 d (List.mem_of_getElem? hd)) (by rw [he];exact rdv_nilV _ _) (by rw [he];exact rdv_nilV _ _) (by rw [he];exact fun i hi=>(by obtain rfl:=List.mem_singleton.1 hi;exact ⟨h.1,hlA⟩)))⟩
    · rw [heq,fillF,if_neg (by decide),if_neg (by decide),if_pos rfl,set_st hd (f:=endB ⟨4,lv [],lv [],lv [⟨(lkI js n).getD 0,lv va.l⟩]⟩) (by rw [he,hjn];exact end_st)]<;>rfl
    --))
  · --choice
    have hrV:∀w,K1 w→RdV w encAt va∧RdV w Fw.encI ns∧ns.l.length≤17592186044416:=fun w h=>by
      have:=hrd w h
      cases this with
      |mk h1 h2 h3 h4 h5 h6 h7=>exact ⟨h5.1,h2⟩
    obtain ⟨hspK,hkl⟩:=kid_sp (hrd w (hH.frz MEMT))
    repeat' (first|(first|(refine GT ?_ ?_<;>intro hg<;>clear hA a<;>intro a hA<;>(first|exact FA|replace hg:=dTr hg|replace hg:=dFa hg|skip))|(refine XT ?_;apply XE;(first|(apply ex_load;rfl;exact cl_fz MEMT (fun w h=>hat w h _ _ rfl)));clear hA a;intro a hA)|(refine QT ?_;clear hA a;intro a hA)|(first|(refine BT ?_;clear hA hH;rintro _ w ⟨bN,rfl,hH⟩ a hA)|(refine LT ?_;clear hA hH;rintro _ w ⟨oN,rfl,hH⟩ a hA)|(refine AT ?_;clear hA;rintro _ w ⟨oN,cN,rfl,hH2⟩ a hA;clear hH;have hH:=(hH2 _ (by (repeat constructor))).tail;clear hH2)|(refine S0T ?_;clear hH;rintro _ w hH)))|refine CT ?_|(refine DT ?_ ?_<;>intro hc<;>try (exfalso;omega))|(first|(refine DSK ?_;clear hA a;intro a hA)|(first|(refine DLT ?_;clear hA hH;rintro _ w ⟨oN,rfl,hH⟩;refine ⟨STT,?_⟩;intro a hA)|(refine DAT ?_;clear hA;rintro _ w ⟨oN,cN,rfl,hH2⟩;clear hH;have hH:=(hH2 _ (by (repeat constructor))).tail;clear hH2;refine ⟨STT,?_⟩;intro a hA))))
    have hST:HS w0 noM [frz w0 K1] w:=hH.pick MEMT
    refine wp_drawT (qs [0,1,2,3,5,6,7,8] (.two 4 11 (.two 9 11 (.q 10 (.one 11 (.one 12 .nil))) (.one 9 (.q 10 (.one 12 .nil)))) (.one 4 (.one 9 (.q 10 (.one 12 .nil)))))) (fun a w=>∃b9 oA oS cA cS,HS w0 noM (cb b9 51 [.int .i64 5,.slice oA va.l.length cA,.slice oS ns.l.length cS,.slice none 0 0]::own 2 1 oS ns.l.length cS (flat Fw.encI ns.l)::own 65 2 oA va.l.length cA (flat encAt va.l)::cb bM 174 (encMkr oD ds.length cD bJ)::own 179 7 oD ds.length cD (flat encDr ds)::all (ds.map insI)::all (ds.map toI)::frz w0 K1::mpI bJ js::H) w∧Sl 202 [(9,.pointer (some (bat b9 0))),(0,.pointer (some (bat bM 0))),(1,.int .i64 p),(2,.pointer (some (sat ob jb)))] a) mixed (by decide +kernel) hST ?_ ?_
    · clear hST
      replace hH:=hH.drew
      (repeat (apply dt_ex hA rfl rfl rfl (by decide);(first|exact EXT|exact EXT2|(apply ex_load;rfl;exact cl_fz MEMT (fun w h=>hat w h _ _ rfl)));clear hA a;intro a hA))
      apply dt_two
      rotate_left
      · (apply dt_op hA rfl rfl rfl (by decide);apply op_alloc;exact hH;clear hA hH;rintro _ w ⟨bN,rfl,hH⟩;refine ⟨hH.pick (by exact MEMT),?_⟩;intro a hA)
        (refine dt_op hA rfl rfl rfl (by decide) (op_call rfl rfl rfl (atomsV_spec _ va (hrV _ (hH.frz MEMT)).1 (by omega))) ?_;clear hA;rintro _ w ⟨oA,cA,rfl,hj⟩;replace hH:=hH.join hj;clear hj;refine ⟨hH.pick (by exact MEMT),?_⟩;intro a hA)
        (refine dt_op hA rfl rfl rfl (by decide) (op_call rfl rfl rfl (cloneL_spec _ ns (hrV _ (hH.frz MEMT)).2.1 (hrV _ (hH.frz MEMT)).2.2)) ?_;clear hA;rintro _ w ⟨oS,cS,rfl,hj⟩;replace hH:=hH.join hj;clear hj;refine ⟨hH.pick (by exact MEMT),?_⟩;intro a hA)
        (repeat (apply dt_ex hA rfl rfl rfl (by decide);(first|exact EXT|exact EXT2|(apply ex_build_p (cs:=([.int .i64 5,.slice oA va.l.length cA,.slice oS ns.l.length cS,.slice none 0 0]).toArray);rfl;exact FLT;rfl));clear hA a;intro a hA))
        (apply dt_op0 hA rfl rfl rfl;apply op_store_agg (vs:=[.int .i64 5,.slice oA va.l.length cA,.slice oS ns.l.length cS,.slice none 0 0]);rfl;rfl;exact hH;(repeat constructor);(repeat rfl);clear hH;rintro _ w hH;refine ⟨hH.pick (by exact MEMT),?_⟩;apply dt_nil)
        exact ⟨_,oA,oS,cA,cS,hH.perm PMT,(hA.sub SBT)⟩
      (refine dt_op hA rfl rfl rfl (by decide) (op_call rfl rfl rfl (atomsV_spec _ va (hrV _ (hH.frz MEMT)).1 (by omega))) ?_;clear hA;rintro _ w ⟨oA,cA,rfl,hj⟩;replace hH:=hH.join hj;clear hj;refine ⟨hH.pick (by exact MEMT),?_⟩;intro a hA)
      apply dt_two
      rotate_left
      · (apply dt_op hA rfl rfl rfl (by decide);apply op_alloc;exact hH;clear hA hH;rintro _ w ⟨bN,rfl,hH⟩;refine ⟨hH.pick (by exact MEMT),?_⟩;intro a hA)
        (refine dt_op hA rfl rfl rfl (by decide) (op_call rfl rfl rfl (cloneL_spec _ ns (hrV _ (hH.frz MEMT)).2.1 (hrV _ (hH.frz MEMT)).2.2)) ?_;clear hA;rintro _ w ⟨oS,cS,rfl,hj⟩;replace hH:=hH.join hj;clear hj;refine ⟨hH.pick (by exact MEMT),?_⟩;intro a hA)
        (repeat (apply dt_ex hA rfl rfl rfl (by decide);(first|exact EXT|exact EXT2|(apply ex_build_p (cs:=([.int .i64 5,.slice oA va.l.length cA,.slice oS ns.l.length cS,.slice none 0 0]).toArray);rfl;exact FLT;rfl));clear hA a;intro a hA))
        (apply dt_op0 hA rfl rfl rfl;apply op_store_agg (vs:=[.int .i64 5,.slice oA va.l.length cA,.slice oS ns.l.length cS,.slice none 0 0]);rfl;rfl;exact hH;(repeat constructor);(repeat rfl);clear hH;rintro _ w hH;refine ⟨hH.pick (by exact MEMT),?_⟩;apply dt_nil)
        exact ⟨_,oA,oS,cA,cS,hH.perm PMT,(hA.sub SBT)⟩
      (refine dt_op hA rfl rfl rfl (by decide) (op_call rfl rfl rfl (cloneL_spec _ ns (hrV _ (hH.frz MEMT)).2.1 (hrV _ (hH.frz MEMT)).2.2)) ?_;clear hA;rintro _ w ⟨oS,cS,rfl,hj⟩;replace hH:=hH.join hj;clear hj;refine ⟨hH.pick (by exact MEMT),?_⟩;intro a hA)
      (repeat (apply dt_ex hA rfl rfl rfl (by decide);(first|exact EXT|exact EXT2|(apply ex_build_p (cs:=([.int .i64 5,.slice oA va.l.length cA,.slice oS ns.l.length cS,.slice none 0 0]).toArray);rfl;exact FLT;rfl));clear hA a;intro a hA))
      (apply dt_op hA rfl rfl rfl (by decide);apply op_alloc;exact hH;clear hA hH;rintro _ w ⟨bN,rfl,hH⟩;refine ⟨hH.pick (by exact MEMT),?_⟩;intro a hA)
      (apply dt_op0 hA rfl rfl rfl;apply op_store_agg (vs:=[.int .i64 5,.slice oA va.l.length cA,.slice oS ns.l.length cS,.slice none 0 0]);rfl;rfl;exact hH;(repeat constructor);(repeat rfl);clear hH;rintro _ w hH;refine ⟨hH.pick (by exact MEMT),?_⟩;apply dt_nil)
      exact ⟨_,oA,oS,cA,cS,hH.perm PMT,(hA.sub SBT)⟩
    clear hA hH hST
    rintro a w ⟨b9,oA,oS,cA,cS,hH,hA⟩
    have hlS:=hH.own_le (T:=2) (o:=oS) MEMT
    have hlA:=hH.own_le (T:=65) (o:=oA) MEMT
    replace hH:=(hH.perm (H':=own 2 1 oS ns.l.length cS (flat Fw.encI ns.l)::frz w0 K1::own 65 2 oA va.l.length cA (flat encAt va.l)::cb b9 51 [.int .i64 5,.slice oA va.l.length cA,.slice oS ns.l.length cS,.slice none 0 0]::cb bM 174 (encMkr oD ds.length cD bJ)::own 179 7 oD ds.length cD (flat encDr ds)::all (ds.map insI)::all (ds.map toI)::mpI bJ js::H) PMT).frz_own
    replace hH:=(hH.perm (H':=own 65 2 oA va.l.length cA (flat encAt va.l)::frz w0 (fun w=>Rd w oS (flat Fw.encI ns.l)∧K1 w)::cb b9 51 [.int .i64 5,.slice oA va.l.length cA,.slice oS ns.l.length cS,.slice none 0 0]::cb bM 174 (encMkr oD ds.length cD bJ)::own 179 7 oD ds.length cD (flat encDr ds)::all (ds.map insI)::all (ds.map toI)::mpI bJ js::H) PMT).frz_own
    obtain ⟨K2,hK2⟩:∃K2:World→Prop,K2=(fun w=>Rd w oA (flat encAt va.l)∧Rd w oS (flat Fw.encI ns.l)∧K1 w):=⟨_,rfl⟩
    rw [←hK2] at hH
    have hat2:∀w,K2 w→∀i u,(encN (.mk k x xs n ns r va ko kc kids))[i]?=some u→w.cell? (sat ob (jb+i))=some u:=fun w h=>hat w (by rw [hK2] at h;exact h.2.2)
    repeat' (first|(first|(refine GT ?_ ?_<;>intro hg<;>clear hA a<;>intro a hA<;>(first|exact FA|replace hg:=dTr hg|replace hg:=dFa hg|skip))|(refine QT ?_;clear hA a;intro a hA)|(first|(refine BT ?_;clear hA hH;rintro _ w ⟨bN,rfl,hH⟩ a hA)|(refine LT ?_;clear hA hH;rintro _ w ⟨oN,rfl,hH⟩ a hA)|(refine AT ?_;clear hA;rintro _ w ⟨oN,cN,rfl,hH2⟩ a hA;clear hH;have hH:=(hH2 _ (by (repeat constructor))).tail;clear hH2)|(refine S0T ?_;clear hH;rintro _ w hH)))|refine CT ?_|(refine DT ?_ ?_<;>intro hc<;>try (exfalso;omega))|(first|(refine DSK ?_;clear hA a;intro a hA)|(first|(refine DLT ?_;clear hA hH;rintro _ w ⟨oN,rfl,hH⟩;refine ⟨STT,?_⟩;intro a hA)|(refine DAT ?_;clear hA;rintro _ w ⟨oN,cN,rfl,hH2⟩;clear hH;have hH:=(hH2 _ (by (repeat constructor))).tail;clear hH2;refine ⟨STT,?_⟩;intro a hA))))
    refine st_join (fun a w=>HS w0 noM (cb b9 51 [.int .i64 k,.slice oA va.l.length cA,.slice oS ns.l.length cS,.slice none 0 0]::cb bM 174 (encMkr oD ds.length cD bJ)::own 179 7 oD ds.length cD (flat encDr ds)::all (ds.map insI)::all (ds.map toI)::frz w0 K2::mpI bJ js::H) w∧Sl 202 [(9,.pointer (some (bat b9 0))),(0,.pointer (some (bat bM 0))),(1,.int .i64 p),(2,.pointer (some (sat ob jb)))] a) ?_ ?_
    · repeat' (first|(first|(refine GT ?_ ?_<;>intro hg<;>clear hA a<;>intro a hA<;>(first|exact FA|replace hg:=dTr hg|replace hg:=dFa hg|skip))|(refine XT ?_;apply XE;(first|(apply ex_load;rfl;exact cl_fz MEMT (fun w h=>hat2 w h _ _ rfl)));clear hA a;intro a hA)|(refine QT ?_;clear hA a;intro a hA)|(first|(refine BT ?_;clear hA hH;rintro _ w ⟨bN,rfl,hH⟩ a hA)|(refine LT ?_;clear hA hH;rintro _ w ⟨oN,rfl,hH⟩ a hA)|(refine AT ?_;clear hA;rintro _ w ⟨oN,cN,rfl,hH2⟩ a hA;clear hH;have hH:=(hH2 _ (by (repeat constructor))).tail;clear hH2)|(refine S0T ?_;clear hH;rintro _ w hH)|(apply st_op0 hA rfl rfl;apply op_store_fld (cs':=[.int .i64 6,.slice oA va.l.length cA,.slice oS ns.l.length cS,.slice none 0 0]);rfl;rfl;rfl;exact hH;(repeat constructor);clear hH;rintro _ w hH)))|refine CT ?_|(refine DT ?_ ?_<;>intro hc<;>try (exfalso;omega))|(first|(refine DSK ?_;clear hA a;intro a hA)|(first|(refine DLT ?_;clear hA hH;rintro _ w ⟨oN,rfl,hH⟩;refine ⟨STT,?_⟩;intro a hA)|(refine DAT ?_;clear hA;rintro _ w ⟨oN,cN,rfl,hH2⟩;clear hH;have hH:=(hH2 _ (by (repeat constructor))).tail;clear hH2;refine ⟨STT,?_⟩;intro a hA))))
      · obtain rfl:k=6:=by omega
        exact ⟨hH.perm PMT,(hA.sub SBT)⟩
      · obtain rfl:k=5:=by omega
        exact ⟨hH.perm PMT,(hA.sub SBT)⟩
    clear hA hH
    rintro a w ⟨hH,hA⟩
    repeat' (first|(first|(refine GT ?_ ?_<;>intro hg<;>clear hA a<;>intro a hA<;>(first|exact FA|replace hg:=dTr hg|replace hg:=dFa hg|skip))|(refine XT ?_;apply XE;(first|(apply ex_load;rfl;exact cl_fz MEMT (fun w h=>hat2 w h _ _ rfl)));clear hA a;intro a hA)|(refine QT ?_;clear hA a;intro a hA)|(first|(refine BT ?_;clear hA hH;rintro _ w ⟨bN,rfl,hH⟩ a hA)|(refine LT ?_;clear hA hH;rintro _ w ⟨oN,rfl,hH⟩ a hA)|(refine AT ?_;clear hA;rintro _ w ⟨oN,cN,rfl,hH2⟩ a hA;clear hH;have hH:=(hH2 _ (by (repeat constructor))).tail;clear hH2)|(refine S0T ?_;clear hH;rintro _ w hH)))|refine CT ?_|(refine DT ?_ ?_<;>intro hc<;>try (exfalso;omega))|(first|(refine DSK ?_;clear hA a;intro a hA)|(first|(refine DLT ?_;clear hA hH;rintro _ w ⟨oN,rfl,hH⟩;refine ⟨STT,?_⟩;intro a hA)|(refine DAT ?_;clear hA;rintro _ w ⟨oN,cN,rfl,hH2⟩;clear hH;have hH:=(hH2 _ (by (repeat constructor))).tail;clear hH2;refine ⟨STT,?_⟩;intro a hA))))
    have hlim0:Lim ds (szNs kids+1):=hl.le (by rw [szN];omega)
    have hkl2:kids.length≤2000000:=by
      have h1:=szNs_len kids
      have h2:=hlim0.1
      omega
    have hzk:∀c∈kids,szN c≤N:=fun c hc=>by
      have:=szNs_mem hc
      rw [szN] at hz
      omega
    refine wp_lpk (S:=KSt) (fun t a w=>(t.i≤kids.length∧(∀w,t.K w→K2 w∧∀d∈t.ds,RdDr w d)∧p<t.ds.length∧Lim t.ds (szNs (kids.drop t.i)+1)∧t.es.length=t.i∧(∀x∈t.es,x.a=nilV)∧fillK kids (ds.map stB,js) []=fillK (kids.drop t.i) (t.ds.map stB,t.js) (t.es.map stE))∧HS w0 noM (cb b9 51 [.int .i64 k,.slice oA va.l.length cA,.slice oS ns.l.length cS,.slice t.oT t.i t.cT]::own 61 2 t.oT t.i t.cT (flat encEd t.es)::(cb bM 174 (encMkr t.oD (t.ds).length t.cD bJ)::own 179 7 t.oD (t.ds).length t.cD (flat encDr (t.ds))::all ((t.ds).map insI)::all ((t.ds).map toI)::frz w0 t.K::mpI bJ t.js::H)) w∧Sl 202 [(46,.int .i64 t.i),(45,.int .i64 kids.length),(9,.pointer (some (bat b9 0))),(0,.pointer (some (bat bM 0))),(1,.int .i64 p),(2,.pointer (some (sat ob jb)))] a) (fun t=>kids.length - t.i)
      (fun a w=>∃t:KSt,(t.i=kids.length∧(∀w,t.K w→K2 w∧∀d∈t.ds,RdDr w d)∧p<t.ds.length∧Lim t.ds (szNs (kids.drop t.i)+1)∧t.es.length=t.i∧(∀x∈t.es,x.a=nilV)∧fillK kids (ds.map stB,js) []=fillK (kids.drop t.i) (t.ds.map stB,t.js) (t.es.map stE))∧HS w0 noM (cb b9 51 [.int .i64 k,.slice oA va.l.length cA,.slice oS ns.l.length cS,.slice t.oT t.i t.cT]::own 61 2 t.oT t.i t.cT (flat encEd t.es)::(cb bM 174 (encMkr t.oD (t.ds).length t.cD bJ)::own 179 7 t.oD (t.ds).length t.cD (flat encDr (t.ds))::all ((t.ds).map insI)::all ((t.ds).map toI)::frz w0 t.K::mpI bJ t.js::H)) w∧Sl 202 [(9,.pointer (some (bat b9 0))),(0,.pointer (some (bat bM 0))),(1,.int .i64 p),(2,.pointer (some (sat ob jb)))] a)
      ⟨0,K2,oD,cD,ds,js,none,0,[]⟩ ⟨⟨Nat.zero_le _,fun w h=>⟨h,by rw [hK2] at h;exact (hK w h.2.2).2.2⟩,hp,hlim0,rfl,fun x hx=>absurd hx (List.not_mem_nil),rfl⟩,(hH.nil_flat encEd 61 2).perm PMT,(hA.sub SBT)⟩ ?_ ?_
    · clear hA hH
      rintro ⟨i,K3,oD3,cD3,ds3,js3,oT,cT,es⟩ a w ⟨⟨hi,hK3,hp3,hlim,hesl,hesn,heq3⟩,hH,hA⟩
      dsimp only at hi hK3 hp3 hlim hesl hesn heq3 hH hA ⊢
      by_cases hlt:i<kids.length
      rotate_left
      · obtain rfl:i=kids.length:=by omega
        repeat' (first|(first|(refine GT ?_ ?_<;>intro hg<;>clear hA a<;>intro a hA<;>(first|exact FA|replace hg:=dTr hg|replace hg:=dFa hg|skip))|(refine QT ?_;clear hA a;intro a hA)|(first|(refine BT ?_;clear hA hH;rintro _ w ⟨bN,rfl,hH⟩ a hA)|(refine LT ?_;clear hA hH;rintro _ w ⟨oN,rfl,hH⟩ a hA)|(refine AT ?_;clear hA;rintro _ w ⟨oN,cN,rfl,hH2⟩ a hA;clear hH;have hH:=(hH2 _ (by (repeat constructor))).tail;clear hH2)|(refine S0T ?_;clear hH;rintro _ w hH)))|refine CT ?_|(refine DT ?_ ?_<;>intro hc<;>try (exfalso;omega))|(first|(refine DSK ?_;clear hA a;intro a hA)|(first|(refine DLT ?_;clear hA hH;rintro _ w ⟨oN,rfl,hH⟩;refine ⟨STT,?_⟩;intro a hA)|(refine DAT ?_;clear hA;rintro _ w ⟨oN,cN,rfl,hH2⟩;clear hH;have hH:=(hH2 _ (by (repeat constructor))).tail;clear hH2;refine ⟨STT,?_⟩;intro a hA))))
        exact ⟨⟨kids.length,K3,oD3,cD3,ds3,js3,oT,cT,es⟩,⟨rfl,hK3,hp3,hlim,hesl,hesn,heq3⟩,hH,(hA.sub SBT)⟩
      obtain ⟨c,hkc⟩:∃c,kids[i]?=some c:=⟨_,List.getElem?_eq_getElem hlt⟩
      have hcm:=List.mem_of_getElem? hkc
      have hdrop:kids.drop i=c::kids.drop (i+1):=by
        obtain ⟨hi2,rfl⟩:=List.getElem?_eq_some_iff.1 hkc
        exact List.drop_eq_getElem_cons hi2
      rw [hdrop,szNs] at hlim
      rw [hdrop,fillK] at heq3
      have hl1:=hlim.1
      replace hH:=hH.perm (H':=(cb bM 174 (encMkr oD3 (ds3).length cD3 bJ)::own 179 7 oD3 (ds3).length cD3 (flat encDr (ds3))::all ((ds3).map insI)::all ((ds3).map toI)::frz w0 K3::mpI bJ js3::cb b9 51 [.int .i64 k,.slice oA va.l.length cA,.slice oS ns.l.length cS,.slice oT i cT]::own 61 2 oT i cT (flat encEd es)::H)) PMT
      repeat' (first|(first|(refine GT ?_ ?_<;>intro hg<;>clear hA a<;>intro a hA<;>(first|exact FA|replace hg:=dTr hg|replace hg:=dFa hg|skip))|(refine QT ?_;clear hA a;intro a hA)|(first|(refine BT ?_;clear hA hH;rintro _ w ⟨bN,rfl,hH⟩ a hA)|(refine LT ?_;clear hA hH;rintro _ w ⟨oN,rfl,hH⟩ a hA)|(refine AT ?_;clear hA;rintro _ w ⟨oN,cN,rfl,hH2⟩ a hA;clear hH;have hH:=(hH2 _ (by (repeat constructor))).tail;clear hH2)|(refine S0T ?_;clear hH;rintro _ w hH)))|refine CT ?_|(refine DT ?_ ?_<;>intro hc<;>try (exfalso;omega))|(first|(refine DSK ?_;clear hA a;intro a hA)|(first|(refine DLT ?_;clear hA hH;rintro _ w ⟨oN,rfl,hH⟩;refine ⟨STT,?_⟩;intro a hA)|(refine DAT ?_;clear hA;rintro _ w ⟨oN,cN,rfl,hH2⟩;clear hH;have hH:=(hH2 _ (by (repeat constructor))).tail;clear hH2;refine ⟨STT,?_⟩;intro a hA))))
      (refine st_op hA rfl rfl (by decide) (op_call rfl rfl rfl (fresh_spec w0 w (cb b9 51 [.int .i64 k,.slice oA va.l.length cA,.slice oS ns.l.length cS,.slice oT i cT]::own 61 2 oT i cT (flat encEd es)::H) bM bJ K3 oD3 cD3 ds3 js3 nilV (fun w h=>rdv_nilV _ _) (Nat.zero_le _) (by omega) hH)) ?_;clear hA hH;rintro _ w ⟨oE,cE,K4,v',rfl,hv',hH,hK4⟩ a hA)
      repeat' (first|(first|(refine GT ?_ ?_<;>intro hg<;>clear hA a<;>intro a hA<;>(first|exact FA|replace hg:=dTr hg|replace hg:=dFa hg|skip))|(refine XT ?_;apply XE;(first|(apply ex_build_p (cs:=#[.int .i64 ds3.length,.slice none 0 0]);rfl;exact FLT;rfl));clear hA a;intro a hA)|(refine QT ?_;clear hA a;intro a hA)|(first|(refine BT ?_;clear hA hH;rintro _ w ⟨bN,rfl,hH⟩ a hA)|(refine LT ?_;clear hA hH;rintro _ w ⟨oN,rfl,hH⟩ a hA)|(refine AT ?_;clear hA;rintro _ w ⟨oN,cN,rfl,hH2⟩ a hA;clear hH;have hH:=(hH2 _ (by (repeat constructor))).tail;clear hH2)|(refine S0T ?_;clear hH;rintro _ w hH)))|refine CT ?_|(refine DT ?_ ?_<;>intro hc<;>try (exfalso;omega))|(first|(refine DSK ?_;clear hA a;intro a hA)|(first|(refine DLT ?_;clear hA hH;rintro _ w ⟨oN,rfl,hH⟩;refine ⟨STT,?_⟩;intro a hA)|(refine DAT ?_;clear hA;rintro _ w ⟨oN,cN,rfl,hH2⟩;clear hH;have hH:=(hH2 _ (by (repeat constructor))).tail;clear hH2;refine ⟨STT,?_⟩;intro a hA))))
      have hen:[Value.int .i64 ds3.length,.slice none 0 0]=encEd ⟨ds3.length,nilV⟩:=rfl
      rw [hen,←flat_snoc] at hH
      have hat4:=fun w (h:K4 w)=>hat2 w (hK3 w (hK4 w h).1).1
      repeat' (first|(first|(refine GT ?_ ?_<;>intro hg<;>clear hA a<;>intro a hA<;>(first|exact FA|replace hg:=dTr hg|replace hg:=dFa hg|skip))|(refine XT ?_;apply XE;(first|(apply ex_load;rfl;exact cl_fz MEMT (fun w h=>hat4 w h _ _ rfl))|(apply ex_indexAddr_nat;rfl;rfl;omega;exact hspK));clear hA a;intro a hA)|(refine QT ?_;clear hA a;intro a hA)|(first|(refine BT ?_;clear hA hH;rintro _ w ⟨bN,rfl,hH⟩ a hA)|(refine LT ?_;clear hA hH;rintro _ w ⟨oN,rfl,hH⟩ a hA)|(refine AT ?_;clear hA;rintro _ w ⟨oN,cN,rfl,hH2⟩ a hA;clear hH;have hH:=(hH2 _ (by (repeat constructor))).tail;clear hH2)|(refine S0T ?_;clear hH;rintro _ w hH)|(apply st_op0 hA rfl rfl;apply op_store_fld (cs':=[.int .i64 k,.slice oA va.l.length cA,.slice oS ns.l.length cS,.slice oN (i+1) cN]);rfl;rfl;rfl;exact hH;(repeat constructor);clear hH;rintro _ w hH)))|refine CT ?_|(refine DT ?_ ?_<;>intro hc<;>try (exfalso;omega))|(first|(refine DSK ?_;clear hA a;intro a hA)|(first|(refine DLT ?_;clear hA hH;rintro _ w ⟨oN,rfl,hH⟩;refine ⟨STT,?_⟩;intro a hA)|(refine DAT ?_;clear hA;rintro _ w ⟨oN,cN,rfl,hH2⟩;clear hH;have hH:=(hH2 _ (by (repeat constructor))).tail;clear hH2;refine ⟨STT,?_⟩;intro a hA))))
      have hst1:(ds3++[nbl v']).map stB=ds3.map stB++[newB []]:=by
        have e:newB v'.l=newB []:=by rw [hv'];rfl
        rw [List.map_append,←e];rfl
      (refine st_op hA rfl rfl (by decide) (op_call rfl rfl rfl (ihN c (hzk c hcm) (shns_mem hks c hcm) (cb b9 51 [.int .i64 k,.slice oA va.l.length cA,.slice oS ns.l.length cS,.slice oN (i+1) cN]::own 61 2 oN (i+1) cN (flat encEd (es++[⟨ds3.length,nilV⟩]))::H) w ds3.length K4 oE cE (ds3++[nbl v']) js3 ko (i*11) (fun w h=>?_) (by rw [List.length_append,List.length_singleton];omega) ?_ hH)) ?_)
      · obtain ⟨h1,h2⟩:=hK4 w h
        obtain ⟨h3,h4⟩:=hK3 w h1
        refine ⟨kid_at (hrd w (by rw [hK2] at h3;exact h3.2.2)) hkc,fun d hd=>?_⟩
        rcases List.mem_append.1 hd with hd|hd
        · exact h4 d hd
        · rw [List.mem_singleton] at hd;subst hd;exact RdDr.nbl h2
      · rw [←lim_st,hst1]
        exact ((lim_st.2 hlim).le (n:=szN c+1) (by omega)).new _
      clear hA hH
      rintro _ w ⟨K5,oD5,cD5,ds5,js5,hH,hK5,heq5⟩ a hA
      repeat' (first|(first|(refine GT ?_ ?_<;>intro hg<;>clear hA a<;>intro a hA<;>(first|exact FA|replace hg:=dTr hg|replace hg:=dFa hg|skip))|(refine QT ?_;clear hA a;intro a hA)|(first|(refine BT ?_;clear hA hH;rintro _ w ⟨bN,rfl,hH⟩ a hA)|(refine LT ?_;clear hA hH;rintro _ w ⟨oN,rfl,hH⟩ a hA)|(refine AT ?_;clear hA;rintro _ w ⟨oN,cN,rfl,hH2⟩ a hA;clear hH;have hH:=(hH2 _ (by (repeat constructor))).tail;clear hH2)|(refine S0T ?_;clear hH;rintro _ w hH)))|refine CT ?_|(refine DT ?_ ?_<;>intro hc<;>try (exfalso;omega))|(first|(refine DSK ?_;clear hA a;intro a hA)|(first|(refine DLT ?_;clear hA hH;rintro _ w ⟨oN,rfl,hH⟩;refine ⟨STT,?_⟩;intro a hA)|(refine DAT ?_;clear hA;rintro _ w ⟨oN,cN,rfl,hH2⟩;clear hH;have hH:=(hH2 _ (by (repeat constructor))).tail;clear hH2;refine ⟨STT,?_⟩;intro a hA))))
      rw [hst1] at heq5
      have hlf:=lim_fill c (shns_mem hks c hcm) ds3.length (ds3.map stB++[newB []],js3) (szNs (kids.drop (i+1))+1) (((lim_st.2 hlim).le (n:=szN c - 1+(szNs (kids.drop (i+1))+1)+1) (by have:=szN_pos c;omega)).new _)
      rw [←heq5] at hlf
      dsimp only at hlf
      rw [List.length_append,List.length_map,List.length_singleton,List.length_map] at hlf
      refine ⟨⟨i+1,K5,oD5,cD5,ds5,js5,oN,cN,es++[⟨ds3.length,nilV⟩]⟩,⟨⟨hlt,fun w h=>?_,?_,lim_st.1 hlf.1,?_,fun x hx=>?_,?_⟩,hH.perm PMT,(hA.sub SBT)⟩,by dsimp only;omega⟩
      · obtain ⟨h1,h2⟩:=hK5 w h
        exact ⟨(hK3 w (hK4 w h1).1).1,h2⟩
      · dsimp only;omega
      · dsimp only
        rw [List.length_append,List.length_singleton,hesl]
      · rcases List.mem_append.1 hx with hx|hx
        · exact hesn x hx
        · rw [List.mem_singleton] at hx;subst hx;rfl
      · dsimp only
        rw [heq3,heq5,List.map_append,List.length_map]
        rfl
    clear hA hH
    rintro a w ⟨⟨i,K3,oD3,cD3,ds3,js3,oT,cT,es⟩,⟨hti,hK3,hp3,hlim,hesl,hesn,heq3⟩,hH,hA⟩
    dsimp only at hti hK3 hp3 hlim hesl hesn heq3 hH hA
    subst hti
    rw [List.drop_length,fillK] at heq3
    have hspD3:=hH.own_sp (T:=179) (o:=oD3) MEMT
    repeat' (first|(first|(refine GT ?_ ?_<;>intro hg<;>clear hA a<;>intro a hA<;>(first|exact FA|replace hg:=dTr hg|replace hg:=dFa hg|skip))|(refine QT ?_;clear hA a;intro a hA)|(first|(refine BT ?_;clear hA hH;rintro _ w ⟨bN,rfl,hH⟩ a hA)|(refine LT ?_;clear hA hH;rintro _ w ⟨oN,rfl,hH⟩ a hA)|(refine AT ?_;clear hA;rintro _ w ⟨oN,cN,rfl,hH2⟩ a hA;clear hH;have hH:=(hH2 _ (by (repeat constructor))).tail;clear hH2)|(refine S0T ?_;clear hH;rintro _ w hH)))|refine CT ?_|(refine DT ?_ ?_<;>intro hc<;>try (exfalso;omega))|(first|(refine DSK ?_;clear hA a;intro a hA)|(first|(refine DLT ?_;clear hA hH;rintro _ w ⟨oN,rfl,hH⟩;refine ⟨STT,?_⟩;intro a hA)|(refine DAT ?_;clear hA;rintro _ w ⟨oN,cN,rfl,hH2⟩;clear hH;have hH:=(hH2 _ (by (repeat constructor))).tail;clear hH2;refine ⟨STT,?_⟩;intro a hA))))
    obtain ⟨d3,hd3⟩:∃d,ds3[p]?=some d:=⟨_,List.getElem?_eq_getElem hp3⟩
    replace hH:=hH.perm (H':=cb bM 174 (encMkr oD3 ds3.length cD3 bJ)::cb b9 51 [.int .i64 k,.slice oA va.l.length cA,.slice oS ns.l.length cS,.slice oT kids.length cT]::own 61 2 oT kids.length cT (flat encEd es)::own 179 7 oD3 ds3.length cD3 (flat encDr ds3)::all (ds3.map insI)::all (ds3.map toI)::frz w0 K3::mpI bJ js3::H) PMT
    have hST:HS w0 noM [_,_] w:=HS.left (H1:=[_,_]) hH
    (refine wp_draw2_HS (H:=[_,_]) [(0,1),(1,1),(2,1),(3,1),(4,1),(5,1),(6,1),(7,1),(8,1)] [9] mixed (by decide +kernel) (hST) ?_;replace hH:=hH.drew)
    clear hST
    repeat' (first|(first|(refine GT ?_ ?_<;>intro hg<;>clear hA a<;>intro a hA<;>(first|exact FA|replace hg:=dTr hg|replace hg:=dFa hg|skip))|(refine XT ?_;apply XE;(first|(apply ex_load_st (vs:=[.int .i64 k,.slice oA va.l.length cA,.slice oS ns.l.length cS,.slice oT kids.length cT]);rfl;rfl;exact cls_cb_all MEMT));clear hA a;intro a hA)|(refine QT ?_;clear hA a;intro a hA)|(first|(refine BT ?_;clear hA hH;rintro _ w ⟨bN,rfl,hH⟩ a hA)|(refine LT ?_;clear hA hH;rintro _ w ⟨oN,rfl,hH⟩ a hA)|(refine AT ?_;clear hA;rintro _ w ⟨oN,cN,rfl,hH2⟩ a hA;clear hH;have hH:=(hH2 _ (by (repeat constructor))).tail;clear hH2)|(refine S0T ?_;clear hH;rintro _ w hH)))|refine CT ?_|(refine DT ?_ ?_<;>intro hc<;>try (exfalso;omega))|(first|(refine DSK ?_;clear hA a;intro a hA)|(first|(refine DLT ?_;clear hA hH;rintro _ w ⟨oN,rfl,hH⟩;refine ⟨STT,?_⟩;intro a hA)|(refine DAT ?_;clear hA;rintro _ w ⟨oN,cN,rfl,hH2⟩;clear hH;have hH:=(hH2 _ (by (repeat constructor))).tail;clear hH2;refine ⟨STT,?_⟩;intro a hA))))
    obtain ⟨e,he⟩:∃e:En,e=⟨k,⟨oA,cA,va.l⟩,⟨oS,cS,ns.l⟩,⟨oT,cT,es⟩⟩:=⟨_,rfl⟩
    have hve:[Value.int .i64 k,.slice oA va.l.length cA,.slice oS ns.l.length cS,.slice oT kids.length cT]=encEn e:=by rw [he,←hesl];rfl
    have hput:put (flat encDr ds3) (p*7+0+2) (encEn e)=flat encDr (ds3.set p (endB e d3)):=flat_put encDr_len (off:=2) hd3 end_put (by show 2+4≤7;decide)
    have hdlen:(flat encDr ds3).length=ds3.length*7:=flat_length encDr_len _
    rw [←hve] at hput
    (apply dr_op03 hA rfl rfl rfl;apply op_store_own (vs:=[.int .i64 k,.slice oA va.l.length cA,.slice oS ns.l.length cS,.slice oT kids.length cT]) (xs':=flat encDr (ds3.set p (endB e d3)));rfl;rfl;exact hH;(repeat constructor);(repeat rfl);omega;exact hput;clear hH;rintro _ w hH)
    repeat' (first|(first|(refine GT ?_ ?_<;>intro hg<;>clear hA a<;>intro a hA<;>(first|exact FA|replace hg:=dTr hg|replace hg:=dFa hg|skip))|(refine QT ?_;clear hA a;intro a hA)|(first|(refine BT ?_;clear hA hH;rintro _ w ⟨bN,rfl,hH⟩ a hA)|(refine LT ?_;clear hA hH;rintro _ w ⟨oN,rfl,hH⟩ a hA)|(refine AT ?_;clear hA;rintro _ w ⟨oN,cN,rfl,hH2⟩ a hA;clear hH;have hH:=(hH2 _ (by (repeat constructor))).tail;clear hH2)|(refine S0T ?_;clear hH;rintro _ w hH)))|refine CT ?_|(refine DT ?_ ?_<;>intro hc<;>try (exfalso;omega))|(first|(refine DSK ?_;clear hA a;intro a hA)|(first|(refine DLT ?_;clear hA hH;rintro _ w ⟨oN,rfl,hH⟩;refine ⟨STT,?_⟩;intro a hA)|(refine DAT ?_;clear hA;rintro _ w ⟨oN,cN,rfl,hH2⟩;clear hH;have hH:=(hH2 _ (by (repeat constructor))).tail;clear hH2;refine ⟨STT,?_⟩;intro a hA))))
    have hTo:own 61 2 oT kids.length cT (flat encEd es)=own 61 2 e.to.o e.to.l.length e.to.c (flat encEd e.to.l):=by rw [he,←hesl]
    have hH2:=hH.rm 1
    rw [hTo] at hH2
    replace hH2:=end_to (hH2.perm (H':=own 61 2 e.to.o e.to.l.length e.to.c (flat encEd e.to.l)::all (ds3.map toI)::frz w0 K3::cb bM 174 (encMkr oD3 ds3.length cD3 bJ)::own 179 7 oD3 ds3.length cD3 (flat encDr (ds3.set p (endB e d3)))::all (ds3.map insI)::mpI bJ js3::H) PMT) hd3
    rw [←end_ins hd3 (e:=e)] at hH2
    refine rt0 (.inl rfl) rfl hA ⟨K3,oD3,cD3,ds3.set p (endB e d3),js3,?_,fun w h=>?_,?_⟩
    · rw [List.length_set];exact hH2.perm PMT
    · obtain ⟨h1,h2⟩:=hK3 w h
      rw [hK2] at h1
      exact ⟨(hK w h1.2.2).1,rd_set h2 (end_rd (h2 d3 (List.mem_of_getElem? hd3)) (by rw [he];exact ⟨h1.1,hlA⟩) (by rw [he];exact ⟨h1.2.1,hlS⟩) (by rw [he];exact fun x hx=>by rw [hesn x hx];exact rdv_nilV _ _))⟩
    · rw [heq,fillF,if_neg (by omega),if_neg (by omega),if_neg (by omega),if_pos hk8,heq3,set_st hd3 (f:=endB ⟨k,lv va.l,lv ns.l,lv (es.map stE)⟩) (by rw [he];exact end_st)]
end
section
attribute [local irreducible] Code.wp wpList Calls Ex Op1 sat bat blk cb own Go.Fw.mp Go.Fw.mpO Go.Fw.mpI Go.Fw.mpE Go.Fw.itr HS Rd Ret wkD Hp Cl Cls Exit.then Exit.inBlock Exit.noGoto bodyPost Go.Fw.flat wk2 Go.Fw.all Go.Fw.owns wpOp
attribute [local irreducible] sk mpK sko mvO entK

theorem reverse_spec (w0 w:World) (H:List It) (o:Option Addr) (c:Nat) (li:List Int) (hH:HS w0 noM (own 3 1 o li.length c (flat Fw.encI li)::H) w) (hl:li.length≤1000000) :
    Ret Tryz.prog 112 #[.slice o li.length c] w (fun v w=>HS w0 noM (own 3 1 o li.length c (flat Fw.encI li.reverse)::H) w):=by
  (refine ENT (N:=28) Tryz.func112 Tryz.ntmps112 ?_;intro a hA)
  generalize hn:li.length=n at *
  repeat' (first|(first|(refine GT ?_ ?_<;>intro hg<;>clear hA a<;>intro a hA<;>(first|exact FA|replace hg:=dTr hg|replace hg:=dFa hg|skip))|(refine QT ?_;clear hA a;intro a hA)|(first|(refine BT ?_;clear hA hH;rintro _ w ⟨bN,rfl,hH⟩ a hA)|(refine LT ?_;clear hA hH;rintro _ w ⟨oN,rfl,hH⟩ a hA)|(refine AT ?_;clear hA;rintro _ w ⟨oN,cN,rfl,hH2⟩ a hA;clear hH;have hH:=(hH2 _ (by (repeat constructor))).tail;clear hH2)|(refine S0T ?_;clear hH;rintro _ w hH)))|refine CT ?_|(refine DT ?_ ?_<;>intro hc<;>try (exfalso;omega))|(first|(refine DSK ?_;clear hA a;intro a hA)|(first|(refine DLT ?_;clear hA hH;rintro _ w ⟨oN,rfl,hH⟩;refine ⟨STT,?_⟩;intro a hA)|(refine DAT ?_;clear hA;rintro _ w ⟨oN,cN,rfl,hH2⟩;clear hH;have hH:=(hH2 _ (by (repeat constructor))).tail;clear hH2;refine ⟨STT,?_⟩;intro a hA))))
  rw [show (n:Int) - 1=(n:Int) - 1 - ((0:Nat):Int) by omega] at hA
  refine wp_lp (S:=Nat × List Int) (fun s a w=>(s.1≤n∧2*s.1≤n+1∧s.2.length=n∧∀k,k<n→s.2[k]?=if k<s.1∨n<k+1+s.1 then li[n - 1 - k]? else li[k]?)∧HS w0 noM (own 3 1 o n c (flat Fw.encI s.2)::H) w∧
      Sl 28 [(0,.slice o n c),(2,.int .i64 s.1),(3,.int .i64 ((n:Int) - 1 - s.1))] a)
    (fun s=>n - s.1) (0,li) ⟨⟨by omega,by omega,hn,fun k hk=>by rw [if_neg (by omega)]⟩,hH,(hA.sub SBT)⟩ ?_
  clear hA hH
  rintro ⟨i,L⟩ a w ⟨⟨hi1,hi2,hiL,hik⟩,hH,hA⟩
  dsimp only at hi1 hi2 hiL hik hH hA
  by_cases hlt:(i:Int)<(n:Int) - 1 - i
  · have hx:L[i]?=some (L[i]'(by omega)):=List.getElem?_eq_getElem (by omega)
    have hy:L[n - 1 - i]?=some (L[n - 1 - i]'(by omega)):=List.getElem?_eq_getElem (by omega)
    generalize L[i]'(by omega)=x at *
    generalize L[n - 1 - i]'(by omega)=y at *
    obtain ⟨j,hj⟩:∃j:Nat,(n:Int) - 1 - i=(j:Int):=⟨n - 1 - i,by omega⟩
    obtain rfl:n - 1 - i=j:=by omega
    rw [hj] at hA hlt
    have hsp:Sp o n:=hH.own_sp (by exact MEMT)
    repeat' (first|(first|(refine GT ?_ ?_<;>intro hg<;>clear hA a<;>intro a hA<;>(first|exact FA|replace hg:=dTr hg|replace hg:=dFa hg|skip))|(refine QT ?_;clear hA a;intro a hA)|(first|(refine BT ?_;clear hA hH;rintro _ w ⟨bN,rfl,hH⟩ a hA)|(refine LT ?_;clear hA hH;rintro _ w ⟨oN,rfl,hH⟩ a hA)|(refine AT ?_;clear hA;rintro _ w ⟨oN,cN,rfl,hH2⟩ a hA;clear hH;have hH:=(hH2 _ (by (repeat constructor))).tail;clear hH2)|(refine S0T ?_;clear hH;rintro _ w hH)))|refine CT ?_|(refine DT ?_ ?_<;>intro hc<;>try (exfalso;omega))|(first|(refine DSK ?_;clear hA a;intro a hA)|(first|(refine DLT ?_;clear hA hH;rintro _ w ⟨oN,rfl,hH⟩;refine ⟨STT,?_⟩;intro a hA)|(refine DAT ?_;clear hA;rintro _ w ⟨oN,cN,rfl,hH2⟩;clear hH;have hH:=(hH2 _ (by (repeat constructor))).tail;clear hH2;refine ⟨STT,?_⟩;intro a hA))))
    (refine wp_draw2_HS [(0,2),(1,2),(2,2),(3,2),(4,2),(5,2),(6,2),(7,1),(8,2),(9,2),(10,2),(11,1)] [12,13,14,15] mixed (by decide +kernel) hH ?_;replace hH:=hH.drew)
    repeat' (first|(first|(refine GT ?_ ?_<;>intro hg<;>clear hA a<;>intro a hA<;>(first|exact FA|replace hg:=dTr hg|replace hg:=dFa hg|skip))|(refine XT ?_;apply XE;(first|(apply ex_load;rfl;apply cl_own;exact MEMT;first|exact flat_get0 Fw.encI_len hx rfl|exact flat_get0 Fw.encI_len hy rfl));clear hA a;intro a hA)|(refine QT ?_;clear hA a;intro a hA)|(first|(refine BT ?_;clear hA hH;rintro _ w ⟨bN,rfl,hH⟩ a hA)|(refine LT ?_;clear hA hH;rintro _ w ⟨oN,rfl,hH⟩ a hA)|(refine AT ?_;clear hA;rintro _ w ⟨oN,cN,rfl,hH2⟩ a hA;clear hH;have hH:=(hH2 _ (by (repeat constructor))).tail;clear hH2)|(refine S0T ?_;clear hH;rintro _ w hH)))|refine CT ?_|(refine DT ?_ ?_<;>intro hc<;>try (exfalso;omega))|(first|(refine DSK ?_;clear hA a;intro a hA)|(first|(refine DLT ?_;clear hA hH;rintro _ w ⟨oN,rfl,hH⟩;refine ⟨STT,?_⟩;intro a hA)|(refine DAT ?_;clear hA;rintro _ w ⟨oN,cN,rfl,hH2⟩;clear hH;have hH:=(hH2 _ (by (repeat constructor))).tail;clear hH2;refine ⟨STT,?_⟩;intro a hA)))|(apply dr_op03 hA rfl rfl rfl;apply op_setI;rfl;rfl;exact hH;(repeat constructor);(first|omega|(rw [List.length_set];omega));clear hH;rintro _ w hH))
    rw [Nat.mul_one,Nat.mul_one] at hH
    rw [show ((n - 1 - i:Nat):Int) - 1=(n:Int) - 1 - ((i+1:Nat):Int) by omega] at hA
    refine ⟨(i+1,(L.set i y).set (n - 1 - i) x),⟨⟨by show i+1≤n;omega,by show 2* (i+1)≤n+1;omega,by show ((L.set i y).set (n - 1 - i) x).length=n;simp [hiL],fun k hk=>?_⟩,hH,(hA.sub SBT)⟩,by show n - (i+1)<n - i;omega⟩
    show ((L.set i y).set (n - 1 - i) x)[k]?=if k<i+1∨n<k+1+(i+1) then li[n - 1 - k]? else li[k]?
    have h1:=hik k hk
    have h2:=hik i (by omega)
    have h3:=hik (n - 1 - i) (by omega)
    rw [if_neg (by omega)] at h2 h3
    rw [hx] at h2
    rw [hy] at h3
    by_cases hkj:n - 1 - i=k
    · subst hkj
      rw [List.getElem?_set_self (by simp;omega),if_pos (by omega),show n - 1 - (n - 1 - i)=i by omega]
      exact h2
    · rw [List.getElem?_set_ne hkj]
      by_cases hki:i=k
      · subst hki
        rw [List.getElem?_set_self (by omega),if_pos (by omega)]
        exact h3
      · rw [List.getElem?_set_ne hki,h1]
        by_cases hc1:k<i∨n<k+1+i
        · rw [if_pos hc1,if_pos (by omega)]
        · rw [if_neg hc1,if_neg (by omega)]
  have hL:L=li.reverse:=by
    apply List.ext_getElem?
    intro k
    by_cases hk:k<n
    · rw [hik k hk,List.getElem?_reverse (by omega)]
      by_cases hc1:k<i∨n<k+1+i
      · rw [if_pos hc1,hn]
      · rw [if_neg hc1,hn]
        congr 1
        omega
    · rw [List.getElem?_eq_none (by omega),List.getElem?_eq_none (by simp;omega)]
  rw [hL] at hH
  repeat' (first|(first|(refine GT ?_ ?_<;>intro hg<;>clear hA a<;>intro a hA<;>(first|exact FA|replace hg:=dTr hg|replace hg:=dFa hg|skip))|(refine QT ?_;clear hA a;intro a hA)|(first|(refine BT ?_;clear hA hH;rintro _ w ⟨bN,rfl,hH⟩ a hA)|(refine LT ?_;clear hA hH;rintro _ w ⟨oN,rfl,hH⟩ a hA)|(refine AT ?_;clear hA;rintro _ w ⟨oN,cN,rfl,hH2⟩ a hA;clear hH;have hH:=(hH2 _ (by (repeat constructor))).tail;clear hH2)|(refine S0T ?_;clear hH;rintro _ w hH)))|refine CT ?_|(refine DT ?_ ?_<;>intro hc<;>try (exfalso;omega))|(first|(refine DSK ?_;clear hA a;intro a hA)|(first|(refine DLT ?_;clear hA hH;rintro _ w ⟨oN,rfl,hH⟩;refine ⟨STT,?_⟩;intro a hA)|(refine DAT ?_;clear hA;rintro _ w ⟨oN,cN,rfl,hH2⟩;clear hH;have hH:=(hH2 _ (by (repeat constructor))).tail;clear hH2;refine ⟨STT,?_⟩;intro a hA))))
  exact rt0 (.inr rfl) rfl hA hH
end
def EdR (D:List Blc):Prop:=∀n,InR D n→∀m∈edT D n,InR D m
section
variable {D:List Blc}
theorem vis_sub:∀(f:Nat) (n:Int) (q:List Int × List Int),∀x∈q.1,x∈(visF D f n q).1
  |0,n,q,x,h=>h
  | f + 1,n,q,x,h=>by
    rw [visF]
    split
    · exact h
    · have hf:∀(l:List Int) (q:List Int × List Int),∀x∈q.1,x∈(l.foldl (fun q m=>visF D f m q) q).1:=by
        intro l
        induction l with
        |nil=>exact fun q x h=>h
        |cons m l ih=>exact fun q x h=>ih _ x (vis_sub f m q x h)
      exact hf _ _ x (mem_sadd.2 (.inl h))
theorem vis_len (hE:EdR D):∀(f:Nat) (n:Int) (q:List Int × List Int) (B:Nat),InR D n→q.2.length+uns D.length q.1≤B→(visF D f n q).2.length+uns D.length (visF D f n q).1≤B
  |0,n,q,B,hn,h=>h
  | f + 1,n,q,B,hn,h=>by
    rw [visF]
    split
    · exact h
    · next hk=>
      have hf:∀(l:List Int) (q:List Int × List Int) (B:Nat),(∀m∈l,InR D m)→q.2.length+uns D.length q.1≤B→(l.foldl (fun q m=>visF D f m q) q).2.length+uns D.length (l.foldl (fun q m=>visF D f m q) q).1≤B:=by
        intro l
        induction l with
        |nil=>exact fun q B _ h=>h
        |cons m l ih=>exact fun q B hl h=>ih _ B (fun m hm=>hl m (List.mem_cons_of_mem _ hm)) (vis_len hE f m q B (hl m (List.mem_cons_self ..)) h)
      obtain ⟨i,rfl⟩:∃i:Nat,n=(i:Int):=⟨n.toNat,by have:=hn.1;omega⟩
      have h1:=uns_add (N:=D.length) (i:=i) (by have:=hn.2;omega) hk
      have h2:=hf (edT D i) (sadd q.1 i,q.2) (B - 1) (hE _ hn) (by dsimp only;omega)
      dsimp only at h2 ⊢
      rw [List.length_append,List.length_singleton]
      omega
theorem edT_at {n:Int} {bl:Blc} (h:D[n.toNat]?=some bl):edT D n=bl.e.to.l.map (·.b):=by
  unfold edT
  rw [getD_of h]
end
theorem edT_st (ds:List Blc) (n:Int):edT (ds.map stB) n=edT ds n:=by
  unfold edT
  by_cases h:n.toNat<ds.length
  · rw [getD_of (x:=stB ds[n.toNat]) (by rw [List.getElem?_map,List.getElem?_eq_getElem h];rfl),getD_of (List.getElem?_eq_getElem h)]
    show ((ds[n.toNat]).e.to.l.map stE).map (·.b)=_
    rw [List.map_map]
    rfl
  · rw [List.getD_eq_getElem?_getD,List.getD_eq_getElem?_getD,List.getElem?_eq_none (by rw [List.length_map];omega),List.getElem?_eq_none (by omega)]
theorem visF_st (ds:List Blc):∀(f:Nat) (n:Int) (q:List Int × List Int),visF (ds.map stB) f n q=visF ds f n q
  |0,n,q=>rfl
  | f+1,n,q=>by
    rw [visF,visF,edT_st,funext fun q=>funext fun m=>visF_st ds f m q]
theorem ordF_st (ds:List Blc):ordF (ds.map stB)=ordF ds:=by
  unfold ordF
  rw [visF_st,List.length_map]
theorem cls_all {w0:World} {H L:List It} {T sz n c j:Nat} {o:Option Addr} {xs vs:List Value} (hm:all L∈H) (hx:own T sz o n c xs∈L) (hv:∀i v,vs[i]?=some v→xs[j+i]?=some v):Cls (HS w0 noM H) (sat o j) vs:=by
  intro w hH i v hi
  rw [sat_add]
  obtain ⟨F,hF⟩:=hH.in_all hm hx
  exact (Fw.own_rd hF).2 (j+i) v (hv i v hi)
theorem sp_all {w0 w:World} {H L:List It} {T sz n c:Nat} {o:Option Addr} {xs:List Value} (hH:HS w0 noM H w) (hm:all L∈H) (hx:own T sz o n c xs∈L):Sp o n:=by
  obtain ⟨F,hF⟩:=hH.in_all hm hx
  exact Fw.own_sp hF
theorem le_all {w0 w:World} {H L:List It} {T sz n c:Nat} {o:Option Addr} {xs:List Value} (hH:HS w0 noM H w) (hm:all L∈H) (hx:own T sz o n c xs∈L):n≤c∧c≤maxLen:=by
  obtain ⟨F,hF⟩:=hH.in_all hm hx
  rcases hF with ⟨rfl,rfl,rfl,rfl,_⟩| ⟨b,spare,rfl,h2,h3,h4,h5,h6,h7⟩
  · exact ⟨Nat.le_refl _,Nat.zero_le _⟩
  · exact ⟨h4,h5⟩
structure VSt where
  i:Nat
  ks:List Int
  out:List Int
  oL:Option Addr
  cL:Nat
section
attribute [local irreducible] Code.wp wpList Calls Ex Op1 sat bat blk cb own Go.Fw.mp Go.Fw.mpO Go.Fw.mpI Go.Fw.mpE Go.Fw.itr HS Rd Ret wkD Hp Cl Cls Exit.then Exit.inBlock Exit.noGoto bodyPost Go.Fw.flat wk2 Go.Fw.all Go.Fw.owns wpOp
attribute [local irreducible] sk mpK sko mvO entK

def visV (bS bMc bV bO:Nat):Value:=.func (.func 111) #[] #[.pointer (some (bat bS 0)),.pointer (some (bat bMc 0)),.pointer (some (bat bV 0)),.pointer (some (bat bO 0))]
theorem visit_spec (w0:World) (bS bm bMc bM bV bO bJ cD:Nat) (oD:Option Addr) (ds:List Blc) (hE:EdR ds) (hds:ds.length≤2000000):∀(f:Nat) (H:List It) (w:World) (n:Int) (ks out:List Int) (oL:Option Addr) (cL:Nat),InR ds n→uns ds.length ks<f→out.length+uns ds.length ks≤ds.length→HS w0 noM (cb bS 109 [.map (some bm)]::sk bm ks::cb bMc 171 [.pointer (some (bat bM 0))]::cb bM 174 (encMkr oD ds.length cD bJ)::own 179 7 oD ds.length cD (flat encDr ds)::all (ds.map toI)::cb bV 228 [visV bS bMc bV bO]::cb bO 45 [.slice oL (out).length cL]::own 3 1 oL (out).length cL (flat Fw.encI out)::H) w→
    Ret Tryz.prog 111 #[.int .i64 n,.pointer (some (bat bS 0)),.pointer (some (bat bMc 0)),.pointer (some (bat bV 0)),.pointer (some (bat bO 0))] w (fun r w'=>∃oL' cL',HS w0 noM (cb bS 109 [.map (some bm)]::sk bm (visF ds f n (ks,out)).1::cb bMc 171 [.pointer (some (bat bM 0))]::cb bM 174 (encMkr oD ds.length cD bJ)::own 179 7 oD ds.length cD (flat encDr ds)::all (ds.map toI)::cb bV 228 [visV bS bMc bV bO]::cb bO 45 [.slice oL' ((visF ds f n (ks,out)).2).length cL']::own 3 1 oL' ((visF ds f n (ks,out)).2).length cL' (flat Fw.encI (visF ds f n (ks,out)).2)::H) w'):=by
  intro f
  induction f with
  |zero=>intro H w n ks out oL cL hn hu;exact absurd hu (Nat.not_lt_zero _)
  |succ f ihf=>
  intro H w n ks out oL cL hn hu hlo hH
  obtain ⟨j,rfl⟩:∃j:Nat,n=(j:Int):=⟨n.toNat,by have:=hn.1;omega⟩
  have hj:j<ds.length:=by have:=hn.2;omega
  obtain ⟨d,hd⟩:∃d,ds[j]?=some d:=⟨_,List.getElem?_eq_getElem hj⟩
  have hed:edT ds j=d.e.to.l.map (·.b):=edT_at (by rw [Int.toNat_natCast];exact hd)
  have hspD:=hH.own_sp (T:=179) (o:=oD) MEMT
  have hspT:=sp_all hH (L:=ds.map toI) MEMT (List.mem_map.2 ⟨d,List.mem_of_getElem? hd,rfl⟩)
  have hleT:=le_all hH (L:=ds.map toI) MEMT (List.mem_map.2 ⟨d,List.mem_of_getElem? hd,rfl⟩)
  unfold maxLen at hleT
  have hEr:=hE _ hn
  rw [hed] at hEr
  (refine ENT (N:=37) Tryz.func111 Tryz.ntmps111 ?_;intro a hA)
  repeat' (first|(first|(refine GT ?_ ?_<;>intro hg<;>clear hA a<;>intro a hA<;>(first|exact FA|replace hg:=dTr hg|replace hg:=dFa hg|skip))|(refine XT ?_;apply XE;(first|(apply ex_hasK;rfl;rfl;exact MEMT));clear hA a;intro a hA)|(refine QT ?_;clear hA a;intro a hA)|(first|(refine BT ?_;clear hA hH;rintro _ w ⟨bN,rfl,hH⟩ a hA)|(refine LT ?_;clear hA hH;rintro _ w ⟨oN,rfl,hH⟩ a hA)|(refine AT ?_;clear hA;rintro _ w ⟨oN,cN,rfl,hH2⟩ a hA;clear hH;have hH:=(hH2 _ (by (repeat constructor))).tail;clear hH2)|(refine S0T ?_;clear hH;rintro _ w hH)|(apply st_op0 hA rfl rfl;apply op_addK;rfl;rfl;rfl;exact hH;(repeat constructor);clear hH;rintro _ w hH)))|refine CT ?_|(refine DT ?_ ?_<;>intro hc<;>try (exfalso;omega))|(first|(refine DSK ?_;clear hA a;intro a hA)|(first|(refine DLT ?_;clear hA hH;rintro _ w ⟨oN,rfl,hH⟩;refine ⟨STT,?_⟩;intro a hA)|(refine DAT ?_;clear hA;rintro _ w ⟨oN,cN,rfl,hH2⟩;clear hH;have hH:=(hH2 _ (by (repeat constructor))).tail;clear hH2;refine ⟨STT,?_⟩;intro a hA))))
  · rw [visF,if_pos (by assumption)]
    exact rt0 (.inl rfl) rfl hA ⟨oL,cL,hH⟩
  have hks:(j:Int) ∉ ks:=by assumption
  have hv5:=dr_at (off:=5) (v:=.slice d.e.to.o d.e.to.l.length d.e.to.c) hd rfl
  have hu1:=uns_add (N:=ds.length) (i:=j) hj hks
  repeat' (first|(first|(refine GT ?_ ?_<;>intro hg<;>clear hA a<;>intro a hA<;>(first|exact FA|replace hg:=dTr hg|replace hg:=dFa hg|skip))|(refine XT ?_;apply XE;(first|(apply ex_load;rfl;exact cl_own MEMT hv5));clear hA a;intro a hA)|(refine QT ?_;clear hA a;intro a hA)|(first|(refine BT ?_;clear hA hH;rintro _ w ⟨bN,rfl,hH⟩ a hA)|(refine LT ?_;clear hA hH;rintro _ w ⟨oN,rfl,hH⟩ a hA)|(refine AT ?_;clear hA;rintro _ w ⟨oN,cN,rfl,hH2⟩ a hA;clear hH;have hH:=(hH2 _ (by (repeat constructor))).tail;clear hH2)|(refine S0T ?_;clear hH;rintro _ w hH)))|refine CT ?_|(refine DT ?_ ?_<;>intro hc<;>try (exfalso;omega))|(first|(refine DSK ?_;clear hA a;intro a hA)|(first|(refine DLT ?_;clear hA hH;rintro _ w ⟨oN,rfl,hH⟩;refine ⟨STT,?_⟩;intro a hA)|(refine DAT ?_;clear hA;rintro _ w ⟨oN,cN,rfl,hH2⟩;clear hH;have hH:=(hH2 _ (by (repeat constructor))).tail;clear hH2;refine ⟨STT,?_⟩;intro a hA))))
  rw [visF,if_neg hks,hed]
  refine wp_lpk (S:=VSt) (fun t a w=>(t.i≤d.e.to.l.length∧uns ds.length t.ks<f∧t.out.length+uns ds.length t.ks+1≤ds.length∧(d.e.to.l.map (·.b)).foldl (fun q m=>visF ds f m q) (sadd ks j,out)=((d.e.to.l.drop t.i).map (·.b)).foldl (fun q m=>visF ds f m q) (t.ks,t.out))∧HS w0 noM (cb bS 109 [.map (some bm)]::sk bm t.ks::cb bMc 171 [.pointer (some (bat bM 0))]::cb bM 174 (encMkr oD ds.length cD bJ)::own 179 7 oD ds.length cD (flat encDr ds)::all (ds.map toI)::cb bV 228 [visV bS bMc bV bO]::cb bO 45 [.slice t.oL (t.out).length t.cL]::own 3 1 t.oL (t.out).length t.cL (flat Fw.encI t.out)::H) w∧Sl 37 [(24,.int .i64 t.i),(23,.int .i64 d.e.to.l.length),(22,.slice d.e.to.o d.e.to.l.length d.e.to.c),(0,.int .i64 j),(3,.pointer (some (bat bV 0))),(4,.pointer (some (bat bO 0)))] a) (fun t=>d.e.to.l.length - t.i)
    (fun a w=>∃t:VSt,(t.out.length+uns ds.length t.ks+1≤ds.length∧(d.e.to.l.map (·.b)).foldl (fun q m=>visF ds f m q) (sadd ks j,out)=(t.ks,t.out))∧HS w0 noM (cb bS 109 [.map (some bm)]::sk bm t.ks::cb bMc 171 [.pointer (some (bat bM 0))]::cb bM 174 (encMkr oD ds.length cD bJ)::own 179 7 oD ds.length cD (flat encDr ds)::all (ds.map toI)::cb bV 228 [visV bS bMc bV bO]::cb bO 45 [.slice t.oL (t.out).length t.cL]::own 3 1 t.oL (t.out).length t.cL (flat Fw.encI t.out)::H) w∧Sl 37 [(0,.int .i64 j),(4,.pointer (some (bat bO 0)))] a)
    ⟨0,sadd ks j,out,oL,cL⟩ ⟨⟨Nat.zero_le _,by dsimp only;omega,by dsimp only;omega,rfl⟩,hH,(hA.sub SBT)⟩ ?_ ?_
  · clear hA hH
    rintro ⟨i,ks1,out1,oL1,cL1⟩ a w ⟨⟨hi,hu2,hlo2,heq⟩,hH,hA⟩
    dsimp only at hi hu2 hlo2 heq hH hA ⊢
    by_cases hlt:i<d.e.to.l.length
    rotate_left
    · obtain rfl:i=d.e.to.l.length:=by omega
      rw [List.drop_length] at heq
      repeat' (first|(first|(refine GT ?_ ?_<;>intro hg<;>clear hA a<;>intro a hA<;>(first|exact FA|replace hg:=dTr hg|replace hg:=dFa hg|skip))|(refine QT ?_;clear hA a;intro a hA)|(first|(refine BT ?_;clear hA hH;rintro _ w ⟨bN,rfl,hH⟩ a hA)|(refine LT ?_;clear hA hH;rintro _ w ⟨oN,rfl,hH⟩ a hA)|(refine AT ?_;clear hA;rintro _ w ⟨oN,cN,rfl,hH2⟩ a hA;clear hH;have hH:=(hH2 _ (by (repeat constructor))).tail;clear hH2)|(refine S0T ?_;clear hH;rintro _ w hH)))|refine CT ?_|(refine DT ?_ ?_<;>intro hc<;>try (exfalso;omega))|(first|(refine DSK ?_;clear hA a;intro a hA)|(first|(refine DLT ?_;clear hA hH;rintro _ w ⟨oN,rfl,hH⟩;refine ⟨STT,?_⟩;intro a hA)|(refine DAT ?_;clear hA;rintro _ w ⟨oN,cN,rfl,hH2⟩;clear hH;have hH:=(hH2 _ (by (repeat constructor))).tail;clear hH2;refine ⟨STT,?_⟩;intro a hA))))
      exact ⟨⟨0,ks1,out1,oL1,cL1⟩,⟨hlo2,heq⟩,hH,(hA.sub SBT)⟩
    obtain ⟨x,hx⟩:∃x,d.e.to.l[i]?=some x:=⟨_,List.getElem?_eq_getElem hlt⟩
    have hxr:=hEr x.b (List.mem_map.2 ⟨x,List.mem_of_getElem? hx,rfl⟩)
    have hdrop:d.e.to.l.drop i=x::d.e.to.l.drop (i+1):=by
      obtain ⟨hi2,rfl⟩:=List.getElem?_eq_some_iff.1 hx
      exact List.drop_eq_getElem_cons hi2
    rw [hdrop,List.map_cons,List.foldl_cons] at heq
    have hvx:=flat_all encEd_len hx
    have htm:toI d∈ds.map toI:=List.mem_map.2 ⟨d,List.mem_of_getElem? hd,rfl⟩
    repeat' (first|(first|(refine GT ?_ ?_<;>intro hg<;>clear hA a<;>intro a hA<;>(first|exact FA|replace hg:=dTr hg|replace hg:=dFa hg|skip))|(refine XT ?_;apply XE;(first|(apply ex_indexAddr_nat;rfl;rfl;omega;exact hspT)|(apply ex_load_st (vs:=encEd x);rfl;rfl;exact cls_all (L:=ds.map toI) MEMT htm hvx));clear hA a;intro a hA)|(refine QT ?_;clear hA a;intro a hA)|(first|(refine BT ?_;clear hA hH;rintro _ w ⟨bN,rfl,hH⟩ a hA)|(refine LT ?_;clear hA hH;rintro _ w ⟨oN,rfl,hH⟩ a hA)|(refine AT ?_;clear hA;rintro _ w ⟨oN,cN,rfl,hH2⟩ a hA;clear hH;have hH:=(hH2 _ (by (repeat constructor))).tail;clear hH2)|(refine S0T ?_;clear hH;rintro _ w hH)|(refine SAT (encEd x) hA hH ?_;clear hH;intro w hH)))|refine CT ?_|(refine DT ?_ ?_<;>intro hc<;>try (exfalso;omega))|(first|(refine DSK ?_;clear hA a;intro a hA)|(first|(refine DLT ?_;clear hA hH;rintro _ w ⟨oN,rfl,hH⟩;refine ⟨STT,?_⟩;intro a hA)|(refine DAT ?_;clear hA;rintro _ w ⟨oN,cN,rfl,hH2⟩;clear hH;have hH:=(hH2 _ (by (repeat constructor))).tail;clear hH2;refine ⟨STT,?_⟩;intro a hA))))
    obtain ⟨b7,hb7⟩:∃b,b=bN:=⟨_,rfl⟩
    rw [←hb7] at hA hH
    clear hb7 bN
    replace hH:=hH.perm (H':=cb bS 109 [.map (some bm)]::sk bm ks1::cb bMc 171 [.pointer (some (bat bM 0))]::cb bM 174 (encMkr oD ds.length cD bJ)::own 179 7 oD ds.length cD (flat encDr ds)::all (ds.map toI)::cb bV 228 [visV bS bMc bV bO]::cb bO 45 [.slice oL1 (out1).length cL1]::own 3 1 oL1 (out1).length cL1 (flat Fw.encI out1)::cb b7 61 (encEd x)::H) PMT
    repeat' (first|(first|(refine GT ?_ ?_<;>intro hg<;>clear hA a<;>intro a hA<;>(first|exact FA|replace hg:=dTr hg|replace hg:=dFa hg|skip))|(refine QT ?_;clear hA a;intro a hA)|(first|(refine BT ?_;clear hA hH;rintro _ w ⟨bN,rfl,hH⟩ a hA)|(refine LT ?_;clear hA hH;rintro _ w ⟨oN,rfl,hH⟩ a hA)|(refine AT ?_;clear hA;rintro _ w ⟨oN,cN,rfl,hH2⟩ a hA;clear hH;have hH:=(hH2 _ (by (repeat constructor))).tail;clear hH2)|(refine S0T ?_;clear hH;rintro _ w hH)))|refine CT ?_|(refine DT ?_ ?_<;>intro hc<;>try (exfalso;omega))|(first|(refine DSK ?_;clear hA a;intro a hA)|(first|(refine DLT ?_;clear hA hH;rintro _ w ⟨oN,rfl,hH⟩;refine ⟨STT,?_⟩;intro a hA)|(refine DAT ?_;clear hA;rintro _ w ⟨oN,cN,rfl,hH2⟩;clear hH;have hH:=(hH2 _ (by (repeat constructor))).tail;clear hH2;refine ⟨STT,?_⟩;intro a hA))))
    (refine st_op hA rfl rfl (by decide) (op_call rfl rfl rfl (ihf _ w x.b ks1 out1 oL1 cL1 hxr hu2 (by omega) hH)) ?_;clear hA hH;rintro _ w ⟨oL2,cL2,hH⟩ a hA)
    repeat' (first|(first|(refine GT ?_ ?_<;>intro hg<;>clear hA a<;>intro a hA<;>(first|exact FA|replace hg:=dTr hg|replace hg:=dFa hg|skip))|(refine QT ?_;clear hA a;intro a hA)|(first|(refine BT ?_;clear hA hH;rintro _ w ⟨bN,rfl,hH⟩ a hA)|(refine LT ?_;clear hA hH;rintro _ w ⟨oN,rfl,hH⟩ a hA)|(refine AT ?_;clear hA;rintro _ w ⟨oN,cN,rfl,hH2⟩ a hA;clear hH;have hH:=(hH2 _ (by (repeat constructor))).tail;clear hH2)|(refine S0T ?_;clear hH;rintro _ w hH)))|refine CT ?_|(refine DT ?_ ?_<;>intro hc<;>try (exfalso;omega))|(first|(refine DSK ?_;clear hA a;intro a hA)|(first|(refine DLT ?_;clear hA hH;rintro _ w ⟨oN,rfl,hH⟩;refine ⟨STT,?_⟩;intro a hA)|(refine DAT ?_;clear hA;rintro _ w ⟨oN,cN,rfl,hH2⟩;clear hH;have hH:=(hH2 _ (by (repeat constructor))).tail;clear hH2;refine ⟨STT,?_⟩;intro a hA))))
    refine ⟨⟨i+1,_,_,oL2,cL2⟩,⟨⟨hlt,Nat.lt_of_le_of_lt (uns_mono (vis_sub f x.b (ks1,out1))) hu2,?_,heq⟩,(hH.rm 9).perm PMT,(hA.sub SBT)⟩,by dsimp only;omega⟩
    have:=vis_len hE f x.b (ks1,out1) (ds.length - 1) hxr (by dsimp only;omega)
    show (visF ds f x.b (ks1,out1)).2.length+uns ds.length (visF ds f x.b (ks1,out1)).1+1≤ds.length
    omega
  clear hA hH
  rintro a w ⟨⟨i,ks1,out1,oL1,cL1⟩,⟨hlo2,heq⟩,hH,hA⟩
  dsimp only at hlo2 heq hH hA
  rw [heq]
  dsimp only
  repeat' (first|(first|(refine GT ?_ ?_<;>intro hg<;>clear hA a<;>intro a hA<;>(first|exact FA|replace hg:=dTr hg|replace hg:=dFa hg|skip))|(refine QT ?_;clear hA a;intro a hA)|(first|(refine BT ?_;clear hA hH;rintro _ w ⟨bN,rfl,hH⟩ a hA)|(refine LT ?_;clear hA hH;rintro _ w ⟨oN,rfl,hH⟩ a hA)|(refine AT ?_;clear hA;rintro _ w ⟨oN,cN,rfl,hH2⟩ a hA;clear hH;have hH:=(hH2 _ (by (repeat constructor))).tail;clear hH2)|(refine S0T ?_;clear hH;rintro _ w hH)))|refine CT ?_|(refine DT ?_ ?_<;>intro hc<;>try (exfalso;omega))|(first|(refine DSK ?_;clear hA a;intro a hA)|(first|(refine DLT ?_;clear hA hH;rintro _ w ⟨oN,rfl,hH⟩;refine ⟨STT,?_⟩;intro a hA)|(refine DAT ?_;clear hA;rintro _ w ⟨oN,cN,rfl,hH2⟩;clear hH;have hH:=(hH2 _ (by (repeat constructor))).tail;clear hH2;refine ⟨STT,?_⟩;intro a hA))))
  rw [flatI_snoc] at hH
  exact rt0 (.inr rfl) rfl hA ⟨oN,cN,by rw [List.length_append,List.length_singleton];exact hH⟩
end
section
attribute [local irreducible] Code.wp wpList Calls Ex Op1 sat bat blk cb own Go.Fw.mp Go.Fw.mpO Go.Fw.mpI Go.Fw.mpE Go.Fw.itr HS Rd Ret wkD Hp Cl Cls Exit.then Exit.inBlock Exit.noGoto bodyPost Go.Fw.flat wk2 Go.Fw.all Go.Fw.owns wpOp
attribute [local irreducible] sk mpK sko mvO entK

theorem order_spec (w0 w:World) (H:List It) (bM bJ cD:Nat) (oD:Option Addr) (ds:List Blc) (hE:EdR ds) (h0:0<ds.length) (hds:ds.length≤1000000) (hH:HS w0 noM (cb bM 174 (encMkr oD ds.length cD bJ)::own 179 7 oD ds.length cD (flat encDr ds)::all (ds.map toI)::H) w) :
    Ret Tryz.prog 75 #[.pointer (some (bat bM 0))] w (fun r w'=>
      ∃oL cL,r= .slice oL (ordF ds).length cL∧HS w0 noM (own 3 1 oL (ordF ds).length cL (flat Fw.encI (ordF ds))::cb bM 174 (encMkr oD ds.length cD bJ)::own 179 7 oD ds.length cD (flat encDr ds)::all (ds.map toI)::H) w'):=by
  (refine ENT (N:=13) Tryz.func75 Tryz.ntmps75 ?_;intro a hA)
  repeat' (first|(first|(refine GT ?_ ?_<;>intro hg<;>clear hA a<;>intro a hA<;>(first|exact FA|replace hg:=dTr hg|replace hg:=dFa hg|skip))|(refine XT ?_;apply XE;(first|(apply ex_makeFunc;rfl;rfl));clear hA a;intro a hA)|(refine QT ?_;clear hA a;intro a hA)|(first|(refine BT ?_;clear hA hH;rintro _ w ⟨bN,rfl,hH⟩ a hA)|(refine LT ?_;clear hA hH;rintro _ w ⟨oN,rfl,hH⟩ a hA)|(refine AT ?_;clear hA;rintro _ w ⟨oN,cN,rfl,hH2⟩ a hA;clear hH;have hH:=(hH2 _ (by (repeat constructor))).tail;clear hH2)|(refine S0T ?_;clear hH;rintro _ w hH)|(refine st_op hA rfl rfl (by decide) (op_makeMapK hH) ?_;clear hA hH;rintro _ w ⟨bm,rfl,hH⟩ a hA)))|refine CT ?_|(refine DT ?_ ?_<;>intro hc<;>try (exfalso;omega))|(first|(refine DSK ?_;clear hA a;intro a hA)|(first|(refine DLT ?_;clear hA hH;rintro _ w ⟨oN,rfl,hH⟩;refine ⟨STT,?_⟩;intro a hA)|(refine DAT ?_;clear hA;rintro _ w ⟨oN,cN,rfl,hH2⟩;clear hH;have hH:=(hH2 _ (by (repeat constructor))).tail;clear hH2;refine ⟨STT,?_⟩;intro a hA))))
  have key:∃bS bMc bV bO bm,HS w0 noM (cb bS 109 [.map (some bm)]::sk bm []::cb bMc 171 [.pointer (some (bat bM 0))]::cb bM 174 (encMkr oD ds.length cD bJ)::own 179 7 oD ds.length cD (flat encDr ds)::all (ds.map toI)::cb bV 228 [visV bS bMc bV bO]::cb bO 45 [.slice none 0 0]::H) w∧
      Sl 13 [(8,visV bS bMc bV bO),(4,.pointer (some (bat bO 0))),(2,.slice none 0 0)] a:=⟨_,_,_,_,_,hH.perm PMT,(hA.sub SBT)⟩
  clear hA hH
  obtain ⟨bS,bMc,bV,bO,bm,hH,hA⟩:=key
  replace hH:=(hH.nil_flat Fw.encI 3 1).perm (H':=cb bS 109 [.map (some bm)]::sk bm []::cb bMc 171 [.pointer (some (bat bM 0))]::cb bM 174 (encMkr oD ds.length cD bJ)::own 179 7 oD ds.length cD (flat encDr ds)::all (ds.map toI)::cb bV 228 [visV bS bMc bV bO]::cb bO 45 [.slice none 0 0]::own 3 1 none 0 0 (flat Fw.encI [])::H) PMT
  have hin0:InR ds 0:=⟨Int.le_refl _,by omega⟩
  have hvl:=vis_len hE (ds.length+1) 0 ([],[]) ds.length hin0 (by dsimp only;rw [uns_nil];simp)
  (refine st_op hA rfl rfl (by decide) (op_call rfl rfl rfl (visit_spec w0 bS bm bMc bM bV bO bJ cD oD ds hE (by omega) (ds.length+1) H w 0 [] [] none 0 hin0 (by rw [uns_nil];omega) (by rw [uns_nil];simp) hH)) ?_;clear hA hH;rintro _ w ⟨oL,cL,hH⟩ a hA)
  have hord:(visF ds (ds.length+1) 0 ([],[])).2.reverse=ordF ds:=rfl
  obtain ⟨⟨ks,out⟩,hq⟩:∃q,q=visF ds (ds.length+1) 0 ([],[]):=⟨_,rfl⟩
  rw [←hq] at hH hord hvl
  dsimp only at hH hord hvl
  replace hH:=(((hH.rm 0).rm 0).rm 0).perm (H':=own 3 1 oL out.length cL (flat Fw.encI out)::cb bM 174 (encMkr oD ds.length cD bJ)::own 179 7 oD ds.length cD (flat encDr ds)::all (ds.map toI)::cb bV 228 [visV bS bMc bV bO]::cb bO 45 [.slice oL out.length cL]::H) PMT
  repeat' (first|(first|(refine GT ?_ ?_<;>intro hg<;>clear hA a<;>intro a hA<;>(first|exact FA|replace hg:=dTr hg|replace hg:=dFa hg|skip))|(refine QT ?_;clear hA a;intro a hA)|(first|(refine BT ?_;clear hA hH;rintro _ w ⟨bN,rfl,hH⟩ a hA)|(refine LT ?_;clear hA hH;rintro _ w ⟨oN,rfl,hH⟩ a hA)|(refine AT ?_;clear hA;rintro _ w ⟨oN,cN,rfl,hH2⟩ a hA;clear hH;have hH:=(hH2 _ (by (repeat constructor))).tail;clear hH2)|(refine S0T ?_;clear hH;rintro _ w hH)))|refine CT ?_|(refine DT ?_ ?_<;>intro hc<;>try (exfalso;omega))|(first|(refine DSK ?_;clear hA a;intro a hA)|(first|(refine DLT ?_;clear hA hH;rintro _ w ⟨oN,rfl,hH⟩;refine ⟨STT,?_⟩;intro a hA)|(refine DAT ?_;clear hA;rintro _ w ⟨oN,cN,rfl,hH2⟩;clear hH;have hH:=(hH2 _ (by (repeat constructor))).tail;clear hH2;refine ⟨STT,?_⟩;intro a hA))))
  (refine st_op hA rfl rfl (by decide) (op_call rfl rfl rfl (reverse_spec w0 w _ oL cL out hH (by omega))) ?_;clear hA hH;rintro _ w hH a hA)
  have hol:(ordF ds).length=out.length:=by rw [←hord,List.length_reverse]
  rw [hord] at hH
  repeat' (first|(first|(refine GT ?_ ?_<;>intro hg<;>clear hA a<;>intro a hA<;>(first|exact FA|replace hg:=dTr hg|replace hg:=dFa hg|skip))|(refine QT ?_;clear hA a;intro a hA)|(first|(refine BT ?_;clear hA hH;rintro _ w ⟨bN,rfl,hH⟩ a hA)|(refine LT ?_;clear hA hH;rintro _ w ⟨oN,rfl,hH⟩ a hA)|(refine AT ?_;clear hA;rintro _ w ⟨oN,cN,rfl,hH2⟩ a hA;clear hH;have hH:=(hH2 _ (by (repeat constructor))).tail;clear hH2)|(refine S0T ?_;clear hH;rintro _ w hH)))|refine CT ?_|(refine DT ?_ ?_<;>intro hc<;>try (exfalso;omega))|(first|(refine DSK ?_;clear hA a;intro a hA)|(first|(refine DLT ?_;clear hA hH;rintro _ w ⟨oN,rfl,hH⟩;refine ⟨STT,?_⟩;intro a hA)|(refine DAT ?_;clear hA;rintro _ w ⟨oN,cN,rfl,hH2⟩;clear hH;have hH:=(hH2 _ (by (repeat constructor))).tail;clear hH2;refine ⟨STT,?_⟩;intro a hA))))
  exact rt1 (.inl rfl) rfl hA rfl ⟨oL,cL,by rw [hol],by rw [hol];exact ((hH.rm 4).rm 4).perm PMT⟩
end
end Go.Proofs.YtenlcdokaadobaaGreatDoor
