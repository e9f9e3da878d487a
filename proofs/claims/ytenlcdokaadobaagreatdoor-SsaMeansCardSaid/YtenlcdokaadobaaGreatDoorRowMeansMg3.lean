/-
  ssa.May's check: step, end, exactly. Conditions: none.
  ssa.May's check: meet. Conditions: none.
  ssa.May's check: a block, exactly. Conditions: none.
  anf.May's lists of names, exactly. Conditions: none.
  anf.May's check, at a body that returns a number, exactly. Conditions: none.
  Bodies as they lie in memory; anf.May's check as a function (plain). Conditions: none.
  anf.May's check: atoms, bind, unbind, exactly. Conditions: none.
  anf.May's check: unbind, step, shapes, exactly; what a body's contract is. Conditions: none.
-/
import Derived.Test.YtenlcdokaadobaaGreatDoorRowMeansMg2
set_option maxHeartbeats 64000000
set_option maxRecDepth 10000
namespace Go.Proofs.YtenlcdokaadobaaGreatDoor
open Go Go.Fw
set_option linter.unusedVariables false
instance:TAr Tryz.prog 217 2 3:=⟨Tryz.underlying217⟩
theorem ex_lookup2 {P:Program} {N:Nat} {l:List (Nat × Value)} {d:Option Tmp} {T:TypeId} {pos:String} {af:Array Edge} {g:Option (Nat × Bool)} {t kt e sz by_ b:Nat} {kk:IntKind} {z u v:Value} {zs:List Value} {x y:Operand} {m:List (Int × Value)} {k:Int} {ok:Bool} {w0:World} {M:Nat→Prop} {H:List It} [ht:TMp P t kt e] [hk:TIn P kt kk] [hi:TIf P e z zs sz by_]
    (hx:ev l x=some (.map (some b))) (hy:ev l y=some (.int .i64 k)) (hm:mp b m∈H) (h1:(mv m k).getD z= .agg #[u,v]) (h2:(mv m k).isSome=ok):Ex P N l (HS w0 M H) ⟨d,.lookup t x y true,T,pos,af,g⟩ (.tuple #[.agg #[u,v],.bool ok]):=by
  rw [←h1,←h2]
  exact qP hx hy hm
def qA (a b:Int):Value:=.agg #[.int .i64 a,.int .i64 b]
def endM (n:Int):List (Int × Value):=mset (mset (mset (mset (mset (mset [] 1 (qA 1 0)) 2 (qA 2 0)) 3 (qA 1 0)) 4 (qA 0 1)) 5 (qA 1 2)) 6 (qA 1 n)
theorem endM_eq (n:Int):endM n=[(1,qA 1 0),(2,qA 2 0),(3,qA 1 0),(4,qA 0 1),(5,qA 1 2),(6,qA 1 n)]:=rfl
theorem endM_fold (n:Int):mset (mset (mset (mset (mset (mset [] 1 (.agg #[.int .i64 1,.int .i64 0])) 2 (.agg #[.int .i64 2,.int .i64 0])) 3 (.agg #[.int .i64 1,.int .i64 0])) 4 (.agg #[.int .i64 0,.int .i64 1])) 5 (.agg #[.int .i64 1,.int .i64 2])) 6 (.agg #[.int .i64 1,.int .i64 n])=endM n:=rfl
theorem endM_mv (n k:Int):(1≤k∧k≤6∧mv (endM n) k=some (qA (fT k) (fS n k)))∨(¬(1≤k∧k≤6)∧mv (endM n) k=none):=by
  rw [endM_eq]
  by_cases h:1≤k∧k≤6
  · refine .inl ⟨h.1,h.2,?_⟩
    have:k=1∨k=2∨k=3∨k=4∨k=5∨k=6:=by omega
    rcases this with rfl|rfl|rfl|rfl|rfl|rfl<;>rfl
  · refine .inr ⟨h,?_⟩
    have h1:¬(1:Int)=k:=by omega
    have h2:¬(2:Int)=k:=by omega
    have h3:¬(3:Int)=k:=by omega
    have h4:¬(4:Int)=k:=by omega
    have h5:¬(5:Int)=k:=by omega
    have h6:¬(6:Int)=k:=by omega
    simp [mv,h1,h2,h3,h4,h5,h6]
theorem jO {l:List Int} {i:Nat} (h:∀k,k<i→upAt l k) (ha:upAt l i):∀k,k<i+1→upAt l k:=fun k hk=>by
  by_cases e:k=i
  · exact e▸ha
  · exact h k (by omega)
theorem fR {e:En} (h:¬EndP e):false=true↔EndP e:=⟨fun e=>(by cases e),fun e=>absurd e h⟩
section
attribute [local irreducible] Code.wp wpList Calls Ex Op1 sat bat blk cb own Go.Fw.mp Go.Fw.mpO Go.Fw.mpI Go.Fw.mpE Go.Fw.itr HS Rd Ret wkD Hp Cl Cls Exit.then Exit.inBlock Exit.noGoto bodyPost Go.Fw.flat wk2 Go.Fw.all Go.Fw.owns wpOp
attribute [local irreducible] sk mpK sko mvO xI endM Go.Fw.mset Go.Fw.mv

theorem end_spec (w0:World) (e:En) (hN:RdV w0 Fw.encI e.ns):Ret Tryz.prog 63 #[.agg (wO e).toArray] w0 (fun v w=>∃b,v= .bool b∧(b=true↔EndP e)∧Kp w0 noM w):=by
  have hH:HS w0 noM [] w0:=HS.init w0 noM
  have hle:=hN.le
  have hspN:Sp e.ns.o e.ns.l.length:=hN.1.sp (sz:=1) (zF Fw.encI_len _) (by omega)
  (refine ENT (N:=77) Tryz.func63 Tryz.ntmps63 ?_;intro a hA)
  repeat' (first|(refine QT ?_;clear hA a;intro a hA)|(refine BT ?_;clear hA hH;rintro _ w ⟨bN,rfl,hH⟩ a hA)|refine CT ?_|fail)
  obtain ⟨b1,hb1⟩:∃x,x=bN:=⟨_,rfl⟩
  rw [←hb1] at hA hH
  clear hb1 bN
  (refine zH hA rfl rfl (by decide) (vZ hH) ?_;clear hA hH;rintro _ w ⟨bM,rfl,hH⟩ a hA)
  repeat' (first|(refine XT ?_;apply XE;(first|(apply ex_build2;rfl;rfl;rfl;rfl;rfl)|(apply ex_addW;rfl;rfl));clear hA a;intro a hA)|(refine QT ?_;clear hA a;intro a hA)|(apply zO hA rfl rfl;apply wA;rfl;rfl;rfl;exact hH;(repeat constructor);clear hH;rintro _ w hH)|refine CT ?_|fail)
  rw [endM_fold] at hH
  obtain ⟨n,hn⟩:∃x,x=IntKind.i64.wrap (e.ns.l.length+1):=⟨_,rfl⟩
  rw [←hn] at hA hH
  have hev:∃(h0 h1:Int) (ok:Bool),(mv (endM n) e.k).getD (.agg #[.int .i64 0,.int .i64 0])= .agg #[.int .i64 h0,.int .i64 h1]∧(mv (endM n) e.k).isSome=ok∧(ok=true→1≤e.k∧e.k≤6∧h0=fT e.k∧h1=fS n e.k)∧(ok=false→¬(1≤e.k∧e.k≤6)):=by
    rcases endM_mv n e.k with ⟨h1,h2,h3⟩| ⟨h1,h2⟩
    · exact ⟨_,_,true,by rw [h3];rfl,by rw [h3];rfl,fun _=>⟨h1,h2,rfl,rfl⟩,fun h=>(by cases h)⟩
    · exact ⟨0,0,false,by rw [h2];rfl,by rw [h2];rfl,fun h=>(by cases h),fun _=>h1⟩
  obtain ⟨h0,h1,ok,hv,hok,hyes,hno⟩:=hev
  (refine mM hA hH rfl rfl (by decide) (ex_lookup2 (m:=endM n) (k:=e.k) rfl rfl (by exact MEMT) hv hok) ?_;clear hA a;intro a hA)
  clear hv hok
  cases ok with
  | false=>
    repeat' (first|(refine GT ?_ ?_<;>intro hg<;>clear hA a<;>intro a hA<;>(first|exact FA|replace hg:=dTr hg|replace hg:=dFa hg|skip))|(refine QT ?_;clear hA a;intro a hA)|(refine BT ?_;clear hA hH;rintro _ w ⟨bN,rfl,hH⟩ a hA)|(refine SAT ([.int .i64 h0,.int .i64 h1]) hA hH ?_;clear hH;intro w hH)|refine CT ?_|fail)
    all_goals exact rt1 (.inl rfl) rfl hA rfl ⟨_,rfl,fR (fun h=>hno rfl ⟨h.lo,h.hi⟩),hH.kp⟩
  |true=>
  obtain ⟨hk1,hk2,ha0,ht0⟩:=hyes rfl
  clear hyes hno
  repeat' (first|(refine GT ?_ ?_<;>intro hg<;>clear hA a<;>intro a hA<;>(first|exact FA|replace hg:=dTr hg|replace hg:=dFa hg|skip))|(refine XT ?_;apply XE;(first|(apply ex_indexArr;rfl;rfl;decide));clear hA a;intro a hA)|(refine QT ?_;clear hA a;intro a hA)|(refine BT ?_;clear hA hH;rintro _ w ⟨bN,rfl,hH⟩ a hA)|(refine SAT ([.int .i64 h0,.int .i64 h1]) hA hH ?_;clear hH;intro w hH)|refine CT ?_|(refine DT ?_ ?_<;>intro hc<;>try (exfalso;omega))|fail)
  · exact rt1 (.inl rfl) rfl hA rfl ⟨_,rfl,fR (fun h=>by have:=h.a;omega),hH.kp⟩
  · exact rt1 (.inl rfl) rfl hA rfl ⟨_,rfl,fR (fun h=>by have:=h.to;rw [←hn] at this;omega),hH.kp⟩
  · exact rt1 (.inl rfl) rfl hA rfl ⟨_,rfl,fR (fun h=>(by assumption:¬decide (e.k=6)=decide (0<(e.ns.l.length:Int))) (decide_eq_decide.2 ⟨fun h6=>(by have:=h.ns.1 h6;omega),fun h6=>h.ns.2 (by omega)⟩)),hH.kp⟩
  have hns:e.k=6↔0<e.ns.l.length:=(decide_eq_decide.1 (by assumption:decide (e.k=6)=decide (0<(e.ns.l.length:Int)))).trans (by omega)
  have ha1:(e.a.l.length:Int)=fT e.k:=by omega
  have ht1:(e.to.l.length:Int)=fS (IntKind.i64.wrap ((e.ns.l.length:Int)+1)) e.k:=by rw [←hn];omega
  refine yK (S:=Nat) (fun i a w=>(i≤e.ns.l.length∧∀k,k<i→upAt e.ns.l k)∧HS w0 noM [cb b1 51 (wO e)] w∧Sl 77 [(57,.int .i64 i),(56,.int .i64 e.ns.l.length),(1,.pointer (some (bat b1 0)))] a) (fun i=>e.ns.l.length - i)
    (fun a w=>upP e.ns.l∧HS w0 noM [] w∧Sl 77 [] a) 0 ⟨⟨Nat.zero_le _,fun k h=>absurd h (Nat.not_lt_zero _)⟩,hH.tail.tail,(hA.sub SBT)⟩ ?_ ?_
  · clear hA hH
    rintro i a w ⟨⟨hi,hup⟩,hH,hA⟩
    by_cases hlt:i<e.ns.l.length
    rotate_left
    · obtain rfl:i=e.ns.l.length:=by omega
      repeat' (first|(refine QT ?_;clear hA a;intro a hA)|refine CT ?_|(refine DT ?_ ?_<;>intro hc<;>try (exfalso;omega))|fail)
      exact ⟨hup,hH.tail,(hA.sub SBT)⟩
    have e1:((i:Int) - 1).toNat=i - 1:=by omega
    repeat' (first|(refine QT ?_;clear hA a;intro a hA)|refine CT ?_|(refine DT ?_ ?_<;>intro hc<;>try (exfalso;omega))|fail)
    (refine zQ [(0,1),(1,1),(2,1),(3,1),(4,1),(5,1),(6,1),(7,1),(8,1),(9,1),(10,1),(11,1),(12,1),(13,1),(14,1),(15,1)] mixed (by decide +kernel) hH ?_;replace hH:=hH.drew)
    repeat' (first|(refine GT ?_ ?_<;>intro hg<;>clear hA a<;>intro a hA<;>(first|exact FA|replace hg:=dTr hg|replace hg:=dFa hg|skip))|(refine XT ?_;apply XE;(first|(apply zE;rfl;rfl;omega;exact hspN)|(apply zD;rfl;rfl;omega;omega;exact hspN)|(apply zC;rfl;refine xP hN.1 id (nE ?_);omega));clear hA a;intro a hA)|(refine QT ?_;clear hA a;intro a hA)|refine CT ?_|(refine DT ?_ ?_<;>intro hc<;>try (exfalso;omega))|fail)
    all_goals first
      |exact ⟨i+1,⟨⟨hlt,jO hup (fun h0=>(by omega))⟩,hH,(hA.sub SBT)⟩,by omega⟩
      |exact ⟨i+1,⟨⟨hlt,jO hup (fun h0=>(by rw [←e1];omega))⟩,hH,(hA.sub SBT)⟩,by omega⟩
      |exact rt1 (.inl rfl) rfl hA rfl ⟨_,rfl,fR (fun h=>(by have h1:=h.up i hlt (by omega);rw [←e1] at h1;omega)),hH.kp⟩
  clear hA hH
  rintro a w ⟨hup,hH,hA⟩
  repeat' (first|(refine QT ?_;clear hA a;intro a hA)|refine CT ?_|fail)
  exact rt1 (.inl rfl) rfl hA rfl ⟨_,rfl,iff_of_true rfl ⟨hk1,hk2,ha1,ht1,hns,hup⟩,hH.kp⟩

theorem step2_spec (w0 w:World) (H:List It) (c:Ck) (bC:Nat) (p:Int) (la:List Int) (r:Stp) (hH:HS w0 noM (cb bC 112 (wU c p)::H) w) (hm:own 3 1 c.oA c.nA c.cA (flat Fw.encI la)∈H) (hn:c.nA=la.length) (hla:la.length≤9223372036854775807) (hN:RdV w0 Fw.encI r.ns) :
    Ret Tryz.prog 61 #[.pointer (some (bat bC 0)),.agg (yG r).toArray] w (fun v w'=>∃b,v= .bool b∧(b=true↔FormP c.g la c.f.caps r)∧HS w0 noM (cb bC 112 (wU c p)::H) w'):=by
  (refine ENT (N:=39) Tryz.func61 Tryz.ntmps61 ?_;intro a hA)
  repeat' (first|(refine QT ?_;clear hA a;intro a hA)|(refine BT ?_;clear hA hH;rintro _ w ⟨bN,rfl,hH⟩ a hA)|refine CT ?_|fail)
  obtain ⟨b3,hb3⟩:∃x,x=bN:=⟨_,rfl⟩
  rw [←hb3] at hA hH
  clear hb3 bN
  (refine zQ [(0,1),(1,1),(2,1),(3,1),(4,1),(5,1),(6,1),(7,1),(8,1),(9,1),(10,1),(11,1),(12,1),(13,1),(14,1),(15,1),(16,1),(17,1),(18,1),(19,1),(20,1),(21,0),(22,0)] mixed (by decide +kernel) hH ?_;replace hH:=hH.drew)
  repeat' (first|(refine XT ?_;apply XE;(first|(apply zI (cs:=(xA none 0 0 c.g).toArray);rfl;exact FLT;rfl));clear hA a;intro a hA)|(refine QT ?_;clear hA a;intro a hA)|fail)
  (apply yO hA rfl rfl rfl (by decide);apply wD;exact hH;clear hA hH;rintro _ w ⟨bN,rfl,hH⟩;refine ⟨hH.tail,?_⟩;intro a hA)
  (apply aV hA rfl rfl rfl;apply yP (vs:=xA none 0 0 c.g);rfl;rfl;exact hH;(repeat constructor);(repeat rfl);clear hH;rintro _ w hH;refine ⟨hH.tail,?_⟩)
  repeat' (first|(refine QT ?_;clear hA a;intro a hA)|refine CT ?_|fail)
  (refine zQ [(0,1),(1,1),(2,1),(3,1),(4,1),(5,1),(6,1),(7,1),(8,1),(9,1),(10,1),(11,0),(12,1)] mixed (by decide +kernel) hH ?_;replace hH:=hH.drew)
  repeat' (first|(refine QT ?_;clear hA a;intro a hA)|fail)
  have hS:=Step_spec _ none 0 0 c.g c.oA c.cA la c.f.caps r (hH.own_rd (T:=3) (n:=c.nA) (cap:=c.cA) (sz:=1) (.tail _ (.tail _ (.tail _ hm)))) hla (hN.keep hH.kp)
  rw [←hn] at hS
  (refine yO hA rfl rfl rfl (by decide) (zA rfl rfl rfl (hS)) ?_;clear hA;rintro _ w ⟨b,rfl,hbF,hk⟩;refine ⟨hH.keep hk,?_⟩;intro a hA)
  replace hH:=hH.keep hk
  repeat' (first|(refine QT ?_;clear hA a;intro a hA)|refine CT ?_|fail)
  exact rt1 (.inl rfl) rfl hA rfl ⟨_,rfl,hbF,hH.tail.tail⟩
end
end Go.Proofs.YtenlcdokaadobaaGreatDoor
namespace Go.Fw
open Go Go.RowKit
set_option linter.unusedVariables false
section
variable {P:Program} {N:Nat} {l:List (Nat × Value)} {a:Act} {d:Option Tmp} {T:TypeId} {pos:String} {af:Array Edge} {g:Option (Nat × Bool)}
theorem op_delEl {t kt e b:Nat} {kk:IntKind} {x y:Operand} {u:TypeId} {el:List (Int × Nat)} {clock:Nat} {k:Int} {w0 w:World} {M:Nat→Prop} {H H':List It} [ht:TMp P t kt e] [hk:TIn P kt kk]
    (hx:ev l x=some (.map (some b))) (hy:ev l y=some (.int .i64 k)) (hH:HS w0 M H w) (hok:ElK el clock) (hr:Rp H (mpK b el clock) (mpK b (el.filter fun e=>!(e.1 == k)) clock) H') :
    Op1 P N l ⟨d,.call ⟨.builtin .delete,#[x,y],#[t,u]⟩,T,pos,af,g⟩ w (fun v w'=>v= .tuple #[]∧HS w0 M H' w'):=by
  intro a hA K Q hK
  obtain ⟨R,p,_⟩:=hr.split
  obtain ⟨F,h3,h4⟩:=hH.sat (p.symm.subset (List.mem_cons_self))
  have hfm:((el.map mkK).filter fun e=>!(e.1 == k))=(el.filter fun e=>!(e.1 == k)).map mkK:=by
    rw [List.filter_map]
    rfl
  unfold Oper.wp
  simp only [execOp,resolve,invoke,builtin,List.map_toArray,List.map_cons,List.map_nil,hA.ev hx,hA.ev hy,Builtin.delete_,Sem.run_bind,Sem.run_pure,Result.andThen_ok,List.getElem?_toArray,List.getElem?_cons_zero,List.getElem?_cons_succ,
    run_underlying ht.eq,xM h4,tG,tZ]
  cases hf:fnd k (el.map mkK) 0 with
  | some q=>
    obtain ⟨j,v0⟩:=q
    obtain ⟨_,born,hj⟩:=pO k _ 0 j v0 hf
    simp only [Nat.sub_zero] at hj
    have hlt:j<(el.map mkK).length:=(List.getElem?_eq_some_iff.1 hj).1
    have herase:((el.map mkK).map mkE).toArray.eraseIdxIfInBounds j=(((el.filter fun e=>!(e.1 == k)).map mkK).map mkE).toArray:=by
      apply Array.ext'
      rw [←hfm,←lC hok.es.keys hj]
      simp only [List.eraseIdxIfInBounds_toArray,eraseIdx_map']
    simp only [Sem.run_bind,xV h4,Result.andThen_ok,herase,Sem.run_pure,Oper.upon]
    refine hK _ _ ⟨rfl,hH.turn hr fun F' hF'=>?_⟩
    obtain ⟨hF1,hF2⟩:=hF'
    exact ⟨uG ((hF1 b).2 rfl),F',⟨hF1,uH h4⟩,fun b hb=>.inr hb⟩
  | none=>
    have hne:=mZ k _ 0 hf
    have hself:(el.filter fun e=>!(e.1 == k))=el:=by
      refine List.filter_eq_self.2 fun e he=>?_
      have:=hne (mkK e) (List.mem_map.2 ⟨e,he,rfl⟩)
      simpa [mkK] using this
    rw [hself] at hr
    simp only [Sem.run_bind,xV h4,Result.andThen_ok,Sem.run_pure,Oper.upon]
    refine hK _ _ ⟨rfl,hH.turn hr fun F' hF'=>?_⟩
    obtain ⟨hF1,hF2⟩:=hF'
    exact ⟨uG ((hF1 b).2 rfl),F',⟨hF1,uH h4⟩,fun b hb=>.inr hb⟩
theorem op_nextKd {r b clock:Nat} {el el0 done:List (Int × Nat)} {x:Operand} {w0 w:World} {M:Nat→Prop} {H:List It}
    (hx:ev l x=some (.pointer (some (bat r 0)))) (hH:HS w0 M H w) (hi:itr r b clock (done.map (·.2))∈H) (hm:mpK b el clock∈H) (hok:ElK el clock) (hok0:ElK el0 clock) (hs:∀e∈el,e∈el0) (hd:∀e∈done,e∈el0) :
    Op1 P N l ⟨d,.next x false,T,pos,af,g⟩ w (fun v w'=>
      ((∀e∈el,e∈done)∧v= .tuple #[.bool false]∧HS w0 M H w')∨
      (∃e∈el,e ∉ done∧v= .tuple #[.bool true,.int .i64 e.1,.bool true]∧∀H',Rp H (itr r b clock (done.map (·.2))) (itr r b clock ((done++[e]).map (·.2))) H'→HS w0 M H' w')):=by
  intro a hA K Q hK
  have hinj:∀e∈el0,∀e'∈el0,e.2=e'.2→e=e':=fun e he e' he' h2=>by
    have hn:=hok0.borns
    clear hm hd hi hH hK hs hok
    induction el0 with
    |nil=>cases he
    | cons x el ih=>
      rw [List.map_cons,List.nodup_cons] at hn
      rcases List.mem_cons.1 he with rfl|h5<;>rcases List.mem_cons.1 he' with rfl|h6
      · rfl
      · exact absurd (List.mem_map.2 ⟨e',h6,h2.symm⟩:e.2∈el.map (·.2)) hn.1
      · exact absurd (List.mem_map.2 ⟨e,h5,h2⟩:e'.2∈el.map (·.2)) hn.1
      · exact ih ⟨(List.nodup_cons.1 hok0.keys).2,hn.2,fun e he=>hok0.lt e (.tail _ he)⟩ h5 h6 hn.2
  refine op_next hx hH hi hm hok.es a hA K Q fun v w' h=>hK v w' ?_
  rcases h with ⟨h1,h2,h3⟩| ⟨e,he,h1,h2,h3⟩
  · refine .inl ⟨fun e he=>?_,h2,h3⟩
    obtain ⟨e',he',h4⟩:=List.mem_map.1 (h1 (mkK e) (List.mem_map.2 ⟨e,he,rfl⟩))
    exact hinj e' (hd e' he') e (hs e he) h4▸he'
  · obtain ⟨e',he',rfl⟩:=List.mem_map.1 he
    refine .inr ⟨e',he',fun h4=>h1 (List.mem_map.2 ⟨e',h4,rfl⟩),h2,fun H' hr=>h3 H' ?_⟩
    rw [List.map_append] at hr
    exact hr
end
end Go.Fw
namespace Go.Proofs.YtenlcdokaadobaaGreatDoor
open Go Go.Fw
set_option linter.unusedVariables false
theorem aN (tc:List (Option (Nat × List Int))) (t b:Nat) (k1 k2:List Int):flat wM (tc.set t (some (b,k1)))=flat wM (tc.set t (some (b,k2))):=by
  unfold Fw.flat
  rw [List.flatMap_def,List.flatMap_def,List.map_set,List.map_set]
  rfl
def elL (el0 dn:List (Int × Nat)) (ks:List Int) (el:List (Int × Nat)):Prop:=∀e,e∈el↔e∈el0∧(e ∉ dn∨e.1∈ks)
theorem elL_keep {el0 dn el:List (Int × Nat)} {ks:List Int} (h:elL el0 dn ks el) {e:Int × Nat} (he:e.1∈ks):elL el0 (dn++[e]) ks el:=by
  intro e'
  rw [h,List.mem_append,List.mem_singleton,not_or]
  refine and_congr_right fun _=>⟨?_,?_⟩
  · rintro (h1|h1)
    · by_cases h2:e'=e
      · exact .inr (h2▸he)
      · exact .inl ⟨h1,h2⟩
    · exact .inr h1
  · rintro (h1|h1)
    · exact .inl h1.1
    · exact .inr h1
theorem elL_del {el0 dn el:List (Int × Nat)} {ks:List Int} (h:elL el0 dn ks el) (hk:(el0.map (·.1)).Nodup) {e:Int × Nat} (h0:e∈el0) (he:e.1 ∉ ks):elL el0 (dn++[e]) ks (el.filter fun x=>!(x.1 == e.1)):=by
  intro e'
  rw [List.mem_filter,h,List.mem_append,List.mem_singleton,not_or]
  have hb:((!(e'.1 == e.1))=true)↔e'.1≠e.1:=by simp
  rw [hb]
  constructor
  · rintro ⟨⟨h1,h2⟩,h3⟩
    refine ⟨h1,h2.imp (fun h4=>⟨h4,fun h5=>h3 (h5▸rfl)⟩) id⟩
  · rintro ⟨h1,h2⟩
    refine ⟨⟨h1,h2.imp And.left id⟩,fun h3=>?_⟩
    have:=fst_inj hk e' h1 e h0 h3
    rcases h2 with h2|h2
    · exact h2.2 this
    · exact he (this▸h2)
theorem elL_ok {el0 dn el:List (Int × Nat)} {ks:List Int} {clock:Nat} (h:elL el0 dn ks el) (hok0:ElK el0 clock) (hok:ElK el clock) (k:Int):ElK (el.filter fun x=>!(x.1 == k)) clock:=
  ⟨List.Nodup.sublist (List.filter_sublist.map _) hok.keys,List.Nodup.sublist (List.filter_sublist.map _) hok.borns,fun e he=>hok.lt e (List.mem_filter.1 he).1⟩
theorem elL_all {el0 dn el:List (Int × Nat)} {ks k0:List Int} (h:elL el0 dn ks el) (hel:el0.map (·.1)=k0) (hall:∀e∈el,e∈dn) (x:Int):x∈el.map (·.1)↔x∈ks∧x∈k0:=by
  rw [←hel,List.mem_map,List.mem_map]
  constructor
  · rintro ⟨e,he,rfl⟩
    have h1:=(h e).1 he
    exact ⟨h1.2.resolve_left fun h2=>h2 (hall e he),e,h1.1,rfl⟩
  · rintro ⟨h1,e,he,rfl⟩
    exact ⟨e,(h e).2 ⟨he,.inr h1⟩,rfl⟩
theorem elL_0 (el0:List (Int × Nat)) (ks:List Int):elL el0 [] ks el0:=fun e=>⟨fun h=>⟨h,.inl List.not_mem_nil⟩,And.left⟩
theorem flat_set_at (tc:List (Option (Nat × List Int))) {t b:Nat} {k1:List Int} (h:t<tc.length):(flat wM (tc.set t (some (b,k1))))[t*1]?=some (.map (some b)):=
  yZ (off:=0) qH (List.getElem?_set_self h) rfl
theorem eR {tc:List (Option (Nat × List Int))} {t b:Nat} {k1:List Int} (ht:t<tc.length) (h:(flat wM tc)[t*1]?=some (.map (some b))):flat wM (tc.set t (some (b,k1)))=flat wM tc:=by
  have h1:tc[t]?=some tc[t]:=List.getElem?_eq_getElem ht
  have h2:(flat wM tc)[t*1]?=some (mvO tc[t]):=yZ (off:=0) qH h1 (by rw [lF];rfl)
  rw [h] at h2
  have h3:wM (some (b,k1))=wM tc[t]:=by
    rw [lF,lF,←Option.some.inj h2]
    rfl
  unfold Fw.flat
  rw [List.flatMap_def,List.flatMap_def,List.map_set,h3]
  congr 1
  exact gF (by rw [List.getElem?_map,h1];rfl)
theorem mvO_n:mvO none= .map none:=rfl
theorem mvO_s (b:Nat) (ks:List Int):mvO (some (b,ks))= .map (some b):=rfl
theorem sko_s (b:Nat) (ks:List Int):sko (some (b,ks))=sk b ks:=rfl
theorem gC (bs:List (Option (Nat × List Int))) (j b:Nat) (ks:List Int):(bs.map sko).set j (sk b ks)=(bs.set j (some (b,ks))).map sko:=by rw [List.map_set];rfl
theorem mset_a {k1 k2 ks:List Int} (h:∀x,x∈k1↔x∈ks) (x:Int):x∈k1↔x∈ks∧((none:Option (Nat × List Int))=none∨x∈k2):=by
  rw [h]
  exact ⟨fun h=>⟨h,.inl rfl⟩,And.left⟩
section
attribute [local irreducible] Code.wp wpList Calls Ex Op1 sat bat blk cb own Go.Fw.mp Go.Fw.mpO Go.Fw.mpI Go.Fw.mpE Go.Fw.itr HS Rd Ret wkD Hp Cl Cls Exit.then Exit.inBlock Exit.noGoto bodyPost Go.Fw.flat wk2 Go.Fw.all Go.Fw.owns wpOp
attribute [local irreducible] sk mpK sko mvO xI

theorem meet_spec (w0 w:World) (H:List It) (c:Ck) (bC bW t:Nat) (p:Int) (ks:List Int) (tc th:List (Option (Nat × List Int))) (st:Option (Nat × List Int))
    (hH:HS w0 noM (cb bC 112 (wU c p)::own 109 1 c.oT c.nT c.cT (flat wM (tc))::all (th.map sko)::sk bW ks::H) w) (hn:c.nT=th.length) (hn2:tc.length=th.length) (ht:t<th.length) (hst:th[t]?=some st) (hc:(flat wM tc)[t*1]?=some (mvO st)) :
    Ret Tryz.prog 64 #[.pointer (some (bat bC 0)),.int .i64 t,.map (some bW)] w (fun v w'=>∃b' ks',(∀x,x∈ks'↔x∈ks∧(st=none∨x∈kso st))∧
      HS w0 noM (cb bC 112 (wU c p)::own 109 1 c.oT c.nT c.cT (flat wM (tc.set t (some (b',ks'))))::all ((th.set t (some (b',ks'))).map sko)::sk bW ks::H) w'):=by
  have hspT:Sp c.oT c.nT:=hH.own_sp (T:=109) (.tail _ (.head _))
  have htm:t<(th.map sko).length:=by rw [List.length_map];exact ht
  have hsm:(th.map sko)[t]?=some (sko st):=by rw [List.getElem?_map,hst];rfl
  have hH1:=(hH.up 2 rfl).openAt hsm
  clear hH
  dsimp only [List.eraseIdx_cons_succ,List.eraseIdx_cons_zero] at hH1
  rcases st with _| ⟨b0,k0⟩
  · rw [mvO_n] at hc
    have hH:=hH1.tail
    clear hH1
    (refine ENT (N:=61) Tryz.func64 Tryz.ntmps64 ?_;intro a hA)
    repeat' (first|(refine XT ?_;apply XE;(first|(apply fJ;rfl;rfl)|(apply zE;rfl;rfl;omega;exact hspT)|(apply zC;rfl;apply uD (T:=109);exact MEMT;exact hc));clear hA a;intro a hA)|(refine QT ?_;clear hA a;intro a hA)|refine CT ?_|fail)
    (refine zH hA rfl rfl (by decide) (wH hH) ?_;clear hA hH;rintro _ w ⟨b',rfl,hH⟩ a hA)
    have htb:t*1<tc.length:=by omega
    repeat' (first|(refine XT ?_;apply XE;(first|(apply zE;rfl;rfl;omega;exact hspT));clear hA a;intro a hA)|(refine QT ?_;clear hA a;intro a hA)|(apply zO hA rfl rfl;apply bH (enc:=wM) (y0:=some (b',[]));rfl;rfl;rfl;rfl;exact qH;exact hH;(repeat constructor);exact htb;clear hH;rintro _ w hH)|refine CT ?_|fail)
    rw [Nat.mul_one] at hH
    have hv:=flat_set_at tc (b:=b') (k1:=[]) (show t<tc.length by omega)
    have hsk:sk bW ks∈sk b' []::all ((th.map sko).eraseIdx t)::cb bC 112 (wU c p)::own 109 1 c.oT c.nT c.cT (flat wM (tc.set t (some (b',[]))))::sk bW ks::H:=by exact MEMT
    obtain ⟨el,clock,hel,hok,hop⟩:=hH.openK hsk
    replace hH:=hop _ (by (repeat constructor))
    clear hop hsk
    (refine zH hA rfl rfl (by decide) (dJ rfl hH (by exact MEMT)) ?_;clear hA hH;rintro _ w ⟨r,rfl,hH⟩ a hA)
    repeat' (first|(refine QT ?_;clear hA a;intro a hA)|refine CT ?_|fail)
    refine yK (S:=List (Int × Nat)) (fun dn a w=>∃ks',(dn.Nodup∧(∀e∈dn,e∈el)∧∀x,x∈ks'↔x∈dn.map (·.1))∧HS w0 noM (sk b' ks'::itr r bW clock (dn.map (·.2))::mpK bW el clock::cb bC 112 (wU c p)::own 109 1 c.oT c.nT c.cT (flat wM (tc.set t (some (b',[]))))::all ((th.map sko).eraseIdx t)::H) w∧
        Sl 61 [(24,.pointer (some (bat r 0))),(0,.pointer (some (bat bC 0))),(1,.int .i64 t)] a) (fun dn=>el.length - dn.length)
      (fun a w=>∃ks',(∀x,x∈ks'↔x∈ks)∧HS w0 noM (sk b' ks'::sk bW ks::cb bC 112 (wU c p)::own 109 1 c.oT c.nT c.cT (flat wM (tc.set t (some (b',[]))))::all ((th.map sko).eraseIdx t)::H) w∧Sl 61 [] a) [] ⟨[],⟨List.nodup_nil,fun e he=>absurd he List.not_mem_nil,fun x=>Iff.rfl⟩,hH.perm PMT,(hA.sub SBT)⟩ ?_ ?_
    · clear hA hH
      rintro dn a w ⟨ks',⟨hdn,hd,hks⟩,hH,hA⟩
      repeat' (first|(refine QT ?_;clear hA a;intro a hA)|refine CT ?_|fail)
      refine zH hA rfl rfl (by decide) (op_nextK rfl hH (by exact MEMT) (by exact MEMT) hok hd) ?_
      clear hA
      rintro _ w2 (⟨hall,rfl,hH⟩| ⟨e,he,hs,rfl,hup⟩) a hA
      · repeat' (first|(refine QT ?_;clear hA a;intro a hA)|refine CT ?_|fail)
        replace hH:=hH.shutK (b:=bW) hok (by (repeat constructor))
        rw [hel] at hH
        exact ⟨ks',fun x=>(hks x).trans (dn_mem hel hd hall x),hH.rm 1,(hA.sub SBT)⟩
      · have hlt:=done_lt hdn hd he hs
        clear hH
        have hH:=hup _ (by (repeat constructor))
        clear hup
        have ha:=dn_add (ks:=[]) (ks':=ks') hdn hd he hs (fun x=>by rw [hks];simp)
        repeat' (first|(refine XT ?_;apply XE;(first|(apply dW;rfl;exact MEMT;exact MEMT;exact hok;exact he)|(apply zE;rfl;rfl;omega;exact hspT)|(apply zC;rfl;apply uD (T:=109);exact MEMT;exact hv));clear hA a;intro a hA)|(refine QT ?_;clear hA a;intro a hA)|(apply zO hA rfl rfl;apply mR;rfl;rfl;rfl;exact hH;(repeat constructor);clear hH;rintro _ w hH)|refine CT ?_|fail)
        have hl:(dn++[e]).length=dn.length+1:=by rw [List.length_append];rfl
        exact ⟨dn++[e],⟨_,⟨ha.1,ha.2.1,fun x=>by rw [ha.2.2];simp⟩,hH,(hA.sub SBT)⟩,by omega⟩
    clear hA hH
    rintro a w ⟨ks',hks,hH,hA⟩
    repeat' (first|(refine QT ?_;clear hA a;intro a hA)|refine CT ?_|fail)
    refine rt0 (.inl rfl) rfl hA ⟨b',ks',mset_a hks,?_⟩
    rw [aN tc t b' ks' []]
    have hH2:=(hH.perm (H':=sk b' ks'::all ((th.map sko).eraseIdx t)::cb bC 112 (wU c p)::own 109 1 c.oT c.nT c.cT (flat wM (tc.set t (some (b',[]))))::sk bW ks::H) PMT).shutAt htm
    rw [gC] at hH2
    exact hH2.perm PMT
  · rw [mvO_s] at hc
    rw [sko_s] at hH1
    have hH:=hH1
    clear hH1
    have hfs:=fun k1=>eR (k1:=k1) (show t<tc.length by omega) hc
    (refine ENT (N:=61) Tryz.func64 Tryz.ntmps64 ?_;intro a hA)
    repeat' (first|(refine XT ?_;apply XE;(first|(apply fL;rfl;rfl)|(apply zE;rfl;rfl;omega;exact hspT)|(apply zC;rfl;apply uD (T:=109);exact MEMT;exact hc));clear hA a;intro a hA)|(refine QT ?_;clear hA a;intro a hA)|refine CT ?_|fail)
    obtain ⟨el0,clock,hel,hok0,hop⟩:=hH.openK (b:=b0) (ks:=k0) (.head _)
    replace hH:=hop _ (by (repeat constructor))
    clear hop
    (refine zH hA rfl rfl (by decide) (dJ rfl hH (by exact MEMT)) ?_;clear hA hH;rintro _ w ⟨r,rfl,hH⟩ a hA)
    repeat' (first|(refine QT ?_;clear hA a;intro a hA)|refine CT ?_|fail)
    refine yK (S:=List (Int × Nat)) (fun dn a w=>∃el,(dn.Nodup∧(∀e∈dn,e∈el0)∧elL el0 dn ks el∧ElK el clock)∧HS w0 noM (mpK b0 el clock::itr r b0 clock (dn.map (·.2))::sk bW ks::cb bC 112 (wU c p)::own 109 1 c.oT c.nT c.cT (flat wM (tc))::all ((th.map sko).eraseIdx t)::H) w∧
        Sl 61 [(44,.pointer (some (bat r 0))),(0,.pointer (some (bat bC 0))),(1,.int .i64 t),(2,.map (some bW))] a) (fun dn=>el0.length - dn.length)
      (fun a w=>∃ks',(∀x,x∈ks'↔x∈ks∧x∈k0)∧HS w0 noM (sk b0 ks'::sk bW ks::cb bC 112 (wU c p)::own 109 1 c.oT c.nT c.cT (flat wM (tc))::all ((th.map sko).eraseIdx t)::H) w∧Sl 61 [] a) [] ⟨el0,⟨List.nodup_nil,fun e he=>absurd he List.not_mem_nil,elL_0 _ _,hok0⟩,hH.perm PMT,(hA.sub SBT)⟩ ?_ ?_
    · clear hA hH
      rintro dn a w ⟨el,⟨hdn,hd,hll,hok⟩,hH,hA⟩
      repeat' (first|(refine QT ?_;clear hA a;intro a hA)|refine CT ?_|fail)
      refine zH hA rfl rfl (by decide) (op_nextKd rfl hH (by exact MEMT) (by exact MEMT) hok hok0 (fun e he=>((hll e).1 he).1) hd) ?_
      clear hA
      rintro _ w2 (⟨hall,rfl,hH⟩| ⟨e,he,hs,rfl,hup⟩) a hA
      · repeat' (first|(refine QT ?_;clear hA a;intro a hA)|refine CT ?_|fail)
        replace hH:=hH.shutK (b:=b0) hok (by (repeat constructor))
        exact ⟨_,elL_all hll hel hall,hH.rm 1,(hA.sub SBT)⟩
      · have he0:=((hll e).1 he).1
        have hlt:=done_lt hdn hd he0 hs
        clear hH
        have hH:=hup _ (by (repeat constructor))
        clear hup
        have ha:=dn_add (ks:=[]) (ks':=dn.map (·.1)) hdn hd he0 hs (fun x=>by simp)
        have hl:(dn++[e]).length=dn.length+1:=by rw [List.length_append];rfl
        repeat' (first|(refine XT ?_;apply XE;(first|(apply dW;rfl;exact MEMT;exact MEMT;exact hok;exact he)|(apply qQ;rfl;rfl;exact MEMT)|(apply zE;rfl;rfl;omega;exact hspT));clear hA a;intro a hA)|(refine QT ?_;clear hA a;intro a hA)|(first|(apply zO hA rfl rfl;apply op_delEl;rfl;rfl;exact hH;exact hok;(repeat constructor);clear hH;rintro _ w ⟨_,hH⟩)|(apply zH hA rfl rfl (by decide);apply op_delEl;rfl;rfl;exact hH;exact hok;(repeat constructor);clear hA hH;rintro _ w ⟨rfl,hH⟩ a hA))|refine CT ?_|(refine DT ?_ ?_<;>intro hc<;>try (exfalso;omega))|fail)
        · have hni:¬e.1∈ks:=by assumption
          exact ⟨dn++[e],⟨_,⟨ha.1,ha.2.1,elL_del hll hok0.keys he0 hni,elL_ok hll hok0 hok _⟩,hH,(hA.sub SBT)⟩,by omega⟩
        · have hi:e.1∈ks:=by assumption
          exact ⟨dn++[e],⟨_,⟨ha.1,ha.2.1,elL_keep hll hi,hok⟩,hH,(hA.sub SBT)⟩,by omega⟩
    clear hA hH
    rintro a w ⟨ks',hks,hH,hA⟩
    repeat' (first|(refine QT ?_;clear hA a;intro a hA)|fail)
    refine rt0 (.inr rfl) rfl hA ⟨b0,ks',fun x=>(hks x).trans (and_congr_right fun _=>⟨.inr,fun h=>h.resolve_left (fun h=>by cases h)⟩),?_⟩
    rw [hfs ks']
    have hH2:=(hH.perm (H':=sk b0 ks'::all ((th.map sko).eraseIdx t)::cb bC 112 (wU c p)::own 109 1 c.oT c.nT c.cT (flat wM (tc))::sk bW ks::H) PMT).shutAt htm
    rw [gC] at hH2
    exact hH2.perm PMT
end
theorem at_iff {g:Grs} {ks:List Int} {S:Int→Prop} {a:Atm} (hs:∀x,x∈ks↔S x):jK g ks a↔atS g S a:=by
  unfold jK atS
  rw [hs]
theorem at_of {g:Grs} {ks:List Int} {S:Int→Prop} {a:Atm} (hs:∀x,x∈ks↔S x) (h:jK g ks a):atS g S a:=(at_iff hs).1 h
def Sk (k0:List Int) (x:Int):Prop:=x∈k0
def rH (ss:List (Option (Nat × List Int))) (n:Nat):List Int:=kso ((ss[n]?).getD none)
def isA (ss:List (Option (Nat × List Int))) (n:Nat):Prop:=((ss[n]?).getD none).isSome=true
structure ThR (th:List (Option (Nat × List Int))) (S:Int→Prop) (l:List Edg) (th':List (Option (Nat × List Int))):Prop where
  len:th'.length=th.length
  come:∀t∈l,∀m:Nat,t.b=m→isA th' m∧∀x∈rH th' m,S x
  sub:∀m x,x∈rH th' m→(isA th m→x∈rH th m)∧(¬isA th m→S x)
  keep:∀m,isA th m→isA th' m
  from_:∀m:Nat,isA th' m→isA th m∨∃t∈l,t.b=(m:Int)
  all_:∀(m:Nat) (x:Int),isA th' m→(isA th m→x∈rH th m)→((∃t∈l,t.b=(m:Int))→S x)→x∈rH th' m
theorem thR_0 (th:List (Option (Nat × List Int))) (S:Int→Prop):ThR th S [] th:=
  ⟨rfl,fun t ht=>absurd ht List.not_mem_nil,fun m x h=>⟨fun _=>h,fun hn=>(by
    unfold isA at hn
    unfold rH at h
    cases h2:(th[m]?).getD none with
    |none=>rw [h2] at h;exact absurd h List.not_mem_nil
    |some p=>rw [h2] at hn;exact absurd rfl hn)⟩,fun m h=>h,fun m h=>.inl h,fun m x hi h _=>h hi⟩
theorem setA_set {th:List (Option (Nat × List Int))} {t:Nat} (ht:t<th.length) (y:Option (Nat × List Int)) (m:Nat):((th.set t y)[m]?).getD none=if m=t then y else (th[m]?).getD none:=by
  by_cases h:m=t
  · subst h
    rw [if_pos rfl,List.getElem?_set_self ht]
    rfl
  · rw [if_neg h,List.getElem?_set_ne (fun e=>h e.symm)]
theorem thR_next {th th1:List (Option (Nat × List Int))} {S:Int→Prop} {l:List Edg} {t:Edg} {m:Nat} {b:Nat} {ks ks':List Int} {st:Option (Nat × List Int)} (h:ThR th S l th1) (htb:t.b=m) (hm:m<th1.length) (hst:th1[m]?=some st) (hks:∀x,x∈ks↔S x)
    (hk:∀x,x∈ks'↔x∈ks∧(st=none∨x∈kso st)):ThR th S (l++[t]) (th1.set m (some (b,ks'))):=by
  have hg:=setA_set hm (some (b,ks'))
  have hsA:rH th1 m=kso st:=by unfold rH;rw [hst];rfl
  have hiA:isA th1 m↔st.isSome=true:=by unfold isA;rw [hst];exact Iff.rfl
  refine ⟨by rw [List.length_set];exact h.len,fun t' ht' m' hm'=>?_,fun m' x hx=>?_,fun m' hi=>?_,fun m' hi=>?_,fun m' x hi h1 h2=>?_⟩
  · unfold isA rH
    rw [hg]
    by_cases he:m'=m
    · rw [if_pos he]
      exact ⟨rfl,fun x hx=>(hks x).1 ((hk x).1 hx).1⟩
    · rw [if_neg he]
      rcases List.mem_append.1 ht' with h1|h1
      · exact h.come t' h1 m' hm'
      · rw [List.mem_singleton] at h1
        subst h1
        exact absurd (by omega) he
  · unfold rH at hx
    rw [hg] at hx
    by_cases he:m'=m
    · rw [if_pos he] at hx
      subst he
      have h1:=(hk x).1 hx
      have hS:S x:=(hks x).1 h1.1
      refine ⟨fun hi=>?_,fun _=>hS⟩
      have h2:st.isSome=true:=hiA.1 (h.keep _ hi)
      have h3:x∈kso st:=h1.2.resolve_left (fun e=>(by rw [e] at h2;cases h2))
      exact (h.sub m' x (by rw [hsA];exact h3)).1 hi
    · rw [if_neg he] at hx
      exact h.sub m' x hx
  · unfold isA
    rw [hg]
    by_cases he:m'=m
    · rw [if_pos he];rfl
    · rw [if_neg he];exact h.keep m' hi
  · unfold isA at hi
    rw [hg] at hi
    by_cases he:m'=m
    · exact .inr ⟨t,List.mem_append_right _ (.head _),by omega⟩
    · rw [if_neg he] at hi
      exact (h.from_ m' hi).imp id fun ⟨t',h1,h2⟩=>⟨t',List.mem_append_left _ h1,h2⟩
  · unfold rH
    rw [hg]
    by_cases he:m'=m
    · rw [if_pos he]
      subst he
      have hS:S x:=h2 ⟨t,List.mem_append_right _ (.head _),htb⟩
      refine (hk x).2 ⟨(hks x).2 hS,?_⟩
      cases hst2:st with
      |none=>exact .inl rfl
      | some p=>
        refine .inr ?_
        have h3:=h.all_ m' x (hiA.2 (by rw [hst2];rfl)) h1 fun _=>hS
        rw [hsA,hst2] at h3
        exact h3
    · rw [if_neg he]
      refine h.all_ m' x ?_ h1 fun ⟨t',h3,h4⟩=>h2 ⟨t',List.mem_append_left _ h3,h4⟩
      unfold isA at hi ⊢
      rw [hg,if_neg he] at hi
      exact hi
theorem bT {l:List Int} (hn:l.Nodup) (hr:∀x∈l,2≤x∧x≤1048576):l.length≤1048577:=by
  have key:∀{l m:List Int},l.Nodup→(∀x∈l,x∈m)→l.length≤m.length:=by
    intro l
    induction l with
    |nil=>intro m _ _;exact Nat.zero_le _
    | cons x l ih=>
      intro m hn hs
      have hx:=hs x (.head _)
      have:=ih (m:=m.erase x) (List.nodup_cons.1 hn).2 fun y hy=>(List.mem_erase_of_ne fun (e:y=x)=>(List.nodup_cons.1 hn).1 (e▸hy)).2 (hs y (.tail _ hy))
      rw [List.length_erase_of_mem hx] at this
      have:=List.length_pos_of_mem hx
      rw [List.length_cons]
      omega
  have:=key (m:=(List.range 1048577).map fun k:Nat=>(k:Int)) hn fun x hx=>by
    have h1:=hr x hx
    exact List.mem_map.2 ⟨x.toNat,List.mem_range.2 (by omega),by omega⟩
  rw [List.length_map,List.length_range] at this
  exact this
theorem EvOk.add {es:List Int} {x:Int} (h:EvOk es) (hb:qZ es x):EvOk (es++[x]):=by
  refine ⟨List.nodup_append.2 ⟨h.nd,List.nodup_cons.2 ⟨List.not_mem_nil,List.nodup_nil⟩,fun a ha b hb' e=>?_⟩,fun y hy=>?_⟩
  · rw [List.mem_singleton] at hb'
    subst hb'
    exact hb.2.2 (e▸ha)
  · rcases List.mem_append.1 hy with h1|h1
    · exact h.rg y h1
    · rw [List.mem_singleton] at h1
      subst h1
      exact ⟨hb.1,hb.2.1⟩
theorem EvOk.le {es:List Int} (h:EvOk es):es.length≤1048577:=bT h.nd h.rg
theorem gR {l:List Ins} {j:Nat} {x:Ins} (h:l[j]?=some x):(l.take (j+1)).map Ins.x=(l.take j).map Ins.x++[x.x]:=by rw [yU h,List.map_append];rfl
theorem now_ps {k0 ks:List Int} {l:List Int} {j:Nat} {x:Int} (hx:l[j]?=some x) (h:∀y,y∈ks↔y∈k0∨y∈l.take j) (y:Int):y∈sG ks x↔y∈k0∨y∈l.take (j+1):=by
  rw [wE,h,yU hx,List.mem_append,List.mem_singleton,or_assoc]
theorem now_0 {k0 ks:List Int} {bl:Blc} (h:∀y,y∈ks↔y∈k0∨y∈bl.ps.l) (y:Int):y∈ks↔vH (Sk k0) bl 0 y:=by
  rw [h]
  unfold vH Sk
  rw [List.take_zero]
  simp
theorem now_next {k0 ks:List Int} {bl:Blc} {i:Nat} {x:Ins} (hx:bl.is.l[i]?=some x) (h:∀y,y∈ks↔vH (Sk k0) bl i y) (y:Int):y∈sG ks x.x↔vH (Sk k0) bl (i+1) y:=by
  rw [wE,h]
  unfold vH
  rw [gR hx,List.mem_append,List.mem_singleton,or_assoc,or_assoc]
theorem sub_st (x:Ins) (i:Nat) (v:Value) (h:(yG x.r)[i]?=some v):(xK x)[0+1+i]?=some v:=by rw [Nat.zero_add,Nat.add_comm];exact h
theorem sub_en (b:Blc) (i:Nat) (v:Value) (h:(wO b.e)[i]?=some v):(yE b)[0+2+i]?=some v:=by rw [Nat.zero_add,Nat.add_comm];exact h
theorem blk_at {l:List Blc} {k:Nat} (h:k<l.length):(flat yE l)[k*6+0]?=some (.slice (l.getD k wR).ps.o (l.getD k wR).ps.l.length (l.getD k wR).ps.c):=by
  refine yZ (off:=0) uL (List.getElem?_eq_getElem h) ?_
  rw [List.getD_eq_getElem?_getD,List.getElem?_eq_getElem h]
  rfl
theorem eds_next {P:Edg→Prop} {l:List Edg} {j:Nat} {t:Edg} (ht:l[j]?=some t) (h:∀t∈l.take j,P t) (hp:P t):∀t∈l.take (j+1),P t:=by
  intro s hs
  rw [yU ht] at hs
  rcases List.mem_append.1 hs with h1|h1
  · exact h s h1
  · rw [List.mem_singleton] at h1
    exact h1▸hp
theorem map_none (th:List (Option (Nat × List Int))) (n:Nat):(th.map sko).set n (all [])=(th.set n none).map sko:=by rw [List.map_set];rfl
theorem ev_ps {es:List Int} {l:List Int} {j:Nat} {x:Int} (hx:l[j]?=some x):es++l.take j++[x]=es++l.take (j+1):=by rw [yU hx,List.append_assoc]
theorem ev_is {es q:List Int} {l:List Ins} {j:Nat} {x:Ins} (hx:l[j]?=some x):es++q++(l.take j).map Ins.x++[x.x]=es++q++(l.take (j+1)).map Ins.x:=by rw [gR hx,List.append_assoc]
theorem ev_end (es:List Int) (bl:Blc):es++bl.ps.l++(bl.is.l.take bl.is.l.length).map Ins.x=es++bvs bl:=by rw [List.take_length,List.append_assoc];rfl
theorem ins_next {g:Grs} {f:Gr} {la k0 ks:List Int} {bl:Blc} {i:Nat} {x:Ins} (hx:bl.is.l[i]?=some x) (h:∀k x,bl.is.l[k]?=some x→k<i→FormP g la f.caps x.r∧∀a∈x.r.a.l,atS g (vH (Sk k0) bl k) a) (hks:∀y,y∈ks↔vH (Sk k0) bl i y) (hF:FormP g la f.caps x.r) (ha:∀a∈x.r.a.l,jK g ks a) :
    ∀k x,bl.is.l[k]?=some x→k<i+1→FormP g la f.caps x.r∧∀a∈x.r.a.l,atS g (vH (Sk k0) bl k) a:=by
  intro k y hk hlt
  by_cases he:k=i
  · subst he
    rw [hx] at hk
    cases hk
    exact ⟨hF,fun a hay=>at_of hks (ha a hay)⟩
  · exact h k y hk (by omega)
def jC (l:List Ins):Nat:=(l.map fun i=>1+i.r.a.l.length).sum
def fV (l:List Edg):Nat:=(l.map fun t=>1+t.a.l.length).sum
theorem lL (bl:Blc):sL bl=2+bl.ps.l.length+jC bl.is.l+bl.e.a.l.length+fV bl.e.to.l:=rfl
theorem dN {l:List Ins} {i:Nat} {x:Ins} (h:l[i]?=some x):jC (l.take (i+1))=jC (l.take i)+1+x.r.a.l.length:=by
  unfold jC
  rw [yU h,List.map_append,List.sum_append]
  simp;omega
theorem dY {l:List Edg} {i:Nat} {x:Edg} (h:l[i]?=some x):fV (l.take (i+1))=fV (l.take i)+1+x.a.l.length:=by
  unfold fV
  rw [yU h,List.map_append,List.sum_append]
  simp;omega
theorem rK (l:List Nat) (i:Nat):(l.take i).sum≤l.sum:=by
  have h:=congrArg List.sum (List.take_append_drop i l)
  rw [List.sum_append] at h
  omega
theorem insN_le (l:List Ins) (i:Nat):jC (l.take i)≤jC l:=by
  unfold jC
  rw [List.map_take]
  exact rK _ _
theorem edgN_le (l:List Edg) (i:Nat):fV (l.take i)≤fV l:=by
  unfold fV
  rw [List.map_take]
  exact rK _ _
theorem insN_at {l:List Ins} {i:Nat} {x:Ins} (h:l[i]?=some x):jC (l.take i)+1+x.r.a.l.length≤jC l:=by
  rw [←dN h];exact insN_le l _
theorem edgN_at {l:List Edg} {i:Nat} {x:Edg} (h:l[i]?=some x):fV (l.take i)+1+x.a.l.length≤fV l:=by
  rw [←dY h];exact edgN_le l _
structure BlkC (g:Grs) (f:Gr) (la:List Int) (n:Nat) (bl:Blc) (th:List (Option (Nat × List Int))) (es:List Int) (p:Int):Prop where
  come:isA th n
  blk:BlkP g f la n bl (Sk (rH th n))
  ev:EvOk (es++bvs bl)
  size:p+sL bl≤65536
theorem ev_bind {a b:List Int} {x:Int} (h:EvOk (a++x::b)):qZ a x:=by
  have h1:=h.rg x (List.mem_append_right _ (.head _))
  refine ⟨h1.1,h1.2,fun hx=>?_⟩
  have h2:=(List.nodup_append.1 h.nd).2.2 x hx x (.head _)
  exact h2 rfl
theorem ev_ps_no {es:List Int} {bl:Blc} {j:Nat} {x:Int} (hx:bl.ps.l[j]?=some x) (h:EvOk (es++bvs bl)):qZ (es++bl.ps.l.take j) x:=by
  have e:es++bvs bl=(es++bl.ps.l.take j)++x::(bl.ps.l.drop (j+1)++bl.is.l.map Ins.x):=by
    have h1:bl.ps.l=bl.ps.l.take j++x::bl.ps.l.drop (j+1):=by
      obtain ⟨hj,rfl⟩:=List.getElem?_eq_some_iff.1 hx
      rw [List.getElem_cons_drop,List.take_append_drop]
    unfold bvs
    conv=>lhs;rw [h1]
    simp
  rw [e] at h
  exact ev_bind h
theorem ev_is_no {es:List Int} {bl:Blc} {j:Nat} {x:Ins} (hx:bl.is.l[j]?=some x) (h:EvOk (es++bvs bl)):qZ (es++bl.ps.l++(bl.is.l.take j).map Ins.x) x.x:=by
  have e:es++bvs bl=(es++bl.ps.l++(bl.is.l.take j).map Ins.x)++x.x::(bl.is.l.drop (j+1)).map Ins.x:=by
    have h1:bl.is.l=bl.is.l.take j++x::bl.is.l.drop (j+1):=by
      obtain ⟨hj,rfl⟩:=List.getElem?_eq_some_iff.1 hx
      rw [List.getElem_cons_drop,List.take_append_drop]
    unfold bvs
    conv=>lhs;rw [h1]
    simp
  rw [e] at h
  exact ev_bind h
theorem ats_of {g:Grs} {ks:List Int} {S:Int→Prop} {p:Int} {l:List Atm} (hs:∀x,x∈ks↔S x) (h:∀a∈l,atS g S a) (hp:p+l.length≤65536):cJ g ks p l:=⟨fun a ha=>(at_iff hs).2 (h a ha),.inr hp⟩
section
attribute [local irreducible] Code.wp wpList Calls Ex Op1 sat bat blk cb own Go.Fw.mp Go.Fw.mpO Go.Fw.mpI Go.Fw.mpE Go.Fw.itr HS Rd Ret wkD Hp Cl Cls Exit.then Exit.inBlock Exit.noGoto bodyPost Go.Fw.flat wk2 Go.Fw.all Go.Fw.owns wpOp
attribute [local irreducible] sk mpK sko mvO xI jK atS vH

theorem block_spec (w0 w:World) (H:List It) (c:Ck) (bC n:Nat) (p:Int) (es la:List Int) (tc th:List (Option (Nat × List Int))) (bl:Blc) (hH:HS w0 noM (cb bC 112 (wU c (p))::sk c.bE es::own 109 1 c.oT c.nT c.cT (flat wM (tc))::all (th.map sko)::H) w) (hm:own 3 1 c.oA c.nA c.cA (flat Fw.encI la)∈H) (hla:c.nA=la.length) (hla9:la.length≤9223372036854775807)
    (hR:RdG w0 c.f) (hbl:c.f.bs.l[n]?=some bl) (hto:bl.e.to.l.length≤1048576) (hn:c.nT=th.length) (hn2:tc.length=th.length) (hn3:th.length=c.f.bs.l.length) (hag:∀m,n≤m→tc[m]?=th[m]?) (hp0:0≤p) (hp1:p≤65536) (hev:EvOk es) :
    Ret Tryz.prog 33 #[.pointer (some (bat bC 0)),.int .i64 n] w (fun v w'=>(v= .bool false∧¬BlkC c.g c.f la n bl th es p∧HS w0 noM H w')∨
      (v= .bool true∧BlkC c.g c.f la n bl th es p∧∃tc' th',ThR (th.set n none) (vH (Sk (rH th n)) bl bl.is.l.length) bl.e.to.l th'∧tc'.length=tc.length∧(∀m,n<m→tc'[m]?=th'[m]?)∧
        HS w0 noM (cb bC 112 (wU c (p+(sL bl:Int)))::sk c.bE (es++bvs bl)::own 109 1 c.oT c.nT c.cT (flat wM (tc'))::all (th'.map sko)::H) w')):=by
  have hnl:=(List.getElem?_eq_some_iff.1 hbl).1
  have hbR:=hR.2 bl (List.mem_of_getElem? hbl)
  have hle:=hR.1.le
  have hlp:=hbR.1.le
  have hli:=hbR.2.1.le
  have hsp:Sp c.f.bs.o c.f.bs.l.length:=hR.1.1.sp (sz:=6) (zF uL _) (by omega)
  have hspP:Sp bl.ps.o bl.ps.l.length:=hbR.1.1.sp (sz:=1) (zF Fw.encI_len _) (by omega)
  have hspI:Sp bl.is.o bl.is.l.length:=hbR.2.1.1.sp (sz:=5) (zF sX _) (by omega)
  have hspT:Sp c.oT c.nT:=hH.own_sp (T:=109) (.tail _ (.tail _ (.head _)))
  have hvs:=yA uL hbl
  obtain ⟨st,hst⟩:∃st,th[n]?=some st:=⟨_,List.getElem?_eq_getElem (by omega)⟩
  have htn:n<(th.map sko).length:=by rw [List.length_map];omega
  have hsm:(th.map sko)[n]?=some (sko st):=by rw [List.getElem?_map,hst];rfl
  have htc:tc[n]?=some st:=(hag n (Nat.le_refl _)).trans hst
  have hvT:(flat wM tc)[n*1]?=some (mvO st):=yZ (off:=0) qH htc (by rw [lF];rfl)
  (refine ENT (N:=190) Tryz.func33 Tryz.ntmps33 ?_;intro a hA)
  repeat' (first|(refine QT ?_;clear hA a;intro a hA)|refine CT ?_|fail)
  have hST:HS w0 noM [cb bC 112 (wU c (p)),own 109 1 c.oT c.nT c.cT (flat wM (tc))] w:=HS.left (H1:=[_,_]) (H2:=sk c.bE es::all (th.map sko)::H) (hH.perm PMT)
  (refine zQ (H:=[_,_]) [(0,1),(1,1),(2,1),(3,1),(4,1),(5,1),(6,1),(7,1),(8,1),(9,1),(10,1),(11,1),(12,1),(13,1),(14,1),(15,0),(16,0),(17,1)] mixed (by decide +kernel) (hST) ?_;replace hH:=hH.drew)
  clear hST
  repeat' (first|(refine XT ?_;apply XE;(first|(apply zG (vs:=yE bl);rfl;rfl;exact yV hR.1.1 id hvs)|(apply zE;rfl;rfl;omega;exact hspT)|(apply zE;rfl;rfl;omega;exact hsp)|(apply zC;rfl;apply uD (T:=109);exact MEMT;exact hvT));clear hA a;intro a hA)|(refine QT ?_;clear hA a;intro a hA)|fail)
  (apply yO hA rfl rfl rfl (by decide);apply wD;exact hH;clear hA hH;rintro _ w ⟨bN,rfl,hH⟩;refine ⟨HS.left (H1:=[_,_]) (H2:=sk c.bE es::all (th.map sko)::H) (hH.tail.perm PMT),?_⟩;intro a hA)
  (apply aV hA rfl rfl rfl;apply yP (vs:=yE bl);rfl;rfl;exact hH;(repeat constructor);(repeat rfl);clear hH;rintro _ w hH;refine ⟨HS.left (H1:=[_,_]) (H2:=sk c.bE es::all (th.map sko)::H) (hH.tail.perm PMT),?_⟩)
  rcases st with _| ⟨bW,k0⟩
  · rw [mvO_n] at hA
    repeat' (first|(refine GT ?_ ?_<;>intro hg<;>clear hA a<;>intro a hA<;>(first|exact FA|replace hg:=dTr hg|replace hg:=dFa hg|skip))|(refine XT ?_;apply XE;(first|(apply fJ;rfl;rfl));clear hA a;intro a hA)|(refine QT ?_;clear hA a;intro a hA)|refine CT ?_|fail)
    exact rt1 (.inl rfl) rfl hA rfl (.inl ⟨rfl,fun h=>(by have h1:=h.come;unfold isA at h1;rw [hst] at h1;cases h1),hH.tail.tail.tail.tail.tail⟩)
  rw [mvO_s] at hA
  have hS0:rH th n=k0:=by unfold rH;rw [hst];rfl
  have hi0:isA th n:=by unfold isA;rw [hst];rfl
  obtain ⟨b5,hb5⟩:∃x,x=bN:=⟨_,rfl⟩
  rw [←hb5] at hA hH
  clear hb5 bN
  (first|(apply fW hA rfl rfl rfl (by decide) rfl (xC rfl)<;>intro hg<;>clear hA a<;>intro a hA<;>(first|(replace hg:=dTr hg;try (exfalso;omega))|(replace hg:=dFa hg;try (exfalso;omega))|(exact absurd hg (by decide))|skip))|(apply fX hA rfl rfl rfl (by decide);(first|(apply xC;rfl)|(apply wJ;rfl)|exact EXT);clear hA a;intro a hA)|(apply lH hA rfl rfl rfl (by decide);clear hA a;intro a hA)|(apply kK hA rfl rfl rfl (by decide);(first|(apply xC;rfl)|(apply wJ;rfl)|exact EXT);clear hA a;intro a hA)|(apply kL hA hH rfl rfl rfl (by decide);(first|(apply xC;rfl)|(apply wJ;rfl)|exact EXT);clear hA a;intro a hA)|(apply pU hA rfl rfl rfl (by decide);clear hA a;intro a hA)|apply kJ|apply nK|apply nJ)
  (first|(apply fW hA rfl rfl rfl (by decide) rfl (xC rfl)<;>intro hg<;>clear hA a<;>intro a hA<;>(first|(replace hg:=dTr hg;try (exfalso;omega))|(replace hg:=dFa hg;try (exfalso;omega))|(exact absurd hg (by decide))|skip))|(apply fX hA rfl rfl rfl (by decide);(first|(apply xC;rfl)|(apply wJ;rfl)|exact EXT);clear hA a;intro a hA)|(apply lH hA rfl rfl rfl (by decide);clear hA a;intro a hA)|(apply kK hA rfl rfl rfl (by decide);(first|(apply xC;rfl)|(apply wJ;rfl)|exact EXT);clear hA a;intro a hA)|(apply kL hA hH rfl rfl rfl (by decide);(first|(apply xC;rfl)|(apply wJ;rfl)|exact EXT);clear hA a;intro a hA)|(apply pU hA rfl rfl rfl (by decide);clear hA a;intro a hA)|apply kJ|apply nK|apply nJ)
  repeat refine CT ?_
  refine oW (fun a w=>(n=0→bl.ps.l=[])∧HS w0 noM (cb b5 53 (yE bl)::cb bC 112 (wU c (p))::sk c.bE es::own 109 1 c.oT c.nT c.cT (flat wM (tc))::all (th.map sko)::H) w∧Sl 190 [(5,.pointer (some (bat b5 0))),(6,.map (some bW)),(0,.pointer (some (bat bC 0))),(1,.int .i64 n)] a) ?_ ?_
  · repeat' (first|(refine GT ?_ ?_<;>intro hg<;>clear hA a<;>intro a hA<;>(first|exact FA|replace hg:=dTr hg|replace hg:=dFa hg|skip))|(refine XT ?_;apply XE;(first|(apply fL;rfl;rfl));clear hA a;intro a hA)|(refine QT ?_;clear hA a;intro a hA)|refine CT ?_|(refine DT ?_ ?_<;>intro hc<;>try (exfalso;omega))|fail)
    · exact rt1 (.inl rfl) rfl hA rfl (.inl ⟨rfl,fun h=>absurd (congrArg List.length (h.blk.first (by omega))) (by show ¬bl.ps.l.length=0;omega),hH.tail.tail.tail.tail.tail⟩)
    · exact ⟨fun _=>List.length_eq_zero_iff.1 (by omega),hH,(hA.sub SBT)⟩
    · exact ⟨fun h=>(by omega),hH,(hA.sub SBT)⟩
  clear hA hH
  rintro a w ⟨hfirst,hH,hA⟩
  have hH1:=(hH.up 4 rfl).openAt hsm
  clear hH
  dsimp only [List.eraseIdx_cons_succ,List.eraseIdx_cons_zero] at hH1
  rw [sko_s] at hH1
  have hH:=(hH1.nil_all.perm (H':=all []::all ((th.map sko).eraseIdx n)::cb bC 112 (wU c (p))::sk c.bE es::sk bW k0::own 109 1 c.oT c.nT c.cT (flat wM (tc))::cb b5 53 (yE bl)::H) PMT).shutAt htn
  clear hH1
  rw [map_none] at hH
  obtain ⟨th0,hth0⟩:∃x,x=th.set n none:=⟨_,rfl⟩
  rw [←hth0] at hH
  have hl0:th0.length=th.length:=by rw [hth0,List.length_set]
  have hag0:∀m,n<m→tc[m]?=th0[m]?:=fun m hm=>by rw [hth0,List.getElem?_set_ne (by omega)];exact hag m (by omega)
  replace hH:=hH.perm (H':=cb bC 112 (wU c (p))::sk c.bE es::sk bW k0::own 109 1 c.oT c.nT c.cT (flat wM (tc))::all (th0.map sko)::cb b5 53 (yE bl)::H) PMT
  repeat' (first|(refine QT ?_;clear hA a;intro a hA)|(apply zO hA rfl rfl;apply zB (cs':=wU c (p+2));rfl;rfl;rfl;exact hH;(repeat constructor);clear hH;rintro _ w hH)|refine CT ?_|fail)
  refine yK (S:=Nat) (fun j a w=>∃ks,(j≤bl.ps.l.length∧EvOk (es++bl.ps.l.take j)∧∀y,y∈ks↔y∈k0∨y∈bl.ps.l.take j)∧HS w0 noM (cb bC 112 (wU c (p+2+(j:Int)))::sk c.bE (es++bl.ps.l.take j)::sk bW ks::own 109 1 c.oT c.nT c.cT (flat wM (tc))::all (th0.map sko)::cb b5 53 (yE bl)::H) w∧
      Sl 190 [(50,.int .i64 j),(49,.int .i64 bl.ps.l.length),(48,.slice bl.ps.o bl.ps.l.length bl.ps.c),(5,.pointer (some (bat b5 0))),(6,.map (some bW)),(0,.pointer (some (bat bC 0))),(1,.int .i64 n)] a) (fun j=>bl.ps.l.length - j)
    (fun a w=>∃ks,(EvOk (es++bl.ps.l)∧∀y,y∈ks↔y∈k0∨y∈bl.ps.l)∧HS w0 noM (cb bC 112 (wU c (p+2+(bl.ps.l.length:Int)))::sk c.bE (es++bl.ps.l)::sk bW ks::own 109 1 c.oT c.nT c.cT (flat wM (tc))::all (th0.map sko)::cb b5 53 (yE bl)::H) w∧
      Sl 190 [(5,.pointer (some (bat b5 0))),(6,.map (some bW)),(0,.pointer (some (bat bC 0))),(1,.int .i64 n)] a) 0 ⟨k0,⟨Nat.zero_le _,(by rw [List.take_zero,List.append_nil];exact hev),(fun y=>by rw [List.take_zero];simp)⟩,(by rw [List.take_zero,List.append_nil,show p+2+((0:Nat):Int)=p+2 by omega];exact hH),(hA.sub SBT)⟩ ?_ ?_
  · clear hA hH
    rintro j a w ⟨ks,⟨hj,hev1,hks⟩,hH,hA⟩
    by_cases hlt:j<bl.ps.l.length
    rotate_left
    · obtain rfl:j=bl.ps.l.length:=by omega
      rw [List.take_length] at hev1 hks hH
      repeat' (first|(refine QT ?_;clear hA a;intro a hA)|refine CT ?_|(refine DT ?_ ?_<;>intro hc<;>try (exfalso;omega))|fail)
      exact ⟨ks,⟨hev1,hks⟩,hH,(hA.sub SBT)⟩
    obtain ⟨x,hx⟩:∃x,bl.ps.l[j]?=some x:=⟨_,List.getElem?_eq_getElem hlt⟩
    have hcx:(flat Fw.encI bl.ps.l)[j*1]?=some (.int .i64 x):=yZ (off:=0) Fw.encI_len hx rfl
    have hel:=hev1.le
    rw [List.length_append,List.length_take] at hel
    have hjb:(j:Int)≤1048577:=by omega
    have e1:p+2+(j:Int)+1=p+2+((j+1:Nat):Int):=by omega
    repeat' (first|(refine XT ?_;apply XE;(first|(apply zE;rfl;rfl;omega;exact hspP)|(apply zC;rfl;exact xP hbR.1.1 id hcx));clear hA a;intro a hA)|(refine QT ?_;clear hA a;intro a hA)|(apply zO hA rfl rfl;apply zB (cs':=wU c (p+2+(j:Int)+1));rfl;rfl;rfl;exact hH;(repeat constructor);clear hH;rintro _ w hH)|refine CT ?_|(refine DT ?_ ?_<;>intro hc<;>try (exfalso;omega))|fail)
    (refine zH hA rfl rfl (by decide) (zA rfl rfl rfl (cH w0 _ _ c bC bW _ _ _ x hH)) ?_;clear hA hH)
    rintro _ w (⟨hb,rfl,hH⟩| ⟨hb,rfl,hH⟩) a hA
    rotate_left
    · repeat' (first|(refine QT ?_;clear hA a;intro a hA)|refine CT ?_|fail)
      exact rt1 (.inl rfl) rfl hA rfl (.inl ⟨rfl,fun h=>hb (ev_ps_no hx h.ev),hH.tail.tail.tail.tail.tail.tail⟩)
    repeat' (first|(refine QT ?_;clear hA a;intro a hA)|refine CT ?_|fail)
    have hev2:=hev1.add hb
    rw [ev_ps hx] at hH hev2
    rw [e1] at hH
    exact ⟨j+1,⟨_,⟨hlt,hev2,now_ps hx hks⟩,hH,(hA.sub SBT)⟩,by omega⟩
  clear hA hH
  rintro a w ⟨ks,⟨hev1,hks0⟩,hH,hA⟩
  have hks:=now_0 hks0
  clear hks0
  obtain ⟨q0,hq0⟩:∃x,x=p+2+(bl.ps.l.length:Int):=⟨_,rfl⟩
  have hpl:bl.ps.l.length≤1048577:=by
    have:=hev1.le
    rw [List.length_append] at this
    omega
  rw [←hq0] at hH
  repeat' (first|(refine QT ?_;clear hA a;intro a hA)|refine CT ?_|fail)
  refine yK (S:=Nat) (fun i a w=>∃ks q,(i≤bl.is.l.length∧EvOk (es++bl.ps.l++(bl.is.l.take i).map Ins.x)∧(∀y,y∈ks↔vH (Sk k0) bl i y)∧(∀k x,bl.is.l[k]?=some x→k<i→FormP c.g la c.f.caps x.r∧∀a∈x.r.a.l,atS c.g (vH (Sk k0) bl k) a)∧q=q0+jC (bl.is.l.take i)∧q≤1200000)∧
      HS w0 noM (cb bC 112 (wU c (q))::sk c.bE (es++bl.ps.l++(bl.is.l.take i).map Ins.x)::sk bW ks::own 109 1 c.oT c.nT c.cT (flat wM (tc))::all (th0.map sko)::cb b5 53 (yE bl)::H) w∧
      Sl 190 [(70,.int .i64 i),(69,.int .i64 bl.is.l.length),(68,.slice bl.is.o bl.is.l.length bl.is.c),(5,.pointer (some (bat b5 0))),(6,.map (some bW)),(0,.pointer (some (bat bC 0))),(1,.int .i64 n)] a) (fun i=>bl.is.l.length - i)
    (fun a w=>∃ks q,(EvOk (es++bvs bl)∧(∀y,y∈ks↔vH (Sk k0) bl bl.is.l.length y)∧(∀k x,bl.is.l[k]?=some x→FormP c.g la c.f.caps x.r∧∀a∈x.r.a.l,atS c.g (vH (Sk k0) bl k) a)∧q=q0+jC bl.is.l∧q≤1200000)∧
      HS w0 noM (cb bC 112 (wU c (q))::sk c.bE (es++bvs bl)::sk bW ks::own 109 1 c.oT c.nT c.cT (flat wM (tc))::all (th0.map sko)::cb b5 53 (yE bl)::H) w∧
      Sl 190 [(5,.pointer (some (bat b5 0))),(6,.map (some bW)),(0,.pointer (some (bat bC 0))),(1,.int .i64 n)] a) 0 ⟨ks,q0,⟨Nat.zero_le _,(by rw [List.take_zero,List.map_nil,List.append_nil];exact hev1),hks,fun k x hk h=>absurd h (Nat.not_lt_zero _),(by rw [List.take_zero];show q0=q0+((0:Nat):Int);omega),by omega⟩,(by rw [List.take_zero,List.map_nil,List.append_nil];exact hH),(hA.sub SBT)⟩ ?_ ?_
  · clear hA hH hev1 hks
    rintro i a w ⟨ks,q,⟨hi,hev1,hks,hins,hq1,hq2⟩,hH,hA⟩
    by_cases hlt:i<bl.is.l.length
    rotate_left
    · obtain rfl:i=bl.is.l.length:=by omega
      rw [ev_end] at hev1 hH
      rw [List.take_length] at hq1
      repeat' (first|(refine QT ?_;clear hA a;intro a hA)|refine CT ?_|(refine DT ?_ ?_<;>intro hc<;>try (exfalso;omega))|fail)
      exact ⟨ks,q,⟨hev1,hks,fun k x hk=>hins k x hk (List.getElem?_eq_some_iff.1 hk).1,hq1,hq2⟩,hH,(hA.sub SBT)⟩
    obtain ⟨x,hx⟩:∃x,bl.is.l[i]?=some x:=⟨_,List.getElem?_eq_getElem hlt⟩
    have hxR:=hbR.2.2.1 x (List.mem_of_getElem? hx)
    have hvi:=yA sX hx
    repeat' (first|(refine GT ?_ ?_<;>intro hg<;>clear hA a<;>intro a hA<;>(first|exact FA|replace hg:=dTr hg|replace hg:=dFa hg|skip))|(refine XT ?_;apply XE;(first|(apply zG (vs:=xK x);rfl;rfl;exact yV hbR.2.1.1 id hvi)|(apply zE;rfl;rfl;omega;exact hspI));clear hA a;intro a hA)|(refine QT ?_;clear hA a;intro a hA)|(refine BT ?_;clear hA hH;rintro _ w ⟨bN,rfl,hH⟩ a hA)|(refine SAT (xK x) hA hH ?_;clear hH;intro w hH)|(apply zO hA rfl rfl;apply zB (cs':=wU c (q+1));rfl;rfl;rfl;exact hH;(repeat constructor);clear hH;rintro _ w hH)|refine CT ?_|(refine DT ?_ ?_<;>intro hc<;>try (exfalso;omega))|fail)
    · exact rt1 (.inl rfl) rfl hA rfl (.inl ⟨rfl,fun h=>(by have h1:=h.size;rw [lL] at h1;have h2:=insN_at hx;omega),hH.tail.tail.tail.tail.tail.tail.tail⟩)
    repeat' (first|(refine XT ?_;apply XE;(first|(apply zG (vs:=yG x.r);rfl;rfl;exact rW MEMT (sub_st x)));clear hA a;intro a hA)|(refine QT ?_;clear hA a;intro a hA)|fail)
    replace hH:=hH.perm (H':=cb bC 112 (wU c (q+1))::sk bW ks::sk c.bE (es++bl.ps.l++(bl.is.l.take i).map Ins.x)::own 109 1 c.oT c.nT c.cT (flat wM (tc))::all (th0.map sko)::cb b5 53 (yE bl)::cb bN 59 (xK x)::H) PMT
    (refine zH hA rfl rfl (by decide) (zA rfl rfl rfl (step2_spec w0 _ _ c bC (q+1) la x.r hH (.tail _ (.tail _ (.tail _ (.tail _ (.tail _ (.tail _ hm)))))) hla hla9 hxR.1)) ?_;clear hA hH)
    rintro _ w ⟨bb,rfl,hbF,hH⟩ a hA
    cases bb with
    | false=>
      repeat' (first|(refine GT ?_ ?_<;>intro hg<;>clear hA a<;>intro a hA<;>(first|exact FA|replace hg:=dTr hg|replace hg:=dFa hg|skip))|(refine QT ?_;clear hA a;intro a hA)|refine CT ?_|fail)
      exact rt1 (.inl rfl) rfl hA rfl (.inl ⟨rfl,fun h=>absurd (hbF.2 (h.blk.ins i x hx).1) (by decide),hH.tail.tail.tail.tail.tail.tail.tail⟩)
    | true=>
      repeat' (first|(refine GT ?_ ?_<;>intro hg<;>clear hA a<;>intro a hA<;>(first|exact FA|replace hg:=dTr hg|replace hg:=dFa hg|skip))|(refine QT ?_;clear hA a;intro a hA)|fail)
      (refine zH hA rfl rfl (by decide) (zA rfl rfl rfl (mG w0 _ _ c bC bW (q+1) ks x.r.a hH hxR.2 (by omega) (by omega))) ?_;clear hA hH)
      rintro _ w (⟨hat,rfl,hH⟩| ⟨hat,rfl,q',hq3,hq4,hH⟩) a hA
      rotate_left
      · repeat' (first|(refine GT ?_ ?_<;>intro hg<;>clear hA a<;>intro a hA<;>(first|exact FA|replace hg:=dTr hg|replace hg:=dFa hg|skip))|(refine QT ?_;clear hA a;intro a hA)|refine CT ?_|fail)
        exact rt1 (.inl rfl) rfl hA rfl (.inl ⟨rfl,fun h=>hat (ats_of hks (by have h1:=(h.blk.ins i x hx).2;rw [hS0] at h1;exact h1) (by have h1:=h.size;rw [lL] at h1;have h2:=insN_at hx;omega)),hH.tail.tail.tail.tail.tail.tail.tail⟩)
      repeat' (first|(refine GT ?_ ?_<;>intro hg<;>clear hA a<;>intro a hA<;>(first|exact FA|replace hg:=dTr hg|replace hg:=dFa hg|skip))|(refine QT ?_;clear hA a;intro a hA)|fail)
      replace hH:=hH.perm (H':=cb bC 112 (wU c (q+1+(x.r.a.l.length:Int)))::sk c.bE (es++bl.ps.l++(bl.is.l.take i).map Ins.x)::sk bW ks::own 109 1 c.oT c.nT c.cT (flat wM (tc))::all (th0.map sko)::cb b5 53 (yE bl)::cb bN 59 (xK x)::H) PMT
      (refine zH hA rfl rfl (by decide) (zA rfl rfl rfl (cH w0 _ _ c bC bW _ _ _ x.x hH)) ?_;clear hA hH)
      rintro _ w (⟨hb,rfl,hH⟩| ⟨hb,rfl,hH⟩) a hA
      rotate_left
      · repeat' (first|(refine QT ?_;clear hA a;intro a hA)|refine CT ?_|fail)
        exact rt1 (.inl rfl) rfl hA rfl (.inl ⟨rfl,fun h=>hb (ev_is_no hx h.ev),hH.tail.tail.tail.tail.tail.tail.tail⟩)
      repeat' (first|(refine QT ?_;clear hA a;intro a hA)|refine CT ?_|fail)
      have hev2:=hev1.add hb
      rw [ev_is hx] at hH hev2
      have hql:q+1+(x.r.a.l.length:Int)≤1200000:=by
        rcases hat.2 with h|h
        · rw [h]
          show q+1+(0:Int)≤_
          omega
        · omega
      exact ⟨i+1,⟨_,_,⟨hlt,hev2,now_next hx hks,ins_next hx hins hks (hbF.1 rfl) hat.1,by rw [dN hx];omega,hql⟩,hH.rm 6,(hA.sub SBT)⟩,by omega⟩
  clear hA hH hev1 hks
  rintro a w ⟨ks,q,⟨hev1,hks,hins,hq1,hq2⟩,hH,hA⟩
  have hsubE:=sub_en bl
  repeat' (first|(refine XT ?_;apply XE;(first|(apply zG (vs:=wO bl.e);rfl;rfl;exact rW MEMT hsubE));clear hA a;intro a hA)|(refine QT ?_;clear hA a;intro a hA)|refine CT ?_|fail)
  (refine zH hA rfl rfl (by decide) (zA rfl rfl rfl (end_spec _ bl.e (hbR.2.2.2.2.1.keep hH.kp))) ?_;clear hA)
  rintro _ w ⟨bb,rfl,hbE,hk⟩ a hA
  replace hH:=hH.keep hk
  clear hk
  cases bb with
  | false=>
    repeat' (first|(refine GT ?_ ?_<;>intro hg<;>clear hA a<;>intro a hA<;>(first|exact FA|replace hg:=dTr hg|replace hg:=dFa hg|skip))|(refine QT ?_;clear hA a;intro a hA)|refine CT ?_|fail)
    exact rt1 (.inl rfl) rfl hA rfl (.inl ⟨rfl,fun h=>absurd (hbE.2 h.blk.end_) (by decide),hH.tail.tail.tail.tail.tail.tail⟩)
  |true=>
  repeat' (first|(refine GT ?_ ?_<;>intro hg<;>clear hA a<;>intro a hA<;>(first|exact FA|replace hg:=dTr hg|replace hg:=dFa hg|skip))|(refine QT ?_;clear hA a;intro a hA)|fail)
  replace hH:=hH.perm (H':=cb bC 112 (wU c (q))::sk bW ks::sk c.bE (es++bvs bl)::own 109 1 c.oT c.nT c.cT (flat wM (tc))::all (th0.map sko)::cb b5 53 (yE bl)::H) PMT
  (refine zH hA rfl rfl (by decide) (zA rfl rfl rfl (mG w0 _ _ c bC bW q ks bl.e.a hH hbR.2.2.2.1 (by omega) (by omega))) ?_;clear hA hH)
  rintro _ w (⟨hat,rfl,hH⟩| ⟨hat,rfl,q',hq3,hq4,hH⟩) a hA
  rotate_left
  · repeat' (first|(refine QT ?_;clear hA a;intro a hA)|refine CT ?_|fail)
    exact rt1 (.inl rfl) rfl hA rfl (.inl ⟨rfl,fun h=>hat (ats_of hks (by have h1:=h.blk.ends;rw [hS0] at h1;exact h1) (by have h1:=h.size;rw [lL] at h1;omega)),hH.tail.tail.tail.tail.tail.tail⟩)
  have hends:∀a∈bl.e.a.l,atS c.g (vH (Sk k0) bl bl.is.l.length) a:=fun a ha=>at_of hks (hat.1 a ha)
  have hql:q+(bl.e.a.l.length:Int)≤1200000:=by
    rcases hat.2 with h|h
    · rw [h]
      show q+(0:Int)≤_
      omega
    · omega
  obtain ⟨q2,hq2e⟩:∃x,x=q+(bl.e.a.l.length:Int):=⟨_,rfl⟩
  rw [←hq2e] at hH hql
  have hq5:q2=p+2+bl.ps.l.length+jC bl.is.l+bl.e.a.l.length:=by omega
  have hspE:Sp bl.e.to.o bl.e.to.l.length:=hbR.2.2.2.2.2.1.1.sp (sz:=2) (zF wW _) (by omega)
  repeat' (first|(refine QT ?_;clear hA a;intro a hA)|refine CT ?_|fail)
  refine yK (S:=Nat) (fun j a w=>∃tc' th' q,(j≤bl.e.to.l.length∧q=q2+fV (bl.e.to.l.take j)∧q≤1200000+(j:Int)∧ThR th0 (vH (Sk k0) bl bl.is.l.length) (bl.e.to.l.take j) th'∧tc'.length=tc.length∧(∀m,n<m→tc'[m]?=th'[m]?)∧
        ∀t∈bl.e.to.l.take j,(n:Int)<t.b∧t.b<c.f.bs.l.length∧t.a.l.length=(c.f.bs.l.getD t.b.toNat wR).ps.l.length∧∀a∈t.a.l,atS c.g (vH (Sk k0) bl bl.is.l.length) a)∧
      HS w0 noM (cb bC 112 (wU c (q))::sk bW ks::sk c.bE (es++bvs bl)::own 109 1 c.oT c.nT c.cT (flat wM (tc'))::all (th'.map sko)::cb b5 53 (yE bl)::H) w∧
      Sl 190 [(128,.int .i64 j),(127,.int .i64 bl.e.to.l.length),(126,.slice bl.e.to.o bl.e.to.l.length bl.e.to.c),(6,.map (some bW)),(0,.pointer (some (bat bC 0))),(1,.int .i64 n)] a) (fun j=>bl.e.to.l.length - j)
    (fun a w=>∃tc' th' q,(q=q2+fV bl.e.to.l∧q≤2300000∧ThR th0 (vH (Sk k0) bl bl.is.l.length) bl.e.to.l th'∧tc'.length=tc.length∧(∀m,n<m→tc'[m]?=th'[m]?)∧
        ∀t∈bl.e.to.l,(n:Int)<t.b∧t.b<c.f.bs.l.length∧t.a.l.length=(c.f.bs.l.getD t.b.toNat wR).ps.l.length∧∀a∈t.a.l,atS c.g (vH (Sk k0) bl bl.is.l.length) a)∧
      HS w0 noM (cb bC 112 (wU c (q))::sk bW ks::sk c.bE (es++bvs bl)::own 109 1 c.oT c.nT c.cT (flat wM (tc'))::all (th'.map sko)::cb b5 53 (yE bl)::H) w∧
      Sl 190 [(0,.pointer (some (bat bC 0)))] a) 0 ⟨tc,th0,q2,⟨Nat.zero_le _,(by rw [List.take_zero];show q2=q2+((0:Nat):Int);omega),by omega,by rw [List.take_zero];exact thR_0 _ _,rfl,hag0,by rw [List.take_zero];exact fun t h=>absurd h List.not_mem_nil⟩,hH,(hA.sub SBT)⟩ ?_ ?_
  · clear hA hH
    rintro j a w ⟨tc',th',q,⟨hj,hqa,hqb,hth,htl,hag',heds⟩,hH,hA⟩
    by_cases hlt:j<bl.e.to.l.length
    rotate_left
    · obtain rfl:j=bl.e.to.l.length:=by omega
      rw [List.take_length] at hth heds hqa
      repeat' (first|(refine QT ?_;clear hA a;intro a hA)|refine CT ?_|(refine DT ?_ ?_<;>intro hc<;>try (exfalso;omega))|fail)
      exact ⟨tc',th',q,⟨hqa,by omega,hth,htl,hag',heds⟩,hH,(hA.sub SBT)⟩
    obtain ⟨t,ht⟩:∃x,bl.e.to.l[j]?=some x:=⟨_,List.getElem?_eq_getElem hlt⟩
    have htm:=List.mem_of_getElem? ht
    have htR:=hbR.2.2.2.2.2.2 t htm
    have hvt:=yA wW ht
    repeat' (first|(refine XT ?_;apply XE;(first|(apply zG (vs:=yL t);rfl;rfl;exact yV hbR.2.2.2.2.2.1.1 id hvt)|(apply zE;rfl;rfl;omega;exact hspE));clear hA a;intro a hA)|(refine QT ?_;clear hA a;intro a hA)|(refine BT ?_;clear hA hH;rintro _ w ⟨bN,rfl,hH⟩ a hA)|(refine SAT (yL t) hA hH ?_;clear hH;intro w hH)|(apply zO hA rfl rfl;apply zB (cs':=wU c (q+1));rfl;rfl;rfl;exact hH;(repeat constructor);clear hH;rintro _ w hH)|refine CT ?_|(refine DT ?_ ?_<;>intro hc<;>try (exfalso;omega))|fail)
    (refine pB 40 [(0,1),(1,1),(2,1),(3,1),(4,1),(5,1),(6,1),(7,1),(8,1),(9,1),(10,1),(11,1),(12,1),(13,1),(14,1),(15,1),(16,1),(17,1),(18,1),(19,1),(20,1),(21,1),(22,1),(23,1),(24,1),(25,1),(26,1),(27,1),(28,1),(29,1),(30,1),(31,1),(32,1),(33,1),(34,1),(35,1),(36,1)] [37,38,39] mixed (by decide +kernel) hH ?_;replace hH:=hH.drew)
    repeat' (first|(refine GT ?_ ?_<;>intro hg<;>clear hA a<;>intro a hA<;>(first|exact FA|replace hg:=dTr hg|replace hg:=dFa hg|skip))|(refine XT ?_;apply XE;(first|(apply zD;rfl;rfl;omega;omega;exact hsp)|(apply zC;rfl;refine xP hR.1.1 id (blk_at ?_);omega));clear hA a;intro a hA)|(refine QT ?_;clear hA a;intro a hA)|refine CT ?_|fail)
    · exact rt1 (.inl rfl) rfl hA rfl (.inl ⟨rfl,fun h=>(by have h1:=h.blk.edges t htm;omega),hH.tail.tail.tail.tail.tail.tail.tail⟩)
    · exact rt1 (.inl rfl) rfl hA rfl (.inl ⟨rfl,fun h=>(by have h1:=h.blk.edges t htm;omega),hH.tail.tail.tail.tail.tail.tail.tail⟩)
    · exact rt1 (.inl rfl) rfl hA rfl (.inl ⟨rfl,fun h=>(by have h1:=(h.blk.edges t htm).2.2.1;omega),hH.tail.tail.tail.tail.tail.tail.tail⟩)
    have hb3:t.a.l.length=(c.f.bs.l.getD t.b.toNat wR).ps.l.length:=by omega
    have hb1:(n:Int)<t.b:=by omega
    have hb2:t.b<c.f.bs.l.length:=by omega
    have hST2:=hH.perm (H':=cb bC 112 (wU c (q+1))::sk bW ks::cb bN 61 (yL t)::sk c.bE (es++bvs bl)::own 109 1 c.oT c.nT c.cT (flat wM (tc'))::all (th'.map sko)::cb b5 53 (yE bl)::H) PMT
    clear hH
    (refine rC hA rfl rfl rfl (by decide) (zA rfl rfl rfl (mG w0 _ _ c bC bW (q+1) ks t.a hST2 htR (by omega) (by omega))) ?_;clear hA hST2)
    rintro _ w (⟨hat,rfl,hH⟩| ⟨hat,rfl,q',hq3,hq4,hH⟩) a hA
    rotate_left
    · repeat' (first|(refine QT ?_;clear hA a;intro a hA)|refine CT ?_|fail)
      exact rt1 (.inl rfl) rfl hA rfl (.inl ⟨rfl,fun h=>hat (ats_of hks (by have h1:=(h.blk.edges t htm).2.2.2;rw [hS0] at h1;exact h1) (by have h1:=h.size;rw [lL] at h1;have h2:=edgN_at ht;omega)),hH.tail.tail.tail.tail.tail.tail.tail⟩)
    obtain ⟨m,hm1⟩:∃m:Nat,t.b=m:=⟨t.b.toNat,by omega⟩
    have hth0l:th'.length=th0.length:=hth.len
    have hml:m<th'.length:=by omega
    obtain ⟨st',hst'⟩:∃x,th'[m]?=some x:=⟨_,List.getElem?_eq_getElem hml⟩
    have htcm:tc'[m]?=some st':=(hag' m (by omega)).trans hst'
    have hcm:(flat wM tc')[m*1]?=some (mvO st'):=yZ (off:=0) qH htcm (by rw [lF];rfl)
    have hnT:c.nT=th'.length:=by omega
    have htcl:tc'.length=th'.length:=by omega
    repeat' (first|(refine QT ?_;clear hA a;intro a hA)|refine CT ?_|fail)
    replace hH:=hH.perm (H':=cb bC 112 (wU c (q+1+(t.a.l.length:Int)))::own 109 1 c.oT c.nT c.cT (flat wM (tc'))::all (th'.map sko)::sk bW ks::sk c.bE (es++bvs bl)::cb b5 53 (yE bl)::cb bN 61 (yL t)::H) PMT
    (refine zH hA rfl rfl (by decide) (zA rfl rfl (by rw [hm1];rfl) (meet_spec w0 _ _ c bC bW m _ ks tc' th' st' hH hnT htcl hml hst' hcm)) ?_;clear hA hH)
    rintro _ w ⟨b',ks',hk',hH⟩ a hA
    repeat' (first|(refine QT ?_;clear hA a;intro a hA)|refine CT ?_|fail)
    have hats:∀a∈t.a.l,atS c.g (vH (Sk k0) bl bl.is.l.length) a:=fun a ha=>at_of hks (hat.1 a ha)
    have hqn:q+1+(t.a.l.length:Int)≤1200000+((j+1:Nat):Int):=by
      rcases hat.2 with h|h
      · rw [h]
        show q+1+(0:Int)≤_
        omega
      · omega
    have hth2:=thR_next (b:=b') hth hm1 hml hst' hks hk'
    rw [←yU ht] at hth2
    have hag2:∀k,n<k→(tc'.set m (some (b',ks')))[k]?=(th'.set m (some (b',ks')))[k]?:=fun k hk=>by
      by_cases he:m=k
      · subst he
        rw [List.getElem?_set_self (by omega),List.getElem?_set_self (by omega)]
      · rw [List.getElem?_set_ne he,List.getElem?_set_ne he]
        exact hag' k hk
    exact ⟨j+1,⟨tc'.set m (some (b',ks')),th'.set m (some (b',ks')),_,⟨hlt,(by rw [dY ht];omega),hqn,hth2,by rw [List.length_set];exact htl,hag2,eds_next ht heds ⟨hb1,hb2,hb3,hats⟩⟩,(hH.rm 6).perm PMT,(hA.sub SBT)⟩,by omega⟩
  clear hA hH
  rintro a w ⟨tc',th',q3,⟨hqa,hqb,hth,htl,hag',heds⟩,hH,hA⟩
  repeat' (first|(refine QT ?_;clear hA a;intro a hA)|refine CT ?_|fail)
  have hfin:HS w0 noM (cb bC 112 (wU c (q3))::sk c.bE (es++bvs bl)::own 109 1 c.oT c.nT c.cT (flat wM (tc'))::all (th'.map sko)::H) w:=((hH.rm 1).rm 4)
  have hqf:q3=p+(sL bl:Int):=by rw [lL];omega
  by_cases hmax:q3≤65536
  · rw [decide_eq_true hmax] at hA
    rw [hqf] at hfin
    refine rt1 (.inl rfl) rfl hA rfl (.inr ⟨rfl,⟨hi0,?_,hev1,by omega⟩,tc',th',?_,htl,hag',hfin⟩)
    · rw [hS0]
      exact ⟨hfirst,hins,hbE.1 rfl,hends,heds⟩
    · rw [hS0,←hth0]
      exact hth
  · rw [decide_eq_false hmax] at hA
    exact rt1 (.inl rfl) rfl hA rfl (.inl ⟨rfl,fun h=>(by have h1:=h.size;omega),hfin.tail.tail.tail.tail⟩)
end
theorem tU {l:List ByteArray} {k:Nat} (h:k<l.length):(flat yY l)[k*1]?=some (.string (l.getD k default)):=by
  refine yZ (off:=0) wZ (List.getElem?_eq_getElem h) ?_
  rw [List.getD_eq_getElem?_getD,List.getElem?_eq_getElem h]
  rfl
theorem idx_at {l:List ByteArray} {s:ByteArray} {i:Nat} (h:∀k,k<i→eqS s (l.getD k default)=false) (hi:i<l.length) (he:eqS s (l.getD i default)=true):wQ l s=i:=by
  unfold wQ
  have:l.findIdx? (fun x=>eqS s x)=some i:=by
    rw [List.findIdx?_eq_some_iff_getElem]
    refine ⟨hi,?_,fun j hj=>?_⟩
    · rw [List.getD_eq_getElem?_getD,List.getElem?_eq_getElem hi] at he
      exact he
    · have h1:=h j hj
      rw [List.getD_eq_getElem?_getD,List.getElem?_eq_getElem (by omega)] at h1
      simpa using h1
  rw [this]
theorem idx_none {l:List ByteArray} {s:ByteArray} (h:∀k,k<l.length→eqS s (l.getD k default)=false):wQ l s= -1:=by
  unfold wQ
  have:l.findIdx? (fun x=>eqS s x)=none:=by
    rw [List.findIdx?_eq_none_iff]
    intro x hx
    obtain ⟨k,hk,rfl⟩:=List.getElem_of_mem hx
    have h1:=h k hk
    rw [List.getD_eq_getElem?_getD,List.getElem?_eq_getElem hk] at h1
    simpa using h1
  rw [this]
theorem nD {p:Nat→Prop} {i:Nat} (h:∀k,k<i→p k) (ha:p i):∀k,k<i+1→p k:=fun k hk=>by
  by_cases e:k=i
  · exact e▸ha
  · exact h k (by omega)
theorem ris_no {l:List ByteArray} {i:Nat} (hi:i<l.length) (h:¬risAt l i):false=true↔risP l:=⟨fun e=>(by cases e),fun e=>absurd (e i hi) h⟩
theorem longS_no {l:List ByteArray} {i:Nat} (hi:i<l.length) (h:4096<(l.getD i default).size):¬∀s∈l,s.size≤4096:=fun hc=>by
  have h1:=hc (l.getD i default) (by rw [List.getD_eq_getElem?_getD,List.getElem?_eq_getElem hi];exact List.getElem_mem hi)
  omega
theorem longS_yes {l:List ByteArray} (h:∀k,k<l.length→¬4096<(l.getD k default).size):∀s∈l,s.size≤4096:=fun s hs=>by
  obtain ⟨k,hk,rfl⟩:=List.getElem_of_mem hs
  have h1:=h k hk
  rw [List.getD_eq_getElem?_getD,List.getElem?_eq_getElem hk] at h1
  simpa using h1
section
attribute [local irreducible] Code.wp wpList Calls Ex Op1 sat bat blk cb own Go.Fw.mp Go.Fw.mpO Go.Fw.mpI Go.Fw.mpE Go.Fw.itr HS Rd Ret wkD Hp Cl Cls Exit.then Exit.inBlock Exit.noGoto bodyPost Go.Fw.flat wk2 Go.Fw.all Go.Fw.owns wpOp
attribute [local irreducible] sk mpK sko mvO xI geS wQ

theorem tD (w0:World) (v:Vec ByteArray) (hR:RdV w0 yY v):Ret Tryz.prog 41 #[.slice v.o v.l.length v.c] w0 (fun r w=>∃b,r= .bool b∧(b=true↔risP v.l)∧Kp w0 noM w):=by
  have hH:HS w0 noM [] w0:=HS.init w0 noM
  have hle:=hR.le
  have hsp:Sp v.o v.l.length:=hR.1.sp (sz:=1) (zF wZ _) (by omega)
  (refine ENT (N:=28) Tryz.func41 Tryz.ntmps41 ?_;intro a hA)
  repeat' (first|(refine QT ?_;clear hA a;intro a hA)|refine CT ?_|fail)
  refine yK (S:=Nat) (fun i a w=>(i≤v.l.length∧∀k,k<i→risAt v.l k)∧HS w0 noM [] w∧Sl 28 [(7,.int .i64 i),(6,.int .i64 v.l.length),(5,.slice v.o v.l.length v.c),(0,.slice v.o v.l.length v.c)] a) (fun i=>v.l.length - i)
    (fun a w=>risP v.l∧HS w0 noM [] w∧Sl 28 [] a) 0 ⟨⟨Nat.zero_le _,fun k h=>absurd h (Nat.not_lt_zero _)⟩,hH,(hA.sub SBT)⟩ ?_ ?_
  · clear hA hH
    rintro i a w ⟨⟨hi,hris⟩,hH,hA⟩
    by_cases hlt:i<v.l.length
    rotate_left
    · repeat' (first|(refine QT ?_;clear hA a;intro a hA)|refine CT ?_|(refine DT ?_ ?_<;>intro hc<;>try (exfalso;omega))|fail)
      obtain rfl:i=v.l.length:=by omega
      exact ⟨hris,hH,(hA.sub SBT)⟩
    have e1:((i:Int) - 1).toNat=i - 1:=by omega
    repeat' (first|(refine GT ?_ ?_<;>intro hg<;>clear hA a<;>intro a hA<;>(first|exact FA|replace hg:=dTr hg|replace hg:=dFa hg|skip))|(refine XT ?_;apply XE;(first|(apply rP;rfl;rfl)|(apply ex_geqS;rfl;rfl)|(apply zE;rfl;rfl;omega;exact hsp)|(apply zD;rfl;rfl;omega;omega;exact hsp)|(apply zC;rfl;refine xP hR.1 id (tU ?_);omega));clear hA a;intro a hA)|(refine QT ?_;clear hA a;intro a hA)|refine CT ?_|(refine DT ?_ ?_<;>intro hc<;>try (exfalso;omega))|fail)
    all_goals first
      |exact ⟨i+1,⟨⟨hlt,nD hris ⟨by assumption,fun h0=>(by omega)⟩⟩,hH,(hA.sub SBT)⟩,by omega⟩
      |exact ⟨i+1,⟨⟨hlt,nD hris ⟨by assumption,fun h0=>(by rw [←e1];assumption)⟩⟩,hH,(hA.sub SBT)⟩,by omega⟩
      |exact rt1 (.inl rfl) rfl hA rfl ⟨_,rfl,ris_no hlt (fun h=>absurd ((by assumption:eqS (v.l.getD i default) empS=true).symm.trans h.1) (by decide)),hH.kp⟩
      |exact rt1 (.inl rfl) rfl hA rfl ⟨_,rfl,ris_no hlt (fun h=>(by have h1:=h.2 (by omega);rw [←e1] at h1;exact absurd ((by assumption:geS (v.l.getD ((i:Int) - 1).toNat default) (v.l.getD i default)=true).symm.trans h1) (by decide))),hH.kp⟩
  clear hA hH
  rintro a w ⟨hris,hH,hA⟩
  repeat' (first|(refine QT ?_;clear hA a;intro a hA)|refine CT ?_|fail)
  exact rt1 (.inl rfl) rfl hA rfl ⟨_,rfl,iff_of_true rfl hris,hH.kp⟩
theorem kU (w0:World) (v:Vec ByteArray) (s:ByteArray) (hR:RdV w0 yY v):Ret Tryz.prog 76 #[.slice v.o v.l.length v.c,.string s] w0 (fun r w=>r= .int .i64 (wQ v.l s)∧Kp w0 noM w):=by
  have hH:HS w0 noM [] w0:=HS.init w0 noM
  have hle:=hR.le
  have hsp:Sp v.o v.l.length:=hR.1.sp (sz:=1) (zF wZ _) (by omega)
  (refine ENT (N:=19) Tryz.func76 Tryz.ntmps76 ?_;intro a hA)
  repeat' (first|(refine QT ?_;clear hA a;intro a hA)|refine CT ?_|fail)
  refine yK (S:=Nat) (fun i a w=>(i≤v.l.length∧∀k,k<i→eqS s (v.l.getD k default)=false)∧HS w0 noM [] w∧Sl 19 [(8,.int .i64 i),(7,.int .i64 v.l.length),(1,.string s),(0,.slice v.o v.l.length v.c)] a) (fun i=>v.l.length - i)
    (fun a w=>wQ v.l s= -1∧HS w0 noM [] w∧Sl 19 [] a) 0 ⟨⟨Nat.zero_le _,fun k h=>absurd h (Nat.not_lt_zero _)⟩,hH,(hA.sub SBT)⟩ ?_ ?_
  · clear hA hH
    rintro i a w ⟨⟨hi,hno⟩,hH,hA⟩
    by_cases hlt:i<v.l.length
    rotate_left
    · repeat' (first|(refine QT ?_;clear hA a;intro a hA)|refine CT ?_|(refine DT ?_ ?_<;>intro hc<;>try (exfalso;omega))|fail)
      obtain rfl:i=v.l.length:=by omega
      exact ⟨idx_none hno,hH,(hA.sub SBT)⟩
    repeat' (first|(refine XT ?_;apply XE;(first|(apply rP;rfl;rfl)|(apply zE;rfl;rfl;omega;exact hsp)|(apply zC;rfl;refine xP hR.1 id (tU ?_);omega));clear hA a;intro a hA)|(refine QT ?_;clear hA a;intro a hA)|refine CT ?_|(refine DT ?_ ?_<;>intro hc<;>try (exfalso;omega))|fail)
    all_goals first|exact ⟨i+1,⟨⟨hlt,nD hno (by assumption)⟩,hH,(hA.sub SBT)⟩,by omega⟩|exact rt1 (.inl rfl) rfl hA rfl ⟨by rw [idx_at hno hlt (by assumption)],hH.kp⟩
  clear hA hH
  rintro a w ⟨hno,hH,hA⟩
  repeat' (first|(refine QT ?_;clear hA a;intro a hA)|refine CT ?_|fail)
  exact rt1 (.inl rfl) rfl hA rfl ⟨by rw [hno],hH.kp⟩
theorem pX (w0:World) (v:Vec ByteArray) (s:ByteArray) (hR:RdV w0 yY v):Ret Tryz.prog 42 #[.slice v.o v.l.length v.c,.string s] w0 (fun r w=>r= .bool (decide (0≤wQ v.l s))∧Kp w0 noM w):=by
  have hH:HS w0 noM [] w0:=HS.init w0 noM
  (refine ENT (N:=9) Tryz.func42 Tryz.ntmps42 ?_;intro a hA)
  repeat' (first|(refine QT ?_;clear hA a;intro a hA)|refine CT ?_|fail)
  (refine zH hA rfl rfl (by decide) (zA rfl rfl rfl (kU _ v s (hR.keep hH.kp))) ?_;clear hA;rintro _ w ⟨rfl,hk⟩ a hA;replace hH:=hH.keep hk;clear hk)
  repeat' (first|(refine QT ?_;clear hA a;intro a hA)|refine CT ?_|fail)
  exact rt1 (.inl rfl) rfl hA rfl ⟨rfl,hH.kp⟩
theorem long_spec (w0:World) (s:ByteArray):Ret Tryz.prog 44 #[.string s] w0 (fun r w=>r= .bool (decide (4096<s.size))∧Kp w0 noM w):=by
  have hH:HS w0 noM [] w0:=HS.init w0 noM
  (refine ENT (N:=6) Tryz.func44 Tryz.ntmps44 ?_;intro a hA)
  repeat' (first|(refine XT ?_;apply XE;(first|(apply uT;rfl));clear hA a;intro a hA)|(refine QT ?_;clear hA a;intro a hA)|refine CT ?_|fail)
  exact rt1 (.inl rfl) rfl hA rfl ⟨by rw [vM];congr 1;exact decide_eq_decide.2 (by omega),hH.kp⟩
theorem aI (w0:World) (v:Vec ByteArray) (hR:RdV w0 yY v):Ret Tryz.prog 77 #[.slice v.o v.l.length v.c,.func (.func 44) #[] #[]] w0 (fun r w=>∃n,r= .int .i64 n∧(0≤n↔¬∀s∈v.l,s.size≤4096)∧Kp w0 noM w):=by
  have hH:HS w0 noM [] w0:=HS.init w0 noM
  have hle:=hR.le
  have hsp:Sp v.o v.l.length:=hR.1.sp (sz:=1) (zF wZ _) (by omega)
  (refine ENT (N:=19) Tryz.func77 Tryz.ntmps77 ?_;intro a hA)
  repeat' (first|(refine QT ?_;clear hA a;intro a hA)|refine CT ?_|fail)
  refine yK (S:=Nat) (fun i a w=>(i≤v.l.length∧∀k,k<i→¬4096<(v.l.getD k default).size)∧HS w0 noM [] w∧Sl 19 [(8,.int .i64 i),(7,.int .i64 v.l.length),(1,.func (.func 44) #[] #[]),(0,.slice v.o v.l.length v.c)] a) (fun i=>v.l.length - i)
    (fun a w=>(∀s∈v.l,s.size≤4096)∧HS w0 noM [] w∧Sl 19 [] a) 0 ⟨⟨Nat.zero_le _,fun k h=>absurd h (Nat.not_lt_zero _)⟩,hH,(hA.sub SBT)⟩ ?_ ?_
  · clear hA hH
    rintro i a w ⟨⟨hi,hno⟩,hH,hA⟩
    by_cases hlt:i<v.l.length
    rotate_left
    · repeat' (first|(refine QT ?_;clear hA a;intro a hA)|refine CT ?_|(refine DT ?_ ?_<;>intro hc<;>try (exfalso;omega))|fail)
      obtain rfl:i=v.l.length:=by omega
      exact ⟨longS_yes hno,hH,(hA.sub SBT)⟩
    repeat' (first|(refine XT ?_;apply XE;(first|(apply zE;rfl;rfl;omega;exact hsp)|(apply zC;rfl;refine xP hR.1 id (tU ?_);omega));clear hA a;intro a hA)|(refine QT ?_;clear hA a;intro a hA)|refine CT ?_|(refine DT ?_ ?_<;>intro hc<;>try (exfalso;omega))|fail)
    (refine zH hA rfl rfl (by decide) (zA rfl rfl rfl (long_spec _ _)) ?_;clear hA;rintro _ w ⟨rfl,hk⟩ a hA;replace hH:=hH.keep hk;clear hk)
    repeat' (first|(refine QT ?_;clear hA a;intro a hA)|refine CT ?_|(refine DT ?_ ?_<;>intro hc<;>try (exfalso;omega))|fail)
    all_goals first|exact ⟨i+1,⟨⟨hlt,nD hno (by assumption)⟩,hH,(hA.sub SBT)⟩,by omega⟩|exact rt1 (.inl rfl) rfl hA rfl ⟨_,rfl,iff_of_true (by omega) (longS_no hlt (by assumption)),hH.kp⟩
  clear hA hH
  rintro a w ⟨hall,hH,hA⟩
  repeat' (first|(refine QT ?_;clear hA a;intro a hA)|refine CT ?_|fail)
  exact rt1 (.inl rfl) rfl hA rfl ⟨_,rfl,iff_of_false (by decide) (fun h=>h hall),hH.kp⟩
theorem qY (w0:World) (v:Vec ByteArray) (hR:RdV w0 yY v):Ret Tryz.prog 43 #[.slice v.o v.l.length v.c,.func (.func 44) #[] #[]] w0 (fun r w=>∃b,r= .bool b∧(b=true↔¬∀s∈v.l,s.size≤4096)∧Kp w0 noM w):=by
  have hH:HS w0 noM [] w0:=HS.init w0 noM
  (refine ENT (N:=9) Tryz.func43 Tryz.ntmps43 ?_;intro a hA)
  repeat' (first|(refine QT ?_;clear hA a;intro a hA)|refine CT ?_|fail)
  (refine zH hA rfl rfl (by decide) (zA rfl rfl rfl (aI _ v (hR.keep hH.kp))) ?_;clear hA;rintro _ w ⟨n,rfl,hn,hk⟩ a hA;replace hH:=hH.keep hk;clear hk)
  repeat' (first|(refine QT ?_;clear hA a;intro a hA)|refine CT ?_|fail)
  exact rt1 (.inl rfl) rfl hA rfl ⟨_,rfl,decide_eq_true_iff.trans hn,hH.kp⟩
end
def nM (o:Option Addr):List Value:=[.int .i64 2,.int .i64 0,.slice none 0 0,.int .i64 0,.slice none 0 0,.int .i64 0,.int .i64 0,.slice none 0 0,.slice none 0 0,.slice o 1 1,.slice none 0 0]
def at0:Atm:=⟨2,0⟩
structure Kk where
  oP:Option Addr
  nP:Nat
  cP:Nat
  g:Grs
  oA:Option Addr
  nA:Nat
  cA:Nat
  caps:Int
  e:Option Nat
  n:Option Nat
  j:Option Nat
  o:Option Nat
def zU (c:Kk) (p:Int):List Value:=[.slice c.oP c.nP c.cP,.slice c.g.ls.o c.g.ls.l.length c.g.ls.c,.slice c.g.ts.o c.g.ts.l.length c.g.ts.c,.slice c.g.xs.o c.g.xs.l.length c.g.xs.c,.slice c.g.ss.o c.g.ss.l.length c.g.ss.c,
  .slice c.oA c.nA c.cA,.int .i64 p,.int .i64 c.caps,.map c.e,.map c.n,.map c.j,.map c.o]
section
attribute [local irreducible] Code.wp wpList Calls Ex Op1 sat bat blk cb own Go.Fw.mp Go.Fw.mpO Go.Fw.mpI Go.Fw.mpE Go.Fw.itr HS Rd Ret wkD Hp Cl Cls Exit.then Exit.inBlock Exit.noGoto bodyPost Go.Fw.flat wk2 Go.Fw.all Go.Fw.owns wpOp
attribute [local irreducible] sk mpK sko mvO xI geS

theorem aK (w0:World) (f:Value):Ret Tryz.prog 113 #[.slice none 0 0,f] w0 (fun r w=>r= .int .i64 (-1)∧Kp w0 noM w):=by
  have hH:HS w0 noM [] w0:=HS.init w0 noM
  (refine ENT (N:=19) Tryz.func113 Tryz.ntmps113 ?_;intro a hA)
  repeat' (first|(refine QT ?_;clear hA a;intro a hA)|refine CT ?_|fail)
  refine yK (S:=Nat) (fun i a w=>i=0∧HS w0 noM [] w∧Sl 19 [(8,.int .i64 0),(7,.int .i64 0)] a) (fun i=>i) (fun a w=>HS w0 noM [] w∧Sl 19 [] a) 0 ⟨rfl,hH,(hA.sub SBT)⟩ ?_ ?_
  · clear hA hH
    rintro i a w ⟨hi,hH,hA⟩
    repeat' (first|(refine QT ?_;clear hA a;intro a hA)|refine CT ?_|fail)
    exact ⟨hH,(hA.sub SBT)⟩
  clear hA hH
  rintro a w ⟨hH,hA⟩
  repeat' (first|(refine QT ?_;clear hA a;intro a hA)|refine CT ?_|fail)
  exact rt1 (.inl rfl) rfl hA rfl ⟨rfl,hH.kp⟩
theorem jG (w0:World) (f:Value):Ret Tryz.prog 84 #[.slice none 0 0,f] w0 (fun r w=>r= .bool false∧Kp w0 noM w):=by
  have hH:HS w0 noM [] w0:=HS.init w0 noM
  (refine ENT (N:=9) Tryz.func84 Tryz.ntmps84 ?_;intro a hA)
  repeat' (first|(refine QT ?_;clear hA a;intro a hA)|refine CT ?_|fail)
  (refine zH hA rfl rfl (by decide) (zA rfl rfl rfl (aK _ f)) ?_;clear hA;rintro _ w ⟨rfl,hk⟩ a hA;replace hH:=hH.keep hk;clear hk)
  repeat' (first|(refine QT ?_;clear hA a;intro a hA)|refine CT ?_|fail)
  exact rt1 (.inl rfl) rfl hA rfl ⟨rfl,hH.kp⟩
def shp2:List Value:=[.bool false,.bool false,.bool false,.bool false,.bool false,.int .i64 1,.int .i64 0]
theorem shapes_spec (w0:World):Ret Tryz.prog 78 #[.int .i64 2] w0 (fun r w=>r= .tuple #[.agg shp2.toArray,.bool true]∧Kp w0 noM w):=by
  have hH:HS w0 noM [] w0:=HS.init w0 noM
  (refine ENT (N:=28) Tryz.func78 Tryz.ntmps78 ?_;intro a hA)
  repeat' (first|(refine XT ?_;apply XE;(first|(apply zI (cs:=shp2.toArray);rfl;exact FLT;rfl));clear hA a;intro a hA)|(refine QT ?_;clear hA a;intro a hA)|(refine BT ?_;clear hA hH;rintro _ w ⟨bN,rfl,hH⟩ a hA)|(refine SAT (shp2) hA hH ?_;clear hH;intro w hH)|refine CT ?_|fail)
  exact rt2c (vs:=shp2) (.inl rfl) rfl hA rfl rfl rfl hH (zR (by exact MEMT)) ⟨rfl,hH.kp⟩
theorem atomsA_spec (w0 w:World) (H:List It) (c:Kk) (bK:Nat) (p:Int) (o:Option Addr) (hH:HS w0 noM (cb bK 127 (zU c (p))::H) w) (hr:Rd w0 o (zN at0)) (hp0:0≤p) (hp1:p≤60001) :
    Ret Tryz.prog 79 #[.pointer (some (bat bK 0)),.slice o 1 1] w (fun r w'=>r= .bool true∧HS w0 noM (cb bK 127 (zU c (p+1))::H) w'):=by
  have hsp:Sp o 1:=hr.sp (sz:=2) rfl (by omega)
  (refine ENT (N:=78) Tryz.func79 Tryz.ntmps79 ?_;intro a hA)
  repeat' (first|(refine QT ?_;clear hA a;intro a hA)|refine CT ?_|fail)
  refine yK (S:=Nat) (fun i a w=>i≤1∧HS w0 noM (cb bK 127 (zU c (p+(i:Int)))::H) w∧Sl 78 [(10,.int .i64 i),(9,.int .i64 (1:Nat)),(8,.slice o 1 1),(0,.pointer (some (bat bK 0)))] a) (fun i=>1 - i)
    (fun a w=>HS w0 noM (cb bK 127 (zU c (p+1))::H) w∧Sl 78 [] a) 0 ⟨by omega,(by rw [show p+((0:Nat):Int)=p by omega];exact hH),(hA.sub SBT)⟩ ?_ ?_
  · clear hA hH
    rintro i a w ⟨hi,hH,hA⟩
    by_cases hlt:i<1
    rotate_left
    · obtain rfl:i=1:=by omega
      repeat' (first|(refine QT ?_;clear hA a;intro a hA)|refine CT ?_|fail)
      exact ⟨hH,(hA.sub SBT)⟩
    obtain rfl:i=0:=by omega
    rw [show p+((0:Nat):Int)=p by omega] at hH
    repeat' (first|(refine GT ?_ ?_<;>intro hg<;>clear hA a<;>intro a hA<;>(first|exact FA|replace hg:=dTr hg|replace hg:=dFa hg|skip))|(refine XT ?_;apply XE;(first|(apply zG (vs:=zN at0);rfl;rfl;exact yV hr id (fun i v h=>(by rw [Nat.zero_mul,Nat.zero_add];exact h)))|(apply zE;rfl;rfl;omega;exact hsp));clear hA a;intro a hA)|(refine QT ?_;clear hA a;intro a hA)|(refine BT ?_;clear hA hH;rintro _ w ⟨bN,rfl,hH⟩ a hA)|(refine SAT (zN at0) hA hH ?_;clear hH;intro w hH)|(apply zO hA rfl rfl;apply zB (cs':=zU c (p+1));rfl;rfl;rfl;exact hH;(repeat constructor);clear hH;rintro _ w hH)|refine CT ?_|(refine DT ?_ ?_<;>intro hc<;>try (exfalso;omega))|fail)
    all_goals first|exact ⟨1,⟨by omega,hH.tail,(hA.sub SBT)⟩,by omega⟩|(exfalso;have h1:=nd_t (by assumption);omega)|skip
  clear hA hH
  rintro a w ⟨hH,hA⟩
  repeat' (first|(refine QT ?_;clear hA a;intro a hA)|refine CT ?_|fail)
  exact rt1 (.inl rfl) rfl hA rfl ⟨rfl,hH⟩
theorem body_spec (w0 w:World) (H:List It) (c:Kk) (bK:Nat) (p:Int) (o:Option Addr) (hH:HS w0 noM (cb bK 127 (zU c (p))::H) w) (hr:Rd w0 o (zN at0)) (hp0:0≤p) (hp1:p≤60000) :
    Ret Tryz.prog 45 #[.pointer (some (bat bK 0)),.agg (nM o).toArray,.int .i64 1] w (fun r w'=>r= .bool true∧HS w0 noM (cb bK 127 (zU c (p+2))::H) w'):=by
  (refine ENT (N:=241) Tryz.func45 Tryz.ntmps45 ?_;intro a hA)
  repeat' (first|(refine QT ?_;clear hA a;intro a hA)|(refine BT ?_;clear hA hH;rintro _ w ⟨bN,rfl,hH⟩ a hA)|refine CT ?_|fail)
  (refine zH hA rfl rfl (by decide) (zA rfl rfl rfl (shapes_spec _)) ?_;clear hA;rintro _ w ⟨rfl,hk⟩ a hA;replace hH:=hH.keep hk;clear hk)
  repeat' (first|(refine GT ?_ ?_<;>intro hg<;>clear hA a<;>intro a hA<;>(first|exact FA|replace hg:=dTr hg|replace hg:=dFa hg|skip))|(refine QT ?_;clear hA a;intro a hA)|(refine BT ?_;clear hA hH;rintro _ w ⟨bN,rfl,hH⟩ a hA)|(refine SAT (shp2) hA hH ?_;clear hH;intro w hH)|(apply zO hA rfl rfl;apply zB (cs':=zU c (p+1));rfl;rfl;rfl;exact hH;(repeat constructor);clear hH;rintro _ w hH)|refine CT ?_|fail)
  replace hH:=hH.up 4 rfl
  dsimp only [List.eraseIdx_cons_succ,List.eraseIdx_cons_zero] at hH
  (refine zH hA rfl rfl (by decide) (zA rfl rfl rfl (atomsA_spec w0 _ _ c bK (p+1) o hH hr (by omega) (by omega))) ?_;clear hA hH)
  rintro _ w ⟨rfl,hH⟩ a hA
  repeat' (first|(refine QT ?_;clear hA a;intro a hA)|refine CT ?_|fail)
  (refine zH hA rfl rfl (by decide) (zA rfl rfl rfl (jG _ _)) ?_;clear hA;rintro _ w ⟨rfl,hk⟩ a hA;replace hH:=hH.keep hk;clear hk)
  repeat' (first|(refine QT ?_;clear hA a;intro a hA)|refine CT ?_|fail)
  rw [show p+1+1=p+2 by omega] at hH
  exact rt1 (.inl rfl) rfl hA rfl ⟨rfl,hH.rm 1 |>.rm 1 |>.rm 1 |>.rm 1⟩
end
inductive AN where
  |mk (k x:Int) (xs:Vec Int) (n:Int) (ns:Vec Int) (r:Stp) (a:Vec Atm) (ko:Option Addr) (kc:Nat) (kids:List AN)
def AN.k:AN→Int| .mk k _ _ _ _ _ _ _ _ _=>k
def AN.x:AN→Int| .mk _ x _ _ _ _ _ _ _ _=>x
def AN.xs:AN→Vec Int| .mk _ _ xs _ _ _ _ _ _ _=>xs
def AN.n:AN→Int| .mk _ _ _ n _ _ _ _ _ _=>n
def AN.ns:AN→Vec Int| .mk _ _ _ _ ns _ _ _ _ _=>ns
def AN.r:AN→Stp| .mk _ _ _ _ _ r _ _ _ _=>r
def AN.a:AN→Vec Atm| .mk _ _ _ _ _ _ a _ _ _=>a
def AN.kids:AN→List AN| .mk _ _ _ _ _ _ _ _ _ kids=>kids
def xF:AN→List Value
  | .mk k x xs n ns r a ko kc kids=>[.int .i64 k,.int .i64 x,.slice xs.o xs.l.length xs.c,.int .i64 n,.slice ns.o ns.l.length ns.c,.int .i64 r.k,.int .i64 r.n,.slice r.ns.o r.ns.l.length r.ns.c,.slice r.a.o r.a.l.length r.a.c,.slice a.o a.l.length a.c,.slice ko kids.length kc]
theorem wN:∀b:AN,(xF b).length=11
  | .mk ..=>rfl
inductive RdN (w:World):AN→Prop
  | mk {k x n:Int} {xs ns:Vec Int} {r:Stp} {a:Vec Atm} {ko:Option Addr} {kc:Nat} {kids:List AN} (h1:RdV w Fw.encI xs∧xs.l.length≤17592186044416) (h2:RdV w Fw.encI ns∧ns.l.length≤17592186044416)
      (h3:RdV w Fw.encI r.ns∧r.ns.l.length≤17592186044416) (h4:RdV w zN r.a∧r.a.l.length≤17592186044416) (h5:RdV w zN a∧a.l.length≤17592186044416) (h6:RdV w xF ⟨ko,kc,kids⟩∧kids.length≤17592186044416) (h7:∀b∈kids,RdN w b):RdN w (.mk k x xs n ns r a ko kc kids)
theorem RdN.keep {w w':World} {b:AN} (h:RdN w b) (hk:Kp w noM w'):RdN w' b:=by
  induction h with
  |mk h1 h2 h3 h4 h5 h6 h7 ih=>exact .mk ⟨h1.1.keep hk,h1.2⟩ ⟨h2.1.keep hk,h2.2⟩ ⟨h3.1.keep hk,h3.2⟩ ⟨h4.1.keep hk,h4.2⟩ ⟨h5.1.keep hk,h5.2⟩ ⟨h6.1.keep hk,h6.2⟩ ih
theorem rd_cell {w:World} {o:Option Addr} {xs:List Value} {j:Nat} {v:Value} (h:Rd w o xs) (hv:xs[j]?=some v):w.cell? (sat o j)=some v:=h.2 j v hv
structure CS where
  ever:List Int
  now:List Int
  js:List (Int × Int)
  op:List Int
  p:Int
def atA (g:Grs) (ks:List Int) (a:Atm):Prop:=(a.k=1∧0≤a.n∧a.n≤1048576∧a.n∈ks)∨(a.k=2∧-4611686018427387904≤a.n∧a.n≤4611686018427387903)∨(a.k=3∧0≤a.n∧a.n<g.ss.l.length)
def jJ (g:Grs) (ks:List Int) (p:Int) (l:List Atm):Prop:=(∀a∈l,atA g ks a)∧(l=[]∨p+l.length≤65536)
structure ShpP (k x:Int) (xs:List Int) (n:Int) (ns:List Int) (r:Stp) (a:List Atm) (kids:Nat):Prop where
  x:k=1∨x=0
  xs:k=7∨xs=[]
  n:k=7∨k=8∨n=0
  ns:k=6∨ns=[]
  r:k=1∨(r.k=0∧r.n=0∧r.ns.l=[]∧r.a.l=[])
  a:(k=2∨k=4∨k=5∨k=6→a.length=1)∧(k=3→a.length=2)∧(k=1∨k=7→a=[])
  kids:(k=1→kids=1)∧(k=5∨k=7→kids=2)∧(k=2∨k=3∨k=4∨k=8→kids=0)
section
open Classical
variable (g:Grs) (la:List Int) (mine:Int)
noncomputable def rD:List Int→List Int→List Int→Option (List Int × List Int)
  | [],es,ks=>some (es,ks)
  |x::l,es,ks=>if qZ es x then rD l (es++[x]) (ks++[x]) else none
noncomputable def sF (l:List Int) (s:CS):Option CS:=(rD l s.ever s.now).map fun q=>{s with ever:=q.1,now:=q.2}
def tX (l:List Int) (s:CS):CS:={s with now:=l.foldl rS s.now}
noncomputable def jI (l:List Atm) (s:CS):Option CS:=if jJ g s.now s.p l then some {s with p:=s.p+l.length} else none
noncomputable def jH (r:Stp) (s:CS):Option CS:=if FormP g la mine r then jI g r.a.l s else none
def kB (n:Int) (s:CS):CS:={s with op:=sG s.op n}
def shF (n:Int) (s:CS):CS:={s with op:=rS s.op n}
noncomputable def bY (xs:List Int) (n:Int) (s:CS):Option CS:=if (lkI s.js n).isSome then none else sF xs {s with js:=wX s.js n xs.length}
noncomputable def nW (b:AN) (d:Int) (s:CS):Option CS:=
  if (1≤b.k∧b.k≤8)∧s.p+1≤65536∧d≤32768∧ShpP b.k b.x b.xs.l b.n b.ns.l b.r b.a.l b.kids.length then jI g b.a.l {s with p:=s.p+1} else none
mutual
noncomputable def xL:AN→Int→CS→Option CS
  | .mk k x xs n ns r a ko kc kids,d,s=>(nW g (.mk k x xs n ns r a ko kc kids) d s).bind fun s=>
    if k=1 then ((jH g la mine r s).bind (sF [x])).bind fun s=>(tB kids (d+1) s).map (tX [x])
    else if k=7 then (bY xs.l n s).bind fun s=>pL kids xs.l n (d+1) s
    else if k=8 then (if n∈s.op∧(a.l.length:Int)=(lkI s.js n).getD 0 then some s else none)
    else if k=6 then (if upP ns.l∧ns.l≠[]∧kids.length=ns.l.length+1 then wI kids (d+1) s else none)
    else wI kids (d+1) s
noncomputable def tB:List AN→Int→CS→Option CS
  | [],_,_=>none
  |b::_,d,s=>xL b d s
noncomputable def pL:List AN→List Int→Int→Int→CS→Option CS
  | [],_,_,_,_=>none
  |b::l,xs,n,d,s=>(xL b d s).bind fun s=>(tB l d (kB n (tX xs s))).map (shF n)
noncomputable def wI:List AN→Int→CS→Option CS
  | [],_,s=>some s
  |b::l,d,s=>(xL b d s).bind fun s=>wI l d s
end
end
theorem atka {g:Grs} {ks:List Int} {a:Atm}:atA g ks a↔(a.k=1∧0≤a.n∧a.n≤1048576∧a.n∈ks)∨(a.k=2∧-4611686018427387904≤a.n∧a.n≤4611686018427387903)∨(a.k=3∧0≤a.n∧a.n<g.ss.l.length):=Iff.rfl
theorem atsa_next {g:Grs} {ks:List Int} {l:List Atm} {i:Nat} {a:Atm} (h:l[i]?=some a) (hp:∀b∈l.take i,atA g ks b) (ha:atA g ks a):∀b∈l.take (i+1),atA g ks b:=by
  intro b hb
  rw [yU h] at hb
  rcases List.mem_append.1 hb with h1|h1
  · exact hp b h1
  · rw [List.mem_singleton] at h1
    exact h1▸ha
theorem atsa_no {g:Grs} {ks:List Int} {p:Int} {l:List Atm} {i:Nat} {a:Atm} (h:l[i]?=some a) (ha:¬atA g ks a):¬jJ g ks p l:=fun hc=>ha (hc.1 a (List.mem_of_getElem? h))
theorem atsa_many {g:Grs} {ks:List Int} {p:Int} {l:List Atm} {i:Nat} (hi:i<l.length) (h:65536<p+((i+1:Nat):Int)):¬jJ g ks p l:=by
  rintro ⟨_,h2|h2⟩
  · rw [h2] at hi
    cases hi
  · omega
section
attribute [local irreducible] Code.wp wpList Calls Ex Op1 sat bat blk cb own Go.Fw.mp Go.Fw.mpO Go.Fw.mpI Go.Fw.mpE Go.Fw.itr HS Rd Ret wkD Hp Cl Cls Exit.then Exit.inBlock Exit.noGoto bodyPost Go.Fw.flat wk2 Go.Fw.all Go.Fw.owns wpOp
attribute [local irreducible] sk mpK sko mvO xI

theorem kY (w0 w:World) (H:List It) (c:Kk) (bK bW:Nat) (p:Int) (ks:List Int) (v:Vec Atm) (hc:c.n=some bW) (hH:HS w0 noM (cb bK 127 (zU c p)::sk bW ks::H) w) (hR:RdV w0 zN v) (hp0:0≤p) (hp1:p≤65536) :
    Ret Tryz.prog 79 #[.pointer (some (bat bK 0)),.slice v.o v.l.length v.c] w (fun r w'=>
      (jJ c.g ks p v.l∧r= .bool true∧HS w0 noM (cb bK 127 (zU c (p+v.l.length))::sk bW ks::H) w')∨
      (¬jJ c.g ks p v.l∧r= .bool false∧∃p',HS w0 noM (cb bK 127 (zU c p')::sk bW ks::H) w')):=by
  obtain ⟨oP,nP,cP,g,oA,nA,cA,caps,e,n,j,o⟩:=c
  obtain rfl:n=some bW:=hc
  have hle:=hR.le
  have hsp:Sp v.o v.l.length:=hR.1.sp (sz:=2) (zF yT _) (by omega)
  (refine ENT (N:=78) Tryz.func79 Tryz.ntmps79 ?_;intro a hA)
  repeat' (first|(refine QT ?_;clear hA a;intro a hA)|refine CT ?_|fail)
  refine yK (S:=Nat) (fun i a w=>(i≤v.l.length∧(∀b∈v.l.take i,atA g ks b)∧(i=0∨p+i≤65536))∧HS w0 noM (cb bK 127 (zU ⟨oP,nP,cP,g,oA,nA,cA,caps,e,some bW,j,o⟩ (p+i))::sk bW ks::H) w∧Sl 78 [(10,.int .i64 i),(9,.int .i64 v.l.length),(8,.slice v.o v.l.length v.c),(0,.pointer (some (bat bK 0)))] a) (fun i=>v.l.length - i)
    (fun a w=>jJ g ks p v.l∧HS w0 noM (cb bK 127 (zU ⟨oP,nP,cP,g,oA,nA,cA,caps,e,some bW,j,o⟩ (p+v.l.length))::sk bW ks::H) w∧Sl 78 [] a) 0 ⟨⟨Nat.zero_le _,(by rw [List.take_zero];exact fun b h=>absurd h List.not_mem_nil),.inl rfl⟩,(by rw [show p+((0:Nat):Int)=p by omega];exact hH),(hA.sub SBT)⟩ ?_ ?_
  · clear hA hH
    rintro i a w ⟨⟨hi,hok,hpi⟩,hH,hA⟩
    by_cases hlt:i<v.l.length
    rotate_left
    · obtain rfl:i=v.l.length:=by omega
      rw [List.take_length] at hok
      repeat' (first|(refine QT ?_;clear hA a;intro a hA)|refine CT ?_|(refine DT ?_ ?_<;>intro hc<;>try (exfalso;omega))|fail)
      exact ⟨⟨hok,hpi.imp (fun h=>List.length_eq_zero_iff.1 h) id⟩,hH,(hA.sub SBT)⟩
    obtain ⟨x,hx⟩:∃x,v.l[i]?=some x:=⟨_,List.getElem?_eq_getElem hlt⟩
    have hvs:=yA yT hx
    have hpb:p+(i:Int)≤65536:=by rcases hpi with h|h<;>omega
    have e1:p+(i:Int)+1=p+((i+1:Nat):Int):=by omega
    repeat' (first|(refine GT ?_ ?_<;>intro hg<;>clear hA a<;>intro a hA<;>(first|exact FA|replace hg:=dTr hg|replace hg:=dFa hg|skip))|(refine XT ?_;apply XE;(first|(apply qQ;rfl;rfl;exact MEMT)|(apply zG (vs:=zN x);rfl;rfl;exact yV hR.1 id hvs));clear hA a;intro a hA)|(refine QT ?_;clear hA a;intro a hA)|(refine BT ?_;clear hA hH;rintro _ w ⟨bN,rfl,hH⟩ a hA)|(refine SAT (zN x) hA hH ?_;clear hH;intro w hH)|(apply zO hA rfl rfl;apply zB (cs':=zU ⟨oP,nP,cP,g,oA,nA,cA,caps,e,some bW,j,o⟩ (p+(i:Int)+1));rfl;rfl;rfl;exact hH;(repeat constructor);clear hH;rintro _ w hH)|refine CT ?_|(refine DT ?_ ?_<;>intro hc<;>try (exfalso;omega))|(refine zQ [(0,1),(1,1),(2,1),(3,1),(4,1),(5,1),(6,1),(7,1),(8,1),(9,1),(10,1),(11,1),(12,1),(13,1),(14,1)] mixed (by decide +kernel) hH ?_;replace hH:=hH.drew)|(refine zQ [(0,1),(1,1),(2,1),(3,1),(4,1),(5,1),(6,1),(7,1),(8,1),(9,1),(10,1),(11,1),(12,1),(13,1),(14,1),(15,1),(16,1),(17,1)] mixed (by decide +kernel) hH ?_;replace hH:=hH.drew)|fail)
    all_goals first
      |exact ⟨i+1,⟨⟨hlt,atsa_next hx hok (by first|exact .inl ⟨by assumption,by assumption,by assumption,nd_f (by assumption)⟩|exact .inr (.inl ⟨by assumption,by assumption,nd_f (by assumption)⟩)|exact .inr (.inr ⟨by assumption,by assumption,nd_f (by assumption)⟩)),.inr (by omega)⟩,(by rw [←e1];exact hH.tail),(hA.sub SBT)⟩,by omega⟩
      |exact rt1 (.inl rfl) rfl hA rfl (.inr ⟨atsa_many hlt (by omega),rfl,_,hH.tail⟩)
      |exact rt1 (.inl rfl) rfl hA rfl (.inr ⟨atsa_no hx (fun h=>(by rcases atka.1 h with ⟨h1,h2,h3,h4⟩| ⟨h1,h2,h3⟩| ⟨h1,h2,h3⟩<;>first|omega|exact absurd h3 (nd_t (by assumption))|exact absurd h4 (nd_t (by assumption)))),rfl,_,hH.tail⟩)
  clear hA hH
  rintro a w ⟨hok,hH,hA⟩
  repeat' (first|(refine QT ?_;clear hA a;intro a hA)|refine CT ?_|fail)
  exact rt1 (.inl rfl) rfl hA rfl (.inl ⟨hok,rfl,hH⟩)

def NowOk (es ks:List Int):Prop:=∀x∈ks,x<2∨x∈es
theorem NowOk.new {es ks:List Int} {x:Int} (h:NowOk es ks) (hx:qZ es x):x ∉ ks:=fun hk=>(h x hk).elim (fun h1=>(by have:=hx.1;omega)) hx.2.2
theorem NowOk.snoc {es ks:List Int} {x:Int} (h:NowOk es ks):NowOk (es++[x]) (ks++[x]):=fun y hy=>by
  rcases List.mem_append.1 hy with h1|h1
  · exact (h y h1).imp id fun h2=>List.mem_append.2 (.inl h2)
  · exact .inr (List.mem_append.2 (.inr h1))
theorem bindL_ok:∀{l es ks:List Int} {q:List Int × List Int},NowOk es ks→rD l es ks=some q→NowOk q.1 q.2
  | [],es,ks,q,h,e=>by cases e;exact h
  | x::l,es,ks,q,h,e=>by
    unfold rD at e
    split at e
    · exact bindL_ok h.snoc e
    · cases e
theorem bindL_yes {l es ks:List Int} {i:Nat} {x:Int} (h:l[i]?=some x) (hb:qZ es x):rD (l.drop i) es ks=rD (l.drop (i+1)) (es++[x]) (ks++[x]):=by
  obtain ⟨hi,rfl⟩:=List.getElem?_eq_some_iff.1 h
  rw [List.drop_eq_getElem_cons hi]
  exact if_pos hb
theorem eG {l es ks:List Int} {i:Nat} {x:Int} (h:l[i]?=some x) (hb:¬qZ es x):rD (l.drop i) es ks=none:=by
  obtain ⟨hi,rfl⟩:=List.getElem?_eq_some_iff.1 h
  rw [List.drop_eq_getElem_cons hi]
  exact if_neg hb
theorem ints_val {l:List Int} {i:Nat} {x:Int} (h:l[i]?=some x):(flat Fw.encI l)[i*1]?=some (.int .i64 x):=yZ (off:=0) Fw.encI_len h rfl
theorem eF (w0 w:World) (H:List It) (c:Kk) (bK bE bW:Nat) (p:Int) (es ks:List Int) (v:Vec Int) (he:c.e=some bE) (hc:c.n=some bW) (hH:HS w0 noM (cb bK 127 (zU c p)::sk bE es::sk bW ks::H) w)
    (hR:∀es ks w',HS w0 noM (cb bK 127 (zU c p)::sk bE es::sk bW ks::H) w'→Rd w' v.o (flat Fw.encI v.l)) (hl:v.l.length≤17592186044416) (hok:NowOk es ks) :
    Ret Tryz.prog 81 #[.pointer (some (bat bK 0)),.slice v.o v.l.length v.c] w (fun r w'=>
      (∃q,rD v.l es ks=some q∧r= .bool true∧HS w0 noM (cb bK 127 (zU c p)::sk bE q.1::sk bW q.2::H) w')∨
      (rD v.l es ks=none∧r= .bool false∧∃es' ks',HS w0 noM (cb bK 127 (zU c p)::sk bE es'::sk bW ks'::H) w')):=by
  obtain ⟨oP,nP,cP,g,oA,nA,cA,caps,e,n,j,o⟩:=c
  obtain rfl:n=some bW:=hc
  obtain rfl:e=some bE:=he
  have hsp:Sp v.o v.l.length:=(hR _ _ _ hH).sp (sz:=1) (zF Fw.encI_len _) (by omega)
  (refine ENT (N:=42) Tryz.func81 Tryz.ntmps81 ?_;intro a hA)
  repeat' (first|(refine QT ?_;clear hA a;intro a hA)|refine CT ?_|fail)
  refine yK (S:=Nat × List Int × List Int) (fun s a w=>(s.1≤v.l.length∧rD v.l es ks=rD (v.l.drop s.1) s.2.1 s.2.2∧NowOk s.2.1 s.2.2)∧HS w0 noM (cb bK 127 (zU ⟨oP,nP,cP,g,oA,nA,cA,caps,some bE,some bW,j,o⟩ p)::sk bE s.2.1::sk bW s.2.2::H) w∧Sl 42 [(9,.int .i64 s.1),(8,.int .i64 v.l.length),(7,.slice v.o v.l.length v.c),(0,.pointer (some (bat bK 0)))] a) (fun s=>v.l.length - s.1)
    (fun a w=>∃q,rD v.l es ks=some q∧HS w0 noM (cb bK 127 (zU ⟨oP,nP,cP,g,oA,nA,cA,caps,some bE,some bW,j,o⟩ p)::sk bE q.1::sk bW q.2::H) w∧Sl 42 [] a) (0,es,ks) ⟨⟨Nat.zero_le _,rfl,hok⟩,hH,(hA.sub SBT)⟩ ?_ ?_
  · clear hA hH hok
    rintro ⟨i,es',ks'⟩ a w ⟨⟨hi,heq,hok⟩,hH,hA⟩
    dsimp only at hi heq hok hH hA ⊢
    by_cases hlt:i<v.l.length
    rotate_left
    · obtain rfl:i=v.l.length:=by omega
      rw [List.drop_length] at heq
      repeat' (first|(refine QT ?_;clear hA a;intro a hA)|refine CT ?_|(refine DT ?_ ?_<;>intro hc<;>try (exfalso;omega))|fail)
      exact ⟨_,heq,hH,(hA.sub SBT)⟩
    obtain ⟨x,hx⟩:∃x,v.l[i]?=some x:=⟨_,List.getElem?_eq_getElem hlt⟩
    have hvx:=ints_val hx
    have hcl:Cl (HS w0 noM (cb bK 127 (zU ⟨oP,nP,cP,g,oA,nA,cA,caps,some bE,some bW,j,o⟩ p)::sk bE es'::sk bW ks'::H)) (sat v.o (i*1)) (.int .i64 x):=cl_of fun w hw=>rd_cell (hR _ _ w hw) hvx
    repeat' (first|(refine GT ?_ ?_<;>intro hg<;>clear hA a<;>intro a hA<;>(first|exact FA|replace hg:=dTr hg|replace hg:=dFa hg|skip))|(refine XT ?_;apply XE;(first|(apply qQ;rfl;rfl;exact MEMT)|(apply zE;rfl;rfl;omega;exact hsp)|(apply zC;rfl;exact hcl));clear hA a;intro a hA)|(refine QT ?_;clear hA a;intro a hA)|refine CT ?_|(refine DT ?_ ?_<;>intro hc<;>try (exfalso;omega))|fail)
    · exact rt1 (.inl rfl) rfl hA rfl (.inr ⟨heq.trans (eG hx fun h=>(by have:=h.1;omega)),rfl,_,_,hH⟩)
    · exact rt1 (.inl rfl) rfl hA rfl (.inr ⟨heq.trans (eG hx fun h=>(by have:=h.2.1;omega)),rfl,_,_,hH⟩)
    · have hin:x∈es':=by assumption
      exact rt1 (.inl rfl) rfl hA rfl (.inr ⟨heq.trans (eG hx fun h=>h.2.2 hin),rfl,_,_,hH⟩)
    have hnin:¬x∈es':=by assumption
    have hbp:qZ es' x:=⟨by omega,by omega,hnin⟩
    (refine zQ (H:=[cb bK 127 (zU ⟨oP,nP,cP,g,oA,nA,cA,caps,some bE,some bW,j,o⟩ p)]) [(0,1),(1,1),(2,1),(3,1),(4,1),(5,1),(6,1),(7,1),(8,1),(9,1),(10,0),(11,1),(12,0),(13,0),(14,1),(15,0)] mixed (by decide +kernel) (hH.pick (.head _)) ?_;replace hH:=hH.drew)
    repeat' (first|(refine QT ?_;clear hA a;intro a hA)|fail)
    replace hH:=hH.perm (List.Perm.swap _ _ _)
    (refine yO hA rfl rfl rfl (by decide) (lW rfl rfl hH hnin) ?_;clear hA hH;rintro _ w ⟨cl,rfl,hH⟩;refine ⟨hH.pick (by exact MEMT),?_⟩;intro a hA)
    repeat' (first|(refine QT ?_;clear hA a;intro a hA)|fail)
    (refine aV hA rfl rfl rfl (pI rfl rfl rfl hH) ?_;clear hH;rintro _ w hH;refine ⟨hH.pick (by exact MEMT),?_⟩)
    replace hH:=hH.up 2 rfl
    dsimp only [List.eraseIdx_cons_succ,List.eraseIdx_cons_zero] at hH
    (refine yO hA rfl rfl rfl (by decide) (lW rfl rfl hH (hok.new hbp)) ?_;clear hA hH;rintro _ w ⟨cl,rfl,hH⟩;refine ⟨hH.pick (by exact MEMT),?_⟩;intro a hA)
    repeat' (first|(refine QT ?_;clear hA a;intro a hA)|fail)
    (refine aV hA rfl rfl rfl (pI rfl rfl rfl hH) ?_;clear hH;rintro _ w hH;refine ⟨hH.pick (by exact MEMT),?_⟩)
    repeat' (first|(refine QT ?_;clear hA a;intro a hA)|refine CT ?_|fail)
    exact ⟨(i+1,es'++[x],ks'++[x]),⟨⟨hlt,heq.trans (bindL_yes hx hbp),hok.snoc⟩,hH.perm PMT,(hA.sub SBT)⟩,by dsimp only;omega⟩
  clear hA hH
  rintro a w ⟨q,hq,hH,hA⟩
  repeat' (first|(refine QT ?_;clear hA a;intro a hA)|refine CT ?_|fail)
  exact rt1 (.inl rfl) rfl hA rfl (.inl ⟨q,hq,rfl,hH⟩)
end
structure Sh where
  x:Bool
  xs:Bool
  n:Bool
  ns:Bool
  r:Bool
  a:Int
  k:Int
def uB (h:Sh):List Value:=[.bool h.x,.bool h.xs,.bool h.n,.bool h.ns,.bool h.r,.int .i64 h.a,.int .i64 h.k]
def shK (k:Int):Sh × Bool:=if k=1 then (⟨true,false,false,false,true,0,1⟩,true) else if k=2∨k=4 then (⟨false,false,false,false,false,1,0⟩,true) else if k=3 then (⟨false,false,false,false,false,2,0⟩,true)
  else if k=5 then (⟨false,false,false,false,false,1,2⟩,true) else if k=6 then (⟨false,false,false,true,false,1,-1⟩,true) else if k=7 then (⟨false,true,true,false,false,0,2⟩,true) else if k=8 then (⟨false,false,true,false,false,-1,0⟩,true) else (⟨false,false,false,false,false,0,0⟩,false)
theorem drop_snoc {l:List Int} {i:Nat} {x:Int} (h:l[i]?=some x) (ks:List Int):(l.drop i).foldl rS ks=(l.drop (i+1)).foldl rS (rS ks x):=by
  obtain ⟨hi,rfl⟩:=List.getElem?_eq_some_iff.1 h
  rw [List.drop_eq_getElem_cons hi,List.foldl_cons]
theorem sub_P (c:Kk) (p:Int) (i:Nat) (v:Value) (h:(xA c.oP c.nP c.cP c.g)[i]?=some v):(zU c p)[0+i]?=some v:=by
  rw [Nat.zero_add]
  match i,h with
  |0,h=>exact h
  |1,h=>exact h
  |2,h=>exact h
  |3,h=>exact h
  |4,h=>exact h
  |n+5,h=>exact absurd h (by simp [xA])
section
attribute [local irreducible] Code.wp wpList Calls Ex Op1 sat bat blk cb own Go.Fw.mp Go.Fw.mpO Go.Fw.mpI Go.Fw.mpE Go.Fw.itr HS Rd Ret wkD Hp Cl Cls Exit.then Exit.inBlock Exit.noGoto bodyPost Go.Fw.flat wk2 Go.Fw.all Go.Fw.owns wpOp
attribute [local irreducible] sk mpK sko mvO xI

theorem eX (w0 w:World) (H:List It) (c:Kk) (bK bW:Nat) (p:Int) (ks:List Int) (v:Vec Int) (hc:c.n=some bW) (hH:HS w0 noM (cb bK 127 (zU c p)::sk bW ks::H) w)
    (hR:∀ks w',HS w0 noM (cb bK 127 (zU c p)::sk bW ks::H) w'→Rd w' v.o (flat Fw.encI v.l)) (hl:v.l.length≤17592186044416) :
    Ret Tryz.prog 82 #[.pointer (some (bat bK 0)),.slice v.o v.l.length v.c] w (fun r w'=>r= .tuple #[]∧HS w0 noM (cb bK 127 (zU c p)::sk bW (v.l.foldl rS ks)::H) w'):=by
  obtain ⟨oP,nP,cP,g,oA,nA,cA,caps,e,n,j,o⟩:=c
  obtain rfl:n=some bW:=hc
  have hsp:Sp v.o v.l.length:=(hR _ _ hH).sp (sz:=1) (zF Fw.encI_len _) (by omega)
  (refine ENT (N:=18) Tryz.func82 Tryz.ntmps82 ?_;intro a hA)
  repeat' (first|(refine QT ?_;clear hA a;intro a hA)|refine CT ?_|fail)
  refine yK (S:=Nat × List Int) (fun s a w=>(s.1≤v.l.length∧v.l.foldl rS ks=(v.l.drop s.1).foldl rS s.2)∧HS w0 noM (cb bK 127 (zU ⟨oP,nP,cP,g,oA,nA,cA,caps,e,some bW,j,o⟩ p)::sk bW s.2::H) w∧Sl 18 [(8,.int .i64 s.1),(7,.int .i64 v.l.length),(6,.slice v.o v.l.length v.c),(0,.pointer (some (bat bK 0)))] a) (fun s=>v.l.length - s.1)
    (fun a w=>HS w0 noM (cb bK 127 (zU ⟨oP,nP,cP,g,oA,nA,cA,caps,e,some bW,j,o⟩ p)::sk bW (v.l.foldl rS ks)::H) w∧Sl 18 [] a) (0,ks) ⟨⟨Nat.zero_le _,rfl⟩,hH,(hA.sub SBT)⟩ ?_ ?_
  · clear hA hH
    rintro ⟨i,ks'⟩ a w ⟨⟨hi,heq⟩,hH,hA⟩
    dsimp only at hi heq hH hA ⊢
    by_cases hlt:i<v.l.length
    rotate_left
    · obtain rfl:i=v.l.length:=by omega
      rw [List.drop_length] at heq
      rw [heq]
      repeat' (first|(refine QT ?_;clear hA a;intro a hA)|refine CT ?_|(refine DT ?_ ?_<;>intro hc<;>try (exfalso;omega))|fail)
      exact ⟨hH,(hA.sub SBT)⟩
    obtain ⟨x,hx⟩:∃x,v.l[i]?=some x:=⟨_,List.getElem?_eq_getElem hlt⟩
    have hvx:=ints_val hx
    have hcl:Cl (HS w0 noM (cb bK 127 (zU ⟨oP,nP,cP,g,oA,nA,cA,caps,e,some bW,j,o⟩ p)::sk bW ks'::H)) (sat v.o (i*1)) (.int .i64 x):=cl_of fun w hw=>rd_cell (hR _ w hw) hvx
    repeat' (first|(refine XT ?_;apply XE;(first|(apply zE;rfl;rfl;omega;exact hsp)|(apply zC;rfl;exact hcl));clear hA a;intro a hA)|(refine QT ?_;clear hA a;intro a hA)|(apply zO hA rfl rfl;apply bI;rfl;rfl;exact hH;(repeat constructor);clear hH;rintro _ w ⟨rfl,hH⟩)|refine CT ?_|(refine DT ?_ ?_<;>intro hc<;>try (exfalso;omega))|fail)
    exact ⟨(i+1,rS ks' x),⟨⟨hlt,heq.trans (drop_snoc hx _)⟩,hH,(hA.sub SBT)⟩,by dsimp only;omega⟩
  clear hA hH
  rintro a w ⟨hH,hA⟩
  repeat' (first|(refine QT ?_;clear hA a;intro a hA)|fail)
  exact rt0 (.inr rfl) rfl hA ⟨rfl,hH⟩
theorem cY (w0:World) (k:Int):Ret Tryz.prog 78 #[.int .i64 k] w0 (fun r w=>r= .tuple #[.agg (uB (shK k).1).toArray,.bool (shK k).2]∧Kp w0 noM w):=by
  have hH:HS w0 noM [] w0:=HS.init w0 noM
  (refine ENT (N:=28) Tryz.func78 Tryz.ntmps78 ?_;intro a hA)
  repeat' (first|(refine XT ?_;apply XE;(first|(apply zI (cs:=(uB ⟨true,false,false,false,true,0,1⟩).toArray);rfl;exact FLT;rfl)|(apply zI (cs:=(uB ⟨false,false,false,false,false,1,0⟩).toArray);rfl;exact FLT;rfl)|(apply zI (cs:=(uB ⟨false,false,false,false,false,2,0⟩).toArray);rfl;exact FLT;rfl)|(apply zI (cs:=(uB ⟨false,false,false,false,false,1,2⟩).toArray);rfl;exact FLT;rfl)|(apply zI (cs:=(uB ⟨false,false,false,true,false,1,-1⟩).toArray);rfl;exact FLT;rfl)|(apply zI (cs:=(uB ⟨false,true,true,false,false,0,2⟩).toArray);rfl;exact FLT;rfl)|(apply zI (cs:=(uB ⟨false,false,true,false,false,-1,0⟩).toArray);rfl;exact FLT;rfl)|(apply zI (cs:=(uB ⟨false,false,false,false,false,0,0⟩).toArray);rfl;exact FLT;rfl));clear hA a;intro a hA)|(refine QT ?_;clear hA a;intro a hA)|(refine BT ?_;clear hA hH;rintro _ w ⟨bN,rfl,hH⟩ a hA)|(refine SAT (uB _) hA hH ?_;clear hH;intro w hH)|refine CT ?_|(refine DT ?_ ?_<;>intro hc<;>try (exfalso;omega))|fail)
  all_goals exact rt2c (vs:=uB _) (.inl rfl) rfl hA rfl rfl rfl hH (zR (by exact MEMT)) ⟨by unfold shK;(repeat (first|rw [if_pos (by omega)]|rw [if_neg (by omega)])),hH.kp⟩
theorem stepN_spec (w0 w:World) (H:List It) (c:Kk) (bK bW:Nat) (p:Int) (ks la:List Int) (r:Stp) (hc:c.n=some bW) (hH:HS w0 noM (cb bK 127 (zU c p)::sk bW ks::H) w) (hm:own 3 1 c.oA c.nA c.cA (flat Fw.encI la)∈H) (hn:c.nA=la.length) (hla:la.length≤9223372036854775807)
    (hN:RdV w0 Fw.encI r.ns) (hR:RdV w0 zN r.a) (hp0:0≤p) (hp1:p≤65536) :
    Ret Tryz.prog 80 #[.pointer (some (bat bK 0)),.agg (yG r).toArray] w (fun v w'=>
      ((FormP c.g la c.caps r∧jJ c.g ks p r.a.l)∧v= .bool true∧HS w0 noM (cb bK 127 (zU c (p+r.a.l.length))::sk bW ks::H) w')∨
      (¬(FormP c.g la c.caps r∧jJ c.g ks p r.a.l)∧v= .bool false∧∃p',HS w0 noM (cb bK 127 (zU c p')::sk bW ks::H) w')):=by
  obtain ⟨oP,nP,cP,g,oA,nA,cA,caps,e,n,j,o⟩:=c
  obtain rfl:n=some bW:=hc
  (refine ENT (N:=25) Tryz.func80 Tryz.ntmps80 ?_;intro a hA)
  repeat' (first|(refine QT ?_;clear hA a;intro a hA)|(refine BT ?_;clear hA hH;rintro _ w ⟨bN,rfl,hH⟩ a hA)|refine CT ?_|fail)
  (refine pB 12 [(0,1),(1,1),(2,1),(3,1),(4,1),(5,1),(6,1),(7,1),(8,1),(9,1),(10,1),(11,1),(12,1),(13,0),(14,1),(15,1),(16,1),(17,1)] [18,19,20] mixed (by decide +kernel) hH ?_;replace hH:=hH.drew)
  repeat' (first|(refine XT ?_;apply XE;(first|(apply zG (vs:=xA oP nP cP g);rfl;rfl;exact rW MEMT (sub_P ⟨oP,nP,cP,g,oA,nA,cA,caps,e,some bW,j,o⟩ p)));clear hA a;intro a hA)|(refine QT ?_;clear hA a;intro a hA)|fail)
  have hS:=Step_spec _ oP nP cP g oA cA la caps r (hH.own_rd (T:=3) (n:=nA) (cap:=cA) (sz:=1) (.tail _ (.tail _ (.tail _ hm)))) hla (hN.keep hH.kp)
  have hn2:nA=la.length:=hn
  rw [←hn2] at hS
  (refine yO hA rfl rfl rfl (by decide) (zA rfl rfl rfl (hS)) ?_;clear hA;rintro _ w ⟨b,rfl,hbF,hk⟩;refine ⟨hH.keep hk,?_⟩;intro a hA)
  replace hH:=hH.keep hk
  cases b with
  | false=>
    repeat' (first|(refine GT ?_ ?_<;>intro hg<;>clear hA a<;>intro a hA<;>(first|exact FA|replace hg:=dTr hg|replace hg:=dFa hg|skip))|(refine QT ?_;clear hA a;intro a hA)|refine CT ?_|fail)
    exact rt1 (.inl rfl) rfl hA rfl (.inr ⟨fun h=>absurd (hbF.2 h.1) (by decide),rfl,p,hH.tail⟩)
  |true=>
  have hF:=hbF.1 rfl
  repeat' (first|(refine GT ?_ ?_<;>intro hg<;>clear hA a<;>intro a hA<;>(first|exact FA|replace hg:=dTr hg|replace hg:=dFa hg|skip))|(refine QT ?_;clear hA a;intro a hA)|refine CT ?_|fail)
  replace hH:=hH.perm (List.Perm.trans (List.Perm.swap _ _ _) (.cons _ (.swap _ _ _)))
  (refine rC hA rfl rfl rfl (by decide) (zA rfl rfl rfl (kY w0 _ _ _ bK bW p ks r.a rfl hH hR hp0 hp1)) ?_;clear hA hH)
  rintro _ w (⟨hat,rfl,hH⟩| ⟨hat,rfl,p',hH⟩) a hA
  · repeat' (first|(refine QT ?_;clear hA a;intro a hA)|refine CT ?_|fail)
    exact rt1 (.inl rfl) rfl hA rfl (.inl ⟨⟨hF,hat⟩,rfl,hH.rm 2⟩)
  · repeat' (first|(refine QT ?_;clear hA a;intro a hA)|refine CT ?_|fail)
    exact rt1 (.inl rfl) rfl hA rfl (.inr ⟨fun h=>hat h.2,rfl,p',hH.rm 2⟩)
end
end Go.Proofs.YtenlcdokaadobaaGreatDoor
