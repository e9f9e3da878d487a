/-
  An executor for runs on known data: append. Conditions: none.
  An executor for runs on known data: append, second part. Conditions: none.
  An executor for runs on known data: append, third part. Conditions: none.
  An executor for runs on known data: built-in functions. Conditions: none.
  An executor for runs on known data: maps. Conditions: none.
  An executor for runs on known data: maps, looked up and written. Conditions: none.
  An executor for runs on known data: maps, written. Conditions: none.
  An executor for runs on known data: ranging. Conditions: none.
  An executor for runs on known data: ranging, the next one. Conditions: none.
  An executor for runs on known data: a map's entry. Conditions: none.
  An executor for runs on known data: entries stored, keys deleted. Conditions: none.
  An executor for runs on known data: every operation that calls nothing. Conditions: none.
  An executor for runs on known data: every built-in function. Conditions: none.
  An executor for runs on known data: what an operation does, said once for all places that fit. Conditions: none.
  An executor for runs on known data: operations one behind the other. Conditions: none.
  An executor for runs on known data: a region that draws its order, read aa a row of states. Conditions: none.
-/
import Derived.Test.YtbapejgbjpcadaaGreatDoorRowJoinsMg3
namespace Go.Xc
open Go Go.RowKit Go.Fw
set_option linter.unusedVariables false
section
variable {P:Program} {X:Ctx} {N:Nat} {sl:Tr LV} {h:Tr LB} {n:Nat} {d:Option Tmp} {T:TypeId} {pos:String} {af:Array Edge} {g:Option (Nat × Bool)}
def Flat (P:Program) (t:TypeId):Prop:=(∃e,P.underlying t=some (.slice e))∨P.underlying t=some .string
theorem run_append_grow2 {w:World} {t t2 ty e:TypeId} {i:TypeInfo} {z:Value} (ht:P.underlying t=some (.slice e)) (ht2:Flat P t2) (hi:P.info? e=some i) (hz:i.zero=some z)
    {base:Option Addr} {sLen sCap m:Nat} {y:Value} {olds news:List Value} (hlen:(Builtin.lenOf y).run P w= .ok m w) (hnews:(Builtin.firstCells i.size m y).run P w.drew= .ok news.toArray w.drew)
    (holds:(Builtin.firstCells i.size sLen (.slice base sLen sCap)).run P w.drew= .ok olds.toArray w.drew)
    (hg:sCap<sLen+m) (h63:((sLen+m:Nat):Int)≤9223372036854775807) (hfit:Builtin.nextslicecap (sLen+m) sCap*i.bytes≤281474976710656) :
    (Builtin.append_ #[t,t2] ty #[.slice base sLen sCap,y]).run P w= .ok (.slice (some ⟨w.heap.size,0,none⟩) (sLen+m) (grownCap w (sLen+m) sCap e))
      (w.drew.alloc (.cells (olds.toArray++news.toArray++Builtin.zeroCells z.cells (grownCap w (sLen+m) sCap e - (sLen+m))) e)):=by
  have hn:¬(sLen+m≤sCap):=by omega
  have h63':¬(9223372036854775807<((sLen:Int)+(m:Int))):=by omega
  have h48':¬(281474976710656<Builtin.nextslicecap (sLen+m) sCap*i.bytes):=by omega
  rcases ht2 with ⟨e2,h2⟩|h2<;>simp [Builtin.append_,run_underlying ht,run_underlying h2,sizeOf,typeInfo,zeroValue,hi,hz,hlen,hn,h63',h48',Question.forced,hnews,holds,newRow,grownCap]<;>(congr 2;apply Array.ext';simp)
theorem run_append_room2 {w:World} {t t2 ty e:TypeId} {i:TypeInfo} (ht:P.underlying t=some (.slice e)) (ht2:Flat P t2) (hi:P.info? e=some i)
    {b o e' sLen sCap m:Nat} {y:Value} {cur news:List Value} (hb:w.heap[b]?=some (.cells cur.toArray e' (0,0))) (hlen:(Builtin.lenOf y).run P w= .ok m w) (hnews:(Builtin.firstCells i.size m y).run P w= .ok news.toArray w)
    (h1:∀u∈news,u.oneCell'=true) (hr:sLen+m≤sCap) (hfit:o+sLen*i.size+news.length≤cur.length) :
    (Builtin.append_ #[t,t2] ty #[.slice (some ⟨b,o,none⟩) sLen sCap,y]).run P w= .ok (.slice (some ⟨b,o,none⟩) (sLen+m) sCap) (w.setRow b (Fw.put cur (o+sLen*i.size) news).toArray):=by
  have hst:=run_storeCells_at P b (o+sLen*i.size) e' news 0 cur.toArray w hb (by simpa using hfit) h1
  simp only [Nat.add_zero] at hst
  have hst2:(storeCells ⟨b,o+sLen*i.size,none⟩ news).run P w= .ok () (w.setRow b (Fw.put cur (o+sLen*i.size) news).toArray):=by
    rw [hst]
    rfl
  rcases ht2 with ⟨e2,h2⟩|h2<;>simp [Builtin.append_,run_underlying ht,run_underlying h2,sizeOf,typeInfo,hi,hlen,hr,hnews,addr_add,hst2]
theorem run_append_nil2 {w:World} {t t2 ty e:TypeId} {i:TypeInfo} (ht:P.underlying t=some (.slice e)) (ht2:Flat P t2) (hi:P.info? e=some i)
    {base:Option Addr} {sLen sCap:Nat} {y:Value} (hlen:(Builtin.lenOf y).run P w= .ok 0 w) (hnews:(Builtin.firstCells i.size 0 y).run P w= .ok #[] w) (hr:sLen≤sCap) :
    (Builtin.append_ #[t,t2] ty #[.slice base sLen sCap,y]).run P w= .ok (.slice base sLen sCap) w:=by
  rcases ht2 with ⟨e2,h2⟩|h2<;>cases base<;>simp [Builtin.append_,run_underlying ht,run_underlying h2,sizeOf,typeInfo,hi,hlen,hr,hnews,storeCells]
theorem dd_mv {b fp:Nat} {B:LB} (hn:n<top) (hbn:b<n) (hbf:bt fp b) (hb:B.bd n):Dd h n (fp ||| bitM n) (bitM b) ((h.set 21 b none).set 21 n (some B)) (n+1):=by
  have hbt:b<top:=by omega
  have gt:∀i,((h.set 21 b none).set 21 n (some B)).get i=if i=n then some B else if i=b then none else h.get i:=by
    intro i
    rw [Tr.get_put _ i _ hn,Tr.get_put h i _ hbt]
  refine ⟨Nat.le_succ n,fun hB=>⟨hn,fun i C hg=>?_⟩,fun i hi hm=>?_,fun i hi h0=>?_,fun i hi hm=>?_⟩
  · rw [gt] at hg
    by_cases hi:i=n
    · rw [if_pos hi] at hg;cases hg;exact ⟨by omega,LB.bd_mono (Nat.le_succ n) hb⟩
    · rw [if_neg hi] at hg
      by_cases hib:i=b
      · rw [if_pos hib] at hg;cases hg
      · rw [if_neg hib] at hg
        exact ⟨Nat.lt_succ_of_lt (hB.get i C hg).1,LB.bd_mono (Nat.le_succ n) (hB.get i C hg).2⟩
  · rw [gt,if_neg (by omega),if_neg fun e=>hm ((bt_bitM b i).2 e)]
  · rw [gt,if_neg (by omega)]
    by_cases hib:i=b
    · rw [if_pos hib]
    · rw [if_neg hib];exact h0
  · rw [(bt_bitM b i).1 hm]
    exact (bt_or _ _ _).2 (.inl hbf)
theorem tk_mv {b fp k r:Nat} {B B0:LB} {e:En} {w w':World} (hB:HB n h) (hn:n<top) (hgb:h.get b=some B0) (hbf:bt fp b) (hg:Gd e (fun i=>i<n∧bt (fp ||| bitM n) i) h w) (hr:r=w.heap.size∨r=e.ρ b)
    (hk:Kp w (fun c=>c=e.ρ b) w') (hs:B.sat (e.add n r k) w' n):Tk h n (fp ||| bitM n) (bitM b) ((h.set 21 b none).set 21 n (some B)) (n+1) e w (e.add n r k) w':=by
  have hbn:=(hB.get b B0 hgb).1
  have hbt:b<top:=by omega
  have hag:=En.add_ag e n r k
  have hbS:b<n∧bt (fp ||| bitM n) b:=⟨hbn,(bt_or _ _ _).2 (.inl hbf)⟩
  have gt:∀i,((h.set 21 b none).set 21 n (some B)).get i=if i=n then some B else if i=b then none else h.get i:=by
    intro i
    rw [Tr.get_put _ i _ hn,Tr.get_put h i _ hbt]
  have old:∀i C,i<n→bt (fp ||| bitM n) i→((h.set 21 b none).set 21 n (some B)).get i=some C→C.sat (e.add n r k) w' i∧h.get i=some C∧e.ρ i<w.heap.size∧e.ρ i≠e.ρ b:=by
    intro i C hi hf hgt
    rw [gt,if_neg (by omega)] at hgt
    by_cases hib:i=b
    · rw [if_pos hib] at hgt;cases hgt
    · rw [if_neg hib] at hgt
      have h1:=hg.sat i C ⟨hi,hf⟩ hgt
      have hne:e.ρ i≠e.ρ b:=fun he=>hib (hg.inj i b C B0 ⟨hi,hf⟩ hbS hgt hgb he)
      exact ⟨LB.sat_ag hag hi (hk.block _ (LB.sat_lt h1) hne) (hB.get i C hgt).2 h1,hgt,LB.sat_lt h1,hne⟩
  refine ⟨hag,⟨fun i C hi hgt=>?_,fun i j C D hi hj hgi hgj he=>?_⟩,⟨hk.os,hk.tape,hk.output,hk.size,fun c hc hM=>hk.block c hc fun he=>hM ⟨b,hbn,(bt_bitM b b).2 rfl,by rw [hgb];rfl,he.symm⟩⟩,fun i hi hsm=>?_⟩
  · rcases hi with ⟨h1,h2⟩| ⟨h1,h2⟩
    · exact (old i C h1 h2 hgt).1
    · obtain rfl:i=n:=by omega
      rw [gt,if_pos rfl] at hgt
      cases hgt
      exact hs
  · have mix:∀i C,i<n→bt (fp ||| bitM n) i→((h.set 21 b none).set 21 n (some B)).get i=some C→(e.add n r k).ρ i≠(e.add n r k).ρ n:=by
      intro i C h1 h2 hgt he
      obtain ⟨_,_,q3,q4⟩:=old i C h1 h2 hgt
      rw [hag.ρ i h1,En.add_ρ] at he
      rcases hr with rfl|rfl
      · omega
      · exact q4 he
    rcases hi with ⟨h1,h2⟩| ⟨h1,h2⟩<;>rcases hj with ⟨h3,h4⟩| ⟨h3,h4⟩
    · obtain ⟨_,q1,_⟩:=old i C h1 h2 hgi
      obtain ⟨_,q2,_⟩:=old j D h3 h4 hgj
      rw [hag.ρ i h1,hag.ρ j h3] at he
      exact hg.inj i j C D ⟨h1,h2⟩ ⟨h3,h4⟩ q1 q2 he
    · obtain rfl:j=n:=by omega
      exact absurd he (mix i C h1 h2 hgi)
    · obtain rfl:i=n:=by omega
      exact absurd he.symm (mix j D h3 h4 hgj)
    · omega
  · by_cases hin:i=n
    · subst hin
      rw [En.add_ρ]
      rcases hr with rfl|rfl
      · exact .inl (Nat.le_refl _)
      · exact .inr ⟨b,hbn,(bt_bitM b b).2 rfl,by rw [hgb];rfl,rfl⟩
    · rw [gt,if_neg hin] at hsm
      by_cases hib:i=b
      · omega
      · rw [if_neg hib] at hsm
        obtain ⟨C,hC⟩:=Option.isSome_iff_exists.1 hsm
        have:=(hB.get i C hC).1
        omega
end
section
variable {P:Program} {X:Ctx} {N:Nat} {sl:Tr LV} {h:Tr LB} {n:Nat} {d:Option Tmp} {T:TypeId} {pos:String} {af:Array Edge} {g:Option (Nat × Bool)}
theorem lenL_bytes (l:List UInt8):(ByteArray.mk l.toArray).size=l.length:=rfl
theorem slC_run {sz f m:Nat} {v:LV} {cs:List LV} (hB:HB n h) (hv:v.bd n) (hq:slC h sz v=some (cs,f)) (hl:lenL v=some m) :
    LV.bds n cs∧∀e w,Gd e (fun i=>i<n∧bt f i) h w→(Builtin.lenOf (v.val e)).run P w= .ok m w∧∀w':World,w'.heap=w.heap→(Builtin.firstCells sz m (v.val e)).run P w'= .ok (LV.vals e cs).toArray w':=by
  rcases slC_sl hB hv hq with ⟨x,rfl,rfl,rfl⟩| ⟨m',hm',hlen,hb,hrd⟩
  · simp only [lenL,Option.some.injEq] at hl
    subst hl
    refine ⟨u8s_bd n x,fun e w _=>⟨?_,fun w' _=>?_⟩⟩
    · simp only [LV.val,Builtin.lenOf,Sem.run_pure];rfl
    · simp only [LV.val,Builtin.firstCells,Sem.run_pure,u8s_val]
      congr 1
      have h1:(ByteArray.mk x.toArray).extract 0 x.length=ByteArray.mk x.toArray:=ByteArray.extract_zero_size
      rw [h1]
      apply Array.ext'
      simp
  · rw [hl] at hm'
    cases hm'
    refine ⟨hb,fun e w hG=>?_⟩
    obtain ⟨o,c,h1,h2,h3⟩:=hrd e w hG
    rw [h1]
    refine ⟨by simp [Builtin.lenOf],fun w' hw'=>?_⟩
    cases o with
    | none=>
      have h0:=h2 rfl
      subst h0
      have:cs=[]:=List.eq_nil_of_length_eq_zero (by omega)
      subst this
      simp [Builtin.firstCells,LV.vals]
    | some a=>
      refine run_firstCells_some w' sz m a m c (LV.vals e cs) (by rw [vals_length];exact hlen) fun j u hu=>?_
      rw [←h3 a rfl j u hu]
      exact World.cell?_of_block (by rw [hw'])
theorem drew_kp (w:World):Kp w noM w.drew:=⟨rfl,rfl,rfl,Nat.le_refl _,fun b hb _=>rfl⟩
theorem alloc_drew_kp (w:World) (o:Obj):Kp w noM (w.drew.alloc o):=(drew_kp w).trans (alloc_kp w.drew o) fun b hb=>.inr hb
theorem exec_blt {b:Builtin} {aa:Array Operand} {ats:Array TypeId} {vs:Array Value} {a:Act} (h:aa.map a.eval=vs):execOp a.eval ⟨d,.call ⟨.builtin b,aa,ats⟩,T,pos,af,g⟩=builtin b ats T (aa.map fun| .const _=>true|_=>false) vs:=by
  simp only [execOp,resolve,invoke,h]
  rfl
theorem evs_arr {e:En} {a:Act} (hA:SlT N e sl a) {aa:Array Operand} {vs:List LV} (h:opds sl aa.toList=some vs):aa.map a.eval=(LV.vals e vs).toArray:=by
  apply Array.ext'
  rw [Array.toList_map,hA.evs h]
theorem grown_sat {e:En} {w:World} {Te sz c old:Nat} {olds news:List LV} {zc:Array Value} (ho:LV.bds n olds) (hn:LV.bds n news) (hl:olds.length+news.length=c*sz) (hz:zc.size=sz) (hc:c≤maxLen) (r:Nat) (w1:World)
    (hw:w1.heap[r]?=some (.cells ((LV.vals e olds).toArray++(LV.vals e news).toArray++Builtin.zeroCells zc (grownCap w c old Te - c)) Te (0,0))):LB.sat (e.add n r (grownCap w c old Te)) w1 n (.G Te sz (olds++news)):=by
  have hge:=grownCap_ge w c old Te
  simp only [LB.sat]
  rw [En.add_ρ,En.add_κ,hw,LV.vals_ag (En.add_ag e n _ _) _ (bds_iff.2 fun x hx=>(List.mem_append.1 hx).elim (bds_iff.1 ho x) (bds_iff.1 hn x))]
  refine ⟨(Builtin.zeroCells zc (grownCap w c old Te - c)).toList,?_,?_,grownCap_le_maxLen w c old Te hc,c,by rw [List.length_append];exact hl,hge⟩
  · congr 2
    apply Array.ext'
    simp [vals_map]
  · rw [vals_length,List.length_append,hl,Array.length_toList,size_zeroCells,hz,←Nat.add_mul]
    congr 1
    omega
end
section
variable {P:Program} {X:Ctx} {N:Nat} {sl:Tr LV} {h:Tr LB} {n:Nat} {d:Option Tmp} {T:TypeId} {pos:String} {af:Array Edge} {g:Option (Nat × Bool)}
theorem flat_some {t:Nat} {y:Ty} (hy:TyOk P t y) (hc:(Nat.beq y.k.code 1 || Nat.beq y.k.code 5)=true):Flat P t:=by
  rcases (Bool.or_eq_true _ _).mp hc with h|h
  · obtain ⟨e,he⟩:=TK.sl_of h
    have:=hy.k
    rw [he] at this
    exact .inl ⟨e,this⟩
  · have:=hy.k
    rw [TK.str_of h] at this
    exact .inr this
theorem does_appV {t t2 el:TypeId} {aa:Array Operand} {x y:LV} {z:Ty} {m f:Nat} {news:List LV} {q:R1} (hB:HB n h) (hS:SB n sl) (hz:TyOk P el z) (ht:P.underlying t=some (.slice el)) (ht2:Flat P t2) (ha:opds sl aa.toList=some [x,y])
    (hl:lenL y=some m) (hc:slC h z.zs.length y=some (news,f)) (h0:0<z.zs.length) (hby:z.by_≤65536) (hm:m≤1000000) (hnl:news.length=m*z.zs.length) (h1:news.all LV.one=true)
    (hq:appV h n el z.by_ z.zs.length m news f x=some q):Does P N sl h n ⟨d,.call ⟨.builtin .append,aa,#[t,t2]⟩,T,pos,af,g⟩ q:=by
  have hbs:=opds_bd hS ha
  simp only [LV.bds] at hbs
  obtain ⟨hnb,hrun⟩:=slC_run (P:=P) hB hbs.2.1 hc hl
  obtain ⟨ti,g1,g2,g3,g4⟩:=hz.inf
  have ex:∀(e:En) (w w':World) (a:Act) (v:Value),SlT N e sl a→(Builtin.append_ #[t,t2] T #[x.val e,y.val e]).run P w= .ok v w'→(execOp a.eval ⟨d,.call ⟨.builtin .append,aa,#[t,t2]⟩,T,pos,af,g⟩).run P w= .ok (.value v) w':=by
    intro e w w' a v hA hr
    rw [exec_blt (evs_arr hA ha)]
    simp only [builtin,LV.vals,Sem.run_bind,hr,Result.andThen_ok,Sem.run_pure]
  have one:∀e,∀u∈LV.vals e news,u.oneCell'=true:=fun e u hu=>List.all_eq_true.1 (ones_val e h1) u hu
  have fits:∀c cp,cp<c+m→c+m≤1000000+1000000→Builtin.nextslicecap (c+m) cp*ti.bytes≤281474976710656:=by
    intro c cp h2 h3
    refine growslice_fits h2 ?_
    rw [g4]
    have:=Nat.mul_le_mul h3 hby
    omega
  have hzs:∀e,(z.zero.val e).cells.size=z.zs.length:=fun e=>by rw [zero_arr hz e];simp [vals_length]
  have hml:maxLen=9223372036854775807:=rfl
  have nil:∀e w,m=0→Gd e (fun i=>i<n∧bt f i) h w→(Builtin.lenOf (y.val e)).run P w= .ok 0 w∧(Builtin.firstCells ti.size 0 (y.val e)).run P w= .ok #[] w:=by
    intro e w hm0 hG
    obtain ⟨r1,r2⟩:=hrun e w hG
    have:news=[]:=List.eq_nil_of_length_eq_zero (by rw [hnl,hm0];omega)
    subst this
    rw [hm0] at r1 r2
    rw [g3]
    exact ⟨r1,r2 w rfl⟩
  unfold appV at hq
  split at hq
  · cases hm0:Nat.beq m 0 with
    | true=>
      rw [hm0,cond_true] at hq
      cases hq
      have hm0:=Nat.eq_of_beq_eq_true hm0
      refine does_look hB (by simp only [LV.bd]) fun e w a hA hG=>?_
      obtain ⟨r1,r2⟩:=nil e w hm0 hG
      exact ex e w w a _ hA (by simp only [LV.val];exact run_append_nil2 ht ht2 g1 r1 r2 (Nat.le_refl _))
    | false=>
      rw [hm0,cond_false] at hq
      have hm0:m≠0:=fun h=>by rw [h] at hm0;cases hm0
      refine does_new hB hq hnb (by simp only [LV.bd];exact Nat.lt_succ_self n) fun e w a hA hG=>?_
      obtain ⟨r1,r2⟩:=hrun e w hG
      have hr:=run_append_grow2 (ty:=T) (base:=none) (sLen:=0) (sCap:=0) (olds:=[]) ht ht2 g1 (g2 e) r1 (by rw [g3];exact r2 _ rfl) (by simp [Builtin.firstCells]) (by omega) (by omega) (fits 0 0 (by omega) (by omega))
      have hs:=grown_sat (n:=n) (e:=e) (w:=w) (Te:=el) (sz:=z.zs.length) (c:=0+m) (old:=0) (olds:=[]) (zc:=(z.zero.val e).cells) (by simp only [LV.bds]) hnb (by rw [hnl];simp) (hzs e) (by omega) w.heap.size _ (heap_alloc_new _ _)
      refine ⟨_,_,.inr ⟨_,rfl⟩,alloc_drew_kp w _,hs,?_⟩
      refine ex e w _ a _ hA ?_
      simp only [LV.val,En.add_ρ,Cp.val,En.add_κ]
      rw [hr]
      simp [LV.vals]
  · rename_i b o c cp
    have hbx:=hbs.1
    simp only [LV.bd] at hbx
    cases hr0:Nat.ble (c+m) cp with
    | true=>
      rw [hr0,cond_true] at hq
      have hroom:=Nat.le_of_ble_eq_true hr0
      cases hm0:Nat.beq m 0 with
      | true=>
        rw [hm0,cond_true] at hq
        cases hq
        have hm0:=Nat.eq_of_beq_eq_true hm0
        refine does_look hB (by simp only [LV.bd];exact hbx) fun e w a hA hG=>?_
        obtain ⟨r1,r2⟩:=nil e w hm0 hG
        exact ex e w w a _ hA (by simp only [LV.val,Cp.val];exact run_append_nil2 ht ht2 g1 r1 r2 (by omega))
      | false=>
        rw [hm0,cond_false] at hq
        split at hq
        · rename_i h' hw
          cases hq
          have hw:=wrC_some hB hw
          refine ⟨wr_dd hw hB hnb,(fun u hu=>by cases hu;simp only [LV.bd];exact hbx),fun e w a hA hG=>?_⟩
          obtain ⟨r1,r2⟩:=hrun e w (hG.sub fun i hi=>⟨hi.1,(bt_or _ _ _).2 (.inl hi.2)⟩)
          obtain ⟨cs,Tb,h3,h4,h5⟩:=wr_tk hw hB hG
          refine ⟨e,_,.inl ⟨rfl,rfl⟩,h5,ex e w _ a _ hA ?_⟩
          simp only [LV.val,Cp.val]
          have hr:=run_append_room2 (ty:=T) (sLen:=c) (sCap:=cp) ht ht2 g1 h3 r1 (by rw [g3];exact r2 w rfl) (one e) hroom (by rw [g3,vals_length];exact h4)
          rw [g3] at hr
          exact hr
        · cases hq
    | false=>
      rw [hr0,cond_false] at hq
      have hgrow:¬c+m≤cp:=fun h=>by
        have:=Nat.ble_eq_true_of_le h
        rw [this] at hr0
        cases hr0
      split at hq
      · rename_i old hrd
        obtain ⟨hck,hq1⟩:=ck_some hq
        obtain ⟨hc1,hc2⟩:=(Bool.and_eq_true _ _).mp hck
        have hc1:=Nat.le_of_ble_eq_true hc1
        have hc2:=Nat.le_of_ble_eq_true hc2
        obtain ⟨hob,_⟩:=rdC_bd hB hrd
        obtain ⟨_,_,_,hol⟩:=rdC_some hrd
        refine does_new hB hq1 (bds_iff.2 fun x hx=>(List.mem_append.1 hx).elim (bds_iff.1 hob x) (bds_iff.1 hnb x)) (by simp only [LV.bd];exact Nat.lt_succ_self n) fun e w a hA hG=>?_
        obtain ⟨r1,r2⟩:=hrun e w (hG.sub fun i hi=>⟨hi.1,(bt_or _ _ _).2 (.inl hi.2)⟩)
        have hcl:=rdC_cls hG ⟨hbx,(bt_or _ _ _).2 (.inr ((bt_bitM b b).2 rfl))⟩ hrd
        have hold:=run_firstCells_some (P:=P) w.drew ti.size c ⟨e.ρ b,o,none⟩ c cp (LV.vals e old) (by rw [vals_length,g3];exact hol) (fun j u hu=>by rw [←hcl j u hu];rfl)
        have hr:=run_append_grow2 (ty:=T) ht ht2 g1 (g2 e) r1 (by rw [g3];exact r2 _ rfl) hold (by omega) (by omega) (fits c cp (by omega) (by omega))
        have hs:=grown_sat (n:=n) (e:=e) (w:=w) (Te:=el) (sz:=z.zs.length) (c:=c+m) (old:=cp) (olds:=old) (zc:=(z.zero.val e).cells) hob hnb (by rw [hnl,hol,Nat.add_mul]) (hzs e) (by omega) w.heap.size _ (heap_alloc_new _ _)
        refine ⟨_,_,.inr ⟨_,rfl⟩,alloc_drew_kp w _,hs,?_⟩
        refine ex e w _ a _ hA ?_
        simp only [LV.val,En.add_ρ,Cp.val,En.add_κ]
        rw [hr]
        simp
      · cases hq
  · rename_i b c
    have hbx:=hbs.1
    simp only [LV.bd] at hbx
    split at hq
    · rename_i e' k' cs hgb
      obtain ⟨hck,hq1⟩:=ck_some hq
      clear hq
      obtain ⟨hc1,hc2⟩:=(Bool.and_eq_true _ _).mp hck
      obtain rfl:=Nat.eq_of_beq_eq_true hc1
      obtain rfl:=Nat.eq_of_beq_eq_true hc2
      have hgb2:blkC h b=some cs:=by unfold blkC;rw [hgb]
      have hsat:∀e w,(Gd e (fun i=>i<n∧(bt f i∨i=b)) h w)→∃sp k,w.heap[e.ρ b]?=some (.cells (LV.vals e cs++sp).toArray el (0,0))∧cs.length+sp.length=e.κ b*z.zs.length∧e.κ b≤maxLen∧cs.length=k*z.zs.length∧k≤e.κ b:=by
        intro e w hG
        have:=hG.sat b _ ⟨hbx,.inr rfl⟩ hgb
        simp only [LB.sat] at this
        obtain ⟨sp,q1,q2,q3,k,q4,q5⟩:=this
        exact ⟨sp,k,q1,by rw [←vals_length e cs];exact q2,q3,q4,q5⟩
      cases hr0:Nat.ble ((c+m)*z.zs.length) cs.length with
      | true=>
        rw [hr0,cond_true] at hq1
        have hroom:=Nat.le_of_ble_eq_true hr0
        split at hq1
        · rename_i h' hw
          cases hq1
          have hw:=wrC_some hB hw
          refine ⟨wr_dd hw hB hnb,(fun u hu=>by cases hu;simp only [LV.bd];exact hbx),fun e w a hA hG=>?_⟩
          obtain ⟨r1,r2⟩:=hrun e w (hG.sub fun i hi=>⟨hi.1,(bt_or _ _ _).2 (.inl hi.2)⟩)
          obtain ⟨sp,k,q1,q2,q3,q4,q5⟩:=hsat e w (hG.sub fun i hi=>⟨hi.1,(bt_or _ _ _).2 (hi.2.imp id fun h=>(bt_bitM b i).2 h)⟩)
          obtain ⟨cs',Tb,h3,h4,h5⟩:=wr_tk hw hB hG
          refine ⟨e,_,.inl ⟨rfl,rfl⟩,h5,ex e w _ a _ hA ?_⟩
          simp only [LV.val,Cp.val,Nat.sub_zero]
          rw [q4] at hroom
          have hcap:=Nat.le_trans (Nat.le_of_mul_le_mul_right hroom h0) q5
          have hr:=run_append_room2 (ty:=T) (o:=0) (sLen:=c) (sCap:=e.κ b) ht ht2 g1 h3 r1 (by rw [g3];exact r2 w rfl) (one e) hcap (by rw [g3,vals_length,Nat.zero_add];exact h4)
          rw [g3,Nat.zero_add] at hr
          exact hr
        · cases hq1
      | false =>
        rw [hr0,cond_false] at hq1
        obtain ⟨hck2,hq2⟩:=ck_some hq1
        clear hq1
        obtain ⟨hc3,hc4⟩:=(Bool.and_eq_true _ _).mp hck2
        have hc3:=Nat.le_of_ble_eq_true hc3
        have hc4:=Nat.le_of_ble_eq_true hc4
        obtain ⟨hn,rfl⟩:=newB_some hq2
        have hcb:=(blkC_bd hB hgb2).1
        have htb:LV.bds n (cs.take (c*z.zs.length)):=bds_iff.2 fun x hx=>bds_iff.1 hcb x (List.mem_of_mem_take hx)
        have hbd:LV.bds n (cs.take (c*z.zs.length)++news):=bds_iff.2 fun x hx=>(List.mem_append.1 hx).elim (bds_iff.1 htb x) (bds_iff.1 hnb x)
        have hbf:bt (f ||| bitM b) b:=(bt_or _ _ _).2 (.inr ((bt_bitM b b).2 rfl))
        have htl:(cs.take (c*z.zs.length)).length=c*z.zs.length:=by rw [List.length_take];omega
        refine ⟨dd_mv hn hbx hbf hbd,(fun u hu=>by cases hu;simp only [LV.bd];exact Nat.lt_succ_self n),fun e w a hA hG=>?_⟩
        obtain ⟨r1,r2⟩:=hrun e w (hG.sub fun i hi=>⟨hi.1,(bt_or _ _ _).2 (.inl ((bt_or _ _ _).2 (.inl hi.2)))⟩)
        obtain ⟨sp,k,q1,q2,q3,q4,q5⟩:=hsat e w (hG.sub fun i hi=>⟨hi.1,(bt_or _ _ _).2 (.inl ((bt_or _ _ _).2 (hi.2.imp id fun h=>(bt_bitM b i).2 h)))⟩)
        by_cases hcap:c+m≤e.κ b
        · have hmul:=Nat.mul_le_mul_right z.zs.length hcap
          rw [Nat.add_mul] at hmul
          have hr:=run_append_room2 (ty:=T) (o:=0) (sLen:=c) (sCap:=e.κ b) ht ht2 g1 q1 r1 (by rw [g3];exact r2 w rfl) (one e) hcap (by rw [g3,vals_length,List.length_append,vals_length,hnl];omega)
          rw [g3,Nat.zero_add] at hr
          have hs:LB.sat (e.add n (e.ρ b) (e.κ b)) (w.setRow (e.ρ b) (Fw.put (LV.vals e cs++sp) (c*z.zs.length) (LV.vals e news)).toArray) n (.G el z.zs.length (cs.take (c*z.zs.length)++news)):=by
            simp only [LB.sat]
            rw [En.add_ρ,En.add_κ,LV.vals_ag (En.add_ag e n _ _) _ hbd]
            refine ⟨(LV.vals e cs++sp).drop (c*z.zs.length+(LV.vals e news).length),?_,?_,q3,c+m,by rw [List.length_append,htl,hnl,Nat.add_mul],hcap⟩
            · rw [setRow_heap w _ _ _ _ _ q1]
              congr 3
              unfold Fw.put
              rw [List.take_append_of_le_length (by rw [vals_length];exact hc3)]
              simp only [vals_map,List.map_append,List.map_take]
            · rw [vals_length,List.length_append,htl,hnl,List.length_drop,List.length_append,vals_length,vals_length,hnl]
              omega
          refine ⟨_,_,.inr ⟨rfl,_,_,rfl,.inr ⟨_,rfl⟩⟩,tk_mv hB hn hgb hbf hG (.inr rfl) (setRow_kp w _ _ _ rfl) hs,ex e w _ a _ hA ?_⟩
          simp only [LV.val,Cp.val,Nat.sub_zero,En.add_ρ,En.add_κ]
          exact hr
        · have hcl:=cells_at hG ⟨hbx,(bt_or _ _ _).2 (.inl hbf)⟩ hgb2
          have hold:=run_firstCells_some (P:=P) w.drew ti.size c ⟨e.ρ b,0,none⟩ c (e.κ b) (LV.vals e (cs.take (c*z.zs.length))) (by rw [vals_length,g3];exact htl) (fun j u hu=>by
            rw [vals_get] at hu
            obtain ⟨v,hv,rfl⟩:=Option.map_eq_some_iff.1 hu
            have hj:j<c*z.zs.length:=by
              have:=(List.getElem?_eq_some_iff.1 hv).1
              omega
            rw [List.getElem?_take_of_lt hj] at hv
            have:=hcl j v hv
            rw [addr_add,Nat.zero_add]
            exact this)
          have hr:=run_append_grow2 (ty:=T) ht ht2 g1 (g2 e) r1 (by rw [g3];exact r2 _ rfl) hold (by omega) (by omega) (fits c (e.κ b) (by omega) (by omega))
          have hs:=grown_sat (n:=n) (e:=e) (w:=w) (Te:=el) (sz:=z.zs.length) (c:=c+m) (old:=e.κ b) (zc:=(z.zero.val e).cells) htb hnb (by rw [hnl,htl,Nat.add_mul]) (hzs e) (by omega) w.heap.size _ (heap_alloc_new _ _)
          have hk:=alloc_drew_kp w (.cells ((LV.vals e (cs.take (c*z.zs.length))).toArray++(LV.vals e news).toArray++Builtin.zeroCells (z.zero.val e).cells (grownCap w (c+m) (e.κ b) el - (c+m))) el)
          refine ⟨_,_,.inr ⟨rfl,_,_,rfl,.inr ⟨_,rfl⟩⟩,tk_mv hB hn hgb hbf hG (.inl rfl) ⟨hk.os,hk.tape,hk.output,hk.size,fun b' hb' _=>hk.block b' hb' id⟩ hs,ex e w _ a _ hA ?_⟩
          simp only [LV.val,Cp.val,Nat.sub_zero,En.add_ρ,En.add_κ]
          rw [hr]
    · cases hq
  · cases hq
end
theorem run_copy {P:Program} {w:World} {t ty e:TypeId} {i:TypeInfo} {ats:Array TypeId} (ht:P.underlying t=some (.slice e)) (h0:ats[0]?=some t) (hi:P.info? e=some i)
    {base:Option Addr} {a cp b:Nat} {y:Value} {cs:Array Value} {w':World} (hlen:(Builtin.lenOf y).run P w= .ok b w) (hcs:(Builtin.firstCells i.size (Nat.min b a) y).run P w= .ok cs w)
    (hst:(match base with|some a=>storeCells a cs.toList|none=>pure ()).run P w= .ok () w'):(Builtin.copy_ ats ty #[.slice base a cp,y]).run P w= .ok (.int .i64 (Nat.min b a:Nat)) w':=by
  cases base with
  |none=>simp at hst;subst hst;simp [Builtin.copy_,h0,run_underlying ht,sizeOf,typeInfo,hi,hlen,hcs,goInt]
  |some ad=>simp at hst;simp [Builtin.copy_,h0,run_underlying ht,sizeOf,typeInfo,hi,hlen,hcs,hst,goInt]
def nCell:Obj→Prop
  | .cells _ _ _=>False
  |_=>True
theorem gObj {P:Program} {w:World} {b:Nat} {o:Obj} (h:w.heap[b]?=some o) (hn:nCell o:=by trivial):(getObj b).run P w= .ok o w:=by
  cases o<;>first|exact hn.elim|simp [getObj,Sem.run,h]
theorem sObj {P:Program} {w:World} {b:Nat} {o:Obj} (h:w.heap[b]?=some o) (o':Obj) (hn:nCell o:=by trivial):(setObj b o').run P w= .ok () {w with heap:=w.heap.setIfInBounds b o'}:=by
  cases o<;>first|exact hn.elim|simp [setObj,Sem.run,h]
section
variable {P:Program} {X:Ctx} {N:Nat} {sl:Tr LV} {h:Tr LB} {n:Nat} {d:Option Tmp} {T:TypeId} {pos:String} {af:Array Edge} {g:Option (Nat × Bool)}
theorem does_blt_look {b:Builtin} {aa:Array Operand} {ats:Array TypeId} {vs:List LV} {v:LV} {f:Nat} (hB:HB n h) (ha:opds sl aa.toList=some vs) (hv:v.bd n)
    (hr:∀e w,Gd e (fun i=>i<n∧bt f i) h w→∀cs,(builtin b ats T cs (LV.vals e vs).toArray).run P w= .ok (.value (v.val e)) w):Does P N sl h n ⟨d,.call ⟨.builtin b,aa,ats⟩,T,pos,af,g⟩ ⟨some v,h,n,f,0⟩:=
  does_look hB hv fun e w a hA hG=>by rw [exec_blt (evs_arr hA ha)];exact hr e w hG _
theorem lenX_ok {t:TypeId} {y:Ty} {v:LV} {m f:Nat} {ats:Array TypeId} (hy:TyOk P t y) (h0:ats[0]?=some t) (hv:v.bd n) (hB:HB n h) (hq:lenX h y.k v=some (m,f)) (e:En) (w:World) (hG:Gd e (fun i=>i<n∧bt f i) h w) :
    (Builtin.len_ ats T #[v.val e]).run P w= .ok (.int .i64 (m:Nat)) w:=by
  have hk:=hy.k
  unfold lenX at hq
  split at hq
  · obtain ⟨hc,hq⟩:=ck_some hq
    cases hq
    rw [TK.str_of hc] at hk
    simp only [LV.val]
    simp [Builtin.len_,h0,run_underlying hk,goInt,lenL_bytes]
  · obtain ⟨hc,hq⟩:=ck_some hq
    cases hq
    obtain ⟨e',he⟩:=TK.sl_of hc
    rw [he] at hk
    simp only [LV.val]
    simp [Builtin.len_,h0,run_underlying hk,goInt]
  · obtain ⟨hc,hq⟩:=ck_some hq
    cases hq
    obtain ⟨e',he⟩:=TK.sl_of hc
    rw [he] at hk
    simp only [LV.val]
    simp [Builtin.len_,h0,run_underlying hk,goInt]
  · obtain ⟨hc,hq⟩:=ck_some hq
    cases hq
    obtain ⟨e',he⟩:=TK.sl_of hc
    rw [he] at hk
    simp only [LV.val]
    simp [Builtin.len_,h0,run_underlying hk,goInt]
  · obtain ⟨hc,hq⟩:=ck_some hq
    cases hq
    obtain ⟨k1,k2,he⟩:=TK.mp_of hc
    rw [he] at hk
    simp only [LV.val]
    simp [Builtin.len_,h0,run_underlying hk,goInt]
  · rename_i b
    simp only [LV.bd] at hv
    split at hq
    · rename_i es c hg
      obtain ⟨hc,hq⟩:=ck_some hq
      cases hq
      obtain ⟨k1,k2,he⟩:=TK.mp_of hc
      rw [he] at hk
      have hs:=hG.sat b _ ⟨hv,(bt_bitM b b).2 rfl⟩ hg
      simp only [LB.sat] at hs
      simp only [LV.val]
      simp [Builtin.len_,h0,run_underlying hk,goInt,gObj hs]
    · rename_i es hg
      obtain ⟨hc,hq⟩:=ck_some hq
      cases hq
      obtain ⟨k1,k2,he⟩:=TK.mp_of hc
      rw [he] at hk
      have hs:=hG.sat b _ ⟨hv,(bt_bitM b b).2 rfl⟩ hg
      simp only [LB.sat] at hs
      obtain ⟨ents,clock,hs,hp⟩:=hs
      have hlen:=hp.length_eq
      simp only [List.length_map,Array.length_toList] at hlen
      simp only [LV.val]
      simp [Builtin.len_,h0,run_underlying hk,goInt,gObj hs,hlen]
    · cases hq
  · cases hq
theorem capX_ok {t:TypeId} {y:Ty} {v:LV} {m:Nat} {ats:Array TypeId} (hy:TyOk P t y) (h0:ats[0]?=some t) (hq:capX y.k v=some m) (e:En) (w:World) :
    (Builtin.cap_ ats T #[v.val e]).run P w= .ok (.int .i64 (m:Nat)) w:=by
  have hk:=hy.k
  unfold capX at hq
  split at hq
  · obtain ⟨hc,hq⟩:=ck_some hq
    cases hq
    obtain ⟨e',he⟩:=TK.sl_of hc
    rw [he] at hk
    simp only [LV.val]
    simp [Builtin.cap_,h0,run_underlying hk,goInt]
  · obtain ⟨hc,hq⟩:=ck_some hq
    cases hq
    obtain ⟨e',he⟩:=TK.sl_of hc
    rw [he] at hk
    simp only [LV.val,Cp.val]
    simp [Builtin.cap_,h0,run_underlying hk,goInt]
  · cases hq
theorem isSl_val {x:LV} {a:Nat} (hs:isSl x=true) (hl:lenL x=some a) (e:En):∃o c,x.val e= .slice o a c:=by
  cases x<;>simp [isSl] at hs<;>simp only [lenL,Option.some.injEq] at hl<;>subst hl<;>exact ⟨_,_,by simp only [LV.val];rfl⟩
theorem does_copy {t:TypeId} {aa:Array Operand} {ats:Array TypeId} {x y:LV} {z:Ty} {el:TypeId} {q:R1} (hB:HB n h) (hS:SB n sl) (hz:TyOk P el z) (ht:P.underlying t=some (.slice el)) (h0:ats[0]?=some t) (ha:opds sl aa.toList=some [x,y])
    (hq:opCopy h n z.zs.length x y=some q):Does P N sl h n ⟨d,.call ⟨.builtin .copy,aa,ats⟩,T,pos,af,g⟩ q:=by
  have hbs:=opds_bd hS ha
  simp only [LV.bds] at hbs
  obtain ⟨ti,g1,g2,g3,g4⟩:=hz.inf
  have ex:∀(e:En) (w w':World) (a:Act) (v:Value),SlT N e sl a→(Builtin.copy_ ats T #[x.val e,y.val e]).run P w= .ok v w'→(execOp a.eval ⟨d,.call ⟨.builtin .copy,aa,ats⟩,T,pos,af,g⟩).run P w= .ok (.value v) w':=by
    intro e w w' a v hA hr
    rw [exec_blt (evs_arr hA ha)]
    simp only [builtin,LV.vals,Sem.run_bind,hr,Result.andThen_ok,Sem.run_pure]
  unfold opCopy at hq
  split at hq
  · rename_i la lb cs f hla hlb hsl
    obtain ⟨hc,hq1⟩:=ck_some hq
    clear hq
    obtain ⟨hc1,hc2⟩:=(Bool.and_eq_true _ _).mp hc
    have hc2:=Nat.eq_of_beq_eq_true hc2
    obtain ⟨hnb,hrun⟩:=slC_run (P:=P) hB hbs.2.1 hsl hlb
    have hmin:(bif Nat.ble la lb then la else lb)=Nat.min lb la:=by
      cases hb:Nat.ble la lb with
      |true=>have:=Nat.le_of_ble_eq_true hb;simp only [cond_true];exact (Nat.min_eq_right this).symm
      | false=>
        have:¬la≤lb:=fun h=>by rw [Nat.ble_eq_true_of_le h] at hb;cases hb
        simp only [cond_false]
        exact (Nat.min_eq_left (by omega)).symm
    rw [hmin] at hq1
    have cells:∀e w,Gd e (fun i=>i<n∧bt f i) h w→(Builtin.firstCells ti.size (Nat.min lb la) (y.val e)).run P w= .ok (LV.vals e (cs.take (Nat.min lb la*z.zs.length))).toArray w:=by
      intro e w hG
      have hml:Nat.min lb la≤lb:=Nat.min_le_left lb la
      rcases slC_sl hB hbs.2.1 hsl with ⟨s,rfl,rfl,rfl⟩| ⟨m',hm',hlen,hb,hrd⟩
      · simp only [lenL,Option.some.injEq] at hlb
        subst hlb
        rw [u8s,List.length_map] at hc2
        simp only [LV.val,Builtin.firstCells,Sem.run_pure]
        congr 1
        by_cases hs0:s.length=0
        · have:s=[]:=List.eq_nil_of_length_eq_zero hs0
          subst this
          simp [u8s,LV.vals]
        · have h1:z.zs.length=1:=by
            have:s.length*z.zs.length=s.length*1:=by omega
            exact Nat.eq_of_mul_eq_mul_left (by omega) this
          rw [h1,Nat.mul_one]
          have h2:=sub_str s 0 (Nat.min s.length la)
          unfold mkS at h2
          rw [h2]
          apply Array.ext'
          simp [u8s,vals_map,List.map_take,LV.val]
          rfl
      · rw [hlb] at hm'
        cases hm'
        obtain ⟨o,c,h1,h2,h3⟩:=hrd e w hG
        rw [h1]
        have hle:=Nat.mul_le_mul_right z.zs.length hml
        cases o with
        | none=>
          have h0:=h2 rfl
          subst h0
          have:cs=[]:=List.eq_nil_of_length_eq_zero (by omega)
          subst this
          simp [Builtin.firstCells,LV.vals]
        | some a=>
          refine run_firstCells_some w ti.size _ a lb c _ (by rw [vals_length,List.length_take,g3];omega) fun j u hu=>?_
          refine h3 a rfl j u ?_
          rw [vals_get] at hu ⊢
          obtain ⟨v,hv,rfl⟩:=Option.map_eq_some_iff.1 hu
          have hj:=(List.getElem?_eq_some_iff.1 hv).1
          rw [List.length_take] at hj
          rw [List.getElem?_take_of_lt (by omega)] at hv
          rw [hv]
          rfl
    unfold cpyV at hq1
    cases hm0:Nat.beq (Nat.min lb la) 0 with
    | true=>
      rw [hm0,cond_true] at hq1
      cases hq1
      have hm0:=Nat.eq_of_beq_eq_true hm0
      refine does_look hB (by simp only [LV.bd]) fun e w a hA hG=>?_
      obtain ⟨o,c,hx⟩:=isSl_val hc1 hla e
      have hcl:=cells e w hG
      have hr:=run_copy (ty:=T) (base:=o) (cp:=c) ht h0 g1 (hrun e w hG).1 hcl (w':=w) (by
        rw [hm0]
        cases o<;>simp [LV.vals,storeCells])
      refine ex e w w a _ hA ?_
      rw [hx,hr,hm0]
      simp only [LV.val]
      rfl
    | false=>
      rw [hm0,cond_false] at hq1
      split at hq1
      · rename_i b o k cp
        obtain ⟨hone,hq2⟩:=ck_some hq1
        clear hq1
        split at hq2
        · rename_i h' hw
          cases hq2
          have hw:=wrC_some hB hw
          have htb:LV.bds n (cs.take (Nat.min lb la*z.zs.length)):=bds_iff.2 fun x hx=>bds_iff.1 hnb x (List.mem_of_mem_take hx)
          refine ⟨wr_dd hw hB htb,(fun u hu=>by cases hu;simp only [LV.bd]),fun e w a hA hG=>?_⟩
          have hG1:=hG.sub (S':=fun i=>i<n∧bt f i) fun i hi=>⟨hi.1,(bt_or _ _ _).2 (.inl hi.2)⟩
          obtain ⟨cs',Tb,h3,h4,h5⟩:=wr_tk hw hB hG
          have hst:=run_storeCells_at P (e.ρ b) o Tb (LV.vals e (cs.take (Nat.min lb la*z.zs.length))) 0 cs'.toArray w h3 (by rw [vals_length];simpa using h4) (fun u hu=>List.all_eq_true.1 (ones_val e hone) u hu)
          simp only [Nat.add_zero] at hst
          simp only [lenL,Option.some.injEq] at hla
          subst hla
          have hr:=run_copy (ty:=T) (base:=some ⟨e.ρ b,o,none⟩) (cp:=cp.val e b) ht h0 g1 (hrun e w hG1).1 (cells e w hG1) hst
          refine ⟨e,_,.inl ⟨rfl,rfl⟩,h5,ex e w _ a _ hA ?_⟩
          simp only [LV.val]
          rw [hr]
          rfl
        · cases hq2
      · cases hq1
  · cases hq
end
theorem ba_beq (s b:List UInt8):(ByteArray.mk s.toArray == ByteArray.mk b.toArray)=decide (s=b):=by
  have h:(ByteArray.mk s.toArray == ByteArray.mk b.toArray)=(s.toArray == b.toArray):=rfl
  rw [h]
  by_cases e:s=b
  · subst e;simp
  · rw [decide_eq_false e];simpa using e
structure KeyOk (P:Program) (t:TypeId) (kt et:TypeId) (ud:TypeDesc) (k:LV):Prop where
  hm:P.underlying t=some (.map kt et)
  hu:P.underlying kt=some ud
  same:∀e v r,keyE k v=some r→Instr.sameNow ud (k.val e) (v.val e)=some r
  chk:∀(e:En) (w:World) em,(Instr.checkKey em 10000 kt (k.val e)).run P w= .ok () w
  bits:∀e v,keyE k v=some true→Instr.sameBits 10000 (v.val e) (k.val e)=true
theorem keyK_ok {P:Program} {X:Ctx} {t:Nat} {k:LV} (hX:CtxOk P X) (h:keyK X t k=true):∃y kt et ud,X.ty t=some y∧y.k= .mp kt et∧KeyOk P t kt et ud k:=by
  unfold keyK at h
  split at h
  · rename_i y hy
    split at h
    · rename_i q hq
      have hmk:∃et,y.k= .mp q et:=by cases hyk:y.k<;>rw [hyk] at hq<;>simp [TK.mk?] at hq;exact ⟨_,by rw [hq]⟩
      obtain ⟨et,hm⟩:=hmk
      have hu:=(hX.ty t y hy).k
      rw [hm] at hu
      split at h
      · rename_i z k1 m hz
        cases hzi:z.k.int? with
        |none=>rw [hzi] at h;cases h
        | some ki=>
          have hk:=(hX.ty q z hz).k
          rw [TK.int_some hzi] at hk
          refine ⟨y,q,et,.int ki,hy,hm,hu,hk,fun e v r hr=>?_,fun e w em=>?_,fun e v hr=>?_⟩
          · cases v<;>simp only [keyE] at hr<;>first|(cases hr;done)|skip
            obtain ⟨h1,h2⟩:=ck_some hr
            cases h2
            obtain rfl:=ikn_inj h1
            simp only [LV.val,Instr.sameNow,if_true,beI_eq]
            congr 1
          · rw [show (10000:Nat)=9999+1 from rfl,Instr.checkKey,Sem.run_bind,run_underlying hk]
            simp only [LV.val]
            rfl
          · cases v<;>simp only [keyE] at hr<;>first|(cases hr;done)|skip
            obtain ⟨h1,h2⟩:=ck_some hr
            obtain rfl:=ikn_inj h1
            rw [beI_eq] at h2
            have h2:=dTr (Option.some.inj h2)
            subst h2
            simp [LV.val,Instr.sameBits]
      · rename_i z s hz
        have hk:=(hX.ty q z hz).k
        rw [TK.str_of h] at hk
        refine ⟨y,q,et,.string,hy,hm,hu,hk,fun e v r hr=>?_,fun e w em=>?_,fun e v hr=>?_⟩
        · cases v<;>simp only [keyE] at hr<;>first|(cases hr;done)|skip
          rename_i b
          cases hr
          rw [beL_eq]
          simp only [LV.val,Instr.sameNow]
          congr 1
          exact ba_beq s b
        · rw [show (10000:Nat)=9999+1 from rfl,Instr.checkKey,Sem.run_bind,run_underlying hk]
          simp only [LV.val]
          rfl
        · cases v<;>simp only [keyE] at hr<;>first|(cases hr;done)|skip
          rw [beL_eq] at hr
          have h2:=dTr (Option.some.inj hr)
          subst h2
          simp only [LV.val,Instr.sameBits,ba_beq,decide_true]
      · cases h
    · cases h
  · cases h
theorem fndM_now {P:Program} {t kt et:TypeId} {ud:TypeDesc} {k:LV} (hk:KeyOk P t kt et ud k) (e:En):∀{es:List (LV × LV × Nat)} {r:Option (LV × Nat)} (i:Nat),fndM k es=some r→
    match r with
    |none=>Instr.findNow ud (k.val e) (es.map (ent e)) i=some none
    |some (v,b)=>∃j a,es[j]?=some (a,v,b)∧keyE k a=some true∧Instr.findNow ud (k.val e) (es.map (ent e)) i=some (some (i+j,v.val e))∧∀u q,updM k u es=some q→q=es.set j (k,u,b)
  | [],r,i,h=>by cases h;rfl
  | (a, v,b)::es,r,i,h=>by
    simp only [fndM] at h
    split at h
    · rename_i hka
      cases h
      refine ⟨0,a,rfl,hka,?_,fun u q hq=>?_⟩
      · simp only [List.map_cons,Instr.findNow,ent,hk.same e a true hka];rfl
      · simp only [updM,hka] at hq
        cases hq
        rfl
    · rename_i hka
      have ih:=fndM_now hk e (i+1) h
      have h1:Instr.findNow ud (k.val e) (((a,v,b)::es).map (ent e)) i=Instr.findNow ud (k.val e) (es.map (ent e)) (i+1):=by
        simp only [List.map_cons,Instr.findNow,ent,hk.same e a false hka]
      cases r with
      |none=>simp only at ih ⊢;rw [h1];exact ih
      | some p=>
        obtain ⟨v',b'⟩:=p
        simp only at ih ⊢
        obtain ⟨j,a',q1,q2,q3,q4⟩:=ih
        refine ⟨j+1,a',by simpa using q1,q2,by rw [h1,q3];congr 3;omega,fun u q hq=>?_⟩
        simp only [updM,hka] at hq
        split at hq
        · rename_i q' hq'
          cases hq
          rw [q4 u q' hq']
          rfl
        · cases hq
    · cases h
theorem run_findNow {P:Program} {t kt et:TypeId} {ud:TypeDesc} {k:LV} (hk:KeyOk P t kt et ud k) {w:World} {kv:Value} {es:List MapEntry} {r:Option (Nat × Value)} (h:Instr.findNow ud kv es 0=some r):(Instr.findKey kt kv es).run P w= .ok r w:=by
  simp [Instr.findKey,run_underlying hk.hu,h]
theorem fndN_facts {k:LV}:∀{es:List (LV × LV)} {r:Option LV},fndN k es=some r→
    match r with
    |none=>∀x∈es,keyE k x.1=some false
    |some v=>(∃x∈es,keyE k x.1=some true)∧∀x∈es,keyE k x.1=some false∨(keyE k x.1=some true∧x.2=v)
  | [],r,h=>by cases h;intro x hx;cases hx
  | (a, v)::es,r,h=>by
    simp only [fndN] at h
    split at h
    · rename_i hka hn
      cases h
      have ih:=fndN_facts hn
      simp only at ih ⊢
      refine ⟨⟨_,.head _,hka⟩,fun x hx=>?_⟩
      rcases List.mem_cons.1 hx with rfl|hx
      · exact .inr ⟨hka,rfl⟩
      · exact .inl (ih x hx)
    · rename_i hka
      have ih:=fndN_facts h
      cases r with
      | none=>
        simp only at ih ⊢
        intro x hx
        rcases List.mem_cons.1 hx with rfl|hx
        · exact hka
        · exact ih x hx
      | some u=>
        simp only at ih ⊢
        obtain ⟨⟨x,hx,hxk⟩,h2⟩:=ih
        refine ⟨⟨x,.tail _ hx,hxk⟩,fun x hx=>?_⟩
        rcases List.mem_cons.1 hx with rfl|hx
        · exact .inl hka
        · exact h2 x hx
    · cases h
theorem now_none {ud:TypeDesc} {kv:Value}:∀{es:List MapEntry} (i:Nat),(∀x∈es,Instr.sameNow ud kv x.key=some false)→Instr.findNow ud kv es i=some none
  | [],i,h=>rfl
  | x::es,i,h=>by
    simp only [Instr.findNow,h x (.head _)]
    exact now_none (i+1) fun y hy=>h y (.tail _ hy)
theorem now_some {ud:TypeDesc} {kv v:Value}:∀{es:List MapEntry} (i:Nat),(∀x∈es,Instr.sameNow ud kv x.key=some false∨(Instr.sameNow ud kv x.key=some true∧x.val=v))→(∃x∈es,Instr.sameNow ud kv x.key=some true)→∃j,Instr.findNow ud kv es i=some (some (j,v))
  | [],i,h,⟨x,hx,_⟩=>by cases hx
  | x ::es,i,h,hx=>by
    rcases h x (.head _) with h1| ⟨h1,h2⟩
    · obtain ⟨j,hj⟩:=now_some (i+1) (fun y hy=>h y (.tail _ hy)) (by
        obtain ⟨y,hy,hyk⟩:=hx
        rcases List.mem_cons.1 hy with rfl|hy
        · rw [h1] at hyk;cases hyk
        · exact ⟨y,hy,hyk⟩)
      exact ⟨j,by simp only [Instr.findNow,h1,hj]⟩
    · exact ⟨i,by simp only [Instr.findNow,h1,h2]⟩
theorem fndN_now {P:Program} {t kt et:TypeId} {ud:TypeDesc} {k:LV} (hk:KeyOk P t kt et ud k) (e:En) {es:List (LV × LV)} {r:Option LV} (h:fndN k es=some r) {ents:Array MapEntry}
    (hp:(ents.toList.map (fun x=>(x.key,x.val))).Perm (es.map (fun x=>(x.1.val e,x.2.val e)))) :
    match r with
    |none=>Instr.findNow ud (k.val e) ents.toList 0=some none
    |some v=>∃j,Instr.findNow ud (k.val e) ents.toList 0=some (some (j,v.val e)):=by
  have hf:=fndN_facts h
  have get:∀x∈ents.toList,∃p∈es,x.key=p.1.val e∧x.val=p.2.val e:=by
    intro x hx
    have h1:(x.key,x.val)∈es.map (fun x=>(x.1.val e,x.2.val e)):=hp.subset (List.mem_map.2 ⟨x,hx,rfl⟩)
    obtain ⟨p,hp1,hp2⟩:=List.mem_map.1 h1
    simp only [Prod.mk.injEq] at hp2
    exact ⟨p,hp1,hp2.1.symm,hp2.2.symm⟩
  cases r with
  | none=>
    simp only at hf ⊢
    refine now_none 0 fun x hx=>?_
    obtain ⟨p,hp1,hp2,_⟩:=get x hx
    rw [hp2]
    exact hk.same e _ _ (hf p hp1)
  | some v=>
    simp only at hf ⊢
    obtain ⟨⟨p0,hp0,hpk⟩,h2⟩:=hf
    refine now_some 0 (fun x hx=>?_) ?_
    · obtain ⟨p,hp1,hp2,hp3⟩:=get x hx
      rw [hp2,hp3]
      rcases h2 p hp1 with h3| ⟨h3,h4⟩
      · exact .inl (hk.same e _ _ h3)
      · exact .inr ⟨hk.same e _ _ h3,by rw [h4]⟩
    · have h1:(p0.1.val e,p0.2.val e)∈ents.toList.map (fun x=>(x.key,x.val)):=hp.symm.subset (List.mem_map.2 ⟨p0,hp0,rfl⟩)
      obtain ⟨x,hx1,hx2⟩:=List.mem_map.1 h1
      simp only [Prod.mk.injEq] at hx2
      exact ⟨x,hx1,by rw [hx2.1];exact hk.same e _ _ hpk⟩
section
variable {P:Program} {X:Ctx} {N:Nat} {sl:Tr LV} {h:Tr LB} {n:Nat} {d:Option Tmp} {T:TypeId} {pos:String} {af:Array Edge} {g:Option (Nat × Bool)}
theorem lkB_now {t kt et:TypeId} {ud:TypeDesc} {k:LV} {B:LB} {r:Option LV} (hk:KeyOk P t kt et ud k) (hq:lkB B k=some r) {e:En} {w:World} {i:Nat} (hs:B.sat e w i) (hb:B.bd n) :
    ∃ents clock,w.heap[e.ρ i]?=some (.map ents clock)∧∃f,Instr.findNow ud (k.val e) ents.toList 0=some f∧f.map (·.2)=r.map (LV.val e)∧∀v,r=some v→v.bd n:=by
  unfold lkB at hq
  split at hq
  · rename_i es c
    simp only [LB.sat] at hs
    split at hq
    · rename_i v b hf
      cases hq
      obtain ⟨j,a,h1,h2,h3,_⟩:=fndM_now hk e 0 hf
      refine ⟨_,_,hs,_,h3,rfl,fun u hu=>?_⟩
      cases hu
      exact (hb _ (List.mem_of_getElem? h1)).2
    · rename_i hf
      cases hq
      exact ⟨_,_,hs,_,fndM_now hk e 0 hf,rfl,fun u hu=>by cases hu⟩
    · cases hq
  · rename_i es
    simp only [LB.sat] at hs
    obtain ⟨ents,clock,h1,h2⟩:=hs
    have hn:=fndN_now hk e hq h2
    have hf:=fndN_facts hq
    refine ⟨ents,clock,h1,?_⟩
    cases r with
    |none=>exact ⟨_,hn,rfl,fun u hu=>by cases hu⟩
    | some v=>
      obtain ⟨j,hj⟩:=hn
      obtain ⟨⟨x,hx,hxk⟩,h3⟩:=hf
      refine ⟨_,hj,rfl,fun u hu=>?_⟩
      cases hu
      rcases h3 x hx with h4| ⟨_,h4⟩
      · rw [hxk] at h4;cases h4
      · rw [←h4];exact (hb x hx).2
  · cases hq
theorem does_lookup {t :TypeId} {x i:Operand} {ok:Bool} {q:R1} (hX:CtxOk P X) (hB:HB n h) (hS:SB n sl) (hq:opX X sl h n (.lookup t x i ok)=some q):Does P N sl h n ⟨d,.lookup t x i ok,T,pos,af,g⟩ q:=by
  simp only [opX] at hq
  split at hq
  · rename_i y k hy hi
    split at hq
    · rename_i et het
      split at hq
      · rename_i z hz
        split at hq
        · rename_i r f hr
          obtain ⟨hkk,hq1⟩:=ck_some hq
          clear hq
          cases hq1
          obtain ⟨y',kt,et',ud,hy',hyk,hk⟩:=keyK_ok hX hkk
          rw [hy] at hy'
          cases hy'
          rw [hyk] at het
          simp only [TK.mp?,Option.some.injEq] at het
          subst het
          have hz2:=hX.ty _ z hz
          have key : (∀ v,r=some v→v.bd n)∧∀e w,Gd e (fun i=>i<n∧bt f i) h w→∀a,SlT N e sl a→(Instr.lookup t (a.eval x) (a.eval i) ok).run P w= .ok (if ok then .tuple #[(r.getD z.zero).val e,.bool r.isSome] else (r.getD z.zero).val e) w:=by
            split at hr
            · rename_i hx
              cases hr
              refine ⟨fun v hv=>(by cases hv),fun e w hG a hA=>?_⟩
              have h1:=hA.ev hx
              have h2:=hA.ev hi
              simp only [LV.val] at h1
              have hfn:(Instr.findKey kt (k.val e) []).run P w= .ok none w:=run_findNow hk rfl
              have hzr:=run_zero hz2 e w
              cases ok<;>simp [Instr.lookup,h1,h2,run_underlying hk.hm,hk.chk,hfn,hzr]
            · rename_i b hx
              have hbb:=opd_bd hS hx
              simp only [LV.bd] at hbb
              split at hr
              · rename_i B hg
                split at hr
                · rename_i r' hl
                  cases hr
                  refine ⟨fun v hv=>?_,fun e w hG a hA=>?_⟩
                  · subst hv
                    unfold lkB at hl
                    split at hl
                    · rename_i es c
                      split at hl
                      · rename_i v' b' hf
                        cases hl
                        obtain ⟨j,a,h1,_⟩:=fndM_now hk ⟨id,id⟩ 0 hf
                        exact ((hB.get b _ hg).2 _ (List.mem_of_getElem? h1)).2
                      · cases hl
                      · cases hl
                    · rename_i es
                      obtain ⟨⟨x,hx,hxk⟩,h3⟩:=fndN_facts hl
                      rcases h3 x hx with h4| ⟨_,h4⟩
                      · rw [hxk] at h4;cases h4
                      · rw [←h4];exact ((hB.get b _ hg).2 x hx).2
                    · cases hl
                  · have h1:=hA.ev hx
                    have h2:=hA.ev hi
                    simp only [LV.val] at h1
                    obtain ⟨ents,clock,h3,f',h4,h5,_⟩:=lkB_now hk hl (hG.sat b B ⟨hbb,(bt_bitM b b).2 rfl⟩ hg) (hB.get b B hg).2
                    have hfn:=run_findNow (P:=P) hk (w:=w) h4
                    have hzr:=run_zero hz2 e w
                    cases f' with
                    | none=>
                      cases r with
                      |none=>cases ok<;>simp [Instr.lookup,h1,h2,run_underlying hk.hm,gObj h3,hk.chk,hfn,hzr]
                      |some v=>cases h5
                    | some p=>
                      cases r with
                      |none=>cases h5
                      | some v=>
                        simp only [Option.map_some,Option.some.injEq] at h5
                        cases ok<;>simp [Instr.lookup,h1,h2,run_underlying hk.hm,gObj h3,hk.chk,hfn,h5]
                · cases hr
              · cases hr
            · cases hr
          have hvb:(r.getD z.zero).bd n:=by
            cases r with
            |none=>exact Ty.zero_bd hz2
            |some v=>exact key.1 v rfl
          refine does_look hB (by cases ok<;>simp only [cond_true,cond_false,LV.bd,LV.bds,and_true]<;>exact hvb) fun e w a hA hG=>?_
          have h1:=key.2 e w hG a hA
          simp only [execOp,Sem.run_bind,h1,Result.andThen_ok,Sem.run_pure]
          cases ok<;>simp [LV.val,LV.vals]
        · cases hq
      · cases hq
    · cases hq
  · cases hq
end
theorem insN_perm (k v:LV):∀es:List (LV × LV),(insN k v es).Perm ((k,v)::es)
  | []=>List.Perm.refl _
  | (a,u)::r=>by
    unfold insN
    cases ltV k a with
    |true=>exact List.Perm.refl _
    |false=>exact ((insN_perm k v r).cons _).trans (List.Perm.swap _ _ _)
theorem keepKey {P:Program} {w:World} {a b:Value} (h:Instr.sameBits 10000 a b=true):(Instr.keyThatStays a b).run P w= .ok b w:=by
  simp [Instr.keyThatStays,h]
theorem set_heap {w:World} {b:Nat} {o o':Obj} (h:w.heap[b]?=some o):({w with heap:=w.heap.setIfInBounds b o'}:World).heap[b]?=some o':=by
  have:=lt_of_heap h
  simp [this]
theorem set_kp {w:World} {b:Nat} {o:Obj}:Kp w (fun c=>c=b) {w with heap:=w.heap.setIfInBounds b o}:=
  ⟨rfl,rfl,rfl,by simp,fun c hc hn=>by simp only;rw [Array.getElem?_setIfInBounds_ne (fun e=>hn e.symm)]⟩
theorem mod_set (e:En) {es:List (LV × LV × Nat)} {j:Nat} {a k v u:LV} {b:Nat} (hj:es[j]?=some (a,v,b)) (f:MapEntry→MapEntry) (hf:f (ent e (a,v,b))=ent e (k,u,b)):((es.map (ent e)).toArray).modify j f=((es.set j (k,u,b)).map (ent e)).toArray:=by
  apply Array.ext'
  apply List.ext_getElem?
  intro i
  rw [Array.toList_modify,List.getElem?_modify,List.map_set,List.getElem?_set]
  have hl:=(List.getElem?_eq_some_iff.1 hj).1
  by_cases hi:j=i
  · subst hi
    simp [hl,hj,hf]
    have:=(List.getElem?_eq_some_iff.1 hj).2
    rw [this,hf]
  · simp [hi]
section
variable {P:Program} {X:Ctx} {N:Nat} {sl:Tr LV} {h:Tr LB} {n:Nat} {d:Option Tmp} {T:TypeId} {pos:String} {af:Array Edge} {g:Option (Nat × Bool)}
theorem run_put_new {t kt et:TypeId} {ud:TypeDesc} {k:LV} (hk:KeyOk P t kt et ud k) {e:En} {w:World} {r:Nat} {ents:Array MapEntry} {clock:Nat} (hw:w.heap[r]?=some (.map ents clock)) (hf:Instr.findNow ud (k.val e) ents.toList 0=some none) (v:Value) :
    (Instr.mapUpdate t (.map (some r)) (k.val e) v).run P w= .ok () {w with heap:=w.heap.setIfInBounds r (.map (ents.push ⟨k.val e,v,clock⟩) (clock+1))}:=by
  simp only [Instr.mapUpdate,Sem.run_bind,run_underlying hk.hm,Result.andThen_ok,gObj hw,hk.chk,run_findNow hk hf,sObj hw]
theorem run_put_old {t kt et:TypeId} {ud:TypeDesc} {k:LV} (hk:KeyOk P t kt et ud k) {e:En} {w:World} {r j:Nat} {ents:Array MapEntry} {clock:Nat} {x:MapEntry} {u:Value} (hw:w.heap[r]?=some (.map ents clock)) (hf:Instr.findNow ud (k.val e) ents.toList 0=some (some (j,u))) (hx:ents[j]?=some x) (hb:Instr.sameBits 10000 x.key (k.val e)=true) (v:Value) :
    (Instr.mapUpdate t (.map (some r)) (k.val e) v).run P w= .ok () {w with heap:=w.heap.setIfInBounds r (.map (ents.modify j fun y=>{y with key:=k.val e,val:=v}) clock)}:=by
  simp only [Instr.mapUpdate,Sem.run_bind,run_underlying hk.hm,Result.andThen_ok,gObj hw,hk.chk,run_findNow hk hf,hx,Option.map_some,Option.getD_some,keepKey hb,sObj hw]
theorem putB_ok {t kt et:TypeId} {ud:TypeDesc} {k v:LV} {B B':LB} (hk:KeyOk P t kt et ud k) (hq:putB B k v=some B') (hB:B.bd n) (hkb:k.bd n) (hvb:v.bd n):B'.bd n∧∀(e:En) (w:World) (b:Nat),B.sat e w b→
    ∃w',(Instr.mapUpdate t (.map (some (e.ρ b))) (k.val e) (v.val e)).run P w= .ok () w'∧Kp w (fun c=>c=e.ρ b) w'∧B'.sat e w' b:=by
  unfold putB at hq
  split at hq
  · rename_i es c
    split at hq
    · rename_i hf
      cases hq
      refine ⟨fun x hx=>?_,fun e w b hs=>?_⟩
      · rcases List.mem_append.1 hx with hx|hx
        · exact hB x hx
        · rw [List.mem_singleton.1 hx];exact ⟨hkb,hvb⟩
      · simp only [LB.sat] at hs
        refine ⟨_,run_put_new hk hs (fndM_now hk e 0 hf) _,set_kp,?_⟩
        simp only [LB.sat]
        rw [set_heap hs]
        simp [ent]
    · rename_i p hf
      split at hq
      · rename_i q' hu
        cases hq
        obtain ⟨v0,b0⟩:=p
        obtain ⟨j0,a0,h10,h20,_,h40⟩:=fndM_now hk ⟨id,id⟩ 0 hf
        have hset:=h40 v q' hu
        subst hset
        refine ⟨fun x hx=>?_,fun e w b hs=>?_⟩
        · rcases List.mem_or_eq_of_mem_set hx with hx|rfl
          · exact hB x hx
          · exact ⟨hkb,hvb⟩
        · simp only [LB.sat] at hs
          obtain ⟨j,a,h1,h2,h3,h4⟩:=fndM_now hk e 0 hf
          have hset:=h4 v _ hu
          rw [hset]
          rw [Nat.zero_add] at h3
          have hx:((es.map (ent e)).toArray)[j]?=some (ent e (a,v0,b0)):=by simp [h1]
          refine ⟨_,run_put_old hk hs h3 hx (hk.bits e a h2) _,set_kp,?_⟩
          simp only [LB.sat]
          rw [set_heap hs,mod_set (u:=v) (k:=k) e h1 _ rfl]
      · cases hq
    · cases hq
  · rename_i es
    split at hq
    · rename_i hf
      cases hq
      refine ⟨fun x hx=>?_,fun e w b hs=>?_⟩
      · rcases List.mem_cons.1 ((insN_perm k v es).subset hx) with rfl|hx
        · exact ⟨hkb,hvb⟩
        · exact hB x hx
      · simp only [LB.sat] at hs
        obtain ⟨ents,clock,h1,h2⟩:=hs
        refine ⟨_,run_put_new hk h1 (fndN_now hk e hf h2) _,set_kp,?_⟩
        simp only [LB.sat]
        refine ⟨_,_,set_heap h1,?_⟩
        have h3:=((insN_perm k v es).map (fun x:LV × LV=>(x.1.val e,x.2.val e))).symm
        refine List.Perm.trans ?_ h3
        rw [List.map_cons]
        simp only [Array.toList_push,List.map_append,List.map_cons,List.map_nil]
        exact (List.perm_append_comm).trans (h2.cons _)
    · cases hq
  · cases hq
theorem insB_ok {t kt et:TypeId} {ud:TypeDesc} {k v:LV} {B B':LB} (hk:KeyOk P t kt et ud k) (hq:insB B k v=some B') (hB:B.bd n) (hkb:k.bd n) (hvb:v.bd n):B'.bd n∧∀(e:En) (w:World) (b:Nat),B.sat e w b→
    ∃w',(Instr.mapUpdate t (.map (some (e.ρ b))) (k.val e) (v.val e)).run P w= .ok () w'∧Kp w (fun c=>c=e.ρ b) w'∧B'.sat e w' b:=by
  unfold insB at hq
  split at hq
  · cases hq
    refine ⟨fun x hx=>?_,fun e w b hs=>?_⟩
    · rw [List.mem_singleton.1 hx];exact ⟨hkb,hvb⟩
    · simp only [LB.sat] at hs
      refine ⟨_,run_put_new hk hs rfl _,set_kp,?_⟩
      simp only [LB.sat]
      exact ⟨_,_,set_heap hs,by simp⟩
  · rename_i es
    split at hq
    · rename_i hf
      cases hq
      exact putB_ok (B:=.N es) hk (by simp only [putB,hf]) hB hkb hvb
    · cases hq
  · cases hq
theorem does_put {o:Oper} {t:TypeId} {m:Operand} {mb:Nat} {kv xv:LV} {B B':LB} (hX:CtxOk P X) (hB:HB n h) (hS:SB n sl) (hm:opd sl m=some (.M mb)) (hkk:keyK X t kv=true) (hg:h.get mb=some B)
    (hb:B'.bd n) (hr:∀(e:En) (w:World) (b:Nat),B.sat e w b→∃w',(Instr.mapUpdate t (.map (some (e.ρ b))) (kv.val e) (xv.val e)).run P w= .ok () w'∧Kp w (fun c=>c=e.ρ b) w'∧B'.sat e w' b)
    (hx:∀(a:Act) (e:En),SlT N e sl a→∀(w w':World),(Instr.mapUpdate t (.map (some (e.ρ mb))) (kv.val e) (xv.val e)).run P w= .ok () w'→(execOp a.eval o).run P w= .ok .skip w') :
    Does P N sl h n o ⟨none,h.set 21 mb (some B'),n,bitM mb,bitM mb⟩:=by
  have hlt:=(hB.get mb B hg).1
  have hd:=dd_set (f:=0) hB.top hg hlt (B':=B') fun _=>hb
  rw [zero_or] at hd
  refine ⟨hd,(fun u hu=>by cases hu),fun e w a hA hG=>?_⟩
  obtain ⟨w',h1,h2,h3⟩:=hr e w mb (hG.sat mb B ⟨hlt,(bt_bitM mb mb).2 rfl⟩ hg)
  have ht:=tk_set (f:=0) hB hg (by rw [zero_or];exact hG) h2 h3
  rw [zero_or] at ht
  exact ⟨e,w',.inl ⟨rfl,rfl⟩,ht,hx a e hA w w' h1⟩
theorem does_mapUpdate {t:TypeId} {m k x:Operand} {q:R1} (hX:CtxOk P X) (hB:HB n h) (hS:SB n sl) (hq:opX X sl h n (.mapUpdate t m k x)=some q):Does P N sl h n ⟨d,.mapUpdate t m k x,T,pos,af,g⟩ q:=by
  simp only [opX] at hq
  split at hq
  · rename_i b kv xv hm hk hx
    split at hq
    · rename_i B hg
      split at hq
      · rename_i B' hp
        obtain ⟨hkk,hq1⟩:=ck_some hq
        cases hq1
        obtain ⟨y',kt,et',ud,hy',hyk,hko⟩:=keyK_ok hX hkk
        obtain ⟨h1,h2⟩:=putB_ok hko hp (hB.get b B hg).2 (opd_bd hS hk) (opd_bd hS hx)
        refine does_put hX hB hS hm hkk hg h1 h2 fun a e hA w w' hr=>?_
        have e1:=hA.ev hm
        have e2:=hA.ev hk
        have e3:=hA.ev hx
        simp only [LV.val] at e1
        simp only [execOp,e1,e2,e3,Sem.run_bind,hr,Result.andThen_ok,Sem.run_pure]
      · cases hq
    · cases hq
  · cases hq
theorem does_insert {t:TypeId} {m k x:Operand} {q:R1} (hX:CtxOk P X) (hB:HB n h) (hS:SB n sl) (hq:opX X sl h n (.insert t m k x)=some q):Does P N sl h n ⟨d,.insert t m k x,T,pos,af,g⟩ q:=by
  simp only [opX] at hq
  split at hq
  · rename_i b kv xv hm hk hx
    split at hq
    · rename_i B hg
      split at hq
      · rename_i B' hp
        obtain ⟨hkk,hq1⟩:=ck_some hq
        cases hq1
        obtain ⟨y',kt,et',ud,hy',hyk,hko⟩:=keyK_ok hX hkk
        obtain ⟨h1,h2⟩:=insB_ok hko hp (hB.get b B hg).2 (opd_bd hS hk) (opd_bd hS hx)
        refine does_put hX hB hS hm hkk hg h1 h2 fun a e hA w w' hr=>?_
        have e1:=hA.ev hm
        have e2:=hA.ev hk
        have e3:=hA.ev hx
        simp only [LV.val] at e1
        simp only [execOp,e1,e2,e3,Sem.run_bind,hr,Result.andThen_ok,Sem.run_pure]
      · cases hq
    · cases hq
  · cases hq
end
section
variable {P:Program} {X:Ctx} {N:Nat} {sl:Tr LV} {h:Tr LB} {n:Nat} {d:Option Tmp} {T:TypeId} {pos:String} {af:Array Edge} {g:Option (Nat × Bool)}
theorem does_range {t:TypeId} {x:Operand} {q:R1} (hX:CtxOk P X) (hB:HB n h) (hS:SB n sl) (hq:opX X sl h n (.range t x)=some q):Does P N sl h n ⟨d,.range t x,T,pos,af,g⟩ q:=by
  simp only [opX] at hq
  split at hq
  · rename_i y s hy hx
    obtain ⟨hc,hq1⟩:=ck_some hq
    have hk:=(hX.ty t y hy).k
    rw [TK.str_of hc] at hk
    refine does_new hB hq1 trivial (by simp only [LV.bd];exact Nat.lt_succ_self n) fun e w a hA hG=>?_
    have h1:=hA.ev hx
    simp only [LV.val] at h1
    refine ⟨0,w.alloc (.stringIter ⟨s.toArray⟩ 0),.inl rfl,alloc_kp w _,?_,?_⟩
    · simp only [LB.sat]
      rw [En.add_ρ,heap_alloc_new]
    · simp only [execOp,h1,Instr.range,Sem.run_bind,run_underlying hk,Result.andThen_ok,Sem.run_pure,run_newObj,World.alloc_eq,LV.val,En.add_ρ]
  · rename_i y hy hx
    obtain ⟨hc,hq1⟩:=ck_some hq
    have hk:=(hX.ty t y hy).k
    obtain ⟨k1,k2,hm⟩:=TK.mp_of hc
    rw [hm] at hk
    refine does_new hB hq1 (fun b hb=>by cases hb) (by simp only [LV.bd];exact Nat.lt_succ_self n) fun e w a hA hG=>?_
    have h1:=hA.ev hx
    simp only [LV.val] at h1
    refine ⟨0,w.alloc (.mapIter none 0 #[] 0),.inl rfl,alloc_kp w _,?_,?_⟩
    · simp only [LB.sat]
      rw [En.add_ρ,heap_alloc_new]
      rfl
    · simp only [execOp,h1,Instr.range,Sem.run_bind,run_underlying hk,Result.andThen_ok,Sem.run_pure,run_newObj,World.alloc_eq,LV.val,En.add_ρ]
  · rename_i y m hy hx
    split at hq
    · rename_i es c hg
      obtain ⟨hc,hq1⟩:=ck_some hq
      have hk:=(hX.ty t y hy).k
      obtain ⟨k1,k2,hm⟩:=TK.mp_of hc
      rw [hm] at hk
      have hlt:=(hB.get m _ hg).1
      refine does_new hB hq1 (fun b hb=>by cases hb;exact hlt) (by simp only [LV.bd];exact Nat.lt_succ_self n) fun e w a hA hG=>?_
      have h1:=hA.ev hx
      simp only [LV.val] at h1
      have hs:=hG.sat m _ ⟨hlt,(bt_bitM m m).2 rfl⟩ hg
      simp only [LB.sat] at hs
      refine ⟨0,w.alloc (.mapIter (some (e.ρ m)) c #[] c),.inl rfl,alloc_kp w _,?_,?_⟩
      · simp only [LB.sat]
        rw [En.add_ρ,heap_alloc_new,Option.map_some,(En.add_ag e n _ _).ρ m hlt]
      · simp only [execOp,h1,Instr.range,Sem.run_bind,run_underlying hk,Result.andThen_ok,gObj hs,Sem.run_pure,run_newObj,World.alloc_eq,LV.val,En.add_ρ]
    · cases hq
  · cases hq
end
theorem born_c (seen:List Nat) (b:Nat):seen.toArray.contains b=seen.any fun x=>Nat.beq x b:=by
  rw [List.contains_toArray]
  induction seen with
  |nil=>rfl
  | cons x l ih=>
    rw [List.contains_cons,List.any_cons,ih,beq_dec]
    congr 1
    by_cases h:b=x
    · subst h;simp
    · have:¬x=b:=fun e=>h e.symm
      simp [h,this]
theorem cands_val (e:En) (es:List (LV × LV × Nat)) (since:Nat) (seen:List Nat) :
    (let left:=(es.map (ent e)).toArray.filter fun x=>!seen.toArray.contains x.born
     let old:=left.filter (·.born<since)
     let new:=left.filter (·.born≥since)
     (if old.isEmpty then #[none] else #[])++(old++new).map some)=((cands es since seen).map (Option.map (ent e))).toArray:=by
  simp only [cands,born_c,blt_eq]
  simp only [List.filter_toArray,List.filter_map,List.isEmpty_toArray,List.append_toArray,List.map_toArray]
  have e1:((fun x:MapEntry=>decide (x.born<since)) ∘ ent e)=fun x=>decide (x.2.2<since):=rfl
  have e2:((fun x:MapEntry=>!seen.any fun x_1=>x_1.beq x.born) ∘ ent e)=fun x=>!seen.any fun b=>b.beq x.2.2:=rfl
  have e3:((fun x:MapEntry=>decide (x.born≥since)) ∘ ent e)=fun x=>!decide (x.2.2<since):=by
    funext x
    show decide (x.2.2≥since)= !decide (x.2.2<since)
    by_cases h:x.2.2<since
    · have h2:¬x.2.2≥since:=by omega
      rw [decide_eq_true h,decide_eq_false h2];rfl
    · have h2:x.2.2≥since:=by omega
      rw [decide_eq_false h,decide_eq_true h2];rfl
  rw [e1,e2,e3]
  generalize List.filter (fun x=>decide (x.2.2<since)) (List.filter (fun x=>!seen.any fun b=>b.beq x.2.2) es)=O
  generalize List.filter (fun x=>!decide (x.2.2<since)) (List.filter (fun x=>!seen.any fun b=>b.beq x.2.2) es)=R
  cases O with
  |nil=>apply Array.ext';simp
  |cons a l=>apply Array.ext';simp;rfl
section
variable {P:Program} {X:Ctx} {N:Nat} {sl:Tr LV} {h:Tr LB} {n:Nat} {d:Option Tmp} {T:TypeId} {pos:String} {af:Array Edge} {g:Option (Nat × Bool)}
theorem does_next {x:Operand} {st:Bool} {q:R1} (hX:CtxOk P X) (hB:HB n h) (hS:SB n sl) (hq:opX X sl h n (.next x st)=some q):Does P N sl h n ⟨d,.next x st,T,pos,af,g⟩ q:=by
  simp only [opX] at hq
  split at hq
  · rename_i b hx
    have hlt:=opd_bd hS hx
    simp only [LV.bd] at hlt
    split at hq
    · rename_i s p hg
      split at hq
      · rename_i c hc
        obtain ⟨hck,hq1⟩:=ck_some hq
        cases hq1
        obtain ⟨hst,hc8⟩:=(Bool.and_eq_true _ _).mp hck
        subst hst
        rw [blt_eq] at hc8
        have hc8:=dTr hc8
        have hd:=dd_set (f:=0) hB.top hg hlt (B':=.S s (p+1)) fun _=>trivial
        rw [zero_or] at hd
        refine ⟨hd,(fun u hu=>by cases hu;simp only [LV.bd,LV.bds,and_self]),fun e w a hA hG=>?_⟩
        have hs:=hG.sat b _ ⟨hlt,(bt_bitM b b).2 rfl⟩ hg
        simp only [LB.sat] at hs
        have h1:=hA.ev hx
        simp only [LV.val] at h1
        obtain ⟨hp,hpc⟩:=List.getElem?_eq_some_iff.1 hc
        have hsz:p<(ByteArray.mk s.toArray).size:=hp
        have hgc:(ByteArray.mk s.toArray)[p]'hsz=c:=hpc
        have hdec:=decode_ascii (ByteArray.mk s.toArray) p hsz (by rw [hgc];exact hc8)
        rw [hgc] at hdec
        have ht:=tk_set (f:=0) (B':=.S s (p+1)) hB hg (by rw [zero_or];exact hG) (set_kp (o:=.stringIter ⟨s.toArray⟩ (p+1))) (by simp only [LB.sat];exact set_heap hs)
        rw [zero_or] at ht
        refine ⟨e,_,.inl ⟨rfl,rfl⟩,ht,?_⟩
        simp only [execOp,h1,Instr.next,Sem.run_bind,gObj hs,Result.andThen_ok,hsz,if_true,hdec,sObj hs,Sem.run_pure,LV.val,LV.vals]
        rfl
      · rename_i hc
        obtain ⟨hst,hq1⟩:=ck_some hq
        cases hq1
        subst hst
        refine does_look hB (by simp only [LV.bd,LV.bds,and_self]) fun e w a hA hG=>?_
        have hs:=hG.sat b _ ⟨hlt,(bt_bitM b b).2 rfl⟩ hg
        simp only [LB.sat] at hs
        have h1:=hA.ev hx
        simp only [LV.val] at h1
        have hsz:¬p<(ByteArray.mk s.toArray).size:=fun hp=>by
          have:=List.getElem?_eq_none_iff.1 hc
          have hp:p<s.length:=hp
          omega
        simp only [execOp,h1,Instr.next,Sem.run_bind,gObj hs,Result.andThen_ok,hsz,if_false,Sem.run_pure,LV.val,LV.vals]
    · rename_i s1 s2 s3 hg
      obtain ⟨hst,hq1⟩:=ck_some hq
      cases hq1
      obtain rfl:st=false:=by cases st<;>first|rfl|cases hst
      refine does_look hB (by simp only [LV.bd,LV.bds,and_self]) fun e w a hA hG=>?_
      have hs:=hG.sat b _ ⟨hlt,(bt_bitM b b).2 rfl⟩ hg
      simp only [LB.sat,Option.map_none] at hs
      have h1:=hA.ev hx
      simp only [LV.val] at h1
      simp only [execOp,h1,Instr.next,Sem.run_bind,gObj hs,Result.andThen_ok,Sem.run_pure,LV.val,LV.vals]
    · rename_i m since seen last hg
      split at hq
      · rename_i es c hgm
        have hltm:=(hB.get m _ hgm).1
        cases hcond:(st || (!seen.isEmpty && !es.isEmpty && es.all (fun x=>!Nat.blt x.2.2 last))) with
        |true=>rw [hcond,cond_true] at hq;cases hq
        | false =>
          rw [hcond,cond_false] at hq
          obtain ⟨hst,hall⟩:=Bool.or_eq_false_iff.mp hcond
          subst hst
          have hall2:∀e:En,(!seen.toArray.isEmpty && !((es.map (ent e)).toArray).isEmpty && ((es.map (ent e)).toArray).all (fun x=>decide (x.born≥last)))=false:=by
            intro e
            rw [←hall]
            have e1:(es.map (ent e)).toArray.all (fun x=>decide (x.born≥last))=es.all (fun x=>!Nat.blt x.2.2 last):=by
              rw [List.all_toArray,List.all_map]
              congr 1
              funext x
              rw [blt_eq]
              show decide (x.2.2≥last)= !decide (x.2.2<last)
              by_cases h:x.2.2<last
              · have h2:¬x.2.2≥last:=by omega
                rw [decide_eq_true h,decide_eq_false h2];rfl
              · have h2:x.2.2≥last:=by omega
                rw [decide_eq_false h,decide_eq_true h2];rfl
            rw [e1]
            simp
          have cv:=fun e=>cands_val e es since seen
          simp only at cv
          have go:∀(e:En) (w:World) (a:Act),SlT N e sl a→Gd e (fun i=>i<n∧bt (bitM m ||| bitM b) i) h w→∀r,cands es since seen=[r]→(execOp a.eval ⟨d,.next x false,T,pos,af,g⟩).run P w=(match r with
              |some y=>.ok (.value (.tuple #[.bool true,y.1.val e,y.2.1.val e])) {w with heap:=w.heap.setIfInBounds (e.ρ b) (.mapIter (some (e.ρ m)) since (seen++[y.2.2]).toArray c)}
              |none=>.ok (.value (.tuple #[.bool false])) w):=by
            intro e w a hA hG r hr
            have hs:=hG.sat b _ ⟨hlt,(bt_or _ _ _).2 (.inr ((bt_bitM b b).2 rfl))⟩ hg
            have hsm:=hG.sat m _ ⟨hltm,(bt_or _ _ _).2 (.inl ((bt_bitM m m).2 rfl))⟩ hgm
            simp only [LB.sat,Option.map_some] at hs hsm
            have h1:=hA.ev hx
            simp only [LV.val] at h1
            have cv1:=cv e
            rw [hr] at cv1
            simp only [execOp,h1,Instr.next,Sem.run_bind,gObj hs,gObj hsm,Result.andThen_ok,hall2 e,cv1]
            cases r with
            |none=>simp [Question.forced,run_choose_drew]
            |some y=>simp [Question.forced,run_choose_drew,sObj hs,ent]
          split at hq
          · rename_i k v i hcs
            cases hq
            have hmem:(k,v,i)∈es:=by
              have h1:some (k,v,i)∈cands es since seen:=by rw [hcs];exact .head _
              unfold cands at h1
              simp only [List.mem_append,List.mem_map,List.mem_filter,Option.some.injEq] at h1
              rcases h1 with h1| ⟨y,h1,rfl⟩
              · split at h1
                · cases List.mem_singleton.1 h1
                · cases h1
              · rcases h1 with h1|h1<;>exact h1.1.1
            have hkv:=(hB.get m _ hgm).2 _ hmem
            refine ⟨dd_set (f:=bitM m) hB.top hg hlt (B':=.R (some m) since (seen++[i]) c) fun _=>(fun b' hb'=>by cases hb';exact hltm),(fun u hu=>by cases hu;simp only [LV.bd,LV.bds,true_and,and_true];exact hkv),fun e w a hA hG=>?_⟩
            have hs:=hG.sat b _ ⟨hlt,(bt_or _ _ _).2 (.inr ((bt_bitM b b).2 rfl))⟩ hg
            simp only [LB.sat,Option.map_some] at hs
            have ht:=tk_set (f:=bitM m) (B':=.R (some m) since (seen++[i]) c) hB hg hG (set_kp (o:=.mapIter (some (e.ρ m)) since (seen++[i]).toArray c)) (by simp only [LB.sat,Option.map_some];exact set_heap hs)
            refine ⟨e,_,.inl ⟨rfl,rfl⟩,ht,?_⟩
            rw [go e w a hA hG _ hcs]
            simp only [LV.val,LV.vals]
          · rename_i hcs
            cases hq
            refine does_look hB (by simp only [LV.bd,LV.bds,and_self]) fun e w a hA hG=>?_
            rw [go e w a hA hG _ hcs]
            simp only [LV.val,LV.vals]
          · cases hq
      · cases hq
    · cases hq
  · cases hq
end
section
variable {P:Program} {X:Ctx} {N:Nat} {sl:Tr LV} {h:Tr LB} {n:Nat} {d:Option Tmp} {T:TypeId} {pos:String} {af:Array Edge} {g:Option (Nat × Bool)}
theorem does_entry {x:Operand} {q:R1} (hX:CtxOk P X) (hB:HB n h) (hS:SB n sl) (hq:opX X sl h n (.entry x)=some q):Does P N sl h n ⟨d,.entry x,T,pos,af,g⟩ q:=by
  simp only [opX] at hq
  split at hq
  · rename_i b hx
    have hlt:=opd_bd hS hx
    simp only [LV.bd] at hlt
    split at hq
    · rename_i m since seen last hg
      split at hq
      · rename_i es c i hgm hi
        have hltm:=(hB.get m _ hgm).1
        obtain ⟨hc,hq1⟩:=ck_some hq
        clear hq
        obtain rfl:=Nat.eq_of_beq_eq_true hc
        split at hq1
        · rename_i k v i2 hf
          cases hq1
          have hkv:=(hB.get m _ hgm).2 _ (List.mem_of_find?_eq_some hf)
          refine does_look hB (by simp only [LV.bd,LV.bds,and_true];exact hkv) fun e w a hA hG=>?_
          have hs:=hG.sat b _ ⟨hlt,(bt_or _ _ _).2 (.inr ((bt_bitM b b).2 rfl))⟩ hg
          have hsm:=hG.sat m _ ⟨hltm,(bt_or _ _ _).2 (.inl ((bt_bitM m m).2 rfl))⟩ hgm
          simp only [LB.sat,Option.map_some] at hs hsm
          have h1:=hA.ev hx
          simp only [LV.val] at h1
          have hbk:seen.toArray.back?=some i:=by rw [List.back?_toArray];exact hi
          have hfind:((es.map (ent e)).toArray).find? (fun x=>x.born == i)=some (ent e (k,v,i2)):=by
            rw [List.find?_toArray,List.find?_map]
            have:((fun x:MapEntry=>x.born == i) ∘ ent e)=fun x=>Nat.beq x.2.2 i:=by
              funext y
              show (y.2.2 == i)=Nat.beq y.2.2 i
              rw [beq_dec]
              rfl
            rw [this,hf]
            rfl
          simp only [execOp,h1,Instr.entry,Sem.run_bind,gObj hs,gObj hsm,Result.andThen_ok,hbk,hfind,LV.val,LV.vals]
          simp [ent]
        · cases hq1
      · cases hq
    · cases hq
  · cases hq
theorem does_mapEntry {t:TypeId} {m k:Operand} {q:R1} (hX:CtxOk P X) (hB:HB n h) (hS:SB n sl) (hq:opX X sl h n (.mapEntry t m k)=some q):Does P N sl h n ⟨d,.mapEntry t m k,T,pos,af,g⟩ q:=by
  simp only [opX] at hq
  split at hq
  · rename_i y b kv hy hm hk
    have hkb:=opd_bd hS hk
    split at hq
    · rename_i es c et hg het
      have hlt:=(hB.get b _ hg).1
      have hbd:=(hB.get b _ hg).2
      split at hq
      · rename_i z v i hz hf
        split at hq
        · rename_i q' hu
          obtain ⟨hkk,hq1⟩:=ck_some hq
          cases hq1
          obtain ⟨y',kt,et',ud,hy',hyk,hko⟩:=keyK_ok hX hkk
          obtain ⟨j0,a0,h10,h20,_,h40⟩:=fndM_now hko ⟨id,id⟩ 0 hf
          have hset:=h40 v q' hu
          subst hset
          have hav:=hbd _ (List.mem_of_getElem? h10)
          have hd:=dd_set (f:=0) hB.top hg hlt (B':=.M (es.set j0 (kv,v,i)) c) fun _=>(fun x hx=>by
            rcases List.mem_or_eq_of_mem_set hx with hx|rfl
            · exact hbd x hx
            · exact ⟨hkb,hav.2⟩)
          rw [zero_or] at hd
          refine ⟨hd,(fun u hu=>by cases hu;simp only [LV.bd,LV.bds,and_true];exact hav.2),fun e w a hA hG=>?_⟩
          have hs:=hG.sat b _ ⟨hlt,(bt_bitM b b).2 rfl⟩ hg
          simp only [LB.sat] at hs
          obtain ⟨j,a',h1,h2,h3,h4⟩:=fndM_now hko e 0 hf
          have hset:=h4 v _ hu
          rw [Nat.zero_add] at h3
          have hx:((es.map (ent e)).toArray)[j]?=some (ent e (a',v,i)):=by simp [h1]
          have hm2:=mod_set (u:=v) (k:=kv) e h1 (fun y=>{y with key:=kv.val e}) rfl
          have ht:=tk_set (f:=0) (B':=.M (es.set j0 (kv,v,i)) c) hB hg (by rw [zero_or];exact hG) (set_kp (o:=.map (((es.map (ent e)).toArray).modify j fun y=>{y with key:=kv.val e}) c)) (by simp only [LB.sat];rw [set_heap hs,hm2,hset])
          rw [zero_or] at ht
          refine ⟨e,_,.inl ⟨rfl,rfl⟩,ht,?_⟩
          have e1:=hA.ev hm
          have e2:=hA.ev hk
          simp only [LV.val] at e1
          simp only [execOp,e1,e2,Instr.mapEntry,Sem.run_bind,run_underlying hko.hm,Result.andThen_ok,gObj hs,hko.chk,run_findNow hko h3,hx,Option.map_some,Option.getD_some,ent,keepKey (hko.bits e a' h2),sObj hs,Sem.run_pure,LV.val,LV.vals]
          rfl
        · cases hq
      · rename_i z hz hf
        obtain ⟨hkk,hq1⟩:=ck_some hq
        cases hq1
        obtain ⟨y',kt,et',ud,hy',hyk,hko⟩:=keyK_ok hX hkk
        rw [hy] at hy'
        cases hy'
        rw [hyk] at het
        simp only [TK.mp?,Option.some.injEq] at het
        subst het
        have hz2:=hX.ty _ z hz
        have hzb:=Ty.zero_bd (n:=n) hz2
        have hd:=dd_set (f:=0) hB.top hg hlt (B':=.M (es++[(kv,z.zero,c)]) (c+1)) fun _=>(fun x hx=>by
          rcases List.mem_append.1 hx with hx|hx
          · exact hbd x hx
          · rw [List.mem_singleton.1 hx];exact ⟨hkb,hzb⟩)
        rw [zero_or] at hd
        refine ⟨hd,(fun u hu=>by cases hu;simp only [LV.bd,LV.bds,and_true];exact hzb),fun e w a hA hG=>?_⟩
        have hs:=hG.sat b _ ⟨hlt,(bt_bitM b b).2 rfl⟩ hg
        simp only [LB.sat] at hs
        have h3:=fndM_now hko e 0 hf
        simp only at h3
        have ht:=tk_set (f:=0) (B':=.M (es++[(kv,z.zero,c)]) (c+1)) hB hg (by rw [zero_or];exact hG) (set_kp (o:=.map ((es.map (ent e)).toArray.push ⟨kv.val e,z.zero.val e,c⟩) (c+1))) (by
          simp only [LB.sat]
          rw [set_heap hs]
          simp [ent])
        rw [zero_or] at ht
        refine ⟨e,_,.inl ⟨rfl,rfl⟩,ht,?_⟩
        have e1:=hA.ev hm
        have e2:=hA.ev hk
        simp only [LV.val] at e1
        simp only [execOp,e1,e2,Instr.mapEntry,Sem.run_bind,run_underlying hko.hm,Result.andThen_ok,gObj hs,hko.chk,run_findNow hko h3,run_zero hz2 e,sObj hs,Sem.run_pure,LV.val,LV.vals]
        rfl
      · cases hq
    · cases hq
  · cases hq
end
theorem bornM_ok (e:En) {b:Nat} {v:LV}:∀{es q:List (LV × LV × Nat)},bornM b v es=some q→∃j a u,es[j]?=some (a,u,b)∧q=es.set j (a,v,b)∧(es.map (ent e)).findIdx? (fun x=>(x.born:Int) == (b:Int))=some j
  | [],q,h=>by cases h
  | (a, u,c)::r,q,h=>by
    simp only [bornM] at h
    cases hb:Nat.beq c b with
    | true=>
      rw [hb,cond_true] at h
      cases h
      obtain rfl:=Nat.eq_of_beq_eq_true hb
      exact ⟨0,a,u,rfl,rfl,by simp [List.findIdx?_cons,ent]⟩
    | false=>
      rw [hb,cond_false] at h
      split at h
      · rename_i q' hq
        cases h
        obtain ⟨j,a',u',h1,h2,h3⟩:=bornM_ok e hq
        have hne:¬c=b:=fun he=>by subst he;simp at hb
        have hne2:¬(c:Int)=(b:Int):=by omega
        refine ⟨j+1,a',u',by simpa using h1,by rw [h2];rfl,?_⟩
        rw [List.map_cons,List.findIdx?_cons,h3]
        simp [ent,hne]
        exact hne2
      · cases h
section
variable {P:Program} {X:Ctx} {N:Nat} {sl:Tr LV} {h:Tr LB} {n:Nat} {d:Option Tmp} {T:TypeId} {pos:String} {af:Array Edge} {g:Option (Nat × Bool)}
theorem does_entryStore {t:TypeId} {m st x:Operand} {q:R1} (hX:CtxOk P X) (hB:HB n h) (hS:SB n sl) (hq:opX X sl h n (.entryStore t m st x)=some q):Does P N sl h n ⟨d,.entryStore t m st x,T,pos,af,g⟩ q:=by
  simp only [opX] at hq
  split at hq
  · rename_i b ik i v hm hst hx
    have hvb:=opd_bd hS hx
    split at hq
    · rename_i es c hg
      have hlt:=(hB.get b _ hg).1
      have hbd:=(hB.get b _ hg).2
      split at hq
      · rename_i q' hbn
        cases hq
        obtain ⟨j0,a0,u0,h10,h20,_⟩:=bornM_ok ⟨id,id⟩ hbn
        have hd:=dd_set (f:=0) hB.top hg hlt (B':=.M q' c) fun _=>(fun y hy=>by
          rw [h20] at hy
          rcases List.mem_or_eq_of_mem_set hy with hy|rfl
          · exact hbd y hy
          · exact ⟨(hbd _ (List.mem_of_getElem? h10)).1,hvb⟩)
        rw [zero_or] at hd
        refine ⟨hd,(fun u hu=>by cases hu),fun e w a hA hG=>?_⟩
        have hs:=hG.sat b _ ⟨hlt,(bt_bitM b b).2 rfl⟩ hg
        simp only [LB.sat] at hs
        obtain ⟨j,a',u',h1,h2,h3⟩:=bornM_ok e hbn
        have hm2:=mod_set (u:=v) (k:=a') e h1 (fun y=>{y with val:=v.val e}) rfl
        have ht:=tk_set (f:=0) (B':=.M q' c) hB hg (by rw [zero_or];exact hG) (set_kp (o:=.map (((es.map (ent e)).toArray).modify j fun y=>{y with val:=v.val e}) c)) (by simp only [LB.sat];rw [set_heap hs,hm2,h2])
        rw [zero_or] at ht
        refine ⟨e,_,.inl ⟨rfl,rfl⟩,ht,?_⟩
        have e1:=hA.ev hm
        have e2:=hA.ev hst
        have e3:=hA.ev hx
        simp only [LV.val] at e1 e2
        have hfi:((es.map (ent e)).toArray).findIdx? (fun x=>(x.born:Int) == (Int.ofNat i))=some j:=by
          rw [List.findIdx?_toArray];exact h3
        simp only [execOp,e1,e2,e3,Instr.entryStore,Sem.run_bind,gObj hs,asInt,asIntOf,Sem.run_pure,Result.andThen_ok,hfi,sObj hs]
      · cases hq
    · cases hq
  · cases hq
end
section
variable {P:Program} {X:Ctx} {N:Nat} {sl:Tr LV} {h:Tr LB} {n:Nat} {d:Option Tmp} {T:TypeId} {pos:String} {af:Array Edge} {g:Option (Nat × Bool)}
theorem does_op {o:Op} {q:R1} (hX:CtxOk P X) (hB:HB n h) (hS:SB n sl) (hq:opX X sl h n o=some q):Does P N sl h n ⟨d,o,T,pos,af,g⟩ q:=by
  cases o with
  |move x=>exact does_move hB hS (by simpa only [opX] using hq)
  |assign x=>exact does_assign hB hS (by simpa only [opX] using hq)
  |pick c a b=>exact does_pick hB hS hq
  |nilCheck x=>exact does_nilCheck hB hS hq
  |binOp op t x y t2=>exact does_bin hX hB hS hq
  |unOp op t x=>exact does_un hB hS hq
  |extract t i=>exact does_extract hB hS hq
  |fieldAddr t x f=>exact does_fieldAddr hX hB hS hq
  |indexAddr t x i=>exact does_indexAddr hX hB hS hq
  |index t x i=>exact does_index hX hB hS hq
  |field t x f=>exact does_field hX hB hS hq
  |load t a=>exact does_load hX hB hS hq
  |store t a x=>exact does_store hX hB hS hq
  |alloc t=>exact does_alloc hX hB hq
  |box t x=>exact does_box hB hS hq
  |build t ps=>exact does_build hX hB hS hq
  |buildSlice t k ps=>exact does_buildSlice hX hB hS hq
  |makeSlice t l c=>exact does_makeSlice hX hB hS hq
  |makeMap t r=>exact does_makeMap hX hB hS hq
  |lookup t x i ok=>exact does_lookup hX hB hS hq
  |mapUpdate t m k x=>exact does_mapUpdate hX hB hS hq
  |insert t m k x=>exact does_insert hX hB hS hq
  |mapEntry t m k=>exact does_mapEntry hX hB hS hq
  |entryStore t m st x=>exact does_entryStore hX hB hS hq
  |range t x=>exact does_range hX hB hS hq
  |next it st=>exact does_next hX hB hS hq
  |entry it=>exact does_entry hX hB hS hq
  |slice t x lo hi mx=>exact does_slice hX hB hS hq
  |convert a b x=>exact does_convert hX hB hS hq
  |makeInterface t x=>exact does_makeInterface hX hB hS hq
  |makeFunc f a b=>exact does_makeFunc hB hS hq
  |typeAssert x xt t ok=>exact does_typeAssert hX hB hS hq
  |_=>simp only [opX] at hq;cases hq
end
theorem er_map {α β:Type} (f:α→β):∀(l:List α) (j:Nat),(l.map f).eraseIdx j=(l.eraseIdx j).map f
  | [],j=>rfl
  |x::l,0=>rfl
  |x::l,j+1=>by simp only [List.map_cons,List.eraseIdx_cons_succ,er_map f l j]
theorem delM_now {P:Program} {t kt et:TypeId} {ud:TypeDesc} {k:LV} (hk:KeyOk P t kt et ud k) (e:En):∀{es q:List (LV × LV × Nat)} (i:Nat),delM k es=some q→
    (q=es∧Instr.findNow ud (k.val e) (es.map (ent e)) i=some none)∨∃j v,q=es.eraseIdx j∧j<es.length∧Instr.findNow ud (k.val e) (es.map (ent e)) i=some (some (i+j,v))
  | [],q,i,h=>by cases h;exact .inl ⟨rfl,rfl⟩
  | (a, v,b)::es,q,i,h=>by
    simp only [delM] at h
    split at h
    · rename_i hka
      cases h
      exact .inr ⟨0,v.val e,rfl,Nat.succ_pos _,by simp only [List.map_cons,Instr.findNow,ent,hk.same e a true hka];rfl⟩
    · rename_i hka
      have h1:Instr.findNow ud (k.val e) (((a,v,b)::es).map (ent e)) i=Instr.findNow ud (k.val e) (es.map (ent e)) (i+1):=by
        simp only [List.map_cons,Instr.findNow,ent,hk.same e a false hka]
      split at h
      · rename_i q' hq'
        cases h
        rw [h1]
        rcases delM_now hk e (i+1) hq' with ⟨rfl,h2⟩| ⟨j,v',rfl,h3,h2⟩
        · exact .inl ⟨rfl,h2⟩
        · exact .inr ⟨j+1,v',rfl,Nat.succ_lt_succ h3,by rw [h2];congr 3;omega⟩
      · cases h
    · cases h
section
variable {P:Program} {X:Ctx} {N:Nat} {sl:Tr LV} {h:Tr LB} {n:Nat} {d:Option Tmp} {T:TypeId} {pos:String} {af:Array Edge} {g:Option (Nat × Bool)}
theorem run_delete {t kt et:TypeId} {ud:TypeDesc} {k:LV} {ats:Array TypeId} (hk:KeyOk P t kt et ud k) (h0:ats[0]?=some t) {e:En} {es q:List (LV × LV × Nat)} {c r:Nat} {w:World} (hw:w.heap[r]?=some (.map (es.map (ent e)).toArray c)) (hq:delM k es=some q) :
    (Builtin.delete_ ats T #[.map (some r),k.val e]).run P w= .ok (.tuple #[]) {w with heap:=w.heap.setIfInBounds r (.map (q.map (ent e)).toArray c)}:=by
  rcases delM_now hk e 0 hq with ⟨rfl,h2⟩| ⟨j,v,rfl,h3,h2⟩
  · simp [Builtin.delete_,h0,run_underlying hk.hm,gObj hw,hk.chk,run_findNow hk h2,sObj hw]
  · skip
    rw [Nat.zero_add] at h2
    simp [Builtin.delete_,h0,run_underlying hk.hm,gObj hw,hk.chk,run_findNow hk h2,sObj hw,er_map]
theorem does_delete {t:TypeId} {aa:Array Operand} {ats:Array TypeId} {b c:Nat} {k:LV} {es q:List (LV × LV × Nat)} (hX:CtxOk P X) (hB:HB n h) (hS:SB n sl) (h0:ats[0]?=some t) (ha:opds sl aa.toList=some [.M b,k]) (hg:h.get b=some (.M es c))
    (hd:delM k es=some q) (hkk:keyK X t k=true):Does P N sl h n ⟨d,.call ⟨.builtin .delete,aa,ats⟩,T,pos,af,g⟩ ⟨some (.T []),h.set 21 b (some (.M q c)),n,bitM b,bitM b⟩:=by
  obtain ⟨y',kt,et',ud,hy',hyk,hko⟩:=keyK_ok hX hkk
  have hlt:=(hB.get b _ hg).1
  have hb:=(hB.get b _ hg).2
  have hdd:=dd_set (f:=0) hB.top hg hlt (B':=.M q c) fun _=>by
    intro x hx
    rcases delM_now hko ⟨id,id⟩ 0 hd with ⟨rfl,_⟩| ⟨j,v,rfl,_,_⟩
    · exact hb x hx
    · exact hb x (List.mem_of_mem_eraseIdx hx)
  rw [zero_or] at hdd
  refine ⟨hdd,(fun u hu=>by cases hu;simp only [LV.bd,LV.bds]),fun e w a hA hG=>?_⟩
  have hs:=hG.sat b _ ⟨hlt,(bt_bitM b b).2 rfl⟩ hg
  simp only [LB.sat] at hs
  have ht:=tk_set (f:=0) (B':=.M q c) hB hg (by rw [zero_or];exact hG) (set_kp (o:=.map (q.map (ent e)).toArray c)) (by simp only [LB.sat];exact set_heap hs)
  rw [zero_or] at ht
  refine ⟨e,_,.inl ⟨rfl,rfl⟩,ht,?_⟩
  rw [exec_blt (evs_arr hA ha)]
  have hr:=run_delete (T:=T) hko h0 hs hd
  simp only [builtin,LV.vals,LV.val,Sem.run_bind,hr,Result.andThen_ok,Sem.run_pure]
theorem does_blt {b:Builtin} {aa:Array Operand} {ats:Array TypeId} {vs:List LV} {q:R1} (hX:CtxOk P X) (hB:HB n h) (hS:SB n sl) (ha:opds sl aa.toList=some vs) (hq:bltX X h n b ats.toList vs=some q) :
    Does P N sl h n ⟨d,.call ⟨.builtin b,aa,ats⟩,T,pos,af,g⟩ q:=by
  unfold bltX at hq
  split at hq
  · rename_i t ts hats
    have h0:ats[0]?=some t:=by rw [←Array.getElem?_toList,hats];rfl
    split at hq
    · rename_i y hy
      have hty:=hX.ty t y hy
      have hbs:=opds_bd hS ha
      unfold bltT at hq
      split at hq
      · rename_i v
        split at hq
        · rename_i m f hl
          cases hq
          simp only [LV.bds] at hbs
          refine does_blt_look hB ha (by simp only [LV.bd]) fun e w hG cs=>?_
          have:=lenX_ok (T:=T) hty h0 hbs.1 hB hl e w hG
          simp only [builtin,LV.vals,LV.val,Sem.run_bind,this,Result.andThen_ok,Sem.run_pure]
        · cases hq
      · rename_i v
        split at hq
        · rename_i m hl
          cases hq
          refine does_blt_look hB ha (by simp only [LV.bd]) fun e w hG cs=>?_
          have:=capX_ok (T:=T) hty h0 hl e w
          simp only [builtin,LV.vals,LV.val,Sem.run_bind,this,Result.andThen_ok,Sem.run_pure]
        · cases hq
      · rename_i k x k2 z
        cases hq
        refine does_blt_look hB ha (by simp only [LV.bd]) fun e w hG cs=>?_
        have h1:(Builtin.min_ ats T #[.int k x,.int k2 z]).run P w= .ok (.int k (if z<x then z else x)) w:=by simp [Builtin.min_,Builtin.min2]
        simp only [builtin,LV.vals,LV.val,Sem.run_bind,h1,Result.andThen_ok,Sem.run_pure,ltI_eq]
        congr 3
        by_cases hc:z<x<;>simp [hc]
      · rename_i k x k2 z
        cases hq
        refine does_blt_look hB ha (by simp only [LV.bd]) fun e w hG cs=>?_
        have h1:(Builtin.max_ ats T #[.int k x,.int k2 z]).run P w= .ok (.int k (if z > x then z else x)) w:=by simp [Builtin.max_,Builtin.max2]
        simp only [builtin,LV.vals,LV.val,Sem.run_bind,h1,Result.andThen_ok,Sem.run_pure,ltI_eq]
        congr 3
        by_cases hc:x<z<;>simp [hc]
      · rename_i x v
        split at hq
        · rename_i e a0 t2 hel hts
          split at hq
          · rename_i z w2 hz hw2
            obtain ⟨hc,hq1⟩:=ck_some hq
            have hk:=hty.k
            rw [elT_some hel] at hk
            unfold opAppend at hq1
            split at hq1
            · rename_i m news f hl hsc
              obtain ⟨hc2,hq2⟩:=ck_some hq1
              obtain ⟨hc2,h5⟩:=(Bool.and_eq_true _ _).mp hc2
              obtain ⟨hc2,h4⟩:=(Bool.and_eq_true _ _).mp hc2
              obtain ⟨hc2,h3⟩:=(Bool.and_eq_true _ _).mp hc2
              obtain ⟨h1,h2⟩:=(Bool.and_eq_true _ _).mp hc2
              rw [blt_eq] at h1
              have hat:ats=#[t,t2]:=by
                apply Array.ext'
                rw [hts] at hats
                obtain ⟨rfl,_⟩:=List.cons.inj hats
                exact hts
              rw [hat]
              exact does_appV hB hS (hX.ty e z hz) hk (flat_some (hX.ty t2 w2 hw2) hc) ha hl hsc (dTr h1) (Nat.le_of_ble_eq_true h2) (Nat.le_of_ble_eq_true h3) (Nat.eq_of_beq_eq_true h4) h5 hq2
            · cases hq1
          · cases hq
        · cases hq
      · rename_i x v
        split at hq
        · rename_i e hel
          split at hq
          · rename_i z hz
            have hk:=hty.k
            rw [elT_some hel] at hk
            exact does_copy hB hS (hX.ty e z hz) hk h0 ha hq
          · cases hq
        · cases hq
      · rename_i b0 k
        split at hq
        · rename_i es c hg
          split at hq
          · rename_i q' hd
            obtain ⟨hkk,hq1⟩:=ck_some hq
            cases hq1
            exact does_delete hX hB hS h0 ha hg hd hkk
          · cases hq
        · cases hq
      · cases hq
    · cases hq
  · cases hq
end
def En.ext (e:En) (n:Nat) (d:En):En:=⟨fun i=>if i<n then e.ρ i else d.ρ i,fun i=>if i<n then e.κ i else d.κ i⟩
theorem En.ext_ag (e:En) (n:Nat) (d:En):Ag n e (e.ext n d):=⟨fun i hi=>by simp only [En.ext,if_pos hi],fun i hi=>by simp only [En.ext,if_pos hi]⟩
theorem Ag.symm {n:Nat} {e e':En} (h:Ag n e e'):Ag n e' e:=⟨fun i hi=>(h.ρ i hi).symm,fun i hi=>(h.κ i hi).symm⟩
theorem Ag.mono {n m:Nat} {e e':En} (h:Ag n e e') (hm:m≤n):Ag m e e':=⟨fun i hi=>h.ρ i (by omega),fun i hi=>h.κ i (by omega)⟩
theorem En.ext_ext (e d d2:En) {n n1:Nat} (h:n≤n1):(e.ext n d).ext n1 d2=e.ext n (d.ext n1 d2):=by
  unfold En.ext
  simp only [En.mk.injEq]
  constructor<;>funext i<;>by_cases h1:i<n
  · have:i<n1:=by omega
    simp [h1,this]
  · simp [h1]
  · have:i<n1:=by omega
    simp [h1,this]
  · simp [h1]
theorem Tk.re {h h':Tr LB} {n n' f m:Nat} {e e' e2:En} {w w':World} (d:Dd h n f m h' n') (hB:HB n h) (t:Tk h n f m h' n' e w e' w') (ha:Ag n' e' e2):Tk h n f m h' n' e w e2 w':=by
  have hB':=d.hb hB
  refine ⟨t.ag.trans (ha.mono d.nn) (Nat.le_refl n),⟨fun i B hi hg=>?_,fun i j B C hi hj hg hk he=>?_⟩,t.kp,fun i hi hs=>?_⟩
  · have hb:=hB'.get i B hg
    exact LB.sat_ag ha hb.1 rfl hb.2 (t.gd.sat i B hi hg)
  · have hb:=hB'.get i B hg
    have hc:=hB'.get j C hk
    exact t.gd.inj i j B C hi hj hg hk (by rw [←ha.ρ i hb.1,←ha.ρ j hc.1];exact he)
  · obtain ⟨B,hg⟩:=Option.isSome_iff_exists.1 hs
    rw [ha.ρ i (hB'.get i B hg).1]
    exact t.nw i hi hs
structure SW (N n:Nat) (sl:Tr LV):Prop where
  bd:SB n sl
  lt:∀i v,sl.get i=some v→i<N
structure SlO (N:Nat) (e:En) (sl:Tr LV) (a:Act) (o:Oper):Prop where
  size:a.tmps.size=N
  get:∀t v,Operand.tmp t∈o.op.operands→sl.get t=some v→a.tmps[t]?=some (v.val e)
theorem SlT.o {N:Nat} {e:En} {sl:Tr LV} {a:Act} (h:SlT N e sl a) (o:Oper):SlO N e sl a o:=⟨h.size,fun t v _ hg=>h.get t v hg⟩
def actE (N:Nat) (e:En) (sl:Tr LV) (a:Act):Act:={a with tmps:=Array.ofFn (n:=N) fun i=>match sl.get i with
  |some v=>v.val e
  |none=>a.tmps.getD i undef}
theorem actE_ok {N n:Nat} {sl:Tr LV} (hS:SW N n sl) (e:En) (a:Act):SlT N e sl (actE N e sl a):=by
  refine ⟨by simp [actE],fun i v hi=>?_⟩
  have hlt:=hS.lt i v hi
  simp [actE,hlt,hi]
theorem actE_eval {N:Nat} {e:En} {sl:Tr LV} {a:Act} {o:Oper} (h:SlO N e sl a o) (hs:∀cs b,o.op≠.select cs b):execOp (actE N e sl a).eval o=execOp a.eval o:=by
  refine execOp_congr o hs fun x hx=>?_
  cases x with
  | tmp t=>
    simp only [Act.eval,actE]
    by_cases ht:t<N
    · cases hg:sl.get t with
      |none=>simp [ht,hg]
      | some v=>
        have:=h.get t v hx hg
        simp [ht,hg,this]
    · have hsz:=h.size
      simp [ht,hsz]
  |const c=>rfl
  |global g=>rfl
  |func f=>rfl
section
variable {P:Program} {X:Ctx} {N:Nat} {sl:Tr LV} {h:Tr LB} {n:Nat}
def GdF (e:En) (n f:Nat) (h:Tr LB) (w:World):Prop:=Gd e (fun i=>i<n∧bt f i) h w
def Upd (q:R1) (h:Tr LB) (n:Nat) (w:World) (G:En→Prop) (w':World) (C:En→Prop):Prop:=
  ∃δ:En,∀e,G e→Tk h n q.fp q.wm q.h q.n e w (e.ext n δ) w'∧C (e.ext n δ)
def GoO (N:Nat) (sl:Tr LV) (h:Tr LB) (n f:Nat) (o:Oper) (w:World) (a:Act) (e:En):Prop:=SlO N e sl a o∧GdF e n f h w
structure OpU (P:Program) (N:Nat) (sl:Tr LV) (h:Tr LB) (n:Nat) (o:Oper) (q:R1):Prop where
  dd:Dd h n q.fp q.wm q.h q.n
  bd:∀v,q.v=some v→v.bd q.n
  run:∀w a,(∃e,GoO N sl h n q.fp o w a e)→
    (∃nx w',(execOp a.eval o).run P w= .ok nx w'∧Upd q h n w (GoO N sl h n q.fp o w a) w' fun e'=>nx=match q.v with|some v=>.value (v.val e')|none=>.skip)∨
    (∃k vs,(execOp a.eval o).run P w= .ok (.enter k vs) w∧Ret P k vs w fun u w'=>Upd q h n w (GoO N sl h n q.fp o w a) w' fun e'=>∃v,q.v=some v∧u=v.val e')
theorem opU_of_does {o:Oper} {q:R1} (hB:HB n h) (hS:SW N n sl) (hs:∀cs b,o.op≠.select cs b) (hd:Does P N sl h n o q):OpU P N sl h n o q:=by
  obtain ⟨d1,d2,d3⟩:=hd
  refine ⟨d1,d2,fun w a ⟨e0,ho0,hg0⟩=>.inl ?_⟩
  obtain ⟨e0',w',hn0,ht0,hr0⟩:=d3 e0 w (actE N e0 sl a) (actE_ok hS e0 a) hg0
  rw [actE_eval ho0 hs] at hr0
  refine ⟨_,w',hr0,e0',fun e he=>?_⟩
  obtain ⟨ho,hg⟩:=he
  obtain ⟨e',w'',hn,ht,hr⟩:=d3 e w (actE N e sl a) (actE_ok hS e a) hg
  rw [actE_eval ho hs,hr0] at hr
  simp only [Result.ok.injEq] at hr
  obtain ⟨hv,rfl⟩:=hr
  have ha : Ag q.n e' (e.ext n e0'):=by
    rcases hn with ⟨h1,rfl⟩| ⟨h1,r,κ,rfl,h2⟩
    · rw [h1];exact En.ext_ag _ _ _
    · rcases hn0 with ⟨h3,_⟩| ⟨_,r0,κ0,rfl,h4⟩
      · omega
      · have hrk:r=r0∧κ=κ0:=by
          by_cases hU:∃m,q.v=some (.L n 0 m (.U 0))
          · obtain ⟨m,hm⟩:=hU
            rw [hm] at hv
            simp only [LV.val,Cp.val,En.add_ρ,En.add_κ,Next.value.injEq,Value.slice.injEq,Option.some.injEq,Addr.mk.injEq,Nat.sub_zero] at hv
            exact ⟨hv.1.1.symm,hv.2.2.symm⟩
          · have h5:=h2.resolve_right hU
            have h6:=h4.resolve_right hU
            exact ⟨h5.1.trans h6.1.symm,h5.2.trans h6.2.symm⟩
        obtain ⟨rfl,rfl⟩:=hrk
        rw [h1]
        have h7:=En.add_ag e n r κ
        refine ⟨fun i hi=>?_,fun i hi=>?_⟩
        · by_cases hin:i<n
          · rw [(En.ext_ag e n _).ρ i hin,h7.ρ i hin]
          · obtain rfl:i=n:=by omega
            simp only [En.ext,if_neg hin,En.add_ρ]
        · by_cases hin:i<n
          · rw [(En.ext_ag e n _).κ i hin,h7.κ i hin]
          · obtain rfl:i=n:=by omega
            simp only [En.ext,if_neg hin,En.add_κ]
  refine ⟨ht.re d1 hB ha,?_⟩
  rw [hv]
  cases hq:q.v with
  |none=>rfl
  |some v=>simp only;rw [LV.val_ag ha v (d2 v hq)]
theorem putS_ok {d:Option Nat} {v:Option LV} {sl':Tr LV} {e:En} {a:Act} {u:Value} (hN:N≤4096) (hq:putS N sl d v=some sl') (hA:SlT N e sl a) (hv:∀x,v=some x→u=x.val e):SlT N e sl' (a.put d u):=by
  unfold putS at hq
  cases d with
  |none=>cases hq;exact hA
  | some d=>
    obtain ⟨h1,h2⟩:=ck_some hq
    rw [blt_eq] at h1
    have h1:=dTr h1
    have ht:d<top:=by unfold top;omega
    cases h2
    cases v with
    |none=>exact hA.forget ht u
    |some x=>rw [hv x rfl];exact hA.put h1 ht x
theorem putS_sw {m:Nat} {d:Option Nat} {v:Option LV} {sl':Tr LV} (hN:N≤4096) (hq:putS N sl d v=some sl') (hS:SW N n sl) (hm:n≤m) (hv:∀x,v=some x→x.bd m):SW N m sl':=by
  unfold putS at hq
  cases d with
  |none=>cases hq;exact ⟨hS.bd.mono hm,hS.lt⟩
  | some d=>
    obtain ⟨h1,h2⟩:=ck_some hq
    rw [blt_eq] at h1
    have h1:=dTr h1
    have ht:d<top:=by unfold top;omega
    cases h2
    have lt:∀i u,(sl.set 21 d v).get i=some u→i<N:=by
      intro i u hi
      rw [Tr.get_put sl i _ ht] at hi
      by_cases hid:i=d
      · omega
      · rw [if_neg hid] at hi;exact hS.lt i u hi
    cases v with
    |none=>exact ⟨(hS.bd.mono hm).forget ht,lt⟩
    |some x=>exact ⟨(hS.bd.mono hm).put ht (hv x rfl),lt⟩
end
def U (N:Nat) (h:Tr LB) (n f m:Nat) (h':Tr LB) (n':Nat) (sl sl':Tr LV) (a:Act) (w:World) (a':Act) (w':World):Prop:=
  ∃δ:En,∀e,SlT N e sl a→GdF e n f h w→Tk h n f m h' n' e w (e.ext n δ) w'∧SlT N (e.ext n δ) sl' a'
section
variable {P:Program} {X:Ctx} {N:Nat} {sl sl1 sl2:Tr LV} {h h1 h2:Tr LB} {n n1 n2 f1 f2 m1 m2:Nat} {a a1 a2:Act} {w w1 w2:World}
theorem gdF_left {e:En} (g:GdF e n (f1 ||| f2) h w):GdF e n f1 h w:=g.sub fun i hi=>⟨hi.1,(bt_or _ _ _).2 (.inl hi.2)⟩
theorem U.next {e:En} (hB:HB n h) (d1:Dd h n f1 m1 h1 n1) (d2:Dd h1 n1 f2 m2 h2 n2) {δ:En} (hu:∀e,SlT N e sl a→GdF e n f1 h w→Tk h n f1 m1 h1 n1 e w (e.ext n δ) w1∧SlT N (e.ext n δ) sl1 a1)
    (hA:SlT N e sl a) (hg:GdF e n (f1 ||| f2) h w):SlT N (e.ext n δ) sl1 a1∧GdF (e.ext n δ) n1 f2 h1 w1:=by
  obtain ⟨t,hA1⟩:=hu e hA (gdF_left hg)
  exact ⟨hA1,(t.trans hB d1 d2 hg).1⟩
theorem U.trans (hB:HB n h) (d1:Dd h n f1 m1 h1 n1) (d2:Dd h1 n1 f2 m2 h2 n2) (u1:U N h n f1 m1 h1 n1 sl sl1 a w a1 w1) (u2:U N h1 n1 f2 m2 h2 n2 sl1 sl2 a1 w1 a2 w2) :
    U N h n (f1 ||| f2) (m1 ||| m2) h2 n2 sl sl2 a w a2 w2:=by
  obtain ⟨δ,hu⟩:=u1
  obtain ⟨δ2,hu2⟩:=u2
  refine ⟨δ.ext n1 δ2,fun e hA hg=>?_⟩
  obtain ⟨hA1,hg1⟩:=U.next hB d1 d2 hu hA hg
  obtain ⟨t2,hA2⟩:=hu2 _ hA1 hg1
  rw [En.ext_ext e δ δ2 d1.nn] at t2 hA2
  obtain ⟨t,_⟩:=hu e hA (gdF_left hg)
  exact ⟨(t.trans hB d1 d2 hg).2 _ _ t2,hA2⟩
theorem U.good (hB:HB n h) (d1:Dd h n f1 m1 h1 n1) (d2:Dd h1 n1 f2 m2 h2 n2) (u1:U N h n f1 m1 h1 n1 sl sl1 a w a1 w1) (hG:∃e,SlT N e sl a∧GdF e n (f1 ||| f2) h w):∃e,SlT N e sl1 a1∧GdF e n1 f2 h1 w1:=by
  obtain ⟨δ,hu⟩:=u1
  obtain ⟨e,hA,hg⟩:=hG
  exact ⟨_,U.next hB d1 d2 hu hA hg⟩
theorem U.refl (hB:HB n h) (hS:SW N n sl):U N h n 0 0 h n sl sl a w a w:=⟨⟨id,id⟩,fun e hA hg=>⟨(Tk.refl hB).re (Dd.refl h n) hB (En.ext_ag _ _ _),hA.ag hS.bd (En.ext_ag _ _ _)⟩⟩
theorem put_defers (a:Act) (d:Option Nat) (v:Value):(a.put d v).defers=a.defers:=by cases d<;>rfl
theorem OpU.wp0 {o:Oper} {q:R1} (ho:OpU P N sl h n o q) (hG:∃e,GoO N sl h n q.fp o w a e) {K:Act→World→Prop} {Q:Exit→Act→World→Prop}
    (k:∀u w',(Upd q h n w (GoO N sl h n q.fp o w a) w' fun e'=>∀x,q.v=some x→u=x.val e')→K (a.put o.dst u) w'):o.wp P a w K Q:=by
  rcases ho.run w a hG with ⟨nx,w',hr,δ,hU⟩| ⟨f,vs,hr,hret⟩
  · obtain ⟨e0,hG0⟩:=hG
    unfold Oper.wp
    rw [hr]
    have h0:=(hU e0 hG0).2
    cases hq:q.v with
    | none=>
      rw [hq] at h0
      simp only at h0
      subst h0
      rw [Oper.upon_skip]
      exact k _ _ ⟨δ,fun e he=>⟨(hU e he).1,fun x hx=>by rw [hq] at hx;cases hx⟩⟩
    | some v=>
      rw [hq] at h0
      simp only at h0
      subst h0
      rw [Oper.upon_value]
      refine k _ _ ⟨δ,fun e he=>⟨(hU e he).1,fun x hx=>?_⟩⟩
      have h1:=(hU e he).2
      rw [hq] at hx h1
      cases hx
      exact Next.value.inj h1
  · unfold Oper.wp
    rw [hr,Oper.upon_enter]
    refine Calls.mono hret fun en w' ⟨u,he,δ,hU⟩=>?_
    subst he
    refine k _ _ ⟨δ,fun e he=>?_⟩
    obtain ⟨t,v,hv,rfl⟩:=hU e he
    exact ⟨t,fun x hx=>by rw [hv] at hx;cases hx;rfl⟩
theorem OpU.wp {o:Oper} {q:R1} {sl':Tr LV} (ho:OpU P N sl h n o q) (hN:N≤4096) (hS:SW N n sl) (hp:putS N sl o.dst q.v=some sl') (hG:∃e,SlT N e sl a∧GdF e n q.fp h w) {K:Act→World→Prop} {Q:Exit→Act→World→Prop}
    (k:∀a' w',a'.defers=a.defers→U N h n q.fp q.wm q.h q.n sl sl' a w a' w'→K a' w'):o.wp P a w K Q:=by
  refine ho.wp0 (hG.imp fun e he=>⟨he.1.o o,he.2⟩) fun u w' ⟨δ,hU⟩=>k _ _ (put_defers _ _ _) ⟨δ,fun e hA hg=>?_⟩
  obtain ⟨t,hv⟩:=hU e ⟨hA.o o,hg⟩
  exact ⟨t,putS_ok hN hp (hA.ag hS.bd (En.ext_ag _ _ _)) hv⟩
theorem wanted_ok {e:En} {ops:Array Oper} {o:Oper} {b:Bool} (hA:∀g c d v,o.guard=some (g,c)→(ops[g]?).bind (·.dst)=some d→sl.get d=some v→a.tmps[d]?=some (v.val e)) (hq:wanted ops sl o.guard=some b):Region.wanted o (yielded ops a.tmps)=b:=by
  unfold Region.wanted
  unfold wanted at hq
  cases hgo:o.guard with
  |none=>rw [hgo] at hq;simpa using hq
  | some p=>
    obtain ⟨j,want⟩:=p
    rw [hgo] at hq
    simp only at hq ⊢
    unfold yielded
    cases hd:(ops[j]?).bind (·.dst) with
    |none=>rw [hd] at hq;cases hq
    | some d=>
      rw [hd] at hq
      simp only at hq
      simp only [Option.bind_some]
      cases hl:sl.get d with
      |none=>rw [hl] at hq;simp at hq
      | some v=>
        rw [hl] at hq
        rw [hA j want d v hgo hd hl]
        cases v<;>simp at hq
        · rw [LV.val]
          simpa using hq
        · rw [LV.val]
          subst hq
          rfl
variable {ih:Task→Tr LB→Nat→Option Rs}
theorem runL_ok {ops:Array Oper} (hN:N≤4096) (hop:∀sl h n (o:Oper) q,opA X ih sl h n o.op=some q→HB n h→SW N n sl→OpU P N sl h n o q) :
    ∀(l:List Oper) (sl:Tr LV) (h:Tr LB) (n fp wm:Nat) (r:Rs),runL X ih N ops l sl h n fp wm=some r→HB n h→SW N n sl→
    ∃ f m,r.fp=fp ||| f∧r.wm=wm ||| m∧r.e= .n∧Dd h n f m r.h r.n∧SW N r.n r.sl∧∀a w,(∃e,SlT N e sl a∧GdF e n f h w)→∀Q:Exit→Act→World→Prop,
      (∀a' w',a'.defers=a.defers→U N h n f m r.h r.n sl r.sl a w a' w'→Q .normal a' w')→wpList P ops Q l a w
  | [],sl,h,n,fp,wm,r,hq,hB,hS=>by
    simp only [runL] at hq
    cases hq
    refine ⟨0,0,(Nat.or_zero _).symm,(Nat.or_zero _).symm,rfl,Dd.refl h n,hS,fun a w hG Q k=>?_⟩
    exact wpList_nil (k a w rfl (U.refl hB hS))
  | o :: l, sl,h,n,fp,wm,r,hq,hB,hS=>by
    simp only [runL] at hq
    split at hq
    · rename_i hw
      split at hq
      · rename_i q ho
        split at hq
        · rename_i sl' hp
          have hforce:(Nat.ble 0 (fp ||| q.fp) && Nat.ble 0 (wm ||| q.wm) && Nat.ble 0 q.n)=true:=by simp
          rw [hforce,cond_true] at hq
          have hO:=hop sl h n o q ho hB hS
          have hB1:=hO.dd.hb hB
          have hS1:=putS_sw hN hp hS hO.dd.nn fun x hx=>hO.bd x hx
          obtain ⟨f,m,h1,h2,h3,hd,hS2,hrun⟩:=runL_ok hN hop l sl' q.h q.n _ _ r hq hB1 hS1
          refine ⟨q.fp ||| f,q.wm ||| m,by rw [h1,Nat.or_assoc],by rw [h2,Nat.or_assoc],h3,hO.dd.trans hd,hS2,fun a w hG Q k=>?_⟩
          refine wpList_step fun K hK=>?_
          have hwt:Region.wanted o (yielded ops a.tmps)=true:=by
            obtain ⟨e,hA,_⟩:=hG
            exact wanted_ok (e:=e) (fun g c d v _ _ hg=>hA.get d v hg) hw
          rw [if_pos hwt]
          refine hO.wp hN hS hp (hG.imp fun e he=>⟨he.1,gdF_left he.2⟩) fun a' w' hdf hu=>hK _ _ ?_
          exact hrun a' w' (U.good hB hO.dd hd hu hG) Q fun a'' w'' hdf2 hu2=>k a'' w'' (hdf2.trans hdf) (U.trans hB hO.dd hd hu hu2)
        · cases hq
      · cases hq
    · rename_i hw
      split at hq
      · rename_i sl' hp
        have hS1:=putS_sw hN hp hS (Nat.le_refl n) fun x hx=>by cases hx;exact trivial
        obtain ⟨f,m,h1,h2,h3,hd,hS2,hrun⟩:=runL_ok hN hop l sl' h n _ _ r hq hB hS1
        refine ⟨f,m,h1,h2,h3,hd,hS2,fun a w hG Q k=>?_⟩
        refine wpList_step fun K hK=>?_
        have hwt:Region.wanted o (yielded ops a.tmps)=false:=by
          obtain ⟨e,hA,_⟩:=hG
          exact wanted_ok (e:=e) (fun g c d v _ _ hg=>hA.get d v hg) hw
        rw [if_neg (by rw [hwt];exact Bool.false_ne_true)]
        refine hK _ _ (hrun _ w (hG.imp fun e he=>⟨putS_ok hN hp he.1 (fun x hx=>by cases hx;rfl),he.2⟩) Q fun a'' w'' hdf2 hu2=>k a'' w'' (hdf2.trans (put_defers _ _ _)) ?_)
        obtain ⟨δ,hu⟩:=hu2
        exact ⟨δ,fun e hA hg=>hu e (putS_ok hN hp hA (fun x hx=>by cases hx;rfl)) hg⟩
      · cases hq
    · cases hq
end
def noSel (o:Oper):Bool:=match o.op with
  | .select _ _=>false
  |_=>true
def dstNe (p o:Oper):Bool:=match p.dst,o.dst with
  |some x,some y=>!Nat.beq x y
  |_,_=>true
def prevOk (ops:Array Oper) (o:Oper) (b:Nat):List Oper→Nat→Bool
  | [],_=>true
  |p::r,k=>(p.apart ops o || (Nat.testBit b (k - 1) && dstNe p o)) && prevOk ops o b r (k - 1)
def regL (ops:Array Oper):List Oper→Nat→List Nat→List Oper→Bool
  | [],_,_,_=>true
  |o::r,i,bs,prev=>noSel o && o.after.toList.all (fun e=>!Region.binds .any e || Nat.blt e.on i) && prevOk ops o (before bs o.after.toList) prev i && regL ops r (i+1) (before bs o.after.toList::bs) (o::prev)
def regOk (ops:Array Oper):Bool:=regL ops ops.toList 0 [] []
theorem noSel_ok {o:Oper} (h:noSel o=true) (cs:Array SelectCase) (b:Bool):o.op≠.select cs b:=fun e=>by
  unfold noSel at h
  rw [e] at h
  cases h
def revB (ops:Array Oper):Nat→List Nat
  |0=>[]
  |k+1=>before (revB ops k) ((ops[k]?.map (·.after.toList)).getD [])::revB ops k
def Bk (ops:Array Oper) (k:Nat):Nat:=before (revB ops k) ((ops[k]?.map (·.after.toList)).getD [])
theorem revB_len (ops:Array Oper):∀k,(revB ops k).length=k
  |0=>rfl
  |k+1=>by rw [revB,List.length_cons,revB_len ops k]
theorem revB_get (ops:Array Oper):∀k j,j<k→(revB ops k).getD (k - 1 - j) 0=Bk ops j
  |0,j,h=>by omega
  | k +1,j,h=>by
    by_cases hj:j=k
    · subst hj
      rw [show j+1 - 1 - j=0 by omega]
      rfl
    · rw [show k+1 - 1 - j=(k - 1 - j)+1 by omega,revB,List.getD_cons_succ]
      exact revB_get ops k j (by omega)
theorem before_bit {bs:List Nat} {j:Nat}:∀{es:List Edge} {m:Nat},Nat.testBit (es.foldl (fun m e=>bif Region.binds .any e then m ||| bitM e.on ||| (bs.getD (bs.length - 1 - e.on) 0) else m) m) j=true→
    Nat.testBit m j=true∨∃e∈es,Region.binds .any e=true∧(j=e.on∨Nat.testBit (bs.getD (bs.length - 1 - e.on) 0) j=true)
  | [],m,h=>.inl h
  | e ::es,m,h=>by
    rw [List.foldl_cons] at h
    rcases before_bit h with h1| ⟨e',h2,h3⟩
    · cases hb:Region.binds .any e with
      |false=>rw [hb,cond_false] at h1;exact .inl h1
      | true=>
        rw [hb,cond_true,Nat.testBit_or,Nat.testBit_or,Bool.or_eq_true,Bool.or_eq_true] at h1
        rcases h1 with (h1|h1)|h1
        · exact .inl h1
        · exact .inr ⟨e,.head _,hb,.inl ((bt_bitM e.on j).1 h1)⟩
        · exact .inr ⟨e,.head _,hb,.inr h1⟩
    · exact .inr ⟨e',.tail _ h2,h3⟩
structure RegS (ops:Array Oper):Prop where
  sel:∀(k:Nat) (o:Oper),ops[k]?=some o→∀cs b,o.op≠.select cs b
  on:∀(k:Nat) (o:Oper),ops[k]?=some o→∀e∈o.after,Region.binds .any e=true→e.on<k
  ord:∀(j k:Nat) (p o:Oper),j<k→ops[j]?=some p→ops[k]?=some o→p.apart ops o=true∨(Nat.testBit (Bk ops k) j=true∧∀x,p.dst=some x→o.dst≠some x)
theorem prevOk_ok {ops:Array Oper} {o:Oper} {b:Nat}:∀(k:Nat) (prev:List Oper),prev.length=k→(∀j p,j<k→ops[j]?=some p→prev[k - 1 - j]?=some p)→prevOk ops o b prev k=true→
    ∀j p,j<k→ops[j]?=some p→p.apart ops o=true∨(Nat.testBit b j=true∧∀x,p.dst=some x→o.dst≠some x)
  |0,prev,hl,hp,h,j,p,hj,hg=>by omega
  |k+1,[],hl,hp,h,j,p,hj,hg=>by cases hl
  | k + 1,q::prev,hl,hp,h,j,p,hj,hg=>by
    simp only [prevOk,Nat.add_sub_cancel] at h
    obtain ⟨h1,h2⟩:=(Bool.and_eq_true _ _).mp h
    by_cases hjk:j=k
    · subst hjk
      have:=hp j p hj hg
      rw [show j+1 - 1 - j=0 by omega,List.getElem?_cons_zero] at this
      cases this
      rcases (Bool.or_eq_true _ _).mp h1 with h3|h3
      · exact .inl h3
      · obtain ⟨h3,h4⟩:=(Bool.and_eq_true _ _).mp h3
        refine .inr ⟨h3,fun x hx hy=>?_⟩
        unfold dstNe at h4
        rw [hx,hy] at h4
        simp at h4
    · refine prevOk_ok k prev (by simpa using hl) (fun j' p' hj' hg'=>?_) h2 j p (by omega) hg
      have:=hp j' p' (by omega) hg'
      rw [show k+1 - 1 - j'=(k - 1 - j')+1 by omega,List.getElem?_cons_succ] at this
      exact this
theorem regL_ok {ops:Array Oper}:∀(l:List Oper) (i:Nat) (prev:List Oper),ops.toList.drop i=l→prev.length=i→(∀j p,j<i→ops[j]?=some p→prev[i - 1 - j]?=some p)→regL ops l i (revB ops i) prev=true→
    ∀k,i≤k→∀o,ops[k]?=some o→noSel o=true∧(∀e∈o.after,Region.binds .any e=true→e.on<k)∧∀j p,j<k→ops[j]?=some p→p.apart ops o=true∨(Nat.testBit (Bk ops k) j=true∧∀x,p.dst=some x→o.dst≠some x)
  | [],i,prev,hd,hl,hp,h,k,hk,o,hg=>by
    have hlt:k<ops.size:=(Array.getElem?_eq_some_iff.1 hg).1
    have:=List.drop_eq_nil_iff.1 hd
    rw [Array.length_toList] at this
    omega
  | q :: l,i,prev,hd,hl,hp,h,k,hk,o,hg=>by
    simp only [regL] at h
    obtain ⟨h,h4⟩:=(Bool.and_eq_true _ _).mp h
    obtain ⟨h,h3⟩:=(Bool.and_eq_true _ _).mp h
    obtain ⟨h1,h2⟩:=(Bool.and_eq_true _ _).mp h
    have hq:ops[i]?=some q:=by
      rw [←Array.getElem?_toList]
      have:(ops.toList.drop i)[0]?=some q:=by rw [hd];rfl
      simpa using this
    have hB:before (revB ops i) q.after.toList=Bk ops i:=by unfold Bk;rw [hq];rfl
    by_cases hki:k=i
    · subst hki
      rw [hq] at hg
      cases hg
      refine ⟨h1,fun e he hb=>?_,?_⟩
      · have:=List.all_eq_true.1 h2 e (Array.mem_toList_iff.2 he)
        rw [hb] at this
        rw [blt_eq] at this
        simpa using this
      · rw [hB] at h3
        exact prevOk_ok k prev hl hp h3
    · refine regL_ok l (i+1) (q::prev) ?_ (by rw [List.length_cons,hl]) (fun j p hj hgj=>?_) ?_ k (by omega) o hg
      · rw [←List.drop_drop,hd];rfl
      · by_cases hji:j=i
        · subst hji
          rw [hq] at hgj
          cases hgj
          rw [show j+1 - 1 - j=0 by omega]
          rfl
        · rw [show i+1 - 1 - j=(i - 1 - j)+1 by omega,List.getElem?_cons_succ]
          exact hp j p (by omega) hgj
      · rw [revB,hq]
        exact h4
theorem regOk_ok {ops:Array Oper} (h:regOk ops=true):RegS ops:=by
  have:=regL_ok (ops:=ops) ops.toList 0 [] rfl rfl (fun j p hj=>by omega) h
  exact ⟨fun k o hg cs b=>noSel_ok (this k (Nat.zero_le k) o hg).1 cs b,fun k o hg=>(this k (Nat.zero_le k) o hg).2.1,fun j k p o hj hp hg=>(this k (Nat.zero_le k) o hg).2.2 j p hj hp⟩
structure Sn where
  sl:Tr LV
  h:Tr LB
  n:Nat
section
variable (X:Ctx) (ih:Task→Tr LB→Nat→Option Rs) (N:Nat) (ops:Array Oper)
def one (o:Oper) (s:Sn):Option (R1 × Tr LV):=
  match wanted ops s.sl o.guard with
  | some true=>match opA X ih s.sl s.h s.n o.op with
    | some q=>match putS N s.sl o.dst q.v with
      |some sl'=>some (q,sl')
      |none=>none
    |none=>none
  | some false=>match putS N s.sl o.dst (some (.T [])) with
    |some sl'=>some (⟨some (.T []),s.h,s.n,0,0⟩,sl')
    |none=>none
  |none=>none
variable (s0:Sn)
def Sk:Nat→Sn
  |0=>s0
  | k +1=>match ops[k]? with
    | some o=>match one X ih N ops o (Sk k) with
      |some p=>⟨p.2,p.1.h,p.1.n⟩
      |none=>Sk k
    |none=>Sk k
def Qk (k:Nat):R1:=match ops[k]? with
  | some o=>match one X ih N ops o (Sk X ih N ops s0 k) with
    |some p=>p.1
    |none=>⟨none,.e,0,0,0⟩
  |none=>⟨none,.e,0,0,0⟩
def isI (ops:Array Oper) (k:Nat):Bool:=match ops[k]? with
  |some o=>isIns o.op
  |none=>false
def fk (k:Nat):Nat × Nat × Bool:=((Qk X ih N ops s0 k).fp ||| newM (Sk X ih N ops s0 k).n (Qk X ih N ops s0 k).n,(Qk X ih N ops s0 k).wm ||| newM (Sk X ih N ops s0 k).n (Qk X ih N ops s0 k).n,isI ops k)
def revF:Nat→List (Nat × Nat × Bool)
  |0=>[]
  |k+1=>fk X ih N ops s0 k::revF k
end
theorem clash_ok {X:Ctx} {ih:Task→Tr LB→Nat→Option Rs} {N:Nat} {ops:Array Oper} {s0:Sn} {f w b:Nat} {g:Bool}:∀k,clash f w g b (revF X ih N ops s0 k) k=false→∀j,j<k→Nat.testBit b j=true∨((f &&& (fk X ih N ops s0 j).2.1) ||| (w &&& (fk X ih N ops s0 j).1))=0∨(g=true∧isI ops j=true)
  |0,h,j,hj=>by omega
  | k + 1,h,j,hj=>by
    rw [revF] at h
    have h':((bif Nat.beq ((f &&& (fk X ih N ops s0 k).2.1) ||| (w &&& (fk X ih N ops s0 k).1)) 0 || (g && isI ops k) then false else !(Nat.testBit b k)) || clash f w g b (revF X ih N ops s0 k) k)=false:=h
    obtain ⟨h1,h2⟩:=Bool.or_eq_false_iff.1 h'
    by_cases hjk:j=k
    · subst hjk
      cases hc:Nat.beq ((f &&& (fk X ih N ops s0 j).2.1) ||| (w &&& (fk X ih N ops s0 j).1)) 0 with
      |true=>exact .inr (.inl (Nat.eq_of_beq_eq_true hc))
      | false=>
        rw [hc,Bool.false_or] at h1
        cases hg:(g && isI ops j) with
        |true=>exact .inr (.inr ((Bool.and_eq_true _ _).mp hg))
        | false=>
          rw [hg,cond_false] at h1
          simp at h1
          exact .inl h1
    · exact clash_ok k h2 j (by omega)
theorem and_or_zero {f w f' w' x:Nat} (h:((f &&& w') ||| (w &&& f'))=0):¬(bt f x∧bt w' x)∧¬(bt w x∧bt f' x):=by
  have h1:((f &&& w') ||| (w &&& f')).testBit x=false:=by rw [h,Nat.zero_testBit]
  rw [Nat.testBit_or,Nat.testBit_and,Nat.testBit_and,Bool.or_eq_false_iff] at h1
  obtain ⟨h2,h3⟩:=h1
  unfold bt
  constructor<;>rintro ⟨h4,h5⟩<;>simp_all
theorem newM_self (n:Nat):newM n n=0:=by unfold newM;exact Nat.sub_self _
theorem newM_bt {n m x:Nat} (h1:n≤x) (h2:x<m):bt (newM n m) x:=by
  unfold bt newM
  have e1:Nat.shiftLeft 1 m=2 ^ m:=Nat.one_shiftLeft m
  have e2:Nat.shiftLeft 1 n=2 ^ n:=Nat.one_shiftLeft n
  rw [e1,e2]
  have e3:Nat.sub (2 ^ m) (2 ^ n)=2 ^ n* (2 ^ (m - n) - 1):=by
    rw [Nat.mul_sub,←Nat.pow_add,Nat.mul_one,show n+(m - n)=m by omega]
    rfl
  rw [e3,Nat.testBit_two_pow_mul]
  simp
  exact ⟨h1,by omega⟩
section
variable {X:Ctx} {ih:Task→Tr LB→Nat→Option Rs} {N:Nat} {ops:Array Oper} {s0:Sn}
def OkAt (X:Ctx) (ih:Task→Tr LB→Nat→Option Rs) (N:Nat) (ops:Array Oper) (s0:Sn) (k:Nat):Prop:=
  ∃ o,ops[k]?=some o∧one X ih N ops o (Sk X ih N ops s0 k)=some (Qk X ih N ops s0 k,(Sk X ih N ops s0 (k+1)).sl)∧(Sk X ih N ops s0 (k+1)).h=(Qk X ih N ops s0 k).h∧(Sk X ih N ops s0 (k+1)).n=(Qk X ih N ops s0 k).n∧
    clash (fk X ih N ops s0 k).1 (fk X ih N ops s0 k).2.1 (isI ops k) (Bk ops k) (revF X ih N ops s0 k) k=false
def TrR (X:Ctx) (ih:Task→Tr LB→Nat→Option Rs) (N:Nat) (ops:Array Oper) (s0:Sn) (i m fp wm:Nat) (r:Rs):Prop:=
  (∀k,i≤k→k<ops.size→OkAt X ih N ops s0 k)∧r.e= .n∧r.sl=(Sk X ih N ops s0 m).sl∧r.h=(Sk X ih N ops s0 m).h∧r.n=(Sk X ih N ops s0 m).n∧
    ∃f g,r.fp=fp ||| f∧r.wm=wm ||| g∧(∀x,bt f x↔∃k,i≤k∧k<m∧bt (Qk X ih N ops s0 k).fp x)∧(∀x,bt g x↔∃k,i≤k∧k<m∧bt (Qk X ih N ops s0 k).wm x)
theorem runD_tr:∀(l:List Oper) (i fp wm:Nat) (r:Rs),ops.toList.drop i=l→
    runD X ih N ops l i (revB ops i) (revF X ih N ops s0 i) (Sk X ih N ops s0 i).sl (Sk X ih N ops s0 i).h (Sk X ih N ops s0 i).n fp wm=some r→
    TrR X ih N ops s0 i (i+l.length) fp wm r
  | [],i,fp,wm,r,hd,hq=>by
    simp only [runD] at hq
    cases hq
    have hle:=List.drop_eq_nil_iff.1 hd
    rw [Array.length_toList] at hle
    refine ⟨fun k h1 h2=>by omega,rfl,rfl,rfl,rfl,0,0,(Nat.or_zero _).symm,(Nat.or_zero _).symm,fun x=>⟨fun h=>absurd h (bt_zero x),fun ⟨k,h1,h2,_⟩=>by simp only [List.length_nil] at h2;omega⟩,fun x=>⟨fun h=>absurd h (bt_zero x),fun ⟨k,h1,h2,_⟩=>by simp only [List.length_nil] at h2;omega⟩⟩
  | o :: l, i,fp,wm,r,hd,hq=>by
    have ho:ops[i]?=some o:=by
      rw [←Array.getElem?_toList]
      have:(ops.toList.drop i)[0]?=some o:=by rw [hd];rfl
      simpa using this
    have hd':ops.toList.drop (i+1)=l:=by rw [←List.drop_drop,hd];rfl
    have hB:before (revB ops i) o.after.toList=Bk ops i:=by unfold Bk;rw [ho];rfl
    have hrB:revB ops (i+1)=Bk ops i::revB ops i:=rfl
    have main:∀(q:R1) (sl':Tr LV) (fp' wm':Nat),one X ih N ops o (Sk X ih N ops s0 i)=some (q,sl')→fp'=fp ||| q.fp→wm'=wm ||| q.wm→
        clash (q.fp ||| newM (Sk X ih N ops s0 i).n q.n) (q.wm ||| newM (Sk X ih N ops s0 i).n q.n) (isIns o.op) (Bk ops i) (revF X ih N ops s0 i) i=false→
        runD X ih N ops l (i+1) (Bk ops i::revB ops i) ((q.fp ||| newM (Sk X ih N ops s0 i).n q.n,q.wm ||| newM (Sk X ih N ops s0 i).n q.n,isIns o.op)::revF X ih N ops s0 i) sl' q.h q.n fp' wm'=some r→TrR X ih N ops s0 i (i+(o::l).length) fp wm r:=by
      intro q sl' fp' wm' h1 hf hw hc hr
      have hQ:Qk X ih N ops s0 i=q:=by unfold Qk;rw [ho];simp only [h1]
      have hS:Sk X ih N ops s0 (i+1)=⟨sl',q.h,q.n⟩:=by rw [Sk,ho];simp only [h1]
      have hfk:fk X ih N ops s0 i=(q.fp ||| newM (Sk X ih N ops s0 i).n q.n,q.wm ||| newM (Sk X ih N ops s0 i).n q.n,isIns o.op):=by unfold fk isI;rw [hQ,ho]
      have hr2:runD X ih N ops l (i+1) (revB ops (i+1)) (revF X ih N ops s0 (i+1)) (Sk X ih N ops s0 (i+1)).sl (Sk X ih N ops s0 (i+1)).h (Sk X ih N ops s0 (i+1)).n fp' wm'=some r:=by
        rw [hS,hrB,revF,hfk];exact hr
      obtain ⟨g1,g2,g3,g4,g5,f,m,g6,g7,g8,g9⟩:=runD_tr l (i+1) fp' wm' r hd' hr2
      have hl:i+1+l.length=i+(o::l).length:=by rw [List.length_cons];omega
      rw [hl] at g3 g4 g5 g8 g9
      refine ⟨fun k hk1 hk2=>?_,g2,g3,g4,g5,q.fp ||| f,q.wm ||| m,by rw [g6,hf,Nat.or_assoc],by rw [g7,hw,Nat.or_assoc],fun x=>?_,fun x=>?_⟩
      · by_cases hki:k=i
        · subst hki
          refine ⟨o,ho,by rw [h1,hQ,hS],by rw [hS,hQ],by rw [hS,hQ],?_⟩
          rw [hfk]
          unfold isI
          rw [ho]
          exact hc
        · exact g1 k (by omega) hk2
      · rw [bt_or,g8]
        constructor
        · rintro (h2| ⟨k,h2,h3,h4⟩)
          · exact ⟨i,Nat.le_refl i,by rw [List.length_cons];omega,by rw [hQ];exact h2⟩
          · exact ⟨k,by omega,h3,h4⟩
        · rintro ⟨k,h2,h3,h4⟩
          by_cases hki:k=i
          · subst hki;rw [hQ] at h4;exact .inl h4
          · exact .inr ⟨k,by omega,h3,h4⟩
      · rw [bt_or,g9]
        constructor
        · rintro (h2| ⟨k,h2,h3,h4⟩)
          · exact ⟨i,Nat.le_refl i,by rw [List.length_cons];omega,by rw [hQ];exact h2⟩
          · exact ⟨k,by omega,h3,h4⟩
        · rintro ⟨k,h2,h3,h4⟩
          by_cases hki:k=i
          · subst hki;rw [hQ] at h4;exact .inl h4
          · exact .inr ⟨k,by omega,h3,h4⟩
    simp only [runD] at hq
    rw [hB] at hq
    split at hq
    · rename_i hw
      split at hq
      · rename_i q hop
        split at hq
        · rename_i sl' hp
          cases hc:clash (q.fp ||| newM (Sk X ih N ops s0 i).n q.n) (q.wm ||| newM (Sk X ih N ops s0 i).n q.n) (isIns o.op) (Bk ops i) (revF X ih N ops s0 i) i with
          |true=>rw [hc,cond_true] at hq;cases hq
          | false=>
            rw [hc,cond_false] at hq
            exact main q sl' _ _ (by simp only [one,hw,hop,hp]) rfl rfl hc hq
        · cases hq
      · cases hq
    · rename_i hw
      split at hq
      · rename_i sl' hp
        have hz:∀(g:Bool) (b k:Nat) (L:List (Nat × Nat × Bool)),clash 0 0 g b L k=false:=by
          intro g b k L
          induction L generalizing k with
          |nil=>rfl
          | cons x L ihL=>
            obtain ⟨x1,x2,x3⟩:=x
            simp only [clash,Nat.zero_and,Nat.or_zero,ihL,Bool.or_false]
            rfl
        refine main ⟨some (.T []),(Sk X ih N ops s0 i).h,(Sk X ih N ops s0 i).n,0,0⟩ sl' fp wm (by simp only [one,hw,hp]) (Nat.or_zero _).symm (Nat.or_zero _).symm ?_ ?_
        · simp only [newM_self,Nat.or_zero]
          exact hz _ _ _ _
        · simp only [newM_self,Nat.or_zero]
          exact hq
      · cases hq
    · cases hq
end
end Go.Xc
