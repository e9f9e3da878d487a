/-
  ssa.May's check: a block, exactly. Conditions: none.
  anf.May's lists of names, exactly. Conditions: none.
  anf.May's check, at a body that returns a number, exactly. Conditions: none.
  Bodies as they lie in memory; anf.May's check as a function (plain). Conditions: none.
  anf.May's check: atoms, bind, unbind, exactly. Conditions: none.
  anf.May's check: unbind, step, shapes, exactly; what a body's contract is. Conditions: none.
-/
import Derived.Test.YtenlcdokaadobaaGreatDoorRowMakesMg2
set_option maxHeartbeats 64000000
set_option maxRecDepth 10000
namespace Go.Proofs.YtenlcdokaadobaaGreatDoor
open Go Go.Fw
set_option linter.unusedVariables false
theorem at_iff {g:Grs} {ks:List Int} {S:Int→Prop} {a:Atm} (hs:∀x,x∈ks↔S x):atOk g ks a↔atS g S a:=by
  unfold atOk atS
  rw [hs]
theorem at_of {g:Grs} {ks:List Int} {S:Int→Prop} {a:Atm} (hs:∀x,x∈ks↔S x) (h:atOk g ks a):atS g S a:=(at_iff hs).1 h
def Sk (k0:List Int) (x:Int):Prop:=x∈k0
def setA (ss:List (Option (Nat × List Int))) (n:Nat):List Int:=kso ((ss[n]?).getD none)
def isA (ss:List (Option (Nat × List Int))) (n:Nat):Prop:=((ss[n]?).getD none).isSome=true
structure ThR (th:List (Option (Nat × List Int))) (S:Int→Prop) (l:List Edg) (th':List (Option (Nat × List Int))):Prop where
  len:th'.length=th.length
  come:∀t∈l,∀m:Nat,t.b=m→isA th' m∧∀x∈setA th' m,S x
  sub:∀m x,x∈setA th' m→(isA th m→x∈setA th m)∧(¬isA th m→S x)
  keep:∀m,isA th m→isA th' m
  from_:∀m:Nat,isA th' m→isA th m∨∃t∈l,t.b=(m:Int)
  all_:∀(m:Nat) (x:Int),isA th' m→(isA th m→x∈setA th m)→((∃t∈l,t.b=(m:Int))→S x)→x∈setA th' m
theorem thR_0 (th:List (Option (Nat × List Int))) (S:Int→Prop):ThR th S [] th:=
  ⟨rfl,fun t ht=>absurd ht List.not_mem_nil,fun m x h=>⟨fun _=>h,fun hn=>(by
    unfold isA at hn
    unfold setA at h
    cases h2:(th[m]?).getD none with
    |none=>rw [h2] at h;exact absurd h List.not_mem_nil
    |some p=>rw [h2] at hn;exact absurd rfl hn)⟩,fun m h=>h,fun m h=>.inl h,fun m x hi h _=>h hi⟩
theorem setA_set {th:List (Option (Nat × List Int))} {t:Nat} (ht:t<th.length) (y:Option (Nat × List Int)) (m:Nat):((th.set t y)[m]?).getD none=if m=t then y else (th[m]?).getD none:=by
  by_cases h:m=t
  · subst h
    rw [if_pos rfl,List.getElem?_set_self ht]
    rfl
  · rw [if_neg h,List.getElem?_set_ne (fun e=>h e.symm)]
theorem thR_next {th th1:List (Option (Nat × List Int))} {S:Int→Prop} {l:List Edg} {t:Edg} {m:Nat} {b:Nat} {ks ks':List Int} {st:Option (Nat × List Int)} (h:ThR th S l th1) (htb:t.b=m) (hm:m<th1.length) (hst:th1[m]?=some st) (hks:∀x,x∈ks↔S x)
    (hk:∀x,x∈ks'↔x∈ks∧(st=none∨x∈kso st)):ThR th S (l++[t]) (th1.set m (some (b,ks'))):=by
  have hg:=setA_set hm (some (b,ks'))
  have hsA:setA th1 m=kso st:=by unfold setA;rw [hst];rfl
  have hiA:isA th1 m↔st.isSome=true:=by unfold isA;rw [hst];exact Iff.rfl
  refine ⟨by rw [List.length_set];exact h.len,fun t' ht' m' hm'=>?_,fun m' x hx=>?_,fun m' hi=>?_,fun m' hi=>?_,fun m' x hi h1 h2=>?_⟩
  · unfold isA setA
    rw [hg]
    by_cases he:m'=m
    · rw [if_pos he]
      exact ⟨rfl,fun x hx=>(hks x).1 ((hk x).1 hx).1⟩
    · rw [if_neg he]
      rcases List.mem_append.1 ht' with h1|h1
      · exact h.come t' h1 m' hm'
      · rw [List.mem_singleton] at h1
        subst h1
        exact absurd (by omega) he
  · unfold setA at hx
    rw [hg] at hx
    by_cases he:m'=m
    · rw [if_pos he] at hx
      subst he
      have h1:=(hk x).1 hx
      have hS:S x:=(hks x).1 h1.1
      refine ⟨fun hi=>?_,fun _=>hS⟩
      have h2:st.isSome=true:=hiA.1 (h.keep _ hi)
      have h3:x∈kso st:=h1.2.resolve_left (fun e=>(by rw [e] at h2;cases h2))
      exact (h.sub m' x (by rw [hsA];exact h3)).1 hi
    · rw [if_neg he] at hx
      exact h.sub m' x hx
  · unfold isA
    rw [hg]
    by_cases he:m'=m
    · rw [if_pos he];rfl
    · rw [if_neg he];exact h.keep m' hi
  · unfold isA at hi
    rw [hg] at hi
    by_cases he:m'=m
    · exact .inr ⟨t,List.mem_append_right _ (.head _),by omega⟩
    · rw [if_neg he] at hi
      exact (h.from_ m' hi).imp id fun ⟨t',h1,h2⟩=>⟨t',List.mem_append_left _ h1,h2⟩
  · unfold setA
    rw [hg]
    by_cases he:m'=m
    · rw [if_pos he]
      subst he
      have hS:S x:=h2 ⟨t,List.mem_append_right _ (.head _),htb⟩
      refine (hk x).2 ⟨(hks x).2 hS,?_⟩
      cases hst2:st with
      |none=>exact .inl rfl
      | some p=>
        refine .inr ?_
        have h3:=h.all_ m' x (hiA.2 (by rw [hst2];rfl)) h1 fun _=>hS
        rw [hsA,hst2] at h3
        exact h3
    · rw [if_neg he]
      refine h.all_ m' x ?_ h1 fun ⟨t',h3,h4⟩=>h2 ⟨t',List.mem_append_left _ h3,h4⟩
      unfold isA at hi ⊢
      rw [hg,if_neg he] at hi
      exact hi
theorem nodup_len_le {l:List Int} (hn:l.Nodup) (hr:∀x∈l,2≤x∧x≤1048576):l.length≤1048577:=by
  have key:∀{l m:List Int},l.Nodup→(∀x∈l,x∈m)→l.length≤m.length:=by
    intro l
    induction l with
    |nil=>intro m _ _;exact Nat.zero_le _
    | cons x l ih=>
      intro m hn hs
      have hx:=hs x (.head _)
      have:=ih (m:=m.erase x) (List.nodup_cons.1 hn).2 fun y hy=>(List.mem_erase_of_ne fun (e:y=x)=>(List.nodup_cons.1 hn).1 (e▸hy)).2 (hs y (.tail _ hy))
      rw [List.length_erase_of_mem hx] at this
      have:=List.length_pos_of_mem hx
      rw [List.length_cons]
      omega
  have:=key (m:=(List.range 1048577).map fun k:Nat=>(k:Int)) hn fun x hx=>by
    have h1:=hr x hx
    exact List.mem_map.2 ⟨x.toNat,List.mem_range.2 (by omega),by omega⟩
  rw [List.length_map,List.length_range] at this
  exact this
theorem EvOk.add {es:List Int} {x:Int} (h:EvOk es) (hb:bindP es x):EvOk (es++[x]):=by
  refine ⟨List.nodup_append.2 ⟨h.nd,List.nodup_cons.2 ⟨List.not_mem_nil,List.nodup_nil⟩,fun a ha b hb' e=>?_⟩,fun y hy=>?_⟩
  · rw [List.mem_singleton] at hb'
    subst hb'
    exact hb.2.2 (e▸ha)
  · rcases List.mem_append.1 hy with h1|h1
    · exact h.rg y h1
    · rw [List.mem_singleton] at h1
      subst h1
      exact ⟨hb.1,hb.2.1⟩
theorem EvOk.le {es:List Int} (h:EvOk es):es.length≤1048577:=nodup_len_le h.nd h.rg
theorem map_x_snoc {l:List Ins} {j:Nat} {x:Ins} (h:l[j]?=some x):(l.take (j+1)).map Ins.x=(l.take j).map Ins.x++[x.x]:=by rw [take_snoc h,List.map_append];rfl
theorem now_ps {k0 ks:List Int} {l:List Int} {j:Nat} {x:Int} (hx:l[j]?=some x) (h:∀y,y∈ks↔y∈k0∨y∈l.take j) (y:Int):y∈sadd ks x↔y∈k0∨y∈l.take (j+1):=by
  rw [mem_sadd,h,take_snoc hx,List.mem_append,List.mem_singleton,or_assoc]
theorem now_0 {k0 ks:List Int} {bl:Blc} (h:∀y,y∈ks↔y∈k0∨y∈bl.ps.l) (y:Int):y∈ks↔nowS (Sk k0) bl 0 y:=by
  rw [h]
  unfold nowS Sk
  rw [List.take_zero]
  simp
theorem now_next {k0 ks:List Int} {bl:Blc} {i:Nat} {x:Ins} (hx:bl.is.l[i]?=some x) (h:∀y,y∈ks↔nowS (Sk k0) bl i y) (y:Int):y∈sadd ks x.x↔nowS (Sk k0) bl (i+1) y:=by
  rw [mem_sadd,h]
  unfold nowS
  rw [map_x_snoc hx,List.mem_append,List.mem_singleton,or_assoc,or_assoc]
theorem sub_st (x:Ins) (i:Nat) (v:Value) (h:(encSt x.r)[i]?=some v):(encIn x)[0+1+i]?=some v:=by rw [Nat.zero_add,Nat.add_comm];exact h
theorem sub_en (b:Blc) (i:Nat) (v:Value) (h:(encEn b.e)[i]?=some v):(encBl b)[0+2+i]?=some v:=by rw [Nat.zero_add,Nat.add_comm];exact h
theorem blk_at {l:List Blc} {k:Nat} (h:k<l.length):(flat encBl l)[k*6+0]?=some (.slice (l.getD k blc0).ps.o (l.getD k blc0).ps.l.length (l.getD k blc0).ps.c):=by
  refine flat_get (off:=0) encBl_len (List.getElem?_eq_getElem h) ?_
  rw [List.getD_eq_getElem?_getD,List.getElem?_eq_getElem h]
  rfl
theorem eds_next {P:Edg→Prop} {l:List Edg} {j:Nat} {t:Edg} (ht:l[j]?=some t) (h:∀t∈l.take j,P t) (hp:P t):∀t∈l.take (j+1),P t:=by
  intro s hs
  rw [take_snoc ht] at hs
  rcases List.mem_append.1 hs with h1|h1
  · exact h s h1
  · rw [List.mem_singleton] at h1
    exact h1▸hp
theorem map_none (th:List (Option (Nat × List Int))) (n:Nat):(th.map sko).set n (all [])=(th.set n none).map sko:=by rw [List.map_set];rfl
theorem ev_ps {es:List Int} {l:List Int} {j:Nat} {x:Int} (hx:l[j]?=some x):es++l.take j++[x]=es++l.take (j+1):=by rw [take_snoc hx,List.append_assoc]
theorem ev_is {es q:List Int} {l:List Ins} {j:Nat} {x:Ins} (hx:l[j]?=some x):es++q++(l.take j).map Ins.x++[x.x]=es++q++(l.take (j+1)).map Ins.x:=by rw [map_x_snoc hx,List.append_assoc]
theorem ev_end (es:List Int) (bl:Blc):es++bl.ps.l++(bl.is.l.take bl.is.l.length).map Ins.x=es++bvs bl:=by rw [List.take_length,List.append_assoc];rfl
theorem ins_next {g:Grs} {f:Gr} {la k0 ks:List Int} {bl:Blc} {i:Nat} {x:Ins} (hx:bl.is.l[i]?=some x) (h:∀k x,bl.is.l[k]?=some x→k<i→FormP g la f.caps x.r∧∀a∈x.r.a.l,atS g (nowS (Sk k0) bl k) a) (hks:∀y,y∈ks↔nowS (Sk k0) bl i y) (hF:FormP g la f.caps x.r) (ha:∀a∈x.r.a.l,atOk g ks a) :
    ∀k x,bl.is.l[k]?=some x→k<i+1→FormP g la f.caps x.r∧∀a∈x.r.a.l,atS g (nowS (Sk k0) bl k) a:=by
  intro k y hk hlt
  by_cases he:k=i
  · subst he
    rw [hx] at hk
    cases hk
    exact ⟨hF,fun a hay=>at_of hks (ha a hay)⟩
  · exact h k y hk (by omega)
def insN (l:List Ins):Nat:=(l.map fun i=>1+i.r.a.l.length).sum
def edgN (l:List Edg):Nat:=(l.map fun t=>1+t.a.l.length).sum
theorem blkN_eq (bl:Blc):blkN bl=2+bl.ps.l.length+insN bl.is.l+bl.e.a.l.length+edgN bl.e.to.l:=rfl
theorem insN_next {l:List Ins} {i:Nat} {x:Ins} (h:l[i]?=some x):insN (l.take (i+1))=insN (l.take i)+1+x.r.a.l.length:=by
  unfold insN
  rw [take_snoc h,List.map_append,List.sum_append]
  simp;omega
theorem edgN_next {l:List Edg} {i:Nat} {x:Edg} (h:l[i]?=some x):edgN (l.take (i+1))=edgN (l.take i)+1+x.a.l.length:=by
  unfold edgN
  rw [take_snoc h,List.map_append,List.sum_append]
  simp;omega
theorem sum_take_le (l:List Nat) (i:Nat):(l.take i).sum≤l.sum:=by
  have h:=congrArg List.sum (List.take_append_drop i l)
  rw [List.sum_append] at h
  omega
theorem insN_le (l:List Ins) (i:Nat):insN (l.take i)≤insN l:=by
  unfold insN
  rw [List.map_take]
  exact sum_take_le _ _
theorem edgN_le (l:List Edg) (i:Nat):edgN (l.take i)≤edgN l:=by
  unfold edgN
  rw [List.map_take]
  exact sum_take_le _ _
theorem insN_at {l:List Ins} {i:Nat} {x:Ins} (h:l[i]?=some x):insN (l.take i)+1+x.r.a.l.length≤insN l:=by
  rw [←insN_next h];exact insN_le l _
theorem edgN_at {l:List Edg} {i:Nat} {x:Edg} (h:l[i]?=some x):edgN (l.take i)+1+x.a.l.length≤edgN l:=by
  rw [←edgN_next h];exact edgN_le l _
structure BlkC (g:Grs) (f:Gr) (la:List Int) (n:Nat) (bl:Blc) (th:List (Option (Nat × List Int))) (es:List Int) (p:Int):Prop where
  come:isA th n
  blk:BlkP g f la n bl (Sk (setA th n))
  ev:EvOk (es++bvs bl)
  size:p+blkN bl≤65536
theorem ev_bind {a b:List Int} {x:Int} (h:EvOk (a++x::b)):bindP a x:=by
  have h1:=h.rg x (List.mem_append_right _ (.head _))
  refine ⟨h1.1,h1.2,fun hx=>?_⟩
  have h2:=(List.nodup_append.1 h.nd).2.2 x hx x (.head _)
  exact h2 rfl
theorem ev_ps_no {es:List Int} {bl:Blc} {j:Nat} {x:Int} (hx:bl.ps.l[j]?=some x) (h:EvOk (es++bvs bl)):bindP (es++bl.ps.l.take j) x:=by
  have e:es++bvs bl=(es++bl.ps.l.take j)++x::(bl.ps.l.drop (j+1)++bl.is.l.map Ins.x):=by
    have h1:bl.ps.l=bl.ps.l.take j++x::bl.ps.l.drop (j+1):=by
      obtain ⟨hj,rfl⟩:=List.getElem?_eq_some_iff.1 hx
      rw [List.getElem_cons_drop,List.take_append_drop]
    unfold bvs
    conv=>lhs;rw [h1]
    simp
  rw [e] at h
  exact ev_bind h
theorem ev_is_no {es:List Int} {bl:Blc} {j:Nat} {x:Ins} (hx:bl.is.l[j]?=some x) (h:EvOk (es++bvs bl)):bindP (es++bl.ps.l++(bl.is.l.take j).map Ins.x) x.x:=by
  have e:es++bvs bl=(es++bl.ps.l++(bl.is.l.take j).map Ins.x)++x.x::(bl.is.l.drop (j+1)).map Ins.x:=by
    have h1:bl.is.l=bl.is.l.take j++x::bl.is.l.drop (j+1):=by
      obtain ⟨hj,rfl⟩:=List.getElem?_eq_some_iff.1 hx
      rw [List.getElem_cons_drop,List.take_append_drop]
    unfold bvs
    conv=>lhs;rw [h1]
    simp
  rw [e] at h
  exact ev_bind h
theorem ats_of {g:Grs} {ks:List Int} {S:Int→Prop} {p:Int} {l:List Atm} (hs:∀x,x∈ks↔S x) (h:∀a∈l,atS g S a) (hp:p+l.length≤65536):atsOk g ks p l:=⟨fun a ha=>(at_iff hs).2 (h a ha),.inr hp⟩
section
attribute [local irreducible] Code.wp wpList Calls Ex Op1 sat bat blk cb own Go.Fw.mp Go.Fw.mpO Go.Fw.mpI Go.Fw.mpE Go.Fw.itr HS Rd Ret wkD Hp Cl Cls Exit.then Exit.inBlock Exit.noGoto bodyPost Go.Fw.flat wk2 Go.Fw.all Go.Fw.owns wpOp
attribute [local irreducible] sk mpK sko mvO entK atOk atS nowS

theorem block_spec (w0 w:World) (H:List It) (c:Ck) (bC n:Nat) (p:Int) (es la:List Int) (tc th:List (Option (Nat × List Int))) (bl:Blc) (hH:HS w0 noM (cb bC 112 (encC c (p))::sk c.bE es::own 109 1 c.oT c.nT c.cT (flat encO (tc))::all (th.map sko)::H) w) (hm:own 3 1 c.oA c.nA c.cA (flat Fw.encI la)∈H) (hla:c.nA=la.length) (hla9:la.length≤9223372036854775807)
    (hR:RdG w0 c.f) (hbl:c.f.bs.l[n]?=some bl) (hto:bl.e.to.l.length≤1048576) (hn:c.nT=th.length) (hn2:tc.length=th.length) (hn3:th.length=c.f.bs.l.length) (hag:∀m,n≤m→tc[m]?=th[m]?) (hp0:0≤p) (hp1:p≤65536) (hev:EvOk es) :
    Ret Tryz.prog 33 #[.pointer (some (bat bC 0)),.int .i64 n] w (fun v w'=>(v= .bool false∧¬BlkC c.g c.f la n bl th es p∧HS w0 noM H w')∨
      (v= .bool true∧BlkC c.g c.f la n bl th es p∧∃tc' th',ThR (th.set n none) (nowS (Sk (setA th n)) bl bl.is.l.length) bl.e.to.l th'∧tc'.length=tc.length∧(∀m,n<m→tc'[m]?=th'[m]?)∧
        HS w0 noM (cb bC 112 (encC c (p+(blkN bl:Int)))::sk c.bE (es++bvs bl)::own 109 1 c.oT c.nT c.cT (flat encO (tc'))::all (th'.map sko)::H) w')):=by
  have hnl:=(List.getElem?_eq_some_iff.1 hbl).1
  have hbR:=hR.2 bl (List.mem_of_getElem? hbl)
  have hle:=hR.1.le
  have hlp:=hbR.1.le
  have hli:=hbR.2.1.le
  have hsp:Sp c.f.bs.o c.f.bs.l.length:=hR.1.1.sp (sz:=6) (flat_length encBl_len _) (by omega)
  have hspP:Sp bl.ps.o bl.ps.l.length:=hbR.1.1.sp (sz:=1) (flat_length Fw.encI_len _) (by omega)
  have hspI:Sp bl.is.o bl.is.l.length:=hbR.2.1.1.sp (sz:=5) (flat_length encIn_len _) (by omega)
  have hspT:Sp c.oT c.nT:=hH.own_sp (T:=109) (.tail _ (.tail _ (.head _)))
  have hvs:=flat_all encBl_len hbl
  obtain ⟨st,hst⟩:∃st,th[n]?=some st:=⟨_,List.getElem?_eq_getElem (by omega)⟩
  have htn:n<(th.map sko).length:=by rw [List.length_map];omega
  have hsm:(th.map sko)[n]?=some (sko st):=by rw [List.getElem?_map,hst];rfl
  have htc:tc[n]?=some st:=(hag n (Nat.le_refl _)).trans hst
  have hvT:(flat encO tc)[n*1]?=some (mvO st):=flat_get (off:=0) encO_len htc (by rw [encO_eq];rfl)
  (refine ENT (N:=190) Tryz.func33 Tryz.ntmps33 ?_;intro a hA)
  repeat' (first|(refine QT ?_;clear hA a;intro a hA)|refine CT ?_|fail)
  have hST:HS w0 noM [cb bC 112 (encC c (p)),own 109 1 c.oT c.nT c.cT (flat encO (tc))] w:=HS.left (H1:=[_,_]) (H2:=sk c.bE es::all (th.map sko)::H) (hH.perm PMT)
  (refine wp_draw_HS (H:=[_,_]) [(0,1),(1,1),(2,1),(3,1),(4,1),(5,1),(6,1),(7,1),(8,1),(9,1),(10,1),(11,1),(12,1),(13,1),(14,1),(15,0),(16,0),(17,1)] mixed (by decide +kernel) (hST) ?_;replace hH:=hH.drew)
  clear hST
  repeat' (first|(refine XT ?_;apply XE;(first|(apply ex_load_st (vs:=encBl bl);rfl;rfl;exact cls_rd hR.1.1 id hvs)|(apply ex_indexAddr_nat;rfl;rfl;omega;exact hspT)|(apply ex_indexAddr_nat;rfl;rfl;omega;exact hsp)|(apply ex_load;rfl;apply cl_own (T:=109);exact MEMT;exact hvT));clear hA a;intro a hA)|(refine QT ?_;clear hA a;intro a hA)|fail)
  (apply dr_op hA rfl rfl rfl (by decide);apply op_alloc;exact hH;clear hA hH;rintro _ w ⟨bN,rfl,hH⟩;refine ⟨HS.left (H1:=[_,_]) (H2:=sk c.bE es::all (th.map sko)::H) (hH.tail.perm PMT),?_⟩;intro a hA)
  (apply dr_op0 hA rfl rfl rfl;apply op_store_agg (vs:=encBl bl);rfl;rfl;exact hH;(repeat constructor);(repeat rfl);clear hH;rintro _ w hH;refine ⟨HS.left (H1:=[_,_]) (H2:=sk c.bE es::all (th.map sko)::H) (hH.tail.perm PMT),?_⟩)
  rcases st with _| ⟨bW,k0⟩
  · rw [mvO_n] at hA
    repeat' (first|(refine GT ?_ ?_<;>intro hg<;>clear hA a<;>intro a hA<;>(first|exact FA|replace hg:=dTr hg|replace hg:=dFa hg|skip))|(refine XT ?_;apply XE;(first|(apply ex_eqlMapT;rfl;rfl));clear hA a;intro a hA)|(refine QT ?_;clear hA a;intro a hA)|refine CT ?_|fail)
    exact rt1 (.inl rfl) rfl hA rfl (.inl ⟨rfl,fun h=>(by have h1:=h.come;unfold isA at h1;rw [hst] at h1;cases h1),hH.tail.tail.tail.tail.tail⟩)
  rw [mvO_s] at hA
  have hS0:setA th n=k0:=by unfold setA;rw [hst];rfl
  have hi0:isA th n:=by unfold isA;rw [hst];rfl
  obtain ⟨b5,hb5⟩:∃x,x=bN:=⟨_,rfl⟩
  rw [←hb5] at hA hH
  clear hb5 bN
  (first|(apply dr_exb hA rfl rfl rfl (by decide) rfl (ex_move rfl)<;>intro hg<;>clear hA a<;>intro a hA<;>(first|(replace hg:=dTr hg;try (exfalso;omega))|(replace hg:=dFa hg;try (exfalso;omega))|(exact absurd hg (by decide))|skip))|(apply dr_ex hA rfl rfl rfl (by decide);(first|(apply ex_move;rfl)|(apply ex_assign;rfl)|exact EXT);clear hA a;intro a hA)|(apply dr_skip hA rfl rfl rfl (by decide);clear hA a;intro a hA)|(apply dr_exp hA rfl rfl rfl (by decide);(first|(apply ex_move;rfl)|(apply ex_assign;rfl)|exact EXT);clear hA a;intro a hA)|(apply dr_ex3 hA hH rfl rfl rfl (by decide);(first|(apply ex_move;rfl)|(apply ex_assign;rfl)|exact EXT);clear hA a;intro a hA)|(apply dr_skip3 hA rfl rfl rfl (by decide);clear hA a;intro a hA)|apply dr_nil|apply dr_late|apply dr_nil2)
  (first|(apply dr_exb hA rfl rfl rfl (by decide) rfl (ex_move rfl)<;>intro hg<;>clear hA a<;>intro a hA<;>(first|(replace hg:=dTr hg;try (exfalso;omega))|(replace hg:=dFa hg;try (exfalso;omega))|(exact absurd hg (by decide))|skip))|(apply dr_ex hA rfl rfl rfl (by decide);(first|(apply ex_move;rfl)|(apply ex_assign;rfl)|exact EXT);clear hA a;intro a hA)|(apply dr_skip hA rfl rfl rfl (by decide);clear hA a;intro a hA)|(apply dr_exp hA rfl rfl rfl (by decide);(first|(apply ex_move;rfl)|(apply ex_assign;rfl)|exact EXT);clear hA a;intro a hA)|(apply dr_ex3 hA hH rfl rfl rfl (by decide);(first|(apply ex_move;rfl)|(apply ex_assign;rfl)|exact EXT);clear hA a;intro a hA)|(apply dr_skip3 hA rfl rfl rfl (by decide);clear hA a;intro a hA)|apply dr_nil|apply dr_late|apply dr_nil2)
  repeat refine CT ?_
  refine st_join (fun a w=>(n=0→bl.ps.l=[])∧HS w0 noM (cb b5 53 (encBl bl)::cb bC 112 (encC c (p))::sk c.bE es::own 109 1 c.oT c.nT c.cT (flat encO (tc))::all (th.map sko)::H) w∧Sl 190 [(5,.pointer (some (bat b5 0))),(6,.map (some bW)),(0,.pointer (some (bat bC 0))),(1,.int .i64 n)] a) ?_ ?_
  · repeat' (first|(refine GT ?_ ?_<;>intro hg<;>clear hA a<;>intro a hA<;>(first|exact FA|replace hg:=dTr hg|replace hg:=dFa hg|skip))|(refine XT ?_;apply XE;(first|(apply ex_eqlMapF;rfl;rfl));clear hA a;intro a hA)|(refine QT ?_;clear hA a;intro a hA)|refine CT ?_|(refine DT ?_ ?_<;>intro hc<;>try (exfalso;omega))|fail)
    · exact rt1 (.inl rfl) rfl hA rfl (.inl ⟨rfl,fun h=>absurd (congrArg List.length (h.blk.first (by omega))) (by show ¬bl.ps.l.length=0;omega),hH.tail.tail.tail.tail.tail⟩)
    · exact ⟨fun _=>List.length_eq_zero_iff.1 (by omega),hH,(hA.sub SBT)⟩
    · exact ⟨fun h=>(by omega),hH,(hA.sub SBT)⟩
  clear hA hH
  rintro a w ⟨hfirst,hH,hA⟩
  have hH1:=(hH.up 4 rfl).openAt hsm
  clear hH
  dsimp only [List.eraseIdx_cons_succ,List.eraseIdx_cons_zero] at hH1
  rw [sko_s] at hH1
  have hH:=(hH1.nil_all.perm (H':=all []::all ((th.map sko).eraseIdx n)::cb bC 112 (encC c (p))::sk c.bE es::sk bW k0::own 109 1 c.oT c.nT c.cT (flat encO (tc))::cb b5 53 (encBl bl)::H) PMT).shutAt htn
  clear hH1
  rw [map_none] at hH
  obtain ⟨th0,hth0⟩:∃x,x=th.set n none:=⟨_,rfl⟩
  rw [←hth0] at hH
  have hl0:th0.length=th.length:=by rw [hth0,List.length_set]
  have hag0:∀m,n<m→tc[m]?=th0[m]?:=fun m hm=>by rw [hth0,List.getElem?_set_ne (by omega)];exact hag m (by omega)
  replace hH:=hH.perm (H':=cb bC 112 (encC c (p))::sk c.bE es::sk bW k0::own 109 1 c.oT c.nT c.cT (flat encO (tc))::all (th0.map sko)::cb b5 53 (encBl bl)::H) PMT
  repeat' (first|(refine QT ?_;clear hA a;intro a hA)|(apply st_op0 hA rfl rfl;apply op_store_fld (cs':=encC c (p+2));rfl;rfl;rfl;exact hH;(repeat constructor);clear hH;rintro _ w hH)|refine CT ?_|fail)
  refine wp_lpk (S:=Nat) (fun j a w=>∃ks,(j≤bl.ps.l.length∧EvOk (es++bl.ps.l.take j)∧∀y,y∈ks↔y∈k0∨y∈bl.ps.l.take j)∧HS w0 noM (cb bC 112 (encC c (p+2+(j:Int)))::sk c.bE (es++bl.ps.l.take j)::sk bW ks::own 109 1 c.oT c.nT c.cT (flat encO (tc))::all (th0.map sko)::cb b5 53 (encBl bl)::H) w∧
      Sl 190 [(50,.int .i64 j),(49,.int .i64 bl.ps.l.length),(48,.slice bl.ps.o bl.ps.l.length bl.ps.c),(5,.pointer (some (bat b5 0))),(6,.map (some bW)),(0,.pointer (some (bat bC 0))),(1,.int .i64 n)] a) (fun j=>bl.ps.l.length - j)
    (fun a w=>∃ks,(EvOk (es++bl.ps.l)∧∀y,y∈ks↔y∈k0∨y∈bl.ps.l)∧HS w0 noM (cb bC 112 (encC c (p+2+(bl.ps.l.length:Int)))::sk c.bE (es++bl.ps.l)::sk bW ks::own 109 1 c.oT c.nT c.cT (flat encO (tc))::all (th0.map sko)::cb b5 53 (encBl bl)::H) w∧
      Sl 190 [(5,.pointer (some (bat b5 0))),(6,.map (some bW)),(0,.pointer (some (bat bC 0))),(1,.int .i64 n)] a) 0 ⟨k0,⟨Nat.zero_le _,(by rw [List.take_zero,List.append_nil];exact hev),(fun y=>by rw [List.take_zero];simp)⟩,(by rw [List.take_zero,List.append_nil,show p+2+((0:Nat):Int)=p+2 by omega];exact hH),(hA.sub SBT)⟩ ?_ ?_
  · clear hA hH
    rintro j a w ⟨ks,⟨hj,hev1,hks⟩,hH,hA⟩
    by_cases hlt:j<bl.ps.l.length
    rotate_left
    · obtain rfl:j=bl.ps.l.length:=by omega
      rw [List.take_length] at hev1 hks hH
      repeat' (first|(refine QT ?_;clear hA a;intro a hA)|refine CT ?_|(refine DT ?_ ?_<;>intro hc<;>try (exfalso;omega))|fail)
      exact ⟨ks,⟨hev1,hks⟩,hH,(hA.sub SBT)⟩
    obtain ⟨x,hx⟩:∃x,bl.ps.l[j]?=some x:=⟨_,List.getElem?_eq_getElem hlt⟩
    have hcx:(flat Fw.encI bl.ps.l)[j*1]?=some (.int .i64 x):=flat_get (off:=0) Fw.encI_len hx rfl
    have hel:=hev1.le
    rw [List.length_append,List.length_take] at hel
    have hjb:(j:Int)≤1048577:=by omega
    have e1:p+2+(j:Int)+1=p+2+((j+1:Nat):Int):=by omega
    repeat' (first|(refine XT ?_;apply XE;(first|(apply ex_indexAddr_nat;rfl;rfl;omega;exact hspP)|(apply ex_load;rfl;exact cl_rd hbR.1.1 id hcx));clear hA a;intro a hA)|(refine QT ?_;clear hA a;intro a hA)|(apply st_op0 hA rfl rfl;apply op_store_fld (cs':=encC c (p+2+(j:Int)+1));rfl;rfl;rfl;exact hH;(repeat constructor);clear hH;rintro _ w hH)|refine CT ?_|(refine DT ?_ ?_<;>intro hc<;>try (exfalso;omega))|fail)
    (refine st_op hA rfl rfl (by decide) (op_call rfl rfl rfl (bind_spec w0 _ _ c bC bW _ _ _ x hH)) ?_;clear hA hH)
    rintro _ w (⟨hb,rfl,hH⟩| ⟨hb,rfl,hH⟩) a hA
    rotate_left
    · repeat' (first|(refine QT ?_;clear hA a;intro a hA)|refine CT ?_|fail)
      exact rt1 (.inl rfl) rfl hA rfl (.inl ⟨rfl,fun h=>hb (ev_ps_no hx h.ev),hH.tail.tail.tail.tail.tail.tail⟩)
    repeat' (first|(refine QT ?_;clear hA a;intro a hA)|refine CT ?_|fail)
    have hev2:=hev1.add hb
    rw [ev_ps hx] at hH hev2
    rw [e1] at hH
    exact ⟨j+1,⟨_,⟨hlt,hev2,now_ps hx hks⟩,hH,(hA.sub SBT)⟩,by omega⟩
  clear hA hH
  rintro a w ⟨ks,⟨hev1,hks0⟩,hH,hA⟩
  have hks:=now_0 hks0
  clear hks0
  obtain ⟨q0,hq0⟩:∃x,x=p+2+(bl.ps.l.length:Int):=⟨_,rfl⟩
  have hpl:bl.ps.l.length≤1048577:=by
    have:=hev1.le
    rw [List.length_append] at this
    omega
  rw [←hq0] at hH
  repeat' (first|(refine QT ?_;clear hA a;intro a hA)|refine CT ?_|fail)
  refine wp_lpk (S:=Nat) (fun i a w=>∃ks q,(i≤bl.is.l.length∧EvOk (es++bl.ps.l++(bl.is.l.take i).map Ins.x)∧(∀y,y∈ks↔nowS (Sk k0) bl i y)∧(∀k x,bl.is.l[k]?=some x→k<i→FormP c.g la c.f.caps x.r∧∀a∈x.r.a.l,atS c.g (nowS (Sk k0) bl k) a)∧q=q0+insN (bl.is.l.take i)∧q≤1200000)∧
      HS w0 noM (cb bC 112 (encC c (q))::sk c.bE (es++bl.ps.l++(bl.is.l.take i).map Ins.x)::sk bW ks::own 109 1 c.oT c.nT c.cT (flat encO (tc))::all (th0.map sko)::cb b5 53 (encBl bl)::H) w∧
      Sl 190 [(70,.int .i64 i),(69,.int .i64 bl.is.l.length),(68,.slice bl.is.o bl.is.l.length bl.is.c),(5,.pointer (some (bat b5 0))),(6,.map (some bW)),(0,.pointer (some (bat bC 0))),(1,.int .i64 n)] a) (fun i=>bl.is.l.length - i)
    (fun a w=>∃ks q,(EvOk (es++bvs bl)∧(∀y,y∈ks↔nowS (Sk k0) bl bl.is.l.length y)∧(∀k x,bl.is.l[k]?=some x→FormP c.g la c.f.caps x.r∧∀a∈x.r.a.l,atS c.g (nowS (Sk k0) bl k) a)∧q=q0+insN bl.is.l∧q≤1200000)∧
      HS w0 noM (cb bC 112 (encC c (q))::sk c.bE (es++bvs bl)::sk bW ks::own 109 1 c.oT c.nT c.cT (flat encO (tc))::all (th0.map sko)::cb b5 53 (encBl bl)::H) w∧
      Sl 190 [(5,.pointer (some (bat b5 0))),(6,.map (some bW)),(0,.pointer (some (bat bC 0))),(1,.int .i64 n)] a) 0 ⟨ks,q0,⟨Nat.zero_le _,(by rw [List.take_zero,List.map_nil,List.append_nil];exact hev1),hks,fun k x hk h=>absurd h (Nat.not_lt_zero _),(by rw [List.take_zero];show q0=q0+((0:Nat):Int);omega),by omega⟩,(by rw [List.take_zero,List.map_nil,List.append_nil];exact hH),(hA.sub SBT)⟩ ?_ ?_
  · clear hA hH hev1 hks
    rintro i a w ⟨ks,q,⟨hi,hev1,hks,hins,hq1,hq2⟩,hH,hA⟩
    by_cases hlt:i<bl.is.l.length
    rotate_left
    · obtain rfl:i=bl.is.l.length:=by omega
      rw [ev_end] at hev1 hH
      rw [List.take_length] at hq1
      repeat' (first|(refine QT ?_;clear hA a;intro a hA)|refine CT ?_|(refine DT ?_ ?_<;>intro hc<;>try (exfalso;omega))|fail)
      exact ⟨ks,q,⟨hev1,hks,fun k x hk=>hins k x hk (List.getElem?_eq_some_iff.1 hk).1,hq1,hq2⟩,hH,(hA.sub SBT)⟩
    obtain ⟨x,hx⟩:∃x,bl.is.l[i]?=some x:=⟨_,List.getElem?_eq_getElem hlt⟩
    have hxR:=hbR.2.2.1 x (List.mem_of_getElem? hx)
    have hvi:=flat_all encIn_len hx
    repeat' (first|(refine GT ?_ ?_<;>intro hg<;>clear hA a<;>intro a hA<;>(first|exact FA|replace hg:=dTr hg|replace hg:=dFa hg|skip))|(refine XT ?_;apply XE;(first|(apply ex_load_st (vs:=encIn x);rfl;rfl;exact cls_rd hbR.2.1.1 id hvi)|(apply ex_indexAddr_nat;rfl;rfl;omega;exact hspI));clear hA a;intro a hA)|(refine QT ?_;clear hA a;intro a hA)|(refine BT ?_;clear hA hH;rintro _ w ⟨bN,rfl,hH⟩ a hA)|(refine SAT (encIn x) hA hH ?_;clear hH;intro w hH)|(apply st_op0 hA rfl rfl;apply op_store_fld (cs':=encC c (q+1));rfl;rfl;rfl;exact hH;(repeat constructor);clear hH;rintro _ w hH)|refine CT ?_|(refine DT ?_ ?_<;>intro hc<;>try (exfalso;omega))|fail)
    · exact rt1 (.inl rfl) rfl hA rfl (.inl ⟨rfl,fun h=>(by have h1:=h.size;rw [blkN_eq] at h1;have h2:=insN_at hx;omega),hH.tail.tail.tail.tail.tail.tail.tail⟩)
    repeat' (first|(refine XT ?_;apply XE;(first|(apply ex_load_st (vs:=encSt x.r);rfl;rfl;exact cls_cb MEMT (sub_st x)));clear hA a;intro a hA)|(refine QT ?_;clear hA a;intro a hA)|fail)
    replace hH:=hH.perm (H':=cb bC 112 (encC c (q+1))::sk bW ks::sk c.bE (es++bl.ps.l++(bl.is.l.take i).map Ins.x)::own 109 1 c.oT c.nT c.cT (flat encO (tc))::all (th0.map sko)::cb b5 53 (encBl bl)::cb bN 59 (encIn x)::H) PMT
    (refine st_op hA rfl rfl (by decide) (op_call rfl rfl rfl (step2_spec w0 _ _ c bC (q+1) la x.r hH (.tail _ (.tail _ (.tail _ (.tail _ (.tail _ (.tail _ hm)))))) hla hla9 hxR.1)) ?_;clear hA hH)
    rintro _ w ⟨bb,rfl,hbF,hH⟩ a hA
    cases bb with
    | false=>
      repeat' (first|(refine GT ?_ ?_<;>intro hg<;>clear hA a<;>intro a hA<;>(first|exact FA|replace hg:=dTr hg|replace hg:=dFa hg|skip))|(refine QT ?_;clear hA a;intro a hA)|refine CT ?_|fail)
      exact rt1 (.inl rfl) rfl hA rfl (.inl ⟨rfl,fun h=>absurd (hbF.2 (h.blk.ins i x hx).1) (by decide),hH.tail.tail.tail.tail.tail.tail.tail⟩)
    | true=>
      repeat' (first|(refine GT ?_ ?_<;>intro hg<;>clear hA a<;>intro a hA<;>(first|exact FA|replace hg:=dTr hg|replace hg:=dFa hg|skip))|(refine QT ?_;clear hA a;intro a hA)|fail)
      (refine st_op hA rfl rfl (by decide) (op_call rfl rfl rfl (atoms_spec w0 _ _ c bC bW (q+1) ks x.r.a hH hxR.2 (by omega) (by omega))) ?_;clear hA hH)
      rintro _ w (⟨hat,rfl,hH⟩| ⟨hat,rfl,q',hq3,hq4,hH⟩) a hA
      rotate_left
      · repeat' (first|(refine GT ?_ ?_<;>intro hg<;>clear hA a<;>intro a hA<;>(first|exact FA|replace hg:=dTr hg|replace hg:=dFa hg|skip))|(refine QT ?_;clear hA a;intro a hA)|refine CT ?_|fail)
        exact rt1 (.inl rfl) rfl hA rfl (.inl ⟨rfl,fun h=>hat (ats_of hks (by have h1:=(h.blk.ins i x hx).2;rw [hS0] at h1;exact h1) (by have h1:=h.size;rw [blkN_eq] at h1;have h2:=insN_at hx;omega)),hH.tail.tail.tail.tail.tail.tail.tail⟩)
      repeat' (first|(refine GT ?_ ?_<;>intro hg<;>clear hA a<;>intro a hA<;>(first|exact FA|replace hg:=dTr hg|replace hg:=dFa hg|skip))|(refine QT ?_;clear hA a;intro a hA)|fail)
      replace hH:=hH.perm (H':=cb bC 112 (encC c (q+1+(x.r.a.l.length:Int)))::sk c.bE (es++bl.ps.l++(bl.is.l.take i).map Ins.x)::sk bW ks::own 109 1 c.oT c.nT c.cT (flat encO (tc))::all (th0.map sko)::cb b5 53 (encBl bl)::cb bN 59 (encIn x)::H) PMT
      (refine st_op hA rfl rfl (by decide) (op_call rfl rfl rfl (bind_spec w0 _ _ c bC bW _ _ _ x.x hH)) ?_;clear hA hH)
      rintro _ w (⟨hb,rfl,hH⟩| ⟨hb,rfl,hH⟩) a hA
      rotate_left
      · repeat' (first|(refine QT ?_;clear hA a;intro a hA)|refine CT ?_|fail)
        exact rt1 (.inl rfl) rfl hA rfl (.inl ⟨rfl,fun h=>hb (ev_is_no hx h.ev),hH.tail.tail.tail.tail.tail.tail.tail⟩)
      repeat' (first|(refine QT ?_;clear hA a;intro a hA)|refine CT ?_|fail)
      have hev2:=hev1.add hb
      rw [ev_is hx] at hH hev2
      have hql:q+1+(x.r.a.l.length:Int)≤1200000:=by
        rcases hat.2 with h|h
        · rw [h]
          show q+1+(0:Int)≤_
          omega
        · omega
      exact ⟨i+1,⟨_,_,⟨hlt,hev2,now_next hx hks,ins_next hx hins hks (hbF.1 rfl) hat.1,by rw [insN_next hx];omega,hql⟩,hH.rm 6,(hA.sub SBT)⟩,by omega⟩
  clear hA hH hev1 hks
  rintro a w ⟨ks,q,⟨hev1,hks,hins,hq1,hq2⟩,hH,hA⟩
  have hsubE:=sub_en bl
  repeat' (first|(refine XT ?_;apply XE;(first|(apply ex_load_st (vs:=encEn bl.e);rfl;rfl;exact cls_cb MEMT hsubE));clear hA a;intro a hA)|(refine QT ?_;clear hA a;intro a hA)|refine CT ?_|fail)
  (refine st_op hA rfl rfl (by decide) (op_call rfl rfl rfl (end_spec _ bl.e (hbR.2.2.2.2.1.keep hH.kp))) ?_;clear hA)
  rintro _ w ⟨bb,rfl,hbE,hk⟩ a hA
  replace hH:=hH.keep hk
  clear hk
  cases bb with
  | false=>
    repeat' (first|(refine GT ?_ ?_<;>intro hg<;>clear hA a<;>intro a hA<;>(first|exact FA|replace hg:=dTr hg|replace hg:=dFa hg|skip))|(refine QT ?_;clear hA a;intro a hA)|refine CT ?_|fail)
    exact rt1 (.inl rfl) rfl hA rfl (.inl ⟨rfl,fun h=>absurd (hbE.2 h.blk.end_) (by decide),hH.tail.tail.tail.tail.tail.tail⟩)
  |true=>
  repeat' (first|(refine GT ?_ ?_<;>intro hg<;>clear hA a<;>intro a hA<;>(first|exact FA|replace hg:=dTr hg|replace hg:=dFa hg|skip))|(refine QT ?_;clear hA a;intro a hA)|fail)
  replace hH:=hH.perm (H':=cb bC 112 (encC c (q))::sk bW ks::sk c.bE (es++bvs bl)::own 109 1 c.oT c.nT c.cT (flat encO (tc))::all (th0.map sko)::cb b5 53 (encBl bl)::H) PMT
  (refine st_op hA rfl rfl (by decide) (op_call rfl rfl rfl (atoms_spec w0 _ _ c bC bW q ks bl.e.a hH hbR.2.2.2.1 (by omega) (by omega))) ?_;clear hA hH)
  rintro _ w (⟨hat,rfl,hH⟩| ⟨hat,rfl,q',hq3,hq4,hH⟩) a hA
  rotate_left
  · repeat' (first|(refine QT ?_;clear hA a;intro a hA)|refine CT ?_|fail)
    exact rt1 (.inl rfl) rfl hA rfl (.inl ⟨rfl,fun h=>hat (ats_of hks (by have h1:=h.blk.ends;rw [hS0] at h1;exact h1) (by have h1:=h.size;rw [blkN_eq] at h1;omega)),hH.tail.tail.tail.tail.tail.tail⟩)
  have hends:∀a∈bl.e.a.l,atS c.g (nowS (Sk k0) bl bl.is.l.length) a:=fun a ha=>at_of hks (hat.1 a ha)
  have hql:q+(bl.e.a.l.length:Int)≤1200000:=by
    rcases hat.2 with h|h
    · rw [h]
      show q+(0:Int)≤_
      omega
    · omega
  obtain ⟨q2,hq2e⟩:∃x,x=q+(bl.e.a.l.length:Int):=⟨_,rfl⟩
  rw [←hq2e] at hH hql
  have hq5:q2=p+2+bl.ps.l.length+insN bl.is.l+bl.e.a.l.length:=by omega
  have hspE:Sp bl.e.to.o bl.e.to.l.length:=hbR.2.2.2.2.2.1.1.sp (sz:=2) (flat_length encEd_len _) (by omega)
  repeat' (first|(refine QT ?_;clear hA a;intro a hA)|refine CT ?_|fail)
  refine wp_lpk (S:=Nat) (fun j a w=>∃tc' th' q,(j≤bl.e.to.l.length∧q=q2+edgN (bl.e.to.l.take j)∧q≤1200000+(j:Int)∧ThR th0 (nowS (Sk k0) bl bl.is.l.length) (bl.e.to.l.take j) th'∧tc'.length=tc.length∧(∀m,n<m→tc'[m]?=th'[m]?)∧
        ∀t∈bl.e.to.l.take j,(n:Int)<t.b∧t.b<c.f.bs.l.length∧t.a.l.length=(c.f.bs.l.getD t.b.toNat blc0).ps.l.length∧∀a∈t.a.l,atS c.g (nowS (Sk k0) bl bl.is.l.length) a)∧
      HS w0 noM (cb bC 112 (encC c (q))::sk bW ks::sk c.bE (es++bvs bl)::own 109 1 c.oT c.nT c.cT (flat encO (tc'))::all (th'.map sko)::cb b5 53 (encBl bl)::H) w∧
      Sl 190 [(128,.int .i64 j),(127,.int .i64 bl.e.to.l.length),(126,.slice bl.e.to.o bl.e.to.l.length bl.e.to.c),(6,.map (some bW)),(0,.pointer (some (bat bC 0))),(1,.int .i64 n)] a) (fun j=>bl.e.to.l.length - j)
    (fun a w=>∃tc' th' q,(q=q2+edgN bl.e.to.l∧q≤2300000∧ThR th0 (nowS (Sk k0) bl bl.is.l.length) bl.e.to.l th'∧tc'.length=tc.length∧(∀m,n<m→tc'[m]?=th'[m]?)∧
        ∀t∈bl.e.to.l,(n:Int)<t.b∧t.b<c.f.bs.l.length∧t.a.l.length=(c.f.bs.l.getD t.b.toNat blc0).ps.l.length∧∀a∈t.a.l,atS c.g (nowS (Sk k0) bl bl.is.l.length) a)∧
      HS w0 noM (cb bC 112 (encC c (q))::sk bW ks::sk c.bE (es++bvs bl)::own 109 1 c.oT c.nT c.cT (flat encO (tc'))::all (th'.map sko)::cb b5 53 (encBl bl)::H) w∧
      Sl 190 [(0,.pointer (some (bat bC 0)))] a) 0 ⟨tc,th0,q2,⟨Nat.zero_le _,(by rw [List.take_zero];show q2=q2+((0:Nat):Int);omega),by omega,by rw [List.take_zero];exact thR_0 _ _,rfl,hag0,by rw [List.take_zero];exact fun t h=>absurd h List.not_mem_nil⟩,hH,(hA.sub SBT)⟩ ?_ ?_
  · clear hA hH
    rintro j a w ⟨tc',th',q,⟨hj,hqa,hqb,hth,htl,hag',heds⟩,hH,hA⟩
    by_cases hlt:j<bl.e.to.l.length
    rotate_left
    · obtain rfl:j=bl.e.to.l.length:=by omega
      rw [List.take_length] at hth heds hqa
      repeat' (first|(refine QT ?_;clear hA a;intro a hA)|refine CT ?_|(refine DT ?_ ?_<;>intro hc<;>try (exfalso;omega))|fail)
      exact ⟨tc',th',q,⟨hqa,by omega,hth,htl,hag',heds⟩,hH,(hA.sub SBT)⟩
    obtain ⟨t,ht⟩:∃x,bl.e.to.l[j]?=some x:=⟨_,List.getElem?_eq_getElem hlt⟩
    have htm:=List.mem_of_getElem? ht
    have htR:=hbR.2.2.2.2.2.2 t htm
    have hvt:=flat_all encEd_len ht
    repeat' (first|(refine XT ?_;apply XE;(first|(apply ex_load_st (vs:=encEd t);rfl;rfl;exact cls_rd hbR.2.2.2.2.2.1.1 id hvt)|(apply ex_indexAddr_nat;rfl;rfl;omega;exact hspE));clear hA a;intro a hA)|(refine QT ?_;clear hA a;intro a hA)|(refine BT ?_;clear hA hH;rintro _ w ⟨bN,rfl,hH⟩ a hA)|(refine SAT (encEd t) hA hH ?_;clear hH;intro w hH)|(apply st_op0 hA rfl rfl;apply op_store_fld (cs':=encC c (q+1));rfl;rfl;rfl;exact hH;(repeat constructor);clear hH;rintro _ w hH)|refine CT ?_|(refine DT ?_ ?_<;>intro hc<;>try (exfalso;omega))|fail)
    (refine wp_draw3_HS 40 [(0,1),(1,1),(2,1),(3,1),(4,1),(5,1),(6,1),(7,1),(8,1),(9,1),(10,1),(11,1),(12,1),(13,1),(14,1),(15,1),(16,1),(17,1),(18,1),(19,1),(20,1),(21,1),(22,1),(23,1),(24,1),(25,1),(26,1),(27,1),(28,1),(29,1),(30,1),(31,1),(32,1),(33,1),(34,1),(35,1),(36,1)] [37,38,39] mixed (by decide +kernel) hH ?_;replace hH:=hH.drew)
    repeat' (first|(refine GT ?_ ?_<;>intro hg<;>clear hA a<;>intro a hA<;>(first|exact FA|replace hg:=dTr hg|replace hg:=dFa hg|skip))|(refine XT ?_;apply XE;(first|(apply ex_indexAddr;rfl;rfl;omega;omega;exact hsp)|(apply ex_load;rfl;refine cl_rd hR.1.1 id (blk_at ?_);omega));clear hA a;intro a hA)|(refine QT ?_;clear hA a;intro a hA)|refine CT ?_|fail)
    · exact rt1 (.inl rfl) rfl hA rfl (.inl ⟨rfl,fun h=>(by have h1:=h.blk.edges t htm;omega),hH.tail.tail.tail.tail.tail.tail.tail⟩)
    · exact rt1 (.inl rfl) rfl hA rfl (.inl ⟨rfl,fun h=>(by have h1:=h.blk.edges t htm;omega),hH.tail.tail.tail.tail.tail.tail.tail⟩)
    · exact rt1 (.inl rfl) rfl hA rfl (.inl ⟨rfl,fun h=>(by have h1:=(h.blk.edges t htm).2.2.1;omega),hH.tail.tail.tail.tail.tail.tail.tail⟩)
    have hb3:t.a.l.length=(c.f.bs.l.getD t.b.toNat blc0).ps.l.length:=by omega
    have hb1:(n:Int)<t.b:=by omega
    have hb2:t.b<c.f.bs.l.length:=by omega
    have hST2:=hH.perm (H':=cb bC 112 (encC c (q+1))::sk bW ks::cb bN 61 (encEd t)::sk c.bE (es++bvs bl)::own 109 1 c.oT c.nT c.cT (flat encO (tc'))::all (th'.map sko)::cb b5 53 (encBl bl)::H) PMT
    clear hH
    (refine dr_op3 hA rfl rfl rfl (by decide) (op_call rfl rfl rfl (atoms_spec w0 _ _ c bC bW (q+1) ks t.a hST2 htR (by omega) (by omega))) ?_;clear hA hST2)
    rintro _ w (⟨hat,rfl,hH⟩| ⟨hat,rfl,q',hq3,hq4,hH⟩) a hA
    rotate_left
    · repeat' (first|(refine QT ?_;clear hA a;intro a hA)|refine CT ?_|fail)
      exact rt1 (.inl rfl) rfl hA rfl (.inl ⟨rfl,fun h=>hat (ats_of hks (by have h1:=(h.blk.edges t htm).2.2.2;rw [hS0] at h1;exact h1) (by have h1:=h.size;rw [blkN_eq] at h1;have h2:=edgN_at ht;omega)),hH.tail.tail.tail.tail.tail.tail.tail⟩)
    obtain ⟨m,hm1⟩:∃m:Nat,t.b=m:=⟨t.b.toNat,by omega⟩
    have hth0l:th'.length=th0.length:=hth.len
    have hml:m<th'.length:=by omega
    obtain ⟨st',hst'⟩:∃x,th'[m]?=some x:=⟨_,List.getElem?_eq_getElem hml⟩
    have htcm:tc'[m]?=some st':=(hag' m (by omega)).trans hst'
    have hcm:(flat encO tc')[m*1]?=some (mvO st'):=flat_get (off:=0) encO_len htcm (by rw [encO_eq];rfl)
    have hnT:c.nT=th'.length:=by omega
    have htcl:tc'.length=th'.length:=by omega
    repeat' (first|(refine QT ?_;clear hA a;intro a hA)|refine CT ?_|fail)
    replace hH:=hH.perm (H':=cb bC 112 (encC c (q+1+(t.a.l.length:Int)))::own 109 1 c.oT c.nT c.cT (flat encO (tc'))::all (th'.map sko)::sk bW ks::sk c.bE (es++bvs bl)::cb b5 53 (encBl bl)::cb bN 61 (encEd t)::H) PMT
    (refine st_op hA rfl rfl (by decide) (op_call rfl rfl (by rw [hm1];rfl) (meet_spec w0 _ _ c bC bW m _ ks tc' th' st' hH hnT htcl hml hst' hcm)) ?_;clear hA hH)
    rintro _ w ⟨b',ks',hk',hH⟩ a hA
    repeat' (first|(refine QT ?_;clear hA a;intro a hA)|refine CT ?_|fail)
    have hats:∀a∈t.a.l,atS c.g (nowS (Sk k0) bl bl.is.l.length) a:=fun a ha=>at_of hks (hat.1 a ha)
    have hqn:q+1+(t.a.l.length:Int)≤1200000+((j+1:Nat):Int):=by
      rcases hat.2 with h|h
      · rw [h]
        show q+1+(0:Int)≤_
        omega
      · omega
    have hth2:=thR_next (b:=b') hth hm1 hml hst' hks hk'
    rw [←take_snoc ht] at hth2
    have hag2:∀k,n<k→(tc'.set m (some (b',ks')))[k]?=(th'.set m (some (b',ks')))[k]?:=fun k hk=>by
      by_cases he:m=k
      · subst he
        rw [List.getElem?_set_self (by omega),List.getElem?_set_self (by omega)]
      · rw [List.getElem?_set_ne he,List.getElem?_set_ne he]
        exact hag' k hk
    exact ⟨j+1,⟨tc'.set m (some (b',ks')),th'.set m (some (b',ks')),_,⟨hlt,(by rw [edgN_next ht];omega),hqn,hth2,by rw [List.length_set];exact htl,hag2,eds_next ht heds ⟨hb1,hb2,hb3,hats⟩⟩,(hH.rm 6).perm PMT,(hA.sub SBT)⟩,by omega⟩
  clear hA hH
  rintro a w ⟨tc',th',q3,⟨hqa,hqb,hth,htl,hag',heds⟩,hH,hA⟩
  repeat' (first|(refine QT ?_;clear hA a;intro a hA)|refine CT ?_|fail)
  have hfin:HS w0 noM (cb bC 112 (encC c (q3))::sk c.bE (es++bvs bl)::own 109 1 c.oT c.nT c.cT (flat encO (tc'))::all (th'.map sko)::H) w:=((hH.rm 1).rm 4)
  have hqf:q3=p+(blkN bl:Int):=by rw [blkN_eq];omega
  by_cases hmax:q3≤65536
  · rw [decide_eq_true hmax] at hA
    rw [hqf] at hfin
    refine rt1 (.inl rfl) rfl hA rfl (.inr ⟨rfl,⟨hi0,?_,hev1,by omega⟩,tc',th',?_,htl,hag',hfin⟩)
    · rw [hS0]
      exact ⟨hfirst,hins,hbE.1 rfl,hends,heds⟩
    · rw [hS0,←hth0]
      exact hth
  · rw [decide_eq_false hmax] at hA
    exact rt1 (.inl rfl) rfl hA rfl (.inl ⟨rfl,fun h=>(by have h1:=h.size;omega),hfin.tail.tail.tail.tail⟩)
end
theorem strs_at {l:List ByteArray} {k:Nat} (h:k<l.length):(flat encX l)[k*1]?=some (.string (l.getD k default)):=by
  refine flat_get (off:=0) encX_len (List.getElem?_eq_getElem h) ?_
  rw [List.getD_eq_getElem?_getD,List.getElem?_eq_getElem h]
  rfl
theorem idx_at {l:List ByteArray} {s:ByteArray} {i:Nat} (h:∀k,k<i→eqS s (l.getD k default)=false) (hi:i<l.length) (he:eqS s (l.getD i default)=true):idxF l s=i:=by
  unfold idxF
  have:l.findIdx? (fun x=>eqS s x)=some i:=by
    rw [List.findIdx?_eq_some_iff_getElem]
    refine ⟨hi,?_,fun j hj=>?_⟩
    · rw [List.getD_eq_getElem?_getD,List.getElem?_eq_getElem hi] at he
      exact he
    · have h1:=h j hj
      rw [List.getD_eq_getElem?_getD,List.getElem?_eq_getElem (by omega)] at h1
      simpa using h1
  rw [this]
theorem idx_none {l:List ByteArray} {s:ByteArray} (h:∀k,k<l.length→eqS s (l.getD k default)=false):idxF l s= -1:=by
  unfold idxF
  have:l.findIdx? (fun x=>eqS s x)=none:=by
    rw [List.findIdx?_eq_none_iff]
    intro x hx
    obtain ⟨k,hk,rfl⟩:=List.getElem_of_mem hx
    have h1:=h k hk
    rw [List.getD_eq_getElem?_getD,List.getElem?_eq_getElem hk] at h1
    simpa using h1
  rw [this]
theorem lt_next {p:Nat→Prop} {i:Nat} (h:∀k,k<i→p k) (ha:p i):∀k,k<i+1→p k:=fun k hk=>by
  by_cases e:k=i
  · exact e▸ha
  · exact h k (by omega)
theorem ris_no {l:List ByteArray} {i:Nat} (hi:i<l.length) (h:¬risAt l i):false=true↔risP l:=⟨fun e=>(by cases e),fun e=>absurd (e i hi) h⟩
theorem longS_no {l:List ByteArray} {i:Nat} (hi:i<l.length) (h:4096<(l.getD i default).size):¬∀s∈l,s.size≤4096:=fun hc=>by
  have h1:=hc (l.getD i default) (by rw [List.getD_eq_getElem?_getD,List.getElem?_eq_getElem hi];exact List.getElem_mem hi)
  omega
theorem longS_yes {l:List ByteArray} (h:∀k,k<l.length→¬4096<(l.getD k default).size):∀s∈l,s.size≤4096:=fun s hs=>by
  obtain ⟨k,hk,rfl⟩:=List.getElem_of_mem hs
  have h1:=h k hk
  rw [List.getD_eq_getElem?_getD,List.getElem?_eq_getElem hk] at h1
  simpa using h1
section
attribute [local irreducible] Code.wp wpList Calls Ex Op1 sat bat blk cb own Go.Fw.mp Go.Fw.mpO Go.Fw.mpI Go.Fw.mpE Go.Fw.itr HS Rd Ret wkD Hp Cl Cls Exit.then Exit.inBlock Exit.noGoto bodyPost Go.Fw.flat wk2 Go.Fw.all Go.Fw.owns wpOp
attribute [local irreducible] sk mpK sko mvO entK geS idxF

theorem rising_spec (w0:World) (v:Vec ByteArray) (hR:RdV w0 encX v):Ret Tryz.prog 41 #[.slice v.o v.l.length v.c] w0 (fun r w=>∃b,r= .bool b∧(b=true↔risP v.l)∧Kp w0 noM w):=by
  have hH:HS w0 noM [] w0:=HS.init w0 noM
  have hle:=hR.le
  have hsp:Sp v.o v.l.length:=hR.1.sp (sz:=1) (flat_length encX_len _) (by omega)
  (refine ENT (N:=28) Tryz.func41 Tryz.ntmps41 ?_;intro a hA)
  repeat' (first|(refine QT ?_;clear hA a;intro a hA)|refine CT ?_|fail)
  refine wp_lpk (S:=Nat) (fun i a w=>(i≤v.l.length∧∀k,k<i→risAt v.l k)∧HS w0 noM [] w∧Sl 28 [(7,.int .i64 i),(6,.int .i64 v.l.length),(5,.slice v.o v.l.length v.c),(0,.slice v.o v.l.length v.c)] a) (fun i=>v.l.length - i)
    (fun a w=>risP v.l∧HS w0 noM [] w∧Sl 28 [] a) 0 ⟨⟨Nat.zero_le _,fun k h=>absurd h (Nat.not_lt_zero _)⟩,hH,(hA.sub SBT)⟩ ?_ ?_
  · clear hA hH
    rintro i a w ⟨⟨hi,hris⟩,hH,hA⟩
    by_cases hlt:i<v.l.length
    rotate_left
    · repeat' (first|(refine QT ?_;clear hA a;intro a hA)|refine CT ?_|(refine DT ?_ ?_<;>intro hc<;>try (exfalso;omega))|fail)
      obtain rfl:i=v.l.length:=by omega
      exact ⟨hris,hH,(hA.sub SBT)⟩
    have e1:((i:Int) - 1).toNat=i - 1:=by omega
    repeat' (first|(refine GT ?_ ?_<;>intro hg<;>clear hA a<;>intro a hA<;>(first|exact FA|replace hg:=dTr hg|replace hg:=dFa hg|skip))|(refine XT ?_;apply XE;(first|(apply ex_eqlS;rfl;rfl)|(apply ex_geqS;rfl;rfl)|(apply ex_indexAddr_nat;rfl;rfl;omega;exact hsp)|(apply ex_indexAddr;rfl;rfl;omega;omega;exact hsp)|(apply ex_load;rfl;refine cl_rd hR.1 id (strs_at ?_);omega));clear hA a;intro a hA)|(refine QT ?_;clear hA a;intro a hA)|refine CT ?_|(refine DT ?_ ?_<;>intro hc<;>try (exfalso;omega))|fail)
    all_goals first
      |exact ⟨i+1,⟨⟨hlt,lt_next hris ⟨by assumption,fun h0=>(by omega)⟩⟩,hH,(hA.sub SBT)⟩,by omega⟩
      |exact ⟨i+1,⟨⟨hlt,lt_next hris ⟨by assumption,fun h0=>(by rw [←e1];assumption)⟩⟩,hH,(hA.sub SBT)⟩,by omega⟩
      |exact rt1 (.inl rfl) rfl hA rfl ⟨_,rfl,ris_no hlt (fun h=>absurd ((by assumption:eqS (v.l.getD i default) empS=true).symm.trans h.1) (by decide)),hH.kp⟩
      |exact rt1 (.inl rfl) rfl hA rfl ⟨_,rfl,ris_no hlt (fun h=>(by have h1:=h.2 (by omega);rw [←e1] at h1;exact absurd ((by assumption:geS (v.l.getD ((i:Int) - 1).toNat default) (v.l.getD i default)=true).symm.trans h1) (by decide))),hH.kp⟩
  clear hA hH
  rintro a w ⟨hris,hH,hA⟩
  repeat' (first|(refine QT ?_;clear hA a;intro a hA)|refine CT ?_|fail)
  exact rt1 (.inl rfl) rfl hA rfl ⟨_,rfl,iff_of_true rfl hris,hH.kp⟩
theorem indexX_spec (w0:World) (v:Vec ByteArray) (s:ByteArray) (hR:RdV w0 encX v):Ret Tryz.prog 76 #[.slice v.o v.l.length v.c,.string s] w0 (fun r w=>r= .int .i64 (idxF v.l s)∧Kp w0 noM w):=by
  have hH:HS w0 noM [] w0:=HS.init w0 noM
  have hle:=hR.le
  have hsp:Sp v.o v.l.length:=hR.1.sp (sz:=1) (flat_length encX_len _) (by omega)
  (refine ENT (N:=19) Tryz.func76 Tryz.ntmps76 ?_;intro a hA)
  repeat' (first|(refine QT ?_;clear hA a;intro a hA)|refine CT ?_|fail)
  refine wp_lpk (S:=Nat) (fun i a w=>(i≤v.l.length∧∀k,k<i→eqS s (v.l.getD k default)=false)∧HS w0 noM [] w∧Sl 19 [(8,.int .i64 i),(7,.int .i64 v.l.length),(1,.string s),(0,.slice v.o v.l.length v.c)] a) (fun i=>v.l.length - i)
    (fun a w=>idxF v.l s= -1∧HS w0 noM [] w∧Sl 19 [] a) 0 ⟨⟨Nat.zero_le _,fun k h=>absurd h (Nat.not_lt_zero _)⟩,hH,(hA.sub SBT)⟩ ?_ ?_
  · clear hA hH
    rintro i a w ⟨⟨hi,hno⟩,hH,hA⟩
    by_cases hlt:i<v.l.length
    rotate_left
    · repeat' (first|(refine QT ?_;clear hA a;intro a hA)|refine CT ?_|(refine DT ?_ ?_<;>intro hc<;>try (exfalso;omega))|fail)
      obtain rfl:i=v.l.length:=by omega
      exact ⟨idx_none hno,hH,(hA.sub SBT)⟩
    repeat' (first|(refine XT ?_;apply XE;(first|(apply ex_eqlS;rfl;rfl)|(apply ex_indexAddr_nat;rfl;rfl;omega;exact hsp)|(apply ex_load;rfl;refine cl_rd hR.1 id (strs_at ?_);omega));clear hA a;intro a hA)|(refine QT ?_;clear hA a;intro a hA)|refine CT ?_|(refine DT ?_ ?_<;>intro hc<;>try (exfalso;omega))|fail)
    all_goals first|exact ⟨i+1,⟨⟨hlt,lt_next hno (by assumption)⟩,hH,(hA.sub SBT)⟩,by omega⟩|exact rt1 (.inl rfl) rfl hA rfl ⟨by rw [idx_at hno hlt (by assumption)],hH.kp⟩
  clear hA hH
  rintro a w ⟨hno,hH,hA⟩
  repeat' (first|(refine QT ?_;clear hA a;intro a hA)|refine CT ?_|fail)
  exact rt1 (.inl rfl) rfl hA rfl ⟨by rw [hno],hH.kp⟩
theorem containsX_spec (w0:World) (v:Vec ByteArray) (s:ByteArray) (hR:RdV w0 encX v):Ret Tryz.prog 42 #[.slice v.o v.l.length v.c,.string s] w0 (fun r w=>r= .bool (decide (0≤idxF v.l s))∧Kp w0 noM w):=by
  have hH:HS w0 noM [] w0:=HS.init w0 noM
  (refine ENT (N:=9) Tryz.func42 Tryz.ntmps42 ?_;intro a hA)
  repeat' (first|(refine QT ?_;clear hA a;intro a hA)|refine CT ?_|fail)
  (refine st_op hA rfl rfl (by decide) (op_call rfl rfl rfl (indexX_spec _ v s (hR.keep hH.kp))) ?_;clear hA;rintro _ w ⟨rfl,hk⟩ a hA;replace hH:=hH.keep hk;clear hk)
  repeat' (first|(refine QT ?_;clear hA a;intro a hA)|refine CT ?_|fail)
  exact rt1 (.inl rfl) rfl hA rfl ⟨rfl,hH.kp⟩
theorem long_spec (w0:World) (s:ByteArray):Ret Tryz.prog 44 #[.string s] w0 (fun r w=>r= .bool (decide (4096<s.size))∧Kp w0 noM w):=by
  have hH:HS w0 noM [] w0:=HS.init w0 noM
  (refine ENT (N:=6) Tryz.func44 Tryz.ntmps44 ?_;intro a hA)
  repeat' (first|(refine XT ?_;apply XE;(first|(apply ex_len_string;rfl));clear hA a;intro a hA)|(refine QT ?_;clear hA a;intro a hA)|refine CT ?_|fail)
  exact rt1 (.inl rfl) rfl hA rfl ⟨by rw [bts_len];congr 1;exact decide_eq_decide.2 (by omega),hH.kp⟩
theorem indexFX_spec (w0:World) (v:Vec ByteArray) (hR:RdV w0 encX v):Ret Tryz.prog 77 #[.slice v.o v.l.length v.c,.func (.func 44) #[] #[]] w0 (fun r w=>∃n,r= .int .i64 n∧(0≤n↔¬∀s∈v.l,s.size≤4096)∧Kp w0 noM w):=by
  have hH:HS w0 noM [] w0:=HS.init w0 noM
  have hle:=hR.le
  have hsp:Sp v.o v.l.length:=hR.1.sp (sz:=1) (flat_length encX_len _) (by omega)
  (refine ENT (N:=19) Tryz.func77 Tryz.ntmps77 ?_;intro a hA)
  repeat' (first|(refine QT ?_;clear hA a;intro a hA)|refine CT ?_|fail)
  refine wp_lpk (S:=Nat) (fun i a w=>(i≤v.l.length∧∀k,k<i→¬4096<(v.l.getD k default).size)∧HS w0 noM [] w∧Sl 19 [(8,.int .i64 i),(7,.int .i64 v.l.length),(1,.func (.func 44) #[] #[]),(0,.slice v.o v.l.length v.c)] a) (fun i=>v.l.length - i)
    (fun a w=>(∀s∈v.l,s.size≤4096)∧HS w0 noM [] w∧Sl 19 [] a) 0 ⟨⟨Nat.zero_le _,fun k h=>absurd h (Nat.not_lt_zero _)⟩,hH,(hA.sub SBT)⟩ ?_ ?_
  · clear hA hH
    rintro i a w ⟨⟨hi,hno⟩,hH,hA⟩
    by_cases hlt:i<v.l.length
    rotate_left
    · repeat' (first|(refine QT ?_;clear hA a;intro a hA)|refine CT ?_|(refine DT ?_ ?_<;>intro hc<;>try (exfalso;omega))|fail)
      obtain rfl:i=v.l.length:=by omega
      exact ⟨longS_yes hno,hH,(hA.sub SBT)⟩
    repeat' (first|(refine XT ?_;apply XE;(first|(apply ex_indexAddr_nat;rfl;rfl;omega;exact hsp)|(apply ex_load;rfl;refine cl_rd hR.1 id (strs_at ?_);omega));clear hA a;intro a hA)|(refine QT ?_;clear hA a;intro a hA)|refine CT ?_|(refine DT ?_ ?_<;>intro hc<;>try (exfalso;omega))|fail)
    (refine st_op hA rfl rfl (by decide) (op_call rfl rfl rfl (long_spec _ _)) ?_;clear hA;rintro _ w ⟨rfl,hk⟩ a hA;replace hH:=hH.keep hk;clear hk)
    repeat' (first|(refine QT ?_;clear hA a;intro a hA)|refine CT ?_|(refine DT ?_ ?_<;>intro hc<;>try (exfalso;omega))|fail)
    all_goals first|exact ⟨i+1,⟨⟨hlt,lt_next hno (by assumption)⟩,hH,(hA.sub SBT)⟩,by omega⟩|exact rt1 (.inl rfl) rfl hA rfl ⟨_,rfl,iff_of_true (by omega) (longS_no hlt (by assumption)),hH.kp⟩
  clear hA hH
  rintro a w ⟨hall,hH,hA⟩
  repeat' (first|(refine QT ?_;clear hA a;intro a hA)|refine CT ?_|fail)
  exact rt1 (.inl rfl) rfl hA rfl ⟨_,rfl,iff_of_false (by decide) (fun h=>h hall),hH.kp⟩
theorem containsFX_spec (w0:World) (v:Vec ByteArray) (hR:RdV w0 encX v):Ret Tryz.prog 43 #[.slice v.o v.l.length v.c,.func (.func 44) #[] #[]] w0 (fun r w=>∃b,r= .bool b∧(b=true↔¬∀s∈v.l,s.size≤4096)∧Kp w0 noM w):=by
  have hH:HS w0 noM [] w0:=HS.init w0 noM
  (refine ENT (N:=9) Tryz.func43 Tryz.ntmps43 ?_;intro a hA)
  repeat' (first|(refine QT ?_;clear hA a;intro a hA)|refine CT ?_|fail)
  (refine st_op hA rfl rfl (by decide) (op_call rfl rfl rfl (indexFX_spec _ v (hR.keep hH.kp))) ?_;clear hA;rintro _ w ⟨n,rfl,hn,hk⟩ a hA;replace hH:=hH.keep hk;clear hk)
  repeat' (first|(refine QT ?_;clear hA a;intro a hA)|refine CT ?_|fail)
  exact rt1 (.inl rfl) rfl hA rfl ⟨_,rfl,decide_eq_true_iff.trans hn,hH.kp⟩
end
def encB (o:Option Addr):List Value:=[.int .i64 2,.int .i64 0,.slice none 0 0,.int .i64 0,.slice none 0 0,.int .i64 0,.int .i64 0,.slice none 0 0,.slice none 0 0,.slice o 1 1,.slice none 0 0]
def at0:Atm:=⟨2,0⟩
structure Kk where
  oP:Option Addr
  nP:Nat
  cP:Nat
  g:Grs
  oA:Option Addr
  nA:Nat
  cA:Nat
  caps:Int
  e:Option Nat
  n:Option Nat
  j:Option Nat
  o:Option Nat
def encKk (c:Kk) (p:Int):List Value:=[.slice c.oP c.nP c.cP,.slice c.g.ls.o c.g.ls.l.length c.g.ls.c,.slice c.g.ts.o c.g.ts.l.length c.g.ts.c,.slice c.g.xs.o c.g.xs.l.length c.g.xs.c,.slice c.g.ss.o c.g.ss.l.length c.g.ss.c,
  .slice c.oA c.nA c.cA,.int .i64 p,.int .i64 c.caps,.map c.e,.map c.n,.map c.j,.map c.o]
section
attribute [local irreducible] Code.wp wpList Calls Ex Op1 sat bat blk cb own Go.Fw.mp Go.Fw.mpO Go.Fw.mpI Go.Fw.mpE Go.Fw.itr HS Rd Ret wkD Hp Cl Cls Exit.then Exit.inBlock Exit.noGoto bodyPost Go.Fw.flat wk2 Go.Fw.all Go.Fw.owns wpOp
attribute [local irreducible] sk mpK sko mvO entK geS

theorem indexFA_spec (w0:World) (f:Value):Ret Tryz.prog 113 #[.slice none 0 0,f] w0 (fun r w=>r= .int .i64 (-1)∧Kp w0 noM w):=by
  have hH:HS w0 noM [] w0:=HS.init w0 noM
  (refine ENT (N:=19) Tryz.func113 Tryz.ntmps113 ?_;intro a hA)
  repeat' (first|(refine QT ?_;clear hA a;intro a hA)|refine CT ?_|fail)
  refine wp_lpk (S:=Nat) (fun i a w=>i=0∧HS w0 noM [] w∧Sl 19 [(8,.int .i64 0),(7,.int .i64 0)] a) (fun i=>i) (fun a w=>HS w0 noM [] w∧Sl 19 [] a) 0 ⟨rfl,hH,(hA.sub SBT)⟩ ?_ ?_
  · clear hA hH
    rintro i a w ⟨hi,hH,hA⟩
    repeat' (first|(refine QT ?_;clear hA a;intro a hA)|refine CT ?_|fail)
    exact ⟨hH,(hA.sub SBT)⟩
  clear hA hH
  rintro a w ⟨hH,hA⟩
  repeat' (first|(refine QT ?_;clear hA a;intro a hA)|refine CT ?_|fail)
  exact rt1 (.inl rfl) rfl hA rfl ⟨rfl,hH.kp⟩
theorem containsFA_spec (w0:World) (f:Value):Ret Tryz.prog 84 #[.slice none 0 0,f] w0 (fun r w=>r= .bool false∧Kp w0 noM w):=by
  have hH:HS w0 noM [] w0:=HS.init w0 noM
  (refine ENT (N:=9) Tryz.func84 Tryz.ntmps84 ?_;intro a hA)
  repeat' (first|(refine QT ?_;clear hA a;intro a hA)|refine CT ?_|fail)
  (refine st_op hA rfl rfl (by decide) (op_call rfl rfl rfl (indexFA_spec _ f)) ?_;clear hA;rintro _ w ⟨rfl,hk⟩ a hA;replace hH:=hH.keep hk;clear hk)
  repeat' (first|(refine QT ?_;clear hA a;intro a hA)|refine CT ?_|fail)
  exact rt1 (.inl rfl) rfl hA rfl ⟨rfl,hH.kp⟩
def shp2:List Value:=[.bool false,.bool false,.bool false,.bool false,.bool false,.int .i64 1,.int .i64 0]
theorem shapes_spec (w0:World):Ret Tryz.prog 78 #[.int .i64 2] w0 (fun r w=>r= .tuple #[.agg shp2.toArray,.bool true]∧Kp w0 noM w):=by
  have hH:HS w0 noM [] w0:=HS.init w0 noM
  (refine ENT (N:=28) Tryz.func78 Tryz.ntmps78 ?_;intro a hA)
  repeat' (first|(refine XT ?_;apply XE;(first|(apply ex_build_p (cs:=shp2.toArray);rfl;exact FLT;rfl));clear hA a;intro a hA)|(refine QT ?_;clear hA a;intro a hA)|(refine BT ?_;clear hA hH;rintro _ w ⟨bN,rfl,hH⟩ a hA)|(refine SAT (shp2) hA hH ?_;clear hH;intro w hH)|refine CT ?_|fail)
  exact rt2c (vs:=shp2) (.inl rfl) rfl hA rfl rfl rfl hH (cls_cb_all (by exact MEMT)) ⟨rfl,hH.kp⟩
theorem atomsA_spec (w0 w:World) (H:List It) (c:Kk) (bK:Nat) (p:Int) (o:Option Addr) (hH:HS w0 noM (cb bK 127 (encKk c (p))::H) w) (hr:Rd w0 o (encAt at0)) (hp0:0≤p) (hp1:p≤60001) :
    Ret Tryz.prog 79 #[.pointer (some (bat bK 0)),.slice o 1 1] w (fun r w'=>r= .bool true∧HS w0 noM (cb bK 127 (encKk c (p+1))::H) w'):=by
  have hsp:Sp o 1:=hr.sp (sz:=2) rfl (by omega)
  (refine ENT (N:=78) Tryz.func79 Tryz.ntmps79 ?_;intro a hA)
  repeat' (first|(refine QT ?_;clear hA a;intro a hA)|refine CT ?_|fail)
  refine wp_lpk (S:=Nat) (fun i a w=>i≤1∧HS w0 noM (cb bK 127 (encKk c (p+(i:Int)))::H) w∧Sl 78 [(10,.int .i64 i),(9,.int .i64 (1:Nat)),(8,.slice o 1 1),(0,.pointer (some (bat bK 0)))] a) (fun i=>1 - i)
    (fun a w=>HS w0 noM (cb bK 127 (encKk c (p+1))::H) w∧Sl 78 [] a) 0 ⟨by omega,(by rw [show p+((0:Nat):Int)=p by omega];exact hH),(hA.sub SBT)⟩ ?_ ?_
  · clear hA hH
    rintro i a w ⟨hi,hH,hA⟩
    by_cases hlt:i<1
    rotate_left
    · obtain rfl:i=1:=by omega
      repeat' (first|(refine QT ?_;clear hA a;intro a hA)|refine CT ?_|fail)
      exact ⟨hH,(hA.sub SBT)⟩
    obtain rfl:i=0:=by omega
    rw [show p+((0:Nat):Int)=p by omega] at hH
    repeat' (first|(refine GT ?_ ?_<;>intro hg<;>clear hA a<;>intro a hA<;>(first|exact FA|replace hg:=dTr hg|replace hg:=dFa hg|skip))|(refine XT ?_;apply XE;(first|(apply ex_load_st (vs:=encAt at0);rfl;rfl;exact cls_rd hr id (fun i v h=>(by rw [Nat.zero_mul,Nat.zero_add];exact h)))|(apply ex_indexAddr_nat;rfl;rfl;omega;exact hsp));clear hA a;intro a hA)|(refine QT ?_;clear hA a;intro a hA)|(refine BT ?_;clear hA hH;rintro _ w ⟨bN,rfl,hH⟩ a hA)|(refine SAT (encAt at0) hA hH ?_;clear hH;intro w hH)|(apply st_op0 hA rfl rfl;apply op_store_fld (cs':=encKk c (p+1));rfl;rfl;rfl;exact hH;(repeat constructor);clear hH;rintro _ w hH)|refine CT ?_|(refine DT ?_ ?_<;>intro hc<;>try (exfalso;omega))|fail)
    all_goals first|exact ⟨1,⟨by omega,hH.tail,(hA.sub SBT)⟩,by omega⟩|(exfalso;have h1:=nd_t (by assumption);omega)|skip
  clear hA hH
  rintro a w ⟨hH,hA⟩
  repeat' (first|(refine QT ?_;clear hA a;intro a hA)|refine CT ?_|fail)
  exact rt1 (.inl rfl) rfl hA rfl ⟨rfl,hH⟩
theorem body_spec (w0 w:World) (H:List It) (c:Kk) (bK:Nat) (p:Int) (o:Option Addr) (hH:HS w0 noM (cb bK 127 (encKk c (p))::H) w) (hr:Rd w0 o (encAt at0)) (hp0:0≤p) (hp1:p≤60000) :
    Ret Tryz.prog 45 #[.pointer (some (bat bK 0)),.agg (encB o).toArray,.int .i64 1] w (fun r w'=>r= .bool true∧HS w0 noM (cb bK 127 (encKk c (p+2))::H) w'):=by
  (refine ENT (N:=241) Tryz.func45 Tryz.ntmps45 ?_;intro a hA)
  repeat' (first|(refine QT ?_;clear hA a;intro a hA)|(refine BT ?_;clear hA hH;rintro _ w ⟨bN,rfl,hH⟩ a hA)|refine CT ?_|fail)
  (refine st_op hA rfl rfl (by decide) (op_call rfl rfl rfl (shapes_spec _)) ?_;clear hA;rintro _ w ⟨rfl,hk⟩ a hA;replace hH:=hH.keep hk;clear hk)
  repeat' (first|(refine GT ?_ ?_<;>intro hg<;>clear hA a<;>intro a hA<;>(first|exact FA|replace hg:=dTr hg|replace hg:=dFa hg|skip))|(refine QT ?_;clear hA a;intro a hA)|(refine BT ?_;clear hA hH;rintro _ w ⟨bN,rfl,hH⟩ a hA)|(refine SAT (shp2) hA hH ?_;clear hH;intro w hH)|(apply st_op0 hA rfl rfl;apply op_store_fld (cs':=encKk c (p+1));rfl;rfl;rfl;exact hH;(repeat constructor);clear hH;rintro _ w hH)|refine CT ?_|fail)
  replace hH:=hH.up 4 rfl
  dsimp only [List.eraseIdx_cons_succ,List.eraseIdx_cons_zero] at hH
  (refine st_op hA rfl rfl (by decide) (op_call rfl rfl rfl (atomsA_spec w0 _ _ c bK (p+1) o hH hr (by omega) (by omega))) ?_;clear hA hH)
  rintro _ w ⟨rfl,hH⟩ a hA
  repeat' (first|(refine QT ?_;clear hA a;intro a hA)|refine CT ?_|fail)
  (refine st_op hA rfl rfl (by decide) (op_call rfl rfl rfl (containsFA_spec _ _)) ?_;clear hA;rintro _ w ⟨rfl,hk⟩ a hA;replace hH:=hH.keep hk;clear hk)
  repeat' (first|(refine QT ?_;clear hA a;intro a hA)|refine CT ?_|fail)
  rw [show p+1+1=p+2 by omega] at hH
  exact rt1 (.inl rfl) rfl hA rfl ⟨rfl,hH.rm 1 |>.rm 1 |>.rm 1 |>.rm 1⟩
end
inductive AN where
  |mk (k x:Int) (xs:Vec Int) (n:Int) (ns:Vec Int) (r:Stp) (a:Vec Atm) (ko:Option Addr) (kc:Nat) (kids:List AN)
def AN.k:AN→Int| .mk k _ _ _ _ _ _ _ _ _=>k
def AN.x:AN→Int| .mk _ x _ _ _ _ _ _ _ _=>x
def AN.xs:AN→Vec Int| .mk _ _ xs _ _ _ _ _ _ _=>xs
def AN.n:AN→Int| .mk _ _ _ n _ _ _ _ _ _=>n
def AN.ns:AN→Vec Int| .mk _ _ _ _ ns _ _ _ _ _=>ns
def AN.r:AN→Stp| .mk _ _ _ _ _ r _ _ _ _=>r
def AN.a:AN→Vec Atm| .mk _ _ _ _ _ _ a _ _ _=>a
def AN.kids:AN→List AN| .mk _ _ _ _ _ _ _ _ _ kids=>kids
def encN:AN→List Value
  | .mk k x xs n ns r a ko kc kids=>[.int .i64 k,.int .i64 x,.slice xs.o xs.l.length xs.c,.int .i64 n,.slice ns.o ns.l.length ns.c,.int .i64 r.k,.int .i64 r.n,.slice r.ns.o r.ns.l.length r.ns.c,.slice r.a.o r.a.l.length r.a.c,.slice a.o a.l.length a.c,.slice ko kids.length kc]
theorem encN_len:∀b:AN,(encN b).length=11
  | .mk ..=>rfl
inductive RdN (w:World):AN→Prop
  | mk {k x n:Int} {xs ns:Vec Int} {r:Stp} {a:Vec Atm} {ko:Option Addr} {kc:Nat} {kids:List AN} (h1:RdV w Fw.encI xs∧xs.l.length≤17592186044416) (h2:RdV w Fw.encI ns∧ns.l.length≤17592186044416)
      (h3:RdV w Fw.encI r.ns∧r.ns.l.length≤17592186044416) (h4:RdV w encAt r.a∧r.a.l.length≤17592186044416) (h5:RdV w encAt a∧a.l.length≤17592186044416) (h6:RdV w encN ⟨ko,kc,kids⟩∧kids.length≤17592186044416) (h7:∀b∈kids,RdN w b):RdN w (.mk k x xs n ns r a ko kc kids)
theorem RdN.keep {w w':World} {b:AN} (h:RdN w b) (hk:Kp w noM w'):RdN w' b:=by
  induction h with
  |mk h1 h2 h3 h4 h5 h6 h7 ih=>exact .mk ⟨h1.1.keep hk,h1.2⟩ ⟨h2.1.keep hk,h2.2⟩ ⟨h3.1.keep hk,h3.2⟩ ⟨h4.1.keep hk,h4.2⟩ ⟨h5.1.keep hk,h5.2⟩ ⟨h6.1.keep hk,h6.2⟩ ih
theorem rd_cell {w:World} {o:Option Addr} {xs:List Value} {j:Nat} {v:Value} (h:Rd w o xs) (hv:xs[j]?=some v):w.cell? (sat o j)=some v:=h.2 j v hv
structure CS where
  ever:List Int
  now:List Int
  js:List (Int × Int)
  op:List Int
  p:Int
def atA (g:Grs) (ks:List Int) (a:Atm):Prop:=(a.k=1∧0≤a.n∧a.n≤1048576∧a.n∈ks)∨(a.k=2∧-4611686018427387904≤a.n∧a.n≤4611686018427387903)∨(a.k=3∧0≤a.n∧a.n<g.ss.l.length)
def atsA (g:Grs) (ks:List Int) (p:Int) (l:List Atm):Prop:=(∀a∈l,atA g ks a)∧(l=[]∨p+l.length≤65536)
structure ShpP (k x:Int) (xs:List Int) (n:Int) (ns:List Int) (r:Stp) (a:List Atm) (kids:Nat):Prop where
  x:k=1∨x=0
  xs:k=7∨xs=[]
  n:k=7∨k=8∨n=0
  ns:k=6∨ns=[]
  r:k=1∨(r.k=0∧r.n=0∧r.ns.l=[]∧r.a.l=[])
  a:(k=2∨k=4∨k=5∨k=6→a.length=1)∧(k=3→a.length=2)∧(k=1∨k=7→a=[])
  kids:(k=1→kids=1)∧(k=5∨k=7→kids=2)∧(k=2∨k=3∨k=4∨k=8→kids=0)
section
open Classical
variable (g:Grs) (la:List Int) (mine:Int)
noncomputable def bindL:List Int→List Int→List Int→Option (List Int × List Int)
  | [],es,ks=>some (es,ks)
  |x::l,es,ks=>if bindP es x then bindL l (es++[x]) (ks++[x]) else none
noncomputable def bindF (l:List Int) (s:CS):Option CS:=(bindL l s.ever s.now).map fun q=>{s with ever:=q.1,now:=q.2}
def unbF (l:List Int) (s:CS):CS:={s with now:=l.foldl sdel s.now}
noncomputable def atsF (l:List Atm) (s:CS):Option CS:=if atsA g s.now s.p l then some {s with p:=s.p+l.length} else none
noncomputable def stepF (r:Stp) (s:CS):Option CS:=if FormP g la mine r then atsF g r.a.l s else none
def opF (n:Int) (s:CS):CS:={s with op:=sadd s.op n}
def shF (n:Int) (s:CS):CS:={s with op:=sdel s.op n}
noncomputable def newJ (xs:List Int) (n:Int) (s:CS):Option CS:=if (lkI s.js n).isSome then none else bindF xs {s with js:=setI s.js n xs.length}
noncomputable def preF (b:AN) (d:Int) (s:CS):Option CS:=
  if (1≤b.k∧b.k≤8)∧s.p+1≤65536∧d≤32768∧ShpP b.k b.x b.xs.l b.n b.ns.l b.r b.a.l b.kids.length then atsF g b.a.l {s with p:=s.p+1} else none
mutual
noncomputable def bodyF:AN→Int→CS→Option CS
  | .mk k x xs n ns r a ko kc kids,d,s=>(preF g (.mk k x xs n ns r a ko kc kids) d s).bind fun s=>
    if k=1 then ((stepF g la mine r s).bind (bindF [x])).bind fun s=>(firstF kids (d+1) s).map (unbF [x])
    else if k=7 then (newJ xs.l n s).bind fun s=>joinF kids xs.l n (d+1) s
    else if k=8 then (if n∈s.op∧(a.l.length:Int)=(lkI s.js n).getD 0 then some s else none)
    else if k=6 then (if upP ns.l∧ns.l≠[]∧kids.length=ns.l.length+1 then kidsF kids (d+1) s else none)
    else kidsF kids (d+1) s
noncomputable def firstF:List AN→Int→CS→Option CS
  | [],_,_=>none
  |b::_,d,s=>bodyF b d s
noncomputable def joinF:List AN→List Int→Int→Int→CS→Option CS
  | [],_,_,_,_=>none
  |b::l,xs,n,d,s=>(bodyF b d s).bind fun s=>(firstF l d (opF n (unbF xs s))).map (shF n)
noncomputable def kidsF:List AN→Int→CS→Option CS
  | [],_,s=>some s
  |b::l,d,s=>(bodyF b d s).bind fun s=>kidsF l d s
end
end
theorem atka {g:Grs} {ks:List Int} {a:Atm}:atA g ks a↔(a.k=1∧0≤a.n∧a.n≤1048576∧a.n∈ks)∨(a.k=2∧-4611686018427387904≤a.n∧a.n≤4611686018427387903)∨(a.k=3∧0≤a.n∧a.n<g.ss.l.length):=Iff.rfl
theorem atsa_next {g:Grs} {ks:List Int} {l:List Atm} {i:Nat} {a:Atm} (h:l[i]?=some a) (hp:∀b∈l.take i,atA g ks b) (ha:atA g ks a):∀b∈l.take (i+1),atA g ks b:=by
  intro b hb
  rw [take_snoc h] at hb
  rcases List.mem_append.1 hb with h1|h1
  · exact hp b h1
  · rw [List.mem_singleton] at h1
    exact h1▸ha
theorem atsa_no {g:Grs} {ks:List Int} {p:Int} {l:List Atm} {i:Nat} {a:Atm} (h:l[i]?=some a) (ha:¬atA g ks a):¬atsA g ks p l:=fun hc=>ha (hc.1 a (List.mem_of_getElem? h))
theorem atsa_many {g:Grs} {ks:List Int} {p:Int} {l:List Atm} {i:Nat} (hi:i<l.length) (h:65536<p+((i+1:Nat):Int)):¬atsA g ks p l:=by
  rintro ⟨_,h2|h2⟩
  · rw [h2] at hi
    cases hi
  · omega
section
attribute [local irreducible] Code.wp wpList Calls Ex Op1 sat bat blk cb own Go.Fw.mp Go.Fw.mpO Go.Fw.mpI Go.Fw.mpE Go.Fw.itr HS Rd Ret wkD Hp Cl Cls Exit.then Exit.inBlock Exit.noGoto bodyPost Go.Fw.flat wk2 Go.Fw.all Go.Fw.owns wpOp
attribute [local irreducible] sk mpK sko mvO entK

theorem atomsN_spec (w0 w:World) (H:List It) (c:Kk) (bK bW:Nat) (p:Int) (ks:List Int) (v:Vec Atm) (hc:c.n=some bW) (hH:HS w0 noM (cb bK 127 (encKk c p)::sk bW ks::H) w) (hR:RdV w0 encAt v) (hp0:0≤p) (hp1:p≤65536) :
    Ret Tryz.prog 79 #[.pointer (some (bat bK 0)),.slice v.o v.l.length v.c] w (fun r w'=>
      (atsA c.g ks p v.l∧r= .bool true∧HS w0 noM (cb bK 127 (encKk c (p+v.l.length))::sk bW ks::H) w')∨
      (¬atsA c.g ks p v.l∧r= .bool false∧∃p',HS w0 noM (cb bK 127 (encKk c p')::sk bW ks::H) w')):=by
  obtain ⟨oP,nP,cP,g,oA,nA,cA,caps,e,n,j,o⟩:=c
  obtain rfl:n=some bW:=hc
  have hle:=hR.le
  have hsp:Sp v.o v.l.length:=hR.1.sp (sz:=2) (flat_length encAt_len _) (by omega)
  (refine ENT (N:=78) Tryz.func79 Tryz.ntmps79 ?_;intro a hA)
  repeat' (first|(first|(refine GT ?_ ?_<;>intro hg<;>clear hA a<;>intro a hA<;>(first|exact FA|replace hg:=dTr hg|replace hg:=dFa hg|skip))|(refine QT ?_;clear hA a;intro a hA)|(first|(refine BT ?_;clear hA hH;rintro _ w ⟨bN,rfl,hH⟩ a hA)|(refine LT ?_;clear hA hH;rintro _ w ⟨oN,rfl,hH⟩ a hA)|(refine AT ?_;clear hA;rintro _ w ⟨oN,cN,rfl,hH2⟩ a hA;clear hH;have hH:=(hH2 _ (by (repeat constructor))).tail;clear hH2)|(refine S0T ?_;clear hH;rintro _ w hH)))|refine CT ?_|(refine DT ?_ ?_<;>intro hc<;>try (exfalso;omega))|(first|(refine DSK ?_;clear hA a;intro a hA)|(first|(refine DLT ?_;clear hA hH;rintro _ w ⟨oN,rfl,hH⟩;refine ⟨STT,?_⟩;intro a hA)|(refine DAT ?_;clear hA;rintro _ w ⟨oN,cN,rfl,hH2⟩;clear hH;have hH:=(hH2 _ (by (repeat constructor))).tail;clear hH2;refine ⟨STT,?_⟩;intro a hA))))
  refine wp_lpk (S:=Nat) (fun i a w=>(i≤v.l.length∧(∀b∈v.l.take i,atA g ks b)∧(i=0∨p+i≤65536))∧HS w0 noM (cb bK 127 (encKk ⟨oP,nP,cP,g,oA,nA,cA,caps,e,some bW,j,o⟩ (p+i))::sk bW ks::H) w∧Sl 78 [(10,.int .i64 i),(9,.int .i64 v.l.length),(8,.slice v.o v.l.length v.c),(0,.pointer (some (bat bK 0)))] a) (fun i=>v.l.length - i)
    (fun a w=>atsA g ks p v.l∧HS w0 noM (cb bK 127 (encKk ⟨oP,nP,cP,g,oA,nA,cA,caps,e,some bW,j,o⟩ (p+v.l.length))::sk bW ks::H) w∧Sl 78 [] a) 0 ⟨⟨Nat.zero_le _,(by rw [List.take_zero];exact fun b h=>absurd h List.not_mem_nil),.inl rfl⟩,(by rw [show p+((0:Nat):Int)=p by omega];exact hH),(hA.sub SBT)⟩ ?_ ?_
  · clear hA hH
    rintro i a w ⟨⟨hi,hok,hpi⟩,hH,hA⟩
    by_cases hlt:i<v.l.length
    rotate_left
    · obtain rfl:i=v.l.length:=by omega
      rw [List.take_length] at hok
      repeat' (first|(first|(refine GT ?_ ?_<;>intro hg<;>clear hA a<;>intro a hA<;>(first|exact FA|replace hg:=dTr hg|replace hg:=dFa hg|skip))|(refine QT ?_;clear hA a;intro a hA)|(first|(refine BT ?_;clear hA hH;rintro _ w ⟨bN,rfl,hH⟩ a hA)|(refine LT ?_;clear hA hH;rintro _ w ⟨oN,rfl,hH⟩ a hA)|(refine AT ?_;clear hA;rintro _ w ⟨oN,cN,rfl,hH2⟩ a hA;clear hH;have hH:=(hH2 _ (by (repeat constructor))).tail;clear hH2)|(refine S0T ?_;clear hH;rintro _ w hH)))|refine CT ?_|(refine DT ?_ ?_<;>intro hc<;>try (exfalso;omega))|(first|(refine DSK ?_;clear hA a;intro a hA)|(first|(refine DLT ?_;clear hA hH;rintro _ w ⟨oN,rfl,hH⟩;refine ⟨STT,?_⟩;intro a hA)|(refine DAT ?_;clear hA;rintro _ w ⟨oN,cN,rfl,hH2⟩;clear hH;have hH:=(hH2 _ (by (repeat constructor))).tail;clear hH2;refine ⟨STT,?_⟩;intro a hA))))
      exact ⟨⟨hok,hpi.imp (fun h=>List.length_eq_zero_iff.1 h) id⟩,hH,(hA.sub SBT)⟩
    obtain ⟨x,hx⟩:∃x,v.l[i]?=some x:=⟨_,List.getElem?_eq_getElem hlt⟩
    have hvs:=flat_all encAt_len hx
    have hpb:p+(i:Int)≤65536:=by rcases hpi with h|h<;>omega
    have e1:p+(i:Int)+1=p+((i+1:Nat):Int):=by omega
    repeat' (first|(first|(refine GT ?_ ?_<;>intro hg<;>clear hA a<;>intro a hA<;>(first|exact FA|replace hg:=dTr hg|replace hg:=dFa hg|skip))|(refine XT ?_;apply XE;(first|(apply ex_hasK;rfl;rfl;exact MEMT)|(apply ex_load_st (vs:=encAt x);rfl;rfl;exact cls_rd hR.1 id hvs));clear hA a;intro a hA)|(refine QT ?_;clear hA a;intro a hA)|(first|(refine BT ?_;clear hA hH;rintro _ w ⟨bN,rfl,hH⟩ a hA)|(refine LT ?_;clear hA hH;rintro _ w ⟨oN,rfl,hH⟩ a hA)|(refine AT ?_;clear hA;rintro _ w ⟨oN,cN,rfl,hH2⟩ a hA;clear hH;have hH:=(hH2 _ (by (repeat constructor))).tail;clear hH2)|(refine S0T ?_;clear hH;rintro _ w hH)|(refine SAT (encAt x) hA hH ?_;clear hH;intro w hH)|(apply st_op0 hA rfl rfl;apply op_store_fld (cs':=encKk ⟨oP,nP,cP,g,oA,nA,cA,caps,e,some bW,j,o⟩ (p+(i:Int)+1));rfl;rfl;rfl;exact hH;(repeat constructor);clear hH;rintro _ w hH)))|refine CT ?_|(refine DT ?_ ?_<;>intro hc<;>try (exfalso;omega))|(first|(refine DSK ?_;clear hA a;intro a hA)|(first|(refine DLT ?_;clear hA hH;rintro _ w ⟨oN,rfl,hH⟩;refine ⟨STT,?_⟩;intro a hA)|(refine DAT ?_;clear hA;rintro _ w ⟨oN,cN,rfl,hH2⟩;clear hH;have hH:=(hH2 _ (by (repeat constructor))).tail;clear hH2;refine ⟨STT,?_⟩;intro a hA)))|(refine wp_draw_HS [(0,1),(1,1),(2,1),(3,1),(4,1),(5,1),(6,1),(7,1),(8,1),(9,1),(10,1),(11,1),(12,1),(13,1),(14,1)] mixed (by decide +kernel) hH ?_;replace hH:=hH.drew)|(refine wp_draw_HS [(0,1),(1,1),(2,1),(3,1),(4,1),(5,1),(6,1),(7,1),(8,1),(9,1),(10,1),(11,1),(12,1),(13,1),(14,1),(15,1),(16,1),(17,1)] mixed (by decide +kernel) hH ?_;replace hH:=hH.drew))
    all_goals first
      |exact ⟨i+1,⟨⟨hlt,atsa_next hx hok (by first|exact .inl ⟨by assumption,by assumption,by assumption,nd_f (by assumption)⟩|exact .inr (.inl ⟨by assumption,by assumption,nd_f (by assumption)⟩)|exact .inr (.inr ⟨by assumption,by assumption,nd_f (by assumption)⟩)),.inr (by omega)⟩,(by rw [←e1];exact hH.tail),(hA.sub SBT)⟩,by omega⟩
      |exact rt1 (.inl rfl) rfl hA rfl (.inr ⟨atsa_many hlt (by omega),rfl,_,hH.tail⟩)
      |exact rt1 (.inl rfl) rfl hA rfl (.inr ⟨atsa_no hx (fun h=>(by rcases atka.1 h with ⟨h1,h2,h3,h4⟩| ⟨h1,h2,h3⟩| ⟨h1,h2,h3⟩<;>first|omega|exact absurd h3 (nd_t (by assumption))|exact absurd h4 (nd_t (by assumption)))),rfl,_,hH.tail⟩)
  clear hA hH
  rintro a w ⟨hok,hH,hA⟩
  repeat' (first|(first|(refine GT ?_ ?_<;>intro hg<;>clear hA a<;>intro a hA<;>(first|exact FA|replace hg:=dTr hg|replace hg:=dFa hg|skip))|(refine QT ?_;clear hA a;intro a hA)|(first|(refine BT ?_;clear hA hH;rintro _ w ⟨bN,rfl,hH⟩ a hA)|(refine LT ?_;clear hA hH;rintro _ w ⟨oN,rfl,hH⟩ a hA)|(refine AT ?_;clear hA;rintro _ w ⟨oN,cN,rfl,hH2⟩ a hA;clear hH;have hH:=(hH2 _ (by (repeat constructor))).tail;clear hH2)|(refine S0T ?_;clear hH;rintro _ w hH)))|refine CT ?_|(refine DT ?_ ?_<;>intro hc<;>try (exfalso;omega))|(first|(refine DSK ?_;clear hA a;intro a hA)|(first|(refine DLT ?_;clear hA hH;rintro _ w ⟨oN,rfl,hH⟩;refine ⟨STT,?_⟩;intro a hA)|(refine DAT ?_;clear hA;rintro _ w ⟨oN,cN,rfl,hH2⟩;clear hH;have hH:=(hH2 _ (by (repeat constructor))).tail;clear hH2;refine ⟨STT,?_⟩;intro a hA))))
  exact rt1 (.inl rfl) rfl hA rfl (.inl ⟨hok,rfl,hH⟩)

def NowOk (es ks:List Int):Prop:=∀x∈ks,x<2∨x∈es
theorem NowOk.new {es ks:List Int} {x:Int} (h:NowOk es ks) (hx:bindP es x):x ∉ ks:=fun hk=>(h x hk).elim (fun h1=>(by have:=hx.1;omega)) hx.2.2
theorem NowOk.snoc {es ks:List Int} {x:Int} (h:NowOk es ks):NowOk (es++[x]) (ks++[x]):=fun y hy=>by
  rcases List.mem_append.1 hy with h1|h1
  · exact (h y h1).imp id fun h2=>List.mem_append.2 (.inl h2)
  · exact .inr (List.mem_append.2 (.inr h1))
theorem bindL_ok:∀{l es ks:List Int} {q:List Int × List Int},NowOk es ks→bindL l es ks=some q→NowOk q.1 q.2
  | [],es,ks,q,h,e=>by cases e;exact h
  | x::l,es,ks,q,h,e=>by
    unfold bindL at e
    split at e
    · exact bindL_ok h.snoc e
    · cases e
theorem bindL_yes {l es ks:List Int} {i:Nat} {x:Int} (h:l[i]?=some x) (hb:bindP es x):bindL (l.drop i) es ks=bindL (l.drop (i+1)) (es++[x]) (ks++[x]):=by
  obtain ⟨hi,rfl⟩:=List.getElem?_eq_some_iff.1 h
  rw [List.drop_eq_getElem_cons hi]
  exact if_pos hb
theorem bindL_no {l es ks:List Int} {i:Nat} {x:Int} (h:l[i]?=some x) (hb:¬bindP es x):bindL (l.drop i) es ks=none:=by
  obtain ⟨hi,rfl⟩:=List.getElem?_eq_some_iff.1 h
  rw [List.drop_eq_getElem_cons hi]
  exact if_neg hb
theorem ints_val {l:List Int} {i:Nat} {x:Int} (h:l[i]?=some x):(flat Fw.encI l)[i*1]?=some (.int .i64 x):=flat_get (off:=0) Fw.encI_len h rfl
theorem bindN_spec (w0 w:World) (H:List It) (c:Kk) (bK bE bW:Nat) (p:Int) (es ks:List Int) (v:Vec Int) (he:c.e=some bE) (hc:c.n=some bW) (hH:HS w0 noM (cb bK 127 (encKk c p)::sk bE es::sk bW ks::H) w)
    (hR:∀es ks w',HS w0 noM (cb bK 127 (encKk c p)::sk bE es::sk bW ks::H) w'→Rd w' v.o (flat Fw.encI v.l)) (hl:v.l.length≤17592186044416) (hok:NowOk es ks) :
    Ret Tryz.prog 81 #[.pointer (some (bat bK 0)),.slice v.o v.l.length v.c] w (fun r w'=>
      (∃q,bindL v.l es ks=some q∧r= .bool true∧HS w0 noM (cb bK 127 (encKk c p)::sk bE q.1::sk bW q.2::H) w')∨
      (bindL v.l es ks=none∧r= .bool false∧∃es' ks',HS w0 noM (cb bK 127 (encKk c p)::sk bE es'::sk bW ks'::H) w')):=by
  obtain ⟨oP,nP,cP,g,oA,nA,cA,caps,e,n,j,o⟩:=c
  obtain rfl:n=some bW:=hc
  obtain rfl:e=some bE:=he
  have hsp:Sp v.o v.l.length:=(hR _ _ _ hH).sp (sz:=1) (flat_length Fw.encI_len _) (by omega)
  (refine ENT (N:=42) Tryz.func81 Tryz.ntmps81 ?_;intro a hA)
  repeat' (first|(first|(refine GT ?_ ?_<;>intro hg<;>clear hA a<;>intro a hA<;>(first|exact FA|replace hg:=dTr hg|replace hg:=dFa hg|skip))|(refine QT ?_;clear hA a;intro a hA)|(first|(refine BT ?_;clear hA hH;rintro _ w ⟨bN,rfl,hH⟩ a hA)|(refine LT ?_;clear hA hH;rintro _ w ⟨oN,rfl,hH⟩ a hA)|(refine AT ?_;clear hA;rintro _ w ⟨oN,cN,rfl,hH2⟩ a hA;clear hH;have hH:=(hH2 _ (by (repeat constructor))).tail;clear hH2)|(refine S0T ?_;clear hH;rintro _ w hH)))|refine CT ?_|(refine DT ?_ ?_<;>intro hc<;>try (exfalso;omega))|(first|(refine DSK ?_;clear hA a;intro a hA)|(first|(refine DLT ?_;clear hA hH;rintro _ w ⟨oN,rfl,hH⟩;refine ⟨STT,?_⟩;intro a hA)|(refine DAT ?_;clear hA;rintro _ w ⟨oN,cN,rfl,hH2⟩;clear hH;have hH:=(hH2 _ (by (repeat constructor))).tail;clear hH2;refine ⟨STT,?_⟩;intro a hA))))
  refine wp_lpk (S:=Nat × List Int × List Int) (fun s a w=>(s.1≤v.l.length∧bindL v.l es ks=bindL (v.l.drop s.1) s.2.1 s.2.2∧NowOk s.2.1 s.2.2)∧HS w0 noM (cb bK 127 (encKk ⟨oP,nP,cP,g,oA,nA,cA,caps,some bE,some bW,j,o⟩ p)::sk bE s.2.1::sk bW s.2.2::H) w∧Sl 42 [(9,.int .i64 s.1),(8,.int .i64 v.l.length),(7,.slice v.o v.l.length v.c),(0,.pointer (some (bat bK 0)))] a) (fun s=>v.l.length - s.1)
    (fun a w=>∃q,bindL v.l es ks=some q∧HS w0 noM (cb bK 127 (encKk ⟨oP,nP,cP,g,oA,nA,cA,caps,some bE,some bW,j,o⟩ p)::sk bE q.1::sk bW q.2::H) w∧Sl 42 [] a) (0,es,ks) ⟨⟨Nat.zero_le _,rfl,hok⟩,hH,(hA.sub SBT)⟩ ?_ ?_
  · clear hA hH hok
    rintro ⟨i,es',ks'⟩ a w ⟨⟨hi,heq,hok⟩,hH,hA⟩
    dsimp only at hi heq hok hH hA ⊢
    by_cases hlt:i<v.l.length
    rotate_left
    · obtain rfl:i=v.l.length:=by omega
      rw [List.drop_length] at heq
      repeat' (first|(first|(refine GT ?_ ?_<;>intro hg<;>clear hA a<;>intro a hA<;>(first|exact FA|replace hg:=dTr hg|replace hg:=dFa hg|skip))|(refine QT ?_;clear hA a;intro a hA)|(first|(refine BT ?_;clear hA hH;rintro _ w ⟨bN,rfl,hH⟩ a hA)|(refine LT ?_;clear hA hH;rintro _ w ⟨oN,rfl,hH⟩ a hA)|(refine AT ?_;clear hA;rintro _ w ⟨oN,cN,rfl,hH2⟩ a hA;clear hH;have hH:=(hH2 _ (by (repeat constructor))).tail;clear hH2)|(refine S0T ?_;clear hH;rintro _ w hH)))|refine CT ?_|(refine DT ?_ ?_<;>intro hc<;>try (exfalso;omega))|(first|(refine DSK ?_;clear hA a;intro a hA)|(first|(refine DLT ?_;clear hA hH;rintro _ w ⟨oN,rfl,hH⟩;refine ⟨STT,?_⟩;intro a hA)|(refine DAT ?_;clear hA;rintro _ w ⟨oN,cN,rfl,hH2⟩;clear hH;have hH:=(hH2 _ (by (repeat constructor))).tail;clear hH2;refine ⟨STT,?_⟩;intro a hA))))
      exact ⟨_,heq,hH,(hA.sub SBT)⟩
    obtain ⟨x,hx⟩:∃x,v.l[i]?=some x:=⟨_,List.getElem?_eq_getElem hlt⟩
    have hvx:=ints_val hx
    have hcl:Cl (HS w0 noM (cb bK 127 (encKk ⟨oP,nP,cP,g,oA,nA,cA,caps,some bE,some bW,j,o⟩ p)::sk bE es'::sk bW ks'::H)) (sat v.o (i*1)) (.int .i64 x):=cl_of fun w hw=>rd_cell (hR _ _ w hw) hvx
    repeat' (first|(first|(refine GT ?_ ?_<;>intro hg<;>clear hA a<;>intro a hA<;>(first|exact FA|replace hg:=dTr hg|replace hg:=dFa hg|skip))|(refine XT ?_;apply XE;(first|(apply ex_hasK;rfl;rfl;exact MEMT)|(apply ex_indexAddr_nat;rfl;rfl;omega;exact hsp)|(apply ex_load;rfl;exact hcl));clear hA a;intro a hA)|(refine QT ?_;clear hA a;intro a hA)|(first|(refine BT ?_;clear hA hH;rintro _ w ⟨bN,rfl,hH⟩ a hA)|(refine LT ?_;clear hA hH;rintro _ w ⟨oN,rfl,hH⟩ a hA)|(refine AT ?_;clear hA;rintro _ w ⟨oN,cN,rfl,hH2⟩ a hA;clear hH;have hH:=(hH2 _ (by (repeat constructor))).tail;clear hH2)|(refine S0T ?_;clear hH;rintro _ w hH)))|refine CT ?_|(refine DT ?_ ?_<;>intro hc<;>try (exfalso;omega))|(first|(refine DSK ?_;clear hA a;intro a hA)|(first|(refine DLT ?_;clear hA hH;rintro _ w ⟨oN,rfl,hH⟩;refine ⟨STT,?_⟩;intro a hA)|(refine DAT ?_;clear hA;rintro _ w ⟨oN,cN,rfl,hH2⟩;clear hH;have hH:=(hH2 _ (by (repeat constructor))).tail;clear hH2;refine ⟨STT,?_⟩;intro a hA))))
    · exact rt1 (.inl rfl) rfl hA rfl (.inr ⟨heq.trans (bindL_no hx fun h=>(by have:=h.1;omega)),rfl,_,_,hH⟩)
    · exact rt1 (.inl rfl) rfl hA rfl (.inr ⟨heq.trans (bindL_no hx fun h=>(by have:=h.2.1;omega)),rfl,_,_,hH⟩)
    · have hin:x∈es':=by assumption
      exact rt1 (.inl rfl) rfl hA rfl (.inr ⟨heq.trans (bindL_no hx fun h=>h.2.2 hin),rfl,_,_,hH⟩)
    have hnin:¬x∈es':=by assumption
    have hbp:bindP es' x:=⟨by omega,by omega,hnin⟩
    (refine wp_draw_HS (H:=[cb bK 127 (encKk ⟨oP,nP,cP,g,oA,nA,cA,caps,some bE,some bW,j,o⟩ p)]) [(0,1),(1,1),(2,1),(3,1),(4,1),(5,1),(6,1),(7,1),(8,1),(9,1),(10,0),(11,1),(12,0),(13,0),(14,1),(15,0)] mixed (by decide +kernel) (hH.pick (.head _)) ?_;replace hH:=hH.drew)
    repeat' (first|(first|(refine GT ?_ ?_<;>intro hg<;>clear hA a<;>intro a hA<;>(first|exact FA|replace hg:=dTr hg|replace hg:=dFa hg|skip))|(refine QT ?_;clear hA a;intro a hA)|(first|(refine BT ?_;clear hA hH;rintro _ w ⟨bN,rfl,hH⟩ a hA)|(refine LT ?_;clear hA hH;rintro _ w ⟨oN,rfl,hH⟩ a hA)|(refine AT ?_;clear hA;rintro _ w ⟨oN,cN,rfl,hH2⟩ a hA;clear hH;have hH:=(hH2 _ (by (repeat constructor))).tail;clear hH2)|(refine S0T ?_;clear hH;rintro _ w hH)))|refine CT ?_|(refine DT ?_ ?_<;>intro hc<;>try (exfalso;omega))|(first|(refine DSK ?_;clear hA a;intro a hA)|(first|(refine DLT ?_;clear hA hH;rintro _ w ⟨oN,rfl,hH⟩;refine ⟨STT,?_⟩;intro a hA)|(refine DAT ?_;clear hA;rintro _ w ⟨oN,cN,rfl,hH2⟩;clear hH;have hH:=(hH2 _ (by (repeat constructor))).tail;clear hH2;refine ⟨STT,?_⟩;intro a hA))))
    replace hH:=hH.perm (List.Perm.swap _ _ _)
    (refine dr_op hA rfl rfl rfl (by decide) (op_entryK rfl rfl hH hnin) ?_;clear hA hH;rintro _ w ⟨cl,rfl,hH⟩;refine ⟨hH.pick (by exact MEMT),?_⟩;intro a hA)
    repeat' (first|(first|(refine GT ?_ ?_<;>intro hg<;>clear hA a<;>intro a hA<;>(first|exact FA|replace hg:=dTr hg|replace hg:=dFa hg|skip))|(refine QT ?_;clear hA a;intro a hA)|(first|(refine BT ?_;clear hA hH;rintro _ w ⟨bN,rfl,hH⟩ a hA)|(refine LT ?_;clear hA hH;rintro _ w ⟨oN,rfl,hH⟩ a hA)|(refine AT ?_;clear hA;rintro _ w ⟨oN,cN,rfl,hH2⟩ a hA;clear hH;have hH:=(hH2 _ (by (repeat constructor))).tail;clear hH2)|(refine S0T ?_;clear hH;rintro _ w hH)))|refine CT ?_|(refine DT ?_ ?_<;>intro hc<;>try (exfalso;omega))|(first|(refine DSK ?_;clear hA a;intro a hA)|(first|(refine DLT ?_;clear hA hH;rintro _ w ⟨oN,rfl,hH⟩;refine ⟨STT,?_⟩;intro a hA)|(refine DAT ?_;clear hA;rintro _ w ⟨oN,cN,rfl,hH2⟩;clear hH;have hH:=(hH2 _ (by (repeat constructor))).tail;clear hH2;refine ⟨STT,?_⟩;intro a hA))))
    (refine dr_op0 hA rfl rfl rfl (op_entryStK rfl rfl rfl hH) ?_;clear hH;rintro _ w hH;refine ⟨hH.pick (by exact MEMT),?_⟩)
    replace hH:=hH.up 2 rfl
    dsimp only [List.eraseIdx_cons_succ,List.eraseIdx_cons_zero] at hH
    (refine dr_op hA rfl rfl rfl (by decide) (op_entryK rfl rfl hH (hok.new hbp)) ?_;clear hA hH;rintro _ w ⟨cl,rfl,hH⟩;refine ⟨hH.pick (by exact MEMT),?_⟩;intro a hA)
    repeat' (first|(first|(refine GT ?_ ?_<;>intro hg<;>clear hA a<;>intro a hA<;>(first|exact FA|replace hg:=dTr hg|replace hg:=dFa hg|skip))|(refine QT ?_;clear hA a;intro a hA)|(first|(refine BT ?_;clear hA hH;rintro _ w ⟨bN,rfl,hH⟩ a hA)|(refine LT ?_;clear hA hH;rintro _ w ⟨oN,rfl,hH⟩ a hA)|(refine AT ?_;clear hA;rintro _ w ⟨oN,cN,rfl,hH2⟩ a hA;clear hH;have hH:=(hH2 _ (by (repeat constructor))).tail;clear hH2)|(refine S0T ?_;clear hH;rintro _ w hH)))|refine CT ?_|(refine DT ?_ ?_<;>intro hc<;>try (exfalso;omega))|(first|(refine DSK ?_;clear hA a;intro a hA)|(first|(refine DLT ?_;clear hA hH;rintro _ w ⟨oN,rfl,hH⟩;refine ⟨STT,?_⟩;intro a hA)|(refine DAT ?_;clear hA;rintro _ w ⟨oN,cN,rfl,hH2⟩;clear hH;have hH:=(hH2 _ (by (repeat constructor))).tail;clear hH2;refine ⟨STT,?_⟩;intro a hA))))
    (refine dr_op0 hA rfl rfl rfl (op_entryStK rfl rfl rfl hH) ?_;clear hH;rintro _ w hH;refine ⟨hH.pick (by exact MEMT),?_⟩)
    repeat' (first|(first|(refine GT ?_ ?_<;>intro hg<;>clear hA a<;>intro a hA<;>(first|exact FA|replace hg:=dTr hg|replace hg:=dFa hg|skip))|(refine QT ?_;clear hA a;intro a hA)|(first|(refine BT ?_;clear hA hH;rintro _ w ⟨bN,rfl,hH⟩ a hA)|(refine LT ?_;clear hA hH;rintro _ w ⟨oN,rfl,hH⟩ a hA)|(refine AT ?_;clear hA;rintro _ w ⟨oN,cN,rfl,hH2⟩ a hA;clear hH;have hH:=(hH2 _ (by (repeat constructor))).tail;clear hH2)|(refine S0T ?_;clear hH;rintro _ w hH)))|refine CT ?_|(refine DT ?_ ?_<;>intro hc<;>try (exfalso;omega))|(first|(refine DSK ?_;clear hA a;intro a hA)|(first|(refine DLT ?_;clear hA hH;rintro _ w ⟨oN,rfl,hH⟩;refine ⟨STT,?_⟩;intro a hA)|(refine DAT ?_;clear hA;rintro _ w ⟨oN,cN,rfl,hH2⟩;clear hH;have hH:=(hH2 _ (by (repeat constructor))).tail;clear hH2;refine ⟨STT,?_⟩;intro a hA))))
    exact ⟨(i+1,es'++[x],ks'++[x]),⟨⟨hlt,heq.trans (bindL_yes hx hbp),hok.snoc⟩,hH.perm PMT,(hA.sub SBT)⟩,by dsimp only;omega⟩
  clear hA hH
  rintro a w ⟨q,hq,hH,hA⟩
  repeat' (first|(first|(refine GT ?_ ?_<;>intro hg<;>clear hA a<;>intro a hA<;>(first|exact FA|replace hg:=dTr hg|replace hg:=dFa hg|skip))|(refine QT ?_;clear hA a;intro a hA)|(first|(refine BT ?_;clear hA hH;rintro _ w ⟨bN,rfl,hH⟩ a hA)|(refine LT ?_;clear hA hH;rintro _ w ⟨oN,rfl,hH⟩ a hA)|(refine AT ?_;clear hA;rintro _ w ⟨oN,cN,rfl,hH2⟩ a hA;clear hH;have hH:=(hH2 _ (by (repeat constructor))).tail;clear hH2)|(refine S0T ?_;clear hH;rintro _ w hH)))|refine CT ?_|(refine DT ?_ ?_<;>intro hc<;>try (exfalso;omega))|(first|(refine DSK ?_;clear hA a;intro a hA)|(first|(refine DLT ?_;clear hA hH;rintro _ w ⟨oN,rfl,hH⟩;refine ⟨STT,?_⟩;intro a hA)|(refine DAT ?_;clear hA;rintro _ w ⟨oN,cN,rfl,hH2⟩;clear hH;have hH:=(hH2 _ (by (repeat constructor))).tail;clear hH2;refine ⟨STT,?_⟩;intro a hA))))
  exact rt1 (.inl rfl) rfl hA rfl (.inl ⟨q,hq,rfl,hH⟩)
end
structure Sh where
  x:Bool
  xs:Bool
  n:Bool
  ns:Bool
  r:Bool
  a:Int
  k:Int
def encSh (h:Sh):List Value:=[.bool h.x,.bool h.xs,.bool h.n,.bool h.ns,.bool h.r,.int .i64 h.a,.int .i64 h.k]
def shK (k:Int):Sh × Bool:=if k=1 then (⟨true,false,false,false,true,0,1⟩,true) else if k=2∨k=4 then (⟨false,false,false,false,false,1,0⟩,true) else if k=3 then (⟨false,false,false,false,false,2,0⟩,true)
  else if k=5 then (⟨false,false,false,false,false,1,2⟩,true) else if k=6 then (⟨false,false,false,true,false,1,-1⟩,true) else if k=7 then (⟨false,true,true,false,false,0,2⟩,true) else if k=8 then (⟨false,false,true,false,false,-1,0⟩,true) else (⟨false,false,false,false,false,0,0⟩,false)
theorem drop_snoc {l:List Int} {i:Nat} {x:Int} (h:l[i]?=some x) (ks:List Int):(l.drop i).foldl sdel ks=(l.drop (i+1)).foldl sdel (sdel ks x):=by
  obtain ⟨hi,rfl⟩:=List.getElem?_eq_some_iff.1 h
  rw [List.drop_eq_getElem_cons hi,List.foldl_cons]
theorem sub_P (c:Kk) (p:Int) (i:Nat) (v:Value) (h:(encP c.oP c.nP c.cP c.g)[i]?=some v):(encKk c p)[0+i]?=some v:=by
  rw [Nat.zero_add]
  match i,h with
  |0,h=>exact h
  |1,h=>exact h
  |2,h=>exact h
  |3,h=>exact h
  |4,h=>exact h
  |n+5,h=>exact absurd h (by simp [encP])
section
attribute [local irreducible] Code.wp wpList Calls Ex Op1 sat bat blk cb own Go.Fw.mp Go.Fw.mpO Go.Fw.mpI Go.Fw.mpE Go.Fw.itr HS Rd Ret wkD Hp Cl Cls Exit.then Exit.inBlock Exit.noGoto bodyPost Go.Fw.flat wk2 Go.Fw.all Go.Fw.owns wpOp
attribute [local irreducible] sk mpK sko mvO entK

theorem unbN_spec (w0 w:World) (H:List It) (c:Kk) (bK bW:Nat) (p:Int) (ks:List Int) (v:Vec Int) (hc:c.n=some bW) (hH:HS w0 noM (cb bK 127 (encKk c p)::sk bW ks::H) w)
    (hR:∀ks w',HS w0 noM (cb bK 127 (encKk c p)::sk bW ks::H) w'→Rd w' v.o (flat Fw.encI v.l)) (hl:v.l.length≤17592186044416) :
    Ret Tryz.prog 82 #[.pointer (some (bat bK 0)),.slice v.o v.l.length v.c] w (fun r w'=>r= .tuple #[]∧HS w0 noM (cb bK 127 (encKk c p)::sk bW (v.l.foldl sdel ks)::H) w'):=by
  obtain ⟨oP,nP,cP,g,oA,nA,cA,caps,e,n,j,o⟩:=c
  obtain rfl:n=some bW:=hc
  have hsp:Sp v.o v.l.length:=(hR _ _ hH).sp (sz:=1) (flat_length Fw.encI_len _) (by omega)
  (refine ENT (N:=18) Tryz.func82 Tryz.ntmps82 ?_;intro a hA)
  repeat' (first|(first|(refine GT ?_ ?_<;>intro hg<;>clear hA a<;>intro a hA<;>(first|exact FA|replace hg:=dTr hg|replace hg:=dFa hg|skip))|(refine QT ?_;clear hA a;intro a hA)|(first|(refine BT ?_;clear hA hH;rintro _ w ⟨bN,rfl,hH⟩ a hA)|(refine LT ?_;clear hA hH;rintro _ w ⟨oN,rfl,hH⟩ a hA)|(refine AT ?_;clear hA;rintro _ w ⟨oN,cN,rfl,hH2⟩ a hA;clear hH;have hH:=(hH2 _ (by (repeat constructor))).tail;clear hH2)|(refine S0T ?_;clear hH;rintro _ w hH)))|refine CT ?_|(refine DT ?_ ?_<;>intro hc<;>try (exfalso;omega))|(first|(refine DSK ?_;clear hA a;intro a hA)|(first|(refine DLT ?_;clear hA hH;rintro _ w ⟨oN,rfl,hH⟩;refine ⟨STT,?_⟩;intro a hA)|(refine DAT ?_;clear hA;rintro _ w ⟨oN,cN,rfl,hH2⟩;clear hH;have hH:=(hH2 _ (by (repeat constructor))).tail;clear hH2;refine ⟨STT,?_⟩;intro a hA))))
  refine wp_lpk (S:=Nat × List Int) (fun s a w=>(s.1≤v.l.length∧v.l.foldl sdel ks=(v.l.drop s.1).foldl sdel s.2)∧HS w0 noM (cb bK 127 (encKk ⟨oP,nP,cP,g,oA,nA,cA,caps,e,some bW,j,o⟩ p)::sk bW s.2::H) w∧Sl 18 [(8,.int .i64 s.1),(7,.int .i64 v.l.length),(6,.slice v.o v.l.length v.c),(0,.pointer (some (bat bK 0)))] a) (fun s=>v.l.length - s.1)
    (fun a w=>HS w0 noM (cb bK 127 (encKk ⟨oP,nP,cP,g,oA,nA,cA,caps,e,some bW,j,o⟩ p)::sk bW (v.l.foldl sdel ks)::H) w∧Sl 18 [] a) (0,ks) ⟨⟨Nat.zero_le _,rfl⟩,hH,(hA.sub SBT)⟩ ?_ ?_
  · clear hA hH
    rintro ⟨i,ks'⟩ a w ⟨⟨hi,heq⟩,hH,hA⟩
    dsimp only at hi heq hH hA ⊢
    by_cases hlt:i<v.l.length
    rotate_left
    · obtain rfl:i=v.l.length:=by omega
      rw [List.drop_length] at heq
      rw [heq]
      repeat' (first|(first|(refine GT ?_ ?_<;>intro hg<;>clear hA a<;>intro a hA<;>(first|exact FA|replace hg:=dTr hg|replace hg:=dFa hg|skip))|(refine QT ?_;clear hA a;intro a hA)|(first|(refine BT ?_;clear hA hH;rintro _ w ⟨bN,rfl,hH⟩ a hA)|(refine LT ?_;clear hA hH;rintro _ w ⟨oN,rfl,hH⟩ a hA)|(refine AT ?_;clear hA;rintro _ w ⟨oN,cN,rfl,hH2⟩ a hA;clear hH;have hH:=(hH2 _ (by (repeat constructor))).tail;clear hH2)|(refine S0T ?_;clear hH;rintro _ w hH)))|refine CT ?_|(refine DT ?_ ?_<;>intro hc<;>try (exfalso;omega))|(first|(refine DSK ?_;clear hA a;intro a hA)|(first|(refine DLT ?_;clear hA hH;rintro _ w ⟨oN,rfl,hH⟩;refine ⟨STT,?_⟩;intro a hA)|(refine DAT ?_;clear hA;rintro _ w ⟨oN,cN,rfl,hH2⟩;clear hH;have hH:=(hH2 _ (by (repeat constructor))).tail;clear hH2;refine ⟨STT,?_⟩;intro a hA))))
      exact ⟨hH,(hA.sub SBT)⟩
    obtain ⟨x,hx⟩:∃x,v.l[i]?=some x:=⟨_,List.getElem?_eq_getElem hlt⟩
    have hvx:=ints_val hx
    have hcl:Cl (HS w0 noM (cb bK 127 (encKk ⟨oP,nP,cP,g,oA,nA,cA,caps,e,some bW,j,o⟩ p)::sk bW ks'::H)) (sat v.o (i*1)) (.int .i64 x):=cl_of fun w hw=>rd_cell (hR _ w hw) hvx
    repeat' (first|(first|(refine GT ?_ ?_<;>intro hg<;>clear hA a<;>intro a hA<;>(first|exact FA|replace hg:=dTr hg|replace hg:=dFa hg|skip))|(refine XT ?_;apply XE;(first|(apply ex_indexAddr_nat;rfl;rfl;omega;exact hsp)|(apply ex_load;rfl;exact hcl));clear hA a;intro a hA)|(refine QT ?_;clear hA a;intro a hA)|(first|(refine BT ?_;clear hA hH;rintro _ w ⟨bN,rfl,hH⟩ a hA)|(refine LT ?_;clear hA hH;rintro _ w ⟨oN,rfl,hH⟩ a hA)|(refine AT ?_;clear hA;rintro _ w ⟨oN,cN,rfl,hH2⟩ a hA;clear hH;have hH:=(hH2 _ (by (repeat constructor))).tail;clear hH2)|(refine S0T ?_;clear hH;rintro _ w hH)|(apply st_op0 hA rfl rfl;apply op_delK;rfl;rfl;exact hH;(repeat constructor);clear hH;rintro _ w ⟨rfl,hH⟩)))|refine CT ?_|(refine DT ?_ ?_<;>intro hc<;>try (exfalso;omega))|(first|(refine DSK ?_;clear hA a;intro a hA)|(first|(refine DLT ?_;clear hA hH;rintro _ w ⟨oN,rfl,hH⟩;refine ⟨STT,?_⟩;intro a hA)|(refine DAT ?_;clear hA;rintro _ w ⟨oN,cN,rfl,hH2⟩;clear hH;have hH:=(hH2 _ (by (repeat constructor))).tail;clear hH2;refine ⟨STT,?_⟩;intro a hA))))
    exact ⟨(i+1,sdel ks' x),⟨⟨hlt,heq.trans (drop_snoc hx _)⟩,hH,(hA.sub SBT)⟩,by dsimp only;omega⟩
  clear hA hH
  rintro a w ⟨hH,hA⟩
  repeat' (first|(first|(refine GT ?_ ?_<;>intro hg<;>clear hA a<;>intro a hA<;>(first|exact FA|replace hg:=dTr hg|replace hg:=dFa hg|skip))|(refine QT ?_;clear hA a;intro a hA)|(first|(refine BT ?_;clear hA hH;rintro _ w ⟨bN,rfl,hH⟩ a hA)|(refine LT ?_;clear hA hH;rintro _ w ⟨oN,rfl,hH⟩ a hA)|(refine AT ?_;clear hA;rintro _ w ⟨oN,cN,rfl,hH2⟩ a hA;clear hH;have hH:=(hH2 _ (by (repeat constructor))).tail;clear hH2)|(refine S0T ?_;clear hH;rintro _ w hH)))|refine CT ?_|(refine DT ?_ ?_<;>intro hc<;>try (exfalso;omega))|(first|(refine DSK ?_;clear hA a;intro a hA)|(first|(refine DLT ?_;clear hA hH;rintro _ w ⟨oN,rfl,hH⟩;refine ⟨STT,?_⟩;intro a hA)|(refine DAT ?_;clear hA;rintro _ w ⟨oN,cN,rfl,hH2⟩;clear hH;have hH:=(hH2 _ (by (repeat constructor))).tail;clear hH2;refine ⟨STT,?_⟩;intro a hA))))
  exact rt0 (.inr rfl) rfl hA ⟨rfl,hH⟩
theorem shapesN_spec (w0:World) (k:Int):Ret Tryz.prog 78 #[.int .i64 k] w0 (fun r w=>r= .tuple #[.agg (encSh (shK k).1).toArray,.bool (shK k).2]∧Kp w0 noM w):=by
  have hH:HS w0 noM [] w0:=HS.init w0 noM
  (refine ENT (N:=28) Tryz.func78 Tryz.ntmps78 ?_;intro a hA)
  repeat' (first|(first|(refine GT ?_ ?_<;>intro hg<;>clear hA a<;>intro a hA<;>(first|exact FA|replace hg:=dTr hg|replace hg:=dFa hg|skip))|(refine XT ?_;apply XE;(first|(apply ex_build_p (cs:=(encSh ⟨true,false,false,false,true,0,1⟩).toArray);rfl;exact FLT;rfl)|(apply ex_build_p (cs:=(encSh ⟨false,false,false,false,false,1,0⟩).toArray);rfl;exact FLT;rfl)|(apply ex_build_p (cs:=(encSh ⟨false,false,false,false,false,2,0⟩).toArray);rfl;exact FLT;rfl)|(apply ex_build_p (cs:=(encSh ⟨false,false,false,false,false,1,2⟩).toArray);rfl;exact FLT;rfl)|(apply ex_build_p (cs:=(encSh ⟨false,false,false,true,false,1,-1⟩).toArray);rfl;exact FLT;rfl)|(apply ex_build_p (cs:=(encSh ⟨false,true,true,false,false,0,2⟩).toArray);rfl;exact FLT;rfl)|(apply ex_build_p (cs:=(encSh ⟨false,false,true,false,false,-1,0⟩).toArray);rfl;exact FLT;rfl)|(apply ex_build_p (cs:=(encSh ⟨false,false,false,false,false,0,0⟩).toArray);rfl;exact FLT;rfl));clear hA a;intro a hA)|(refine QT ?_;clear hA a;intro a hA)|(first|(refine BT ?_;clear hA hH;rintro _ w ⟨bN,rfl,hH⟩ a hA)|(refine LT ?_;clear hA hH;rintro _ w ⟨oN,rfl,hH⟩ a hA)|(refine AT ?_;clear hA;rintro _ w ⟨oN,cN,rfl,hH2⟩ a hA;clear hH;have hH:=(hH2 _ (by (repeat constructor))).tail;clear hH2)|(refine S0T ?_;clear hH;rintro _ w hH)|(refine SAT (encSh _) hA hH ?_;clear hH;intro w hH)))|refine CT ?_|(refine DT ?_ ?_<;>intro hc<;>try (exfalso;omega))|(first|(refine DSK ?_;clear hA a;intro a hA)|(first|(refine DLT ?_;clear hA hH;rintro _ w ⟨oN,rfl,hH⟩;refine ⟨STT,?_⟩;intro a hA)|(refine DAT ?_;clear hA;rintro _ w ⟨oN,cN,rfl,hH2⟩;clear hH;have hH:=(hH2 _ (by (repeat constructor))).tail;clear hH2;refine ⟨STT,?_⟩;intro a hA))))
  all_goals exact rt2c (vs:=encSh _) (.inl rfl) rfl hA rfl rfl rfl hH (cls_cb_all (by exact MEMT)) ⟨by unfold shK;(repeat (first|rw [if_pos (by omega)]|rw [if_neg (by omega)])),hH.kp⟩
theorem stepN_spec (w0 w:World) (H:List It) (c:Kk) (bK bW:Nat) (p:Int) (ks la:List Int) (r:Stp) (hc:c.n=some bW) (hH:HS w0 noM (cb bK 127 (encKk c p)::sk bW ks::H) w) (hm:own 3 1 c.oA c.nA c.cA (flat Fw.encI la)∈H) (hn:c.nA=la.length) (hla:la.length≤9223372036854775807)
    (hN:RdV w0 Fw.encI r.ns) (hR:RdV w0 encAt r.a) (hp0:0≤p) (hp1:p≤65536) :
    Ret Tryz.prog 80 #[.pointer (some (bat bK 0)),.agg (encSt r).toArray] w (fun v w'=>
      ((FormP c.g la c.caps r∧atsA c.g ks p r.a.l)∧v= .bool true∧HS w0 noM (cb bK 127 (encKk c (p+r.a.l.length))::sk bW ks::H) w')∨
      (¬(FormP c.g la c.caps r∧atsA c.g ks p r.a.l)∧v= .bool false∧∃p',HS w0 noM (cb bK 127 (encKk c p')::sk bW ks::H) w')):=by
  obtain ⟨oP,nP,cP,g,oA,nA,cA,caps,e,n,j,o⟩:=c
  obtain rfl:n=some bW:=hc
  (refine ENT (N:=25) Tryz.func80 Tryz.ntmps80 ?_;intro a hA)
  repeat' (first|(first|(refine GT ?_ ?_<;>intro hg<;>clear hA a<;>intro a hA<;>(first|exact FA|replace hg:=dTr hg|replace hg:=dFa hg|skip))|(refine QT ?_;clear hA a;intro a hA)|(first|(refine BT ?_;clear hA hH;rintro _ w ⟨bN,rfl,hH⟩ a hA)|(refine LT ?_;clear hA hH;rintro _ w ⟨oN,rfl,hH⟩ a hA)|(refine AT ?_;clear hA;rintro _ w ⟨oN,cN,rfl,hH2⟩ a hA;clear hH;have hH:=(hH2 _ (by (repeat constructor))).tail;clear hH2)|(refine S0T ?_;clear hH;rintro _ w hH)))|refine CT ?_|(refine DT ?_ ?_<;>intro hc<;>try (exfalso;omega))|(first|(refine DSK ?_;clear hA a;intro a hA)|(first|(refine DLT ?_;clear hA hH;rintro _ w ⟨oN,rfl,hH⟩;refine ⟨STT,?_⟩;intro a hA)|(refine DAT ?_;clear hA;rintro _ w ⟨oN,cN,rfl,hH2⟩;clear hH;have hH:=(hH2 _ (by (repeat constructor))).tail;clear hH2;refine ⟨STT,?_⟩;intro a hA))))
  (refine wp_draw3_HS 12 [(0,1),(1,1),(2,1),(3,1),(4,1),(5,1),(6,1),(7,1),(8,1),(9,1),(10,1),(11,1),(12,1),(13,0),(14,1),(15,1),(16,1),(17,1)] [18,19,20] mixed (by decide +kernel) hH ?_;replace hH:=hH.drew)
  repeat' (first|(first|(refine GT ?_ ?_<;>intro hg<;>clear hA a<;>intro a hA<;>(first|exact FA|replace hg:=dTr hg|replace hg:=dFa hg|skip))|(refine XT ?_;apply XE;(first|(apply ex_load_st (vs:=encP oP nP cP g);rfl;rfl;exact cls_cb MEMT (sub_P ⟨oP,nP,cP,g,oA,nA,cA,caps,e,some bW,j,o⟩ p)));clear hA a;intro a hA)|(refine QT ?_;clear hA a;intro a hA)|(first|(refine BT ?_;clear hA hH;rintro _ w ⟨bN,rfl,hH⟩ a hA)|(refine LT ?_;clear hA hH;rintro _ w ⟨oN,rfl,hH⟩ a hA)|(refine AT ?_;clear hA;rintro _ w ⟨oN,cN,rfl,hH2⟩ a hA;clear hH;have hH:=(hH2 _ (by (repeat constructor))).tail;clear hH2)|(refine S0T ?_;clear hH;rintro _ w hH)))|refine CT ?_|(refine DT ?_ ?_<;>intro hc<;>try (exfalso;omega))|(first|(refine DSK ?_;clear hA a;intro a hA)|(first|(refine DLT ?_;clear hA hH;rintro _ w ⟨oN,rfl,hH⟩;refine ⟨STT,?_⟩;intro a hA)|(refine DAT ?_;clear hA;rintro _ w ⟨oN,cN,rfl,hH2⟩;clear hH;have hH:=(hH2 _ (by (repeat constructor))).tail;clear hH2;refine ⟨STT,?_⟩;intro a hA))))
  have hS:=Step_spec _ oP nP cP g oA cA la caps r (hH.own_rd (T:=3) (n:=nA) (cap:=cA) (sz:=1) (.tail _ (.tail _ (.tail _ hm)))) hla (hN.keep hH.kp)
  have hn2:nA=la.length:=hn
  rw [←hn2] at hS
  (refine dr_op hA rfl rfl rfl (by decide) (op_call rfl rfl rfl (hS)) ?_;clear hA;rintro _ w ⟨b,rfl,hbF,hk⟩;refine ⟨hH.keep hk,?_⟩;intro a hA)
  replace hH:=hH.keep hk
  cases b with
  | false=>
    repeat' (first|(first|(refine GT ?_ ?_<;>intro hg<;>clear hA a<;>intro a hA<;>(first|exact FA|replace hg:=dTr hg|replace hg:=dFa hg|skip))|(refine QT ?_;clear hA a;intro a hA)|(first|(refine BT ?_;clear hA hH;rintro _ w ⟨bN,rfl,hH⟩ a hA)|(refine LT ?_;clear hA hH;rintro _ w ⟨oN,rfl,hH⟩ a hA)|(refine AT ?_;clear hA;rintro _ w ⟨oN,cN,rfl,hH2⟩ a hA;clear hH;have hH:=(hH2 _ (by (repeat constructor))).tail;clear hH2)|(refine S0T ?_;clear hH;rintro _ w hH)))|refine CT ?_|(refine DT ?_ ?_<;>intro hc<;>try (exfalso;omega))|(first|(refine DSK ?_;clear hA a;intro a hA)|(first|(refine DLT ?_;clear hA hH;rintro _ w ⟨oN,rfl,hH⟩;refine ⟨STT,?_⟩;intro a hA)|(refine DAT ?_;clear hA;rintro _ w ⟨oN,cN,rfl,hH2⟩;clear hH;have hH:=(hH2 _ (by (repeat constructor))).tail;clear hH2;refine ⟨STT,?_⟩;intro a hA))))
    exact rt1 (.inl rfl) rfl hA rfl (.inr ⟨fun h=>absurd (hbF.2 h.1) (by decide),rfl,p,hH.tail⟩)
  |true=>
  have hF:=hbF.1 rfl
  repeat' (first|(first|(refine GT ?_ ?_<;>intro hg<;>clear hA a<;>intro a hA<;>(first|exact FA|replace hg:=dTr hg|replace hg:=dFa hg|skip))|(refine QT ?_;clear hA a;intro a hA)|(first|(refine BT ?_;clear hA hH;rintro _ w ⟨bN,rfl,hH⟩ a hA)|(refine LT ?_;clear hA hH;rintro _ w ⟨oN,rfl,hH⟩ a hA)|(refine AT ?_;clear hA;rintro _ w ⟨oN,cN,rfl,hH2⟩ a hA;clear hH;have hH:=(hH2 _ (by (repeat constructor))).tail;clear hH2)|(refine S0T ?_;clear hH;rintro _ w hH)))|refine CT ?_|(refine DT ?_ ?_<;>intro hc<;>try (exfalso;omega))|(first|(refine DSK ?_;clear hA a;intro a hA)|(first|(refine DLT ?_;clear hA hH;rintro _ w ⟨oN,rfl,hH⟩;refine ⟨STT,?_⟩;intro a hA)|(refine DAT ?_;clear hA;rintro _ w ⟨oN,cN,rfl,hH2⟩;clear hH;have hH:=(hH2 _ (by (repeat constructor))).tail;clear hH2;refine ⟨STT,?_⟩;intro a hA))))
  replace hH:=hH.perm (List.Perm.trans (List.Perm.swap _ _ _) (.cons _ (.swap _ _ _)))
  (refine dr_op3 hA rfl rfl rfl (by decide) (op_call rfl rfl rfl (atomsN_spec w0 _ _ _ bK bW p ks r.a rfl hH hR hp0 hp1)) ?_;clear hA hH)
  rintro _ w (⟨hat,rfl,hH⟩| ⟨hat,rfl,p',hH⟩) a hA
  · repeat' (first|(first|(refine GT ?_ ?_<;>intro hg<;>clear hA a<;>intro a hA<;>(first|exact FA|replace hg:=dTr hg|replace hg:=dFa hg|skip))|(refine QT ?_;clear hA a;intro a hA)|(first|(refine BT ?_;clear hA hH;rintro _ w ⟨bN,rfl,hH⟩ a hA)|(refine LT ?_;clear hA hH;rintro _ w ⟨oN,rfl,hH⟩ a hA)|(refine AT ?_;clear hA;rintro _ w ⟨oN,cN,rfl,hH2⟩ a hA;clear hH;have hH:=(hH2 _ (by (repeat constructor))).tail;clear hH2)|(refine S0T ?_;clear hH;rintro _ w hH)))|refine CT ?_|(refine DT ?_ ?_<;>intro hc<;>try (exfalso;omega))|(first|(refine DSK ?_;clear hA a;intro a hA)|(first|(refine DLT ?_;clear hA hH;rintro _ w ⟨oN,rfl,hH⟩;refine ⟨STT,?_⟩;intro a hA)|(refine DAT ?_;clear hA;rintro _ w ⟨oN,cN,rfl,hH2⟩;clear hH;have hH:=(hH2 _ (by (repeat constructor))).tail;clear hH2;refine ⟨STT,?_⟩;intro a hA))))
    exact rt1 (.inl rfl) rfl hA rfl (.inl ⟨⟨hF,hat⟩,rfl,hH.rm 2⟩)
  · repeat' (first|(first|(refine GT ?_ ?_<;>intro hg<;>clear hA a<;>intro a hA<;>(first|exact FA|replace hg:=dTr hg|replace hg:=dFa hg|skip))|(refine QT ?_;clear hA a;intro a hA)|(first|(refine BT ?_;clear hA hH;rintro _ w ⟨bN,rfl,hH⟩ a hA)|(refine LT ?_;clear hA hH;rintro _ w ⟨oN,rfl,hH⟩ a hA)|(refine AT ?_;clear hA;rintro _ w ⟨oN,cN,rfl,hH2⟩ a hA;clear hH;have hH:=(hH2 _ (by (repeat constructor))).tail;clear hH2)|(refine S0T ?_;clear hH;rintro _ w hH)))|refine CT ?_|(refine DT ?_ ?_<;>intro hc<;>try (exfalso;omega))|(first|(refine DSK ?_;clear hA a;intro a hA)|(first|(refine DLT ?_;clear hA hH;rintro _ w ⟨oN,rfl,hH⟩;refine ⟨STT,?_⟩;intro a hA)|(refine DAT ?_;clear hA;rintro _ w ⟨oN,cN,rfl,hH2⟩;clear hH;have hH:=(hH2 _ (by (repeat constructor))).tail;clear hH2;refine ⟨STT,?_⟩;intro a hA))))
    exact rt1 (.inl rfl) rfl hA rfl (.inr ⟨fun h=>hat h.2,rfl,p',hH.rm 2⟩)
end
end Go.Proofs.YtenlcdokaadobaaGreatDoor
