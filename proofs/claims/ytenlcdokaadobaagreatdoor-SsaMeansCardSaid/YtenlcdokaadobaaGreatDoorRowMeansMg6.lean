/-
  ssa.Of: what is made once and then only read; a maker's drafts. Conditions: none.
  ssa.Of: a block is begun. Conditions: none.
  ssa.Of: shapes and bounds of what is filled (plain). Conditions: none.
  ssa.Of: a body's blocks are filled. Conditions: none.
  ssa.Of: a row turned round; blocks are visited. Conditions: none.
  ssa.Of: blocks are visited. Conditions: none.
  ssa.Of: the order of blocks. Conditions: none.
  ssa.Of: a function's graph. Conditions: none.
-/
import Derived.Test.YtenlcdokaadobaaGreatDoorRowMeansMg5
set_option maxHeartbeats 64000000
set_option maxRecDepth 10000
namespace Go.Fw
open Go Go.RowKit
set_option linter.unusedVariables false
section
variable {w0:World} {H:List It} {K:World→Prop}
theorem tL {A:Addr} {v:Value} (hm:frz w0 K∈H) (hr:∀w,K w→w.cell? A=some v):Cl (HS w0 noM H) A v:=fun w hH=>hr w (hH.frz hm)
theorem cls_fz {A:Addr} {vs:List Value} (hm:frz w0 K∈H) (hr:∀w,K w→∀i u,vs[i]?=some u→w.cell? (A.add i)=some u):Cls (HS w0 noM H) A vs:=fun w hH i u hu=>hr w (hH.frz hm) i u hu
end
theorem rt1d {P:Program} {N:Nat} {l:List (Nat × Value)} {a:Act} {w:World} {C:World→Prop} {fn:Func} {R:Value→World→Prop} {p:Tmp} {ty sz by_:Nat} {z:Value} {zs:List Value} {fl:List (Nat × Nat)} {q:Addr} {vs:List Value} {e:Exit} [h0:TSt P ty fl] [hi:TIf P ty z zs sz by_] (he:e= .ret∨e= .normal) (hr:fn.results=#[.cell p ty]) (hA:Sl N l a)
    (hp:lk l p=some (.pointer (some q))) (hl:vs.length=sz) (hC:C w) (hc:Cls C q vs) (h:R (.agg vs.toArray) w):bodyPost P fn (fun e w'=>∃v,e= .returned v∧R v w') e a w:=by
  have hg:a.tmps.getD p undef= .pointer (some q):=by simp [Array.getD_eq_getD_getElem?,hA.get p _ hp]
  obtain ⟨ti,h3,h4,h5,h6⟩:=hi.eq
  have hrun:(results fn a.tmps).run P w= .ok (.agg vs.toArray) w:=by
    have e1:(results fn a.tmps).run P w=((asAddr (a.tmps.getD p undef)).run P w).andThen fun b w₁=>(loadVar ty b).run P w₁:=by
      simp only [results,hr]
      simp [Sem.run_bind,Result.andThen]
    rw [e1,hg]
    simp [asAddr,loadVar,sO,sizeOf,typeInfo,h3,h5,←hl,run_loadCells_list w q vs (hc w hC),Result.andThen]
  rcases he with rfl|rfl
  · exact bodyPost_ret hrun hA.defers ⟨_,rfl,h⟩
  · exact bodyPost_end hrun hA.defers ⟨_,rfl,h⟩
end Go.Fw
namespace Go.Proofs.YtenlcdokaadobaaGreatDoor
open Go Go.Fw
set_option linter.unusedVariables false
def zS (b:Blc):List Value:=yE b++[.int .i64 0]
theorem wK (b:Blc):(zS b).length=7:=rfl
def yB (o:Option Addr) (n c bJ:Nat):List Value:=[.slice o n c,.map (some bJ)]
def wF (b:Blc):It:=own 59 5 b.is.o b.is.l.length b.is.c (flat xK b.is.l)
def toI (b:Blc):It:=own 61 2 b.e.to.o b.e.to.l.length b.e.to.c (flat yL b.e.to.l)
structure RdDr (w:World) (b:Blc):Prop where
  ps:RdV w Fw.encI b.ps
  is:∀i∈b.is.l,RdIn w i
  a:RdV w zN b.e.a
  ns:RdV w Fw.encI b.e.ns
  to:∀x∈b.e.to.l,RdV w zN x.a
theorem zW {α:Type} (w:World) (enc:α→List Value):RdV w enc zT:=⟨⟨fun h=>absurd h (Nat.lt_irrefl 0),fun j u h=>absurd h (by show ¬([]:List Value)[j]?=some u;simp)⟩,Nat.le_refl _,Nat.zero_le _⟩
def nbl (v:Vec Int):Blc:=⟨v,zT,⟨0,zT,zT,zT⟩⟩
theorem insI_nbl (v:Vec Int):wF (nbl v)=own 59 5 none 0 0 []:=rfl
theorem toI_nbl (v:Vec Int):toI (nbl v)=own 61 2 none 0 0 []:=rfl
theorem RdDr.nbl {w:World} {v:Vec Int} (h:RdV w Fw.encI v):RdDr w (nbl v):=⟨h,fun i hi=>absurd hi (List.not_mem_nil),zW _ _,zW _ _,fun i hi=>absurd hi (List.not_mem_nil)⟩
def AtN (w:World) (o:Option Addr) (j:Nat) (b:AN):Prop:=(∀i u,(xF b)[i]?=some u→w.cell? (sat o (j+i))=some u)∧RdN w b
theorem dr_at {ds:List Blc} {p off:Nat} {d:Blc} {v:Value} (h:ds[p]?=some d) (hv:(zS d)[off]?=some v):(flat zS ds)[p*7+off]?=some v:=yZ wK h hv
theorem bl_dr {d:Blc} {i:Nat} {v:Value} (h:(yE d)[i]?=some v):(zS d)[i]?=some v:=by
  unfold zS
  rw [List.getElem?_append_left (List.getElem?_eq_some_iff.1 h).1]
  exact h
section
attribute [local irreducible] Code.wp wpList Calls Ex Op1 sat bat blk cb own Go.Fw.mp Go.Fw.mpO Go.Fw.mpI Go.Fw.mpE Go.Fw.itr HS Rd Ret wkD Hp Cl Cls Exit.then Exit.inBlock Exit.noGoto bodyPost Go.Fw.flat wk2 Go.Fw.all Go.Fw.owns wpOp
attribute [local irreducible] sk mpK sko mvO xI

theorem mB (w0 w:World) (H:List It) (bM bJ:Nat) (K:World→Prop) (oD:Option Addr) (cD:Nat) (ds:List Blc) (js:List (Int × Int)) (v:Vec Int) (hK:∀w,K w→RdV w Fw.encI v) (hl:v.l.length≤17592186044416) (hd:ds.length≤2000000) (hH:HS w0 noM (cb bM 174 (yB oD (ds).length cD bJ)::own 179 7 oD (ds).length cD (flat zS (ds))::all ((ds).map wF)::all ((ds).map toI)::frz w0 K::mpI bJ js::H) w) :
    Ret Tryz.prog 74 #[.pointer (some (bat bM 0)),.slice v.o v.l.length v.c] w (fun r w'=>∃(oE:Option Addr) (cE:Nat) (K':World→Prop) (v':Vec Int),r= .int .i64 ds.length∧v'.l=v.l∧HS w0 noM (cb bM 174 (yB oE (ds++[nbl v']).length cE bJ)::own 179 7 oE (ds++[nbl v']).length cE (flat zS (ds++[nbl v']))::all ((ds++[nbl v']).map wF)::all ((ds++[nbl v']).map toI)::frz w0 K'::mpI bJ js::H) w'∧∀w,K' w→K w∧RdV w Fw.encI v'):=by
  (refine ENT (N:=24) Tryz.func74 Tryz.ntmps74 ?_;intro a hA)
  repeat' (first|(refine QT ?_;clear hA a;intro a hA)|refine CT ?_|fail)
  have hST:HS w0 noM [cb bM 174 (yB oD ds.length cD bJ)] w:=HS.left (H1:=[_]) hH
  (refine zK (H:=[_]) [(0,1),(1,1),(2,1),(3,1),(4,1),(5,1),(6,0),(7,1),(8,1),(9,0),(10,0),(11,1),(12,1)] [13] mixed (by decide +kernel) (hST) ?_;replace hH:=hH.drew)
  clear hST
  repeat' (first|(refine QT ?_;clear hA a;intro a hA)|(refine yO hA rfl rfl rfl (by decide) (zA rfl rfl rfl (cloneIN_spec _ v (hK _ (hH.frz MEMT)) hl)) ?_;clear hA;rintro _ w ⟨oV,cV,rfl,hj⟩;replace hH:=hH.join hj;clear hj;refine ⟨hH.pick MEMT,?_⟩;intro a hA)|fail)
  have hlV:=hH.own_le (T:=3) (o:=oV) (.head _)
  repeat' (first|(refine XT ?_;apply XE;(first|(apply xJ (szs:=[(0,6),(6,1)]) (cs:=#[.slice oV v.l.length cV,.slice none 0 0,.int .i64 0,.slice none 0 0,.slice none 0 0,.slice none 0 0,.int .i64 0]);exact wP (by (repeat (first|exact SzL.nil|refine SzL.cons ⟨_,rfl,by decide⟩ ?_)));rfl;rfl)|(apply xJ (szs:=[(0,1),(1,1),(2,4)]) (cs:=#[.slice oV v.l.length cV,.slice none 0 0,.int .i64 0,.slice none 0 0,.slice none 0 0,.slice none 0 0]);exact wP (by (repeat (first|exact SzL.nil|refine SzL.cons ⟨_,rfl,by decide⟩ ?_)));rfl;rfl));clear hA a;intro a hA)|(refine QT ?_;clear hA a;intro a hA)|fail)
  have hsd:(Value.agg #[.slice oV v.l.length cV,.slice none 0 0,.int .i64 0,.slice none 0 0,.slice none 0 0,.slice none 0 0,.int .i64 0])= .agg (zS (nbl ⟨oV,cV,v.l⟩)).toArray:=rfl
  rw [hsd] at hA
  obtain ⟨dn,hdn⟩:∃dn,dn=nbl ⟨oV,cV,v.l⟩:=⟨_,rfl⟩
  rw [←hdn] at hA
  clear hsd
  (apply yO hA rfl rfl rfl (by decide);apply zZ (xs:=zS dn) (vs:=[.agg (zS dn).toArray]);rfl;rfl;exact (Cats.cn (cs:=zS dn) Cats.nil);rfl;rfl;rfl;exact hH;clear hA hH;rintro _ w ⟨oN,rfl,hH⟩;refine ⟨hH.pick MEMT,?_⟩;intro a hA)
  have hRw:=hH.own_rd (T:=179) (o:=oN) (.head _)
  replace hH:=hH.perm (H':=own 179 7 oD ds.length cD (flat zS ds)::own 179 7 oN 1 1 (zS dn)::own 3 1 oV v.l.length cV (flat Fw.encI v.l)::cb bM 174 (yB oD ds.length cD bJ)::all (ds.map wF)::all (ds.map toI)::frz w0 K::mpI bJ js::H) PMT
  have hfl:(zS dn).length=1*7:=rfl
  have hon:(zS dn).all (·.oneCell')=true:=by rw [hdn];rfl
  (apply yO hA rfl rfl rfl (by decide);apply yX;rfl;rfl;exact hH;exact MEMT;exact hRw;exact hfl;rfl;decide;exact hon;(unfold maxLen;omega);omega;clear hA;rintro _ w ⟨oN,cN,rfl,hH2⟩;clear hH;have hH:=hH2 _ (by (repeat constructor));clear hH2;refine ⟨hH.pick MEMT,?_⟩;intro a hA)
  rw [←xZ] at hH
  repeat' (first|(refine QT ?_;clear hA a;intro a hA)|(apply zX hA rfl rfl rfl;apply zB (cs':=yB oN (ds.length+1) cN bJ);rfl;rfl;rfl;exact hH;(repeat constructor);clear hH;rintro _ w hH)|refine CT ?_|fail)
  have hlV:=hH.own_le (T:=3) (o:=oV) MEMT
  replace hH:=(hH.rm 1).perm (H':=own 3 1 oV v.l.length cV (flat Fw.encI v.l)::frz w0 K::cb bM 174 (yB oN (ds.length+1) cN bJ)::own 179 7 oN (ds.length+1) cN (flat zS (ds++[dn]))::all (ds.map wF)::all (ds.map toI)::mpI bJ js::H) PMT
  replace hH:=hH.frz_own
  have hI:wF dn=own 59 5 none 0 0 []:=by rw [hdn];exact insI_nbl _
  have hT:toI dn=own 61 2 none 0 0 []:=by rw [hdn];exact toI_nbl _
  replace hH:=((((hH.nil_own 59 5)).perm (H':=own 59 5 none 0 0 []::all (ds.map wF)::frz w0 (fun w=>Rd w oV (flat Fw.encI v.l)∧K w)::cb bM 174 (yB oN (ds.length+1) cN bJ)::own 179 7 oN (ds.length+1) cN (flat zS (ds++[dn]))::all (ds.map toI)::mpI bJ js::H) PMT)).pushA
  replace hH:=((((hH.nil_own 61 2)).perm (H':=own 61 2 none 0 0 []::all (ds.map toI)::frz w0 (fun w=>Rd w oV (flat Fw.encI v.l)∧K w)::cb bM 174 (yB oN (ds.length+1) cN bJ)::own 179 7 oN (ds.length+1) cN (flat zS (ds++[dn]))::all (ds.map wF++[own 59 5 none 0 0 []])::mpI bJ js::H) PMT)).pushA
  rw [←hI,←hT] at hH
  refine rt1 (.inl rfl) rfl hA rfl ⟨oN,cN,fun w=>Rd w oV (flat Fw.encI v.l)∧K w,⟨oV,cV,v.l⟩,rfl,rfl,?_,fun w h=>⟨h.2,h.1,hlV.1,hlV.2⟩⟩
  rw [←hdn,List.map_append,List.map_append,List.length_append]
  exact hH.perm PMT
end
mutual
def ShN:AN→Prop
  | .mk k x xs n ns r a ko kc kids=>((1≤k∧k≤8)∧a.l.length≤65536∧r.a.l.length≤65536∧(k=1→kids.length=1)∧(k=7→kids.length=2))∧ShNs kids
def ShNs:List AN→Prop
  | []=>True
  |b::l=>ShN b∧ShNs l
end
theorem uQ:∀{l:List AN},ShNs l→∀b∈l,ShN b
  | [],_,b,h=>absurd h (List.not_mem_nil)
  | c::l,hl,b,h=>by
    rw [ShNs] at hl
    exact (List.mem_cons.1 h).elim (fun e=>e▸hl.1) (uQ hl.2 b)
section
variable {g:Grs} {la:List Int} {mine:Int}
theorem ats_len {l:List Atm} {s s':CS} (hs:CsOk s) (h:jI g l s=some s'):l.length≤65536:=by
  unfold jI at h
  split at h
  · next ha=>
    rcases ha.2 with rfl|h2
    · exact Nat.zero_le _
    · have:=hs.p0;omega
  · cases h
theorem aD:∀(l:List AN),(∀b∈l,∀(d:Int) (s s':CS),CsOk s→xL g la mine b d s=some s'→ShN b)→∀(d:Int) (s s':CS),CsOk s→wI g la mine l d s=some s'→ShNs l
  | [],_,d,s,s',hs,h=>by rw [ShNs];trivial
  | b::l,ih,d,s,s',hs,h=>by
    rw [wI] at h
    obtain ⟨s1,h1,h2⟩:=Option.bind_eq_some_iff.1 h
    rw [ShNs]
    exact ⟨ih b (List.mem_cons_self ..) d s s1 hs h1,aD l (fun b hb=>ih b (List.mem_cons_of_mem _ hb)) d s1 s' (uE _ _ _ _ hs h1) h2⟩
theorem sh_of:∀b:AN,∀(d:Int) (s s':CS),CsOk s→xL g la mine b d s=some s'→ShN b:=oK fun k x xs n ns r a ko kc kids ih=>by
  intro d s s' hs he
  rw [xL] at he
  obtain ⟨s1,h1,he⟩:=Option.bind_eq_some_iff.1 he
  have hcp:=jQ hs h1
  have hal:a.l.length≤65536:=by
    unfold nW at h1
    split at h1
    · next hc=>exact ats_len (s:={s with p:=s.p+1}) ⟨by have:=hs.p0;show 0≤s.p+1;omega,hc.2.1,hs.now⟩ h1
    · cases h1
  obtain ⟨⟨hk,hsh⟩,hat,rfl⟩:=pre_of h1
  rw [ShN]
  have hra0:¬k=1→r.a.l.length≤65536:=fun h=>by
    rcases hsh.r with h2|h2
    · exact absurd h2 h
    · rw [h2.2.2.2];exact Nat.zero_le _
  by_cases k1:k=1
  · rw [if_pos k1] at he
    obtain ⟨s2,h2,he⟩:=Option.bind_eq_some_iff.1 he
    obtain ⟨s2',h2a,h2b⟩:=Option.bind_eq_some_iff.1 h2
    obtain ⟨s3,h3,rfl⟩:=Option.map_eq_some_iff.1 he
    obtain ⟨b0,rfl⟩:∃b0,kids=[b0]:=List.length_eq_one_iff.1 (hsh.kids.1 k1)
    rw [tB] at h3
    have hra:r.a.l.length≤65536:=by
      unfold jH at h2a
      split at h2a
      · exact ats_len hcp h2a
      · cases h2a
    refine ⟨⟨hk,hal,hra,fun _=>rfl,fun h=>absurd (k1.symm.trans h) (by decide)⟩,?_⟩
    rw [ShNs,ShNs]
    exact ⟨ih b0 (List.mem_singleton.2 rfl) _ _ _ (rE (jU hcp h2a) h2b) h3,trivial⟩
  rw [if_neg k1] at he
  have hra:=hra0 k1
  by_cases k7:k=7
  · rw [if_pos k7] at he
    obtain ⟨s2,h2,he⟩:=Option.bind_eq_some_iff.1 he
    obtain ⟨b0,b1,rfl⟩:∃b0 b1,kids=[b0,b1]:=lO (hsh.kids.2.1 (.inr k7))
    rw [pL] at he
    obtain ⟨s3,h3,he⟩:=Option.bind_eq_some_iff.1 he
    obtain ⟨s5,h5,rfl⟩:=Option.map_eq_some_iff.1 he
    rw [tB] at h5
    have hcs2:=newJ_ok hcp h2
    refine ⟨⟨hk,hal,hra,fun h=>absurd h k1,fun _=>rfl⟩,?_⟩
    rw [ShNs,ShNs,ShNs]
    exact ⟨ih b0 (List.mem_cons_self ..) _ _ _ hcs2 h3,ih b1 (List.mem_cons_of_mem _ (List.mem_cons_self ..)) _ _ _ (uE _ _ _ _ hcs2 h3).unb.op h5,trivial⟩
  rw [if_neg k7] at he
  refine ⟨⟨hk,hal,hra,fun h=>absurd h k1,fun h=>absurd h k7⟩,?_⟩
  by_cases k8:k=8
  · obtain rfl:kids=[]:=List.length_eq_zero_iff.1 (hsh.kids.2.2 (.inr (.inr (.inr k8))))
    rw [ShNs];trivial
  rw [if_neg k8] at he
  by_cases k6:k=6
  · rw [if_pos k6] at he
    split at he
    · exact aD kids ih _ _ _ hcp he
    · cases he
  · rw [if_neg k6] at he
    exact aD kids ih _ _ _ hcp he
end
def Lim (D:List Blc) (m:Nat):Prop:=D.length+m≤2000000∧∀d∈D,d.is.l.length+m≤2000000
theorem Lim.le {D:List Blc} {m n:Nat} (h:Lim D m) (hn:n≤m):Lim D n:=⟨by have:=h.1;omega,fun d hd=>by have:=h.2 d hd;omega⟩
theorem Lim.new {D:List Blc} {m:Nat} (h:Lim D (m+1)) (ps:List Int):Lim (D++[xS ps]) m:=⟨by have:=h.1;rw [List.length_append,List.length_singleton];omega,fun d hd=>by
  rcases List.mem_append.1 hd with hd|hd
  · have:=h.2 d hd;omega
  · rw [List.mem_singleton] at hd
    subst hd
    have:=h.1
    show 0+m≤_
    omega⟩
theorem gP {α:Type} {l:List α} {p:Nat} {f:α→α} {x:α} (h:x∈l.modify p f):x∈l∨∃y∈l,x=f y:=by
  obtain ⟨i,hi⟩:=List.mem_iff_getElem?.1 h
  rw [List.getElem?_modify] at hi
  obtain ⟨y,hy,rfl⟩:=Option.map_eq_some_iff.1 hi
  split
  · exact .inr ⟨y,List.mem_of_getElem? hy,rfl⟩
  · exact .inl (List.mem_of_getElem? hy)
theorem Lim.add {D:List Blc} {m p:Nat} {x:Int} {r:Stp} (h:Lim D (m+1)):Lim (D.modify p (tJ x r)) m:=⟨by have:=h.1;rw [List.length_modify];omega,fun d hd=>by
  rcases gP hd with hd| ⟨y,hy,rfl⟩
  · have:=h.2 d hd;omega
  · have:=h.2 y hy
    show (y.is.l++[_]).length+m≤_
    rw [List.length_append,List.length_singleton]
    omega⟩
theorem Lim.end_ {D:List Blc} {m p:Nat} {e:En} (h:Lim D m):Lim (D.modify p (wC e)) m:=⟨by have:=h.1;rw [List.length_modify];omega,fun d hd=>by
  rcases gP hd with hd| ⟨y,hy,rfl⟩
  · exact h.2 d hd
  · exact h.2 y hy⟩
theorem lim_kids:∀l:List AN,ShNs l→(∀b∈l,ShN b→∀(p:Nat) (S:FS) (m:Nat),Lim S.1 (szN b - 1+m)→Lim (xH b p S).1 m∧S.1.length≤(xH b p S).1.length)→∀(S:FS) (es:List Edg) (m:Nat),Lim S.1 (xR l+m)→Lim (xW l S es).1.1 m∧S.1.length≤(xW l S es).1.1.length
  | [],_,_,S,es,m,h=>by
    rw [xW]
    exact ⟨h.le (by omega),Nat.le_refl _⟩
  | b::l,hs,ih,S,es,m,h=>by
    rw [xW]
    rw [xR] at h
    rw [ShNs] at hs
    have hp:=vS b
    obtain ⟨h1,h2⟩:=ih b (List.mem_cons_self ..) hs.1 S.1.length (S.1++[xS []],S.2) (xR l+m) ((h.le (n:=szN b - 1+(xR l+m)+1) (by omega)).new [])
    obtain ⟨h3,h4⟩:=lim_kids l hs.2 (fun b hb=>ih b (List.mem_cons_of_mem _ hb)) _ (es++[⟨S.1.length,lv []⟩]) m h1
    dsimp only at h2
    rw [List.length_append,List.length_singleton] at h2
    exact ⟨h3,by omega⟩
theorem gS:∀(b:AN),ShN b→∀(p:Nat) (S:FS) (m:Nat),Lim S.1 (szN b - 1+m)→Lim (xH b p S).1 m∧S.1.length≤(xH b p S).1.length:=oK fun k x xs n ns r a ko kc kids ih=>by
  intro hsh p S m h
  obtain ⟨D,js⟩:=S
  dsimp only at h ⊢
  rw [szN] at h
  rw [ShN] at hsh
  obtain ⟨⟨hk,_,_,hk1,hk7⟩,hks⟩:=hsh
  rw [xH]
  by_cases k1:k=1
  · rw [if_pos k1]
    obtain ⟨b,rfl⟩:∃b0,kids=[b0]:=List.length_eq_one_iff.1 (hk1 k1)
    rw [xR] at h
    have hp:=vS b
    rw [tK]
    obtain ⟨h1,h2⟩:=ih b (List.mem_cons_self ..) (uQ hks b (List.mem_cons_self ..)) p (D.modify p (tJ x r),js) m (h.le (n:=szN b - 1+m+1) (by omega)).add
    dsimp only at h2
    rw [List.length_modify] at h2
    exact ⟨h1,h2⟩
  rw [if_neg k1]
  by_cases k7:k=7
  · rw [if_pos k7]
    obtain ⟨b0,b1,rfl⟩:∃b0 b1,kids=[b0,b1]:=lO (hk7 k7)
    rw [xR,xR,xR] at h
    have hp0:=vS b0
    have hp1:=vS b1
    rw [lB,tK]
    have m1:b1∈[b0,b1]:=List.mem_cons_of_mem _ (List.mem_cons_self ..)
    obtain ⟨h1,h2⟩:=ih b0 (List.mem_cons_self ..) (uQ hks b0 (List.mem_cons_self ..)) D.length (D++[xS xs.l],wX js n D.length) (szN b1 - 1+m) ((h.le (n:=szN b0 - 1+(szN b1 - 1+m)+1) (by omega)).new xs.l)
    obtain ⟨h3,h4⟩:=ih b1 m1 (uQ hks b1 m1) p _ m h1
    dsimp only at h2
    rw [List.length_append,List.length_singleton] at h2
    exact ⟨h3,by dsimp only;omega⟩
  rw [if_neg k7]
  by_cases k8:k=8
  · rw [if_pos k8]
    exact ⟨(h.le (by omega)).end_,by rw [List.length_modify];exact Nat.le_refl _⟩
  rw [if_neg k8]
  by_cases k56:k=5∨k=6
  · rw [if_pos k56]
    obtain ⟨h1,h2⟩:=lim_kids kids hks ih (D,js) [] m (h.le (by omega))
    exact ⟨h1.end_,by rw [List.length_modify];exact h2⟩
  · rw [if_neg k56]
    exact ⟨(h.le (by omega)).end_,by rw [List.length_modify];exact Nat.le_refl _⟩
theorem qN {ds:List Blc} {m:Nat}:Lim (ds.map stB) m↔Lim ds m:=by
  unfold Lim
  rw [List.length_map]
  refine and_congr Iff.rfl ⟨fun h d hd=>?_,fun h d hd=>?_⟩
  · have:=h (stB d) (List.mem_map.2 ⟨d,hd,rfl⟩)
    have e:(stB d).is.l.length=d.is.l.length:=List.length_map ..
    omega
  · obtain ⟨d',hd',rfl⟩:=List.mem_map.1 hd
    have e:(stB d').is.l.length=d'.is.l.length:=List.length_map ..
    have:=h d' hd'
    omega
theorem nV {ds:List Blc} {p:Nat} {d d':Blc} {f:Blc→Blc} (h:ds[p]?=some d) (hf:stB d'=f (stB d)):(ds.set p d').map stB=(ds.map stB).modify p f:=by
  apply List.ext_getElem?
  intro i
  rw [List.getElem?_map,List.getElem?_modify,List.getElem?_map,List.getElem?_set]
  by_cases hi:p=i
  · subst hi
    have hl:=(List.getElem?_eq_some_iff.1 h).1
    rw [if_pos rfl,if_pos hl,h]
    simp [hf]
  · rw [if_neg hi]
    cases ds[i]? with
    |none=>rfl
    |some y=>show some (stB y)=some (if p=i then f (stB y) else stB y);rw [if_neg hi]
def FillC (w0:World) (bM bJ:Nat) (b:AN):Prop:=∀(H:List It) (w:World) (p:Nat) (K:World→Prop) (oD:Option Addr) (cD:Nat) (ds:List Blc) (js:List (Int × Int)) (ob:Option Addr) (jb:Nat),(∀w,K w→AtN w ob jb b∧∀d∈ds,RdDr w d)→p<ds.length→Lim ds (szN b)→HS w0 noM (cb bM 174 (yB oD (ds).length cD bJ)::own 179 7 oD (ds).length cD (flat zS (ds))::all ((ds).map wF)::all ((ds).map toI)::frz w0 K::mpI bJ js::H) w→
  Ret Tryz.prog 73 #[.pointer (some (bat bM 0)),.int .i64 p,.pointer (some (sat ob jb))] w (fun r w'=>∃(K':World→Prop) (oE:Option Addr) (cE:Nat) (ds':List Blc) (js':List (Int × Int)),HS w0 noM (cb bM 174 (yB oE (ds').length cE bJ)::own 179 7 oE (ds').length cE (flat zS (ds'))::all ((ds').map wF)::all ((ds').map toI)::frz w0 K'::mpI bJ js'::H) w'∧(∀w,K' w→K w∧∀d∈ds',RdDr w d)∧(ds'.map stB,js')=xH b p (ds.map stB,js))
structure FSt where
  b:AN
  o:Option Addr
  j:Nat
  K:World→Prop
  oD:Option Addr
  cD:Nat
  ds:List Blc
  js:List (Int × Int)
theorem aE {w:World} {k x n:Int} {xs ns:Vec Int} {r:Stp} {va:Vec Atm} {ko:Option Addr} {kc:Nat} {kids:List AN} {i:Nat} {c:AN} (h:RdN w (.mk k x xs n ns r va ko kc kids)) (hi:kids[i]?=some c):AtN w ko (i*11) c:=by
  cases h with
  |mk h1 h2 h3 h4 h5 h6 h7=>exact ⟨fun j u hu=>h6.1.1.2 _ u (yA wN hi j u hu),h7 c (List.mem_of_getElem? hi)⟩
theorem kid_sp {w:World} {k x n:Int} {xs ns:Vec Int} {r:Stp} {va:Vec Atm} {ko:Option Addr} {kc:Nat} {kids:List AN} (h:RdN w (.mk k x xs n ns r va ko kc kids)):Sp ko kids.length∧kids.length≤17592186044416:=by
  cases h with
  |mk h1 h2 h3 h4 h5 h6 h7=>exact ⟨h6.1.1.sp (sz:=11) (zF wN _) (by omega),h6.2⟩
theorem lT {w:World} {ds:List Blc} {p:Nat} {d':Blc} (h:∀d∈ds,RdDr w d) (h':RdDr w d'):∀d∈ds.set p d',RdDr w d:=fun d hd=>by
  rcases List.mem_or_eq_of_mem_set hd with h1|rfl
  · exact h d h1
  · exact h'
def eV (d:Blc) (o:Option Addr) (c:Nat) (i:Ins):Blc:=⟨d.ps,⟨o,c,d.is.l++[i]⟩,d.e⟩
theorem addD_st {d:Blc} {o oA oS:Option Addr} {c cA cS:Nat} {x:Int} {r:Stp}:stB (eV d o c ⟨x,⟨r.k,r.n,⟨oS,cS,r.ns.l⟩,⟨oA,cA,r.a.l⟩⟩⟩)=tJ x r (stB d):=by
  unfold stB eV tJ lv
  simp only [List.map_append]
  rfl
theorem addD_put {d:Blc} {o:Option Addr} {c:Nat} {i:Ins}:put (zS d) 1 [.slice o (d.is.l.length+1) c]=zS (eV d o c i):=by
  have:(d.is.l++[i]).length=d.is.l.length+1:=by rw [List.length_append];rfl
  unfold eV zS yE
  rw [←this]
  rfl
theorem addD_ins {d:Blc} {o:Option Addr} {c:Nat} {i:Ins}:wF (eV d o c i)=own 59 5 o (d.is.l.length+1) c (flat xK (d.is.l++[i])):=by
  have:(d.is.l++[i]).length=d.is.l.length+1:=by rw [List.length_append];rfl
  rw [←this]
  rfl
theorem addD_to {d:Blc} {o:Option Addr} {c:Nat} {i:Ins}:toI (eV d o c i)=toI d:=rfl
theorem mW {l:List Blc} {p:Nat} {x y:Blc} {f:Blc→It} (h:l[p]?=some x) (e:f y=f x):(l.set p y).map f=l.map f:=by
  rw [List.map_set,e]
  obtain ⟨hi,rfl⟩:=List.getElem?_eq_some_iff.1 h
  apply List.ext_getElem?
  intro i
  rw [List.getElem?_set,List.length_map]
  by_cases hc:p=i
  · subst hc
    rw [if_pos rfl,if_pos hi,List.getElem?_map,h]
    rfl
  · rw [if_neg hc]
theorem ins_rd {w:World} {x:Int} {r:Stp} {oA oS:Option Addr} {cA cS:Nat} (hA:Rd w oA (flat zN r.a.l)) (hA2:r.a.l.length≤cA∧cA≤maxLen) (hS:Rd w oS (flat Fw.encI r.ns.l)) (hS2:r.ns.l.length≤cS∧cS≤maxLen):RdIn w ⟨x,⟨r.k,r.n,⟨oS,cS,r.ns.l⟩,⟨oA,cA,r.a.l⟩⟩⟩:=⟨⟨hS,hS2⟩,⟨hA,hA2⟩⟩
theorem addD_rd {w:World} {d:Blc} {o:Option Addr} {c:Nat} {i:Ins} (h:RdDr w d) (hi:RdIn w i):RdDr w (eV d o c i):=⟨h.ps,fun j hj=>by
  rcases List.mem_append.1 hj with h1|h1
  · exact h.is j h1
  · rw [List.mem_singleton] at h1;subst h1;exact hi,h.a,h.ns,h.to⟩
theorem nilTo:own 61 2 none 0 0 []=own 61 2 (zT:Vec Edg).o (zT:Vec Edg).l.length (zT:Vec Edg).c (flat yL (zT:Vec Edg).l):=rfl
theorem lD {d:Blc} {e:En}:put (zS d) 2 (wO e)=zS (wC e d):=rfl
theorem fO {w0 w:World} {ds:List Blc} {p:Nat} {d:Blc} {e:En} {X:List It} (h:HS w0 noM (own 61 2 e.to.o e.to.l.length e.to.c (flat yL e.to.l)::all (ds.map toI)::X) w) (hd:ds[p]?=some d):HS w0 noM (all ((ds.set p (wC e d)).map toI)::X) w:=by
  have h1:=(h.perm (.swap _ _ _)).openAt (i:=p) (x:=toI d) (by rw [List.getElem?_map,hd];rfl)
  have h2:=(h1.tail.perm (.swap _ _ _)).shutAt (by rw [List.length_map];exact (List.getElem?_eq_some_iff.1 hd).1)
  rw [List.map_set]
  exact h2
theorem lE {ds:List Blc} {p:Nat} {d:Blc} {e:En} (hd:ds[p]?=some d):(ds.set p (wC e d)).map wF=ds.map wF:=mW hd rfl
theorem fQ {w:World} {d:Blc} {e:En} (h:RdDr w d) (ha:RdV w zN e.a) (hn:RdV w Fw.encI e.ns) (ht:∀x∈e.to.l,RdV w zN x.a):RdDr w (wC e d):=⟨h.ps,h.is,ha,hn,ht⟩
theorem fP {d:Blc} {e:En}:stB (wC e d)=wC (stN e) (stB d):=rfl
theorem szNs_mem:∀{l:List AN} {c:AN},c∈l→szN c≤xR l
  | [],c,h=>absurd h (List.not_mem_nil)
  | b::l,c,h=>by
    rw [xR]
    rcases List.mem_cons.1 h with rfl|h
    · omega
    · have:=szNs_mem h;omega
theorem flatE_one (x:Edg):yL x=flat yL [x]:=by show yL x=yL x++[];rw [List.append_nil]
structure KSt where
  i:Nat
  K:World→Prop
  oD:Option Addr
  cD:Nat
  ds:List Blc
  js:List (Int × Int)
  oT:Option Addr
  cT:Nat
  es:List Edg
section
attribute [local irreducible] Code.wp wpList Calls Ex Op1 sat bat blk cb own Go.Fw.mp Go.Fw.mpO Go.Fw.mpI Go.Fw.mpE Go.Fw.itr HS Rd Ret wkD Hp Cl Cls Exit.then Exit.inBlock Exit.noGoto bodyPost Go.Fw.flat wk2 Go.Fw.all Go.Fw.owns wpOp
attribute [local irreducible] sk mpK sko mvO xI

theorem fillN_spec (w0:World) (bM bJ:Nat):∀(N:Nat) (b:AN),szN b≤N→ShN b→FillC w0 bM bJ b:=by
  intro N
  induction N with
  |zero=>intro b hz;have:=vS b;omega
  |succ N ihN=>
  intro b0 hz0 hsh0 H w p K oD0 cD0 ds0 js0 ob0 jb0 hK0 hp0 hl0 hH
  (refine ENT (N:=202) Tryz.func73 Tryz.ntmps73 ?_;intro a hA)
  repeat' (first|(refine QT ?_;clear hA a;intro a hA)|refine CT ?_|fail)
  refine yK (S:=FSt) (fun t a w=>((∀w,t.K w→K w∧AtN w t.o t.j t.b∧∀d∈t.ds,RdDr w d)∧p<t.ds.length∧Lim t.ds (szN t.b)∧szN t.b≤N+1∧ShN t.b∧xH b0 p (ds0.map stB,js0)=xH t.b p (t.ds.map stB,t.js))∧HS w0 noM (cb bM 174 (yB t.oD (t.ds).length t.cD bJ)::own 179 7 t.oD (t.ds).length t.cD (flat zS (t.ds))::all ((t.ds).map wF)::all ((t.ds).map toI)::frz w0 t.K::mpI bJ t.js::H) w∧Sl 202 [(0,.pointer (some (bat bM 0))),(1,.int .i64 p),(2,.pointer (some (sat t.o t.j)))] a) (fun t=>szN t.b)
    (fun a w=>False) ⟨b0,ob0,jb0,K,oD0,cD0,ds0,js0⟩ ⟨⟨fun w h=>⟨h,hK0 w h⟩,hp0,hl0,hz0,hsh0,rfl⟩,hH,(hA.sub SBT)⟩ ?_ (fun a w h=>h.elim)
  clear hA hH hK0 hp0 hl0 hz0 hsh0
  rintro ⟨b,ob,jb,K1,oD,cD,ds,js⟩ a w ⟨⟨hK,hp,hl,hz,hsh,heq⟩,hH,hA⟩
  dsimp only at hK hp hl hz hsh heq hH hA ⊢
  obtain ⟨k,x,xs,n,ns,r,va,ko,kc,kids⟩:=b
  obtain ⟨d,hd⟩:∃d,ds[p]?=some d:=⟨_,List.getElem?_eq_getElem hp⟩
  have hspD:=hH.own_sp (T:=179) (o:=oD) MEMT
  rw [ShN] at hsh
  obtain ⟨⟨hk,hal,hral,hk1,hk7⟩,hks⟩:=hsh
  have hat:=fun w (h:K1 w)=>(hK w h).2.1.1
  have hrd:=fun w (h:K1 w)=>(hK w h).2.1.2
  have hk8:k=1∨k=7∨k=2∨k=3∨k=4∨k=8∨k=5∨k=6:=by omega
  rcases hk8 with rfl|hk8
  · --let
    --((
    repeat' (first|(refine XT ?_;apply XE;(first|(apply zC;rfl;exact tL MEMT (fun w h=>hat w h _ _ rfl)));clear hA a;intro a hA)|(refine QT ?_;clear hA a;intro a hA)|refine CT ?_|fail)
    have hatR:∀w,K1 w→∀i u,(yG r)[i]?=some u→w.cell? ((sat ob (jb+5)).add i)=some u:=fun w h i u hu=>by
      rw [oZ,Nat.add_assoc]
      exact hat w h _ _ (by have:=sub_R (k:=1) (x:=x) (n:=n) (xs:=xs) (ns:=ns) (va:=va) (ko:=ko) (kc:=kc) (kids:=kids) i u hu;rwa [Nat.zero_add] at this)
    repeat' (first|(refine XT ?_;apply XE;(first|(apply zG (vs:=yG r);rfl;rfl;exact cls_fz MEMT hatR));clear hA a;intro a hA)|(refine QT ?_;clear hA a;intro a hA)|(refine BT ?_;clear hA hH;rintro _ w ⟨bN,rfl,hH⟩ a hA)|(refine SAT (yG r) hA hH ?_;clear hH;intro w hH)|refine CT ?_|fail)
    obtain ⟨b7,hq3⟩:∃x,x=bN:=⟨_,rfl⟩;rw [←hq3] at hA hH;clear hq3 bN
    have hrR:∀w,K1 w→RdV w Fw.encI r.ns∧RdV w zN r.a∧r.ns.l.length≤17592186044416:=fun w h=>by
      have:=hrd w h
      cases this with
      |mk h1 h2 h3 h4 h5 h6 h7=>exact ⟨h3.1,h4.1,h3.2⟩
    have hST:HS w0 noM [cb b7 57 (yG r)] w:=hH.pick MEMT
    (refine zK (H:=[_]) [(0,1),(1,1),(3,1),(4,1),(2,0),(6,1),(5,0)] [7,8,9] mixed (by decide +kernel) (hST) ?_;replace hH:=hH.drew)
    clear hST
    repeat' (first|(refine QT ?_;clear hA a;intro a hA)|fail)
    (refine yO hA rfl rfl rfl (by decide) (zA rfl rfl rfl (uF _ r.a (hrR _ (hH.frz MEMT)).2.1 (by omega))) ?_;clear hA;rintro _ w ⟨oA,cA,rfl,hj⟩;replace hH:=hH.join hj;clear hj;refine ⟨hH.pick MEMT,?_⟩;intro a hA)
    repeat' (first|(refine QT ?_;clear hA a;intro a hA)|fail)
    (refine yO hA rfl rfl rfl (by decide) (zA rfl rfl rfl (sS _ r.ns (hrR _ (hH.frz MEMT)).1 (hrR _ (hH.frz MEMT)).2.2)) ?_;clear hA;rintro _ w ⟨oS,cS,rfl,hj⟩;replace hH:=hH.join hj;clear hj;refine ⟨hH.pick MEMT,?_⟩;intro a hA)
    repeat' (first|(refine QT ?_;clear hA a;intro a hA)|(apply zX hA rfl rfl rfl;apply zB (cs':=[.int .i64 r.k,.int .i64 r.n,.slice r.ns.o r.ns.l.length r.ns.c,.slice oA r.a.l.length cA]);rfl;rfl;rfl;exact hH;(repeat constructor);clear hH;rintro _ w hH)|(apply zX hA rfl rfl rfl;apply zB (cs':=[.int .i64 r.k,.int .i64 r.n,.slice oS r.ns.l.length cS,.slice oA r.a.l.length cA]);rfl;rfl;rfl;exact hH;(repeat constructor);clear hH;rintro _ w hH)|refine CT ?_|fail)
    have hlS:=hH.own_le (T:=2) (o:=oS) MEMT
    have hlA:=hH.own_le (T:=65) (o:=oA) MEMT
    obtain ⟨K2,hK2⟩:∃K2:World→Prop,K2=(fun w=>Rd w oA (flat zN r.a.l)∧Rd w oS (flat Fw.encI r.ns.l)∧K1 w):=⟨_,rfl⟩
    have hiL:(ds.map wF)[p]?=some (wF d):=by rw [List.getElem?_map,hd];rfl
    obtain ⟨r1,hr1⟩:∃r1:Stp,r1=⟨r.k,r.n,⟨oS,cS,r.ns.l⟩,⟨oA,cA,r.a.l⟩⟩:=⟨_,rfl⟩
    have hvR:(yG r1)=[.int .i64 r.k,.int .i64 r.n,.slice oS r.ns.l.length cS,.slice oA r.a.l.length cA]:=by rw [hr1];rfl
    rw [←hvR] at hH
    replace hH:=(hH.perm (H':=own 2 1 oS r.ns.l.length cS (flat Fw.encI r.ns.l)::frz w0 K1::own 65 2 oA r.a.l.length cA (flat zN r.a.l)::all (ds.map wF)::cb b7 57 (yG r1)::cb bM 174 (yB oD ds.length cD bJ)::own 179 7 oD ds.length cD (flat zS ds)::all (ds.map toI)::mpI bJ js::H) PMT).frz_own
    replace hH:=(hH.perm (H':=own 65 2 oA r.a.l.length cA (flat zN r.a.l)::frz w0 (fun w=>Rd w oS (flat Fw.encI r.ns.l)∧K1 w)::all (ds.map wF)::cb b7 57 (yG r1)::cb bM 174 (yB oD ds.length cD bJ)::own 179 7 oD ds.length cD (flat zS ds)::all (ds.map toI)::mpI bJ js::H) PMT).frz_own
    rw [←hK2] at hH
    replace hH:=(hH.perm (H':=all (ds.map wF)::frz w0 K2::cb b7 57 (yG r1)::cb bM 174 (yB oD ds.length cD bJ)::own 179 7 oD ds.length cD (flat zS ds)::all (ds.map toI)::mpI bJ js::H) PMT).openAt hiL
    have hI:wF d=own 59 5 d.is.o d.is.l.length d.is.c (flat xK d.is.l):=rfl
    rw [hI] at hH
    replace hH:=hH.perm (H':=frz w0 K2::cb b7 57 (yG r1)::cb bM 174 (yB oD ds.length cD bJ)::own 179 7 oD ds.length cD (flat zS ds)::own 59 5 d.is.o d.is.l.length d.is.c (flat xK d.is.l)::all ((ds.map wF).eraseIdx p)::all (ds.map toI)::mpI bJ js::H) PMT
    have hvI:(zS d)[1]?=some (.slice d.is.o d.is.l.length d.is.c):=rfl
    have hv1:=dr_at (off:=1) hd hvI
    have hat2:∀w,K2 w→∀i u,(xF (.mk 1 x xs n ns r va ko kc kids))[i]?=some u→w.cell? (sat ob (jb+i))=some u:=fun w h=>hat w (by rw [hK2] at h;exact h.2.2)
    have hdl:=hl.2 d (List.mem_of_getElem? hd)
    have hST:HS w0 noM [_,_,_,_] w:=HS.left (H1:=[_,_,_,_]) hH
    (refine zK (H:=[_,_,_,_]) [(0,1),(1,1),(2,1),(3,1),(4,1),(5,1),(6,1),(7,1),(8,1),(9,1),(10,1),(11,1),(12,1),(13,1),(14,1),(15,1),(16,1),(17,1),(18,1),(19,1),(20,0),(21,0),(22,1),(23,1),(24,1)] [25] mixed (by decide +kernel) (hST) ?_;replace hH:=hH.drew)
    clear hST
    repeat' (first|(refine XT ?_;apply XE;(first|(apply zC;rfl;exact tL MEMT (fun w h=>hat2 w h _ _ rfl))|(apply zC;rfl;exact uD MEMT hv1)|(apply zG (vs:=yG r1);rfl;rfl;exact zR MEMT)|(apply xJ (szs:=[(0,1),(1,4)]) (cs:=(xK ⟨x,r1⟩).toArray);exact wP (by (repeat (first|exact SzL.nil|refine SzL.cons ⟨_,rfl,by decide⟩ ?_)));rfl;rfl));clear hA a;intro a hA)|(refine QT ?_;clear hA a;intro a hA)|fail)
    (apply yO hA rfl rfl rfl (by decide);apply zZ (xs:=xK ⟨x,r1⟩) (vs:=[.agg (xK ⟨x,r1⟩).toArray]);rfl;rfl;exact (Cats.cn (cs:=xK ⟨x,r1⟩) Cats.nil);rfl;rfl;rfl;exact hH;clear hA hH;rintro _ w ⟨oN,rfl,hH⟩;refine ⟨HS.left (H1:=[_,_,_,_]) hH.tail,?_⟩;intro a hA)
    have hRw:=hH.own_rd (T:=59) (o:=oN) (.head _)
    have hfl:(xK ⟨x,r1⟩).length=1*5:=rfl
    have hon:(xK ⟨x,r1⟩).all (·.oneCell')=true:=rfl
    replace hH:=hH.perm (H':=frz w0 K2::cb b7 57 (yG r1)::cb bM 174 (yB oD ds.length cD bJ)::own 179 7 oD ds.length cD (flat zS ds)::own 59 5 d.is.o d.is.l.length d.is.c (flat xK d.is.l)::own 59 5 oN 1 1 (xK ⟨x,r1⟩)::all ((ds.map wF).eraseIdx p)::all (ds.map toI)::mpI bJ js::H) PMT
    (apply yO hA rfl rfl rfl (by decide);apply yX;rfl;rfl;exact hH;exact MEMT;exact hRw;exact hfl;rfl;decide;exact hon;(unfold maxLen;omega);omega;clear hA;rintro _ w ⟨oN,cN,rfl,hH2⟩;clear hH;have hH:=hH2 _ (by (repeat constructor));clear hH2;refine ⟨HS.left (H1:=[_,_,_,_]) hH,?_⟩;intro a hA)
    rw [←xZ] at hH
    have hput:put (flat zS ds) (p*7+0+1) [.slice oN (d.is.l.length+1) cN]=flat zS (ds.set p (eV d oN cN ⟨x,r1⟩)):=sD wK (off:=1) hd addD_put (by show 1+1≤7;decide)
    have hdlen:(flat zS ds).length=ds.length*7:=zF wK _
    repeat' (first|(refine QT ?_;clear hA a;intro a hA)|(apply zX hA rfl rfl rfl;apply uS (xs':=flat zS (ds.set p (eV d oN cN ⟨x,r1⟩)));rfl;rfl;rfl;exact hH;(repeat constructor);omega;exact hput;clear hH;rintro _ w hH)|refine CT ?_|fail)
    obtain ⟨c0,rfl⟩:∃c0,kids=[c0]:=List.length_eq_one_iff.1 (hk1 rfl)
    have hspK:=(kid_sp (hrd w (by have h:=hH.frz MEMT;rw [hK2] at h;exact h.2.2))).1
    repeat' (first|(refine XT ?_;apply XE;(first|(apply zC;rfl;exact tL MEMT (fun w h=>hat2 w h _ _ rfl)));clear hA a;intro a hA)|(refine QT ?_;clear hA a;intro a hA)|refine CT ?_|fail)
    have hlI:=hH.own_le (T:=59) (o:=oN) MEMT
    obtain ⟨d1,hd1⟩:∃d1,d1=eV d oN cN ⟨x,r1⟩:=⟨_,rfl⟩
    have hI1:wF d1=own 59 5 oN (d.is.l.length+1) cN (flat xK (d.is.l++[⟨x,r1⟩])):=by rw [hd1];exact addD_ins
    have hT1:(ds.set p d1).map toI=ds.map toI:=mW hd (by rw [hd1];exact addD_to)
    rw [←hd1,←hI1] at hH
    replace hH:=(hH.rm 1 |>.rm 4).perm (H':=wF d1::all ((ds.map wF).eraseIdx p)::frz w0 K2::cb bM 174 (yB oD ds.length cD bJ)::own 179 7 oD ds.length cD (flat zS (ds.set p d1))::all (ds.map toI)::mpI bJ js::H) PMT
    replace hH:=hH.shutAt (by rw [List.length_map];exact hp)
    rw [←List.map_set,←hT1] at hH
    have hlen1:(ds.set p d1).length=ds.length:=List.length_set ..
    refine ⟨⟨c0,ko,Int.toNat 0*11,K2,oD,cD,ds.set p d1,js⟩,⟨⟨fun w h=>?_,?_,?_,?_,?_,?_⟩,?_,(hA.sub SBT)⟩,?_⟩
    · rw [hK2] at h
      obtain ⟨h1,h2,h3⟩:=h
      obtain ⟨h4,h5,h6⟩:=hK w h3
      exact ⟨h4,aE (i:=0) h5.2 rfl,lT h6 (by rw [hd1,hr1];exact addD_rd (h6 d (List.mem_of_getElem? hd)) (ins_rd h1 hlA h2 hlS))⟩
    · dsimp only;omega
    · have e:(ds.set p d1).map stB=(ds.map stB).modify p (tJ x r):=nV hd (by rw [hd1,hr1];exact addD_st)
      rw [←qN] at hl ⊢
      dsimp only
      rw [e]
      refine (hl.le (n:=szN c0+1) ?_).add
      rw [szN,xR,xR];omega
    · dsimp only
      rw [szN,xR,xR] at hz
      omega
    · exact uQ hks c0 (List.mem_singleton.2 rfl)
    · dsimp only
      rw [heq,xH,if_pos rfl,tK]
      congr 1
      rw [nV hd (f:=tJ x r) (by rw [hd1,hr1];exact addD_st)]
    · dsimp only
      rw [hlen1]
      exact hH.perm PMT
    · dsimp only
      rw [szN,xR,xR];omega
    --))
  rcases hk8 with rfl|hk8
  · --join
    --((
    have hrx:∀w,K1 w→RdV w Fw.encI xs∧xs.l.length≤17592186044416:=fun w h=>by
      have:=hrd w h
      cases this with
      |mk h1 h2 h3 h4 h5 h6 h7=>exact h1
    obtain ⟨c0,c1,rfl⟩:∃b0 b1,kids=[b0,b1]:=lO (hk7 rfl)
    have hspK:=(kid_sp (hrd w (hH.frz MEMT))).1
    rw [szN,xR,xR,xR] at hl hz
    have hl1:=hl.1
    repeat' (first|(refine XT ?_;apply XE;(first|(apply zC;rfl;exact tL MEMT (fun w h=>hat w h _ _ rfl)));clear hA a;intro a hA)|(refine QT ?_;clear hA a;intro a hA)|refine CT ?_|fail)
    (refine zH hA rfl rfl (by decide) (zA rfl rfl rfl (mB w0 w H bM bJ K1 oD cD ds js xs (fun w h=>(hrx w h).1) (hrx w (hH.frz MEMT)).2 (by omega) hH)) ?_;clear hA hH;rintro _ w ⟨oE,cE,K2,v',rfl,hv',hH,hK2⟩ a hA)
    have hat2:=fun w (h:K2 w)=>hat w (hK2 w h).1
    repeat' (first|(refine QT ?_;clear hA a;intro a hA)|refine CT ?_|fail)
    (refine zK [(0,1),(1,1),(2,1),(3,1),(4,1),(5,1),(6,1),(7,1),(8,1)] [9] mixed (by decide +kernel) hH ?_;replace hH:=hH.drew)
    repeat' (first|(refine XT ?_;apply XE;(first|(apply zC;rfl;exact tL MEMT (fun w h=>hat2 w h _ _ rfl)));clear hA a;intro a hA)|(refine QT ?_;clear hA a;intro a hA)|refine CT ?_|fail)
    (refine zX hA rfl rfl rfl (rU rfl rfl rfl hH (by (repeat constructor))) ?_;clear hH;rintro _ w hH)
    repeat' (first|(refine XT ?_;apply XE;(first|(apply zC;rfl;exact tL MEMT (fun w h=>hat2 w h _ _ rfl)));clear hA a;intro a hA)|(refine QT ?_;clear hA a;intro a hA)|refine CT ?_|fail)
    have hst1:(ds++[nbl v']).map stB=ds.map stB++[xS xs.l]:=by rw [List.map_append,←hv'];rfl
    (refine zH hA rfl rfl (by decide) (zA rfl rfl rfl (ihN c0 (by omega) (uQ hks c0 (List.mem_cons_self ..)) H w ds.length K2 oE cE (ds++[nbl v']) (wX js n ds.length) ko (Int.toNat 0*11) (fun w h=>?_) (by rw [List.length_append,List.length_singleton];omega) ?_ hH)) ?_)
    · obtain ⟨h1,h2⟩:=hK2 w h
      obtain ⟨h4,h5,h6⟩:=hK w h1
      refine ⟨aE (i:=0) h5.2 rfl,fun d hd=>?_⟩
      rcases List.mem_append.1 hd with hd|hd
      · exact h6 d hd
      · rw [List.mem_singleton] at hd;subst hd;exact RdDr.nbl h2
    · rw [←qN,hst1]
      exact ((qN.2 hl).le (n:=szN c0+1) (by omega)).new _
    clear hA hH
    rintro _ w ⟨K3,oE3,cE3,ds3,js3,hH,hK3,heq3⟩ a hA
    have hat3:=fun w (h:K3 w)=>hat2 w (hK3 w h).1
    repeat' (first|(refine XT ?_;apply XE;(first|(apply zC;rfl;exact tL MEMT (fun w h=>hat3 w h _ _ rfl)));clear hA a;intro a hA)|(refine QT ?_;clear hA a;intro a hA)|refine CT ?_|fail)
    rw [hst1] at heq3
    have hp0:=vS c0
    have hp1:=vS c1
    have hlf:=gS c0 (uQ hks c0 (List.mem_cons_self ..)) ds.length (ds.map stB++[xS xs.l],wX js n ds.length) (szN c1) (((qN.2 hl).le (n:=szN c0 - 1+szN c1+1) (by omega)).new _)
    rw [←heq3] at hlf
    dsimp only at hlf
    rw [List.length_append,List.length_map,List.length_singleton,List.length_map] at hlf
    refine ⟨⟨c1,ko,Int.toNat 1*11,K3,oE3,cE3,ds3,js3⟩,⟨⟨fun w h=>?_,?_,?_,?_,?_,?_⟩,hH,(hA.sub SBT)⟩,?_⟩
    · obtain ⟨h1,h2⟩:=hK3 w h
      obtain ⟨h4,h5,h6⟩:=hK w (hK2 w h1).1
      exact ⟨h4,aE (i:=1) h5.2 rfl,h2⟩
    · dsimp only;omega
    · exact qN.1 hlf.1
    · dsimp only;omega
    · exact uQ hks c1 (List.mem_cons_of_mem _ (List.mem_cons_self ..))
    · dsimp only
      rw [heq,xH,if_neg (by decide),if_pos rfl,lB,tK,heq3]
      dsimp only
      rw [List.length_map]
    · dsimp only
      rw [szN,xR,xR,xR];omega
    --))
  rcases hk8 with rfl|hk8
  · skip
    --((
    have hra:∀w,K1 w→RdV w zN va:=fun w h=>by
      have:=hrd w h
      cases this with
      |mk h1 h2 h3 h4 h5 h6 h7=>exact h5.1
    repeat' (first|(refine XT ?_;apply XE;(first|(apply zC;rfl;exact tL MEMT (fun w h=>hat w h _ _ rfl)));clear hA a;intro a hA)|(refine QT ?_;clear hA a;intro a hA)|refine CT ?_|fail)
    (refine zH hA rfl rfl (by decide) (zA rfl rfl rfl (uF _ va (hra _ (hH.frz MEMT)) (by omega))) ?_;clear hA;rintro _ w ⟨oA,cA,rfl,hj⟩ a hA;replace hH:=hH.join hj;clear hj)
    have hlA:=hH.own_le (T:=65) (o:=oA) MEMT
    repeat' (first|(refine XT ?_;apply XE;(first|(apply zI (cs:=#[.int .i64 1,.slice oA va.l.length cA,.slice none 0 0,.slice none 0 0]);rfl;exact FLT;rfl));clear hA a;intro a hA)|(refine QT ?_;clear hA a;intro a hA)|fail)
    obtain ⟨e,he⟩:∃e:En,e=⟨1,⟨oA,cA,va.l⟩,zT,zT⟩:=⟨_,rfl⟩
    have hve:[Value.int .i64 1,.slice oA va.l.length cA,.slice none 0 0,.slice none 0 0]=wO e:=by rw [he];rfl
    have hput:put (flat zS ds) (p*7+0+2) (wO e)=flat zS (ds.set p (wC e d)):=sD wK (off:=2) hd lD (by show 2+4≤7;decide)
    have hdlen:(flat zS ds).length=ds.length*7:=zF wK _
    rw [←hve] at hput
    (apply zO hA rfl rfl;apply uI (vs:=[.int .i64 1,.slice oA va.l.length cA,.slice none 0 0,.slice none 0 0]) (xs':=flat zS (ds.set p (wC e d)))
     rfl;rfl;exact hH;(repeat constructor);(repeat rfl);omega;exact hput;clear hH;rintro _ w hH)
    repeat' (first|(refine QT ?_;clear hA a;intro a hA)|refine CT ?_|fail)
    have hTo:own 61 2 none 0 0 []=own 61 2 e.to.o e.to.l.length e.to.c (flat yL e.to.l):=by rw [he];exact nilTo
    have hH2:=(hH.perm (H':=own 65 2 oA va.l.length cA (flat zN va.l)::frz w0 K1::cb bM 174 (yB oD ds.length cD bJ)::own 179 7 oD ds.length cD (flat zS (ds.set p (wC e d)))::all (ds.map wF)::all (ds.map toI)::mpI bJ js::H) PMT).frz_own
    replace hH2:=hH2.nil_own 61 2
    rw [hTo] at hH2
    replace hH2:=fO (hH2.perm (H':=own 61 2 e.to.o e.to.l.length e.to.c (flat yL e.to.l)::all (ds.map toI)::frz w0 (fun w=>Rd w oA (flat zN va.l)∧K1 w)::cb bM 174 (yB oD ds.length cD bJ)::own 179 7 oD ds.length cD (flat zS (ds.set p (wC e d)))::all (ds.map wF)::mpI bJ js::H) PMT) hd
    rw [←lE hd (e:=e)] at hH2
    refine rt0 (.inl rfl) rfl hA ⟨fun w=>Rd w oA (flat zN va.l)∧K1 w,oD,cD,ds.set p (wC e d),js,?_,fun w h=>?_,?_⟩
    · rw [List.length_set];exact hH2.perm PMT
    · obtain ⟨h4,h5,h6⟩:=hK w h.2
      refine ⟨h4,lT h6 (fQ (h6 d (List.mem_of_getElem? hd)) (by rw [he];exact ⟨h.1,hlA⟩) (by rw [he];exact zW _ _) (by rw [he];exact fun i hi=>absurd hi (List.not_mem_nil)))⟩
    · rw [heq,xH,if_neg (by decide),if_neg (by decide),if_neg (by decide),if_neg (by decide),nV hd (f:=wC ⟨1,lv va.l,lv [],lv []⟩) (by rw [he];exact fP)]<;>rfl
    --))
  rcases hk8 with rfl|hk8
  · skip
    --((
    have hra:∀w,K1 w→RdV w zN va:=fun w h=>by
      have:=hrd w h
      cases this with
      |mk h1 h2 h3 h4 h5 h6 h7=>exact h5.1
    repeat' (first|(refine XT ?_;apply XE;(first|(apply zC;rfl;exact tL MEMT (fun w h=>hat w h _ _ rfl)));clear hA a;intro a hA)|(refine QT ?_;clear hA a;intro a hA)|refine CT ?_|fail)
    (refine zH hA rfl rfl (by decide) (zA rfl rfl rfl (uF _ va (hra _ (hH.frz MEMT)) (by omega))) ?_;clear hA;rintro _ w ⟨oA,cA,rfl,hj⟩ a hA;replace hH:=hH.join hj;clear hj)
    have hlA:=hH.own_le (T:=65) (o:=oA) MEMT
    repeat' (first|(refine XT ?_;apply XE;(first|(apply zI (cs:=#[.int .i64 2,.slice oA va.l.length cA,.slice none 0 0,.slice none 0 0]);rfl;exact FLT;rfl));clear hA a;intro a hA)|(refine QT ?_;clear hA a;intro a hA)|fail)
    obtain ⟨e,he⟩:∃e:En,e=⟨2,⟨oA,cA,va.l⟩,zT,zT⟩:=⟨_,rfl⟩
    have hve:[Value.int .i64 2,.slice oA va.l.length cA,.slice none 0 0,.slice none 0 0]=wO e:=by rw [he];rfl
    have hput:put (flat zS ds) (p*7+0+2) (wO e)=flat zS (ds.set p (wC e d)):=sD wK (off:=2) hd lD (by show 2+4≤7;decide)
    have hdlen:(flat zS ds).length=ds.length*7:=zF wK _
    rw [←hve] at hput
    (apply zO hA rfl rfl;apply uI (vs:=[.int .i64 2,.slice oA va.l.length cA,.slice none 0 0,.slice none 0 0]) (xs':=flat zS (ds.set p (wC e d)))
     rfl;rfl;exact hH;(repeat constructor);(repeat rfl);omega;exact hput;clear hH;rintro _ w hH)
    repeat' (first|(refine QT ?_;clear hA a;intro a hA)|refine CT ?_|fail)
    have hTo:own 61 2 none 0 0 []=own 61 2 e.to.o e.to.l.length e.to.c (flat yL e.to.l):=by rw [he];exact nilTo
    have hH2:=(hH.perm (H':=own 65 2 oA va.l.length cA (flat zN va.l)::frz w0 K1::cb bM 174 (yB oD ds.length cD bJ)::own 179 7 oD ds.length cD (flat zS (ds.set p (wC e d)))::all (ds.map wF)::all (ds.map toI)::mpI bJ js::H) PMT).frz_own
    replace hH2:=hH2.nil_own 61 2
    rw [hTo] at hH2
    replace hH2:=fO (hH2.perm (H':=own 61 2 e.to.o e.to.l.length e.to.c (flat yL e.to.l)::all (ds.map toI)::frz w0 (fun w=>Rd w oA (flat zN va.l)∧K1 w)::cb bM 174 (yB oD ds.length cD bJ)::own 179 7 oD ds.length cD (flat zS (ds.set p (wC e d)))::all (ds.map wF)::mpI bJ js::H) PMT) hd
    rw [←lE hd (e:=e)] at hH2
    refine rt0 (.inl rfl) rfl hA ⟨fun w=>Rd w oA (flat zN va.l)∧K1 w,oD,cD,ds.set p (wC e d),js,?_,fun w h=>?_,?_⟩
    · rw [List.length_set];exact hH2.perm PMT
    · obtain ⟨h4,h5,h6⟩:=hK w h.2
      refine ⟨h4,lT h6 (fQ (h6 d (List.mem_of_getElem? hd)) (by rw [he];exact ⟨h.1,hlA⟩) (by rw [he];exact zW _ _) (by rw [he];exact fun i hi=>absurd hi (List.not_mem_nil)))⟩
    · rw [heq,xH,if_neg (by decide),if_neg (by decide),if_neg (by decide),if_neg (by decide),nV hd (f:=wC ⟨2,lv va.l,lv [],lv []⟩) (by rw [he];exact fP)]<;>rfl
    --))
  rcases hk8 with rfl|hk8
  · skip
    --((
    have hra:∀w,K1 w→RdV w zN va:=fun w h=>by
      have:=hrd w h
      cases this with
      |mk h1 h2 h3 h4 h5 h6 h7=>exact h5.1
    repeat' (first|(refine XT ?_;apply XE;(first|(apply zC;rfl;exact tL MEMT (fun w h=>hat w h _ _ rfl)));clear hA a;intro a hA)|(refine QT ?_;clear hA a;intro a hA)|refine CT ?_|fail)
    (refine zH hA rfl rfl (by decide) (zA rfl rfl rfl (uF _ va (hra _ (hH.frz MEMT)) (by omega))) ?_;clear hA;rintro _ w ⟨oA,cA,rfl,hj⟩ a hA;replace hH:=hH.join hj;clear hj)
    have hlA:=hH.own_le (T:=65) (o:=oA) MEMT
    repeat' (first|(refine XT ?_;apply XE;(first|(apply zI (cs:=#[.int .i64 3,.slice oA va.l.length cA,.slice none 0 0,.slice none 0 0]);rfl;exact FLT;rfl));clear hA a;intro a hA)|(refine QT ?_;clear hA a;intro a hA)|fail)
    obtain ⟨e,he⟩:∃e:En,e=⟨3,⟨oA,cA,va.l⟩,zT,zT⟩:=⟨_,rfl⟩
    have hve:[Value.int .i64 3,.slice oA va.l.length cA,.slice none 0 0,.slice none 0 0]=wO e:=by rw [he];rfl
    have hput:put (flat zS ds) (p*7+0+2) (wO e)=flat zS (ds.set p (wC e d)):=sD wK (off:=2) hd lD (by show 2+4≤7;decide)
    have hdlen:(flat zS ds).length=ds.length*7:=zF wK _
    rw [←hve] at hput
    (apply zO hA rfl rfl;apply uI (vs:=[.int .i64 3,.slice oA va.l.length cA,.slice none 0 0,.slice none 0 0]) (xs':=flat zS (ds.set p (wC e d)))
     rfl;rfl;exact hH;(repeat constructor);(repeat rfl);omega;exact hput;clear hH;rintro _ w hH)
    repeat' (first|(refine QT ?_;clear hA a;intro a hA)|refine CT ?_|fail)
    have hTo:own 61 2 none 0 0 []=own 61 2 e.to.o e.to.l.length e.to.c (flat yL e.to.l):=by rw [he];exact nilTo
    have hH2:=(hH.perm (H':=own 65 2 oA va.l.length cA (flat zN va.l)::frz w0 K1::cb bM 174 (yB oD ds.length cD bJ)::own 179 7 oD ds.length cD (flat zS (ds.set p (wC e d)))::all (ds.map wF)::all (ds.map toI)::mpI bJ js::H) PMT).frz_own
    replace hH2:=hH2.nil_own 61 2
    rw [hTo] at hH2
    replace hH2:=fO (hH2.perm (H':=own 61 2 e.to.o e.to.l.length e.to.c (flat yL e.to.l)::all (ds.map toI)::frz w0 (fun w=>Rd w oA (flat zN va.l)∧K1 w)::cb bM 174 (yB oD ds.length cD bJ)::own 179 7 oD ds.length cD (flat zS (ds.set p (wC e d)))::all (ds.map wF)::mpI bJ js::H) PMT) hd
    rw [←lE hd (e:=e)] at hH2
    refine rt0 (.inl rfl) rfl hA ⟨fun w=>Rd w oA (flat zN va.l)∧K1 w,oD,cD,ds.set p (wC e d),js,?_,fun w h=>?_,?_⟩
    · rw [List.length_set];exact hH2.perm PMT
    · obtain ⟨h4,h5,h6⟩:=hK w h.2
      refine ⟨h4,lT h6 (fQ (h6 d (List.mem_of_getElem? hd)) (by rw [he];exact ⟨h.1,hlA⟩) (by rw [he];exact zW _ _) (by rw [he];exact fun i hi=>absurd hi (List.not_mem_nil)))⟩
    · rw [heq,xH,if_neg (by decide),if_neg (by decide),if_neg (by decide),if_neg (by decide),nV hd (f:=wC ⟨3,lv va.l,lv [],lv []⟩) (by rw [he];exact fP)]<;>rfl
    --))
  rcases hk8 with rfl|hk8
  · --jump
    --((
    have hra:∀w,K1 w→RdV w zN va:=fun w h=>by
      have:=hrd w h
      cases this with
      |mk h1 h2 h3 h4 h5 h6 h7=>exact h5.1
    repeat' (first|(refine XT ?_;apply XE;(first|(apply zC;rfl;exact tL MEMT (fun w h=>hat w h _ _ rfl)));clear hA a;intro a hA)|(refine QT ?_;clear hA a;intro a hA)|refine CT ?_|fail)
    replace hH:=hH.perm (H':=frz w0 K1::cb bM 174 (yB oD ds.length cD bJ)::mpI bJ js::own 179 7 oD ds.length cD (flat zS ds)::all (ds.map wF)::all (ds.map toI)::H) PMT
    have hST:HS w0 noM [_,_,_] w:=HS.left (H1:=[_,_,_]) hH
    (refine zK (H:=[_,_,_]) [(0,1),(1,1),(2,1),(3,1),(4,1),(5,1),(6,1),(7,1),(8,1),(9,1),(10,1),(11,1),(12,1),(13,1),(14,0),(15,1),(16,0),(17,1),(18,1)] [19] mixed (by decide +kernel) (hST) ?_;replace hH:=hH.drew)
    clear hST
    repeat' (first|(refine XT ?_;apply XE;(first|(apply zC;rfl;exact tL MEMT (fun w h=>hat w h _ _ rfl)));clear hA a;intro a hA)|(refine QT ?_;clear hA a;intro a hA)|fail)
    (refine yO hA rfl rfl rfl (by decide) (zA rfl rfl rfl (uF _ va (hra _ (hH.frz MEMT)) (by omega))) ?_;clear hA;rintro _ w ⟨oA,cA,rfl,hj⟩;replace hH:=hH.join hj;clear hj;refine ⟨HS.left (H1:=[_,_,_]) hH.tail,?_⟩;intro a hA)
    have hlA:=hH.own_le (T:=65) (o:=oA) MEMT
    obtain ⟨jn,hjn⟩:∃jn,jn=(lkI js n).getD 0:=⟨_,rfl⟩
    rw [←hjn] at hA
    repeat' (first|(refine XT ?_;apply XE;(first|(apply zI (cs:=#[.int .i64 jn,.slice oA va.l.length cA]);rfl;exact FLT;rfl));clear hA a;intro a hA)|(refine QT ?_;clear hA a;intro a hA)|(refine DLT ?_;clear hA hH;rintro _ w ⟨oN,rfl,hH⟩;refine ⟨STT,?_⟩;intro a hA)|fail)
    (apply yO hA rfl rfl rfl (by decide);apply zZ (xs:=yL ⟨jn,⟨oA,cA,va.l⟩⟩) (vs:=[.agg (yL ⟨jn,⟨oA,cA,va.l⟩⟩).toArray]);rfl;rfl;exact (Cats.cn (cs:=yL ⟨jn,⟨oA,cA,va.l⟩⟩) Cats.nil);rfl;rfl;rfl;exact hH;clear hA hH;rintro _ w ⟨oN,rfl,hH⟩;refine ⟨HS.left (H1:=[_,_,_]) hH.tail.tail,?_⟩;intro a hA)
    repeat' (first|(refine XT ?_;apply XE;(first|(apply zI (cs:=#[.int .i64 4,.slice none 0 0,.slice none 0 0,.slice oN 1 1]);rfl;exact FLT;rfl));clear hA a;intro a hA)|(refine QT ?_;clear hA a;intro a hA)|refine CT ?_|fail)
    obtain ⟨e,he⟩:∃e:En,e=⟨4,zT,zT,⟨oN,1,[⟨jn,⟨oA,cA,va.l⟩⟩]⟩⟩:=⟨_,rfl⟩
    have hve:[Value.int .i64 4,.slice none 0 0,.slice none 0 0,.slice oN 1 1]=wO e:=by rw [he];rfl
    have hput:put (flat zS ds) (p*7+0+2) (wO e)=flat zS (ds.set p (wC e d)):=sD wK (off:=2) hd lD (by show 2+4≤7;decide)
    have hdlen:(flat zS ds).length=ds.length*7:=zF wK _
    rw [←hve] at hput
    (apply zX hA rfl rfl rfl;apply uI (vs:=[.int .i64 4,.slice none 0 0,.slice none 0 0,.slice oN 1 1]) (xs':=flat zS (ds.set p (wC e d)));rfl;rfl;exact hH;(repeat constructor);(repeat rfl);omega;exact hput;clear hH;rintro _ w hH)
    repeat' (first|(refine QT ?_;clear hA a;intro a hA)|refine CT ?_|fail)
    have hTo:own 61 2 oN 1 1 (yL ⟨jn,⟨oA,cA,va.l⟩⟩)=own 61 2 e.to.o e.to.l.length e.to.c (flat yL e.to.l):=by rw [he,flatE_one];rfl
    have hH2:=(hH.perm (H':=own 65 2 oA va.l.length cA (flat zN va.l)::frz w0 K1::own 61 2 oN 1 1 (yL ⟨jn,⟨oA,cA,va.l⟩⟩)::cb bM 174 (yB oD ds.length cD bJ)::own 179 7 oD ds.length cD (flat zS (ds.set p (wC e d)))::all (ds.map wF)::all (ds.map toI)::mpI bJ js::H) PMT).frz_own
    rw [hTo] at hH2
    replace hH2:=fO (hH2.perm (H':=own 61 2 e.to.o e.to.l.length e.to.c (flat yL e.to.l)::all (ds.map toI)::frz w0 (fun w=>Rd w oA (flat zN va.l)∧K1 w)::cb bM 174 (yB oD ds.length cD bJ)::own 179 7 oD ds.length cD (flat zS (ds.set p (wC e d)))::all (ds.map wF)::mpI bJ js::H) PMT) hd
    rw [←lE hd (e:=e)] at hH2
    refine rt0 (.inl rfl) rfl hA ⟨fun w=>Rd w oA (flat zN va.l)∧K1 w,oD,cD,ds.set p (wC e d),js,?_,fun w h=>?_,?_⟩
    · rw [List.length_set];exact hH2.perm PMT
    · obtain ⟨h4,h5,h6⟩:=hK w h.2
      refine ⟨h4,lT h6 (fQ (h6 d (List.mem_of_getElem? hd)) (by rw [he];exact zW _ _) (by rw [he];exact zW _ _) (by rw [he];exact fun i hi=>(by obtain rfl:=List.mem_singleton.1 hi;exact ⟨h.1,hlA⟩)))⟩
    · rw [heq,xH,if_neg (by decide),if_neg (by decide),if_pos rfl,nV hd (f:=wC ⟨4,lv [],lv [],lv [⟨(lkI js n).getD 0,lv va.l⟩]⟩) (by rw [he,hjn];exact fP)]<;>rfl
    --))
  · --choice
    have hrV:∀w,K1 w→RdV w zN va∧RdV w Fw.encI ns∧ns.l.length≤17592186044416:=fun w h=>by
      have:=hrd w h
      cases this with
      |mk h1 h2 h3 h4 h5 h6 h7=>exact ⟨h5.1,h2⟩
    obtain ⟨hspK,hkl⟩:=kid_sp (hrd w (hH.frz MEMT))
    repeat' (first|(refine XT ?_;apply XE;(first|(apply zC;rfl;exact tL MEMT (fun w h=>hat w h _ _ rfl)));clear hA a;intro a hA)|(refine QT ?_;clear hA a;intro a hA)|refine CT ?_|(refine DT ?_ ?_<;>intro hc<;>try (exfalso;omega))|fail)
    have hST:HS w0 noM [frz w0 K1] w:=hH.pick MEMT
    refine mH (qs [0,1,2,3,5,6,7,8] (.two 4 11 (.two 9 11 (.q 10 (.one 11 (.one 12 .nil))) (.one 9 (.q 10 (.one 12 .nil)))) (.one 4 (.one 9 (.q 10 (.one 12 .nil)))))) (fun a w=>∃b9 oA oS cA cS,HS w0 noM (cb b9 51 [.int .i64 5,.slice oA va.l.length cA,.slice oS ns.l.length cS,.slice none 0 0]::own 2 1 oS ns.l.length cS (flat Fw.encI ns.l)::own 65 2 oA va.l.length cA (flat zN va.l)::cb bM 174 (yB oD ds.length cD bJ)::own 179 7 oD ds.length cD (flat zS ds)::all (ds.map wF)::all (ds.map toI)::frz w0 K1::mpI bJ js::H) w∧Sl 202 [(9,.pointer (some (bat b9 0))),(0,.pointer (some (bat bM 0))),(1,.int .i64 p),(2,.pointer (some (sat ob jb)))] a) mixed (by decide +kernel) hST ?_ ?_
    · clear hST
      replace hH:=hH.drew
      (repeat (apply tI hA rfl rfl rfl (by decide);(first|exact EXT|exact EXT2|(apply zC;rfl;exact tL MEMT (fun w h=>hat w h _ _ rfl)));clear hA a;intro a hA))
      apply pT
      rotate_left
      · (apply xY hA rfl rfl rfl (by decide);apply wD;exact hH;clear hA hH;rintro _ w ⟨bN,rfl,hH⟩;refine ⟨hH.pick (by exact MEMT),?_⟩;intro a hA)
        (refine xY hA rfl rfl rfl (by decide) (zA rfl rfl rfl (uF _ va (hrV _ (hH.frz MEMT)).1 (by omega))) ?_;clear hA;rintro _ w ⟨oA,cA,rfl,hj⟩;replace hH:=hH.join hj;clear hj;refine ⟨hH.pick (by exact MEMT),?_⟩;intro a hA)
        (refine xY hA rfl rfl rfl (by decide) (zA rfl rfl rfl (sS _ ns (hrV _ (hH.frz MEMT)).2.1 (hrV _ (hH.frz MEMT)).2.2)) ?_;clear hA;rintro _ w ⟨oS,cS,rfl,hj⟩;replace hH:=hH.join hj;clear hj;refine ⟨hH.pick (by exact MEMT),?_⟩;intro a hA)
        (repeat (apply tI hA rfl rfl rfl (by decide);(first|exact EXT|exact EXT2|(apply zI (cs:=([.int .i64 5,.slice oA va.l.length cA,.slice oS ns.l.length cS,.slice none 0 0]).toArray);rfl;exact FLT;rfl));clear hA a;intro a hA))
        (apply tH hA rfl rfl rfl;apply yP (vs:=[.int .i64 5,.slice oA va.l.length cA,.slice oS ns.l.length cS,.slice none 0 0]);rfl;rfl;exact hH;(repeat constructor);(repeat rfl);clear hH;rintro _ w hH;refine ⟨hH.pick (by exact MEMT),?_⟩;apply sK)
        exact ⟨_,oA,oS,cA,cS,hH.perm PMT,(hA.sub SBT)⟩
      (refine xY hA rfl rfl rfl (by decide) (zA rfl rfl rfl (uF _ va (hrV _ (hH.frz MEMT)).1 (by omega))) ?_;clear hA;rintro _ w ⟨oA,cA,rfl,hj⟩;replace hH:=hH.join hj;clear hj;refine ⟨hH.pick (by exact MEMT),?_⟩;intro a hA)
      apply pT
      rotate_left
      · (apply xY hA rfl rfl rfl (by decide);apply wD;exact hH;clear hA hH;rintro _ w ⟨bN,rfl,hH⟩;refine ⟨hH.pick (by exact MEMT),?_⟩;intro a hA)
        (refine xY hA rfl rfl rfl (by decide) (zA rfl rfl rfl (sS _ ns (hrV _ (hH.frz MEMT)).2.1 (hrV _ (hH.frz MEMT)).2.2)) ?_;clear hA;rintro _ w ⟨oS,cS,rfl,hj⟩;replace hH:=hH.join hj;clear hj;refine ⟨hH.pick (by exact MEMT),?_⟩;intro a hA)
        (repeat (apply tI hA rfl rfl rfl (by decide);(first|exact EXT|exact EXT2|(apply zI (cs:=([.int .i64 5,.slice oA va.l.length cA,.slice oS ns.l.length cS,.slice none 0 0]).toArray);rfl;exact FLT;rfl));clear hA a;intro a hA))
        (apply tH hA rfl rfl rfl;apply yP (vs:=[.int .i64 5,.slice oA va.l.length cA,.slice oS ns.l.length cS,.slice none 0 0]);rfl;rfl;exact hH;(repeat constructor);(repeat rfl);clear hH;rintro _ w hH;refine ⟨hH.pick (by exact MEMT),?_⟩;apply sK)
        exact ⟨_,oA,oS,cA,cS,hH.perm PMT,(hA.sub SBT)⟩
      (refine xY hA rfl rfl rfl (by decide) (zA rfl rfl rfl (sS _ ns (hrV _ (hH.frz MEMT)).2.1 (hrV _ (hH.frz MEMT)).2.2)) ?_;clear hA;rintro _ w ⟨oS,cS,rfl,hj⟩;replace hH:=hH.join hj;clear hj;refine ⟨hH.pick (by exact MEMT),?_⟩;intro a hA)
      (repeat (apply tI hA rfl rfl rfl (by decide);(first|exact EXT|exact EXT2|(apply zI (cs:=([.int .i64 5,.slice oA va.l.length cA,.slice oS ns.l.length cS,.slice none 0 0]).toArray);rfl;exact FLT;rfl));clear hA a;intro a hA))
      (apply xY hA rfl rfl rfl (by decide);apply wD;exact hH;clear hA hH;rintro _ w ⟨bN,rfl,hH⟩;refine ⟨hH.pick (by exact MEMT),?_⟩;intro a hA)
      (apply tH hA rfl rfl rfl;apply yP (vs:=[.int .i64 5,.slice oA va.l.length cA,.slice oS ns.l.length cS,.slice none 0 0]);rfl;rfl;exact hH;(repeat constructor);(repeat rfl);clear hH;rintro _ w hH;refine ⟨hH.pick (by exact MEMT),?_⟩;apply sK)
      exact ⟨_,oA,oS,cA,cS,hH.perm PMT,(hA.sub SBT)⟩
    clear hA hH hST
    rintro a w ⟨b9,oA,oS,cA,cS,hH,hA⟩
    have hlS:=hH.own_le (T:=2) (o:=oS) MEMT
    have hlA:=hH.own_le (T:=65) (o:=oA) MEMT
    replace hH:=(hH.perm (H':=own 2 1 oS ns.l.length cS (flat Fw.encI ns.l)::frz w0 K1::own 65 2 oA va.l.length cA (flat zN va.l)::cb b9 51 [.int .i64 5,.slice oA va.l.length cA,.slice oS ns.l.length cS,.slice none 0 0]::cb bM 174 (yB oD ds.length cD bJ)::own 179 7 oD ds.length cD (flat zS ds)::all (ds.map wF)::all (ds.map toI)::mpI bJ js::H) PMT).frz_own
    replace hH:=(hH.perm (H':=own 65 2 oA va.l.length cA (flat zN va.l)::frz w0 (fun w=>Rd w oS (flat Fw.encI ns.l)∧K1 w)::cb b9 51 [.int .i64 5,.slice oA va.l.length cA,.slice oS ns.l.length cS,.slice none 0 0]::cb bM 174 (yB oD ds.length cD bJ)::own 179 7 oD ds.length cD (flat zS ds)::all (ds.map wF)::all (ds.map toI)::mpI bJ js::H) PMT).frz_own
    obtain ⟨K2,hK2⟩:∃K2:World→Prop,K2=(fun w=>Rd w oA (flat zN va.l)∧Rd w oS (flat Fw.encI ns.l)∧K1 w):=⟨_,rfl⟩
    rw [←hK2] at hH
    have hat2:∀w,K2 w→∀i u,(xF (.mk k x xs n ns r va ko kc kids))[i]?=some u→w.cell? (sat ob (jb+i))=some u:=fun w h=>hat w (by rw [hK2] at h;exact h.2.2)
    repeat' (first|(refine QT ?_;clear hA a;intro a hA)|refine CT ?_|fail)
    refine oW (fun a w=>HS w0 noM (cb b9 51 [.int .i64 k,.slice oA va.l.length cA,.slice oS ns.l.length cS,.slice none 0 0]::cb bM 174 (yB oD ds.length cD bJ)::own 179 7 oD ds.length cD (flat zS ds)::all (ds.map wF)::all (ds.map toI)::frz w0 K2::mpI bJ js::H) w∧Sl 202 [(9,.pointer (some (bat b9 0))),(0,.pointer (some (bat bM 0))),(1,.int .i64 p),(2,.pointer (some (sat ob jb)))] a) ?_ ?_
    · repeat' (first|(refine XT ?_;apply XE;(first|(apply zC;rfl;exact tL MEMT (fun w h=>hat2 w h _ _ rfl)));clear hA a;intro a hA)|(refine QT ?_;clear hA a;intro a hA)|(apply zO hA rfl rfl;apply zB (cs':=[.int .i64 6,.slice oA va.l.length cA,.slice oS ns.l.length cS,.slice none 0 0]);rfl;rfl;rfl;exact hH;(repeat constructor);clear hH;rintro _ w hH)|refine CT ?_|(refine DT ?_ ?_<;>intro hc<;>try (exfalso;omega))|fail)
      · obtain rfl:k=6:=by omega
        exact ⟨hH.perm PMT,(hA.sub SBT)⟩
      · obtain rfl:k=5:=by omega
        exact ⟨hH.perm PMT,(hA.sub SBT)⟩
    clear hA hH
    rintro a w ⟨hH,hA⟩
    repeat' (first|(refine XT ?_;apply XE;(first|(apply zC;rfl;exact tL MEMT (fun w h=>hat2 w h _ _ rfl)));clear hA a;intro a hA)|(refine QT ?_;clear hA a;intro a hA)|refine CT ?_|fail)
    have hlim0:Lim ds (xR kids+1):=hl.le (by rw [szN];omega)
    have hkl2:kids.length≤2000000:=by
      have h1:=gB kids
      have h2:=hlim0.1
      omega
    have hzk:∀c∈kids,szN c≤N:=fun c hc=>by
      have:=szNs_mem hc
      rw [szN] at hz
      omega
    refine yK (S:=KSt) (fun t a w=>(t.i≤kids.length∧(∀w,t.K w→K2 w∧∀d∈t.ds,RdDr w d)∧p<t.ds.length∧Lim t.ds (xR (kids.drop t.i)+1)∧t.es.length=t.i∧(∀x∈t.es,x.a=zT)∧xW kids (ds.map stB,js) []=xW (kids.drop t.i) (t.ds.map stB,t.js) (t.es.map stE))∧HS w0 noM (cb b9 51 [.int .i64 k,.slice oA va.l.length cA,.slice oS ns.l.length cS,.slice t.oT t.i t.cT]::own 61 2 t.oT t.i t.cT (flat yL t.es)::(cb bM 174 (yB t.oD (t.ds).length t.cD bJ)::own 179 7 t.oD (t.ds).length t.cD (flat zS (t.ds))::all ((t.ds).map wF)::all ((t.ds).map toI)::frz w0 t.K::mpI bJ t.js::H)) w∧Sl 202 [(46,.int .i64 t.i),(45,.int .i64 kids.length),(9,.pointer (some (bat b9 0))),(0,.pointer (some (bat bM 0))),(1,.int .i64 p),(2,.pointer (some (sat ob jb)))] a) (fun t=>kids.length - t.i)
      (fun a w=>∃t:KSt,(t.i=kids.length∧(∀w,t.K w→K2 w∧∀d∈t.ds,RdDr w d)∧p<t.ds.length∧Lim t.ds (xR (kids.drop t.i)+1)∧t.es.length=t.i∧(∀x∈t.es,x.a=zT)∧xW kids (ds.map stB,js) []=xW (kids.drop t.i) (t.ds.map stB,t.js) (t.es.map stE))∧HS w0 noM (cb b9 51 [.int .i64 k,.slice oA va.l.length cA,.slice oS ns.l.length cS,.slice t.oT t.i t.cT]::own 61 2 t.oT t.i t.cT (flat yL t.es)::(cb bM 174 (yB t.oD (t.ds).length t.cD bJ)::own 179 7 t.oD (t.ds).length t.cD (flat zS (t.ds))::all ((t.ds).map wF)::all ((t.ds).map toI)::frz w0 t.K::mpI bJ t.js::H)) w∧Sl 202 [(9,.pointer (some (bat b9 0))),(0,.pointer (some (bat bM 0))),(1,.int .i64 p),(2,.pointer (some (sat ob jb)))] a)
      ⟨0,K2,oD,cD,ds,js,none,0,[]⟩ ⟨⟨Nat.zero_le _,fun w h=>⟨h,by rw [hK2] at h;exact (hK w h.2.2).2.2⟩,hp,hlim0,rfl,fun x hx=>absurd hx (List.not_mem_nil),rfl⟩,(hH.nil_flat yL 61 2).perm PMT,(hA.sub SBT)⟩ ?_ ?_
    · clear hA hH
      rintro ⟨i,K3,oD3,cD3,ds3,js3,oT,cT,es⟩ a w ⟨⟨hi,hK3,hp3,hlim,hesl,hesn,heq3⟩,hH,hA⟩
      dsimp only at hi hK3 hp3 hlim hesl hesn heq3 hH hA ⊢
      by_cases hlt:i<kids.length
      rotate_left
      · obtain rfl:i=kids.length:=by omega
        repeat' (first|(refine QT ?_;clear hA a;intro a hA)|refine CT ?_|(refine DT ?_ ?_<;>intro hc<;>try (exfalso;omega))|fail)
        exact ⟨⟨kids.length,K3,oD3,cD3,ds3,js3,oT,cT,es⟩,⟨rfl,hK3,hp3,hlim,hesl,hesn,heq3⟩,hH,(hA.sub SBT)⟩
      obtain ⟨c,hkc⟩:∃c,kids[i]?=some c:=⟨_,List.getElem?_eq_getElem hlt⟩
      have hcm:=List.mem_of_getElem? hkc
      have hdrop:kids.drop i=c::kids.drop (i+1):=by
        obtain ⟨hi2,rfl⟩:=List.getElem?_eq_some_iff.1 hkc
        exact List.drop_eq_getElem_cons hi2
      rw [hdrop,xR] at hlim
      rw [hdrop,xW] at heq3
      have hl1:=hlim.1
      replace hH:=hH.perm (H':=(cb bM 174 (yB oD3 (ds3).length cD3 bJ)::own 179 7 oD3 (ds3).length cD3 (flat zS (ds3))::all ((ds3).map wF)::all ((ds3).map toI)::frz w0 K3::mpI bJ js3::cb b9 51 [.int .i64 k,.slice oA va.l.length cA,.slice oS ns.l.length cS,.slice oT i cT]::own 61 2 oT i cT (flat yL es)::H)) PMT
      repeat' (first|(refine QT ?_;clear hA a;intro a hA)|refine CT ?_|(refine DT ?_ ?_<;>intro hc<;>try (exfalso;omega))|fail)
      (refine zH hA rfl rfl (by decide) (zA rfl rfl rfl (mB w0 w (cb b9 51 [.int .i64 k,.slice oA va.l.length cA,.slice oS ns.l.length cS,.slice oT i cT]::own 61 2 oT i cT (flat yL es)::H) bM bJ K3 oD3 cD3 ds3 js3 zT (fun w h=>zW _ _) (Nat.zero_le _) (by omega) hH)) ?_;clear hA hH;rintro _ w ⟨oE,cE,K4,v',rfl,hv',hH,hK4⟩ a hA)
      repeat' (first|(refine XT ?_;apply XE;(first|(apply zI (cs:=#[.int .i64 ds3.length,.slice none 0 0]);rfl;exact FLT;rfl));clear hA a;intro a hA)|(refine QT ?_;clear hA a;intro a hA)|(refine LT ?_;clear hA hH;rintro _ w ⟨oN,rfl,hH⟩ a hA)|(refine AT ?_;clear hA;rintro _ w ⟨oN,cN,rfl,hH2⟩ a hA;clear hH;have hH:=(hH2 _ (by (repeat constructor))).tail;clear hH2)|refine CT ?_|fail)
      have hen:[Value.int .i64 ds3.length,.slice none 0 0]=yL ⟨ds3.length,zT⟩:=rfl
      rw [hen,←xZ] at hH
      have hat4:=fun w (h:K4 w)=>hat2 w (hK3 w (hK4 w h).1).1
      repeat' (first|(refine XT ?_;apply XE;(first|(apply zC;rfl;exact tL MEMT (fun w h=>hat4 w h _ _ rfl))|(apply zE;rfl;rfl;omega;exact hspK));clear hA a;intro a hA)|(refine QT ?_;clear hA a;intro a hA)|(apply zO hA rfl rfl;apply zB (cs':=[.int .i64 k,.slice oA va.l.length cA,.slice oS ns.l.length cS,.slice oN (i+1) cN]);rfl;rfl;rfl;exact hH;(repeat constructor);clear hH;rintro _ w hH)|refine CT ?_|fail)
      have hst1:(ds3++[nbl v']).map stB=ds3.map stB++[xS []]:=by
        have e:xS v'.l=xS []:=by rw [hv'];rfl
        rw [List.map_append,←e];rfl
      (refine zH hA rfl rfl (by decide) (zA rfl rfl rfl (ihN c (hzk c hcm) (uQ hks c hcm) (cb b9 51 [.int .i64 k,.slice oA va.l.length cA,.slice oS ns.l.length cS,.slice oN (i+1) cN]::own 61 2 oN (i+1) cN (flat yL (es++[⟨ds3.length,zT⟩]))::H) w ds3.length K4 oE cE (ds3++[nbl v']) js3 ko (i*11) (fun w h=>?_) (by rw [List.length_append,List.length_singleton];omega) ?_ hH)) ?_)
      · obtain ⟨h1,h2⟩:=hK4 w h
        obtain ⟨h3,h4⟩:=hK3 w h1
        refine ⟨aE (hrd w (by rw [hK2] at h3;exact h3.2.2)) hkc,fun d hd=>?_⟩
        rcases List.mem_append.1 hd with hd|hd
        · exact h4 d hd
        · rw [List.mem_singleton] at hd;subst hd;exact RdDr.nbl h2
      · rw [←qN,hst1]
        exact ((qN.2 hlim).le (n:=szN c+1) (by omega)).new _
      clear hA hH
      rintro _ w ⟨K5,oD5,cD5,ds5,js5,hH,hK5,heq5⟩ a hA
      repeat' (first|(refine QT ?_;clear hA a;intro a hA)|refine CT ?_|fail)
      rw [hst1] at heq5
      have hlf:=gS c (uQ hks c hcm) ds3.length (ds3.map stB++[xS []],js3) (xR (kids.drop (i+1))+1) (((qN.2 hlim).le (n:=szN c - 1+(xR (kids.drop (i+1))+1)+1) (by have:=vS c;omega)).new _)
      rw [←heq5] at hlf
      dsimp only at hlf
      rw [List.length_append,List.length_map,List.length_singleton,List.length_map] at hlf
      refine ⟨⟨i+1,K5,oD5,cD5,ds5,js5,oN,cN,es++[⟨ds3.length,zT⟩]⟩,⟨⟨hlt,fun w h=>?_,?_,qN.1 hlf.1,?_,fun x hx=>?_,?_⟩,hH.perm PMT,(hA.sub SBT)⟩,by dsimp only;omega⟩
      · obtain ⟨h1,h2⟩:=hK5 w h
        exact ⟨(hK3 w (hK4 w h1).1).1,h2⟩
      · dsimp only;omega
      · dsimp only
        rw [List.length_append,List.length_singleton,hesl]
      · rcases List.mem_append.1 hx with hx|hx
        · exact hesn x hx
        · rw [List.mem_singleton] at hx;subst hx;rfl
      · dsimp only
        rw [heq3,heq5,List.map_append,List.length_map]
        rfl
    clear hA hH
    rintro a w ⟨⟨i,K3,oD3,cD3,ds3,js3,oT,cT,es⟩,⟨hti,hK3,hp3,hlim,hesl,hesn,heq3⟩,hH,hA⟩
    dsimp only at hti hK3 hp3 hlim hesl hesn heq3 hH hA
    subst hti
    rw [List.drop_length,xW] at heq3
    have hspD3:=hH.own_sp (T:=179) (o:=oD3) MEMT
    repeat' (first|(refine QT ?_;clear hA a;intro a hA)|refine CT ?_|fail)
    obtain ⟨d3,hd3⟩:∃d,ds3[p]?=some d:=⟨_,List.getElem?_eq_getElem hp3⟩
    replace hH:=hH.perm (H':=cb bM 174 (yB oD3 ds3.length cD3 bJ)::cb b9 51 [.int .i64 k,.slice oA va.l.length cA,.slice oS ns.l.length cS,.slice oT kids.length cT]::own 61 2 oT kids.length cT (flat yL es)::own 179 7 oD3 ds3.length cD3 (flat zS ds3)::all (ds3.map wF)::all (ds3.map toI)::frz w0 K3::mpI bJ js3::H) PMT
    have hST:HS w0 noM [_,_] w:=HS.left (H1:=[_,_]) hH
    (refine zK (H:=[_,_]) [(0,1),(1,1),(2,1),(3,1),(4,1),(5,1),(6,1),(7,1),(8,1)] [9] mixed (by decide +kernel) (hST) ?_;replace hH:=hH.drew)
    clear hST
    repeat' (first|(refine XT ?_;apply XE;(first|(apply zG (vs:=[.int .i64 k,.slice oA va.l.length cA,.slice oS ns.l.length cS,.slice oT kids.length cT]);rfl;rfl;exact zR MEMT));clear hA a;intro a hA)|(refine QT ?_;clear hA a;intro a hA)|refine CT ?_|fail)
    obtain ⟨e,he⟩:∃e:En,e=⟨k,⟨oA,cA,va.l⟩,⟨oS,cS,ns.l⟩,⟨oT,cT,es⟩⟩:=⟨_,rfl⟩
    have hve:[Value.int .i64 k,.slice oA va.l.length cA,.slice oS ns.l.length cS,.slice oT kids.length cT]=wO e:=by rw [he,←hesl];rfl
    have hput:put (flat zS ds3) (p*7+0+2) (wO e)=flat zS (ds3.set p (wC e d3)):=sD wK (off:=2) hd3 lD (by show 2+4≤7;decide)
    have hdlen:(flat zS ds3).length=ds3.length*7:=zF wK _
    rw [←hve] at hput
    (apply zX hA rfl rfl rfl;apply uI (vs:=[.int .i64 k,.slice oA va.l.length cA,.slice oS ns.l.length cS,.slice oT kids.length cT]) (xs':=flat zS (ds3.set p (wC e d3)));rfl;rfl;exact hH;(repeat constructor);(repeat rfl);omega;exact hput;clear hH;rintro _ w hH)
    repeat' (first|(refine QT ?_;clear hA a;intro a hA)|refine CT ?_|fail)
    have hTo:own 61 2 oT kids.length cT (flat yL es)=own 61 2 e.to.o e.to.l.length e.to.c (flat yL e.to.l):=by rw [he,←hesl]
    have hH2:=hH.rm 1
    rw [hTo] at hH2
    replace hH2:=fO (hH2.perm (H':=own 61 2 e.to.o e.to.l.length e.to.c (flat yL e.to.l)::all (ds3.map toI)::frz w0 K3::cb bM 174 (yB oD3 ds3.length cD3 bJ)::own 179 7 oD3 ds3.length cD3 (flat zS (ds3.set p (wC e d3)))::all (ds3.map wF)::mpI bJ js3::H) PMT) hd3
    rw [←lE hd3 (e:=e)] at hH2
    refine rt0 (.inl rfl) rfl hA ⟨K3,oD3,cD3,ds3.set p (wC e d3),js3,?_,fun w h=>?_,?_⟩
    · rw [List.length_set];exact hH2.perm PMT
    · obtain ⟨h1,h2⟩:=hK3 w h
      rw [hK2] at h1
      exact ⟨(hK w h1.2.2).1,lT h2 (fQ (h2 d3 (List.mem_of_getElem? hd3)) (by rw [he];exact ⟨h1.1,hlA⟩) (by rw [he];exact ⟨h1.2.1,hlS⟩) (by rw [he];exact fun x hx=>by rw [hesn x hx];exact zW _ _))⟩
    · rw [heq,xH,if_neg (by omega),if_neg (by omega),if_neg (by omega),if_pos hk8,heq3,nV hd3 (f:=wC ⟨k,lv va.l,lv ns.l,lv (es.map stE)⟩) (by rw [he];exact fP)]
end
section
attribute [local irreducible] Code.wp wpList Calls Ex Op1 sat bat blk cb own Go.Fw.mp Go.Fw.mpO Go.Fw.mpI Go.Fw.mpE Go.Fw.itr HS Rd Ret wkD Hp Cl Cls Exit.then Exit.inBlock Exit.noGoto bodyPost Go.Fw.flat wk2 Go.Fw.all Go.Fw.owns wpOp
attribute [local irreducible] sk mpK sko mvO xI

theorem bD (w0 w:World) (H:List It) (o:Option Addr) (c:Nat) (li:List Int) (hH:HS w0 noM (own 3 1 o li.length c (flat Fw.encI li)::H) w) (hl:li.length≤1000000) :
    Ret Tryz.prog 112 #[.slice o li.length c] w (fun v w=>HS w0 noM (own 3 1 o li.length c (flat Fw.encI li.reverse)::H) w):=by
  (refine ENT (N:=28) Tryz.func112 Tryz.ntmps112 ?_;intro a hA)
  generalize hn:li.length=n at *
  repeat' (first|(refine QT ?_;clear hA a;intro a hA)|refine CT ?_|fail)
  rw [show (n:Int) - 1=(n:Int) - 1 - ((0:Nat):Int) by omega] at hA
  refine wp_lp (S:=Nat × List Int) (fun s a w=>(s.1≤n∧2*s.1≤n+1∧s.2.length=n∧∀k,k<n→s.2[k]?=if k<s.1∨n<k+1+s.1 then li[n - 1 - k]? else li[k]?)∧HS w0 noM (own 3 1 o n c (flat Fw.encI s.2)::H) w∧
      Sl 28 [(0,.slice o n c),(2,.int .i64 s.1),(3,.int .i64 ((n:Int) - 1 - s.1))] a)
    (fun s=>n - s.1) (0,li) ⟨⟨by omega,by omega,hn,fun k hk=>by rw [if_neg (by omega)]⟩,hH,(hA.sub SBT)⟩ ?_
  clear hA hH
  rintro ⟨i,L⟩ a w ⟨⟨hi1,hi2,hiL,hik⟩,hH,hA⟩
  dsimp only at hi1 hi2 hiL hik hH hA
  by_cases hlt:(i:Int)<(n:Int) - 1 - i
  · have hx:L[i]?=some (L[i]'(by omega)):=List.getElem?_eq_getElem (by omega)
    have hy:L[n - 1 - i]?=some (L[n - 1 - i]'(by omega)):=List.getElem?_eq_getElem (by omega)
    generalize L[i]'(by omega)=x at *
    generalize L[n - 1 - i]'(by omega)=y at *
    obtain ⟨j,hj⟩:∃j:Nat,(n:Int) - 1 - i=(j:Int):=⟨n - 1 - i,by omega⟩
    obtain rfl:n - 1 - i=j:=by omega
    rw [hj] at hA hlt
    have hsp:Sp o n:=hH.own_sp (by exact MEMT)
    repeat' (first|(refine QT ?_;clear hA a;intro a hA)|refine CT ?_|(refine DT ?_ ?_<;>intro hc<;>try (exfalso;omega))|fail)
    (refine zK [(0,2),(1,2),(2,2),(3,2),(4,2),(5,2),(6,2),(7,1),(8,2),(9,2),(10,2),(11,1)] [12,13,14,15] mixed (by decide +kernel) hH ?_;replace hH:=hH.drew)
    repeat' (first|(refine XT ?_;apply XE;(first|(apply zC;rfl;apply uD;exact MEMT;first|exact sV Fw.encI_len hx rfl|exact sV Fw.encI_len hy rfl));clear hA a;intro a hA)|(refine QT ?_;clear hA a;intro a hA)|refine CT ?_|(apply zX hA rfl rfl rfl;apply op_setI;rfl;rfl;exact hH;(repeat constructor);(first|omega|(rw [List.length_set];omega));clear hH;rintro _ w hH)|fail)
    rw [Nat.mul_one,Nat.mul_one] at hH
    rw [show ((n - 1 - i:Nat):Int) - 1=(n:Int) - 1 - ((i+1:Nat):Int) by omega] at hA
    refine ⟨(i+1,(L.set i y).set (n - 1 - i) x),⟨⟨by show i+1≤n;omega,by show 2* (i+1)≤n+1;omega,by show ((L.set i y).set (n - 1 - i) x).length=n;simp [hiL],fun k hk=>?_⟩,hH,(hA.sub SBT)⟩,by show n - (i+1)<n - i;omega⟩
    show ((L.set i y).set (n - 1 - i) x)[k]?=if k<i+1∨n<k+1+(i+1) then li[n - 1 - k]? else li[k]?
    have h1:=hik k hk
    have h2:=hik i (by omega)
    have h3:=hik (n - 1 - i) (by omega)
    rw [if_neg (by omega)] at h2 h3
    rw [hx] at h2
    rw [hy] at h3
    by_cases hkj:n - 1 - i=k
    · subst hkj
      rw [List.getElem?_set_self (by simp;omega),if_pos (by omega),show n - 1 - (n - 1 - i)=i by omega]
      exact h2
    · rw [List.getElem?_set_ne hkj]
      by_cases hki:i=k
      · subst hki
        rw [List.getElem?_set_self (by omega),if_pos (by omega)]
        exact h3
      · rw [List.getElem?_set_ne hki,h1]
        by_cases hc1:k<i∨n<k+1+i
        · rw [if_pos hc1,if_pos (by omega)]
        · rw [if_neg hc1,if_neg (by omega)]
  have hL:L=li.reverse:=by
    apply List.ext_getElem?
    intro k
    by_cases hk:k<n
    · rw [hik k hk,List.getElem?_reverse (by omega)]
      by_cases hc1:k<i∨n<k+1+i
      · rw [if_pos hc1,hn]
      · rw [if_neg hc1,hn]
        congr 1
        omega
    · rw [List.getElem?_eq_none (by omega),List.getElem?_eq_none (by simp;omega)]
  rw [hL] at hH
  repeat' (first|(refine QT ?_;clear hA a;intro a hA)|refine CT ?_|(refine DT ?_ ?_<;>intro hc<;>try (exfalso;omega))|fail)
  exact rt0 (.inr rfl) rfl hA hH
end
def EdR (D:List Blc):Prop:=∀n,InR D n→∀m∈edT D n,InR D m
section
variable {D:List Blc}
theorem vis_sub:∀(f:Nat) (n:Int) (q:List Int × List Int),∀x∈q.1,x∈(vC D f n q).1
  |0,n,q,x,h=>h
  | f + 1,n,q,x,h=>by
    rw [vC]
    split
    · exact h
    · have hf:∀(l:List Int) (q:List Int × List Int),∀x∈q.1,x∈(l.foldl (fun q m=>vC D f m q) q).1:=by
        intro l
        induction l with
        |nil=>exact fun q x h=>h
        |cons m l ih=>exact fun q x h=>ih _ x (vis_sub f m q x h)
      exact hf _ _ x (wE.2 (.inl h))
theorem jN (hE:EdR D):∀(f:Nat) (n:Int) (q:List Int × List Int) (B:Nat),InR D n→q.2.length+uns D.length q.1≤B→(vC D f n q).2.length+uns D.length (vC D f n q).1≤B
  |0,n,q,B,hn,h=>h
  | f + 1,n,q,B,hn,h=>by
    rw [vC]
    split
    · exact h
    · next hk=>
      have hf:∀(l:List Int) (q:List Int × List Int) (B:Nat),(∀m∈l,InR D m)→q.2.length+uns D.length q.1≤B→(l.foldl (fun q m=>vC D f m q) q).2.length+uns D.length (l.foldl (fun q m=>vC D f m q) q).1≤B:=by
        intro l
        induction l with
        |nil=>exact fun q B _ h=>h
        |cons m l ih=>exact fun q B hl h=>ih _ B (fun m hm=>hl m (List.mem_cons_of_mem _ hm)) (jN hE f m q B (hl m (List.mem_cons_self ..)) h)
      obtain ⟨i,rfl⟩:∃i:Nat,n=(i:Int):=⟨n.toNat,by have:=hn.1;omega⟩
      have h1:=cR (N:=D.length) (i:=i) (by have:=hn.2;omega) hk
      have h2:=hf (edT D i) (sG q.1 i,q.2) (B - 1) (hE _ hn) (by dsimp only;omega)
      dsimp only at h2 ⊢
      rw [List.length_append,List.length_singleton]
      omega
theorem edT_at {n:Int} {bl:Blc} (h:D[n.toNat]?=some bl):edT D n=bl.e.to.l.map (·.b):=by
  unfold edT
  rw [xQ h]
end
theorem edT_st (ds:List Blc) (n:Int):edT (ds.map stB) n=edT ds n:=by
  unfold edT
  by_cases h:n.toNat<ds.length
  · rw [xQ (x:=stB ds[n.toNat]) (by rw [List.getElem?_map,List.getElem?_eq_getElem h];rfl),xQ (List.getElem?_eq_getElem h)]
    show ((ds[n.toNat]).e.to.l.map stE).map (·.b)=_
    rw [List.map_map]
    rfl
  · rw [List.getD_eq_getElem?_getD,List.getD_eq_getElem?_getD,List.getElem?_eq_none (by rw [List.length_map];omega),List.getElem?_eq_none (by omega)]
theorem visF_st (ds:List Blc):∀(f:Nat) (n:Int) (q:List Int × List Int),vC (ds.map stB) f n q=vC ds f n q
  |0,n,q=>rfl
  | f+1,n,q=>by
    rw [vC,vC,edT_st,funext fun q=>funext fun m=>visF_st ds f m q]
theorem ordF_st (ds:List Blc):uR (ds.map stB)=uR ds:=by
  unfold uR
  rw [visF_st,List.length_map]
theorem cls_all {w0:World} {H L:List It} {T sz n c j:Nat} {o:Option Addr} {xs vs:List Value} (hm:all L∈H) (hx:own T sz o n c xs∈L) (hv:∀i v,vs[i]?=some v→xs[j+i]?=some v):Cls (HS w0 noM H) (sat o j) vs:=by
  intro w hH i v hi
  rw [oZ]
  obtain ⟨F,hF⟩:=hH.in_all hm hx
  exact (Fw.own_rd hF).2 (j+i) v (hv i v hi)
theorem sp_all {w0 w:World} {H L:List It} {T sz n c:Nat} {o:Option Addr} {xs:List Value} (hH:HS w0 noM H w) (hm:all L∈H) (hx:own T sz o n c xs∈L):Sp o n:=by
  obtain ⟨F,hF⟩:=hH.in_all hm hx
  exact Fw.own_sp hF
theorem le_all {w0 w:World} {H L:List It} {T sz n c:Nat} {o:Option Addr} {xs:List Value} (hH:HS w0 noM H w) (hm:all L∈H) (hx:own T sz o n c xs∈L):n≤c∧c≤maxLen:=by
  obtain ⟨F,hF⟩:=hH.in_all hm hx
  rcases hF with ⟨rfl,rfl,rfl,rfl,_⟩| ⟨b,spare,rfl,h2,h3,h4,h5,h6,h7⟩
  · exact ⟨Nat.le_refl _,Nat.zero_le _⟩
  · exact ⟨h4,h5⟩
structure VSt where
  i:Nat
  ks:List Int
  out:List Int
  oL:Option Addr
  cL:Nat
section
attribute [local irreducible] Code.wp wpList Calls Ex Op1 sat bat blk cb own Go.Fw.mp Go.Fw.mpO Go.Fw.mpI Go.Fw.mpE Go.Fw.itr HS Rd Ret wkD Hp Cl Cls Exit.then Exit.inBlock Exit.noGoto bodyPost Go.Fw.flat wk2 Go.Fw.all Go.Fw.owns wpOp
attribute [local irreducible] sk mpK sko mvO xI

def cM (bS bMc bV bO:Nat):Value:=.func (.func 111) #[] #[.pointer (some (bat bS 0)),.pointer (some (bat bMc 0)),.pointer (some (bat bV 0)),.pointer (some (bat bO 0))]
theorem visit_spec (w0:World) (bS bm bMc bM bV bO bJ cD:Nat) (oD:Option Addr) (ds:List Blc) (hE:EdR ds) (hds:ds.length≤2000000):∀(f:Nat) (H:List It) (w:World) (n:Int) (ks out:List Int) (oL:Option Addr) (cL:Nat),InR ds n→uns ds.length ks<f→out.length+uns ds.length ks≤ds.length→HS w0 noM (cb bS 109 [.map (some bm)]::sk bm ks::cb bMc 171 [.pointer (some (bat bM 0))]::cb bM 174 (yB oD ds.length cD bJ)::own 179 7 oD ds.length cD (flat zS ds)::all (ds.map toI)::cb bV 228 [cM bS bMc bV bO]::cb bO 45 [.slice oL (out).length cL]::own 3 1 oL (out).length cL (flat Fw.encI out)::H) w→
    Ret Tryz.prog 111 #[.int .i64 n,.pointer (some (bat bS 0)),.pointer (some (bat bMc 0)),.pointer (some (bat bV 0)),.pointer (some (bat bO 0))] w (fun r w'=>∃oL' cL',HS w0 noM (cb bS 109 [.map (some bm)]::sk bm (vC ds f n (ks,out)).1::cb bMc 171 [.pointer (some (bat bM 0))]::cb bM 174 (yB oD ds.length cD bJ)::own 179 7 oD ds.length cD (flat zS ds)::all (ds.map toI)::cb bV 228 [cM bS bMc bV bO]::cb bO 45 [.slice oL' ((vC ds f n (ks,out)).2).length cL']::own 3 1 oL' ((vC ds f n (ks,out)).2).length cL' (flat Fw.encI (vC ds f n (ks,out)).2)::H) w'):=by
  intro f
  induction f with
  |zero=>intro H w n ks out oL cL hn hu;exact absurd hu (Nat.not_lt_zero _)
  |succ f ihf=>
  intro H w n ks out oL cL hn hu hlo hH
  obtain ⟨j,rfl⟩:∃j:Nat,n=(j:Int):=⟨n.toNat,by have:=hn.1;omega⟩
  have hj:j<ds.length:=by have:=hn.2;omega
  obtain ⟨d,hd⟩:∃d,ds[j]?=some d:=⟨_,List.getElem?_eq_getElem hj⟩
  have hed:edT ds j=d.e.to.l.map (·.b):=edT_at (by rw [Int.toNat_natCast];exact hd)
  have hspD:=hH.own_sp (T:=179) (o:=oD) MEMT
  have hspT:=sp_all hH (L:=ds.map toI) MEMT (List.mem_map.2 ⟨d,List.mem_of_getElem? hd,rfl⟩)
  have hleT:=le_all hH (L:=ds.map toI) MEMT (List.mem_map.2 ⟨d,List.mem_of_getElem? hd,rfl⟩)
  unfold maxLen at hleT
  have hEr:=hE _ hn
  rw [hed] at hEr
  (refine ENT (N:=37) Tryz.func111 Tryz.ntmps111 ?_;intro a hA)
  repeat' (first|(refine XT ?_;apply XE;(first|(apply qQ;rfl;rfl;exact MEMT));clear hA a;intro a hA)|(refine QT ?_;clear hA a;intro a hA)|(apply zO hA rfl rfl;apply mR;rfl;rfl;rfl;exact hH;(repeat constructor);clear hH;rintro _ w hH)|refine CT ?_|(refine DT ?_ ?_<;>intro hc<;>try (exfalso;omega))|fail)
  · rw [vC,if_pos (by assumption)]
    exact rt0 (.inl rfl) rfl hA ⟨oL,cL,hH⟩
  have hks:(j:Int) ∉ ks:=by assumption
  have hv5:=dr_at (off:=5) (v:=.slice d.e.to.o d.e.to.l.length d.e.to.c) hd rfl
  have hu1:=cR (N:=ds.length) (i:=j) hj hks
  repeat' (first|(refine XT ?_;apply XE;(first|(apply zC;rfl;exact uD MEMT hv5));clear hA a;intro a hA)|(refine QT ?_;clear hA a;intro a hA)|refine CT ?_|fail)
  rw [vC,if_neg hks,hed]
  refine yK (S:=VSt) (fun t a w=>(t.i≤d.e.to.l.length∧uns ds.length t.ks<f∧t.out.length+uns ds.length t.ks+1≤ds.length∧(d.e.to.l.map (·.b)).foldl (fun q m=>vC ds f m q) (sG ks j,out)=((d.e.to.l.drop t.i).map (·.b)).foldl (fun q m=>vC ds f m q) (t.ks,t.out))∧HS w0 noM (cb bS 109 [.map (some bm)]::sk bm t.ks::cb bMc 171 [.pointer (some (bat bM 0))]::cb bM 174 (yB oD ds.length cD bJ)::own 179 7 oD ds.length cD (flat zS ds)::all (ds.map toI)::cb bV 228 [cM bS bMc bV bO]::cb bO 45 [.slice t.oL (t.out).length t.cL]::own 3 1 t.oL (t.out).length t.cL (flat Fw.encI t.out)::H) w∧Sl 37 [(24,.int .i64 t.i),(23,.int .i64 d.e.to.l.length),(22,.slice d.e.to.o d.e.to.l.length d.e.to.c),(0,.int .i64 j),(3,.pointer (some (bat bV 0))),(4,.pointer (some (bat bO 0)))] a) (fun t=>d.e.to.l.length - t.i)
    (fun a w=>∃t:VSt,(t.out.length+uns ds.length t.ks+1≤ds.length∧(d.e.to.l.map (·.b)).foldl (fun q m=>vC ds f m q) (sG ks j,out)=(t.ks,t.out))∧HS w0 noM (cb bS 109 [.map (some bm)]::sk bm t.ks::cb bMc 171 [.pointer (some (bat bM 0))]::cb bM 174 (yB oD ds.length cD bJ)::own 179 7 oD ds.length cD (flat zS ds)::all (ds.map toI)::cb bV 228 [cM bS bMc bV bO]::cb bO 45 [.slice t.oL (t.out).length t.cL]::own 3 1 t.oL (t.out).length t.cL (flat Fw.encI t.out)::H) w∧Sl 37 [(0,.int .i64 j),(4,.pointer (some (bat bO 0)))] a)
    ⟨0,sG ks j,out,oL,cL⟩ ⟨⟨Nat.zero_le _,by dsimp only;omega,by dsimp only;omega,rfl⟩,hH,(hA.sub SBT)⟩ ?_ ?_
  · clear hA hH
    rintro ⟨i,ks1,out1,oL1,cL1⟩ a w ⟨⟨hi,hu2,hlo2,heq⟩,hH,hA⟩
    dsimp only at hi hu2 hlo2 heq hH hA ⊢
    by_cases hlt:i<d.e.to.l.length
    rotate_left
    · obtain rfl:i=d.e.to.l.length:=by omega
      rw [List.drop_length] at heq
      repeat' (first|(refine QT ?_;clear hA a;intro a hA)|refine CT ?_|(refine DT ?_ ?_<;>intro hc<;>try (exfalso;omega))|fail)
      exact ⟨⟨0,ks1,out1,oL1,cL1⟩,⟨hlo2,heq⟩,hH,(hA.sub SBT)⟩
    obtain ⟨x,hx⟩:∃x,d.e.to.l[i]?=some x:=⟨_,List.getElem?_eq_getElem hlt⟩
    have hxr:=hEr x.b (List.mem_map.2 ⟨x,List.mem_of_getElem? hx,rfl⟩)
    have hdrop:d.e.to.l.drop i=x::d.e.to.l.drop (i+1):=by
      obtain ⟨hi2,rfl⟩:=List.getElem?_eq_some_iff.1 hx
      exact List.drop_eq_getElem_cons hi2
    rw [hdrop,List.map_cons,List.foldl_cons] at heq
    have hvx:=yA wW hx
    have htm:toI d∈ds.map toI:=List.mem_map.2 ⟨d,List.mem_of_getElem? hd,rfl⟩
    repeat' (first|(refine XT ?_;apply XE;(first|(apply zE;rfl;rfl;omega;exact hspT)|(apply zG (vs:=yL x);rfl;rfl;exact cls_all (L:=ds.map toI) MEMT htm hvx));clear hA a;intro a hA)|(refine QT ?_;clear hA a;intro a hA)|(refine BT ?_;clear hA hH;rintro _ w ⟨bN,rfl,hH⟩ a hA)|(refine SAT (yL x) hA hH ?_;clear hH;intro w hH)|refine CT ?_|(refine DT ?_ ?_<;>intro hc<;>try (exfalso;omega))|fail)
    obtain ⟨b7,hb7⟩:∃b,b=bN:=⟨_,rfl⟩
    rw [←hb7] at hA hH
    clear hb7 bN
    replace hH:=hH.perm (H':=cb bS 109 [.map (some bm)]::sk bm ks1::cb bMc 171 [.pointer (some (bat bM 0))]::cb bM 174 (yB oD ds.length cD bJ)::own 179 7 oD ds.length cD (flat zS ds)::all (ds.map toI)::cb bV 228 [cM bS bMc bV bO]::cb bO 45 [.slice oL1 (out1).length cL1]::own 3 1 oL1 (out1).length cL1 (flat Fw.encI out1)::cb b7 61 (yL x)::H) PMT
    repeat' (first|(refine QT ?_;clear hA a;intro a hA)|fail)
    (refine zH hA rfl rfl (by decide) (zA rfl rfl rfl (ihf _ w x.b ks1 out1 oL1 cL1 hxr hu2 (by omega) hH)) ?_;clear hA hH;rintro _ w ⟨oL2,cL2,hH⟩ a hA)
    repeat' (first|(refine QT ?_;clear hA a;intro a hA)|refine CT ?_|fail)
    refine ⟨⟨i+1,_,_,oL2,cL2⟩,⟨⟨hlt,Nat.lt_of_le_of_lt (uns_mono (vis_sub f x.b (ks1,out1))) hu2,?_,heq⟩,(hH.rm 9).perm PMT,(hA.sub SBT)⟩,by dsimp only;omega⟩
    have:=jN hE f x.b (ks1,out1) (ds.length - 1) hxr (by dsimp only;omega)
    show (vC ds f x.b (ks1,out1)).2.length+uns ds.length (vC ds f x.b (ks1,out1)).1+1≤ds.length
    omega
  clear hA hH
  rintro a w ⟨⟨i,ks1,out1,oL1,cL1⟩,⟨hlo2,heq⟩,hH,hA⟩
  dsimp only at hlo2 heq hH hA
  rw [heq]
  dsimp only
  repeat' (first|(refine QT ?_;clear hA a;intro a hA)|(refine LT ?_;clear hA hH;rintro _ w ⟨oN,rfl,hH⟩ a hA)|(refine AT ?_;clear hA;rintro _ w ⟨oN,cN,rfl,hH2⟩ a hA;clear hH;have hH:=(hH2 _ (by (repeat constructor))).tail;clear hH2)|(refine S0T ?_;clear hH;rintro _ w hH)|refine CT ?_|fail)
  rw [flatI_snoc] at hH
  exact rt0 (.inr rfl) rfl hA ⟨oN,cN,by rw [List.length_append,List.length_singleton];exact hH⟩
end
section
attribute [local irreducible] Code.wp wpList Calls Ex Op1 sat bat blk cb own Go.Fw.mp Go.Fw.mpO Go.Fw.mpI Go.Fw.mpE Go.Fw.itr HS Rd Ret wkD Hp Cl Cls Exit.then Exit.inBlock Exit.noGoto bodyPost Go.Fw.flat wk2 Go.Fw.all Go.Fw.owns wpOp
attribute [local irreducible] sk mpK sko mvO xI

theorem order_spec (w0 w:World) (H:List It) (bM bJ cD:Nat) (oD:Option Addr) (ds:List Blc) (hE:EdR ds) (h0:0<ds.length) (hds:ds.length≤1000000) (hH:HS w0 noM (cb bM 174 (yB oD ds.length cD bJ)::own 179 7 oD ds.length cD (flat zS ds)::all (ds.map toI)::H) w) :
    Ret Tryz.prog 75 #[.pointer (some (bat bM 0))] w (fun r w'=>
      ∃oL cL,r= .slice oL (uR ds).length cL∧HS w0 noM (own 3 1 oL (uR ds).length cL (flat Fw.encI (uR ds))::cb bM 174 (yB oD ds.length cD bJ)::own 179 7 oD ds.length cD (flat zS ds)::all (ds.map toI)::H) w'):=by
  (refine ENT (N:=13) Tryz.func75 Tryz.ntmps75 ?_;intro a hA)
  repeat' (first|(refine XT ?_;apply XE;(first|(apply kW;rfl;rfl));clear hA a;intro a hA)|(refine QT ?_;clear hA a;intro a hA)|(refine BT ?_;clear hA hH;rintro _ w ⟨bN,rfl,hH⟩ a hA)|(refine S0T ?_;clear hH;rintro _ w hH)|(refine zH hA rfl rfl (by decide) (wH hH) ?_;clear hA hH;rintro _ w ⟨bm,rfl,hH⟩ a hA)|refine CT ?_|fail)
  have key:∃bS bMc bV bO bm,HS w0 noM (cb bS 109 [.map (some bm)]::sk bm []::cb bMc 171 [.pointer (some (bat bM 0))]::cb bM 174 (yB oD ds.length cD bJ)::own 179 7 oD ds.length cD (flat zS ds)::all (ds.map toI)::cb bV 228 [cM bS bMc bV bO]::cb bO 45 [.slice none 0 0]::H) w∧
      Sl 13 [(8,cM bS bMc bV bO),(4,.pointer (some (bat bO 0))),(2,.slice none 0 0)] a:=⟨_,_,_,_,_,hH.perm PMT,(hA.sub SBT)⟩
  clear hA hH
  obtain ⟨bS,bMc,bV,bO,bm,hH,hA⟩:=key
  replace hH:=(hH.nil_flat Fw.encI 3 1).perm (H':=cb bS 109 [.map (some bm)]::sk bm []::cb bMc 171 [.pointer (some (bat bM 0))]::cb bM 174 (yB oD ds.length cD bJ)::own 179 7 oD ds.length cD (flat zS ds)::all (ds.map toI)::cb bV 228 [cM bS bMc bV bO]::cb bO 45 [.slice none 0 0]::own 3 1 none 0 0 (flat Fw.encI [])::H) PMT
  have hin0:InR ds 0:=⟨Int.le_refl _,by omega⟩
  have hvl:=jN hE (ds.length+1) 0 ([],[]) ds.length hin0 (by dsimp only;rw [mJ];simp)
  (refine zH hA rfl rfl (by decide) (zA rfl rfl rfl (visit_spec w0 bS bm bMc bM bV bO bJ cD oD ds hE (by omega) (ds.length+1) H w 0 [] [] none 0 hin0 (by rw [mJ];omega) (by rw [mJ];simp) hH)) ?_;clear hA hH;rintro _ w ⟨oL,cL,hH⟩ a hA)
  have hord:(vC ds (ds.length+1) 0 ([],[])).2.reverse=uR ds:=rfl
  obtain ⟨⟨ks,out⟩,hq⟩:∃q,q=vC ds (ds.length+1) 0 ([],[]):=⟨_,rfl⟩
  rw [←hq] at hH hord hvl
  dsimp only at hH hord hvl
  replace hH:=(((hH.rm 0).rm 0).rm 0).perm (H':=own 3 1 oL out.length cL (flat Fw.encI out)::cb bM 174 (yB oD ds.length cD bJ)::own 179 7 oD ds.length cD (flat zS ds)::all (ds.map toI)::cb bV 228 [cM bS bMc bV bO]::cb bO 45 [.slice oL out.length cL]::H) PMT
  repeat' (first|(refine QT ?_;clear hA a;intro a hA)|refine CT ?_|fail)
  (refine zH hA rfl rfl (by decide) (zA rfl rfl rfl (bD w0 w _ oL cL out hH (by omega))) ?_;clear hA hH;rintro _ w hH a hA)
  have hol:(uR ds).length=out.length:=by rw [←hord,List.length_reverse]
  rw [hord] at hH
  repeat' (first|(refine QT ?_;clear hA a;intro a hA)|refine CT ?_|fail)
  exact rt1 (.inl rfl) rfl hA rfl ⟨oL,cL,by rw [hol],by rw [hol];exact ((hH.rm 4).rm 4).perm PMT⟩
end
def pA (m:List (Int × Int)) (b:Blc):Blc:=⟨b.ps,b.is,⟨b.e.k,b.e.a,b.e.ns,⟨b.e.to.o,b.e.to.c,b.e.to.l.map (pF m)⟩⟩⟩
theorem renA_st {m:List (Int × Int)} {b:Blc}:stB (pA m b)=gH m (stB b):=by
  unfold stB pA gH stN lv
  simp only [List.map_map]
  rfl
theorem renA_enc {m:List (Int × Int)} {b:Blc}:yE (pA m b)=yE b:=by
  unfold yE pA
  simp only [List.length_map]
theorem renA_to {m:List (Int × Int)} {b:Blc}:toI (pA m b)=own 61 2 b.e.to.o b.e.to.l.length b.e.to.c (flat yL (b.e.to.l.map (pF m))):=by
  unfold toI pA
  simp only [List.length_map]
theorem bat_sat (b j:Nat):bat b (0+j)=sat (some (bat b 0)) j:=rfl
theorem sat_bat (b j:Nat):sat (some (bat b 0)) j=bat b j:=by show (⟨b,0+j,none⟩:Addr)=⟨b,j,none⟩;rw [Nat.zero_add]
abbrev CbK (w:World) (b:Nat) (cs:List Value):Prop:=RdB w b cs
theorem fn_at {w:World} {b:Nat} {f:FN} (h:CbK w b (xX f)) (hR:RdN w f.body):AtN w (some (bat b 0)) 1 f.body:=⟨fun i u hu=>by
  rw [sat_bat]
  exact h (1+i) u (by unfold xX;rw [Nat.add_comm];exact hu),hR⟩
theorem hp_ins {w:World}:∀{ds:List Blc} {F:Nat→Prop},Hp w (ds.map wF) F→∀d∈ds,RdV w xK d.is
  | [],F,h,d,hd=>absurd hd (List.not_mem_nil)
  | c ::ds,F,h,d,hd=>by
    obtain ⟨F1,F2,hF,hdj,h1,h2⟩:=h
    rcases List.mem_cons.1 hd with rfl|hd
    · refine ⟨Fw.own_rd h1,?_⟩
      rcases h1 with ⟨e1,e2,e3,e4,_⟩| ⟨b,spare,q1,q2,q3,q4,q5,q6,q7⟩
      · rw [e2,e3];exact ⟨Nat.le_refl _,Nat.zero_le _⟩
      · exact ⟨q4,q5⟩
    · exact hp_ins h2 d hd
theorem hp_to {w:World}:∀{ds:List Blc} {F:Nat→Prop},Hp w (ds.map toI) F→∀d∈ds,RdV w yL d.e.to
  | [],F,h,d,hd=>absurd hd (List.not_mem_nil)
  | c ::ds,F,h,d,hd=>by
    obtain ⟨F1,F2,hF,hdj,h1,h2⟩:=h
    rcases List.mem_cons.1 hd with rfl|hd
    · refine ⟨Fw.own_rd h1,?_⟩
      rcases h1 with ⟨e1,e2,e3,e4,_⟩| ⟨b,spare,q1,q2,q3,q4,q5,q6,q7⟩
      · rw [e2,e3];exact ⟨Nat.le_refl _,Nat.zero_le _⟩
      · exact ⟨q4,q5⟩
    · exact hp_to h2 d hd
theorem HS.frz_rows {w0 w:World} {L:List It} {K K1:World→Prop} {H:List It} (h:HS w0 noM (all L::frz w0 K::H) w) (hK:∀w F,Hp w L F→K1 w):HS w0 noM (frz w0 (fun w=>K1 w∧K w)::H) w:=by
  have h1:HS w0 noM ((L++[frz w0 K])++H) w:=by
    have:=h.open_
    rw [List.append_assoc]
    exact this
  exact h1.shut.frz_all hK
theorem ordF_len {ds:List Blc} (hE:EdR ds) (h0:0<ds.length):(uR ds).length≤ds.length:=by
  have hvl:=jN hE (ds.length+1) 0 ([],[]) ds.length ⟨Int.le_refl _,by omega⟩ (by dsimp only;rw [mJ];simp)
  unfold uR
  rw [List.length_reverse]
  omega
def tY (m:List (Int × Int)) (ds:List Blc) (ord:List Int):Nat→List Blc
  |0=>ds
  |i+1=>(tY m ds ord i).set (ord.getD i 0).toNat (pA m (ds.getD (ord.getD i 0).toNat wR))
theorem lP {m:List (Int × Int)} {ds:List Blc} {ord:List Int}:∀i,(tY m ds ord i).length=ds.length
  |0=>rfl
  |i+1=>by rw [tY,List.length_set,lP i]
theorem jY {m:List (Int × Int)} {ds:List Blc} {ord:List Int} (hn:ord.Nodup) (hr:∀x∈ord,InR ds x):∀(i:Nat),i≤ord.length→∀(k:Nat) (x:Int),ord[k]?=some x→(tY m ds ord i)[x.toNat]?=if k<i then some (pA m (ds.getD x.toNat wR)) else ds[x.toNat]?
  |0,_,k,x,_=>by rw [if_neg (Nat.not_lt_zero _)];rfl
  | i + 1,hi,k,x,hx=>by
    have hd:ord[i]?=some (ord.getD i 0):=by rw [List.getD_eq_getElem?_getD,List.getElem?_eq_getElem (by omega)];rfl
    have hx1:=hr x (List.mem_of_getElem? hx)
    have hd1:=hr _ (List.mem_of_getElem? hd)
    rw [tY,List.getElem?_set]
    by_cases he:k=i
    · subst he
      rw [hx] at hd
      obtain rfl:=Option.some.inj hd
      rw [if_pos rfl,if_pos (Nat.lt_succ_self _),if_pos (by rw [lP];have:=hx1.1;have:=hx1.2;omega)]
    · have hne:(ord.getD i 0).toNat≠x.toNat:=fun e=>he (bZ hn hx (by
        have e2:x=ord.getD i 0:=by have:=hx1.1;have:=hd1.1;omega
        rw [e2];exact hd))
      rw [if_neg hne,jY hn hr i (by omega) k x hx]
      by_cases hc:k<i
      · rw [if_pos hc,if_pos (by omega)]
      · rw [if_neg hc,if_neg (by omega)]
def gsF (m:List (Int × Int)) (ds:List Blc) (ord:List Int) (i:Nat):List Blc:=(ord.take i).map fun n=>pA m (ds.getD n.toNat wR)
theorem gsF_next {m:List (Int × Int)} {ds:List Blc} {ord:List Int} {i:Nat} {x:Int} (h:ord[i]?=some x):gsF m ds ord (i+1)=gsF m ds ord i++[pA m (ds.getD x.toNat wR)]:=by
  unfold gsF
  rw [yU h,List.map_append]
  rfl
def pK (m:List (Int × Int)) (l:List Edg) (e:Nat):List Edg:=(l.take e).map (pF m)++l.drop e
theorem mixF_at {m:List (Int × Int)} {l:List Edg} {e:Nat} {x:Edg} (h:l[e]?=some x):(pK m l e)[e]?=some x:=by
  have hl:=(List.getElem?_eq_some_iff.1 h).1
  unfold pK
  rw [List.getElem?_append_right (by rw [List.length_map,List.length_take];omega),List.length_map,List.length_take,List.getElem?_drop]
  have:e+(e - min e l.length)=e:=by omega
  rw [this]
  exact h
theorem mixF_set {m:List (Int × Int)} {l:List Edg} {e:Nat} {x:Edg} (h:l[e]?=some x):(pK m l e).set e (pF m x)=pK m l (e+1):=by
  obtain ⟨hl,rfl⟩:=List.getElem?_eq_some_iff.1 h
  unfold pK
  rw [yU h,List.map_append,List.drop_eq_getElem_cons hl,List.set_append_right _ _ (by rw [List.length_map,List.length_take];omega),List.length_map,List.length_take]
  have:e - min e l.length=0:=by omega
  rw [this,List.set_cons_zero,List.append_assoc]
  rfl
theorem mixF_len {m:List (Int × Int)} {l:List Edg} {e:Nat} (h:e≤l.length):(pK m l e).length=l.length:=by
  unfold pK
  rw [List.length_append,List.length_map,List.length_take,List.length_drop];omega
theorem mixF_all {m:List (Int × Int)} {l:List Edg}:pK m l l.length=l.map (pF m):=by
  unfold pK
  rw [List.take_length,List.drop_length,List.append_nil]
theorem ren_put {m:List (Int × Int)} {x:Edg}:put (yL x) 0 [.int .i64 ((lkI m x.b).getD 0)]=yL (pF m x):=rfl
theorem renA_rd {w:World} {m:List (Int × Int)} {d:Blc} (h:RdDr w d) (hi:RdV w xK d.is) (ht:RdV w yL (pA m d).e.to):RdBl w (pA m d):=⟨h.ps,hi,h.is,h.a,h.ns,ht,fun x hx=>by
  obtain ⟨y,hy,rfl⟩:=List.mem_map.1 (show x∈d.e.to.l.map (pF m) from hx)
  exact h.to y hy⟩
theorem gr_eq {caps:Int} {b:AN} {ds:List Blc} {ord:List Int} {oB:Option Addr} {cB:Nat} (hds:ds.map stB=dF b) (ho:uR (dF b)=ord) (hr:∀x∈ord,InR ds x):stG ⟨caps,⟨oB,cB,gsF (plF ord ord.length) ds ord ord.length⟩⟩=⟨caps,lv (gbF b)⟩:=by
  unfold stG gbF bsF gsF
  rw [ho,List.take_length,List.map_map]
  congr 2
  apply List.map_congr_left
  intro n hn
  have h1:=hr n hn
  have hl:n.toNat<ds.length:=by have:=h1.1;have:=h1.2;omega
  show stB (pA _ _)=_
  rw [renA_st,←hds,xQ (List.getElem?_eq_getElem hl),xQ (x:=stB ds[n.toNat]) (by rw [List.getElem?_map,List.getElem?_eq_getElem hl];rfl)]
section
attribute [local irreducible] Code.wp wpList Calls Ex Op1 sat bat blk cb own Go.Fw.mp Go.Fw.mpO Go.Fw.mpI Go.Fw.mpE Go.Fw.itr HS Rd Ret wkD Hp Cl Cls Exit.then Exit.inBlock Exit.noGoto bodyPost Go.Fw.flat wk2 Go.Fw.all Go.Fw.owns wpOp
attribute [local irreducible] sk mpK sko mvO xI

theorem graphN_spec (w0 w:World) (H:List It) (f:FN) (hH:HS w0 noM H w) (hR:RdN w0 f.body) (hsh:ShN f.body) (hsz:szN f.body≤100000) (hE:EdR (dF f.body)) (h0:0<(dF f.body).length) (ho:OrdOk (dF f.body) (uR (dF f.body))) :
    Ret Tryz.prog 40 #[.agg (xX f).toArray] w (fun r w=>∃(G:Gr) (K:World→Prop),r= .agg (vL G).toArray∧stG G=⟨f.caps,lv (gbF f.body)⟩∧HS w0 noM (frz w0 K::H) w∧∀w,K w→RdG w G):=by
  obtain ⟨caps,k,x,xs,n,ns,r,va,ko,kc,kids⟩:=f
  (refine ENT (N:=83) Tryz.func40 Tryz.ntmps40 ?_;intro a hA)
  repeat' (first|(refine XT ?_;apply XE;(first|(apply zI (cs:=(yB none 0 0 bJ).toArray);rfl;exact FLT;rfl));clear hA a;intro a hA)|(refine QT ?_;clear hA a;intro a hA)|(refine BT ?_;clear hA hH;rintro _ w ⟨bN,rfl,hH⟩ a hA)|(refine zH hA rfl rfl (by decide) (rM hH) ?_;clear hA hH;rintro _ w ⟨bJ,rfl,hH⟩ a hA)|refine CT ?_|fail)
  obtain ⟨f,hf⟩:∃f:FN,f=⟨caps,.mk k x xs n ns r va ko kc kids⟩:=⟨_,rfl⟩
  rw [←hf] at hH hR hsh hsz hE h0 ho hA ⊢
  have hfc:f.caps=caps:=by rw [hf]
  have key:∃bM b2 bF,HS w0 noM (cb bF 72 (xX f)::cb bM 174 (yB none 0 0 bJ)::mpI bJ []::cb b2 44 [.int .i64 0,.slice none 0 0]::H) w∧Sl 83 [(17,.pointer (some (bat bM 0))),(16,.pointer (some (bat bM 0))),(3,.pointer (some (bat bM 0))),(2,.pointer (some (bat b2 0))),(1,.pointer (some (bat bF 0)))] a:=⟨_,_,_,hH.perm PMT,(hA.sub SBT)⟩
  clear hA hH
  obtain ⟨bM,b2,bF,hH,hA⟩:=key
  obtain ⟨K0,hK0⟩:∃K0:World→Prop,K0=(fun w=>CbK w bF (xX f)∧Kp w0 noM w):=⟨_,rfl⟩
  replace hH:=HS.frz_cb ((hH.frz_nil (K:=fun w=>Kp w0 noM w) (fun w h=>h)).perm (H':=cb bF 72 (xX f)::frz w0 (fun w=>Kp w0 noM w)::cb bM 174 (yB none 0 0 bJ)::mpI bJ []::cb b2 44 [.int .i64 0,.slice none 0 0]::H) PMT)
  rw [←hK0] at hH
  have hKf:∀w,K0 w→CbK w bF (xX f)∧RdN w f.body:=fun w h=>by
    rw [hK0] at h
    exact ⟨h.1,hR.keep h.2⟩
  have hH1:=(((hH.nil_flat zS 179 7).nil_all).nil_all).perm (H':=(cb bM 174 (yB (none:Option Addr) (([]:List Blc)).length 0 bJ)::own 179 7 (none:Option Addr) (([]:List Blc)).length 0 (flat zS (([]:List Blc)))::all ((([]:List Blc)).map wF)::all ((([]:List Blc)).map toI)::frz w0 K0::mpI bJ ([]:List (Int × Int))::cb b2 44 [.int .i64 0,.slice none 0 0]::H)) PMT
  clear hH
  have hH:=hH1
  clear hH1
  repeat' (first|(refine QT ?_;clear hA a;intro a hA)|fail)
  (refine zH hA rfl rfl (by decide) (zA rfl rfl rfl (mB w0 w _ bM bJ K0 none 0 [] [] zT (fun w h=>zW _ _) (Nat.zero_le _) (Nat.zero_le _) hH)) ?_;clear hA hH;rintro _ w ⟨oE,cE,K1,v',rfl,hv',hH,hK1⟩ a hA)
  rw [List.nil_append] at hH
  repeat' (first|(refine QT ?_;clear hA a;intro a hA)|fail)
  rw [bat_sat] at hA
  have hnb:[nbl v'].map stB=[xS []]:=by
    have e:xS v'.l=xS []:=by rw [hv'];rfl
    rw [←e];rfl
  (refine zH hA rfl rfl (by decide) (zA rfl rfl rfl (fillN_spec w0 bM bJ (szN f.body) f.body (Nat.le_refl _) hsh (cb b2 44 [.int .i64 0,.slice none 0 0]::H) w 0 K1 oE cE [nbl v'] [] (some (bat bF 0)) 1 (fun w h=>⟨?_,fun d hd=>?_⟩) (Nat.zero_lt_one) ?_ hH)) ?_)
  · have h1:=hKf w (hK1 w h).1
    exact fn_at h1.1 h1.2
  · rw [List.mem_singleton] at hd
    rw [hd]
    exact RdDr.nbl (hK1 w h).2
  · refine ⟨?_,fun d hd=>?_⟩
    · show 1+szN f.body≤_;omega
    · rw [List.mem_singleton] at hd
      rw [hd]
      show 0+szN f.body≤_;omega
  clear hA hH
  rintro _ w ⟨K2,oD,cD,ds,js',hH,hK2,heq⟩ a hA
  rw [hnb] at heq
  have hds:ds.map stB=dF f.body:=(congrArg Prod.fst heq)
  have hdl:(dF f.body).length=ds.length:=by rw [←hds,List.length_map]
  have hpz:=vS f.body
  have hlimf:=(gS f.body hsh 0 ([xS []],[]) (2000000 - szN f.body) ⟨by show 1+_≤2000000;omega,fun d hd=>by
    rw [List.mem_singleton] at hd
    rw [hd]
    show 0+_≤_;omega⟩).1.1
  have hE':EdR ds:=fun n hn m hm=>by
    have h1:=hE n (by unfold InR at *;rw [hdl];exact hn) m (by rw [←hds,edT_st];exact hm)
    unfold InR at *
    rw [hdl] at h1
    exact h1
  obtain ⟨ord,hord⟩:∃ord,ord=uR ds:=⟨_,rfl⟩
  have hord2:uR (dF f.body)=ord:=by rw [←hds,ordF_st,hord]
  rw [hord2] at ho
  have hdl2:ds.length≤100000:=by
    have h1:(dF f.body).length+(2000000 - szN f.body)≤2000000:=hlimf
    omega
  repeat' (first|(refine QT ?_;clear hA a;intro a hA)|refine CT ?_|fail)
  (refine zH hA rfl rfl (by decide) (zA rfl rfl rfl (order_spec w0 w _ bM bJ cD oD ds hE' (by omega) (by omega) (hH.perm (H':=cb bM 174 (yB oD ds.length cD bJ)::own 179 7 oD ds.length cD (flat zS ds)::all (ds.map toI)::all (ds.map wF)::frz w0 K2::mpI bJ js'::cb b2 44 [.int .i64 0,.slice none 0 0]::H) PMT))) ?_;clear hA hH;rintro _ w ⟨oL,cL,rfl,hH⟩ a hA)
  rw [←hord] at hH hA
  have hspL:=hH.own_sp (T:=3) (o:=oL) MEMT
  have hspD:=hH.own_sp (T:=179) (o:=oD) MEMT
  have holen:ord.length≤100000:=by
    have:=ordF_len hE' (by omega)
    rw [←hord] at this
    omega
  have horg:∀x∈ord,InR ds x:=fun x hx=>by
    have:=ho.rg x hx
    unfold InR at *
    rw [←hdl]
    exact this
  replace hH:=(hH.rm 6).perm (H':=own 3 1 oL ord.length cL (flat Fw.encI ord)::cb bM 174 (yB oD ds.length cD bJ)::own 179 7 oD ds.length cD (flat zS ds)::all (ds.map toI)::all (ds.map wF)::frz w0 K2::cb b2 44 [.int .i64 0,.slice none 0 0]::H) PMT
  repeat' (first|(refine QT ?_;clear hA a;intro a hA)|(refine zH hA rfl rfl (by decide) (rM hH) ?_;clear hA hH;rintro _ w ⟨bP,rfl,hH⟩ a hA)|refine CT ?_|fail)
  refine yK (S:=Nat) (fun i a w=>i≤ord.length∧HS w0 noM (mpI bP (plF ord i)::own 3 1 oL ord.length cL (flat Fw.encI ord)::cb bM 174 (yB oD ds.length cD bJ)::own 179 7 oD ds.length cD (flat zS ds)::all (ds.map toI)::all (ds.map wF)::frz w0 K2::cb b2 44 [.int .i64 0,.slice none 0 0]::H) w∧Sl 83 [(26,.int .i64 i),(25,.int .i64 ord.length),(24,.slice oL ord.length cL),(5,.map (some bP)),(4,.slice oL ord.length cL),(3,.pointer (some (bat bM 0))),(2,.pointer (some (bat b2 0))),(1,.pointer (some (bat bF 0)))] a) (fun i=>ord.length - i)
    (fun a w=>HS w0 noM (mpI bP (plF ord ord.length)::own 3 1 oL ord.length cL (flat Fw.encI ord)::cb bM 174 (yB oD ds.length cD bJ)::own 179 7 oD ds.length cD (flat zS ds)::all (ds.map toI)::all (ds.map wF)::frz w0 K2::cb b2 44 [.int .i64 0,.slice none 0 0]::H) w∧Sl 83 [(5,.map (some bP)),(4,.slice oL ord.length cL),(3,.pointer (some (bat bM 0))),(2,.pointer (some (bat b2 0))),(1,.pointer (some (bat bF 0)))] a) 0 ⟨Nat.zero_le _,hH,(hA.sub SBT)⟩ ?_ ?_
  · clear hA hH
    rintro i a w ⟨hi,hH,hA⟩
    by_cases hlt:i<ord.length
    rotate_left
    · obtain rfl:i=ord.length:=by omega
      repeat' (first|(refine QT ?_;clear hA a;intro a hA)|refine CT ?_|(refine DT ?_ ?_<;>intro hc<;>try (exfalso;omega))|fail)
      exact ⟨hH,(hA.sub SBT)⟩
    obtain ⟨z,hz⟩:∃z,ord[i]?=some z:=⟨_,List.getElem?_eq_getElem hlt⟩
    have hvz:=dR hz
    repeat' (first|(refine XT ?_;apply XE;(first|(apply zE;rfl;rfl;omega;exact hspL)|(apply zC;rfl;exact uD (T:=3) (o:=oL) MEMT hvz));clear hA a;intro a hA)|(refine QT ?_;clear hA a;intro a hA)|(apply zO hA rfl rfl;apply rU;rfl;rfl;rfl;exact hH;(repeat constructor);clear hH;rintro _ w hH)|refine CT ?_|(refine DT ?_ ?_<;>intro hc<;>try (exfalso;omega))|fail)
    refine ⟨i+1,⟨hlt,?_,(hA.sub SBT)⟩,by omega⟩
    rw [plF,xQ hz]
    exact hH
  clear hA hH
  rintro a w ⟨hH,hA⟩
  obtain ⟨pl,hpl⟩:∃pl,pl=plF ord ord.length:=⟨_,rfl⟩
  rw [←hpl] at hH
  obtain ⟨K3,hK3⟩:∃K3:World→Prop,K3=(fun w=>(∀d∈ds,RdV w xK d.is)∧K2 w):=⟨_,rfl⟩
  replace hH:=HS.frz_rows (hH.perm (H':=all (ds.map wF)::frz w0 K2::all (ds.map toI)::mpI bP pl::own 3 1 oL ord.length cL (flat Fw.encI ord)::cb bM 174 (yB oD ds.length cD bJ)::own 179 7 oD ds.length cD (flat zS ds)::cb b2 44 [.int .i64 0,.slice none 0 0]::H) PMT) (fun w F h=>hp_ins h)
  rw [←hK3] at hH
  have hKf3:∀w,K3 w→w.cell? (bat bF (0+0))=some (.int .i64 f.caps):=fun w h=>by
    rw [hK3] at h
    exact (hKf w (hK1 w (hK2 w h.2).1).1).1 0 _ rfl
  repeat' (first|(refine XT ?_;apply XE;(first|(apply zC;rfl;exact tL MEMT hKf3)|(apply zI (cs:=#[.int .i64 f.caps,.slice none 0 0]);rfl;exact FLT;rfl));clear hA a;intro a hA)|(refine QT ?_;clear hA a;intro a hA)|(refine BT ?_;clear hA hH;rintro _ w ⟨bN,rfl,hH⟩ a hA)|(refine SAT ([.int .i64 f.caps,.slice none 0 0]) hA hH ?_;clear hH;intro w hH)|refine CT ?_|fail)
  obtain ⟨b8,hb8⟩:∃x,x=bN:=⟨_,rfl⟩
  rw [←hb8] at hA hH
  clear hb8 bN
  refine yK (S:=Nat × Option Addr × Nat) (fun t a w=>t.1≤ord.length∧HS w0 noM (own 53 6 t.2.1 t.1 t.2.2 (flat yE (gsF pl ds ord t.1))::cb b8 44 [.int .i64 f.caps,.slice t.2.1 t.1 t.2.2]::all ((tY pl ds ord t.1).map toI)::mpI bP pl::own 3 1 oL ord.length cL (flat Fw.encI ord)::cb bM 174 (yB oD ds.length cD bJ)::own 179 7 oD ds.length cD (flat zS ds)::frz w0 K3::cb b2 44 [.int .i64 0,.slice none 0 0]::H) w∧Sl 83 [(40,.int .i64 t.1),(39,.int .i64 ord.length),(38,.slice oL ord.length cL),(8,.pointer (some (bat b8 0))),(5,.map (some bP)),(3,.pointer (some (bat bM 0))),(2,.pointer (some (bat b2 0)))] a) (fun t=>ord.length - t.1)
    (fun a w=>∃oB cB,HS w0 noM (own 53 6 oB ord.length cB (flat yE (gsF pl ds ord ord.length))::cb b8 44 [.int .i64 f.caps,.slice oB ord.length cB]::all ((tY pl ds ord ord.length).map toI)::mpI bP pl::own 3 1 oL ord.length cL (flat Fw.encI ord)::cb bM 174 (yB oD ds.length cD bJ)::own 179 7 oD ds.length cD (flat zS ds)::frz w0 K3::cb b2 44 [.int .i64 0,.slice none 0 0]::H) w∧Sl 83 [(8,.pointer (some (bat b8 0))),(2,.pointer (some (bat b2 0)))] a) (0,none,0) ⟨Nat.zero_le _,(hH.nil_flat yE 53 6).perm PMT,(hA.sub SBT)⟩ ?_ ?_
  · clear hA hH
    rintro ⟨i,oB,cB⟩ a w ⟨hi,hH,hA⟩
    dsimp only at hi hH hA ⊢
    by_cases hlt:i<ord.length
    rotate_left
    · obtain rfl:i=ord.length:=by omega
      repeat' (first|(refine QT ?_;clear hA a;intro a hA)|refine CT ?_|(refine DT ?_ ?_<;>intro hc<;>try (exfalso;omega))|fail)
      exact ⟨oB,cB,hH,(hA.sub SBT)⟩
    obtain ⟨z,hz⟩:∃z,ord[i]?=some z:=⟨_,List.getElem?_eq_getElem hlt⟩
    have hzr:=horg z (List.mem_of_getElem? hz)
    have hgn:=gsF_next (m:=pl) (ds:=ds) hz
    have hta:=jY (m:=pl) ho.nd horg i hi i z hz
    have htn:tY pl ds ord (i+1)=(tY pl ds ord i).set z.toNat (pA pl (ds.getD z.toNat wR)):=by rw [tY,xQ hz]
    rw [if_neg (Nat.lt_irrefl _)] at hta
    obtain ⟨j,rfl⟩:∃j:Nat,z=(j:Int):=⟨z.toNat,by have:=hzr.1;omega⟩
    have hj:j<ds.length:=by have:=hzr.2;omega
    rw [Int.toNat_natCast] at hgn hta htn
    obtain ⟨d,hd⟩:∃d,ds[j]?=some d:=⟨_,List.getElem?_eq_getElem hj⟩
    rw [xQ hd] at hgn htn
    rw [hd] at hta
    have hvz:=dR hz
    have hvb:∀i v,(yE d)[i]?=some v→(flat zS ds)[j*7+0+i]?=some v:=fun i v h=>by rw [Nat.add_zero];exact dr_at hd (bl_dr h)
    repeat' (first|(refine XT ?_;apply XE;(first|(apply zE;rfl;rfl;omega;exact hspL)|(apply zC;rfl;exact uD (T:=3) (o:=oL) MEMT hvz)|(apply zG (vs:=yE d);rfl;rfl;exact lI (T:=179) (o:=oD) MEMT hvb));clear hA a;intro a hA)|(refine QT ?_;clear hA a;intro a hA)|(refine BT ?_;clear hA hH;rintro _ w ⟨bN,rfl,hH⟩ a hA)|(refine SAT (yE d) hA hH ?_;clear hH;intro w hH)|refine CT ?_|(refine DT ?_ ?_<;>intro hc<;>try (exfalso;omega))|fail)
    obtain ⟨b11,hb11⟩:∃x,x=bN:=⟨_,rfl⟩
    rw [←hb11] at hA hH
    clear hb11 bN
    have hti:((tY pl ds ord i).map toI)[j]?=some (toI d):=by rw [List.getElem?_map,hta];rfl
    have hE1:toI d=own 61 2 d.e.to.o d.e.to.l.length d.e.to.c (flat yL (pK pl d.e.to.l 0)):=rfl
    replace hH:=(hH.perm (H':=all ((tY pl ds ord i).map toI)::cb b11 53 (yE d)::own 53 6 oB i cB (flat yE (gsF pl ds ord i))::cb b8 44 [.int .i64 f.caps,.slice oB i cB]::mpI bP pl::own 3 1 oL ord.length cL (flat Fw.encI ord)::cb bM 174 (yB oD ds.length cD bJ)::own 179 7 oD ds.length cD (flat zS ds)::frz w0 K3::cb b2 44 [.int .i64 0,.slice none 0 0]::H) PMT).openAt hti
    rw [hE1] at hH
    have hspE:=hH.own_sp (T:=61) (o:=d.e.to.o) MEMT
    have hleE:=hH.own_le (T:=61) (o:=d.e.to.o) MEMT
    unfold maxLen at hleE
    refine yK (S:=Nat) (fun e a w=>e≤d.e.to.l.length∧HS w0 noM (cb b11 53 (yE d)::mpI bP pl::own 61 2 d.e.to.o d.e.to.l.length d.e.to.c (flat yL (pK pl d.e.to.l e))::all (((tY pl ds ord i).map toI).eraseIdx j)::own 53 6 oB i cB (flat yE (gsF pl ds ord i))::cb b8 44 [.int .i64 f.caps,.slice oB i cB]::own 3 1 oL ord.length cL (flat Fw.encI ord)::cb bM 174 (yB oD ds.length cD bJ)::own 179 7 oD ds.length cD (flat zS ds)::frz w0 K3::cb b2 44 [.int .i64 0,.slice none 0 0]::H) w∧Sl 83 [(56,.int .i64 e),(55,.int .i64 d.e.to.l.length),(11,.pointer (some (bat b11 0))),(40,.int .i64 i),(39,.int .i64 ord.length),(38,.slice oL ord.length cL),(8,.pointer (some (bat b8 0))),(5,.map (some bP)),(3,.pointer (some (bat bM 0))),(2,.pointer (some (bat b2 0)))] a) (fun e=>d.e.to.l.length - e)
      (fun a w=>HS w0 noM (cb b11 53 (yE d)::mpI bP pl::own 61 2 d.e.to.o d.e.to.l.length d.e.to.c (flat yL (pK pl d.e.to.l d.e.to.l.length))::all (((tY pl ds ord i).map toI).eraseIdx j)::own 53 6 oB i cB (flat yE (gsF pl ds ord i))::cb b8 44 [.int .i64 f.caps,.slice oB i cB]::own 3 1 oL ord.length cL (flat Fw.encI ord)::cb bM 174 (yB oD ds.length cD bJ)::own 179 7 oD ds.length cD (flat zS ds)::frz w0 K3::cb b2 44 [.int .i64 0,.slice none 0 0]::H) w∧Sl 83 [(11,.pointer (some (bat b11 0))),(40,.int .i64 i),(39,.int .i64 ord.length),(38,.slice oL ord.length cL),(8,.pointer (some (bat b8 0))),(5,.map (some bP)),(3,.pointer (some (bat bM 0))),(2,.pointer (some (bat b2 0)))] a) 0 ⟨Nat.zero_le _,hH.perm PMT,(hA.sub SBT)⟩ ?_ ?_
    · clear hA hH
      rintro e a w ⟨he,hH,hA⟩
      by_cases hlt2:e<d.e.to.l.length
      rotate_left
      · obtain rfl:e=d.e.to.l.length:=by omega
        repeat' (first|(refine QT ?_;clear hA a;intro a hA)|refine CT ?_|(refine DT ?_ ?_<;>intro hc<;>try (exfalso;omega))|fail)
        exact ⟨hH,(hA.sub SBT)⟩
      obtain ⟨x,hx⟩:∃x,d.e.to.l[e]?=some x:=⟨_,List.getElem?_eq_getElem hlt2⟩
      have hmx:=mixF_at (m:=pl) hx
      have hvx:(flat yL (pK pl d.e.to.l e))[e*2+0]?=some (.int .i64 x.b):=yZ (off:=0) wW hmx rfl
      repeat' (first|(refine QT ?_;clear hA a;intro a hA)|refine CT ?_|(refine DT ?_ ?_<;>intro hc<;>try (exfalso;omega))|fail)
      have hST:HS w0 noM [_,_,_] w:=HS.left (H1:=[_,_,_]) hH
      (refine zK (H:=[_,_,_]) [(0,1),(1,1),(2,1),(3,1),(4,1),(5,1),(6,1),(7,1),(8,1),(9,1),(10,1),(11,1),(12,1),(13,1),(14,1)] [15] mixed (by decide +kernel) (hST) ?_;replace hH:=hH.drew)
      clear hST
      have hput:put (flat yL (pK pl d.e.to.l e)) (e*2+0) [.int .i64 ((lkI pl x.b).getD 0)]=flat yL (pK pl d.e.to.l (e+1)):=by
        rw [←mixF_set hx]
        exact sD wW (off:=0) hmx ren_put (by show 0+1≤2;decide)
      have hel:(flat yL (pK pl d.e.to.l e)).length=d.e.to.l.length*2:=by rw [zF wW,mixF_len he]
      repeat' (first|(refine XT ?_;apply XE;(first|(apply zE;rfl;rfl;omega;exact hspE)|(apply zC;rfl;exact uD (T:=61) MEMT hvx));clear hA a;intro a hA)|(refine QT ?_;clear hA a;intro a hA)|(apply zX hA rfl rfl rfl;apply uS (xs':=flat yL (pK pl d.e.to.l (e+1)));rfl;rfl;rfl;exact hH;(repeat constructor);omega;exact hput;clear hH;rintro _ w hH)|refine CT ?_|fail)
      exact ⟨e+1,⟨hlt2,hH,(hA.sub SBT)⟩,by omega⟩
    clear hA hH
    rintro a w ⟨hH,hA⟩
    rw [mixF_all] at hH
    have hE2:toI (pA pl d)=own 61 2 d.e.to.o d.e.to.l.length d.e.to.c (flat yL (d.e.to.l.map (pF pl))):=renA_to
    rw [←hE2] at hH
    replace hH:=(hH.perm (H':=toI (pA pl d)::all (((tY pl ds ord i).map toI).eraseIdx j)::cb b11 53 (yE d)::own 53 6 oB i cB (flat yE (gsF pl ds ord i))::cb b8 44 [.int .i64 f.caps,.slice oB i cB]::mpI bP pl::own 3 1 oL ord.length cL (flat Fw.encI ord)::cb bM 174 (yB oD ds.length cD bJ)::own 179 7 oD ds.length cD (flat zS ds)::frz w0 K3::cb b2 44 [.int .i64 0,.slice none 0 0]::H) PMT).shutAt (by rw [List.length_map,lP];exact hj)
    rw [←List.map_set,←htn] at hH
    repeat' (first|(refine XT ?_;apply XE;(first|(apply zG (vs:=yE d);rfl;rfl;exact zR MEMT));clear hA a;intro a hA)|(refine QT ?_;clear hA a;intro a hA)|(refine AT ?_;clear hA;rintro _ w ⟨oN,cN,rfl,hH2⟩ a hA;clear hH;have hH:=(hH2 _ (by (repeat constructor))).tail;clear hH2)|(apply zH hA rfl rfl (by decide);apply zZ (xs:=yE d) (vs:=[.agg (yE d).toArray]);rfl;rfl;exact (Cats.cn (cs:=yE d) Cats.nil);rfl;rfl;rfl;exact hH;clear hA hH;rintro _ w ⟨oN,rfl,hH⟩ a hA)|refine CT ?_|fail)
    have hgl:(gsF pl ds ord (i+1))=gsF pl ds ord i++[pA pl d]:=hgn
    have hfle:flat yE (gsF pl ds ord i)++yE d=flat yE (gsF pl ds ord (i+1)):=by rw [hgl,xZ,renA_enc]
    rw [hfle] at hH
    repeat' (first|(refine QT ?_;clear hA a;intro a hA)|(apply zO hA rfl rfl;apply zB (cs':=[.int .i64 f.caps,.slice oN (i+1) cN]);rfl;rfl;rfl;exact hH;(repeat constructor);clear hH;rintro _ w hH)|refine CT ?_|fail)
    exact ⟨(i+1,oN,cN),⟨hlt,(hH.rm 1).perm PMT,(hA.sub SBT)⟩,by dsimp only;omega⟩
  clear hA hH
  rintro a w ⟨oB,cB,hH,hA⟩
  repeat' (first|(refine XT ?_;apply XE;(first|(apply zG (vs:=[.int .i64 f.caps,.slice oB ord.length cB]);rfl;rfl;exact zR MEMT));clear hA a;intro a hA)|(refine QT ?_;clear hA a;intro a hA)|(refine SAT ([.int .i64 f.caps,.slice oB ord.length cB]) hA hH ?_;clear hH;intro w hH)|refine CT ?_|fail)
  have hlB:=hH.own_le (T:=53) (o:=oB) MEMT
  have hgl:(gsF pl ds ord ord.length).length=ord.length:=by unfold gsF;rw [List.length_map,List.take_length]
  obtain ⟨G,hG⟩:∃G:Gr,G=⟨f.caps,⟨oB,cB,gsF pl ds ord ord.length⟩⟩:=⟨_,rfl⟩
  have hGe:[Value.int .i64 f.caps,.slice oB ord.length cB]=vL G:=by
    rw [hG]
    show _=[Value.int .i64 f.caps,.slice oB (gsF pl ds ord ord.length).length cB]
    rw [hgl]
  refine rt1d (vs:=[.int .i64 f.caps,.slice oB ord.length cB]) (.inl rfl) rfl hA rfl rfl hH (zR (by exact MEMT)) ⟨G,fun w=>(Rd w oB (flat yE (gsF pl ds ord ord.length)))∧(∀d∈tY pl ds ord ord.length,RdV w yL d.e.to)∧K3 w,by rw [hGe],?_,?_,fun w h=>?_⟩
  · rw [hG,hpl]
    exact gr_eq hds hord2 horg
  · have h1:=HS.frz_rows (hH.perm (H':=all ((tY pl ds ord ord.length).map toI)::frz w0 K3::own 53 6 oB ord.length cB (flat yE (gsF pl ds ord ord.length))::cb b8 44 [.int .i64 f.caps,.slice oB ord.length cB]::mpI bP pl::own 3 1 oL ord.length cL (flat Fw.encI ord)::cb bM 174 (yB oD ds.length cD bJ)::own 179 7 oD ds.length cD (flat zS ds)::cb b2 44 [.int .i64 f.caps,.slice oB ord.length cB]::H) PMT) (fun w F h=>hp_to h)
    have h2:=(h1.perm (.swap _ _ _)).frz_own
    exact (((((h2.rm 1).rm 1).rm 1).rm 1).rm 1).rm 1
  · obtain ⟨h1,h2,h3⟩:=h
    rw [hK3] at h3
    rw [hG]
    refine ⟨⟨h1,by show (gsF pl ds ord ord.length).length≤cB;rw [hgl];exact hlB.1,hlB.2⟩,fun b hb=>?_⟩
    obtain ⟨n,hn,rfl⟩:=List.mem_map.1 (show b∈(ord.take ord.length).map fun n=>pA pl (ds.getD n.toNat wR) from hb)
    rw [List.take_length] at hn
    obtain ⟨i,hi⟩:=List.mem_iff_getElem?.1 hn
    have hnr:=horg n hn
    obtain ⟨d,hd⟩:∃d,ds[n.toNat]?=some d:=⟨_,List.getElem?_eq_getElem (by have:=hnr.1;have:=hnr.2;omega)⟩
    rw [xQ hd]
    have hdm:=List.mem_of_getElem? hd
    refine renA_rd ((hK2 w h3.2).2 d hdm) (h3.1 d hdm) (h2 _ ?_)
    have:=jY (m:=pl) ho.nd horg ord.length (Nat.le_refl _) i n hi
    rw [if_pos (List.getElem?_eq_some_iff.1 hi).1,xQ hd] at this
    exact List.mem_of_getElem? this
end
end Go.Proofs.YtenlcdokaadobaaGreatDoor
