/-
  ssa.Of: clones of rows of numbers. Conditions: none.
  ssa.Of made plain: a body's blocks, and why they may be. Conditions: none.
  The blocks that ssa.Of makes of a body that may be, may be (plain). Conditions: none.
  The blocks that ssa.Of makes of a body that may be, may be: every kind of body (plain). Conditions: none.
  The order in which ssa.Of lays blocks (plain). Conditions: none.
  The graph that ssa.Of makes of a function may be (plain). Conditions: none.
  The graphs that ssa.Of makes of a program that may be, may be (plain). Conditions: none.
  What graphs come to (plain): values, a step that calls nothing. Conditions: none.
  What graphs come to (plain): the machine, step by step. Conditions: none.
  Values whose type is told with them: made, asked for their type, held against nil; texts one behind the other. Conditions: none.
  What is made once and then only read (frozen); values, what is written, as they lie in memory. Conditions: none.
-/
import Derived.Test.YtenlcdokaadobaaGreatDoorRowMeansMg4
import Derived.Test.YtenlcdokaadobaaGreatDoorRowMeansMg2
set_option maxHeartbeats 64000000
set_option maxRecDepth 10000
namespace Go.Fw
open Go Go.RowKit
set_option linter.unusedVariables false
section
variable {P:Program} {N:Nat} {l:List (Nat × Value)} {d:Option Tmp} {T:TypeId} {pos:String} {af:Array Edge} {g:Option (Nat × Bool)}
theorem op_copy0 {t e sz by_ m nd cd cs:Nat} {z:Value} {zs:List Value} {od ox:Option Addr} {x y:Operand} {ty:TypeId} {w0 w:World} {M:Nat→Prop} {H:List It} [ht:TSl P t e] [hi:TIf P e z zs sz by_]
    (hx:ev l x=some (.slice od nd cd)) (hy:ev l y=some (.slice ox m cs)) (hH:HS w0 M H w) (hn0:Nat.min m nd=0) :
    Op1 P N l ⟨d,.call ⟨.builtin .copy,#[x,y],#[t,ty]⟩,T,pos,af,g⟩ w (fun v w'=>v= .int .i64 0∧HS w0 M H w'):=by
  intro a hA K Q hK
  obtain ⟨ti,h3,h4,h5,h6⟩:=hi.eq
  unfold Oper.wp
  have hrun:(Builtin.copy_ #[t,ty] T #[.slice od nd cd,.slice ox m cs]).run P w= .ok (.int .i64 0) w:=by
    have hl:∀(x:Addr),(loadCells x 0).run P w= .ok #[] w:=fun x=>by simpa using run_loadCells_list (P:=P) w x [] (by simp)
    cases od<;>cases ox<;>simp [Builtin.copy_,run_underlying ht.eq,Builtin.lenOf,Builtin.firstCells,sizeOf,typeInfo,h3,h5,hn0,storeCells,hl,goInt]
  simp only [execOp,resolve,invoke,builtin,Sem.run_bind,Sem.run_pure,Result.andThen_ok,List.map_toArray,List.map_cons,List.map_nil,hA.ev hx,hA.ev hy,hrun,Oper.upon]
  exact hK _ _ ⟨rfl,hH⟩
end
end Go.Fw
namespace Go.Proofs.YtenlcdokaadobaaGreatDoor
open Go Go.Fw
set_option linter.unusedVariables false
theorem bG {w:World} {o:Option Addr} {xs:List Value} (h:Rd w o xs) (ho:o=none):xs=[]:=by
  rcases Nat.eq_zero_or_pos xs.length with h0|h0
  · exact List.length_eq_zero_iff.1 h0
  · obtain ⟨b,k,e⟩:=h.1 h0
    rw [ho] at e
    cases e
theorem rd_cellsN {w:World} {b k:Nat} {xs:List Value} (h:Rd w (some ⟨b,k,none⟩) xs):∀j u,xs[j]?=some u→w.cell? ((⟨b,k,none⟩:Addr).add j)=some u:=fun j u hj=>by
  have h1:=h.2 j u hj
  rwa [←qV] at h1
theorem rd_someN {w:World} {o:Option Addr} {xs:List Value} (h:Rd w o xs) (hl:0<xs.length):∃b k,o=some ⟨b,k,none⟩:=h.1 hl
section
attribute [local irreducible] Code.wp wpList Calls Ex Op1 sat bat blk cb own Go.Fw.mp Go.Fw.mpO Go.Fw.mpI Go.Fw.mpE Go.Fw.itr HS Rd Ret wkD Hp Cl Cls Exit.then Exit.inBlock Exit.noGoto bodyPost Go.Fw.flat wk2 Go.Fw.all Go.Fw.owns wpOp
attribute [local irreducible] sk mpK sko mvO xI

theorem cloneIN_spec (w0:World) (v:Vec Int) (hR:RdV w0 Fw.encI v) (hl:v.l.length≤17592186044416) :
    Ret Tryz.prog 110 #[.slice v.o v.l.length v.c] w0 (fun r w=>∃o' c',r= .slice o' v.l.length c'∧HS w0 noM [own 3 1 o' v.l.length c' (flat Fw.encI v.l)] w):=by
  have hH:HS w0 noM [] w0:=HS.init w0 noM
  have hfl:(flat Fw.encI v.l).length=v.l.length*1:=zF Fw.encI_len _
  have hon:(flat Fw.encI v.l).all (·.oneCell')=true:=vQ (fun _=>rfl) _
  (refine ENT (N:=8) Tryz.func110 Tryz.ntmps110 ?_;intro a hA)
  repeat' (first|(refine XT ?_;apply XE;(first|(apply sW;rfl;rfl));clear hA a;intro a hA)|(refine QT ?_;clear hA a;intro a hA)|(refine LT ?_;clear hA hH;rintro _ w ⟨oN,rfl,hH⟩ a hA)|refine CT ?_|(refine DT ?_ ?_<;>intro hc<;>try (exfalso;omega))|fail)
  · have hnil:=bG hR.1 (by first|assumption|(simp only [*])|exact Option.isNone_iff_eq_none.1 (by assumption))
    have hl0:v.l.length=0:=by rw [←Nat.mul_one v.l.length,←hfl,hnil];rfl
    obtain ⟨o,c,l⟩:=v
    obtain rfl:l=[]:=List.length_eq_zero_iff.1 hl0
    exact rt1 (.inl rfl) rfl hA rfl ⟨none,0,rfl,by show HS w0 noM [own _ 1 none 0 0 (flat Fw.encI [])] _;rw [kE];exact hH.nil_own 3 1⟩
  · have hRw:=hH.rd hR.1 id
    (apply zH hA rfl rfl (by decide);apply yX;rfl;rfl;exact hH;exact MEMT;exact hRw;exact hfl;rfl;decide;exact hon;(unfold maxLen;omega);omega;clear hA;rintro _ w ⟨oN,cN,rfl,hH2⟩ a hA;clear hH;have hH:=hH2 _ (by (repeat constructor));clear hH2)
    repeat' (first|(refine QT ?_;clear hA a;intro a hA)|refine CT ?_|fail)
    rw [Nat.zero_add] at hA hH
    exact rt1 (.inl rfl) rfl hA rfl ⟨_,_,rfl,hH⟩
theorem sS (w0:World) (v:Vec Int) (hR:RdV w0 Fw.encI v) (hl:v.l.length≤17592186044416) :
    Ret Tryz.prog 93 #[.slice v.o v.l.length v.c] w0 (fun r w=>∃o' c',r= .slice o' v.l.length c'∧HS w0 noM [own 2 1 o' v.l.length c' (flat Fw.encI v.l)] w):=by
  have hH:HS w0 noM [] w0:=HS.init w0 noM
  have hfl:(flat Fw.encI v.l).length=v.l.length*1:=zF Fw.encI_len _
  have hon:(flat Fw.encI v.l).all (·.oneCell')=true:=vQ (fun _=>rfl) _
  (refine ENT (N:=8) Tryz.func93 Tryz.ntmps93 ?_;intro a hA)
  repeat' (first|(refine XT ?_;apply XE;(first|(apply sW;rfl;rfl));clear hA a;intro a hA)|(refine QT ?_;clear hA a;intro a hA)|(refine LT ?_;clear hA hH;rintro _ w ⟨oN,rfl,hH⟩ a hA)|refine CT ?_|(refine DT ?_ ?_<;>intro hc<;>try (exfalso;omega))|fail)
  · have hnil:=bG hR.1 (by first|assumption|(simp only [*])|exact Option.isNone_iff_eq_none.1 (by assumption))
    have hl0:v.l.length=0:=by rw [←Nat.mul_one v.l.length,←hfl,hnil];rfl
    obtain ⟨o,c,l⟩:=v
    obtain rfl:l=[]:=List.length_eq_zero_iff.1 hl0
    exact rt1 (.inl rfl) rfl hA rfl ⟨none,0,rfl,by show HS w0 noM [own _ 1 none 0 0 (flat Fw.encI [])] _;rw [kE];exact hH.nil_own 2 1⟩
  · have hRw:=hH.rd hR.1 id
    (apply zH hA rfl rfl (by decide);apply yX;rfl;rfl;exact hH;exact MEMT;exact hRw;exact hfl;rfl;decide;exact hon;(unfold maxLen;omega);omega;clear hA;rintro _ w ⟨oN,cN,rfl,hH2⟩ a hA;clear hH;have hH:=hH2 _ (by (repeat constructor));clear hH2)
    repeat' (first|(refine QT ?_;clear hA a;intro a hA)|refine CT ?_|fail)
    rw [Nat.zero_add] at hA hH
    exact rt1 (.inl rfl) rfl hA rfl ⟨_,_,rfl,hH⟩
theorem put_all {cells news:List Value} (h:cells.length=news.length):put cells 0 news=news:=by
  unfold put
  rw [List.take_zero,Nat.zero_add,←h,List.drop_length,List.nil_append,List.append_nil]
theorem uF (w0:World) (v:Vec Atm) (hR:RdV w0 zN v) (hl:v.l.length≤400000) :
    Ret Tryz.prog 109 #[.slice v.o v.l.length v.c] w0 (fun r w=>∃o' c',r= .slice o' v.l.length c'∧HS w0 noM [own 65 2 o' v.l.length c' (flat zN v.l)] w):=by
  have hH:HS w0 noM [] w0:=HS.init w0 noM
  have hfl:(flat zN v.l).length=v.l.length*2:=zF yT _
  (refine ENT (N:=11) Tryz.func109 Tryz.ntmps109 ?_;intro a hA)
  repeat' (first|(refine QT ?_;clear hA a;intro a hA)|refine CT ?_|fail)
  (apply zH hA rfl rfl (by decide);apply op_make (zN) ((⟨0,0⟩:Atm)) (n:=v.l.length);rfl;rfl;omega;omega;(unfold maxLen;omega);omega;exact yT;rfl;decide;exact hH;clear hA hH;rintro _ w ⟨oN,rfl,hH⟩ a hA)
  repeat' (first|(refine QT ?_;clear hA a;intro a hA)|refine CT ?_|fail)
  rcases Nat.eq_zero_or_pos v.l.length with h0|h0
  · (refine zH hA rfl rfl (by decide) (op_copy0 rfl rfl hH (by rw [h0];rfl)) ?_;clear hA hH;rintro _ w ⟨rfl,hH⟩ a hA)
    repeat' (first|(refine QT ?_;clear hA a;intro a hA)|refine CT ?_|fail)
    have hl0:v.l=[]:=List.length_eq_zero_iff.1 h0
    have e:flat zN (List.replicate v.l.length (⟨0,0⟩:Atm))=flat zN v.l:=by rw [hl0];rfl
    exact rt1 (.inl rfl) rfl hA rfl ⟨_,_,rfl,by rw [←e];exact hH⟩
  obtain ⟨o,c,l⟩:=v
  dsimp only at hR hl hfl h0 hH hA ⊢
  have hR1:Rd w0 o (flat zN l):=hR.1
  obtain ⟨bO,kO,rfl⟩:=rd_someN hR1 (by omega)
  have hcl:(flat zN (List.replicate l.length (⟨0,0⟩:Atm))).length=l.length*2:=by rw [zF yT,List.length_replicate]
  have hon:(flat zN l).all (·.oneCell')=true:=vQ (fun _=>rfl) _
  obtain ⟨b,spare,rfl,q1,q2,q3,q4,hH2⟩:=hH.own_block h0
  have hsp:spare=[]:=List.length_eq_zero_iff.1 (by rw [q3] at q4;omega)
  subst hsp
  clear hH
  have hH:=hH2
  clear hH2
  rw [List.append_nil] at hH
  have hRw:=rd_cellsN (hH.rd hR1 id)
  (apply zH hA rfl rfl (by decide);apply vK (cells:=flat zN (List.replicate l.length (⟨0,0⟩:Atm))) (news:=flat zN l) (k:=0);rfl;rfl;exact hH;exact hRw;(rw [hfl];congr 1;exact (Nat.min_self _).symm);exact hon;omega;(repeat constructor);clear hA hH;rintro _ w ⟨rfl,hH⟩ a hA)
  rw [put_all (by omega)] at hH
  repeat' (first|(refine QT ?_;clear hA a;intro a hA)|refine CT ?_|fail)
  exact rt1 (.inl rfl) rfl hA rfl ⟨_,_,rfl,HS.block_own (sz:=2) (xs:=flat zN l) (spare:=[]) (by rw [List.append_nil];exact hH) hfl (Nat.le_refl _) (by unfold maxLen;omega) (by simpa using hfl)⟩
end
def lv {α:Type} (l:List α):Vec α:=⟨none,0,l⟩
def stS (r:Stp):Stp:=⟨r.k,r.n,lv r.ns.l,lv r.a.l⟩
def stI (i:Ins):Ins:=⟨i.x,stS i.r⟩
def stE (e:Edg):Edg:=⟨e.b,lv e.a.l⟩
def stN (e:En):En:=⟨e.k,lv e.a.l,lv e.ns.l,lv (e.to.l.map stE)⟩
def stB (b:Blc):Blc:=⟨lv b.ps.l,lv (b.is.l.map stI),stN b.e⟩
abbrev FS:=List Blc × List (Int × Int)
def tJ (x:Int) (r:Stp) (b:Blc):Blc:=⟨b.ps,lv (b.is.l++[⟨x,stS r⟩]),b.e⟩
def wC (e:En) (b:Blc):Blc:=⟨b.ps,b.is,e⟩
def e0:En:=⟨0,lv [],lv [],lv []⟩
def xS (ps:List Int):Blc:=⟨lv ps,lv [],e0⟩
mutual
def xH:AN→Nat→FS→FS
  | .mk k x xs n ns r a ko kc kids,p,s=>
    if k=1 then tK kids p (s.1.modify p (tJ x r),s.2)
    else if k=7 then lB kids s.1.length p (s.1++[xS xs.l],wX s.2 n s.1.length)
    else if k=8 then (s.1.modify p (wC ⟨4,lv [],lv [],lv [⟨(lkI s.2 n).getD 0,lv a.l⟩]⟩),s.2)
    else if k=5∨k=6 then ((xW kids s []).1.1.modify p (wC ⟨k,lv a.l,lv ns.l,lv (xW kids s []).2⟩),(xW kids s []).1.2)
    else (s.1.modify p (wC ⟨k - 1,lv a.l,lv [],lv []⟩),s.2)
def tK:List AN→Nat→FS→FS
  | [],_,s=>s
  |b::_,p,s=>xH b p s
def lB:List AN→Nat→Nat→FS→FS
  | [],_,_,s=>s
  |b::l,j,p,s=>tK l p (xH b j s)
def xW:List AN→FS→List Edg→FS × List Edg
  | [],s,es=>(s,es)
  |b::l,s,es=>xW l (xH b s.1.length (s.1++[xS []],s.2)) (es++[⟨s.1.length,lv []⟩])
end
mutual
def szN:AN→Nat
  | .mk _ _ _ _ _ r a _ _ kids=>1+a.l.length+r.a.l.length+xR kids
def xR:List AN→Nat
  | []=>0
  |b::l=>szN b+xR l
end
theorem vS:∀b:AN,1≤szN b
  | .mk _ _ _ _ _ r a _ _ kids=>by rw [szN];omega
mutual
theorem oK {P:AN→Prop} (h:∀k x xs n ns r a ko kc kids,(∀b∈kids,P b)→P (.mk k x xs n ns r a ko kc kids)):∀b,P b
  | .mk k x xs n ns r a ko kc kids=>h k x xs n ns r a ko kc kids (an_inds h kids)
theorem an_inds {P:AN→Prop} (h:∀k x xs n ns r a ko kc kids,(∀b∈kids,P b)→P (.mk k x xs n ns r a ko kc kids)):∀l:List AN,∀b∈l,P b
  | [],b,hb=>absurd hb (List.not_mem_nil)
  |c::l,b,hb=>(List.mem_cons.1 hb).elim (fun e=>e▸oK h c) (an_inds h l b)
end
theorem uX {m:List (Int × Int)} {k v k':Int}:lkI (wX m k v) k'=if k'=k then some v else lkI m k':=by
  have hmap:∀l:List (Int × Int),(l.map (fun e=>if e.1 == k then (k,v) else e)).find? (fun e=>e.1 == k')=(l.find? (fun e=>e.1 == k')).map (fun e=>if e.1 == k then (k,v) else e):=by
    intro l
    induction l with
    |nil=>rfl
    | cons e l ih=>
      rw [List.map_cons,List.find?_cons,List.find?_cons]
      have h1:((if e.1 == k then (k,v) else e).1 == k')=(e.1 == k'):=by
        by_cases he:e.1=k
        · simp [he]
        · simp [he]
      rw [h1]
      by_cases h2:(e.1 == k')=true
      · simp [h2]
      · simp only [Bool.not_eq_true] at h2
        simp only [h2]
        exact ih
  unfold wX
  by_cases h:(lkI m k).isSome
  · rw [if_pos h]
    unfold lkI at h ⊢
    rw [hmap]
    by_cases hk:k'=k
    · subst hk
      rw [if_pos rfl]
      cases hf:m.find? (fun e=>e.1 == k') with
      |none=>rw [hf] at h;cases h
      | some e=>
        have h3:=List.find?_some hf
        have h4:e.1=k':=by simpa using h3
        simp [h4]
    · rw [if_neg hk]
      cases hf:m.find? (fun e=>e.1 == k') with
      |none=>rfl
      | some e=>
        have h3:=List.find?_some hf
        have h4:e.1=k':=by simpa using h3
        have h5:¬(e.1=k):=fun h=>hk (h4▸h)
        simp [h5]
  · rw [if_neg h]
    unfold lkI at h ⊢
    rw [List.find?_append]
    by_cases hk:k'=k
    · subst hk
      rw [if_pos rfl]
      cases hf:m.find? (fun e=>e.1 == k') with
      |none=>simp
      |some e=>rw [hf] at h;exact absurd rfl h
    · rw [if_neg hk]
      cases hf:m.find? (fun e=>e.1 == k') with
      |none=>simp [Ne.symm hk]
      |some e=>rfl
theorem lY {α:Type} {l:List α} {p:Nat} {x:α} (h:l[p]?=some x) (f:α→α):l.modify p f=l.take p++f x::l.drop (p+1)∧l=l.take p++x::l.drop (p+1):=by
  obtain ⟨hi,rfl⟩:=List.getElem?_eq_some_iff.1 h
  refine ⟨List.modify_eq_take_cons_drop hi,?_⟩
  rw [←List.drop_eq_getElem_cons hi,List.take_append_drop]
theorem tS {α:Type} {l:List α} {p i:Nat} {f:α→α} (h:i≠p):(l.modify p f)[i]?=l[i]?:=by
  rw [List.getElem?_modify]
  simp [Ne.symm h]
theorem xU {α:Type} {l:List α} {p:Nat} {f:α→α} {x:α} (h:l[p]?=some x):(l.modify p f)[p]?=some (f x):=by
  rw [List.getElem?_modify]
  simp [h]
def wB (bl:Blc):Nat:=2+(bl.is.l.map fun i=>1+i.r.a.l.length).sum+bl.e.a.l.length+(bl.e.to.l.map fun t=>1+t.a.l.length).sum
def wS (D:List Blc):Nat:=(D.map wB).sum
theorem eW {D:List Blc} {p:Nat} {bl:Blc} (h:D[p]?=some bl) (f:Blc→Blc):wS (D.modify p f)+wB bl=wS D+wB (f bl):=by
  obtain ⟨h1,h2⟩:=lY h f
  unfold wS
  rw [h1]
  conv=>rhs;rw [h2]
  simp only [List.map_append,List.map_cons,List.sum_append,List.sum_cons]
  omega
theorem wS_snoc (D:List Blc) (b:Blc):wS (D++[b])=wS D+wB b:=by unfold wS;simp
theorem bvs_modify {D:List Blc} {p:Nat} {bl:Blc} (h:D[p]?=some bl) {f:Blc→Blc} (he:bvs (f bl)=bvs bl):(D.modify p f).flatMap bvs=D.flatMap bvs:=by
  obtain ⟨h1,h2⟩:=lY h f
  rw [h1]
  conv=>rhs;rw [h2]
  rw [List.flatMap_append,List.flatMap_append,List.flatMap_cons,List.flatMap_cons,he]
theorem bvs_add {D:List Blc} {p:Nat} {bl:Blc} (h:D[p]?=some bl) {x:Int} {r:Stp}:((D.modify p (tJ x r)).flatMap bvs).Perm (D.flatMap bvs++[x]):=by
  obtain ⟨h1,h2⟩:=lY h (tJ x r)
  rw [h1]
  conv=>rhs;rw [h2]
  have:bvs (tJ x r bl)=bvs bl++[x]:=by unfold bvs tJ lv;simp
  rw [List.flatMap_append,List.flatMap_append,List.flatMap_cons,List.flatMap_cons,this,List.append_assoc,List.append_assoc,List.append_assoc]
  exact .append_left _ (.append_left _ List.perm_append_comm)
structure Ann where
  rk:Nat
  γ:List Int
  ps:List Int
def Hd (D:List Blc) (A:List Ann):Prop:=D.map (·.ps.l)=A.map Ann.ps
theorem Hd.len {D:List Blc} {A:List Ann} (h:Hd D A):D.length=A.length:=by
  have:=congrArg List.length h
  simpa using this
theorem Hd.ps {D:List Blc} {A:List Ann} (h:Hd D A) {i:Nat} {bl:Blc} {an:Ann} (h1:D[i]?=some bl) (h2:A[i]?=some an):bl.ps.l=an.ps:=by
  have h3:(D.map (·.ps.l))[i]?=(A.map Ann.ps)[i]?:=by rw [h]
  rw [List.getElem?_map,List.getElem?_map,h1,h2] at h3
  exact Option.some.inj h3
theorem Hd.modify {D:List Blc} {A:List Ann} (h:Hd D A) {p:Nat} {f:Blc→Blc} (hf:∀b,(f b).ps=b.ps):Hd (D.modify p f) A:=by
  unfold Hd at *
  rw [←h]
  apply List.ext_getElem?
  intro i
  rw [List.getElem?_map,List.getElem?_map,List.getElem?_modify]
  cases D[i]? with
  |none=>rfl
  | some b=>
    show some _=some _
    split
    · show some (f b).ps.l=_
      rw [hf]
    · rfl
theorem Hd.snoc {D:List Blc} {A:List Ann} (h:Hd D A) (rk:Nat) (γ ps:List Int):Hd (D++[xS ps]) (A++[⟨rk,γ,ps⟩]):=by
  unfold Hd at *
  rw [List.map_append,List.map_append,h]
  rfl
def InsOk (g:Grs) (la:List Int) (mine:Int) (γ:List Int) (bl:Blc):Prop:=∀(i:Nat) (x:Ins),bl.is.l[i]?=some x→FormP g la mine x.r∧∀a∈x.r.a.l,atS g (vH (·∈γ) bl i) a
structure BOk (g:Grs) (la:List Int) (mine:Int) (A:List Ann) (an:Ann) (bl:Blc):Prop where
  ins:InsOk g la mine an.γ bl
  end_:EndP bl.e
  ends:∀a∈bl.e.a.l,atS g (vH (·∈an.γ) bl bl.is.l.length) a
  edges:∀t∈bl.e.to.l,∃(j:Nat) (am:Ann),t.b=(j:Int)∧A[j]?=some am∧an.rk<am.rk∧t.a.l.length=am.ps.length∧(∀a∈t.a.l,atS g (vH (·∈an.γ) bl bl.is.l.length) a)∧∀y∈am.γ,2≤y→y∈an.γ∨y∈bvs bl
theorem BOk.more {g:Grs} {la:List Int} {mine:Int} {A:List Ann} {an:Ann} {bl:Blc} (h:BOk g la mine A an bl) (B:List Ann):BOk g la mine (A++B) an bl:=
  ⟨h.ins,h.end_,h.ends,fun t ht=>by
    obtain ⟨j,am,h1,h2,h3⟩:=h.edges t ht
    exact ⟨j,am,h1,by rw [List.getElem?_append_left (List.getElem?_eq_some_iff.1 h2).1];exact h2,h3⟩⟩
def OpOk (s:CS) (js:List (Int × Int)) (A:List Ann) (hi:Nat):Prop:=∀n∈s.op,∃(j:Nat) (am:Ann),lkI js n=some (j:Int)∧A[j]?=some am∧hi<am.rk∧lkI s.js n=some (am.ps.length:Int)∧∀y∈am.γ,2≤y→y∈s.now
structure FIn (g:Grs) (la:List Int) (mine:Int) (s:CS) (p lo:Nat) (D:List Blc) (A:List Ann) (B:Blc) (m:Ann):Prop where
  bl:D[p]?=some B
  an:A[p]?=some m
  ins:InsOk g la mine m.γ B
  e:B.e=e0
  cov:∀y∈s.now,2≤y→y∈m.γ∨y∈bvs B
  rk:m.rk≤lo
structure FOut (g:Grs) (la:List Int) (mine:Int) (s s':CS) (lo hi:Nat) (S S':FS) (A new:List Ann):Prop where
  hd:Hd S'.1 (A++new)
  rks:∀an∈new,lo<an.rk∧an.rk≤hi
  news:∀i,S.1.length≤i→i<S'.1.length→∃bl an,S'.1[i]?=some bl∧(A++new)[i]?=some an∧BOk g la mine (A++new) an bl
  now:∀y,y∈s'.now↔y∈s.now
  op:∀n,n∈s'.op↔n∈s.op
  js:∀n,(lkI s.js n).isSome→lkI S'.2 n=lkI S.2 n∧lkI s'.js n=lkI s.js n
  ever:(S.1.flatMap bvs).Perm s.ever→(S'.1.flatMap bvs).Perm s'.ever
  ok:CsOk s→CsOk s'
  ev:EvOk s.ever→EvOk s'.ever
def FillOk (g:Grs) (la:List Int) (mine:Int) (b:AN):Prop:=∀(d:Int) (s s':CS) (p lo:Nat) (S:FS) (A:List Ann) (bl:Blc) (an:Ann),xL g la mine b d s=some s'→szN b≤1000000→CsOk s→Hd S.1 A→OpOk s S.2 A (lo+szN b - 1)→FIn g la mine s p lo S.1 A bl an→
  ∃new,FOut g la mine s s' lo (lo+szN b - 1) S (xH b p S) A new∧(∀i,i<S.1.length→i≠p→(xH b p S).1[i]?=S.1[i]?)∧(∃bl',(xH b p S).1[p]?=some bl'∧BOk g la mine (A++new) an bl')∧wS (xH b p S).1+3≤wS S.1+5*szN b
theorem atS_of {g:Grs} {ks:List Int} {S:Int→Prop} {a:Atm} (h:atA g ks a) (hS:∀y∈ks,2≤y→S y):atS g S a:=by
  rcases h with ⟨h1,h2,h3,h4⟩| ⟨h1,h2,h3⟩|h
  · refine .inl ⟨h1,h2,h3,?_⟩
    by_cases h5:a.n<2
    · exact .inl h5
    · exact .inr (hS _ h4 (by omega))
  · exact .inr (.inl ⟨h1,h2,by omega⟩)
  · exact .inr (.inr h)
theorem form_st {g:Grs} {la:List Int} {mine:Int} {r:Stp} (h:FormP g la mine r):FormP g la mine (stS r):=⟨h.lo,h.hi,h.num,h.want,h.ns,h.lab⟩
theorem now_all {γ:List Int} {bl:Blc} {y:Int} (h:y∈γ∨y∈bvs bl):vH (·∈γ) bl bl.is.l.length y:=by
  rcases h with h|h
  · exact .inl h
  · unfold bvs at h
    rcases List.mem_append.1 h with h|h
    · exact .inr (.inl h)
    · refine .inr (.inr ?_)
      rw [List.take_length];exact h
section
variable {g:Grs} {la:List Int} {mine:Int}
theorem mem_dels {l ks:List Int} {y:Int}:y∈l.foldl rS ks↔y∈ks∧y ∉ l:=by
  induction l generalizing ks with
  |nil=>simp
  |cons x l ih=>rw [List.foldl_cons,ih,mV,List.mem_cons,not_or,and_assoc]
theorem bindL_eq:∀{l es ks:List Int} {q:List Int × List Int},rD l es ks=some q→q=(es++l,ks++l)∧(∀y∈l,2≤y∧y ∉ es)∧(EvOk es→EvOk (es++l))
  | [],es,ks,q,h=>by
    rw [rD] at h
    cases h
    rw [List.append_nil,List.append_nil]
    exact ⟨rfl,fun y hy=>absurd hy (List.not_mem_nil),id⟩
  | x ::l,es,ks,q,h=>by
    rw [rD] at h
    split at h
    · next hb=>
      obtain ⟨h1,h2,h3⟩:=bindL_eq h
      rw [List.append_assoc,List.append_assoc] at h1
      refine ⟨h1,fun y hy=>?_,fun he=>?_⟩
      · rcases List.mem_cons.1 hy with rfl|hy
        · exact ⟨hb.1,hb.2.2⟩
        · exact ⟨(h2 y hy).1,fun h=>(h2 y hy).2 (List.mem_append_left _ h)⟩
      · have:=h3 (he.add hb)
        rwa [List.append_assoc] at this
    · cases h
theorem lM {l:List Int} {s s':CS} (h:sF l s=some s'):s'={s with ever:=s.ever++l,now:=s.now++l}∧(∀y∈l,2≤y∧y ∉ s.ever)∧(EvOk s.ever→EvOk (s.ever++l)):=by
  unfold sF at h
  obtain ⟨q,hq,rfl⟩:=Option.map_eq_some_iff.1 h
  obtain ⟨rfl,h2,h3⟩:=bindL_eq hq
  exact ⟨rfl,h2,h3⟩
theorem new_now {s:CS} (h:CsOk s) {l:List Int} (hl:∀y∈l,2≤y∧y ∉ s.ever) {y:Int} (hy:y∈l):y ∉ s.now:=fun hn=>by
  rcases h.now y hn with h1|h1
  · have:=(hl y hy).1;omega
  · exact (hl y hy).2 h1
theorem FOut.refl (s:CS) {lo hi:Nat} {S:FS} {A:List Ann} (h:Hd S.1 A):FOut g la mine s s lo hi S S A []:=
  ⟨by rw [List.append_nil];exact h,fun an h=>absurd h (List.not_mem_nil),fun i h1 h2=>(by omega),fun y=>Iff.rfl,fun y=>Iff.rfl,fun n h=>⟨rfl,rfl⟩,id,id,id⟩
theorem FOut.len {s s':CS} {lo hi:Nat} {S S':FS} {A new:List Ann} (h:FOut g la mine s s' lo hi S S' A new) (hd:Hd S.1 A):S.1.length≤S'.1.length:=by
  have h1:=h.hd.len
  have h2:=hd.len
  rw [List.length_append] at h1
  omega
theorem FOut.trans {s s1 s2:CS} {lo lo1 hi1 lo2 hi2 hi:Nat} {S S1 S2:FS} {A new1 new2:List Ann} (h1:FOut g la mine s s1 lo1 hi1 S S1 A new1) (h2:FOut g la mine s1 s2 lo2 hi2 S1 S2 (A++new1) new2) (hl1:lo≤lo1) (hl2:lo≤lo2) (hh1:hi1≤hi) (hh2:hi2≤hi)
    (hold:∀i,S.1.length≤i→i<S1.1.length→S2.1[i]?=S1.1[i]?):FOut g la mine s s2 lo hi S S2 A (new1++new2):=by
  refine ⟨by rw [←List.append_assoc];exact h2.hd,fun an h=>?_,fun i ha hb=>?_,fun y=>(h2.now y).trans (h1.now y),fun y=>(h2.op y).trans (h1.op y),fun n hn=>?_,fun h=>h2.ever (h1.ever h),fun h=>h2.ok (h1.ok h),fun h=>h2.ev (h1.ev h)⟩
  · rcases List.mem_append.1 h with h|h
    · have:=h1.rks an h;omega
    · have:=h2.rks an h;omega
  · rw [←List.append_assoc]
    by_cases hc:i<S1.1.length
    · obtain ⟨bl,an,e1,e2,e3⟩:=h1.news i ha hc
      exact ⟨bl,an,(hold i ha hc).trans e1,by rw [List.getElem?_append_left (List.getElem?_eq_some_iff.1 e2).1];exact e2,e3.more new2⟩
    · exact h2.news i (by omega) hb
  · have e1:=h1.js n hn
    have e2:=h2.js n (by rw [e1.2];exact hn)
    exact ⟨e2.1.trans e1.1,e2.2.trans e1.2⟩
theorem OpOk.step {s s1:CS} {lo hi1 hi hi':Nat} {S S1:FS} {A new:List Ann} (h:OpOk s S.2 A hi) (h1:FOut g la mine s s1 lo hi1 S S1 A new) (hh:hi'≤hi):OpOk s1 S1.2 (A++new) hi':=by
  intro n hn
  obtain ⟨j,am,e1,e2,e3,e4,e5⟩:=h n ((h1.op n).1 hn)
  have e6:=h1.js n (by rw [e4];rfl)
  exact ⟨j,am,e6.1.trans e1,by rw [List.getElem?_append_left (List.getElem?_eq_some_iff.1 e2).1];exact e2,by omega,e6.2.trans e4,fun y hy h2=>(h1.now y).2 (e5 y hy h2)⟩
theorem OpOk.snoc {s s1:CS} {js:List (Int × Int)} {hi hi':Nat} {A:List Ann} (h:OpOk s js A hi) (B:List Ann) (hh:hi'≤hi) (hop:s1.op=s.op) (hjs:s1.js=s.js) (hnow:∀y∈s.now,y∈s1.now):OpOk s1 js (A++B) hi':=by
  intro n hn
  rw [hop] at hn
  obtain ⟨j,am,e1,e2,e3,e4,e5⟩:=h n hn
  exact ⟨j,am,e1,by rw [List.getElem?_append_left (List.getElem?_eq_some_iff.1 e2).1];exact e2,by omega,by rw [hjs];exact e4,fun y hy h2=>hnow y (e5 y hy h2)⟩
theorem new_in {s:CS} {D:List Blc} {A:List Ann} (hd:Hd D A) (rk:Nat) (γ ps:List Int) (hcov:∀y∈s.now,2≤y→y∈γ∨y∈ps) {lo:Nat} (hr:rk≤lo):FIn g la mine s D.length lo (D++[xS ps]) (A++[⟨rk,γ,ps⟩]) (xS ps) ⟨rk,γ,ps⟩:=
  ⟨by simp,by rw [hd.len];simp,fun i x h=>(by unfold xS lv at h;simp at h),rfl,fun y hy h2=>(hcov y hy h2).imp id fun h=>(by unfold bvs xS lv;simpa using h),hr⟩
def KEd (s:CS) (lo:Nat) (A:List Ann) (t:Edg):Prop:=∃(j:Nat) (am:Ann),t=⟨(j:Int),lv []⟩∧A[j]?=some am∧lo<am.rk∧am.ps=[]∧∀y∈am.γ,y∈s.now
theorem KEd.more {s:CS} {lo:Nat} {A:List Ann} {t:Edg} (h:KEd s lo A t) (B:List Ann):KEd s lo (A++B) t:=by
  obtain ⟨j,am,h1,h2,h3⟩:=h
  exact ⟨j,am,h1,by rw [List.getElem?_append_left (List.getElem?_eq_some_iff.1 h2).1];exact h2,h3⟩
theorem kids_ok:∀l:List AN,(∀b∈l,FillOk g la mine b)→∀(d:Int) (s s':CS) (lo:Nat) (S:FS) (A:List Ann) (es:List Edg),wI g la mine l d s=some s'→xR l≤1000000→CsOk s→Hd S.1 A→OpOk s S.2 A (lo+xR l)→
    ∃new es',FOut g la mine s s' lo (lo+xR l) S (xW l S es).1 A new∧(∀i,i<S.1.length→(xW l S es).1.1[i]?=S.1[i]?)∧(xW l S es).2=es++es'∧es'.length=l.length∧(∀t∈es',KEd s lo (A++new) t)∧wS (xW l S es).1.1+l.length≤wS S.1+5*xR l
  | [],_,d,s,s',lo,S,A,es,h,hz,hc,hd,ho=>by
    rw [wI] at h
    cases h
    rw [xW]
    exact ⟨[],[],FOut.refl s hd,fun i _=>rfl,(List.append_nil _).symm,rfl,fun t h=>absurd h (List.not_mem_nil),by rw [xR];exact Nat.le_refl _⟩
  | b :: l,ih,d,s,s',lo,⟨D,js⟩,A,es,h,hz,hc,hd,ho=>by
    rw [wI] at h
    obtain ⟨s1,h1,h2⟩:=Option.bind_eq_some_iff.1 h
    rw [xR] at ho hz
    have hpos:=vS b
    have hb:=ih b (List.mem_cons_self ..)
    have hd1:=hd.snoc (lo+1) s.now []
    have hnew:bvs (xS [])=[]:=rfl
    obtain ⟨new1,F1,hold1,⟨bl',hat,hbo⟩,hw1⟩:=hb d s s1 D.length (lo+1) (D++[xS []],js) _ _ _ h1 (by omega) hc hd1 (ho.snoc _ (by omega) rfl rfl fun y h=>h) (new_in hd (lo+1) s.now [] (fun y hy _=>.inl hy) (Nat.le_refl _))
    dsimp only at F1 hold1 hat hw1 hd
    rw [List.length_append,List.length_singleton] at hold1
    have hlen1:=F1.len hd1
    rw [List.length_append,List.length_singleton] at hlen1
    obtain ⟨S2,hS2⟩:∃S2,S2=xH b D.length (D++[xS []],js):=⟨_,rfl⟩
    rw [←hS2] at F1 hold1 hat hw1 hlen1
    rw [List.append_assoc] at hbo
    have F:FOut g la mine s s1 lo (lo+szN b) (D,js) S2 A ([⟨lo+1,s.now,[]⟩]++new1):=by
      refine ⟨by rw [←List.append_assoc];exact F1.hd,fun an h=>?_,fun i ha hb=>?_,F1.now,F1.op,F1.js,fun h=>F1.ever ?_,F1.ok,F1.ev⟩
      · rcases List.mem_append.1 h with h|h
        · obtain rfl:=List.mem_singleton.1 h;dsimp only;omega
        · have:=F1.rks an h;omega
      · dsimp only at ha
        by_cases hc:i=D.length
        · subst hc
          exact ⟨bl',⟨lo+1,s.now,[]⟩,hat,by rw [hd.len];simp,hbo⟩
        · rw [←List.append_assoc]
          exact F1.news i (by dsimp only;rw [List.length_append,List.length_singleton];omega) hb
      · dsimp only
        rw [List.flatMap_append,List.flatMap_singleton,hnew,List.append_nil]
        exact h
    obtain ⟨new2,es2,F2,hold2,hes,hel,hed,hw2⟩:=kids_ok l (fun b hb=>ih b (List.mem_cons_of_mem _ hb)) d s1 s' (lo+szN b) S2 (A++([⟨lo+1,s.now,[]⟩]++new1)) (es++[⟨D.length,lv []⟩]) h2 (by omega) (F.ok hc) F.hd (OpOk.step (S:=(D,js)) ho F (by omega))
    rw [xW,xR]
    dsimp only
    rw [←hS2]
    refine ⟨([⟨lo+1,s.now,[]⟩]++new1)++new2,⟨D.length,lv []⟩::es2,F.trans F2 (Nat.le_refl _) (by omega) (by omega) (by omega) (fun i _ hb=>hold2 i hb),fun i hi=>?_,?_,?_,fun t ht=>?_,?_⟩
    · rw [hold2 i (by omega),hold1 i (by omega) (by omega)]
      rw [List.getElem?_append_left hi]
    · rw [hes,List.append_assoc];rfl
    · rw [List.length_cons,List.length_cons,hel]
    · rcases List.mem_cons.1 ht with rfl|ht
      · refine ⟨D.length,⟨lo+1,s.now,[]⟩,rfl,by rw [hd.len];simp,by dsimp only;omega,rfl,fun y h=>h⟩
      · obtain ⟨j,am,e1,e2,e3,e4,e5⟩:=hed t ht
        exact ⟨j,am,e1,by rw [←List.append_assoc];exact e2,by omega,e4,fun y hy=>(F.now y).1 (e5 y hy)⟩
    · rw [wS_snoc] at hw1
      have:wB (xS [])=2:=rfl
      rw [List.length_cons]
      omega
end
section
variable {g:Grs} {la:List Int} {mine:Int}
theorem pre_of {k x n d:Int} {xs ns:Vec Int} {r:Stp} {a:Vec Atm} {ko:Option Addr} {kc:Nat} {kids:List AN} {s s1:CS} (h:nW g (.mk k x xs n ns r a ko kc kids) d s=some s1) :
    ((1≤k∧k≤8)∧ShpP k x xs.l n ns.l r a.l kids.length)∧(∀y∈a.l,atA g s.now y)∧s1={s with p:=s.p+1+a.l.length}:=by
  unfold nW at h
  split at h
  · next hc=>
    unfold jI at h
    split at h
    · next ha=>
      cases h
      exact ⟨⟨hc.1,hc.2.2.2⟩,ha.1,rfl⟩
    · cases h
  · cases h
theorem end_w {D:List Blc} {p:Nat} {bl:Blc} (h:D[p]?=some bl) (he:bl.e=e0) (e:En):wS (D.modify p (wC e))=wS D+e.a.l.length+(e.to.l.map fun t=>1+t.a.l.length).sum:=by
  have h1:=eW h (wC e)
  have h2:wB bl=2+(bl.is.l.map fun i=>1+i.r.a.l.length).sum:=by
    unfold wB
    rw [he]
    rfl
  have h3:wB (wC e bl)=2+(bl.is.l.map fun i=>1+i.r.a.l.length).sum+e.a.l.length+(e.to.l.map fun t=>1+t.a.l.length).sum:=rfl
  omega
theorem aU {s s1 s':CS} {p lo hi sz:Nat} {S S2:FS} {A new:List Ann} {bl:Blc} {an:Ann} {e:En} (hin:FIn g la mine s p lo S.1 A bl an) (F:FOut g la mine s s1 lo hi S S2 A new) (hd:Hd S.1 A) (hold:∀i,i<S.1.length→S2.1[i]?=S.1[i]?)
    (hs:s'=s1∨∃q,s'={s1 with p:=q}) (hok:CsOk s→CsOk s') (hb:BOk g la mine (A++new) an (wC e bl)) (hw:wS S2.1+e.a.l.length+(e.to.l.map fun t=>1+t.a.l.length).sum+3≤wS S.1+5*sz) :
    ∃new,FOut g la mine s s' lo hi S (S2.1.modify p (wC e),S2.2) A new∧(∀i,i<S.1.length→i≠p→(S2.1.modify p (wC e))[i]?=S.1[i]?)∧(∃bl',(S2.1.modify p (wC e))[p]?=some bl'∧BOk g la mine (A++new) an bl')∧wS (S2.1.modify p (wC e))+3≤wS S.1+5*sz:=by
  have hpl:p<S.1.length:=(List.getElem?_eq_some_iff.1 hin.bl).1
  have hp2:S2.1[p]?=some bl:=(hold p hpl).trans hin.bl
  have e1:s'.now=s1.now∧s'.op=s1.op∧s'.js=s1.js∧s'.ever=s1.ever:=by
    rcases hs with rfl| ⟨q,rfl⟩
    · exact ⟨rfl,rfl,rfl,rfl⟩
    · exact ⟨rfl,rfl,rfl,rfl⟩
  refine ⟨new,⟨F.hd.modify fun _=>rfl,F.rks,fun i ha hb=>?_,fun y=>by rw [e1.1];exact F.now y,fun y=>by rw [e1.2.1];exact F.op y,fun n h=>by rw [e1.2.2.1];exact F.js n h,fun h=>?_,hok,fun h=>by rw [e1.2.2.2];exact F.ev h⟩,fun i hi hne=>(tS hne).trans (hold i hi),⟨_,xU hp2,hb⟩,?_⟩
  · rw [List.length_modify] at hb
    obtain ⟨bl1,an1,h1,h2,h3⟩:=F.news i ha hb
    exact ⟨bl1,an1,(tS (by omega)).trans h1,h2,h3⟩
  · rw [e1.2.2.2]
    exact (List.Perm.of_eq (bvs_modify hp2 (f:=wC e) rfl)).trans (F.ever h)
  · rw [end_w hp2 hin.e];omega
theorem kids_sum {es:List Edg} (h:∀t∈es,t.a.l=[]):(es.map fun t=>1+t.a.l.length).sum=es.length:=by
  induction es with
  |nil=>rfl
  | cons t es ih=>
    rw [List.map_cons,List.sum_cons,List.length_cons,ih fun t ht=>h t (List.mem_cons_of_mem _ ht),h t (List.mem_cons_self ..)]
    show 1+0+_=_
    omega
theorem lO {α:Type}:∀{l:List α},l.length=2→∃a b,l=[a,b]
  | [a,b],_=>⟨a,b,rfl⟩
theorem gB:∀l:List AN,l.length≤xR l
  | []=>Nat.zero_le _
  | b::l=>by
    rw [xR,List.length_cons]
    have:=vS b
    have:=gB l
    omega
theorem gX {n:Nat} (h:n≤2000000):IntKind.i64.wrap ((n:Int)+1)=(n:Int)+1:=vB ⟨by omega,by omega⟩
theorem fill_ok:∀b:AN,FillOk g la mine b:=oK fun k x xs n ns r a ko kc kids ih=>by
  intro d s s' p lo S A bl an he hz hcs hd hop hin
  obtain ⟨D,js⟩:=S
  have hok:CsOk s→CsOk s':=fun h=>uE _ _ _ _ h he
  dsimp only at hd hop hin
  have hpl:p<D.length:=(List.getElem?_eq_some_iff.1 hin.bl).1
  rw [xL] at he
  obtain ⟨s1,h1,he⟩:=Option.bind_eq_some_iff.1 he
  have hcp:=jQ hcs h1
  obtain ⟨⟨hk,hsh⟩,hat,rfl⟩:=pre_of h1
  clear h1
  have hsz:szN (.mk k x xs n ns r a ko kc kids)=1+a.l.length+r.a.l.length+xR kids:=by rw [szN]
  rw [hsz] at hop hz ⊢
  have hends:∀y∈a.l,atS g (vH (·∈an.γ) bl bl.is.l.length) y:=fun y hy=>atS_of (hat y hy) fun z hz h2=>now_all (hin.cov z hz h2)
  rw [xH]
  by_cases k1:k=1
  · subst k1
    rw [if_pos rfl] at he ⊢
    obtain ⟨s2,h2,he⟩:=Option.bind_eq_some_iff.1 he
    obtain ⟨s2',h2a,h2b⟩:=Option.bind_eq_some_iff.1 h2
    obtain ⟨s3,h3,rfl⟩:=Option.map_eq_some_iff.1 he
    obtain ⟨b0,rfl⟩:∃b0,kids=[b0]:=List.length_eq_one_iff.1 (hsh.kids.1 rfl)
    have hcs2:=rE (jU hcp h2a) h2b
    unfold jH at h2a
    split at h2a
    rotate_left
    · cases h2a
    next hform=>
    unfold jI at h2a
    split at h2a
    rotate_left
    · cases h2a
    next hra=>
    cases h2a
    obtain ⟨rfl,hx,hev⟩:=lM h2b
    clear h2 h2b
    rw [tB] at h3
    rw [tK]
    have hxn:x ∉ s.now:=new_now hcs hx (List.mem_singleton.2 rfl)
    have hbv:bvs (tJ x r bl)=bvs bl++[x]:=by unfold bvs tJ lv;simp
    have hin2:FIn g la mine {s with p:=s.p+1+a.l.length+r.a.l.length,ever:=s.ever++[x],now:=s.now++[x]} p lo (D.modify p (tJ x r)) A (tJ x r bl) an:=by
      refine ⟨xU hin.bl,hin.an,fun i y hy=>?_,hin.e,fun y hy h2=>?_,hin.rk⟩
      · have hy':(bl.is.l++[⟨x,stS r⟩])[i]?=some y:=hy
        by_cases hi:i<bl.is.l.length
        · rw [List.getElem?_append_left hi] at hy'
          obtain ⟨q1,q2⟩:=hin.ins i y hy'
          refine ⟨q1,fun a ha=>?_⟩
          have:=q2 a ha
          unfold atS vH at this ⊢
          have e:(tJ x r bl).is.l.take i=bl.is.l.take i:=by
            show (bl.is.l++[_]).take i=_
            rw [List.take_append_of_le_length (by omega)]
          rw [e]
          exact this
        · have hi2:i=bl.is.l.length:=by
            have:=(List.getElem?_eq_some_iff.1 hy').1
            rw [List.length_append,List.length_singleton] at this
            omega
          subst hi2
          rw [List.getElem?_append_right (Nat.le_refl _),Nat.sub_self] at hy'
          obtain rfl:(⟨x,stS r⟩:Ins)=y:=Option.some.inj hy'
          refine ⟨form_st hform,fun a ha=>atS_of (hra.1 a ha) fun z hz h2=>?_⟩
          have:=now_all (hin.cov z hz h2)
          unfold vH at this ⊢
          have e:(tJ x r bl).is.l.take bl.is.l.length=bl.is.l.take bl.is.l.length:=by
            show (bl.is.l++[_]).take _=_
            rw [List.take_append_of_le_length (Nat.le_refl _)]
          rw [e]
          exact this
      · rw [hbv]
        rcases List.mem_append.1 hy with hy|hy
        · exact (hin.cov y hy h2).imp id (List.mem_append_left _)
        · exact .inr (List.mem_append_right _ hy)
    have hsz1:xR [b0]=szN b0:=by rw [xR,xR,Nat.add_zero]
    have hal:a.l.length=0:=by rw [hsh.a.2.2 (.inl rfl)];rfl
    have hp0:=vS b0
    rw [hsz1] at hop hz ⊢
    obtain ⟨new,F,hold,hatp,hw⟩:=ih b0 (List.mem_singleton.2 rfl) (d+1) _ s3 p lo (D.modify p (tJ x r),js) A _ _ h3 (by omega) hcs2 (hd.modify fun _=>rfl) (by
        have:=hop.snoc (s1:={s with p:=s.p+1+a.l.length+r.a.l.length,ever:=s.ever++[x],now:=s.now++[x]}) [] (hi':=lo+szN b0 - 1) (by omega) rfl rfl fun y hy=>List.mem_append_left _ hy
        rw [List.append_nil] at this
        exact this) hin2
    dsimp only at F hold hatp hw
    rw [List.length_modify] at hold
    refine ⟨new,⟨F.hd,fun an h=>(by have:=F.rks an h;omega),fun i ha hb=>F.news i (by dsimp only;rw [List.length_modify];exact ha) hb,fun y=>?_,F.op,F.js,fun h=>F.ever ((bvs_add hin.bl).trans (h.append_right _)),hok,fun h=>F.ev (hev h)⟩,fun i hi hne=>(hold i hi hne).trans (tS hne),hatp,?_⟩
    · show y∈[x].foldl rS s3.now↔_
      rw [mem_dels,F.now y]
      show y∈s.now++[x]∧_↔_
      rw [List.mem_append,List.mem_singleton]
      exact ⟨fun h=>h.1.resolve_right h.2,fun h=>⟨.inl h,fun e=>hxn (e▸h)⟩⟩
    · have h5:=eW hin.bl (tJ x r)
      have h6:wB (tJ x r bl)=wB bl+1+r.a.l.length:=by
        unfold wB tJ lv
        simp only [List.map_append,List.sum_append,List.map_cons,List.map_nil,List.sum_cons,List.sum_nil,stS]
        have:(lv r.a.l).l.length=r.a.l.length:=rfl
        omega
      dsimp only
      omega
  by_cases k7:k=7
  · subst k7
    rw [if_neg (by decide),if_pos rfl] at he ⊢
    obtain ⟨s2,h2,he⟩:=Option.bind_eq_some_iff.1 he
    unfold bY at h2
    split at h2
    · cases h2
    next hnj=>
    have hnj':lkI s.js n=none:=Option.not_isSome_iff_eq_none.1 hnj
    have hcs2:=rE (s:={s with p:=s.p+1+a.l.length,js:=wX s.js n xs.l.length}) ⟨hcp.p0,hcp.p1,hcp.now⟩ h2
    obtain ⟨rfl,hx,hev⟩:=lM h2
    clear h2
    obtain ⟨b0,b1,rfl⟩:∃b0 b1,kids=[b0,b1]:=lO (hsh.kids.2.1 (.inr rfl))
    rw [pL] at he
    obtain ⟨s3,h3,he⟩:=Option.bind_eq_some_iff.1 he
    obtain ⟨s5,h5,rfl⟩:=Option.map_eq_some_iff.1 he
    rw [tB] at h5
    rw [lB,tK]
    have hsz1:xR [b0,b1]=szN b0+szN b1:=by rw [xR,xR,xR,Nat.add_zero]
    rw [hsz1] at hop hz ⊢
    have hp0:=vS b0
    have hp1:=vS b1
    have hnop:n ∉ s.op:=fun h=>by
      obtain ⟨j,am,e1,e2,e3,e4,e5⟩:=hop n h
      rw [hnj'] at e4
      cases e4
    have hbv:bvs (xS xs.l)=xs.l:=by unfold bvs xS lv;simp
    have hd1:=hd.snoc (lo+szN b1) s.now xs.l
    have hAj:(A++[(⟨lo+szN b1,s.now,xs.l⟩:Ann)])[D.length]?=some ⟨lo+szN b1,s.now,xs.l⟩:=by rw [hd.len];simp
    obtain ⟨new1,F1,hold1,⟨blj,hatj,hboj⟩,hw1⟩:=ih b0 (List.mem_cons_self ..) (d+1) _ s3 D.length (lo+szN b1) (D++[xS xs.l],wX js n D.length) _ _ _ h3 (by omega) hcs2 hd1 (by
      intro n' hn'
      have hne:n'≠n:=fun e=>hnop (e▸hn')
      obtain ⟨j,am,e1,e2,e3,e4,e5⟩:=hop n' hn'
      refine ⟨j,am,by show lkI (wX js n _) n'=_;rw [uX,if_neg hne];exact e1,by rw [List.getElem?_append_left (List.getElem?_eq_some_iff.1 e2).1];exact e2,by omega,by show lkI (wX s.js n _) n'=_;rw [uX,if_neg hne];exact e4,fun y hy h2=>List.mem_append_left _ (e5 y hy h2)⟩) (new_in hd (lo+szN b1) s.now xs.l (fun y hy _=>List.mem_append.1 hy) (Nat.le_refl _))
    dsimp only at F1 hold1 hatj hw1
    rw [List.length_append,List.length_singleton] at hold1
    have hlen1:=F1.len hd1
    rw [List.length_append,List.length_singleton] at hlen1
    obtain ⟨S2,hS2⟩:∃S2,S2=xH b0 D.length (D++[xS xs.l],wX js n D.length):=⟨_,rfl⟩
    rw [←hS2] at F1 hold1 hatj hw1 hlen1 ⊢
    have hnow4:∀y,y∈(kB n (tX xs.l s3)).now↔y∈s.now:=fun y=>by
      show y∈xs.l.foldl rS s3.now↔_
      rw [mem_dels,F1.now y]
      show y∈s.now++xs.l∧_↔_
      rw [List.mem_append]
      exact ⟨fun h=>h.1.resolve_right h.2,fun h=>⟨.inl h,fun e=>new_now (s:={s with p:=s.p+1+a.l.length}) hcp hx e h⟩⟩
    have hop4:∀y,y∈(kB n (tX xs.l s3)).op↔y∈s.op∨y=n:=fun y=>by
      show y∈sG s3.op n↔_
      rw [wE,F1.op y]
    have hjs1:∀n',(lkI s.js n').isSome→n'≠n∧lkI S2.2 n'=lkI js n'∧lkI s3.js n'=lkI s.js n':=fun n' hn'=>by
      have hne:n'≠n:=fun e=>by rw [e,hnj'] at hn';cases hn'
      have e:lkI (wX s.js n (xs.l.length:Int)) n'=lkI s.js n':=by rw [uX,if_neg hne]
      have h6:=F1.js n' (by show (lkI (wX s.js n _) n').isSome;rw [e];exact hn')
      refine ⟨hne,h6.1.trans ?_,h6.2.trans e⟩
      show lkI (wX js n _) n'=_
      rw [uX,if_neg hne]
    have hjsn:lkI S2.2 n=some (D.length:Int)∧lkI s3.js n=some (xs.l.length:Int):=by
      have e:lkI (wX s.js n (xs.l.length:Int)) n=some (xs.l.length:Int):=by rw [uX,if_pos rfl]
      have h6:=F1.js n (by show (lkI (wX s.js n _) n).isSome;rw [e];rfl)
      refine ⟨h6.1.trans ?_,h6.2.trans e⟩
      show lkI (wX js n _) n=_
      rw [uX,if_pos rfl]
    have hA2:∀(i:Nat) (am:Ann),A[i]?=some am→(A++[⟨lo+szN b1,s.now,xs.l⟩]++new1)[i]?=some am:=fun i am h=>by
      have hi:=(List.getElem?_eq_some_iff.1 h).1
      rw [List.append_assoc,List.getElem?_append_left hi];exact h
    have hAj2:(A++[(⟨lo+szN b1,s.now,xs.l⟩:Ann)]++new1)[D.length]?=some ⟨lo+szN b1,s.now,xs.l⟩:=by
      rw [List.getElem?_append_left (by rw [List.length_append,hd.len,List.length_singleton];omega)];exact hAj
    obtain ⟨new2,F2,hold2,hat2,hw2⟩:=ih b1 (List.mem_cons_of_mem _ (List.mem_cons_self ..)) (d+1) _ s5 p lo S2 _ bl an h5 (by omega) (uE _ _ _ _ hcs2 h3).unb.op F1.hd (by
      intro n' hn'
      rcases (hop4 n').1 hn' with hn'|rfl
      · obtain ⟨j,am,e1,e2,e3,e4,e5⟩:=hop n' hn'
        have h6:=hjs1 n' (by rw [e4];rfl)
        exact ⟨j,am,h6.2.1.trans e1,hA2 j am e2,by omega,h6.2.2.trans e4,fun y hy h2=>(hnow4 y).2 (e5 y hy h2)⟩
      · exact ⟨D.length,_,hjsn.1,hAj2,by dsimp only;omega,hjsn.2,fun y hy h2=>(hnow4 y).2 hy⟩) (by
      refine ⟨?_,hA2 p an hin.an,hin.ins,hin.e,fun y hy h2=>hin.cov y ((hnow4 y).1 hy) h2,hin.rk⟩
      rw [hold1 p (by omega) (by omega),List.getElem?_append_left hpl]
      exact hin.bl)
    have hlen2:=F2.len F1.hd
    obtain ⟨S3,hS3⟩:∃S3,S3=xH b1 p S2:=⟨_,rfl⟩
    rw [←hS3] at F2 hold2 hat2 hw2 hlen2 ⊢
    have hass:A++([(⟨lo+szN b1,s.now,xs.l⟩:Ann)]++new1++new2)=A++[⟨lo+szN b1,s.now,xs.l⟩]++new1++new2:=by simp only [List.append_assoc]
    refine ⟨[⟨lo+szN b1,s.now,xs.l⟩]++new1++new2,?_,fun i hi hne=>?_,?_,?_⟩
    · refine ⟨by rw [hass];exact F2.hd,fun an h=>?_,fun i ha hb=>?_,fun y=>(F2.now y).trans (hnow4 y),fun y=>?_,fun n' hn'=>?_,fun h=>F2.ever (F1.ever ?_),hok,fun h=>F2.ev (F1.ev (hev h))⟩
      · rcases List.mem_append.1 h with h|h
        · rcases List.mem_append.1 h with h|h
          · obtain rfl:=List.mem_singleton.1 h
            dsimp only
            omega
          · have:=F1.rks an h;omega
        · have:=F2.rks an h;omega
      · rw [hass]
        dsimp only at ha
        by_cases hc:i<S2.1.length
        · rw [hold2 i hc (by omega)]
          by_cases hc2:i=D.length
          · subst hc2
            exact ⟨blj,_,hatj,by rw [List.getElem?_append_left (List.getElem?_eq_some_iff.1 hAj2).1];exact hAj2,hboj.more _⟩
          · obtain ⟨bl1,an1,q1,q2,q3⟩:=F1.news i (by dsimp only;rw [List.length_append,List.length_singleton];omega) hc
            exact ⟨bl1,an1,q1,by rw [List.getElem?_append_left (List.getElem?_eq_some_iff.1 q2).1];exact q2,q3.more _⟩
        · exact F2.news i (by omega) hb
      · show y∈rS s5.op n↔_
        rw [mV,F2.op y,hop4 y]
        exact ⟨fun h=>h.1.resolve_right h.2,fun h=>⟨.inl h,fun e=>hnop (e▸h)⟩⟩
      · have h6:=hjs1 n' hn'
        have h7:=F2.js n' (by show (lkI s3.js n').isSome;rw [h6.2.2];exact hn')
        exact ⟨h7.1.trans h6.2.1,h7.2.trans h6.2.2⟩
      · dsimp only
        rw [List.flatMap_append,List.flatMap_singleton,hbv]
        exact h.append_right _
    · rw [hold2 i (by dsimp only at hi;omega) hne,hold1 i (by dsimp only at hi;omega) (by dsimp only at hi;omega),List.getElem?_append_left hi]
    · rw [hass];exact hat2
    · rw [wS_snoc] at hw1
      have:wB (xS xs.l)=2:=rfl
      dsimp only
      omega
  by_cases k8:k=8
  · subst k8
    rw [if_neg (by decide),if_neg (by decide),if_pos rfl] at he ⊢
    split at he
    rotate_left
    · cases he
    next hj=>
    cases he
    obtain ⟨hj1,hj2⟩:=hj
    obtain ⟨j,am,e1,e2,e3,e4,e5⟩:=hop n hj1
    have hj2':(a.l.length:Int)=(lkI s.js n).getD 0:=hj2
    rw [e4] at hj2'
    have hal:a.l.length=am.ps.length:=Int.ofNat.inj hj2'
    refine aU (sz:=1+a.l.length+r.a.l.length+xR kids) hin (FOut.refl s hd) hd (fun i _=>rfl) (.inr ⟨_,rfl⟩) hok ?_ ?_
    · rw [List.append_nil]
      refine ⟨hin.ins,⟨by show (1:Int)≤4;decide,by show (4:Int)≤6;decide,rfl,rfl,⟨fun h=>absurd h (by show ¬(4:Int)=6;decide),fun h=>absurd h (Nat.lt_irrefl 0)⟩,fun i h=>absurd h (Nat.not_lt_zero _)⟩,fun y hy=>absurd hy (List.not_mem_nil),fun t ht=>?_⟩
      obtain rfl:=List.mem_singleton.1 ht
      exact ⟨j,am,by show (lkI js n).getD 0=_;rw [e1];rfl,e2,by have:=hin.rk;omega,hal,hends,fun y hy h2=>hin.cov y (e5 y hy h2) h2⟩
    · show wS D+0+(1+a.l.length+0)+3≤wS D+_
      omega
  rw [if_neg k1,if_neg k7,if_neg k8] at he ⊢
  by_cases k56:k=5∨k=6
  · rw [if_pos k56]
    have hkids:wI g la mine kids (d+1) {s with p:=s.p+1+a.l.length}=some s'∧(k=6→upP ns.l∧ns.l≠[]∧kids.length=ns.l.length+1):=by
      by_cases k6:k=6
      · rw [if_pos k6] at he
        split at he
        · next hc=>exact ⟨he,fun _=>hc⟩
        · cases he
      · rw [if_neg k6] at he
        exact ⟨he,fun h=>absurd h k6⟩
    obtain ⟨he,hns⟩:=hkids
    obtain ⟨new,es,F,hold,hes,hel,hed,hw⟩:=kids_ok kids ih (d+1) _ s' lo (D,js) A [] he (by omega) hcp hd (by
      have:=hop.snoc (s1:={s with p:=s.p+1+a.l.length}) [] (hi':=lo+xR kids) (by omega) rfl rfl fun y hy=>hy
      rw [List.append_nil] at this
      exact this)
    rw [List.nil_append] at hes
    rw [hes]
    have hsum:(es.map fun t=>1+t.a.l.length).sum=es.length:=kids_sum fun t ht=>by
      obtain ⟨j,am,rfl,_⟩:=hed t ht
      rfl
    have F':FOut g la mine s s' lo (lo+(1+a.l.length+r.a.l.length+xR kids) - 1) (D,js) (xW kids (D,js) []).1 A new:=⟨F.hd,fun an h=>(by have:=F.rks an h;omega),F.news,F.now,F.op,F.js,F.ever,hok,F.ev⟩
    refine aU (sz:=1+a.l.length+r.a.l.length+xR kids) hin F' hd hold (.inl rfl) hok ?_ ?_
    · refine ⟨hin.ins,⟨by show 1≤k;omega,by show k≤6;omega,?_,?_,⟨fun h=>?_,fun h=>?_⟩,?_⟩,hends,fun t ht=>?_⟩
      · show (a.l.length:Int)=fT k
        have:=hsh.a.1 (.inr (.inr (by omega)))
        unfold fT
        rw [this]
        rcases k56 with rfl|rfl<;>rfl
      · show (es.length:Int)=fS (IntKind.i64.wrap ((ns.l.length:Int)+1)) k
        rw [hel]
        unfold fS
        rcases k56 with rfl|rfl
        · rw [hsh.kids.2.1 (.inl rfl)];rfl
        · have h6:=(hns rfl).2.2
          have h7:kids.length≤xR kids:=gB kids
          rw [if_neg (by decide),if_neg (by decide),if_pos rfl,gX (by omega)]
          omega
      · have:=(hns h).2.1
        exact List.length_pos_iff.2 this
      · rcases hsh.ns with h1|h1
        · exact h1
        · exact absurd (show 0<ns.l.length from h) (by rw [h1];exact Nat.lt_irrefl 0)
      · show upP ns.l
        rcases hsh.ns with h1|h1
        · exact (hns h1).1
        · rw [h1]
          exact fun i h=>absurd h (Nat.not_lt_zero _)
      · obtain ⟨j,am,rfl,e1,e2,e3,e4⟩:=hed t ht
        exact ⟨j,am,rfl,e1,by have:=hin.rk;omega,by rw [e3];rfl,fun y hy=>absurd hy (List.not_mem_nil),fun y hy h2=>hin.cov y (e4 y hy) h2⟩
    · show wS _+a.l.length+(es.map fun t=>1+t.a.l.length).sum+3≤wS D+_
      rw [hsum,hel]
      dsimp only at hw
      omega
  · rw [if_neg k56]
    have hk24:k=2∨k=3∨k=4:=by omega
    rw [if_neg (by omega)] at he
    obtain rfl:kids=[]:=List.length_eq_zero_iff.1 (hsh.kids.2.2 (by omega))
    rw [wI] at he
    cases he
    refine aU (sz:=1+a.l.length+r.a.l.length+xR []) hin (FOut.refl s hd) hd (fun i _=>rfl) (.inr ⟨_,rfl⟩) hok ?_ ?_
    · rw [List.append_nil]
      refine ⟨hin.ins,⟨by show 1≤k - 1;omega,by show k - 1≤6;omega,?_,?_,⟨fun h=>absurd (show k - 1=6 from h) (by omega),fun h=>absurd h (Nat.lt_irrefl 0)⟩,fun i h=>absurd h (Nat.not_lt_zero _)⟩,hends,fun t ht=>absurd ht (List.not_mem_nil)⟩
      · show (a.l.length:Int)=fT (k - 1)
        have h1:=hsh.a.1
        have h2:=hsh.a.2.1
        unfold fT
        rcases hk24 with rfl|rfl|rfl
        · have:=h1 (.inl rfl);rw [this];rfl
        · have:=h2 rfl;rw [this];rfl
        · have:=h1 (.inr (.inl rfl));rw [this];rfl
      · show (0:Int)=fS _ (k - 1)
        unfold fS
        rcases hk24 with rfl|rfl|rfl<;>rfl
    · show wS D+a.l.length+0+3≤wS D+_
      omega
end
def edT (D:List Blc) (n:Int):List Int:=(D.getD n.toNat wR).e.to.l.map (·.b)
def vC (D:List Blc):Nat→Int→List Int × List Int→List Int × List Int
  |0,_,q=>q
  | f+1,n,q=>if n∈q.1 then q else
    (((edT D n).foldl (fun q m=>vC D f m q) (sG q.1 n,q.2)).1,((edT D n).foldl (fun q m=>vC D f m q) (sG q.1 n,q.2)).2++[n])
def uns (N:Nat) (ks:List Int):Nat:=(List.range N).countP (fun i:Nat=>decide ((i:Int) ∉ ks))
theorem dZ {p q:Nat→Bool}:∀{l:List Nat} {a:Nat},(∀x∈l,p x=true→q x=true)→a∈l→q a=true→p a=false→l.countP p<l.countP q
  | [],a,_,h,_,_=>absurd h (List.not_mem_nil)
  | b ::l,a,hm,h,hq,hp=>by
    have h1:l.countP p≤l.countP q:=List.countP_mono_left fun x hx=>hm x (List.mem_cons_of_mem _ hx)
    rw [List.countP_cons,List.countP_cons]
    rcases List.mem_cons.1 h with rfl|h
    · rw [hq,hp];simp;omega
    · have h2:=dZ (fun x hx=>hm x (List.mem_cons_of_mem _ hx)) h hq hp
      have h3:=hm b (List.mem_cons_self ..)
      by_cases hb:p b=true
      · rw [hb,h3 hb];omega
      · simp only [Bool.not_eq_true] at hb
        rw [hb]
        simp only [Bool.false_eq_true,if_false]
        omega
theorem uns_mono {N:Nat} {ks ks':List Int} (h:∀x∈ks,x∈ks'):uns N ks'≤uns N ks:=List.countP_mono_left fun i _ hi=>by
  rw [decide_eq_true_iff] at hi ⊢
  exact fun hk=>hi (h _ hk)
theorem cR {N i:Nat} {ks:List Int} (hi:i<N) (h:(i:Int) ∉ ks):uns N (sG ks i)<uns N ks:=by
  refine dZ (a:=i) (fun x _ hx=>?_) (List.mem_range.2 hi) (decide_eq_true h) (decide_eq_false fun h2=>h2 (wE.2 (.inr rfl)))
  rw [decide_eq_true_iff] at hx ⊢
  exact fun hk=>hx (wE.2 (.inl hk))
theorem mJ (N:Nat):uns N []=N:=by
  have:∀l:List Nat,l.countP (fun i:Nat=>decide ((i:Int) ∉ ([]:List Int)))=l.length:=fun l=>by rw [List.countP_eq_length];simp
  unfold uns
  rw [this,List.length_range]
section
variable {D:List Blc} {rk:Int→Nat}
def InR (D:List Blc) (n:Int):Prop:=0≤n∧n<D.length
def UpE (D:List Blc) (rk:Int→Nat):Prop:=∀n,InR D n→∀m∈edT D n,InR D m∧rk n<rk m
structure VInv (D:List Blc) (ks out:List Int):Prop where
  nd:out.Nodup
  sub:∀x∈out,x∈ks
  rg:∀x∈ks,InR D x
  cl:∀l1 n l2,out=l1++n::l2→∀m∈edT D n,m∈l1
structure VOut (D:List Blc) (from_:Int→Prop) (ks out:List Int) (q:List Int × List Int) (new:List Int):Prop where
  eq:q.2=out++new
  inv:VInv D q.1 q.2
  dis:∀x∈new,x ∉ ks
  ks:∀x,x∈q.1↔x∈ks∨x∈new
  come:∀x∈new,from_ x∨∃p∈new,x∈edT D p
theorem vis_fold {f:Nat} (hup:UpE D rk) (ih:∀n ks out,InR D n→uns D.length ks<f→VInv D ks out→(∀x∈ks,x ∉ out→rk x<rk n)→
    ∃new,VOut D (·=n) ks out (vC D f n (ks,out)) new∧n∈(vC D f n (ks,out)).2):∀(l ks out:List Int),(∀m∈l,InR D m∧∀x∈ks,x ∉ out→rk x<rk m)→uns D.length ks<f→VInv D ks out→
    ∃new,VOut D (·∈l) ks out (l.foldl (fun q m=>vC D f m q) (ks,out)) new∧∀m∈l,m∈(l.foldl (fun q m=>vC D f m q) (ks,out)).2
  | [],ks,out,_,_,hv=>⟨[],⟨(List.append_nil _).symm,hv,fun x h=>absurd h (List.not_mem_nil),fun x=>by simp,fun x h=>absurd h (List.not_mem_nil)⟩,fun x h=>absurd h (List.not_mem_nil)⟩
  | m ::l,ks,out,hl,hu,hv=>by
    obtain ⟨new1,h1,h2⟩:=ih m ks out (hl m (List.mem_cons_self ..)).1 hu hv (hl m (List.mem_cons_self ..)).2
    rw [List.foldl_cons]
    obtain ⟨⟨ks1,out1⟩,hq⟩:∃q,q=vC D f m (ks,out):=⟨_,rfl⟩
    rw [←hq] at h1 h2 ⊢
    have e1:=h1.eq
    have ek:=h1.ks
    dsimp only at e1 ek h2
    have hsub:∀x∈ks,x∈ks1:=fun x hx=>(ek x).2 (.inl hx)
    obtain ⟨new2,h3,h4⟩:=vis_fold hup ih l ks1 out1 (fun m' hm'=>⟨(hl m' (List.mem_cons_of_mem _ hm')).1,fun x hx hno=>by
      rcases (ek x).1 hx with h5|h5
      · exact (hl m' (List.mem_cons_of_mem _ hm')).2 x h5 fun h6=>hno (by rw [e1];exact List.mem_append_left _ h6)
      · exact absurd (by rw [e1];exact List.mem_append_right _ h5) hno⟩) (Nat.lt_of_le_of_lt (uns_mono hsub) hu) h1.inv
    refine ⟨new1++new2,⟨by rw [h3.eq,e1,List.append_assoc],h3.inv,fun x hx=>?_,fun x=>?_,fun x hx=>?_⟩,fun m' hm'=>?_⟩
    · rcases List.mem_append.1 hx with hx|hx
      · exact h1.dis x hx
      · exact fun hk=>h3.dis x hx (hsub x hk)
    · rw [h3.ks,ek,List.mem_append,or_assoc]
    · rcases List.mem_append.1 hx with hx|hx
      · rcases h1.come x hx with rfl| ⟨p,hp,h6⟩
        · exact .inl (List.mem_cons_self ..)
        · exact .inr ⟨p,List.mem_append_left _ hp,h6⟩
      · rcases h3.come x hx with h5| ⟨p,hp,h6⟩
        · exact .inl (List.mem_cons_of_mem _ h5)
        · exact .inr ⟨p,List.mem_append_right _ hp,h6⟩
    · rcases List.mem_cons.1 hm' with rfl|hm'
      · rw [h3.eq];exact List.mem_append_left _ h2
      · exact h4 m' hm'
theorem vis_ok (hup:UpE D rk):∀(f:Nat) (n:Int) (ks out:List Int),InR D n→uns D.length ks<f→VInv D ks out→(∀x∈ks,x ∉ out→rk x<rk n)→
    ∃new,VOut D (·=n) ks out (vC D f n (ks,out)) new∧n∈(vC D f n (ks,out)).2
  |0,n,ks,out,_,hu,_,_=>absurd hu (Nat.not_lt_zero _)
  | f + 1,n,ks,out,hn,hu,hv,hst=>by
    rw [vC]
    by_cases hk:n∈ks
    · rw [if_pos hk]
      refine ⟨[],⟨(List.append_nil _).symm,hv,fun x h=>absurd h (List.not_mem_nil),fun x=>by simp,fun x h=>absurd h (List.not_mem_nil)⟩,?_⟩
      by_cases ho:n∈out
      · exact ho
      · exact absurd (hst n hk ho) (Nat.lt_irrefl _)
    rw [if_neg hk]
    obtain ⟨i,rfl⟩:∃i:Nat,n=(i:Int):=⟨n.toNat,by have:=hn.1;omega⟩
    have hi:i<D.length:=by have:=hn.2;omega
    have hno:(i:Int) ∉ out:=fun h=>hk (hv.sub _ h)
    obtain ⟨new,h1,h2⟩:=vis_fold (f:=f) hup (vis_ok hup f) (edT D i) (sG ks i) out (fun m hm=>⟨(hup _ hn m hm).1,fun x hx ho=>by
      have h3:=(hup _ hn m hm).2
      rcases wE.1 hx with h4|rfl
      · have:=hst x h4 ho;omega
      · exact h3⟩) (by have:=cR hi hk;omega) ⟨hv.nd,fun x hx=>wE.2 (.inl (hv.sub x hx)),fun x hx=>by
        rcases wE.1 hx with h|rfl
        · exact hv.rg x h
        · exact hn,hv.cl⟩
    obtain ⟨⟨ks1,out1⟩,hq⟩:∃q,q=(edT D i).foldl (fun q m=>vC D f m q) (sG ks i,out):=⟨_,rfl⟩
    dsimp only at h1 h2 ⊢
    rw [←hq] at h1 h2 ⊢
    have e1:=h1.eq
    have ek:=h1.ks
    dsimp only at e1 ek h2 ⊢
    have hnn:(i:Int) ∉ new:=fun h=>h1.dis _ h (wE.2 (.inr rfl))
    have hno1:(i:Int) ∉ out1:=by rw [e1,List.mem_append];exact fun h=>h.elim hno hnn
    refine ⟨new++[(i:Int)],⟨by dsimp only;rw [e1,List.append_assoc],⟨?_,fun x hx=>?_,h1.inv.rg,fun l1 n l2 he m hm=>?_⟩,fun x hx=>?_,fun x=>?_,fun x hx=>?_⟩,List.mem_append_right _ (List.mem_singleton.2 rfl)⟩
    · exact List.nodup_append.2 ⟨h1.inv.nd,List.nodup_cons.2 ⟨List.not_mem_nil,List.nodup_nil⟩,fun a ha b hb=>by rw [List.mem_singleton] at hb;subst hb;exact fun e=>hno1 (e▸ha)⟩
    · rcases List.mem_append.1 hx with hx|hx
      · exact h1.inv.sub x hx
      · rw [List.mem_singleton] at hx;subst hx;exact (ek _).2 (.inl (wE.2 (.inr rfl)))
    · rcases List.append_eq_append_iff.1 he with ⟨a',h5,h6⟩| ⟨c',h5,h6⟩
      · -- l1=out1++a'
        have h7:a'=[]:=by
          cases a' with
          |nil=>rfl
          |cons y a'=>rw [List.cons_append] at h6;have:=(List.cons.inj h6).2;exact absurd this (by simp)
        subst h7
        rw [List.nil_append] at h6
        obtain ⟨rfl,_⟩:=List.cons.inj h6
        rw [List.append_nil] at h5
        rw [h5]
        exact h2 m hm
      · cases c' with
        | nil=>
          rw [List.nil_append] at h6
          rw [List.append_nil] at h5
          obtain ⟨rfl,_⟩:=List.cons.inj h6
          rw [←h5]
          exact h2 m hm
        | cons y c'=>
          rw [List.cons_append] at h6
          obtain ⟨rfl,_⟩:=List.cons.inj h6
          exact h1.inv.cl l1 n c' h5 m hm
    · rcases List.mem_append.1 hx with hx|hx
      · exact fun h=>h1.dis x hx (wE.2 (.inl h))
      · rw [List.mem_singleton] at hx;subst hx;exact hk
    · dsimp only
      rw [ek,wE,List.mem_append,List.mem_singleton,or_assoc]
      exact or_congr Iff.rfl (Or.comm)
    · rcases List.mem_append.1 hx with hx|hx
      · rcases h1.come x hx with h5| ⟨p,hp,h6⟩
        · exact .inr ⟨(i:Int),List.mem_append_right _ (List.mem_singleton.2 rfl),h5⟩
        · exact .inr ⟨p,List.mem_append_left _ hp,h6⟩
      · exact .inl (List.mem_singleton.1 hx)
structure OrdOk (D:List Blc) (ord:List Int):Prop where
  nd:ord.Nodup
  rg:∀x∈ord,InR D x
  zero:ord[0]?=some 0
  up:∀(i:Nat) (n m:Int),ord[i]?=some n→m∈edT D n→∃j,i<j∧ord[j]?=some m
  come:∀(k:Nat) (x:Int),0<k→ord[k]?=some x→∃i n,i<k∧ord[i]?=some n∧x∈edT D n
theorem bZ {l:List Int} (h:l.Nodup) {i j:Nat} {x:Int} (hi:l[i]?=some x) (hj:l[j]?=some x):i=j:=by
  obtain ⟨hi1,hi2⟩:=List.getElem?_eq_some_iff.1 hi
  obtain ⟨hj1,hj2⟩:=List.getElem?_eq_some_iff.1 hj
  have h1:=List.pairwise_iff_getElem.1 h
  rcases Nat.lt_trichotomy i j with h2|h2|h2
  · exact absurd (hi2.trans hj2.symm) (h1 i j hi1 hj1 h2)
  · exact h2
  · exact absurd (hj2.trans hi2.symm) (h1 j i hj1 hi1 h2)
theorem ord_ok (hup:UpE D rk) (h0:0<D.length) {f:Nat} (hf:D.length<f):OrdOk D (vC D f 0 ([],[])).2.reverse:=by
  obtain ⟨new,h1,h2⟩:=vis_ok hup f 0 [] [] ⟨Int.le_refl _,by omega⟩ (by rw [mJ];exact hf) ⟨List.nodup_nil,fun x h=>absurd h (List.not_mem_nil),fun x h=>absurd h (List.not_mem_nil),fun l1 n l2 h=>absurd h (by simp)⟩ (fun x h=>absurd h (List.not_mem_nil))
  have hlast:∃l,(vC D f 0 ([],[])).2=l++[0]:=by
    cases f with
    |zero=>exact absurd hf (Nat.not_lt_zero _)
    | succ f=>
      rw [vC,if_neg (List.not_mem_nil)]
      exact ⟨_,rfl⟩
  obtain ⟨⟨ks,out⟩,hq⟩:∃q,q=vC D f 0 ([],[]):=⟨_,rfl⟩
  rw [←hq] at h1 h2 hlast ⊢
  have e1:=h1.eq
  dsimp only at e1 h2 hlast ⊢
  rw [List.nil_append] at e1
  obtain ⟨l0,hl0⟩:=hlast
  have hup2:∀(i:Nat) (n m:Int),out.reverse[i]?=some n→m∈edT D n→∃j,i<j∧out.reverse[j]?=some m:=by
    intro i n m hi hm
    obtain ⟨hi1,hi2⟩:=List.getElem?_eq_some_iff.1 hi
    have hdec:out.reverse=out.reverse.take i++n::out.reverse.drop (i+1):=by
      rw [←hi2,←List.drop_eq_getElem_cons hi1,List.take_append_drop]
    have hdec2:out=(out.reverse.drop (i+1)).reverse++n::(out.reverse.take i).reverse:=by
      have:=congrArg List.reverse hdec
      rw [List.reverse_reverse] at this
      conv=>lhs;rw [this]
      simp
    have:=h1.inv.cl _ _ _ hdec2 m hm
    rw [List.mem_reverse] at this
    obtain ⟨j,hj⟩:=List.mem_iff_getElem?.1 this
    rw [List.getElem?_drop] at hj
    exact ⟨i+1+j,by omega,hj⟩
  have hnd:out.reverse.Nodup:=List.pairwise_reverse.2 (h1.inv.nd.imp fun h=>Ne.symm h)
  have hz:out.reverse[0]?=some 0:=by rw [hl0];simp
  refine ⟨hnd,fun x hx=>h1.inv.rg x (h1.inv.sub x (List.mem_reverse.1 hx)),hz,hup2,fun k x hk hx=>?_⟩
  have hxn:x∈new:=by rw [←e1];exact List.mem_reverse.1 (List.mem_of_getElem? hx)
  rcases h1.come x hxn with rfl| ⟨p,hp,h6⟩
  · have:=bZ hnd hx hz;omega
  · obtain ⟨i,hi⟩:=List.mem_iff_getElem?.1 (List.mem_reverse.2 (e1▸hp:p∈out))
    obtain ⟨j,hj,hj2⟩:=hup2 i p x hi h6
    have:=bZ hnd hj2 hx
    exact ⟨i,p,by omega,hi,h6⟩
end
def plF (ord:List Int):Nat→List (Int × Int)
  |0=>[]
  |i+1=>wX (plF ord i) (ord.getD i 0) i
theorem plF_at {ord:List Int} (hn:ord.Nodup):∀(i:Nat),i≤ord.length→∀(k:Nat) (x:Int),k<i→ord[k]?=some x→lkI (plF ord i) x=some (k:Int)
  |0,_,k,x,h,_=>absurd h (Nat.not_lt_zero _)
  | i +1,hi,k,x,h,hx=>by
    rw [plF,uX]
    have hd:ord[i]?=some (ord.getD i 0):=by rw [List.getD_eq_getElem?_getD,List.getElem?_eq_getElem (by omega)];rfl
    by_cases he:k=i
    · subst he
      rw [hx] at hd
      rw [if_pos (Option.some.inj hd)]
    · rw [if_neg (fun e:x=ord.getD i 0=>he (bZ hn hx (by rw [e];exact hd))),plF_at hn i (by omega) k x (by omega) hx]
def pF (m:List (Int × Int)) (t:Edg):Edg:=⟨(lkI m t.b).getD 0,t.a⟩
def gH (m:List (Int × Int)) (bl:Blc):Blc:=⟨bl.ps,bl.is,⟨bl.e.k,bl.e.a,bl.e.ns,lv (bl.e.to.l.map (pF m))⟩⟩
def bsF (D:List Blc) (ord:List Int):List Blc:=ord.map fun n=>gH (plF ord ord.length) (D.getD n.toNat wR)
section
variable {g:Grs} {la:List Int} {mine:Int} {D:List Blc} {A:List Ann} {ord:List Int}
structure AllOk (g:Grs) (la:List Int) (mine:Int) (D:List Blc) (A:List Ann):Prop where
  hd:Hd D A
  ok:∀i,i<D.length→∃bl an,D[i]?=some bl∧A[i]?=some an∧BOk g la mine A an bl
  zero:∃γ,A[0]?=some ⟨0,γ,[]⟩∧∀y∈γ,y<2
  ev:EvOk (D.flatMap bvs)
def rkA (A:List Ann) (n:Int):Nat:=(A.getD n.toNat ⟨0,[],[]⟩).rk
theorem xQ {α:Type} {l:List α} {i:Nat} {x d:α} (h:l[i]?=some x):l.getD i d=x:=by rw [List.getD_eq_getElem?_getD,h];rfl
theorem AllOk.at_ (h:AllOk g la mine D A) {n:Int} (hn:InR D n):∃bl an,D[n.toNat]?=some bl∧D.getD n.toNat wR=bl∧A[n.toNat]?=some an∧BOk g la mine A an bl:=by
  obtain ⟨bl,an,h1,h2,h3⟩:=h.ok n.toNat (by have:=hn.1;have:=hn.2;omega)
  exact ⟨bl,an,h1,xQ h1,h2,h3⟩
theorem AllOk.up (h:AllOk g la mine D A):UpE D (rkA A):=by
  intro n hn m hm
  obtain ⟨bl,an,h1,h2,h3,h4⟩:=h.at_ hn
  unfold edT at hm
  rw [h2] at hm
  obtain ⟨t,ht,rfl⟩:=List.mem_map.1 hm
  obtain ⟨j,am,e1,e2,e3,e4⟩:=h4.edges t ht
  have hj:=(List.getElem?_eq_some_iff.1 e2).1
  rw [←h.hd.len] at hj
  refine ⟨⟨by omega,by omega⟩,?_⟩
  unfold rkA
  rw [xQ h3,e1,Int.toNat_natCast,xQ e2]
  exact e3
theorem bsF_at {k:Nat} {bl:Blc} (h:(bsF D ord)[k]?=some bl):∃n,ord[k]?=some n∧bl=gH (plF ord ord.length) (D.getD n.toNat wR):=by
  unfold bsF at h
  rw [List.getElem?_map] at h
  obtain ⟨n,h1,h2⟩:=Option.map_eq_some_iff.1 h
  exact ⟨n,h1,h2.symm⟩
theorem bsF_of {k:Nat} {n:Int} (h:ord[k]?=some n):(bsF D ord)[k]?=some (gH (plF ord ord.length) (D.getD n.toNat wR)):=by
  unfold bsF
  rw [List.getElem?_map,h]
  rfl
theorem bsF_len:(bsF D ord).length=ord.length:=by unfold bsF;rw [List.length_map]
theorem bvs_ren {m:List (Int × Int)} {bl:Blc}:bvs (gH m bl)=bvs bl:=rfl
theorem OrdOk.pl (ho:OrdOk D ord) {k:Nat} {n:Int} (h:ord[k]?=some n):lkI (plF ord ord.length) n=some (k:Int):=plF_at ho.nd _ (Nat.le_refl _) k n (List.getElem?_eq_some_iff.1 h).1 h
theorem ord_edge (h:AllOk g la mine D A) (ho:OrdOk D ord) {k:Nat} {n:Int} {bl:Blc} {an:Ann} (hk:ord[k]?=some n) (hb:D[n.toNat]?=some bl) (ha:A[n.toNat]?=some an) (hok:BOk g la mine A an bl) {t:Edg} (ht:t∈bl.e.to.l) :
    ∃(j:Nat) (i:Nat) (am:Ann) (bm:Blc),t.b=(j:Int)∧k<i∧ord[i]?=some (j:Int)∧lkI (plF ord ord.length) t.b=some (i:Int)∧A[j]?=some am∧D[j]?=some bm∧bm.ps.l=am.ps∧t.a.l.length=am.ps.length∧∀y∈am.γ,2≤y→y∈an.γ∨y∈bvs bl:=by
  obtain ⟨j,am,e1,e2,e3,e4,e5,e6⟩:=hok.edges t ht
  have hj:j<D.length:=by rw [h.hd.len];exact (List.getElem?_eq_some_iff.1 e2).1
  obtain ⟨bm,hbm⟩:∃bm,D[j]?=some bm:=⟨_,List.getElem?_eq_getElem hj⟩
  obtain ⟨i,hi1,hi2⟩:=ho.up k n t.b hk (by unfold edT;rw [xQ hb];exact List.mem_map.2 ⟨t,ht,rfl⟩)
  exact ⟨j,i,am,bm,e1,hi1,e1▸hi2,ho.pl hi2,e2,hbm,h.hd.ps hbm e2,e4,e6⟩
theorem bs_there (h:AllOk g la mine D A) (ho:OrdOk D ord) (caps:Int):∀(k:Nat) (n:Int) (an:Ann),ord[k]?=some n→A[n.toNat]?=some an→∀y∈an.γ,2≤y→BS ⟨caps,lv (bsF D ord)⟩ k y:=by
  intro k
  induction k using Nat.strongRecOn with
  | _ k ih=>
    intro n an hk ha y hy h2
    rw [BS]
    refine ⟨?_,fun m hm bl hbl hgo=>?_⟩
    · rcases Nat.eq_zero_or_pos k with rfl|hpos
      · obtain ⟨γ,h3,h4⟩:=h.zero
        rw [ho.zero] at hk
        obtain rfl:=Option.some.inj hk
        rw [show ((0:Int)).toNat=0 from rfl,h3] at ha
        obtain rfl:=Option.some.inj ha
        have:=h4 y hy
        omega
      · exact hpos
    · obtain ⟨n',hn',rfl⟩:=bsF_at hbl
      obtain ⟨bl',an',e1,e2,e3,e4⟩:=h.at_ (ho.rg n' (List.mem_of_getElem? hn'))
      rw [e2] at hgo ⊢
      obtain ⟨t',ht',htb⟩:=hgo
      obtain ⟨t,ht,rfl⟩:=List.mem_map.1 (show t'∈bl'.e.to.l.map (pF _) from ht')
      obtain ⟨j,i,am,bm,q1,q2,q3,q4,q5,q6,q7,q8,q9⟩:=ord_edge h ho hn' e1 e3 e4 ht
      have:(i:Int)=(k:Int):=by
        have h5:(lkI (plF ord ord.length) t.b).getD 0=(k:Int):=htb
        rw [q4] at h5
        exact h5
      obtain rfl:i=k:=by omega
      rw [hk] at q3
      obtain rfl:=Option.some.inj q3
      rw [Int.toNat_natCast,q5] at ha
      obtain rfl:=Option.some.inj ha
      rcases q9 y hy h2 with h6|h6
      · exact .inr (ih m hm n' an' hn' e3 y h6 h2)
      · exact .inl (by rw [bvs_ren];exact h6)
theorem eK {S S':Int→Prop} {a:Atm} (h:atS g S a) (hS:∀y,2≤y→S y→S' y):atS g S' a:=by
  rcases h with ⟨h1,h2,h3,h4⟩|h
  · refine .inl ⟨h1,h2,h3,?_⟩
    rcases h4 with h4|h4
    · exact .inl h4
    · by_cases h5:a.n<2
      · exact .inl h5
      · exact .inr (hS _ (by omega) h4)
  · exact .inr h
theorem graph_gr (h:AllOk g la mine D A) (ho:OrdOk D ord):GrP g la ⟨mine,lv (bsF D ord)⟩:=by
  have hpos:0<ord.length:=(List.getElem?_eq_some_iff.1 ho.zero).1
  refine ⟨by show 0<(bsF D ord).length;rw [bsF_len];exact hpos,fun k bl hbl=>?_,?_⟩
  · obtain ⟨n,hn,rfl⟩:=bsF_at hbl
    obtain ⟨bl,an,e1,e2,e3,e4⟩:=h.at_ (ho.rg n (List.mem_of_getElem? hn))
    rw [e2]
    have hS:∀i y,2≤y→vH (·∈an.γ) bl i y→vH (BS ⟨mine,lv (bsF D ord)⟩ k) (gH (plF ord ord.length) bl) i y:=fun i y hy h5=>by
      rcases h5 with h5|h5
      · exact .inl (bs_there h ho mine k n an hn e3 y h5 hy)
      · exact .inr h5
    refine ⟨?_,⟨fun hk0=>?_,fun i x hx=>⟨(e4.ins i x hx).1,fun a ha=>eK ((e4.ins i x hx).2 a ha) (hS i)⟩,⟨e4.end_.lo,e4.end_.hi,e4.end_.a,?_,e4.end_.ns,e4.end_.up⟩,fun a ha=>eK (e4.ends a ha) (hS _),fun t' ht'=>?_⟩⟩
    · rcases Nat.eq_zero_or_pos k with hk|hk
      · exact .inl hk
      · obtain ⟨i,n',hi,hn',hx⟩:=ho.come k n hk hn
        obtain ⟨bl',an',q1,q2,q3,q4⟩:=h.at_ (ho.rg n' (List.mem_of_getElem? hn'))
        unfold edT at hx
        rw [q2] at hx
        obtain ⟨t,ht,rfl⟩:=List.mem_map.1 hx
        refine .inr ⟨i,_,hi,bsF_of hn',pF (plF ord ord.length) t,?_,?_⟩
        · rw [q2]
          exact List.mem_map.2 ⟨t,ht,rfl⟩
        · show (lkI _ t.b).getD 0=_
          rw [ho.pl hn]
          rfl
    · subst hk0
      rw [ho.zero] at hn
      obtain rfl:=Option.some.inj hn
      obtain ⟨γ,h3,h4⟩:=h.zero
      have:=h.hd.ps e1 h3
      exact this
    · show ((bl.e.to.l.map (pF _)).length:Int)=_
      rw [List.length_map]
      exact e4.end_.to
    · obtain ⟨t,ht,rfl⟩:=List.mem_map.1 (show t'∈bl.e.to.l.map (pF _) from ht')
      obtain ⟨j,i,am,bm,q1,q2,q3,q4,q5,q6,q7,q8,q9⟩:=ord_edge h ho hn e1 e3 e4 ht
      obtain ⟨j',am',r1,r2,r3,r4,r5,r6⟩:=e4.edges t ht
      have hb:(pF (plF ord ord.length) t).b=(i:Int):=by show (lkI _ t.b).getD 0=_;rw [q4];rfl
      have hil:=(List.getElem?_eq_some_iff.1 q3).1
      rw [hb]
      refine ⟨by omega,by show (i:Int)<((bsF D ord).length:Int);rw [bsF_len];omega,?_,fun a ha=>eK (r5 a ha) (hS _)⟩
      show t.a.l.length=((bsF D ord).getD (i:Int).toNat wR).ps.l.length
      rw [Int.toNat_natCast,xQ (bsF_of q3),Int.toNat_natCast,xQ q6,q8,←q7]
      rfl
  · have hfl:(bsF D ord).flatMap bvs=ord.flatMap fun n=>bvs (D.getD n.toNat wR):=by
      unfold bsF
      rw [List.flatMap_map]
      rfl
    show EvOk ((bsF D ord).flatMap bvs)
    rw [hfl]
    have hev:=h.ev
    have hmem:∀n∈ord,∀x∈bvs (D.getD n.toNat wR),x∈D.flatMap bvs:=fun n hn x hx=>by
      obtain ⟨bl,an,e1,e2,e3,e4⟩:=h.at_ (ho.rg n hn)
      rw [e2] at hx
      exact List.mem_flatMap.2 ⟨bl,List.mem_of_getElem? e1,hx⟩
    have hp:=List.pairwise_flatMap.1 hev.nd
    refine ⟨List.pairwise_flatMap.2 ⟨fun n hn=>?_,?_⟩,fun x hx=>?_⟩
    · obtain ⟨bl,an,e1,e2,e3,e4⟩:=h.at_ (ho.rg n hn)
      rw [e2]
      exact hp.1 bl (List.mem_of_getElem? e1)
    · refine ho.nd.imp_of_mem fun {a b} ha hb hne x hx y hy=>?_
      obtain ⟨bl,an,e1,e2,e3,e4⟩:=h.at_ (ho.rg a ha)
      obtain ⟨bl',an',e1',e2',e3',e4'⟩:=h.at_ (ho.rg b hb)
      rw [e2] at hx
      rw [e2'] at hy
      have ra:=ho.rg a ha
      have rb:=ho.rg b hb
      have hne2:a.toNat≠b.toNat:=fun e=>hne (by have:=ra.1;have:=rb.1;omega)
      obtain ⟨l1,rfl⟩:=List.getElem?_eq_some_iff.1 e1
      obtain ⟨l2,rfl⟩:=List.getElem?_eq_some_iff.1 e1'
      have hpw:=List.pairwise_iff_getElem.1 hp.2
      rcases Nat.lt_or_gt_of_ne hne2 with h5|h5
      · exact hpw _ _ l1 l2 h5 x hx y hy
      · exact fun e=>hpw _ _ l2 l1 h5 y hy x hx e.symm
    · obtain ⟨n,hn,hx⟩:=List.mem_flatMap.1 hx
      exact hev.rg x (hmem n hn x hx)
theorem sum_sub {α:Type} [DecidableEq α] (w:α→Nat):∀{l L:List α},l.Nodup→(∀x∈l,x∈L)→(l.map w).sum≤(L.map w).sum
  | [],L,_,_=>Nat.zero_le _
  | a ::l,L,hn,hs=>by
    rw [List.nodup_cons] at hn
    have h1:=List.perm_cons_erase (hs a (List.mem_cons_self ..))
    have h2:=sum_sub w hn.2 (L:=L.erase a) fun x hx=>by
      have hne:x≠a:=fun e=>hn.1 (e▸hx)
      exact (List.mem_erase_of_ne hne).2 (hs x (List.mem_cons_of_mem _ hx))
    have h3:=(h1.map w).sum_nat
    rw [List.map_cons,List.sum_cons] at h3 ⊢
    omega
theorem ps_edges:∀(l:List Int) (E:List Edg) (w:Int→Nat),l.Nodup→(∀n∈l,∃t∈E,t.b=n∧t.a.l.length=w n)→(l.map w).sum≤(E.map fun t=>t.a.l.length).sum
  | [],E,w,_,_=>Nat.zero_le _
  | n ::l,E,w,hn,hs=>by
    rw [List.nodup_cons] at hn
    obtain ⟨t,ht,h1,h2⟩:=hs n (List.mem_cons_self ..)
    obtain ⟨E1,E2,rfl⟩:=List.append_of_mem ht
    have h3:=ps_edges l (E1++E2) w hn.2 fun m hm=>by
      obtain ⟨t',ht',h4,h5⟩:=hs m (List.mem_cons_of_mem _ hm)
      refine ⟨t',?_,h4,h5⟩
      rcases List.mem_append.1 ht' with h6|h6
      · exact List.mem_append_left _ h6
      · rcases List.mem_cons.1 h6 with rfl|h6
        · exact absurd (h1.symm.trans h4▸hm) hn.1
        · exact List.mem_append_right _ h6
    simp only [List.map_append,List.map_cons,List.sum_append,List.sum_cons] at h3 ⊢
    omega
theorem sum_flat (D:List Blc):∀l:List Int,((l.flatMap fun n=>(D.getD n.toNat wR).e.to.l).map fun t=>t.a.l.length).sum≤(l.map fun n=>wB (D.getD n.toNat wR)).sum
  | []=>Nat.le_refl _
  | n ::l=>by
    rw [List.flatMap_cons,List.map_append,List.sum_append,List.map_cons,List.sum_cons]
    have h1:=sum_flat D l
    have h2:∀es:List Edg,(es.map fun t=>t.a.l.length).sum≤(es.map fun t=>1+t.a.l.length).sum:=fun es=>by
      induction es with
      |nil=>exact Nat.le_refl _
      |cons e es ih=>rw [List.map_cons,List.map_cons,List.sum_cons,List.sum_cons];omega
    have h3:=h2 (D.getD n.toNat wR).e.to.l
    unfold wB at h1 ⊢
    omega
theorem sum_add {α:Type} (f h:α→Nat) (l:List α):(l.map fun x=>f x+h x).sum=(l.map f).sum+(l.map h).sum:=by
  induction l with
  |nil=>rfl
  |cons a l ih=>rw [List.map_cons,List.map_cons,List.map_cons,List.sum_cons,List.sum_cons,List.sum_cons,ih];omega
theorem sum_range (D:List Blc):((List.range D.length).map fun i=>wB (D.getD i wR)).sum=wS D:=by
  unfold wS
  congr 1
  apply List.ext_getElem?
  intro i
  rw [List.getElem?_map,List.getElem?_map]
  by_cases hi:i<D.length
  · rw [List.getElem?_range hi,List.getElem?_eq_getElem hi]
    show some (wB (D.getD i wR))=_
    rw [xQ (List.getElem?_eq_getElem hi)]
    rfl
  · rw [List.getElem?_eq_none (by rw [List.length_range];omega),List.getElem?_eq_none (by omega)]
    rfl
theorem ord_sum (ho:OrdOk D ord):(ord.map fun n=>wB (D.getD n.toNat wR)).sum≤wS D:=by
  rw [←sum_range D]
  have h1:(ord.map fun n=>wB (D.getD n.toNat wR)).sum=((ord.map Int.toNat).map fun i=>wB (D.getD i wR)).sum:=by rw [List.map_map];rfl
  rw [h1]
  refine sum_sub _ ?_ fun x hx=>?_
  · unfold List.Nodup
    rw [List.pairwise_map]
    exact ho.nd.imp_of_mem fun {a b} ha hb hne e=>hne (by have:=(ho.rg a ha).1;have:=(ho.rg b hb).1;omega)
  · obtain ⟨n,hn,rfl⟩:=List.mem_map.1 hx
    obtain ⟨q1,q2⟩:=ho.rg n hn
    exact List.mem_range.2 (by omega)
theorem graph_size (h:AllOk g la mine D A) (ho:OrdOk D ord):grN ⟨mine,lv (bsF D ord)⟩≤2*wS D:=by
  have h1:grN ⟨mine,lv (bsF D ord)⟩=(ord.map fun n=>wB (D.getD n.toNat wR)+(D.getD n.toNat wR).ps.l.length).sum:=by
    unfold grN bsF
    show (List.map sL (List.map _ ord)).sum=_
    rw [List.map_map]
    congr 1
    apply List.map_congr_left
    intro n hn
    show sL (gH _ _)=_
    unfold sL wB gH lv
    simp only [List.map_map]
    have:(fun t:Edg=>1+t.a.l.length) ∘ pF (plF ord ord.length)=fun t=>1+t.a.l.length:=rfl
    rw [this]
    omega
  rw [h1,sum_add]
  have h2:=ord_sum ho
  obtain ⟨l,hl⟩:∃l,ord=0::l:=by
    cases ord with
    |nil=>exact absurd ho.zero (by simp)
    |cons a l=>have:=ho.zero;simp at this;exact ⟨l,by rw [this]⟩
  have hz:(D.getD ((0:Int)).toNat wR).ps.l.length=0:=by
    obtain ⟨γ,h3,h4⟩:=h.zero
    obtain ⟨bl,an,e1,e2,e3,e4⟩:=h.at_ (ho.rg 0 (by rw [hl];exact List.mem_cons_self ..))
    rw [e2,h.hd.ps e1 h3]
    rfl
  have h3:=ps_edges l (ord.flatMap fun n=>(D.getD n.toNat wR).e.to.l) (fun n=>(D.getD n.toNat wR).ps.l.length) (by have:=ho.nd;rw [hl,List.nodup_cons] at this;exact this.2) fun n hn=>by
    obtain ⟨k,hk⟩:=List.mem_iff_getElem?.1 hn
    have hk':ord[k+1]?=some n:=by rw [hl];exact hk
    obtain ⟨i,n',hi,hn',hx⟩:=ho.come (k+1) n (Nat.succ_pos _) hk'
    obtain ⟨bl',an',q1,q2,q3,q4⟩:=h.at_ (ho.rg n' (List.mem_of_getElem? hn'))
    unfold edT at hx
    rw [q2] at hx
    obtain ⟨t,ht,rfl⟩:=List.mem_map.1 hx
    obtain ⟨j,am,r1,r2,r3,r4,r5⟩:=q4.edges t ht
    refine ⟨t,List.mem_flatMap.2 ⟨n',List.mem_of_getElem? hn',by rw [q2];exact ht⟩,rfl,?_⟩
    have hj:j<D.length:=by rw [h.hd.len];exact (List.getElem?_eq_some_iff.1 r2).1
    show _=(D.getD t.b.toNat wR).ps.l.length
    rw [r1,Int.toNat_natCast,xQ (List.getElem?_eq_getElem hj),h.hd.ps (List.getElem?_eq_getElem hj) r2,r4]
  have h4:=sum_flat D ord
  have h5:(ord.map fun n=>(D.getD n.toNat wR).ps.l.length).sum=(l.map fun n=>(D.getD n.toNat wR).ps.l.length).sum:=by
    rw [hl,List.map_cons,List.sum_cons,hz,Nat.zero_add]
  omega
end
def dF (b:AN):List Blc:=(xH b 0 ([xS []],[])).1
def uR (D:List Blc):List Int:=(vC D (D.length+1) 0 ([],[])).2.reverse
def gbF (b:AN):List Blc:=bsF (dF b) (uR (dF b))
section
variable {g:Grs} {la:List Int} {mine:Int}
theorem fun_ok {b:AN} {p:Int} {s:CS} (h:xL g la mine b 1 (cs0 p)=some s) (h0:0≤p) (h1:p≤65536) (hz:szN b≤1000000):∃A,AllOk g la mine (dF b) A∧wS (dF b)≤2+5*szN b∧0<(dF b).length:=by
  have hd:Hd [xS []] [(⟨0,[0,1],[]⟩:Ann)]:=rfl
  obtain ⟨new,F,hold,⟨bl',hat,hbo⟩,hw⟩:=fill_ok (g:=g) (la:=la) (mine:=mine) b 1 (cs0 p) s 0 0 ([xS []],[]) [⟨0,[0,1],[]⟩] (xS []) ⟨0,[0,1],[]⟩ h hz (aY h0 h1) hd (fun n hn=>absurd hn (List.not_mem_nil)) ⟨rfl,rfl,fun i x h=>(by unfold xS lv at h;simp at h),rfl,fun y hy h2=>by
    simp only [cs0,List.mem_cons,List.not_mem_nil,or_false] at hy
    omega,Nat.le_refl _⟩
  have hlen:=F.len hd
  refine ⟨_,⟨F.hd,fun i hi=>?_,⟨[0,1],rfl,fun y hy=>by
    simp only [List.mem_cons,List.not_mem_nil,or_false] at hy
    omega⟩,?_⟩,?_,hlen⟩
  · cases i with
    |zero=>exact ⟨bl',_,hat,rfl,hbo⟩
    |succ i=>exact F.news (i+1) (by show 1≤i+1;omega) hi
  · have hp:=F.ever (.refl [])
    have he:=F.ev ⟨List.nodup_nil,fun x h=>absurd h (List.not_mem_nil)⟩
    exact ⟨hp.nodup_iff.2 he.nd,fun x hx=>he.rg x (hp.mem_iff.1 hx)⟩
  · have:wS [xS []]=2:=rfl
    have hw':wS (dF b)+3≤2+5*szN b:=hw
    omega
theorem aL {b:AN} {p:Int} {s:CS} (h:xL g la mine b 1 (cs0 p)=some s) (h0:0≤p) (h1:p≤65536) (hz:szN b≤1000000) :
    OrdOk (dF b) (uR (dF b))∧GrP g la ⟨mine,lv (gbF b)⟩∧grN ⟨mine,lv (gbF b)⟩≤4+10*szN b:=by
  obtain ⟨A,hA,hw,hpos⟩:=fun_ok h h0 h1 hz
  have ho:OrdOk (dF b) (uR (dF b)):=ord_ok hA.up hpos (Nat.lt_succ_self _)
  refine ⟨ho,graph_gr hA ho,?_⟩
  have:=graph_size hA ho
  show grN ⟨mine,lv (bsF (dF b) (uR (dF b)))⟩≤_
  omega
theorem qE:∀{l:List FN} {p p':Int},qF g la l p=some p'→0≤p→p≤65536→∀f∈l,∃(p:Int) (s:CS),0≤p∧p≤65536∧xL g la f.caps f.body 1 (cs0 p)=some s
  | [],p,p',_,_,_,f,hf=>absurd hf (List.not_mem_nil)
  | f ::l,p,p',h,h0,h1,f',hf=>by
    rw [qF] at h
    split at h
    · obtain ⟨s,hs,h2⟩:=Option.bind_eq_some_iff.1 h
      rcases List.mem_cons.1 hf with rfl|hf
      · exact ⟨p,s,h0,h1,hs⟩
      · have hok:=uE _ _ _ _ (aY h0 h1) hs
        exact qE h2 hok.p0 hok.p1 f' hf
    · cases h
end
mutual
theorem dI:∀(b:AN) (most:Int),sI b most<most→sI b most=szN b
  | .mk _ _ _ _ _ r a _ _ kids,most,h=>by
    rw [sI] at h ⊢
    rw [lU kids most _ h,szN]
    omega
theorem lU:∀(l:List AN) (most n:Int),vE l most n<most→vE l most n=n+xR l
  | [],most,n,h=>by rw [vE,xR];omega
  | b ::l,most,n,h=>by
    rw [vE] at h ⊢
    split at h
    · next hn=>
      rw [if_pos hn,lU l most _ h,xR]
      have h2:=lU l most _ h
      rw [h2] at h
      rw [dI b (most - n) (by omega)]
      omega
    · next hn=>exact absurd h hn
end
def szF (l:List FN):Nat:=(l.map fun f=>szN f.body).sum
theorem mO:∀(l:List FN) (most n:Int),vN l most n<most→vN l most n=n+szF l
  | [],most,n,h=>by rw [vN];unfold szF;simp
  | f ::l,most,n,h=>by
    rw [vN] at h ⊢
    split at h
    · next hn=>
      have h2:=mO l most _ h
      rw [if_pos hn,h2]
      rw [h2] at h
      rw [dI f.body (most - n) (by omega)]
      unfold szF
      rw [List.map_cons,List.sum_cons]
      omega
    · next hn=>exact absurd h hn
theorem jP {l:List FN} {f:FN} (h:f∈l):szN f.body≤szF l:=by
  induction l with
  |nil=>exact absurd h (List.not_mem_nil)
  | cons a l ih=>
    unfold szF at *
    rw [List.map_cons,List.sum_cons]
    rcases List.mem_cons.1 h with rfl|h
    · omega
    · have:=ih h;omega
def stG (f:Gr):Gr:=⟨f.caps,lv (f.bs.l.map stB)⟩
theorem bvs_st (b:Blc):bvs (stB b)=bvs b:=by
  unfold bvs stB lv
  simp only [List.map_map]
  rfl
theorem goes_st {b:Blc} {k:Nat}:goes b k→goes (stB b) k:=fun ⟨t,ht,e⟩=>⟨stE t,List.mem_map.2 ⟨t,ht,rfl⟩,e⟩
theorem st_goes {b:Blc} {k:Nat}:goes (stB b) k→goes b k:=fun ⟨t,ht,e⟩=>by
  obtain ⟨t',ht',rfl⟩:=List.mem_map.1 ht
  exact ⟨t',ht',e⟩
theorem st_at {f:Gr} {k:Nat} {bl:Blc} (h:f.bs.l[k]?=some bl):(stG f).bs.l[k]?=some (stB bl):=by
  show (f.bs.l.map stB)[k]?=_
  rw [List.getElem?_map,h]
  rfl
theorem BS_st {f:Gr}:∀(k:Nat) (x:Int),BS (stG f) k x→BS f k x:=by
  intro k
  induction k using Nat.strongRecOn with
  | _ k ih=>
    intro x h
    rw [BS] at h ⊢
    refine ⟨h.1,fun m hm bl hbl hg=>?_⟩
    rcases h.2 m hm (stB bl) (st_at hbl) (goes_st hg) with h1|h1
    · rw [bvs_st] at h1;exact .inl h1
    · exact .inr (ih m hm x h1)
theorem nowS_st {S:Int→Prop} {b:Blc} {i:Nat} {x:Int} (h:vH S (stB b) i x):vH S b i x:=by
  unfold vH at *
  have e:((stB b).is.l.take i).map Ins.x=(b.is.l.take i).map Ins.x:=by
    show ((b.is.l.map stI).take i).map Ins.x=_
    rw [←List.map_take,List.map_map]
    rfl
  rw [e] at h
  exact h
theorem blkN_st (b:Blc):sL (stB b)=sL b:=by
  unfold sL stB stN lv
  simp only [List.map_map,List.length_map]
  rfl
section
variable {g g':Grs} {la:List Int}
structure SameN (g g':Grs):Prop where
  ls:g'.ls.l=g.ls.l
  ts:g'.ts.l=g.ts.l
  xs:g'.xs.l=g.xs.l
  ss:g'.ss.l=g.ss.l
theorem form_same (hs:SameN g g') {mine:Int} {r:Stp} (h:FormP g la mine r):FormP g' la mine r:=by
  refine ⟨h.lo,h.hi,?_,h.want,h.ns,fun hk=>?_⟩
  · have:=h.num
    unfold rA at this ⊢
    rw [hs.ls,hs.ts]
    exact this
  · have:=h.lab hk
    unfold labP gT at this ⊢
    rw [hs.ls]
    exact this
theorem eJ (hs:SameN g g') {S S':Int→Prop} {a:Atm} (h:atS g S a) (hS:∀y,S y→S' y):atS g' S' a:=by
  unfold atS at *
  rw [hs.ss]
  rcases h with ⟨h1,h2,h3,h4⟩|h
  · exact .inl ⟨h1,h2,h3,h4.imp id (hS _)⟩
  · exact .inr h
theorem gr_st (hs:SameN g g') {f:Gr} (h:GrP g la (stG f)):GrP g' la f:=by
  have hl:(stG f).bs.l.length=f.bs.l.length:=List.length_map ..
  refine ⟨by rw [←hl];exact h.ne,fun k bl hbl=>?_,?_⟩
  · obtain ⟨h1,h2⟩:=h.blk k (stB bl) (st_at hbl)
    have hS:∀i y,vH (BS (stG f) k) (stB bl) i y→vH (BS f k) bl i y:=fun i y h3=>by
      have:=nowS_st h3
      rcases this with h4|h4
      · exact .inl (BS_st k y h4)
      · exact .inr h4
    have hil:(stB bl).is.l.length=bl.is.l.length:=List.length_map ..
    refine ⟨?_,⟨fun hk=>h2.first hk,fun i x hx=>?_,⟨h2.end_.lo,h2.end_.hi,h2.end_.a,?_,h2.end_.ns,h2.end_.up⟩,fun a ha=>eJ hs (h2.ends a ha) (by rw [hil];exact hS _),fun t ht=>?_⟩⟩
    · rcases h1 with h1| ⟨m,bm,h3,h4,h5⟩
      · exact .inl h1
      · have h4':(f.bs.l.map stB)[m]?=some bm:=h4
        rw [List.getElem?_map] at h4'
        obtain ⟨b',e1,rfl⟩:=Option.map_eq_some_iff.1 h4'
        exact .inr ⟨m,b',h3,e1,st_goes h5⟩
    · have hx':(stB bl).is.l[i]?=some (stI x):=by
        show (bl.is.l.map stI)[i]?=_
        rw [List.getElem?_map,hx]
        rfl
      obtain ⟨h3,h4⟩:=h2.ins i (stI x) hx'
      exact ⟨form_same hs ⟨h3.lo,h3.hi,h3.num,h3.want,h3.ns,h3.lab⟩,fun a ha=>eJ hs (h4 a ha) (hS i)⟩
    · have h3:=h2.end_.to
      have e:(stB bl).e.to.l.length=bl.e.to.l.length:=List.length_map ..
      rw [e] at h3
      exact h3
    · obtain ⟨h3,h4,h5,h6⟩:=h2.edges (stE t) (List.mem_map.2 ⟨t,ht,rfl⟩)
      rw [hl] at h4
      refine ⟨h3,h4,?_,fun a ha=>eJ hs (h6 a ha) (by rw [hil];exact hS _)⟩
      have e:((stG f).bs.l.getD (stE t).b.toNat wR).ps.l.length=(f.bs.l.getD t.b.toNat wR).ps.l.length:=by
        have hb:t.b.toNat<f.bs.l.length:=by
          have h3':(k:Int)<t.b:=h3
          have h4':t.b<f.bs.l.length:=h4
          omega
        show ((stG f).bs.l.getD t.b.toNat wR).ps.l.length=_
        rw [xQ (st_at (List.getElem?_eq_getElem hb)),xQ (List.getElem?_eq_getElem hb)]
        rfl
      rw [←e]
      exact h5
  · have h3:=h.ev
    have e:(stG f).bs.l.flatMap bvs=f.bs.l.flatMap bvs:=by
      show (f.bs.l.map stB).flatMap bvs=_
      rw [List.flatMap_map]
      congr 1
      funext b
      exact bvs_st b
    rw [e] at h3
    exact h3
theorem grN_st (f:Gr):grN (stG f)=grN f:=by
  unfold grN stG lv
  rw [List.map_map]
  congr 2
  funext b
  exact blkN_st b
theorem made_may {fl:List FN} (hs:SameN g g') (hm:MayN fl g) (hz:vN fl 1000 0<1000) (hf50:fl.length≤50) (hfs:g'.fs.l.map stG=fl.map fun f=>⟨f.caps,lv (gbF f.body)⟩):MayP g':=by
  obtain ⟨hA,p',hp'⟩:=hm
  have hsz:=mO fl 1000 0 hz
  rw [Int.zero_add] at hsz
  have hcaps:g'.fs.l.map Gr.caps=yW fl:=by
    have:=congrArg (List.map Gr.caps) hfs
    rw [List.map_map,List.map_map] at this
    exact this
  rw [yW] at hA
  have hall:=qE hp' (Int.le_refl _) (by decide)
  have hgr:∀f∈g'.fs.l,∃f'∈fl,stG f=⟨f'.caps,lv (gbF f'.body)⟩:=fun f hf=>by
    have:stG f∈g'.fs.l.map stG:=List.mem_map.2 ⟨f,hf,rfl⟩
    rw [hfs] at this
    obtain ⟨f',h1,h2⟩:=List.mem_map.1 this
    exact ⟨f',h1,h2.symm⟩
  refine ⟨?_,fun f hf=>?_,?_⟩
  · rw [hcaps]
    exact ⟨hA.pos,hA.top,hA.c0,by rw [hs.ls];exact hA.ls,by rw [hs.ts];exact hA.ts,by rw [hs.xs];exact hA.xs,by rw [hs.xs];exact hA.has,by rw [hs.ss];exact hA.ss,hA.caps⟩
  · rw [hcaps]
    obtain ⟨f',h1,h2⟩:=hgr f hf
    obtain ⟨p,s,h3,h4,h5⟩:=hall f' h1
    have:=jP h1
    refine gr_st hs ?_
    rw [h2]
    exact (aL h5 h3 h4 (by omega)).2.1
  · have h1:jD g'=((fl.map fun f=>(⟨f.caps,lv (gbF f.body)⟩:Gr)).map grN).sum:=by
      rw [←hfs,List.map_map]
      unfold jD
      congr 2
      funext f
      exact (grN_st f).symm
    rw [h1,List.map_map]
    have h2:∀l:List FN,(∀f∈l,f∈fl)→(l.map (grN ∘ fun f=>(⟨f.caps,lv (gbF f.body)⟩:Gr))).sum≤4*l.length+10*szF l:=by
      intro l
      induction l with
      |nil=>intro _;exact Nat.zero_le _
      | cons f l ih=>
        intro hl
        have h3:=ih fun f hf=>hl f (List.mem_cons_of_mem _ hf)
        obtain ⟨p,s,h4,h5,h6⟩:=hall f (hl f (List.mem_cons_self ..))
        have h7:=jP (hl f (List.mem_cons_self ..))
        have h8:=(aL h6 h4 h5 (by omega)).2.2
        have h9:szF (f::l)=szN f.body+szF l:=by unfold szF;rw [List.map_cons,List.sum_cons]
        rw [List.map_cons,List.sum_cons,List.length_cons,h9]
        have h10:(grN ∘ fun f:FN=>(⟨f.caps,lv (gbF f.body)⟩:Gr)) f=grN ⟨f.caps,lv (gbF f.body)⟩:=rfl
        omega
    have h3:=h2 fl fun f hf=>hf
    omega
end
inductive Vl
  |nil
  |num (n:Int)
  |txt (s:ByteArray)
  |fn (f:Int) (l:List Vl)
  |rc (ns:List Int) (l:List Vl)
  |tg (n:Int) (x:Vl)
  |cl (i:Nat)
  |ar (i:Nat)
def asNum:Vl→Option Int
  | .num n=>some n
  |_=>none
def asTxt:Vl→Option ByteArray
  | .txt s=>some s
  |_=>none
def asFn:Vl→Option (Int × List Vl)
  | .fn f l=>some (f,l)
  |_=>none
def asRc:Vl→Option (List Int × List Vl)
  | .rc ns l=>some (ns,l)
  |_=>none
def asTg:Vl→Option (Int × Vl)
  | .tg n x=>some (n,x)
  |_=>none
def asCl:Vl→Option Nat
  | .cl i=>some i
  |_=>none
def asAr:Vl→Option Nat
  | .ar i=>some i
  |_=>none
structure Wd where
  inp:ByteArray
  out:List Nat
  st:List (List Vl)
def i64w (n:Int):Int:=IntKind.i64.wrap n
def w63 (n:Int):Int:=nU .i64 (shlK .i64 n 1) 1
def tru (b:Bool):Int:=if b then 1 else 0
def opG (op a b:Int):Int:=
  if op=1 then i64w (a+b) else if op=2 then i64w (a - b) else if op=3 then i64w (a*b) else if op=4 then i64w (Int.tdiv a b) else if op=5 then Int.tmod a b
  else if op=6 then i64w (-a) else if op=7 then tru (decide (a=b)) else if op=8 then tru (decide (a<b)) else tru (decide (a=0))
def doF (op a b:Int):Option Int:=if op<1∨9<op then none else if w63 b=0∧(op=4∨op=5) then none else some (w63 (opG op (w63 a) (w63 b)))
def bsL (l:List Int) (x:Int) (i j:Nat):Nat:=
  if i<j then (if l.getD ((i+j) / 2) 0<x then bsL l x ((i+j) / 2+1) j else bsL l x i ((i+j) / 2)) else i
termination_by j - i
def bsI (l:List Int) (x:Int):Nat:=bsL l x 0 l.length
def bsB (l:List Int) (x:Int):Bool:=decide (bsI l x<l.length∧l.getD (bsI l x) 0=x)
theorem bsL_le (l:List Int) (x:Int) (i j:Nat) (h:i≤j):i≤bsL l x i j∧bsL l x i j≤j:=by
  fun_induction bsL l x i j with
  |case1 i j h1 h2 ih=>have:=ih (by omega);omega
  |case2 i j h1 h2 ih=>have:=ih (by omega);omega
  |case3 i j h1=>omega
theorem eD (l:List Int) (x:Int):bsI l x≤l.length:=(bsL_le l x 0 l.length (Nat.zero_le _)).2
inductive Rs
  |val (v:Vl) (w:Wd)
  |exn (s:ByteArray)
def yI (l:List Vl) (i:Nat):Vl:=l.getD i .nil
def stk (w:Wd):Rs:=.val .nil w
def vW (op:Int) (l:List Vl) (w:Wd):Rs:=
  match asTxt (yI l 0) with
  | some s=>
    if op=17 then .val (.num (bts s).length) w
    else if op=19 then
      match asTxt (yI l 1) with
      |some t=>if 4096<(bts s).length+(bts t).length then .exn eS else .val (.txt (s++t)) w
      |none=>stk w
    else
      match asNum (yI l 1) with
      |some i=>if i<0∨((bts s).length:Int)≤i then .exn eT else .val (.num ((bts s).getD i.toNat 0)) w
      |none=>stk w
  |none=>stk w
def vV (op:Int) (l:List Vl) (w:Wd):Rs:=
  if op=13 then
    match asNum (yI l 0) with
    |some n=>if n<0∨256<n then .exn eS else .val (.ar w.st.length) {w with st:=w.st++[List.replicate n.toNat (yI l 1)]}
    |none=>stk w
  else
    match asAr (yI l 0) with
    | some p=>
      if op=16 then .val (.num (w.st.getD p []).length) w
      else
        match asNum (yI l 1) with
        | some i=>
          if i<0∨((w.st.getD p []).length:Int)≤i then .exn eT
          else if op=14 then .val (yI (w.st.getD p []) i.toNat) w
          else .val (.num 0) {w with st:=w.st.set p ((w.st.getD p []).set i.toNat (yI l 2))}
        |none=>stk w
    |none=>stk w
def opF (op:Int) (l:List Vl) (w:Wd):Rs:=
  if op=10 then .val (.cl w.st.length) {w with st:=w.st++[[yI l 0]]}
  else if op=11 then
    match asCl (yI l 0) with
    |some p=>.val (yI (w.st.getD p []) 0) w
    |none=>stk w
  else if op=12 then
    match asCl (yI l 0) with
    |some p=>.val (.num 0) {w with st:=w.st.set p [yI l 1]}
    |none=>stk w
  else if op=17∨op=18∨op=19 then vW op l w
  else if op=13∨op=14∨op=15∨op=16 then vV op l w
  else
    match asNum (yI l 0),(if 1<l.length then asNum (yI l 1) else some 0) with
    | some a,some b=>
      if op=20 then (if eqS w.inp empS=true then .val (.num (-1)) w else .val (.num ((bts w.inp).getD 0 0)) {w with inp:=w.inp.extract 1 w.inp.size})
      else if op=21 then .val (.num 0) {w with out:=w.out++[(IntKind.u8.wrap a).toNat]}
      else match doF op a b with
        |some n=>.val (.num n) w
        |none=>.exn exnD
    |_,_=>stk w
def yH (r:Stp) (l:List Vl) (cs:List Vl) (w:Wd):Rs:=
  if r.k=1 then .val (yI l 0) w
  else if r.k=2 then opF r.n l w
  else if r.k=4 then .val (.fn r.n l) w
  else if r.k=5 then .val (yI cs r.n.toNat) w
  else if r.k=6 then .val (.rc r.ns.l l) w
  else if r.k=7 then
    match asRc (yI l 0) with
    |some (ns,xs)=>if bsB ns r.n then .val (.rc ns (xs.set (bsI ns r.n) (yI l 1))) w else .val (.rc (ns.insertIdx (bsI ns r.n) r.n) (xs.insertIdx (bsI ns r.n) (yI l 1))) w
    |none=>stk w
  else if r.k=8 then
    match asRc (yI l 0) with
    |some (ns,xs)=>if bsB ns r.n then .val (yI xs (bsI ns r.n)) w else stk w
    |none=>stk w
  else if r.k=9 then .val (.tg r.n (yI l 0)) w
  else if r.k=10 then
    match asTg (yI l 0) with
    |some (n,x)=>.val (.num n) w
    |none=>stk w
  else if r.k=11 then
    match asTg (yI l 0) with
    |some (n,x)=>.val x w
    |none=>stk w
  else if r.k=12 then
    match asTxt (yI l 0),asTxt (yI l 1) with
    |some s,some t=>.val (.num (tru (eqS s t))) w
    |_,_=>stk w
  else stk w
def tP (m:List (Int × Vl)) (k:Int) (v:Vl):List (Int × Vl):=
  if (m.find? (fun e=>e.1 == k)).isSome then m.map (fun e=>if e.1 == k then (k,v) else e) else m++[(k,v)]
def pget (m:List (Int × Vl)) (k:Int):Vl:=((m.find? (fun e=>e.1 == k)).map (·.2)).getD .nil
abbrev Clo:=Int × List Vl
structure Fm where
  c:Clo
  vs:List (Int × Vl)
  b:Nat
  i:Nat
  h:Option Clo
structure Mc where
  wd:Wd
  sk:List Fm
  fm:Fm
inductive Sr
  |go (m:Mc)
  |stop (kind:Int) (res:ByteArray) (wd:Wd)
def vJ (w:Wd):Sr:=.stop 4 ⟨#[]⟩ w
def vG (g:Grs) (f:Int) (b:Nat):Blc:=(g.fs.l.getD f.toNat gr0).bs.l.getD b wR
def uO (g:Grs) (m:Fm):Blc:=vG g m.c.1 m.b
def uJ (g:Grs) (fm:Fm) (a:Atm):Vl:=if a.k=1 then pget fm.vs a.n else if a.k=3 then .txt (g.ss.l.getD a.n.toNat default) else .num a.n
def xB (g:Grs) (fm:Fm) (l:List Atm):List Vl:=l.map (uJ g fm)
def nY (c:Clo) (x:Vl):Fm:=⟨c,[(0,.fn c.1 c.2),(1,x)],0,0,none⟩
def qR (f x:Vl) (w:Wd) (sk:List Fm):Sr:=
  match asFn f with
  |some c=>.go ⟨w,sk,nY c x⟩
  |none=>vJ w
def sH (n:Int) (w:Wd):List Fm→Option (List Fm × Clo)
  | []=>none
  | f::r=>match f.h with
    |some c=>some ({f with h:=none}::r,c)
    |none=>sH n w r
def raiseB:ByteArray:=⟨#[114,97,105,115,101,32]⟩
def uY (g:Grs) (n:Int) (w:Wd) (sk:List Fm):Sr:=
  if n<0∨(g.xs.l.length:Int)≤n then vJ w
  else match sH n w sk with
    |some (sk',c)=>.go ⟨w,sk',nY c (.num n)⟩
    |none=>.stop 1 (raiseB++g.xs.l.getD n.toNat default) w
end Go.Proofs.YtenlcdokaadobaaGreatDoor
namespace Go.Fw
open Go Go.RowKit
set_option linter.unusedVariables false
class TNi (P:Program) (t:TypeId):Prop where
  eq:∃d,P.underlying t=some d∧(match d with| .interface _=>true|_=>false)=false
class TIc (P:Program) (t:TypeId):Prop where
  eq:∃ms,P.underlying t=some (.interface ms)
section
variable {P:Program} {N:Nat} {l:List (Nat × Value)} {C:World→Prop} {d:Option Tmp} {T:TypeId} {pos:String} {af:Array Edge} {g:Option (Nat × Bool)}
theorem zY {t:TypeId} {x:Operand} {v:Value} [h:TNi P t] (hx:ev l x=some v):Ex P N l C ⟨d,.makeInterface t x,T,pos,af,g⟩ (.iface t v):=by
  intro a w hA _
  obtain ⟨u,h1,h2⟩:=h.eq
  cases u<;>simp_all [execOp,hA.ev hx,Instr.makeInterface,run_underlying h1]
theorem zL {xt t:TypeId} {x:Operand} {v:Value} [h:TNi P t] (hx:ev l x=some (.iface t v)):Ex P N l C ⟨d,.typeAssert x xt t true,T,pos,af,g⟩ (.tuple #[v,.bool true]):=by
  intro a w hA _
  obtain ⟨u,h1,h2⟩:=h.eq
  cases u<;>simp_all [execOp,hA.ev hx,Instr.typeAssert,run_underlying h1]
theorem tC {xt t s sz by_:Nat} {z:Value} {zs:List Value} {x:Operand} {v:Value} [h:TNi P t] [hi:TIf P t z zs sz by_] (hx:ev l x=some (.iface s v)) (hne:Nat.beq s t=false):Ex P N l C ⟨d,.typeAssert x xt t true,T,pos,af,g⟩ (.tuple #[z,.bool false]):=by
  intro a w hA _
  obtain ⟨u,h1,h2⟩:=h.eq
  obtain ⟨ti,h3,h4,h5,h6⟩:=hi.eq
  have hst:s≠t:=fun e=>by subst e;simp at hne
  cases u<;>simp_all [execOp,hA.ev hx,Instr.typeAssert,run_underlying h1,zeroValue,typeInfo]
theorem fM {xt t sz by_:Nat} {z:Value} {zs:List Value} {x:Operand} [h:TNi P t] [hi:TIf P t z zs sz by_] (hx:ev l x=some .nilIface):Ex P N l C ⟨d,.typeAssert x xt t true,T,pos,af,g⟩ (.tuple #[z,.bool false]):=by
  intro a w hA _
  obtain ⟨u,h1,h2⟩:=h.eq
  obtain ⟨ti,h3,h4,h5,h6⟩:=hi.eq
  cases u<;>simp_all [execOp,hA.ev hx,Instr.typeAssert,run_underlying h1,zeroValue,typeInfo]
theorem run_eqlI0 (w:World) (D:Nat) (t:TypeId) {ms:Array (String × TypeId)} (h:P.underlying t=some (.interface ms)):(Op.equalIn (D+1) t .nilIface .nilIface).run P w= .ok true w:=by
  simp [Op.equalIn,run_underlying h]
theorem run_eqlI1 (w:World) (D:Nat) (t s:TypeId) (v:Value) {ms:Array (String × TypeId)} (h:P.underlying t=some (.interface ms)):(Op.equalIn (D+1) t (.iface s v) .nilIface).run P w= .ok false w:=by
  simp [Op.equalIn,run_underlying h]
theorem ex_eqlI0 {t ty:TypeId} {x:Operand} [h:TIc P t] (hx:ev l x=some .nilIface):Ex P N l C ⟨d,.binOp .eql t x (.const .nilIface) ty,T,pos,af,g⟩ (.bool true):=by
  intro a w hA _
  obtain ⟨ms,h1⟩:=h.eq
  have e:a.eval (.const .nilIface)= .nilIface:=rfl
  have e2:(Op.equal t .nilIface .nilIface).run P w= .ok true w:=run_eqlI0 w 9999 t h1
  simp [execOp,hA.ev hx,e,eqGuard_nil_constR,binOp,e2]
theorem ex_eqlI1 {t ty s:TypeId} {v:Value} {x:Operand} [h:TIc P t] (hx:ev l x=some (.iface s v)):Ex P N l C ⟨d,.binOp .eql t x (.const .nilIface) ty,T,pos,af,g⟩ (.bool false):=by
  intro a w hA _
  obtain ⟨ms,h1⟩:=h.eq
  have e:a.eval (.const .nilIface)= .nilIface:=rfl
  have e2:(Op.equal t (.iface s v) .nilIface).run P w= .ok false w:=run_eqlI1 w 9999 t s v h1
  simp [execOp,hA.ev hx,e,eqGuard_at_iface,binOp,e2]
theorem aR {t ty:TypeId} {x y:Operand} {m n:ByteArray} [h:TSr P t] (hx:ev l x=some (.string m)) (hy:ev l y=some (.string n)) (hs:m.size+n.size≤9223372036854775807):Ex P N l C ⟨d,.binOp .add t x y ty,T,pos,af,g⟩ (.string (m++n)):=by
  intro a w hA _
  have h1:¬((m.size+n.size:Nat):Int) > IntKind.i64.max:=by
    have:IntKind.i64.max=9223372036854775807:=by decide
    rw [this];omega
  simp only [execOp,hA.ev hx,hA.ev hy,eqGuard_at_string,binOp,Op.stringOp,if_neg h1]
  rfl
theorem rB {t:TypeId} {x y:Operand} {s:ByteArray} {kd:IntKind} {m:Int} {i:Nat} [ht:TSr P t] (hx:ev l x=some (.string s)) (hy:ev l y=some (.int kd m)) (hk:m=(i:Int)) (hij:i≤s.size) :
    Ex P N l C ⟨d,.slice t x (some y) none none,T,pos,af,g⟩ (.string (s.extract i s.size)):=by
  intro a w hA _
  subst hk
  have h2:(i:Int)≤(s.size:Int):=by omega
  simp only [execOp,hA.ev hx,Instr.sliceAt,Sem.run_bind,run_underlying ht.eq,Result.andThen_ok,Instr.slice,Instr.sliceBounds,Option.map_some,Option.map_none,Sem.run_pure,hA.ev hy,Instr.sliceBound,asIntOf]
  simp [hij]
end
def frz (w0:World) (K:World→Prop):It where
  sat w F:=(∀b,F b→b<w.heap.size)∧∀w':World,Kp w0 noM w'→(∀b,F b→w'.heap[b]?=w.heap[b]?)→K w'
  loc:=fun {w w' F} ⟨h1,h2⟩ he=>⟨fun b hb=>by
    have h3:=he b hb
    rw [Array.getElem?_eq_getElem (h1 b hb)] at h3
    exact tQ h3,fun w2 hk h3=>h2 w2 hk fun b hb=>(h3 b hb).trans (he b hb)⟩
  lt:=fun ⟨h1,_⟩ b hb=>h1 b hb
  ext:=fun ⟨h1,h2⟩ he=>⟨fun b hb=>h1 b ((he b).2 hb),fun w' hk h3=>h2 w' hk fun b hb=>h3 b ((he b).1 hb)⟩
section
variable {w0 w w':World} {H L:List It} {K K1 K2:World→Prop}
theorem HS.frz (h:HS w0 noM H w) (hm:Go.Fw.frz w0 K∈H):K w:=
  let ⟨_,h1,h2⟩:=h.sat hm
  h2 w h.kp fun _ _=>rfl
theorem HS.frz1 (h:HS w0 noM (Go.Fw.frz w0 K::H) w):K w:=h.frz (.head _)
theorem HS.frz_nil (h:HS w0 noM H w) (hK:∀w,Kp w0 noM w→K w):HS w0 noM (Go.Fw.frz w0 K::H) w:=by
  obtain ⟨hk,F,hF,ho⟩:=h
  exact ⟨hk,F,⟨fun _=>False,F,fun b=>by simp,fun b hb=>hb.elim,⟨fun b hb=>hb.elim,fun w' hk _=>hK w' hk⟩,hF⟩,ho⟩
theorem HS.frz_all (h:HS w0 noM (all (L++[Go.Fw.frz w0 K])::H) w) (hK:∀w F,Hp w L F→K1 w):HS w0 noM (Go.Fw.frz w0 (fun w=>K1 w∧K w)::H) w:=
  h.conv .here fun F h1=>⟨fun b hb=>Hp.lt h1 b hb,fun w' hk h3=>by
    obtain ⟨F1,F2,hF,hd,h4,h5⟩:=Hp.append (Hp.loc h1 h3)
    obtain ⟨F3,F4,hG,hd',h6,h7⟩:=h5
    exact ⟨hK w' F1 h4,h6.2 w' hk fun _ _=>rfl⟩⟩
theorem HS.frz_it {it:It} (h:HS w0 noM (it::Go.Fw.frz w0 K::H) w) (hK:∀w F,it.sat w F→K1 w):HS w0 noM (Go.Fw.frz w0 (fun w=>K1 w∧K w)::H) w:=by
  have h1:HS w0 noM (all ([it]++[Go.Fw.frz w0 K])::H) w:=HS.shut (L:=[it]++[Go.Fw.frz w0 K]) h
  exact h1.frz_all fun w F ⟨F1,F2,hF,hd,h2,h3⟩=>hK w F1 h2
theorem HS.frz_own {T sz:Nat} {o:Option Addr} {n c:Nat} {xs:List Value} (h:HS w0 noM (own T sz o n c xs::Go.Fw.frz w0 K::H) w):HS w0 noM (Go.Fw.frz w0 (fun w=>Rd w o xs∧K w)::H) w:=
  h.frz_it fun w F h1=>Fw.own_rd h1
theorem yJ {j:Nat} {o:Option Addr} {xs:List Value} {v:Value} (hm:frz w0 K∈H) (hr:∀w,K w→Rd w o xs) (hv:xs[j]?=some v):Cl (HS w0 noM H) (sat o j) v:=
  fun w hH=>(hr w (hH.frz hm)).2 j v hv
end
def RdB (w:World) (p:Nat) (cs:List Value):Prop:=∀j u,cs[j]?=some u→w.cell? (bat p j)=some u
section
variable {w0 w w':World} {H L:List It} {K K1 K2:World→Prop}
theorem RdB.of_blk {p T:Nat} {cs:List Value} (h:w.heap[p]?=some (.cells cs.toArray T (0,0))):RdB w p cs:=fun j u hj=>by
  rw [bat,tV h]
  simpa using hj
theorem HS.frz_cb {b T:Nat} {cs:List Value} (h:HS w0 noM (cb b T cs::Go.Fw.frz w0 K::H) w):HS w0 noM (Go.Fw.frz w0 (fun w=>RdB w b cs∧K w)::H) w:=
  h.frz_it fun w F ⟨_,h1⟩=>RdB.of_blk h1
theorem wG {p j:Nat} {cs:List Value} {v:Value} (hm:frz w0 K∈H) (hr:∀w,K w→RdB w p cs) (hv:nth cs j=some v):Cl (HS w0 noM H) (bat p j) v:=
  fun w hH=>hr w (hH.frz hm) j v (by rw [←pJ];exact hv)
end
end Go.Fw
namespace Go.Proofs.YtenlcdokaadobaaGreatDoor
open Go Go.Fw
set_option linter.unusedVariables false
structure Cx where
  K:World→Prop
  ad:List (Nat × Bool)
  bd:Nat
  nf:Nat
def iok (n:Int):Prop:=-9223372036854775808≤n∧n≤9223372036854775807
def vY (T p:Nat):Value:=.iface T (.pointer (some (bat p 0)))
mutual
def RV (c:Cx):Vl→Value→Prop
  | .nil,v=>v= .nilIface
  | .num n,v=>v= .iface 2 (.int .i64 n)∧iok n
  | .txt s,v=>v= .iface 9 (.string s)∧s.size≤4096
  | .fn f l,v=>∃p o k vs,v=vY 79 p∧(0≤f∧f<c.nf)∧(∀w,c.K w→RdB w p [.int .i64 f,.slice o l.length k])∧(∀w,c.K w→Rd w o vs)∧RVs c l vs
  | .rc ns l,v=>∃p on cn ol cl vs,v=vY 194 p∧(ns.length=l.length∧ns.length≤c.bd∧ns.length≤cn∧cn≤maxLen∧l.length≤cl∧cl≤maxLen)∧(∀w,c.K w→RdB w p [.slice on ns.length cn,.slice ol l.length cl])∧(∀w,c.K w→Rd w on (flat Fw.encI ns))∧(∀w,c.K w→Rd w ol vs)∧RVs c l vs
  | .tg n x,v=>∃p u,v=vY 202 p∧iok n∧(∀w,c.K w→RdB w p [.int .i64 n,u])∧RV c x u
  | .cl i,v=>∃p,v=vY 232 p∧c.ad[i]?=some (p,true)
  | .ar i,v=>∃p,v=vY 243 p∧c.ad[i]?=some (p,false)
def RVs (c:Cx):List Vl→List Value→Prop
  | [],vs=>vs=[]
  |x::l,vs=>∃v r,vs=v::r∧RV c x v∧RVs c l r
end
structure Cx.le (c d:Cx):Prop where
  K:∀w,d.K w→c.K w
  ad:∃t,d.ad=c.ad++t
  bd:c.bd≤d.bd
  nf:c.nf=d.nf
theorem Cx.le_refl (c:Cx):c.le c:=⟨fun _ h=>h,⟨[],by simp⟩,Nat.le_refl _,rfl⟩
theorem Cx.le.trans {c d e:Cx} (h:c.le d) (h':d.le e):c.le e:=by
  obtain ⟨t,ht⟩:=h.ad
  obtain ⟨t',ht'⟩:=h'.ad
  exact ⟨fun w hw=>h.K w (h'.K w hw),⟨t++t',by rw [ht',ht,List.append_assoc]⟩,Nat.le_trans h.bd h'.bd,h.nf.trans h'.nf⟩
theorem Cx.le.at {c d:Cx} (h:c.le d) {i:Nat} {e:Nat × Bool} (hi:c.ad[i]?=some e):d.ad[i]?=some e:=by
  obtain ⟨t,ht⟩:=h.ad
  rw [ht,List.getElem?_append_left (List.getElem?_eq_some_iff.1 hi).1]
  exact hi
mutual
theorem RV.mono {c d:Cx} (h:c.le d):∀(x:Vl) (v:Value),RV c x v→RV d x v
  | .nil,v,hv=>by rw [RV] at hv ⊢;exact hv
  | .num n,v,hv=>by rw [RV] at hv ⊢;exact hv
  | .txt s,v,hv=>by rw [RV] at hv ⊢;exact hv
  | .fn f l,v,hv=>by
    rw [RV] at hv ⊢
    obtain ⟨p,o,k,vs,h1,h2,h3,h4,h5⟩:=hv
    exact ⟨p,o,k,vs,h1,h.nf▸h2,fun w hw=>h3 w (h.K w hw),fun w hw=>h4 w (h.K w hw),RVs.mono h l vs h5⟩
  | .rc ns l,v,hv=>by
    rw [RV] at hv ⊢
    obtain ⟨p,on,cn,ol,cl,vs,h1,h2,h3,h4,h5,h6⟩:=hv
    exact ⟨p,on,cn,ol,cl,vs,h1,⟨h2.1,Nat.le_trans h2.2.1 h.bd,h2.2.2⟩,fun w hw=>h3 w (h.K w hw),fun w hw=>h4 w (h.K w hw),fun w hw=>h5 w (h.K w hw),RVs.mono h l vs h6⟩
  | .tg n x,v,hv=>by
    rw [RV] at hv ⊢
    obtain ⟨p,u,h1,h2,h3,h4⟩:=hv
    exact ⟨p,u,h1,h2,fun w hw=>h3 w (h.K w hw),RV.mono h x u h4⟩
  | .cl i,v,hv=>by
    rw [RV] at hv ⊢
    obtain ⟨p,h1,h2⟩:=hv
    exact ⟨p,h1,h.at h2⟩
  | .ar i,v,hv=>by
    rw [RV] at hv ⊢
    obtain ⟨p,h1,h2⟩:=hv
    exact ⟨p,h1,h.at h2⟩
theorem RVs.mono {c d:Cx} (h:c.le d):∀(l:List Vl) (vs:List Value),RVs c l vs→RVs d l vs
  | [],vs,hv=>by rw [RVs] at hv ⊢;exact hv
  | x::l,vs,hv=>by
    rw [RVs] at hv ⊢
    obtain ⟨v,r,h1,h2,h3⟩:=hv
    exact ⟨v,r,h1,RV.mono h x v h2,RVs.mono h l r h3⟩
end
theorem RV.one {c:Cx} {x:Vl} {v:Value} (h:RV c x v):v.oneCell'=true:=by
  cases x<;>rw [RV] at h
  · rw [h];rfl
  · rw [h.1];rfl
  · rw [h.1];rfl
  · obtain ⟨p,o,k,vs,h1,_⟩:=h;rw [h1];rfl
  · obtain ⟨p,on,cn,ol,cl,vs,h1,_⟩:=h;rw [h1];rfl
  · obtain ⟨p,u,h1,_⟩:=h;rw [h1];rfl
  · obtain ⟨p,h1,_⟩:=h;rw [h1];rfl
  · obtain ⟨p,h1,_⟩:=h;rw [h1];rfl
def NotT (T:TypeId) (v:Value):Prop:=v= .nilIface∨∃s u,v= .iface s u∧Nat.beq s T=false
instance:TNi Tryz.prog 2:=⟨_,Tryz.underlying2,rfl⟩
instance:TNi Tryz.prog 9:=⟨_,Tryz.underlying9,rfl⟩
instance:TNi Tryz.prog 79:=⟨_,Tryz.underlying79,rfl⟩
instance:TNi Tryz.prog 194:=⟨_,Tryz.underlying194,rfl⟩
instance:TNi Tryz.prog 202:=⟨_,Tryz.underlying202,rfl⟩
instance:TNi Tryz.prog 232:=⟨_,Tryz.underlying232,rfl⟩
instance:TNi Tryz.prog 243:=⟨_,Tryz.underlying243,rfl⟩
instance:TIc Tryz.prog 137:=⟨_,Tryz.underlying137⟩
theorem yC {P:Program} {N:Nat} {l:List (Nat × Value)} {C:World→Prop} {d:Option Tmp} {T:TypeId} {pos:String} {af:Array Edge} {g:Option (Nat × Bool)} {xt t sz by_:Nat} {z:Value} {zs:List Value} {x:Operand} {v:Value} [h:TNi P t] [hi:TIf P t z zs sz by_] (hx:ev l x=some v) (hn:NotT t v) :
    Ex P N l C ⟨d,.typeAssert x xt t true,T,pos,af,g⟩ (.tuple #[z,.bool false]):=by
  rcases hn with rfl| ⟨s,u,rfl,hb⟩
  · exact fM hx
  · exact tC hx hb
theorem RV.asNum {c:Cx} {x:Vl} {v:Value} (h:RV c x v):(∃n,asNum x=some n∧v= .iface 2 (.int .i64 n)∧iok n)∨(asNum x=none∧NotT 2 v):=by
  cases x<;>rw [RV] at h
  · exact .inr ⟨rfl,.inl h⟩
  · exact .inl ⟨_,rfl,h⟩
  · exact .inr ⟨rfl,.inr ⟨_,_,h.1,rfl⟩⟩
  · obtain ⟨p,o,k,vs,h1,_⟩:=h;exact .inr ⟨rfl,.inr ⟨_,_,h1,rfl⟩⟩
  · obtain ⟨p,on,cn,ol,cl,vs,h1,_⟩:=h;exact .inr ⟨rfl,.inr ⟨_,_,h1,rfl⟩⟩
  · obtain ⟨p,u,h1,_⟩:=h;exact .inr ⟨rfl,.inr ⟨_,_,h1,rfl⟩⟩
  · obtain ⟨p,h1,_⟩:=h;exact .inr ⟨rfl,.inr ⟨_,_,h1,rfl⟩⟩
  · obtain ⟨p,h1,_⟩:=h;exact .inr ⟨rfl,.inr ⟨_,_,h1,rfl⟩⟩
theorem RV.asTxt {c:Cx} {x:Vl} {v:Value} (h:RV c x v):(∃s,asTxt x=some s∧v= .iface 9 (.string s)∧s.size≤4096)∨(asTxt x=none∧NotT 9 v):=by
  cases x<;>rw [RV] at h
  · exact .inr ⟨rfl,.inl h⟩
  · exact .inr ⟨rfl,.inr ⟨_,_,h.1,rfl⟩⟩
  · exact .inl ⟨_,rfl,h⟩
  · obtain ⟨p,o,k,vs,h1,_⟩:=h;exact .inr ⟨rfl,.inr ⟨_,_,h1,rfl⟩⟩
  · obtain ⟨p,on,cn,ol,cl,vs,h1,_⟩:=h;exact .inr ⟨rfl,.inr ⟨_,_,h1,rfl⟩⟩
  · obtain ⟨p,u,h1,_⟩:=h;exact .inr ⟨rfl,.inr ⟨_,_,h1,rfl⟩⟩
  · obtain ⟨p,h1,_⟩:=h;exact .inr ⟨rfl,.inr ⟨_,_,h1,rfl⟩⟩
  · obtain ⟨p,h1,_⟩:=h;exact .inr ⟨rfl,.inr ⟨_,_,h1,rfl⟩⟩
def FnR (c:Cx) (f:Int) (l:List Vl) (p:Nat):Prop:=∃o k vs,(0≤f∧f<c.nf)∧(∀w,c.K w→RdB w p [.int .i64 f,.slice o l.length k])∧(∀w,c.K w→Rd w o vs)∧RVs c l vs
theorem FnR.rv {c:Cx} {f:Int} {l:List Vl} {p:Nat} (h:FnR c f l p):RV c (.fn f l) (vY 79 p):=by
  obtain ⟨o,k,vs,h1,h2,h3,h4⟩:=h
  rw [RV]
  exact ⟨p,o,k,vs,rfl,h1,h2,h3,h4⟩
theorem FnR.mono {c d:Cx} (h:c.le d) {f:Int} {l:List Vl} {p:Nat} (hf:FnR c f l p):FnR d f l p:=by
  obtain ⟨o,k,vs,h1,h2,h3,h4⟩:=hf
  exact ⟨o,k,vs,h.nf▸h1,fun w hw=>h2 w (h.K w hw),fun w hw=>h3 w (h.K w hw),RVs.mono h _ _ h4⟩
theorem RV.asFn {c:Cx} {x:Vl} {v:Value} (h:RV c x v):(∃f l p,asFn x=some (f,l)∧v=vY 79 p∧FnR c f l p)∨(asFn x=none∧NotT 79 v):=by
  cases x<;>rw [RV] at h
  · exact .inr ⟨rfl,.inl h⟩
  · exact .inr ⟨rfl,.inr ⟨_,_,h.1,rfl⟩⟩
  · exact .inr ⟨rfl,.inr ⟨_,_,h.1,rfl⟩⟩
  · obtain ⟨p,o,k,vs,h1,h2⟩:=h;exact .inl ⟨_,_,p,rfl,h1,o,k,vs,h2⟩
  · obtain ⟨p,on,cn,ol,cl,vs,h1,_⟩:=h;exact .inr ⟨rfl,.inr ⟨_,_,h1,rfl⟩⟩
  · obtain ⟨p,u,h1,_⟩:=h;exact .inr ⟨rfl,.inr ⟨_,_,h1,rfl⟩⟩
  · obtain ⟨p,h1,_⟩:=h;exact .inr ⟨rfl,.inr ⟨_,_,h1,rfl⟩⟩
  · obtain ⟨p,h1,_⟩:=h;exact .inr ⟨rfl,.inr ⟨_,_,h1,rfl⟩⟩
theorem RV.asRc {c:Cx} {x:Vl} {v:Value} (h:RV c x v):(∃ns l p on cn ol cl vs,asRc x=some (ns,l)∧v=vY 194 p∧(ns.length=l.length∧ns.length≤c.bd∧ns.length≤cn∧cn≤maxLen∧l.length≤cl∧cl≤maxLen)∧(∀w,c.K w→RdB w p [.slice on ns.length cn,.slice ol l.length cl])∧(∀w,c.K w→Rd w on (flat Fw.encI ns))∧(∀w,c.K w→Rd w ol vs)∧RVs c l vs)∨(asRc x=none∧NotT 194 v):=by
  cases x<;>rw [RV] at h
  · exact .inr ⟨rfl,.inl h⟩
  · exact .inr ⟨rfl,.inr ⟨_,_,h.1,rfl⟩⟩
  · exact .inr ⟨rfl,.inr ⟨_,_,h.1,rfl⟩⟩
  · obtain ⟨p,o,k,vs,h1,h2⟩:=h;exact .inr ⟨rfl,.inr ⟨_,_,h1,rfl⟩⟩
  · obtain ⟨p,on,cn,ol,cl,vs,h1,h2⟩:=h;exact .inl ⟨_,_,p,on,cn,ol,cl,vs,rfl,h1,h2⟩
  · obtain ⟨p,u,h1,_⟩:=h;exact .inr ⟨rfl,.inr ⟨_,_,h1,rfl⟩⟩
  · obtain ⟨p,h1,_⟩:=h;exact .inr ⟨rfl,.inr ⟨_,_,h1,rfl⟩⟩
  · obtain ⟨p,h1,_⟩:=h;exact .inr ⟨rfl,.inr ⟨_,_,h1,rfl⟩⟩
theorem RV.asTg {c:Cx} {x:Vl} {v:Value} (h:RV c x v):(∃n y p u,asTg x=some (n,y)∧v=vY 202 p∧iok n∧(∀w,c.K w→RdB w p [.int .i64 n,u])∧RV c y u)∨(asTg x=none∧NotT 202 v):=by
  cases x<;>rw [RV] at h
  · exact .inr ⟨rfl,.inl h⟩
  · exact .inr ⟨rfl,.inr ⟨_,_,h.1,rfl⟩⟩
  · exact .inr ⟨rfl,.inr ⟨_,_,h.1,rfl⟩⟩
  · obtain ⟨p,o,k,vs,h1,h2⟩:=h;exact .inr ⟨rfl,.inr ⟨_,_,h1,rfl⟩⟩
  · obtain ⟨p,on,cn,ol,cl,vs,h1,h2⟩:=h;exact .inr ⟨rfl,.inr ⟨_,_,h1,rfl⟩⟩
  · obtain ⟨p,u,h1,h2⟩:=h;exact .inl ⟨_,_,p,u,rfl,h1,h2⟩
  · obtain ⟨p,h1,_⟩:=h;exact .inr ⟨rfl,.inr ⟨_,_,h1,rfl⟩⟩
  · obtain ⟨p,h1,_⟩:=h;exact .inr ⟨rfl,.inr ⟨_,_,h1,rfl⟩⟩
theorem RV.asCl {c:Cx} {x:Vl} {v:Value} (h:RV c x v):(∃i p,asCl x=some i∧v=vY 232 p∧c.ad[i]?=some (p,true))∨(asCl x=none∧NotT 232 v):=by
  cases x<;>rw [RV] at h
  · exact .inr ⟨rfl,.inl h⟩
  · exact .inr ⟨rfl,.inr ⟨_,_,h.1,rfl⟩⟩
  · exact .inr ⟨rfl,.inr ⟨_,_,h.1,rfl⟩⟩
  · obtain ⟨p,o,k,vs,h1,h2⟩:=h;exact .inr ⟨rfl,.inr ⟨_,_,h1,rfl⟩⟩
  · obtain ⟨p,on,cn,ol,cl,vs,h1,h2⟩:=h;exact .inr ⟨rfl,.inr ⟨_,_,h1,rfl⟩⟩
  · obtain ⟨p,u,h1,h2⟩:=h;exact .inr ⟨rfl,.inr ⟨_,_,h1,rfl⟩⟩
  · obtain ⟨p,h1,h2⟩:=h;exact .inl ⟨_,p,rfl,h1,h2⟩
  · obtain ⟨p,h1,_⟩:=h;exact .inr ⟨rfl,.inr ⟨_,_,h1,rfl⟩⟩
theorem RV.asAr {c:Cx} {x:Vl} {v:Value} (h:RV c x v):(∃i p,asAr x=some i∧v=vY 243 p∧c.ad[i]?=some (p,false))∨(asAr x=none∧NotT 243 v):=by
  cases x<;>rw [RV] at h
  · exact .inr ⟨rfl,.inl h⟩
  · exact .inr ⟨rfl,.inr ⟨_,_,h.1,rfl⟩⟩
  · exact .inr ⟨rfl,.inr ⟨_,_,h.1,rfl⟩⟩
  · obtain ⟨p,o,k,vs,h1,h2⟩:=h;exact .inr ⟨rfl,.inr ⟨_,_,h1,rfl⟩⟩
  · obtain ⟨p,on,cn,ol,cl,vs,h1,h2⟩:=h;exact .inr ⟨rfl,.inr ⟨_,_,h1,rfl⟩⟩
  · obtain ⟨p,u,h1,h2⟩:=h;exact .inr ⟨rfl,.inr ⟨_,_,h1,rfl⟩⟩
  · obtain ⟨p,h1,h2⟩:=h;exact .inr ⟨rfl,.inr ⟨_,_,h1,rfl⟩⟩
  · obtain ⟨p,h1,h2⟩:=h;exact .inl ⟨_,p,rfl,h1,h2⟩
def RsV (c:Cx) (r:Rs) (v:Value):Prop:=
  match r with
  | .val x _=>∃u,RV c x u∧v= .tuple #[u,.string empS]
  | .exn s=>v= .tuple #[.nilIface,.string s]
theorem RVs.len {c:Cx}:∀{l:List Vl} {vs:List Value},RVs c l vs→vs.length=l.length
  | [],vs,h=>by rw [RVs] at h;rw [h];rfl
  | x::l,vs,h=>by
    rw [RVs] at h
    obtain ⟨v,r,h1,h2,h3⟩:=h
    rw [h1,List.length_cons,List.length_cons,h3.len]
theorem RVs.at {c:Cx}:∀{l:List Vl} {vs:List Value} {i:Nat} {x:Vl},RVs c l vs→l[i]?=some x→∃v,vs[i]?=some v∧RV c x v
  | [],vs,i,x,h,hi=>by simp at hi
  | y :: l, vs,i,x,h,hi=>by
    rw [RVs] at h
    obtain ⟨v,r,rfl,h2,h3⟩:=h
    cases i with
    | zero => obtain rfl:y=x:=by simpa using hi
              exact ⟨v,rfl,h2⟩
    |succ i=>exact h3.at (i:=i) (by simpa using hi)
theorem RVs.get0 {c:Cx} {l:List Vl} {vs:List Value} {i:Nat} (h:RVs c l vs) (hi:i<l.length):∃v,vs[i]?=some v∧RV c (yI l i) v:=by
  have h1:l[i]?=some (yI l i):=by
    unfold yI
    rw [List.getD_eq_getElem?_getD,List.getElem?_eq_getElem hi]
    rfl
  exact h.at h1
theorem RVs.all {c:Cx} {l:List Vl} {vs:List Value} (h:RVs c l vs):vs.all (·.oneCell')=true:=by
  induction l generalizing vs with
  |nil=>rw [RVs] at h;rw [h];rfl
  | cons x l ih=>
    rw [RVs] at h
    obtain ⟨v,r,rfl,h2,h3⟩:=h
    rw [List.all_cons,h2.one,ih h3]
    rfl
theorem RVs.append {c:Cx}:∀{l l':List Vl} {vs vs':List Value},RVs c l vs→RVs c l' vs'→RVs c (l++l') (vs++vs')
  | [],l',vs,vs',h,h'=>by rw [RVs] at h;rw [h];exact h'
  | x::l,l',vs,vs',h,h'=>by
    rw [RVs] at h
    obtain ⟨v,r,rfl,h2,h3⟩:=h
    rw [List.cons_append,List.cons_append,RVs]
    exact ⟨v,r++vs',rfl,h2,h3.append h'⟩
theorem RVs.nil {c:Cx}:RVs c [] []:=by rw [RVs]
theorem RVs.one_ {c:Cx} {x:Vl} {v:Value} (h:RV c x v):RVs c [x] [v]:=by rw [RVs];exact ⟨v,[],rfl,h,RVs.nil⟩
theorem RVs.mk {c:Cx}:∀{l:List Vl} {vs:List Value},vs.length=l.length→(∀(i:Nat) (x:Vl) (v:Value),l[i]?=some x→vs[i]?=some v→RV c x v)→RVs c l vs
  | [],vs,hl,h=>by rw [RVs];exact List.length_eq_zero_iff.1 hl
  |x::l,[],hl,h=>by simp at hl
  | x::l,v::r,hl,h=>by
    rw [RVs]
    exact ⟨v,r,rfl,h 0 x v rfl rfl,RVs.mk (by simpa using hl) fun i y u hi hu=>h (i+1) y u (by simpa using hi) (by simpa using hu)⟩
theorem RVs.set {c:Cx} {l:List Vl} {vs:List Value} {i:Nat} {x:Vl} {v:Value} (h:RVs c l vs) (hx:RV c x v):RVs c (l.set i x) (vs.set i v):=by
  refine RVs.mk (by rw [List.length_set,List.length_set,h.len]) fun j y u hy hu=>?_
  by_cases e:i=j
  · subst e
    rw [List.getElem?_set] at hy hu
    simp only [if_true] at hy hu
    split at hy
    · split at hu
      · cases hy;cases hu;exact hx
      · cases hu
    · cases hy
  · rw [List.getElem?_set_ne e] at hy hu
    obtain ⟨u',h1,h2⟩:=h.at hy
    rw [hu] at h1
    cases h1
    exact h2
theorem ins_eq {α:Type} (x:α):∀(l:List α) (i:Nat),i≤l.length→l.insertIdx i x=l.take i++[x]++l.drop i
  |l,0,_=>by simp
  | [],i+1,h=>by simp at h
  | y::l,i+1,h=>by
    have:=ins_eq x l i (by simpa using h)
    simp only [List.insertIdx_succ_cons,this,List.take_succ_cons,List.drop_succ_cons,List.cons_append]
theorem RVs.ins {c:Cx} {l:List Vl} {vs:List Value} {i:Nat} {x:Vl} {v:Value} (h:RVs c l vs) (hx:RV c x v) (hi:i≤l.length):RVs c (l.insertIdx i x) (vs.take i++[v]++vs.drop i):=by
  rw [ins_eq x l i hi]
  refine RVs.append (RVs.append ?_ (RVs.one_ hx)) ?_
  · refine RVs.mk (by rw [List.length_take,List.length_take,h.len]) fun j y u hy hu=>?_
    rw [List.getElem?_take] at hy hu
    split at hy
    · rename_i hlt
      rw [if_pos hlt] at hu
      obtain ⟨u',h1,h2⟩:=h.at hy
      rw [hu] at h1
      cases h1
      exact h2
    · cases hy
  · refine RVs.mk (by rw [List.length_drop,List.length_drop,h.len]) fun j y u hy hu=>?_
    rw [List.getElem?_drop] at hy hu
    obtain ⟨u',h1,h2⟩:=h.at hy
    rw [hu] at h1
    cases h1
    exact h2
theorem RVs.rep {c:Cx} {x:Vl} {v:Value} (h:RV c x v) (n:Nat):RVs c (List.replicate n x) (List.replicate n v):=
  RVs.mk (by simp) fun i y u hy hu=>by
    rw [List.getElem?_replicate] at hy hu
    split at hy
    · rename_i hlt
      rw [if_pos hlt] at hu
      cases hy;cases hu
      exact h
    · cases hy
inductive Ob
  |cell (v:Value)
  |arr (o:Option Addr) (c:Nat) (vs:List Value)
def Ob.one:Ob→Bool
  | .cell _=>true
  | .arr ..=>false
def obI (e:Nat × Ob):It:=
  match e.2 with
  | .cell v=>cb e.1 234 [v]
  | .arr o c vs=>all [cb e.1 246 [.slice o vs.length c],own 137 1 o vs.length c vs]
abbrev Sx:=List (Nat × Ob)
def adr (sx:Sx):List (Nat × Bool):=sx.map fun e=>(e.1,e.2.one)
def ObR (c:Cx):Ob→List Vl→Prop
  | .cell v,l=>∃x,l=[x]∧RV c x v
  | .arr _ _ vs,l=>RVs c l vs
theorem ObR.mono {c d:Cx} (h:c.le d) {ob:Ob} {l:List Vl} (ho:ObR c ob l):ObR d ob l:=by
  cases ob with
  |cell v=>obtain ⟨x,h1,h2⟩:=ho;exact ⟨x,h1,RV.mono h _ _ h2⟩
  |arr o k vs=>exact RVs.mono h _ _ ho
structure StR (c:Cx) (sx:Sx) (st:List (List Vl)):Prop where
  ad:c.ad=adr sx
  len:sx.length=st.length
  at_:∀(i:Nat) (e:Nat × Ob) (l:List Vl),sx[i]?=some e→st[i]?=some l→ObR c e.2 l
theorem adr_set {sx:Sx} {i p:Nat} {ob ob':Ob} (h:sx[i]?=some (p,ob)) (ho:ob.one=ob'.one):adr (sx.set i (p,ob'))=adr sx:=by
  unfold adr
  rw [List.map_set]
  refine gF ?_
  rw [List.getElem?_map,h,←ho]
  rfl
theorem StR.set {c:Cx} {sx:Sx} {st:List (List Vl)} {i p:Nat} {ob ob':Ob} {l:List Vl} (h:StR c sx st) (hi:sx[i]?=some (p,ob)) (ho:ob.one=ob'.one) (hl:ObR c ob' l):StR c (sx.set i (p,ob')) (st.set i l):=by
  refine ⟨by rw [adr_set hi ho];exact h.ad,by rw [List.length_set,List.length_set];exact h.len,fun j e l' he hl'=>?_⟩
  by_cases e1:i=j
  · subst e1
    rw [List.getElem?_set] at he hl'
    simp only [if_true] at he hl'
    split at he
    · split at hl'
      · cases he;cases hl';exact hl
      · cases hl'
    · cases he
  · rw [List.getElem?_set_ne e1] at he hl'
    exact h.at_ j e l' he hl'
theorem StR.add {c:Cx} {sx:Sx} {st:List (List Vl)} {p:Nat} {ob:Ob} {l:List Vl} (h:StR c sx st) (hl:ObR c ob l):c.le {c with ad:=c.ad++[(p,ob.one)]}∧StR {c with ad:=c.ad++[(p,ob.one)]} (sx++[(p,ob)]) (st++[l]):=by
  have hle:c.le {c with ad:=c.ad++[(p,ob.one)]}:=⟨fun _ h=>h,⟨_,rfl⟩,Nat.le_refl _,rfl⟩
  refine ⟨hle,by show c.ad++_=_;rw [h.ad];unfold adr;rw [List.map_append];rfl,by rw [List.length_append,List.length_append,h.len];rfl,fun j e l' he hl'=>?_⟩
  have hj:=h.len
  by_cases e1:j<sx.length
  · rw [List.getElem?_append_left e1] at he
    rw [List.getElem?_append_left (by omega)] at hl'
    exact (h.at_ j e l' he hl').mono hle
  · rw [List.getElem?_append_right (by omega)] at he hl'
    rw [hj] at he
    by_cases e2:j - st.length=0
    · rw [e2] at he hl'
      cases he;cases hl'
      exact hl.mono hle
    · rw [List.getElem?_eq_none_iff.2 (by simp;omega)] at he
      cases he
theorem StR.le {c d:Cx} {sx:Sx} {st:List (List Vl)} (h:StR c sx st) (hl:c.le d) (ha:d.ad=c.ad):StR d sx st:=
  ⟨ha.trans h.ad,h.len,fun i e l he hs=>(h.at_ i e l he hs).mono hl⟩
theorem StR.place {c:Cx} {sx:Sx} {st:List (List Vl)} {i p:Nat} {b:Bool} (h:StR c sx st) (hi:c.ad[i]?=some (p,b)):∃ob l,sx[i]?=some (p,ob)∧ob.one=b∧st[i]?=some l∧ObR c ob l:=by
  rw [h.ad] at hi
  unfold adr at hi
  rw [List.getElem?_map] at hi
  obtain ⟨e,he,h1⟩:=Option.map_eq_some_iff.1 hi
  have hlt:=(List.getElem?_eq_some_iff.1 he).1
  have hl:=h.len
  obtain ⟨l,hs⟩:∃l,st[i]?=some l:=⟨_,List.getElem?_eq_getElem (by omega)⟩
  obtain ⟨q,ob⟩:=e
  simp only [Prod.mk.injEq] at h1
  obtain ⟨rfl,rfl⟩:=h1
  exact ⟨ob,l,he,rfl,hs,h.at_ i _ l he hs⟩
end Go.Proofs.YtenlcdokaadobaaGreatDoor
