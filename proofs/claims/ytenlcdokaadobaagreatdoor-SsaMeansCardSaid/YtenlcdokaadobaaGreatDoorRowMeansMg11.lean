/-
  The machine of bodies (plain): what the check tells of each part; what stays through steps. Conditions: none.
  What graphs come to (plain): the machine whole; its state as it lies in memory. Conditions: none.
  The machine: follow. Conditions: none.
  The machine: stop, raise, call, enter, back, follow, told by the state as it lies in memory. Conditions: none.
  The machine: a step. Conditions: none.
  The machine (plain): where a step comes to. Conditions: none.
  The machine of bodies (plain): what stays through steps. Conditions: none.
  The machine: an end. Conditions: none.
  The machine: how it begins; what comes of graphs. Conditions: none.
  The machine of bodies: how it begins. Conditions: none.
-/
import Derived.Test.YtenlcdokaadobaaGreatDoorRowMeansMg10
import Derived.Test.YtenlcdokaadobaaGreatDoorRowMeansMg5
import Derived.Test.YtenlcdokaadobaaGreatDoorRowMeansMg9
set_option maxHeartbeats 64000000
set_option maxRecDepth 10000
namespace Go.Proofs.YtenlcdokaadobaaGreatDoor
open Go Go.Fw
set_option linter.unusedVariables false
inductive Wf (g:Grs) (la:List Int) (mine:Int):List (Int × Nat)→AN→Prop
  | mk {js:List (Int × Nat)} {b:AN} (hb:BdW g la mine b) (h8:b.k=8→(b.n,b.a.l.length)∈js) (h7:b.k=7→∀e∈js,e.1≠b.n)
      (hk:∀i x,b.kids[i]?=some x→Wf g la mine (if b.k=7∧i=1 then (b.n,b.xs.l.length)::js else js) x):Wf g la mine js b
inductive Fr:List Int→AN→Prop
  |mk {sn:List Int} {b:AN} (h7:b.k=7→b.n ∉ sn) (hk:∀(i:Nat) (x:AN),b.kids[i]?=some x→Fr (if b.k=7 then b.n::sn else sn) x):Fr sn b
def Seen (s:CS) (sn:List Int):Prop:=∀m∈sn,∃c,lkI s.js m=some c
structure Mn (n:Nat) (s s':CS):Prop where
  p:s.p+n≤s'.p
  top:s.p≤65536→s'.p≤65536
  js:∀n c,lkI s.js n=some c→lkI s'.js n=some c
  op:∀n∈s'.op,n∈s.op
theorem Mn.trans {m n:Nat} {s s1 s2:CS} (h:Mn m s s1) (h2:Mn n s1 s2):Mn (m+n) s s2:=⟨by have:=h.p;have:=h2.p;omega,fun e=>h2.top (h.top e),fun n c e=>h2.js n c (h.js n c e),fun n e=>h.op n (h2.op n e)⟩
theorem Mn.weak {m n:Nat} {s s':CS} (h:Mn m s s') (hn:n≤m):Mn n s s':=⟨by have:=h.p;omega,h.top,h.js,h.op⟩
theorem Seen.mono {n:Nat} {s s':CS} {sn:List Int} (h:Seen s sn) (hm:Mn n s s'):Seen s' sn:=fun m hm2=>by obtain ⟨c,e⟩:=h m hm2;exact ⟨c,hm.js _ _ e⟩
def Jn (s:CS) (js:List (Int × Nat)):Prop:=(∀n∈s.op,∃c:Nat,(n,c)∈js∧lkI s.js n=some (c:Int))∧∀e∈js,∃c,lkI s.js e.1=some c
theorem Jn.mono {n:Nat} {s s':CS} {js:List (Int × Nat)} (h:Jn s js) (hm:Mn n s s'):Jn s' js:=
  ⟨fun n hn=>by obtain ⟨c,h1,h2⟩:=h.1 n (hm.op n hn);exact ⟨c,h1,hm.js _ _ h2⟩,fun e he=>by obtain ⟨c,h1⟩:=h.2 e he;exact ⟨c,hm.js _ _ h1⟩⟩
section
variable {g:Grs} {la:List Int} {mine:Int}
theorem atW_of {ks:List Int} {a:Atm} (hs:g.ss.l.length≤9223372036854775807) (h:atA g ks a):atW g a:=by
  rcases h with ⟨h1,h2,h3,_⟩| ⟨h1,h2,h3⟩| ⟨h1,h2,h3⟩
  · exact ⟨⟨by omega,by omega⟩,fun e=>by omega⟩
  · exact ⟨⟨by omega,by omega⟩,fun e=>by omega⟩
  · exact ⟨⟨by omega,by omega⟩,fun e=>⟨h2,h3⟩⟩
theorem pre_top {k x n d:Int} {xs ns:Vec Int} {r:Stp} {a:Vec Atm} {ko:Option Addr} {kc:Nat} {kids:List AN} {s s1:CS} (h:nW g (.mk k x xs n ns r a ko kc kids) d s=some s1):s1.p≤65536:=by
  unfold nW at h
  split at h
  · next hc=>
    unfold jI at h
    split at h
    · next ha=>
      cases h
      show s.p+1+(a.l.length:Int)≤65536
      rcases ha.2 with e|e
      · have:(a.l.length:Int)=0:=by rw [show a.l=[] from e];rfl
        omega
      · exact e
    · cases h
  · cases h
theorem chk_of {r:Stp} {s s':CS} (h:jH g la mine r s=some s'):FormP g la mine r∧(∀a∈r.a.l,atA g s.now a)∧(r.a.l=[]∨s.p+r.a.l.length≤65536)∧s'={s with p:=s.p+r.a.l.length}:=by
  unfold jH at h
  split at h
  · next hf=>
    unfold jI at h
    split at h
    · next ha=>cases h;exact ⟨hf,ha.1,ha.2,rfl⟩
    · cases h
  · cases h
def WfP (g:Grs) (la:List Int) (mine:Int) (b:AN):Prop:=∀(d:Int) (s s':CS) (js:List (Int × Nat)),xL g la mine b d s=some s'→0≤s.p→Jn s js→Wf g la mine js b∧Mn 1 s s'∧∀sn,Seen s sn→Fr sn b
theorem kids_wf:∀l:List AN,(∀b∈l,WfP g la mine b)→∀(d:Int) (s s':CS) (js:List (Int × Nat)),wI g la mine l d s=some s'→0≤s.p→Jn s js→(∀x∈l,Wf g la mine js x)∧Mn l.length s s'∧∀sn,Seen s sn→∀x∈l,Fr sn x
  | [],_,d,s,s',js,h,h0,hj=>by
    rw [wI] at h
    cases h
    exact ⟨fun x hx=>absurd hx (List.not_mem_nil),⟨by show s.p+((0:Nat):Int)≤s.p;omega,id,fun _ _ h=>h,fun _ h=>h⟩,fun sn _ x hx=>absurd hx (List.not_mem_nil)⟩
  | b ::l,ih,d,s,s',js,h,h0,hj=>by
    rw [wI] at h
    obtain ⟨s1,h1,h2⟩:=Option.bind_eq_some_iff.1 h
    obtain ⟨w1,m1,f1⟩:=ih b (List.mem_cons_self ..) d s s1 js h1 h0 hj
    obtain ⟨w2,m2,f2⟩:=kids_wf l (fun b hb=>ih b (List.mem_cons_of_mem _ hb)) d s1 s' js h2 (by have:=m1.p;omega) (hj.mono m1)
    refine ⟨fun x hx=>?_,(m1.trans m2).weak (by rw [List.length_cons];omega),fun sn hsn x hx=>?_⟩
    · rcases List.mem_cons.1 hx with rfl|hx
      · exact w1
      · exact w2 x hx
    · rcases List.mem_cons.1 hx with rfl|hx
      · exact f1 sn hsn
      · exact f2 sn (hsn.mono m1) x hx
theorem wf_of (hs:g.ss.l.length≤9223372036854775807):∀b:AN,WfP g la mine b:=oK fun k x xs n ns r a ko kc kids ih=>by
  intro d s s' js h h0 hj
  rw [xL] at h
  obtain ⟨s1,hpre,h⟩:=Option.bind_eq_some_iff.1 h
  obtain ⟨⟨hk,hsh⟩,ha,hs1⟩:=pre_of hpre
  have htop:=pre_top hpre
  clear hpre
  have hp1:s1.p=s.p+1+a.l.length:=by rw [hs1]
  have M1:Mn 1 s s1:=⟨by rw [hp1];omega,fun _=>htop,fun n c e=>by rw [hs1];exact e,fun n e=>by rw [hs1] at e;exact e⟩
  have hj1:=hj.mono M1
  have hB:(k=1→FormP g la mine r)→(∀a∈r.a.l,atW g a)→r.a.l.length≤65536→kids.length≤65536→(k=6→kids.length=ns.l.length+1)→BdW g la mine (.mk k x xs n ns r a ko kc kids):=fun e1 e2 e3 e4 e5=>
    ⟨hk.1,hk.2,hsh,e1,e2,e3,fun y hy=>atW_of hs (ha y hy),by show a.l.length≤65536;omega,e4,e5⟩
  have hra:k≠1→r.a.l=[]:=fun e=>(hsh.r.resolve_left e).2.2.2
  have hB2:k≠1→kids.length≤65536→(k=6→kids.length=ns.l.length+1)→BdW g la mine (.mk k x xs n ns r a ko kc kids):=fun e1 e4 e5=>
    hB (fun e=>absurd e e1) (fun y hy=>by rw [hra e1] at hy;cases hy) (by rw [hra e1];exact Nat.zero_le _) e4 e5
  by_cases h1:k=1
  · rw [if_pos h1] at h
    obtain ⟨s3,h3,h4⟩:=Option.bind_eq_some_iff.1 h
    obtain ⟨s2,hchk,hbind⟩:=Option.bind_eq_some_iff.1 h3
    obtain ⟨s4,h5,h6⟩:=Option.map_eq_some_iff.1 h4
    obtain ⟨hF,hra2,hrl,hs2⟩:=chk_of hchk
    obtain ⟨hs3,_,_⟩:=lM hbind
    have hkl:=hsh.kids.1 h1
    obtain ⟨b0,hb0⟩:∃b0,kids=[b0]:=List.length_eq_one_iff.1 hkl
    subst hb0
    rw [tB] at h5
    have hp3:s3.p=s1.p+r.a.l.length:=by rw [hs3,hs2]
    have htop3:s3.p≤65536:=by
      rcases hrl with e|e
      · rw [hp3,e];show s1.p+((0:Nat):Int)≤65536;omega
      · omega
    have M3:Mn 0 s1 s3:=⟨by omega,fun _=>htop3,fun n c e=>by rw [hs3,hs2];exact e,fun n e=>by rw [hs3,hs2] at e;exact e⟩
    obtain ⟨w,m4,f4⟩:=ih b0 (List.mem_cons_self ..) _ _ _ js h5 (by omega) (hj1.mono M3)
    have M5:Mn 0 s4 s':=by rw [←h6];exact ⟨by show s4.p+((0:Nat):Int)≤s4.p;omega,id,fun _ _ e=>e,fun _ e=>e⟩
    refine ⟨.mk (hB (fun _=>hF) (fun y hy=>atW_of hs (hra2 y hy)) (by rcases hrl with e|e;(· rw [e];exact Nat.zero_le _);(· omega)) (by omega) (fun e=>by omega)) (fun e=>by have:k=8:=e;omega) (fun e=>by have:k=7:=e;omega) fun i x hx=>?_,(((M1.trans M3).trans m4).trans M5).weak (by omega),fun sn hsn=>.mk (fun e=>by have:k=7:=e;omega) fun i x hx=>?_⟩
    · rw [if_neg (fun e=>by have:k=7:=e.1;omega)]
      match i,hx with
      | 0, hx => obtain rfl:b0=x:=by simpa [AN.kids] using hx
                 exact w
      |i+1,hx=>simp [AN.kids] at hx
    · rw [if_neg (fun e=>by have:k=7:=e;omega)]
      match i,hx with
      | 0, hx => obtain rfl:b0=x:=by simpa [AN.kids] using hx
                 exact f4 sn ((hsn.mono M1).mono M3)
      |i+1,hx=>simp [AN.kids] at hx
  rw [if_neg h1] at h
  by_cases h7:k=7
  · rw [if_pos h7] at h
    obtain ⟨s2,hnew,h2⟩:=Option.bind_eq_some_iff.1 h
    have hkl:=hsh.kids.2.1 (.inr h7)
    obtain ⟨b0,b1,hb0⟩:=lO hkl
    subst hb0
    rw [pL] at h2
    obtain ⟨s3,h3,h4⟩:=Option.bind_eq_some_iff.1 h2
    obtain ⟨s5,h5,h6⟩:=Option.map_eq_some_iff.1 h4
    rw [tB] at h5
    unfold bY at hnew
    split at hnew
    · cases hnew
    rename_i hno
    obtain ⟨hs2,_,_⟩:=lM hnew
    have hlk:lkI s1.js n=none:=by
      cases e:lkI s1.js n with
      |none=>rfl
      |some c=>rw [e] at hno;exact absurd rfl hno
    have M2:Mn 0 s1 s2:=by
      refine ⟨by rw [hs2];show s1.p+((0:Nat):Int)≤s1.p;omega,fun e=>by rw [hs2];exact e,fun m c e=>?_,fun m e=>by rw [hs2] at e;exact e⟩
      rw [hs2]
      show lkI (wX s1.js n _) m=_
      rw [uX]
      by_cases hm:m=n
      · subst hm;rw [hlk] at e;cases e
      · rw [if_neg hm];exact e
    have hn2:lkI s2.js n=some (xs.l.length:Int):=by
      rw [hs2]
      show lkI (wX s1.js n _) n=_
      rw [uX,if_pos rfl]
    have hp2:=M2.p
    obtain ⟨w0,m3,f3⟩:=ih b0 (List.mem_cons_self ..) _ _ _ js h3 (by omega) (hj1.mono M2)
    have hp3:=m3.p
    have hfresh:∀e∈js,e.1≠n:=fun e he en=>by
      obtain ⟨c,hc⟩:=hj1.2 e he
      rw [en,hlk] at hc;cases hc
    have hj4:Jn (kB n (tX xs.l s3)) ((n,xs.l.length)::js):=by
      have hj3:=(hj1.mono M2).mono m3
      refine ⟨fun m hm=>?_,fun e he=>?_⟩
      · have hm2:m∈sG s3.op n:=hm
        rcases wE.1 hm2 with hm2|rfl
        · obtain ⟨c,e1,e2⟩:=hj3.1 m hm2
          exact ⟨c,List.mem_cons_of_mem _ e1,e2⟩
        · exact ⟨xs.l.length,List.mem_cons_self ..,m3.js _ _ hn2⟩
      · rcases List.mem_cons.1 he with rfl|he
        · exact ⟨_,m3.js _ _ hn2⟩
        · exact hj3.2 e he
    obtain ⟨w1,m5,f5⟩:=ih b1 (List.mem_cons_of_mem _ (List.mem_cons_self ..)) _ _ _ _ h5 (show 0≤s3.p by omega) hj4
    have M:Mn 1 s3 s':=by
      rw [←h6]
      refine ⟨m5.p,m5.top,m5.js,fun m hm=>?_⟩
      have hm2:m∈rS s5.op n:=hm
      obtain ⟨e1,e2⟩:=mV.1 hm2
      have e3:m∈sG s3.op n:=m5.op m e1
      exact (wE.1 e3).resolve_right e2
    refine ⟨.mk (hB2 h1 (by omega) (fun e=>by omega)) (fun e=>by have:k=8:=e;omega) (fun _=>hfresh) fun i x hx=>?_,(((M1.trans M2).trans m3).trans M).weak (by omega),fun sn hsn=>.mk (fun _ hin=>?_) fun i x hx=>?_⟩
    · match i, hx with
      | 0, hx => obtain rfl:b0=x:=by simpa [AN.kids] using hx
                 rw [if_neg (by simp)];exact w0
      | 1, hx => obtain rfl:b1=x:=by simpa [AN.kids] using hx
                 rw [if_pos ⟨h7,rfl⟩];exact w1
      |i+2,hx=>simp [AN.kids] at hx
    · obtain ⟨c,hc⟩:=(hsn.mono M1) n hin
      rw [hlk] at hc;cases hc
    · have hs2 : Seen s2 (n::sn):=fun m hm=>by
        rcases List.mem_cons.1 hm with rfl|hm
        · exact ⟨_,hn2⟩
        · exact ((hsn.mono M1).mono M2) m hm
      change Fr (if k=7 then n::sn else sn) x
      rw [if_pos h7]
      match i,hx with
      | 0, hx => obtain rfl:b0=x:=by simpa [AN.kids] using hx
                 exact f3 _ hs2
      | 1, hx => obtain rfl:b1=x:=by simpa [AN.kids] using hx
                 exact f5 _ (fun m hm=>(hs2.mono m3) m hm)
      |i+2,hx=>simp [AN.kids] at hx
  rw [if_neg h7] at h
  by_cases h8:k=8
  · rw [if_pos h8] at h
    split at h
    · next hc=>
      cases h
      have hkl:=hsh.kids.2.2 (by omega)
      obtain rfl:kids=[]:=List.length_eq_zero_iff.1 hkl
      refine ⟨.mk (hB2 h1 (by omega) (fun e=>by omega)) (fun _=>?_) (fun e=>by have:k=7:=e;omega) fun i x hx=>by simp [AN.kids] at hx,M1,fun sn hsn=>.mk (fun e=>by have:k=7:=e;omega) fun i x hx=>by simp [AN.kids] at hx⟩
      obtain ⟨c,e1,e2⟩:=hj1.1 n hc.1
      have e3:=hc.2
      rw [e2] at e3
      have e4:a.l.length=c:=by have:(a.l.length:Int)=c:=e3;omega
      show (n,a.l.length)∈js
      rw [e4];exact e1
    · cases h
  rw [if_neg h8] at h
  have key:wI g la mine kids (d+1) s1=some s'→(k=6→kids.length=ns.l.length+1)→Wf g la mine js (.mk k x xs n ns r a ko kc kids)∧Mn 1 s s'∧∀sn,Seen s sn→Fr sn (.mk k x xs n ns r a ko kc kids):=fun e e6=>by
    obtain ⟨w,m,f⟩:=kids_wf kids ih _ _ _ js e (by omega) hj1
    have hp:=m.p
    have ht:=m.top htop
    refine ⟨.mk (hB2 h1 (by omega) e6) (fun e=>by have:k=8:=e;omega) (fun e=>by have:k=7:=e;omega) fun i x hx=>?_,(M1.trans m).weak (by omega),fun sn hsn=>.mk (fun e=>by have:k=7:=e;omega) fun i x hx=>?_⟩
    · rw [if_neg (fun e=>by have:k=7:=e.1;omega)]
      exact w x (List.mem_of_getElem? hx)
    · rw [if_neg (fun e=>by have:k=7:=e;omega)]
      exact f sn (hsn.mono M1) x (List.mem_of_getElem? hx)
  by_cases h6:k=6
  · rw [if_pos h6] at h
    split at h
    · next hc=>exact key h fun _=>hc.2.2
    · cases h
  · rw [if_neg h6] at h
    exact key h fun e=>absurd e h6
theorem fun_wfr {fl:List FN} (hs:g.ss.l.length≤9223372036854775807) (h:MayN fl g):∀f∈fl,Wf g (yW fl) f.caps [] f.body∧Fr [] f.body:=fun f hf=>by
  obtain ⟨hA,p,hp⟩:=h
  obtain ⟨p,s,h0,h1,hb⟩:=qE hp (Int.le_refl _) (by decide) f hf
  obtain ⟨h1,_,h2⟩:=wf_of hs f.body 1 (cs0 p) s [] hb h0 ⟨fun n hn=>absurd hn (List.not_mem_nil),fun e he=>absurd he (List.not_mem_nil)⟩
  exact ⟨h1,h2 [] fun m hm=>absurd hm (List.not_mem_nil)⟩
theorem fun_wf {fl:List FN} (hs:g.ss.l.length≤9223372036854775807) (h:MayN fl g):∀f∈fl,Wf g (yW fl) f.caps [] f.body:=fun f hf=>(fun_wfr hs h f hf).1
end
def oJ:Atm:=⟨0,0⟩
def sJ:Edg:=⟨0,zT⟩
def isNil:Vl→Bool
  | .nil=>true
  |_=>false
def vA (g:Grs) (f:Fm):Ins:=(uO g f).is.l.getD f.i ins0
def pY (g:Grs) (kd:Int) (x:Vl) (wd:Wd):List Fm→Sr
  | []=>match wT g kd x with
    |some s=>.stop 1 s wd
    |none=>vJ wd
  |f::r=>.go ⟨wd,r,{f with vs:=tP f.vs (vA g f).x x,i:=f.i+1}⟩
def pD:List (Int × Vl)→List Int→List Vl→List (Int × Vl)
  |m,p::ps,v::vs=>pD (tP m p v) ps vs
  |m,_,_=>m
def uK (g:Grs) (fm:Fm) (e:Edg):Fm:={fm with vs:=pD fm.vs (vG g fm.c.1 e.b.toNat).ps.l (xB g fm e.a.l),b:=e.b.toNat,i:=0}
def qJ (f x:Vl) (h:Option Clo) (wd:Wd) (sk:List Fm) (fm:Fm):Sr:=
  match asFn f with
  |some c=>.go ⟨wd,{fm with h:=h}::sk,nY c x⟩
  |none=>vJ wd
def nL (g:Grs) (fm:Fm) (i:Ins) (wd:Wd) (sk:List Fm):Sr:=
  if i.r.k=3 then qJ (yI (xB g fm i.r.a.l) 0) (yI (xB g fm i.r.a.l) 1) none wd sk fm
  else if i.r.k=14 then
    match asFn (yI (xB g fm i.r.a.l) 0) with
    |some c=>if c.1=i.r.n then qJ (yI (xB g fm i.r.a.l) 0) (yI (xB g fm i.r.a.l) 1) none wd sk fm else vJ wd
    |none=>vJ wd
  else if i.r.k=13 then
    match asFn (yI (xB g fm i.r.a.l) 1) with
    |some h=>qJ (yI (xB g fm i.r.a.l) 0) (.num 0) (some h) wd sk fm
    |none=>vJ wd
  else match yH i.r (xB g fm i.r.a.l) fm.c.2 wd with
    | .exn s=>uY g (wQ g.xs.l s) wd sk
    | .val v wd'=>if isNil v then vJ wd' else .go ⟨wd',sk,{fm with vs:=tP fm.vs i.x v,i:=fm.i+1}⟩
def sC (g:Grs) (kd:Int) (fm:Fm) (e:En) (wd:Wd) (sk:List Fm):Sr:=
  if e.k=1 then pY g kd (uJ g fm (e.a.l.getD 0 oJ)) wd sk
  else if e.k=2 then qR (uJ g fm (e.a.l.getD 0 oJ)) (uJ g fm (e.a.l.getD 1 oJ)) wd sk
  else if e.k=4 then .go ⟨wd,sk,uK g fm (e.to.l.getD 0 sJ)⟩
  else match asNum (uJ g fm (e.a.l.getD 0 oJ)) with
    |none=>vJ wd
    | some n=>
      if e.k=3 then uY g n wd sk
      else if e.k=5 then .go ⟨wd,sk,uK g fm (e.to.l.getD (if n=0 then 1 else 0) sJ)⟩
      else .go ⟨wd,sk,uK g fm (e.to.l.getD (if bsB e.ns.l n then bsI e.ns.l n else e.ns.l.length) sJ)⟩
def sY (g:Grs) (kd:Int) (m:Mc):Sr:=
  if m.fm.i<(uO g m.fm).is.l.length then nL g m.fm (vA g m.fm) m.wd m.sk else sC g kd m.fm (uO g m.fm).e m.wd m.sk
def pE (g:Grs) (kd:Int):Nat→Mc→Int × ByteArray × Wd
  |0,m=>(2,empS,m.wd)
  | n+1,m=>match sY g kd m with
    | .go m'=>pE g kd n m'
    | .stop k r wd=>(k,r,wd)
def uM (s:ByteArray):Mc:=⟨⟨s,[],[]⟩,[],nY (0,[]) (.num 0)⟩
def MSt (w0:World) (c:Cx) (bM:Nat) (g:Grs) (kd fuel:Int) (H:List It) (m:Mc) (w:World):Prop:=
  ∃ oO cO oS cS pc bv mm fms sx ph,
    HS w0 noM (cb bM 86 (zJ g kd m.wd.inp oO m.wd.out.length cO++yS g fuel oS fms.length cS pc bv (xG g m.fm.c.1 m.fm.b) m.fm.i ph none)::own 5 1 oO m.wd.out.length cO (flat zV m.wd.out)::frz w0 c.K::all (sx.map obI)::own 83 5 oS fms.length cS (flat yF fms)::all (fms.map mpF)::mp bv mm::H) w∧
    FnR c m.fm.c.1 m.fm.c.2 pc∧MapR c m.fm.vs mm∧FsR g c m.sk fms∧StR c sx m.wd.st
def MEnd (w0:World) (bM:Nat) (g:Grs) (kd fuel:Int) (H:List It) (k:Int) (r:ByteArray) (wd:Wd) (w:World):Prop:=
  ∃ oO cO oS nS cS pc bv pb pi ph b,
    HS w0 noM (cb bM 86 (zJ g kd wd.inp oO wd.out.length cO++yS g fuel oS nS cS pc bv pb pi ph (some (bat b 0)))::own 5 1 oO wd.out.length cO (flat zV wd.out)::cb b 29 (xD k empS r)::H) w
def SrW (w0:World) (c:Cx) (bM:Nat) (g:Grs) (kd fuel:Int) (H:List It) (r:Sr) (w:World):Prop:=
  match r with
  | .go m=>∃d,(c.le d∧d.bd≤c.bd+1)∧MSt w0 d bM g kd fuel H m w
  | .stop k s wd=>MEnd w0 bM g kd fuel H k s wd w
theorem SrW.go {w0 w:World} {c d:Cx} {bM:Nat} {g:Grs} {kd fuel:Int} {H:List It} {r:Sr} {m:Mc} (hr:r= .go m) (hle:c.le d) (hb:d.bd≤c.bd+1) (h:MSt w0 d bM g kd fuel H m w):SrW w0 c bM g kd fuel H r w:=by rw [hr];exact ⟨d,⟨hle,hb⟩,h⟩
theorem SrW.stop {w0 w:World} {c:Cx} {bM:Nat} {g:Grs} {kd fuel:Int} {H:List It} {r:Sr} {k:Int} {s:ByteArray} {wd:Wd} (hr:r= .stop k s wd) (h:MEnd w0 bM g kd fuel H k s wd w):SrW w0 c bM g kd fuel H r w:=by rw [hr];exact h
structure FmOk (g:Grs) (f:Fm):Prop where
  f0:0≤f.c.1
  f1:f.c.1<g.fs.l.length
  b:f.b<(g.fs.l.getD f.c.1.toNat gr0).bs.l.length
structure McOk (g:Grs) (m:Mc):Prop where
  fm:FmOk g m.fm
  i:m.fm.i≤(uO g m.fm).is.l.length
  sk:∀f∈m.sk,FmOk g f∧f.i<(uO g f).is.l.length
section
attribute [local irreducible] Code.wp wpList Calls Ex Op1 sat bat blk cb own Go.Fw.mp Go.Fw.mpO Go.Fw.mpI Go.Fw.mpE Go.Fw.itr HS Rd Ret wkD Hp Cl Cls Exit.then Exit.inBlock Exit.noGoto bodyPost Go.Fw.flat wk2 Go.Fw.all Go.Fw.owns wpOp
attribute [local irreducible] sk mpK sko mvO xI opM Go.Fw.mset Go.Fw.mv opK w63 frz obI RV wQ vR vT wT

theorem back0_spec (w0 w:World) (H:List It) (c:Cx) (bM:Nat) (g:Grs) (kd:Int) (s:ByteArray) (oO oS:Option Addr) (nO cO cS pc bv:Nat) (fuel pi:Int) (pb ph pe:Option Addr) (x:Vl) (u:Value) (hH:HS w0 noM (cb bM 86 (zJ g kd s oO nO cO++yS g fuel oS 0 cS pc bv pb pi ph pe)::H) w)
    (hu:RV c x u) (hxs:RdV w0 yY g.xs) (hFI:FI w0) :
    Ret Tryz.prog 53 #[.pointer (some (bat bM 0)),u] w (fun r w'=>∃k res b,(∀wd,pY g kd x wd []= .stop k res wd)∧
      HS w0 noM (cb bM 86 (zJ g kd s oO nO cO++yS g fuel oS 0 cS pc bv pb pi ph (some (bat b 0)))::cb b 29 (xD k empS res)::H) w'):=by
  (refine ENT (N:=87) Tryz.func53 Tryz.ntmps53 ?_;intro a hA)
  repeat' (first|(refine QT ?_;clear hA a;intro a hA)|refine CT ?_|fail)
  (refine zH hA rfl rfl (by decide) (zA rfl rfl rfl (Text_spec w0 w _ c 86 bM g kd s _ oO nO cO x u hH hu hxs hFI)) ?_;clear hA hH;rintro _ w ⟨rfl,hH⟩ a hA)
  cases ht:wT g kd x with
  | none=>
    rw [ht] at hA
    unfold txV at hA
    repeat' (first|(refine QT ?_;clear hA a;intro a hA)|(refine zH hA rfl rfl (by decide) (zA rfl rfl rfl (sT w0 _ _ bM g kd s oO oS nO cO 0 cS pc bv fuel pi pb ph pe 4 empS hH)) ?_;clear hA hH;rintro _ w ⟨b,hH⟩ a hA)|refine CT ?_|fail)
    exact rt0 (.inl rfl) rfl hA ⟨4,empS,b,fun wd=>by unfold pY;rw [ht];rfl,hH⟩
  | some t=>
    rw [ht] at hA
    unfold txV at hA
    repeat' (first|(refine QT ?_;clear hA a;intro a hA)|(refine zH hA rfl rfl (by decide) (zA rfl rfl rfl (sT w0 _ _ bM g kd s oO oS nO cO 0 cS pc bv fuel pi pb ph pe 1 t hH)) ?_;clear hA hH;rintro _ w ⟨b,hH⟩ a hA)|refine CT ?_|fail)
    exact rt0 (.inl rfl) rfl hA ⟨1,t,b,fun wd=>by unfold pY;rw [ht],hH⟩
end
theorem gD:∀{m:List (Int × Vl)} {ps:List Int} {vs:List Vl} {i:Nat} {p:Int} {v:Vl},ps[i]?=some p→vs[i]?=some v→pD m (ps.take (i+1)) (vs.take (i+1))=tP (pD m (ps.take i) (vs.take i)) p v
  |m,[],vs,i,p,v,h,h'=>by simp at h
  |m,q::ps,[],i,p,v,h,h'=>by simp at h'
  | m,q::ps,u::vs,0,p,v,h,h'=>by
    obtain rfl:q=p:=by simpa using h
    obtain rfl:u=v:=by simpa using h'
    simp [pD]
  | m,q::ps,u::vs,i+1,p,v,h,h'=>by
    rw [List.take_succ_cons,List.take_succ_cons,List.take_succ_cons,List.take_succ_cons,pD,pD]
    exact gD (by simpa using h) (by simpa using h')
theorem bs_ps {l:List Blc} {b:Nat} (h:b<l.length):(flat yE l)[b*6+0]?=some (.slice (l.getD b wR).ps.o (l.getD b wR).ps.l.length (l.getD b wR).ps.c):=by
  refine yZ (off:=0) uL (List.getElem?_eq_getElem h) ?_
  rw [List.getD_eq_getElem?_getD,List.getElem?_eq_getElem h]
  rfl
section
attribute [local irreducible] Code.wp wpList Calls Ex Op1 sat bat blk cb own Go.Fw.mp Go.Fw.mpO Go.Fw.mpI Go.Fw.mpE Go.Fw.itr HS Rd Ret wkD Hp Cl Cls Exit.then Exit.inBlock Exit.noGoto bodyPost Go.Fw.flat wk2 Go.Fw.all Go.Fw.owns wpOp
attribute [local irreducible] sk mpK sko mvO xI opM Go.Fw.mset Go.Fw.mv opK w63 frz obI RV wQ vR vT wT

theorem follow_spec (w0 w:World) (H:List It) (c:Cx) (bM:Nat) (g:Grs) (kd:Int) (s:ByteArray) (oO oS:Option Addr) (nO cO nS cS pc bv:Nat) (fuel pi:Int) (pb ph pe:Option Addr) (fm:Fm) (m:List (Int × Value)) (e:Edg)
    (hH:HS w0 noM (cb bM 86 (zJ g kd s oO nO cO++yS g fuel oS nS cS pc bv pb pi ph pe)::mp bv m::frz w0 c.K::H) w) (hM:MapR c fm.vs m) (hcf:FnR c fm.c.1 fm.c.2 pc) (ha:∀a∈e.a.l,atW g a) (hR:RdGs w0 g) (hsz:∀s∈g.ss.l,s.size≤4096) (hRe:RdV w0 zN e.a) (hl:e.a.l.length≤1048576)
    (hnf:c.nf=g.fs.l.length) (hb0:0≤e.b) (hb1:e.b<(g.fs.l.getD fm.c.1.toNat gr0).bs.l.length) (hpl:e.a.l.length=(vG g fm.c.1 e.b.toNat).ps.l.length) :
    Ret Tryz.prog 55 #[.pointer (some (bat bM 0)),.agg (yL e).toArray] w (fun r w'=>∃m',MapR c (uK g fm e).vs m'∧
      HS w0 noM (cb bM 86 (zJ g kd s oO nO cO++yS g fuel oS nS cS pc bv (xG g fm.c.1 e.b.toNat) 0 ph pe)::mp bv m'::frz w0 c.K::H) w'):=by
  obtain ⟨oc,kc,vsc,hfr,hp,hr2,hvs⟩:=id hcf
  have hfl:fm.c.1.toNat<g.fs.l.length:=by omega
  have hgm:g.fs.l.getD fm.c.1.toNat gr0∈g.fs.l:=xN hfl
  have hspF:Sp g.fs.o g.fs.l.length:=hR.1.1.sp (sz:=2) (zF sE _) (by omega)
  have hspB:Sp (g.fs.l.getD fm.c.1.toNat gr0).bs.o (g.fs.l.getD fm.c.1.toNat gr0).bs.l.length:=(hR.2.1 _ hgm).1.1.sp (sz:=6) (zF uL _) (by omega)
  have hbl:e.b.toNat<(g.fs.l.getD fm.c.1.toNat gr0).bs.l.length:=by omega
  have hbR:=(hR.2.1 _ hgm).2 _ (xN (d:=wR) hbl)
  have hbm:(g.fs.l.getD fm.c.1.toNat gr0).bs.l.getD e.b.toNat wR=vG g fm.c.1 e.b.toNat:=rfl
  rw [hbm] at hbR
  have hpR:=hbR.1
  have hple:=hpR.le
  have hspP:Sp (vG g fm.c.1 e.b.toNat).ps.o (vG g fm.c.1 e.b.toNat).ps.l.length:=hpR.1.sp (sz:=1) (zF encI_len _) (by omega)
  have hvP:=bs_ps hbl
  rw [hbm] at hvP
  (refine ENT (N:=61) Tryz.func55 Tryz.ntmps55 ?_;intro a hA)
  repeat' (first|(refine QT ?_;clear hA a;intro a hA)|(refine BT ?_;clear hA hH;rintro _ w ⟨bN,rfl,hH⟩ a hA)|refine CT ?_|fail)
  obtain ⟨b3,hb3⟩:∃x,x=bN:=⟨_,rfl⟩
  rw [←hb3] at hA hH
  clear hb3 bN
  (refine zH hA rfl rfl (by decide) (zA rfl rfl rfl (all_spec w0 w (frz w0 c.K::cb b3 61 (yL e)::H) c bM g kd s oO oS nO cO nS cS pc bv fuel pi pb ph pe fm m e.a (hH.perm PMT) hM ha hR.2.2.2.2.2 hsz hRe hl)) ?_;clear hA hH;rintro _ w ⟨oL,cL,vs,rfl,hV,hH⟩ a hA)
  have hvl:=hV.len
  rw [show (xB g fm e.a.l).length=e.a.l.length by unfold xB;rw [List.length_map]] at hvl
  have hspL:=hH.own_sp (T:=137) (o:=oL) (by exact MEMT)
  repeat' (first|(refine QT ?_;clear hA a;intro a hA)|refine CT ?_|fail)
  (refine zQ [(0,1),(1,1),(2,1),(3,1),(4,1),(5,1),(6,1),(7,1),(8,1),(9,1),(10,1),(11,1),(12,1),(13,1),(14,1),(15,1),(16,1),(17,1),(18,1),(19,1)] mixed (by decide +kernel) hH ?_;replace hH:=hH.drew)
  repeat' (first|(refine XT ?_;apply XE;(first|(apply zC;rfl;exact wG MEMT hp rfl)|(apply zD;rfl;rfl;omega;omega;first|exact hspF|exact hspB)|(apply zC;rfl;refine xP hR.1.1 id (fA ?_);omega)|(apply zC;rfl;exact xP (hR.2.1 _ hgm).1.1 id hvP));clear hA a;intro a hA)|(refine QT ?_;clear hA a;intro a hA)|refine CT ?_|fail)
  obtain ⟨ps,hps⟩:∃ps,ps=(vG g fm.c.1 e.b.toNat).ps:=⟨_,rfl⟩
  rw [←hps] at hA hpR hple hspP hpl
  have hal:(xB g fm e.a.l).length=ps.l.length:=by unfold xB;rw [List.length_map];exact hpl
  refine yK (S:=Nat) (fun i a w=>∃m',(i≤ps.l.length∧MapR c (pD fm.vs (ps.l.take i) ((xB g fm e.a.l).take i)) m')∧HS w0 noM (cb bM 86 (zJ g kd s oO nO cO++yS g fuel oS nS cS pc bv pb pi ph pe)::mp bv m'::own 137 1 oL vs.length cL vs::frz w0 c.K::H) w∧Sl 61 [(36,.int .i64 i),(35,.int .i64 ps.l.length),(34,.slice ps.o ps.l.length ps.c),(4,.slice oL vs.length cL),(5,.pointer (xG g fm.c.1 e.b.toNat)),(0,.pointer (some (bat bM 0)))] a) (fun i=>ps.l.length - i)
    (fun a w=>∃m',MapR c (uK g fm e).vs m'∧HS w0 noM (cb bM 86 (zJ g kd s oO nO cO++yS g fuel oS nS cS pc bv pb pi ph pe)::mp bv m'::frz w0 c.K::H) w∧Sl 61 [(5,.pointer (xG g fm.c.1 e.b.toNat)),(0,.pointer (some (bat bM 0)))] a) 0 ⟨m,⟨Nat.zero_le _,by rw [List.take_zero,List.take_zero];exact hM⟩,(hH.rm 4).perm PMT,(hA.sub SBT)⟩ ?_ ?_
  · clear hA hH
    rintro i a w ⟨m',⟨hi,hm'⟩,hH,hA⟩
    by_cases hlt:i<ps.l.length
    rotate_left
    · repeat' (first|(refine QT ?_;clear hA a;intro a hA)|refine CT ?_|(refine DT ?_ ?_<;>intro hc<;>try (exfalso;omega))|fail)
      obtain rfl:i=ps.l.length:=by omega
      refine ⟨m',?_,hH.rm 2,(hA.sub SBT)⟩
      rw [List.take_length,←hal,List.take_length] at hm'
      unfold uK
      rw [←hps]
      exact hm'
    obtain ⟨p,hp1⟩:∃p,ps.l[i]?=some p:=⟨_,List.getElem?_eq_getElem hlt⟩
    obtain ⟨v,hv1,hx1⟩:=hV.get0 (i:=i) (by omega)
    have hv2:(xB g fm e.a.l)[i]?=some (yI (xB g fm e.a.l) i):=by
      unfold yI
      rw [List.getD_eq_getElem?_getD,List.getElem?_eq_getElem (by omega)];rfl
    have hpv:(flat Fw.encI ps.l)[i*1]?=some (.int .i64 p):=sV encI_len hp1 rfl
    have hvv:vs[i*1]?=some v:=by rw [Nat.mul_one];exact hv1
    repeat' (first|(refine XT ?_;apply XE;(first|(apply zE;rfl;rfl;omega;first|exact hspP|exact hspL)|(apply zC;rfl;exact xP hpR.1 id hpv));clear hA a;intro a hA)|(refine QT ?_;clear hA a;intro a hA)|refine CT ?_|(refine DT ?_ ?_<;>intro hc<;>try (exfalso;omega))|fail)
    (refine zK [(0,1),(1,1),(2,1),(3,1),(4,1),(5,1),(6,1),(7,1),(8,1),(9,1)] [10] mixed (by decide +kernel) hH ?_;replace hH:=hH.drew)
    repeat' (first|(refine XT ?_;apply XE;(first|(apply zE;rfl;rfl;omega;exact hspL)|(apply zC;rfl;exact uD (T:=137) (o:=oL) MEMT hvv));clear hA a;intro a hA)|(refine QT ?_;clear hA a;intro a hA)|(apply zX hA rfl rfl rfl;apply xT;rfl;rfl;rfl;exact hH;(repeat constructor);clear hH;rintro _ w hH)|refine CT ?_|fail)
    exact ⟨i+1,⟨_,⟨hlt,by rw [gD hp1 hv2];exact hm'.set _ hx1⟩,hH,(hA.sub SBT)⟩,by omega⟩
  clear hA hH
  rintro a w ⟨m',hm',hH,hA⟩
  repeat' (first|(refine QT ?_;clear hA a;intro a hA)|(apply zO hA rfl rfl;apply zB (cs':=zJ g kd s oO nO cO++yS g fuel oS nS cS pc bv (xG g fm.c.1 e.b.toNat) pi ph pe);rfl;rfl;rfl;exact hH;(repeat constructor);clear hH;rintro _ w hH)|(apply zO hA rfl rfl;apply zB (cs':=zJ g kd s oO nO cO++yS g fuel oS nS cS pc bv (xG g fm.c.1 e.b.toNat) 0 ph pe);rfl;rfl;rfl;exact hH;(repeat constructor);clear hH;rintro _ w hH)|refine CT ?_|fail)
  exact rt0 (.inr rfl) rfl hA ⟨m',hm',hH⟩
end
section
attribute [local irreducible] Code.wp wpList Calls Ex Op1 sat bat blk cb own Go.Fw.mp Go.Fw.mpO Go.Fw.mpI Go.Fw.mpE Go.Fw.itr HS Rd Ret wkD Hp Cl Cls Exit.then Exit.inBlock Exit.noGoto bodyPost Go.Fw.flat wk2 Go.Fw.all Go.Fw.owns wpOp
attribute [local irreducible] sk mpK sko mvO xI opM Go.Fw.mset Go.Fw.mv opK w63 frz obI RV wQ vR vT wT

theorem eZ {w0 w:World} {H:List It} {c:Cx} {bM:Nat} {g:Grs} {kd fuel:Int} {m:Mc} {oO oS ph:Option Addr} {cO cS pc bv:Nat} {mm:List (Int × Value)} {fms:List FmM} {sx:Sx} (hH:HS w0 noM (cb bM 86 (zJ g kd m.wd.inp oO m.wd.out.length cO++yS g fuel oS fms.length cS pc bv (xG g m.fm.c.1 m.fm.b) m.fm.i ph none)::own 5 1 oO m.wd.out.length cO (flat zV m.wd.out)::frz w0 c.K::all (sx.map obI)::own 83 5 oS fms.length cS (flat yF fms)::all (fms.map mpF)::mp bv mm::H) w) (hpc:FnR c m.fm.c.1 m.fm.c.2 pc) (hmm:MapR c m.fm.vs mm) (hfs:FsR g c m.sk fms) (hst:StR c sx m.wd.st) (k:Int) (r:ByteArray):Ret Tryz.prog 27 #[.pointer (some (bat bM 0)),.int .i64 k,.string r] w (fun v w'=>MEnd w0 bM g kd fuel H k r m.wd w'):=by
  refine Ret.mono (sT w0 w _ bM g kd m.wd.inp oO oS m.wd.out.length cO fms.length cS pc bv fuel m.fm.i _ ph none k r hH) ?_
  rintro v w' ⟨b,h⟩
  exact ⟨oO,cO,oS,fms.length,cS,pc,bv,xG g m.fm.c.1 m.fm.b,(m.fm.i:Int),ph,b,((((((h.rm 3).rm 3).rm 3).rm 3).rm 3)).perm PMT⟩
theorem raiseS {w0 w:World} {H:List It} {c:Cx} {bM:Nat} {g:Grs} {kd fuel:Int} {m:Mc} {oO oS ph:Option Addr} {cO cS pc bv:Nat} {mm:List (Int × Value)} {fms:List FmM} {sx:Sx} (hH:HS w0 noM (cb bM 86 (zJ g kd m.wd.inp oO m.wd.out.length cO++yS g fuel oS fms.length cS pc bv (xG g m.fm.c.1 m.fm.b) m.fm.i ph none)::own 5 1 oO m.wd.out.length cO (flat zV m.wd.out)::frz w0 c.K::all (sx.map obI)::own 83 5 oS fms.length cS (flat yF fms)::all (fms.map mpF)::mp bv mm::H) w) (hpc:FnR c m.fm.c.1 m.fm.c.2 pc) (hmm:MapR c m.fm.vs mm) (hfs:FsR g c m.sk fms) (hst:StR c sx m.wd.st) {c0:Cx} {n:Int} (h0:c0.le c) (hb0:c.bd≤c0.bd+1) (hn:iok n) (hR:RdGs w0 g) (hnf:c.nf=g.fs.l.length) (hne:∀f∈g.fs.l,0<f.bs.l.length) (hfl:m.sk.length≤1000000) (hxs:∀s∈g.xs.l,s.size≤4611686018427387904) :
    Ret Tryz.prog 51 #[.pointer (some (bat bM 0)),.int .i64 n] w (fun r w'=>SrW w0 c0 bM g kd fuel H (uY g n m.wd m.sk) w'):=by
  have hl:=hfs.len
  refine Ret.mono (raise_spec w0 w (own 5 1 oO m.wd.out.length cO (flat zV m.wd.out)::all (sx.map obI)::mp bv mm::H) c bM g kd m.wd.inp oO oS m.wd.out.length cO cS pc bv fuel m.fm.i _ ph none fms m.sk m.wd n (hH.perm PMT) hfs hn hR hnf hne (by omega) hxs) ?_
  rintro v w' (⟨sk',cl,p,b,m2,oS2,cS2,fms2,hr,hcf,hm,hf,h⟩| ⟨k,res,oS2,nS2,cS2,b,hr,h⟩)
  · refine SrW.go hr h0 hb0 ⟨oO,cO,oS2,cS2,p,b,m2,fms2,sx,none,?_,hcf,hm,hf,hst⟩
    exact ((h.rm 7).perm PMT)
  · refine SrW.stop hr ⟨oO,cO,oS2,nS2,cS2,pc,bv,xG g m.fm.c.1 m.fm.b,(m.fm.i:Int),ph,b,?_⟩
    exact (((h.rm 2).rm 3).rm 3).perm PMT
theorem callS {w0 w:World} {H:List It} {c:Cx} {bM:Nat} {g:Grs} {kd fuel:Int} {m:Mc} {oO oS ph:Option Addr} {cO cS pc bv:Nat} {mm:List (Int × Value)} {fms:List FmM} {sx:Sx} (hH:HS w0 noM (cb bM 86 (zJ g kd m.wd.inp oO m.wd.out.length cO++yS g fuel oS fms.length cS pc bv (xG g m.fm.c.1 m.fm.b) m.fm.i ph none)::own 5 1 oO m.wd.out.length cO (flat zV m.wd.out)::frz w0 c.K::all (sx.map obI)::own 83 5 oS fms.length cS (flat yF fms)::all (fms.map mpF)::mp bv mm::H) w) (hpc:FnR c m.fm.c.1 m.fm.c.2 pc) (hmm:MapR c m.fm.vs mm) (hfs:FsR g c m.sk fms) (hst:StR c sx m.wd.st) {f x:Vl} {u v:Value} {h:Option Clo} {hd:Option Addr} (hu:RV c f u) (hv:RV c x v) (hhd:hdR c h hd) (hR:RdGs w0 g) (hnf:c.nf=g.fs.l.length) (hne:∀f∈g.fs.l,0<f.bs.l.length) (hfl:m.sk.length≤1000000) :
    Ret Tryz.prog 49 #[.pointer (some (bat bM 0)),u,v,.pointer hd] w (fun r w'=>SrW w0 c bM g kd fuel H (qJ f x h m.wd m.sk m.fm) w'):=by
  have hl:=hfs.len
  refine Ret.mono (call_spec w0 w (own 5 1 oO m.wd.out.length cO (flat zV m.wd.out)::all (sx.map obI)::all (fms.map mpF)::mp bv mm::H) c bM g kd m.wd.inp oO oS m.wd.out.length cO cS pc bv fuel m.fm.i _ ph none hd mm fms f x u v (hH.perm PMT) hu hv hR hnf hne (by omega)) ?_
  rintro r w' (⟨cl,p,b,m2,oS2,cS2,hs,hcf,hm,h2⟩| ⟨hs,b,h2⟩)
  · refine SrW.go (m:=⟨m.wd,{m.fm with h:=h}::m.sk,nY cl x⟩) (by unfold qJ;rw [hs]) c.le_refl (Nat.le_succ _) ⟨oO,cO,oS2,cS2,p,b,m2,fms++[⟨pc,bv,xG g m.fm.c.1 m.fm.b,m.fm.i,hd,mm⟩],sx,none,?_,hcf,hm,⟨fms,_,rfl,⟨hpc,hmm,rfl,rfl,hhd⟩,hfs⟩,hst⟩
    have h3:=mpF_push (x:=⟨pc,bv,xG g m.fm.c.1 m.fm.b,m.fm.i,hd,mm⟩) ((h2.up 6 rfl).up 7 rfl)
    exact h3.perm PMT
  · refine SrW.stop (by unfold qJ;rw [hs];rfl) ⟨oO,cO,oS,fms.length,cS,pc,bv,xG g m.fm.c.1 m.fm.b,(m.fm.i:Int),ph,b,?_⟩
    exact (((((h2.rm 2).rm 2).rm 3).rm 3).rm 3).perm PMT
theorem enterS {w0 w:World} {H:List It} {c:Cx} {bM:Nat} {g:Grs} {kd fuel:Int} {m:Mc} {oO oS ph:Option Addr} {cO cS pc bv:Nat} {mm:List (Int × Value)} {fms:List FmM} {sx:Sx} (hH:HS w0 noM (cb bM 86 (zJ g kd m.wd.inp oO m.wd.out.length cO++yS g fuel oS fms.length cS pc bv (xG g m.fm.c.1 m.fm.b) m.fm.i ph none)::own 5 1 oO m.wd.out.length cO (flat zV m.wd.out)::frz w0 c.K::all (sx.map obI)::own 83 5 oS fms.length cS (flat yF fms)::all (fms.map mpF)::mp bv mm::H) w) (hpc:FnR c m.fm.c.1 m.fm.c.2 pc) (hmm:MapR c m.fm.vs mm) (hfs:FsR g c m.sk fms) (hst:StR c sx m.wd.st) {f x:Vl} {u v:Value} (hu:RV c f u) (hv:RV c x v) (hR:RdGs w0 g) (hnf:c.nf=g.fs.l.length) (hne:∀f∈g.fs.l,0<f.bs.l.length) :
    Ret Tryz.prog 26 #[.pointer (some (bat bM 0)),u,v] w (fun r w'=>SrW w0 c bM g kd fuel H (qR f x m.wd m.sk) w'):=by
  refine Ret.mono (mC w0 w (own 5 1 oO m.wd.out.length cO (flat zV m.wd.out)::all (sx.map obI)::own 83 5 oS fms.length cS (flat yF fms)::all (fms.map mpF)::mp bv mm::H) c bM g kd m.wd.inp oO oS m.wd.out.length cO fms.length cS pc bv fuel m.fm.i _ ph none f x u v (hH.perm PMT) hu hv hR hnf hne) ?_
  rintro r w' (⟨cl,p,b,m2,hs,_,hcf,hm,h2⟩| ⟨hs,_,b,h2⟩)
  · refine SrW.go (m:=⟨m.wd,m.sk,nY cl x⟩) (by unfold qR;rw [hs]) c.le_refl (Nat.le_succ _) ⟨oO,cO,oS,cS,p,b,m2,fms,sx,none,?_,hcf,hm,hfs,hst⟩
    exact (h2.rm 7).perm PMT
  · refine SrW.stop (by unfold qR;rw [hs];rfl) ⟨oO,cO,oS,fms.length,cS,pc,bv,xG g m.fm.c.1 m.fm.b,(m.fm.i:Int),ph,b,?_⟩
    exact (((((h2.rm 2).rm 3).rm 3).rm 3).rm 3).perm PMT
theorem backS {w0 w:World} {H:List It} {c:Cx} {bM:Nat} {g:Grs} {kd fuel:Int} {m:Mc} {oO oS ph:Option Addr} {cO cS pc bv:Nat} {mm:List (Int × Value)} {fms:List FmM} {sx:Sx} (hH:HS w0 noM (cb bM 86 (zJ g kd m.wd.inp oO m.wd.out.length cO++yS g fuel oS fms.length cS pc bv (xG g m.fm.c.1 m.fm.b) m.fm.i ph none)::own 5 1 oO m.wd.out.length cO (flat zV m.wd.out)::frz w0 c.K::all (sx.map obI)::own 83 5 oS fms.length cS (flat yF fms)::all (fms.map mpF)::mp bv mm::H) w) (hpc:FnR c m.fm.c.1 m.fm.c.2 pc) (hmm:MapR c m.fm.vs mm) (hfs:FsR g c m.sk fms) (hst:StR c sx m.wd.st) {x:Vl} {u:Value} (hu:RV c x u) (hR:RdGs w0 g) (hFI:FI w0) (hfl:m.sk.length≤1000000) (hok:∀f∈m.sk,FmOk g f∧f.i<(uO g f).is.l.length) :
    Ret Tryz.prog 53 #[.pointer (some (bat bM 0)),u] w (fun r w'=>SrW w0 c bM g kd fuel H (pY g kd x m.wd m.sk) w'):=by
  have hl:=hfs.len
  obtain ⟨wd,sk,fm⟩:=m
  dsimp only at *
  cases sk with
  | nil=>
    obtain rfl:fms=[]:=hfs
    refine Ret.mono (back0_spec w0 w _ c bM g kd wd.inp oO oS wd.out.length cO cS pc bv fuel fm.i _ ph none x u hH hu hR.2.2.2.2.1 hFI) ?_
    rintro r w' ⟨k,res,b,hr,h2⟩
    refine SrW.stop (hr wd) ⟨oO,cO,oS,0,cS,pc,bv,xG g fm.c.1 fm.b,(fm.i:Int),ph,b,?_⟩
    exact (((((h2.rm 3).rm 3).rm 3).rm 3).rm 3).perm PMT
  | cons f r=>
    obtain ⟨pre,y,rfl,hy,hF⟩:=hfs
    obtain ⟨hfo,hfi⟩:=hok f (List.mem_cons_self ..)
    rw [lenFm] at hH
    have hgm:g.fs.l.getD f.c.1.toNat gr0∈g.fs.l:=xN (show f.c.1.toNat<g.fs.l.length by have:=hfo.f0;have:=hfo.f1;omega)
    have hb1:(g.fs.l.getD f.c.1.toNat gr0).bs.l[f.b]?=some (uO g f):=by
      unfold uO vG
      rw [List.getD_eq_getElem?_getD (l:=(g.fs.l.getD f.c.1.toNat gr0).bs.l),List.getElem?_eq_getElem hfo.b];rfl
    have hi1:(uO g f).is.l[f.i]?=some (vA g f):=by
      unfold vA
      rw [List.getD_eq_getElem?_getD,List.getElem?_eq_getElem hfi];rfl
    have h2:=mpF_pop (hH.up 5 rfl)
    refine Ret.mono (back_spec w0 w (own 5 1 oO wd.out.length cO (flat zV wd.out)::frz w0 c.K::all (sx.map obI)::all (pre.map mpF)::mp bv mm::H) bM g kd wd.inp oO oS none _ cO cS pc bv f.b f.i fuel fm.i _ ph none pre y u _ _ _ (h2.perm PMT) (hR.2.1 _ hgm) hb1 hi1 hy.pb hy.i (by simp only [List.length_cons] at hfl;have:=hF.len;omega)) ?_
    rintro v w' h3
    rw [hy.pb] at h3
    refine SrW.go (m:=⟨wd,r,{f with vs:=tP f.vs (vA g f).x x,i:=f.i+1}⟩) rfl c.le_refl (Nat.le_succ _) ⟨oO,cO,oS,cS,y.pc,y.bv,mset y.m (vA g f).x u,pre,sx,y.ph,?_,hy.fn,hy.vs.set _ hu,hF,hst⟩
    exact (h3.rm 7).perm PMT
theorem mY {w0 w:World} {H:List It} {c:Cx} {bM:Nat} {g:Grs} {kd fuel:Int} {m:Mc} {oO oS ph:Option Addr} {cO cS pc bv:Nat} {mm:List (Int × Value)} {fms:List FmM} {sx:Sx} (hH:HS w0 noM (cb bM 86 (zJ g kd m.wd.inp oO m.wd.out.length cO++yS g fuel oS fms.length cS pc bv (xG g m.fm.c.1 m.fm.b) m.fm.i ph none)::own 5 1 oO m.wd.out.length cO (flat zV m.wd.out)::frz w0 c.K::all (sx.map obI)::own 83 5 oS fms.length cS (flat yF fms)::all (fms.map mpF)::mp bv mm::H) w) (hpc:FnR c m.fm.c.1 m.fm.c.2 pc) (hmm:MapR c m.fm.vs mm) (hfs:FsR g c m.sk fms) (hst:StR c sx m.wd.st) {e:Edg} (ha:∀a∈e.a.l,atW g a) (hR:RdGs w0 g) (hsz:∀s∈g.ss.l,s.size≤4096) (hRe:RdV w0 zN e.a) (hl:e.a.l.length≤1048576)
    (hnf:c.nf=g.fs.l.length) (hb0:0≤e.b) (hb1:e.b<(g.fs.l.getD m.fm.c.1.toNat gr0).bs.l.length) (hpl:e.a.l.length=(vG g m.fm.c.1 e.b.toNat).ps.l.length) :
    Ret Tryz.prog 55 #[.pointer (some (bat bM 0)),.agg (yL e).toArray] w (fun r w'=>SrW w0 c bM g kd fuel H (.go ⟨m.wd,m.sk,uK g m.fm e⟩) w'):=by
  refine Ret.mono (follow_spec w0 w (own 5 1 oO m.wd.out.length cO (flat zV m.wd.out)::all (sx.map obI)::own 83 5 oS fms.length cS (flat yF fms)::all (fms.map mpF)::H) c bM g kd m.wd.inp oO oS m.wd.out.length cO fms.length cS pc bv fuel m.fm.i _ ph none m.fm mm e (hH.perm PMT) hmm hpc ha hR hsz hRe hl hnf hb0 hb1 hpl) ?_
  rintro r w' ⟨m2,hm2,h2⟩
  exact SrW.go rfl c.le_refl (Nat.le_succ _) ⟨oO,cO,oS,cS,pc,bv,m2,fms,sx,ph,h2.perm PMT,hpc,hm2,hfs,hst⟩
end
theorem SrW.le {w0 w:World} {c d:Cx} {bM:Nat} {g:Grs} {kd fuel:Int} {H:List It} {r:Sr} (hle:c.le d) (hb:d.bd=c.bd) (h:SrW w0 d bM g kd fuel H r w):SrW w0 c bM g kd fuel H r w:=by
  cases r with
  | go m=>
    obtain ⟨e,⟨h1,h2⟩,h3⟩:=h
    exact ⟨e,⟨hle.trans h1,by omega⟩,h3⟩
  |stop k s wd=>exact h
theorem in_3 {g:Grs} {fm:Fm} {i:Ins} {wd:Wd} {sk:List Fm} (h:i.r.k=3):nL g fm i wd sk=qJ (yI (xB g fm i.r.a.l) 0) (yI (xB g fm i.r.a.l) 1) none wd sk fm:=by unfold nL;rw [if_pos h]
theorem in_14 {g:Grs} {fm:Fm} {i:Ins} {wd:Wd} {sk:List Fm} (h:i.r.k=14):nL g fm i wd sk=(match asFn (yI (xB g fm i.r.a.l) 0) with
    |some c=>if c.1=i.r.n then qJ (yI (xB g fm i.r.a.l) 0) (yI (xB g fm i.r.a.l) 1) none wd sk fm else vJ wd
    |none=>vJ wd):=by unfold nL;rw [if_neg (by omega),if_pos h]<;>rfl
theorem in_13 {g:Grs} {fm:Fm} {i:Ins} {wd:Wd} {sk:List Fm} (h:i.r.k=13):nL g fm i wd sk=(match asFn (yI (xB g fm i.r.a.l) 1) with
    |some h=>qJ (yI (xB g fm i.r.a.l) 0) (.num 0) (some h) wd sk fm
    |none=>vJ wd):=by unfold nL;rw [if_neg (by omega),if_neg (by omega),if_pos h]<;>rfl
theorem in_p {g:Grs} {fm:Fm} {i:Ins} {wd:Wd} {sk:List Fm} (h:i.r.k≠3∧i.r.k≠14∧i.r.k≠13):nL g fm i wd sk=(match yH i.r (xB g fm i.r.a.l) fm.c.2 wd with
    | .exn s=>uY g (wQ g.xs.l s) wd sk
    | .val v wd'=>if isNil v then vJ wd' else .go ⟨wd',sk,{fm with vs:=tP fm.vs i.x v,i:=fm.i+1}⟩):=by unfold nL;rw [if_neg h.1,if_neg h.2.1,if_neg h.2.2]<;>rfl
theorem want2 {g:Grs} {caps:List Int} {mine:Int} {r:Stp} (h:FormP g caps mine r) (hk:r.k=3∨r.k=13∨r.k=14):r.a.l.length=2:=by
  have hw:=h.want
  unfold vI at hw
  rcases hk with e|e|e<;>rw [e] at hw<;>simp at hw<;>omega
theorem rR {g:Grs} {fm:Fm} {l:List Atm}:(xB g fm l).length=l.length:=by unfold xB;rw [List.length_map]
theorem RV.isNil {c:Cx} {x:Vl} {v:Value} (h:RV c x v):(isNil x=true∧v= .nilIface)∨(isNil x=false∧∃s u,v= .iface s u):=by
  cases x<;>rw [RV] at h
  · exact .inl ⟨rfl,h⟩
  · exact .inr ⟨rfl,_,_,h.1⟩
  · exact .inr ⟨rfl,_,_,h.1⟩
  · obtain ⟨p,o,k,vs,h1,_⟩:=h;exact .inr ⟨rfl,_,_,h1⟩
  · obtain ⟨p,on,cn,ol,cl,vs,h1,_⟩:=h;exact .inr ⟨rfl,_,_,h1⟩
  · obtain ⟨p,u,h1,_⟩:=h;exact .inr ⟨rfl,_,_,h1⟩
  · obtain ⟨p,h1,_⟩:=h;exact .inr ⟨rfl,_,_,h1⟩
  · obtain ⟨p,h1,_⟩:=h;exact .inr ⟨rfl,_,_,h1⟩
def isExn (s:ByteArray):Prop:=s=eT∨s=eS∨s=exnD
theorem texts_exn {op:Int} {l:List Vl} {wd:Wd} {s:ByteArray} (h:vW op l wd= .exn s):isExn s:=by
  unfold vW stk at h
  repeat' split at h
  all_goals first|(cases h;done)|(cases h;exact .inl rfl)|(cases h;exact .inr (.inl rfl))|(cases h;exact .inr (.inr rfl))
theorem arrays_exn {op:Int} {l:List Vl} {wd:Wd} {s:ByteArray} (h:vV op l wd= .exn s):isExn s:=by
  unfold vV stk at h
  repeat' split at h
  all_goals first|(cases h;done)|(cases h;exact .inl rfl)|(cases h;exact .inr (.inl rfl))|(cases h;exact .inr (.inr rfl))
theorem op_exn {op:Int} {l:List Vl} {wd:Wd} {s:ByteArray} (h:opF op l wd= .exn s):isExn s:=by
  unfold opF stk at h
  repeat' split at h
  all_goals first|(cases h;done)|exact texts_exn h|exact arrays_exn h|(cases h;exact .inl rfl)|(cases h;exact .inr (.inl rfl))|(cases h;exact .inr (.inr rfl))
theorem plain_exn {r:Stp} {l cs:List Vl} {wd:Wd} {s:ByteArray} (h:yH r l cs wd= .exn s):isExn s:=by
  by_cases h1:r.k=1
  · rw [pl_1 h1] at h;cases h
  by_cases h2:r.k=2
  · rw [pl_2 h2] at h;exact op_exn h
  by_cases h4:r.k=4
  · rw [pl_4 h4] at h;cases h
  by_cases h5:r.k=5
  · rw [pl_5 h5] at h;cases h
  by_cases h6:r.k=6
  · rw [pl_6 h6] at h;cases h
  by_cases h7:r.k=7
  · rw [pl_7 h7] at h;unfold stk at h;repeat' split at h
    all_goals cases h
  by_cases h8:r.k=8
  · rw [pl_8 h8] at h;unfold stk at h;repeat' split at h
    all_goals cases h
  by_cases h9:r.k=9
  · unfold yH at h;rw [h9] at h;cases h
  by_cases h10:r.k=10
  · rw [pl_10 h10] at h;unfold stk at h;repeat' split at h
    all_goals cases h
  by_cases h11:r.k=11
  · rw [pl_11 h11] at h;unfold stk at h;repeat' split at h
    all_goals cases h
  by_cases h12:r.k=12
  · rw [pl_12 h12] at h;unfold stk at h;repeat' split at h
    all_goals cases h
  unfold yH at h
  rw [if_neg h1,if_neg h2,if_neg h4,if_neg h5,if_neg h6,if_neg h7,if_neg h8,if_neg h9,if_neg h10,if_neg h11,if_neg h12] at h
  cases h
theorem isExn.ne {s:ByteArray} (h:isExn s):(!(s.toList == empS.toList))=true:=by
  rcases h with rfl|rfl|rfl<;>decide +kernel
theorem in_sub (x:Ins) (i:Nat) (v:Value) (h:(yG x.r)[i]?=some v):(xK x)[1+i]?=some v:=by
  match i,h with
  |0,h=>exact h
  |1,h=>exact h
  |2,h=>exact h
  |3,h=>exact h
theorem Cls.ex4 {A B C D:Type} {F:A→B→C→D→World→Prop} {p:Addr} {vs:List Value} (h:∀a b c d,Cls (F a b c d) p vs):Cls (fun w=>∃a b c d,F a b c d w) p vs:=fun w ⟨a,b,c,d,hw⟩=>h a b c d w hw
theorem Cl.ex4 {A B C D:Type} {F:A→B→C→D→World→Prop} {p:Addr} {v:Value} (h:∀a b c d,Cl (F a b c d) p v):Cl (fun w=>∃a b c d,F a b c d w) p v:=fun w ⟨a,b,c,d,hw⟩=>h a b c d w hw
theorem idx_iok {l:List ByteArray} {s:ByteArray} (h:l.length≤9223372036854775807):iok (wQ l s):=by
  unfold wQ
  cases hf:l.findIdx? (fun x=>eqS s x) with
  |none=>exact ⟨by decide,by decide⟩
  | some i=>
    obtain ⟨hi,_⟩:=List.findIdx?_eq_some_iff_getElem.1 hf
    exact ⟨by show (_:Int)≤(i:Int);omega,by show (i:Int)≤_;omega⟩
section
attribute [local irreducible] Code.wp wpList Calls Ex Op1 sat bat blk cb own Go.Fw.mp Go.Fw.mpO Go.Fw.mpI Go.Fw.mpE Go.Fw.itr HS Rd Ret wkD Hp Cl Cls Exit.then Exit.inBlock Exit.noGoto bodyPost Go.Fw.flat wk2 Go.Fw.all Go.Fw.owns wpOp
attribute [local irreducible] sk mpK sko mvO xI opM Go.Fw.mset Go.Fw.mv opK w63 frz obI RV wQ vR vT wT

theorem SrW.drop1 {w0 w:World} {c:Cx} {bM:Nat} {g:Grs} {kd fuel:Int} {H:List It} {x:It} {r:Sr} (h:SrW w0 c bM g kd fuel (x::H) r w):SrW w0 c bM g kd fuel H r w:=by
  cases r with
  | go m=>
    obtain ⟨e,h1,oO,cO,oS,cS,pc,bv,mm,fms,sx,ph,h2,h3⟩:=h
    exact ⟨e,h1,oO,cO,oS,cS,pc,bv,mm,fms,sx,ph,h2.rm 7,h3⟩
  | stop k s wd=>
    obtain ⟨oO,cO,oS,nS,cS,pc,bv,pb,pi,ph,b,h2⟩:=h
    exact ⟨oO,cO,oS,nS,cS,pc,bv,pb,pi,ph,b,h2.rm 3⟩
theorem MEnd.drop1 {w0 w:World} {bM:Nat} {g:Grs} {kd fuel:Int} {H:List It} {x:It} {k:Int} {s:ByteArray} {wd:Wd} (h:MEnd w0 bM g kd fuel (x::H) k s wd w):MEnd w0 bM g kd fuel H k s wd w:=by
  obtain ⟨oO,cO,oS,nS,cS,pc,bv,pb,pi,ph,b,h2⟩:=h
  exact ⟨oO,cO,oS,nS,cS,pc,bv,pb,pi,ph,b,h2.rm 3⟩
theorem ins_spec {w0 w:World} {H:List It} {c:Cx} {bM:Nat} {g:Grs} {kd fuel:Int} {m:Mc} {oO oS ph:Option Addr} {cO cS pc bv:Nat} {mm:List (Int × Value)} {fms:List FmM} {sx:Sx} (hH:HS w0 noM (cb bM 86 (zJ g kd m.wd.inp oO m.wd.out.length cO++yS g fuel oS fms.length cS pc bv (xG g m.fm.c.1 m.fm.b) m.fm.i ph none)::own 5 1 oO m.wd.out.length cO (flat zV m.wd.out)::frz w0 c.K::all (sx.map obI)::own 83 5 oS fms.length cS (flat yF fms)::all (fms.map mpF)::mp bv mm::H) w) (hpc:FnR c m.fm.c.1 m.fm.c.2 pc) (hmm:MapR c m.fm.vs mm) (hfs:FsR g c m.sk fms) (hst:StR c sx m.wd.st) (x:Ins) (hR:RdGs w0 g) (hnf:c.nf=g.fs.l.length) (hne:∀f∈g.fs.l,0<f.bs.l.length) (hsz:∀s∈g.ss.l,s.size≤4096) (hxs:∀s∈g.xs.l,s.size≤4611686018427387904) (hfl:m.sk.length≤1000000)
    (hK0:∀w,c.K w→Kp w0 noM w) (mine:Int) (hF:FormP g (g.fs.l.map Gr.caps) mine x.r) (ha:∀a∈x.r.a.l,atW g a) (hRi:RdIn w0 x) (hla:x.r.a.l.length≤1048576) (hbn:x.r.ns.l.length≤c.bd) (hbd:c.bd≤1000000) (hout:m.wd.out.length≤1000000) (hil:m.fm.i≤1000000000000) :
    Ret Tryz.prog 28 #[.pointer (some (bat bM 0)),.agg (xK x).toArray] w (fun r w'=>SrW w0 c bM g kd fuel H (nL g m.fm x m.wd m.sk) w'):=by
  (refine ENT (N:=127) Tryz.func28 Tryz.ntmps28 ?_;intro a hA)
  repeat' (first|(refine QT ?_;clear hA a;intro a hA)|(refine BT ?_;clear hA hH;rintro _ w ⟨bN,rfl,hH⟩ a hA)|refine CT ?_|fail)
  obtain ⟨b3,hb3⟩:∃x,x=bN:=⟨_,rfl⟩
  rw [←hb3] at hA hH
  clear hb3 bN
  (refine zH hA rfl rfl (by decide) (zA rfl rfl rfl (all_spec w0 w (own 5 1 oO m.wd.out.length cO (flat zV m.wd.out)::frz w0 c.K::all (sx.map obI)::own 83 5 oS fms.length cS (flat yF fms)::all (fms.map mpF)::cb b3 59 (xK x)::H) c bM g kd m.wd.inp oO oS m.wd.out.length cO fms.length cS pc bv fuel m.fm.i _ ph none m.fm mm x.r.a (hH.perm PMT) hmm ha hR.2.2.2.2.2 hsz hRi.2 hla)) ?_;clear hA hH;rintro _ w ⟨oL,cL,vs,rfl,hV0,hH⟩ a hA)
  have hvl:=hV0.len
  rw [rR] at hvl
  have hlc:vs.length≤cL∧cL≤maxLen:=hH.own_le (T:=137) (o:=oL) (by exact MEMT)
  have hle:=c.more (fun w=>Rd w oL vs)
  replace hH:=(hH.perm (H':=own 137 1 oL vs.length cL vs::frz w0 c.K::cb bM 86 (zJ g kd m.wd.inp oO m.wd.out.length cO++yS g fuel oS fms.length cS pc bv (xG g m.fm.c.1 m.fm.b) m.fm.i ph none)::own 5 1 oO m.wd.out.length cO (flat zV m.wd.out)::all (sx.map obI)::own 83 5 oS fms.length cS (flat yF fms)::all (fms.map mpF)::mp bv mm::cb b3 59 (xK x)::H) PMT).frz_own
  obtain ⟨c1,hc1⟩:∃c1:Cx,c1={c with K:=fun w=>Rd w oL vs∧c.K w}:=⟨_,rfl⟩
  have hL:∀w,c1.K w→Rd w oL vs:=fun w h=>by rw [hc1] at h;exact h.1
  have hK1:∀w,c1.K w→Kp w0 noM w:=fun w h=>by rw [hc1] at h;exact hK0 w h.2
  have hKe:c1.K=fun w=>Rd w oL vs∧c.K w:=by rw [hc1]
  have hbe:c1.bd=c.bd:=by rw [hc1]
  have hne1:c1.nf=c.nf:=by rw [hc1]
  rw [←hKe] at hH
  replace hH:=hH.perm (H':=cb bM 86 (zJ g kd m.wd.inp oO m.wd.out.length cO++yS g fuel oS fms.length cS pc bv (xG g m.fm.c.1 m.fm.b) m.fm.i ph none)::own 5 1 oO m.wd.out.length cO (flat zV m.wd.out)::frz w0 c1.K::all (sx.map obI)::own 83 5 oS fms.length cS (flat yF fms)::all (fms.map mpF)::mp bv mm::cb b3 59 (xK x)::H) PMT
  rw [←hc1] at hle
  have hst1:=hst.more (fun w=>Rd w oL vs)
  rw [←hc1] at hst1
  clear hc1 hKe
  have hV:=RVs.mono hle _ _ hV0
  replace hpc:=hpc.mono hle
  replace hmm:=hmm.mono hle
  replace hfs:=hfs.mono hle
  have hnf1:c1.nf=g.fs.l.length:=by omega
  have hsp:Sp oL vs.length:=(hL w (hH.frz (by exact MEMT))).sp (sz:=1) (by omega) (by omega)
  have hkl:=hF.lo
  have hkh:=hF.hi
  obtain ⟨kk,hkk⟩:∃kk,kk=x.r.k:=⟨_,rfl⟩
  by_cases h3:x.r.k=3
  · have h2:=want2 hF (.inl h3)
    obtain ⟨v0,hv0,hx0⟩:=hV.get0 (i:=0) (by rw [rR];omega)
    obtain ⟨v1,hv1,hx1⟩:=hV.get0 (i:=1) (by rw [rR];omega)
    repeat' (first|(refine QT ?_;clear hA a;intro a hA)|refine CT ?_|(refine DT ?_ ?_<;>intro hc<;>try (exfalso;omega))|fail)
    (refine zK [(0,1),(1,1),(2,1),(3,1),(4,1),(5,1),(6,1)] [7] mixed (by decide +kernel) hH ?_;replace hH:=hH.drew)
    repeat' (first|(refine XT ?_;apply XE;(first|(apply zD;rfl;rfl;decide;omega;exact hsp)|(apply zC;rfl;exact yJ MEMT hL hv0)|(apply zC;rfl;exact yJ MEMT hL hv1));clear hA a;intro a hA)|(refine QT ?_;clear hA a;intro a hA)|refine CT ?_|fail)
    (refine rC hA rfl rfl rfl (by decide) (zA rfl rfl rfl (callS (h:=none) (hd:=none) hH hpc hmm hfs hst1 hx0 hx1 rfl hR hnf1 hne hfl)) ?_;clear hA hH;rintro _ w hS a hA)
    repeat' (first|(refine QT ?_;clear hA a;intro a hA)|refine CT ?_|fail)
    exact rt0 (.inl rfl) rfl hA (by rw [in_3 h3];exact (SrW.le hle hbe hS).drop1)
  by_cases h14:x.r.k=14
  · have h2:=want2 hF (.inr (.inr h14))
    obtain ⟨v0,hv0,hx0⟩:=hV.get0 (i:=0) (by rw [rR];omega)
    obtain ⟨v1,hv1,hx1⟩:=hV.get0 (i:=1) (by rw [rR];omega)
    have e14:=in_14 (g:=g) (fm:=m.fm) (wd:=m.wd) (sk:=m.sk) h14
    rcases hx0.asFn with ⟨fi,fl,fp,hs,hv0e,hf⟩| ⟨hs,hn⟩
    · rw [hs] at e14
      dsimp only at e14
      unfold vY at hv0e
      subst hv0e
      obtain ⟨o9,k9,vs9,hfr9,hp9,_⟩:=id hf
      repeat' (first|(refine XT ?_;apply XE;(first|(apply zD;rfl;rfl;decide;omega;exact hsp)|(apply zC;rfl;exact yJ MEMT hL hv0)|(apply zL;rfl));clear hA a;intro a hA)|(refine QT ?_;clear hA a;intro a hA)|refine CT ?_|(refine DT ?_ ?_<;>intro hc<;>try (exfalso;omega))|fail)
      (refine zQ [(0,1),(1,1),(2,1),(3,1),(4,1),(5,1),(6,1),(7,1),(8,1),(9,1),(10,1),(11,1)] mixed (by decide +kernel) hH ?_;replace hH:=hH.drew)
      repeat' (first|(refine GT ?_ ?_<;>intro hg<;>clear hA a<;>intro a hA<;>(first|exact FA|replace hg:=dTr hg|replace hg:=dFa hg|skip))|(refine XT ?_;apply XE;(first|(apply zC;rfl;exact wG MEMT hp9 rfl));clear hA a;intro a hA)|(refine QT ?_;clear hA a;intro a hA)|refine CT ?_|(refine DT ?_ ?_<;>intro hc<;>try (exfalso;omega))|fail)
      · repeat' (first|(refine QT ?_;clear hA a;intro a hA)|(refine zH hA rfl rfl (by decide) (zA rfl rfl rfl (eZ hH hpc hmm hfs hst1 4 empS)) ?_;clear hA hH;rintro _ w hS a hA)|refine CT ?_|fail)
        exact rt0 (.inl rfl) rfl hA (SrW.stop (by rw [e14,if_neg (by assumption)];rfl) hS.drop1)
      (refine zK [(0,1),(1,1),(2,1),(3,1),(4,1),(5,1),(6,1)] [7] mixed (by decide +kernel) hH ?_;replace hH:=hH.drew)
      repeat' (first|(refine XT ?_;apply XE;(first|(apply zD;rfl;rfl;decide;omega;exact hsp)|(apply zC;rfl;exact yJ MEMT hL hv0)|(apply zC;rfl;exact yJ MEMT hL hv1));clear hA a;intro a hA)|(refine QT ?_;clear hA a;intro a hA)|refine CT ?_|fail)
      (refine rC hA rfl rfl rfl (by decide) (zA rfl rfl rfl (callS (h:=none) (hd:=none) hH hpc hmm hfs hst1 hx0 hx1 rfl hR hnf1 hne hfl)) ?_;clear hA hH;rintro _ w hS a hA)
      repeat' (first|(refine QT ?_;clear hA a;intro a hA)|refine CT ?_|fail)
      exact rt0 (.inl rfl) rfl hA (by rw [e14,if_pos (by omega)];exact (SrW.le hle hbe hS).drop1)
    · rw [hs] at e14
      dsimp only at e14
      repeat' (first|(refine XT ?_;apply XE;(first|(apply zD;rfl;rfl;decide;omega;exact hsp)|(apply zC;rfl;exact yJ MEMT hL hv0)|(apply yC;rfl;exact hn));clear hA a;intro a hA)|(refine QT ?_;clear hA a;intro a hA)|refine CT ?_|(refine DT ?_ ?_<;>intro hc<;>try (exfalso;omega))|fail)
      (refine zQ [(0,1),(1,1),(2,1),(3,1),(4,1),(5,1),(6,1),(7,1),(8,1),(9,1),(10,1),(11,1)] mixed (by decide +kernel) hH ?_;replace hH:=hH.drew)
      repeat' (first|(refine GT ?_ ?_<;>intro hg<;>clear hA a<;>intro a hA<;>(first|exact FA|replace hg:=dTr hg|replace hg:=dFa hg|skip))|(refine QT ?_;clear hA a;intro a hA)|(refine zH hA rfl rfl (by decide) (zA rfl rfl rfl (eZ hH hpc hmm hfs hst1 4 empS)) ?_;clear hA hH;rintro _ w hS a hA)|refine CT ?_|fail)
      exact rt0 (.inl rfl) rfl hA (SrW.stop (by rw [e14];rfl) hS.drop1)
  by_cases h13:x.r.k=13
  · have h2:=want2 hF (.inr (.inl h13))
    obtain ⟨v0,hv0,hx0⟩:=hV.get0 (i:=0) (by rw [rR];omega)
    obtain ⟨v1,hv1,hx1⟩:=hV.get0 (i:=1) (by rw [rR];omega)
    have e13:=in_13 (g:=g) (fm:=m.fm) (wd:=m.wd) (sk:=m.sk) h13
    rcases hx1.asFn with ⟨fi,fl,fp,hs,hv1e,hf⟩| ⟨hs,hn⟩
    · rw [hs] at e13
      dsimp only at e13
      unfold vY at hv1e
      subst hv1e
      repeat' (first|(refine XT ?_;apply XE;(first|(apply zD;rfl;rfl;decide;omega;exact hsp)|(apply zC;rfl;exact yJ MEMT hL hv0)|(apply zC;rfl;exact yJ MEMT hL hv1)|(apply zY;rfl)|(apply zL;rfl));clear hA a;intro a hA)|(refine QT ?_;clear hA a;intro a hA)|refine CT ?_|(refine DT ?_ ?_<;>intro hc<;>try (exfalso;omega))|fail)
      (refine zH hA rfl rfl (by decide) (zA rfl rfl rfl (callS (h:=some (fi,fl)) (hd:=some (bat fp 0)) hH hpc hmm hfs hst1 hx0 (RV_num (c:=c1) (n:=0) ⟨by decide,by decide⟩) ⟨fp,rfl,hf⟩ hR hnf1 hne hfl)) ?_;clear hA hH;rintro _ w hS a hA)
      repeat' (first|(refine QT ?_;clear hA a;intro a hA)|refine CT ?_|fail)
      exact rt0 (.inl rfl) rfl hA (by rw [e13];exact (SrW.le hle hbe hS).drop1)
    · rw [hs] at e13
      dsimp only at e13
      repeat' (first|(refine XT ?_;apply XE;(first|(apply zD;rfl;rfl;decide;omega;exact hsp)|(apply zC;rfl;exact yJ MEMT hL hv1)|(apply yC;rfl;exact hn));clear hA a;intro a hA)|(refine QT ?_;clear hA a;intro a hA)|(refine zH hA rfl rfl (by decide) (zA rfl rfl rfl (eZ hH hpc hmm hfs hst1 4 empS)) ?_;clear hA hH;rintro _ w hS a hA)|refine CT ?_|(refine DT ?_ ?_<;>intro hc<;>try (exfalso;omega))|fail)
      exact rt0 (.inl rfl) rfl hA (SrW.stop (by rw [e13];rfl) hS.drop1)
  have ep:=in_p (g:=g) (fm:=m.fm) (i:=x) (wd:=m.wd) (sk:=m.sk) ⟨h3,h14,h13⟩
  repeat' (first|(refine QT ?_;clear hA a;intro a hA)|refine CT ?_|(refine DT ?_ ?_<;>intro hc<;>try (exfalso;omega))|fail)
  have hS0:(fun w=>∃s oO nO cO,HS w0 noM [cb bM 86 (zJ g kd s oO nO cO++yS g fuel oS fms.length cS pc bv (xG g m.fm.c.1 m.fm.b) m.fm.i ph none),cb b3 59 (xK x)] w) w:=⟨_,_,_,_,((((((HS.left (H1:=[_,_,_,_,_,_,_,_]) hH).rm 1).rm 1).rm 1).rm 1).rm 1).rm 1⟩
  have hS1:Cls (fun w=>∃s oO nO cO,HS w0 noM [cb bM 86 (zJ g kd s oO nO cO++yS g fuel oS fms.length cS pc bv (xG g m.fm.c.1 m.fm.b) m.fm.i ph none),cb b3 59 (xK x)] w) (bat b3 1) (yG x.r):=Cls.ex4 (F:=fun s oO nO cO w=>HS w0 noM [cb bM 86 (zJ g kd s oO nO cO++yS g fuel oS fms.length cS pc bv (xG g m.fm.c.1 m.fm.b) m.fm.i ph none),cb b3 59 (xK x)] w) fun s oO nO cO=>rW (by exact MEMT) (in_sub x)
  have hS2:Cl (fun w=>∃s oO nO cO,HS w0 noM [cb bM 86 (zJ g kd s oO nO cO++yS g fuel oS fms.length cS pc bv (xG g m.fm.c.1 m.fm.b) m.fm.i ph none),cb b3 59 (xK x)] w) (bat bM 12) (.pointer (some (bat pc 0))):=Cl.ex4 (F:=fun s oO nO cO w=>HS w0 noM [cb bM 86 (zJ g kd s oO nO cO++yS g fuel oS fms.length cS pc bv (xG g m.fm.c.1 m.fm.b) m.fm.i ph none),cb b3 59 (xK x)] w) fun s oO nO cO=>fZ (by exact MEMT) rfl
  refine jL [(0,1),(1,1),(2,1),(3,1),(4,1),(5,1),(6,1),(7,1),(8,1),(9,1),(10,1),(11,0),(12,1),(13,1),(14,1),(15,1),(16,1)] [] (fun w=>∃s oO nO cO,HS w0 noM [cb bM 86 (zJ g kd s oO nO cO++yS g fuel oS fms.length cS pc bv (xG g m.fm.c.1 m.fm.b) m.fm.i ph none),cb b3 59 (xK x)] w) mixed (by decide +kernel) (by obtain ⟨s1,o1,n1,c2,h9⟩:=hS0;exact ⟨s1,o1,n1,c2,h9.drew⟩) ?_
  clear hS0
  replace hH:=hH.drew
  repeat' (first|(refine XT ?_;apply XE;(first|(apply zG (vs:=yG x.r);rfl;rfl;exact hS1)|(apply zC;rfl;exact hS2));clear hA a;intro a hA)|(refine QT ?_;clear hA a;intro a hA)|fail)
  have hpl:=Plain_spec w0 _ (own 83 5 oS fms.length cS (flat yF fms)::all (fms.map mpF)::mp bv mm::cb b3 59 (xK x)::H) c1 86 bM g kd (yS g fuel oS fms.length cS pc bv (xG g m.fm.c.1 m.fm.b) m.fm.i ph none) (g.fs.l.map Gr.caps) mine x.r (xB g m.fm x.r.a.l) vs oL oO cL cO m.wd sx m.fm.c.1 m.fm.c.2 pc hH hL hlc hV hst1 hF rR (by rw [List.length_map];exact hnf1) hpc hK1 hRi.1 (by omega) (by omega) hout hR.2.2.2.1.le ⟨h3,h13,h14⟩
  (refine yO hA rfl rfl rfl (by decide) (zA rfl rfl rfl hpl) ?_;clear hA hH hpl)
  rintro u w ⟨d,sx2,oO2,cO2,⟨hle2,hb2⟩,hH,hr,hS2'⟩
  refine ⟨⟨_,_,_,_,((((((HS.left (H1:=[_,_,_,_,_,_,_,_]) hH).rm 1).rm 1).rm 1).rm 1).rm 1).rm 1⟩,?_⟩
  clear hS1 hS2
  intro a hA
  have hS2:=hS2'
  clear hS2'
  have hle3:=hle.trans hle2
  have hb3:d.bd≤c.bd+1:=by omega
  have hpc2:=hpc.mono hle2
  have hmm2:=hmm.mono hle2
  have hfs2:=hfs.mono hle2
  have hnf2:d.nf=g.fs.l.length:=by rw [←hle2.nf];exact hnf1
  cases hp:yH x.r (xB g m.fm x.r.a.l) m.fm.c.2 m.wd with
  | exn s=>
    rw [hp] at hH hr hS2 ep
    obtain rfl:u= .tuple #[.nilIface,.string s]:=hr
    have hsn:=(plain_exn hp).ne
    have hxR:=hR.2.2.2.2.1
    have hio:=idx_iok (l:=g.xs.l) (s:=s) hxR.le
    change HS w0 noM (cb bM 86 (zJ g kd (m.wd).inp oO2 (m.wd).out.length cO2++yS g fuel oS fms.length cS pc bv (xG g m.fm.c.1 m.fm.b) m.fm.i ph none)::own 5 1 oO2 (m.wd).out.length cO2 (flat zV (m.wd).out)::frz w0 d.K::all (sx2.map obI)::own 83 5 oS fms.length cS (flat yF fms)::all (fms.map mpF)::mp bv mm::cb b3 59 (xK x)::H) w at hH
    repeat' (first|(refine XT ?_;apply XE;(first|(apply nG;rfl;rfl));clear hA a;intro a hA)|(refine QT ?_;clear hA a;intro a hA)|refine CT ?_|(refine DT ?_ ?_<;>intro hc<;>try (exfalso;omega))|fail)
    rotate_left
    · exact absurd (hsn.symm.trans (by assumption):true=false) (by decide)
    (refine zH hA rfl rfl (by decide) (zA rfl rfl rfl (Exn_spec w0 w (own 5 1 oO2 (m.wd).out.length cO2 (flat zV (m.wd).out)::frz w0 d.K::all (sx2.map obI)::own 83 5 oS fms.length cS (flat yF fms)::all (fms.map mpF)::mp bv mm::cb b3 59 (xK x)::H) 86 bM [] _ g.xs s hH hxR)) ?_;clear hA hH;rintro _ w ⟨rfl,hH⟩ a hA)
    change HS w0 noM (cb bM 86 (zJ g kd (m.wd).inp oO2 (m.wd).out.length cO2++yS g fuel oS fms.length cS pc bv (xG g m.fm.c.1 m.fm.b) m.fm.i ph none)::own 5 1 oO2 (m.wd).out.length cO2 (flat zV (m.wd).out)::frz w0 d.K::all (sx2.map obI)::own 83 5 oS fms.length cS (flat yF fms)::all (fms.map mpF)::mp bv mm::cb b3 59 (xK x)::H) w at hH
    (refine zH hA rfl rfl (by decide) (zA rfl rfl rfl (raiseS hH hpc2 hmm2 hfs2 hS2 hle3 hb3 hio hR hnf2 hne hfl hxs)) ?_;clear hA hH;rintro _ w hS a hA)
    repeat' (first|(refine QT ?_;clear hA a;intro a hA)|refine CT ?_|fail)
    exact rt0 (.inr rfl) rfl hA (by rw [ep];exact hS.drop1)
  | val v wd'=>
    rw [hp] at hH hr hS2 ep
    obtain ⟨u',hu',rfl⟩:=hr
    change HS w0 noM (cb bM 86 (zJ g kd (wd').inp oO2 (wd').out.length cO2++yS g fuel oS fms.length cS pc bv (xG g m.fm.c.1 m.fm.b) m.fm.i ph none)::own 5 1 oO2 (wd').out.length cO2 (flat zV (wd').out)::frz w0 d.K::all (sx2.map obI)::own 83 5 oS fms.length cS (flat yF fms)::all (fms.map mpF)::mp bv mm::cb b3 59 (xK x)::H) w at hH
    dsimp only at ep
    rcases hu'.isNil with ⟨hn0,rfl⟩| ⟨hn0,s9,u9,rfl⟩
    · rw [hn0,if_pos rfl] at ep
      repeat' (first|(refine XT ?_;apply XE;(first|(apply nG;rfl;rfl)|(apply ex_eqlI0;rfl));clear hA a;intro a hA)|(refine QT ?_;clear hA a;intro a hA)|refine CT ?_|(refine DT ?_ ?_<;>intro hc<;>try (exfalso;omega))|fail)
      · exact absurd (by assumption:(!(empS.toList == (⟨#[]⟩:ByteArray).toList))=true) (by decide +kernel)
      (refine zH hA rfl rfl (by decide) (zA rfl rfl rfl (eZ (m:=⟨wd',m.sk,m.fm⟩) hH hpc2 hmm2 hfs2 hS2 4 empS)) ?_;clear hA hH;rintro _ w hS a hA)
      repeat' (first|(refine QT ?_;clear hA a;intro a hA)|refine CT ?_|fail)
      exact rt0 (.inr rfl) rfl hA (SrW.stop ep hS.drop1)
    · rw [hn0,if_neg (by decide)] at ep
      repeat' (first|(refine XT ?_;apply XE;(first|(apply nG;rfl;rfl)|(apply ex_eqlI1;rfl));clear hA a;intro a hA)|(refine QT ?_;clear hA a;intro a hA)|refine CT ?_|(refine DT ?_ ?_<;>intro hc<;>try (exfalso;omega))|fail)
      · exact absurd (by assumption:(!(empS.toList == (⟨#[]⟩:ByteArray).toList))=true) (by decide +kernel)
      (refine zK [(0,1),(1,1),(2,1),(3,1),(4,1),(5,1),(6,1),(7,1)] [8] mixed (by decide +kernel) hH ?_;replace hH:=hH.drew)
      repeat' (first|(refine QT ?_;clear hA a;intro a hA)|(apply zX hA rfl rfl rfl;apply xT;rfl;rfl;rfl;exact hH;(repeat constructor);clear hH;rintro _ w hH)|(apply zO hA rfl rfl;apply zB (cs':=zJ g kd wd'.inp oO2 wd'.out.length cO2++yS g fuel oS fms.length cS pc bv (xG g m.fm.c.1 m.fm.b) ((m.fm.i+1:Nat):Int) ph none);rfl;rfl;rfl;exact hH;(repeat constructor);clear hH;rintro _ w hH)|refine CT ?_|fail)
      refine rt0 (.inr rfl) rfl hA (SrW.go (m:=⟨wd',m.sk,{m.fm with vs:=tP m.fm.vs x.x v,i:=m.fm.i+1}⟩) ep hle3 hb3 ⟨oO2,cO2,oS,cS,pc,bv,mset mm x.x (.iface s9 u9),fms,sx2,ph,?_,hpc2,hmm2.set _ hu',hfs2,hS2⟩)
      exact hH.rm 7
end
theorem texts_out {op:Int} {l:List Vl} {wd wd':Wd} {v:Vl} (h:vW op l wd= .val v wd'):wd'.out.length≤wd.out.length+1:=by
  unfold vW stk at h
  repeat' split at h
  all_goals first|(cases h;done)|(cases h;exact Nat.le_succ _)
theorem arrays_out {op:Int} {l:List Vl} {wd wd':Wd} {v:Vl} (h:vV op l wd= .val v wd'):wd'.out.length≤wd.out.length+1:=by
  unfold vV stk at h
  repeat' split at h
  all_goals first|(cases h;done)|(cases h;exact Nat.le_succ _)
theorem op_out {op:Int} {l:List Vl} {wd wd':Wd} {v:Vl} (h:opF op l wd= .val v wd'):wd'.out.length≤wd.out.length+1:=by
  unfold opF stk at h
  repeat' split at h
  all_goals first|(cases h;done)|exact texts_out h|exact arrays_out h|(cases h;exact Nat.le_succ _)|(cases h;simp)
theorem dH {r:Stp} {l cs:List Vl} {wd wd':Wd} {v:Vl} (h:yH r l cs wd= .val v wd'):wd'.out.length≤wd.out.length+1:=by
  by_cases h2:r.k=2
  · rw [pl_2 h2] at h;exact op_out h
  unfold yH stk at h
  rw [if_neg h2] at h
  repeat' split at h
  all_goals first|(cases h;done)|(cases h;exact Nat.le_succ _)
theorem getD_or {α:Type} (l:List α) (i:Nat) (d:α):l.getD i d∈l∨l.getD i d=d:=by
  by_cases h:i<l.length
  · exact .inl (xN h)
  · exact .inr (by rw [List.getD_eq_getElem?_getD,List.getElem?_eq_none (by omega)];rfl)
theorem dE {g:Grs} {n:Int} {wd:Wd}:∀{sk sk':List Fm} {c:Clo},sH n wd sk=some (sk',c)→(∀f∈sk,FmOk g f∧f.i<(uO g f).is.l.length)→(∀f∈sk',FmOk g f∧f.i<(uO g f).is.l.length)∧sk'.length≤sk.length
  | [],sk',c,h,_=>by cases h
  | f ::r,sk',c,h,hk=>by
    unfold sH at h
    split at h
    · cases h
      refine ⟨fun f' hf'=>?_,Nat.le_refl _⟩
      rcases List.mem_cons.1 hf' with rfl|hf'
      · have:=hk f (List.mem_cons_self ..)
        exact ⟨⟨this.1.f0,this.1.f1,this.1.b⟩,this.2⟩
      · exact hk f' (List.mem_cons_of_mem _ hf')
    · have:=dE h (fun f' hf'=>hk f' (List.mem_cons_of_mem _ hf'))
      exact ⟨this.1,Nat.le_succ_of_le this.2⟩
theorem bX {g:Grs} {c:Clo} {x:Vl} (hne:∀f∈g.fs.l,0<f.bs.l.length) (h0:0≤c.1) (h1:c.1<g.fs.l.length):FmOk g (nY c x):=⟨h0,h1,hne _ (xN (show c.1.toNat<g.fs.l.length by omega))⟩
structure StOk (g:Grs) (m m':Mc):Prop where
  ok:McOk g m'
  sk:m'.sk.length≤m.sk.length+1
  out:m'.wd.out.length≤m.wd.out.length+1
theorem raise_ok {g:Grs} {n:Int} {m m':Mc} (hs:uY g n m.wd m.sk= .go m') (h:McOk g m) (hne:∀f∈g.fs.l,0<f.bs.l.length) (h0:0≤m'.fm.c.1) (h1:m'.fm.c.1<g.fs.l.length):StOk g m m':=by
  unfold uY vJ at hs
  split at hs
  · cases hs
  split at hs
  · rename_i sk' c hr
    cases hs
    obtain ⟨hk,hl⟩:=dE (g:=g) hr h.sk
    exact ⟨⟨bX hne h0 h1,Nat.zero_le _,hk⟩,Nat.le_succ_of_le hl,Nat.le_succ _⟩
  · cases hs
theorem enter_ok {g:Grs} {f x:Vl} {m m':Mc} (hs:qR f x m.wd m.sk= .go m') (h:McOk g m) (hne:∀f∈g.fs.l,0<f.bs.l.length) (h0:0≤m'.fm.c.1) (h1:m'.fm.c.1<g.fs.l.length):StOk g m m':=by
  unfold qR vJ at hs
  split at hs
  · cases hs
    exact ⟨⟨bX hne h0 h1,Nat.zero_le _,h.sk⟩,Nat.le_succ _,Nat.le_succ _⟩
  · cases hs
theorem call_ok {g:Grs} {f x:Vl} {hd:Option Clo} {m m':Mc} (hs:qJ f x hd m.wd m.sk m.fm= .go m') (h:McOk g m) (hi:m.fm.i<(uO g m.fm).is.l.length) (hne:∀f∈g.fs.l,0<f.bs.l.length) (h0:0≤m'.fm.c.1) (h1:m'.fm.c.1<g.fs.l.length):StOk g m m':=by
  unfold qJ vJ at hs
  split at hs
  · cases hs
    refine ⟨⟨bX hne h0 h1,Nat.zero_le _,fun f hf=>?_⟩,Nat.le_refl _,Nat.le_succ _⟩
    rcases List.mem_cons.1 hf with rfl|hf
    · exact ⟨⟨h.fm.f0,h.fm.f1,h.fm.b⟩,hi⟩
    · exact h.sk f hf
  · cases hs
theorem ins_ok {g:Grs} {x:Ins} {m m':Mc} (hs:nL g m.fm x m.wd m.sk= .go m') (h:McOk g m) (hi:m.fm.i<(uO g m.fm).is.l.length) (hne:∀f∈g.fs.l,0<f.bs.l.length) (h0:0≤m'.fm.c.1) (h1:m'.fm.c.1<g.fs.l.length):StOk g m m':=by
  unfold nL at hs
  split at hs
  · exact call_ok hs h hi hne h0 h1
  split at hs
  · split at hs
    · split at hs
      · exact call_ok hs h hi hne h0 h1
      · cases hs
    · cases hs
  split at hs
  · split at hs
    · exact call_ok hs h hi hne h0 h1
    · cases hs
  split at hs
  · exact raise_ok hs h hne h0 h1
  · rename_i v wd' hp
    split at hs
    · cases hs
    · cases hs
      exact ⟨⟨⟨h.fm.f0,h.fm.f1,h.fm.b⟩,hi,h.sk⟩,Nat.le_succ _,dH hp⟩
theorem kC {g:Grs} {e:Edg} {m:Mc} (h:McOk g m) (h0:0≤e.b) (h1:e.b<(g.fs.l.getD m.fm.c.1.toNat gr0).bs.l.length):StOk g m ⟨m.wd,m.sk,uK g m.fm e⟩:=
  ⟨⟨⟨h.fm.f0,h.fm.f1,by show e.b.toNat<(g.fs.l.getD m.fm.c.1.toNat gr0).bs.l.length;omega⟩,Nat.zero_le _,h.sk⟩,Nat.le_succ _,Nat.le_succ _⟩
theorem back_ok {g:Grs} {kd:Int} {x:Vl} {m m':Mc} (hs:pY g kd x m.wd m.sk= .go m') (h:McOk g m):StOk g m m':=by
  obtain ⟨wd,sk,fm⟩:=m
  dsimp only at hs
  unfold pY vJ at hs
  split at hs
  · split at hs<;>cases hs
  · rename_i f r
    cases hs
    have hf:=h.sk f (List.mem_cons_self ..)
    refine ⟨⟨⟨hf.1.f0,hf.1.f1,hf.1.b⟩,hf.2,fun f' hf'=>h.sk f' (List.mem_cons_of_mem _ hf')⟩,?_,Nat.le_succ _⟩
    show r.length≤(f::r).length+1
    rw [List.length_cons];omega
theorem last_ok {g:Grs} {kd:Int} {e:En} {m m':Mc} (hs:sC g kd m.fm e m.wd m.sk= .go m') (h:McOk g m) (hne:∀f∈g.fs.l,0<f.bs.l.length) (hE:∀t∈e.to.l,0≤t.b∧t.b<(g.fs.l.getD m.fm.c.1.toNat gr0).bs.l.length) (h0:0≤m'.fm.c.1) (h1:m'.fm.c.1<g.fs.l.length):StOk g m m':=by
  have hb:=h.fm.b
  have hE2:∀i,0≤(e.to.l.getD i sJ).b∧(e.to.l.getD i sJ).b<(g.fs.l.getD m.fm.c.1.toNat gr0).bs.l.length:=fun i=>by
    rcases getD_or e.to.l i sJ with h|h
    · exact hE _ h
    · rw [h];exact ⟨Int.le_refl _,by show (0:Int)< _;omega⟩
  unfold sC vJ at hs
  split at hs
  · exact back_ok hs h
  split at hs
  · exact enter_ok hs h hne h0 h1
  split at hs
  · cases hs;exact kC h (hE2 _).1 (hE2 _).2
  split at hs
  · cases hs
  split at hs
  · exact raise_ok hs h hne h0 h1
  split at hs
  · cases hs;exact kC h (hE2 _).1 (hE2 _).2
  · cases hs;exact kC h (hE2 _).1 (hE2 _).2
theorem step_ok {g:Grs} {kd:Int} {m m':Mc} (hs:sY g kd m= .go m') (h:McOk g m) (hne:∀f∈g.fs.l,0<f.bs.l.length) (hE:∀t∈(uO g m.fm).e.to.l,0≤t.b∧t.b<(g.fs.l.getD m.fm.c.1.toNat gr0).bs.l.length) (h0:0≤m'.fm.c.1) (h1:m'.fm.c.1<g.fs.l.length):StOk g m m':=by
  unfold sY at hs
  split at hs
  · exact ins_ok hs h (by assumption) hne h0 h1
  · exact last_ok hs h hne hE h0 h1
theorem first_ok {g:Grs} {s:ByteArray} (hne:∀f∈g.fs.l,0<f.bs.l.length) (h:0<g.fs.l.length):McOk g (uM s):=⟨bX hne (by decide) (by show (0:Int)< _;omega),Nat.zero_le _,fun f hf=>absurd hf (List.not_mem_nil)⟩
theorem may_ne {g:Grs} (h:MayP g):∀f∈g.fs.l,0<f.bs.l.length:=fun f hf=>(h.gr f hf).ne
theorem atS_W {g:Grs} {S:Int→Prop} {a:Atm} (hs:g.ss.l.length≤9223372036854775807) (h:atS g S a):atW g a:=by
  rcases h with ⟨h1,h2,h3,_⟩| ⟨h1,h2,h3⟩| ⟨h1,h2,h3⟩
  · exact ⟨⟨by omega,by omega⟩,fun e=>by omega⟩
  · exact ⟨⟨by omega,by omega⟩,fun e=>by omega⟩
  · exact ⟨⟨by omega,by omega⟩,fun e=>⟨h2,h3⟩⟩
structure CurOk (g:Grs) (fm:Fm):Prop where
  gr:(g.fs.l.getD fm.c.1.toNat gr0)∈g.fs.l
  bl:(g.fs.l.getD fm.c.1.toNat gr0).bs.l[fm.b]?=some (uO g fm)
  blk:BlkP g (g.fs.l.getD fm.c.1.toNat gr0) (g.fs.l.map Gr.caps) fm.b (uO g fm) (BS (g.fs.l.getD fm.c.1.toNat gr0) fm.b)
theorem cur_ok {g:Grs} {fm:Fm} (h:MayP g) (hf:FmOk g fm):CurOk g fm:=by
  have hm:(g.fs.l.getD fm.c.1.toNat gr0)∈g.fs.l:=xN (show fm.c.1.toNat<g.fs.l.length by have:=hf.f0;have:=hf.f1;omega)
  have hb:(g.fs.l.getD fm.c.1.toNat gr0).bs.l[fm.b]?=some (uO g fm):=by
    unfold uO vG
    rw [List.getD_eq_getElem?_getD (l:=(g.fs.l.getD fm.c.1.toNat gr0).bs.l),List.getElem?_eq_getElem hf.b];rfl
  exact ⟨hm,hb,((h.gr _ hm).blk _ _ hb).2⟩
theorem CurOk.edge {g:Grs} {fm:Fm} (hs:g.ss.l.length≤9223372036854775807) (h:CurOk g fm) {t:Edg} (ht:t∈(uO g fm).e.to.l):0≤t.b∧t.b<(g.fs.l.getD fm.c.1.toNat gr0).bs.l.length∧t.a.l.length=(vG g fm.c.1 t.b.toNat).ps.l.length∧∀a∈t.a.l,atW g a:=by
  obtain ⟨h1,h2,h3,h4⟩:=h.blk.edges t ht
  exact ⟨by omega,h2,h3,fun a ha=>atS_W hs (h4 a ha)⟩
theorem mK {α:Type} (f:α→Nat):∀{l:List α} {x:α},x∈l→f x≤(l.map f).sum
  | y::l,x,h=>by
    rw [List.map_cons,List.sum_cons]
    rcases List.mem_cons.1 h with rfl|h
    · omega
    · have:=mK f h;omega
theorem CurOk.size {g:Grs} {fm:Fm} (h:CurOk g fm) (hs:jD g≤65536):sL (uO g fm)≤65536:=by
  have h1:=mK grN h.gr
  have h2:=mK sL (List.mem_of_getElem? h.bl)
  have h3:grN (g.fs.l.getD fm.c.1.toNat gr0)=((g.fs.l.getD fm.c.1.toNat gr0).bs.l.map sL).sum:=rfl
  have h4:jD g=(g.fs.l.map grN).sum:=rfl
  omega
theorem aC {α:Type} (f:α→Nat):∀(l:List α),l.length≤(l.map fun x=>1+f x).sum
  | []=>Nat.le_refl _
  | x::l=>by
    have:=aC f l
    rw [List.map_cons,List.sum_cons,List.length_cons]
    omega
theorem blk_sizes {bl:Blc} (h:sL bl≤65536):bl.ps.l.length≤65536∧bl.is.l.length≤65536∧(∀i∈bl.is.l,i.r.a.l.length≤65536)∧bl.e.a.l.length≤65536∧bl.e.to.l.length≤65536∧∀t∈bl.e.to.l,t.a.l.length≤65536:=by
  unfold sL at h
  have h1:bl.is.l.length≤(bl.is.l.map fun i=>1+i.r.a.l.length).sum:=aC (fun i:Ins=>i.r.a.l.length) bl.is.l
  have h2:bl.e.to.l.length≤(bl.e.to.l.map fun t=>1+t.a.l.length).sum:=aC (fun t:Edg=>t.a.l.length) bl.e.to.l
  refine ⟨by omega,by omega,fun i hi=>?_,by omega,by omega,fun t ht=>?_⟩
  · have:=mK (fun i:Ins=>1+i.r.a.l.length) hi
    omega
  · have:=mK (fun t:Edg=>1+t.a.l.length) ht
    omega
section
variable {fl:List FN} {g:Grs} {R:AN→Prop} {kd:Int}
def capOf (fl:List FN) (f:Int):Int:=(fl.getD f.toNat ⟨0,an0⟩).caps
def JsOk (g:Grs) (la:List Int) (mine:Int) (R:AN→Prop) (f:List (Int × AN)):List (Int × Nat)→Prop
  | []=>True
  |e::js=>(∃j,alk f e.1=some j∧j.xs.l.length=e.2∧R j∧0<j.kids.length∧Wf g la mine js (tA j 0))∧JsOk g la mine R f js
theorem JsOk.mem {la:List Int} {mine:Int} {f:List (Int × AN)}:∀{js:List (Int × Nat)} {e:Int × Nat},JsOk g la mine R f js→e∈js→∃j js',alk f e.1=some j∧j.xs.l.length=e.2∧R j∧0<j.kids.length∧Wf g la mine js' (tA j 0)∧JsOk g la mine R f js'
  | [],e,_,h=>absurd h (List.not_mem_nil)
  | e::js,e',⟨⟨j,h1,h2,h3,h4,h5⟩,h6⟩,h=>by
    rcases List.mem_cons.1 h with rfl|h
    · exact ⟨j,js,h1,h2,h3,h4,h5,h6⟩
    · exact JsOk.mem h6 h
theorem JsOk.set {la:List Int} {mine:Int} {f:List (Int × AN)} {n:Int} {b:AN}:∀{js:List (Int × Nat)},(∀e∈js,e.1≠n)→JsOk g la mine R f js→JsOk g la mine R (aset f n b) js
  | [],_,_=>trivial
  |e::js,hn,⟨⟨j,h1,h2⟩,h3⟩=>⟨⟨j,by rw [oM,if_neg (hn e (List.mem_cons_self ..))];exact h1,h2⟩,JsOk.set (fun e he=>hn e (List.mem_cons_of_mem _ he)) h3⟩
structure FrJ (fl:List FN) (g:Grs) (R:AN→Prop) (f:Af) (b:AN) (js:List (Int × Nat)):Prop where
  wf:Wf g (yW fl) (capOf fl f.c.1) js b
  js:JsOk g (yW fl) (capOf fl f.c.1) R f.js js
  rd:R b
  c0:0≤f.c.1
  c1:f.c.1<fl.length
def FrOk (fl:List FN) (g:Grs) (R:AN→Prop) (f:Af) (b:AN):Prop:=∃js,FrJ fl g R f b js
structure AmOk (fl:List FN) (g:Grs) (R:AN→Prop) (m:Am):Prop where
  fm:FrOk fl g R m.fm m.b
  sk:∀f∈m.sk,FrOk fl g R f f.kid
structure FlOk (fl:List FN) (g:Grs) (R:AN→Prop):Prop where
  wf:∀f∈fl,Wf g (yW fl) f.caps [] f.body
  rd:∀f∈fl,R f.body
  kid:∀b,R b→∀x∈b.kids,R x
theorem qO {b:AN} {i:Nat} (h:i<b.kids.length):b.kids[i]?=some (tA b i):=by unfold tA;rw [List.getD_eq_getElem?_getD,List.getElem?_eq_getElem h];rfl
theorem jR (h:FlOk fl g R) {c:Clo} (x:Vl) (h0:0≤c.1) (h1:c.1<fl.length):FrOk fl g R (mT c x) (tM fl c.1):=by
  have hm:fl.getD c.1.toNat ⟨0,an0⟩∈fl:=xN (by omega)
  exact ⟨[],h.wf _ hm,trivial,h.rd _ hm,h0,h1⟩
theorem FrJ.kid (hF:FlOk fl g R) {f f':Af} {b:AN} {js:List (Int × Nat)} {i:Nat} (h:FrJ fl g R f b js) (hc:f'.c=f.c) (hj:f'.js=f.js) (hi:i<b.kids.length) (hk:b.k≠7):FrOk fl g R f' (tA b i):=by
  cases h.wf with
  | mk hb h8 h7 hkk=>
    have h1:=hkk i _ (qO hi)
    rw [if_neg (fun e=>hk e.1)] at h1
    exact ⟨js,by rw [hc];exact h1,by rw [hc,hj];exact h.js,hF.kid b h.rd _ (List.mem_of_getElem? (qO hi)),by rw [hc];exact h.c0,by rw [hc];exact h.c1⟩
theorem FrJ.bd {f:Af} {b:AN} {js:List (Int × Nat)} (h:FrJ fl g R f b js):BdW g (yW fl) (capOf fl f.c.1) b:=by
  cases h.wf with
  |mk hb h8 h7 hkk=>exact hb
theorem FrJ.jump {f:Af} {b:AN} {js:List (Int × Nat)} (h:FrJ fl g R f b js) (hk:b.k=8):∃j js',alk f.js b.n=some j∧j.xs.l.length=b.a.l.length∧R j∧0<j.kids.length∧Wf g (yW fl) (capOf fl f.c.1) js' (tA j 0)∧JsOk g (yW fl) (capOf fl f.c.1) R f.js js':=by
  cases h.wf with
  |mk hb h8 h7 hkk=>exact JsOk.mem h.js (h8 hk)
theorem AmOk.jmp {m:Am} (h:AmOk fl g R m):JmpOk m:=fun hk=>by
  obtain ⟨js,hf⟩:=h.fm
  obtain ⟨j,js',h1,h2,h3,h4,_⟩:=hf.jump hk
  exact ⟨j,h1,h2,h4⟩
theorem AmOk.jr {m:Am} (h:AmOk fl g R m) (hk:m.b.k=8):∀j,alk m.fm.js m.b.n=some j→R j:=fun j hj=>by
  obtain ⟨js,hf⟩:=h.fm
  obtain ⟨j',js',h1,h2,h3,h4,_⟩:=hf.jump hk
  rw [hj] at h1
  cases h1
  exact h3
theorem gJ:∀{sk sk':List Af} {c:Clo},uW sk=some (sk',c)→(∀f∈sk,FrOk fl g R f f.kid)→(∀f∈sk',FrOk fl g R f f.kid)∧sk'.length≤sk.length
  | [],sk',c,h,_=>by cases h
  | f ::r,sk',c,h,hk=>by
    unfold uW at h
    split at h
    · cases h
      refine ⟨fun f' hf'=>?_,Nat.le_refl _⟩
      rcases List.mem_cons.1 hf' with rfl|hf'
      · obtain ⟨js,h1⟩:=hk f (List.mem_cons_self ..)
        exact ⟨js,h1.wf,h1.js,h1.rd,h1.c0,h1.c1⟩
      · exact hk f' (List.mem_cons_of_mem _ hf')
    · have:=gJ h (fun f' hf'=>hk f' (List.mem_cons_of_mem _ hf'))
      exact ⟨this.1,Nat.le_succ_of_le this.2⟩
structure SaOk (fl:List FN) (g:Grs) (R:AN→Prop) (m m':Am):Prop where
  ok:AmOk fl g R m'
  sk:m'.sk.length≤m.sk.length+1
  out:m'.wd.out.length≤m.wd.out.length+1
theorem dG (hF:FlOk fl g R) {n:Int} {m m':Am} (hs:uZ fl g n m.wd m.sk= .go m') (h:AmOk fl g R m) (h0:0≤m'.fm.c.1) (h1:m'.fm.c.1<fl.length):SaOk fl g R m m':=by
  unfold uZ vD at hs
  split at hs
  · cases hs
  split at hs
  · rename_i sk' c hr
    cases hs
    obtain ⟨hk,hl⟩:=gJ (fl:=fl) (g:=g) (R:=R) hr h.sk
    exact ⟨⟨jR hF _ h0 h1,hk⟩,Nat.le_succ_of_le hl,Nat.le_succ _⟩
  · cases hs
theorem enterA_ok (hF:FlOk fl g R) {f x:Vl} {m m':Am} (hs:qS fl f x m.wd m.sk= .go m') (h:AmOk fl g R m) (h0:0≤m'.fm.c.1) (h1:m'.fm.c.1<fl.length):SaOk fl g R m m':=by
  unfold qS vD at hs
  split at hs
  · cases hs
    exact ⟨⟨jR hF _ h0 h1,h.sk⟩,Nat.le_succ _,Nat.le_succ _⟩
  · cases hs
theorem eC (hF:FlOk fl g R) {f x:Vl} {hd:Option Clo} {m m':Am} (hs:qK fl f x hd m.wd m.sk m.fm m.b= .go m') (h:AmOk fl g R m) (hk:m.b.k=1) (h0:0≤m'.fm.c.1) (h1:m'.fm.c.1<fl.length):SaOk fl g R m m':=by
  unfold qK vD at hs
  split at hs
  · cases hs
    obtain ⟨js,hf⟩:=h.fm
    have hkl:=hf.bd.sh.kids.1 hk
    refine ⟨⟨jR hF _ h0 h1,fun f hf'=>?_⟩,Nat.le_refl _,Nat.le_succ _⟩
    rcases List.mem_cons.1 hf' with rfl|hf'
    · exact hf.kid hF rfl rfl (by omega) (by omega)
    · exact h.sk f hf'
  · cases hs
theorem letA_ok (hF:FlOk fl g R) {m m':Am} (hs:mA fl g m.fm m.b m.wd m.sk= .go m') (h:AmOk fl g R m) (hk:m.b.k=1) (h0:0≤m'.fm.c.1) (h1:m'.fm.c.1<fl.length):SaOk fl g R m m':=by
  unfold mA vD at hs
  split at hs
  · exact eC hF hs h hk h0 h1
  split at hs
  · split at hs
    · split at hs
      · exact eC hF hs h hk h0 h1
      · cases hs
    · cases hs
  split at hs
  · split at hs
    · exact eC hF hs h hk h0 h1
    · cases hs
  split at hs
  · exact dG hF hs h h0 h1
  · rename_i v wd' hp
    split at hs
    · cases hs
    · cases hs
      obtain ⟨js,hf⟩:=h.fm
      have hkl:=hf.bd.sh.kids.1 hk
      exact ⟨⟨hf.kid hF rfl rfl (by omega) (by omega),h.sk⟩,Nat.le_succ _,dH hp⟩
theorem backA_ok {x:Vl} {m m':Am} (hs:pZ g kd x m.wd m.sk= .go m') (h:AmOk fl g R m):SaOk fl g R m m':=by
  obtain ⟨wd,sk,fm,b⟩:=m
  dsimp only at hs
  unfold pZ vD at hs
  split at hs
  · split at hs<;>cases hs
  · rename_i f r
    cases hs
    obtain ⟨js,hf⟩:=h.sk f (List.mem_cons_self ..)
    refine ⟨⟨⟨js,hf.wf,hf.js,hf.rd,hf.c0,hf.c1⟩,fun f' hf'=>h.sk f' (List.mem_cons_of_mem _ hf')⟩,?_,Nat.le_succ _⟩
    show r.length≤(f::r).length+1
    rw [List.length_cons];omega
theorem stepA_ok (hF:FlOk fl g R) {m m':Am} (hs:uP fl g kd m= .go m') (h:AmOk fl g R m) (h0:0≤m'.fm.c.1) (h1:m'.fm.c.1<fl.length):SaOk fl g R m m':=by
  obtain ⟨js,hf⟩:=h.fm
  have hb:=hf.bd
  have hk0:=hb.k0
  have hk8:=hb.k1
  by_cases k1:m.b.k=1
  · rw [sa_1 k1] at hs
    exact letA_ok hF hs h k1 h0 h1
  by_cases k2:m.b.k=2
  · rw [sa_2 k2] at hs
    exact backA_ok hs h
  by_cases k3:m.b.k=3
  · rw [sa_3 k3] at hs
    exact enterA_ok hF hs h h0 h1
  by_cases k7:m.b.k=7
  · rw [sa_7 k7] at hs
    cases hs
    have hkl:=hb.sh.kids.2.1 (.inr k7)
    refine ⟨⟨⟨(m.b.n,m.b.xs.l.length)::js,?_,⟨⟨m.b,?_,rfl,hf.rd,by omega,?_⟩,?_⟩,hF.kid _ hf.rd _ (List.mem_of_getElem? (qO (by omega))),hf.c0,hf.c1⟩,h.sk⟩,Nat.le_succ _,Nat.le_succ _⟩
    · cases hf.wf with
      | mk hb h8 h7 hkk=>
        have:=hkk 1 _ (qO (by omega))
        rwa [if_pos ⟨k7,rfl⟩] at this
    · show alk (aset m.fm.js m.b.n m.b) m.b.n=_
      rw [oM,if_pos rfl]
    · cases hf.wf with
      | mk hb h8 h7 hkk=>
        have:=hkk 0 _ (qO (by omega))
        rwa [if_neg (by simp)] at this
    · cases hf.wf with
      |mk hb h8 h7 hkk=>exact hf.js.set (h7 k7)
  by_cases k8:m.b.k=8
  · rw [sa_8 k8] at hs
    cases hs
    obtain ⟨j,js',e1,e2,e3,e4,e5,e6⟩:=hf.jump k8
    rw [e1]
    exact ⟨⟨⟨js',e5,e6,hF.kid _ e3 _ (List.mem_of_getElem? (qO e4)),hf.c0,hf.c1⟩,h.sk⟩,Nat.le_succ _,Nat.le_succ _⟩
  rw [sa_x ⟨k1,k2,k3,k7,k8⟩] at hs
  unfold vD at hs
  split at hs
  · cases hs
  split at hs
  · exact dG hF hs h h0 h1
  rename_i k4
  split at hs
  · rename_i k5
    cases hs
    have hkl:=hb.sh.kids.2.1 (.inl k5)
    exact ⟨⟨hf.kid hF rfl rfl (by split<;>omega) k7,h.sk⟩,Nat.le_succ _,Nat.le_succ _⟩
  · rename_i n hn k5
    cases hs
    have hks:=hb.ks (by omega)
    have hbi:=eD m.b.ns.l n
    exact ⟨⟨hf.kid hF rfl rfl (by split<;>omega) k7,h.sk⟩,Nat.le_succ _,Nat.le_succ _⟩
theorem firstA_ok (hF:FlOk fl g R) {s:ByteArray} (h:0<fl.length):AmOk fl g R (uN fl s):=⟨jR hF (c:=(0,[])) _ (Int.le_refl _) (by show (0:Int)< _;omega),fun f hf=>absurd hf (List.not_mem_nil)⟩
theorem RdN.kids {w:World}:∀b,RdN w b→∀x∈b.kids,RdN w x:=fun b h x hx=>by
  cases h with
  |mk h1 h2 h3 h4 h5 h6 h7=>exact h7 x hx
theorem fl_ok {w0:World} {oF:Option Addr} (hs:g.ss.l.length≤9223372036854775807) (hm:MayN fl g) (hP:PrR w0 oF fl g):FlOk fl g (RdN w0):=⟨fun_wf hs hm,hP.rd,RdN.kids⟩
end
theorem la_1 {g:Grs} {kd:Int} {fm:Fm} {e:En} {wd:Wd} {sk:List Fm} (h:e.k=1):sC g kd fm e wd sk=pY g kd (uJ g fm (e.a.l.getD 0 oJ)) wd sk:=by unfold sC;rw [if_pos h]
theorem la_2 {g:Grs} {kd:Int} {fm:Fm} {e:En} {wd:Wd} {sk:List Fm} (h:e.k=2):sC g kd fm e wd sk=qR (uJ g fm (e.a.l.getD 0 oJ)) (uJ g fm (e.a.l.getD 1 oJ)) wd sk:=by unfold sC;rw [if_neg (by omega),if_pos h]
theorem la_4 {g:Grs} {kd:Int} {fm:Fm} {e:En} {wd:Wd} {sk:List Fm} (h:e.k=4):sC g kd fm e wd sk= .go ⟨wd,sk,uK g fm (e.to.l.getD 0 sJ)⟩:=by unfold sC;rw [if_neg (by omega),if_neg (by omega),if_pos h]
theorem la_x {g:Grs} {kd:Int} {fm:Fm} {e:En} {wd:Wd} {sk:List Fm} (h:e.k≠1∧e.k≠2∧e.k≠4):sC g kd fm e wd sk=(match asNum (uJ g fm (e.a.l.getD 0 oJ)) with
    |none=>vJ wd
    | some n=>
      if e.k=3 then uY g n wd sk
      else if e.k=5 then .go ⟨wd,sk,uK g fm (e.to.l.getD (if n=0 then 1 else 0) sJ)⟩
      else .go ⟨wd,sk,uK g fm (e.to.l.getD (if bsB e.ns.l n then bsI e.ns.l n else e.ns.l.length) sJ)⟩):=by unfold sC;rw [if_neg h.1,if_neg h.2.1,if_neg h.2.2]<;>rfl
theorem oH {l:List Atm} {i:Nat} (h:i<l.length):l[i]?=some (l.getD i oJ):=by rw [List.getD_eq_getElem?_getD,List.getElem?_eq_getElem h];rfl
theorem fU {l:List Edg} {i:Nat} (h:i<l.length):l[i]?=some (l.getD i sJ):=by rw [List.getD_eq_getElem?_getD,List.getElem?_eq_getElem h];rfl
theorem end_ns {e:En} (h:EndP e) (hn:e.ns.l.length≤9223372036854775807) (ht:e.to.l.length≤1000000000):e.ns.l.length≤2000000000:=by
  have h1:=h.to
  have h2:=h.ns
  unfold fS at h1
  by_cases h6:e.k=6
  · rw [if_neg (by omega),if_neg (by omega),if_pos h6] at h1
    by_cases hb:(e.ns.l.length:Int)+1≤9223372036854775807
    · rw [vB (by unfold sM;omega)] at h1
      omega
    · have h3:e.ns.l.length=9223372036854775807:=by omega
      rw [h3,show IntKind.i64.wrap ((9223372036854775807:Nat)+1:Int)= -9223372036854775808 by decide] at h1
      omega
  · have:¬0<e.ns.l.length:=fun h=>h6 (h2.2 h)
    omega
structure EdgOk (g:Grs) (w0:World) (fm:Fm) (t:Edg):Prop where
  b0:0≤t.b
  b1:t.b<(g.fs.l.getD fm.c.1.toNat gr0).bs.l.length
  len:t.a.l.length=(vG g fm.c.1 t.b.toNat).ps.l.length
  at_:∀a∈t.a.l,atW g a
  top:t.a.l.length≤1048576
section
attribute [local irreducible] Code.wp wpList Calls Ex Op1 sat bat blk cb own Go.Fw.mp Go.Fw.mpO Go.Fw.mpI Go.Fw.mpE Go.Fw.itr HS Rd Ret wkD Hp Cl Cls Exit.then Exit.inBlock Exit.noGoto bodyPost Go.Fw.flat wk2 Go.Fw.all Go.Fw.owns wpOp
attribute [local irreducible] sk mpK sko mvO xI opM Go.Fw.mset Go.Fw.mv opK w63 frz obI RV wQ vR vT wT

theorem last_spec {w0 w:World} {H:List It} {c:Cx} {bM:Nat} {g:Grs} {kd fuel:Int} {m:Mc} {oO oS ph:Option Addr} {cO cS pc bv:Nat} {mm:List (Int × Value)} {fms:List FmM} {sx:Sx} (hH:HS w0 noM (cb bM 86 (zJ g kd m.wd.inp oO m.wd.out.length cO++yS g fuel oS fms.length cS pc bv (xG g m.fm.c.1 m.fm.b) m.fm.i ph none)::own 5 1 oO m.wd.out.length cO (flat zV m.wd.out)::frz w0 c.K::all (sx.map obI)::own 83 5 oS fms.length cS (flat yF fms)::all (fms.map mpF)::mp bv mm::H) w) (hpc:FnR c m.fm.c.1 m.fm.c.2 pc) (hmm:MapR c m.fm.vs mm) (hfs:FsR g c m.sk fms) (hst:StR c sx m.wd.st) (e:En) (hR:RdGs w0 g) (hnf:c.nf=g.fs.l.length) (hne:∀f∈g.fs.l,0<f.bs.l.length) (hsz:∀s∈g.ss.l,s.size≤4096) (hxs:∀s∈g.xs.l,s.size≤4611686018427387904) (hfl:m.sk.length≤1000000)
    (hE:EndP e) (hRe:RdEn w0 e) (ha:∀a∈e.a.l,atW g a) (hto:∀t∈e.to.l,EdgOk g w0 m.fm t) (hFI:FI w0) (htl:e.to.l.length≤1000000000) (hok:∀f∈m.sk,FmOk g f∧f.i<(uO g f).is.l.length) :
    Ret Tryz.prog 29 #[.pointer (some (bat bM 0)),.agg (wO e).toArray] w (fun r w'=>SrW w0 c bM g kd fuel H (sC g kd m.fm e m.wd m.sk) w'):=by
  have hel:=hE.lo
  have heh:=hE.hi
  have hea:=hE.a
  have het:=hE.to
  have hal:=hRe.1.le
  have hspA:Sp e.a.o e.a.l.length:=hRe.1.1.sp (sz:=2) (zF yT _) (by omega)
  have hspT:Sp e.to.o e.to.l.length:=hRe.2.2.1.1.sp (sz:=2) (zF wW _) (by omega)
  have hnl:=hRe.2.1.le
  have hns:e.ns.l.length≤2000000000:=end_ns hE hnl htl
  (refine ENT (N:=99) Tryz.func29 Tryz.ntmps29 ?_;intro a hA)
  by_cases h1:e.k=1
  · unfold fT at hea
    rw [if_neg (by omega),if_neg (by omega)] at hea
    repeat' (first|(refine XT ?_;apply XE;(first|(apply zD;rfl;rfl;decide;omega;exact hspA)|(apply zG (vs:=zN (e.a.l.getD 0 oJ));rfl;rfl;exact yV hRe.1.1 id (yA yT (oH (by omega)))));clear hA a;intro a hA)|(refine QT ?_;clear hA a;intro a hA)|(refine BT ?_;clear hA hH;rintro _ w ⟨bN,rfl,hH⟩ a hA)|refine CT ?_|(refine DT ?_ ?_<;>intro hc<;>try (exfalso;omega))|fail)
    obtain ⟨b3,hb3⟩:∃x,x=bN:=⟨_,rfl⟩;rw [←hb3] at hA hH;clear hb3 bN;replace hH:=hH.perm (H':=cb bM 86 (zJ g kd m.wd.inp oO m.wd.out.length cO++yS g fuel oS fms.length cS pc bv (xG g m.fm.c.1 m.fm.b) m.fm.i ph none)::mp bv mm::own 5 1 oO m.wd.out.length cO (flat zV m.wd.out)::frz w0 c.K::all (sx.map obI)::own 83 5 oS fms.length cS (flat yF fms)::all (fms.map mpF)::cb b3 51 (wO e)::H) PMT
    (refine zH hA rfl rfl (by decide) (zA rfl rfl rfl (pN w0 _ (own 5 1 oO m.wd.out.length cO (flat zV m.wd.out)::frz w0 c.K::all (sx.map obI)::own 83 5 oS fms.length cS (flat yF fms)::all (fms.map mpF)::cb b3 51 (wO e)::H) c bM g kd m.wd.inp oO oS m.wd.out.length cO fms.length cS pc bv fuel m.fm.i _ ph none m.fm mm (e.a.l.getD 0 oJ) hH hmm (ha _ (List.mem_of_getElem? (oH (by omega)))) hR.2.2.2.2.2 hsz)) ?_;clear hA hH;rintro u w ⟨hu,hH⟩ a hA)
    repeat' (first|(refine QT ?_;clear hA a;intro a hA)|fail)
    replace hH:=hH.perm (H':=cb bM 86 (zJ g kd m.wd.inp oO m.wd.out.length cO++yS g fuel oS fms.length cS pc bv (xG g m.fm.c.1 m.fm.b) m.fm.i ph none)::own 5 1 oO m.wd.out.length cO (flat zV m.wd.out)::frz w0 c.K::all (sx.map obI)::own 83 5 oS fms.length cS (flat yF fms)::all (fms.map mpF)::mp bv mm::cb b3 51 (wO e)::H) PMT
    (refine zH hA rfl rfl (by decide) (zA rfl rfl rfl (backS hH hpc hmm hfs hst hu hR hFI hfl hok)) ?_;clear hA hH;rintro _ w hS a hA)
    repeat' (first|(refine QT ?_;clear hA a;intro a hA)|refine CT ?_|fail)
    exact rt0 (by first|exact .inl rfl|exact .inr rfl) rfl hA (by rw [la_1 h1];exact hS.drop1)
  by_cases h2:e.k=2
  · unfold fT at hea
    rw [if_pos h2] at hea
    repeat' (first|(refine QT ?_;clear hA a;intro a hA)|(refine BT ?_;clear hA hH;rintro _ w ⟨bN,rfl,hH⟩ a hA)|refine CT ?_|(refine DT ?_ ?_<;>intro hc<;>try (exfalso;omega))|fail)
    obtain ⟨b3,hb3⟩:∃x,x=bN:=⟨_,rfl⟩;rw [←hb3] at hA hH;clear hb3 bN;replace hH:=hH.perm (H':=cb bM 86 (zJ g kd m.wd.inp oO m.wd.out.length cO++yS g fuel oS fms.length cS pc bv (xG g m.fm.c.1 m.fm.b) m.fm.i ph none)::mp bv mm::own 5 1 oO m.wd.out.length cO (flat zV m.wd.out)::frz w0 c.K::all (sx.map obI)::own 83 5 oS fms.length cS (flat yF fms)::all (fms.map mpF)::cb b3 51 (wO e)::H) PMT
    (refine zK [(0,1),(1,1),(2,2),(3,1),(4,1),(5,1),(7,1),(8,2),(9,1),(10,1),(11,1),(6,0),(12,0)] [13] mixed (by decide +kernel) hH ?_;replace hH:=hH.drew)
    repeat' (first|(refine XT ?_;apply XE;(first|(apply zD;rfl;rfl;decide;omega;exact hspA)|(apply zG (vs:=zN (e.a.l.getD 0 oJ));rfl;rfl;exact yV hRe.1.1 id (yA yT (oH (by omega))))|(apply zG (vs:=zN (e.a.l.getD 1 oJ));rfl;rfl;exact yV hRe.1.1 id (yA yT (oH (by omega)))));clear hA a;intro a hA)|(refine QT ?_;clear hA a;intro a hA)|fail)
    (refine yO hA rfl rfl rfl (by decide) (zA rfl rfl rfl (pN w0 _ (own 5 1 oO m.wd.out.length cO (flat zV m.wd.out)::frz w0 c.K::all (sx.map obI)::own 83 5 oS fms.length cS (flat yF fms)::all (fms.map mpF)::cb b3 51 (wO e)::H) c bM g kd m.wd.inp oO oS m.wd.out.length cO fms.length cS pc bv fuel m.fm.i _ ph none m.fm mm (e.a.l.getD 0 oJ) hH hmm (ha _ (List.mem_of_getElem? (oH (by omega)))) hR.2.2.2.2.2 hsz)) ?_;clear hA hH;rintro u w ⟨hu,hH⟩;refine ⟨STT,?_⟩;intro a hA)
    (refine yO hA rfl rfl rfl (by decide) (zA rfl rfl rfl (pN w0 _ (own 5 1 oO m.wd.out.length cO (flat zV m.wd.out)::frz w0 c.K::all (sx.map obI)::own 83 5 oS fms.length cS (flat yF fms)::all (fms.map mpF)::cb b3 51 (wO e)::H) c bM g kd m.wd.inp oO oS m.wd.out.length cO fms.length cS pc bv fuel m.fm.i _ ph none m.fm mm (e.a.l.getD 1 oJ) hH hmm (ha _ (List.mem_of_getElem? (oH (by omega)))) hR.2.2.2.2.2 hsz)) ?_;clear hA hH;rintro v w ⟨hv,hH⟩;refine ⟨STT,?_⟩;intro a hA)
    trace_state
    repeat' (first|(refine QT ?_;clear hA a;intro a hA)|refine CT ?_|fail)
    replace hH:=hH.perm (H':=cb bM 86 (zJ g kd m.wd.inp oO m.wd.out.length cO++yS g fuel oS fms.length cS pc bv (xG g m.fm.c.1 m.fm.b) m.fm.i ph none)::own 5 1 oO m.wd.out.length cO (flat zV m.wd.out)::frz w0 c.K::all (sx.map obI)::own 83 5 oS fms.length cS (flat yF fms)::all (fms.map mpF)::mp bv mm::cb b3 51 (wO e)::H) PMT
    (refine rC hA rfl rfl rfl (by decide) (zA rfl rfl rfl (enterS hH hpc hmm hfs hst hu hv hR hnf hne)) ?_;clear hA hH;rintro _ w hS a hA)
    repeat' (first|(refine QT ?_;clear hA a;intro a hA)|refine CT ?_|fail)
    exact rt0 (by first|exact .inl rfl|exact .inr rfl) rfl hA (by rw [la_2 h2];exact hS.drop1)
  by_cases h4:e.k=4
  · unfold fS at het
    rw [if_pos h4] at het
    repeat' (first|(refine XT ?_;apply XE;(first|(apply zD;rfl;rfl;decide;omega;exact hspT)|(apply zG (vs:=yL (e.to.l.getD 0 sJ));rfl;rfl;exact yV hRe.2.2.1.1 id (yA wW (fU (by omega)))));clear hA a;intro a hA)|(refine QT ?_;clear hA a;intro a hA)|(refine BT ?_;clear hA hH;rintro _ w ⟨bN,rfl,hH⟩ a hA)|refine CT ?_|(refine DT ?_ ?_<;>intro hc<;>try (exfalso;omega))|fail)
    obtain ⟨b3,hb3⟩:∃x,x=bN:=⟨_,rfl⟩;rw [←hb3] at hA hH;clear hb3 bN;replace hH:=hH.perm (H':=cb bM 86 (zJ g kd m.wd.inp oO m.wd.out.length cO++yS g fuel oS fms.length cS pc bv (xG g m.fm.c.1 m.fm.b) m.fm.i ph none)::mp bv mm::own 5 1 oO m.wd.out.length cO (flat zV m.wd.out)::frz w0 c.K::all (sx.map obI)::own 83 5 oS fms.length cS (flat yF fms)::all (fms.map mpF)::cb b3 51 (wO e)::H) PMT
    replace hH:=hH.perm (H':=cb bM 86 (zJ g kd m.wd.inp oO m.wd.out.length cO++yS g fuel oS fms.length cS pc bv (xG g m.fm.c.1 m.fm.b) m.fm.i ph none)::own 5 1 oO m.wd.out.length cO (flat zV m.wd.out)::frz w0 c.K::all (sx.map obI)::own 83 5 oS fms.length cS (flat yF fms)::all (fms.map mpF)::mp bv mm::cb b3 51 (wO e)::H) PMT
    have hm0:e.to.l.getD 0 sJ∈e.to.l:=xN (by omega)
    have hEd:=hto _ hm0
    (refine zH hA rfl rfl (by decide) (zA rfl rfl rfl (mY hH hpc hmm hfs hst hEd.at_ hR hsz (hRe.2.2.2 _ hm0) hEd.top hnf hEd.b0 hEd.b1 hEd.len)) ?_;clear hA hH;rintro _ w hS a hA)
    repeat' (first|(refine QT ?_;clear hA a;intro a hA)|refine CT ?_|fail)
    exact rt0 (by first|exact .inl rfl|exact .inr rfl) rfl hA (by rw [la_4 h4];exact hS.drop1)
  have hk:e.k=3∨e.k=5∨e.k=6:=by omega
  have ex:=la_x (g:=g) (kd:=kd) (fm:=m.fm) (wd:=m.wd) (sk:=m.sk) ⟨h1,h2,h4⟩
  unfold fT at hea
  rw [if_neg h2,if_neg h4] at hea
  repeat' (first|(refine XT ?_;apply XE;(first|(apply zD;rfl;rfl;decide;omega;exact hspA)|(apply zG (vs:=zN (e.a.l.getD 0 oJ));rfl;rfl;exact yV hRe.1.1 id (yA yT (oH (by omega)))));clear hA a;intro a hA)|(refine QT ?_;clear hA a;intro a hA)|(refine BT ?_;clear hA hH;rintro _ w ⟨bN,rfl,hH⟩ a hA)|refine CT ?_|(refine DT ?_ ?_<;>intro hc<;>try (exfalso;omega))|fail)
  obtain ⟨b3,hb3⟩:∃x,x=bN:=⟨_,rfl⟩;rw [←hb3] at hA hH;clear hb3 bN;replace hH:=hH.perm (H':=cb bM 86 (zJ g kd m.wd.inp oO m.wd.out.length cO++yS g fuel oS fms.length cS pc bv (xG g m.fm.c.1 m.fm.b) m.fm.i ph none)::mp bv mm::own 5 1 oO m.wd.out.length cO (flat zV m.wd.out)::frz w0 c.K::all (sx.map obI)::own 83 5 oS fms.length cS (flat yF fms)::all (fms.map mpF)::cb b3 51 (wO e)::H) PMT
  (refine zH hA rfl rfl (by decide) (zA rfl rfl rfl (pN w0 _ (own 5 1 oO m.wd.out.length cO (flat zV m.wd.out)::frz w0 c.K::all (sx.map obI)::own 83 5 oS fms.length cS (flat yF fms)::all (fms.map mpF)::cb b3 51 (wO e)::H) c bM g kd m.wd.inp oO oS m.wd.out.length cO fms.length cS pc bv fuel m.fm.i _ ph none m.fm mm (e.a.l.getD 0 oJ) hH hmm (ha _ (List.mem_of_getElem? (oH (by omega)))) hR.2.2.2.2.2 hsz)) ?_;clear hA hH;rintro u w ⟨hu,hH⟩ a hA)
  rcases hu.asNum with ⟨n,hs,rfl,hn⟩| ⟨hs,hn⟩
  rotate_left
  · rw [hs] at ex
    dsimp only at ex
    replace hH:=hH.perm (H':=cb bM 86 (zJ g kd m.wd.inp oO m.wd.out.length cO++yS g fuel oS fms.length cS pc bv (xG g m.fm.c.1 m.fm.b) m.fm.i ph none)::own 5 1 oO m.wd.out.length cO (flat zV m.wd.out)::frz w0 c.K::all (sx.map obI)::own 83 5 oS fms.length cS (flat yF fms)::all (fms.map mpF)::mp bv mm::cb b3 51 (wO e)::H) PMT
    repeat' (first|(refine XT ?_;apply XE;(first|(apply yC;rfl;exact hn));clear hA a;intro a hA)|(refine QT ?_;clear hA a;intro a hA)|refine CT ?_|fail)
    (refine zH hA rfl rfl (by decide) (zA rfl rfl rfl (eZ hH hpc hmm hfs hst 4 empS)) ?_;clear hA hH;rintro _ w hS a hA)
    repeat' (first|(refine QT ?_;clear hA a;intro a hA)|refine CT ?_|fail)
    exact rt0 (by first|exact .inl rfl|exact .inr rfl) rfl hA (SrW.stop (by rw [ex];rfl) hS.drop1)
  rw [hs] at ex
  dsimp only at ex
  replace hH:=hH.perm (H':=cb bM 86 (zJ g kd m.wd.inp oO m.wd.out.length cO++yS g fuel oS fms.length cS pc bv (xG g m.fm.c.1 m.fm.b) m.fm.i ph none)::own 5 1 oO m.wd.out.length cO (flat zV m.wd.out)::frz w0 c.K::all (sx.map obI)::own 83 5 oS fms.length cS (flat yF fms)::all (fms.map mpF)::mp bv mm::cb b3 51 (wO e)::H) PMT
  by_cases h3:e.k=3
  · rw [if_pos h3] at ex
    repeat' (first|(refine XT ?_;apply XE;(first|(apply zL;rfl));clear hA a;intro a hA)|(refine QT ?_;clear hA a;intro a hA)|refine CT ?_|(refine DT ?_ ?_<;>intro hc<;>try (exfalso;omega))|fail)
    (refine zH hA rfl rfl (by decide) (zA rfl rfl rfl (raiseS hH hpc hmm hfs hst c.le_refl (Nat.le_succ _) hn hR hnf hne hfl hxs)) ?_;clear hA hH;rintro _ w hS a hA)
    repeat' (first|(refine QT ?_;clear hA a;intro a hA)|refine CT ?_|fail)
    exact rt0 (by first|exact .inl rfl|exact .inr rfl) rfl hA (by rw [ex];exact hS.drop1)
  rw [if_neg h3] at ex
  unfold fS at het
  rw [if_neg h4] at het
  by_cases h5:e.k=5
  · rw [if_pos h5] at ex
    rw [if_pos h5] at het
    repeat' (first|(refine XT ?_;apply XE;(first|(apply zL;rfl));clear hA a;intro a hA)|(refine QT ?_;clear hA a;intro a hA)|refine CT ?_|(refine DT ?_ ?_<;>intro hc<;>try (exfalso;omega))|fail)
    have hm1:e.to.l.getD 1 sJ∈e.to.l:=xN (by omega)
    have hm0:e.to.l.getD 0 sJ∈e.to.l:=xN (by omega)
    (refine zK [(0,1),(1,1),(2,1),(3,1),(4,1),(5,0),(6,1),(7,1),(8,1)] [9] mixed (by decide +kernel) hH ?_;replace hH:=hH.drew)
    by_cases h0:n=0
    · have htr:tru (decide (n≠0))=0:=by rw [decide_eq_false (by simpa using h0)];rfl
      rw [if_pos h0] at ex
      have hEd:=hto _ hm1
      repeat' (first|(refine XT ?_;apply XE;(first|(apply zD;rfl;rfl;decide;omega;exact hspT)|(apply zG (vs:=yL (e.to.l.getD 1 sJ));rfl;rfl;exact yV hRe.2.2.1.1 id (yA wW (fU (by omega)))));clear hA a;intro a hA)|(refine QT ?_;clear hA a;intro a hA)|(refine yO hA rfl rfl rfl (by decide) (zA rfl rfl rfl (Truth_spec _ _)) ?_;clear hA;rintro _ w ⟨rfl,hk2⟩;replace hH:=hH.keep hk2;refine ⟨STT,?_⟩;intro a hA;rw [htr] at hA)|refine CT ?_|fail)
      (refine rC hA rfl rfl rfl (by decide) (zA rfl rfl rfl (mY hH hpc hmm hfs hst hEd.at_ hR hsz (hRe.2.2.2 _ hm1) hEd.top hnf hEd.b0 hEd.b1 hEd.len)) ?_;clear hA hH;rintro _ w hS a hA)
      repeat' (first|(refine QT ?_;clear hA a;intro a hA)|refine CT ?_|fail)
      exact rt0 (by first|exact .inl rfl|exact .inr rfl) rfl hA (by rw [ex];exact hS.drop1)
    · have htr:tru (decide (n≠0))=1:=by rw [decide_eq_true h0];rfl
      rw [if_neg h0] at ex
      have hEd:=hto _ hm0
      repeat' (first|(refine XT ?_;apply XE;(first|(apply zD;rfl;rfl;decide;omega;exact hspT)|(apply zG (vs:=yL (e.to.l.getD 0 sJ));rfl;rfl;exact yV hRe.2.2.1.1 id (yA wW (fU (by omega)))));clear hA a;intro a hA)|(refine QT ?_;clear hA a;intro a hA)|(refine yO hA rfl rfl rfl (by decide) (zA rfl rfl rfl (Truth_spec _ _)) ?_;clear hA;rintro _ w ⟨rfl,hk2⟩;replace hH:=hH.keep hk2;refine ⟨STT,?_⟩;intro a hA;rw [htr] at hA)|refine CT ?_|fail)
      (refine rC hA rfl rfl rfl (by decide) (zA rfl rfl rfl (mY hH hpc hmm hfs hst hEd.at_ hR hsz (hRe.2.2.2 _ hm0) hEd.top hnf hEd.b0 hEd.b1 hEd.len)) ?_;clear hA hH;rintro _ w hS a hA)
      repeat' (first|(refine QT ?_;clear hA a;intro a hA)|refine CT ?_|fail)
      exact rt0 (by first|exact .inl rfl|exact .inr rfl) rfl hA (by rw [ex];exact hS.drop1)
  have h6:e.k=6:=by omega
  rw [if_neg h5] at ex
  rw [if_neg h5,if_pos h6] at het
  have hnl2:=hRe.2.1.le
  rw [vB (by unfold sM;omega)] at het
  have hbi:=eD e.ns.l n
  obtain ⟨i0,hi1⟩:∃i:Nat,i=if bsB e.ns.l n=true then bsI e.ns.l n else e.ns.l.length:=⟨_,rfl⟩
  rw [←hi1] at ex
  have hm0:e.to.l.getD i0 sJ∈e.to.l:=xN (by rw [hi1];split<;>omega)
  have hEd:=hto _ hm0
  repeat' (first|(refine XT ?_;apply XE;(first|(apply zL;rfl));clear hA a;intro a hA)|(refine QT ?_;clear hA a;intro a hA)|refine CT ?_|(refine DT ?_ ?_<;>intro hc<;>try (exfalso;omega))|fail)
  (refine zH hA rfl rfl (by decide) (zA rfl rfl rfl (jV _ _ _ _ _ (hH.rd hRe.2.1.1 id) hns)) ?_;clear hA;rintro _ w ⟨rfl,hk2⟩ a hA;replace hH:=hH.keep hk2)
  cases hb:bsB e.ns.l n
  · rw [hb,if_neg (by decide)] at hi1
    subst hi1
    rw [hb] at hA
    repeat' (first|(refine XT ?_;apply XE;(first|(apply zE;rfl;rfl;omega;exact hspT)|(apply zG (vs:=yL (e.to.l.getD e.ns.l.length sJ));rfl;rfl;exact yV hRe.2.2.1.1 id (yA wW (fU (by omega)))));clear hA a;intro a hA)|(refine QT ?_;clear hA a;intro a hA)|refine CT ?_|fail)
    (refine zH hA rfl rfl (by decide) (zA rfl rfl rfl (mY hH hpc hmm hfs hst hEd.at_ hR hsz (hRe.2.2.2 _ hm0) hEd.top hnf hEd.b0 hEd.b1 hEd.len)) ?_;clear hA hH;rintro _ w hS a hA)
    repeat' (first|(refine QT ?_;clear hA a;intro a hA)|refine CT ?_|fail)
    exact rt0 (by first|exact .inl rfl|exact .inr rfl) rfl hA (by rw [ex];exact hS.drop1)
  · rw [hb,if_pos rfl] at hi1
    subst hi1
    rw [hb] at hA
    repeat' (first|(refine XT ?_;apply XE;(first|(apply zE;rfl;rfl;omega;exact hspT)|(apply zG (vs:=yL (e.to.l.getD (bsI e.ns.l n) sJ));rfl;rfl;exact yV hRe.2.2.1.1 id (yA wW (fU (by omega)))));clear hA a;intro a hA)|(refine QT ?_;clear hA a;intro a hA)|refine CT ?_|fail)
    (refine zH hA rfl rfl (by decide) (zA rfl rfl rfl (mY hH hpc hmm hfs hst hEd.at_ hR hsz (hRe.2.2.2 _ hm0) hEd.top hnf hEd.b0 hEd.b1 hEd.len)) ?_;clear hA hH;rintro _ w hS a hA)
    repeat' (first|(refine QT ?_;clear hA a;intro a hA)|refine CT ?_|fail)
    exact rt0 (by first|exact .inl rfl|exact .inr rfl) rfl hA (by rw [ex];exact hS.drop1)
end
end Go.Proofs.YtenlcdokaadobaaGreatDoor
namespace Go.Fw
open Go Go.RowKit
theorem rt1c {P:Program} {N:Nat} {l:List (Nat × Value)} {a:Act} {w:World} {C:World→Prop} {fn:Func} {R:Value→World→Prop} {p:Tmp} {ty sz by_:Nat} {z:Value} {zs:List Value} {fl:List (Nat × Nat)} {q:Addr} {vs:List Value} {e:Exit} [h0:TSt P ty fl] [hi:TIf P ty z zs sz by_] (he:e= .ret∨e= .normal) (hr:fn.results=#[.cell p ty]) (hA:Sl N l a)
    (hp:lk l p=some (.pointer (some q))) (hl:vs.length=sz) (hC:C w) (hc:Cls C q vs) (h:R (.agg vs.toArray) w):bodyPost P fn (fun e w'=>∃v,e= .returned v∧R v w') e a w:=by
  have hg:a.tmps.getD p undef= .pointer (some q):=by simp [Array.getD_eq_getD_getElem?,hA.get p _ hp]
  obtain ⟨ti,h3,h4,h5,h6⟩:=hi.eq
  have hrun:(results fn a.tmps).run P w= .ok (.agg vs.toArray) w:=by
    have e1:(results fn a.tmps).run P w=((asAddr (a.tmps.getD p undef)).run P w).andThen fun b w₁=>(loadVar ty b).run P w₁:=by
      simp only [results,hr]
      simp [Sem.run_bind,Result.andThen]
    rw [e1,hg]
    simp [asAddr,loadVar,sO,sizeOf,typeInfo,h3,h5,←hl,run_loadCells_list w q vs (hc w hC),Result.andThen]
  rcases he with rfl|rfl
  · exact bodyPost_ret hrun hA.defers ⟨_,rfl,h⟩
  · exact bodyPost_end hrun hA.defers ⟨_,rfl,h⟩
end Go.Fw
namespace Go.Proofs.YtenlcdokaadobaaGreatDoor
open Go Go.Fw
set_option linter.unusedVariables false
noncomputable def bB (g:Grs) (kd:Int) (s:ByteArray) (fuel:Int):Int × ByteArray × ByteArray:=
  open Classical in if MayP g then ((pE g kd fuel.toNat (uM s)).1,ofB (pE g kd fuel.toNat (uM s)).2.2.out,(pE g kd fuel.toNat (uM s)).2.1) else (4,empS,empS)
theorem runP_t {g:Grs} {kd:Int} {s:ByteArray} {fuel:Int} (h:MayP g):bB g kd s fuel=((pE g kd fuel.toNat (uM s)).1,ofB (pE g kd fuel.toNat (uM s)).2.2.out,(pE g kd fuel.toNat (uM s)).2.1):=by unfold bB;rw [if_pos h]
theorem runP_f {g:Grs} {kd:Int} {s:ByteArray} {fuel:Int} (h:¬MayP g):bB g kd s fuel=(4,empS,empS):=by unfold bB;rw [if_neg h]
def qX (r:Int × ByteArray × ByteArray):List Value:=xD r.1 r.2.1 r.2.2
def rI (g:Grs) (fuel:Int):List Value:=
  [.slice g.fs.o g.fs.l.length g.fs.c,.slice g.ls.o g.ls.l.length g.ls.c,.slice g.ts.o g.ts.l.length g.ts.c,.slice g.xs.o g.xs.l.length g.xs.c,.slice g.ss.o g.ss.l.length g.ss.c,
   .int .i64 fuel,.slice none 0 0,.pointer none,.map none,.pointer none,.int .i64 0,.pointer none,.pointer none]
structure RunOk (w0:World) (g:Grs) (kd:Int) (n0:Nat) (inp:ByteArray) (c:Cx) (m:Mc) (fu:Int):Prop where
  run:pE g kd n0 (uM inp)=pE g kd fu.toNat m
  mc:McOk g m
  nf:c.nf=g.fs.l.length
  K:∀w,c.K w→Kp w0 noM w
  top:fu≤3000
  b0:65536≤c.bd
  b1:c.bd+fu.toNat≤70000
  sk:m.sk.length+fu.toNat≤3000
  out:m.wd.out.length+fu.toNat≤3000
def RunG (w0:World) (g:Grs) (kd:Int) (n0:Nat) (inp:ByteArray) (bM:Nat) (H:List It) (i:Nat) (w:World):Prop:=
  ∃c m fu,(i=fu.toNat+1∧RunOk w0 g kd n0 inp c m fu)∧MSt w0 c bM g kd fu H m w
def RunE (w0:World) (g:Grs) (kd:Int) (n0:Nat) (inp:ByteArray) (bM:Nat) (H:List It) (w:World):Prop:=
  ∃k r wd fu,pE g kd n0 (uM inp)=(k,r,wd)∧MEnd w0 bM g kd fu H k r wd w
theorem run_next {w0 w:World} {g:Grs} (hss:g.ss.l.length≤9223372036854775807) {kd:Int} {n0:Nat} {inp:ByteArray} {c:Cx} {m:Mc} {fu:Int} {bM:Nat} {H:List It} (hM:MayP g) (h:RunOk w0 g kd n0 inp c m fu) (h0:0<fu) (hS:SrW w0 c bM g kd (fu - 1) H (sY g kd m) w) :
    RunG w0 g kd n0 inp bM H fu.toNat w∨RunE w0 g kd n0 inp bM H w:=by
  obtain ⟨n,hn⟩:∃n,fu.toNat=n+1:=⟨fu.toNat - 1,by omega⟩
  have hn1:(fu - 1).toNat=n:=by omega
  have hrun:=h.run
  have htop:=h.top
  have hb0:=h.b0
  have hb1:=h.b1
  have hsk:=h.sk
  have hout:=h.out
  rw [hn,pE] at hrun
  cases hs:sY g kd m with
  | go m'=>
    rw [hs] at hS hrun
    obtain ⟨d,⟨hle,hbd⟩,hm⟩:=hS
    have hm2:=hm
    obtain ⟨oO,cO,oS,cS,pc,bv,mm,fms,sx,ph,hH,hf,hrest⟩:=hm2
    obtain ⟨o,k,vs,hr,_⟩:=hf
    have hnf:d.nf=g.fs.l.length:=by rw [←hle.nf];exact h.nf
    have hcu:=cur_ok hM h.mc.fm
    have ho:=step_ok hs h.mc (may_ne hM) (fun t ht=>⟨(hcu.edge hss ht).1,(hcu.edge hss ht).2.1⟩) hr.1 (by omega)
    have h1:=ho.sk
    have h2:=ho.out
    have h3:=hle.bd
    refine .inl ⟨d,m',fu - 1,⟨by omega,⟨by rw [hn1];exact hrun,ho.ok,hnf,fun w hw=>h.K w (hle.K w hw),by omega,by omega,by omega,by omega,by omega⟩⟩,hm⟩
  | stop k r wd=>
    rw [hs] at hS hrun
    exact .inr ⟨k,r,wd,fu - 1,hrun,hS⟩
section
attribute [local irreducible] Code.wp wpList Calls Ex Op1 sat bat blk cb own Go.Fw.mp Go.Fw.mpO Go.Fw.mpI Go.Fw.mpE Go.Fw.itr HS Rd Ret wkD Hp Cl Cls Exit.then Exit.inBlock Exit.noGoto bodyPost Go.Fw.flat wk2 Go.Fw.all Go.Fw.owns wpOp
attribute [local irreducible] sk mpK sko mvO xI opM Go.Fw.mset Go.Fw.mv opK w63 frz obI RV wQ vR vT wT

theorem enter0_spec (w0 w:World) (H:List It) (c:Cx) (bM p:Nat) (g:Grs) (kd:Int) (s:ByteArray) (fuel:Int) (hH:HS w0 noM (cb bM 86 (zJ g kd s none 0 0++rI g fuel)::frz w0 c.K::H) w) (hf:FnR c 0 [] p)
    (hR:RdGs w0 g) (hnf:c.nf=g.fs.l.length) (hne:∀f∈g.fs.l,0<f.bs.l.length) :
    Ret Tryz.prog 26 #[.pointer (some (bat bM 0)),vY 79 p,.iface 2 (.int .i64 0)] w (fun r w'=>
      ∃b m,MapR c (uM s).fm.vs m∧HS w0 noM (cb bM 86 (zJ g kd s none 0 0++yS g fuel none 0 0 p b (xG g 0 0) 0 none none)::mp b m::frz w0 c.K::H) w'):=by
  have hspF:Sp g.fs.o g.fs.l.length:=hR.1.1.sp (sz:=2) (zF sE _) (by omega)
  have hv:RV c (.num 0) (.iface 2 (.int .i64 0)):=RV_num (c:=c) (n:=0) ⟨by decide,by decide⟩
  obtain ⟨o,k,vs,hfr,hp,hr2,hvs⟩:=id hf
  have hfl:0<g.fs.l.length:=by omega
  have hgm:g.fs.l.getD (Int.toNat 0) gr0∈g.fs.l:=xN hfl
  have hbl:=hne _ hgm
  have hspB:Sp (g.fs.l.getD (Int.toNat 0) gr0).bs.o (g.fs.l.getD (Int.toNat 0) gr0).bs.l.length:=(hR.2.1 _ hgm).1.1.sp (sz:=6) (zF uL _) (by omega)
  unfold vY
  (refine ENT (N:=41) Tryz.func26 Tryz.ntmps26 ?_;intro a hA)
  repeat' (first|(refine XT ?_;apply XE;(first|(apply zL;rfl));clear hA a;intro a hA)|(refine QT ?_;clear hA a;intro a hA)|refine CT ?_|fail)
  have hb0:(0:Int)<(g.fs.l.getD (Int.toNat 0) gr0).bs.l.length:=by omega
  refine lN (qs [0,1,3,4,6,9,10,11,12,13,14,15,16,17,18,19,20,21] (.one 2 (.two 5 7 (.one 7 (qs [8,22,23,24] .nil)) (.one 5 (qs [8,22,23,24] .nil))))) [25] [] (fun _ _=>False) mixed (by decide +kernel) hH ?_ (fun a w h=>h.elim)
  intro hQ
  replace hH:=hH.drew
  (repeat ((first|(apply mE hA rfl rfl rfl (by decide) rfl;exact xC rfl)|(apply fY hA rfl rfl rfl (by decide) rfl;first|(apply zC;rfl;exact wG MEMT hp rfl)|(apply zD;rfl;rfl;omega;omega;first|exact hspF|exact hspB)|(apply zC;rfl;refine xP hR.1.1 id (fA ?_);omega)|(apply zY;rfl)|(apply zI (cs:=#[.pointer (some (bat p 0)),.map (some bV),.pointer (xG g 0 0),.int .i64 0,.pointer none]);rfl;exact FLT;rfl)|exact EXT));clear hA a;intro a hA))
  (refine qI hA rfl rfl rfl (by decide) (vZ hH) ?_;clear hA hH;rintro _ w ⟨bV,rfl,hH⟩;refine ⟨hH.tail,?_⟩;intro a hA)
  refine aX ?_ ?_
  · (apply pV hA rfl rfl rfl;apply wA;rfl;rfl;rfl;exact hH;(repeat constructor);clear hH;rintro _ w hH;refine ⟨hH.tail,?_⟩)
    (apply pV hA rfl rfl rfl;apply wA;rfl;rfl;rfl;exact hH;(repeat constructor);clear hH;rintro _ w hH;refine ⟨hH.tail,?_⟩)
    (repeat ((first|(apply mE hA rfl rfl rfl (by decide) rfl;exact xC rfl)|(apply fY hA rfl rfl rfl (by decide) rfl;first|(apply zC;rfl;exact wG MEMT hp rfl)|(apply zD;rfl;rfl;omega;omega;first|exact hspF|exact hspB)|(apply zC;rfl;refine xP hR.1.1 id (fA ?_);omega)|(apply zY;rfl)|(apply zI (cs:=#[.pointer (some (bat p 0)),.map (some bV),.pointer (xG g 0 0),.int .i64 0,.pointer none]);rfl;exact FLT;rfl)|exact EXT));clear hA a;intro a hA))
    (apply mD;(apply zX hA rfl rfl rfl;apply xO (vs:=[.pointer (some (bat p 0)),.map (some bV),.pointer (xG g 0 0),.int .i64 0,.pointer none]) (cs':=zJ g kd s none 0 0++yS g fuel none 0 0 p bV (xG g 0 0) 0 none none);rfl;rfl;exact hH;(repeat constructor);clear hH;rintro _ w hH);(repeat' (first|(refine QT ?_;clear hA a;intro a hA)|refine CT ?_|fail)))
    exact rt1 (.inl rfl) rfl hA rfl ⟨bV,_,MapR_new (cl:=(0,[])) hf hv,hH.perm PMT⟩
  · (apply pV hA rfl rfl rfl;apply wA;rfl;rfl;rfl;exact hH;(repeat constructor);clear hH;rintro _ w hH;refine ⟨hH.tail,?_⟩)
    (apply pV hA rfl rfl rfl;apply wA;rfl;rfl;rfl;exact hH;(repeat constructor);clear hH;rintro _ w hH;refine ⟨hH.tail,?_⟩)
    (repeat ((first|(apply mE hA rfl rfl rfl (by decide) rfl;exact xC rfl)|(apply fY hA rfl rfl rfl (by decide) rfl;first|(apply zC;rfl;exact wG MEMT hp rfl)|(apply zD;rfl;rfl;omega;omega;first|exact hspF|exact hspB)|(apply zC;rfl;refine xP hR.1.1 id (fA ?_);omega)|(apply zY;rfl)|(apply zI (cs:=#[.pointer (some (bat p 0)),.map (some bV),.pointer (xG g 0 0),.int .i64 0,.pointer none]);rfl;exact FLT;rfl)|exact EXT));clear hA a;intro a hA))
    (apply mD;(apply zX hA rfl rfl rfl;apply xO (vs:=[.pointer (some (bat p 0)),.map (some bV),.pointer (xG g 0 0),.int .i64 0,.pointer none]) (cs':=zJ g kd s none 0 0++yS g fuel none 0 0 p bV (xG g 0 0) 0 none none);rfl;rfl;exact hH;(repeat constructor);clear hH;rintro _ w hH);(repeat' (first|(refine QT ?_;clear hA a;intro a hA)|refine CT ?_|fail)))
    exact rt1 (.inl rfl) rfl hA rfl ⟨bV,_,MapR_new2 (cl:=(0,[])) hf hv,hH.perm PMT⟩
end
def dX (oF:Option Addr) (nF cF:Nat) (g:Grs) (fuel:Int):List Value:=
  [.slice oF nF cF,.slice g.ls.o g.ls.l.length g.ls.c,.slice g.ts.o g.ts.l.length g.ts.c,.slice g.xs.o g.xs.l.length g.xs.c,.slice g.ss.o g.ss.l.length g.ss.c,
   .int .i64 fuel,.slice none 0 0,.pointer none,.map none,.map none,.int .i64 0,.pointer none,.pointer none,.pointer none,.pointer none]
section
attribute [local irreducible] Code.wp wpList Calls Ex Op1 sat bat blk cb own Go.Fw.mp Go.Fw.mpO Go.Fw.mpI Go.Fw.mpE Go.Fw.itr HS Rd Ret wkD Hp Cl Cls Exit.then Exit.inBlock Exit.noGoto bodyPost Go.Fw.flat wk2 Go.Fw.all Go.Fw.owns wpOp
attribute [local irreducible] sk mpK sko mvO xI opM Go.Fw.mset Go.Fw.mv opK w63 frz obI RV wQ vR vT wT

theorem aT (w0 w:World) (H:List It) (c:Cx) (bM p:Nat) (g:Grs) (fl:List FN) (oF:Option Addr) (cF:Nat) (kd:Int) (s:ByteArray) (fuel:Int) (hH:HS w0 noM (cb bM 136 (zJ g kd s none 0 0++dX oF fl.length cF g fuel)::frz w0 c.K::H) w) (hf:FnR c 0 [] p)
    (hP:PrR w0 oF fl g) (hnf:c.nf=fl.length) :
    Ret Tryz.prog 46 #[.pointer (some (bat bM 0)),vY 79 p,.iface 2 (.int .i64 0)] w (fun r w'=>
      ∃b b2 m,MapR c (uN fl s).fm.vs m∧HS w0 noM (cb bM 136 (zJ g kd s none 0 0++yQ oF fl.length cF g fuel none 0 0 p b b2 0 none none (some (sat oF (Int.toNat 0*12+1))) none)::mp b m::mp b2 []::frz w0 c.K::H) w'):=by
  have hlen:=hP.len
  have hspF:Sp oF fl.length:=hP.fs.sp (sz:=12) (zF vF _) (by omega)
  have hv:RV c (.num 0) (.iface 2 (.int .i64 0)):=RV_num (c:=c) (n:=0) ⟨by decide,by decide⟩
  obtain ⟨o,k,vs,hfr,hp,hr2,hvs⟩:=id hf
  have hfl:0<fl.length:=by omega
  unfold vY
  (refine ENT (N:=43) Tryz.func46 Tryz.ntmps46 ?_;intro a hA)
  repeat' (first|(refine XT ?_;apply XE;(first|(apply zL;rfl)|(apply zY;rfl));clear hA a;intro a hA)|(refine QT ?_;clear hA a;intro a hA)|(refine zH hA rfl rfl (by decide) (vZ hH) ?_;clear hA hH;rintro _ w ⟨bV,rfl,hH⟩ a hA)|(apply zO hA rfl rfl;apply wA;rfl;rfl;rfl;exact hH;(repeat constructor);clear hH;rintro _ w hH)|refine CT ?_|fail)
  have key:∃b1 b2,HS w0 noM (cb bM 136 (zJ g kd s none 0 0++dX oF fl.length cF g fuel)::mp b2 []::mp b1 (mset (mset [] 0 (vY 79 p)) 1 (.iface 2 (.int .i64 0)))::frz w0 c.K::H) w∧Sl 43 [(25,.map (some b2)),(20,.map (some b1)),(24,.map (some b1)),(19,.pointer (some (bat p 0))),(18,.pointer (some (bat bM 0))),(7,.pointer (some (bat p 0))),(0,.pointer (some (bat bM 0)))] a:=⟨_,_,hH.perm PMT,(hA.sub SBT)⟩
  clear hA hH
  obtain ⟨b1,b2,hH,hA⟩:=key
  repeat' (first|(refine XT ?_;apply XE;(first|(apply zI (cs:=#[.pointer (some (bat p 0)),.map (some b1),.map (some b2),.int .i64 0,.pointer none,.pointer none]);rfl;exact FLT;rfl));clear hA a;intro a hA)|(refine QT ?_;clear hA a;intro a hA)|(apply zO hA rfl rfl;apply xO (vs:=[.pointer (some (bat p 0)),.map (some b1),.map (some b2),.int .i64 0,.pointer none,.pointer none]) (cs':=zJ g kd s none 0 0++yQ oF fl.length cF g fuel none 0 0 p b1 b2 0 none none none none);rfl;rfl;exact hH;(repeat constructor);(repeat rfl);clear hH;rintro _ w hH)|refine CT ?_|fail)
  (refine zK [(0,1),(1,1),(2,1),(3,1),(4,1),(5,1),(6,1),(7,1),(8,1),(9,1),(10,1),(11,1),(12,1),(13,1)] [14] mixed (by decide +kernel) hH ?_;replace hH:=hH.drew)
  repeat' (first|(refine XT ?_;apply XE;(first|(apply zC;rfl;exact wG MEMT hp rfl)|(apply zD;rfl;rfl;omega;omega;exact hspF));clear hA a;intro a hA)|(refine QT ?_;clear hA a;intro a hA)|(apply zX hA rfl rfl rfl;apply zB (cs':=zJ g kd s none 0 0++yQ oF fl.length cF g fuel none 0 0 p b1 b2 0 none none (some (sat oF (Int.toNat 0*12+1))) none);rfl;rfl;rfl;exact hH;(repeat constructor);clear hH;rintro _ w hH)|refine CT ?_|fail)
  exact rt1 (.inl rfl) rfl hA rfl ⟨b1,b2,_,MapR_newA (cl:=(0,[])) hf hv,hH.perm PMT⟩
end
end Go.Proofs.YtenlcdokaadobaaGreatDoor
