/-
  The machine of bodies (plain); its state as it lies in memory. Conditions: none.
  The machine of bodies: what an atom is, what atoms are; stop, enter. Conditions: none.
  The machine of bodies: call. Conditions: none.
  The machine of bodies: back to who waits; raise. Conditions: none.
  The machine of bodies: its state as it lies in memory; stop, raise, call, enter, back, told by it. Conditions: none.
  The machine of bodies: a Let. Conditions: none.
  The machine of bodies: a step. Conditions: none.
-/
import Derived.Test.YtenlcdokaadobaaGreatDoorRowMeansMg9
import Derived.Test.YtenlcdokaadobaaGreatDoorRowMeansMg5
set_option maxHeartbeats 64000000
set_option maxRecDepth 10000
namespace Go.Proofs.YtenlcdokaadobaaGreatDoor
open Go Go.Fw
set_option linter.unusedVariables false
def AtB (w:World) (o:Option Addr) (j:Nat) (b:AN):Prop:=(∀i u,(xF b)[i]?=some u→w.cell? (sat o (j+i))=some u)∧RdN w b
def an0:AN:=.mk 0 0 zT 0 zT ⟨0,0,zT,zT⟩ zT none 0 []
structure Af where
  c:Clo
  vs:List (Int × Vl)
  js:List (Int × AN)
  x:Int
  kid:AN
  h:Option Clo
def Af.fm (f:Af):Fm:=⟨f.c,f.vs,0,0,f.h⟩
structure Am where
  wd:Wd
  sk:List Af
  fm:Af
  b:AN
inductive Ar
  |go (m:Am)
  |stop (kind:Int) (res:ByteArray) (wd:Wd)
def vD (w:Wd):Ar:=.stop 4 ⟨#[]⟩ w
def tM (fl:List FN) (f:Int):AN:=(fl.getD f.toNat ⟨0,an0⟩).body
def mT (c:Clo) (x:Vl):Af:=⟨c,[(0,.fn c.1 c.2),(1,x)],[],0,an0,none⟩
def qS (fl:List FN) (f x:Vl) (w:Wd) (sk:List Af):Ar:=
  match asFn f with
  |some c=>.go ⟨w,sk,mT c x,tM fl c.1⟩
  |none=>vD w
def uW:List Af→Option (List Af × Clo)
  | []=>none
  | f::r=>match f.h with
    |some c=>some ({f with h:=none}::r,c)
    |none=>uW r
def uZ (fl:List FN) (g:Grs) (n:Int) (w:Wd) (sk:List Af):Ar:=
  if n<0∨(g.xs.l.length:Int)≤n then vD w
  else match uW sk with
    |some (sk',c)=>.go ⟨w,sk',mT c (.num n),tM fl c.1⟩
    |none=>.stop 1 (raiseB++g.xs.l.getD n.toNat default) w
def pZ (g:Grs) (kd:Int) (x:Vl) (wd:Wd):List Af→Ar
  | []=>match wT g kd x with
    |some s=>.stop 1 s wd
    |none=>vD wd
  |f::r=>.go ⟨wd,r,{f with vs:=tP f.vs f.x x},f.kid⟩
def tA (b:AN) (i:Nat):AN:=b.kids.getD i an0
def qK (fl:List FN) (f x:Vl) (h:Option Clo) (wd:Wd) (sk:List Af) (fm:Af) (b:AN):Ar:=
  match asFn f with
  |some c=>.go ⟨wd,{fm with x:=b.x,kid:=tA b 0,h:=h}::sk,mT c x,tM fl c.1⟩
  |none=>vD wd
def isNilA:Vl→Bool
  | .nil=>true
  |_=>false
def mA (fl:List FN) (g:Grs) (fm:Af) (b:AN) (wd:Wd) (sk:List Af):Ar:=
  if b.r.k=3 then qK fl (yI (xB g fm.fm b.r.a.l) 0) (yI (xB g fm.fm b.r.a.l) 1) none wd sk fm b
  else if b.r.k=14 then
    match asFn (yI (xB g fm.fm b.r.a.l) 0) with
    |some c=>if c.1=b.r.n then qK fl (yI (xB g fm.fm b.r.a.l) 0) (yI (xB g fm.fm b.r.a.l) 1) none wd sk fm b else vD wd
    |none=>vD wd
  else if b.r.k=13 then
    match asFn (yI (xB g fm.fm b.r.a.l) 1) with
    |some h=>qK fl (yI (xB g fm.fm b.r.a.l) 0) (.num 0) (some h) wd sk fm b
    |none=>vD wd
  else match yH b.r (xB g fm.fm b.r.a.l) fm.c.2 wd with
    | .exn s=>uZ fl g (wQ g.xs.l s) wd sk
    | .val v wd'=>if isNilA v then vD wd' else .go ⟨wd',sk,{fm with vs:=tP fm.vs b.x v},tA b 0⟩
def alk (js:List (Int × AN)) (n:Int):Option AN:=(js.find? (fun e=>e.1 == n)).map (·.2)
def aset (js:List (Int × AN)) (n:Int) (b:AN):List (Int × AN):=if (alk js n).isSome then js.map (fun e=>if e.1 == n then (n,b) else e) else js++[(n,b)]
def rG:Atm:=⟨0,0⟩
def rL:List (Int × Vl)→List Int→List Vl→List (Int × Vl)
  |m,p::ps,v::vs=>rL (tP m p v) ps vs
  |m,_,_=>m
def uP (fl:List FN) (g:Grs) (kd:Int) (m:Am):Ar:=
  if m.b.k=1 then mA fl g m.fm m.b m.wd m.sk
  else if m.b.k=2 then pZ g kd (uJ g m.fm.fm (m.b.a.l.getD 0 rG)) m.wd m.sk
  else if m.b.k=3 then qS fl (uJ g m.fm.fm (m.b.a.l.getD 0 rG)) (uJ g m.fm.fm (m.b.a.l.getD 1 rG)) m.wd m.sk
  else if m.b.k=7 then .go ⟨m.wd,m.sk,{m.fm with js:=aset m.fm.js m.b.n m.b},tA m.b 1⟩
  else if m.b.k=8 then .go ⟨m.wd,m.sk,{m.fm with vs:=rL m.fm.vs ((alk m.fm.js m.b.n).getD an0).xs.l (xB g m.fm.fm m.b.a.l)},tA ((alk m.fm.js m.b.n).getD an0) 0⟩
  else match asNum (uJ g m.fm.fm (m.b.a.l.getD 0 rG)) with
    |none=>vD m.wd
    | some n=>
      if m.b.k=4 then uZ fl g n m.wd m.sk
      else if m.b.k=5 then .go ⟨m.wd,m.sk,m.fm,tA m.b (if n=0 then 1 else 0)⟩
      else .go ⟨m.wd,m.sk,m.fm,tA m.b (if bsB m.b.ns.l n then bsI m.b.ns.l n else m.b.ns.l.length)⟩
def rT (fl:List FN) (g:Grs) (kd:Int):Nat→Am→Int × ByteArray × Wd
  |0,m=>(2,empS,m.wd)
  | n+1,m=>match uP fl g kd m with
    | .go m'=>rT fl g kd n m'
    | .stop k r wd=>(k,r,wd)
def uN (fl:List FN) (s:ByteArray):Am:=⟨⟨s,[],[]⟩,[],mT (0,[]) (.num 0),tM fl 0⟩
def PtN (c:Cx) (b:AN) (p:Option Addr):Prop:=∃o j,p=some (sat o j)∧∀w,c.K w→AtB w o j b
theorem PtN.mono {c d:Cx} (h:c.le d) {b:AN} {p:Option Addr} (hp:PtN c b p):PtN d b p:=by
  obtain ⟨o,j,h1,h2⟩:=hp
  exact ⟨o,j,h1,fun w hw=>h2 w (h.K w hw)⟩
def JptR (c:Cx):Option AN→Option Value→Prop
  |none,none=>True
  |some b,some v=>∃p,v= .pointer p∧PtN c b p
  |_,_=>False
def JmR (c:Cx) (js:List (Int × AN)) (m:List (Int × Value)):Prop:=∀n,JptR c (alk js n) (mv m n)
theorem JptR.mono {c d:Cx} (h:c.le d):∀{x:Option AN} {v:Option Value},JptR c x v→JptR d x v
  |none,none,_=>trivial
  |some b,some v,⟨p,h1,h2⟩=>⟨p,h1,h2.mono h⟩
  |none,some _,hx=>hx.elim
  |some _,none,hx=>hx.elim
theorem JmR.mono {c d:Cx} (h:c.le d) {js:List (Int × AN)} {m:List (Int × Value)} (hm:JmR c js m):JmR d js m:=fun n=>(hm n).mono h
theorem JmR.nil (c:Cx):JmR c [] []:=fun n=>trivial
theorem oM (js:List (Int × AN)) (n k:Int) (b:AN):alk (aset js n b) k=if k=n then some b else alk js k:=by
  have h:=lk_set js n k b
  unfold alk aset alk
  exact h
theorem JmR.set {c:Cx} {js:List (Int × AN)} {m:List (Int × Value)} {b:AN} {p:Option Addr} (h:JmR c js m) (n:Int) (hp:PtN c b p):JmR c (aset js n b) (mset m n (.pointer p)):=fun k=>by
  rw [oM,jS]
  by_cases hk:k=n
  · rw [if_pos hk,if_pos hk];exact ⟨p,rfl,hp⟩
  · rw [if_neg hk,if_neg hk];exact h k
structure AfM where
  pc:Nat
  bv:Nat
  bj:Nat
  x:Int
  kid:Option Addr
  ph:Option Addr
  m:List (Int × Value)
  jm:List (Int × Value)
def yD (f:AfM):List Value:=[.pointer (some (bat f.pc 0)),.map (some f.bv),.map (some f.bj),.int .i64 f.x,.pointer f.kid,.pointer f.ph]
theorem nI (f:AfM):(yD f).length=6:=rfl
theorem fD (l:List AfM) (f:AfM):flat yD l++yD f=flat yD (l++[f]):=by rw [xZ]
theorem lenFa (l:List AfM) (f:AfM):(l++[f]).length=l.length+1:=by rw [List.length_append];rfl
def yQ (oF:Option Addr) (nF cF:Nat) (g:Grs) (fuel:Int) (oS:Option Addr) (nS cS pc bv bj:Nat) (xx:Int) (kk ph pb pe:Option Addr):List Value:=
  [.slice oF nF cF,.slice g.ls.o g.ls.l.length g.ls.c,.slice g.ts.o g.ts.l.length g.ts.c,.slice g.xs.o g.xs.l.length g.xs.c,.slice g.ss.o g.ss.l.length g.ss.c,
   .int .i64 fuel,.slice oS nS cS,.pointer (some (bat pc 0)),.map (some bv),.map (some bj),.int .i64 xx,.pointer kk,.pointer ph,.pointer pb,.pointer pe]
theorem new_vsA (c:Clo) (x:Vl):(mT c x).vs=tP (tP [] 0 (.fn c.1 c.2)) 1 x:=rfl
theorem MapR_newA {c:Cx} {cl:Clo} {p:Nat} {x:Vl} {v:Value} (hc:FnR c cl.1 cl.2 p) (hx:RV c x v):MapR c (mT cl x).vs (mset (mset [] 0 (vY 79 p)) 1 v):=by
  rw [new_vsA]
  exact ((MapR.nil c).set 0 hc.rv).set 1 hx
structure FaR (c:Cx) (f:Af) (y:AfM):Prop where
  fn:FnR c f.c.1 f.c.2 y.pc
  vs:MapR c f.vs y.m
  js:JmR c f.js y.jm
  x:y.x=f.x
  kid:PtN c f.kid y.kid
  h:hdR c f.h y.ph
theorem FaR.mono {c d:Cx} (h:c.le d) {f:Af} {x:AfM} (hf:FaR c f x):FaR d f x:=⟨hf.fn.mono h,hf.vs.mono h,hf.js.mono h,hf.x,hf.kid.mono h,hf.h.mono h⟩
def FasR (c:Cx):List Af→List AfM→Prop
  | [],l=>l=[]
  |f::r,l=>∃pre x,l=pre++[x]∧FaR c f x∧FasR c r pre
theorem FasR.mono {c d:Cx} (h:c.le d):∀{sk:List Af} {l:List AfM},FasR c sk l→FasR d sk l
  | [],l,hs=>hs
  |f::r,l,⟨pre,x,h1,h2,h3⟩=>⟨pre,x,h1,h2.mono h,FasR.mono h h3⟩
theorem FasR.len {c:Cx}:∀{sk:List Af} {l:List AfM},FasR c sk l→l.length=sk.length
  | [],l,hs=>by rw [show l=[] from hs];rfl
  |f::r,l,⟨pre,x,h1,h2,h3⟩=>by rw [h1,List.length_append,h3.len];rfl
def mpA (x:AfM):It:=all [mp x.bv x.m,mp x.bj x.jm]
theorem mpA_pop {w0 w:World} {H:List It} {pre:List AfM} {x:AfM} (h:HS w0 noM (all ((pre++[x]).map mpA)::H) w):HS w0 noM (mp x.bv x.m::mp x.bj x.jm::all (pre.map mpA)::H) w:=by
  rw [List.map_append] at h
  have:=HS.all_out (A:=pre.map mpA) (B:=[]) (x:=mpA x) h
  rw [List.append_nil] at this
  exact HS.open_ (L:=[_,_]) this
theorem mpA_push {w0 w:World} {H:List It} {pre:List AfM} {x:AfM} (h:HS w0 noM (mp x.bv x.m::mp x.bj x.jm::all (pre.map mpA)::H) w):HS w0 noM (all ((pre++[x]).map mpA)::H) w:=by
  rw [List.map_append]
  exact HS.all_in (A:=pre.map mpA) (B:=[]) (x:=mpA x) (by rw [List.append_nil];exact HS.shut (L:=[_,_]) h)
theorem tF {w0:World} {H:List It} {c:Cx} {b:AN} {o:Option Addr} {j i:Nat} {v:Value} (hm:frz w0 c.K∈H) (h:∀w,c.K w→AtB w o j b) (hv:(xF b)[i]?=some v):Cl (HS w0 noM H) (sat o (j+i)) v:=fun w hH=>(h w (hH.frz hm)).1 i v hv
theorem pH {c:Cx} {k x n:Int} {xs ns:Vec Int} {r:Stp} {va:Vec Atm} {ko:Option Addr} {kc:Nat} {kids:List AN} {p:Option Addr} {i:Nat} (h:PtN c (.mk k x xs n ns r va ko kc kids) p) (hi:i<kids.length):PtN c (tA (.mk k x xs n ns r va ko kc kids) i) (some (sat ko (i*11))):=by
  obtain ⟨o,j,rfl,h2⟩:=h
  have hx:kids[i]?=some kids[i]:=List.getElem?_eq_getElem hi
  have e:tA (.mk k x xs n ns r va ko kc kids) i=kids[i]:=by unfold tA;show kids.getD i an0=_;rw [List.getD_eq_getElem?_getD,hx];rfl
  rw [e]
  refine ⟨ko,i*11,rfl,fun w hw=>?_⟩
  have h3:=(h2 w hw).2
  cases h3 with
  |mk h1 h2 h3 h4 h5 h6 h7=>exact ⟨fun q u hu=>h6.1.1.2 _ u (yA wN hx q u hu),h7 _ (List.getElem_mem hi)⟩
theorem pt_sp {c:Cx} {w:World} {k x n:Int} {xs ns:Vec Int} {r:Stp} {va:Vec Atm} {ko:Option Addr} {kc:Nat} {kids:List AN} {o:Option Addr} {j:Nat} (h:∀w,c.K w→AtB w o j (.mk k x xs n ns r va ko kc kids)) (hw:c.K w):Sp ko kids.length:=by
  have h3:=(h w hw).2
  cases h3 with
  |mk h1 h2 h3 h4 h5 h6 h7=>exact h6.1.1.sp (sz:=11) (zF wN _) (by omega)
structure PrR (w0:World) (oF:Option Addr) (fl:List FN) (g:Grs):Prop where
  fs:Rd w0 oF (flat xX fl)
  rd:∀f∈fl,RdN w0 f.body
  len:fl.length≤1000000
  xs:RdV w0 yY g.xs
  ss:RdV w0 yY g.ss
theorem jW {w0:World} {oF:Option Addr} {fl:List FN} {g:Grs} {c:Cx} (h:PrR w0 oF fl g) (hK:∀w,c.K w→Kp w0 noM w) {f:Int} (h0:0≤f) (h1:f<fl.length):PtN c (tM fl f) (some (sat oF (f.toNat*12+1))):=by
  have hl:f.toNat<fl.length:=by omega
  have hx:fl[f.toNat]?=some fl[f.toNat]:=List.getElem?_eq_getElem hl
  have hb:tM fl f=fl[f.toNat].body:=by unfold tM;rw [List.getD_eq_getElem?_getD,hx];rfl
  rw [hb]
  exact ⟨oF,f.toNat*12+1,rfl,fun w hw=>⟨fun i u hu=>(((HS.init w0 noM).keep (hK w hw)).rd h.fs id).2 _ u (fn_body hx i u hu),(h.rd _ (List.getElem_mem hl)).keep (hK w hw)⟩⟩
section
attribute [local irreducible] Code.wp wpList Calls Ex Op1 sat bat blk cb own Go.Fw.mp Go.Fw.mpO Go.Fw.mpI Go.Fw.mpE Go.Fw.itr HS Rd Ret wkD Hp Cl Cls Exit.then Exit.inBlock Exit.noGoto bodyPost Go.Fw.flat wk2 Go.Fw.all Go.Fw.owns wpOp
attribute [local irreducible] sk mpK sko mvO xI opM Go.Fw.mset Go.Fw.mv opK w63 frz obI RV wQ vR vT wT

theorem qD (w0 w:World) (H:List It) (c:Cx) (bM:Nat) (g:Grs) (kd:Int) (s:ByteArray) (oO oS oF:Option Addr) (nO cO nF cF nS cS pc bv bj:Nat) (fuel xx:Int) (kk ph pb pe:Option Addr) (fm:Fm) (m:List (Int × Value)) (a:Atm)
    (hH:HS w0 noM (cb bM 136 (zJ g kd s oO nO cO++yQ oF nF cF g fuel oS nS cS pc bv bj xx kk ph pb pe)::mp bv m::H) w) (hM:MapR c fm.vs m) (ha:atW g a) (hss:RdV w0 yY g.ss) (hsz:∀s∈g.ss.l,s.size≤4096) :
    Ret Tryz.prog 89 #[.pointer (some (bat bM 0)),.agg (zN a).toArray] w (fun v w'=>RV c (uJ g fm a) v∧HS w0 noM (cb bM 136 (zJ g kd s oO nO cO++yQ oF nF cF g fuel oS nS cS pc bv bj xx kk ph pb pe)::mp bv m::H) w'):=by
  have hsp:Sp g.ss.o g.ss.l.length:=hss.1.sp (sz:=1) (zF wZ _) (by omega)
  have hle:=hss.le
  obtain ⟨x,hx⟩:∃x,x=a:=⟨_,rfl⟩
  rw [←hx] at ha ⊢
  clear hx a
  (refine ENT (N:=32) Tryz.func89 Tryz.ntmps89 ?_;intro a hA)
  repeat' (first|(refine QT ?_;clear hA a;intro a hA)|(refine BT ?_;clear hA hH;rintro _ w ⟨bN,rfl,hH⟩ a hA)|refine CT ?_|(refine DT ?_ ?_<;>intro hc<;>try (exfalso;omega))|fail)
  · have hk:x.k=1:=by assumption
    have hv:=hM.get x.n
    (refine zQ [(0,1),(1,1),(2,1),(3,1),(4,1),(5,1),(6,1),(7,1),(8,1)] mixed (by decide +kernel) hH ?_;replace hH:=hH.drew)
    repeat' (first|(refine XT ?_;apply XE;(first|(apply qG;rfl;rfl;exact MEMT));clear hA a;intro a hA)|(refine QT ?_;clear hA a;intro a hA)|refine CT ?_|fail)
    exact rt1 (.inl rfl) rfl hA rfl ⟨by rw [get_1 hk];exact hv,hH.tail⟩
  · have hk:x.k=3:=by assumption
    have hb:=ha.2 hk
    (refine zQ [(0,1),(1,1),(2,1),(3,1),(4,1),(5,1),(6,1),(7,1),(8,1),(9,1),(10,1)] mixed (by decide +kernel) hH ?_;replace hH:=hH.drew)
    repeat' (first|(refine XT ?_;apply XE;(first|(apply zD;rfl;rfl;omega;omega;exact hsp)|(apply zC;rfl;refine xP hss.1 id (tU ?_);omega)|(apply zY;rfl));clear hA a;intro a hA)|(refine QT ?_;clear hA a;intro a hA)|refine CT ?_|fail)
    exact rt1 (.inl rfl) rfl hA rfl ⟨by rw [get_3 hk];exact RV_txt (hsz _ (xN (by omega))),hH.tail⟩
  repeat' (first|(refine XT ?_;apply XE;(first|(apply zY;rfl));clear hA a;intro a hA)|(refine QT ?_;clear hA a;intro a hA)|refine CT ?_|fail)
  exact rt1 (.inl rfl) rfl hA rfl ⟨by rw [get_2 (by assumption) (by assumption)];exact RV_num ha.1,hH.tail⟩
theorem cK (w0 w:World) (H:List It) (c:Cx) (bM:Nat) (g:Grs) (kd:Int) (s:ByteArray) (oO oS oF:Option Addr) (nO cO nF cF nS cS pc bv bj:Nat) (fuel xx:Int) (kk ph pb pe:Option Addr) (fm:Fm) (m:List (Int × Value)) (v:Vec Atm)
    (hH:HS w0 noM (cb bM 136 (zJ g kd s oO nO cO++yQ oF nF cF g fuel oS nS cS pc bv bj xx kk ph pb pe)::mp bv m::H) w) (hM:MapR c fm.vs m) (ha:∀a∈v.l,atW g a) (hss:RdV w0 yY g.ss) (hsz:∀s∈g.ss.l,s.size≤4096) (hR:RdV w0 zN v) (hl:v.l.length≤1048576) :
    Ret Tryz.prog 90 #[.pointer (some (bat bM 0)),.slice v.o v.l.length v.c] w (fun r w'=>∃o k vs,r= .slice o vs.length k∧RVs c (xB g fm v.l) vs∧HS w0 noM (own 137 1 o vs.length k vs::cb bM 136 (zJ g kd s oO nO cO++yQ oF nF cF g fuel oS nS cS pc bv bj xx kk ph pb pe)::mp bv m::H) w'):=by
  have hsp:Sp v.o v.l.length:=hR.1.sp (sz:=2) (zF yT _) (by omega)
  (refine ENT (N:=22) Tryz.func90 Tryz.ntmps90 ?_;intro a hA)
  repeat' (first|(refine QT ?_;clear hA a;intro a hA)|refine CT ?_|fail)
  refine yK (S:=Nat) (fun i a w=>∃o k vs,(i≤v.l.length∧RVs c (xB g fm (v.l.take i)) vs)∧HS w0 noM (own 137 1 o vs.length k vs::cb bM 136 (zJ g kd s oO nO cO++yQ oF nF cF g fuel oS nS cS pc bv bj xx kk ph pb pe)::mp bv m::H) w∧Sl 22 [(10,.int .i64 i),(9,.int .i64 v.l.length),(8,.slice v.o v.l.length v.c),(5,.slice o vs.length k),(0,.pointer (some (bat bM 0)))] a) (fun i=>v.l.length - i)
    (fun a w=>∃o k vs,RVs c (xB g fm v.l) vs∧HS w0 noM (own 137 1 o vs.length k vs::cb bM 136 (zJ g kd s oO nO cO++yQ oF nF cF g fuel oS nS cS pc bv bj xx kk ph pb pe)::mp bv m::H) w∧Sl 22 [(5,.slice o vs.length k)] a) 0 ⟨none,0,[],⟨Nat.zero_le _,RVs.nil⟩,hH.nil_own 137 1,(hA.sub SBT)⟩ ?_ ?_
  · clear hA hH
    rintro i a w ⟨o,k,vs,⟨hi,hvs⟩,hH,hA⟩
    by_cases hlt:i<v.l.length
    rotate_left
    · obtain rfl:i=v.l.length:=by omega
      rw [List.take_length] at hvs
      repeat' (first|(refine QT ?_;clear hA a;intro a hA)|refine CT ?_|(refine DT ?_ ?_<;>intro hc<;>try (exfalso;omega))|fail)
      exact ⟨o,k,vs,hvs,hH,(hA.sub SBT)⟩
    obtain ⟨x,hx⟩:∃x,v.l[i]?=some x:=⟨_,List.getElem?_eq_getElem hlt⟩
    have hvx:=yA yT hx
    have hvl:=hvs.len
    unfold xB at hvl
    rw [List.length_map,List.length_take] at hvl
    repeat' (first|(refine XT ?_;apply XE;(first|(apply zG (vs:=zN x);rfl;rfl;exact yV hR.1 id hvx));clear hA a;intro a hA)|(refine QT ?_;clear hA a;intro a hA)|(refine BT ?_;clear hA hH;rintro _ w ⟨bN,rfl,hH⟩ a hA)|(refine SAT (zN x) hA hH ?_;clear hH;intro w hH)|refine CT ?_|(refine DT ?_ ?_<;>intro hc<;>try (exfalso;omega))|fail)
    (refine zH hA rfl rfl (by decide) (zA rfl rfl rfl (qD w0 w _ c bM g kd s oO oS oF nO cO nF cF nS cS pc bv bj fuel xx kk ph pb pe fm m x (hH.perm (H':=cb bM 136 (zJ g kd s oO nO cO++yQ oF nF cF g fuel oS nS cS pc bv bj xx kk ph pb pe)::mp bv m::cb bN 65 (zN x)::own 137 1 o vs.length k vs::H) PMT) hM (ha x (List.mem_of_getElem? hx)) hss hsz)) ?_;clear hA hH;rintro u w ⟨hu,hH⟩ a hA)
    have h1u:=hu.one
    (apply zH hA rfl rfl (by decide);apply zZ (xs:=[u]) (vs:=[u]);rfl;rfl;exact .c1 h1u .nil;rfl;rfl;rfl;exact hH;clear hA hH;rintro _ w ⟨oN,rfl,hH⟩ a hA)
    have h1l:([u]:List Value).all (·.oneCell')=true:=by simp [h1u]
    (apply zH hA rfl rfl (by decide);apply yX;rfl;rfl;exact hH;exact MEMT;exact (hH.own_rd (T:=137) (List.Mem.head _));exact rfl;rfl;decide;exact h1l;(unfold maxLen;omega);omega;clear hA;rintro _ w ⟨oN,cN,rfl,hH2⟩ a hA;clear hH;have hH:=hH2 _ (by (repeat constructor));clear hH2)
    repeat' (first|(refine QT ?_;clear hA a;intro a hA)|refine CT ?_|fail)
    have hl1:(vs++[u]).length=vs.length+1:=by rw [List.length_append];rfl
    rw [←hl1] at hA hH
    exact ⟨i+1,⟨_,_,vs++[u],⟨hlt,by rw [all_next hx];exact RVs.append hvs (RVs.one_ hu)⟩,((hH.rm 0).rm 2).perm PMT,(hA.sub SBT)⟩,by omega⟩
  clear hA hH
  rintro a w ⟨o,k,vs,hvs,hH,hA⟩
  repeat' (first|(refine QT ?_;clear hA a;intro a hA)|refine CT ?_|fail)
  exact rt1 (.inl rfl) rfl hA rfl ⟨o,k,vs,rfl,hvs,hH⟩
theorem tN (w0 w:World) (H:List It) (bM:Nat) (g:Grs) (kd:Int) (s:ByteArray) (oO oS oF:Option Addr) (nO cO nF cF nS cS pc bv bj:Nat) (fuel xx:Int) (kk ph pb pe:Option Addr) (k:Int) (r:ByteArray) (hH:HS w0 noM (cb bM 136 (zJ g kd s oO nO cO++yQ oF nF cF g fuel oS nS cS pc bv bj xx kk ph pb pe)::H) w) :
    Ret Tryz.prog 86 #[.pointer (some (bat bM 0)),.int .i64 k,.string r] w (fun v w'=>∃b,HS w0 noM (cb bM 136 (zJ g kd s oO nO cO++yQ oF nF cF g fuel oS nS cS pc bv bj xx kk ph pb (some (bat b 0)))::cb b 29 (xD k empS r)::H) w'):=by
  (refine ENT (N:=13) Tryz.func86 Tryz.ntmps86 ?_;intro a hA)
  repeat' (first|(refine XT ?_;apply XE;(first|(apply zI (cs:=(xD k empS r).toArray);rfl;exact FLT;rfl));clear hA a;intro a hA)|(refine QT ?_;clear hA a;intro a hA)|(refine BT ?_;clear hA hH;rintro _ w ⟨bN,rfl,hH⟩ a hA)|(apply zO hA rfl rfl;apply zB (cs':=zJ g kd s oO nO cO++yQ oF nF cF g fuel oS nS cS pc bv bj xx kk ph pb (some (bat bN 0)));rfl;rfl;rfl;exact hH;(repeat constructor);clear hH;rintro _ w hH)|refine CT ?_|fail)
  exact rt0 (.inr rfl) rfl hA ⟨_,hH.perm PMT⟩
theorem pQ (w0 w:World) (H:List It) (c:Cx) (bM:Nat) (g:Grs) (fl:List FN) (kd:Int) (s:ByteArray) (oO oS oF:Option Addr) (nO cO cF nS cS pc bv bj:Nat) (fuel xx:Int) (kk ph pb pe:Option Addr) (f x:Vl) (u v:Value) (hH:HS w0 noM (cb bM 136 (zJ g kd s oO nO cO++yQ oF fl.length cF g fuel oS nS cS pc bv bj xx kk ph pb pe)::frz w0 c.K::H) w) (hu:RV c f u) (hv:RV c x v)
    (hP:PrR w0 oF fl g) (hK0:∀w,c.K w→Kp w0 noM w) (hnf:c.nf=fl.length) :
    Ret Tryz.prog 46 #[.pointer (some (bat bM 0)),u,v] w (fun r w'=>
      (∃cl p b m b2,asFn f=some cl∧r= .bool true∧(0≤cl.1∧cl.1<fl.length)∧FnR c cl.1 cl.2 p∧MapR c (mT cl x).vs m∧HS w0 noM (cb bM 136 (zJ g kd s oO nO cO++yQ oF fl.length cF g fuel oS nS cS p b b2 0 none none (some (sat oF (cl.1.toNat*12+1))) pe)::mp b m::mp b2 []::frz w0 c.K::H) w')∨
      (asFn f=none∧r= .bool false∧∃b,HS w0 noM (cb bM 136 (zJ g kd s oO nO cO++yQ oF fl.length cF g fuel oS nS cS pc bv bj xx kk ph pb (some (bat b 0)))::cb b 29 (xD 4 empS empS)::frz w0 c.K::H) w')):=by
  have hlen:=hP.len
  have hspF:Sp oF fl.length:=hP.fs.sp (sz:=12) (zF vF _) (by omega)
  (refine ENT (N:=43) Tryz.func46 Tryz.ntmps46 ?_;intro a hA)
  rcases hu.asFn with ⟨fi,l,p,hs,rfl,hf⟩| ⟨hs,hn⟩
  rotate_left
  · repeat' (first|(refine XT ?_;apply XE;(first|(apply yC;rfl;exact hn));clear hA a;intro a hA)|(refine QT ?_;clear hA a;intro a hA)|(refine zH hA rfl rfl (by decide) (zA rfl rfl rfl (tN w0 _ _ bM g kd s oO oS oF nO cO fl.length cF nS cS pc bv bj fuel xx kk ph pb pe 4 empS hH)) ?_;clear hA hH;rintro _ w ⟨b,hH⟩ a hA)|refine CT ?_|fail)
    exact rt1 (.inl rfl) rfl hA rfl (.inr ⟨hs,rfl,b,hH⟩)
  obtain ⟨o,k,vs,hfr,hp,hr2,hvs⟩:=id hf
  have hfl:fi.toNat<fl.length:=by omega
  repeat' (first|(refine XT ?_;apply XE;(first|(apply zL;rfl)|(apply zY;rfl));clear hA a;intro a hA)|(refine QT ?_;clear hA a;intro a hA)|(refine zH hA rfl rfl (by decide) (vZ hH) ?_;clear hA hH;rintro _ w ⟨bV,rfl,hH⟩ a hA)|(apply zO hA rfl rfl;apply wA;rfl;rfl;rfl;exact hH;(repeat constructor);clear hH;rintro _ w hH)|refine CT ?_|fail)
  have key:∃b1 b2,HS w0 noM (cb bM 136 (zJ g kd s oO nO cO++yQ oF fl.length cF g fuel oS nS cS pc bv bj xx kk ph pb pe)::mp b2 []::mp b1 (mset (mset [] 0 (vY 79 p)) 1 v)::frz w0 c.K::H) w∧Sl 43 [(25,.map (some b2)),(20,.map (some b1)),(24,.map (some b1)),(19,.pointer (some (bat p 0))),(18,.pointer (some (bat bM 0))),(7,.pointer (some (bat p 0))),(0,.pointer (some (bat bM 0)))] a:=⟨_,_,hH.perm PMT,(hA.sub SBT)⟩
  clear hA hH
  obtain ⟨b1,b2,hH,hA⟩:=key
  repeat' (first|(refine XT ?_;apply XE;(first|(apply zI (cs:=#[.pointer (some (bat p 0)),.map (some b1),.map (some b2),.int .i64 0,.pointer none,.pointer none]);rfl;exact FLT;rfl));clear hA a;intro a hA)|(refine QT ?_;clear hA a;intro a hA)|(apply zO hA rfl rfl;apply xO (vs:=[.pointer (some (bat p 0)),.map (some b1),.map (some b2),.int .i64 0,.pointer none,.pointer none]) (cs':=zJ g kd s oO nO cO++yQ oF fl.length cF g fuel oS nS cS p b1 b2 0 none none pb pe);rfl;rfl;exact hH;(repeat constructor);(repeat rfl);clear hH;rintro _ w hH)|refine CT ?_|fail)
  (refine zK [(0,1),(1,1),(2,1),(3,1),(4,1),(5,1),(6,1),(7,1),(8,1),(9,1),(10,1),(11,1),(12,1),(13,1)] [14] mixed (by decide +kernel) hH ?_;replace hH:=hH.drew)
  repeat' (first|(refine XT ?_;apply XE;(first|(apply zC;rfl;exact wG MEMT hp rfl)|(apply zD;rfl;rfl;omega;omega;exact hspF));clear hA a;intro a hA)|(refine QT ?_;clear hA a;intro a hA)|(apply zX hA rfl rfl rfl;apply zB (cs':=zJ g kd s oO nO cO++yQ oF fl.length cF g fuel oS nS cS p b1 b2 0 none none (some (sat oF (fi.toNat*12+1))) pe);rfl;rfl;rfl;exact hH;(repeat constructor);clear hH;rintro _ w hH)|refine CT ?_|fail)
  exact rt1 (.inl rfl) rfl hA rfl (.inl ⟨(fi,l),p,b1,_,b2,hs,rfl,⟨hfr.1,by rw [hnf] at hfr;omega⟩,hf,MapR_newA (cl:=(fi,l)) hf hv,hH.perm PMT⟩)
end
theorem sub_fa (g:Grs) (fuel:Int) (oS oF:Option Addr) (nS cS nF cF pc bv bj:Nat) (xx:Int) (kk ph pb pe:Option Addr) (kd:Int) (s:ByteArray) (oO:Option Addr) (nO cO:Nat) (i:Nat) (v:Value) (h:(yD ⟨pc,bv,bj,xx,kk,ph,[],[]⟩)[i]?=some v):(zJ g kd s oO nO cO++yQ oF nF cF g fuel oS nS cS pc bv bj xx kk ph pb pe)[12+i]?=some v:=by
  match i,h with
  |0,h=>exact h
  |1,h=>exact h
  |2,h=>exact h
  |3,h=>exact h
  |4,h=>exact h
  |5,h=>exact h
section
attribute [local irreducible] Code.wp wpList Calls Ex Op1 sat bat blk cb own Go.Fw.mp Go.Fw.mpO Go.Fw.mpI Go.Fw.mpE Go.Fw.itr HS Rd Ret wkD Hp Cl Cls Exit.then Exit.inBlock Exit.noGoto bodyPost Go.Fw.flat wk2 Go.Fw.all Go.Fw.owns wpOp
attribute [local irreducible] sk mpK sko mvO xI opM Go.Fw.mset Go.Fw.mv opK w63 frz obI RV wQ vR vT wT

theorem callA_spec (w0 w:World) (H:List It) (c:Cx) (bM:Nat) (g:Grs) (fl:List FN) (kd:Int) (s:ByteArray) (oO oS oF:Option Addr) (nO cO cF cS pc bv bj:Nat) (fuel xx:Int) (kk ph pb pe hd:Option Addr) (mm jm:List (Int × Value)) (fms:List AfM) (f x:Vl) (u v:Value) (hH:HS w0 noM (cb bM 136 (zJ g kd s oO nO cO++yQ oF fl.length cF g fuel oS fms.length cS pc bv bj xx kk ph pb pe)::frz w0 c.K::own 134 6 oS fms.length cS (flat yD fms)::H) w) (hu:RV c f u) (hv:RV c x v)
    (hP:PrR w0 oF fl g) (hK0:∀w,c.K w→Kp w0 noM w) (hnf:c.nf=fl.length) (hfl:fms.length≤1000000) (k0 x0 n0:Int) (xs0 ns0:Vec Int) (r0:Stp) (va0:Vec Atm) (ko:Option Addr) (kc:Nat) (kids:List AN) (ob:Option Addr) (jb:Nat) (hb0:∀w,c.K w→AtB w ob jb (.mk k0 x0 xs0 n0 ns0 r0 va0 ko kc kids)) (hk0:0<kids.length) :
    Ret Tryz.prog 114 #[.pointer (some (bat bM 0)),u,v,.pointer (some (sat ob jb)),.pointer hd] w (fun r w'=>
      (∃cl p b m b2 oS2 cS2,asFn f=some cl∧(0≤cl.1∧cl.1<fl.length)∧FnR c cl.1 cl.2 p∧MapR c (mT cl x).vs m∧HS w0 noM (cb bM 136 (zJ g kd s oO nO cO++yQ oF fl.length cF g fuel oS2 (fms++[(⟨pc,bv,bj,x0,some (sat ko (0*11)),hd,mm,jm⟩:AfM)]).length cS2 p b b2 0 none none (some (sat oF (cl.1.toNat*12+1))) pe)::own 134 6 oS2 (fms++[(⟨pc,bv,bj,x0,some (sat ko (0*11)),hd,mm,jm⟩:AfM)]).length cS2 (flat yD (fms++[⟨pc,bv,bj,x0,some (sat ko (0*11)),hd,mm,jm⟩]))::mp b m::mp b2 []::frz w0 c.K::H) w')∨
      (asFn f=none∧∃b,HS w0 noM (cb bM 136 (zJ g kd s oO nO cO++yQ oF fl.length cF g fuel oS fms.length cS pc bv bj xx kk ph pb (some (bat b 0)))::cb b 29 (xD 4 empS empS)::frz w0 c.K::own 134 6 oS fms.length cS (flat yD fms)::H) w')):=by
  have hspK:=pt_sp hb0 (hH.frz MEMT)
  (refine ENT (N:=42) Tryz.func114 Tryz.ntmps114 ?_;intro a hA)
  repeat' (first|(refine XT ?_;apply XE;(first|(apply zG (vs:=yD ⟨pc,bv,bj,xx,kk,ph,mm,jm⟩);rfl;rfl;exact rW MEMT (fun i v h=>(by rw [Nat.zero_add];exact sub_fa g fuel oS oF fms.length cS fl.length cF pc bv bj xx kk ph pb pe kd s oO nO cO i v h))));clear hA a;intro a hA)|(refine QT ?_;clear hA a;intro a hA)|(refine BT ?_;clear hA hH;rintro _ w ⟨bN,rfl,hH⟩ a hA)|(refine SAT (yD ⟨pc,bv,bj,xx,kk,ph,mm,jm⟩) hA hH ?_;clear hH;intro w hH)|refine CT ?_|fail)
  obtain ⟨b8,hb8⟩:∃x,x=bN:=⟨_,rfl⟩
  rw [←hb8] at hA hH
  clear hb8 bN
  have hST:HS w0 noM [frz w0 c.K] w:=hH.pick MEMT
  refine mH (qs [0,1,2,3,4,5,6,7,8,9,10] (.one 11 (.q 12 (.one 13 (.q 14 (.one 15 .nil)))))) (fun a w=>HS w0 noM (cb b8 134 (yD ⟨pc,bv,bj,x0,some (sat ko (0*11)),hd,mm,jm⟩)::cb bM 136 (zJ g kd s oO nO cO++yQ oF fl.length cF g fuel oS fms.length cS pc bv bj xx kk ph pb pe)::frz w0 c.K::own 134 6 oS fms.length cS (flat yD fms)::H) w∧Sl 42 [(10,.pointer (some (bat b8 0))),(0,.pointer (some (bat bM 0))),(1,u),(2,v)] a) mixed (by decide +kernel) hST ?_ ?_
  · clear hST
    replace hH:=hH.drew
    (repeat (apply tI hA rfl rfl rfl (by decide);(first|exact EXT|exact EXT2|(apply zC;rfl;exact tF MEMT hb0 rfl)|(apply zD;rfl;rfl;decide;omega;exact hspK));clear hA a;intro a hA))
    (apply tH hA rfl rfl rfl;apply zB (cs':=yD ⟨pc,bv,bj,x0,kk,ph,mm,jm⟩);rfl;rfl;rfl;exact hH;(repeat constructor);clear hH;rintro _ w hH;refine ⟨hH.pick (by exact MEMT),?_⟩)
    (repeat (apply tI hA rfl rfl rfl (by decide);(first|exact EXT|exact EXT2);clear hA a;intro a hA))
    (apply tH hA rfl rfl rfl;apply zB (cs':=yD ⟨pc,bv,bj,x0,some (sat ko (0*11)),ph,mm,jm⟩);rfl;rfl;rfl;exact hH;(repeat constructor);clear hH;rintro _ w hH;refine ⟨hH.pick (by exact MEMT),?_⟩)
    (repeat (apply tI hA rfl rfl rfl (by decide);(first|exact EXT|exact EXT2);clear hA a;intro a hA))
    (apply tH hA rfl rfl rfl;apply zB (cs':=yD ⟨pc,bv,bj,x0,some (sat ko (0*11)),hd,mm,jm⟩);rfl;rfl;rfl;exact hH;(repeat constructor);clear hH;rintro _ w hH;refine ⟨hH.pick (by exact MEMT),?_⟩)
    apply sK
    exact ⟨hH,(hA.sub SBT)⟩
  clear hA hH hST
  rintro a w ⟨hH,hA⟩
  repeat' (first|(refine QT ?_;clear hA a;intro a hA)|refine CT ?_|fail)
  (refine zH hA rfl rfl (by decide) (zA rfl rfl rfl (pQ w0 w (own 134 6 oS fms.length cS (flat yD fms)::cb b8 134 (yD ⟨pc,bv,bj,x0,some (sat ko (0*11)),hd,mm,jm⟩)::H) c bM g fl kd s oO oS oF nO cO cF fms.length cS pc bv bj fuel xx kk ph pb pe f x u v (hH.perm PMT) hu hv hP hK0 hnf)) ?_;clear hA hH)
  rintro _ w (⟨cl,p,b,m,b2,hs,rfl,hcr,hcf,hm,hH⟩| ⟨hs,rfl,b,hH⟩) a hA
  rotate_left
  · repeat' (first|(refine QT ?_;clear hA a;intro a hA)|refine CT ?_|fail)
    exact rt0 (.inr rfl) rfl hA (.inr ⟨hs,b,(hH.rm 4).perm PMT⟩)
  repeat' (first|(refine QT ?_;clear hA a;intro a hA)|refine CT ?_|fail)
  replace hH:=hH.perm (H':=cb bM 136 (zJ g kd s oO nO cO++yQ oF fl.length cF g fuel oS fms.length cS p b b2 0 none none (some (sat oF (cl.1.toNat*12+1))) pe)::cb b8 134 (yD ⟨pc,bv,bj,x0,some (sat ko (0*11)),hd,mm,jm⟩)::own 134 6 oS fms.length cS (flat yD fms)::mp b m::mp b2 []::frz w0 c.K::H) PMT
  have hST:HS w0 noM [_,_] w:=HS.left (H1:=[_,_]) hH
  (refine zK (H:=[_,_]) [(0,1),(1,1),(2,1),(3,1),(4,1),(5,1),(6,0),(7,0),(8,1),(9,1)] [10] mixed (by decide +kernel) (hST) ?_;replace hH:=hH.drew)
  clear hST
  repeat' (first|(refine XT ?_;apply XE;(first|(apply zG (vs:=yD ⟨pc,bv,bj,x0,some (sat ko (0*11)),hd,mm,jm⟩);rfl;rfl;exact zR MEMT));clear hA a;intro a hA)|(refine QT ?_;clear hA a;intro a hA)|fail)
  (apply yO hA rfl rfl rfl (by decide);apply zZ (xs:=yD ⟨pc,bv,bj,x0,some (sat ko (0*11)),hd,mm,jm⟩) (vs:=[.agg (yD ⟨pc,bv,bj,x0,some (sat ko (0*11)),hd,mm,jm⟩).toArray]);rfl;rfl;exact (Cats.cn (cs:=yD ⟨pc,bv,bj,x0,some (sat ko (0*11)),hd,mm,jm⟩) Cats.nil);rfl;rfl;rfl;exact hH;clear hA hH;rintro _ w ⟨oN,rfl,hH⟩;refine ⟨HS.left (H1:=[_,_]) hH.tail,?_⟩;intro a hA)
  (apply yO hA rfl rfl rfl (by decide);apply yX;rfl;rfl;exact hH;exact MEMT;exact (hH.own_rd (List.Mem.head _));exact rfl;rfl;decide;exact rfl;(unfold maxLen;omega);omega;clear hA;rintro _ w ⟨oN,cN,rfl,hH2⟩;clear hH;have hH:=hH2 _ (by (repeat constructor));clear hH2;refine ⟨HS.left (H1:=[_,_]) hH.tail,?_⟩;intro a hA)
  rw [fD] at hH
  repeat' (first|(refine QT ?_;clear hA a;intro a hA)|(apply zX hA rfl rfl rfl;apply zB (cs':=zJ g kd s oO nO cO++yQ oF fl.length cF g fuel oN (fms.length+1) cN p b b2 0 none none (some (sat oF (cl.1.toNat*12+1))) pe);rfl;rfl;rfl;exact hH;(repeat constructor);clear hH;rintro _ w hH)|refine CT ?_|fail)
  rw [←lenFa fms ⟨pc,bv,bj,x0,some (sat ko (0*11)),hd,mm,jm⟩] at hH
  refine rt0 (.inr rfl) rfl hA (.inl ⟨cl,p,b,m,b2,oN,cN,hs,hcr,hcf,hm,?_⟩)
  exact ((hH.rm 0).rm 1).perm PMT
end
theorem fE (pre:List AfM) (f:AfM):(flat yD (pre++[f])).take (pre.length*6)=flat yD pre:=by
  rw [←fD,List.take_append_of_le_length (Nat.le_of_eq (zF nI _).symm),List.take_of_length_le (Nat.le_of_eq (zF nI _))]
section
attribute [local irreducible] Code.wp wpList Calls Ex Op1 sat bat blk cb own Go.Fw.mp Go.Fw.mpO Go.Fw.mpI Go.Fw.mpE Go.Fw.itr HS Rd Ret wkD Hp Cl Cls Exit.then Exit.inBlock Exit.noGoto bodyPost Go.Fw.flat wk2 Go.Fw.all Go.Fw.owns wpOp
attribute [local irreducible] sk mpK sko mvO xI opM Go.Fw.mset Go.Fw.mv opK w63 frz obI RV wQ vR vT wT

theorem backA_spec (w0 w:World) (H:List It) (bM:Nat) (g:Grs) (kd:Int) (s:ByteArray) (oO oS oF:Option Addr) (nO cO nF cF cS pc bv bj:Nat) (fuel xx:Int) (kk ph pb pe:Option Addr) (pre:List AfM) (f0:AfM) (u:Value) (hH:HS w0 noM (cb bM 136 (zJ g kd s oO nO cO++yQ oF nF cF g fuel oS (pre.length+1) cS pc bv bj xx kk ph pb pe)::own 134 6 oS (pre.length+1) cS (flat yD (pre++[f0]))::mp f0.bv f0.m::H) w) (hpl:pre.length≤1000000) :
    Ret Tryz.prog 88 #[.pointer (some (bat bM 0)),u] w (fun r w'=>
      HS w0 noM (cb bM 136 (zJ g kd s oO nO cO++yQ oF nF cF g fuel oS pre.length cS f0.pc f0.bv f0.bj f0.x f0.kid f0.ph f0.kid pe)::own 134 6 oS pre.length cS (flat yD pre)::mp f0.bv (mset f0.m f0.x u)::H) w'):=by
  have hspS:=hH.own_sp (T:=134) (o:=oS) (by exact MEMT)
  have hlast:=yA nI (mX pre f0)
  have hown:=hH.own_le (T:=134) (o:=oS) (by exact MEMT)
  obtain ⟨pcf,bvf,bjf,xf,kf,phf,mf,jf⟩:=f0
  dsimp only at hH ⊢
  (refine ENT (N:=75) Tryz.func88 Tryz.ntmps88 ?_;intro a hA)
  repeat' (first|(refine QT ?_;clear hA a;intro a hA)|refine CT ?_|fail)
  (refine zK [(0,1),(1,1),(2,1),(3,1),(4,1),(5,1),(6,1),(7,1),(8,1),(9,1),(10,1),(11,1),(12,1),(13,1),(14,1)] [15] mixed (by decide +kernel) hH ?_;replace hH:=hH.drew)
  repeat' (first|(refine XT ?_;apply XE;(first|(apply sQ;rfl;rfl;omega)|(apply zE;rfl;rfl;omega;exact hspS)|(apply zG (vs:=yD ⟨pcf,bvf,bjf,xf,kf,phf,mf,jf⟩);rfl;rfl;exact lI (T:=134) (o:=oS) MEMT hlast));clear hA a;intro a hA)|(refine QT ?_;clear hA a;intro a hA)|(apply zX hA rfl rfl rfl;apply xO (vs:=yD ⟨pcf,bvf,bjf,xf,kf,phf,mf,jf⟩) (cs':=zJ g kd s oO nO cO++yQ oF nF cF g fuel oS (pre.length+1) cS pcf bvf bjf xf kf phf pb pe);rfl;rfl;exact hH;(repeat constructor);clear hH;rintro _ w hH)|refine CT ?_|fail)
  (refine zK [(0,1),(1,1),(2,1),(3,1),(4,1),(5,1),(6,1),(7,1),(8,1),(9,1),(10,1),(11,1),(12,1),(13,1)] [14] mixed (by decide +kernel) hH ?_;replace hH:=hH.drew)
  repeat' (first|(refine XT ?_;apply XE;(first|(apply sQ;rfl;rfl;omega)|(apply wY (k:=pre.length);rfl;rfl;rfl;omega));clear hA a;intro a hA)|(refine QT ?_;clear hA a;intro a hA)|(apply zX hA rfl rfl rfl;apply zB (cs':=zJ g kd s oO nO cO++yQ oF nF cF g fuel oS pre.length cS pcf bvf bjf xf kf phf pb pe);rfl;rfl;rfl;exact hH;(repeat constructor);clear hH;rintro _ w hH)|refine CT ?_|fail)
  replace hH:=HS_cut (T:=134) (sz:=6) (o:=oS) (cap:=cS) (k:=pre.length) (n:=pre.length+1) hH (Nat.le_succ _) (by (repeat constructor))
  rw [fE] at hH
  (refine zK [(0,1),(1,1),(2,1),(3,1),(4,1),(5,1),(6,1),(7,1),(8,1),(9,1),(10,1)] [11] mixed (by decide +kernel) hH ?_;replace hH:=hH.drew)
  repeat' (first|(refine QT ?_;clear hA a;intro a hA)|(apply zX hA rfl rfl rfl;apply xT;rfl;rfl;rfl;exact hH;(repeat constructor);clear hH;rintro _ w hH)|refine CT ?_|fail)
  repeat' (first|(refine QT ?_;clear hA a;intro a hA)|(apply zO hA rfl rfl;apply zB (cs':=zJ g kd s oO nO cO++yQ oF nF cF g fuel oS pre.length cS pcf bvf bjf xf kf phf kf pe);rfl;rfl;rfl;exact hH;(repeat constructor);clear hH;rintro _ w hH)|refine CT ?_|fail)
  exact rt0 (.inr rfl) rfl hA hH
theorem backA0_spec (w0 w:World) (H:List It) (c:Cx) (bM:Nat) (g:Grs) (kd:Int) (s:ByteArray) (oO oS oF:Option Addr) (nO cO nF cF cS pc bv bj:Nat) (fuel xx:Int) (kk ph pb pe:Option Addr) (x:Vl) (u:Value) (hH:HS w0 noM (cb bM 136 (zJ g kd s oO nO cO++yQ oF nF cF g fuel oS 0 cS pc bv bj xx kk ph pb pe)::H) w)
    (hu:RV c x u) (hxs:RdV w0 yY g.xs) (hFI:FI w0) :
    Ret Tryz.prog 88 #[.pointer (some (bat bM 0)),u] w (fun r w'=>∃k res b,(∀wd,pZ g kd x wd []= .stop k res wd)∧
      HS w0 noM (cb bM 136 (zJ g kd s oO nO cO++yQ oF nF cF g fuel oS 0 cS pc bv bj xx kk ph pb (some (bat b 0)))::cb b 29 (xD k empS res)::H) w'):=by
  (refine ENT (N:=75) Tryz.func88 Tryz.ntmps88 ?_;intro a hA)
  repeat' (first|(refine QT ?_;clear hA a;intro a hA)|refine CT ?_|fail)
  (refine zH hA rfl rfl (by decide) (zA rfl rfl rfl (Text_spec w0 w _ c 136 bM g kd s _ oO nO cO x u hH hu hxs hFI)) ?_;clear hA hH;rintro _ w ⟨rfl,hH⟩ a hA)
  cases ht:wT g kd x with
  | none=>
    rw [ht] at hA
    unfold txV at hA
    repeat' (first|(refine QT ?_;clear hA a;intro a hA)|(refine zH hA rfl rfl (by decide) (zA rfl rfl rfl (tN w0 _ _ bM g kd s oO oS oF nO cO nF cF 0 cS pc bv bj fuel xx kk ph pb pe 4 empS hH)) ?_;clear hA hH;rintro _ w ⟨b,hH⟩ a hA)|refine CT ?_|fail)
    exact rt0 (.inl rfl) rfl hA ⟨4,empS,b,fun wd=>by unfold pZ;rw [ht];rfl,hH⟩
  | some t=>
    rw [ht] at hA
    unfold txV at hA
    repeat' (first|(refine QT ?_;clear hA a;intro a hA)|(refine zH hA rfl rfl (by decide) (zA rfl rfl rfl (tN w0 _ _ bM g kd s oO oS oF nO cO nF cF 0 cS pc bv bj fuel xx kk ph pb pe 1 t hH)) ?_;clear hA hH;rintro _ w ⟨b,hH⟩ a hA)|refine CT ?_|fail)
    exact rt0 (.inl rfl) rfl hA ⟨1,t,b,fun wd=>by unfold pZ;rw [ht],hH⟩
theorem raiseA_spec (w0 w:World) (H:List It) (c:Cx) (bM:Nat) (g:Grs) (fl:List FN) (kd:Int) (s:ByteArray) (oO oS oF:Option Addr) (nO cO cF cS pc bv bj:Nat) (fuel xx:Int) (kk ph pb pe:Option Addr) (fms:List AfM) (sk:List Af) (wd:Wd) (n:Int) (hH:HS w0 noM (cb bM 136 (zJ g kd s oO nO cO++yQ oF fl.length cF g fuel oS fms.length cS pc bv bj xx kk ph pb pe)::frz w0 c.K::own 134 6 oS fms.length cS (flat yD fms)::all (fms.map mpA)::H) w) (hF:FasR c sk fms) (hn:iok n)
    (hP:PrR w0 oF fl g) (hK0:∀w,c.K w→Kp w0 noM w) (hnf:c.nf=fl.length) (hfl:fms.length≤1000000) (hxs:∀s∈g.xs.l,s.size≤4611686018427387904) :
    Ret Tryz.prog 91 #[.pointer (some (bat bM 0)),.int .i64 n] w (fun r w'=>
      (∃sk' cl p b b2 m oS cS fms',uZ fl g n wd sk= .go ⟨wd,sk',mT cl (.num n),tM fl cl.1⟩∧(0≤cl.1∧cl.1<fl.length)∧FnR c cl.1 cl.2 p∧MapR c (mT cl (.num n)).vs m∧FasR c sk' fms'∧HS w0 noM (cb bM 136 (zJ g kd s oO nO cO++yQ oF fl.length cF g fuel oS fms'.length cS p b b2 0 none none (some (sat oF (cl.1.toNat*12+1))) pe)::own 134 6 oS fms'.length cS (flat yD fms')::all (fms'.map mpA)::mp b m::mp b2 []::frz w0 c.K::H) w')∨
      (∃k res oS nS cS b,uZ fl g n wd sk= .stop k res wd∧HS w0 noM (cb bM 136 (zJ g kd s oO nO cO++yQ oF fl.length cF g fuel oS nS cS pc bv bj xx kk ph pb (some (bat b 0)))::cb b 29 (xD k empS res)::frz w0 c.K::H) w')):=by
  have hxR:=hP.xs
  have hxl:=hxR.le
  have hspX:Sp g.xs.o g.xs.l.length:=hxR.1.sp (sz:=1) (zF wZ _) (by omega)
  (refine ENT (N:=84) Tryz.func91 Tryz.ntmps91 ?_;intro a hA)
  repeat' (first|(refine GT ?_ ?_<;>intro hg<;>clear hA a<;>intro a hA<;>(first|exact FA|replace hg:=dTr hg|replace hg:=dFa hg|skip))|(refine QT ?_;clear hA a;intro a hA)|(refine zH hA rfl rfl (by decide) (zA rfl rfl rfl (tN w0 _ _ bM g kd s oO oS oF nO cO fl.length cF fms.length cS pc bv bj fuel xx kk ph pb pe 4 empS hH)) ?_;clear hA hH;rintro _ w ⟨b,hH⟩ a hA)|refine CT ?_|(refine DT ?_ ?_<;>intro hc<;>try (exfalso;omega))|fail)
  · exact rt0 (.inl rfl) rfl hA (.inr ⟨4,empS,_,_,_,b,by unfold uZ;rw [if_pos (.inl (by assumption))];rfl,((hH.rm 3).rm 3).perm PMT⟩)
  · exact rt0 (.inl rfl) rfl hA (.inr ⟨4,empS,_,_,_,b,by unfold uZ;rw [if_pos (.inr (by assumption))];rfl,((hH.rm 3).rm 3).perm PMT⟩)
  have hn0:¬(n<0∨(g.xs.l.length:Int)≤n):=by omega
  refine yK (S:=List Af) (fun sk' a w=>∃fms oS cS,(FasR c sk' fms∧uW sk=uW sk'∧fms.length≤1000000)∧HS w0 noM (cb bM 136 (zJ g kd s oO nO cO++yQ oF fl.length cF g fuel oS fms.length cS pc bv bj xx kk ph pb pe)::frz w0 c.K::own 134 6 oS fms.length cS (flat yD fms)::all (fms.map mpA)::H) w∧Sl 84 [(0,.pointer (some (bat bM 0))),(1,.int .i64 n)] a) (fun sk'=>sk'.length)
    (fun a w=>∃oS nS cS,uW sk=none∧HS w0 noM (cb bM 136 (zJ g kd s oO nO cO++yQ oF fl.length cF g fuel oS nS cS pc bv bj xx kk ph pb pe)::frz w0 c.K::H) w∧Sl 84 [(0,.pointer (some (bat bM 0))),(1,.int .i64 n)] a) sk ⟨fms,oS,cS,⟨hF,rfl,hfl⟩,hH,(hA.sub SBT)⟩ ?_ ?_
  · clear hA hH hF hfl
    rintro sk' a w ⟨fms,oS,cS,⟨hF,hr,hfl⟩,hH,hA⟩
    cases sk' with
    | nil=>
      obtain rfl:fms=[]:=hF
      repeat' (first|(refine QT ?_;clear hA a;intro a hA)|refine CT ?_|fail)
      exact ⟨_,_,_,hr,((hH.rm 2).rm 2),(hA.sub SBT)⟩
    | cons f r=>
      obtain ⟨pre,x,rfl,hx,hF⟩:=hF
      obtain ⟨pcf,bvf,bjf,xf,kf,phf,mf,jf⟩:=x
      rw [lenFa] at hH hfl
      have hspS:=hH.own_sp (T:=134) (o:=oS) (by exact MEMT)
      have hlast:=yA nI (mX pre ⟨pcf,bvf,bjf,xf,kf,phf,mf,jf⟩)
      have hown:=hH.own_le (T:=134) (o:=oS) (by exact MEMT)
      repeat' (first|(refine QT ?_;clear hA a;intro a hA)|refine CT ?_|(refine DT ?_ ?_<;>intro hc<;>try (exfalso;omega))|fail)
      (refine zK [(0,1),(1,1),(2,1),(3,1),(4,1),(5,1),(6,1),(7,1),(8,1),(9,1),(10,1),(11,1),(12,0)] [13] mixed (by decide +kernel) hH ?_;replace hH:=hH.drew)
      repeat' (first|(refine XT ?_;apply XE;(first|(apply sQ;rfl;rfl;omega)|(apply zE;rfl;rfl;omega;exact hspS)|(apply zG (vs:=yD ⟨pcf,bvf,bjf,xf,kf,phf,mf,jf⟩);rfl;rfl;exact lI (T:=134) (o:=oS) MEMT hlast));clear hA a;intro a hA)|(refine QT ?_;clear hA a;intro a hA)|fail)
      (apply yO hA rfl rfl rfl (by decide);apply wD;exact hH;clear hA hH;rintro _ w ⟨bN,rfl,hH⟩;refine ⟨hH.tail,?_⟩;intro a hA)
      repeat' (first|(refine QT ?_;clear hA a;intro a hA)|(apply zX hA rfl rfl rfl;apply yP (vs:=yD ⟨pcf,bvf,bjf,xf,kf,phf,mf,jf⟩);rfl;rfl;exact hH;(repeat constructor);(repeat rfl);clear hH;rintro _ w hH)|refine CT ?_|fail)
      replace hA:Sl 84 [(0,.pointer (some (bat bM 0))),(1,.int .i64 n),(4,.pointer (some (bat bN 0)))] a:=(hA.sub SBT)
      (refine zK [(0,1),(1,1),(2,1),(3,1),(4,1),(5,1),(6,1),(7,1),(8,1),(9,1),(10,1),(11,1),(12,1),(13,1)] [14] mixed (by decide +kernel) hH ?_;replace hH:=hH.drew)
      repeat' (first|(refine XT ?_;apply XE;(first|(apply sQ;rfl;rfl;omega)|(apply wY (k:=pre.length);rfl;rfl;rfl;omega));clear hA a;intro a hA)|(refine QT ?_;clear hA a;intro a hA)|(apply zX hA rfl rfl rfl;apply zB (cs':=zJ g kd s oO nO cO++yQ oF fl.length cF g fuel oS pre.length cS pc bv bj xx kk ph pb pe);rfl;rfl;rfl;exact hH;(repeat constructor);clear hH;rintro _ w hH)|refine CT ?_|fail)
      replace hH:=HS_cut (T:=134) (sz:=6) (o:=oS) (cap:=cS) (k:=pre.length) (n:=pre.length+1) hH (Nat.le_succ _) (by (repeat constructor))
      rw [fE] at hH
      replace hA:Sl 84 [(0,.pointer (some (bat bM 0))),(1,.int .i64 n),(4,.pointer (some (bat bN 0))),(5,.pointer phf),(54,.pointer phf)] a:=(hA.sub SBT)
      cases hfh:f.h with
      | none=>
        obtain rfl:phf=none:=by have h1:=hx.h;rw [hfh] at h1;exact h1
        repeat' (first|(refine XT ?_;apply XE;(first|(apply fH;rfl;rfl));clear hA a;intro a hA)|(refine QT ?_;clear hA a;intro a hA)|refine CT ?_|fail)
        exact ⟨r,⟨pre,_,_,⟨hF,by rw [hr,uW,hfh],by omega⟩,((mpA_pop ((hH.rm 0).perm (H':=all ((pre++[(⟨pcf,bvf,bjf,xf,kf,none,mf,jf⟩:AfM)]).map mpA)::cb bM 136 (zJ g kd s oO nO cO++yQ oF fl.length cF g fuel oS pre.length cS pc bv bj xx kk ph pb pe)::frz w0 c.K::own 134 6 oS pre.length cS (flat yD pre)::H) PMT)).tail.tail).perm PMT,(hA.sub SBT)⟩,by rw [List.length_cons];omega⟩
      | some cl=>
        obtain ⟨p,rfl,hcl⟩:∃p,phf=some (bat p 0)∧FnR c cl.1 cl.2 p:=by have h1:=hx.h;rw [hfh] at h1;exact h1
        have e9:(pre++[(⟨pcf,bvf,bjf,xf,kf,some (bat p 0),mf,jf⟩:AfM)]).map mpA=(pre++[(⟨pcf,bvf,bjf,xf,kf,none,mf,jf⟩:AfM)]).map mpA:=by rw [List.map_append,List.map_append];rfl
        rw [e9] at hH
        repeat' (first|(refine XT ?_;apply XE;(first|(apply fG;rfl;rfl));clear hA a;intro a hA)|(refine QT ?_;clear hA a;intro a hA)|(apply zO hA rfl rfl;apply zB (cs':=yD ⟨pcf,bvf,bjf,xf,kf,none,mf,jf⟩);rfl;rfl;rfl;exact hH;(repeat constructor);clear hH;rintro _ w hH)|refine CT ?_|fail)
        have hST:HS w0 noM [cb bM 136 (zJ g kd s oO nO cO++yQ oF fl.length cF g fuel oS pre.length cS pc bv bj xx kk ph pb pe),cb bN 134 (yD ⟨pcf,bvf,bjf,xf,kf,none,mf,jf⟩)] w:=HS.left (H1:=[_,_]) (H2:=frz w0 c.K::own 134 6 oS pre.length cS (flat yD pre)::all ((pre++[(⟨pcf,bvf,bjf,xf,kf,none,mf,jf⟩:AfM)]).map mpA)::H) (hH.perm PMT)
        replace hH:=hH.perm (H':=cb bM 136 (zJ g kd s oO nO cO++yQ oF fl.length cF g fuel oS pre.length cS pc bv bj xx kk ph pb pe)::cb bN 134 (yD ⟨pcf,bvf,bjf,xf,kf,none,mf,jf⟩)::own 134 6 oS pre.length cS (flat yD pre)::frz w0 c.K::all ((pre++[(⟨pcf,bvf,bjf,xf,kf,none,mf,jf⟩:AfM)]).map mpA)::H) PMT
        obtain ⟨b8,hb8⟩:∃x,x=bN:=⟨_,rfl⟩
        rw [←hb8] at hA hH hST
        clear hb8 bN
        (refine zK (H:=[_,_]) [(0,1),(1,1),(2,1),(3,1),(4,1),(5,1),(6,0),(7,0),(8,1),(9,1)] [10] mixed (by decide +kernel) (hST) ?_;replace hH:=hH.drew)
        clear hST
        repeat' (first|(refine XT ?_;apply XE;(first|(apply zG (vs:=yD ⟨pcf,bvf,bjf,xf,kf,none,mf,jf⟩);rfl;rfl;exact zR MEMT));clear hA a;intro a hA)|(refine QT ?_;clear hA a;intro a hA)|fail)
        (apply yO hA rfl rfl rfl (by decide);apply zZ (xs:=yD ⟨pcf,bvf,bjf,xf,kf,none,mf,jf⟩) (vs:=[.agg (yD ⟨pcf,bvf,bjf,xf,kf,none,mf,jf⟩).toArray]);rfl;rfl;exact (Cats.cn (cs:=yD ⟨pcf,bvf,bjf,xf,kf,none,mf,jf⟩) Cats.nil);rfl;rfl;rfl;exact hH;clear hA hH;rintro _ w ⟨oN,rfl,hH⟩;refine ⟨HS.left (H1:=[_,_]) hH.tail,?_⟩;intro a hA)
        (apply yO hA rfl rfl rfl (by decide);apply yX;rfl;rfl;exact hH;exact MEMT;exact (hH.own_rd (List.Mem.head _));exact rfl;rfl;decide;exact rfl;(unfold maxLen;omega);omega;clear hA;rintro _ w ⟨oN,cN,rfl,hH2⟩;clear hH;have hH:=hH2 _ (by (repeat constructor));clear hH2;refine ⟨HS.left (H1:=[_,_]) hH.tail,?_⟩;intro a hA)
        rw [fD] at hH
        repeat' (first|(refine XT ?_;apply XE;(first|(apply zY;rfl));clear hA a;intro a hA)|(refine QT ?_;clear hA a;intro a hA)|(apply zX hA rfl rfl rfl;apply zB (cs':=zJ g kd s oO nO cO++yQ oF fl.length cF g fuel oN (pre.length+1) cN pc bv bj xx kk ph pb pe);rfl;rfl;rfl;exact hH;(repeat constructor);clear hH;rintro _ w hH)|refine CT ?_|fail)
        replace hH:=(((hH.rm 0).rm 1).perm (H':=cb bM 136 (zJ g kd s oO nO cO++yQ oF fl.length cF g fuel oN (pre.length+1) cN pc bv bj xx kk ph pb pe)::frz w0 c.K::own 134 6 oN (pre.length+1) cN (flat yD (pre++[⟨pcf,bvf,bjf,xf,kf,none,mf,jf⟩]))::all ((pre++[(⟨pcf,bvf,bjf,xf,kf,none,mf,jf⟩:AfM)]).map mpA)::H) PMT)
        (refine zH hA rfl rfl (by decide) (zA rfl rfl rfl (pQ w0 w _ c bM g fl kd s oO oN oF nO cO cF (pre.length+1) cN pc bv bj fuel xx kk ph pb pe (.fn cl.1 cl.2) (.num n) _ _ hH hcl.rv (RV_num hn) hP hK0 hnf)) ?_;clear hA hH)
        rintro _ w (⟨cl',p',b',m',b2,hs,rfl,hcr,hcf,hm,hH⟩| ⟨hs,rfl,b,hH⟩) a hA
        rotate_left
        · cases hs
        cases hs
        repeat' (first|(refine QT ?_;clear hA a;intro a hA)|refine CT ?_|fail)
        refine rt0 (.inl rfl) rfl hA (.inl ⟨{f with h:=none}::r,cl,p',b',b2,m',oN,cN,pre++[⟨pcf,bvf,bjf,xf,kf,none,mf,jf⟩],?_,hcr,hcf,hm,⟨pre,⟨pcf,bvf,bjf,xf,kf,none,mf,jf⟩,rfl,⟨hx.fn,hx.vs,hx.js,hx.x,hx.kid,rfl⟩,hF⟩,?_⟩)
        · unfold uZ
          rw [if_neg hn0,hr,uW,hfh]
        · rw [lenFa]
          exact hH.perm PMT
  clear hA hH
  rintro a w ⟨oS,nS,cS,hr,hH,hA⟩
  have hsz:=hxs (g.xs.l.getD n.toNat default) (xN (show n.toNat<g.xs.l.length by omega))
  repeat' (first|(refine XT ?_;apply XE;(first|(apply zD;rfl;rfl;omega;omega;exact hspX)|(apply zC;rfl;refine xP hxR.1 id (tU ?_);omega)|(apply aR;rfl;rfl;have h6:raiseB.size=6:=rfl;show raiseB.size+_≤_;omega));clear hA a;intro a hA)|(refine QT ?_;clear hA a;intro a hA)|(refine zH hA rfl rfl (by decide) (zA rfl rfl rfl (tN w0 _ _ bM g kd s oO oS oF nO cO fl.length cF nS cS pc bv bj fuel xx kk ph pb pe 1 (raiseB++g.xs.l.getD n.toNat default) hH)) ?_;clear hA hH;rintro _ w ⟨b,hH⟩ a hA)|refine CT ?_|fail)
  exact rt0 (.inr rfl) rfl hA (.inr ⟨1,_,oS,nS,cS,b,by unfold uZ;rw [if_neg hn0,hr],hH⟩)
end
def AMSt (w0:World) (c:Cx) (bM:Nat) (g:Grs) (fl:List FN) (oF:Option Addr) (cF:Nat) (kd fuel:Int) (H:List It) (m:Am) (w:World):Prop:=
  ∃ oO cO oS cS pc bv bj xx kk mm jm fms sx ph pb,
    HS w0 noM (cb bM 136 (zJ g kd m.wd.inp oO m.wd.out.length cO++yQ oF fl.length cF g fuel oS fms.length cS pc bv bj xx kk ph pb none)::own 5 1 oO m.wd.out.length cO (flat zV m.wd.out)::frz w0 c.K::all (sx.map obI)::own 134 6 oS fms.length cS (flat yD fms)::all (fms.map mpA)::mp bv mm::mp bj jm::H) w∧
    FnR c m.fm.c.1 m.fm.c.2 pc∧MapR c m.fm.vs mm∧JmR c m.fm.js jm∧FasR c m.sk fms∧StR c sx m.wd.st∧PtN c m.b pb
def AMEnd (w0:World) (bM:Nat) (g:Grs) (fl:List FN) (oF:Option Addr) (cF:Nat) (kd fuel:Int) (H:List It) (k:Int) (r:ByteArray) (wd:Wd) (w:World):Prop:=
  ∃ oO cO oS nS cS pc bv bj xx kk ph pb b,
    HS w0 noM (cb bM 136 (zJ g kd wd.inp oO wd.out.length cO++yQ oF fl.length cF g fuel oS nS cS pc bv bj xx kk ph pb (some (bat b 0)))::own 5 1 oO wd.out.length cO (flat zV wd.out)::cb b 29 (xD k empS r)::H) w
def ArW (w0:World) (c:Cx) (bM:Nat) (g:Grs) (fl:List FN) (oF:Option Addr) (cF:Nat) (kd fuel:Int) (H:List It) (r:Ar) (w:World):Prop:=
  match r with
  | .go m=>∃d,(c.le d∧d.bd≤c.bd+1)∧AMSt w0 d bM g fl oF cF kd fuel H m w
  | .stop k s wd=>AMEnd w0 bM g fl oF cF kd fuel H k s wd w
section
variable {w0 w:World} {c d:Cx} {bM:Nat} {g:Grs} {fl:List FN} {oF:Option Addr} {cF:Nat} {kd fuel:Int} {H:List It} {r:Ar}
theorem ArW.go {m:Am} (hr:r= .go m) (hle:c.le d) (hb:d.bd≤c.bd+1) (h:AMSt w0 d bM g fl oF cF kd fuel H m w):ArW w0 c bM g fl oF cF kd fuel H r w:=by rw [hr];exact ⟨d,⟨hle,hb⟩,h⟩
theorem ArW.stop {k:Int} {s:ByteArray} {wd:Wd} (hr:r= .stop k s wd) (h:AMEnd w0 bM g fl oF cF kd fuel H k s wd w):ArW w0 c bM g fl oF cF kd fuel H r w:=by rw [hr];exact h
theorem ArW.le (hle:c.le d) (hb:d.bd=c.bd) (h:ArW w0 d bM g fl oF cF kd fuel H r w):ArW w0 c bM g fl oF cF kd fuel H r w:=by
  cases r with
  | go m=>
    obtain ⟨e,⟨h1,h2⟩,h3⟩:=h
    exact ⟨e,⟨hle.trans h1,by omega⟩,h3⟩
  |stop k s wd=>exact h
end
section
attribute [local irreducible] Code.wp wpList Calls Ex Op1 sat bat blk cb own Go.Fw.mp Go.Fw.mpO Go.Fw.mpI Go.Fw.mpE Go.Fw.itr HS Rd Ret wkD Hp Cl Cls Exit.then Exit.inBlock Exit.noGoto bodyPost Go.Fw.flat wk2 Go.Fw.all Go.Fw.owns wpOp
attribute [local irreducible] sk mpK sko mvO xI opM Go.Fw.mset Go.Fw.mv opK w63 frz obI RV wQ vR vT wT

theorem ArW.drop1 {w0 w:World} {c:Cx} {bM:Nat} {g:Grs} {fl:List FN} {oF:Option Addr} {cF:Nat} {kd fuel:Int} {H:List It} {x:It} {r:Ar} (h:ArW w0 c bM g fl oF cF kd fuel (x::H) r w):ArW w0 c bM g fl oF cF kd fuel H r w:=by
  cases r with
  | go m=>
    obtain ⟨e,h1,oO,cO,oS,cS,pc,bv,bj,xx,kk,mm,jm,fms,sx,ph,pb,h2,h3⟩:=h
    exact ⟨e,h1,oO,cO,oS,cS,pc,bv,bj,xx,kk,mm,jm,fms,sx,ph,pb,h2.rm 8,h3⟩
  | stop k s wd=>
    obtain ⟨oO,cO,oS,nS,cS,pc,bv,bj,xx,kk,ph,pb,b,h2⟩:=h
    exact ⟨oO,cO,oS,nS,cS,pc,bv,bj,xx,kk,ph,pb,b,h2.rm 3⟩
theorem AMEnd.drop1 {w0 w:World} {bM:Nat} {g:Grs} {fl:List FN} {oF:Option Addr} {cF:Nat} {kd fuel:Int} {H:List It} {x:It} {k:Int} {s:ByteArray} {wd:Wd} (h:AMEnd w0 bM g fl oF cF kd fuel (x::H) k s wd w):AMEnd w0 bM g fl oF cF kd fuel H k s wd w:=by
  obtain ⟨oO,cO,oS,nS,cS,pc,bv,bj,xx,kk,ph,pb,b,h2⟩:=h
  exact ⟨oO,cO,oS,nS,cS,pc,bv,bj,xx,kk,ph,pb,b,h2.rm 3⟩
theorem lR {w0 w:World} {H:List It} {c:Cx} {bM:Nat} {g:Grs} {fl:List FN} {oF:Option Addr} {cF:Nat} {kd fuel:Int} {m:Am} {oO oS ph kk pb:Option Addr} {cO cS pc bv bj:Nat} {xx:Int} {mm jm:List (Int × Value)} {fms:List AfM} {sx:Sx} (hH:HS w0 noM (cb bM 136 (zJ g kd m.wd.inp oO m.wd.out.length cO++yQ oF fl.length cF g fuel oS fms.length cS pc bv bj xx kk ph pb none)::own 5 1 oO m.wd.out.length cO (flat zV m.wd.out)::frz w0 c.K::all (sx.map obI)::own 134 6 oS fms.length cS (flat yD fms)::all (fms.map mpA)::mp bv mm::mp bj jm::H) w) (hpc:FnR c m.fm.c.1 m.fm.c.2 pc) (hmm:MapR c m.fm.vs mm) (hjm:JmR c m.fm.js jm) (hfs:FasR c m.sk fms) (hst:StR c sx m.wd.st) (k:Int) (r:ByteArray):Ret Tryz.prog 86 #[.pointer (some (bat bM 0)),.int .i64 k,.string r] w (fun v w'=>AMEnd w0 bM g fl oF cF kd fuel H k r m.wd w'):=by
  refine Ret.mono (tN w0 w _ bM g kd m.wd.inp oO oS oF m.wd.out.length cO fl.length cF fms.length cS pc bv bj fuel xx kk ph pb none k r hH) ?_
  rintro v w' ⟨b,h⟩
  exact ⟨oO,cO,oS,fms.length,cS,pc,bv,bj,xx,kk,ph,pb,b,(((((((h.rm 3).rm 3).rm 3).rm 3).rm 3).rm 3)).perm PMT⟩
theorem raiseSA {w0 w:World} {H:List It} {c:Cx} {bM:Nat} {g:Grs} {fl:List FN} {oF:Option Addr} {cF:Nat} {kd fuel:Int} {m:Am} {oO oS ph kk pb:Option Addr} {cO cS pc bv bj:Nat} {xx:Int} {mm jm:List (Int × Value)} {fms:List AfM} {sx:Sx} (hH:HS w0 noM (cb bM 136 (zJ g kd m.wd.inp oO m.wd.out.length cO++yQ oF fl.length cF g fuel oS fms.length cS pc bv bj xx kk ph pb none)::own 5 1 oO m.wd.out.length cO (flat zV m.wd.out)::frz w0 c.K::all (sx.map obI)::own 134 6 oS fms.length cS (flat yD fms)::all (fms.map mpA)::mp bv mm::mp bj jm::H) w) (hpc:FnR c m.fm.c.1 m.fm.c.2 pc) (hmm:MapR c m.fm.vs mm) (hjm:JmR c m.fm.js jm) (hfs:FasR c m.sk fms) (hst:StR c sx m.wd.st) {c0:Cx} {n:Int} (h0:c0.le c) (hb0:c.bd≤c0.bd+1) (hn:iok n) (hP:PrR w0 oF fl g) (hK0:∀w,c.K w→Kp w0 noM w) (hnf:c.nf=fl.length) (hfl:m.sk.length≤1000000) (hxs:∀s∈g.xs.l,s.size≤4611686018427387904) :
    Ret Tryz.prog 91 #[.pointer (some (bat bM 0)),.int .i64 n] w (fun r w'=>ArW w0 c0 bM g fl oF cF kd fuel H (uZ fl g n m.wd m.sk) w'):=by
  have hl:=hfs.len
  refine Ret.mono (raiseA_spec w0 w (own 5 1 oO m.wd.out.length cO (flat zV m.wd.out)::all (sx.map obI)::mp bv mm::mp bj jm::H) c bM g fl kd m.wd.inp oO oS oF m.wd.out.length cO cF cS pc bv bj fuel xx kk ph pb none fms m.sk m.wd n (hH.perm PMT) hfs hn hP hK0 hnf (by omega) hxs) ?_
  rintro v w' (⟨sk',cl,p,b,b2,m2,oS2,cS2,fms2,hr,hcr,hcf,hm,hf,h⟩| ⟨k,res,oS2,nS2,cS2,b,hr,h⟩)
  · refine ArW.go hr h0 hb0 ⟨oO,cO,oS2,cS2,p,b,b2,0,none,m2,[],fms2,sx,none,_,?_,hcf,hm,JmR.nil _,hf,hst,jW hP hK0 hcr.1 hcr.2⟩
    exact (((h.rm 8).rm 8).perm PMT)
  · refine ArW.stop hr ⟨oO,cO,oS2,nS2,cS2,pc,bv,bj,xx,kk,ph,pb,b,?_⟩
    exact ((((h.rm 2).rm 3).rm 3).rm 3).perm PMT
theorem enterSA {w0 w:World} {H:List It} {c:Cx} {bM:Nat} {g:Grs} {fl:List FN} {oF:Option Addr} {cF:Nat} {kd fuel:Int} {m:Am} {oO oS ph kk pb:Option Addr} {cO cS pc bv bj:Nat} {xx:Int} {mm jm:List (Int × Value)} {fms:List AfM} {sx:Sx} (hH:HS w0 noM (cb bM 136 (zJ g kd m.wd.inp oO m.wd.out.length cO++yQ oF fl.length cF g fuel oS fms.length cS pc bv bj xx kk ph pb none)::own 5 1 oO m.wd.out.length cO (flat zV m.wd.out)::frz w0 c.K::all (sx.map obI)::own 134 6 oS fms.length cS (flat yD fms)::all (fms.map mpA)::mp bv mm::mp bj jm::H) w) (hpc:FnR c m.fm.c.1 m.fm.c.2 pc) (hmm:MapR c m.fm.vs mm) (hjm:JmR c m.fm.js jm) (hfs:FasR c m.sk fms) (hst:StR c sx m.wd.st) {f x:Vl} {u v:Value} (hu:RV c f u) (hv:RV c x v) (hP:PrR w0 oF fl g) (hK0:∀w,c.K w→Kp w0 noM w) (hnf:c.nf=fl.length) :
    Ret Tryz.prog 46 #[.pointer (some (bat bM 0)),u,v] w (fun r w'=>ArW w0 c bM g fl oF cF kd fuel H (qS fl f x m.wd m.sk) w'):=by
  refine Ret.mono (pQ w0 w (own 5 1 oO m.wd.out.length cO (flat zV m.wd.out)::all (sx.map obI)::own 134 6 oS fms.length cS (flat yD fms)::all (fms.map mpA)::mp bv mm::mp bj jm::H) c bM g fl kd m.wd.inp oO oS oF m.wd.out.length cO cF fms.length cS pc bv bj fuel xx kk ph pb none f x u v (hH.perm PMT) hu hv hP hK0 hnf) ?_
  rintro r w' (⟨cl,p,b,m2,b2,hs,_,hcr,hcf,hm,h2⟩| ⟨hs,_,b,h2⟩)
  · refine ArW.go (m:=⟨m.wd,m.sk,mT cl x,tM fl cl.1⟩) (by unfold qS;rw [hs]) c.le_refl (Nat.le_succ _) ⟨oO,cO,oS,cS,p,b,b2,0,none,m2,[],fms,sx,none,_,?_,hcf,hm,JmR.nil _,hfs,hst,jW hP hK0 hcr.1 hcr.2⟩
    exact ((h2.rm 8).rm 8).perm PMT
  · refine ArW.stop (by unfold qS;rw [hs];rfl) ⟨oO,cO,oS,fms.length,cS,pc,bv,bj,xx,kk,ph,pb,b,?_⟩
    exact ((((((h2.rm 2).rm 3).rm 3).rm 3).rm 3).rm 3).perm PMT
theorem callSA {w0 w:World} {H:List It} {c:Cx} {bM:Nat} {g:Grs} {fl:List FN} {oF:Option Addr} {cF:Nat} {kd fuel:Int} {m:Am} {oO oS ph kk pb:Option Addr} {cO cS pc bv bj:Nat} {xx:Int} {mm jm:List (Int × Value)} {fms:List AfM} {sx:Sx} (hH:HS w0 noM (cb bM 136 (zJ g kd m.wd.inp oO m.wd.out.length cO++yQ oF fl.length cF g fuel oS fms.length cS pc bv bj xx kk ph pb none)::own 5 1 oO m.wd.out.length cO (flat zV m.wd.out)::frz w0 c.K::all (sx.map obI)::own 134 6 oS fms.length cS (flat yD fms)::all (fms.map mpA)::mp bv mm::mp bj jm::H) w) (hpc:FnR c m.fm.c.1 m.fm.c.2 pc) (hmm:MapR c m.fm.vs mm) (hjm:JmR c m.fm.js jm) (hfs:FasR c m.sk fms) (hst:StR c sx m.wd.st) {f x:Vl} {u v:Value} {h:Option Clo} {hd:Option Addr} (hu:RV c f u) (hv:RV c x v) (hhd:hdR c h hd) (hP:PrR w0 oF fl g) (hK0:∀w,c.K w→Kp w0 noM w) (hnf:c.nf=fl.length) (hfl:m.sk.length≤1000000)
    (k0 x0 n0:Int) (xs0 ns0:Vec Int) (r0:Stp) (va0:Vec Atm) (ko:Option Addr) (kc:Nat) (kids:List AN) (ob:Option Addr) (jb:Nat) (hb0:∀w,c.K w→AtB w ob jb (.mk k0 x0 xs0 n0 ns0 r0 va0 ko kc kids)) (hk0:0<kids.length) :
    Ret Tryz.prog 114 #[.pointer (some (bat bM 0)),u,v,.pointer (some (sat ob jb)),.pointer hd] w (fun r w'=>ArW w0 c bM g fl oF cF kd fuel H (qK fl f x h m.wd m.sk m.fm (.mk k0 x0 xs0 n0 ns0 r0 va0 ko kc kids)) w'):=by
  have hl:=hfs.len
  refine Ret.mono (callA_spec w0 w (own 5 1 oO m.wd.out.length cO (flat zV m.wd.out)::all (sx.map obI)::all (fms.map mpA)::mp bv mm::mp bj jm::H) c bM g fl kd m.wd.inp oO oS oF m.wd.out.length cO cF cS pc bv bj fuel xx kk ph pb none hd mm jm fms f x u v (hH.perm PMT) hu hv hP hK0 hnf (by omega) k0 x0 n0 xs0 ns0 r0 va0 ko kc kids ob jb hb0 hk0) ?_
  rintro r w' (⟨cl,p,b,m2,b2,oS2,cS2,hs,hcr,hcf,hm,h2⟩| ⟨hs,b,h2⟩)
  · refine ArW.go (m:=⟨m.wd,{m.fm with x:=x0,kid:=tA (.mk k0 x0 xs0 n0 ns0 r0 va0 ko kc kids) 0,h:=h}::m.sk,mT cl x,tM fl cl.1⟩) (by unfold qK;rw [hs];rfl) c.le_refl (Nat.le_succ _) ⟨oO,cO,oS2,cS2,p,b,b2,0,none,m2,[],fms++[⟨pc,bv,bj,x0,some (sat ko (0*11)),hd,mm,jm⟩],sx,none,_,?_,hcf,hm,JmR.nil _,⟨fms,_,rfl,⟨hpc,hmm,hjm,rfl,pH ⟨ob,jb,rfl,hb0⟩ hk0,hhd⟩,hfs⟩,hst,jW hP hK0 hcr.1 hcr.2⟩
    have h3:=mpA_push (x:=⟨pc,bv,bj,x0,some (sat ko (0*11)),hd,mm,jm⟩) (((h2.up 7 rfl).up 9 rfl).up 9 rfl |>.perm (H':=mp bv mm::mp bj jm::all (fms.map mpA)::_) PMT)
    exact h3.perm PMT
  · refine ArW.stop (by unfold qK;rw [hs];rfl) ⟨oO,cO,oS,fms.length,cS,pc,bv,bj,xx,kk,ph,pb,b,?_⟩
    exact ((((((h2.rm 2).rm 2).rm 3).rm 3).rm 3).rm 3).perm PMT
theorem backSA {w0 w:World} {H:List It} {c:Cx} {bM:Nat} {g:Grs} {fl:List FN} {oF:Option Addr} {cF:Nat} {kd fuel:Int} {m:Am} {oO oS ph kk pb:Option Addr} {cO cS pc bv bj:Nat} {xx:Int} {mm jm:List (Int × Value)} {fms:List AfM} {sx:Sx} (hH:HS w0 noM (cb bM 136 (zJ g kd m.wd.inp oO m.wd.out.length cO++yQ oF fl.length cF g fuel oS fms.length cS pc bv bj xx kk ph pb none)::own 5 1 oO m.wd.out.length cO (flat zV m.wd.out)::frz w0 c.K::all (sx.map obI)::own 134 6 oS fms.length cS (flat yD fms)::all (fms.map mpA)::mp bv mm::mp bj jm::H) w) (hpc:FnR c m.fm.c.1 m.fm.c.2 pc) (hmm:MapR c m.fm.vs mm) (hjm:JmR c m.fm.js jm) (hfs:FasR c m.sk fms) (hst:StR c sx m.wd.st) {x:Vl} {u:Value} (hu:RV c x u) (hxs:RdV w0 yY g.xs) (hFI:FI w0) (hfl:m.sk.length≤1000000) :
    Ret Tryz.prog 88 #[.pointer (some (bat bM 0)),u] w (fun r w'=>ArW w0 c bM g fl oF cF kd fuel H (pZ g kd x m.wd m.sk) w'):=by
  have hl:=hfs.len
  obtain ⟨wd,sk,fm,mb⟩:=m
  dsimp only at *
  cases sk with
  | nil=>
    obtain rfl:fms=[]:=hfs
    refine Ret.mono (backA0_spec w0 w _ c bM g kd wd.inp oO oS oF wd.out.length cO fl.length cF cS pc bv bj fuel xx kk ph pb none x u hH hu hxs hFI) ?_
    rintro r w' ⟨k,res,b,hr,h2⟩
    refine ArW.stop (hr wd) ⟨oO,cO,oS,0,cS,pc,bv,bj,xx,kk,ph,pb,b,?_⟩
    exact ((((((h2.rm 3).rm 3).rm 3).rm 3).rm 3).rm 3).perm PMT
  | cons f r=>
    obtain ⟨pre,y,rfl,hy,hF⟩:=hfs
    rw [lenFa] at hH
    have h2:=mpA_pop (hH.up 5 rfl)
    refine Ret.mono (backA_spec w0 w (mp y.bj y.jm::own 5 1 oO wd.out.length cO (flat zV wd.out)::frz w0 c.K::all (sx.map obI)::all (pre.map mpA)::mp bv mm::mp bj jm::H) bM g kd wd.inp oO oS oF wd.out.length cO fl.length cF cS pc bv bj fuel xx kk ph pb none pre y u (h2.perm PMT) (by simp only [List.length_cons] at hfl;have:=hF.len;omega)) ?_
    rintro v w' h3
    refine ArW.go (m:=⟨wd,r,{f with vs:=tP f.vs f.x x},f.kid⟩) rfl c.le_refl (Nat.le_succ _) ⟨oO,cO,oS,cS,y.pc,y.bv,y.bj,y.x,y.kid,mset y.m f.x u,y.jm,pre,sx,y.ph,y.kid,?_,hy.fn,hy.vs.set _ hu,hy.js,hF,hst,hy.kid⟩
    rw [hy.x] at h3
    rw [hy.x]
    exact ((h3.rm 8).rm 8).perm PMT
end
theorem want2A {g:Grs} {caps:List Int} {mine:Int} {r:Stp} (h:FormP g caps mine r) (hk:r.k=3∨r.k=13∨r.k=14):r.a.l.length=2:=by
  have hw:=h.want
  unfold vI at hw
  rcases hk with e|e|e<;>rw [e] at hw<;>simp at hw<;>omega
theorem uV {g:Grs} {fm:Fm} {l:List Atm}:(xB g fm l).length=l.length:=by unfold xB;rw [List.length_map]
theorem RV.isNilA {c:Cx} {x:Vl} {v:Value} (h:RV c x v):(isNilA x=true∧v= .nilIface)∨(isNilA x=false∧∃s u,v= .iface s u):=by
  cases x<;>rw [RV] at h
  · exact .inl ⟨rfl,h⟩
  · exact .inr ⟨rfl,_,_,h.1⟩
  · exact .inr ⟨rfl,_,_,h.1⟩
  · obtain ⟨p,o,k,vs,h1,_⟩:=h;exact .inr ⟨rfl,_,_,h1⟩
  · obtain ⟨p,on,cn,ol,cl,vs,h1,_⟩:=h;exact .inr ⟨rfl,_,_,h1⟩
  · obtain ⟨p,u,h1,_⟩:=h;exact .inr ⟨rfl,_,_,h1⟩
  · obtain ⟨p,h1,_⟩:=h;exact .inr ⟨rfl,_,_,h1⟩
  · obtain ⟨p,h1,_⟩:=h;exact .inr ⟨rfl,_,_,h1⟩
def isExnA (s:ByteArray):Prop:=s=eT∨s=eS∨s=exnD
theorem texts_exnA {op:Int} {l:List Vl} {wd:Wd} {s:ByteArray} (h:vW op l wd= .exn s):isExnA s:=by
  unfold vW stk at h
  repeat' split at h
  all_goals first|(cases h;done)|(cases h;exact .inl rfl)|(cases h;exact .inr (.inl rfl))|(cases h;exact .inr (.inr rfl))
theorem arrays_exnA {op:Int} {l:List Vl} {wd:Wd} {s:ByteArray} (h:vV op l wd= .exn s):isExnA s:=by
  unfold vV stk at h
  repeat' split at h
  all_goals first|(cases h;done)|(cases h;exact .inl rfl)|(cases h;exact .inr (.inl rfl))|(cases h;exact .inr (.inr rfl))
theorem op_exnA {op:Int} {l:List Vl} {wd:Wd} {s:ByteArray} (h:opF op l wd= .exn s):isExnA s:=by
  unfold opF stk at h
  repeat' split at h
  all_goals first|(cases h;done)|exact texts_exnA h|exact arrays_exnA h|(cases h;exact .inl rfl)|(cases h;exact .inr (.inl rfl))|(cases h;exact .inr (.inr rfl))
theorem plain_exnA {r:Stp} {l cs:List Vl} {wd:Wd} {s:ByteArray} (h:yH r l cs wd= .exn s):isExnA s:=by
  by_cases h1:r.k=1
  · rw [pl_1 h1] at h;cases h
  by_cases h2:r.k=2
  · rw [pl_2 h2] at h;exact op_exnA h
  by_cases h4:r.k=4
  · rw [pl_4 h4] at h;cases h
  by_cases h5:r.k=5
  · rw [pl_5 h5] at h;cases h
  by_cases h6:r.k=6
  · rw [pl_6 h6] at h;cases h
  by_cases h7:r.k=7
  · rw [pl_7 h7] at h;unfold stk at h;repeat' split at h
    all_goals cases h
  by_cases h8:r.k=8
  · rw [pl_8 h8] at h;unfold stk at h;repeat' split at h
    all_goals cases h
  by_cases h9:r.k=9
  · unfold yH at h;rw [h9] at h;cases h
  by_cases h10:r.k=10
  · rw [pl_10 h10] at h;unfold stk at h;repeat' split at h
    all_goals cases h
  by_cases h11:r.k=11
  · rw [pl_11 h11] at h;unfold stk at h;repeat' split at h
    all_goals cases h
  by_cases h12:r.k=12
  · rw [pl_12 h12] at h;unfold stk at h;repeat' split at h
    all_goals cases h
  unfold yH at h
  rw [if_neg h1,if_neg h2,if_neg h4,if_neg h5,if_neg h6,if_neg h7,if_neg h8,if_neg h9,if_neg h10,if_neg h11,if_neg h12] at h
  cases h
theorem isExnA.ne {s:ByteArray} (h:isExnA s):(!(s.toList == empS.toList))=true:=by
  rcases h with rfl|rfl|rfl<;>decide +kernel
theorem Cls.ex4A {A B C D:Type} {F:A→B→C→D→World→Prop} {p:Addr} {vs:List Value} (h:∀a b c d,Cls (F a b c d) p vs):Cls (fun w=>∃a b c d,F a b c d w) p vs:=fun w ⟨a,b,c,d,hw⟩=>h a b c d w hw
theorem Cl.ex4A {A B C D:Type} {F:A→B→C→D→World→Prop} {p:Addr} {v:Value} (h:∀a b c d,Cl (F a b c d) p v):Cl (fun w=>∃a b c d,F a b c d w) p v:=fun w ⟨a,b,c,d,hw⟩=>h a b c d w hw
theorem idx_iokA {l:List ByteArray} {s:ByteArray} (h:l.length≤9223372036854775807):iok (wQ l s):=by
  unfold wQ
  cases hf:l.findIdx? (fun x=>eqS s x) with
  |none=>exact ⟨by decide,by decide⟩
  | some i=>
    obtain ⟨hi,_⟩:=List.findIdx?_eq_some_iff_getElem.1 hf
    exact ⟨by show (_:Int)≤(i:Int);omega,by show (i:Int)≤_;omega⟩
theorem lt_3 {fl:List FN} {g:Grs} {fm:Af} {b:AN} {wd:Wd} {sk:List Af} (h:b.r.k=3):mA fl g fm b wd sk=qK fl (yI (xB g fm.fm b.r.a.l) 0) (yI (xB g fm.fm b.r.a.l) 1) none wd sk fm b:=by unfold mA;rw [if_pos h]
theorem lt_14 {fl:List FN} {g:Grs} {fm:Af} {b:AN} {wd:Wd} {sk:List Af} (h:b.r.k=14):mA fl g fm b wd sk=(match asFn (yI (xB g fm.fm b.r.a.l) 0) with
    |some c=>if c.1=b.r.n then qK fl (yI (xB g fm.fm b.r.a.l) 0) (yI (xB g fm.fm b.r.a.l) 1) none wd sk fm b else vD wd
    |none=>vD wd):=by unfold mA;rw [if_neg (by omega),if_pos h]<;>rfl
theorem lt_13 {fl:List FN} {g:Grs} {fm:Af} {b:AN} {wd:Wd} {sk:List Af} (h:b.r.k=13):mA fl g fm b wd sk=(match asFn (yI (xB g fm.fm b.r.a.l) 1) with
    |some h=>qK fl (yI (xB g fm.fm b.r.a.l) 0) (.num 0) (some h) wd sk fm b
    |none=>vD wd):=by unfold mA;rw [if_neg (by omega),if_neg (by omega),if_pos h]<;>rfl
theorem lt_p {fl:List FN} {g:Grs} {fm:Af} {b:AN} {wd:Wd} {sk:List Af} (h:b.r.k≠3∧b.r.k≠14∧b.r.k≠13):mA fl g fm b wd sk=(match yH b.r (xB g fm.fm b.r.a.l) fm.c.2 wd with
    | .exn s=>uZ fl g (wQ g.xs.l s) wd sk
    | .val v wd'=>if isNilA v then vD wd' else .go ⟨wd',sk,{fm with vs:=tP fm.vs b.x v},tA b 0⟩):=by unfold mA;rw [if_neg h.1,if_neg h.2.1,if_neg h.2.2]<;>rfl
theorem cls_ptR {w0:World} {H:List It} {c:Cx} {k x n:Int} {xs ns:Vec Int} {r:Stp} {va:Vec Atm} {ko:Option Addr} {kc:Nat} {kids:List AN} {o:Option Addr} {j:Nat} (hm:frz w0 c.K∈H) (h:∀w,c.K w→AtB w o j (.mk k x xs n ns r va ko kc kids)):Cls (HS w0 noM H) (sat o (j+5)) (yG r):=fun w hH i u hu=>by
  rw [oZ,Nat.add_assoc]
  exact (h w (hH.frz hm)).1 _ u (by have:=sub_R (k:=k) (x:=x) (n:=n) (xs:=xs) (ns:=ns) (va:=va) (ko:=ko) (kc:=kc) (kids:=kids) i u hu;rwa [Nat.zero_add] at this)
theorem fs_len (fl:List FN):(yW fl).length=fl.length:=List.length_map ..
section
attribute [local irreducible] Code.wp wpList Calls Ex Op1 sat bat blk cb own Go.Fw.mp Go.Fw.mpO Go.Fw.mpI Go.Fw.mpE Go.Fw.itr HS Rd Ret wkD Hp Cl Cls Exit.then Exit.inBlock Exit.noGoto bodyPost Go.Fw.flat wk2 Go.Fw.all Go.Fw.owns wpOp
attribute [local irreducible] sk mpK sko mvO xI opM Go.Fw.mset Go.Fw.mv opK w63 frz obI RV wQ vR vT wT

theorem letA_spec {w0 w:World} {H:List It} {c:Cx} {bM:Nat} {g:Grs} {fl:List FN} {oF:Option Addr} {cF:Nat} {kd fuel:Int} {m:Am} {oO oS ph kk pb:Option Addr} {cO cS pc bv bj:Nat} {xx:Int} {mm jm:List (Int × Value)} {fms:List AfM} {sx:Sx} (hH:HS w0 noM (cb bM 136 (zJ g kd m.wd.inp oO m.wd.out.length cO++yQ oF fl.length cF g fuel oS fms.length cS pc bv bj xx kk ph pb none)::own 5 1 oO m.wd.out.length cO (flat zV m.wd.out)::frz w0 c.K::all (sx.map obI)::own 134 6 oS fms.length cS (flat yD fms)::all (fms.map mpA)::mp bv mm::mp bj jm::H) w) (hpc:FnR c m.fm.c.1 m.fm.c.2 pc) (hmm:MapR c m.fm.vs mm) (hjm:JmR c m.fm.js jm) (hfs:FasR c m.sk fms) (hst:StR c sx m.wd.st) (k0 x0 n0:Int) (xs0 ns0:Vec Int) (r0:Stp) (va0:Vec Atm) (ko:Option Addr) (kc:Nat) (kids:List AN) (ob:Option Addr) (jb:Nat) (hb0:∀w,c.K w→AtB w ob jb (.mk k0 x0 xs0 n0 ns0 r0 va0 ko kc kids)) (hk0:0<kids.length) (hP:PrR w0 oF fl g) (hnf:c.nf=fl.length) (hts:g.ts.l.length≤9223372036854775807) (hsz:∀s∈g.ss.l,s.size≤4096) (hxs:∀s∈g.xs.l,s.size≤4611686018427387904) (hfl:m.sk.length≤1000000)
    (hK0:∀w,c.K w→Kp w0 noM w) (mine:Int) (hF:FormP g (yW fl) mine r0) (ha:∀a∈r0.a.l,atW g a) (hRa:RdV w0 zN r0.a) (hRn:RdV w0 Fw.encI r0.ns) (hla:r0.a.l.length≤1048576) (hbn:r0.ns.l.length≤c.bd) (hbd:c.bd≤1000000) (hout:m.wd.out.length≤1000000) :
    Ret Tryz.prog 87 #[.pointer (some (bat bM 0)),.pointer (some (sat ob jb))] w (fun r w'=>ArW w0 c bM g fl oF cF kd fuel H (mA fl g m.fm (.mk k0 x0 xs0 n0 ns0 r0 va0 ko kc kids) m.wd m.sk) w'):=by
  (refine ENT (N:=132) Tryz.func87 Tryz.ntmps87 ?_;intro a hA)
  repeat' (first|(refine XT ?_;apply XE;(first|(apply zG (vs:=yG r0);rfl;rfl;exact cls_ptR MEMT hb0));clear hA a;intro a hA)|(refine QT ?_;clear hA a;intro a hA)|(refine BT ?_;clear hA hH;rintro _ w ⟨bN,rfl,hH⟩ a hA)|(refine SAT (yG r0) hA hH ?_;clear hH;intro w hH)|refine CT ?_|fail)
  obtain ⟨b3,hb3⟩:∃x,x=bN:=⟨_,rfl⟩
  rw [←hb3] at hA hH
  clear hb3 bN
  (refine zH hA rfl rfl (by decide) (zA rfl rfl rfl (cK w0 w (own 5 1 oO m.wd.out.length cO (flat zV m.wd.out)::frz w0 c.K::all (sx.map obI)::own 134 6 oS fms.length cS (flat yD fms)::all (fms.map mpA)::mp bj jm::cb b3 57 (yG r0)::H) c bM g kd m.wd.inp oO oS oF m.wd.out.length cO fl.length cF fms.length cS pc bv bj fuel xx kk ph pb none m.fm.fm mm r0.a (hH.perm PMT) hmm ha hP.ss hsz hRa hla)) ?_;clear hA hH;rintro _ w ⟨oL,cL,vs,rfl,hV0,hH⟩ a hA)
  have hvl:=hV0.len
  rw [uV] at hvl
  have hlc:vs.length≤cL∧cL≤maxLen:=hH.own_le (T:=137) (o:=oL) (by exact MEMT)
  have hle:=c.more (fun w=>Rd w oL vs)
  replace hH:=(hH.perm (H':=own 137 1 oL vs.length cL vs::frz w0 c.K::cb bM 136 (zJ g kd m.wd.inp oO m.wd.out.length cO++yQ oF fl.length cF g fuel oS fms.length cS pc bv bj xx kk ph pb none)::own 5 1 oO m.wd.out.length cO (flat zV m.wd.out)::all (sx.map obI)::own 134 6 oS fms.length cS (flat yD fms)::all (fms.map mpA)::mp bv mm::mp bj jm::cb b3 57 (yG r0)::H) PMT).frz_own
  obtain ⟨c1,hc1⟩:∃c1:Cx,c1={c with K:=fun w=>Rd w oL vs∧c.K w}:=⟨_,rfl⟩
  have hL:∀w,c1.K w→Rd w oL vs:=fun w h=>by rw [hc1] at h;exact h.1
  have hK1:∀w,c1.K w→Kp w0 noM w:=fun w h=>by rw [hc1] at h;exact hK0 w h.2
  have hKe:c1.K=fun w=>Rd w oL vs∧c.K w:=by rw [hc1]
  have hbe:c1.bd=c.bd:=by rw [hc1]
  have hne1:c1.nf=c.nf:=by rw [hc1]
  rw [←hKe] at hH
  replace hH:=hH.perm (H':=cb bM 136 (zJ g kd m.wd.inp oO m.wd.out.length cO++yQ oF fl.length cF g fuel oS fms.length cS pc bv bj xx kk ph pb none)::own 5 1 oO m.wd.out.length cO (flat zV m.wd.out)::frz w0 c1.K::all (sx.map obI)::own 134 6 oS fms.length cS (flat yD fms)::all (fms.map mpA)::mp bv mm::mp bj jm::cb b3 57 (yG r0)::H) PMT
  rw [←hc1] at hle
  have hst1:=hst.more (fun w=>Rd w oL vs)
  rw [←hc1] at hst1
  clear hc1 hKe
  have hV:=RVs.mono hle _ _ hV0
  replace hpc:=hpc.mono hle
  replace hmm:=hmm.mono hle
  replace hjm:=hjm.mono hle
  have hb1:∀w,c1.K w→AtB w ob jb (.mk k0 x0 xs0 n0 ns0 r0 va0 ko kc kids):=fun w hw=>hb0 w (hle.K w hw)
  replace hfs:=hfs.mono hle
  have hnf1:c1.nf=fl.length:=by omega
  have hsp:Sp oL vs.length:=(hL w (hH.frz (by exact MEMT))).sp (sz:=1) (by omega) (by omega)
  have hkl:=hF.lo
  have hkh:=hF.hi
  obtain ⟨kk2,hkk2⟩:∃kk2,kk2=r0.k:=⟨_,rfl⟩
  by_cases h3:r0.k=3
  · have h2:=want2A hF (.inl h3)
    obtain ⟨v0,hv0,hx0⟩:=hV.get0 (i:=0) (by rw [uV];omega)
    obtain ⟨v1,hv1,hx1⟩:=hV.get0 (i:=1) (by rw [uV];omega)
    repeat' (first|(refine QT ?_;clear hA a;intro a hA)|refine CT ?_|(refine DT ?_ ?_<;>intro hc<;>try (exfalso;omega))|fail)
    (refine zK [(0,1),(1,1),(2,1),(3,1),(4,1),(5,1),(6,1),(7,1)] [8] mixed (by decide +kernel) hH ?_;replace hH:=hH.drew)
    repeat' (first|(refine XT ?_;apply XE;(first|(apply zD;rfl;rfl;decide;omega;exact hsp)|(apply zC;rfl;exact yJ MEMT hL hv0)|(apply zC;rfl;exact yJ MEMT hL hv1));clear hA a;intro a hA)|(refine QT ?_;clear hA a;intro a hA)|refine CT ?_|fail)
    (refine rC hA rfl rfl rfl (by decide) (zA rfl rfl rfl (callSA (h:=none) (hd:=none) hH hpc hmm hjm hfs hst1 hx0 hx1 rfl hP hK1 hnf1 hfl k0 x0 n0 xs0 ns0 r0 va0 ko kc kids ob jb hb1 hk0)) ?_;clear hA hH;rintro _ w hS a hA)
    repeat' (first|(refine QT ?_;clear hA a;intro a hA)|refine CT ?_|fail)
    exact rt0 (.inl rfl) rfl hA (by rw [lt_3 (b:=(.mk k0 x0 xs0 n0 ns0 r0 va0 ko kc kids)) h3];exact (ArW.le hle hbe hS).drop1)
  by_cases h14:r0.k=14
  · have h2:=want2A hF (.inr (.inr h14))
    obtain ⟨v0,hv0,hx0⟩:=hV.get0 (i:=0) (by rw [uV];omega)
    obtain ⟨v1,hv1,hx1⟩:=hV.get0 (i:=1) (by rw [uV];omega)
    have e14:=lt_14 (fl:=fl) (g:=g) (fm:=m.fm) (wd:=m.wd) (sk:=m.sk) (b:=(.mk k0 x0 xs0 n0 ns0 r0 va0 ko kc kids)) h14
    dsimp only [AN.r,AN.x] at e14
    rcases hx0.asFn with ⟨fi,fvl,fp,hs,hv0e,hf⟩| ⟨hs,hn⟩
    · rw [hs] at e14
      dsimp only at e14
      have e14p:fi=r0.n→_:=fun h=>e14.trans (if_pos h)
      have e14n:¬fi=r0.n→_:=fun h=>e14.trans (if_neg h)
      unfold vY at hv0e
      subst hv0e
      obtain ⟨o9,k9,vs9,hfr9,hp9,_⟩:=id hf
      repeat' (first|(refine XT ?_;apply XE;(first|(apply zD;rfl;rfl;decide;omega;exact hsp)|(apply zC;rfl;exact yJ MEMT hL hv0)|(apply zL;rfl));clear hA a;intro a hA)|(refine QT ?_;clear hA a;intro a hA)|refine CT ?_|(refine DT ?_ ?_<;>intro hc<;>try (exfalso;omega))|fail)
      (refine zQ [(0,1),(1,1),(2,1),(3,1),(4,1),(5,1),(6,1),(7,1),(8,1),(9,1),(10,1)] mixed (by decide +kernel) hH ?_;replace hH:=hH.drew)
      repeat' (first|(refine GT ?_ ?_<;>intro hg<;>clear hA a<;>intro a hA<;>(first|exact FA|replace hg:=dTr hg|replace hg:=dFa hg|skip))|(refine XT ?_;apply XE;(first|(apply zC;rfl;exact wG MEMT hp9 rfl));clear hA a;intro a hA)|(refine QT ?_;clear hA a;intro a hA)|refine CT ?_|(refine DT ?_ ?_<;>intro hc<;>try (exfalso;omega))|fail)
      · repeat' (first|(refine QT ?_;clear hA a;intro a hA)|(refine zH hA rfl rfl (by decide) (zA rfl rfl rfl (lR hH hpc hmm hjm hfs hst1 4 empS)) ?_;clear hA hH;rintro _ w hS a hA)|refine CT ?_|fail)
        exact rt0 (.inl rfl) rfl hA (ArW.stop (by rw [e14n (by assumption)];rfl) hS.drop1)
      (refine zK [(0,1),(1,1),(2,1),(3,1),(4,1),(5,1),(6,1),(7,1)] [8] mixed (by decide +kernel) hH ?_;replace hH:=hH.drew)
      repeat' (first|(refine XT ?_;apply XE;(first|(apply zD;rfl;rfl;decide;omega;exact hsp)|(apply zC;rfl;exact yJ MEMT hL hv0)|(apply zC;rfl;exact yJ MEMT hL hv1));clear hA a;intro a hA)|(refine QT ?_;clear hA a;intro a hA)|refine CT ?_|fail)
      (refine rC hA rfl rfl rfl (by decide) (zA rfl rfl rfl (callSA (h:=none) (hd:=none) hH hpc hmm hjm hfs hst1 hx0 hx1 rfl hP hK1 hnf1 hfl k0 x0 n0 xs0 ns0 r0 va0 ko kc kids ob jb hb1 hk0)) ?_;clear hA hH;rintro _ w hS a hA)
      repeat' (first|(refine QT ?_;clear hA a;intro a hA)|refine CT ?_|fail)
      exact rt0 (.inl rfl) rfl hA (by rw [e14p (by omega)];exact (ArW.le hle hbe hS).drop1)
    · rw [hs] at e14
      dsimp only at e14
      repeat' (first|(refine XT ?_;apply XE;(first|(apply zD;rfl;rfl;decide;omega;exact hsp)|(apply zC;rfl;exact yJ MEMT hL hv0)|(apply yC;rfl;exact hn));clear hA a;intro a hA)|(refine QT ?_;clear hA a;intro a hA)|refine CT ?_|(refine DT ?_ ?_<;>intro hc<;>try (exfalso;omega))|fail)
      (refine zQ [(0,1),(1,1),(2,1),(3,1),(4,1),(5,1),(6,1),(7,1),(8,1),(9,1),(10,1)] mixed (by decide +kernel) hH ?_;replace hH:=hH.drew)
      repeat' (first|(refine GT ?_ ?_<;>intro hg<;>clear hA a<;>intro a hA<;>(first|exact FA|replace hg:=dTr hg|replace hg:=dFa hg|skip))|(refine QT ?_;clear hA a;intro a hA)|(refine zH hA rfl rfl (by decide) (zA rfl rfl rfl (lR hH hpc hmm hjm hfs hst1 4 empS)) ?_;clear hA hH;rintro _ w hS a hA)|refine CT ?_|fail)
      exact rt0 (.inl rfl) rfl hA (ArW.stop (by rw [e14];rfl) hS.drop1)
  by_cases h13:r0.k=13
  · have h2:=want2A hF (.inr (.inl h13))
    obtain ⟨v0,hv0,hx0⟩:=hV.get0 (i:=0) (by rw [uV];omega)
    obtain ⟨v1,hv1,hx1⟩:=hV.get0 (i:=1) (by rw [uV];omega)
    have e13:=lt_13 (fl:=fl) (g:=g) (fm:=m.fm) (wd:=m.wd) (sk:=m.sk) (b:=(.mk k0 x0 xs0 n0 ns0 r0 va0 ko kc kids)) h13
    dsimp only [AN.r,AN.x] at e13
    rcases hx1.asFn with ⟨fi,fvl,fp,hs,hv1e,hf⟩| ⟨hs,hn⟩
    · rw [hs] at e13
      dsimp only at e13
      unfold vY at hv1e
      subst hv1e
      repeat' (first|(refine XT ?_;apply XE;(first|(apply zD;rfl;rfl;decide;omega;exact hsp)|(apply zC;rfl;exact yJ MEMT hL hv0)|(apply zC;rfl;exact yJ MEMT hL hv1)|(apply zY;rfl)|(apply zL;rfl));clear hA a;intro a hA)|(refine QT ?_;clear hA a;intro a hA)|refine CT ?_|(refine DT ?_ ?_<;>intro hc<;>try (exfalso;omega))|fail)
      (refine zH hA rfl rfl (by decide) (zA rfl rfl rfl (callSA (h:=some (fi,fvl)) (hd:=some (bat fp 0)) hH hpc hmm hjm hfs hst1 hx0 (RV_num (c:=c1) (n:=0) ⟨by decide,by decide⟩) ⟨fp,rfl,hf⟩ hP hK1 hnf1 hfl k0 x0 n0 xs0 ns0 r0 va0 ko kc kids ob jb hb1 hk0)) ?_;clear hA hH;rintro _ w hS a hA)
      repeat' (first|(refine QT ?_;clear hA a;intro a hA)|refine CT ?_|fail)
      exact rt0 (.inl rfl) rfl hA (by rw [e13];exact (ArW.le hle hbe hS).drop1)
    · rw [hs] at e13
      dsimp only at e13
      repeat' (first|(refine XT ?_;apply XE;(first|(apply zD;rfl;rfl;decide;omega;exact hsp)|(apply zC;rfl;exact yJ MEMT hL hv1)|(apply yC;rfl;exact hn));clear hA a;intro a hA)|(refine QT ?_;clear hA a;intro a hA)|(refine zH hA rfl rfl (by decide) (zA rfl rfl rfl (lR hH hpc hmm hjm hfs hst1 4 empS)) ?_;clear hA hH;rintro _ w hS a hA)|refine CT ?_|(refine DT ?_ ?_<;>intro hc<;>try (exfalso;omega))|fail)
      exact rt0 (.inl rfl) rfl hA (ArW.stop (by rw [e13];rfl) hS.drop1)
  have ep:=lt_p (fl:=fl) (g:=g) (fm:=m.fm) (b:=(.mk k0 x0 xs0 n0 ns0 r0 va0 ko kc kids)) (wd:=m.wd) (sk:=m.sk) ⟨h3,h14,h13⟩
  dsimp only [AN.r,AN.x] at ep
  repeat' (first|(refine QT ?_;clear hA a;intro a hA)|refine CT ?_|(refine DT ?_ ?_<;>intro hc<;>try (exfalso;omega))|fail)
  have hS0:(fun w=>∃s oO nO cO,HS w0 noM [cb bM 136 (zJ g kd s oO nO cO++yQ oF fl.length cF g fuel oS fms.length cS pc bv bj xx kk ph pb none),cb b3 57 (yG r0)] w) w:=⟨_,_,_,_,(((((((HS.left (H1:=[_,_,_,_,_,_,_,_,_]) hH).rm 1).rm 1).rm 1).rm 1).rm 1).rm 1).rm 1⟩
  have hS1:Cls (fun w=>∃s oO nO cO,HS w0 noM [cb bM 136 (zJ g kd s oO nO cO++yQ oF fl.length cF g fuel oS fms.length cS pc bv bj xx kk ph pb none),cb b3 57 (yG r0)] w) (bat b3 0) (yG r0):=Cls.ex4A (F:=fun s oO nO cO w=>HS w0 noM [cb bM 136 (zJ g kd s oO nO cO++yQ oF fl.length cF g fuel oS fms.length cS pc bv bj xx kk ph pb none),cb b3 57 (yG r0)] w) fun s oO nO cO=>zR (by exact MEMT)
  have hS2:Cl (fun w=>∃s oO nO cO,HS w0 noM [cb bM 136 (zJ g kd s oO nO cO++yQ oF fl.length cF g fuel oS fms.length cS pc bv bj xx kk ph pb none),cb b3 57 (yG r0)] w) (bat bM 12) (.pointer (some (bat pc 0))):=Cl.ex4A (F:=fun s oO nO cO w=>HS w0 noM [cb bM 136 (zJ g kd s oO nO cO++yQ oF fl.length cF g fuel oS fms.length cS pc bv bj xx kk ph pb none),cb b3 57 (yG r0)] w) fun s oO nO cO=>fZ (by exact MEMT) rfl
  refine jL [(0,1),(1,1),(2,1),(3,1),(4,1),(5,1),(6,1),(7,1),(8,1),(9,1),(10,0),(11,1),(12,1),(13,1),(14,1),(15,1)] [] (fun w=>∃s oO nO cO,HS w0 noM [cb bM 136 (zJ g kd s oO nO cO++yQ oF fl.length cF g fuel oS fms.length cS pc bv bj xx kk ph pb none),cb b3 57 (yG r0)] w) mixed (by decide +kernel) (by obtain ⟨s1,o1,n1,c2,h9⟩:=hS0;exact ⟨s1,o1,n1,c2,h9.drew⟩) ?_
  clear hS0
  replace hH:=hH.drew
  repeat' (first|(refine XT ?_;apply XE;(first|(apply zG (vs:=yG r0);rfl;rfl;exact hS1)|(apply zC;rfl;exact hS2));clear hA a;intro a hA)|(refine QT ?_;clear hA a;intro a hA)|fail)
  have hpl:=Plain_spec w0 _ (own 134 6 oS fms.length cS (flat yD fms)::all (fms.map mpA)::mp bv mm::mp bj jm::cb b3 57 (yG r0)::H) c1 136 bM g kd (yQ oF fl.length cF g fuel oS fms.length cS pc bv bj xx kk ph pb none) (yW fl) mine r0 (xB g m.fm.fm r0.a.l) vs oL oO cL cO m.wd sx m.fm.c.1 m.fm.c.2 pc hH hL hlc hV hst1 hF uV (by rw [fs_len];exact hnf1) hpc hK1 hRn (by omega) (by omega) hout hts ⟨h3,h13,h14⟩
  (refine yO hA rfl rfl rfl (by decide) (zA rfl rfl rfl hpl) ?_;clear hA hH hpl)
  rintro u w ⟨d,sx2,oO2,cO2,⟨hle2,hb2⟩,hH,hr,hS2'⟩
  refine ⟨⟨_,_,_,_,(((((((HS.left (H1:=[_,_,_,_,_,_,_,_,_]) hH).rm 1).rm 1).rm 1).rm 1).rm 1).rm 1).rm 1⟩,?_⟩
  clear hS1 hS2
  intro a hA
  have hS2:=hS2'
  clear hS2'
  have hle3:=hle.trans hle2
  have hb3:d.bd≤c.bd+1:=by omega
  have hpc2:=hpc.mono hle2
  have hmm2:=hmm.mono hle2
  have hfs2:=hfs.mono hle2
  have hjm2:=hjm.mono hle2
  have hb2':∀w,d.K w→AtB w ob jb (.mk k0 x0 xs0 n0 ns0 r0 va0 ko kc kids):=fun w hw=>hb1 w (hle2.K w hw)
  have hnf2:d.nf=fl.length:=by rw [←hle2.nf];exact hnf1
  cases hp:yH r0 (xB g m.fm.fm r0.a.l) m.fm.c.2 m.wd with
  | exn s=>
    rw [hp] at hH hr hS2 ep
    obtain rfl:u= .tuple #[.nilIface,.string s]:=hr
    have hsn:=(plain_exnA hp).ne
    have hxR:=hP.xs
    have hio:=idx_iokA (l:=g.xs.l) (s:=s) hxR.le
    change HS w0 noM (cb bM 136 (zJ g kd (m.wd).inp oO2 (m.wd).out.length cO2++yQ oF fl.length cF g fuel oS fms.length cS pc bv bj xx kk ph pb none)::own 5 1 oO2 (m.wd).out.length cO2 (flat zV (m.wd).out)::frz w0 d.K::all (sx2.map obI)::own 134 6 oS fms.length cS (flat yD fms)::all (fms.map mpA)::mp bv mm::mp bj jm::cb b3 57 (yG r0)::H) w at hH
    repeat' (first|(refine XT ?_;apply XE;(first|(apply nG;rfl;rfl));clear hA a;intro a hA)|(refine QT ?_;clear hA a;intro a hA)|refine CT ?_|(refine DT ?_ ?_<;>intro hc<;>try (exfalso;omega))|fail)
    rotate_left
    · exact absurd (hsn.symm.trans (by assumption):true=false) (by decide)
    (refine zH hA rfl rfl (by decide) (zA rfl rfl rfl (Exn_spec w0 w (own 5 1 oO2 (m.wd).out.length cO2 (flat zV (m.wd).out)::frz w0 d.K::all (sx2.map obI)::own 134 6 oS fms.length cS (flat yD fms)::all (fms.map mpA)::mp bv mm::mp bj jm::cb b3 57 (yG r0)::H) 136 bM [] _ g.xs s hH hxR)) ?_;clear hA hH;rintro _ w ⟨rfl,hH⟩ a hA)
    change HS w0 noM (cb bM 136 (zJ g kd (m.wd).inp oO2 (m.wd).out.length cO2++yQ oF fl.length cF g fuel oS fms.length cS pc bv bj xx kk ph pb none)::own 5 1 oO2 (m.wd).out.length cO2 (flat zV (m.wd).out)::frz w0 d.K::all (sx2.map obI)::own 134 6 oS fms.length cS (flat yD fms)::all (fms.map mpA)::mp bv mm::mp bj jm::cb b3 57 (yG r0)::H) w at hH
    (refine zH hA rfl rfl (by decide) (zA rfl rfl rfl (raiseSA hH hpc2 hmm2 hjm2 hfs2 hS2 hle3 hb3 hio hP (fun w hw=>hK1 w (hle2.K w hw)) hnf2 hfl hxs)) ?_;clear hA hH;rintro _ w hS a hA)
    repeat' (first|(refine QT ?_;clear hA a;intro a hA)|refine CT ?_|fail)
    exact rt0 (.inr rfl) rfl hA (by rw [ep];exact hS.drop1)
  | val v wd'=>
    rw [hp] at hH hr hS2 ep
    obtain ⟨u',hu',rfl⟩:=hr
    change HS w0 noM (cb bM 136 (zJ g kd (wd').inp oO2 (wd').out.length cO2++yQ oF fl.length cF g fuel oS fms.length cS pc bv bj xx kk ph pb none)::own 5 1 oO2 (wd').out.length cO2 (flat zV (wd').out)::frz w0 d.K::all (sx2.map obI)::own 134 6 oS fms.length cS (flat yD fms)::all (fms.map mpA)::mp bv mm::mp bj jm::cb b3 57 (yG r0)::H) w at hH
    dsimp only at ep
    rcases hu'.isNilA with ⟨hn0,rfl⟩| ⟨hn0,s9,u9,rfl⟩
    · rw [hn0,if_pos rfl] at ep
      repeat' (first|(refine XT ?_;apply XE;(first|(apply nG;rfl;rfl)|(apply ex_eqlI0;rfl));clear hA a;intro a hA)|(refine QT ?_;clear hA a;intro a hA)|refine CT ?_|(refine DT ?_ ?_<;>intro hc<;>try (exfalso;omega))|fail)
      · exact absurd (by assumption:(!(empS.toList == (⟨#[]⟩:ByteArray).toList))=true) (by decide +kernel)
      (refine zH hA rfl rfl (by decide) (zA rfl rfl rfl (lR (m:=⟨wd',m.sk,m.fm,m.b⟩) hH hpc2 hmm2 hjm2 hfs2 hS2 4 empS)) ?_;clear hA hH;rintro _ w hS a hA)
      repeat' (first|(refine QT ?_;clear hA a;intro a hA)|refine CT ?_|fail)
      exact rt0 (.inr rfl) rfl hA (ArW.stop ep hS.drop1)
    · rw [hn0,if_neg (by decide)] at ep
      repeat' (first|(refine XT ?_;apply XE;(first|(apply nG;rfl;rfl)|(apply ex_eqlI1;rfl));clear hA a;intro a hA)|(refine QT ?_;clear hA a;intro a hA)|refine CT ?_|(refine DT ?_ ?_<;>intro hc<;>try (exfalso;omega))|fail)
      · exact absurd (by assumption:(!(empS.toList == (⟨#[]⟩:ByteArray).toList))=true) (by decide +kernel)
      (refine zK [(0,1),(1,1),(2,1),(3,1),(4,1),(5,1),(6,1),(7,1),(8,1),(9,1)] [10] mixed (by decide +kernel) hH ?_;replace hH:=hH.drew)
      repeat' (first|(refine XT ?_;apply XE;(first|(apply zC;rfl;exact tF MEMT hb2' rfl));clear hA a;intro a hA)|(refine QT ?_;clear hA a;intro a hA)|(apply zX hA rfl rfl rfl;apply xT;rfl;rfl;rfl;exact hH;(repeat constructor);clear hH;rintro _ w hH)|refine CT ?_|fail)
      have hspK:=pt_sp hb2' (hH.frz MEMT)
      repeat' (first|(refine XT ?_;apply XE;(first|(apply zD;rfl;rfl;decide;omega;exact hspK));clear hA a;intro a hA)|(refine QT ?_;clear hA a;intro a hA)|(apply zO hA rfl rfl;apply zB (cs':=zJ g kd wd'.inp oO2 wd'.out.length cO2++yQ oF fl.length cF g fuel oS fms.length cS pc bv bj xx kk ph (some (sat ko (Int.toNat 0*11))) none);rfl;rfl;rfl;exact hH;(repeat constructor);clear hH;rintro _ w hH)|refine CT ?_|fail)
      refine rt0 (.inr rfl) rfl hA (ArW.go (m:=⟨wd',m.sk,{m.fm with vs:=tP m.fm.vs x0 v},tA (.mk k0 x0 xs0 n0 ns0 r0 va0 ko kc kids) 0⟩) ep hle3 hb3 ⟨oO2,cO2,oS,cS,pc,bv,bj,xx,kk,mset mm x0 (.iface s9 u9),jm,fms,sx2,ph,_,?_,hpc2,hmm2.set _ hu',hjm2,hfs2,hS2,pH ⟨ob,jb,rfl,hb2'⟩ hk0⟩)
      exact hH.rm 8
end
structure BdW (g:Grs) (caps:List Int) (mine:Int) (b:AN):Prop where
  k0:1≤b.k
  k1:b.k≤8
  sh:ShpP b.k b.x b.xs.l b.n b.ns.l b.r b.a.l b.kids.length
  fm:b.k=1→FormP g caps mine b.r
  ra:∀a∈b.r.a.l,atW g a
  rl:b.r.a.l.length≤65536
  aa:∀a∈b.a.l,atW g a
  al:b.a.l.length≤65536
  kl:b.kids.length≤65536
  ks:b.k=6→b.kids.length=b.ns.l.length+1
def JmpOk (m:Am):Prop:=m.b.k=8→∃j,alk m.fm.js m.b.n=some j∧j.xs.l.length=m.b.a.l.length∧0<j.kids.length
theorem ns_form {g:Grs} {cs:List Int} {mine:Int} {r:Stp} (h:FormP g cs mine r):r.ns.l.length≤r.a.l.length:=by
  rcases h.ns with h1|h1
  · rw [h1];exact Nat.zero_le _
  · have:=h.want
    unfold vI at this
    rw [h1] at this
    simp at this
    omega
section
variable {fl:List FN} {g:Grs} {kd:Int} {m:Am}
theorem sa_1 (h:m.b.k=1):uP fl g kd m=mA fl g m.fm m.b m.wd m.sk:=by unfold uP;rw [if_pos h]
theorem sa_2 (h:m.b.k=2):uP fl g kd m=pZ g kd (uJ g m.fm.fm (m.b.a.l.getD 0 rG)) m.wd m.sk:=by unfold uP;rw [if_neg (by omega),if_pos h]
theorem sa_3 (h:m.b.k=3):uP fl g kd m=qS fl (uJ g m.fm.fm (m.b.a.l.getD 0 rG)) (uJ g m.fm.fm (m.b.a.l.getD 1 rG)) m.wd m.sk:=by unfold uP;rw [if_neg (by omega),if_neg (by omega),if_pos h]
theorem sa_7 (h:m.b.k=7):uP fl g kd m= .go ⟨m.wd,m.sk,{m.fm with js:=aset m.fm.js m.b.n m.b},tA m.b 1⟩:=by unfold uP;rw [if_neg (by omega),if_neg (by omega),if_neg (by omega),if_pos h]
theorem sa_8 (h:m.b.k=8):uP fl g kd m= .go ⟨m.wd,m.sk,{m.fm with vs:=rL m.fm.vs ((alk m.fm.js m.b.n).getD an0).xs.l (xB g m.fm.fm m.b.a.l)},tA ((alk m.fm.js m.b.n).getD an0) 0⟩:=by
  unfold uP;rw [if_neg (by omega),if_neg (by omega),if_neg (by omega),if_neg (by omega),if_pos h]
theorem sa_x (h:m.b.k≠1∧m.b.k≠2∧m.b.k≠3∧m.b.k≠7∧m.b.k≠8):uP fl g kd m=(match asNum (uJ g m.fm.fm (m.b.a.l.getD 0 rG)) with
    |none=>vD m.wd
    | some n=>
      if m.b.k=4 then uZ fl g n m.wd m.sk
      else if m.b.k=5 then .go ⟨m.wd,m.sk,m.fm,tA m.b (if n=0 then 1 else 0)⟩
      else .go ⟨m.wd,m.sk,m.fm,tA m.b (if bsB m.b.ns.l n then bsI m.b.ns.l n else m.b.ns.l.length)⟩):=by
  unfold uP;rw [if_neg h.1,if_neg h.2.1,if_neg h.2.2.1,if_neg h.2.2.2.1,if_neg h.2.2.2.2]<;>rfl
end
theorem oC {l:List Atm} {i:Nat} (h:i<l.length):l[i]?=some (l.getD i rG):=by rw [List.getD_eq_getElem?_getD,List.getElem?_eq_getElem h];rfl
theorem setsA_nil (m:List (Int × Vl)) (l:List Vl):rL m [] l=m:=by cases l<;>rfl
theorem gE:∀{m:List (Int × Vl)} {ps:List Int} {vs:List Vl} {i:Nat} {p:Int} {v:Vl},ps[i]?=some p→vs[i]?=some v→rL m (ps.take (i+1)) (vs.take (i+1))=tP (rL m (ps.take i) (vs.take i)) p v
  |m,[],vs,i,p,v,h,h'=>by simp at h
  |m,q::ps,[],i,p,v,h,h'=>by simp at h'
  | m,q::ps,u::vs,0,p,v,h,h'=>by
    obtain rfl:q=p:=by simpa using h
    obtain rfl:u=v:=by simpa using h'
    simp [rL]
  | m,q::ps,u::vs,i+1,p,v,h,h'=>by
    rw [List.take_succ_cons,List.take_succ_cons,List.take_succ_cons,List.take_succ_cons,rL,rL]
    exact gE (by simpa using h) (by simpa using h')
theorem JmR.look {c:Cx} {js:List (Int × AN)} {m:List (Int × Value)} (h:JmR c js m) {n:Int} {j:AN} (hj:alk js n=some j):∃p,mv m n=some (.pointer p)∧PtN c j p:=by
  have h1:=h n
  rw [hj] at h1
  cases hm:mv m n with
  |none=>rw [hm] at h1;exact h1.elim
  | some v=>
    rw [hm] at h1
    obtain ⟨p,rfl,h2⟩:=h1
    exact ⟨p,rfl,h2⟩
theorem AtB.a {w:World} {o:Option Addr} {j:Nat} {k x n:Int} {xs ns:Vec Int} {r:Stp} {va:Vec Atm} {ko:Option Addr} {kc:Nat} {kids:List AN} (h:AtB w o j (.mk k x xs n ns r va ko kc kids)):RdV w zN va:=by
  cases h.2 with
  |mk h1 h2 h3 h4 h5 h6 h7=>exact h5.1
section
attribute [local irreducible] Code.wp wpList Calls Ex Op1 sat bat blk cb own Go.Fw.mp Go.Fw.mpO Go.Fw.mpI Go.Fw.mpE Go.Fw.itr HS Rd Ret wkD Hp Cl Cls Exit.then Exit.inBlock Exit.noGoto bodyPost Go.Fw.flat wk2 Go.Fw.all Go.Fw.owns wpOp
attribute [local irreducible] sk mpK sko mvO xI opM Go.Fw.mset Go.Fw.mv opK w63 frz obI RV wQ vR vT wT

theorem stepA0_spec {w0 w:World} {H:List It} {c:Cx} {bM:Nat} {g:Grs} {fl:List FN} {oF:Option Addr} {cF:Nat} {kd fuel:Int} {m:Am} {oO oS ph kk ob:Option Addr} {cO cS pc bv bj jb:Nat} {xx:Int} {mm jm:List (Int × Value)} {fms:List AfM} {sx:Sx} (hH:HS w0 noM (cb bM 136 (zJ g kd m.wd.inp oO m.wd.out.length cO++yQ oF fl.length cF g fuel oS fms.length cS pc bv bj xx kk ph (some (sat ob jb)) none)::own 5 1 oO m.wd.out.length cO (flat zV m.wd.out)::frz w0 c.K::all (sx.map obI)::own 134 6 oS fms.length cS (flat yD fms)::all (fms.map mpA)::mp bv mm::mp bj jm::H) w) (hpc:FnR c m.fm.c.1 m.fm.c.2 pc) (hmm:MapR c m.fm.vs mm) (hjm:JmR c m.fm.js jm) (hfs:FasR c m.sk fms) (hst:StR c sx m.wd.st) (h0:fuel≤0):Ret Tryz.prog 47 #[.pointer (some (bat bM 0))] w (fun v w'=>AMEnd w0 bM g fl oF cF kd fuel H 2 empS m.wd w'):=by
  (refine ENT (N:=206) Tryz.func47 Tryz.ntmps47 ?_;intro a hA)
  repeat' (first|(refine QT ?_;clear hA a;intro a hA)|refine CT ?_|(refine DT ?_ ?_<;>intro hc<;>try (exfalso;omega))|fail)
  (refine zH hA rfl rfl (by decide) (zA rfl rfl rfl (lR hH hpc hmm hjm hfs hst 2 empS)) ?_;clear hA hH;rintro _ w hS a hA)
  repeat' (first|(refine QT ?_;clear hA a;intro a hA)|refine CT ?_|fail)
  exact rt0 (.inl rfl) rfl hA hS
theorem stepA_spec {w0 w:World} {H:List It} {c:Cx} {bM:Nat} {g:Grs} {fl:List FN} {oF:Option Addr} {cF:Nat} {kd fuel:Int} {m:Am} {oO oS ph kk ob:Option Addr} {cO cS pc bv bj jb:Nat} {xx:Int} {mm jm:List (Int × Value)} {fms:List AfM} {sx:Sx} (hH:HS w0 noM (cb bM 136 (zJ g kd m.wd.inp oO m.wd.out.length cO++yQ oF fl.length cF g fuel oS fms.length cS pc bv bj xx kk ph (some (sat ob jb)) none)::own 5 1 oO m.wd.out.length cO (flat zV m.wd.out)::frz w0 c.K::all (sx.map obI)::own 134 6 oS fms.length cS (flat yD fms)::all (fms.map mpA)::mp bv mm::mp bj jm::H) w) (hpc:FnR c m.fm.c.1 m.fm.c.2 pc) (hmm:MapR c m.fm.vs mm) (hjm:JmR c m.fm.js jm) (hfs:FasR c m.sk fms) (hst:StR c sx m.wd.st) (k0 x0 n0:Int) (xs0 ns0:Vec Int) (r0:Stp) (va0:Vec Atm) (ko:Option Addr) (kc:Nat) (kids:List AN) (hb:m.b= .mk k0 x0 xs0 n0 ns0 r0 va0 ko kc kids) (hb0:∀w,c.K w→AtB w ob jb (.mk k0 x0 xs0 n0 ns0 r0 va0 ko kc kids)) (hRd:RdN w0 (.mk k0 x0 xs0 n0 ns0 r0 va0 ko kc kids)) (hP:PrR w0 oF fl g) (hnf:c.nf=fl.length) (hts:g.ts.l.length≤9223372036854775807) (hsz:∀s∈g.ss.l,s.size≤4096) (hxs:∀s∈g.xs.l,s.size≤4611686018427387904) (hfl:m.sk.length≤1000000)
    (hK0:∀w,c.K w→Kp w0 noM w) (mine:Int) (hW:BdW g (yW fl) mine (.mk k0 x0 xs0 n0 ns0 r0 va0 ko kc kids)) (hJ:JmpOk m) (hJR:m.b.k=8→∀j,alk m.fm.js m.b.n=some j→RdN w0 j) (hFI:FI w0) (hb2:65536≤c.bd) (hbd:c.bd≤1000000) (hout:m.wd.out.length≤1000000) (h0:0<fuel) (hf1:fuel≤9223372036854775807) :
    Ret Tryz.prog 47 #[.pointer (some (bat bM 0))] w (fun r w'=>ArW w0 c bM g fl oF cF kd (fuel - 1) H (uP fl g kd m) w'):=by
  have hwr:IntKind.i64.wrap (fuel - 1)=fuel - 1:=vB (by unfold sM;omega)
  have hRv:RdV w0 zN va0:=by cases hRd with|mk h1 h2 h3 h4 h5 h6 h7=>exact h5.1
  have hk0:1≤k0:=hW.k0
  have hk8:k0≤8:=hW.k1
  have hal:va0.l.length≤65536:=hW.al
  have hkl:kids.length≤65536:=hW.kl
  have hsp1:=hb0 w (hH.frz (by exact MEMT))
  have hspA:Sp va0.o va0.l.length:=hsp1.a.1.sp (sz:=2) (zF yT _) (by omega)
  have hspK:=pt_sp hb0 (hH.frz (by exact MEMT))
  clear hsp1
  have hsha:(k0=2∨k0=4∨k0=5∨k0=6→va0.l.length=1)∧(k0=3→va0.l.length=2)∧(k0=1∨k0=7→va0.l=[]):=hW.sh.a
  have hshk:(k0=1→kids.length=1)∧(k0=5∨k0=7→kids.length=2)∧(k0=2∨k0=3∨k0=4∨k0=8→kids.length=0):=hW.sh.kids
  have hpt:PtN c (.mk k0 x0 xs0 n0 ns0 r0 va0 ko kc kids) (some (sat ob jb)):=⟨ob,jb,rfl,hb0⟩
  have haa:∀a∈va0.l,atW g a:=hW.aa
  have hbk:m.b.k=k0:=by rw [hb];rfl
  have hba:m.b.a=va0:=by rw [hb];rfl
  have hbn:m.b.n=n0:=by rw [hb];rfl
  (refine ENT (N:=206) Tryz.func47 Tryz.ntmps47 ?_;intro a hA)
  by_cases h1:k0=1
  · repeat' (first|(refine XT ?_;apply XE;(first|(apply zC;rfl;exact tF MEMT hb0 rfl));clear hA a;intro a hA)|(refine QT ?_;clear hA a;intro a hA)|(apply zO hA rfl rfl;apply zB (cs':=zJ g kd m.wd.inp oO m.wd.out.length cO++yQ oF fl.length cF g (fuel - 1) oS fms.length cS pc bv bj xx kk ph (some (sat ob jb)) none);rfl;rfl;rfl;exact hH;(repeat constructor);clear hH;rintro _ w hH)|refine CT ?_|(refine DT ?_ ?_<;>intro hc<;>try (exfalso;omega))|fail)
    have hF:FormP g (yW fl) mine r0:=hW.fm h1
    (refine zH hA rfl rfl (by decide) (zA rfl rfl rfl (letA_spec hH hpc hmm hjm hfs hst k0 x0 n0 xs0 ns0 r0 va0 ko kc kids ob jb hb0 (by omega) hP hnf hts hsz hxs hfl hK0 mine hF hW.ra (by cases hRd with|mk h1 h2 h3 h4 h5 h6 h7=>exact h4.1) (by cases hRd with|mk h1 h2 h3 h4 h5 h6 h7=>exact h3.1) (by have:=hW.rl;dsimp only [AN.r] at this;omega) (by have:=hW.rl;dsimp only [AN.r] at this;have:=ns_form hF;omega) hbd hout)) ?_;clear hA hH;rintro _ w hS a hA)
    repeat' (first|(refine QT ?_;clear hA a;intro a hA)|refine CT ?_|fail)
    exact rt0 (by first|exact .inl rfl|exact .inr rfl) rfl hA (by rw [sa_1 (hbk.trans h1),hb];exact hS)
  by_cases h2:k0=2
  · repeat' (first|(refine XT ?_;apply XE;(first|(apply zC;rfl;exact tF MEMT hb0 rfl)|(apply zD;rfl;rfl;decide;omega;exact hspA)|(apply zG (vs:=zN (va0.l.getD 0 rG));rfl;rfl;exact yV hRv.1 id (yA yT (oC (by omega)))));clear hA a;intro a hA)|(refine QT ?_;clear hA a;intro a hA)|(apply zO hA rfl rfl;apply zB (cs':=zJ g kd m.wd.inp oO m.wd.out.length cO++yQ oF fl.length cF g (fuel - 1) oS fms.length cS pc bv bj xx kk ph (some (sat ob jb)) none);rfl;rfl;rfl;exact hH;(repeat constructor);clear hH;rintro _ w hH)|refine CT ?_|(refine DT ?_ ?_<;>intro hc<;>try (exfalso;omega))|fail)
    replace hH:=hH.perm (H':=cb bM 136 (zJ g kd m.wd.inp oO m.wd.out.length cO++yQ oF fl.length cF g (fuel - 1) oS fms.length cS pc bv bj xx kk ph (some (sat ob jb)) none)::mp bv mm::own 5 1 oO m.wd.out.length cO (flat zV m.wd.out)::frz w0 c.K::all (sx.map obI)::own 134 6 oS fms.length cS (flat yD fms)::all (fms.map mpA)::mp bj jm::H) PMT
    (refine zH hA rfl rfl (by decide) (zA rfl rfl rfl (qD w0 _ (own 5 1 oO m.wd.out.length cO (flat zV m.wd.out)::frz w0 c.K::all (sx.map obI)::own 134 6 oS fms.length cS (flat yD fms)::all (fms.map mpA)::mp bj jm::H) c bM g kd m.wd.inp oO oS oF m.wd.out.length cO fl.length cF fms.length cS pc bv bj (fuel - 1) xx kk ph (some (sat ob jb)) none m.fm.fm mm (va0.l.getD 0 rG) hH hmm (haa _ (List.mem_of_getElem? (oC (by omega)))) hP.ss hsz)) ?_;clear hA hH;rintro u w ⟨hu,hH⟩ a hA)
    replace hH:=hH.perm (H':=cb bM 136 (zJ g kd m.wd.inp oO m.wd.out.length cO++yQ oF fl.length cF g (fuel - 1) oS fms.length cS pc bv bj xx kk ph (some (sat ob jb)) none)::own 5 1 oO m.wd.out.length cO (flat zV m.wd.out)::frz w0 c.K::all (sx.map obI)::own 134 6 oS fms.length cS (flat yD fms)::all (fms.map mpA)::mp bv mm::mp bj jm::H) PMT
    repeat' (first|(refine QT ?_;clear hA a;intro a hA)|fail)
    (refine zH hA rfl rfl (by decide) (zA rfl rfl rfl (backSA hH hpc hmm hjm hfs hst hu hP.xs hFI hfl)) ?_;clear hA hH;rintro _ w hS a hA)
    repeat' (first|(refine QT ?_;clear hA a;intro a hA)|refine CT ?_|fail)
    exact rt0 (by first|exact .inl rfl|exact .inr rfl) rfl hA (by rw [sa_2 (hbk.trans h2),hba];exact hS)
  by_cases h3:k0=3
  · repeat' (first|(refine XT ?_;apply XE;(first|(apply zC;rfl;exact tF MEMT hb0 rfl));clear hA a;intro a hA)|(refine QT ?_;clear hA a;intro a hA)|(apply zO hA rfl rfl;apply zB (cs':=zJ g kd m.wd.inp oO m.wd.out.length cO++yQ oF fl.length cF g (fuel - 1) oS fms.length cS pc bv bj xx kk ph (some (sat ob jb)) none);rfl;rfl;rfl;exact hH;(repeat constructor);clear hH;rintro _ w hH)|refine CT ?_|(refine DT ?_ ?_<;>intro hc<;>try (exfalso;omega))|fail)
    replace hH:=hH.perm (H':=cb bM 136 (zJ g kd m.wd.inp oO m.wd.out.length cO++yQ oF fl.length cF g (fuel - 1) oS fms.length cS pc bv bj xx kk ph (some (sat ob jb)) none)::mp bv mm::own 5 1 oO m.wd.out.length cO (flat zV m.wd.out)::frz w0 c.K::all (sx.map obI)::own 134 6 oS fms.length cS (flat yD fms)::all (fms.map mpA)::mp bj jm::H) PMT
    (refine zK [(0,1),(1,1),(2,2),(3,2),(4,2),(5,1),(6,1),(7,1),(9,1),(10,2),(11,2),(12,2),(13,1),(14,1),(15,1),(8,0),(16,0)] [17] mixed (by decide +kernel) hH ?_;replace hH:=hH.drew)
    repeat' (first|(refine XT ?_;apply XE;(first|(apply zC;rfl;exact tF MEMT hb0 rfl)|(apply zD;rfl;rfl;decide;omega;exact hspA)|(apply zG (vs:=zN (va0.l.getD 0 rG));rfl;rfl;exact yV hRv.1 id (yA yT (oC (by omega))))|(apply zG (vs:=zN (va0.l.getD 1 rG));rfl;rfl;exact yV hRv.1 id (yA yT (oC (by omega)))));clear hA a;intro a hA)|(refine QT ?_;clear hA a;intro a hA)|fail)
    (refine yO hA rfl rfl rfl (by decide) (zA rfl rfl rfl (qD w0 _ (own 5 1 oO m.wd.out.length cO (flat zV m.wd.out)::frz w0 c.K::all (sx.map obI)::own 134 6 oS fms.length cS (flat yD fms)::all (fms.map mpA)::mp bj jm::H) c bM g kd m.wd.inp oO oS oF m.wd.out.length cO fl.length cF fms.length cS pc bv bj (fuel - 1) xx kk ph (some (sat ob jb)) none m.fm.fm mm (va0.l.getD 0 rG) hH hmm (haa _ (List.mem_of_getElem? (oC (by omega)))) hP.ss hsz)) ?_;clear hA hH;rintro u w ⟨hu,hH⟩;refine ⟨STT,?_⟩;intro a hA)
    (refine yO hA rfl rfl rfl (by decide) (zA rfl rfl rfl (qD w0 _ (own 5 1 oO m.wd.out.length cO (flat zV m.wd.out)::frz w0 c.K::all (sx.map obI)::own 134 6 oS fms.length cS (flat yD fms)::all (fms.map mpA)::mp bj jm::H) c bM g kd m.wd.inp oO oS oF m.wd.out.length cO fl.length cF fms.length cS pc bv bj (fuel - 1) xx kk ph (some (sat ob jb)) none m.fm.fm mm (va0.l.getD 1 rG) hH hmm (haa _ (List.mem_of_getElem? (oC (by omega)))) hP.ss hsz)) ?_;clear hA hH;rintro v w ⟨hv,hH⟩;refine ⟨STT,?_⟩;intro a hA)
    replace hH:=hH.perm (H':=cb bM 136 (zJ g kd m.wd.inp oO m.wd.out.length cO++yQ oF fl.length cF g (fuel - 1) oS fms.length cS pc bv bj xx kk ph (some (sat ob jb)) none)::own 5 1 oO m.wd.out.length cO (flat zV m.wd.out)::frz w0 c.K::all (sx.map obI)::own 134 6 oS fms.length cS (flat yD fms)::all (fms.map mpA)::mp bv mm::mp bj jm::H) PMT
    repeat' (first|(refine QT ?_;clear hA a;intro a hA)|refine CT ?_|fail)
    (refine rC hA rfl rfl rfl (by decide) (zA rfl rfl rfl (enterSA hH hpc hmm hjm hfs hst hu hv hP hK0 hnf)) ?_;clear hA hH;rintro _ w hS a hA)
    repeat' (first|(refine QT ?_;clear hA a;intro a hA)|refine CT ?_|fail)
    exact rt0 (by first|exact .inl rfl|exact .inr rfl) rfl hA (by rw [sa_3 (hbk.trans h3),hba];exact hS)
  by_cases h7:k0=7
  · repeat' (first|(refine XT ?_;apply XE;(first|(apply zC;rfl;exact tF MEMT hb0 rfl));clear hA a;intro a hA)|(refine QT ?_;clear hA a;intro a hA)|(apply zO hA rfl rfl;apply zB (cs':=zJ g kd m.wd.inp oO m.wd.out.length cO++yQ oF fl.length cF g (fuel - 1) oS fms.length cS pc bv bj xx kk ph (some (sat ob jb)) none);rfl;rfl;rfl;exact hH;(repeat constructor);clear hH;rintro _ w hH)|refine CT ?_|(refine DT ?_ ?_<;>intro hc<;>try (exfalso;omega))|fail)
    (refine zK [(0,1),(1,1),(2,1),(3,1),(4,1),(5,1),(6,1),(7,1),(8,1),(9,1)] [10] mixed (by decide +kernel) hH ?_;replace hH:=hH.drew)
    repeat' (first|(refine XT ?_;apply XE;(first|(apply zC;rfl;exact tF MEMT hb0 rfl));clear hA a;intro a hA)|(refine QT ?_;clear hA a;intro a hA)|(apply zX hA rfl rfl rfl;apply xT;rfl;rfl;rfl;exact hH;(repeat constructor);clear hH;rintro _ w hH)|refine CT ?_|fail)
    repeat' (first|(refine QT ?_;clear hA a;intro a hA)|(apply zO hA rfl rfl;apply zB (cs':=zJ g kd m.wd.inp oO m.wd.out.length cO++yQ oF fl.length cF g (fuel - 1) oS fms.length cS pc bv bj xx kk ph (some (sat ko (Int.toNat 1*11))) none);rfl;rfl;rfl;exact hH;(repeat constructor);clear hH;rintro _ w hH)|refine CT ?_|fail)
    refine rt0 (by first|exact .inl rfl|exact .inr rfl) rfl hA (ArW.go (sa_7 (hbk.trans h7)) c.le_refl (Nat.le_succ _) ⟨oO,cO,oS,cS,pc,bv,bj,xx,kk,mm,mset jm n0 (.pointer (some (sat ob jb))),fms,sx,ph,_,?_,hpc,hmm,(by rw [hb];exact hjm.set n0 hpt),hfs,hst,(by rw [hb];exact pH hpt (by omega))⟩)
    exact hH
  by_cases h8:k0=8
  · obtain ⟨j,hj,hjl,hjk⟩:=hJ (hbk.trans h8)
    have hjR:=hJR (hbk.trans h8) j hj
    have hst8:=sa_8 (fl:=fl) (g:=g) (kd:=kd) (m:=m) (hbk.trans h8)
    rw [hj] at hst8
    rw [hba] at hjl hst8
    rw [hbn] at hj
    obtain ⟨pj,hlk,hpj⟩:=hjm.look hj
    obtain ⟨jk,jx,jxs,jn,jns,jr,ja,jko,jkc,jkids⟩:=j
    have hpj2:=hpj
    obtain ⟨o2,j2,rfl,hb3⟩:=hpj
    have hjl2:jxs.l.length=va0.l.length:=hjl
    have hjk2:0<jkids.length:=hjk
    have hxR:RdV w0 Fw.encI jxs:=by cases hjR with|mk h1 h2 h3 h4 h5 h6 h7=>exact h1.1
    have hspX:Sp jxs.o jxs.l.length:=hxR.1.sp (sz:=1) (zF Fw.encI_len _) (by omega)
    have hspJ:=pt_sp hb3 (hH.frz (by exact MEMT))
    have hkl2:jkids.length≤17592186044416:=by cases hjR with|mk h1 h2 h3 h4 h5 h6 h7=>exact h6.2
    repeat' (first|(refine XT ?_;apply XE;(first|(apply zC;rfl;exact tF MEMT hb0 rfl));clear hA a;intro a hA)|(refine QT ?_;clear hA a;intro a hA)|(apply zO hA rfl rfl;apply zB (cs':=zJ g kd m.wd.inp oO m.wd.out.length cO++yQ oF fl.length cF g (fuel - 1) oS fms.length cS pc bv bj xx kk ph (some (sat ob jb)) none);rfl;rfl;rfl;exact hH;(repeat constructor);clear hH;rintro _ w hH)|refine CT ?_|(refine DT ?_ ?_<;>intro hc<;>try (exfalso;omega))|fail)
    (refine zQ [(0,1),(1,1),(2,1),(3,1),(4,1),(5,1),(6,1),(7,1),(8,1),(9,1),(10,1)] mixed (by decide +kernel) hH ?_;replace hH:=hH.drew)
    repeat' (first|(refine XT ?_;apply XE;(first|(apply zC;rfl;exact tF MEMT hb0 rfl)|(apply qG;rfl;rfl;exact MEMT));clear hA a;intro a hA)|(refine QT ?_;clear hA a;intro a hA)|refine CT ?_|fail)
    rw [hlk] at hA
    dsimp only [Option.getD] at hA
    replace hH:=hH.perm (H':=cb bM 136 (zJ g kd m.wd.inp oO m.wd.out.length cO++yQ oF fl.length cF g (fuel - 1) oS fms.length cS pc bv bj xx kk ph (some (sat ob jb)) none)::mp bv mm::own 5 1 oO m.wd.out.length cO (flat zV m.wd.out)::frz w0 c.K::all (sx.map obI)::own 134 6 oS fms.length cS (flat yD fms)::all (fms.map mpA)::mp bj jm::H) PMT
    (refine zH hA rfl rfl (by decide) (zA rfl rfl rfl (cK w0 _ (own 5 1 oO m.wd.out.length cO (flat zV m.wd.out)::frz w0 c.K::all (sx.map obI)::own 134 6 oS fms.length cS (flat yD fms)::all (fms.map mpA)::mp bj jm::H) c bM g kd m.wd.inp oO oS oF m.wd.out.length cO fl.length cF fms.length cS pc bv bj (fuel - 1) xx kk ph (some (sat ob jb)) none m.fm.fm mm va0 hH hmm haa hP.ss hsz hRv (by omega))) ?_;clear hA hH;rintro _ w ⟨oL,cL,vs,rfl,hV,hH⟩ a hA)
    have hvl:=hV.len
    rw [uV] at hvl
    have hspL:=hH.own_sp (T:=137) (o:=oL) (by exact MEMT)
    repeat' (first|(refine XT ?_;apply XE;(first|(apply zC;rfl;exact tF MEMT hb3 rfl));clear hA a;intro a hA)|(refine QT ?_;clear hA a;intro a hA)|refine CT ?_|fail)
    have hal:(xB g m.fm.fm va0.l).length=jxs.l.length:=by rw [uV];exact hjl2.symm
    refine yK (S:=Nat) (fun i a w=>∃m',(i≤jxs.l.length∧MapR c (rL m.fm.vs (jxs.l.take i) ((xB g m.fm.fm va0.l).take i)) m')∧HS w0 noM (cb bM 136 (zJ g kd m.wd.inp oO m.wd.out.length cO++yQ oF fl.length cF g (fuel - 1) oS fms.length cS pc bv bj xx kk ph (some (sat ob jb)) none)::mp bv m'::own 137 1 oL vs.length cL vs::own 5 1 oO m.wd.out.length cO (flat zV m.wd.out)::frz w0 c.K::all (sx.map obI)::own 134 6 oS fms.length cS (flat yD fms)::all (fms.map mpA)::mp bj jm::H) w∧Sl 206 [(182,.int .i64 i),(181,.int .i64 jxs.l.length),(180,.slice jxs.o jxs.l.length jxs.c),(4,.slice oL vs.length cL),(3,.pointer (some (sat o2 j2))),(0,.pointer (some (bat bM 0)))] a) (fun i=>jxs.l.length - i)
      (fun a w=>∃m',MapR c (rL m.fm.vs jxs.l (xB g m.fm.fm va0.l)) m'∧HS w0 noM (cb bM 136 (zJ g kd m.wd.inp oO m.wd.out.length cO++yQ oF fl.length cF g (fuel - 1) oS fms.length cS pc bv bj xx kk ph (some (sat ob jb)) none)::mp bv m'::own 137 1 oL vs.length cL vs::own 5 1 oO m.wd.out.length cO (flat zV m.wd.out)::frz w0 c.K::all (sx.map obI)::own 134 6 oS fms.length cS (flat yD fms)::all (fms.map mpA)::mp bj jm::H) w∧Sl 206 [(3,.pointer (some (sat o2 j2))),(0,.pointer (some (bat bM 0)))] a) 0 ⟨mm,⟨Nat.zero_le _,by rw [List.take_zero,List.take_zero];exact hmm⟩,hH.perm PMT,(hA.sub SBT)⟩ ?_ ?_
    · clear hA hH
      rintro i a w ⟨m',⟨hi,hm'⟩,hH,hA⟩
      by_cases hlt:i<jxs.l.length
      rotate_left
      · repeat' (first|(refine QT ?_;clear hA a;intro a hA)|refine CT ?_|(refine DT ?_ ?_<;>intro hc<;>try (exfalso;omega))|fail)
        obtain rfl:i=jxs.l.length:=by omega
        refine ⟨m',?_,hH,(hA.sub SBT)⟩
        rw [List.take_length,←hal,List.take_length] at hm'
        exact hm'
      obtain ⟨p,hp1⟩:∃p,jxs.l[i]?=some p:=⟨_,List.getElem?_eq_getElem hlt⟩
      obtain ⟨v,hv1,hx1⟩:=hV.get0 (i:=i) (by omega)
      have hv2:(xB g m.fm.fm va0.l)[i]?=some (yI (xB g m.fm.fm va0.l) i):=by
        unfold yI
        rw [List.getD_eq_getElem?_getD,List.getElem?_eq_getElem (by omega)];rfl
      have hpv:(flat Fw.encI jxs.l)[i*1]?=some (.int .i64 p):=sV Fw.encI_len hp1 rfl
      have hvv:vs[i*1]?=some v:=by rw [Nat.mul_one];exact hv1
      repeat' (first|(refine XT ?_;apply XE;(first|(apply zE;rfl;rfl;omega;first|exact hspX|exact hspL)|(apply zC;rfl;exact xP hxR.1 id hpv));clear hA a;intro a hA)|(refine QT ?_;clear hA a;intro a hA)|refine CT ?_|(refine DT ?_ ?_<;>intro hc<;>try (exfalso;omega))|fail)
      (refine zK [(0,1),(1,1),(2,1),(3,1),(4,1),(5,1),(6,1),(7,1),(8,1),(9,1)] [10] mixed (by decide +kernel) hH ?_;replace hH:=hH.drew)
      repeat' (first|(refine XT ?_;apply XE;(first|(apply zE;rfl;rfl;omega;exact hspL)|(apply zC;rfl;exact uD (T:=137) (o:=oL) MEMT hvv));clear hA a;intro a hA)|(refine QT ?_;clear hA a;intro a hA)|(apply zX hA rfl rfl rfl;apply xT;rfl;rfl;rfl;exact hH;(repeat constructor);clear hH;rintro _ w hH)|refine CT ?_|fail)
      exact ⟨i+1,⟨_,⟨hlt,by rw [gE hp1 hv2];exact hm'.set _ hx1⟩,hH,(hA.sub SBT)⟩,by omega⟩
    clear hA hH
    rintro a w ⟨m',hm',hH,hA⟩
    repeat' (first|(refine XT ?_;apply XE;(first|(apply zC;rfl;exact tF MEMT hb3 rfl)|(apply zD;rfl;rfl;decide;omega;exact hspJ));clear hA a;intro a hA)|(refine QT ?_;clear hA a;intro a hA)|(apply zO hA rfl rfl;apply zB (cs':=zJ g kd m.wd.inp oO m.wd.out.length cO++yQ oF fl.length cF g (fuel - 1) oS fms.length cS pc bv bj xx kk ph (some (sat jko (Int.toNat 0*11))) none);rfl;rfl;rfl;exact hH;(repeat constructor);clear hH;rintro _ w hH)|refine CT ?_|fail)
    refine rt0 (by first|exact .inl rfl|exact .inr rfl) rfl hA (ArW.go hst8 c.le_refl (Nat.le_succ _) ⟨oO,cO,oS,cS,pc,bv,bj,xx,kk,m',jm,fms,sx,ph,_,?_,hpc,hm',hjm,hfs,hst,pH hpj2 hjk2⟩)
    exact (hH.rm 2).perm PMT
  have hk:k0=4∨k0=5∨k0=6:=by omega
  have ex:=sa_x (fl:=fl) (g:=g) (kd:=kd) (m:=m) (by rw [hbk];exact ⟨h1,h2,h3,h7,h8⟩)
  have hal1:va0.l.length=1:=hsha.1 (by omega)
  rw [hba,hbk] at ex
  repeat' (first|(refine XT ?_;apply XE;(first|(apply zC;rfl;exact tF MEMT hb0 rfl)|(apply zD;rfl;rfl;decide;omega;exact hspA)|(apply zG (vs:=zN (va0.l.getD 0 rG));rfl;rfl;exact yV hRv.1 id (yA yT (oC (by omega)))));clear hA a;intro a hA)|(refine QT ?_;clear hA a;intro a hA)|(apply zO hA rfl rfl;apply zB (cs':=zJ g kd m.wd.inp oO m.wd.out.length cO++yQ oF fl.length cF g (fuel - 1) oS fms.length cS pc bv bj xx kk ph (some (sat ob jb)) none);rfl;rfl;rfl;exact hH;(repeat constructor);clear hH;rintro _ w hH)|refine CT ?_|(refine DT ?_ ?_<;>intro hc<;>try (exfalso;omega))|fail)
  replace hH:=hH.perm (H':=cb bM 136 (zJ g kd m.wd.inp oO m.wd.out.length cO++yQ oF fl.length cF g (fuel - 1) oS fms.length cS pc bv bj xx kk ph (some (sat ob jb)) none)::mp bv mm::own 5 1 oO m.wd.out.length cO (flat zV m.wd.out)::frz w0 c.K::all (sx.map obI)::own 134 6 oS fms.length cS (flat yD fms)::all (fms.map mpA)::mp bj jm::H) PMT
  (refine zH hA rfl rfl (by decide) (zA rfl rfl rfl (qD w0 _ (own 5 1 oO m.wd.out.length cO (flat zV m.wd.out)::frz w0 c.K::all (sx.map obI)::own 134 6 oS fms.length cS (flat yD fms)::all (fms.map mpA)::mp bj jm::H) c bM g kd m.wd.inp oO oS oF m.wd.out.length cO fl.length cF fms.length cS pc bv bj (fuel - 1) xx kk ph (some (sat ob jb)) none m.fm.fm mm (va0.l.getD 0 rG) hH hmm (haa _ (List.mem_of_getElem? (oC (by omega)))) hP.ss hsz)) ?_;clear hA hH;rintro u w ⟨hu,hH⟩ a hA)
  rcases hu.asNum with ⟨n,hs,rfl,hn⟩| ⟨hs,hn⟩
  rotate_left
  · rw [hs] at ex
    dsimp only at ex
    replace hH:=hH.perm (H':=cb bM 136 (zJ g kd m.wd.inp oO m.wd.out.length cO++yQ oF fl.length cF g (fuel - 1) oS fms.length cS pc bv bj xx kk ph (some (sat ob jb)) none)::own 5 1 oO m.wd.out.length cO (flat zV m.wd.out)::frz w0 c.K::all (sx.map obI)::own 134 6 oS fms.length cS (flat yD fms)::all (fms.map mpA)::mp bv mm::mp bj jm::H) PMT
    repeat' (first|(refine XT ?_;apply XE;(first|(apply yC;rfl;exact hn));clear hA a;intro a hA)|(refine QT ?_;clear hA a;intro a hA)|refine CT ?_|fail)
    (refine zH hA rfl rfl (by decide) (zA rfl rfl rfl (lR hH hpc hmm hjm hfs hst 4 empS)) ?_;clear hA hH;rintro _ w hS a hA)
    repeat' (first|(refine QT ?_;clear hA a;intro a hA)|refine CT ?_|fail)
    exact rt0 (by first|exact .inl rfl|exact .inr rfl) rfl hA (ArW.stop (by rw [ex];rfl) hS)
  rw [hs] at ex
  dsimp only at ex
  replace hH:=hH.perm (H':=cb bM 136 (zJ g kd m.wd.inp oO m.wd.out.length cO++yQ oF fl.length cF g (fuel - 1) oS fms.length cS pc bv bj xx kk ph (some (sat ob jb)) none)::own 5 1 oO m.wd.out.length cO (flat zV m.wd.out)::frz w0 c.K::all (sx.map obI)::own 134 6 oS fms.length cS (flat yD fms)::all (fms.map mpA)::mp bv mm::mp bj jm::H) PMT
  by_cases h4:k0=4
  · rw [if_pos h4] at ex
    repeat' (first|(refine XT ?_;apply XE;(first|(apply zL;rfl)|(apply zC;rfl;exact tF MEMT hb0 rfl));clear hA a;intro a hA)|(refine QT ?_;clear hA a;intro a hA)|refine CT ?_|(refine DT ?_ ?_<;>intro hc<;>try (exfalso;omega))|fail)
    (refine zH hA rfl rfl (by decide) (zA rfl rfl rfl (raiseSA hH hpc hmm hjm hfs hst c.le_refl (Nat.le_succ _) hn hP hK0 hnf hfl hxs)) ?_;clear hA hH;rintro _ w hS a hA)
    repeat' (first|(refine QT ?_;clear hA a;intro a hA)|refine CT ?_|fail)
    exact rt0 (by first|exact .inl rfl|exact .inr rfl) rfl hA (by rw [ex];exact hS)
  rw [if_neg h4] at ex
  by_cases h5:k0=5
  · rw [if_pos h5] at ex
    repeat' (first|(refine XT ?_;apply XE;(first|(apply zL;rfl)|(apply zC;rfl;exact tF MEMT hb0 rfl));clear hA a;intro a hA)|(refine QT ?_;clear hA a;intro a hA)|refine CT ?_|(refine DT ?_ ?_<;>intro hc<;>try (exfalso;omega))|fail)
    (refine zK [(0,1),(1,1),(2,1),(3,1),(4,1),(5,1),(6,1),(7,0),(8,1),(9,1),(10,1),(11,1)] [12] mixed (by decide +kernel) hH ?_;replace hH:=hH.drew)
    by_cases hz:n=0
    · have htr:tru (decide (n≠0))=0:=by rw [decide_eq_false (by simpa using hz)];rfl
      rw [if_pos hz] at ex
      repeat' (first|(refine XT ?_;apply XE;(first|(apply zC;rfl;exact tF MEMT hb0 rfl)|(apply zD;rfl;rfl;decide;omega;exact hspK));clear hA a;intro a hA)|(refine QT ?_;clear hA a;intro a hA)|(refine yO hA rfl rfl rfl (by decide) (zA rfl rfl rfl (Truth_spec _ _)) ?_;clear hA;rintro _ w ⟨rfl,hk2⟩;replace hH:=hH.keep hk2;refine ⟨STT,?_⟩;intro a hA;rw [htr] at hA)|refine CT ?_|fail)
      repeat' (first|(refine QT ?_;clear hA a;intro a hA)|(apply zX hA rfl rfl rfl;apply zB (cs':=zJ g kd m.wd.inp oO m.wd.out.length cO++yQ oF fl.length cF g (fuel - 1) oS fms.length cS pc bv bj xx kk ph (some (sat ko (Int.toNat 1*11))) none);rfl;rfl;rfl;exact hH;(repeat constructor);clear hH;rintro _ w hH)|refine CT ?_|fail)
      refine rt0 (by first|exact .inl rfl|exact .inr rfl) rfl hA (ArW.go ex c.le_refl (Nat.le_succ _) ⟨oO,cO,oS,cS,pc,bv,bj,xx,kk,mm,jm,fms,sx,ph,_,hH,hpc,hmm,hjm,hfs,hst,(by rw [hb];exact pH hpt (by omega))⟩)
    · have htr:tru (decide (n≠0))=1:=by rw [decide_eq_true hz];rfl
      rw [if_neg hz] at ex
      repeat' (first|(refine XT ?_;apply XE;(first|(apply zC;rfl;exact tF MEMT hb0 rfl)|(apply zD;rfl;rfl;decide;omega;exact hspK));clear hA a;intro a hA)|(refine QT ?_;clear hA a;intro a hA)|(refine yO hA rfl rfl rfl (by decide) (zA rfl rfl rfl (Truth_spec _ _)) ?_;clear hA;rintro _ w ⟨rfl,hk2⟩;replace hH:=hH.keep hk2;refine ⟨STT,?_⟩;intro a hA;rw [htr] at hA)|refine CT ?_|fail)
      repeat' (first|(refine QT ?_;clear hA a;intro a hA)|(apply zX hA rfl rfl rfl;apply zB (cs':=zJ g kd m.wd.inp oO m.wd.out.length cO++yQ oF fl.length cF g (fuel - 1) oS fms.length cS pc bv bj xx kk ph (some (sat ko (Int.toNat 0*11))) none);rfl;rfl;rfl;exact hH;(repeat constructor);clear hH;rintro _ w hH)|refine CT ?_|fail)
      refine rt0 (by first|exact .inl rfl|exact .inr rfl) rfl hA (ArW.go ex c.le_refl (Nat.le_succ _) ⟨oO,cO,oS,cS,pc,bv,bj,xx,kk,mm,jm,fms,sx,ph,_,hH,hpc,hmm,hjm,hfs,hst,(by rw [hb];exact pH hpt (by omega))⟩)
  have h6:k0=6:=by omega
  rw [if_neg h5] at ex
  have hks:kids.length=ns0.l.length+1:=hW.ks h6
  have hRn:RdV w0 Fw.encI ns0:=by cases hRd with|mk h1 h2 h3 h4 h5 h6 h7=>exact h2.1
  have hbns:m.b.ns=ns0:=by rw [hb];rfl
  rw [hbns] at ex
  have hbi:=eD ns0.l n
  obtain ⟨i0,hi1⟩:∃i:Nat,i=if bsB ns0.l n=true then bsI ns0.l n else ns0.l.length:=⟨_,rfl⟩
  rw [←hi1] at ex
  have hi0:i0<kids.length:=by rw [hi1];split<;>omega
  repeat' (first|(refine XT ?_;apply XE;(first|(apply zL;rfl)|(apply zC;rfl;exact tF MEMT hb0 rfl));clear hA a;intro a hA)|(refine QT ?_;clear hA a;intro a hA)|refine CT ?_|(refine DT ?_ ?_<;>intro hc<;>try (exfalso;omega))|fail)
  (refine zH hA rfl rfl (by decide) (zA rfl rfl rfl (jV _ _ _ _ _ (hH.rd hRn.1 id) (by omega))) ?_;clear hA;rintro _ w ⟨rfl,hk2⟩ a hA;replace hH:=hH.keep hk2)
  cases hbb:bsB ns0.l n
  · rw [hbb,if_neg (by decide)] at hi1
    subst hi1
    rw [hbb] at hA
    repeat' (first|(refine XT ?_;apply XE;(first|(apply zC;rfl;exact tF MEMT hb0 rfl)|(apply zE;rfl;rfl;omega;exact hspK));clear hA a;intro a hA)|(refine QT ?_;clear hA a;intro a hA)|(apply zO hA rfl rfl;apply zB (cs':=zJ g kd m.wd.inp oO m.wd.out.length cO++yQ oF fl.length cF g (fuel - 1) oS fms.length cS pc bv bj xx kk ph (some (sat ko (ns0.l.length*11))) none);rfl;rfl;rfl;exact hH;(repeat constructor);clear hH;rintro _ w hH)|refine CT ?_|fail)
    refine rt0 (by first|exact .inl rfl|exact .inr rfl) rfl hA (ArW.go ex c.le_refl (Nat.le_succ _) ⟨oO,cO,oS,cS,pc,bv,bj,xx,kk,mm,jm,fms,sx,ph,_,hH,hpc,hmm,hjm,hfs,hst,(by rw [hb];exact pH hpt hi0)⟩)
  · rw [hbb,if_pos rfl] at hi1
    subst hi1
    rw [hbb] at hA
    repeat' (first|(refine XT ?_;apply XE;(first|(apply zC;rfl;exact tF MEMT hb0 rfl)|(apply zE;rfl;rfl;omega;exact hspK));clear hA a;intro a hA)|(refine QT ?_;clear hA a;intro a hA)|(apply zO hA rfl rfl;apply zB (cs':=zJ g kd m.wd.inp oO m.wd.out.length cO++yQ oF fl.length cF g (fuel - 1) oS fms.length cS pc bv bj xx kk ph (some (sat ko (bsI ns0.l n*11))) none);rfl;rfl;rfl;exact hH;(repeat constructor);clear hH;rintro _ w hH)|refine CT ?_|fail)
    refine rt0 (by first|exact .inl rfl|exact .inr rfl) rfl hA (ArW.go ex c.le_refl (Nat.le_succ _) ⟨oO,cO,oS,cS,pc,bv,bj,xx,kk,mm,jm,fms,sx,ph,_,hH,hpc,hmm,hjm,hfs,hst,(by rw [hb];exact pH hpt hi0)⟩)
end
end Go.Proofs.YtenlcdokaadobaaGreatDoor
