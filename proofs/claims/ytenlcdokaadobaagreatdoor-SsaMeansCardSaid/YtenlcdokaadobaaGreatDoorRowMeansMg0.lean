/-
  A small frame for walks: what the slots of a frame hold, as a list of pairs; what memory holds, as a list of parts that lie apart; one rule an operation.
  It names no program. Conditions: none.
  The frame for walks, second part: operations on memory. It names no program. Conditions: none.
  The frame for walks, third part: slices that are made and grown; calls; code. It names no program. Conditions: none.
  The frame for walks, fourth part: calls, code, loops, regions that draw their order. It names no program. Conditions: none.
-/
import Derived.WalkKit
import Derived.OrdersHeld
import Derived.Maps.AppendAt
import Derived.Laws.AppendOwnNone
import Derived.Deep.RegionHeld3
namespace Go.Fw
open Go Go.RowKit
set_option linter.unusedVariables false
def lk:List (Nat × Value)→Nat→Option Value
  | [],_=>none
  |(i,v)::l,j=>cond (Nat.beq i j) (some v) (lk l j)

def nth {α:Type}:List α→Nat→Option α
  | [],_=>none
  |x::_,0=>some x
  |_::l,i+1=>nth l i
theorem pJ {α:Type}:∀(l:List α) (i:Nat),nth l i=l[i]?
  | [],i=>by simp [nth]
  |x::l,0=>rfl
  |x::l,i+1=>by simpa [nth] using pJ l i

def ev (l:List (Nat × Value)):Operand→Option Value
  | .tmp t=>lk l t
  | .const v=>some v
  | .global g=>some (.pointer (some ⟨g,0,none⟩))
  | .func f=>some (.func (.func f) #[] #[])

def evL (l:List (Nat × Value)):List Operand→Option (List Value)
  | []=>some []
  | x::xs=>match ev l x,evL l xs with
    |some v,some vs=>some (v::vs)
    |_,_=>none

structure Sl0 (N:Nat) (l:List (Nat × Value)) (a:Act):Prop where
  size:a.tmps.size=N
  get:∀i v,lk l i=some v→a.tmps[i]?=some v
structure Sl (N:Nat) (l:List (Nat × Value)) (a:Act) (Ds:List Deferred:=[]):Prop extends Sl0 N l a where
  defers:a.defers=Ds

theorem Sl0.ev {N:Nat} {l:List (Nat × Value)} {a:Act} (h:Sl0 N l a) {x:Operand} {v:Value} (hx:ev l x=some v):a.eval x=v:=by
  cases x with
  | tmp t=>
    have:=h.get t v hx
    simp [Act.eval,this,Array.getD_eq_getD_getElem?]
  |const c=>simpa [Fw.ev,Act.eval] using hx
  |global g=>simpa [Fw.ev,Act.eval] using hx
  |func f=>simpa [Fw.ev,Act.eval] using hx

theorem Sl0.evL {N:Nat} {l:List (Nat × Value)} {a:Act} (h:Sl0 N l a):∀{xs:List Operand} {vs:List Value},evL l xs=some vs→xs.map a.eval=vs
  | [],vs,hx=>by simpa [Fw.evL] using hx
  | x ::xs,vs,hx=>by
    simp only [Fw.evL] at hx
    split at hx
    · rename_i v vs' h1 h2
      obtain rfl:v::vs'=vs:=by simpa using hx
      simp [h.ev h1,h.evL h2]
    · cases hx

theorem Sl.put {N:Nat} {l:List (Nat × Value)} {a:Act} {Ds:List Deferred} (h:Sl N l a Ds) {d:Nat} (hd:d<N) (v:Value):Sl N ((d,v)::l) (a.put (some d) v) Ds:=by
  refine ⟨⟨by simp [Act.put,h.size],fun i u hi=>?_⟩,h.defers⟩
  simp only [lk] at hi
  simp only [Act.put]
  by_cases hdi:d=i
  · subst hdi
    simp at hi
    subst hi
    simp [h.size,hd]
  · have hb:Nat.beq d i=false:=by
      cases hb:Nat.beq d i with
      |false=>rfl
      |true=>exact absurd (Nat.eq_of_beq_eq_true hb) hdi
    simp only [hb,cond_false] at hi
    rw [Array.getElem?_setIfInBounds_ne hdi]
    exact h.get i u hi

def Subs (l:List (Nat × Value)):List (Nat × Value)→Prop
  | []=>True
  |(i,v)::r=>lk l i=some v∧Subs l r

theorem Subs.get {l:List (Nat × Value)}:∀{r:List (Nat × Value)},Subs l r→∀i v,lk r i=some v→lk l i=some v
  | [],_,i,v,h=>by simp [lk] at h
  | (j, u)::r,hs,i,v,h=>by
    simp only [lk] at h
    by_cases hji:j=i
    · subst hji
      simp at h
      subst h
      exact hs.1
    · have hb:Nat.beq j i=false:=by
        cases hb:Nat.beq j i with
        |false=>rfl
        |true=>exact absurd (Nat.eq_of_beq_eq_true hb) hji
      simp only [hb,cond_false] at h
      exact hs.2.get i v h

theorem Sl.sub {N:Nat} {l r:List (Nat × Value)} {a:Act} {Ds:List Deferred} (h:Sl N l a Ds) (hs:Subs l r):Sl N r a Ds:=
  ⟨⟨h.size,fun i v hi=>h.get i v (hs.get i v hi)⟩,h.defers⟩

def gd (ops:Array Oper) (l:List (Nat × Value)):Option (Nat × Bool)→Option Bool
  |none=>some true
  | some (j,want)=>match (ops[j]?).bind (·.dst) with
    |none=>some false
    | some d=>match lk l d with
      |some (.bool b)=>some (b == want)
      |some (.tuple _)=>some false
      |_=>none

theorem Sl0.gd {N:Nat} {l:List (Nat × Value)} {a:Act} (h:Sl0 N l a) {ops:Array Oper} {o:Oper} {b:Bool} (hg:gd ops l o.guard=some b) :
    Region.wanted o (yielded ops a.tmps)=b:=by
  unfold Region.wanted
  unfold Fw.gd at hg
  cases hgo:o.guard with
  |none=>rw [hgo] at hg;simpa using hg
  | some p=>
    obtain ⟨j,want⟩:=p
    rw [hgo] at hg
    simp only at hg ⊢
    unfold yielded
    cases hd:(ops[j]?).bind (·.dst) with
    |none=>rw [hd] at hg;simp at hg;subst hg;simp
    | some d=>
      rw [hd] at hg
      simp only at hg
      simp only [Option.bind_some]
      cases hl:lk l d with
      |none=>rw [hl] at hg;simp at hg
      | some v=>
        rw [hl] at hg
        rw [h.get d v hl]
        cases v<;>simp at hg ⊢<;>first|exact hg|(subst hg;rfl)

def isG (ops:Array Oper) (d:Nat):Bool:=
  ops.toList.any fun o=>match o.guard with
    |none=>false
    | some (j,_)=>match (ops[j]?).bind (·.dst) with
      |some e=>Nat.beq d e
      |none=>false

section
variable {P:Program} {N:Nat} {l:List (Nat × Value)} {a:Act} {Ds:List Deferred} {w:World} {ops:Array Oper} {rest:List Oper} {Q:Exit→Act→World→Prop}

def Ex (P:Program) (N:Nat) (l:List (Nat × Value)) (C:World→Prop) (o:Oper) (v:Value):Prop:=
  ∀a w,Sl0 N l a→C w→(execOp a.eval o).run P w= .ok (.value v) w

def Op1 (P:Program) (N:Nat) (l:List (Nat × Value)) (o:Oper) (w:World) (R:Value→World→Prop):Prop:=
  ∀a,Sl0 N l a→∀(K:Act→World→Prop) (Q:Exit→Act→World→Prop),(∀v w',R v w'→K (a.put o.dst v) w')→o.wp P a w K Q

theorem Ex.op1 {C:World→Prop} {o:Oper} {v:Value} (h:Ex P N l C o v) (hC:C w):Op1 P N l o w (fun v' w'=>v'=v∧w'=w):=by
  intro a hA K Q hK
  unfold Oper.wp
  rw [h a w hA hC]
  exact hK v w ⟨rfl,rfl⟩

theorem zH {o:Oper} {d:Nat} {R:Value→World→Prop} (hA:Sl N l a Ds) (hg:gd ops l o.guard=some true) (hd:o.dst=some d) (hdN:d<N)
    (h:Op1 P N l o w R) (k:∀v w',R v w'→∀a',Sl N ((d,v)::l) a' Ds→wpList P ops Q rest a' w'):wpList P ops Q (o::rest) a w:=by
  unfold wpList
  rw [if_pos (hA.gd hg)]
  refine .inl (h a hA.toSl0 _ _ fun v w' hR=>?_)
  rw [hd]
  exact k v w' hR _ (hA.put hdN v)

theorem zO {o:Oper} {R:Value→World→Prop} (hA:Sl N l a Ds) (hg:gd ops l o.guard=some true) (hd:o.dst=none)
    (h:Op1 P N l o w R) (k:∀v w',R v w'→wpList P ops Q rest a w'):wpList P ops Q (o::rest) a w:=by
  unfold wpList
  rw [if_pos (hA.gd hg)]
  refine .inl (h a hA.toSl0 _ _ fun v w' hR=>?_)
  rw [hd]
  exact k v w' hR

theorem mM {C:World→Prop} {o:Oper} {d:Nat} {v:Value} (hA:Sl N l a Ds) (hC:C w) (hg:gd ops l o.guard=some true) (hd:o.dst=some d) (hdN:d<N)
    (h:Ex P N l C o v) (k:∀a',Sl N ((d,v)::l) a' Ds→wpList P ops Q rest a' w):wpList P ops Q (o::rest) a w:=
  zH hA hg hd hdN (h.op1 hC) fun v' w' ⟨hv,hw⟩ a' hA'=>by subst hv;subst hw;exact k a' hA'

theorem st_exb {C:World→Prop} {o:Oper} {d:Nat} {b:Bool} (hA:Sl N l a Ds) (hC:C w) (hg:gd ops l o.guard=some true) (hd:o.dst=some d) (hdN:d<N) (hG:isG ops d=true)
    (h:Ex P N l C o (.bool b)) (kt:b=true→∀a',Sl N ((d,.bool true)::l) a' Ds→wpList P ops Q rest a' w)
    (kf:b=false→∀a',Sl N ((d,.bool false)::l) a' Ds→wpList P ops Q rest a' w):wpList P ops Q (o::rest) a w:=
  mM hA hC hg hd hdN h fun a' hA'=>by
    cases hb:b with
    |true=>exact kt hb a' (hb▸hA')
    |false=>exact kf hb a' (hb▸hA')

theorem st_skip {o:Oper} {d:Nat} (hA:Sl N l a Ds) (hg:gd ops l o.guard=some false) (hd:o.dst=some d) (hdN:d<N)
    (k:∀a',Sl N ((d,undef)::l) a' Ds→wpList P ops Q rest a' w):wpList P ops Q (o::rest) a w:=by
  unfold wpList
  rw [if_neg (by rw [hA.gd hg];simp),hd]
  exact k _ (hA.put hdN _)

theorem st_cut (R:Act→World→Prop) {ls:List Oper} (h:wpList P ops (Exit.then R Q) ls a w) (k:∀a w,R a w→Q .normal a w):wpList P ops Q ls a w:=by
  induction ls generalizing a w with
  |nil=>exact k a w h
  | cons o rest ih=>
    unfold wpList at h ⊢
    split
    · rename_i hw
      rw [if_pos hw] at h
      rcases h with h| ⟨h1,h2⟩
      · refine .inl (Oper.wp_mono (Q:=Q) (K:=wpList P ops (Exit.then R Q) rest) (fun a w h=>ih h) ?_)
        unfold Oper.wp at *
        generalize (execOp a.eval o).run P w=r at *
        cases r with
        |ok n w'=>cases n<;>simp only [Oper.upon] at h ⊢<;>exact h
        |halt x w'=>cases x<;>simp only [Oper.upon] at h ⊢<;>exact h
      · exact .inr ⟨h1,by obtain ⟨a',w3,h3⟩:=h2;exact ⟨a',w3,h3⟩⟩
    · rename_i hw
      rw [if_neg hw] at h
      exact ih h
end

class TSc (P:Program) (t:TypeId):Prop where
  eq:∃d,P.underlying t=some d∧(match d with| .struct _| .array _ _=>true|_=>false)=false
class TIn (P:Program) (t:TypeId) (k:outParam IntKind):Prop where
  eq:P.underlying t=some (.int k)
class TBo (P:Program) (t:TypeId):Prop where
  eq:P.underlying t=some .bool
class TSr (P:Program) (t:TypeId):Prop where
  eq:P.underlying t=some .string
class TSl (P:Program) (t:TypeId) (e:outParam TypeId):Prop where
  eq:P.underlying t=some (.slice e)
class TMp (P:Program) (t:TypeId) (k e:outParam TypeId):Prop where
  eq:P.underlying t=some (.map k e)
class TPt (P:Program) (t:TypeId):Prop where
  eq:P.underlying t=some (.pointer (P.pointee t))
class TIf (P:Program) (t:TypeId) (z:outParam Value) (zs:outParam (List Value)) (sz by_:outParam Nat):Prop where
  eq:∃i,P.info? t=some i∧i.zero=some z∧i.size=sz∧i.bytes=by_
  zc:z.cells.toList=zs
class TSt (P:Program) (t:TypeId) (l:outParam (List (Nat × Nat))):Prop where
  eq:∃fs,P.underlying t=some (.struct fs)∧fs.toList.map (fun f=>(f.type,f.offset))=l
  pos:∀p∈l,∃i,P.info? p.1=some i∧i.size≠0

def mF:Option Addr→Nat
  |some a=>a.block
  |none=>0
def gM:Option Addr→Nat
  |some a=>a.off
  |none=>0
def sat (o:Option Addr) (j:Nat):Addr:=⟨mF o,gM o+j,none⟩
def bat (b j:Nat):Addr:=⟨b,j,none⟩
def Sp (o:Option Addr) (n:Nat):Prop:=0<n→∃b off,o=some ⟨b,off,none⟩

theorem oZ (o:Option Addr) (j n:Nat):(sat o j).add n=sat o (j+n):=by
  unfold Addr.add sat;split<;>simp_all [Nat.add_assoc]
theorem bat_add (b j n:Nat):(bat b j).add n=bat b (j+n):=by
  unfold Addr.add bat;split<;>simp_all
theorem sp_add {o:Option Addr} {n:Nat} (h:Sp o n) (hn:0<n) (j:Nat):∃a,o=some a∧a.add j=sat o j:=by
  obtain ⟨b,off,rfl⟩:=h hn
  refine ⟨_,rfl,?_⟩
  unfold Addr.add sat mF gM
  split<;>simp_all

section
variable {P:Program} {N:Nat} {l:List (Nat × Value)} {C:World→Prop} {d:Option Tmp} {T:TypeId} {pos:String} {af:Array Edge} {g:Option (Nat × Bool)}

theorem xC {x:Operand} {v:Value} (hx:ev l x=some v):Ex P N l C ⟨d,.move x,T,pos,af,g⟩ v:=by
  intro a w hA _
  simp [execOp,hA.ev hx]
theorem wJ {x:Operand} {v:Value} (hx:ev l x=some v):Ex P N l C ⟨d,.assign x,T,pos,af,g⟩ v:=by
  intro a w hA _
  simp [execOp,hA.ev hx]
theorem ex_pick_t {c x y:Operand} {v:Value} (hc:ev l c=some (.bool true)) (hx:ev l x=some v):Ex P N l C ⟨d,.pick c x y,T,pos,af,g⟩ v:=by
  intro a w hA _
  simp [execOp,hA.ev hc,hA.ev hx,asBool]
theorem ex_pick_f {c x y:Operand} {v:Value} (hc:ev l c=some (.bool false)) (hy:ev l y=some v):Ex P N l C ⟨d,.pick c x y,T,pos,af,g⟩ v:=by
  intro a w hA _
  simp [execOp,hA.ev hc,hA.ev hy,asBool]
theorem ex_extract {x:Operand} {i:Nat} {vs:List Value} {v:Value} (hx:ev l x=some (.tuple vs.toArray)) (hv:nth vs i=some v):Ex P N l C ⟨d,.extract x i,T,pos,af,g⟩ v:=by
  intro a w hA _
  rw [pJ] at hv
  simp [execOp,hA.ev hx,Instr.extract,hv]
theorem ex_not {t:TypeId} {x:Operand} {b:Bool} (hx:ev l x=some (.bool b)):Ex P N l C ⟨d,.unOp .not t x,T,pos,af,g⟩ (.bool (!b)):=by
  intro a w hA _
  simp [execOp,hA.ev hx,Op.unary]
theorem ex_nilCheck {x:Operand} {p:Addr} (hx:ev l x=some (.pointer (some p))):Ex P N l C ⟨d,.nilCheck x,T,pos,af,g⟩ (.pointer (some p)):=by
  intro a w hA _
  simp [execOp,hA.ev hx]
theorem kG {s:TypeId} {x:Operand} {i j ft off:Nat} {o:Option Addr} {fl:List (Nat × Nat)} [h:TSt P s fl] (hx:ev l x=some (.pointer (some (sat o j)))) (hf0:nth fl i=some (ft,off)) :
    Ex P N l C ⟨d,.fieldAddr s x i,T,pos,af,g⟩ (.pointer (some (sat o (j+off)))):=by
  intro a w hA _
  have hf:=hf0
  rw [pJ] at hf
  obtain ⟨fs,h1,h2⟩:=h.eq
  obtain ⟨ti,h3,h4⟩:=h.pos _ (List.mem_of_getElem? hf)
  have hl:fs.toList[i]?.map (fun f=>(f.type,f.offset))=some (ft,off):=by rw [←List.getElem?_map,h2,hf]
  obtain ⟨f,hfi,hfe⟩:=Option.map_eq_some_iff.1 hl
  have hfi':fs[i]?=some f:=by simpa using hfi
  simp only [Prod.mk.injEq] at hfe
  obtain ⟨rfl,rfl⟩:=hfe
  simp [execOp,hA.ev hx,Instr.fieldAt,run_underlying h1,hfi',Instr.sureAddr,fieldPlace,sizeOf,typeInfo,h3,h4,oZ]
theorem kH {s:TypeId} {x:Operand} {i j ft off:Nat} {b:Nat} {fl:List (Nat × Nat)} [h:TSt P s fl] (hx:ev l x=some (.pointer (some (bat b j)))) (hf0:nth fl i=some (ft,off)) :
    Ex P N l C ⟨d,.fieldAddr s x i,T,pos,af,g⟩ (.pointer (some (bat b (j+off)))):=by
  intro a w hA _
  have hf:=hf0
  rw [pJ] at hf
  obtain ⟨fs,h1,h2⟩:=h.eq
  obtain ⟨ti,h3,h4⟩:=h.pos _ (List.mem_of_getElem? hf)
  have hl:fs.toList[i]?.map (fun f=>(f.type,f.offset))=some (ft,off):=by rw [←List.getElem?_map,h2,hf]
  obtain ⟨f,hfi,hfe⟩:=Option.map_eq_some_iff.1 hl
  have hfi':fs[i]?=some f:=by simpa using hfi
  simp only [Prod.mk.injEq] at hfe
  obtain ⟨rfl,rfl⟩:=hfe
  simp [execOp,hA.ev hx,Instr.fieldAt,run_underlying h1,hfi',Instr.sureAddr,fieldPlace,sizeOf,typeInfo,h3,h4,bat_add]
theorem zD {t e:TypeId} {x ix:Operand} {o:Option Addr} {n c sz by_:Nat} {z:Value} {zs:List Value} {k:IntKind} {m:Int} [ht:TSl P t e] [hi:TIf P e z zs sz by_] (hx:ev l x=some (.slice o n c)) (hix:ev l ix=some (.int k m))
    (h0:0≤m) (h1:m<n) (hs:Sp o n):Ex P N l C ⟨d,.indexAddr t x ix,T,pos,af,g⟩ (.pointer (some (sat o (m.toNat*sz)))):=by
  intro a w hA _
  obtain ⟨ti,h3,h4,h5,h6⟩:=hi.eq
  obtain ⟨p,rfl,hp⟩:=sp_add hs (by omega) (m.toNat*sz)
  simp [execOp,hA.ev hx,hA.ev hix,Instr.indexAt,asIntOf,run_underlying ht.eq,sizeOf,typeInfo,h3,h5,h0,h1,hp]
theorem zE {t e:TypeId} {x ix:Operand} {o:Option Addr} {n c sz by_ i:Nat} {z:Value} {zs:List Value} {k:IntKind} [ht:TSl P t e] [hi:TIf P e z zs sz by_] (hx:ev l x=some (.slice o n c)) (hix:ev l ix=some (.int k (i:Int)))
    (h1:i<n) (hs:Sp o n):Ex P N l C ⟨d,.indexAddr t x ix,T,pos,af,g⟩ (.pointer (some (sat o (i*sz)))):=by
  have:=zD (P:=P) (N:=N) (l:=l) (C:=C) (d:=d) (T:=T) (pos:=pos) (af:=af) (g:=g) (t:=t) hx hix (by omega) (by omega) hs
  simpa using this
theorem aQ {t e:TypeId} {x:Operand} {o:Option Addr} {n c:Nat} [ht:TSl P t e] (hx:ev l x=some (.slice o n c)) :
    Ex P N l C ⟨d,.call ⟨.builtin .len,#[x],#[t]⟩,T,pos,af,g⟩ (.int .i64 n):=by
  intro a w hA _
  simp [execOp,resolve,invoke,builtin,Builtin.len_,hA.ev hx,run_underlying ht.eq,goInt]
theorem sR {t e:TypeId} {x:Operand} {o:Option Addr} {n c:Nat} [ht:TSl P t e] (hx:ev l x=some (.slice o n c)) :
    Ex P N l C ⟨d,.call ⟨.builtin .cap,#[x],#[t]⟩,T,pos,af,g⟩ (.int .i64 c):=by
  intro a w hA _
  simp [execOp,resolve,invoke,builtin,Builtin.cap_,hA.ev hx,run_underlying ht.eq,goInt]

theorem ex_eql {t ty:TypeId} {x y:Operand} {k:IntKind} {m n:Int} (hx:ev l x=some (.int k m)) (hy:ev l y=some (.int k n)):Ex P N l C ⟨d,.binOp .eql t x y ty,T,pos,af,g⟩ (.bool (decide (m=n))):=by
  intro a w hA _
  simp only [execOp,hA.ev hx,hA.ev hy,eqGuard_at_int,binOp_eql]
  simp
  rfl
theorem ex_neq {t ty:TypeId} {x y:Operand} {k:IntKind} {m n:Int} (hx:ev l x=some (.int k m)) (hy:ev l y=some (.int k n)):Ex P N l C ⟨d,.binOp .neq t x y ty,T,pos,af,g⟩ (.bool (decide (m≠n))):=by
  intro a w hA _
  simp only [execOp,hA.ev hx,hA.ev hy,eqGuard_at_int,binOp_neq]
  simp [bne]
  rfl
theorem ex_lss {t ty:TypeId} {x y:Operand} {k:IntKind} {m n:Int} (hx:ev l x=some (.int k m)) (hy:ev l y=some (.int k n)):Ex P N l C ⟨d,.binOp .lss t x y ty,T,pos,af,g⟩ (.bool (decide (m<n))):=by
  intro a w hA _
  simp only [execOp,hA.ev hx,hA.ev hy,eqGuard_at_int,binOp_lss]
  simp
theorem ex_leq {t ty:TypeId} {x y:Operand} {k:IntKind} {m n:Int} (hx:ev l x=some (.int k m)) (hy:ev l y=some (.int k n)):Ex P N l C ⟨d,.binOp .leq t x y ty,T,pos,af,g⟩ (.bool (decide (m≤n))):=by
  intro a w hA _
  simp only [execOp,hA.ev hx,hA.ev hy,eqGuard_at_int,binOp_leq]
  simp
theorem ex_gtr {t ty:TypeId} {x y:Operand} {k:IntKind} {m n:Int} (hx:ev l x=some (.int k m)) (hy:ev l y=some (.int k n)):Ex P N l C ⟨d,.binOp .gtr t x y ty,T,pos,af,g⟩ (.bool (decide (n<m))):=by
  intro a w hA _
  simp only [execOp,hA.ev hx,hA.ev hy,eqGuard_at_int,binOp_gtr]
  simp
theorem ex_geq {t ty:TypeId} {x y:Operand} {k:IntKind} {m n:Int} (hx:ev l x=some (.int k m)) (hy:ev l y=some (.int k n)):Ex P N l C ⟨d,.binOp .geq t x y ty,T,pos,af,g⟩ (.bool (decide (n≤m))):=by
  intro a w hA _
  simp only [execOp,hA.ev hx,hA.ev hy,eqGuard_at_int,binOp_geq]
  simp
def sM (n:Int):Prop:=-9223372036854775808≤n∧n≤9223372036854775807
theorem vB {n:Int} (h:sM n):IntKind.i64.wrap n=n:=IntWalk.i64_in n ⟨by have:=h.1;omega,by have:=h.2;omega⟩
theorem ex_add {t ty:TypeId} {x y:Operand} {m n:Int} (hx:ev l x=some (.int .i64 m)) (hy:ev l y=some (.int .i64 n)) (h:sM (m+n)):Ex P N l C ⟨d,.binOp .add t x y ty,T,pos,af,g⟩ (.int .i64 (m+n)):=by
  intro a w hA _
  simp only [execOp,hA.ev hx,hA.ev hy,eqGuard_at_int,binOp_add]
  simp [Op.intArith,vB h]
theorem ex_sub {t ty:TypeId} {x y:Operand} {m n:Int} (hx:ev l x=some (.int .i64 m)) (hy:ev l y=some (.int .i64 n)) (h:sM (m - n)):Ex P N l C ⟨d,.binOp .sub t x y ty,T,pos,af,g⟩ (.int .i64 (m - n)):=by
  intro a w hA _
  simp only [execOp,hA.ev hx,hA.ev hy,eqGuard_at_int,binOp_sub]
  simp [Op.intArith,vB h]
theorem sQ {t ty:TypeId} {x y:Operand} {k:Nat} (hx:ev l x=some (.int .i64 ((k+1:Nat):Int))) (hy:ev l y=some (.int .i64 1)) (h:k≤9223372036854775807):Ex P N l C ⟨d,.binOp .sub t x y ty,T,pos,af,g⟩ (.int .i64 (k:Int)):=by
  have e:((k+1:Nat):Int) - 1=(k:Int):=by omega
  have:=ex_sub (P:=P) (N:=N) (l:=l) (C:=C) (d:=d) (T:=T) (pos:=pos) (af:=af) (g:=g) (t:=t) (ty:=ty) hx hy (by unfold sM;omega)
  rwa [e] at this
theorem ex_succ {t ty:TypeId} {x y:Operand} {k:Nat} (hx:ev l x=some (.int .i64 (k:Int))) (hy:ev l y=some (.int .i64 1)) (h:k<9223372036854775807):Ex P N l C ⟨d,.binOp .add t x y ty,T,pos,af,g⟩ (.int .i64 ((k+1:Nat):Int)):=by
  have e:((k+1:Nat):Int)=(k:Int)+1:=by omega
  have:=ex_add (P:=P) (N:=N) (l:=l) (C:=C) (d:=d) (T:=T) (pos:=pos) (af:=af) (g:=g) (t:=t) (ty:=ty) hx hy (by unfold sM;omega)
  rwa [←e] at this
end

structure It where
  sat:World→(Nat→Prop)→Prop
  loc:∀{w w':World} {F:Nat→Prop},sat w F→(∀b,F b→w'.heap[b]?=w.heap[b]?)→sat w' F
  lt:∀{w:World} {F:Nat→Prop},sat w F→∀b,F b→b<w.heap.size
  ext:∀{w:World} {F F':Nat→Prop},sat w F→(∀b,F b↔F' b)→sat w F'

def Hp (w:World):List It→(Nat→Prop)→Prop
  | [],F=>∀b,¬F b
  |it::H,F=>∃F1 F2:Nat→Prop,(∀b,F b↔F1 b∨F2 b)∧(∀b,F1 b→¬F2 b)∧it.sat w F1∧Hp w H F2

structure Kp (w0:World) (M:Nat→Prop) (w:World):Prop where
  os:w.os=w0.os
  tape:w.tape=w0.tape
  output:w.output=w0.output
  size:w0.heap.size≤w.heap.size
  block:∀b,b<w0.heap.size→¬M b→w.heap[b]?=w0.heap[b]?

def HS (w0:World) (M:Nat→Prop) (H:List It) (w:World):Prop:=
  Kp w0 M w∧∃F,Hp w H F∧∀b,F b→w0.heap.size≤b∨M b

def noM:Nat→Prop:=fun _=>False

theorem tQ {w:World} {b:Nat} {o:Obj} (h:w.heap[b]?=some o):b<w.heap.size:=by
  rcases Nat.lt_or_ge b w.heap.size with h'|h'
  · exact h'
  · rw [Array.getElem?_eq_none h'] at h;cases h

theorem Hp.lt {w:World}:∀{H:List It} {F:Nat→Prop},Hp w H F→∀b,F b→b<w.heap.size
  | [],F,h,b,hb=>absurd hb (h b)
  | it::H,F,⟨F1,F2,hF,hd,h1,h2⟩,b,hb=>by
    rcases (hF b).1 hb with hb|hb
    · exact it.lt h1 b hb
    · exact Hp.lt h2 b hb
theorem Hp.ext {w:World}:∀{H:List It} {F F':Nat→Prop},Hp w H F→(∀b,F b↔F' b)→Hp w H F'
  | [],F,F',h,he=>fun b hb=>h b ((he b).2 hb)
  |it::H,F,F',⟨F1,F2,hF,hd,h1,h2⟩,he=>⟨F1,F2,fun b=>(he b).symm.trans (hF b),hd,h1,h2⟩
theorem Hp.loc {w w':World}:∀{H:List It} {F:Nat→Prop},Hp w H F→(∀b,F b→w'.heap[b]?=w.heap[b]?)→Hp w' H F
  | [],F,h,he=>h
  |it::H,F,⟨F1,F2,hF,hd,h1,h2⟩,he=>⟨F1,F2,hF,hd,it.loc h1 fun b hb=>he b ((hF b).2 (.inl hb)),Hp.loc h2 fun b hb=>he b ((hF b).2 (.inr hb))⟩
theorem Hp.append {w:World}:∀{H1 H2:List It} {F:Nat→Prop},Hp w (H1++H2) F→∃F1 F2:Nat→Prop,(∀b,F b↔F1 b∨F2 b)∧(∀b,F1 b→¬F2 b)∧Hp w H1 F1∧Hp w H2 F2
  | [],H2,F,h=>⟨fun _=>False,F,fun b=>by simp,fun b hb=>hb.elim,fun b hb=>hb,h⟩
  | it::H1,H2,F,⟨G1,G2,hG,hd,h1,h2⟩=>by
    obtain ⟨F1,F2,hF,hd',h3,h4⟩:=Hp.append (H1:=H1) h2
    refine ⟨fun b=>G1 b∨F1 b,F2,fun b=>by rw [hG b,hF b,or_assoc],fun b hb hb2=>?_,⟨G1,F1,fun b=>Iff.rfl,fun b hb hb1=>hd b hb ((hF b).2 (.inl hb1)),h1,h3⟩,h4⟩
    rcases hb with hb|hb
    · exact hd b hb ((hF b).2 (.inr hb2))
    · exact hd' b hb hb2
theorem Hp.mk_append {w:World}:∀{H1 H2:List It} {F1 F2:Nat→Prop},(∀b,F1 b→¬F2 b)→Hp w H1 F1→Hp w H2 F2→Hp w (H1++H2) fun b=>F1 b∨F2 b
  | [],H2,F1,F2,hd,h1,h2=>h2.ext fun b=>⟨.inr,fun h=>h.elim (fun h=>absurd h (h1 b)) id⟩
  | it::H1,H2,F1,F2,hd,⟨G1,G2,hG,hd',h3,h4⟩,h2=>by
    refine ⟨G1,fun b=>G2 b∨F2 b,fun b=>by show F1 b∨F2 b↔_;rw [hG b];exact or_assoc,fun b hb hb2=>?_,h3,Hp.mk_append (fun b hb=>hd b ((hG b).2 (.inr hb))) h4 h2⟩
    rcases hb2 with hb2|hb2
    · exact hd' b hb hb2
    · exact hd b ((hG b).2 (.inl hb)) hb2
theorem Hp.perm {w:World} {H H':List It} (p:H.Perm H'):∀{F:Nat→Prop},Hp w H F→Hp w H' F:=by
  induction p with
  |nil=>exact fun h=>h
  |cons x _ ih=>exact fun ⟨F1,F2,hF,hd,h1,h2⟩=>⟨F1,F2,hF,hd,h1,ih h2⟩
  | swap x y l=>
    rintro F ⟨F1,F2,hF,hd,h1,F3,F4,hG,hd',h3,h4⟩
    refine ⟨F3,fun b=>F1 b∨F4 b,fun b=>?_,fun b hb hb2=>?_,h3,F1,F4,fun b=>Iff.rfl,fun b hb hb4=>hd b hb ((hG b).2 (.inr hb4)),h1,h4⟩
    · rw [hF b,hG b,or_left_comm]
    · rcases hb2 with hb2|hb2
      · exact hd b hb2 ((hG b).2 (.inl hb))
      · exact hd' b hb hb2
  |trans _ _ ih1 ih2=>exact fun h=>ih2 (ih1 h)

theorem Kp.refl (w:World) (M:Nat→Prop):Kp w M w:=⟨rfl,rfl,rfl,Nat.le_refl _,fun _ _ _=>rfl⟩
theorem HS.init (w:World) (M:Nat→Prop):HS w M [] w:=⟨Kp.refl w M,fun _=>False,fun b hb=>hb,fun b hb=>hb.elim⟩
theorem HS.perm {w0 w:World} {M:Nat→Prop} {H H':List It} (h:HS w0 M H w) (p:H.Perm H'):HS w0 M H' w:=
  let ⟨hk,F,hF,ho⟩:=h
  ⟨hk,F,hF.perm p,ho⟩
theorem HS.tail {w0 w:World} {M:Nat→Prop} {it:It} {H:List It} (h:HS w0 M (it::H) w):HS w0 M H w:=
  let ⟨hk,F,⟨F1,F2,hF,hd,h1,h2⟩,ho⟩:=h
  ⟨hk,F2,h2,fun b hb=>ho b ((hF b).2 (.inr hb))⟩
theorem qM {x:It}:∀{H:List It} (i:Nat),H[i]?=some x→H.Perm (x::H.eraseIdx i)
  | [],i,h=>by simp at h
  | y::H,0,h=>by
    obtain rfl:y=x:=by simpa using h
    exact .refl _
  |y::H,i+1,h=>((qM (H:=H) i (by simpa using h)).cons y).trans (.swap _ _ _)
theorem wV {H R:List It} {x:It} (i:Nat) (h:H[i]?=some x) (p:(H.eraseIdx i).Perm R):H.Perm (x::R):=(qM i h).trans (p.cons x)
theorem HS.drop_ {w0 w:World} {M:Nat→Prop} {H:List It} (h:HS w0 M H w):HS w0 M [] w:=⟨h.1,fun _=>False,fun b hb=>hb,fun b hb=>hb.elim⟩
theorem HS.head {w0 w:World} {M:Nat→Prop} {it:It} {H:List It} (h:HS w0 M (it::H) w):HS w0 M [it] w:=
  let ⟨hk,F,⟨F1,F2,hF,hd,h1,h2⟩,ho⟩:=h
  ⟨hk,F1,⟨F1,fun _=>False,fun b=>by simp,fun b _ h=>h,h1,fun b h=>h⟩,fun b hb=>ho b ((hF b).2 (.inl hb))⟩
theorem HS.left {w0 w:World} {M:Nat→Prop} {H1 H2:List It} (h:HS w0 M (H1++H2) w):HS w0 M H1 w:=
  let ⟨hk,F,hF,ho⟩:=h
  let ⟨F1,F2,hG,hd,h1,h2⟩:=hF.append
  ⟨hk,F1,h1,fun b hb=>ho b ((hG b).2 (.inl hb))⟩

theorem Kp.trans {w0 w w':World} {M M':Nat→Prop} (h:Kp w0 M w) (h':Kp w M' w') (hM:∀b,M' b→w0.heap.size≤b∨M b):Kp w0 M w':=
  ⟨h'.os.trans h.os,h'.tape.trans h.tape,h'.output.trans h.output,Nat.le_trans h.size h'.size,fun b hb hn=>by
    rw [h'.block b (by have:=h.size;omega) (fun hm=>?_)]
    · exact h.block b hb hn
    · rcases hM b hm with h1|h1
      · omega
      · exact hn h1⟩

theorem HS.frame {w0 w:World} {M:Nat→Prop} {Hc Hf:List It} (h:HS w0 M (Hc++Hf) w) :
    ∃Mc:Nat→Prop,HS w Mc Hc w∧(∀b,Mc b→b<w.heap.size∧(w0.heap.size≤b∨M b))∧∀w' Hc',HS w Mc Hc' w'→HS w0 M (Hc'++Hf) w':=by
  obtain ⟨hk,F,hF,ho⟩:=h
  obtain ⟨F1,F2,hG,hd,h1,h2⟩:=hF.append
  refine ⟨F1,⟨Kp.refl _ _,F1,h1,fun b hb=>.inr hb⟩,fun b hb=>⟨h1.lt b hb,ho b ((hG b).2 (.inl hb))⟩,?_⟩
  rintro w' Hc' ⟨hk',F',hF',ho'⟩
  have h2':Hp w' Hf F2:=h2.loc fun b hb=>hk'.block b (h2.lt b hb) fun hb1=>hd b hb1 hb
  refine ⟨hk.trans hk' fun b hb=>ho b ((hG b).2 (.inl hb)),_,Hp.mk_append (fun b hb hb2=>?_) hF' h2',fun b hb=>?_⟩
  · rcases ho' b hb with h|h
    · have:=h2.lt b hb2;omega
    · exact hd b h hb2
  · rcases hb with hb|hb
    · rcases ho' b hb with h|h
      · exact .inl (Nat.le_trans hk.size h)
      · exact ho b ((hG b).2 (.inl h))
    · exact ho b ((hG b).2 (.inr hb))

inductive Rp:List It→It→It→List It→Prop
  |here {it it':It} {R:List It}:Rp (it::R) it it' (it'::R)
  |there {a it it':It} {R R':List It}:Rp R it it' R'→Rp (a::R) it it' (a::R')
theorem Rp.split {H H':List It} {it it':It} (h:Rp H it it' H'):∃R,H.Perm (it::R)∧H'.Perm (it'::R):=by
  induction h with
  |here=>exact ⟨_,.refl _,.refl _⟩
  | there _ ih=>
    obtain ⟨R,h1,h2⟩:=ih
    exact ⟨_,(h1.cons _).trans (.swap _ _ _),(h2.cons _).trans (.swap _ _ _)⟩
theorem lZ {H:List It} {it:It} (h:it∈H):∃R,H.Perm (it::R):=by
  obtain ⟨a,b,rfl⟩:=List.append_of_mem h
  exact ⟨a++b,List.perm_middle⟩

theorem HS.turn {w0 w w':World} {M:Nat→Prop} {H H':List It} {it it':It} (h:HS w0 M H w) (hr:Rp H it it' H')
    (ht:∀F,it.sat w F→Kp w F w'∧∃F',it'.sat w' F'∧∀b,F' b→w.heap.size≤b∨F b):HS w0 M H' w':=by
  obtain ⟨R,p,p'⟩:=hr.split
  obtain ⟨hk,F,⟨F1,F2,hF,hd,h1,h2⟩,ho⟩:=h.perm p
  obtain ⟨hk',F',h1',ho'⟩:=ht F1 h1
  have h2':Hp w' R F2:=h2.loc fun b hb=>hk'.block b (h2.lt b hb) fun hb1=>hd b hb1 hb
  refine HS.perm (H:=it'::R) ⟨hk.trans hk' fun b hb=>ho b ((hF b).2 (.inl hb)),fun b=>F' b∨F2 b,⟨F',F2,fun b=>Iff.rfl,fun b hb hb2=>?_,h1',h2'⟩,fun b hb=>?_⟩ p'.symm
  · rcases ho' b hb with h|h
    · have:=h2.lt b hb2;omega
    · exact hd b h hb2
  · rcases hb with hb|hb
    · rcases ho' b hb with h|h
      · exact .inl (Nat.le_trans hk.size h)
      · exact ho b ((hF b).2 (.inl h))
    · exact ho b ((hF b).2 (.inr hb))
theorem HS.come {w0 w w':World} {M:Nat→Prop} {H:List It} {it:It} (h:HS w0 M H w) (hk':Kp w noM w') {F':Nat→Prop} (h1:it.sat w' F') (hn:∀b,F' b→w.heap.size≤b):HS w0 M (it::H) w':=by
  obtain ⟨hk,F,hF,ho⟩:=h
  have hF':Hp w' H F:=hF.loc fun b hb=>hk'.block b (hF.lt b hb) id
  refine ⟨hk.trans hk' fun b hb=>hb.elim,fun b=>F' b∨F b,⟨F',F,fun b=>Iff.rfl,fun b hb hb2=>?_,h1,hF'⟩,fun b hb=>?_⟩
  · have:=hn b hb;have:=hF.lt b hb2;omega
  · rcases hb with hb|hb
    · exact .inl (Nat.le_trans hk.size (hn b hb))
    · exact ho b hb
theorem HS.keep {w0 w w':World} {M:Nat→Prop} {H:List It} (h:HS w0 M H w) (hk':Kp w noM w'):HS w0 M H w':=by
  obtain ⟨hk,F,hF,ho⟩:=h
  exact ⟨hk.trans hk' fun b hb=>hb.elim,F,hF.loc fun b hb=>hk'.block b (hF.lt b hb) id,ho⟩
theorem HS.sat {w0 w:World} {M:Nat→Prop} {H:List It} {it:It} (h:HS w0 M H w) (hm:it∈H):∃F,it.sat w F:=by
  obtain ⟨R,p⟩:=lZ hm
  obtain ⟨hk,F,⟨F1,F2,hF,hd,h1,h2⟩,ho⟩:=h.perm p
  exact ⟨F1,h1⟩
theorem HS.conv {w0 w:World} {M:Nat→Prop} {H H':List It} {it it':It} (h:HS w0 M H w) (hr:Rp H it it' H') (ht:∀F,it.sat w F→it'.sat w F):HS w0 M H' w:=
  h.turn hr fun F hF=>⟨Kp.refl _ _,F,ht F hF,fun b hb=>.inr hb⟩

theorem Kp.drew (w:World) (M:Nat→Prop):Kp w M w.drew:=⟨rfl,rfl,rfl,Nat.le_refl _,fun _ _ _=>rfl⟩
theorem HS.drew {w0 w:World} {M:Nat→Prop} {H:List It} (h:HS w0 M H w):HS w0 M H w.drew:=h.keep (Kp.drew w _)

def blk (b:Nat) (o:Obj):It where
  sat w F:=(∀x,F x↔x=b)∧w.heap[b]?=some o
  loc:=fun ⟨h1,h2⟩ he=>⟨h1,(he _ ((h1 _).2 rfl)).trans h2⟩
  lt:=fun ⟨h1,h2⟩ b hb=>by obtain rfl:=(h1 b).1 hb;exact tQ h2
  ext:=fun ⟨h1,h2⟩ he=>⟨fun x=>(he x).symm.trans (h1 x),h2⟩
def cb (b:Nat) (T:TypeId) (cs:List Value):It:=blk b (.cells cs.toArray T (0,0))
def own (T:TypeId) (sz:Nat) (o:Option Addr) (n cap:Nat) (xs:List Value):It where
  sat w F:=(o=none∧n=0∧cap=0∧xs=[]∧∀b,¬F b)∨
    ∃b spare,o=some ⟨b,0,none⟩∧(∀x,F x↔x=b)∧xs.length=n*sz∧n≤cap∧cap≤maxLen∧xs.length+spare.length=cap*sz∧w.heap[b]?=some (.cells (xs++spare).toArray T (0,0))
  loc:=fun h he=>by
    rcases h with h| ⟨b,spare,h1,h2,h3,h4,h5,h6,h7⟩
    · exact .inl h
    · exact .inr ⟨b,spare,h1,h2,h3,h4,h5,h6,(he _ ((h2 _).2 rfl)).trans h7⟩
  lt :=fun h b hb=>by
    rcases h with ⟨_,_,_,_,h⟩| ⟨b',spare,h1,h2,h3,h4,h5,h6,h7⟩
    · exact absurd hb (h b)
    · obtain rfl:=(h2 b).1 hb
      exact tQ h7
  ext:=fun h he=>by
    rcases h with ⟨h1,h2,h3,h4,h⟩| ⟨b',spare,h1,h2,h3,h4,h5,h6,h7⟩
    · exact .inl ⟨h1,h2,h3,h4,fun b hb=>h b ((he b).2 hb)⟩
    · exact .inr ⟨b',spare,h1,fun x=>(he x).symm.trans (h2 x),h3,h4,h5,h6,h7⟩

def Rd (w:World) (o:Option Addr) (xs:List Value):Prop:=
  (0<xs.length→∃b off,o=some ⟨b,off,none⟩)∧∀j u,xs[j]?=some u→w.cell? (sat o j)=some u

theorem tV {w:World} {b:Nat} {cs:Array Value} {T:TypeId} {fz:Nat × Nat} (h:w.heap[b]?=some (.cells cs T fz)) (j:Nat):w.cell? ⟨b,j,none⟩=cs[j]?:=cell_of_row w b j cs T fz h

theorem own_len {w:World} {F:Nat→Prop} {T sz:Nat} {o:Option Addr} {n cap:Nat} {xs:List Value} (h:(own T sz o n cap xs).sat w F):xs.length=n*sz:=by
  rcases h with ⟨_,rfl,_,rfl,_⟩| ⟨b,spare,h1,h2,h3,h4,h5,h6,h7⟩
  · simp
  · exact h3
theorem own_rd {w:World} {F:Nat→Prop} {T sz:Nat} {o:Option Addr} {n cap:Nat} {xs:List Value} (h:(own T sz o n cap xs).sat w F):Rd w o xs:=by
  rcases h with ⟨rfl,rfl,rfl,rfl,_⟩| ⟨b,spare,rfl,h2,h3,h4,h5,h6,h7⟩
  · exact ⟨fun h=>by simp at h,fun j u h=>by simp at h⟩
  · refine ⟨fun _=>⟨b,0,rfl⟩,fun j u hj=>?_⟩
    have hlt:j<xs.length:=(List.getElem?_eq_some_iff.1 hj).1
    unfold sat mF gM
    rw [Nat.zero_add,tV h7]
    simp [List.getElem?_append_left hlt,hj]
theorem own_sp {w:World} {F:Nat→Prop} {T sz:Nat} {o:Option Addr} {n cap:Nat} {xs:List Value} (h:(own T sz o n cap xs).sat w F):Sp o n:=by
  rcases h with ⟨rfl,rfl,rfl,rfl,_⟩| ⟨b,spare,rfl,h2,h3,h4,h5,h6,h7⟩
  · exact fun h=>by omega
  · exact fun _=>⟨b,0,rfl⟩
theorem Rd.sp {w:World} {o:Option Addr} {xs:List Value} {n sz:Nat} (h:Rd w o xs) (hl:xs.length=n*sz) (hs:0<sz):Sp o n:=
  fun hn=>h.1 (by rw [hl];exact Nat.mul_pos hn hs)
theorem HS.own_rd {w0 w:World} {M:Nat→Prop} {H:List It} {T sz:Nat} {o:Option Addr} {n cap:Nat} {xs:List Value} (h:HS w0 M H w) (hm:own T sz o n cap xs∈H):Rd w o xs:=
  let ⟨_,hF⟩:=h.sat hm
  Fw.own_rd hF
theorem HS.own_sp {w0 w:World} {M:Nat→Prop} {H:List It} {T sz:Nat} {o:Option Addr} {n cap:Nat} {xs:List Value} (h:HS w0 M H w) (hm:own T sz o n cap xs∈H):Sp o n:=
  let ⟨_,hF⟩:=h.sat hm
  Fw.own_sp hF
theorem HS.own_len {w0 w:World} {M:Nat→Prop} {H:List It} {T sz:Nat} {o:Option Addr} {n cap:Nat} {xs:List Value} (h:HS w0 M H w) (hm:own T sz o n cap xs∈H):xs.length=n*sz:=
  let ⟨_,hF⟩:=h.sat hm
  Fw.own_len hF
theorem HS.own_le {w0 w:World} {M:Nat→Prop} {H:List It} {T sz:Nat} {o:Option Addr} {n cap:Nat} {xs:List Value} (h:HS w0 M H w) (hm:own T sz o n cap xs∈H):n≤cap∧cap≤maxLen:=by
  obtain ⟨_,hF⟩:=h.sat hm
  rcases hF with ⟨rfl,rfl,rfl,rfl,_⟩| ⟨b,spare,rfl,h2,h3,h4,h5,h6,h7⟩
  · exact ⟨Nat.le_refl _,Nat.zero_le _⟩
  · exact ⟨h4,h5⟩
theorem Rd.lt {w:World} {o:Option Addr} {xs:List Value} (h:Rd w o xs) (hn:0<xs.length):mF o<w.heap.size:=by
  have:=h.2 0 _ (List.getElem?_eq_getElem hn)
  exact World.block_lt_of_cell? w _ this
theorem HS.rd {w0 w:World} {M:Nat→Prop} {H:List It} {o:Option Addr} {xs:List Value} (h:HS w0 M H w) (hr:Rd w0 o xs) (hM:¬M (mF o)):Rd w o xs:=by
  refine ⟨hr.1,fun j u hj=>?_⟩
  rw [World.cell?_of_block (w:=w0) (h.1.block _ (World.block_lt_of_cell? w0 _ (hr.2 j u hj)) hM)]
  exact hr.2 j u hj
def Cl (C:World→Prop) (p:Addr) (v:Value):Prop:=∀w,C w→w.cell? p=some v
def Cls (C:World→Prop) (p:Addr) (vs:List Value):Prop:=∀w,C w→∀i v,vs[i]?=some v→w.cell? (p.add i)=some v

theorem cl_of {C:World→Prop} {p:Addr} {v:Value} (h:∀w,C w→w.cell? p=some v):Cl C p v:=h
theorem HS.kp {w0 w:World} {M:Nat→Prop} {H:List It} (h:HS w0 M H w):Kp w0 M w:=h.1
theorem fZ {w0:World} {M:Nat→Prop} {H:List It} {b j T:Nat} {cs:List Value} {v:Value} (hm:cb b T cs∈H) (hv0:nth cs j=some v):Cl (HS w0 M H) (bat b j) v:=by
  intro w hH
  have hv:=hv0
  rw [pJ] at hv
  obtain ⟨F,h1,h2⟩:=hH.sat hm
  rw [bat,tV h2]
  simpa using hv
theorem HS.cell {w0 w:World} {M:Nat→Prop} {H:List It} {b j T:Nat} {cs:List Value} {v:Value} (h:HS w0 M H w) (hm:cb b T cs∈H) (hv:nth cs j=some v):w.cell? (bat b j)=some v:=fZ hm hv w h
theorem uD {w0:World} {M:Nat→Prop} {H:List It} {T sz n cap j:Nat} {o:Option Addr} {xs:List Value} {v:Value} (hm:own T sz o n cap xs∈H) (hv:xs[j]?=some v):Cl (HS w0 M H) (sat o j) v:=
  fun w hH=>(hH.own_rd hm).2 j v hv
theorem xP {w0:World} {M:Nat→Prop} {H:List It} {j:Nat} {o:Option Addr} {xs:List Value} {v:Value} (hr:Rd w0 o xs) (hM:¬M (mF o)) (hv:xs[j]?=some v):Cl (HS w0 M H) (sat o j) v:=
  fun w hH=>(hH.rd hr hM).2 j v hv
theorem rW {w0:World} {M:Nat→Prop} {H:List It} {b j T:Nat} {cs vs:List Value} (hm:cb b T cs∈H) (hv:∀i v,vs[i]?=some v→cs[j+i]?=some v):Cls (HS w0 M H) (bat b j) vs:=by
  intro w hH i v hi
  rw [bat_add]
  exact fZ hm (by rw [pJ];exact hv i v hi) w hH
theorem zR {w0:World} {M:Nat→Prop} {H:List It} {b T:Nat} {cs:List Value} (hm:cb b T cs∈H):Cls (HS w0 M H) (bat b 0) cs:=
  rW hm fun i v h=>by simpa using h
theorem lI {w0:World} {M:Nat→Prop} {H:List It} {T sz n cap j:Nat} {o:Option Addr} {xs vs:List Value} (hm:own T sz o n cap xs∈H) (hv:∀i v,vs[i]?=some v→xs[j+i]?=some v):Cls (HS w0 M H) (sat o j) vs:=by
  intro w hH i v hi
  rw [oZ]
  exact uD hm (hv i v hi) w hH
theorem yV {w0:World} {M:Nat→Prop} {H:List It} {j:Nat} {o:Option Addr} {xs vs:List Value} (hr:Rd w0 o xs) (hM:¬M (mF o)) (hv:∀i v,vs[i]?=some v→xs[j+i]?=some v):Cls (HS w0 M H) (sat o j) vs:=by
  intro w hH i v hi
  rw [oZ]
  exact xP hr hM (hv i v hi) w hH

section
variable {P:Program} {N:Nat} {l:List (Nat × Value)} {C:World→Prop} {d:Option Tmp} {T:TypeId} {pos:String} {af:Array Edge} {g:Option (Nat × Bool)}

theorem bA {t:TypeId} [h:TSc P t] (w:World):(isAgg t).run P w= .ok false w:=by
  obtain ⟨d,h1,h2⟩:=h.eq
  cases d<;>simp_all [isAgg,run_underlying h1]
theorem sO {t:TypeId} {fl:List (Nat × Nat)} [h:TSt P t fl] (w:World):(isAgg t).run P w= .ok true w:=by
  obtain ⟨d,h1,h2⟩:=h.eq
  simp [isAgg,run_underlying h1]
theorem zC {t:TypeId} {x:Operand} {p:Addr} {v:Value} [h:TSc P t] (hx:ev l x=some (.pointer (some p))) (hc:Cl C p v):Ex P N l C ⟨d,.load t x,T,pos,af,g⟩ v:=by
  intro a w hA hC
  simp [execOp,hA.ev hx,Instr.loadAt,Instr.sureAddr,loadVar,bA,hc w hC]
theorem zG {t sz by_:Nat} {z:Value} {zs:List Value} {fl:List (Nat × Nat)} {x:Operand} {p:Addr} {vs:List Value} [h:TSt P t fl] [hi:TIf P t z zs sz by_] (hx:ev l x=some (.pointer (some p))) (hl:vs.length=sz) (hc:Cls C p vs) :
    Ex P N l C ⟨d,.load t x,T,pos,af,g⟩ (.agg vs.toArray):=by
  intro a w hA hC
  obtain ⟨ti,h3,h4,h5,h6⟩:=hi.eq
  simp [execOp,hA.ev hx,Instr.loadAt,Instr.sureAddr,loadVar,sO,sizeOf,typeInfo,h3,h5,←hl,run_loadCells_list w p vs (hc w hC)]

def put (cs:List Value) (j:Nat) (vs:List Value):List Value:=cs.take j++vs++cs.drop (j+vs.length)
theorem vX {cs vs:List Value} {j:Nat} (h:j+vs.length≤cs.length):(put cs j vs).length=cs.length:=by
  simp only [put,List.length_append,List.length_take,List.length_drop];omega

theorem oY (w:World) (b:Nat) (cs:Array Value) (F:Nat→Prop) (hb:F b):Kp w F (w.setRow b cs):=by
  refine ⟨rfl,rfl,rfl,by simp,fun i hi hn=>?_⟩
  have hib:b≠i:=fun h=>hn (h▸hb)
  simp [World.setRow,Array.getElem?_modify,hib]

theorem rZ {w:World} {t z zs sz by_ T:_} {b j:Nat} {cs vs:List Value} {v:Value} [hi:TIf P t z zs sz by_] (hv:v.cells.toList=vs) (hl:vs.length=sz) (h1:vs.all (·.oneCell')=true)
    (hb:w.heap[b]?=some (.cells cs.toArray T (0,0))) (hj:j+sz≤cs.length):(storeVar t ⟨b,j,none⟩ v).run P w= .ok () (w.setRow b (put cs j vs).toArray):=by
  obtain ⟨ti,h3,h4,h5,h6⟩:=hi.eq
  have hs:v.cells.size=sz:=by rw [←hl,←hv];simp
  have hh:=run_storeCells_at (P:=P) b j T vs 0 cs.toArray w hb (by simp;omega) (fun x hx=>List.all_eq_true.1 h1 x hx)
  simp only [Nat.add_zero] at hh
  simp only [storeVar,Sem.run_bind,sizeOf,typeInfo,run_program,Result.andThen_ok,h3,Sem.run_pure,h5,hs,ne_eq,not_true_eq_false,if_false,hv,hh]
  rfl

theorem xO {t sz by_ b j Tb:Nat} {z v:Value} {zs:List Value} {x y:Operand} {cs cs' vs:List Value} {w0 w:World} {M:Nat→Prop} {H H':List It} [hi:TIf P t z zs sz by_]
    (hx:ev l x=some (.pointer (some (bat b j)))) (hy:ev l y=some v) (hH:HS w0 M H w) (hr:Rp H (cb b Tb cs) (cb b Tb cs') H')
    (hv:v.cells.toList=vs) (hl:vs.length=sz) (h1:vs.all (·.oneCell')=true) (hj:j+sz≤cs.length) (hp:put cs j vs=cs') :
    Op1 P N l ⟨d,.store t x y,T,pos,af,g⟩ w (fun _ w'=>HS w0 M H' w'):=by
  intro a hA K Q hK
  subst hp
  obtain ⟨R,p,_⟩:=hr.split
  obtain ⟨F,hF1,hF2⟩:=hH.sat (p.symm.subset (List.mem_cons_self))
  have hrun:=rZ (P:=P) (t:=t) hv hl h1 hF2 hj
  unfold Oper.wp
  simp only [execOp,hA.ev hx,hA.ev hy,Instr.storeAt,Instr.sureAddr,bat,Sem.run_bind,Sem.run_pure,Result.andThen_ok,hrun,Oper.upon]
  refine hK undef _ (hH.turn hr fun F' hF'=>⟨oY w b _ F' ((hF'.1 b).2 rfl),F',⟨hF'.1,setRow_heap w b _ _ _ _ hF2⟩,fun b hb=>.inr hb⟩)

theorem uI {t sz by_ j Tb szb n cap:Nat} {o:Option Addr} {z v:Value} {zs:List Value} {x y:Operand} {xs xs' vs:List Value} {w0 w:World} {M:Nat→Prop} {H H':List It} [hi:TIf P t z zs sz by_]
    (hx:ev l x=some (.pointer (some (sat o j)))) (hy:ev l y=some v) (hH:HS w0 M H w) (hr:Rp H (own Tb szb o n cap xs) (own Tb szb o n cap xs') H')
    (hv:v.cells.toList=vs) (hl:vs.length=sz) (h1:vs.all (·.oneCell')=true) (hsz:0<sz) (hj:j+sz≤xs.length) (hp:put xs j vs=xs') :
    Op1 P N l ⟨d,.store t x y,T,pos,af,g⟩ w (fun _ w'=>HS w0 M H' w'):=by
  intro a hA K Q hK
  subst hp
  obtain ⟨R,p,_⟩:=hr.split
  obtain ⟨F,hF⟩:=hH.sat (p.symm.subset (List.mem_cons_self))
  have hF0:=hF
  rcases hF with ⟨rfl,rfl,rfl,rfl,_⟩| ⟨b,spare,rfl,h2,h3,h4,h5,h6,h7⟩
  · simp at hj;omega
  have hrun:=rZ (P:=P) (t:=t) (w:=w) (j:=j) hv hl h1 h7 (by simp;omega)
  have hput:put (xs++spare) j vs=put xs j vs++spare:=by
    unfold put
    have e1:j≤xs.length:=by omega
    have e2:j+vs.length≤xs.length:=by omega
    rw [List.take_append_of_le_length e1,List.drop_append_of_le_length e2]
    simp
  rw [hput] at hrun
  unfold Oper.wp
  have e:sat (some ⟨b,0,none⟩) j=⟨b,j,none⟩:=by simp [sat,mF,gM]
  simp only [execOp,hA.ev hx,hA.ev hy,Instr.storeAt,Instr.sureAddr,e,Sem.run_bind,Sem.run_pure,Result.andThen_ok,hrun,Oper.upon]
  refine hK undef _ (hH.turn hr fun F' hF'=>?_)
  rcases hF' with ⟨h0,_⟩| ⟨b',spare',hb',g2,g3,g4,g5,g6,g7⟩
  · cases h0
  · obtain rfl:b=b':=by simpa using hb'
    have hsp:xs++spare=xs++spare':=by rw [h7] at g7;simpa using g7
    obtain rfl:spare=spare':=List.append_cancel_left hsp
    refine ⟨oY w b _ F' ((g2 b).2 rfl),F',.inr ⟨b,spare,rfl,g2,?_,g4,g5,?_,setRow_heap w b _ _ _ _ h7⟩,fun b hb=>.inr hb⟩
    · rw [vX (by omega)];exact g3
    · rw [vX (by omega)];exact g6

theorem eL (w:World) (o:Obj):Kp w noM (w.alloc o):=
  ⟨rfl,rfl,rfl,by simp,fun b hb _=>heap_alloc_old w o hb⟩
theorem HS.come_blk {w0 w:World} {M:Nat→Prop} {H:List It} (h:HS w0 M H w) (o:Obj):HS w0 M (blk w.heap.size o::H) (w.alloc o):=
  h.come (eL w o) (F':=fun x=>x=w.heap.size) ⟨fun x=>Iff.rfl,heap_alloc_new w o⟩ fun b hb=>by omega
theorem HS.come_cb {w0 w:World} {M:Nat→Prop} {H:List It} (h:HS w0 M H w) (T:TypeId) (cs:Array Value):HS w0 M (cb w.heap.size T cs.toList::H) (w.alloc (.cells cs T)):=by
  have:=h.come_blk (.cells cs T)
  unfold cb
  simpa using this
theorem HS.come_own {w0 w:World} {M:Nat→Prop} {H:List It} (h:HS w0 M H w) (T sz n cap:Nat) (xs spare:List Value) (h1:xs.length=n*sz) (h2:n≤cap) (h3:cap≤maxLen) (h4:xs.length+spare.length=cap*sz) :
    HS w0 M (own T sz (some ⟨w.heap.size,0,none⟩) n cap xs::H) (w.alloc (.cells (xs++spare).toArray T)):=
  h.come (eL w _) (F':=fun x=>x=w.heap.size) (.inr ⟨_,spare,rfl,fun x=>Iff.rfl,h1,h2,h3,h4,heap_alloc_new w _⟩) fun b hb=>by omega

theorem wD {t sz by_:Nat} {z:Value} {zs:List Value} {w0 w:World} {M:Nat→Prop} {H:List It} [hi:TIf P t z zs sz by_] (hH:HS w0 M H w) :
    Op1 P N l ⟨d,.alloc t,T,pos,af,g⟩ w (fun v w'=>∃b,v= .pointer (some (bat b 0))∧HS w0 M (cb b t zs::H) w'):=by
  intro a hA K Q hK
  obtain ⟨ti,h3,h4,h5,h6⟩:=hi.eq
  unfold Oper.wp
  simp only [execOp,Instr.alloc,zeroValue,typeInfo,Sem.run_bind,run_program,Result.andThen_ok,h3,h4,Sem.run_pure,newVar,newRow,run_newObj,World.alloc_eq,Oper.upon]
  exact hK _ _ ⟨w.heap.size,rfl,by rw [←hi.zc];exact hH.come_cb t z.cells⟩
theorem op_box {t:Nat} {x:Operand} {v:Value} {w0 w:World} {M:Nat→Prop} {H:List It} (hx:ev l x=some v) (hH:HS w0 M H w) :
    Op1 P N l ⟨d,.box t x,T,pos,af,g⟩ w (fun v' w'=>∃b,v'= .pointer (some (bat b 0))∧HS w0 M (cb b t v.cells.toList::H) w'):=by
  intro a hA K Q hK
  unfold Oper.wp
  simp only [execOp,hA.ev hx,Instr.box,newVar,newRow,Sem.run_bind,Sem.run_pure,run_newObj,World.alloc_eq,Result.andThen_ok,Oper.upon]
  exact hK _ _ ⟨w.heap.size,rfl,hH.come_cb t v.cells⟩
theorem nX {t:Nat} {x:Operand} {vs:List Value} {w0 w:World} {M:Nat→Prop} {H:List It} (hx:ev l x=some (.agg vs.toArray)) (hH:HS w0 M H w) :
    Op1 P N l ⟨d,.box t x,T,pos,af,g⟩ w (fun v' w'=>∃b,v'= .pointer (some (bat b 0))∧HS w0 M (cb b t vs::H) w'):=by
  have:=op_box (P:=P) (N:=N) (l:=l) (d:=d) (T:=T) (pos:=pos) (af:=af) (g:=g) (t:=t) hx hH
  simpa [Value.cells] using this
theorem sU {v:Value} (h1:v.oneCell'=true):v.cells=#[v]:=by cases v<;>first|rfl|simp [Value.oneCell'] at h1
theorem op_box1 {t:Nat} {x:Operand} {v:Value} {w0 w:World} {M:Nat→Prop} {H:List It} (hx:ev l x=some v) (h1:v.oneCell'=true) (hH:HS w0 M H w) :
    Op1 P N l ⟨d,.box t x,T,pos,af,g⟩ w (fun v' w'=>∃b,v'= .pointer (some (bat b 0))∧HS w0 M (cb b t [v]::H) w'):=by
  have:=op_box (P:=P) (N:=N) (l:=l) (d:=d) (T:=T) (pos:=pos) (af:=af) (g:=g) (t:=t) hx hH
  simpa [sU h1] using this

theorem op_store1 {t by_ b Tb:Nat} {z v u:Value} {zs:List Value} {x y:Operand} {w0 w:World} {M:Nat→Prop} {H H':List It} [hi:TIf P t z zs 1 by_]
    (hx:ev l x=some (.pointer (some (bat b 0)))) (hy:ev l y=some v) (h1:v.oneCell'=true) (hH:HS w0 M H w) (hr:Rp H (cb b Tb [u]) (cb b Tb [v]) H') :
    Op1 P N l ⟨d,.store t x y,T,pos,af,g⟩ w (fun _ w'=>HS w0 M H' w'):=
  xO (hi:=hi) hx hy hH hr (vs:=[v]) (by rw [sU h1]) rfl (by simp [h1]) (Nat.le_refl _) rfl
theorem yP {t sz by_ b Tb:Nat} {z:Value} {zs cs vs:List Value} {x y:Operand} {w0 w:World} {M:Nat→Prop} {H H':List It} [hi:TIf P t z zs sz by_]
    (hx:ev l x=some (.pointer (some (bat b 0)))) (hy:ev l y=some (.agg vs.toArray)) (hH:HS w0 M H w) (hr:Rp H (cb b Tb cs) (cb b Tb vs) H') (hl:vs.length=sz) (hl2:cs.length=sz) (h1:vs.all (·.oneCell')=true) :
    Op1 P N l ⟨d,.store t x y,T,pos,af,g⟩ w (fun _ w'=>HS w0 M H' w'):=
  xO (hi:=hi) hx hy hH hr (vs:=vs) (by simp [Value.cells]) hl h1 (by omega) (by
    unfold put
    rw [List.drop_of_length_le (by omega)]
    simp)
theorem zB {t by_ b j Tb:Nat} {z v:Value} {zs cs cs':List Value} {x y:Operand} {w0 w:World} {M:Nat→Prop} {H H':List It} [hi:TIf P t z zs 1 by_]
    (hx:ev l x=some (.pointer (some (bat b j)))) (hy:ev l y=some v) (h1:v.oneCell'=true) (hH:HS w0 M H w) (hr:Rp H (cb b Tb cs) (cb b Tb cs') H') (hj:Nat.blt j cs.length=true) (hp:cs.set j v=cs') :
    Op1 P N l ⟨d,.store t x y,T,pos,af,g⟩ w (fun _ w'=>HS w0 M H' w'):=by
  have hj':j<cs.length:=by simpa using hj
  refine xO (hi:=hi) hx hy hH hr (vs:=[v]) (by rw [sU h1]) rfl (by simp [h1]) (by omega) ?_
  rw [←hp,List.set_eq_take_append_cons_drop,if_pos hj']
  simp [put]
theorem uS {t by_ j Tb szb n cap:Nat} {o:Option Addr} {z v:Value} {zs:List Value} {x y:Operand} {xs xs':List Value} {w0 w:World} {M:Nat→Prop} {H H':List It} [hi:TIf P t z zs 1 by_]
    (hx:ev l x=some (.pointer (some (sat o j)))) (hy:ev l y=some v) (h1:v.oneCell'=true) (hH:HS w0 M H w) (hr:Rp H (own Tb szb o n cap xs) (own Tb szb o n cap xs') H') (hj:j<xs.length) (hp:put xs j [v]=xs') :
    Op1 P N l ⟨d,.store t x y,T,pos,af,g⟩ w (fun _ w'=>HS w0 M H' w'):=
  uI (hi:=hi) hx hy hH hr (vs:=[v]) (by rw [sU h1]) rfl (by simp [h1]) (by omega) (by omega) hp

theorem xJ {t sz by_:Nat} {z:Value} {zs:List Value} {fl:List (Nat × Nat)} {szs:List (Nat × Nat)} {ps:Array (Nat × Operand)} {vs:List Value} {cs:Array Value} [h:TSt P t fl] [hi:TIf P t z zs sz by_]
    (hsz:∀w,(fl.mapM (fun p=>do pure (p.2,←sizeOf p.1)):Sem (List (Nat × Nat))).run P w= .ok szs w)
    (hv:evL l (ps.toList.map (·.2))=some vs) (hf:Instr.fill (szs[·]?) z.cells ((ps.toList.map (·.1)).zip vs)=some cs) :
    Ex P N l C ⟨d,.build t ps,T,pos,af,g⟩ (.agg cs):=by
  intro a w hA hC
  obtain ⟨fs,h1,h2⟩:=h.eq
  obtain ⟨ti,h3,h4,h5,h6⟩:=hi.eq
  have hvs:=hA.evL hv
  have hps:(ps.map (fun p=>(p.1,a.eval p.2))).toList=(ps.toList.map (·.1)).zip vs:=by
    rw [←hvs,List.map_map]
    simp [List.zip_map',Function.comp_def]
  have hm:(fs.mapM (fun f=>do pure (f.offset,←sizeOf f.type)):Sem (Array (Nat × Nat))).run P w= .ok szs.toArray w:=by
    have e:=hsz w
    rw [←h2,List.mapM_map] at e
    rw [Array.mapM_eq_mapM_toList]
    simp [Function.comp_def] at e
    simp [e]
  simp only [execOp,Instr.build,zeroValue,typeInfo,Sem.run_bind,run_program,Result.andThen_ok,h3,h4,Sem.run_pure,run_underlying h1,hm]
  have hps':(Array.map (fun x:Nat × Operand=>match x with|(i,x)=>(i,a.eval x)) ps).toList=(ps.toList.map (·.1)).zip vs:=hps
  rw [hps']
  have hf':Instr.fill (fun x=>szs.toArray[x]?) z.cells ((ps.toList.map (·.1)).zip vs)=some cs:=by simpa using hf
  rw [hf']
  rfl

theorem dT:∀(vs pre zs:List Value) (szs:List (Nat × Nat)) (hz:zs.length=vs.length) (h1:vs.all (·.oneCell')=true)
    (hs:∀i,i<vs.length→szs[pre.length+i]?=some (pre.length+i,1)),
    Instr.fill (szs[·]?) (pre++zs).toArray ((List.range' pre.length vs.length).zip vs)=some (pre++vs).toArray
  | [],pre,zs,szs,hz,h1,hs=>by
    obtain rfl:zs=[]:=by simpa using hz
    simp [Instr.fill]
  |v::vs,pre,[],szs,hz,h1,hs=>by simp at hz
  | v ::vs,pre,z::zs,szs,hz,h1,hs=>by
    simp only [List.all_cons,Bool.and_eq_true] at h1
    have h0:=hs 0 (by simp)
    simp only [Nat.add_zero] at h0
    have ih:=dT vs (pre++[v]) zs szs (by simpa using hz) h1.2 fun i hi=>by
      have:=hs (i+1) (by simp;omega)
      simp only [List.length_append,List.length_cons,List.length_nil]
      rw [show pre.length+(0+1)+i=pre.length+(i+1) by omega]
      exact this
    simp only [List.length_cons,List.range'_succ,List.zip_cons_cons,Instr.fill,h0,sU h1.1]
    have hset:(#[v].zipIdx.foldl (fun cs (p:Value × Nat)=>cs.setIfInBounds (pre.length+p.2) p.1) (pre++z::zs).toArray)=(pre++[v]++zs).toArray:=by
      apply Array.ext'
      simp [List.set_append]
    have hset':(#[v].zipIdx.foldl (fun cs x=>match x with|(c,j)=>cs.setIfInBounds (pre.length+j) c) (pre++z::zs).toArray)=(pre++[v]++zs).toArray:=hset
    rw [hset']
    simp only [List.length_append,List.length_cons,List.length_nil] at ih
    simpa using ih

theorem rV {t sz by_:Nat} {z:Value} {zs:List Value} {fl:List (Nat × Nat)} {ps:Array (Nat × Operand)} {vs:List Value} [h:TSt P t fl] [hi:TIf P t z zs sz by_]
    (hv:evL l (ps.toList.map (·.2))=some vs) (hk:ps.toList.map (·.1)=List.range' 0 sz) (hfl:fl.map (·.2)=List.range' 0 sz) (h1:vs.all (·.oneCell')=true) (hz:zs.length=sz)
    (hsz:∀p∈fl,∃i,P.info? p.1=some i∧i.size=1) :
    Ex P N l C ⟨d,.build t ps,T,pos,af,g⟩ (.agg vs.toArray):=by
  have hlen :vs.length=sz:=by
    have e1 :vs.length=ps.toList.length:=by
      have :∀(xs:List Operand) (vs:List Value),evL l xs=some vs→vs.length=xs.length:=by
        intro xs
        induction xs with
        |nil=>intro vs h;simp [evL] at h;simp [←h]
        | cons x xs ih=>
          intro vs h
          simp only [evL] at h
          split at h
          · rename_i v vs' _ h2
            obtain rfl:v::vs'=vs:=by simpa using h
            simp [ih vs' h2]
          · cases h
      simpa using this _ _ hv
    have:=congrArg List.length hk
    simp at this
    simp [e1,this]
  have hrun:∀(fl:List (Nat × Nat)) (w:World),(∀p∈fl,∃i,P.info? p.1=some i∧i.size=1)→(fl.mapM (fun p=>do pure (p.2,←sizeOf p.1)):Sem (List (Nat × Nat))).run P w= .ok (fl.map (fun p=>(p.2,1))) w:=by
    intro fl w
    induction fl with
    |nil=>intro _;simp
    | cons p fl ih=>
      intro hp
      obtain ⟨i,hi1,hi2⟩:=hp p (by simp)
      have:=ih fun q hq=>hp q (by simp [hq])
      simp only [List.mapM_cons,Sem.run_bind,sizeOf,typeInfo,run_program,Result.andThen_ok,hi1,Sem.run_pure,hi2] at this ⊢
      rw [this]
      simp
  refine xJ (szs:=fl.map (fun p=>(p.2,1))) (fun w=>hrun fl w hsz) hv ?_
  have hzc:z.cells=zs.toArray:=by apply Array.ext';simpa using hi.zc
  have hff:=dT vs [] zs (fl.map (fun p=>(p.2,1))) (by omega) h1 fun i hi'=>by
    have:(fl.map (·.2))[i]?=some i:=by rw [hfl];exact List.getElem?_eq_some_iff.2 ⟨by rw [List.length_range'];omega,by rw [List.getElem_range'];omega⟩
    simp only [List.length_nil,Nat.zero_add,List.getElem?_map] at this ⊢
    obtain ⟨q,h1,h2⟩:=Option.map_eq_some_iff.1 this
    simp [h1,h2]
  rw [hk,hzc,←hlen]
  simpa using hff
end
theorem own_to {w:World} {F:Nat→Prop} {T sz n cap:Nat} {o:Option Addr} {xs:List Value} (h:(own T sz o n cap xs).sat w F):w.ownsRow 0 T sz (.slice o n cap) n xs:=by
  refine ⟨own_len h,?_⟩
  rcases h with ⟨rfl,rfl,rfl,rfl,_⟩| ⟨b,spare,rfl,h2,h3,h4,h5,h6,h7⟩
  · exact .inl ⟨rfl,rfl⟩
  · exact .inr ⟨b,cap,_,rfl,Nat.zero_le _,h7,h4,h5,by simpa using h6,by simp [h3]⟩
theorem own_of {w:World} {T sz n:Nat} {v:Value} {xs:List Value} (h:w.ownsRow 0 T sz v n xs) :
    ∃o cap,v= .slice o n cap∧(own T sz o n cap xs).sat w (fun b=>v.ownBlock=some b):=by
  obtain ⟨hl,h⟩:=h
  rcases h with ⟨rfl,rfl⟩| ⟨b,cap,cur,rfl,_,h7,h4,h5,h6,h8⟩
  · obtain rfl:xs=[]:=by simpa using hl
    exact ⟨none,0,rfl,.inl ⟨rfl,rfl,rfl,rfl,fun b hb=>by simp [Value.ownBlock] at hb⟩⟩
  · refine ⟨_,cap,rfl,.inr ⟨b,cur.toList.drop (n*sz),rfl,fun x=>by simp [Value.ownBlock,eq_comm],hl,h4,h5,?_,?_⟩⟩
    · have hle:=Nat.mul_le_mul_right sz h4
      rw [←h8]
      simp only [List.length_take,List.length_drop,Array.length_toList,h6]
      omega
    · rw [←h8,List.take_append_drop];simpa using h7
theorem qV (b off j:Nat):(⟨b,off,none⟩:Addr).add j=sat (some ⟨b,off,none⟩) j:=by
  unfold sat Addr.add mF gM
  by_cases hj:j=0
  · subst hj;simp
  · simp [hj]
theorem HS.nil_own {w0 w:World} {M:Nat→Prop} {H:List It} (h:HS w0 M H w) (T sz:Nat):HS w0 M (own T sz none 0 0 []::H) w:=
  h.come (Kp.refl _ _) (F':=fun _=>False) (.inl ⟨rfl,rfl,rfl,rfl,fun b hb=>hb⟩) fun b hb=>hb.elim
theorem grown_kp {w w':World} {row:Option Nat} {F:Nat→Prop} (h:w.grownBy w' row) (hF:∀b,row=some b→F b):Kp w F w':=
  ⟨h.os,h.tape,h.output,h.size,fun b hb hn=>h.block b hb fun he=>hn (hF b he.symm)⟩

section
variable {P:Program} {N:Nat} {l:List (Nat × Value)} {C:World→Prop} {d:Option Tmp} {T:TypeId} {pos:String} {af:Array Edge} {g:Option (Nat × Bool)}

theorem mN {w:World} (t ty e:TypeId) (i:TypeInfo) (size:Nat) (ht:P.underlying t=some (.slice e)) (hi:P.info? e=some i)
    (v:Value) (n:Nat) (xs:List Value) (hown:w.ownsRow 0 e size v n xs) (c:Nat):(Builtin.append_ #[t,t] ty #[v,.slice none 0 c]).run P w= .ok v w:=by
  rcases hown.2 with ⟨rfl,rfl⟩| ⟨g,cap,cur,rfl,_,_,hnc,_⟩
  · simp [Builtin.append_,run_underlying ht,sizeOf,typeInfo,hi,Builtin.lenOf,Builtin.firstCells]
  · simp [Builtin.append_,run_underlying ht,sizeOf,typeInfo,hi,Builtin.lenOf,Builtin.firstCells,hnc,storeCells]

theorem yX {t e sz by_ n cap m c:Nat} {z:Value} {zs:List Value} {o ox:Option Addr} {x y:Operand} {xs news:List Value} {w0 w:World} {M:Nat→Prop} {H:List It} [ht:TSl P t e] [hi:TIf P e z zs sz by_]
    (hx:ev l x=some (.slice o n cap)) (hy:ev l y=some (.slice ox m c)) (hH:HS w0 M H w) (hm:own e sz o n cap xs∈H) (hr:Rd w ox news) (hl:news.length=m*sz)
    (hzs0:zs.length=sz) (hsz:0<sz) (h1:news.all (·.oneCell')=true) (h63:n+m≤maxLen) (hby:(n+m)*by_≤140737488355328) :
    Op1 P N l ⟨d,.call ⟨.builtin .append,#[x,y],#[t,t]⟩,T,pos,af,g⟩ w (fun v w'=>∃o' cap',v= .slice o' (n+m) cap'∧∀H',Rp H (own e sz o n cap xs) (own e sz o' (n+m) cap' (xs++news)) H'→HS w0 M H' w'):=by
  intro a hA K Q hK
  obtain ⟨ti,h3,h4,h5,h6⟩:=hi.eq
  have hzs:z.cells.size=sz:=by rw [←hzs0,←hi.zc];simp
  obtain ⟨F,hF⟩:=hH.sat hm
  have hown:=own_to hF
  have key:∃v' w',(Builtin.append_ #[t,t] T #[.slice o n cap,.slice ox m c]).run P w= .ok v' w'∧w'.ownsRow 0 e sz v' (n+m) (xs++news)∧w.grownBy w' (Value.slice o n cap).ownBlock∧
      (v'.ownBlock=(Value.slice o n cap).ownBlock∨v'.ownBlock=some w.heap.size):=by
    rcases ox with _|ad
    · have hm0:news=[]:=by
        cases hn:news with
        |nil=>rfl
        |cons u r=>obtain ⟨b,off,h⟩:=hr.1 (by simp [hn]);cases h
      subst hm0
      have hm1:m=0:=by
        rcases Nat.eq_zero_or_pos m with h|h
        · exact h
        · have:=Nat.mul_pos h hsz;simp at hl;omega
      subst hm1
      exact ⟨_,w,mN t T e ti sz ht.eq h3 _ n xs hown c,by simpa using hown,World.grownBy.refl w _,.inl rfl⟩
    · have hcells:∀j u,news[j]?=some u→w.cell? (ad.add j)=some u:=by
        intro j u hu
        have hj:j<news.length:=(List.getElem?_eq_some_iff.1 hu).1
        obtain ⟨b,off,h⟩:=hr.1 (by omega)
        obtain rfl:ad=⟨b,off,none⟩:=by simpa using h
        have:=hr.2 j u hu
        rw [←qV] at this
        exact this
      obtain ⟨v',w',hrun,q2,q3,_,q5⟩:=run_append_own_at (P:=P) w 0 t T e ti z sz by_ ht.eq h3 h4 h5 h6 hzs hsz _ n xs hown ad m c news hl hcells (fun u hu=>List.all_eq_true.1 h1 u hu) h63 hby (Nat.zero_le _)
      exact ⟨v',w',hrun,q2,q3,q5⟩
  obtain ⟨v',w',hrun,q2,q3,q5⟩:=key
  obtain ⟨o',cap',rfl,hs'⟩:=own_of q2
  unfold Oper.wp
  simp only [execOp,resolve,invoke,builtin,Sem.run_bind,Sem.run_pure,Result.andThen_ok,List.map_toArray,List.map_cons,List.map_nil,hA.ev hx,hA.ev hy,hrun,Oper.upon]
  refine hK _ _ ⟨o',cap',rfl,fun H' hrp=>hH.turn hrp fun F' hF'=>?_⟩
  have hFo:∀b,(Value.slice o n cap).ownBlock=some b→F' b:=by
    intro b hb
    rcases hF' with ⟨rfl,_⟩| ⟨b',spare',rfl,g2,_⟩
    · simp [Value.ownBlock] at hb
    · have:b'=b:=by simpa [Value.ownBlock] using hb
      subst this
      exact (g2 _).2 rfl
  refine ⟨grown_kp q3 hFo,_,hs',fun b hb=>?_⟩
  rcases q5 with h|h
  · exact .inr (hFo b (h▸hb))
  · rw [h] at hb;simp at hb;exact .inl (by omega)

theorem eQ {t e sz by_ n:Nat} {z:Value} {zs:List Value} {ps:Array (Nat × Operand)} {vs:List Value} {xs:List Value} {w0 w:World} {M:Nat→Prop} {H:List It} [ht:TSl P t e] [hi:TIf P e z zs sz by_]
    (hv:evL l (ps.toList.map (·.2))=some vs) (hf:(Instr.fill (fun i=>some (i*sz,sz)) ((Array.range (n*sz)).map (z.cells[· % z.cells.size]!)) ((ps.toList.map (·.1)).zip vs)).map Array.toList=some xs)
    (hl:xs.length=n*sz) (hn:n*sz≤1000000) (hn2:n≤maxLen) (hH:HS w0 M H w) :
    Op1 P N l ⟨d,.buildSlice t n ps,T,pos,af,g⟩ w (fun v w'=>∃o,v= .slice o n n∧HS w0 M (own e sz o n n xs::H) w'):=by
  intro a hA K Q hK
  obtain ⟨ti,h3,h4,h5,h6⟩:=hi.eq
  have hvs:=hA.evL hv
  have hps:(Array.map (fun x:Nat × Operand=>match x with|(i,x)=>(i,a.eval x)) ps).toList=(ps.toList.map (·.1)).zip vs:=by
    rw [←hvs,List.map_map]
    simp [List.zip_map',Function.comp_def]
  obtain ⟨cs,hf1,hf2⟩:=Option.map_eq_some_iff.1 hf
  have hbig:¬(n*sz > 2 ^ 24):=by omega
  have hrun:(Instr.buildSlice t n (ps.map (fun x:Nat × Operand=>match x with|(i,x)=>(i,a.eval x)))).run P w= .ok (.slice (some ⟨w.heap.size,0,none⟩) n n) (w.alloc (.cells cs e)):=by
    by_cases h0:n*sz=0
    · have hz:∀f:Nat→Value,(Array.range 0).map f=#[]:=fun f=>by simp
      have hbig0:¬((0:Nat) > 2 ^ 24):=by omega
      rw [h0,hz] at hf1
      simp only [Instr.buildSlice,Sem.run_bind,run_underlying ht.eq,Result.andThen_ok,sizeOf,typeInfo,run_program,h3,Sem.run_pure,h5,hbig0,if_false,h0,if_true,hps,hz,hf1]
      simp [newRow]
    · simp only [Instr.buildSlice,Sem.run_bind,run_underlying ht.eq,Result.andThen_ok,sizeOf,typeInfo,run_program,h3,Sem.run_pure,h5,hbig,if_false,h0,hps,zeroValue,h4,hf1]
      simp [newRow]
  unfold Oper.wp
  simp only [execOp,Sem.run_bind,hrun,Result.andThen_ok,Sem.run_pure,Oper.upon]
  subst hf2
  have:=hH.come_own e sz n n cs.toList [] hl (Nat.le_refl _) hn2 (by simpa using hl)
  exact hK _ _ ⟨_,rfl,by simpa using this⟩

theorem kA (z:Value) (h:z.cells=#[z]) (n:Nat):madeCells z.cells n=(List.replicate n z).toArray:=by
  rw [h]
  simp only [madeCells]
  apply Array.ext'
  simp only [Array.toList_map,Array.toList_range,List.size_toArray,List.length_cons,List.length_nil]
  rw [List.eq_replicate_iff]
  refine ⟨by simp,fun b hb=>?_⟩
  obtain ⟨i,_,rfl⟩:=List.mem_map.1 hb
  simp [Nat.mod_one]

theorem mP {t e sz by_:Nat} {z:Value} {zs:List Value} {x y:Operand} {kl kc:IntKind} {n c:Nat} {w0 w:World} {M:Nat→Prop} {H:List It} [ht:TSl P t e] [hi:TIf P e z zs sz by_]
    (hx:ev l x=some (.int kl n)) (hy:ev l y=some (.int kc c)) (hnc:n≤c) (hc:c≤maxLen) (hb:by_* c≤140737488355328) (hH:HS w0 M H w) :
    Op1 P N l ⟨d,.makeSlice t x y,T,pos,af,g⟩ w (fun v w'=>∃o,v= .slice o n c∧HS w0 M (own e sz o n c ((madeCells z.cells (c*sz)).toList.take (n*sz))::H) w'):=by
  intro a hA K Q hK
  obtain ⟨ti,h3,h4,h5,h6⟩:=hi.eq
  have hml:maxLen=2 ^ 63 - 1:=rfl
  have hbi:(ti.bytes:Int)* (c:Int)≤281474976710656:=by rw [h6,←Int.natCast_mul];omega
  have hrun:=run_make (P:=P) w t e ti z ht.eq h3 h4 kl kc (n:Int) (c:Int) (by omega) (by omega) hbi (by omega)
  rw [h5] at hrun
  simp only [Int.toNat_natCast] at hrun
  unfold Oper.wp
  simp only [execOp,hA.ev hx,hA.ev hy,Sem.run_bind,hrun,Result.andThen_ok,Sem.run_pure,Oper.upon]
  have hle:n*sz≤c*sz:=Nat.mul_le_mul_right _ hnc
  have:=hH.come_own e sz n c ((madeCells z.cells (c*sz)).toList.take (n*sz)) ((madeCells z.cells (c*sz)).toList.drop (n*sz)) (by simp only [List.length_take,Array.length_toList,size_madeCells];omega) hnc hc (by simp only [List.length_take,List.length_drop,Array.length_toList,size_madeCells];omega)
  refine hK _ _ ⟨_,rfl,by simpa using this⟩

inductive Cats:Nat→List Value→List Value→Prop
  |nil {n:Nat}:Cats n [] []
  |c1 {v:Value} {r xs:List Value}:v.oneCell'=true→Cats 1 r xs→Cats 1 (v::r) (v::xs)
  |c2 {a b:Value} {r xs:List Value}:Cats 2 r xs→Cats 2 (.agg #[a,b]::r) (a::b::xs)
  |c3 {a b c:Value} {r xs:List Value}:Cats 3 r xs→Cats 3 (.agg #[a,b,c]::r) (a::b::c::xs)
  |c4 {a b c d:Value} {r xs:List Value}:Cats 4 r xs→Cats 4 (.agg #[a,b,c,d]::r) (a::b::c::d::xs)
  |cn {cs r xs:List Value}:Cats cs.length r xs→Cats cs.length (.agg cs.toArray::r) (cs++xs)
theorem Cats.fill {sz:Nat} {vs xs:List Value} (h:Cats sz vs xs):xs.length=vs.length*sz∧∀(k:Nat) (pre zs:List Value),pre.length=k*sz→zs.length=xs.length→
    Instr.fill (fun i=>some (i*sz,sz)) (pre++zs).toArray ((List.range' k vs.length).zip vs)=some (pre++xs).toArray:=by
  have step : ∀ (sz:Nat) (v:Value) (cs r xs:List Value),v.cells=cs.toArray→cs.length=sz→(xs.length=r.length*sz∧∀(k:Nat) (pre zs:List Value),pre.length=k*sz→zs.length=xs.length→
      Instr.fill (fun i=>some (i*sz,sz)) (pre++zs).toArray ((List.range' k r.length).zip r)=some (pre++xs).toArray)→
      (cs++xs).length=(v::r).length*sz∧∀(k:Nat) (pre zs:List Value),pre.length=k*sz→zs.length=(cs++xs).length→
      Instr.fill (fun i=>some (i*sz,sz)) (pre++zs).toArray ((List.range' k (v::r).length).zip (v::r))=some (pre++(cs++xs)).toArray:=by
    intro sz v cs r xs hv hc ⟨hl,ih⟩
    refine ⟨by simp [hl,hc,Nat.add_mul];omega,fun k pre zs hp hz=>?_⟩
    rw [List.length_append] at hz
    have e1:zs=zs.take sz++zs.drop sz:=by simp
    have ih':=ih (k+1) (pre++cs) (zs.drop sz) (by simp [hp,hc,Nat.add_mul]) (by simp;omega)
    have hfold : ∀(cs zs1:List Value) (pre zs2:List Value),cs.length=zs1.length→(cs.toArray.zipIdx.foldl (fun acc x=>match x with|(c,j)=>acc.setIfInBounds (pre.length+j) c) (pre++(zs1++zs2)).toArray)=(pre++(cs++zs2)).toArray:=by
      intro cs
      have gen:∀(cs zs1:List Value) (pre zs2:List Value) (i:Nat),cs.length=zs1.length→((cs.zipIdx i).foldl (fun acc x=>match x with|(c,j)=>acc.setIfInBounds (pre.length+j) c) (pre++(zs1++zs2)).toArray) =
          ((cs.zipIdx i).foldl (fun acc x=>match x with|(c,j)=>acc.setIfInBounds (pre.length+j) c) (pre++(zs1++zs2)).toArray):=fun _ _ _ _ _ _=>rfl
      clear gen
      have gen : ∀(cs zs1 done pre zs2:List Value),cs.length=zs1.length→((cs.zipIdx done.length).foldl (fun (acc:Array Value) (x:Value × Nat)=>acc.setIfInBounds (pre.length+x.2) x.1) (pre++(done++(zs1++zs2))).toArray)=(pre++(done++(cs++zs2))).toArray:=by
        intro cs
        induction cs with
        | nil => intro zs1 done pre zs2 h;obtain rfl:zs1=[]:=by simpa using h.symm
                 simp
        | cons c cs ih=>
          intro zs1 done pre zs2 h
          cases zs1 with
          |nil=>simp at h
          | cons z1 zs1=>
            have:=ih zs1 (done++[c]) pre zs2 (by simpa using h)
            simp only [List.length_append,List.length_cons,List.length_nil] at this
            simp only [List.zipIdx_cons,List.foldl_cons]
            have e:(pre++(done++(z1::zs1++zs2))).toArray.setIfInBounds (pre.length+done.length) c=(pre++(done++[c]++(zs1++zs2))).toArray:=by
              apply Array.ext'
              simp [List.set_append]
            rw [e,this]
            simp
      intro zs1 pre zs2 h
      have:=gen cs zs1 [] pre zs2 h
      rw [←Array.foldl_toList]
      simpa using this
    have hsz1:(zs.take sz).length=cs.length:=by simp;omega
    have hf:=hfold cs (zs.take sz) pre (zs.drop sz) hsz1.symm
    rw [←e1] at hf
    have hcell:v.cells.size=sz:=by rw [hv];simpa using hc
    have hno:(v.cells.size≠sz || decide (k*sz+v.cells.size > (pre++zs).toArray.size))=false:=by
      simp [hcell,hp];omega
    have hno':(decide (v.cells.size≠sz) || decide (k*sz+v.cells.size > (pre++zs).toArray.size))=false:=hno
    simp only [List.length_cons,List.range'_succ,List.zip_cons_cons,Instr.fill,hno',Bool.false_eq_true,if_false]
    rw [hv,←hp,hf]
    rw [←List.append_assoc pre cs,ih']
    simp
  induction h with
  | nil=>exact ⟨by simp,fun k pre zs hp hz=>by
      obtain rfl:zs=[]:=by simpa using hz
      simp [Instr.fill]⟩
  |c1 h1 _ ih=>exact step 1 _ [_] _ _ (by rw [sU h1]) rfl ih
  |c2 _ ih=>exact step 2 _ [_,_] _ _ rfl rfl ih
  |c3 _ ih=>exact step 3 _ [_,_,_] _ _ rfl rfl ih
  |c4 _ ih=>exact step 4 _ [_,_,_,_] _ _ rfl rfl ih
  |cn _ ih=>exact step _ _ _ _ _ rfl rfl ih

theorem zZ {t e sz by_ n:Nat} {z:Value} {zs:List Value} {ps:Array (Nat × Operand)} {vs:List Value} {xs:List Value} {w0 w:World} {M:Nat→Prop} {H:List It} [ht:TSl P t e] [hi:TIf P e z zs sz by_]
    (hv:evL l (ps.toList.map (·.2))=some vs) (hk:ps.toList.map (·.1)=List.range' 0 n) (hc:Cats sz vs xs) (hvn:vs.length=n) (hn:Nat.ble (n*sz) 1000000=true) (hn2:Nat.ble n 1000000=true) (hH:HS w0 M H w) :
    Op1 P N l ⟨d,.buildSlice t n ps,T,pos,af,g⟩ w (fun v w'=>∃o,v= .slice o n n∧HS w0 M (own e sz o n n xs::H) w'):=by
  obtain ⟨h1,h2⟩:=hc.fill
  have hn':=Nat.le_of_ble_eq_true hn
  have hn2':=Nat.le_of_ble_eq_true hn2
  refine eQ hv ?_ (by rw [h1,hvn]) hn' (by unfold maxLen;omega) hH
  have hlen:((Array.range (n*sz)).map (z.cells[· % z.cells.size]!)).toList.length=xs.length:=by simp [h1,hvn]
  have:=h2 0 [] ((Array.range (n*sz)).map (z.cells[· % z.cells.size]!)).toList (by simp) hlen
  rw [hk,←hvn]
  simp only [List.nil_append,Array.toArray_toList] at this
  rw [hvn] at this ⊢
  rw [this]
  simp
end
def Ret (P:Program) (k:FuncId) (args:Array Value) (w:World) (R:Value→World→Prop):Prop:=
  Calls P k args w fun e w'=>∃v,e= .returned v∧R v w'
theorem Ret.mono {P:Program} {k:FuncId} {args:Array Value} {w:World} {R R':Value→World→Prop} (h:Ret P k args w R) (hr:∀v w',R v w'→R' v w'):Ret P k args w R':=
  Calls.mono h fun e w' ⟨v,he,hR⟩=>⟨v,he,hr v w' hR⟩

class FnB (P:Program) (k:FuncId):Prop where
  eq:∃fn,P.funcs[k]?=some fn∧fn.body.isSome=true∧(fn.name == "runtime.NumGoroutine")=false

section
variable {P:Program} {N:Nat} {l:List (Nat × Value)} {a:Act} {w:World} {d:Option Tmp} {T:TypeId} {pos:String} {af:Array Edge} {g:Option (Nat × Bool)}

theorem zA {f:Operand} {k:FuncId} {first captured args A:Array _} {ats:Array TypeId} {vs:List Value} {R:Value→World→Prop} [hk:FnB P k]
    (hf:ev l f=some (.func (.func k) first captured)) (hv:evL l args.toList=some vs) (hA':first++vs.toArray++captured=A) (h:Ret P k A w R) :
    Op1 P N l ⟨d,.call ⟨.value f,args,ats⟩,T,pos,af,g⟩ w R:=by
  intro a hA K Q hK
  subst hA'
  obtain ⟨fn,h1,h2,h3⟩:=hk.eq
  have hvs:args.map a.eval=vs.toArray:=by
    have:=hA.evL hv
    apply Array.ext'
    simpa using this
  have h2':fn.body.isNone=false:=by cases hb:fn.body<;>simp_all
  unfold Oper.wp
  simp only [execOp,resolve,hvs,hA.ev hf,Deferred.ofValue,Sem.run_bind,Sem.run_pure,Result.andThen_ok,invoke,callFunc,run_program,h1,h3,h2',Bool.false_eq_true,if_false,Oper.upon]
  refine Calls.mono h fun e w' ⟨v,he,hR⟩=>?_
  subst he
  exact hK v w' hR
end

section
variable {P:Program} {N:Nat} {l:List (Nat × Value)} {a:Act} {Ds:List Deferred} {w:World} {K:Act→World→Prop} {Q:Exit→Act→World→Prop}
theorem kN (h:K a w):Exit.then K Q .normal a w:=h
theorem then_ret (h:Q .ret a w):Exit.then K Q .ret a w:=h
theorem eY {i:Nat} (h:Q (.exit i) a w):Exit.then K Q (.exit i) a w:=h
theorem gW {i:Nat} (h:Q .normal a w):Exit.inBlock i Q .normal a w:=h
theorem inB_ret {i:Nat} (h:Q .ret a w):Exit.inBlock i Q .ret a w:=h
theorem inB_eq {i:Nat} (h:Q .normal a w):Exit.inBlock i Q (.exit i) a w:=by simpa [Exit.inBlock] using h
theorem inB_ne {i j:Nat} (hij:Nat.beq j i=false) (h:Q (.exit j) a w):Exit.inBlock i Q (.exit j) a w:=by
  have:j≠i:=fun h=>by subst h;simp at hij
  simpa [Exit.inBlock,this] using h
theorem st_nil {ops:Array Oper} (h:Q .normal a w):wpList P ops Q [] a w:=h

theorem st_cond {c:Operand} {x y:Code} {t:Bool} (hA:Sl N l a Ds) (hc:ev l c=some (.bool t)) (h1:t=true→x.wp P Q a w) (h2:t=false→y.wp P Q a w):(Code.cond c x y).wp P Q a w:=
  wp_cond_split (hA.ev hc) h1 h2
theorem st_cond_d {c:Operand} {x y:Code} {p:Prop} [Decidable p] (hA:Sl N l a Ds) (hc:ev l c=some (.bool (decide p))) (h1:p→x.wp P Q a w) (h2:¬p→y.wp P Q a w):(Code.cond c x y).wp P Q a w:=
  wp_cond_split (hA.ev hc) (fun h=>h1 (of_decide_eq_true h)) (fun h=>h2 (of_decide_eq_false h))
theorem st_cond_nd {c:Operand} {x y:Code} {p:Prop} [Decidable p] (hA:Sl N l a Ds) (hc:ev l c=some (.bool (!decide p))) (h1:¬p→x.wp P Q a w) (h2:p→y.wp P Q a w):(Code.cond c x y).wp P Q a w:=
  wp_cond_split (hA.ev hc) (fun h=>h1 (by simpa using h)) (fun h=>h2 (by simpa using h))
theorem dA {c:Operand} {x y:Code} (hA:Sl N l a Ds) (hc:ev l c=some (.bool true)) (h:x.wp P Q a w):(Code.cond c x y).wp P Q a w:=wp_cond_true (hA.ev hc) h
theorem dB {c:Operand} {x y:Code} (hA:Sl N l a Ds) (hc:ev l c=some (.bool false)) (h:y.wp P Q a w):(Code.cond c x y).wp P Q a w:=wp_cond_false (hA.ev hc) h

theorem wp_lp {c:Code} {S:Type} (I:S→Act→World→Prop) (μ:S→Nat) (s:S) (h₀:I s a w)
    (round:∀s a w,I s a w→c.wp P (Exit.then (fun a' w'=>∃s',I s' a' w'∧μ s'<μ s) Q) a w):(Code.loop c).wp P Q a w:=by
  intro b k cs
  have key:∀n s a w,μ s=n→I s a w→
      ∃e a' w',Q e a' w'∧Arrives P (lone (b.at a (.code c:: .inLoop c::k)) cs w) b k cs e a' w':=by
    intro n
    induction n using Nat.strongRecOn with
    | _ n ih=>
      intro s a w hn hI
      obtain ⟨e,a₁,w₁,hq,harr⟩:=round s a w hI b (.inLoop c::k) cs
      cases e with
      | normal=>
        obtain ⟨s',hI₁,hlt⟩:=hq
        obtain ⟨e₂,a₂,w₂,hq₂,harr₂⟩:=ih (μ s') (hn▸hlt) s' a₁ w₁ rfl hI₁
        exact ⟨e₂,a₂,w₂,hq₂,.of_steps (Steps.trans harr (.one step_inLoop)) harr₂⟩
      |exit id=>exact ⟨_,a₁,w₁,hq,.pass (x:=.inLoop c) rfl (fun _ _=>.inl (by simp)) harr⟩
      |goto l=>exact ⟨_,a₁,w₁,hq,.pass (x:=.inLoop c) rfl (fun _ _=>.inl (by simp)) harr⟩
      |ret=>exact ⟨_,a₁,w₁,hq,.pass (x:=.inLoop c) rfl (fun _ _=>.inl (by simp)) harr⟩
      |panic ch=>exact ⟨_,a₁,w₁,hq,.pass (x:=.inLoop c) rfl (fun _ _=>.inl (by simp)) harr⟩
      |outgrown=>exact ⟨_,a₁,w₁,hq,.pass (x:=.inLoop c) rfl (fun _ _=>.inl (by simp)) harr⟩
  obtain ⟨e,a',w',hq,harr⟩:=key _ s a w rfl h₀
  exact ⟨e,a',w',hq,.of_steps (.one step_loop) harr⟩

def sl0:Nat→List Value→List (Nat × Value)
  |_,[]=>[]
  |i,v::r=>(i,v)::sl0 (i+1) r
theorem lk_sl0:∀(vs:List Value) (k i:Nat) (v:Value),lk (sl0 k vs) i=some v→k≤i∧vs[i - k]?=some v
  | [],k,i,v,h=>by simp [sl0,lk] at h
  | u ::r,k,i,v,h=>by
    simp only [sl0,lk] at h
    by_cases hki:k=i
    · subst hki
      simp at h
      exact ⟨Nat.le_refl _,by simp [h]⟩
    · have hb:Nat.beq k i=false:=by
        cases hb:Nat.beq k i with
        |false=>rfl
        |true=>exact absurd (Nat.eq_of_beq_eq_true hb) hki
      simp only [hb,cond_false] at h
      obtain ⟨h1,h2⟩:=lk_sl0 r (k+1) i v h
      refine ⟨by omega,?_⟩
      rw [show i - k=(i - (k+1))+1 by omega]
      simpa using h2

theorem enter {k:FuncId} {fn:Func} {c:Code} {args:List Value} {R:Value→World→Prop} (hf:P.funcs[k]?=some fn) (hb:fn.body=some c) (hn:fn.ntmps=N) (hle0:Nat.ble args.length N=true)
    (h:∀a,Sl N (sl0 0 args) a→c.wp P (bodyPost P fn fun e w'=>∃v,e= .returned v∧R v w') a w):Ret P k args.toArray w R:=by
  have hle:=Nat.le_of_ble_eq_true hle0
  refine calls_of_wp hf hb (h _ ⟨⟨?_,fun i v hi=>?_⟩,rfl⟩)
  · simp [hn];omega
  · obtain ⟨_,h2⟩:=lk_sl0 args 0 i v hi
    have hlt:i<args.length:=(List.getElem?_eq_some_iff.1 h2).1
    rw [Array.getElem?_append_left (by simpa using hlt)]
    simpa using h2

theorem rt1 {fn:Func} {R:Value→World→Prop} {t:Tmp} {v:Value} {e:Exit} (he:e= .ret∨e= .normal) (hr:fn.results=#[.tmp t]) (hA:Sl N l a) (hv:lk l t=some v) (h:R v w) :
    bodyPost P fn (fun e w'=>∃v,e= .returned v∧R v w') e a w:=by
  have hg:a.tmps.getD t undef=v:=by simp [Array.getD_eq_getD_getElem?,hA.get t v hv]
  rcases he with rfl|rfl
  · exact bodyPost_ret (results_tmp hr _ _ _) hA.defers ⟨v,by rw [hg],h⟩
  · exact bodyPost_end (results_tmp hr _ _ _) hA.defers ⟨v,by rw [hg],h⟩
theorem rt2 {fn:Func} {R:Value→World→Prop} {t u:Tmp} {v v2:Value} {e:Exit} (he:e= .ret∨e= .normal) (hr:fn.results=#[.tmp t,.tmp u]) (hA:Sl N l a) (hv:lk l t=some v) (hv2:lk l u=some v2) (h:R (.tuple #[v,v2]) w) :
    bodyPost P fn (fun e w'=>∃v,e= .returned v∧R v w') e a w:=by
  have hg:a.tmps.getD t undef=v:=by simp [Array.getD_eq_getD_getElem?,hA.get t v hv]
  have hg2:a.tmps.getD u undef=v2:=by simp [Array.getD_eq_getD_getElem?,hA.get u v2 hv2]
  rcases he with rfl|rfl
  · exact bodyPost_ret (results_tmp2 hr _ _ _) hA.defers ⟨_,by rw [hg,hg2],h⟩
  · exact bodyPost_end (results_tmp2 hr _ _ _) hA.defers ⟨_,by rw [hg,hg2],h⟩
theorem rt0 {fn:Func} {R:Value→World→Prop} {e:Exit} (he:e= .ret∨e= .normal) (hr:fn.results=#[]) (hA:Sl N l a) (h:R (.tuple #[]) w) :
    bodyPost P fn (fun e w'=>∃v,e= .returned v∧R v w') e a w:=by
  rcases he with rfl|rfl
  · exact bodyPost_ret (results_none hr _ _ _) hA.defers ⟨_,rfl,h⟩
  · exact bodyPost_end (results_none hr _ _ _) hA.defers ⟨_,rfl,h⟩
end

def aft (ops:Array Oper) (j i:Nat):Bool:=match ops[j]? with
  |some o=>o.after.any fun e=>Region.binds .any e && Nat.beq e.on i
  |none=>false
def beh (ops:Array Oper) (listed:Array Bool) (i:Nat):Nat→Nat→Bool
  |0,j=>aft ops j i
  |n+1,j=>aft ops j i || (List.range ops.size).any fun k=>!(listed.getD k true) && (aft ops j k && beh ops listed i n k)
def late (ops:Array Oper) (π2:List Nat) (listed:Array Bool) (i:Nat):Bool:=
  π2.all fun j=>beh ops listed i 3 j
def okL (ops:Array Oper):List Nat→Array Bool→Bool
  | [],listed=>(Region.ready .any ops listed).isEmpty
  |i::π,listed=>decide (Region.ready .any ops listed=[i]) && okL ops π (listed.setIfInBounds i true)
def okD (ops:Array Oper) (π2:List Nat):List (Nat × Nat)→Array Bool→Bool
  | [],listed=>okL ops π2 listed
  |(i,0)::π,listed=>decide (Region.ready .any ops listed=[i]) && okD ops π2 π (listed.setIfInBounds i true)
  |(i,1)::π,listed=>(Region.ready .any ops listed).contains i && Region.free .any ops listed i && late ops π2 listed i && okD ops π2 π (listed.setIfInBounds i true)
  |(i,_+2)::π,listed=>(Region.ready .any ops listed).contains i && Region.free .any ops listed i && okD ops π2 π (listed.setIfInBounds i true)

def wk2 (P:Program) (ops:Array Oper) (Q:Exit→Act→World→Prop):List Nat→Act→World→Prop
  | [],a,w=>Q .normal a w
  |i::π,a,w=>wpOp P ops (NoPanic Q) i (fun a' w'=>wk2 P ops Q π a' w') a w
def wkD (P:Program) (ops:Array Oper) (S:World→Prop) (Q:Exit→Act→World→Prop) (π2:List Nat):List (Nat × Nat)→Act→World→Prop
  | [],a,w=>wk2 P ops Q π2 a w
  |(i,0)::π,a,w=>wpOp P ops (NoPanic Q) i (fun a' w'=>S w'∧wkD P ops S Q π2 π a' w') a w
  |(i,1)::π,a,w=>∃o v,ops[i]?=some o∧YieldsIf P ops S o v a∧wkD P ops S Q π2 π (a.put o.dst v) w
  |(i,_+2)::π,a,w=>∃o v,ops[i]?=some o∧YieldsIf P ops (fun _=>True) o v a∧wkD P ops S Q π2 π (a.put o.dst v) w

section
variable {P:Program} {ops:Array Oper} {Q:Exit→Act→World→Prop} {md:Region.Mode} {S:World→Prop} {F:Nat→Bool}
def wpAnyK (P:Program) (md:Region.Mode) (ops:Array Oper) (Q:Exit→Act→World→Prop) (S:World→Prop) (F:Nat→Bool):Nat→Array Bool→Act→World→Prop
  |0,listed,a,w=>Region.ready md ops listed=[]∧Q .normal a w
  | n+1,listed,a,w=>(Region.ready md ops listed=[]→Q .normal a w)∧
    ∀i∈Region.ready md ops listed,wpOp P ops Q i (fun a' w'=>(F i=true→S w→S w')∧wpAnyK P md ops Q S F n (listed.setIfInBounds i true) a' w') a w
theorem wpAnyK.any:∀(n:Nat) (listed:Array Bool) (a:Act) (w:World),wpAnyK P md ops Q S F n listed a w→wpAny P md ops Q n listed a w
  |0,_,_,_,h=>h
  |n+1,_,_,_,h=>⟨h.1,fun i hi=>wpOp_mono (fun a' w' h'=>wpAnyK.any n _ a' w' h'.2) (h.2 i hi)⟩
def AftP (md:Region.Mode) (ops:Array Oper) (j i:Nat):Prop:=∃oj,ops[j]?=some oj∧∃e∈oj.after,Region.binds md e=true∧e.on=i
inductive Rch (md:Region.Mode) (ops:Array Oper) (listed:Array Bool) (i:Nat):Nat→Prop
  |base {j:Nat}:AftP md ops j i→Rch md ops listed i j
  |step {j k:Nat}:listed.getD k true=false→AftP md ops j k→Rch md ops listed i k→Rch md ops listed i j
theorem wpAnyK.first {i:Nat} {o:Oper} {v:Value} (hi:ops[i]?=some o) (hsel:∀(j:Nat) (o:Oper) cs b,ops[j]?=some o→o.op≠.select cs b) (hQ:∀c a w,Q (.panic c) (a.put o.dst v) w→Q (.panic c) a w) :
    ∀ (n:Nat) (listed:Array Bool) (a:Act) (w:World),
      (∀j,F j=false→Rch md ops listed i j)→(∀j oj,ops[j]?=some oj→j≠i→listed.getD j true=false→(∀e∈oj.after,Region.binds md e=true→e.on≠i)→o.apart ops oj=true)→
      i∈Region.ready md ops listed→YieldsIf P ops S o v a→S w→wpAnyK P md ops Q S F n (listed.setIfInBounds i true) (a.put o.dst v) w→wpAnyK P md ops Q S F (n+1) listed a w:=by
  intro n
  induction n with
  | zero=>
    intro listed a w _ _ hr hy hS H
    refine ⟨fun h=>(by rw [h] at hr;cases hr),fun j hj=>?_⟩
    by_cases hji:j=i
    · subst hji;exact hy.wpOp hi hS ⟨fun _ h=>h,H⟩
    · have:=ready_mono hj hji
      rw [H.1] at this
      cases this
  | succ n ih=>
    intro listed a w hF hfree hr hy hS H
    refine ⟨fun h=>(by rw [h] at hr;cases hr),fun j hj=>?_⟩
    by_cases hji:j=i
    · subst hji;exact hy.wpOp hi hS ⟨fun _ h=>h,H⟩
    have h1:=H.2 j (ready_mono hj hji)
    obtain ⟨hjun,oj,hoj,hall⟩:=mem_ready.1 hj
    have h0:=(mem_ready.1 hr).1
    have hnot:∀e∈oj.after,Region.binds md e=true→e.on≠i:=by
      intro e he hb heq
      have h1:=hall e he hb
      rw [heq] at h1
      rcases Nat.lt_or_ge i listed.size with h'|h'
      · simp [h'] at h0 h1;rw [h0] at h1;cases h1
      · simp [Array.getElem?_eq_none h'] at h1
    have hnr:¬Rch md ops listed i j:=by
      intro h9
      cases h9 with
      | base h=>
        obtain ⟨oj',hoj',e,he,hb,heq⟩:=h
        obtain rfl:oj=oj':=by rw [hoj] at hoj';exact Option.some.inj hoj'
        exact absurd heq (hnot e he hb)
      | step hk h1 h2=>
        obtain ⟨oj',hoj',e,he,hb,heq⟩:=h1
        obtain rfl:oj=oj':=by rw [hoj] at hoj';exact Option.some.inj hoj'
        have h9:=hall e he hb
        subst heq
        rw [Array.getD_eq_getD_getElem?] at hk h9
        cases hq:listed[e.on]? with
        |none=>rw [hq] at hk;cases hk
        |some bb=>rw [hq] at hk h9;simp at hk h9;rw [hk] at h9;cases h9
    have hFj:F j=true:=by
      cases hf:F j with
      |true=>rfl
      | false=>
        exact (hnr (hF j hf)).elim
    have hF':∀l,F l=false→Rch md ops (listed.setIfInBounds j true) i l:=by
      intro l hl
      have h9:=hF l hl
      clear hl
      induction h9 with
      |base h=>exact .base h
      | step hk h1 h2 ih9=>
        refine .step ?_ h1 ih9
        rename_i j9 k9
        have hjk:j≠k9:=by
          rintro rfl
          exact hnr h2
        rw [getD_set_ne true hjk]
        exact hk
    have h2:=wpOp_putIf hoj (hfree j oj hoj hji hjun hnot) (fun cs b=>hsel i o cs b hi) (fun cs b=>hsel j oj cs b hoj) hQ hy h1
    have hfree':∀k ok,ops[k]?=some ok→k≠i→(listed.setIfInBounds j true).getD k true=false→(∀e∈ok.after,Region.binds md e=true→e.on≠i)→o.apart ops ok=true:=by
      intro k ok hk hki hun hno
      refine hfree k ok hk hki ?_ hno
      by_cases hjk:j=k
      · subst hjk;exact hjun
      · rw [getD_set_ne true hjk] at hun;exact hun
    refine wpOp_mono (fun a' w' h3=>⟨fun _ _=>h3.2.1 hFj hS,ih (listed.setIfInBounds j true) a' w' hF' hfree' (ready_mono hr (Ne.symm hji)) h3.1 (h3.2.1 hFj hS) ?_⟩) h2
    rw [Array.setIfInBounds_comm _ _ hji]
    exact h3.2.2
theorem wpAnyK.firstp {i:Nat} {o:Oper} {v:Value} (hi:ops[i]?=some o) (hsel:∀(j:Nat) (o:Oper) cs b,ops[j]?=some o→o.op≠.select cs b) (hQ:∀c a w,Q (.panic c) (a.put o.dst v) w→Q (.panic c) a w) :
    ∀ (n:Nat) (listed:Array Bool) (a:Act) (w:World),
      (∀j oj,ops[j]?=some oj→j≠i→listed.getD j true=false→(∀e∈oj.after,Region.binds md e=true→e.on≠i)→o.apart ops oj=true)→
      i∈Region.ready md ops listed→YieldsIf P ops (fun _=>True) o v a→wpAnyK P md ops Q S F n (listed.setIfInBounds i true) (a.put o.dst v) w→wpAnyK P md ops Q S F (n+1) listed a w:=by
  intro n
  induction n with
  | zero=>
    intro listed a w _ hr hy H
    refine ⟨fun h=>(by rw [h] at hr;cases hr),fun j hj=>?_⟩
    by_cases hji:j=i
    · subst hji;exact hy.wpOp hi trivial ⟨fun _ h=>h,H⟩
    · have:=ready_mono hj hji
      rw [H.1] at this
      cases this
  | succ n ih=>
    intro listed a w hfree hr hy H
    refine ⟨fun h=>(by rw [h] at hr;cases hr),fun j hj=>?_⟩
    by_cases hji:j=i
    · subst hji;exact hy.wpOp hi trivial ⟨fun _ h=>h,H⟩
    have h1:=H.2 j (ready_mono hj hji)
    obtain ⟨hjun,oj,hoj,hall⟩:=mem_ready.1 hj
    have h0:=(mem_ready.1 hr).1
    have hnot:∀e∈oj.after,Region.binds md e=true→e.on≠i:=by
      intro e he hb heq
      have h1:=hall e he hb
      rw [heq] at h1
      rcases Nat.lt_or_ge i listed.size with h'|h'
      · simp [h'] at h0 h1;rw [h0] at h1;cases h1
      · simp [Array.getElem?_eq_none h'] at h1
    have h2:=wpOp_putIf hoj (hfree j oj hoj hji hjun hnot) (fun cs b=>hsel i o cs b hi) (fun cs b=>hsel j oj cs b hoj) hQ hy h1
    have hfree':∀k ok,ops[k]?=some ok→k≠i→(listed.setIfInBounds j true).getD k true=false→(∀e∈ok.after,Region.binds md e=true→e.on≠i)→o.apart ops ok=true:=by
      intro k ok hk hki hun hno
      refine hfree k ok hk hki ?_ hno
      by_cases hjk:j=k
      · subst hjk;exact hjun
      · rw [getD_set_ne true hjk] at hun;exact hun
    refine wpOp_mono (fun a' w' h3=>⟨h3.2.1,ih (listed.setIfInBounds j true) a' w' hfree' (ready_mono hr (Ne.symm hji)) h3.1 ?_⟩) h2
    rw [Array.setIfInBounds_comm _ _ hji]
    exact h3.2.2
end

theorem eM {ops:Array Oper} {j i:Nat} (h:aft ops j i=true):AftP .any ops j i:=by
  unfold aft at h
  split at h
  · rename_i o ho
    rw [Array.any_eq_true'] at h
    obtain ⟨e,he,h2⟩:=h
    simp only [Bool.and_eq_true] at h2
    exact ⟨o,ho,e,he,h2.1,Nat.eq_of_beq_eq_true h2.2⟩
  · cases h
theorem eI {ops:Array Oper} {listed:Array Bool} {i:Nat}:∀(n j:Nat),beh ops listed i n j=true→Rch .any ops listed i j
  |0,j,h=>.base (eM h)
  | n +1,j,h=>by
    rcases Bool.or_eq_true_iff.1 h with h1|h1
    · exact .base (eM h1)
    · obtain ⟨k,hk,h2⟩:=List.any_eq_true.1 h1
      simp only [Bool.and_eq_true] at h2
      exact .step (by simpa using h2.1) (eM h2.2.1) (eI n k h2.2.2)
theorem dL {ops:Array Oper} {π2:List Nat} {listed:Array Bool} {i:Nat} (h:late ops π2 listed i=true):∀j,(!π2.contains j)=false→Rch .any ops listed i j:=by
  intro j hc
  have hm:j∈π2:=by simpa using hc
  exact eI 3 j (List.all_eq_true.1 h j hm)
theorem jM {P:Program} {ops:Array Oper} {S:World→Prop} {Q:Exit→Act→World→Prop} {F:Nat→Bool}:∀(π:List Nat) (listed:Array Bool) (a:Act) (w:World),(∀i∈π,F i=false)→
    okL ops π listed=true→wk2 P ops Q π a w→wpAnyK P .any ops (NoPanic Q) S F π.length listed a w
  | [],listed,a,w,hF,hok,h=>⟨by simpa [okL] using hok,h⟩
  | i::π,listed,a,w,hF,hok,h=>by
    simp only [okL,Bool.and_eq_true,decide_eq_true_eq] at hok
    refine ⟨fun h0=>(by rw [hok.1] at h0;cases h0),fun j hj=>?_⟩
    rw [hok.1] at hj
    obtain rfl:j=i:=by simpa using hj
    refine wpOp_mono (fun a' w' h'=>⟨fun hf=>?_,jM π _ a' w' (fun i hi=>hF i (List.mem_cons_of_mem _ hi)) hok.2 h'⟩) h
    rw [hF j (List.mem_cons_self ..)] at hf
    cases hf
theorem oU {P:Program} {ops:Array Oper} {S:World→Prop} {Q:Exit→Act→World→Prop} (hs:Region.noSelect ops=true) (π2:List Nat):∀(π:List (Nat × Nat)) (listed:Array Bool) (a:Act) (w:World),
    okD ops π2 π listed=true→S w→wkD P ops S Q π2 π a w→wpAnyK P .any ops (NoPanic Q) S (fun j=>!π2.contains j) (π.length+π2.length) listed a w
  | [],listed,a,w,hok,hS,h=>by
    have:=jM (S:=S) (F:=fun j=>!π2.contains j) π2 listed a w (fun i hi=>by simpa using hi) hok h
    simpa using this
  | (i,1)::π,listed,a,w,hok,hS,h=>by
    simp only [okD,Bool.and_eq_true] at hok
    obtain ⟨⟨⟨hr,hf⟩,hl⟩,hok'⟩:=hok
    obtain ⟨o,v,hi,hy,hk⟩:=h
    have:=oU hs π2 π _ _ w hok' hS hk
    have e:((i,1)::π).length+π2.length=(π.length+π2.length)+1:=by simp;omega
    rw [e]
    exact wpAnyK.first hi (Region.noSelect_spec hs) (fun c a w h=>h) _ listed a w (dL hl) (Region.free_spec hi hf) (by simpa using hr) hy hS this
  | (i,k+2)::π,listed,a,w,hok,hS,h=>by
    simp only [okD,Bool.and_eq_true] at hok
    obtain ⟨⟨hr,hf⟩,hok'⟩:=hok
    obtain ⟨o,v,hi,hy,hk⟩:=h
    have:=oU hs π2 π _ _ w hok' hS hk
    have e:((i,k+2)::π).length+π2.length=(π.length+π2.length)+1:=by simp;omega
    rw [e]
    exact wpAnyK.firstp hi (Region.noSelect_spec hs) (fun c a w h=>h) _ listed a w (Region.free_spec hi hf) (by simpa using hr) hy this
  | (i,0)::π,listed,a,w,hok,hS,h=>by
    simp only [okD,Bool.and_eq_true,decide_eq_true_eq] at hok
    have e:((i,0)::π).length+π2.length=(π.length+π2.length)+1:=by simp;omega
    rw [e]
    refine ⟨fun h0=>(by rw [hok.1] at h0;cases h0),fun j hj=>?_⟩
    rw [hok.1] at hj
    obtain rfl:j=i:=by simpa using hj
    exact wpOp_mono (fun a' w' ⟨hS',h'⟩=>⟨fun _ _=>hS',oU hs π2 π _ a' w' hok.2 hS' h'⟩) h

theorem jL {P:Program} {id:Nat} {ops:List Oper} {Q:Exit→Act→World→Prop} {a:Act} {w:World} (π:List (Nat × Nat)) (π2:List Nat) (S:World→Prop) (hm:P.follows .mixedOrders=true)
    (hok:(Region.noSelect ops.toArray && Nat.beq (π.length+π2.length) ops.length && okD ops.toArray π2 π (Array.replicate ops.length false))=true) (hS:S w.drew) (h:wkD P ops.toArray S Q π2 π a w.drew):(Code.region id ops.toArray true).wp P Q a w:=by
  simp only [Bool.and_eq_true] at hok
  obtain ⟨⟨hs,hl⟩,hok⟩:=hok
  have hl':π.length+π2.length=ops.toArray.size:=by simpa using Nat.eq_of_beq_eq_true hl
  have:=oU hs π2 π (Array.replicate ops.length false) a w.drew hok hS h
  rw [hl'] at this
  refine wp_region_noPanic (wp_region_any hm (wpAnyK.any (S:=S) (F:=fun j=>!π2.contains j) _ _ _ _ ?_))
  simpa using this

theorem zQ {P:Program} {id:Nat} {ops:List Oper} {Q:Exit→Act→World→Prop} {a:Act} {w0 w:World} {M:Nat→Prop} {H:List It} (π:List (Nat × Nat)) (hm:P.follows .mixedOrders=true)
    (hok:(Region.noSelect ops.toArray && Nat.beq (π.length+([]:List Nat).length) ops.length && okD ops.toArray [] π (Array.replicate ops.length false))=true) (hH:HS w0 M H w) (h:wkD P ops.toArray (HS w0 M H) Q [] π a w.drew):(Code.region id ops.toArray true).wp P Q a w:=
  jL π [] (HS w0 M H) hm hok hH.drew h
theorem zK {P:Program} {id:Nat} {ops:List Oper} {Q:Exit→Act→World→Prop} {a:Act} {w0 w:World} {M:Nat→Prop} {H:List It} (π:List (Nat × Nat)) (π2:List Nat) (hm:P.follows .mixedOrders=true)
    (hok:(Region.noSelect ops.toArray && Nat.beq (π.length+π2.length) ops.length && okD ops.toArray π2 π (Array.replicate ops.length false))=true) (hH:HS w0 M H w) (h:wkD P ops.toArray (HS w0 M H) Q π2 π a w.drew):(Code.region id ops.toArray true).wp P Q a w:=
  jL π π2 (HS w0 M H) hm hok hH.drew h

section
variable {P:Program} {N:Nat} {l:List (Nat × Value)} {a:Act} {Ds:List Deferred} {w:World} {ops:Array Oper} {S:World→Prop} {Q:Exit→Act→World→Prop} {i:Nat} {π:List (Nat × Nat)} {π2 π3:List Nat}
theorem kJ (h:Q .normal a w):wkD P ops S Q [] [] a w:=h
theorem nK (h:wk2 P ops Q (i::π3) a w):wkD P ops S Q (i::π3) [] a w:=h
theorem nJ (h:Q .normal a w):wk2 P ops Q [] a w:=h
theorem kL {C:World→Prop} {o:Oper} {d:Nat} {v:Value} (hA:Sl N l a Ds) (hC:C w) (hi:ops[i]?=some o) (hg:gd ops l o.guard=some true) (hd:o.dst=some d) (hdN:d<N)
    (h:Ex P N l C o v) (k:∀a',Sl N ((d,v)::l) a' Ds→wk2 P ops Q π3 a' w):wk2 P ops Q (i::π3) a w:=by
  unfold wk2 wpOp
  simp only [hi,hA.gd hg,if_true]
  refine .inl (h.op1 hC a hA.toSl0 _ _ fun v' w' ⟨hv,hw⟩=>?_)
  subst hv;subst hw
  rw [hd]
  exact k _ (hA.put hdN _)
theorem rC {o:Oper} {d:Nat} {R:Value→World→Prop} (hA:Sl N l a Ds) (hi:ops[i]?=some o) (hg:gd ops l o.guard=some true) (hd:o.dst=some d) (hdN:d<N)
    (h:Op1 P N l o w R) (k:∀v w',R v w'→∀a',Sl N ((d,v)::l) a' Ds→wk2 P ops Q π3 a' w'):wk2 P ops Q (i::π3) a w:=by
  unfold wk2 wpOp
  simp only [hi,hA.gd hg,if_true]
  refine .inl (h a hA.toSl0 _ _ fun v w' hR=>?_)
  rw [hd]
  exact k v w' hR _ (hA.put hdN v)
theorem zX {o:Oper} {R:Value→World→Prop} (hA:Sl N l a Ds) (hi:ops[i]?=some o) (hg:gd ops l o.guard=some true) (hd:o.dst=none)
    (h:Op1 P N l o w R) (k:∀v w',R v w'→wk2 P ops Q π3 a w'):wk2 P ops Q (i::π3) a w:=by
  unfold wk2 wpOp
  simp only [hi,hA.gd hg,if_true]
  refine .inl (h a hA.toSl0 _ _ fun v w' hR=>?_)
  rw [hd]
  exact k v w' hR
theorem pU {o:Oper} {d:Nat} (hA:Sl N l a Ds) (hi:ops[i]?=some o) (hg:gd ops l o.guard=some false) (hd:o.dst=some d) (hdN:d<N)
    (k:∀a',Sl N ((d,undef)::l) a' Ds→wk2 P ops Q π3 a' w):wk2 P ops Q (i::π3) a w:=by
  unfold wk2 wpOp
  simp only [hi,hA.gd hg,Bool.false_eq_true,if_false]
  rw [hd]
  exact k _ (hA.put hdN _)
theorem fX {o:Oper} {d:Nat} {v:Value} (hA:Sl N l a Ds) (hi:ops[i]?=some o) (hg:gd ops l o.guard=some true) (hd:o.dst=some d) (hdN:d<N)
    (h:Ex P N l S o v) (k:∀a',Sl N ((d,v)::l) a' Ds→wkD P ops S Q π2 π a' w):wkD P ops S Q π2 ((i,1)::π) a w:=by
  refine ⟨o,v,hi,.inl ⟨hA.gd hg,fun w' hS=>h a w' hA.toSl0 hS⟩,?_⟩
  rw [hd]
  exact k _ (hA.put hdN v)
theorem fW {o:Oper} {d:Nat} {b:Bool} (hA:Sl N l a Ds) (hi:ops[i]?=some o) (hg:gd ops l o.guard=some true) (hd:o.dst=some d) (hdN:d<N) (hG:isG ops d=true)
    (h:Ex P N l S o (.bool b)) (kt:b=true→∀a',Sl N ((d,.bool true)::l) a' Ds→wkD P ops S Q π2 π a' w) (kf:b=false→∀a',Sl N ((d,.bool false)::l) a' Ds→wkD P ops S Q π2 π a' w) :
    wkD P ops S Q π2 ((i,1)::π) a w:=
  fX hA hi hg hd hdN h fun a' hA'=>by
    cases hb:b with
    |true=>exact kt hb a' (hb▸hA')
    |false=>exact kf hb a' (hb▸hA')
theorem kK {o:Oper} {d k:Nat} {v:Value} (hA:Sl N l a Ds) (hi:ops[i]?=some o) (hg:gd ops l o.guard=some true) (hd:o.dst=some d) (hdN:d<N)
    (h:Ex P N l (fun _=>True) o v) (kk:∀a',Sl N ((d,v)::l) a' Ds→wkD P ops S Q π2 π a' w):wkD P ops S Q π2 ((i,k+2)::π) a w:=by
  refine ⟨o,v,hi,.inl ⟨hA.gd hg,fun w' hS=>h a w' hA.toSl0 hS⟩,?_⟩
  rw [hd]
  exact kk _ (hA.put hdN v)
theorem lH {o:Oper} {d:Nat} (hA:Sl N l a Ds) (hi:ops[i]?=some o) (hg:gd ops l o.guard=some false) (hd:o.dst=some d) (hdN:d<N)
    (k:∀a',Sl N ((d,undef)::l) a' Ds→wkD P ops S Q π2 π a' w):wkD P ops S Q π2 ((i,1)::π) a w:=by
  refine ⟨o,undef,hi,.inr ⟨hA.gd hg,rfl⟩,?_⟩
  rw [hd]
  exact k _ (hA.put hdN _)
theorem yO {o:Oper} {d:Nat} {R:Value→World→Prop} (hA:Sl N l a Ds) (hi:ops[i]?=some o) (hg:gd ops l o.guard=some true) (hd:o.dst=some d) (hdN:d<N)
    (h:Op1 P N l o w R) (k:∀v w',R v w'→S w'∧∀a',Sl N ((d,v)::l) a' Ds→wkD P ops S Q π2 π a' w'):wkD P ops S Q π2 ((i,0)::π) a w:=by
  unfold wkD wpOp
  simp only [hi,hA.gd hg,if_true]
  refine .inl (h a hA.toSl0 _ _ fun v w' hR=>?_)
  rw [hd]
  exact ⟨(k v w' hR).1,(k v w' hR).2 _ (hA.put hdN v)⟩
theorem aV {o:Oper} {R:Value→World→Prop} (hA:Sl N l a Ds) (hi:ops[i]?=some o) (hg:gd ops l o.guard=some true) (hd:o.dst=none)
    (h:Op1 P N l o w R) (k:∀v w',R v w'→S w'∧wkD P ops S Q π2 π a w'):wkD P ops S Q π2 ((i,0)::π) a w:=by
  unfold wkD wpOp
  simp only [hi,hA.gd hg,if_true]
  refine .inl (h a hA.toSl0 _ _ fun v w' hR=>?_)
  rw [hd]
  exact k v w' hR
theorem kI {o:Oper} {d:Nat} (hA:Sl N l a Ds) (hi:ops[i]?=some o) (hg:gd ops l o.guard=some false) (hd:o.dst=some d) (hdN:d<N) (hS:S w)
    (k:∀a',Sl N ((d,undef)::l) a' Ds→wkD P ops S Q π2 π a' w):wkD P ops S Q π2 ((i,0)::π) a w:=by
  unfold wkD wpOp
  simp only [hi,hA.gd hg,Bool.false_eq_true,if_false]
  rw [hd]
  exact ⟨hS,k _ (hA.put hdN _)⟩
end
end Go.Fw
