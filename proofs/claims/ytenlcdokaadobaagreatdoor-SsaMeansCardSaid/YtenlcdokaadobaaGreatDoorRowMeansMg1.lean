/-
  The frame for walks, fifth part: maps with int keys; cuts of slices; lists of one shape. It names no program. Conditions: none.
  The frame of a law's proof: from what the walk gives to the row. Conditions: none.
  More of the frame: whole numbers of other kinds; a part of what can be read. Conditions: none.
  More of the frame: slices of slices; many parts as one; copy; bits; bools. Conditions: none.
  The frame of a law's proof, where the size of what is handed in is asked; slices of slices, read. Conditions: none.
  More of the frame: a slice of one's own as a block in plain sight; append in place and into a new block; clear; parts that are there, whichever they be. Conditions: none.
  More of the frame: make of what has many cells; shift and or; pairs set in what is ours. Conditions: none.
  A region in which several operations that bring something of their own come up in any order. Conditions: none.
  More of the frame: pointers against nil. Conditions: none.
  More of the frame: what a row of trials does, named once. Each of these takes a goal, does one step by trial, and hands on the goal that is left. Conditions: none.
  A region whose operations come up in one of several orders: a plan, with ways. Conditions: none.
  Strings: their length, a byte, a part; as bytes and back. Conditions: none.
  A region of which some come last, told from further off. Conditions: none.
  What is made and never turned again: known by what is known of it. Conditions: none.
  The frame of a law's proof, where what is handed in is not great ('..UptoSaid'). Conditions: none.
  A range over a function: its rounds, what is put off till the function's end. Conditions: none.
-/
import Derived.Test.YtenlcdokaadobaaGreatDoorRowMeansMg0
import Derived.WalkKit
import Derived.ProofKit
import Derived.OpenShut
import Derived.Deep.Slices
import Derived.Deep.Fields
import Derived.ChangeSame
import Derived.Carry
import Derived.Laws.CopyRow
import Derived.Laws.Small
import Derived.Scope
import Derived.SizedLaws
import Derived.Deep.Matrix
import Derived.Lib.Overlaps
import Derived.Laws.Cover3
import Derived.Laws.Pointers
import Derived.Lib.ConvBytes
import Derived.Laws.BytesString
import Derived.Laws.Strings
import Derived.Laws.Slices
import Derived.Laws.ResultCell
import Derived.JoinedCond
import Derived.RangeFuncWrites
import Derived.RangeFuncLeaves
import Derived.RangeFuncCalls
import Derived.RangeFuncBound
import Derived.OrdersIn
namespace Go.Fw
open Go Go.RowKit
set_option linter.unusedVariables false
def flat {α:Type} (enc:α→List Value) (l:List α):List Value:=l.flatMap enc
def encI (z:Int):List Value:=[.int .i64 z]
def xA (p:Int × Int):List Value:=[.int .i64 p.1,.int .i64 p.2]
theorem encI_len (z:Int):(encI z).length=1:=rfl
theorem HS.nil_flat {α:Type} (enc:α→List Value) {w0 w:World} {M:Nat→Prop} {H:List It} (h:HS w0 M H w) (T sz:Nat):HS w0 M (own T sz none 0 0 (flat enc [])::H) w:=h.nil_own T sz
theorem zF {α:Type} {enc:α→List Value} {sz:Nat} (henc:∀x,(enc x).length=sz) (l:List α):(flat enc l).length=l.length*sz:=by
  induction l with
  |nil=>simp [flat]
  |cons x l ih=>simp only [flat,List.flatMap_cons,List.length_append,henc,List.length_cons,Nat.add_mul] at ih ⊢;omega
theorem yZ {α:Type} {enc:α→List Value} {sz:Nat} (henc:∀x,(enc x).length=sz):∀{l:List α} {i off:Nat} {x:α} {v:Value},l[i]?=some x→(enc x)[off]?=some v→(flat enc l)[i*sz+off]?=some v
  | [],i,off,x,v,hi,hv=>by simp at hi
  | y::l,0,off,x,v,hi,hv=>by
    obtain rfl:y=x:=by simpa using hi
    have:off<(enc y).length:=(List.getElem?_eq_some_iff.1 hv).1
    simp [flat,List.getElem?_append_left this,hv]
  | y::l,i+1,off,x,v,hi,hv=>by
    have ih:=yZ henc (l:=l) (i:=i) (by simpa using hi) hv
    simp only [flat,List.flatMap_cons] at ih ⊢
    rw [List.getElem?_append_right (by rw [henc,Nat.add_mul];omega),henc,←ih]
    congr 1
    rw [Nat.add_mul];omega
theorem sV {α:Type} {enc:α→List Value} {sz:Nat} (henc:∀x,(enc x).length=sz) {l:List α} {i:Nat} {x:α} {v:Value} (hi:l[i]?=some x) (hv:(enc x)[0]?=some v):(flat enc l)[i*sz]?=some v:=
  yZ henc (off:=0) hi hv
theorem yA {α:Type} {enc:α→List Value} {sz:Nat} (henc:∀x,(enc x).length=sz) {l:List α} {i:Nat} {x:α} (hi:l[i]?=some x):∀k v,(enc x)[k]?=some v→(flat enc l)[i*sz+k]?=some v:=
  fun k v hv=>yZ henc hi hv
theorem tE {α:Type} (enc:α→List Value) (l r:List α):flat enc (l++r)=flat enc l++flat enc r:=by simp [flat]
theorem xZ {α:Type} (enc:α→List Value) (l:List α) (x:α):flat enc (l++[x])=flat enc l++enc x:=by simp [flat]
theorem put_mid (A E B vs:List Value) (off:Nat) (h:off+vs.length≤E.length):Fw.put (A++(E++B)) (A.length+off) vs=A++(Fw.put E off vs++B):=by
  unfold Fw.put
  have h1:(A++(E++B)).take (A.length+off)=A++E.take off:=by
    rw [List.take_append,List.take_of_length_le (by omega),show A.length+off - A.length=off by omega,List.take_append_of_le_length (by omega)]
  have h2:(A++(E++B)).drop (A.length+off+vs.length)=E.drop (off+vs.length)++B:=by
    rw [List.drop_append,List.drop_of_length_le (by omega),show A.length+off+vs.length - A.length=off+vs.length by omega,List.drop_append_of_le_length (by omega)]
    simp
  rw [h1,h2]
  simp [List.append_assoc]
theorem sD {α:Type} {enc:α→List Value} {sz:Nat} (henc:∀x,(enc x).length=sz) {l:List α} {i:Nat} {x y:α} {off:Nat} {vs:List Value} (hi:l[i]?=some x) (hy:Fw.put (enc x) off vs=enc y) (hle:off+vs.length≤sz) :
    Fw.put (flat enc l) (i*sz+off) vs=flat enc (l.set i y):=by
  have hlt:i<l.length:=(List.getElem?_eq_some_iff.1 hi).1
  have hx:l[i]=x:=(List.getElem?_eq_some_iff.1 hi).2
  have e:l=l.take i++x::l.drop (i+1):=by rw [←hx];simp
  have e2:l.set i y=l.take i++y::l.drop (i+1):=List.set_eq_take_append_cons_drop.trans (if_pos hlt)
  have hta:(flat enc (l.take i)).length=i*sz:=by rw [zF henc,List.length_take,Nat.min_eq_left (by omega)]
  rw [e2]
  conv=>lhs;rw [e]
  simp only [tE,show ∀(z:α) (r:List α),flat enc (z::r)=enc z++flat enc r from fun z r=>by simp [flat]]
  rw [←hy,←hta]
  exact put_mid _ _ _ _ _ (by rw [henc];exact hle)
theorem vQ {α:Type} {enc:α→List Value} (h:∀x,(enc x).all (·.oneCell')=true) (l:List α):(flat enc l).all (·.oneCell')=true:=by
  simp only [flat,List.all_flatMap,List.all_eq_true]
  exact fun x _=>List.all_eq_true.1 (h x)

section
variable {P:Program} {N:Nat} {l:List (Nat × Value)} {C:World→Prop} {d:Option Tmp} {T:TypeId} {pos:String} {af:Array Edge} {g:Option (Nat × Bool)}

theorem wY {t e sz by_ k n c:Nat} {z:Value} {zs:List Value} {x y:Operand} {o:Option Addr} {kd:IntKind} {m:Int} [ht:TSl P t e] [hi:TIf P e z zs sz by_]
    (hx:ev l x=some (.slice o n c)) (hy:ev l y=some (.int kd m)) (hk:m=(k:Int)) (hkc:k≤c):Ex P N l C ⟨d,.slice t x none (some y) none,T,pos,af,g⟩ (.slice o k c):=by
  intro a w hA _
  subst hk
  obtain ⟨ti,h3,h4,h5,h6⟩:=hi.eq
  have ho:Option.map (fun x:Addr=>x.add 0) o=o:=by cases o<;>simp [Addr.add]
  have hkc':(k:Int)≤(c:Int):=by omega
  simp only [execOp,hA.ev hx,Instr.sliceAt,Sem.run_bind,run_underlying ht.eq,Result.andThen_ok,Instr.slice,Instr.sliceBounds,Option.map_some,Option.map_none,Sem.run_pure,hA.ev hy,Instr.sliceBound,asIntOf]
  simp [hkc',sizeOf,typeInfo,h3,h5]
  exact fun _=>ho
def kZ (o:Option Addr) (c k sz:Nat):Option Addr:=if c=k then o else o.map (·.add (k*sz))
theorem rO {t e sz by_ k n c:Nat} {z:Value} {zs:List Value} {x y:Operand} {o:Option Addr} {kd:IntKind} {m:Int} [ht:TSl P t e] [hi:TIf P e z zs sz by_]
    (hx:ev l x=some (.slice o n c)) (hy:ev l y=some (.int kd m)) (hk:m=(k:Int)) (hkn:k≤n):Ex P N l C ⟨d,.slice t x (some y) none none,T,pos,af,g⟩ (.slice (kZ o c k sz) (n - k) (c - k)):=by
  intro a w hA _
  subst hk
  obtain ⟨ti,h3,h4,h5,h6⟩:=hi.eq
  have hkc':(k:Int)≤(n:Int):=by omega
  simp only [execOp,hA.ev hx,Instr.sliceAt,Sem.run_bind,run_underlying ht.eq,Result.andThen_ok,Instr.slice,Instr.sliceBounds,Option.map_some,Option.map_none,Sem.run_pure,hA.ev hy,Instr.sliceBound,asIntOf]
  simp [hkc',sizeOf,typeInfo,h3,h5,kZ]
theorem Rd.sub {w:World} {o:Option Addr} {xs:List Value} {n c k sz:Nat} (h:Rd w o xs) (hl:xs.length=n*sz) (hkn:k≤n) (hnc:n≤c):Rd w (kZ o c k sz) (xs.drop (k*sz)):=by
  by_cases hck:c=k
  · obtain rfl:n=k:=by omega
    have:xs.drop (n*sz)=[]:=by rw [←hl];simp
    rw [this]
    exact ⟨fun h=>by simp at h,fun j u h=>by simp at h⟩
  · refine ⟨fun hp=>?_,fun j u hj=>?_⟩
    · obtain ⟨b,off,rfl⟩:=h.1 (by simp at hp;omega)
      by_cases hz:k*sz=0
      · exact ⟨b,off,by simp [kZ,hck,Addr.add,hz]⟩
      · exact ⟨b,off+k*sz,by simp [kZ,hck,Addr.add,hz]⟩
    · rw [List.getElem?_drop] at hj
      have hlt:0<xs.length:=by have:=(List.getElem?_eq_some_iff.1 hj).1;omega
      obtain ⟨b,off,rfl⟩:=h.1 hlt
      have:=h.2 _ u hj
      rw [←this]
      congr 1
      simp only [kZ,hck,if_false,Option.map_some,sat,mF,gM]
      unfold Addr.add
      split<;>simp_all [Nat.add_assoc]
theorem own_cut {w:World} {F:Nat→Prop} {T sz n cap k:Nat} {o:Option Addr} {xs:List Value} (h:(own T sz o n cap xs).sat w F) (hk:k≤n):(own T sz o k cap (xs.take (k*sz))).sat w F:=by
  rcases h with ⟨rfl,rfl,rfl,rfl,h⟩| ⟨b,spare,rfl,h2,h3,h4,h5,h6,h7⟩
  · obtain rfl:k=0:=by omega
    exact .inl ⟨rfl,rfl,rfl,by simp,h⟩
  · have hle:=Nat.mul_le_mul_right sz hk
    refine .inr ⟨b,xs.drop (k*sz)++spare,rfl,h2,by rw [List.length_take];omega,by omega,h5,by rw [List.length_take,List.length_append,List.length_drop];omega,?_⟩
    rw [←List.append_assoc,List.take_append_drop]
    exact h7

def mkE (e:Int × Value × Nat):MapEntry:=⟨.int .i64 e.1,e.2.1,e.2.2⟩
structure EsOk (es:List (Int × Value × Nat)) (clock:Nat):Prop where
  keys:(es.map (·.1)).Nodup
  borns:(es.map (·.2.2)).Nodup
  lt:∀e∈es,e.2.2<clock
def mpO (b:Nat) (es:List (Int × Value × Nat)) (clock:Nat):It:=blk b (.map (es.map mkE).toArray clock)
def mp (b:Nat) (m:List (Int × Value)):It where
  sat w F:=∃es clock,es.map (fun e=>(e.1,e.2.1))=m∧EsOk es clock∧(mpO b es clock).sat w F
  loc:=by
    rintro w w' F ⟨es,clock,h1,h2,h3⟩ he
    exact ⟨es,clock,h1,h2,(mpO b es clock).loc h3 he⟩
  lt:=by
    rintro w F ⟨es,clock,h1,h2,h3⟩
    exact (mpO b es clock).lt h3
  ext:=by
    rintro w F F' ⟨es,clock,h1,h2,h3⟩ he
    exact ⟨es,clock,h1,h2,(mpO b es clock).ext h3 he⟩

def mv (m:List (Int × Value)) (k:Int):Option Value:=(m.find? (fun e=>e.1 == k)).map (·.2)
def mset (m:List (Int × Value)) (k:Int) (v:Value):List (Int × Value):=if (mv m k).isSome then m.map (fun e=>if e.1 == k then (k,v) else e) else m++[(k,v)]
def mdel (m:List (Int × Value)) (k:Int):List (Int × Value):=m.filter (fun e=>!(e.1 == k))

def fnd (k:Int):List (Int × Value × Nat)→Nat→Option (Nat × Value)
  | [],_=>none
  |e::es,i=>if k == e.1 then some (i,e.2.1) else fnd k es (i+1)
theorem kV (kk:IntKind) (k:Int):∀(es:List (Int × Value × Nat)) (i:Nat),Instr.findNow (.int kk) (.int .i64 k) (es.map mkE) i=some (fnd k es i)
  | [],i=>rfl
  | e::es,i=>by
    simp only [List.map_cons,Instr.findNow,Instr.sameNow,mkE,if_true,fnd]
    cases h:(k == e.1) with
    |true=>simp
    |false=>simpa using kV kk k es (i+1)
theorem kD (k:Int):∀(es:List (Int × Value × Nat)) (i:Nat),(fnd k es i).map (·.2)=mv (es.map (fun e=>(e.1,e.2.1))) k
  | [],i=>rfl
  | e ::es,i=>by
    simp only [fnd,List.map_cons,mv,List.find?_cons]
    by_cases h:k=e.1
    · subst h;simp
    · have h1:(k == e.1)=false:=by simpa using h
      have h2:(e.1 == k)=false:=by simpa using fun h'=>h h'.symm
      simp only [h1,h2,Bool.false_eq_true,if_false]
      exact kD k es (i+1)
theorem pO (k:Int):∀(es:List (Int × Value × Nat)) (i j:Nat) (v:Value),fnd k es i=some (j,v)→i≤j∧∃born,es[j - i]?=some (k,v,born)
  | [],i,j,v,h=>by simp [fnd] at h
  | e ::es,i,j,v,h=>by
    simp only [fnd] at h
    by_cases hk:k=e.1
    · subst hk
      simp at h
      obtain ⟨rfl,rfl⟩:=h
      exact ⟨Nat.le_refl _,e.2.2,by simp⟩
    · have h1:(k == e.1)=false:=by simpa using hk
      simp only [h1,Bool.false_eq_true,if_false] at h
      obtain ⟨h2,born,h3⟩:=pO k es (i+1) j v h
      refine ⟨by omega,born,?_⟩
      rw [show j - i=(j - (i+1))+1 by omega]
      simpa using h3
theorem mZ (k:Int):∀(es:List (Int × Value × Nat)) (i:Nat),fnd k es i=none→∀e∈es,e.1≠k
  | [],i,h=>by simp
  | e ::es,i,h=>by
    simp only [fnd] at h
    by_cases hk:k=e.1
    · subst hk;simp at h
    · have h1:(k == e.1)=false:=by simpa using hk
      simp only [h1,Bool.false_eq_true,if_false] at h
      intro e' he'
      rcases List.mem_cons.1 he' with rfl|he'
      · exact fun h=>hk h.symm
      · exact mZ k es (i+1) h e' he'

theorem tZ {w:World} {kt:TypeId} {kk:IntKind} [hk:TIn P kt kk] (k:Int) (es:List (Int × Value × Nat)):(Instr.findKey kt (.int .i64 k) (es.map mkE)).run P w= .ok (fnd k es 0) w:=by
  simp [Instr.findKey,run_underlying hk.eq,kV]
theorem tG {w:World} {kt:TypeId} {kk:IntKind} [hk:TIn P kt kk] (em:Bool) (k:Int):(Instr.checkKey em 10000 kt (.int .i64 k)).run P w= .ok () w:=by
  rw [show (10000:Nat)=9999+1 from rfl,Instr.checkKey,Sem.run_bind,run_underlying hk.eq]
  rfl
theorem xM {w:World} {b:Nat} {es:Array MapEntry} {c:Nat} (h:w.heap[b]?=some (.map es c)):(getObj b).run P w= .ok (.map es c) w:=by
  simp [getObj,Sem.run,h]
theorem xV {w:World} {b:Nat} {es:Array MapEntry} {c:Nat} (h:w.heap[b]?=some (.map es c)) (o:Obj):(setObj b o).run P w= .ok () {w with heap:=w.heap.setIfInBounds b o}:=by
  simp [setObj,Sem.run,h]

theorem gG {w:World} {t kt e sz by_:Nat} {kk:IntKind} {z:Value} {zs:List Value} {b c:Nat} {es:List (Int × Value × Nat)} {k:Int} {ok:Bool} [ht:TMp P t kt e] [hk:TIn P kt kk] [hi:TIf P e z zs sz by_] (h:w.heap[b]?=some (.map (es.map mkE).toArray c)) :
    (Instr.lookup t (.map (some b)) (.int .i64 k) ok).run P w= .ok (if ok then .tuple #[((fnd k es 0).map (·.2)).getD z,.bool (fnd k es 0).isSome] else ((fnd k es 0).map (·.2)).getD z) w:=by
  obtain ⟨ti,h3,h4,h5,h6⟩:=hi.eq
  simp only [Instr.lookup,Sem.run_bind,run_underlying ht.eq,Result.andThen_ok,xM h,Sem.run_pure,tG,tZ]
  cases hf:fnd k es 0 with
  |none=>cases ok<;>simp [zeroValue,typeInfo,h3,h4]
  |some p=>cases ok<;>simp

theorem qP {t kt e sz by_ b:Nat} {kk:IntKind} {z:Value} {zs:List Value} {x y:Operand} {m:List (Int × Value)} {k:Int} {w0:World} {M:Nat→Prop} {H:List It} [ht:TMp P t kt e] [hk:TIn P kt kk] [hi:TIf P e z zs sz by_]
    (hx:ev l x=some (.map (some b))) (hy:ev l y=some (.int .i64 k)) (hm:mp b m∈H):Ex P N l (HS w0 M H) ⟨d,.lookup t x y true,T,pos,af,g⟩ (.tuple #[(mv m k).getD z,.bool (mv m k).isSome]):=by
  intro a w hA hH
  obtain ⟨F,es,clock,rfl,h2,h3,h4⟩:=hH.sat hm
  simp only [execOp,hA.ev hx,hA.ev hy,Sem.run_bind,gG (t:=t) h4,if_true,Result.andThen_ok,Sem.run_pure]
  rw [kD,←kD k es 0]
  simp
theorem qG {t kt e sz by_ b:Nat} {kk:IntKind} {z:Value} {zs:List Value} {x y:Operand} {m:List (Int × Value)} {k:Int} {w0:World} {M:Nat→Prop} {H:List It} [ht:TMp P t kt e] [hk:TIn P kt kk] [hi:TIf P e z zs sz by_]
    (hx:ev l x=some (.map (some b))) (hy:ev l y=some (.int .i64 k)) (hm:mp b m∈H):Ex P N l (HS w0 M H) ⟨d,.lookup t x y false,T,pos,af,g⟩ ((mv m k).getD z):=by
  intro a w hA hH
  obtain ⟨F,es,clock,rfl,h2,h3,h4⟩:=hH.sat hm
  simp only [execOp,hA.ev hx,hA.ev hy,Sem.run_bind,gG (t:=t) h4,Bool.false_eq_true,if_false,Result.andThen_ok,Sem.run_pure]
  rw [kD]

theorem uG {w:World} {b:Nat} {o:Obj} {F:Nat→Prop} (hb:F b):Kp w F {w with heap:=w.heap.setIfInBounds b o}:=by
  refine ⟨rfl,rfl,rfl,by simp,fun i hi hn=>?_⟩
  have hib:b≠i:=fun h=>hn (h▸hb)
  simp [Array.getElem?_setIfInBounds,hib]
theorem uH {w:World} {b:Nat} {o o':Obj} (h:w.heap[b]?=some o'):({w with heap:=w.heap.setIfInBounds b o}:World).heap[b]?=some o:=by
  have:=tQ h
  simp [Array.getElem?_setIfInBounds,this]

theorem mset_mem {es:List (Int × Value × Nat)} {k:Int} {v v0:Value} {j born:Nat} (hok:(es.map (·.1)).Nodup) (hj:es[j]?=some (k,v0,born)) :
    (es.modify j (fun e=>(k,v,e.2.2))).map (fun e=>(e.1,e.2.1))=(es.map (fun e=>(e.1,e.2.1))).map (fun e=>if e.1 == k then (k,v) else e):=by
  apply List.ext_getElem?
  intro i
  simp only [List.getElem?_map,List.getElem?_modify]
  by_cases hij:j=i
  · subst hij;simp [hj]
  · cases he:es[i]? with
    |none=>simp [hij]
    | some e=>
      have:e.1≠k:=by
        intro hek
        have h1:(es.map (·.1))[i]?=some k:=by simp [he,hek]
        have h2:(es.map (·.1))[j]?=some k:=by simp [hj]
        have hi:i<(es.map (·.1)).length:=(List.getElem?_eq_some_iff.1 h1).1
        exact hij ((List.getElem?_inj (List.getElem?_eq_some_iff.1 h2).1 hok).1 (h2.trans h1.symm))
      simp [hij,this]

theorem xT {t kt e b:Nat} {kk:IntKind} {x y z:Operand} {m:List (Int × Value)} {k:Int} {v:Value} {w0 w:World} {M:Nat→Prop} {H H':List It} [ht:TMp P t kt e] [hk:TIn P kt kk]
    (hx:ev l x=some (.map (some b))) (hy:ev l y=some (.int .i64 k)) (hz:ev l z=some v) (hH:HS w0 M H w) (hr:Rp H (mp b m) (mp b (mset m k v)) H') :
    Op1 P N l ⟨d,.mapUpdate t x y z,T,pos,af,g⟩ w (fun _ w'=>HS w0 M H' w'):=by
  intro a hA K Q hK
  obtain ⟨R,p,_⟩:=hr.split
  obtain ⟨F,es,clock,rfl,hok,h3,h4⟩:=hH.sat (p.symm.subset (List.mem_cons_self))
  unfold Oper.wp
  simp only [execOp,hA.ev hx,hA.ev hy,hA.ev hz,Instr.mapUpdate,Sem.run_bind,run_underlying ht.eq,Result.andThen_ok,xM h4,tG,tZ]
  cases hf:fnd k es 0 with
  | some q=>
    obtain ⟨j,v0⟩:=q
    obtain ⟨_,born,hj⟩:=pO k es 0 j v0 hf
    simp only [Nat.sub_zero] at hj
    have hkey:(((es.map mkE).toArray[j]?).map (·.key)).getD (.int .i64 k)= .int .i64 k:=by simp [hj,mkE]
    have hkts:(Instr.keyThatStays (.int .i64 k) (.int .i64 k)).run P w= .ok (.int .i64 k) w:=by simp [Instr.keyThatStays,Instr.sameBits]
    have hmod:((es.map mkE).toArray.modify j fun e=>{e with key:=.int .i64 k,val:=v})=((es.modify j (fun e=>(k,v,e.2.2))).map mkE).toArray:=by
      apply Array.ext'
      simp only [Array.toList_modify]
      apply List.ext_getElem?
      intro i
      simp only [List.getElem?_map,List.getElem?_modify]
      by_cases hij:j=i
      · subst hij;simp [hj,mkE]
      · simp [hij]
    have hkey':(Option.map (fun x:MapEntry=>x.key) ((List.map mkE es).toArray)[j]?).getD (Value.int IntKind.i64 k)=Value.int IntKind.i64 k:=hkey
    simp only [Sem.run_bind,hkey',hkts,Result.andThen_ok,xV h4,Oper.upon,hmod,Sem.run_pure]
    refine hK undef _ (hH.turn hr fun F' hF'=>⟨uG ((by obtain ⟨_,_,_,_,h,_⟩:=hF';exact (h b).2 rfl)),F',⟨es.modify j (fun e=>(k,v,e.2.2)),clock,?_,⟨?_,?_,?_⟩,by obtain ⟨_,_,_,_,h,_⟩:=hF';exact h,uH h4⟩,fun b hb=>.inr hb⟩)
    · have hs:(mv (es.map (fun e=>(e.1,e.2.1))) k).isSome=true:=by rw [←kD k es 0,hf];rfl
      rw [mset,if_pos hs]
      exact mset_mem hok.keys hj
    · have e1:(es.modify j (fun e=>(k,v,e.2.2))).map (·.1)=es.map (·.1):=by
        apply List.ext_getElem?
        intro i
        simp only [List.getElem?_map,List.getElem?_modify]
        by_cases hij:j=i
        · subst hij;simp [hj]
        · simp [hij]
      rw [e1];exact hok.keys
    · have e1:(es.modify j (fun e=>(k,v,e.2.2))).map (·.2.2)=es.map (·.2.2):=by
        apply List.ext_getElem?
        intro i
        simp only [List.getElem?_map,List.getElem?_modify]
        by_cases hij:j=i
        · subst hij;simp [hj]
        · simp [hij]
      rw [e1];exact hok.borns
    · intro e he
      obtain ⟨i,hi⟩:=List.getElem?_of_mem he
      simp only [List.getElem?_modify] at hi
      by_cases hij:j=i
      · subst hij
        simp [hj] at hi
        subst hi
        exact hok.lt (k,v0,born) (List.mem_of_getElem? hj)
      · simp [hij] at hi
        exact hok.lt _ (List.mem_of_getElem? hi)
  | none=>
    have hne:=mZ k es 0 hf
    have hpush:((es.map mkE).toArray.push {key:=.int .i64 k,val:=v,born:=clock})=((es++[(k,v,clock)]).map mkE).toArray:=by simp [mkE]
    simp only [xV h4,Result.andThen_ok,Oper.upon,hpush,Sem.run_pure]
    refine hK undef _ (hH.turn hr fun F' hF'=>⟨uG ((by obtain ⟨_,_,_,_,h,_⟩:=hF';exact (h b).2 rfl)),F',⟨es++[(k,v,clock)],clock+1,?_,⟨?_,?_,?_⟩,by obtain ⟨_,_,_,_,h,_⟩:=hF';exact h,uH h4⟩,fun b hb=>.inr hb⟩)
    · have hs:¬(mv (es.map (fun e=>(e.1,e.2.1))) k).isSome=true:=by rw [←kD k es 0,hf];simp
      rw [mset,if_neg hs]
      simp
    · rw [List.map_append,List.nodup_append]
      refine ⟨hok.keys,by simp,fun x hx y hy=>?_⟩
      obtain ⟨e,he,rfl⟩:=List.mem_map.1 hx
      simp at hy;subst hy
      exact hne e he
    · rw [List.map_append,List.nodup_append]
      refine ⟨hok.borns,by simp,fun x hx y hy=>?_⟩
      obtain ⟨e,he,rfl⟩:=List.mem_map.1 hx
      simp at hy;subst hy
      exact Nat.ne_of_lt (hok.lt e he)
    · intro e he
      rcases List.mem_append.1 he with he|he
      · have:=hok.lt e he;omega
      · simp at he;subst he;exact Nat.lt_succ_self _

theorem eraseIdx_map' {α β:Type} (f:α→β):∀(l:List α) (j:Nat),(l.map f).eraseIdx j=(l.eraseIdx j).map f
  | [],j=>rfl
  |x::l,0=>rfl
  |x::l,j+1=>by simp [eraseIdx_map' f l j]
theorem lC {es:List (Int × Value × Nat)} {k:Int} {j born:Nat} {v:Value} (hok:(es.map (·.1)).Nodup) (hj:es[j]?=some (k,v,born)):es.eraseIdx j=es.filter (fun e=>!(e.1 == k)):=by
  induction es generalizing j with
  |nil=>simp at hj
  | cons e es ih=>
    simp only [List.map_cons,List.nodup_cons] at hok
    cases j with
    | zero=>
      obtain rfl:e=(k,v,born):=by simpa using hj
      simp only [List.eraseIdx_cons_zero,List.filter_cons,BEq.rfl,Bool.not_true,Bool.false_eq_true,if_false]
      refine (List.filter_eq_self.2 fun e' he'=>?_).symm
      have:e'.1≠k:=fun h=>hok.1 (h▸List.mem_map.2 ⟨e',he',rfl⟩)
      simpa using this
    | succ j=>
      have hj':es[j]?=some (k,v,born):=by simpa using hj
      have:e.1≠k:=fun h=>hok.1 (h▸List.mem_map.2 ⟨_,List.mem_of_getElem? hj',rfl⟩)
      have h1:(e.1 == k)=false:=by simpa using this
      simp only [List.eraseIdx_cons_succ,List.filter_cons,h1,Bool.not_false,if_true]
      rw [ih hok.2 hj']
theorem mdel_map (es:List (Int × Value × Nat)) (k:Int):(es.filter (fun e=>!(e.1 == k))).map (fun e=>(e.1,e.2.1))=mdel (es.map (fun e=>(e.1,e.2.1))) k:=by
  simp [mdel,List.filter_map,Function.comp_def]
theorem EsOk.filter {es:List (Int × Value × Nat)} {clock:Nat} (h:EsOk es clock) (p:Int × Value × Nat→Bool):EsOk (es.filter p) clock:=
  ⟨h.keys.sublist ((List.filter_sublist).map _),h.borns.sublist ((List.filter_sublist).map _),fun e he=>h.lt e (List.mem_filter.1 he).1⟩

theorem op_delete {t kt e b:Nat} {kk:IntKind} {x y:Operand} {u:TypeId} {m:List (Int × Value)} {k:Int} {w0 w:World} {M:Nat→Prop} {H H':List It} [ht:TMp P t kt e] [hk:TIn P kt kk]
    (hx:ev l x=some (.map (some b))) (hy:ev l y=some (.int .i64 k)) (hH:HS w0 M H w) (hr:Rp H (mp b m) (mp b (mdel m k)) H') :
    Op1 P N l ⟨d,.call ⟨.builtin .delete,#[x,y],#[t,u]⟩,T,pos,af,g⟩ w (fun v w'=>v= .tuple #[]∧HS w0 M H' w'):=by
  intro a hA K Q hK
  obtain ⟨R,p,_⟩:=hr.split
  obtain ⟨F,es,clock,rfl,hok,h3,h4⟩:=hH.sat (p.symm.subset (List.mem_cons_self))
  unfold Oper.wp
  simp only [execOp,resolve,invoke,builtin,List.map_toArray,List.map_cons,List.map_nil,hA.ev hx,hA.ev hy,Builtin.delete_,Sem.run_bind,Sem.run_pure,Result.andThen_ok,List.getElem?_toArray,List.getElem?_cons_zero,List.getElem?_cons_succ,
    run_underlying ht.eq,xM h4,tG,tZ]
  cases hf:fnd k es 0 with
  | some q=>
    obtain ⟨j,v0⟩:=q
    obtain ⟨_,born,hj⟩:=pO k es 0 j v0 hf
    simp only [Nat.sub_zero] at hj
    have hlt:j<es.length:=(List.getElem?_eq_some_iff.1 hj).1
    have herase:(es.map mkE).toArray.eraseIdxIfInBounds j=((es.filter (fun e=>!(e.1 == k))).map mkE).toArray:=by
      apply Array.ext'
      rw [←lC hok.keys hj]
      simp [Array.eraseIdxIfInBounds,hlt,eraseIdx_map']
    simp only [Sem.run_bind,xV h4,Result.andThen_ok,herase,Sem.run_pure,Oper.upon]
    exact hK _ _ ⟨rfl,hH.turn hr fun F' hF'=>⟨uG ((by obtain ⟨_,_,_,_,h,_⟩:=hF';exact (h b).2 rfl)),F',⟨_,clock,mdel_map es k,hok.filter _,by obtain ⟨_,_,_,_,h,_⟩:=hF';exact h,uH h4⟩,fun b hb=>.inr hb⟩⟩
  | none=>
    have hne:=mZ k es 0 hf
    have hself:mdel (es.map (fun e=>(e.1,e.2.1))) k=es.map (fun e=>(e.1,e.2.1)):=by
      unfold mdel
      refine List.filter_eq_self.2 fun e he=>?_
      obtain ⟨e',he',rfl⟩:=List.mem_map.1 he
      simpa using hne e' he'
    simp only [Sem.run_bind,xV h4,Result.andThen_ok,Sem.run_pure,Oper.upon]
    exact hK _ _ ⟨rfl,hH.turn hr fun F' hF'=>⟨uG ((by obtain ⟨_,_,_,_,h,_⟩:=hF';exact (h b).2 rfl)),F',⟨es,clock,hself.symm,hok,by obtain ⟨_,_,_,_,h,_⟩:=hF';exact h,uH h4⟩,fun b hb=>.inr hb⟩⟩

theorem vZ {t:Nat} {w0 w:World} {M:Nat→Prop} {H:List It} (hH:HS w0 M H w) :
    Op1 P N l ⟨d,.makeMap t none,T,pos,af,g⟩ w (fun v w'=>∃b,v= .map (some b)∧HS w0 M (mp b []::H) w'):=by
  intro a hA K Q hK
  unfold Oper.wp
  simp only [execOp,Instr.makeMap,Option.map_none,Sem.run_bind,Sem.run_pure,run_newObj,World.alloc_eq,Result.andThen_ok,Oper.upon]
  exact hK _ _ ⟨w.heap.size,rfl,hH.come (eL w _) (F':=fun x=>x=w.heap.size) ⟨[],0,rfl,⟨by simp,by simp,by simp⟩,fun x=>Iff.rfl,heap_alloc_new w _⟩ fun b hb=>by omega⟩

theorem kW {fn:Fn} {first captured:Array Operand} {fs cs:List Value} (hf:evL l first.toList=some fs) (hc:evL l captured.toList=some cs) :
    Ex P N l C ⟨d,.makeFunc fn first captured,T,pos,af,g⟩ (.func fn fs.toArray cs.toArray):=by
  intro a w hA _
  have e1:first.map a.eval=fs.toArray:=by
    have:=hA.evL hf
    apply Array.ext'
    simpa using this
  have e2:captured.map a.eval=cs.toArray:=by
    have:=hA.evL hc
    apply Array.ext'
    simpa using this
  simp only [execOp,Instr.makeFunc,e1,e2,Sem.run_bind,Sem.run_pure,Result.andThen_ok]

def itr (r b clock:Nat) (seen:List Nat):It:=blk r (.mapIter (some b) clock seen.toArray clock)
theorem op_range {t kt e b clock:Nat} {es:List (Int × Value × Nat)} {x:Operand} {w0 w:World} {M:Nat→Prop} {H:List It} [ht:TMp P t kt e] (hx:ev l x=some (.map (some b))) (hH:HS w0 M H w) (hm:mpO b es clock∈H) :
    Op1 P N l ⟨d,.range t x,T,pos,af,g⟩ w (fun v w'=>∃r,v= .pointer (some (bat r 0))∧HS w0 M (itr r b clock []::H) w'):=by
  intro a hA K Q hK
  obtain ⟨F,h3,h4⟩:=hH.sat hm
  unfold Oper.wp
  simp only [execOp,hA.ev hx,Instr.range,Sem.run_bind,run_underlying ht.eq,Result.andThen_ok,xM h4,Sem.run_pure,run_newObj,World.alloc_eq,Oper.upon]
  exact hK _ _ ⟨w.heap.size,rfl,hH.come_blk _⟩
theorem qW {w:World} {r:Nat} {o:Option Nat} {s st:Nat} {seen:Array Nat} (h:w.heap[r]?=some (.mapIter o s seen st)):(getObj r).run P w= .ok (.mapIter o s seen st) w:=by
  simp [getObj,Sem.run,h]
theorem jA {w:World} {r:Nat} {o:Option Nat} {s st:Nat} {seen:Array Nat} (h:w.heap[r]?=some (.mapIter o s seen st)) (x:Obj):(setObj r x).run P w= .ok () {w with heap:=w.heap.setIfInBounds r x}:=by
  simp [setObj,Sem.run,h]

theorem op_next {r b clock:Nat} {seen:List Nat} {es:List (Int × Value × Nat)} {x:Operand} {w0 w:World} {M:Nat→Prop} {H:List It}
    (hx:ev l x=some (.pointer (some (bat r 0)))) (hH:HS w0 M H w) (hi:itr r b clock seen∈H) (hm:mpO b es clock∈H) (hok:EsOk es clock) :
    Op1 P N l ⟨d,.next x false,T,pos,af,g⟩ w (fun v w'=>
      ((∀e∈es,e.2.2∈seen)∧v= .tuple #[.bool false]∧HS w0 M H w')∨
      (∃e∈es,e.2.2 ∉ seen∧v= .tuple #[.bool true,.int .i64 e.1,e.2.1]∧∀H',Rp H (itr r b clock seen) (itr r b clock (seen++[e.2.2])) H'→HS w0 M H' w')):=by
  intro a hA K Q hK
  obtain ⟨F,h3,h4⟩:=hH.sat hm
  obtain ⟨F2,h5,h6⟩:=hH.sat hi
  have hcheck:(!seen.toArray.isEmpty && !(es.map mkE).toArray.isEmpty && (es.map mkE).toArray.all (fun x=>decide (x.born≥clock)))=false:=by
    cases hes:es with
    |nil=>simp
    | cons e es'=>
      have:=hok.lt e (by simp [hes])
      simp [mkE]
      intro _ hle
      omega
  have hleft:((es.map mkE).toArray.filter (fun e=>!seen.toArray.contains e.born))=((es.filter (fun e=>!seen.contains e.2.2)).map mkE).toArray:=by
    apply Array.ext'
    simp [List.filter_map,Function.comp_def,mkE]
    rfl
  have hold:((((es.filter (fun e=>!seen.contains e.2.2)).map mkE).toArray).filter (fun x=>decide (x.born<clock)))=((es.filter (fun e=>!seen.contains e.2.2)).map mkE).toArray:=by
    rw [Array.filter_eq_self]
    intro x hx
    simp only [List.mem_toArray,List.mem_map] at hx
    obtain ⟨e,he,rfl⟩:=hx
    exact decide_eq_true (hok.lt e (List.mem_filter.1 he).1)
  have hnew:((((es.filter (fun e=>!seen.contains e.2.2)).map mkE).toArray).filter (fun x=>decide (x.born≥clock)))=#[]:=by
    rw [Array.filter_eq_empty_iff]
    intro x hx
    simp only [List.mem_toArray,List.mem_map] at hx
    obtain ⟨e,he,rfl⟩:=hx
    have:=hok.lt e (List.mem_filter.1 he).1
    simp [mkE];omega
  unfold Oper.wp
  simp only [execOp,hA.ev hx,bat,Instr.next,Sem.run_bind,qW h6,Result.andThen_ok,xM h4,hcheck,Bool.false_eq_true,if_false,hleft,hold,hnew,Sem.run_pure,Array.append_empty]
  generalize hL:es.filter (fun e=>!seen.contains e.2.2)=L
  have hLm:∀e,e∈L→e∈es∧e.2.2 ∉ seen:=fun e he=>by
    rw [←hL] at he
    have:=List.mem_filter.1 he
    exact ⟨this.1,by simpa using this.2⟩
  cases L with
  | nil=>
    have hall:∀e∈es,e.2.2∈seen:=fun e he=>by
      have:=List.filter_eq_nil_iff.1 hL e he
      simpa using this
    simp only [List.map_nil,Array.map_empty,Array.isEmpty_empty,if_true,Array.append_empty]
    simp [Question.forced,run_choose]
    simp only [Oper.upon]
    exact hK _ _ (.inl ⟨hall,rfl,hH⟩)
  | cons e0 L'=>
    have hne:((List.map mkE (e0::L')).toArray).isEmpty=false:=by simp
    simp only [hne,Bool.false_eq_true,if_false]
    have hch:∀n:Nat,0<n→∃i w1,i<n∧(choose (.mapNext n)).run P w= .ok i w1∧w1.heap=w.heap∧Kp w noM w1:=by
      intro n hn
      by_cases hf:n≤1
      · refine ⟨0,w,hn,?_,rfl,Kp.refl _ _⟩
        simp [run_choose,Question.forced,hf]
      · refine ⟨(Question.mapNext n).cut (w.tape w.drawn (.mapNext n)),w.drew,by simpa [Question.cut] using Nat.mod_lt _ hn,?_,rfl,Kp.drew _ _⟩
        simp [run_choose,Question.forced,hf]
    obtain ⟨i,w1,hi1,hrun,hheap,hkp⟩:=hch (#[]++((List.map mkE (e0::L')).toArray.map some)).size (by simp)
    simp only [hrun,Result.andThen_ok]
    have hi2:i<(e0::L').length:=by simpa using hi1
    have hget:(#[]++((List.map mkE (e0::L')).toArray.map some))[i]?=some (some (mkE (e0::L')[i])):=by
      have:(List.map (some ∘ mkE) (e0::L'))[i]?=some (some (mkE (e0::L')[i])):=by rw [List.getElem?_map,List.getElem?_eq_getElem hi2];rfl
      simpa using this
    simp only [hget]
    obtain ⟨he1,he2⟩:=hLm _ (List.getElem_mem hi2)
    have h6':w1.heap[r]?=some (.mapIter (some b) clock seen.toArray clock):=by rw [hheap];exact h6
    simp only [Sem.run_bind,jA h6',Result.andThen_ok,Sem.run_pure,Oper.upon]
    refine hK _ _ (.inr ⟨_,he1,he2,rfl,fun H' hrp=>?_⟩)
    refine (hH.keep hkp).turn hrp fun F' hF'=>⟨uG ((hF'.1 r).2 rfl),F',⟨hF'.1,?_⟩,fun b hb=>.inr hb⟩
    have:=uH (o:=.mapIter (some b) clock (seen.toArray.push (mkE (e0::L')[i]).born) clock) h6'
    simpa [mkE] using this

theorem ex_entry {r b clock:Nat} {seen:List Nat} {es:List (Int × Value × Nat)} {x:Operand} {e:Int × Value × Nat} {w0:World} {M:Nat→Prop} {H:List It}
    (hx:ev l x=some (.pointer (some (bat r 0)))) (hi:itr r b clock (seen++[e.2.2])∈H) (hm:mpO b es clock∈H) (hok:(es.map (·.2.2)).Nodup) (he:e∈es) :
    Ex P N l (HS w0 M H) ⟨d,.entry x,T,pos,af,g⟩ (.tuple #[.int .i64 e.1,e.2.1]):=by
  intro a w hA hH
  obtain ⟨F,h3,h4⟩:=hH.sat hm
  obtain ⟨F2,h5,h6⟩:=hH.sat hi
  have hf:(es.map mkE).toArray.find? (fun x=>x.born == e.2.2)=some (mkE e):=by
    rw [List.find?_toArray,List.find?_map,Option.map_eq_some_iff]
    refine ⟨e,?_,rfl⟩
    simp only [Function.comp_def,mkE]
    clear h4 hm h3
    induction es with
    |nil=>simp at he
    | cons e' es ih=>
      simp only [List.map_cons,List.nodup_cons] at hok
      rw [List.find?_cons]
      rcases List.mem_cons.1 he with rfl|he'
      · simp
      · have hne:e'.2.2≠e.2.2:=fun h=>hok.1 (h▸List.mem_map.2 ⟨e,he',rfl⟩)
        have hb:(e'.2.2 == e.2.2)=false:=by simpa using hne
        simp only [hb]
        exact ih hok.2 he'
  simp only [execOp,hA.ev hx,bat,Instr.entry,Sem.run_bind,qW h6,Result.andThen_ok]
  have hb:(seen++[e.2.2]).toArray.back?=some e.2.2:=by simp
  simp only [hb,Sem.run_bind,xM h4,Result.andThen_ok]
  simp [hf,mkE]

def encM (m:List (Int × Int)):List (Int × Value):=m.map fun p=>(p.1,.int .i64 p.2)
def mpI (b:Nat) (m:List (Int × Int)):It:=mp b (encM m)
def lkI (m:List (Int × Int)) (k:Int):Option Int:=(m.find? (fun e=>e.1 == k)).map (·.2)
def wX (m:List (Int × Int)) (k v:Int):List (Int × Int):=if (lkI m k).isSome then m.map (fun e=>if e.1 == k then (k,v) else e) else m++[(k,v)]
theorem aA (m:List (Int × Int)) (k:Int):mv (encM m) k=(lkI m k).map (.int .i64):=by
  simp [mv,encM,lkI,List.find?_map,Function.comp_def]
theorem mset_encM (m:List (Int × Int)) (k v:Int):mset (encM m) k (.int .i64 v)=encM (wX m k v):=by
  unfold mset wX
  rw [aA,Option.isSome_map]
  split
  · simp only [encM,List.map_map]
    apply List.map_congr_left
    intro e he
    simp only [Function.comp_def]
    split<;>rfl
  · simp [encM]
theorem dP (m:List (Int × Int)) (k:Int):(mv (encM m) k).getD (.int .i64 0)= .int .i64 ((lkI m k).getD 0):=by
  rw [aA];cases lkI m k<;>rfl
theorem eU {t kt e sz by_ b:Nat} {kk:IntKind} {zs:List Value} {x y:Operand} {m:List (Int × Int)} {k:Int} {w0:World} {M:Nat→Prop} {H:List It} [ht:TMp P t kt e] [hk:TIn P kt kk] [hi:TIf P e (.int .i64 0) zs sz by_]
    (hx:ev l x=some (.map (some b))) (hy:ev l y=some (.int .i64 k)) (hm:mpI b m∈H):Ex P N l (HS w0 M H) ⟨d,.lookup t x y true,T,pos,af,g⟩ (.tuple #[.int .i64 ((lkI m k).getD 0),.bool (lkI m k).isSome]):=by
  have:=qP (P:=P) (N:=N) (l:=l) (d:=d) (T:=T) (pos:=pos) (af:=af) (g:=g) (t:=t) (w0:=w0) (M:=M) hx hy hm
  rw [dP,aA,Option.isSome_map] at this
  exact this
theorem ex_lookupI {t kt e sz by_ b:Nat} {kk:IntKind} {zs:List Value} {x y:Operand} {m:List (Int × Int)} {k:Int} {w0:World} {M:Nat→Prop} {H:List It} [ht:TMp P t kt e] [hk:TIn P kt kk] [hi:TIf P e (.int .i64 0) zs sz by_]
    (hx:ev l x=some (.map (some b))) (hy:ev l y=some (.int .i64 k)) (hm:mpI b m∈H):Ex P N l (HS w0 M H) ⟨d,.lookup t x y false,T,pos,af,g⟩ (.int .i64 ((lkI m k).getD 0)):=by
  have:=qG (P:=P) (N:=N) (l:=l) (d:=d) (T:=T) (pos:=pos) (af:=af) (g:=g) (t:=t) (w0:=w0) (M:=M) hx hy hm
  rw [dP] at this
  exact this
theorem rM {t:Nat} {w0 w:World} {M:Nat→Prop} {H:List It} (hH:HS w0 M H w) :
    Op1 P N l ⟨d,.makeMap t none,T,pos,af,g⟩ w (fun v w'=>∃b,v= .map (some b)∧HS w0 M (mpI b []::H) w'):=vZ hH
theorem rU {t kt e b:Nat} {kk:IntKind} {x y z:Operand} {m:List (Int × Int)} {k v:Int} {w0 w:World} {M:Nat→Prop} {H H':List It} [ht:TMp P t kt e] [hk:TIn P kt kk]
    (hx:ev l x=some (.map (some b))) (hy:ev l y=some (.int .i64 k)) (hz:ev l z=some (.int .i64 v)) (hH:HS w0 M H w) (hr:Rp H (mpI b m) (mpI b (wX m k v)) H') :
    Op1 P N l ⟨d,.mapUpdate t x y z,T,pos,af,g⟩ w (fun _ w'=>HS w0 M H' w'):=by
  unfold mpI at hr
  rw [←mset_encM] at hr
  exact xT hx hy hz hH hr
theorem kS (a b:Nat) {z:Value} {zs:List Value} {by_:Nat} [hi:TIf P a z zs 1 by_]:∃i,P.info? (a,b).1=some i∧i.size=1:=
  let ⟨i,h1,_,h3,_⟩:=hi.eq
  ⟨i,h1,h3⟩

def encE (e:Int × Int × Nat):Int × Value × Nat:=(e.1,.int .i64 e.2.1,e.2.2)
structure ElOk (el:List (Int × Int × Nat)) (clock:Nat):Prop where
  keys:(el.map (·.1)).Nodup
  borns:(el.map (·.2.2)).Nodup
  lt:∀e∈el,e.2.2<clock
def mpE (b:Nat) (el:List (Int × Int × Nat)) (clock:Nat):It:=mpO b (el.map encE) clock
theorem ElOk.es {el:List (Int × Int × Nat)} {clock:Nat} (h:ElOk el clock):EsOk (el.map encE) clock:=
  ⟨by simpa [encE,Function.comp_def] using h.keys,by simpa [encE,Function.comp_def] using h.borns,fun e he=>by
    obtain ⟨e',he',rfl⟩:=List.mem_map.1 he
    exact h.lt e' he'⟩
end
open Go Go.ChangeShapes Go.WideShapes Go.ChangeAt Go.RowKit Go.Deep
theorem HS.pick {w0 w:World} {M:Nat→Prop} {H:List It} {it:It} (h:HS w0 M H w) (hm:it∈H):HS w0 M [it] w:=
  let ⟨_,p⟩:=lZ hm
  (h.perm p).head
def LawR (w0:World) (v:Value) (w:World):Prop:=v= .bool true∧Kp w0 noM w
theorem Kp.below {w0 w:World} (h:Kp w0 noM w):Below w0.heap.size w0 w:=⟨h.os,h.tape,h.output,h.size,fun k hk=>h.block k hk id⟩
section
variable {H:Type} {enc:TypeId × Value→H} {P:Program}
theorem nN (hl:laidOutB P=true) {W W':World} (hb:Below W.heap.size W W'):∀{ts:List TypeId} {vs:List Value} {ds:List (DataW H)} {ps:List MemPlace},
    (∀t∈ts,P.readableRec t=true∧t<P.types.size)→DataW.TrodAll enc P W 0 (fun _=>true) true ts vs ds ps→(∀x∈ps,x.block<W.heap.size)→
    DataW.TrodAll enc P W' 0 (fun b=>decide (b<W.heap.size)) true ts vs ds ps
  | [],vs,ds,ps,_,h,_=>by
    obtain ⟨rfl,rfl,rfl⟩:=trodAll_nil h
    exact trodAll_mk0
  | t::ts,vs,ds,ps,hr,h,hlt=>by
    obtain ⟨v,vs1,d,ds1,a,b,rfl,rfl,rfl,h1,h2⟩:=trodAll_cons h
    have hlt1:∀x∈a,x.block<W.heap.size:=fun x hx=>hlt x (List.mem_append.2 (.inl hx))
    have hlt2:∀x∈b,x.block<W.heap.size:=fun x hx=>hlt x (List.mem_append.2 (.inr hx))
    have ht:=hr t (List.mem_cons_self)
    exact trodAll_cons_mk (Below.trod hl ht.1 ht.2 h1 hb hlt1) (nN hl hb (fun t ht=>hr t (List.mem_cons_of_mem _ ht)) h2 hlt2)
theorem kM {W:World} {base:Nat} {spare:Nat→Bool} {held:Bool}:∀{ts:List TypeId} {vs:List Value} {ds:List (DataW H)} {ps:List MemPlace},
    DataW.TrodAll enc P W base spare held ts vs ds ps→ds.length=ts.length
  | [],vs,ds,ps,h=>by
    obtain ⟨rfl,rfl,rfl⟩:=trodAll_nil h
    rfl
  | t::ts,vs,ds,ps,h=>by
    obtain ⟨v,vs1,d,ds1,a,b,rfl,rfl,rfl,h1,h2⟩:=trodAll_cons h
    simp [kM h2]
theorem law_post {f:Func} {s:ChangeSpec} {W W':World} {args:Array Value} {ds gs:List (DataW H)} {before:List MemPlace} {tb:TypeId}
    (hl:laidOutB P=true) (hrd:f.params.toList.all (fun t=>P.readableRec t && decide (t<P.types.size))=true) (hv:s.vars=[])
    (hs:∀ds:List (DataW H),ds.length=f.params.size→(s.fn H (ds++[])).results=[.lit (.bool true)]∧(s.fn H (ds++[])).args=ds∧(s.fn H (ds++[])).vars=[])
    (hrt:f.resultTypes=#[tb]) (hb:P.underlying tb=some .bool)
    (hW:DataW.Whole enc P f.params.toList s.vars false W args.toList ds gs before) (hk:Kp W noM W') :
    s.post enc P f false true false false W args (.bool true) W':=by
  have hW':=hW
  obtain ⟨p,q,hA,hV,rfl,hfz,hnd⟩:=hW
  rw [hv] at hV
  have hg:gs=[]∧q=[]:=by
    cases gs with
    |nil=>exact ⟨rfl,hV⟩
    |cons g gs=>exact hV.elim
  obtain ⟨rfl,rfl⟩:=hg
  have hlen:=kM hA
  rw [Array.length_toList] at hlen
  obtain ⟨h1,h2,h3⟩:=hs ds hlen
  have hlt:∀x∈p,x.block<W.heap.size:=fun x hx=>by simpa using hW'.lt x (List.mem_append.2 (.inl hx))
  refine ⟨ds,[],p++[],[],p,[],hW',?_,?_,?_,(Kp.below hk).frame _,fun h=>by cases h⟩
  · rw [h1,hrt]
    exact trodAll_cons_mk (shut_bool hb _) trodAll_mk0
  · rw [h2]
    refine nN hl (Kp.below hk) (fun t ht=>?_) hA hlt
    have:=List.all_eq_true.1 hrd t ht
    simpa using this
  · rw [h3,hv];rfl

end

section
variable {H:Type} {enc:TypeId × Value→H} {P:Program} {w:World} {base:Nat} {spare:Nat→Bool} {held:Bool}
theorem kX {α:Type} (p:Nat→α→Prop):∀n:Nat,(∀i,i<n→∃x,p i x)→∃l:List α,l.length=n∧∀i x,l[i]?=some x→p i x
  |0,_=>⟨[],rfl,by simp⟩
  | n +1,h=>by
    obtain ⟨l,hl,hp⟩:=kX p n (fun i hi=>h i (by omega))
    obtain ⟨x,hx⟩:=h n (by omega)
    refine ⟨l++[x],by simp [hl],fun i y hy=>?_⟩
    rcases Nat.lt_or_ge i n with hi|hi
    · rw [List.getElem?_append_left (by omega)] at hy
      exact hp i y hy
    · have:=(List.getElem?_eq_some_iff.1 hy).1
      simp only [List.length_append,List.length_cons,List.length_nil] at this
      obtain rfl:i=n:=by omega
      rw [List.getElem?_append_right (by omega),hl] at hy
      simp at hy
      exact hy▸hx
end
section
variable {P:Program} {N:Nat} {l:List (Nat × Value)} {C:World→Prop} {d:Option Tmp} {T:TypeId} {pos:String} {af:Array Edge} {g:Option (Nat × Bool)}
theorem ex_rem {t ty:TypeId} {x y:Operand} {k:IntKind} {m n:Int} (hx:ev l x=some (.int k m)) (hy:ev l y=some (.int k n)) (h:n≠0):Ex P N l C ⟨d,.binOp .rem t x y ty,T,pos,af,g⟩ (.int k (m.tmod n)):=by
  intro a w hA _
  simp only [execOp,hA.ev hx,hA.ev hy,eqGuard_at_int,binOp_rem]
  simp [Op.intDiv,h]
theorem ex_quo {t ty:TypeId} {x y:Operand} {k:IntKind} {m n:Int} (hx:ev l x=some (.int k m)) (hy:ev l y=some (.int k n)) (h:n≠0):Ex P N l C ⟨d,.binOp .quo t x y ty,T,pos,af,g⟩ (.int k (k.wrap (m.tdiv n))):=by
  intro a w hA _
  simp only [execOp,hA.ev hx,hA.ev hy,eqGuard_at_int,binOp_quo]
  simp [Op.intDiv,h]
theorem uA {s t:TypeId} {x:Operand} {k kd ks:IntKind} {m v:Int} [hs:TIn P s ks] [ht:TIn P t kd] (hx:ev l x=some (.int k m)) (hv:kd.wrap m=v):Ex P N l C ⟨d,.convert s t x,T,pos,af,g⟩ (.int kd v):=by
  intro a w hA _
  subst hv
  simp only [execOp,hA.ev hx,convert,Sem.run_bind,run_underlying hs.eq,run_underlying ht.eq,Result.andThen_ok,Conv.intToInt,Sem.run_pure]
end
theorem Rd.take {w:World} {o:Option Addr} {xs:List Value} (h:Rd w o xs) (k:Nat):Rd w o (xs.take k):=by
  refine ⟨fun hp=>h.1 (by rw [List.length_take] at hp;omega),fun j u hj=>h.2 j u ?_⟩
  have hjk:j<k:=by
    have:=(List.getElem?_eq_some_iff.1 hj).1
    rw [List.length_take] at this;omega
  rwa [List.getElem?_take_of_lt hjk] at hj
section
variable {H:Type} {enc:TypeId × Value→H} {P:Program} {w:World} {base:Nat} {spare:Nat→Bool} {held:Bool}
end
def nM (b:Bool):List Value:=[.bool b]
abbrev Sd:=Option Addr × Nat × Nat
def Sd.v (d:Sd):Value:=.slice d.1 d.2.1 d.2.2
def RdR {α:Type} (enc:α→List Value) (w:World) (ds:List Sd) (rows:List (List α)):Prop:=
  ds.length=rows.length∧∀(i:Nat) (d:Sd) (r:List α),ds[i]?=some d→rows[i]?=some r→d.2.1=r.length∧Rd w d.1 (flat enc r)
theorem RdR.at {α:Type} {enc:α→List Value} {w:World} {ds:List Sd} {rows:List (List α)} (h:RdR enc w ds rows) {i:Nat} {r:List α} (hr:rows[i]?=some r) :
    ∃o c,ds[i]?=some (o,r.length,c)∧Rd w o (flat enc r):=by
  have hlt:=(List.getElem?_eq_some_iff.1 hr).1
  obtain ⟨d,hd⟩:∃d,ds[i]?=some d:=⟨_,List.getElem?_eq_getElem (by rw [h.1];exact hlt)⟩
  obtain ⟨h1,h2⟩:=h.2 i d r hd hr
  obtain ⟨o,n,c⟩:=d
  dsimp only at h1 h2
  subst h1
  exact ⟨o,c,hd,h2⟩

theorem dR {li:List Int} {i:Nat} {z:Int} (h:li[i]?=some z):(flat encI li)[i*1]?=some (.int .i64 z):=sV encI_len h rfl
def andK (k:IntKind) (m n:Int):Int:=k.wrap ((BitVec.ofInt k.bits m &&& BitVec.ofInt k.bits n).toNat)
def nU (k:IntKind) (m n:Int):Int:=m.fdiv (2 ^ (min n.toNat k.bits))

theorem HS.moreM {w0 w:World} {M M':Nat→Prop} {H:List It} (h:HS w0 M H w) (hM:∀b,M b→M' b):HS w0 M' H w:=by
  obtain ⟨hk,F,hF,ho⟩:=h
  exact ⟨⟨hk.os,hk.tape,hk.output,hk.size,fun b hb hn=>hk.block b hb fun h=>hn (hM b h)⟩,F,hF,fun b hb=>(ho b hb).imp id (hM b)⟩
theorem HS.join {w0 w w':World} {M:Nat→Prop} {H H':List It} (h:HS w0 M H w) (h':HS w noM H' w'):HS w0 M (H'++H) w':=by
  obtain ⟨Mc,h1,h2,h3⟩:=HS.frame (Hc:=[]) (Hf:=H) h
  exact h3 w' H' (h'.moreM fun b hb=>hb.elim)

def all (L:List It):It where
  sat w F:=Hp w L F
  loc:=fun h he=>h.loc he
  lt:=fun h b hb=>h.lt b hb
  ext:=fun h he=>h.ext he
theorem HS.open_ {w0 w:World} {M:Nat→Prop} {L H:List It} (h:HS w0 M (all L::H) w):HS w0 M (L++H) w:=by
  obtain ⟨hk,F,⟨F1,F2,hF,hd,h1,h2⟩,ho⟩:=h
  exact ⟨hk,_,Hp.mk_append hd h1 h2,fun b hb=>ho b ((hF b).2 hb)⟩
theorem HS.shut {w0 w:World} {M:Nat→Prop} {L H:List It} (h:HS w0 M (L++H) w):HS w0 M (all L::H) w:=by
  obtain ⟨hk,F,hF,ho⟩:=h
  obtain ⟨F1,F2,hG,hd,h1,h2⟩:=hF.append
  exact ⟨hk,F,⟨F1,F2,hG,hd,h1,h2⟩,ho⟩
theorem HS.openAt {w0 w:World} {M:Nat→Prop} {L H:List It} {i:Nat} {x:It} (h:HS w0 M (all L::H) w) (hi:L[i]?=some x):HS w0 M (x::all (L.eraseIdx i)::H) w:=by
  have h1:=h.open_.perm ((qM i hi).append_right H)
  have h2:HS w0 M (L.eraseIdx i++(x::H)) w:=h1.perm List.perm_middle.symm
  exact h2.shut.perm (.swap _ _ _)
theorem rQ {x:It}:∀{L:List It} {i:Nat},i<L.length→(x::L.eraseIdx i).Perm (L.set i x)
  | [],i,h=>by simp at h
  |y::L,0,h=>.refl _
  |y::L,i+1,h=>(List.Perm.swap y x _).trans ((rQ (L:=L) (i:=i) (by simpa using h)).cons y)
theorem HS.shutAt {w0 w:World} {M:Nat→Prop} {L H:List It} {i:Nat} {x:It} (h:HS w0 M (x::all (L.eraseIdx i)::H) w) (hi:i<L.length):HS w0 M (all (L.set i x)::H) w:=by
  have h1:HS w0 M (all (L.eraseIdx i)::x::H) w:=h.perm (.swap _ _ _)
  have h2:HS w0 M (x::(L.eraseIdx i++H)) w:=h1.open_.perm List.perm_middle
  have h3:HS w0 M (L.set i x++H) w:=h2.perm ((rQ hi).append_right H)
  exact h3.shut
theorem HS.in_all {w0 w:World} {M:Nat→Prop} {L H:List It} {x:It} (h:HS w0 M H w) (hm:all L∈H) (hx:x∈L):∃F,x.sat w F:=by
  obtain ⟨R,p⟩:=lZ hm
  exact ((h.perm p).open_).sat (List.mem_append_left _ hx)
theorem HS.nil_all {w0 w:World} {M:Nat→Prop} {H:List It} (h:HS w0 M H w):HS w0 M (all []::H) w:=HS.shut (L:=[]) h

theorem HS.pushA {w0 w:World} {M:Nat→Prop} {L H:List It} {x:It} (h:HS w0 M (x::all L::H) w):HS w0 M (all (L++[x])::H) w:=by
  have h1:HS w0 M (all L::x::H) w:=h.perm (.swap _ _ _)
  have h2:HS w0 M (L++[x]++H) w:=by simpa using h1.open_
  exact h2.shut

def owns {α:Type} (T sz:Nat) (enc:α→List Value) (ds:List Sd) (rows:List (List α)):List It:=List.zipWith (fun (d:Sd) r=>own T sz d.1 d.2.1 d.2.2 (flat enc r)) ds rows
theorem flat_set1 {α:Type} {enc:α→List Value} (henc:∀x,(enc x).length=1) {l:List α} {i:Nat} (hi:i<l.length) (y:α):Fw.put (flat enc l) i (enc y)=flat enc (l.set i y):=by
  have:=sD henc (l:=l) (i:=i) (x:=l[i]) (y:=y) (off:=0) (vs:=enc y) (List.getElem?_eq_getElem hi) (by
    unfold put
    rw [List.take_zero,List.drop_of_length_le (by rw [henc,henc];exact Nat.le_refl _)]
    simp) (by rw [henc];exact Nat.le_refl _)
  simpa using this
theorem pP {α:Type} {enc:α→List Value} {z:Value} {x:α} (h:enc x=[z]):∀n,List.replicate n z=flat enc (List.replicate n x)
  |0=>rfl
  | n+1=>by
    rw [List.replicate_succ,List.replicate_succ,pP h n]
    simp [flat,h]
theorem made_flat {α:Type} {enc:α→List Value} {z:Value} {x:α} (h:enc x=[z]) (hz:z.cells=#[z]) (n:Nat):(madeCells z.cells (n*1)).toList.take (n*1)=flat enc (List.replicate n x):=by
  rw [kA z hz,←pP h n]
  simp

section
variable {P:Program} {N:Nat} {l:List (Nat × Value)} {C:World→Prop} {d:Option Tmp} {T:TypeId} {pos:String} {af:Array Edge} {g:Option (Nat × Bool)}
theorem op_make1 {α:Type} (enc:α→List Value) (x0:α) {t e by_:Nat} {z:Value} {zs:List Value} {x y:Operand} {kl kc:IntKind} {n:Nat} {m m':Int} {w0 w:World} {M:Nat→Prop} {H:List It} [ht:TSl P t e] [hi:TIf P e z zs 1 by_]
    (hx:ev l x=some (.int kl m)) (hy:ev l y=some (.int kc m')) (hm:m=(n:Int)) (hm':m'=(n:Int)) (hc:n≤maxLen) (hb:by_* n≤140737488355328) (he:enc x0=[z]) (hz:z.cells=#[z]) (hH:HS w0 M H w) :
    Op1 P N l ⟨d,.makeSlice t x y,T,pos,af,g⟩ w (fun v w'=>∃o,v= .slice o n n∧HS w0 M (own e 1 o n n (flat enc (List.replicate n x0))::H) w'):=by
  subst hm;subst hm'
  have:=mP (P:=P) (N:=N) (l:=l) (d:=d) (T:=T) (pos:=pos) (af:=af) (g:=g) (t:=t) (e:=e) hx hy (Nat.le_refl n) hc hb hH
  rw [made_flat he hz] at this
  exact this
theorem ex_and {t ty:TypeId} {x y:Operand} {k:IntKind} {m n v:Int} (hx:ev l x=some (.int k m)) (hy:ev l y=some (.int k n)) (hv:andK k m n=v):Ex P N l C ⟨d,.binOp .and t x y ty,T,pos,af,g⟩ (.int k v):=by
  intro a w hA _
  subst hv
  simp only [execOp,hA.ev hx,hA.ev hy,eqGuard_at_int,binOp_and]
  simp [Op.intBits,andK]
theorem aP {t ty:TypeId} {x y:Operand} {k k2:IntKind} {m n v:Int} (hx:ev l x=some (.int k m)) (hy:ev l y=some (.int k2 n)) (hn:0≤n) (hv:nU k m n=v):Ex P N l C ⟨d,.binOp .shr t x y ty,T,pos,af,g⟩ (.int k v):=by
  intro a w hA _
  subst hv
  simp only [execOp,hA.ev hx,hA.ev hy,eqGuard_at_int,binOp_shr]
  simp [Op.shift,nU,show ¬n<0 by omega]
theorem ex_addK {t ty:TypeId} {x y:Operand} {k:IntKind} {m n v:Int} (hx:ev l x=some (.int k m)) (hy:ev l y=some (.int k n)) (h:k.wrap (m+n)=v):Ex P N l C ⟨d,.binOp .add t x y ty,T,pos,af,g⟩ (.int k v):=by
  intro a w hA _
  subst h
  simp only [execOp,hA.ev hx,hA.ev hy,eqGuard_at_int,binOp_add]
  simp [Op.intArith]
theorem ex_subK {t ty:TypeId} {x y:Operand} {k:IntKind} {m n v:Int} (hx:ev l x=some (.int k m)) (hy:ev l y=some (.int k n)) (h:k.wrap (m - n)=v):Ex P N l C ⟨d,.binOp .sub t x y ty,T,pos,af,g⟩ (.int k v):=by
  intro a w hA _
  subst h
  simp only [execOp,hA.ev hx,hA.ev hy,eqGuard_at_int,binOp_sub]
  simp [Op.intArith]
theorem ex_mulK {t ty:TypeId} {x y:Operand} {k:IntKind} {m n v:Int} (hx:ev l x=some (.int k m)) (hy:ev l y=some (.int k n)) (h:k.wrap (m*n)=v):Ex P N l C ⟨d,.binOp .mul t x y ty,T,pos,af,g⟩ (.int k v):=by
  intro a w hA _
  subst h
  simp only [execOp,hA.ev hx,hA.ev hy,eqGuard_at_int,binOp_mul]
  simp [Op.intArith]
theorem run_eqlB {t:TypeId} [h:TBo P t] (m n:Bool) (w:World):(Op.equal t (.bool m) (.bool n)).run P w= .ok (m == n) w:=by
  exact run_equal_bool w t m n h.eq
theorem ex_eqlB {t ty:TypeId} {x y:Operand} {m n:Bool} [h:TBo P t] (hx:ev l x=some (.bool m)) (hy:ev l y=some (.bool n)):Ex P N l C ⟨d,.binOp .eql t x y ty,T,pos,af,g⟩ (.bool (m == n)):=by
  intro a w hA _
  simp [execOp,hA.ev hx,hA.ev hy,eqGuard_at_bool,binOp,run_eqlB]
theorem ex_neqB {t ty:TypeId} {x y:Operand} {m n:Bool} [h:TBo P t] (hx:ev l x=some (.bool m)) (hy:ev l y=some (.bool n)):Ex P N l C ⟨d,.binOp .neq t x y ty,T,pos,af,g⟩ (.bool (m != n)):=by
  intro a w hA _
  simp [execOp,hA.ev hx,hA.ev hy,eqGuard_at_bool,binOp,run_eqlB]
  cases m<;>cases n<;>rfl

theorem cl_w {w0:World} {M:Nat→Prop} {H:List It} {b j:Nat} {v:Value} (h:w0.cell? (bat b j)=some v) (hM:¬M b):Cl (HS w0 M H) (bat b j) v:=fun w hH=>by
  have hb:b<w0.heap.size:=World.block_lt_of_cell? w0 (bat b j) h
  rw [World.cell?_of_block (w:=w0) (hH.1.block b hb hM)]
  exact h
theorem dK {Q:Exit→Act→World→Prop} {a:Act} {w:World} (h:Q .normal a w):Exit.noGoto Q .normal a w:=h
theorem ng_ret {Q:Exit→Act→World→Prop} {a:Act} {w:World} (h:Q .ret a w):Exit.noGoto Q .ret a w:=h
theorem bH {α:Type} {enc:α→List Value} {y0:α} {t by_ j Tb n cap:Nat} {o:Option Addr} {z v:Value} {zs:List Value} {x y:Operand} {li:List α} {w0 w:World} {M:Nat→Prop} {H H':List It} [hi:TIf P t z zs 1 by_]
    (hx:ev l x=some (.pointer (some (sat o j)))) (hy:ev l y=some v) (he:enc y0=[v]) (h1:v.oneCell'=true) (henc:∀x,(enc x).length=1) (hH:HS w0 M H w) (hr:Rp H (own Tb 1 o n cap (flat enc li)) (own Tb 1 o n cap (flat enc (li.set j y0))) H') (hj:j<li.length) :
    Op1 P N l ⟨d,.store t x y,T,pos,af,g⟩ w (fun _ w'=>HS w0 M H' w'):=
  uS (hi:=hi) hx hy h1 hH hr (by rw [zF henc];omega) (by rw [←he];exact flat_set1 henc hj y0)
theorem op_setI {m:Int} {t by_ j Tb n cap:Nat} {o:Option Addr} {z:Value} {zs:List Value} {x y:Operand} {li:List Int} {w0 w:World} {M:Nat→Prop} {H H':List It} [hi:TIf P t z zs 1 by_]
    (hx:ev l x=some (.pointer (some (sat o j)))) (hy:ev l y=some (.int .i64 m)) (hH:HS w0 M H w) (hr:Rp H (own Tb 1 o n cap (flat encI li)) (own Tb 1 o n cap (flat encI (li.set j m))) H') (hj:j<li.length) :
    Op1 P N l ⟨d,.store t x y,T,pos,af,g⟩ w (fun _ w'=>HS w0 M H' w'):=bH (hi:=hi) (y0:=m) hx hy rfl rfl encI_len hH hr hj
theorem op_copy {t e by_ n cap m nd cd cs k:Nat} {z:Value} {zs:List Value} {o od ox:Option Addr} {x y:Operand} {xs news:List Value} {ty:TypeId} {w0 w:World} {M:Nat→Prop} {H H':List It} [ht:TSl P t e] [hi:TIf P e z zs 1 by_]
    (hx:ev l x=some (.slice od nd cd)) (hy:ev l y=some (.slice ox m cs)) (hH:HS w0 M H w) (hr:Rd w ox news) (hl:news.length=Nat.min m nd) (hod:0<news.length→od=kZ o cap k 1∧k<cap)
    (h1:news.all (·.oneCell')=true) (hk:k+news.length≤xs.length) (hrp:Rp H (own e 1 o n cap xs) (own e 1 o n cap (put xs k news)) H') :
    Op1 P N l ⟨d,.call ⟨.builtin .copy,#[x,y],#[t,ty]⟩,T,pos,af,g⟩ w (fun v w'=>v= .int .i64 (Nat.min m nd)∧HS w0 M H' w'):=by
  intro a hA K Q hK
  obtain ⟨ti,h3,h4,h5,h6⟩:=hi.eq
  unfold Oper.wp
  rcases Nat.eq_zero_or_pos news.length with h0|h0
  · have hn0:Nat.min m nd=0:=by omega
    obtain rfl:news=[]:=List.length_eq_zero_iff.1 h0
    have hrun:(Builtin.copy_ #[t,ty] T #[.slice od nd cd,.slice ox m cs]).run P w= .ok (.int .i64 0) w:=by
      have hl:∀(x:Addr),(loadCells x 0).run P w= .ok #[] w:=fun x=>by simpa using run_loadCells_list (P:=P) w x [] (by simp)
      cases od<;>cases ox<;>simp [Builtin.copy_,run_underlying ht.eq,Builtin.lenOf,Builtin.firstCells,sizeOf,typeInfo,h3,h5,hn0,storeCells,hl,goInt]
    have hput:put xs k []=xs:=by simp [put]
    simp only [execOp,resolve,invoke,builtin,Sem.run_bind,Sem.run_pure,Result.andThen_ok,List.map_toArray,List.map_cons,List.map_nil,hA.ev hx,hA.ev hy,hrun,Oper.upon]
    refine hK _ _ ⟨by rw [hn0];rfl,?_⟩
    rw [hput] at hrp
    exact hH.conv hrp fun F hF=>hF
  · obtain ⟨hod,hkc⟩:=hod h0
    obtain ⟨R,p,_⟩:=hrp.split
    obtain ⟨F,hF⟩:=hH.sat (p.symm.subset (List.mem_cons_self))
    rcases hF with ⟨rfl,rfl,rfl,rfl,_⟩| ⟨b,spare,rfl,g2,g3,g4,g5,g6,g7⟩
    · simp at hk;omega
    have hod':od=some ⟨b,k,none⟩:=by
      rw [hod]
      simp [kZ,show cap≠k by omega,Addr.add]
      exact fun h=>h.symm
    subst hod'
    obtain ⟨bx,offx,rfl⟩:=hr.1 h0
    have hload:(loadCells (⟨bx,offx,none⟩:Addr) news.length).run P w= .ok news.toArray w:=run_loadCells_list (P:=P) w _ news (fun j v hj=>by
      rw [qV];exact hr.2 j v hj)
    have hst:=run_storeCells_at (P:=P) b k e news 0 (xs++spare).toArray w g7 (by simp;omega) (fun x hx=>List.all_eq_true.1 h1 x hx)
    simp only [Nat.add_zero] at hst
    have hput:put (xs++spare) k news=put xs k news++spare:=by
      unfold put
      have e1:k≤xs.length:=by omega
      have e2:k+news.length≤xs.length:=by omega
      rw [List.take_append_of_le_length e1,List.drop_append_of_le_length e2]
      simp
    have hput':(xs++spare).take k++news++(xs++spare).drop (k+news.length)=put xs k news++spare:=hput
    have hrun:(Builtin.copy_ #[t,ty] T #[.slice (some ⟨b,k,none⟩) nd cd,.slice (some ⟨bx,offx,none⟩) m cs]).run P w= .ok (.int .i64 (Nat.min m nd)) (w.setRow b (put xs k news++spare).toArray):=by
      rw [hput'] at hst
      simp [Builtin.copy_,run_underlying ht.eq,Builtin.lenOf,Builtin.firstCells,sizeOf,typeInfo,h3,h5,←hl,hload,hst,goInt]
    simp only [execOp,resolve,invoke,builtin,Sem.run_bind,Sem.run_pure,Result.andThen_ok,List.map_toArray,List.map_cons,List.map_nil,hA.ev hx,hA.ev hy,hrun,Oper.upon]
    refine hK _ _ ⟨rfl,hH.turn hrp fun F' hF'=>?_⟩
    rcases hF' with ⟨h0,_⟩| ⟨b',spare',hb',q2,q3,q4,q5,q6,q7⟩
    · cases h0
    · obtain rfl:b=b':=by simpa using hb'
      have hsp:xs++spare=xs++spare':=by rw [g7] at q7;simpa using q7
      obtain rfl:spare=spare':=List.append_cancel_left hsp
      refine ⟨oY w b _ F' ((q2 b).2 rfl),F',.inr ⟨b,spare,rfl,q2,?_,q4,q5,?_,setRow_heap w b _ _ _ _ g7⟩,fun b hb=>.inr hb⟩
      · rw [vX (by omega)];exact q3
      · rw [vX (by omega)];exact q6
end
theorem MEMT {α:Type _} {x:α} {l:List α} (h:x∈l:=by repeat (first|exact List.Mem.head _|apply List.Mem.tail)):x∈l:=h
theorem CATST {n:Nat} {vs xs:List Value} (h:Cats n vs xs:=by repeat (first|exact Cats.nil|(apply Cats.c1;rfl)|apply Cats.c2|apply Cats.c3|apply Cats.c4)):Cats n vs xs:=h
theorem EXT {P:Program} {N:Nat} {l:List (Nat × Value)} {C:World→Prop} {o:Oper} {v:Value} (h:Ex P N l C o v:=by (first|(apply xC;rfl)|(apply wJ;rfl)|(apply ex_eql;rfl;rfl)|(apply ex_eqlB;rfl;rfl)|(apply ex_neq;rfl;rfl)|(apply ex_neqB;rfl;rfl)|(apply ex_lss;rfl;rfl)|(apply ex_leq;rfl;rfl)|(apply ex_gtr;rfl;rfl)|(apply ex_geq;rfl;rfl)|(apply aQ;rfl)|(apply kG;rfl;rfl)|(apply kH;rfl;rfl)|(apply ex_nilCheck;rfl)|(apply ex_extract;rfl;rfl)|(apply ex_not;rfl)|(apply ex_pick_t;rfl;rfl)|(apply ex_pick_f;rfl;rfl)|(apply ex_succ;rfl;rfl;omega)|(apply ex_add;rfl;rfl;unfold sM;omega)|(apply sQ;rfl;rfl;omega)|(apply ex_sub;rfl;rfl;unfold sM;omega)|(apply zE;rfl;rfl;omega;first|assumption|exact hH.own_sp MEMT)|(apply zD;rfl;rfl;omega;omega;first|assumption|exact hH.own_sp MEMT)|(apply zC;rfl;apply fZ;exact MEMT;rfl)|(apply zG;rfl;rotate_left;apply zR;exact MEMT;rfl)|(apply eU;rfl;rfl;exact MEMT)|(apply ex_lookupI;rfl;rfl;exact MEMT)|(apply kW;rfl;rfl)|(apply rV;rfl;rfl;rfl;rfl;rfl;(repeat (first|(intro _ h;exact absurd h (List.not_mem_nil))|(refine List.forall_mem_cons.2 ⟨kS _ _,?_⟩)))))):Ex P N l C o v:=h
def Szd {H:Type} (P:Program) (t:TypeId) (d:DataW H):Prop:=(d.weights P t).all (·≤reachBytes)=true
section
variable {H:Type} {enc:TypeId × Value→H} {P:Program}
theorem szd_all {e:TypeId}:∀{l:List (DataW H)},(DataW.weightsAll P e l).all (·≤reachBytes)=true→∀d∈l,Szd P e d
  | [],_,d,hd=>by simp at hd
  | x::r,h,d,hd=>by
    simp only [DataW.weightsAll,List.all_append,Bool.and_eq_true] at h
    rcases List.mem_cons.1 hd with rfl|hd
    · exact h.1
    · exact szd_all h.2 d hd
theorem Szd.slice {t e:TypeId} {elems spare:List (DataW H)} (h:Szd P t (.slice elems spare)) (ht:P.underlying t=some (.slice e)) :
    (elems.length+spare.length)*P.bytesOf e≤reachBytes∧∀d,d∈elems→Szd P e d:=by
  simp only [Szd,DataW.weights,ht,List.all_cons,List.all_append,Bool.and_eq_true,decide_eq_true_eq] at h
  exact ⟨h.1,szd_all h.2.1⟩
theorem jZ {ts:List TypeId}:∀{ts:List TypeId} {l:List (DataW H)},(DataW.weightsEach P ts l).all (·≤reachBytes)=true→∀(j:Nat) t d,ts[j]?=some t→l[j]?=some d→Szd P t d
  | [],l,_,j,t,d,ht,_=>by simp at ht
  |_::_,[],_,j,t,d,_,hd=>by simp at hd
  | t0::ts,d0::l,h,0,t,d,ht,hd=>by
    simp only [DataW.weightsEach,List.all_append,Bool.and_eq_true] at h
    obtain rfl:t0=t:=by simpa using ht
    obtain rfl:d0=d:=by simpa using hd
    exact h.1
  | t0::ts,d0::l,h,j+1,t,d,ht,hd=>by
    simp only [DataW.weightsEach,List.all_append,Bool.and_eq_true] at h
    exact jZ (ts:=[]) h.2 j t d (by simpa using ht) (by simpa using hd)

end

section
variable {H:Type} {enc:TypeId × Value→H} {P:Program} {w:World} {base:Nat} {held:Bool}
theorem add_sat (a:Addr) (h:a.spot=none) (k:Nat):a.add k=sat (some a) k:=by
  obtain ⟨b,off,spot⟩:=a
  obtain rfl:spot=none:=h
  simp only [sat,mF,gM,Addr.add]
  split<;>simp_all
end
def exI {α:Type} (f:α→It):It where
  sat w F:=∃x,(f x).sat w F
  loc:=fun ⟨x,h⟩ he=>⟨x,(f x).loc h he⟩
  lt:=fun ⟨x,h⟩ b hb=>(f x).lt h b hb
  ext:=fun ⟨x,h⟩ he=>⟨x,(f x).ext h he⟩
def facI (p:Prop) (it:It):It where
  sat w F:=p∧it.sat w F
  loc:=fun ⟨hp,h⟩ he=>⟨hp,it.loc h he⟩
  lt:=fun ⟨_,h⟩ b hb=>it.lt h b hb
  ext:=fun ⟨hp,h⟩ he=>⟨hp,it.ext h he⟩
theorem HS.exI_open {α:Type} {f:α→It} {w0 w:World} {M:Nat→Prop} {H:List It} (h:HS w0 M (exI f::H) w):∃x,HS w0 M (f x::H) w:=by
  obtain ⟨hk,F,⟨F1,F2,hF,hd,⟨x,h1⟩,h2⟩,ho⟩:=h
  exact ⟨x,hk,F,⟨F1,F2,hF,hd,h1,h2⟩,ho⟩
theorem HS.exI_shut {α:Type} {f:α→It} {w0 w:World} {M:Nat→Prop} {H:List It} (x:α) (h:HS w0 M (f x::H) w):HS w0 M (exI f::H) w:=by
  obtain ⟨hk,F,⟨F1,F2,hF,hd,h1,h2⟩,ho⟩:=h
  exact ⟨hk,F,⟨F1,F2,hF,hd,⟨x,h1⟩,h2⟩,ho⟩
theorem HS.facI_open {p:Prop} {it:It} {w0 w:World} {M:Nat→Prop} {H:List It} (h:HS w0 M (facI p it::H) w):p∧HS w0 M (it::H) w:=by
  obtain ⟨hk,F,⟨F1,F2,hF,hd,⟨hp,h1⟩,h2⟩,ho⟩:=h
  exact ⟨hp,hk,F,⟨F1,F2,hF,hd,h1,h2⟩,ho⟩
theorem HS.facI_shut {p:Prop} {it:It} {w0 w:World} {M:Nat→Prop} {H:List It} (hp:p) (h:HS w0 M (it::H) w):HS w0 M (facI p it::H) w:=by
  obtain ⟨hk,F,⟨F1,F2,hF,hd,h1,h2⟩,ho⟩:=h
  exact ⟨hk,F,⟨F1,F2,hF,hd,⟨hp,h1⟩,h2⟩,ho⟩

theorem HS.own_block {w0 w:World} {M:Nat→Prop} {H:List It} {T sz n cap:Nat} {o:Option Addr} {xs:List Value} (h:HS w0 M (own T sz o n cap xs::H) w) (hc:0<cap) :
    ∃b spare,o=some (bat b 0)∧n≤cap∧cap≤maxLen∧xs.length=n*sz∧xs.length+spare.length=cap*sz∧HS w0 M (cb b T (xs++spare)::H) w:=by
  obtain ⟨F0,hF0⟩:=h.sat (List.mem_cons_self ..)
  rcases hF0 with ⟨_,_,rfl,_⟩| ⟨b,spare,rfl,g2,g3,g4,g5,g6,g7⟩
  · omega
  refine ⟨b,spare,rfl,g4,g5,g3,g6,h.conv Rp.here fun F hF=>?_⟩
  rcases hF with ⟨h0,_⟩| ⟨b',spare',hb',q2,q3,q4,q5,q6,q7⟩
  · cases h0
  · obtain rfl:b=b':=by simpa using hb'
    exact ⟨q2,g7⟩
theorem HS.block_own {w0 w:World} {M:Nat→Prop} {H:List It} {T sz n cap b:Nat} {xs spare:List Value} (h:HS w0 M (cb b T (xs++spare)::H) w) (h1:xs.length=n*sz) (h2:n≤cap) (h3:cap≤maxLen) (h4:xs.length+spare.length=cap*sz) :
    HS w0 M (own T sz (some (bat b 0)) n cap xs::H) w:=
  h.conv Rp.here fun F ⟨q1,q2⟩=>.inr ⟨b,spare,rfl,q1,h1,h2,h3,h4,q2⟩
theorem subO_bat (b k c i sz:Nat):kZ (some (bat b k)) c i sz=some (bat b (if c=i then k else k+i*sz)):=by
  unfold kZ bat
  split
  · rfl
  · simp [Addr.add]
theorem qL {A B C V:List Value} {k:Nat} (hk:k=A.length) (h:B.length=V.length):put (A++(B++C)) k V=A++(V++C):=by
  subst hk
  unfold put
  rw [List.take_append_of_le_length (Nat.le_refl _),List.take_length,←h,←List.append_assoc A B C,show A.length+B.length=(A++B).length by simp,List.drop_append_of_le_length (Nat.le_refl _),List.drop_length]
  simp
theorem mU {A x B R:List Value}:((A++(x++(B++R))).drop (A.length+x.length)).take B.length=B:=by
  rw [←List.append_assoc,show A.length+x.length=(A++x).length by simp,List.drop_append_of_le_length (Nat.le_refl _),List.drop_length]
  simp
theorem dM {A v B sp1 sp2:List Value} (hv:v.length=sp1.length):put (put (A++(B++(sp1++sp2))) (A.length+v.length) B) A.length v=(A++(v++B))++sp2:=by
  have e1:A++(B++(sp1++sp2))=(A++(B++sp1).take v.length)++((B++sp1).drop v.length++sp2):=by
    rw [List.append_assoc,←List.append_assoc ((B++sp1).take _),List.take_append_drop,List.append_assoc]
  rw [e1,qL (by simp;omega) (by simp;omega),List.append_assoc A,qL rfl (by simp;omega)]
  simp
theorem bat_sat (b k j:Nat):sat (some (bat b k)) j=bat b (k+j):=rfl
theorem HS.cb_rd {w0 w:World} {M:Nat→Prop} {H:List It} {b T:Nat} {cs:List Value} (h:HS w0 M H w) (hm:cb b T cs∈H) (k:Nat):Rd w (some (bat b k)) (cs.drop k):=by
  obtain ⟨F,hF⟩:=h.sat hm
  refine ⟨fun _=>⟨b,k,rfl⟩,fun j u hj=>?_⟩
  rw [bat_sat]
  rw [List.getElem?_drop] at hj
  have:=tV hF.2 (k+j)
  unfold bat
  rw [this]
  simpa using hj

theorem HS.cb_news {w0 w:World} {M:Nat→Prop} {H:List It} {b T k m:Nat} {cs:List Value} (h:HS w0 M H w) (hm:cb b T cs∈H):∀j u,((cs.drop k).take m)[j]?=some u→w.cell? ((bat b k).add j)=some u:=by
  intro j u hj
  have hjl:=(List.getElem?_eq_some_iff.1 hj).1
  rw [List.length_take] at hjl
  rw [List.getElem?_take_of_lt (by omega)] at hj
  rw [bat_add]
  exact (h.cb_rd hm k).2 j u hj
theorem Rd.news {w:World} {a:Addr} {xs:List Value} (h:Rd w (some a) xs):∀j u,xs[j]?=some u→w.cell? (a.add j)=some u:=by
  intro j u hj
  obtain ⟨b,off,hb⟩:=h.1 (by have:=(List.getElem?_eq_some_iff.1 hj).1;omega)
  obtain rfl:a=⟨b,off,none⟩:=by simpa using hb
  rw [qV]
  exact h.2 j u hj

section
variable {P:Program} {N:Nat} {l:List (Nat × Value)} {C:World→Prop} {d:Option Tmp} {T:TypeId} {pos:String} {af:Array Edge} {g:Option (Nat × Bool)}
theorem yM {t e sz by_ k n c b k0 q:Nat} {z:Value} {zs:List Value} {x y:Operand} {kd:IntKind} {m:Int} [ht:TSl P t e] [hi:TIf P e z zs sz by_]
    (hx:ev l x=some (.slice (some (bat b k0)) n c)) (hy:ev l y=some (.int kd m)) (hk:m=(k:Int)) (hkn:k≤n) (hq:(if c=k then k0 else k0+k*sz)=q):Ex P N l C ⟨d,.slice t x (some y) none none,T,pos,af,g⟩ (.slice (some (bat b q)) (n - k) (c - k)):=by
  have:=rO (P:=P) (N:=N) (l:=l) (C:=C) (d:=d) (T:=T) (pos:=pos) (af:=af) (g:=g) (ht:=ht) (hi:=hi) hx hy hk hkn
  rw [subO_bat,hq] at this
  exact this
theorem sW {t e ty:TypeId} {x y:Operand} {o:Option Addr} {n c:Nat} [ht:TSl P t e] (hx:ev l x=some (.slice o n c)) (hy:ev l y=some (.slice none 0 0)):Ex P N l C ⟨d,.binOp .eql t x y ty,T,pos,af,g⟩ (.bool o.isNone):=by
  intro a w hA _
  simp [execOp,hA.ev hx,hA.ev hy,eqGuard_at_slice,binOp,run_equal_slice_nil w t e o n c ht.eq]
theorem ex_max {ats:Array TypeId} {x y:Operand} {k k':IntKind} {m n:Int} (hx:ev l x=some (.int k m)) (hy:ev l y=some (.int k' n)):Ex P N l C ⟨d,.call ⟨.builtin .max,#[x,y],ats⟩,T,pos,af,g⟩ (.int k (if n > m then n else m)):=by
  intro a w hA _
  simp [execOp,resolve,invoke,builtin,hA.ev hx,hA.ev hy,run_max_int2]

theorem mQ {t tn e sz by_ n cap k:Nat} {kd:IntKind} {z:Value} {zs:List Value} {a0:Addr} {x y:Operand} {xs:List Value} {mk:Int} {w0 w:World} {M:Nat→Prop} {H:List It} [ht:TSl P t e] [hi:TIf P e z zs sz by_] [hn:TIn P tn kd]
    (hx:ev l x=some (.slice (some a0) n cap)) (hy:ev l y=some (.int .i64 mk)) (hmk:mk=(k:Int)) (hH:HS w0 M H w) (holds:∀j u,xs[j]?=some u→w.cell? (a0.add j)=some u) (hlo:xs.length=n*sz)
    (hzs0:zs.length=sz) (hsz:0<sz) (hgrow:cap<n+k) (h63:n+k≤maxLen) (hby:(n+k)*by_≤140737488355328) (hnc:n≤cap) :
    Op1 P N l ⟨d,.call ⟨.builtin .append,#[x,y],#[t,tn]⟩,T,pos,af,g⟩ w (fun v w'=>∃o' cap' rest,v= .slice o' (n+k) cap'∧rest.length=k*sz∧HS w0 M (own e sz o' (n+k) cap' (xs++rest)::H) w'):=by
  intro a hA K Q hK
  subst hmk
  obtain ⟨ti,h3,h4,h5,h6⟩:=hi.eq
  have hzs:z.cells.size=sz:=by rw [←hzs0,←hi.zc];simp
  subst h5;subst h6
  have hm63:n+k≤9223372036854775807:=by simp only [maxLen] at h63;omega
  have hge:=grownCap_ge w (n+k) cap e
  have hcm:grownCap w (n+k) cap e≤maxLen:=grownCap_le_maxLen w (n+k) cap e h63
  have hfit:Builtin.nextslicecap (n+k) cap*ti.bytes≤281474976710656:=growslice_fits (by omega) hby
  have hwk:IntKind.i64.wrap (k:Int)=k:=vB ⟨by omega,by omega⟩
  have hk0:¬(k*ti.size=0):=by
    have:0<k:=by omega
    exact Nat.ne_of_gt (Nat.mul_pos this hsz)
  have hkb:¬(281474976710656<(k:Int)* (ti.bytes:Int)):=by
    have h1:k*ti.bytes≤(n+k)*ti.bytes:=Nat.mul_le_mul_right _ (by omega)
    rw [←Int.natCast_mul]
    omega
  have hng:¬(n+k≤cap):=by omega
  have h63':¬(9223372036854775807<((n:Int)+(k:Int))):=by omega
  have h48':¬(281474976710656<Builtin.nextslicecap (n+k) cap*ti.bytes):=by omega
  have hfo:=run_firstCells_some (P:=P) w.drew ti.size n a0 n cap xs hlo (by simpa using holds)
  have hrun:(Builtin.append_ #[t,tn] T #[.slice (some a0) n cap,.int .i64 (k:Int)]).run P w =
      .ok (.slice (some ⟨w.heap.size,0,none⟩) (n+k) (grownCap w (n+k) cap e)) (w.drew.alloc (.cells (xs.toArray++Builtin.zeroCells z.cells k++Builtin.zeroCells z.cells (grownCap w (n+k) cap e - (n+k))) e)):=by
    simp [Builtin.append_,run_underlying ht.eq,run_underlying hn.eq,sizeOf,typeInfo,zeroValue,h3,h4,asInt,asIntOf,hwk,hkb,hk0,hng,h63',h48',Question.forced,hfo,newRow,grownCap,show ¬((k:Int)<0) by omega]
  unfold Oper.wp
  simp only [execOp,resolve,invoke,builtin,Sem.run_bind,Sem.run_pure,Result.andThen_ok,List.map_toArray,List.map_cons,List.map_nil,hA.ev hx,hA.ev hy,hrun,Oper.upon]
  have hc:=hH.drew.come_own e ti.size (n+k) (grownCap w (n+k) cap e) (xs++(Builtin.zeroCells z.cells k).toList) (Builtin.zeroCells z.cells (grownCap w (n+k) cap e - (n+k))).toList (by rw [List.length_append,hlo,Array.length_toList,size_zeroCells,hzs,Nat.add_mul]) hge hcm (by
    rw [List.length_append,hlo,Array.length_toList,size_zeroCells,hzs,←Nat.add_mul,Array.length_toList,size_zeroCells,hzs,←Nat.add_mul]
    congr 1
    omega)
  refine hK _ _ ⟨_,_,(Builtin.zeroCells z.cells k).toList,rfl,by rw [Array.length_toList,size_zeroCells,hzs],?_⟩
  have e1:(xs++(Builtin.zeroCells z.cells k).toList++(Builtin.zeroCells z.cells (grownCap w (n+k) cap e - (n+k))).toList).toArray=xs.toArray++Builtin.zeroCells z.cells k++Builtin.zeroCells z.cells (grownCap w (n+k) cap e - (n+k)):=by
    apply Array.ext'
    simp
  rw [e1] at hc
  exact hc

theorem vK {t e sz by_ m nd cd cs k b:Nat} {z:Value} {zs:List Value} {ad:Addr} {x y:Operand} {cells news:List Value} {ty:TypeId} {w0 w:World} {M:Nat→Prop} {H H':List It} [ht:TSl P t e] [hi:TIf P e z zs sz by_]
    (hx:ev l x=some (.slice (some (bat b k)) nd cd)) (hy:ev l y=some (.slice (some ad) m cs)) (hH:HS w0 M H w) (hnews:∀j u,news[j]?=some u→w.cell? (ad.add j)=some u) (hl:news.length=Nat.min m nd*sz)
    (h1:news.all (·.oneCell')=true) (hk:k+news.length≤cells.length) (hr:Rp H (cb b e cells) (cb b e (put cells k news)) H') :
    Op1 P N l ⟨d,.call ⟨.builtin .copy,#[x,y],#[t,ty]⟩,T,pos,af,g⟩ w (fun v w'=>v= .int .i64 (Nat.min m nd)∧HS w0 M H' w'):=by
  intro a hA K Q hK
  obtain ⟨ti,h3,h4,h5,h6⟩:=hi.eq
  obtain ⟨R,p,_⟩:=hr.split
  obtain ⟨F,hF1,hF2⟩:=hH.sat (p.symm.subset (List.mem_cons_self))
  have hload:(loadCells ad news.length).run P w= .ok news.toArray w:=run_loadCells_list (P:=P) w ad news hnews
  have hst:=run_storeCells_at (P:=P) b k e news 0 cells.toArray w hF2 (by simpa using hk) (fun x hx=>List.all_eq_true.1 h1 x hx)
  simp only [Nat.add_zero] at hst
  have hrun:(Builtin.copy_ #[t,ty] T #[.slice (some ⟨b,k,none⟩) nd cd,.slice (some ad) m cs]).run P w= .ok (.int .i64 (Nat.min m nd)) (w.setRow b (put cells k news).toArray):=by
    simp [Builtin.copy_,run_underlying ht.eq,Builtin.lenOf,Builtin.firstCells,sizeOf,typeInfo,h3,h5,←hl,hload,hst,goInt,put]
  unfold Oper.wp
  have e0:(some (bat b k):Option Addr)=some ⟨b,k,none⟩:=rfl
  simp only [execOp,resolve,invoke,builtin,Sem.run_bind,Sem.run_pure,Result.andThen_ok,List.map_toArray,List.map_cons,List.map_nil,hA.ev hx,hA.ev hy,e0,hrun,Oper.upon]
  exact hK _ _ ⟨rfl,hH.turn hr fun F' hF'=>⟨oY w b _ F' ((hF'.1 b).2 rfl),F',⟨hF'.1,setRow_heap w b _ _ _ _ hF2⟩,fun b hb=>.inr hb⟩⟩

theorem HS.cb_ne {w0 w:World} {M:Nat→Prop} {H:List It} {b1 b2 T1 T2:Nat} {c1 c2:List Value} (h:HS w0 M (cb b1 T1 c1::cb b2 T2 c2::H) w):b1≠b2:=by
  obtain ⟨hk,F,⟨F1,F2,hF,hd,h1,⟨F3,F4,hG,hd',h3,h4⟩⟩,ho⟩:=h
  rintro rfl
  exact hd b1 ((h1.1 b1).2 rfl) ((hG b1).2 (.inl ((h3.1 b1).2 rfl)))
theorem kR {f:FuncId} {fn:Func} {t tR e sz by_ b1 k1 la ca b2 k2 lb cb_ T1 T2:Nat} {z:Value} {zs:List Value} {x y:Operand} {c1 c2:List Value} {ats:Array TypeId} {w0 w:World} {M:Nat→Prop} {H:List It} [ht:TSl P t e] [hi:TIf P e z zs sz by_]
    (hf:P.funcs[f]?=some fn) (hname:(fn.name == "runtime.NumGoroutine")=false) (hb:fn.body.isNone=true) (hn:Extern.findNext fn=none) (he:Extern.find fn=some (Extern.SlicesOverlaps.overlaps #[t,t] #[tR]))
    (hx:ev l x=some (.slice (some (bat b1 k1)) la ca)) (hy:ev l y=some (.slice (some (bat b2 k2)) lb cb_)) (hH:HS w0 M H w) (h1:cb b1 T1 c1∈H) (h2:cb b2 T2 c2∈H) (hne:b1≠b2) (hc2:c2.length≠0) :
    Op1 P N l ⟨d,.call ⟨.value (.func f),#[x,y],ats⟩,T,pos,af,g⟩ w (fun v w'=>v= .bool false∧w'=w):=by
  intro a hA K Q hK
  obtain ⟨ti,h3,h4,h5,h6⟩:=hi.eq
  obtain ⟨F1,q1,q2⟩:=hH.sat h1
  obtain ⟨F2,q3,q4⟩:=hH.sat h2
  have hz:∀w,(Go.sizeOf e).run P w= .ok sz w:=fun w=>by simp [sizeOf,typeInfo,h3,h5]
  have hov:=Go.Lib.run_overlaps_apart (P:=P) w t tR e ht.eq sz hz (bat b1 k1) (bat b2 k2) la ca lb cb_ hne T1 T2 c1.length c2.length (by simp [World.shape?,bat,q2]) (by simp [World.shape?,bat,q4]) hc2 (by simp [World.frozen?,bat,q2]) (by simp [World.frozen?,bat,q2])
  have hcall:(callFunc f #[.slice (some (bat b1 k1)) la ca,.slice (some (bat b2 k2)) lb cb_]).run P w= .ok (.value (.bool false)) w:=by
    rw [run_callFunc_extern hf hname hb hn he,hov]
    rfl
  have hfe:a.eval (.func f)= .func (.func f) #[] #[]:=rfl
  unfold Oper.wp
  simp only [execOp,resolve,hfe,Deferred.ofValue,Sem.run_bind,Sem.run_pure,Result.andThen_ok,List.map_toArray,List.map_cons,List.map_nil,hA.ev hx,hA.ev hy,invoke,Array.append_empty,Array.empty_append,hcall,Oper.upon]
  exact hK _ _ ⟨rfl,rfl⟩
end
def shlK (k:IntKind) (m n:Int):Int:=k.wrap (m*2 ^ (min n.toNat k.bits))
theorem made_flatN {α:Type} {enc:α→List Value} {z:Value} {zs:List Value} {x:α} {sz:Nat} (henc:∀x,(enc x).length=sz) (hz:z.cells.toList=zs) (he:enc x=zs) (hsz:0<sz) (n:Nat):(madeCells z.cells (n*sz)).toList.take (n*sz)=flat enc (List.replicate n x):=by
  have hs:z.cells.size=sz:=by rw [←henc x,he,←hz];simp
  rw [List.take_of_length_le (by simp [size_madeCells])]
  apply List.ext_getElem?
  intro i
  by_cases hi:i<n*sz
  · have hm:i % sz<sz:=Nat.mod_lt _ hsz
    have hd:i / sz<n:=by
      rw [Nat.div_lt_iff_lt_mul hsz]
      exact hi
    obtain ⟨v,hv⟩:∃v,(enc x)[i % sz]?=some v:=⟨_,List.getElem?_eq_getElem (by rw [henc];exact hm)⟩
    have h1:=yZ henc (l:=List.replicate n x) (i:=i / sz) (off:=i % sz) (x:=x) (by simp [hd]) hv
    rw [show i / sz*sz+i % sz=i by rw [Nat.mul_comm];exact Nat.div_add_mod i sz] at h1
    rw [h1]
    rw [he,←hz] at hv
    have h2:i % z.cells.size<z.cells.size:=by rw [hs];exact hm
    have h3:z.cells[i % sz]?=some v:=by simpa using hv
    simp only [madeCells,Array.toList_map,Array.toList_range]
    rw [List.getElem?_map,List.getElem?_range hi,Option.map_some,hs]
    rw [getElem!_def,h3]
  · have h1:(flat enc (List.replicate n x)).length=n*sz:=by rw [zF henc,List.length_replicate]
    rw [List.getElem?_eq_none (by rw [Array.length_toList,size_madeCells];omega),List.getElem?_eq_none (by omega)]
section
variable {P:Program} {N:Nat} {l:List (Nat × Value)} {C:World→Prop} {d:Option Tmp} {T:TypeId} {pos:String} {af:Array Edge} {g:Option (Nat × Bool)}
theorem op_make {α:Type} (enc:α→List Value) (x0:α) {t e sz by_:Nat} {z:Value} {zs:List Value} {x y:Operand} {kl kc:IntKind} {n:Nat} {m m':Int} {w0 w:World} {M:Nat→Prop} {H:List It} [ht:TSl P t e] [hi:TIf P e z zs sz by_]
    (hx:ev l x=some (.int kl m)) (hy:ev l y=some (.int kc m')) (hm:m=(n:Int)) (hm':m'=(n:Int)) (hc:n≤maxLen) (hb:by_* n≤140737488355328) (henc:∀x,(enc x).length=sz) (he:enc x0=zs) (hsz:0<sz) (hH:HS w0 M H w) :
    Op1 P N l ⟨d,.makeSlice t x y,T,pos,af,g⟩ w (fun v w'=>∃o,v= .slice o n n∧HS w0 M (own e sz o n n (flat enc (List.replicate n x0))::H) w'):=by
  subst hm;subst hm'
  have:=mP (P:=P) (N:=N) (l:=l) (d:=d) (T:=T) (pos:=pos) (af:=af) (g:=g) (t:=t) (e:=e) hx hy (Nat.le_refl n) hc hb hH
  rw [made_flatN henc hi.zc he hsz] at this
  exact this
theorem ex_shl {t ty:TypeId} {x y:Operand} {k k2:IntKind} {m n v:Int} (hx:ev l x=some (.int k m)) (hy:ev l y=some (.int k2 n)) (hn:0≤n) (hv:shlK k m n=v):Ex P N l C ⟨d,.binOp .shl t x y ty,T,pos,af,g⟩ (.int k v):=by
  intro a w hA _
  subst hv
  simp only [execOp,hA.ev hx,hA.ev hy,eqGuard_at_int,binOp_shl]
  simp [Op.shift,shlK,show ¬n<0 by omega]
theorem zI {t sz by_:Nat} {z:Value} {zs:List Value} {fl:List (Nat × Nat)} {ps:Array (Nat × Operand)} {vs:List Value} (cs:Array Value) [h:TSt P t fl] [hi:TIf P t z zs sz by_]
    (hv:evL l (ps.toList.map (·.2))=some vs) (hsz:∀p∈fl,∃i,P.info? p.1=some i∧i.size=1) (hf:Instr.fill ((fl.map (fun p=>(p.2,1)))[·]?) zs.toArray ((ps.toList.map (·.1)).zip vs)=some cs) :
    Ex P N l C ⟨d,.build t ps,T,pos,af,g⟩ (.agg cs):=by
  have hrun:∀(fl:List (Nat × Nat)) (w:World),(∀p∈fl,∃i,P.info? p.1=some i∧i.size=1)→(fl.mapM (fun p=>do pure (p.2,←sizeOf p.1)):Sem (List (Nat × Nat))).run P w= .ok (fl.map (fun p=>(p.2,1))) w:=by
    intro fl w
    induction fl with
    |nil=>intro _;simp
    | cons p fl ih=>
      intro hp
      obtain ⟨i,hi1,hi2⟩:=hp p (by simp)
      have:=ih fun q hq=>hp q (by simp [hq])
      simp only [List.mapM_cons,Sem.run_bind,sizeOf,typeInfo,run_program,Result.andThen_ok,hi1,Sem.run_pure,hi2] at this ⊢
      rw [this]
      simp
  have hzc:z.cells=zs.toArray:=by apply Array.ext';simpa using hi.zc
  exact xJ (szs:=fl.map (fun p=>(p.2,1))) (fun w=>hrun fl w hsz) hv (by rw [hzc];exact hf)
end
section
variable {P:Program} {ops:Array Oper} {S:World→Prop} {Q:Exit→Act→World→Prop} {K:Act→World→Prop} {k:Array Bool→Bool} {m:Nat}
end
theorem Op1.mono {P:Program} {N:Nat} {l:List (Nat × Value)} {o:Oper} {w:World} {R R':Value→World→Prop} (h:Op1 P N l o w R) (hr:∀v w',R v w'→R' v w'):Op1 P N l o w R':=
  fun a hA K Q hK=>h a hA K Q fun v w' h'=>hK v w' (hr v w' h')

section
variable {P:Program} {N:Nat} {l:List (Nat × Value)} {Ds:List Deferred} {ops:Array Oper} {Q:Exit→Act→World→Prop} {K:Act→World→Prop} {w0:World} {M:Nat→Prop} {H:List It}
end
section
variable {P:Program} {N:Nat} {l:List (Nat × Value)} {a:Act} {Ds:List Deferred} {w:World} {ops:Array Oper} {S:World→Prop} {Q:Exit→Act→World→Prop} {K:Act→World→Prop} {i:Nat} {π:List (Nat × Nat)}
end
theorem then_mono {K R:Act→World→Prop} {Q:Exit→Act→World→Prop} (k:∀a w,R a w→K a w):∀e a w,Exit.then R Q e a w→Exit.then K Q e a w:=by
  intro e a w h
  cases e with
  |normal=>exact k _ _ h
  |_=>exact h
section
variable {P:Program} {N:Nat} {l:List (Nat × Value)} {C:World→Prop} {d:Option Tmp} {T:TypeId} {pos:String} {af:Array Edge} {g:Option (Nat × Bool)}
theorem ex_eqlPn {t ty:TypeId} {x y:Operand} {p:Option Addr} [h:TPt P t] (hx:ev l x=some (.pointer p)) (hy:ev l y=some (.pointer none)):Ex P N l C ⟨d,.binOp .eql t x y ty,T,pos,af,g⟩ (.bool p.isNone):=by
  intro a w hA _
  simp [execOp,hA.ev hx,hA.ev hy,eqGuard_at_pointer,run_eql_pointer_nil w t p h.eq]
theorem ex_neqPn {t ty:TypeId} {x y:Operand} {p:Option Addr} [h:TPt P t] (hx:ev l x=some (.pointer p)) (hy:ev l y=some (.pointer none)):Ex P N l C ⟨d,.binOp .neq t x y ty,T,pos,af,g⟩ (.bool (!p.isNone)):=by
  intro a w hA _
  simp [execOp,hA.ev hx,hA.ev hy,eqGuard_at_pointer,run_neq_pointer_nil w t p h.eq]
theorem ex_eqlPt {t ty:TypeId} {x y:Operand} [h:TPt P t] (hx:ev l x=some (.pointer none)) (hy:ev l y=some (.pointer none)):Ex P N l C ⟨d,.binOp .eql t x y ty,T,pos,af,g⟩ (.bool true):=ex_eqlPn (h:=h) hx hy
theorem ex_eqlPf {t ty:TypeId} {x y:Operand} {p:Addr} [h:TPt P t] (hx:ev l x=some (.pointer (some p))) (hy:ev l y=some (.pointer none)):Ex P N l C ⟨d,.binOp .eql t x y ty,T,pos,af,g⟩ (.bool false):=ex_eqlPn (h:=h) hx hy
theorem fH {t ty:TypeId} {x y:Operand} [h:TPt P t] (hx:ev l x=some (.pointer none)) (hy:ev l y=some (.pointer none)):Ex P N l C ⟨d,.binOp .neq t x y ty,T,pos,af,g⟩ (.bool false):=ex_neqPn (h:=h) hx hy
theorem fG {t ty:TypeId} {x y:Operand} {p:Addr} [h:TPt P t] (hx:ev l x=some (.pointer (some p))) (hy:ev l y=some (.pointer none)):Ex P N l C ⟨d,.binOp .neq t x y ty,T,pos,af,g⟩ (.bool true):=ex_neqPn (h:=h) hx hy
end
theorem inB_mono {id:Nat} {Q Q':Exit→Act→World→Prop} (h:∀e a w,Q e a w→Q' e a w):∀e a w,Exit.inBlock id Q e a w→Exit.inBlock id Q' e a w:=by
  intro e a w he
  cases e<;>simp only [Exit.inBlock] at he ⊢<;>first|exact h _ _ _ he|(split at he<;>rename_i hc<;>simp only [hc]<;>exact h _ _ _ he)
theorem oW {P:Program} {ops:Array Oper} {ls:List Oper} {a:Act} {w:World} {c2:Code} {K:Act→World→Prop} {Q:Exit→Act→World→Prop} (R:Act→World→Prop)
    (h:wpList P ops (Exit.then (c2.wp P (Exit.then R Q)) (Exit.then R Q)) ls a w) (k:∀a w,R a w→K a w):wpList P ops (Exit.then (c2.wp P (Exit.then K Q)) (Exit.then K Q)) ls a w:=by
  induction ls generalizing a w with
  |nil=>exact Code.wp_mono (then_mono k) (show c2.wp P (Exit.then R Q) a w from h)
  | cons o rest ih=>
    unfold wpList at h ⊢
    split
    · rename_i hw
      rw [if_pos hw] at h
      rcases h with h| ⟨h1,h2⟩
      · refine .inl (Oper.wp_mono (K:=wpList P ops (Exit.then (c2.wp P (Exit.then R Q)) (Exit.then R Q)) rest) (fun a w h=>ih h) ?_)
        unfold Oper.wp at *
        generalize (execOp a.eval o).run P w=r at *
        cases r with
        |ok n w'=>cases n<;>simp only [Oper.upon] at h ⊢<;>exact h
        |halt x w'=>cases x<;>simp only [Oper.upon] at h ⊢<;>exact h
      · exact .inr ⟨h1,by obtain ⟨a',w3,h3⟩:=h2;exact ⟨a',w3,h3⟩⟩
    · rename_i hw
      rw [if_neg hw] at h
      exact ih h
theorem HS.all_out {w0 w:World} {M:Nat→Prop} {A B H:List It} {x:It} (h:HS w0 M (all (A++x::B)::H) w):HS w0 M (x::all (A++B)::H) w:=by
  have h1:HS w0 M ((A++x::B)++H) w:=h.open_
  have h2:HS w0 M ((A++B)++x::H) w:=h1.perm (by
    have e1:(A++x::B++H).Perm (x::(A++B)++H):=(List.perm_middle).append_right H
    have e2:(x::(A++B)++H).Perm ((A++B)++x::H):=(List.perm_middle (l₁:=A++B)).symm
    exact e1.trans e2)
  exact h2.shut.perm (.swap _ _ _)
theorem HS.all_in {w0 w:World} {M:Nat→Prop} {A B H:List It} {x:It} (h:HS w0 M (x::all (A++B)::H) w):HS w0 M (all (A++x::B)::H) w:=by
  have h1:HS w0 M (all (A++B)::x::H) w:=h.perm (.swap _ _ _)
  have h2:HS w0 M ((A++B)++x::H) w:=h1.open_
  refine HS.shut (h2.perm ?_)
  have e1:((A++B)++x::H).Perm (x::(A++B)++H):=List.perm_middle (l₁:=A++B)
  have e2:(x::(A++B)++H).Perm (A++x::B++H):=(List.perm_middle.symm).append_right H
  exact e1.trans e2
section
variable {w0 w:World} {M:Nat→Prop} {p q r:It}
end
theorem yK {P:Program} {a:Act} {w:World} {id:Nat} {Q0:Exit→Act→World→Prop} {c:Code} {S:Type} (I:S→Act→World→Prop) (μ:S→Nat) (R:Act→World→Prop) (s:S) (h₀:I s a w)
    (round:∀s a w,I s a w→c.wp P (Exit.then (fun a' w'=>∃s',I s' a' w'∧μ s'<μ s) (Exit.inBlock id (Exit.then R Q0))) a w) (k:∀a w,R a w→Q0 .normal a w):(Code.loop c).wp P (Exit.inBlock id Q0) a w:=
  Code.wp_mono (inB_mono (fun e a w he=>by
    cases e with
    |normal=>exact k _ _ he
    |_=>exact he)) (wp_lp I μ s h₀ round)
structure Wr (p:Prop):Prop where
  out:p
theorem EXT2 {P:Program} {N:Nat} {l:List (Nat × Value)} {C:World→Prop} {o:Oper} {v:Value} (h:Ex P N l C o v:=by
  first
  |(apply zC;rfl;exact cl_w (by assumption) id)
  |(apply zC;rfl;exact xP (by assumption) id (by assumption))
  |(apply zC;rfl;apply uD;exact MEMT;assumption)
  |(apply zG;rfl;rotate_left;exact yV (by assumption) id (by assumption);rfl)
  |(apply ex_eqlPf;rfl;rfl)
  |(apply ex_eqlPt;rfl;rfl)
  |(apply fG;rfl;rfl)
  |(apply fH;rfl;rfl)
  |(apply sW;rfl;rfl)
  |(apply ex_max;rfl;rfl)
  |(apply ex_rem;rfl;rfl;first|decide|omega)
  |(apply ex_quo;rfl;rfl;first|decide|omega)):Ex P N l C o v:=h
theorem STT {p:Prop} (h:p:=by first|exact hH.drop_|exact hH.pick MEMT|exact hH):p:=h
theorem FA {G:Prop} (h:G:=by
  first
  |(exfalso;have h1:=of_decide_eq_true hg;omega)
  |(exfalso;have h1:=of_decide_eq_false hg;omega)
  |exact absurd hg (by decide)):G:=h
theorem QT {G G':Prop} (k:G') (h:Wr G'→G:=by
  intro k
  first
  |(apply mM hA hH rfl rfl (by decide);(first|exact EXT|exact EXT2);exact k.out)
  |(apply st_skip hA rfl rfl (by decide);exact k.out)
  |((first|apply fX hA rfl rfl rfl (by decide)|apply kK hA rfl rfl rfl (by decide)|apply kL hA hH rfl rfl rfl (by decide));(first|exact EXT|exact EXT2);exact k.out)
  |((first|apply lH hA rfl rfl rfl (by decide)|apply pU hA rfl rfl rfl (by decide));exact k.out)):G:=h ⟨k⟩
theorem GT {G G1 G2:Prop} (k1:G1) (k2:G2) (h:Wr G1→Wr G2→G:=by
  intro k1 k2
  first
  |(apply st_exb hA hH rfl rfl (by decide) rfl (xC rfl);exact k1.out;exact k2.out)
  |(apply fW hA rfl rfl rfl (by decide) rfl (xC rfl);exact k1.out;exact k2.out)):G:=h ⟨k1⟩ ⟨k2⟩
theorem CT {G G':Prop} (k:G') (h:Wr G'→G:=by
  intro k
  first|apply wp_seq|apply wp_region_lit|apply st_nil|apply kN|apply wp_block|apply dA hA rfl|apply dB hA rfl|apply wp_ret|apply wp_skip|apply wp_exit|apply then_ret|apply eY|apply gW|apply inB_ret|apply inB_eq|apply inB_ne rfl|apply kJ|apply nK|apply nJ|apply wp_scope_straight|apply wp_label|apply dK|apply ng_ret
  repeat (first|apply wp_seq|apply wp_region_lit|apply st_nil|apply kN|apply wp_block|apply dA hA rfl|apply dB hA rfl|apply wp_ret|apply wp_skip|apply wp_exit|apply then_ret|apply eY|apply gW|apply inB_ret|apply inB_eq|apply inB_ne rfl|apply kJ|apply nK|apply nJ|apply wp_scope_straight|apply wp_label|apply dK|apply ng_ret)
  exact k.out):G:=h ⟨k⟩
theorem DT {G G1 G2:Prop} (k1:G1) (k2:G2) (h:Wr G1→Wr G2→G:=by
  intro k1 k2
  first
  |(apply st_cond_d hA rfl;exact k1.out;exact k2.out)
  |(apply st_cond_nd hA rfl;exact k1.out;exact k2.out)
  |(apply st_cond hA rfl;exact k1.out;exact k2.out)):G:=h ⟨k1⟩ ⟨k2⟩
theorem BT {G G':Prop} (k:G') (h:Wr G'→G:=by
  intro k
  apply zH hA rfl rfl (by decide)
  (first|apply wD|(apply nX;rfl)|(apply op_box1;rfl;rfl))
  exact hH
  exact k.out):G:=h ⟨k⟩
theorem LT {G G':Prop} (k:G') (h:Wr G'→G:=by
  intro k
  apply zH hA rfl rfl (by decide)
  apply zZ
  rfl
  rfl
  exact CATST
  rfl
  rfl
  rfl
  exact hH
  exact k.out):G:=h ⟨k⟩
theorem AT {G G':Prop} (k:G') (h:Wr G'→G:=by
  intro k
  apply zH hA rfl rfl (by decide)
  apply yX
  rfl
  rfl
  exact hH
  exact MEMT
  exact hH.own_rd (List.Mem.head _)
  rfl
  rfl
  decide
  rfl
  (unfold maxLen;omega)
  omega
  exact k.out):G:=h ⟨k⟩
theorem S0T {G G':Prop} (k:G') (h:Wr G'→G:=by
  intro k
  apply zO hA rfl rfl
  (first|(apply op_store1;rfl;rfl;rfl;exact hH;(repeat constructor))|(apply yP;rfl;rfl;exact hH;(repeat constructor);rfl;rfl;rfl))
  exact k.out):G:=h ⟨k⟩
theorem DSK {G G':Prop} (k:G') (h:Wr G'→G:=by
  intro k
  apply kI hA rfl rfl rfl (by decide) STT
  exact k.out):G:=h ⟨k⟩
theorem DLT {G G':Prop} (k:G') (h:Wr G'→G:=by
  intro k
  apply yO hA rfl rfl rfl (by decide)
  apply zZ
  rfl
  rfl
  exact CATST
  rfl
  rfl
  rfl
  exact hH
  exact k.out):G:=h ⟨k⟩
theorem PMT {l r:List It} (h:l.Perm r:=by repeat (first|exact List.Perm.refl _|exact List.Perm.nil|refine wV 0 rfl ?_|refine wV 1 rfl ?_|refine wV 2 rfl ?_|refine wV 3 rfl ?_|refine wV 4 rfl ?_|refine wV 5 rfl ?_|refine wV 6 rfl ?_|refine wV 7 rfl ?_|refine wV 8 rfl ?_|refine wV 9 rfl ?_|refine wV 10 rfl ?_|refine wV 11 rfl ?_)):l.Perm r:=h
theorem SBT {l r:List (Nat × Value)} (h:Subs l r:=by (repeat (first|exact trivial|refine ⟨rfl,?_⟩));first|done|fail "sub"):Subs l r:=h
theorem XE {E K:Value→Prop} {v:Value} (e:E v) (k:K v):∃v,E v∧K v:=⟨v,e,k⟩
theorem XT {G:Prop} {E K:Value→Prop} (x:∃v,E v∧K v) (h:∀v,E v→K v→G:=by intro v e k;first|exact mM (v:=v) hA hH rfl rfl (by decide) e k|exact fX (v:=v) hA rfl rfl rfl (by decide) e k|exact kK (v:=v) hA rfl rfl rfl (by decide) e k|exact kL (v:=v) hA hH rfl rfl rfl (by decide) e k):G:=let ⟨v,e,k⟩:=x;h v e k
theorem dTr {p:Prop} [Decidable p] (h:decide p=true):p:=of_decide_eq_true h
theorem dFa {p:Prop} [Decidable p] (h:decide p=false):¬p:=of_decide_eq_false h
theorem ENT {P:Program} {N:Nat} {w:World} {l:List (Nat × Value)} {k:FuncId} {fn:Func} {c:Code} {args:List Value} {R:Value→World→Prop} (hf:P.funcs[k]?=some fn) (hn:fn.ntmps=N) (h:∀a,Sl N l a→c.wp P (bodyPost P fn fun e w'=>∃v,e= .returned v∧R v w') a w) (hb:fn.body=some c:=by rfl) (hle0:Nat.ble args.length N=true:=by rfl) (hl:sl0 0 args=l:=by dsimp only [sl0,Nat.reduceAdd]<;>exact rfl):Ret P k args.toArray w R:=enter hf hb hn hle0 fun a hA=>h a (hl▸hA)
theorem SAT {P:Program} {N:Nat} {l:List (Nat × Value)} {a:Act} {Ds:List Deferred} {w0 w:World} {M:Nat→Prop} {H H':List It} {ops:Array Oper} {rest:List Oper} {Q:Exit→Act→World→Prop} {T:TypeId} {pos:String} {af:Array Edge} {g:Option (Nat × Bool)} {t sz by_ b Tb:Nat} {z:Value} {zs cs:List Value} {x y:Operand} [hi:TIf P t z zs sz by_] (vs:List Value) (hA:Sl N l a Ds) (hH:HS w0 M H w) (k:∀w,HS w0 M H' w→wpList P ops Q rest a w)
    (hg:gd ops l g=some true:=by rfl) (hx:ev l x=some (.pointer (some (bat b 0))):=by rfl) (hy:ev l y=some (.agg vs.toArray):=by rfl) (hr:Rp H (cb b Tb cs) (cb b Tb vs) H':=by repeat constructor) (hl:vs.length=sz:=by rfl) (hl2:cs.length=sz:=by rfl) (h1:vs.all (·.oneCell')=true:=by rfl):wpList P ops Q (⟨none,.store t x y,T,pos,af,g⟩::rest) a w:=
  zO hA hg rfl (yP hx hy hH hr hl hl2 h1) fun _ w' h=>k w' h
theorem FLT {P:Program} {fl:List (Nat × Nat)} (h:∀p∈fl,∃i,P.info? p.1=some i∧i.size=1:=by (repeat (first|(intro _ h;exact absurd h (List.not_mem_nil))|(refine List.forall_mem_cons.2 ⟨kS _ _,?_⟩)))):∀p∈fl,∃i,P.info? p.1=some i∧i.size=1:=h
inductive Pl where
  |nil
  |q (i:Nat) (t:Pl)
  |one (i:Nat) (t:Pl)
  |two (i j:Nat) (t u:Pl)
def Pl.len:Pl→Nat
  | .nil=>0
  | .q _ t=>t.len+1
  | .one _ t=>t.len+1
  | .two _ _ t _=>t.len+1
def qs:List Nat→Pl→Pl
  | [],t=>t
  |i::l,t=>.q i (qs l t)
def okT (ops:Array Oper):Pl→Array Bool→Bool
  | .nil,listed=>decide (Region.ready .any ops listed=[])
  | .q i t,listed=>(Region.ready .any ops listed).contains i && Region.free .any ops listed i && okT ops t (listed.setIfInBounds i true)
  | .one i t,listed=>decide (Region.ready .any ops listed=[i]) && okT ops t (listed.setIfInBounds i true)
  | .two i j t u,listed=>Nat.beq t.len u.len && decide (Region.ready .any ops listed=[i,j]) && okT ops t (listed.setIfInBounds i true) && okT ops u (listed.setIfInBounds j true)
def wkT (P:Program) (ops:Array Oper) (S:World→Prop) (Q:Exit→Act→World→Prop) (K:Act→World→Prop):Pl→Act→World→Prop
  | .nil,a,w=>K a w
  | .q i t,a,w=>∃o v,ops[i]?=some o∧YieldsIf P ops S o v a∧wkT P ops S Q K t (a.put o.dst v) w
  | .one i t,a,w=>wpOp P ops (NoPanic Q) i (fun a' w'=>S w'∧wkT P ops S Q K t a' w') a w
  | .two i j t u,a,w=>wpOp P ops (NoPanic Q) i (fun a' w'=>S w'∧wkT P ops S Q K t a' w') a w∧wpOp P ops (NoPanic Q) j (fun a' w'=>S w'∧wkT P ops S Q K u a' w') a w
section
variable {P:Program} {ops:Array Oper} {S:World→Prop} {Q:Exit→Act→World→Prop} {K:Act→World→Prop}
theorem mI (hs:Region.noSelect ops=true) (hK:∀a w,K a w→Q .normal a w):∀(t:Pl) (listed:Array Bool) (a:Act) (w:World),
    okT ops t listed=true→S w→wkT P ops S Q K t a w→wpAnyK P .any ops (NoPanic Q) S (fun _=>true) t.len listed a w
  | .nil,listed,a,w,hok,hS,h=>⟨of_decide_eq_true hok,hK a w h⟩
  | .q i t,listed,a,w,hok,hS,h=>by
    simp only [okT,Bool.and_eq_true] at hok
    obtain ⟨⟨hr,hf⟩,hok'⟩:=hok
    obtain ⟨o,v,hi,hy,hk⟩:=h
    exact wpAnyK.first hi (Region.noSelect_spec hs) (fun c a w h=>h) _ listed a w (fun j hF=>by cases hF) (Region.free_spec hi hf) (by simpa using hr) hy hS (mI hs hK t _ _ w hok' hS hk)
  | .one i t,listed,a,w,hok,hS,h=>by
    simp only [okT,Bool.and_eq_true,decide_eq_true_eq] at hok
    refine ⟨fun h0=>(by rw [hok.1] at h0;cases h0),fun j hj=>?_⟩
    rw [hok.1] at hj
    obtain rfl:j=i:=by simpa using hj
    exact wpOp_mono (fun a' w' ⟨hS',h'⟩=>⟨fun _ _=>hS',mI hs hK t _ a' w' hok.2 hS' h'⟩) h
  | .two i k t u,listed,a,w,hok,hS,h=>by
    simp only [okT,Bool.and_eq_true,decide_eq_true_eq] at hok
    obtain ⟨⟨⟨hl,hr⟩,ht⟩,hu⟩:=hok
    have hl:=Nat.eq_of_beq_eq_true hl
    refine ⟨fun h0=>(by rw [hr] at h0;cases h0),fun j hj=>?_⟩
    rw [hr] at hj
    rcases (by simpa using hj:j=i∨j=k) with rfl|rfl
    · exact wpOp_mono (fun a' w' ⟨hS',h'⟩=>⟨fun _ _=>hS',mI hs hK t _ a' w' ht hS' h'⟩) h.1
    · exact wpOp_mono (fun a' w' ⟨hS',h'⟩=>⟨fun _ _=>hS',by rw [hl];exact mI hs hK u _ a' w' hu hS' h'⟩) h.2
end
theorem mH {P:Program} {id:Nat} {ops:List Oper} {Q:Exit→Act→World→Prop} {a:Act} {w0 w:World} {M:Nat→Prop} {H:List It} (t:Pl) (R:Act→World→Prop) (hm:P.follows .mixedOrders=true)
    (hok:(Region.noSelect ops.toArray && Nat.beq t.len ops.length && okT ops.toArray t (Array.replicate ops.length false))=true) (hH:HS w0 M H w)
    (h:wkT P ops.toArray (HS w0 M H) Q R t a w.drew) (k:∀a w,R a w→Q .normal a w):(Code.region id ops.toArray true).wp P Q a w:=by
  simp only [Bool.and_eq_true] at hok
  obtain ⟨⟨hs,hl⟩,hok⟩:=hok
  have hl':t.len=ops.toArray.size:=by simpa using Nat.eq_of_beq_eq_true hl
  have:=mI (P:=P) (Q:=Q) hs k t _ a w.drew hok hH.drew h
  rw [hl'] at this
  refine wp_region_noPanic (wp_region_any hm (wpAnyK.any (S:=HS w0 M H) (F:=fun _=>true) _ _ _ _ ?_))
  simpa using this
section
variable {P:Program} {N:Nat} {l:List (Nat × Value)} {a:Act} {Ds:List Deferred} {w:World} {ops:Array Oper} {S:World→Prop} {Q:Exit→Act→World→Prop} {K:Act→World→Prop} {i j:Nat} {t u:Pl}
theorem sK (h:K a w):wkT P ops S Q K .nil a w:=h
theorem tI {o:Oper} {d:Nat} {v:Value} (hA:Sl N l a Ds) (hi:ops[i]?=some o) (hg:gd ops l o.guard=some true) (hd:o.dst=some d) (hdN:d<N)
    (h:Ex P N l S o v) (k':∀a',Sl N ((d,v)::l) a' Ds→wkT P ops S Q K t a' w):wkT P ops S Q K (.q i t) a w:=by
  refine ⟨o,v,hi,.inl ⟨hA.gd hg,fun w' hS=>h a w' hA.toSl0 hS⟩,?_⟩
  rw [hd]
  exact k' _ (hA.put hdN v)
theorem xY {o:Oper} {d:Nat} {R:Value→World→Prop} (hA:Sl N l a Ds) (hi:ops[i]?=some o) (hg:gd ops l o.guard=some true) (hd:o.dst=some d) (hdN:d<N)
    (h:Op1 P N l o w R) (k:∀v w',R v w'→S w'∧∀a',Sl N ((d,v)::l) a' Ds→wkT P ops S Q K t a' w'):wkT P ops S Q K (.one i t) a w:=by
  unfold wkT wpOp
  simp only [hi,hA.gd hg,if_true]
  refine .inl (h a hA.toSl0 _ _ fun v w' hR=>?_)
  rw [hd]
  exact ⟨(k v w' hR).1,(k v w' hR).2 _ (hA.put hdN v)⟩
theorem tH {o:Oper} {R:Value→World→Prop} (hA:Sl N l a Ds) (hi:ops[i]?=some o) (hg:gd ops l o.guard=some true) (hd:o.dst=none)
    (h:Op1 P N l o w R) (k:∀v w',R v w'→S w'∧wkT P ops S Q K t a w'):wkT P ops S Q K (.one i t) a w:=by
  unfold wkT wpOp
  simp only [hi,hA.gd hg,if_true]
  refine .inl (h a hA.toSl0 _ _ fun v w' hR=>?_)
  rw [hd]
  exact k v w' hR
theorem pT (h1:wkT P ops S Q K (.one i t) a w) (h2:wkT P ops S Q K (.one j u) a w):wkT P ops S Q K (.two i j t u) a w:=⟨h1,h2⟩
end
def bts (s:ByteArray):List Nat:=s.data.toList.map (·.toNat)
theorem vM (s:ByteArray):(bts s).length=s.size:=by simp [bts]
theorem bts_lt (s:ByteArray):∀b∈bts s,b<256:=fun b hb=>by
  obtain ⟨x,_,rfl⟩:=List.mem_map.1 hb
  exact x.toNat_lt
def ofB (ns:List Nat):ByteArray:=⟨(ns.map UInt8.ofNat).toArray⟩
def zV (n:Nat):List Value:=[.int .u8 (n:Int)]
theorem pR (n:Nat):(zV n).length=1:=rfl
section
variable {P:Program} {N:Nat} {l:List (Nat × Value)} {C:World→Prop} {d:Option Tmp} {T:TypeId} {pos:String} {af:Array Edge} {g:Option (Nat × Bool)}
theorem uT {t:TypeId} {x:Operand} {s:ByteArray} [ht:TSr P t] (hx:ev l x=some (.string s)) :
    Ex P N l C ⟨d,.call ⟨.builtin .len,#[x],#[t]⟩,T,pos,af,g⟩ (.int .i64 (bts s).length):=by
  intro a w hA _
  rw [vM]
  simp [execOp,resolve,invoke,builtin,Builtin.len_,hA.ev hx,run_underlying ht.eq,goInt]
theorem vO {t:TypeId} {x y:Operand} {s:ByteArray} {k:IntKind} {i:Int} {j b:Nat} [ht:TSr P t] (hx:ev l x=some (.string s)) (hy:ev l y=some (.int k i)) (hi:i=(j:Int)) (hb:(bts s)[j]?=some b) :
    Ex P N l C ⟨d,.index t x y,T,pos,af,g⟩ (.int .u8 (b:Int)):=by
  intro a w hA _
  subst hi
  obtain ⟨hj,he⟩:=List.getElem?_eq_some_iff.1 hb
  rw [vM] at hj
  simp only [execOp,hA.ev hx,hA.ev hy,Sem.run_bind]
  rw [run_index_string w t s k j ht.eq,dif_pos ⟨by omega,by omega⟩]
  subst he
  simp [bts]
  rfl
theorem nG {t ty:TypeId} {x y:Operand} {m n:ByteArray} [h:TSr P t] (hx:ev l x=some (.string m)) (hy:ev l y=some (.string n)):Ex P N l C ⟨d,.binOp .neq t x y ty,T,pos,af,g⟩ (.bool (!(m.toList == n.toList))):=by
  intro a w hA _
  simp [execOp,hA.ev hx,hA.ev hy,eqGuard_at_string,binOp,Op.stringOp]
theorem rP {t ty:TypeId} {x y:Operand} {m n:ByteArray} [h:TSr P t] (hx:ev l x=some (.string m)) (hy:ev l y=some (.string n)):Ex P N l C ⟨d,.binOp .eql t x y ty,T,pos,af,g⟩ (.bool (m.toList == n.toList)):=by
  intro a w hA _
  simp [execOp,hA.ev hx,hA.ev hy,eqGuard_at_string,binOp,Op.stringOp]
theorem push_ofB (l:List Nat):∀(s:ByteArray),((l.map fun (b:Nat)=>(b:Int)).foldl (fun r n=>r.push (UInt8.ofNat n.toNat)) s)=⟨s.data++(l.map UInt8.ofNat).toArray⟩:=by
  induction l with
  |nil=>intro s;simp
  | cons b l ih=>
    intro s
    rw [List.map_cons,List.foldl_cons,ih]
    simp [ByteArray.push]
theorem flatY (l:List Nat):flat zV l=(l.map fun (b:Nat)=>(b:Int)).map (Value.int .u8):=by
  induction l with
  |nil=>rfl
  | cons b l ih=>
    show zV b++flat zV l=_
    rw [ih]
    rfl
theorem fF {src e dst:TypeId} {x:Operand} {o:Option Addr} {n c:Nat} {l':List Nat} [hs:TSl P src e] [he:TIn P e .u8] [hd:TSr P dst] (hx:ev l x=some (.slice o n c)) (hn:l'.length=n) (hr:∀w,C w→Rd w o (flat zV l')) :
    Ex P N l C ⟨d,.convert src dst x,T,pos,af,g⟩ (.string (ofB l')):=by
  intro a w hA hC
  subst hn
  simp only [execOp,hA.ev hx,Sem.run_bind]
  rw [run_convert_bytes_string w src dst e o _ c hs.eq he.eq hd.eq]
  have h:=hr w hC
  have hfl:(flat zV l').length=l'.length:=by rw [flatY];simp
  cases o with
  | none=>
    have:l'=[]:=by
      cases l' with
      |nil=>rfl
      | cons b l'=>
        obtain ⟨_,_,h2⟩:=h.1 (by rw [hfl];simp)
        cases h2
    subst this
    simp [Conv.bytesToString,ofB]
    rfl
  | some a0=>
    by_cases h0:l'=[]
    · subst h0
      have hl:=run_loadCells_list (P:=P) (w:=w) a0 [] (fun j v hj=>by simp at hj)
      rw [run_bytesToString w a0 _ c [] (by simpa using hl)]
      rfl
    · obtain ⟨b,off,h2⟩:=h.1 (by rw [hfl];exact List.length_pos_iff.2 h0)
      obtain rfl:a0=⟨b,off,none⟩:=by simpa using h2
      have hl:=run_loadCells_list (P:=P) (w:=w) ⟨b,off,none⟩ (flat zV l') (fun j v hj=>by
        have:=h.2 j v hj
        have e:(⟨b,off,none⟩:Addr).add j=sat (some ⟨b,off,none⟩) j:=by
          unfold Addr.add sat mF gM
          split<;>simp_all
        rw [e]
        exact this)
      rw [hfl,flatY] at hl
      rw [run_bytesToString w ⟨b,off,none⟩ _ c _ hl,push_ofB]
      simp [ofB]
theorem bytes_kp (w:World) (e:TypeId) (s:ByteArray):Kp w noM (Lib.bytesWorld w e s) where
  os:=by unfold Lib.bytesWorld World.freeze;split<;>rfl
  tape:=by unfold Lib.bytesWorld World.freeze;split<;>rfl
  output:=by unfold Lib.bytesWorld World.freeze;split<;>rfl
  size:=by rw [Lib.bytesWorld_size];omega
  block:=fun b hb _=>Lib.bytesWorld_at_old w e s b hb
def byI (b:Nat) (s:ByteArray):It:=exI fun (o:Obj)=>facI (∀w:World,w.heap[b]?=some o→Rd w (some (bat b 0)) (flat zV (bts s))) (blk b o)
theorem by_rd {w0 w:World} {M:Nat→Prop} {H:List It} {b:Nat} {s:ByteArray} (hH:HS w0 M H w) (hm:byI b s∈H):Rd w (some (bat b 0)) (flat zV (bts s)):=by
  obtain ⟨o,h1⟩:=(hH.pick hm).exI_open
  obtain ⟨h2,h3⟩:=h1.facI_open
  obtain ⟨F,h4,h5⟩:=h3.sat (List.mem_cons_self ..)
  exact h2 w h5
theorem op_toBytes {src e dst:TypeId} {x:Operand} {s:ByteArray} {w0 w:World} {M:Nat→Prop} {H:List It} [hs:TSr P src] [hd:TSl P dst e] [he:TIn P e .u8] (hx:ev l x=some (.string s)) (hH:HS w0 M H w) :
    Op1 P N l ⟨d,.convert src dst x,T,pos,af,g⟩ w (fun v w'=>∃b c,v= .slice (some (bat b 0)) (bts s).length c∧HS w0 M (byI b s::H) w'):=by
  intro a hA K Q hK
  unfold Oper.wp
  simp only [execOp,hA.ev hx,Sem.run_bind]
  rw [Lib.run_convert_string_bytes w src dst e s hs.eq hd.eq he.eq]
  simp only [Result.andThen_ok,Sem.run_pure,Oper.upon]
  refine hK _ _ ⟨w.heap.size,_,by rw [vM];rfl,HS.exI_shut _ (HS.facI_shut (fun w' hw'=>?_) (hH.come (it:=blk w.heap.size _) (bytes_kp w e s) (F':=fun x=>x=w.heap.size) ⟨fun x=>Iff.rfl,Lib.bytesWorld_at_new w e s⟩ fun b hb=>by omega))⟩
  refine ⟨fun _=>⟨_,_,rfl⟩,fun j u hj=>?_⟩
  rw [flatY] at hj
  have hjl:=(List.getElem?_eq_some_iff.1 hj).1
  simp [bts] at hjl
  have h1:=Lib.bytesWorld_cell w e s j hjl
  have e2:sat (some (bat w.heap.size 0)) j=⟨w.heap.size,j,none⟩:=by simp [sat,mF,gM,bat]
  have e3:w'.cell? ⟨w.heap.size,j,none⟩=(Lib.bytesWorld w e s).cell? ⟨w.heap.size,j,none⟩:=World.cell?_of_block (hw'.trans (Lib.bytesWorld_at_new w e s).symm)
  rw [e2,e3,h1,←hj]
  simp [bts,List.getD,hjl]
theorem ex_min {ats:Array TypeId} {x y:Operand} {k k':IntKind} {m n:Int} (hx:ev l x=some (.int k m)) (hy:ev l y=some (.int k' n)):Ex P N l C ⟨d,.call ⟨.builtin .min,#[x,y],ats⟩,T,pos,af,g⟩ (.int k (if n<m then n else m)):=by
  intro a w hA _
  simp [execOp,resolve,invoke,builtin,hA.ev hx,hA.ev hy,run_min_int2]
end
def lateN (n:Nat) (ops:Array Oper) (π2:List Nat) (listed:Array Bool) (i:Nat):Bool:=
  π2.all fun j=>beh ops listed i n j
def okM (n:Nat) (ops:Array Oper) (π2:List Nat):List (Nat × Nat)→Array Bool→Bool
  | [],listed=>okL ops π2 listed
  |(i,0)::π,listed=>decide (Region.ready .any ops listed=[i]) && okM n ops π2 π (listed.setIfInBounds i true)
  |(i,1)::π,listed=>(Region.ready .any ops listed).contains i && Region.free .any ops listed i && lateN n ops π2 listed i && okM n ops π2 π (listed.setIfInBounds i true)
  |(i,_+2)::π,listed=>(Region.ready .any ops listed).contains i && Region.free .any ops listed i && okM n ops π2 π (listed.setIfInBounds i true)
theorem lateN_spec {n:Nat} {ops:Array Oper} {π2:List Nat} {listed:Array Bool} {i:Nat} (h:lateN n ops π2 listed i=true):∀j,(!π2.contains j)=false→Rch .any ops listed i j:=by
  intro j hc
  have hm:j∈π2:=by simpa using hc
  exact eI n j (List.all_eq_true.1 h j hm)
theorem oQ {n:Nat} {P:Program} {ops:Array Oper} {S:World→Prop} {Q:Exit→Act→World→Prop} (hs:Region.noSelect ops=true) (π2:List Nat):∀(π:List (Nat × Nat)) (listed:Array Bool) (a:Act) (w:World),
    okM n ops π2 π listed=true→S w→wkD P ops S Q π2 π a w→wpAnyK P .any ops (NoPanic Q) S (fun j=>!π2.contains j) (π.length+π2.length) listed a w
  | [],listed,a,w,hok,hS,h=>by
    have:=jM (S:=S) (F:=fun j=>!π2.contains j) π2 listed a w (fun i hi=>by simpa using hi) hok h
    simpa using this
  | (i,1)::π,listed,a,w,hok,hS,h=>by
    simp only [okM,Bool.and_eq_true] at hok
    obtain ⟨⟨⟨hr,hf⟩,hl⟩,hok'⟩:=hok
    obtain ⟨o,v,hi,hy,hk⟩:=h
    have:=oQ hs π2 π _ _ w hok' hS hk
    have e:((i,1)::π).length+π2.length=(π.length+π2.length)+1:=by simp;omega
    rw [e]
    exact wpAnyK.first hi (Region.noSelect_spec hs) (fun c a w h=>h) _ listed a w (lateN_spec hl) (Region.free_spec hi hf) (by simpa using hr) hy hS this
  | (i,k+2)::π,listed,a,w,hok,hS,h=>by
    simp only [okM,Bool.and_eq_true] at hok
    obtain ⟨⟨hr,hf⟩,hok'⟩:=hok
    obtain ⟨o,v,hi,hy,hk⟩:=h
    have:=oQ hs π2 π _ _ w hok' hS hk
    have e:((i,k+2)::π).length+π2.length=(π.length+π2.length)+1:=by simp;omega
    rw [e]
    exact wpAnyK.firstp hi (Region.noSelect_spec hs) (fun c a w h=>h) _ listed a w (Region.free_spec hi hf) (by simpa using hr) hy this
  | (i,0)::π,listed,a,w,hok,hS,h=>by
    simp only [okM,Bool.and_eq_true,decide_eq_true_eq] at hok
    have e:((i,0)::π).length+π2.length=(π.length+π2.length)+1:=by simp;omega
    rw [e]
    refine ⟨fun h0=>(by rw [hok.1] at h0;cases h0),fun j hj=>?_⟩
    rw [hok.1] at hj
    obtain rfl:j=i:=by simpa using hj
    exact wpOp_mono (fun a' w' ⟨hS',h'⟩=>⟨fun _ _=>hS',oQ hs π2 π _ a' w' hok.2 hS' h'⟩) h
theorem pB (n:Nat) {P:Program} {id:Nat} {ops:List Oper} {Q:Exit→Act→World→Prop} {a:Act} {w0 w:World} {M:Nat→Prop} {H:List It} (π:List (Nat × Nat)) (π2:List Nat) (hm:P.follows .mixedOrders=true)
    (hok:(Region.noSelect ops.toArray && Nat.beq (π.length+π2.length) ops.length && okM n ops.toArray π2 π (Array.replicate ops.length false))=true) (hH:HS w0 M H w) (h:wkD P ops.toArray (HS w0 M H) Q π2 π a w.drew):(Code.region id ops.toArray true).wp P Q a w:=by
  simp only [Bool.and_eq_true] at hok
  obtain ⟨⟨hs,hl⟩,hok⟩:=hok
  have hl':π.length+π2.length=ops.toArray.size:=by simpa using Nat.eq_of_beq_eq_true hl
  have:=oQ hs π2 π (Array.replicate ops.length false) a w.drew hok hH.drew h
  rw [hl'] at this
  refine wp_region_noPanic (wp_region_any hm (wpAnyK.any (S:=HS w0 M H) (F:=fun j=>!π2.contains j) _ _ _ _ ?_))
  simpa using this
theorem rt2c {P:Program} {N:Nat} {l:List (Nat × Value)} {a:Act} {w:World} {C:World→Prop} {fn:Func} {R:Value→World→Prop} {p u:Tmp} {ty sz by_:Nat} {z:Value} {zs:List Value} {fl:List (Nat × Nat)} {q:Addr} {vs:List Value} {v2:Value} {e:Exit} [h0:TSt P ty fl] [hi:TIf P ty z zs sz by_] (he:e= .ret∨e= .normal) (hr:fn.results=#[.cell p ty,.tmp u]) (hA:Sl N l a)
    (hp:lk l p=some (.pointer (some q))) (hv2:lk l u=some v2) (hl:vs.length=sz) (hC:C w) (hc:Cls C q vs) (h:R (.tuple #[.agg vs.toArray,v2]) w):bodyPost P fn (fun e w'=>∃v,e= .returned v∧R v w') e a w:=by
  have hg:a.tmps.getD p undef= .pointer (some q):=by simp [Array.getD_eq_getD_getElem?,hA.get p _ hp]
  have hg2:a.tmps.getD u undef=v2:=by simp [Array.getD_eq_getD_getElem?,hA.get u v2 hv2]
  obtain ⟨ti,h3,h4,h5,h6⟩:=hi.eq
  have hrun:(results fn a.tmps).run P w= .ok (.tuple #[.agg vs.toArray,v2]) w:=by
    rw [results_cell_tmp hr,hg,hg2]
    simp [asAddr,loadVar,sO,sizeOf,typeInfo,h3,h5,←hl,run_loadCells_list w q vs (hc w hC),Result.andThen]
  rcases he with rfl|rfl
  · exact bodyPost_ret hrun hA.defers ⟨_,rfl,h⟩
  · exact bodyPost_end hrun hA.defers ⟨_,rfl,h⟩
def fzI (K:World→Prop):It where
  sat w F:=(∀b,F b→b<w.heap.size)∧∀w':World,(∀b,F b→w'.heap[b]?=w.heap[b]?)→K w'
  loc:=fun {w w' F} ⟨h1,h2⟩ he=>⟨fun b hb=>by
    have h3:=he b hb
    rw [Array.getElem?_eq_getElem (h1 b hb)] at h3
    exact tQ h3,fun w2 h3=>h2 w2 fun b hb=>(h3 b hb).trans (he b hb)⟩
  lt:=fun ⟨h1,_⟩ b hb=>h1 b hb
  ext:=fun ⟨h1,h2⟩ he=>⟨fun b hb=>h1 b ((he b).2 hb),fun w' h3=>h2 w' fun b hb=>h3 b ((he b).1 hb)⟩
section
variable {w0 w w':World} {M:Nat→Prop} {H L:List It} {K K1 K2:World→Prop}
theorem fz_sat {F:Nat→Prop} (h:(fzI K).sat w F):K w:=h.2 w fun _ _=>rfl
theorem HS.fz (h:HS w0 M H w) (hm:fzI K∈H):K w:=
  let ⟨_,hF⟩:=h.sat hm
  fz_sat hF
end
open Go Go.ChangeShapes Go.WideShapes Go.ChangeAt Go.RowKit
section
variable {H:Type} {enc:TypeId × Value→H}
end
section
variable {P:Program} {a:Act} {w:World} {Q Q':Exit→Act→World→Prop} {K K':Act→World→Prop} {l n:Nat}
end

theorem HS.put {w0 w:World} {M:Nat→Prop} {H:List It} {b:Nat} {o o':Obj} (h:HS w0 M (blk b o::H) w):HS w0 M (blk b o'::H) (w.putObj b o'):=by
  refine h.turn .here fun F ⟨h1,h2⟩=>⟨⟨rfl,rfl,rfl,by simp [World.putObj],fun i hi hn=>?_⟩,F,⟨h1,World.putObj_heap_same (tQ h2)⟩,fun b hb=>.inr hb⟩
  exact World.putObj_heap_other fun e=>hn (e▸(h1 b).2 rfl)
theorem HS.blk_at {w0 w:World} {M:Nat→Prop} {H:List It} {b:Nat} {o:Obj} (h:HS w0 M H w) (hm:blk b o∈H):w.heap[b]?=some o:=by
  obtain ⟨F,_,h2⟩:=h.sat hm
  exact h2
section
variable {P:Program} {N:Nat} {w:World}
end
section
variable {P:Program} {N:Nat} {l:List (Nat × Value)} {a:Act} {Ds:List Deferred} {w:World} {ops:Array Oper} {rest:List Oper} {Q:Exit→Act→World→Prop} {d:Nat} {T:TypeId} {pos:String} {af:Array Edge}
end
end Go.Fw
